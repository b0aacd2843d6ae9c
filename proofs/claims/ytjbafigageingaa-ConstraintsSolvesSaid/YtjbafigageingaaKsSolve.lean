import Derived.Test.YtjbafigageingaaKsM3
import Derived.Test.YtjbafigageingaaKsChain
namespace Go.Proofs.Ytjbafigageingaa
open Go.RowKit Go.Maps Go.Proofs.YtjbafigageingaaW.PrintWords Go.Proofs.YtjbafigageingaaW.PrintLast Go.Proofs.YtjbafigageingaaW.PrintMore
set_option linter.unusedVariables false
set_option linter.unusedSimpArgs false
def SolvePost (w : World) (r : List S23 × List (List Int) × Int) (e : Ending) (w' : World) : Prop :=
 ∃ vo vc, e = .returned (.tuple #[vo, vc, .int .i64 r.2.2]) ∧ Kd.R k23 23 w' w.heap.size T1 vo r.1 ∧ Kd.R (Kd.slice 3 (Kd.int .i64)) 33 w' w.heap.size T1 vc r.2.1 ∧ Below w.heap.size w w'
def solveRest (n : Nat) (L : List S36) (k : Nat) : Option (EE × MM) → Option (List S23 × List (List Int) × Int)
 | none => some ([], [], 1)
 | some p => (outerF p.1 L p.2 k n 0 (List.replicate n z23) [] (List.replicate n false)).map fun q => (q.1, q.2, 0)
theorem PhA.start (w w2 : World) (n c2 : Nat) (lv : Value) (A2 : Option Addr) (hS : (Kd.slice 55 k55).S 53 w2 w.heap.size T1 (.slice A2 n c2) (List.replicate n [])) (hB : Below w.heap.size w w2) (hV : w2.heap[w.heap.size]? = some (.cells #[.int .i64 (n : Int)] 3)) :
  PhA w w.heap.size (w2.heap.size + 1) (w2.heap.size + 2) w2.heap.size lv A2 c2 0 n (List.replicate n []) (fun _ => []) (fun _ => none) ((w2.alloc (.map #[] 0)).alloc (.cells #[lv, .slice A2 n c2, .map (some w2.heap.size)] 52)) := by
 have h1 := below_alloc (Below.refl w2.heap.size w2) (.map #[] 0)
 have h2 := below_alloc h1 (.cells #[lv, .slice A2 n c2, .map (some w2.heap.size)] 52)
 have hs := hB.size
 have hlt := blk_lt hV
 refine ⟨below_step hB h2, blk_below hV h2, ?_, Kd.S_below hS h2, ⟨(MapK.made Try.prog 3 litI w2).below (below_alloc (Below.refl _ _) _), fun v => Kd.R_nil _ _ _ _ _, fun u v k _ hk => by simp [Value.ownBlock] at hk⟩, by simp, fun j => ?_, fun v => Nat.le_refl _, ?_⟩
 ·
  have := heap_alloc_new (w2.alloc (.map #[] 0)) (.cells #[lv, .slice A2 n c2, .map (some w2.heap.size)] 52)
  simpa using this
 ·
  simp only [List.getD_eq_getElem?_getD, List.getElem?_replicate]
  split <;> simp
 ·
  simp
  omega
theorem snoc_len {E : EE} {m : Nat} (h : ∀ q, (E.getD q []).length ≤ m) (a : Int) (x : S55) : (rdE E a ++ [x]).length ≤ m + 1 := by
 have := h a.toNat
 rw [List.length_append]
 unfold rdE
 simpa using this
theorem below_grown0 {w w1 : World} (h : w.grownBy w1 none) : Below w.heap.size w w1 := ⟨h.os, h.tape, h.output, h.size, fun k hk => h.block k hk (by simp)⟩
theorem Ph2.start {W0 w5 w6 : World} {n : Nat} {vo vs : Value} (hO : Kd.R k23 23 w5 W0.heap.size T1 vo (List.replicate (n : Int).toNat z23)) (hg : w5.grownBy w6 none) (hS : Kd.R Kd.bool 4 w6 W0.heap.size T1 vs (List.replicate (n : Int).toNat false)) (hB : Below W0.heap.size W0 w6) :
  Ph2 W0 n vo vs nilV (List.replicate n z23) [] (List.replicate n false) w6 := by
 rw [Int.toNat_natCast] at hO hS
 exact ⟨hB, Kd.R_below hO (below_grown0 hg), hS, Kd.R_nil _ _ _ _ _, by simp, by simp⟩
theorem info23s : (Try.prog.info? 23).map (·.size) = some 3 := by kernel_rfl
theorem one23 (t : S23) : ∀ q ∈ [Value.int .i64 t.f0, .int .i64 t.f1, .string t.f2], q.oneCell' = true := by
 intro q hq
 simp only [List.mem_cons, List.not_mem_nil, or_false] at hq
 rcases hq with rfl | rfl | rfl <;> rfl
theorem put23 {W : World} {base : Nat} {c : List Value} (h : c.length = 3) (t : S23) : k23.M W base (fun _ => False) t (c.take 0 ++ [Value.int .i64 t.f0, .int .i64 t.f1, .string t.f2] ++ c.drop (0 + 3)) := by
 rw [List.take_zero, List.nil_append, List.drop_eq_nil_of_le (by omega), List.append_nil]
 exact k23_mkM _ _ _ _
attribute [local go_sem high] eqlnil1 eqlnil0 neqnil1 neqnil0
set_option maxRecDepth 100000 in
set_option maxHeartbeats 20000000 in
theorem solve_calls (N : Int) (Al : Option Addr) (cl : Nat) (L : List S36) (k : Nat) (w : World) (r : List S23 × List (List Int) × Int)
  (hL : Kd.C k36 w Al L.length L) (hLl : L.length ≤ 1000000) (h : solveF N L k = some r) :
  Calls Try.prog 12 #[.int .i64 N, .slice Al L.length cl] w (SolvePost w r) := by
 have HL := Aside0.mk hL
 clear hL
 by_cases hN : N < 0 ∨ 4096 < N
 ·
  unfold solveF at h
  rw [if_pos hN] at h
  injection h with h
  subst h
  have hpost : ∀ w', Below w.heap.size w w' → SolvePost w ([], [], 2) (.returned (.tuple #[nilV, nilV, .int .i64 2])) w' := fun w' hb => ⟨_, _, rfl, Kd.R_nil _ _ _ _ _, Kd.R_nil _ _ _ _ _, hb⟩
  rcases (show N < 0 ∨ (0 ≤ N ∧ 4096 < N) from by omega) with h1 | ⟨h1, h2⟩
  all_goals
   clear hN
   go_enter Try.func12, Try.ntmps12
   go_wp2
   go_ret3
   exact hpost _ (below_alloc (Below.refl _ _) _)
 ·
  have hN0 : 0 ≤ N := by omega
  have hN1 : N ≤ 4096 := by omega
  obtain ⟨n, rfl⟩ := Int.eq_ofNat_of_zero_le hN0
  have h : solveRest n L k (buildF n L 0 (List.replicate n []) (fun _ => [])) = some r := by
   unfold solveF at h
   rw [if_neg hN] at h
   exact h
  clear hN
  have H := Aside0.mk h
  clear h
  have hn : n ≤ 4096 := by omega
  go_enter Try.func12, Try.ntmps12
  go_upto_region 4 with (fail)
  obtain ⟨w1, hW, hb1, hv1⟩ : ∃ w1 : World, w.alloc (.cells #[.int .i64 n] 3) = w1 ∧ Below w.heap.size w w1 ∧ w1.heap[w.heap.size]? = some (.cells #[.int .i64 n] 3 (0, 0)) := ⟨_, rfl, below_alloc (Below.refl _ _) _, heap_alloc_new _ _⟩
  rw [hW]
  have x0 : w1.cell? ⟨w.heap.size, 0, none⟩ = some (.int .i64 n) := by rw [blk_cell hv1]; rfl
  have HB1 := Aside0.mk hb1
  have HV1 := Aside0.mk hv1
  clear hW hb1 hv1
  have hmm := @run_makeMap Try.prog
  go_upto_region 5 with ((with_reducible refine gate_dst (N := 37) rfl ?_); refine Kd.S_make (Kd.slice 55 k55) w.heap.size 53 rfl (N := 37) rfl 49 _ _ rfl (n : Int) rfl rfl Try.underlying49 (.slice none 0 0) 24 info53 rfl (by decide) (by omega) [] (ok := T1) (okp := T1) ⟨_, rfl, Kd.R_nil _ _ _ _ _⟩ (fun _ hk => hk) trivial (by omega) (by simp; omega) HB1.out HB1.out.size ?_; intro v2 w2 hs2 hb2 hz1 hz2; have e2 : ∃ A c, v2 = .slice A n c := (by obtain ⟨A, c, e⟩ := Kd.S_slice hs2; exact ⟨A, c, by simpa using e⟩); obtain ⟨A2, c2, rfl⟩ := e2; have HS2 := Aside0.mk hs2; have HB2 := Aside0.mk hb2; have hv2 := blk_grown HV1.out hz1 (by simp); have HV2 := Aside0.mk hv2; clear hs2 hb2 hz1 hz2 hv2 x0 HB1 HV1)
  obtain ⟨W, hW, hP⟩ : ∃ W : World, (w2.alloc (Obj.map #[] 0)).alloc (Obj.cells #[.slice Al L.length cl, .slice A2 n c2, .map (some w2.heap.size)] 52) = W ∧ PhA w w.heap.size (w2.heap.size + 1) (w2.heap.size + 2) w2.heap.size (.slice Al L.length cl) A2 c2 0 n (List.replicate n []) (fun _ => []) (fun _ => none) W := ⟨_, rfl, PhA.start w w2 n c2 _ A2 (by simpa using HS2.out) HB2.out HV2.out⟩
  rw [hW]
  obtain ⟨mb, hmb⟩ : ∃ mb, mb = w2.heap.size := ⟨_, rfl⟩
  obtain ⟨gb, hgb⟩ : ∃ gb, gb = w2.heap.size + 1 := ⟨_, rfl⟩
  obtain ⟨b1, hb1⟩ : ∃ b1, b1 = w2.heap.size + 2 := ⟨_, rfl⟩
  obtain ⟨vb, hvb⟩ : ∃ vb, vb = w.heap.size := ⟨_, rfl⟩
  rw [← hgb, ← hb1, ← hmb] at hP
  rw [← hgb, ← hmb]
  have HP : Aside0 (PhA w vb gb b1 mb (.slice Al L.length cl) A2 c2 0 n (List.replicate n []) (fun _ => []) (fun _ => none) W) := ⟨by rw [hvb]; exact hP⟩
  rw [← hvb]
  clear hP hW hmb hgb hb1 HV2 HS2 HB2 hvb hmm
  clear w2
  go_wp2_with fail
  go_loopw [42] (fun v42 wr => ∃ (j : Nat) (E : EE) (M : MM) (m : Int → Option Value), j ≤ L.length ∧ v42 = .int .i64 j ∧ Aside0 (solveRest n L k (buildF n (L.drop j) j E M) = some r) ∧ Aside0 (PhA w vb gb b1 mb (.slice Al L.length cl) A2 c2 j n E M m wr)) (fun i _ => L.length - (intOf i).toNat)
  case atStart => exact ⟨0, _, _, _, Nat.zero_le _, rfl, H, HP⟩
  case round =>
   obtain ⟨j, E, M, m, hj, rfl, HD, HP⟩ := hrel
   clear H
   by_cases hlt : j < L.length
   ·
    have hd := HD.out
    clear HD
    rw [drop_cons z36 _ _ hlt] at hd
    simp only [buildF] at hd
    obtain ⟨x, hx⟩ : ∃ x, x = L.getD j z36 := ⟨_, rfl⟩
    obtain ⟨al, rfl, hc0, hc1, hc2, hc3, hc4, hc5, hc6, hc7⟩ := at_T36 (Kd.C_below HL.out HP.out.hB) (j : Int) (by omega) (by omega)
    have hxx : rd_T36 L (j : Int) = x := by rw [hx]; rfl
    rw [← hx] at hd
    rw [hxx] at hc0 hc1 hc2 hc3 hc4 hc5 hc6 hc7
    obtain ⟨x0, x1, x2, ⟨y0, y1, y2⟩, x4, x5⟩ := x
    simp only [Int.toNat_natCast] at hc0 hc1 hc2 hc3 hc4 hc5 hc6 hc7
    clear hx hxx
    go_upto_region 9 with (fail)
    obtain ⟨Wc, hW, hbc, hcb⟩ : ∃ Wc : World, wr.alloc (.cells #[.int .i64 x0, .int .i64 x1, .int .i64 x2, .int .i64 y0, .int .i64 y1, .string y2, .int .i64 x4, .int .i64 x5] 36) = Wc ∧ Below wr.heap.size wr Wc ∧ Wc.heap[wr.heap.size]? = some (.cells #[.int .i64 x0, .int .i64 x1, .int .i64 x2, .int .i64 y0, .int .i64 y1, .string y2, .int .i64 x4, .int .i64 x5] 36 (0, 0)) := ⟨_, rfl, below_alloc (Below.refl _ _) _, heap_alloc_new _ _⟩
    rw [hW]
    obtain ⟨cb, hcbe⟩ : ∃ cb, cb = wr.heap.size := ⟨_, rfl⟩
    rw [← hcbe] at hcb ⊢
    replace HP := Aside0.mk (HP.out.below hbc)
    have HC := Aside0.mk hcb
    have i0 : Wc.cell? ⟨cb, 0, none⟩ = some (.int .i64 x0) := by rw [blk_cell hcb]; rfl
    have i1 : Wc.cell? ⟨cb, 1, none⟩ = some (.int .i64 x1) := by rw [blk_cell hcb]; rfl
    have i2 : Wc.cell? ⟨cb, 2, none⟩ = some (.int .i64 x2) := by rw [blk_cell hcb]; rfl
    have i3 : Wc.cell? ⟨cb, 3, none⟩ = some (.int .i64 y0) := by rw [blk_cell hcb]; rfl
    have i4 : Wc.cell? ⟨cb, 4, none⟩ = some (.int .i64 y1) := by rw [blk_cell hcb]; rfl
    have i5 : Wc.cell? ⟨cb, 5, none⟩ = some (.string y2) := by rw [blk_cell hcb]; rfl
    clear hcb hc0 hc1 hc2 hc3 hc4 hc5 hc6 hc7 hbc hW hcbe
    have CI : Aside0 (∀ W x, W.cell? ⟨vb, 0, none⟩ = some (.int .i64 n) → Calls Try.prog 27 #[.int .i64 x, .pointer (some ⟨vb, 0, none⟩)] W fun e w' => e = .returned (.bool (decide (0 ≤ x ∧ x < n))) ∧ Below W.heap.size W w') := ⟨fun W x h => inside_calls x n vb W h⟩
    by_cases hA : 0 ≤ x1 ∧ x1 < n
    ·
     by_cases hM : x0 = 0 ∧ isMarkB ⟨y0, y1, y2⟩ = true
     ·
      obtain ⟨rfl, hM1⟩ := hM
      obtain ⟨hA0, hA1⟩ := hA
      have hd2 : solveRest n L k (buildF n (List.drop (j + 1) L) (j + 1) E (fun v => if v = x1 then M v ++ [(j : Int)] else M v)) = some r := by
       rw [show stepF n (j : Int) ⟨0, x1, x2, ⟨y0, y1, y2⟩, x4, x5⟩ E M = some (E, fun v => if v = x1 then M v ++ [(j : Int)] else M v) from by simp [stepF, hA0, hA1, hM1]] at hd
       exact hd
      have HD := Aside0.mk hd2
      clear hd hd2
      have hAb : decide (0 ≤ x1 ∧ x1 < (n : Int)) = true := decide_eq_true ⟨hA0, hA1⟩
      have CM : Aside0 (∀ W, Calls Try.prog 22 #[.agg #[.int .i64 y0, .int .i64 y1, .string y2]] W fun e w' => e = .returned (.bool true) ∧ Below W.heap.size W w') := ⟨fun W => by have := isMark_calls y0 y1 y2 W; rw [hM1] at this; exact this⟩
      clear hM1
      go_upto_region 12 with (first
       | (go_at_call 27; refine (CI.out _ x1 HP.out.vcell).mono ?_; rw [hAb]; rintro e w3 ⟨rfl, hb3⟩; have HP3 := Aside0.mk (HP.out.below hb3); have HC3 := Aside0.mk (blk_below HC.out hb3); replace i0 := pw_cell_below hb3 i0; replace i1 := pw_cell_below hb3 i1; replace i3 := pw_cell_below hb3 i3; replace i4 := pw_cell_below hb3 i4; replace i5 := pw_cell_below hb3 i5; clear hb3 HC HP i2)
       | (go_at_call 22; refine (CM.out _).mono ?_; rintro e w4 ⟨rfl, hb4⟩; have HP4 := Aside0.mk (HP3.out.below hb4); have HC4 := Aside0.mk (blk_below HC3.out hb4); replace i1 := pw_cell_below hb4 i1; clear hb4 HC3 HP3 i0 i3 i4 i5))
      have g2 := HP4.out.gcell2
      obtain ⟨vo, hvo⟩ : ∃ vo, vo = (m x1).getD nilV := ⟨_, rfl⟩
      have hlk := HP4.out.look hn hA0 hA1
      rw [← hvo] at hlk
      have HVO := Aside0.mk hvo
      clear hvo
      refine start_ (n := 13) (S := fun w' => w'.cell? ⟨gb, 2, none⟩ = some (.map (some mb)) ∧ w'.cell? ⟨cb, 1, none⟩ = some (.int .i64 x1) ∧ (Instr.lookup 50 (.map (some mb)) (.int .i64 x1) false).run Try.prog w' = .ok vo w') (ds := [12]) #[false, false, false, false, false, false, false, false, false, false, false, false, false] (by kernel_rfl) rfl rfl ⟨g2, i1, (by rw [HVO.out]; exact (HP4.out.below (below_drew (Below.refl _ _))).look hn hA0 hA1)⟩ (fun hHeld => ?_)
      have HPd := Aside0.mk (HP4.out.below (below_drew (Below.refl _ _)))
      have HCd : Aside0 (w4.drew.heap[cb]? = _) := ⟨HC4.out⟩
      clear HP4 HC4 g2 i1 hlk
      generalize w4.drew = wd at HPd HCd hHeld ⊢
      refine pure_ (i := 0) (N := some 62) (v := ?_) (a' := ?_) #[true, false, false, false, false, false, false, false, false, false, false, false, false] rfl rfl (by kernel_rfl) (fun _ _ _ h => h) (Or.inl ⟨by rfl, ?_⟩) ?_ ?_
      rotate_left; (· intro w'; go_simp; with_reducible rfl)
      rotate_left; (· simp only [Act.put, List.setIfInBounds_toArray, List.set_cons_zero, List.set_cons_succ, i64_w, i32_w]; rfl)
      refine pure_ (i := 2) (N := some 64) (v := ?_) (a' := ?_) #[true, false, true, false, false, false, false, false, false, false, false, false, false] rfl rfl (by kernel_rfl) (fun _ _ _ h => h) (Or.inl ⟨by rfl, ?_⟩) ?_ ?_
      rotate_left; (· intro w'; go_simp; with_reducible rfl)
      rotate_left; (· simp only [Act.put, List.setIfInBounds_toArray, List.set_cons_zero, List.set_cons_succ, i64_w, i32_w]; rfl)
      refine pure_ (i := 4) (N := some 66) (v := ?_) (a' := ?_) #[true, false, true, false, true, false, false, false, false, false, false, false, false] rfl rfl (by kernel_rfl) (fun _ _ _ h => h) (Or.inl ⟨by rfl, ?_⟩) ?_ ?_
      rotate_left; (· intro w'; go_simp; with_reducible rfl)
      rotate_left; (· simp only [Act.put, List.setIfInBounds_toArray, List.set_cons_zero, List.set_cons_succ, i64_w, i32_w]; rfl)
      refine pure_ (i := 6) (N := some 68) (v := ?_) (a' := ?_) #[true, false, true, false, true, false, true, false, false, false, false, false, false] rfl rfl (by kernel_rfl) (fun _ _ _ h => h) (Or.inl ⟨by rfl, ?_⟩) ?_ ?_
      rotate_left; (· intro w'; go_simp; with_reducible rfl)
      rotate_left; (· simp only [Act.put, List.setIfInBounds_toArray, List.set_cons_zero, List.set_cons_succ, i64_w, i32_w]; rfl)
      refine pure_ (i := 9) (N := some 71) (v := ?_) (a' := ?_) #[true, false, true, false, true, false, true, false, false, true, false, false, false] rfl rfl (by kernel_rfl) (fun _ _ _ h => h) (Or.inl ⟨by rfl, ?_⟩) ?_ ?_
      rotate_left; (· intro w'; go_simp; with_reducible rfl)
      rotate_left; (· simp only [Act.put, List.setIfInBounds_toArray, List.set_cons_zero, List.set_cons_succ, i64_w, i32_w]; rfl)
      refine take_ (i := 1) (N := some 63) (v := ?_) (a' := ?_) #[true, true, true, false, true, false, true, false, false, true, false, false, false] rfl rfl (by kernel_rfl) (fun _ _ _ h => h) (Or.inl ⟨by rfl, ?_⟩) hHeld ?_ ?_
      rotate_left; (· rintro w' ⟨s0, s1, s2⟩; go_simp; with_reducible rfl)
      rotate_left; (· simp only [Act.put, List.setIfInBounds_toArray, List.set_cons_zero, List.set_cons_succ, i64_w, i32_w]; rfl)
      refine take_ (i := 3) (N := some 65) (v := ?_) (a' := ?_) #[true, true, true, true, true, false, true, false, false, true, false, false, false] rfl rfl (by kernel_rfl) (fun _ _ _ h => h) (Or.inl ⟨by rfl, ?_⟩) hHeld ?_ ?_
      rotate_left; (· rintro w' ⟨s0, s1, s2⟩; go_simp; with_reducible rfl)
      rotate_left; (· simp only [Act.put, List.setIfInBounds_toArray, List.set_cons_zero, List.set_cons_succ, i64_w, i32_w]; rfl)
      refine take_ (i := 5) (N := some 67) (v := ?_) (a' := ?_) #[true, true, true, true, true, true, true, false, false, true, false, false, false] rfl rfl (by kernel_rfl) (fun _ _ _ h => h) (Or.inl ⟨by rfl, ?_⟩) hHeld ?_ ?_
      rotate_left; (· rintro w' ⟨s0, s1, s2⟩; go_simp; with_reducible rfl)
      rotate_left; (· simp only [Act.put, List.setIfInBounds_toArray, List.set_cons_zero, List.set_cons_succ, i64_w, i32_w]; rfl)
      refine take_ (i := 7) (N := some 69) (v := ?_) (a' := ?_) #[true, true, true, true, true, true, true, true, false, true, false, false, false] rfl rfl (by kernel_rfl) (fun _ _ _ h => h) (Or.inl ⟨by rfl, ?_⟩) hHeld ?_ ?_
      rotate_left; (· rintro w' ⟨s0, s1, s2⟩; go_simp; with_reducible rfl)
      rotate_left; (· simp only [Act.put, List.setIfInBounds_toArray, List.set_cons_zero, List.set_cons_succ, i64_w, i32_w]; rfl)
      refine take_ (i := 8) (N := some 70) (v := ?_) (a' := ?_) #[true, true, true, true, true, true, true, true, true, true, false, false, false] rfl rfl (by kernel_rfl) (fun _ _ _ h => h) (Or.inl ⟨by rfl, ?_⟩) hHeld ?_ ?_
      rotate_left; (· rintro w' ⟨s0, s1, s2⟩; go_simp; with_reducible rfl)
      rotate_left; (· simp only [Act.put, List.setIfInBounds_toArray, List.set_cons_zero, List.set_cons_succ, i64_w, i32_w]; rfl)
      refine one_ (i := 10) (N := some 72) #[true, true, true, true, true, true, true, true, true, true, true, false, false] rfl rfl (by kernel_rfl) (by decide) (fun K hK => ?_)
      refine value_ (w1 := ?_) (v := ?_) (by rfl) rfl ?_ ?_
      rotate_left 2
      ·
       go_simp
       constructor
       · rfl
       · rfl
      refine hK.out _ _ ⟨(pw_cell_below (below_alloc (Below.refl _ _) _) hHeld.1), (pw_cell_below (below_alloc (Below.refl _ _) _) hHeld.2.1), (by rw [HVO.out]; exact (HPd.out.below (below_alloc (Below.refl _ _) _)).look hn hA0 hA1)⟩ (fun hHeld => ?_)
      clear hK K
      refine norm_ (a' := ?_) ?_ ?_
      rotate_left; (· show Act.put _ (some 72) _ = _; simp only [Act.put, List.setIfInBounds_toArray, List.set_cons_zero, List.set_cons_succ, i64_w, i32_w]; rfl)
      refine one_ (i := 11) (N := some 73) #[true, true, true, true, true, true, true, true, true, true, true, true, false] rfl rfl (by kernel_rfl) (by decide) (fun K hK => ?_)
      refine Kd.R_append_step (Kd.int .i64) b1 (by rfl) (.tmp 70) (.tmp 72) 33 3 (.int .i64 0) 8 (by rfl) Try.underlying33 info3 rfl (by decide) (by decide) vo (M x1) (j : Int) [.int .i64 j] T1 (fun _ => False) (by rfl) (by rfl) rfl (fun _ h => h.elim) (fun _ _ => trivial) (by rw [HVO.out]; exact HPd.out.hG.2.1 x1) (Below.refl b1 wd) HPd.out.hvb.2.2.2.2.2 (by have := HPd.out.hMl x1; omega) ?_
      intro v9 w9 ho9 _ hg9 hz9
      rw [HVO.out] at hg9 hz9
      have hb9 := pw_below_grown HPd.out.hB _ HPd.out.hB.size hg9 (fun k hk => by have := Kd.R_base (HPd.out.hG.2.1 x1) k hk; have := HPd.out.hvb; omega)
      have hC9 := blk_grown HCd.out hg9 (Kd.R_ne (HPd.out.hG.2.1 x1) HCd.out (by decide))
      have hG9 := (HPd.out.grew hg9 hb9).2.1
      refine hK.out _ _ ⟨(by rw [blk_cell hG9]; rfl), (by rw [blk_cell hC9]; rfl), (by rw [HVO.out]; exact HPd.out.look2 hg9 hb9 hn hA0 hA1)⟩ (fun hHeld => ?_)
      clear hK K
      refine norm_ (a' := ?_) ?_ ?_
      rotate_left; (· show Act.put _ (some 73) _ = _; simp only [Act.put, List.setIfInBounds_toArray, List.set_cons_zero, List.set_cons_succ, i64_w, i32_w]; rfl)
      refine last_ (i := 12) (N := none) #[true, true, true, true, true, true, true, true, true, true, true, true, true] rfl rfl (by kernel_rfl) (by decide) (fun K hK => ?_)
      obtain ⟨w5, hrun5, hm5, hg5⟩ := (HPd.out.grew hg9 hb9).2.2.2.1.update law3 Try.underlying50 (by unfold maxLen; omega) litI_inj x1 (key3 hn hA0 hA1) v9
      refine skip_ (w1 := w5) (by rfl) rfl ?_ ?_
      · go_simp
      refine hK.out _ _ ?_
      clear hK K
      refine done_ (by kernel_rfl) ?_
      have HN := Aside0.mk (HPd.out.mark hg9 hb9 ho9 hz9 hm5 hg5)
      clear hHeld hrun5 hm5 hg5 hC9 hG9 hb9 hz9 hg9 ho9 HPd HCd HVO
      go_wp2
      go_roundw
      case rel => exact ⟨j + 1, E, _, _, hlt, by go_num, HD, HN⟩
      case measure => (simp [intOf] <;> omega)
     ·
      by_cases hQ : x0 = 1 ∧ (0 ≤ x2 ∧ x2 < (n : Int))
      ·
       obtain ⟨rfl, hB0, hB1⟩ := hQ
       obtain ⟨hA0, hA1⟩ := hA
       obtain ⟨E1, hE1⟩ : ∃ E1, E1 = E.set x1.toNat (rdE E x1 ++ [⟨(j : Int), x2⟩]) := ⟨_, rfl⟩
       obtain ⟨E2, hE2⟩ : ∃ E2, E2 = E1.set x2.toNat (rdE E1 x2 ++ [⟨(j : Int), x1⟩]) := ⟨_, rfl⟩
       have hd2 : solveRest n L k (buildF n (List.drop (j + 1) L) (j + 1) E2 M) = some r := by
        rw [show stepF n (j : Int) ⟨1, x1, x2, ⟨y0, y1, y2⟩, x4, x5⟩ E M = some (E2, M) from by simp [stepF, hA0, hA1, hB0, hB1, hE1, hE2]] at hd
        exact hd
       have HD := Aside0.mk hd2
       have HE1 := Aside0.mk hE1
       have HE2 := Aside0.mk hE2
       clear hd hd2 hM hE1 hE2
       have hAb : decide (0 ≤ x1 ∧ x1 < (n : Int)) = true := decide_eq_true ⟨hA0, hA1⟩
       have hBb : decide (0 ≤ x2 ∧ x2 < (n : Int)) = true := decide_eq_true ⟨hB0, hB1⟩
       go_upto_region 14 with (first
        | (go_at_call 27; refine (CI.out _ x1 HP.out.vcell).mono ?_; rw [hAb]; rintro e w3 ⟨rfl, hb3⟩; have HP3 := Aside0.mk (HP.out.below hb3); have HC3 := Aside0.mk (blk_below HC.out hb3); replace i0 := pw_cell_below hb3 i0; replace i1 := pw_cell_below hb3 i1; replace i2 := pw_cell_below hb3 i2; clear hb3 HC HP i3 i4 i5)
        | (go_at_call 27; refine (CI.out _ x2 HP3.out.vcell).mono ?_; rw [hBb]; rintro e w4 ⟨rfl, hb4⟩; have HP4 := Aside0.mk (HP3.out.below hb4); have HC4 := Aside0.mk (blk_below HC3.out hb4); replace i1 := pw_cell_below hb4 i1; replace i2 := pw_cell_below hb4 i2; clear hb4 HC3 HP3 i0))
       have HPd := Aside0.mk (HP4.out.below (below_drew (Below.refl _ _)))
       have HCd : Aside0 (w4.drew.heap[cb]? = _) := ⟨HC4.out⟩
       obtain ⟨eb, oki, vo, cur, rfl, hvo, hce, hcur, hoki, hH⟩ := HPd.out.lend hA0 hA1
       have HVO := Aside0.mk hvo
       have HCUR := Aside0.mk hcur
       have HH := Aside0.mk hH
       have HOKI := Aside0.mk hoki
       have g1 := HPd.out.gcell1
       have hl0 := HPd.out.hEl
       have HL0 := Aside0.mk hl0
       clear hvo hcur hH hoki hl0
       refine start_ (n := 18) (S := fun w' => w'.cell? ⟨gb, 1, none⟩ = some (.slice (some ⟨eb, 0, none⟩) n c2) ∧ w'.cell? ⟨cb, 1, none⟩ = some (.int .i64 x1) ∧ w'.cell? ⟨cb, 2, none⟩ = some (.int .i64 x2) ∧ w'.cell? ⟨eb, x1.toNat, none⟩ = some vo) (ds := [17]) #[false, false, false, false, false, false, false, false, false, false, false, false, false, false, false, false, false, false] (by kernel_rfl) rfl rfl ⟨g1, i1, i2, hce⟩ (fun hHeld => ?_)
       clear g1 i1 i2
       generalize w4.drew = wd at HPd HCd HVO HCUR HH HOKI hce hHeld ⊢
       refine pure_ (i := 0) (N := some 84) (v := ?_) (a' := ?_) #[true, false, false, false, false, false, false, false, false, false, false, false, false, false, false, false, false, false] rfl rfl (by kernel_rfl) (fun _ _ _ h => h) (Or.inl ⟨by rfl, ?_⟩) ?_ ?_
       rotate_left; (· intro w'; go_simp; with_reducible rfl)
       rotate_left; (· simp only [Act.put, List.setIfInBounds_toArray, List.set_cons_zero, List.set_cons_succ, i64_w, i32_w]; rfl)
       refine pure_ (i := 2) (N := some 86) (v := ?_) (a' := ?_) #[true, false, true, false, false, false, false, false, false, false, false, false, false, false, false, false, false, false] rfl rfl (by kernel_rfl) (fun _ _ _ h => h) (Or.inl ⟨by rfl, ?_⟩) ?_ ?_
       rotate_left; (· intro w'; go_simp; with_reducible rfl)
       rotate_left; (· simp only [Act.put, List.setIfInBounds_toArray, List.set_cons_zero, List.set_cons_succ, i64_w, i32_w]; rfl)
       refine pure_ (i := 4) (N := some 88) (v := ?_) (a' := ?_) #[true, false, true, false, true, false, false, false, false, false, false, false, false, false, false, false, false, false] rfl rfl (by kernel_rfl) (fun _ _ _ h => h) (Or.inl ⟨by rfl, ?_⟩) ?_ ?_
       rotate_left; (· intro w'; go_simp; with_reducible rfl)
       rotate_left; (· simp only [Act.put, List.setIfInBounds_toArray, List.set_cons_zero, List.set_cons_succ, i64_w, i32_w]; rfl)
       refine pure_ (i := 6) (N := some 90) (v := ?_) (a' := ?_) #[true, false, true, false, true, false, true, false, false, false, false, false, false, false, false, false, false, false] rfl rfl (by kernel_rfl) (fun _ _ _ h => h) (Or.inl ⟨by rfl, ?_⟩) ?_ ?_
       rotate_left; (· intro w'; go_simp; with_reducible rfl)
       rotate_left; (· simp only [Act.put, List.setIfInBounds_toArray, List.set_cons_zero, List.set_cons_succ, i64_w, i32_w]; rfl)
       refine pure_ (i := 10) (N := some 94) (v := ?_) (a' := ?_) #[true, false, true, false, true, false, true, false, false, false, true, false, false, false, false, false, false, false] rfl rfl (by kernel_rfl) (fun _ _ _ h => h) (Or.inl ⟨by rfl, ?_⟩) ?_ ?_
       rotate_left; (· intro w'; go_simp; with_reducible rfl)
       rotate_left; (· simp only [Act.put, List.setIfInBounds_toArray, List.set_cons_zero, List.set_cons_succ, i64_w, i32_w]; rfl)
       refine pure_ (i := 11) (N := some 95) (v := ?_) (a' := ?_) #[true, false, true, false, true, false, true, false, false, false, true, true, false, false, false, false, false, false] rfl rfl (by kernel_rfl) (fun _ _ _ h => h) (Or.inl ⟨by rfl, ?_⟩) ?_ ?_
       rotate_left; (· intro w'; go_simp; with_reducible rfl)
       rotate_left; (· simp only [Act.put, List.setIfInBounds_toArray, List.set_cons_zero, List.set_cons_succ, i64_w, i32_w]; rfl)
       refine take_ (i := 1) (N := some 85) (v := ?_) (a' := ?_) #[true, true, true, false, true, false, true, false, false, false, true, true, false, false, false, false, false, false] rfl rfl (by kernel_rfl) (fun _ _ _ h => h) (Or.inl ⟨by rfl, ?_⟩) hHeld ?_ ?_
       rotate_left; (· rintro w' ⟨s0, s1, s2, s3⟩; go_simp; with_reducible rfl)
       rotate_left; (· simp only [Act.put, List.setIfInBounds_toArray, List.set_cons_zero, List.set_cons_succ, i64_w, i32_w]; rfl)
       refine take_ (i := 3) (N := some 87) (v := ?_) (a' := ?_) #[true, true, true, true, true, false, true, false, false, false, true, true, false, false, false, false, false, false] rfl rfl (by kernel_rfl) (fun _ _ _ h => h) (Or.inl ⟨by rfl, ?_⟩) hHeld ?_ ?_
       rotate_left; (· rintro w' ⟨s0, s1, s2, s3⟩; go_simp; with_reducible rfl)
       rotate_left; (· simp only [Act.put, List.setIfInBounds_toArray, List.set_cons_zero, List.set_cons_succ, i64_w, i32_w]; rfl)
       refine take_ (i := 5) (N := some 89) (v := ?_) (a' := ?_) #[true, true, true, true, true, true, true, false, false, false, true, true, false, false, false, false, false, false] rfl rfl (by kernel_rfl) (fun _ _ _ h => h) (Or.inl ⟨by rfl, ?_⟩) hHeld ?_ ?_
       rotate_left; (· rintro w' ⟨s0, s1, s2, s3⟩; go_simp; with_reducible rfl)
       rotate_left; (· simp only [Act.put, List.setIfInBounds_toArray, List.set_cons_zero, List.set_cons_succ, i64_w, i32_w]; rfl)
       refine take_ (i := 7) (N := some 91) (v := ?_) (a' := ?_) #[true, true, true, true, true, true, true, true, false, false, true, true, false, false, false, false, false, false] rfl rfl (by kernel_rfl) (fun _ _ _ h => h) (Or.inl ⟨by rfl, ?_⟩) hHeld ?_ ?_
       rotate_left; (· rintro w' ⟨s0, s1, s2, s3⟩; go_simp; with_reducible rfl)
       rotate_left; (· simp only [Act.put, List.setIfInBounds_toArray, List.set_cons_zero, List.set_cons_succ, i64_w, i32_w]; rfl)
       refine pure_ (i := 8) (N := some 92) (v := ?_) (a' := ?_) #[true, true, true, true, true, true, true, true, true, false, true, true, false, false, false, false, false, false] rfl rfl (by kernel_rfl) (fun _ _ _ h => h) (Or.inl ⟨by rfl, ?_⟩) ?_ ?_
       rotate_left; (· intro w'; go_simp; with_reducible rfl)
       rotate_left; (· simp only [Act.put, List.setIfInBounds_toArray, List.set_cons_zero, List.set_cons_succ, i64_w, i32_w]; rfl)
       refine take_ (i := 9) (N := some 93) (v := ?_) (a' := ?_) #[true, true, true, true, true, true, true, true, true, true, true, true, false, false, false, false, false, false] rfl rfl (by kernel_rfl) (fun _ _ _ h => h) (Or.inl ⟨by rfl, ?_⟩) hHeld ?_ ?_
       rotate_left; (· rintro w' ⟨s0, s1, s2, s3⟩; go_simp; with_reducible rfl)
       rotate_left; (· simp only [Act.put, List.setIfInBounds_toArray, List.set_cons_zero, List.set_cons_succ, i64_w, i32_w]; rfl)
       refine take_ (i := 12) (N := some 96) (v := ?_) (a' := ?_) #[true, true, true, true, true, true, true, true, true, true, true, true, true, false, false, false, false, false] rfl rfl (by kernel_rfl) (fun _ _ _ h => h) (Or.inl ⟨by rfl, ?_⟩) hHeld ?_ ?_
       rotate_left; (· rintro w' ⟨s0, s1, s2, s3⟩; go_simp; with_reducible rfl)
       rotate_left; (· simp only [Act.put, List.setIfInBounds_toArray, List.set_cons_zero, List.set_cons_succ, i64_w, i32_w]; rfl)
       refine pure_ (i := 13) (N := some 97) (v := ?_) (a' := ?_) #[true, true, true, true, true, true, true, true, true, true, true, true, true, true, false, false, false, false] rfl rfl (by kernel_rfl) (fun _ _ _ h => h) (Or.inl ⟨by rfl, ?_⟩) ?_ ?_
       rotate_left; (· intro w'; go_simp; with_reducible rfl)
       rotate_left; (· simp only [Act.put, List.setIfInBounds_toArray, List.set_cons_zero, List.set_cons_succ, i64_w, i32_w]; rfl)
       refine one_ (i := 14) (N := some 98) #[true, true, true, true, true, true, true, true, true, true, true, true, true, true, true, false, false, false] rfl rfl (by kernel_rfl) (by decide) (fun K hK => ?_)
       refine value_ (w1 := ?_) (v := ?_) (by rfl) rfl ?_ ?_
       rotate_left 2
       ·
        go_simp
        constructor
        · rfl
        · rfl
       refine hK.out _ _ ⟨(pw_cell_below (below_alloc (Below.refl _ _) _) hHeld.1), (pw_cell_below (below_alloc (Below.refl _ _) _) hHeld.2.1), (pw_cell_below (below_alloc (Below.refl _ _) _) hHeld.2.2.1), (pw_cell_below (below_alloc (Below.refl _ _) _) hHeld.2.2.2)⟩ (fun hHeld => ?_)
       clear hK K
       refine norm_ (a' := ?_) ?_ ?_
       rotate_left; (· show Act.put _ (some 98) _ = _; simp only [Act.put, List.setIfInBounds_toArray, List.set_cons_zero, List.set_cons_succ, i64_w, i32_w]; rfl)
       refine one_ (i := 15) (N := some 99) #[true, true, true, true, true, true, true, true, true, true, true, true, true, true, true, true, false, false] rfl rfl (by kernel_rfl) (by decide) (fun K hK => ?_)
       refine Kd.R_append_step k55 w.heap.size (by rfl) (.tmp 93) (.tmp 98) 53 55 (.agg #[.int .i64 0, .int .i64 0]) 16 (by rfl) Try.underlying53 info55 rfl (by decide) (by decide) vo (rdE E x1) ⟨(j : Int), x2⟩ [.int .i64 j, .int .i64 x2] (fun k => oki k ∨ wd.heap.size ≤ k) (fun _ => False) (by rfl) (by rfl) (k55_mkM _ _ _ _) (fun _ h => h.elim) (fun k hk => .inr hk) HVO.out HPd.out.hB HPd.out.hB.size (by have := HPd.out.hEl x1.toNat; unfold rdE; omega) ?_
       intro v9 w9 ho9 hb9 hg9 hz9
       obtain ⟨A9, c9, rfl⟩ := R_shape ho9
       have hG9 := blk_grown HPd.out.hg hg9 (Kd.R_ne HVO.out HPd.out.hg (by decide))
       have hC9 := blk_grown HCd.out hg9 (Kd.R_ne HVO.out HCd.out (by decide))
       have hE9 := blk_grown HCUR.out hg9 (Kd.R_ne HVO.out HCUR.out (by decide))
       have hcv : w9.cell? ⟨eb, x1.toNat, none⟩ = some vo := by rw [blk_cell hE9, ← blk_cell HCUR.out]; exact hce
       have hf9 := blk_frozen hE9 x1.toNat
       refine hK.out _ _ ⟨(by rw [blk_cell hG9]; rfl), (by rw [blk_cell hC9]; rfl), (by rw [blk_cell hC9]; rfl), hcv⟩ (fun hHeld => ?_)
       clear hK K
       refine norm_ (a' := ?_) ?_ ?_
       rotate_left; (· show Act.put _ (some 99) _ = _; simp only [Act.put, List.setIfInBounds_toArray, List.set_cons_zero, List.set_cons_succ, i64_w, i32_w]; rfl)
       refine pure_ (i := 16) (N := some 100) (v := ?_) (a' := ?_) #[true, true, true, true, true, true, true, true, true, true, true, true, true, true, true, true, true, false] rfl rfl (by kernel_rfl) (fun _ _ _ h => h) (Or.inl ⟨by rfl, ?_⟩) ?_ ?_
       rotate_left; (· intro w'; go_simp; with_reducible rfl)
       rotate_left; (· simp only [Act.put, List.setIfInBounds_toArray, List.set_cons_zero, List.set_cons_succ, i64_w, i32_w]; rfl)
       refine last_ (i := 17) (N := none) #[true, true, true, true, true, true, true, true, true, true, true, true, true, true, true, true, true, true] rfl rfl (by kernel_rfl) (by decide) (fun K hK => ?_)
       refine skip_ (w1 := ?_) ?_ ?_ ?_ ?_
       rotate_left; (· rfl); (· rfl); (· go_simp; rfl)
       refine hK.out _ _ ?_
       clear hK K
       refine done_ (by kernel_rfl) ?_
       clear hHeld
       have HN := Aside0.mk (HPd.out.back hA0 hA1 rfl HVO.out HOKI.out HH.out hg9 hb9 ho9 (j + 1) (Nat.le_succ _) (set_len E _ _ _ (fun q => by have := HL0.out q; omega) (by have := snoc_len HL0.out x1 ⟨(j : Int), x2⟩; omega)))
       have HL1 : Aside0 (∀ q, (E1.getD q []).length ≤ 2 * j + 1) := ⟨by rw [HE1.out]; exact set_len E _ _ _ (fun q => by have := HL0.out q; omega) (snoc_len HL0.out x1 ⟨(j : Int), x2⟩)⟩
       rw [← HE1.out] at HN
       obtain ⟨w6, hw6⟩ : ∃ w6, w6 = w9.setCell ⟨eb, x1.toNat, none⟩ (.slice A9 (rdE E x1 ++ [(⟨(j : Int), x2⟩ : S55)]).length c9) := ⟨_, rfl⟩
       have hC6 := blk_far hC9 (p := ⟨eb, x1.toNat, none⟩) (blk_ne hC9 hE9 (by decide)) (.slice A9 (rdE E x1 ++ [(⟨(j : Int), x2⟩ : S55)]).length c9)
       have hw7 : w9.setCell ⟨eb, x1.toNat, none⟩ (.slice A9 ((rdE E x1).length + 1) c9) = w6 := by rw [hw6]; simp
       rw [← hw6] at HN hC6
       rw [hw7]
       have HC6 := Aside0.mk hC6
       clear hw6 hw7 hC6 hg9 hb9 ho9 hz9 hC9 hG9 hE9 hf9 hcv HPd HCd HVO HCUR HH HOKI HL0
       clear w9
       go_upto_region 15 with (fail)
       have HPd := Aside0.mk (HN.out.below (below_drew (Below.refl _ _)))
       have HCd : Aside0 (w6.drew.heap[cb]? = _) := ⟨HC6.out⟩
       obtain ⟨eb', oki, vo, cur, heb, hvo, hce, hcur, hoki, hH⟩ := HPd.out.lend hB0 hB1
       injection heb with heb
       injection heb with heb
       subst heb
       have HVO := Aside0.mk hvo
       have HCUR := Aside0.mk hcur
       have HH := Aside0.mk hH
       have HOKI := Aside0.mk hoki
       have g1 := HPd.out.gcell1
       have i1 : w6.drew.cell? ⟨cb, 1, none⟩ = some (.int .i64 x1) := by rw [blk_cell HCd.out]; rfl
       have i2 : w6.drew.cell? ⟨cb, 2, none⟩ = some (.int .i64 x2) := by rw [blk_cell HCd.out]; rfl
       clear hvo hcur hH hoki
       refine start_ (n := 18) (S := fun w' => w'.cell? ⟨gb, 1, none⟩ = some (.slice (some ⟨eb, 0, none⟩) n c2) ∧ w'.cell? ⟨cb, 1, none⟩ = some (.int .i64 x1) ∧ w'.cell? ⟨cb, 2, none⟩ = some (.int .i64 x2) ∧ w'.cell? ⟨eb, x2.toNat, none⟩ = some vo) (ds := [17]) #[false, false, false, false, false, false, false, false, false, false, false, false, false, false, false, false, false, false] (by kernel_rfl) rfl rfl ⟨g1, i1, i2, hce⟩ (fun hHeld => ?_)
       clear g1 i1 i2
       generalize w6.drew = wd at HPd HCd HVO HCUR HH HOKI hce hHeld ⊢
       refine pure_ (i := 0) (N := some 101) (v := ?_) (a' := ?_) #[true, false, false, false, false, false, false, false, false, false, false, false, false, false, false, false, false, false] rfl rfl (by kernel_rfl) (fun _ _ _ h => h) (Or.inl ⟨by rfl, ?_⟩) ?_ ?_
       rotate_left; (· intro w'; go_simp; with_reducible rfl)
       rotate_left; (· simp only [Act.put, List.setIfInBounds_toArray, List.set_cons_zero, List.set_cons_succ, i64_w, i32_w]; rfl)
       refine pure_ (i := 2) (N := some 103) (v := ?_) (a' := ?_) #[true, false, true, false, false, false, false, false, false, false, false, false, false, false, false, false, false, false] rfl rfl (by kernel_rfl) (fun _ _ _ h => h) (Or.inl ⟨by rfl, ?_⟩) ?_ ?_
       rotate_left; (· intro w'; go_simp; with_reducible rfl)
       rotate_left; (· simp only [Act.put, List.setIfInBounds_toArray, List.set_cons_zero, List.set_cons_succ, i64_w, i32_w]; rfl)
       refine pure_ (i := 4) (N := some 105) (v := ?_) (a' := ?_) #[true, false, true, false, true, false, false, false, false, false, false, false, false, false, false, false, false, false] rfl rfl (by kernel_rfl) (fun _ _ _ h => h) (Or.inl ⟨by rfl, ?_⟩) ?_ ?_
       rotate_left; (· intro w'; go_simp; with_reducible rfl)
       rotate_left; (· simp only [Act.put, List.setIfInBounds_toArray, List.set_cons_zero, List.set_cons_succ, i64_w, i32_w]; rfl)
       refine pure_ (i := 6) (N := some 107) (v := ?_) (a' := ?_) #[true, false, true, false, true, false, true, false, false, false, false, false, false, false, false, false, false, false] rfl rfl (by kernel_rfl) (fun _ _ _ h => h) (Or.inl ⟨by rfl, ?_⟩) ?_ ?_
       rotate_left; (· intro w'; go_simp; with_reducible rfl)
       rotate_left; (· simp only [Act.put, List.setIfInBounds_toArray, List.set_cons_zero, List.set_cons_succ, i64_w, i32_w]; rfl)
       refine pure_ (i := 10) (N := some 111) (v := ?_) (a' := ?_) #[true, false, true, false, true, false, true, false, false, false, true, false, false, false, false, false, false, false] rfl rfl (by kernel_rfl) (fun _ _ _ h => h) (Or.inl ⟨by rfl, ?_⟩) ?_ ?_
       rotate_left; (· intro w'; go_simp; with_reducible rfl)
       rotate_left; (· simp only [Act.put, List.setIfInBounds_toArray, List.set_cons_zero, List.set_cons_succ, i64_w, i32_w]; rfl)
       refine pure_ (i := 11) (N := some 112) (v := ?_) (a' := ?_) #[true, false, true, false, true, false, true, false, false, false, true, true, false, false, false, false, false, false] rfl rfl (by kernel_rfl) (fun _ _ _ h => h) (Or.inl ⟨by rfl, ?_⟩) ?_ ?_
       rotate_left; (· intro w'; go_simp; with_reducible rfl)
       rotate_left; (· simp only [Act.put, List.setIfInBounds_toArray, List.set_cons_zero, List.set_cons_succ, i64_w, i32_w]; rfl)
       refine take_ (i := 1) (N := some 102) (v := ?_) (a' := ?_) #[true, true, true, false, true, false, true, false, false, false, true, true, false, false, false, false, false, false] rfl rfl (by kernel_rfl) (fun _ _ _ h => h) (Or.inl ⟨by rfl, ?_⟩) hHeld ?_ ?_
       rotate_left; (· rintro w' ⟨s0, s1, s2, s3⟩; go_simp; with_reducible rfl)
       rotate_left; (· simp only [Act.put, List.setIfInBounds_toArray, List.set_cons_zero, List.set_cons_succ, i64_w, i32_w]; rfl)
       refine take_ (i := 3) (N := some 104) (v := ?_) (a' := ?_) #[true, true, true, true, true, false, true, false, false, false, true, true, false, false, false, false, false, false] rfl rfl (by kernel_rfl) (fun _ _ _ h => h) (Or.inl ⟨by rfl, ?_⟩) hHeld ?_ ?_
       rotate_left; (· rintro w' ⟨s0, s1, s2, s3⟩; go_simp; with_reducible rfl)
       rotate_left; (· simp only [Act.put, List.setIfInBounds_toArray, List.set_cons_zero, List.set_cons_succ, i64_w, i32_w]; rfl)
       refine take_ (i := 5) (N := some 106) (v := ?_) (a' := ?_) #[true, true, true, true, true, true, true, false, false, false, true, true, false, false, false, false, false, false] rfl rfl (by kernel_rfl) (fun _ _ _ h => h) (Or.inl ⟨by rfl, ?_⟩) hHeld ?_ ?_
       rotate_left; (· rintro w' ⟨s0, s1, s2, s3⟩; go_simp; with_reducible rfl)
       rotate_left; (· simp only [Act.put, List.setIfInBounds_toArray, List.set_cons_zero, List.set_cons_succ, i64_w, i32_w]; rfl)
       refine take_ (i := 7) (N := some 108) (v := ?_) (a' := ?_) #[true, true, true, true, true, true, true, true, false, false, true, true, false, false, false, false, false, false] rfl rfl (by kernel_rfl) (fun _ _ _ h => h) (Or.inl ⟨by rfl, ?_⟩) hHeld ?_ ?_
       rotate_left; (· rintro w' ⟨s0, s1, s2, s3⟩; go_simp; with_reducible rfl)
       rotate_left; (· simp only [Act.put, List.setIfInBounds_toArray, List.set_cons_zero, List.set_cons_succ, i64_w, i32_w]; rfl)
       refine pure_ (i := 8) (N := some 109) (v := ?_) (a' := ?_) #[true, true, true, true, true, true, true, true, true, false, true, true, false, false, false, false, false, false] rfl rfl (by kernel_rfl) (fun _ _ _ h => h) (Or.inl ⟨by rfl, ?_⟩) ?_ ?_
       rotate_left; (· intro w'; go_simp; with_reducible rfl)
       rotate_left; (· simp only [Act.put, List.setIfInBounds_toArray, List.set_cons_zero, List.set_cons_succ, i64_w, i32_w]; rfl)
       refine take_ (i := 9) (N := some 110) (v := ?_) (a' := ?_) #[true, true, true, true, true, true, true, true, true, true, true, true, false, false, false, false, false, false] rfl rfl (by kernel_rfl) (fun _ _ _ h => h) (Or.inl ⟨by rfl, ?_⟩) hHeld ?_ ?_
       rotate_left; (· rintro w' ⟨s0, s1, s2, s3⟩; go_simp; with_reducible rfl)
       rotate_left; (· simp only [Act.put, List.setIfInBounds_toArray, List.set_cons_zero, List.set_cons_succ, i64_w, i32_w]; rfl)
       refine take_ (i := 12) (N := some 113) (v := ?_) (a' := ?_) #[true, true, true, true, true, true, true, true, true, true, true, true, true, false, false, false, false, false] rfl rfl (by kernel_rfl) (fun _ _ _ h => h) (Or.inl ⟨by rfl, ?_⟩) hHeld ?_ ?_
       rotate_left; (· rintro w' ⟨s0, s1, s2, s3⟩; go_simp; with_reducible rfl)
       rotate_left; (· simp only [Act.put, List.setIfInBounds_toArray, List.set_cons_zero, List.set_cons_succ, i64_w, i32_w]; rfl)
       refine pure_ (i := 13) (N := some 114) (v := ?_) (a' := ?_) #[true, true, true, true, true, true, true, true, true, true, true, true, true, true, false, false, false, false] rfl rfl (by kernel_rfl) (fun _ _ _ h => h) (Or.inl ⟨by rfl, ?_⟩) ?_ ?_
       rotate_left; (· intro w'; go_simp; with_reducible rfl)
       rotate_left; (· simp only [Act.put, List.setIfInBounds_toArray, List.set_cons_zero, List.set_cons_succ, i64_w, i32_w]; rfl)
       refine one_ (i := 14) (N := some 115) #[true, true, true, true, true, true, true, true, true, true, true, true, true, true, true, false, false, false] rfl rfl (by kernel_rfl) (by decide) (fun K hK => ?_)
       refine value_ (w1 := ?_) (v := ?_) (by rfl) rfl ?_ ?_
       rotate_left 2
       ·
        go_simp
        constructor
        · rfl
        · rfl
       refine hK.out _ _ ⟨(pw_cell_below (below_alloc (Below.refl _ _) _) hHeld.1), (pw_cell_below (below_alloc (Below.refl _ _) _) hHeld.2.1), (pw_cell_below (below_alloc (Below.refl _ _) _) hHeld.2.2.1), (pw_cell_below (below_alloc (Below.refl _ _) _) hHeld.2.2.2)⟩ (fun hHeld => ?_)
       clear hK K
       refine norm_ (a' := ?_) ?_ ?_
       rotate_left; (· show Act.put _ (some 115) _ = _; simp only [Act.put, List.setIfInBounds_toArray, List.set_cons_zero, List.set_cons_succ, i64_w, i32_w]; rfl)
       refine one_ (i := 15) (N := some 116) #[true, true, true, true, true, true, true, true, true, true, true, true, true, true, true, true, false, false] rfl rfl (by kernel_rfl) (by decide) (fun K hK => ?_)
       refine Kd.R_append_step k55 w.heap.size (by rfl) (.tmp 110) (.tmp 115) 53 55 (.agg #[.int .i64 0, .int .i64 0]) 16 (by rfl) Try.underlying53 info55 rfl (by decide) (by decide) vo (rdE E1 x2) ⟨(j : Int), x1⟩ [.int .i64 j, .int .i64 x1] (fun k => oki k ∨ wd.heap.size ≤ k) (fun _ => False) (by rfl) (by rfl) (k55_mkM _ _ _ _) (fun _ h => h.elim) (fun k hk => .inr hk) HVO.out HPd.out.hB HPd.out.hB.size (by have := HPd.out.hEl x2.toNat; unfold rdE; omega) ?_
       intro v9 w9 ho9 hb9 hg9 hz9
       obtain ⟨A9, c9, rfl⟩ := R_shape ho9
       have hG9 := blk_grown HPd.out.hg hg9 (Kd.R_ne HVO.out HPd.out.hg (by decide))
       have hC9 := blk_grown HCd.out hg9 (Kd.R_ne HVO.out HCd.out (by decide))
       have hE9 := blk_grown HCUR.out hg9 (Kd.R_ne HVO.out HCUR.out (by decide))
       have hcv : w9.cell? ⟨eb, x2.toNat, none⟩ = some vo := by rw [blk_cell hE9, ← blk_cell HCUR.out]; exact hce
       have hf9 := blk_frozen hE9 x2.toNat
       refine hK.out _ _ ⟨(by rw [blk_cell hG9]; rfl), (by rw [blk_cell hC9]; rfl), (by rw [blk_cell hC9]; rfl), hcv⟩ (fun hHeld => ?_)
       clear hK K
       refine norm_ (a' := ?_) ?_ ?_
       rotate_left; (· show Act.put _ (some 116) _ = _; simp only [Act.put, List.setIfInBounds_toArray, List.set_cons_zero, List.set_cons_succ, i64_w, i32_w]; rfl)
       refine pure_ (i := 16) (N := some 117) (v := ?_) (a' := ?_) #[true, true, true, true, true, true, true, true, true, true, true, true, true, true, true, true, true, false] rfl rfl (by kernel_rfl) (fun _ _ _ h => h) (Or.inl ⟨by rfl, ?_⟩) ?_ ?_
       rotate_left; (· intro w'; go_simp; with_reducible rfl)
       rotate_left; (· simp only [Act.put, List.setIfInBounds_toArray, List.set_cons_zero, List.set_cons_succ, i64_w, i32_w]; rfl)
       refine last_ (i := 17) (N := none) #[true, true, true, true, true, true, true, true, true, true, true, true, true, true, true, true, true, true] rfl rfl (by kernel_rfl) (by decide) (fun K hK => ?_)
       refine skip_ (w1 := ?_) ?_ ?_ ?_ ?_
       rotate_left; (· rfl); (· rfl); (· go_simp; rfl)
       refine hK.out _ _ ?_
       clear hK K
       refine done_ (by kernel_rfl) ?_
       clear hHeld
       have HN2 := Aside0.mk (HPd.out.back hB0 hB1 rfl HVO.out HOKI.out HH.out hg9 hb9 ho9 (j + 1) (Nat.le_refl _) (set_len E1 _ _ _ (fun q => by have := HL1.out q; omega) (by have := snoc_len HL1.out x2 ⟨(j : Int), x1⟩; omega)))
       rw [← HE2.out] at HN2
       simp only [List.length_append, List.length_cons, List.length_nil, Nat.zero_add] at HN2
       clear hg9 hb9 ho9 hz9 hC9 hG9 hE9 hf9 hcv HPd HCd HVO HCUR HH HOKI HN HC6
       go_wp2
       go_roundw
       case rel => exact ⟨j + 1, E2, M, m, hlt, by go_num, HD, HN2⟩
       case measure => (simp [intOf] <;> omega)
      ·
       have hr : some (([] : List S23), ([] : List (List Int)), (1 : Int)) = some r := by
        rw [show stepF n (j : Int) ⟨x0, x1, x2, ⟨y0, y1, y2⟩, x4, x5⟩ E M = none from by unfold stepF; simp only; rw [if_pos hA, if_neg hM, if_neg hQ]] at hd
        exact hd
       injection hr with hr
       subst hr
       clear hd
       have hAb : decide (0 ≤ x1 ∧ x1 < (n : Int)) = true := decide_eq_true hA
       clear hA
       by_cases h0 : x0 = 0
       ·
        subst h0
        have CM : Aside0 (∀ W, Calls Try.prog 22 #[.agg #[.int .i64 y0, .int .i64 y1, .string y2]] W fun e w' => e = .returned (.bool false) ∧ Below W.heap.size W w') := ⟨fun W => by have := isMark_calls y0 y1 y2 W; rw [show isMarkB ⟨y0, y1, y2⟩ = false from by cases hh : isMarkB ⟨y0, y1, y2⟩ with | false => rfl | true => exact absurd ⟨rfl, hh⟩ hM] at this; exact this⟩
        clear hM hQ
        go_wp2_with (first
         | (go_at_call 27; refine (CI.out _ x1 HP.out.vcell).mono ?_; rw [hAb]; rintro e w3 ⟨rfl, hb3⟩; have HP3 := Aside0.mk (HP.out.below hb3); have HC3 := Aside0.mk (blk_below HC.out hb3); replace i0 := pw_cell_below hb3 i0; replace i1 := pw_cell_below hb3 i1; replace i3 := pw_cell_below hb3 i3; replace i4 := pw_cell_below hb3 i4; replace i5 := pw_cell_below hb3 i5; clear hb3 HC HP i2)
         | (go_at_call 22; refine (CM.out _).mono ?_; rintro e w4 ⟨rfl, hb4⟩; have HP4 := Aside0.mk (HP3.out.below hb4); have HC4 := Aside0.mk (blk_below HC3.out hb4); replace i0 := pw_cell_below hb4 i0; replace i1 := pw_cell_below hb4 i1; clear hb4 HC3 HP3 i3 i4 i5))
        go_ret3
        exact ⟨nilV, nilV, rfl, Kd.R_nil _ _ _ _ _, Kd.R_nil _ _ _ _ _, HP4.out.hB⟩
       ·
        by_cases h1 : x0 = 1
        ·
         subst h1
         have hBb : decide (0 ≤ x2 ∧ x2 < (n : Int)) = false := decide_eq_false (fun hh => hQ ⟨rfl, hh⟩)
         clear hM hQ h0
         go_wp2_with (first
          | (go_at_call 27; refine (CI.out _ x1 HP.out.vcell).mono ?_; rw [hAb]; rintro e w3 ⟨rfl, hb3⟩; have HP3 := Aside0.mk (HP.out.below hb3); replace i0 := pw_cell_below hb3 i0; replace i1 := pw_cell_below hb3 i1; replace i2 := pw_cell_below hb3 i2; clear hb3 HC HP i3 i4 i5)
          | (go_at_call 27; refine (CI.out _ x2 HP3.out.vcell).mono ?_; rw [hBb]; rintro e w4 ⟨rfl, hb4⟩; have HP4 := Aside0.mk (HP3.out.below hb4); clear hb4 HP3 i0 i1 i2))
         go_ret3
         exact ⟨nilV, nilV, rfl, Kd.R_nil _ _ _ _ _, Kd.R_nil _ _ _ _ _, HP4.out.hB⟩
        ·
         clear hM hQ
         go_wp2_with (go_at_call 27; refine (CI.out _ x1 HP.out.vcell).mono ?_; rw [hAb]; rintro e w3 ⟨rfl, hb3⟩; have HP3 := Aside0.mk (HP.out.below hb3); replace i0 := pw_cell_below hb3 i0; replace i1 := pw_cell_below hb3 i1; clear hb3 HC HP i3 i4 i5 i2)
         go_ret3
         exact ⟨nilV, nilV, rfl, Kd.R_nil _ _ _ _ _, Kd.R_nil _ _ _ _ _, HP3.out.hB⟩
    ·
     have hr : some (([] : List S23), ([] : List (List Int)), (1 : Int)) = some r := by
      simpa [stepF, hA, solveRest] using hd
     injection hr with hr
     subst hr
     have hAb : decide (0 ≤ x1 ∧ x1 < (n : Int)) = false := decide_eq_false hA
     clear hd hA
     go_wp2_with (go_at_call 27; refine (CI.out _ x1 HP.out.vcell).mono ?_; rw [hAb]; rintro e w3 ⟨rfl, hb3⟩; have HB3 := Aside0.mk (below_step HP.out.hB hb3); clear hb3 i0 i1 i2 i3 i4 i5)
     go_ret3
     exact ⟨nilV, nilV, rfl, Kd.R_nil _ _ _ _ _, Kd.R_nil _ _ _ _ _, HB3.out⟩
   ·
    obtain rfl : L.length = j := by omega
    have hd := HD.out
    rw [List.drop_length] at hd
    simp only [buildF, solveRest] at hd
    obtain ⟨⟨qo, qc⟩, hq, rfl⟩ := Option.map_eq_some_iff.1 hd
    obtain ⟨hCn, hClc, hCE⟩ := Kd.S_reads' HP.out.hS
    have hEn := HP.out.hE
    have hM0 : MarksAt wr mb n M := by
     obtain ⟨hm, hR, _⟩ := HP.out.hG
     refine ⟨_, m, hm, fun v _ _ => ?_⟩
     obtain ⟨A, c, he, hl, hC⟩ := Kd.R_reads (hR v)
     exact ⟨A, c, he, hl, hC⟩
    subst hEn
    have HM0 := Aside0.mk hM0
    have HE0 := Aside0.mk hCE
    have HL0 := Aside0.mk (Kd.C_below HL.out HP.out.hB)
    have HW0 := Aside0.mk HP.out.hB
    have HV0 := Aside0.mk HP.out.vcell
    have HG0 := Aside0.mk HP.out.gcell0
    have HG1 := Aside0.mk HP.out.gcell1
    have HG2 := Aside0.mk HP.out.gcell2
    have HQ := Aside0.mk hq
    clear hd hq hCn hClc hCE hM0 HP HD HL
    have hv0 := HV0.out
    obtain ⟨W0, hW0⟩ : ∃ W0, W0 = wr := ⟨_, rfl⟩
    rw [← hW0] at HM0 HE0 HL0 HW0 HV0 HG0 HG1 HG2 hv0 ⊢
    clear hW0
    go_upto_region 18 with ((with_reducible refine gate_dst (N := 120) rfl ?_); refine Kd.R_make k23 W0.heap.size 23 rfl (N := 120) rfl 28 _ _ rfl (E.length : Int) rfl rfl Try.underlying28 (.agg #[.int .i64 0, .int .i64 0, .string ⟨#[]⟩]) 32 info23 rfl (by decide) (by omega) z23 (ok := T1) (okp := T1) (k23_mkM _ _ _ _) (fun _ hk => hk) trivial (by omega) (by simp; omega) (Below.refl W0.heap.size W0) (Nat.le_refl _) ?_; intro v5 w5 ho5 hb5 hz1 hz2; have e5 : ∃ A c, v5 = .slice A E.length c := (by obtain ⟨A, c, e⟩ := Kd.R_slice ho5; exact ⟨A, c, by simpa using e⟩); obtain ⟨A5, c5, rfl⟩ := e5; have HO5 := Aside0.mk ho5; have HB5 := Aside0.mk hb5; replace hv0 := pw_cell_below hb5 hv0; clear ho5 hb5 hz1 hz2)
    go_upto_region 20 with ((with_reducible refine gate_dst (N := 122) rfl ?_); refine Kd.R_make Kd.bool W0.heap.size 4 rfl (N := 122) rfl 37 _ _ rfl (E.length : Int) rfl rfl Try.underlying37 (.bool false) 1 info4 rfl (by decide) (by omega) false (ok := T1) (okp := T1) rfl (fun _ hk => hk) trivial (by omega) (by simp; omega) HB5.out HB5.out.size ?_; intro v6 w6 ho6 hb6 hz1 hz2; have e6 : ∃ A c, v6 = .slice A E.length c := (by obtain ⟨A, c, e⟩ := Kd.R_slice ho6; exact ⟨A, c, by simpa using e⟩); obtain ⟨A6, c6, rfl⟩ := e6; have HO6 := Aside0.mk ho6; have hbb : Below w5.heap.size w5 w6 := below_grown0 hz1; have HP := Aside0.mk (Ph2.start HO5.out hz1 ho6 hb6); replace hv0 := pw_cell_below hbb hv0; clear ho6 hb6 hz1 hz2 hbb HO5 HB5 HO6)
    go_wp2_with fail
    clear hv0
    go_loopw [12, 124] (fun v12 v124 wr => ∃ (v : Nat) (out : List S23) (ch : List (List Int)) (seen : List Bool), v ≤ E.length ∧ v124 = .int .i64 v ∧ Aside0 (outerF E L M k (E.length - v) v out ch seen = some (qo, qc)) ∧ Aside0 (ch.length ≤ v) ∧ Aside0 (Ph2 W0 E.length (.slice A5 E.length c5) (.slice A6 E.length c6) v12 out ch seen wr)) (fun _ i _ => E.length - (intOf i).toNat)
    case atStart => exact ⟨0, _, _, _, Nat.zero_le _, rfl, HQ, ⟨Nat.le_refl 0⟩, HP⟩
    case round =>
     clear HQ HP
     obtain ⟨v, out, ch, seen, hv, rfl, HD, HCL, HP⟩ := hrel
     by_cases hlt : v < E.length
     ·
      have hd := HD.out
      clear HD
      obtain ⟨d, hdd⟩ : ∃ d, E.length - v = d + 1 := ⟨E.length - v - 1, by omega⟩
      have hdn : E.length - (v + 1) = d := by omega
      rw [hdd] at hd
      simp only [outerF] at hd
      rw [← hdn] at hd
      clear hdd hdn
      obtain ⟨gs, rfl, hz1, hz2⟩ := R_head HP.out.hS (by omega)
      clear hz1 hz2
      obtain ⟨sv, hsv⟩ : ∃ sv, sv = seen.getD v false := ⟨_, rfl⟩
      have hcs := (R_cellN false HP.out.hS v hlt).1
      rw [← hsv] at hcs hd
      clear hsv
      cases sv with
      | true =>
       rw [if_pos rfl] at hd
       have HD := Aside0.mk hd
       clear hd
       go_wp2
       go_roundw
       case rel => exact ⟨v + 1, out, ch, seen, hlt, by go_num, HD, ⟨Nat.le_succ_of_le HCL.out⟩, HP⟩
       case measure => (simp [intOf] <;> omega)
      | false =>
       rw [if_neg (by decide)] at hd
       obtain ⟨far, hfar, hd2⟩ := Option.bind_eq_some_iff.1 hd
       obtain ⟨⟨kl, ml, sn'⟩, hcoll, hd3⟩ := Option.bind_eq_some_iff.1 hd2
       obtain ⟨⟨bb, tt⟩, hbest, hd4⟩ := Option.bind_eq_some_iff.1 hd3
       clear hd hd2 hd3
       have hd := hd4
       clear hd4
       simp only at hbest hd
       have HFL := Aside0.mk (dist_length hfar)
       have HF := Aside0.mk hfar
       have HC := Aside0.mk hcoll
       have HBT := Aside0.mk hbest
       have HD := Aside0.mk hd
       clear hfar hcoll hbest hd
       have x0 := pw_cell_below HP.out.hB HG0.out
       have x1 := pw_cell_below HP.out.hB HG1.out
       have x2 := pw_cell_below HP.out.hB HG2.out
       have HEr := Aside0.mk (Kd.C_below HE0.out HP.out.hB)
       go_wp2_with (go_at_call 28; refine (dist_calls k _ _ _ _ _ _ _ _ far _ ⟨_, _, _, rfl⟩ ⟨_, rfl⟩ (Kd.C_below HEr.out (below_alloc (Below.refl _ _) _)) (C_one _ _) hn (by simp) HF.out).mono ?_; rintro e w2 ⟨v2, rfl, hr2, hb2⟩; obtain ⟨A2, c2, rfl⟩ := R_shape hr2; have hb12 := below_step (below_alloc (Below.refl _ _) _) hb2; have HP2 := Aside0.mk ((HP.out.below hb12).round (Kd.R_lower (R_ok hr2 T1 rfl (fun _ _ => trivial)) (Nat.le_trans HP.out.hB.size (by simp)))); clear hr2 hb2 hb12 hcs x0 x1 x2)
       clear HEr HP HF
       obtain ⟨gf, rfl, hz1, hz2⟩ := R_head HP2.out.hF (by rw [HFL.out]; omega)
       clear hz1 hz2
       obtain ⟨B, hB⟩ : ∃ B, B = w2.heap.size := ⟨_, rfl⟩
       have HP3 := HP2
       rw [← hB] at HP3
       have HCL' := HCL
       clear HP2 hB
       go_loopw [15, 16, 136] (fun v15 v16 v136 wr => ∃ (x : Nat) (cs ms : List Int) (sn : List Bool), x ≤ E.length ∧ v136 = .int .i64 x ∧ Aside0 (collF M far (E.length - x) x cs ms sn = some (kl, ml, sn')) ∧ Aside0 (cs.length ≤ x ∧ ms.length ≤ 1000000) ∧ Aside0 (Ph3 W0 B E.length (.slice (some ⟨gf, 0, none⟩) far.length c2) far (.slice A5 E.length c5) (.slice (some ⟨gs, 0, none⟩) E.length c6) u12 v15 v16 out ch sn cs ms wr)) (fun _ _ i _ => E.length - (intOf i).toNat)
       case atStart => exact ⟨0, [], [], seen, Nat.zero_le _, rfl, HC, ⟨⟨Nat.le_refl 0, by simp⟩⟩, HP3⟩
       case round =>
        clear HC HP3
        obtain ⟨x, cs, ms, sn, hx, rfl, HC, HS, HP⟩ := hrel
        by_cases hlx : x < E.length
        ·
         have hd := HC.out
         clear HC
         obtain ⟨d, hdd⟩ : ∃ d, E.length - x = d + 1 := ⟨E.length - x - 1, by omega⟩
         have hdn : E.length - (x + 1) = d := by omega
         rw [hdd] at hd
         simp only [collF] at hd
         rw [← hdn] at hd
         clear hdd hdn
         obtain ⟨y, hy⟩ : ∃ y, y = far.getD x 0 := ⟨_, rfl⟩
         have hxf : x < far.length := by rw [HFL.out]; exact hlx
         have hcf := (R_cellN 0 HP.out.hF x hxf).1
         rw [← hy] at hcf
         rw [show rd far (x : Int) = y from by rw [hy]; rfl] at hd
         have hfl' := HFL.out
         clear hy
         by_cases hyp : 0 ≤ y
         ·
          rw [if_pos hyp] at hd
          by_cases hml : ms.length + (M x).length ≤ 1000000
          case neg => rw [if_neg hml] at hd; cases hd
          rw [if_pos hml] at hd
          have HC := Aside0.mk hd
          have HML := Aside0.mk hml
          have hml' := hml
          have hsf := (R_cellN false HP.out.hS x hlx)
          have hsc := hsf.1
          have hsz := hsf.2
          clear hd hml hsf
          go_upto_region 30 with (fail)
          obtain ⟨W, hW⟩ : ∃ W, W = wr.setCell ⟨gs, x, none⟩ (.bool true) := ⟨_, rfl⟩
          have HPs := Aside0.mk (HP.out.see x)
          rw [← hW] at HPs ⊢
          clear hW hsc hsz hcf HP
          obtain ⟨Ax, cx, hlk, _, hCx⟩ := HM0.out.look hn (show (0 : Int) ≤ (x : Int) from by omega) (show (x : Int) < E.length from by omega)
          have HLK := Aside0.mk hlk
          have HCX := Aside0.mk hCx
          have g2 := pw_cell_below HPs.out.hB HG2.out
          have hlk2 := hlk _ HPs.out.hB
          clear hlk hCx
          refine start_ (n := 12) (S := fun w' => w'.cell? ⟨gb, 2, none⟩ = some (.map (some mb)) ∧ (Instr.lookup 50 (.map (some mb)) (.int .i64 x) false).run Try.prog w' = .ok (.slice Ax (M x).length cx) w') (ds := []) #[false, false, false, false, false, false, false, false, false, false, false, false] (by kernel_rfl) rfl rfl ⟨g2, (HLK.out _ (below_drew1 HPs.out.hB))⟩ (fun hHeld => ?_)
          have HPd := Aside0.mk (HPs.out.below (below_drew (Below.refl _ _)))
          clear HPs g2 hlk2
          generalize W.drew = wd at HPd hHeld ⊢
          refine pure_ (i := 0) (N := some 146) (v := ?_) (a' := ?_) #[true, false, false, false, false, false, false, false, false, false, false, false] rfl rfl (by kernel_rfl) (fun _ _ _ h => h) (Or.inl ⟨by rfl, ?_⟩) ?_ ?_
          rotate_left; (· intro w'; go_simp; with_reducible rfl)
          rotate_left; (· simp only [Act.put, List.setIfInBounds_toArray, List.set_cons_zero, List.set_cons_succ, i64_w, i32_w]; rfl)
          refine pure_ (i := 1) (N := some 147) (v := ?_) (a' := ?_) #[true, true, false, false, false, false, false, false, false, false, false, false] rfl rfl (by kernel_rfl) (fun _ _ _ h => h) (Or.inl ⟨by rfl, ?_⟩) ?_ ?_
          rotate_left; (· intro w'; go_simp; with_reducible rfl)
          rotate_left; (· simp only [Act.put, List.setIfInBounds_toArray, List.set_cons_zero, List.set_cons_succ, i64_w, i32_w]; rfl)
          refine pure_ (i := 4) (N := some 150) (v := ?_) (a' := ?_) #[true, true, false, false, true, false, false, false, false, false, false, false] rfl rfl (by kernel_rfl) (fun _ _ _ h => h) (Or.inl ⟨by rfl, ?_⟩) ?_ ?_
          rotate_left; (· intro w'; go_simp; with_reducible rfl)
          rotate_left; (· simp only [Act.put, List.setIfInBounds_toArray, List.set_cons_zero, List.set_cons_succ, i64_w, i32_w]; rfl)
          refine pure_ (i := 5) (N := some 151) (v := ?_) (a' := ?_) #[true, true, false, false, true, true, false, false, false, false, false, false] rfl rfl (by kernel_rfl) (fun _ _ _ h => h) (Or.inl ⟨by rfl, ?_⟩) ?_ ?_
          rotate_left; (· intro w'; go_simp; with_reducible rfl)
          rotate_left; (· simp only [Act.put, List.setIfInBounds_toArray, List.set_cons_zero, List.set_cons_succ, i64_w, i32_w]; rfl)
          refine pure_ (i := 7) (N := some 153) (v := ?_) (a' := ?_) #[true, true, false, false, true, true, false, true, false, false, false, false] rfl rfl (by kernel_rfl) (fun _ _ _ h => h) (Or.inl ⟨by rfl, ?_⟩) ?_ ?_
          rotate_left; (· intro w'; go_simp; with_reducible rfl)
          rotate_left; (· simp only [Act.put, List.setIfInBounds_toArray, List.set_cons_zero, List.set_cons_succ, i64_w, i32_w]; rfl)
          refine take_ (i := 6) (N := some 152) (v := ?_) (a' := ?_) #[true, true, false, false, true, true, true, true, false, false, false, false] rfl rfl (by kernel_rfl) (fun _ _ _ h => h) (Or.inl ⟨by rfl, ?_⟩) hHeld ?_ ?_
          rotate_left; (· rintro w' ⟨s0, s1⟩; go_simp; with_reducible rfl)
          rotate_left; (· simp only [Act.put, List.setIfInBounds_toArray, List.set_cons_zero, List.set_cons_succ, i64_w, i32_w]; rfl)
          refine take_ (i := 8) (N := some 154) (v := ?_) (a' := ?_) #[true, true, false, false, true, true, true, true, true, false, false, false] rfl rfl (by kernel_rfl) (fun _ _ _ h => h) (Or.inl ⟨by rfl, ?_⟩) hHeld ?_ ?_
          rotate_left; (· rintro w' ⟨s0, s1⟩; go_simp; with_reducible rfl)
          rotate_left; (· simp only [Act.put, List.setIfInBounds_toArray, List.set_cons_zero, List.set_cons_succ, i64_w, i32_w]; rfl)
          refine one_ (i := 2) (N := some 148) #[true, true, true, false, true, true, true, true, true, false, false, false] rfl rfl (by kernel_rfl) (by decide) (fun K hK => ?_)
          refine value_ (w1 := ?_) (v := ?_) (by rfl) rfl ?_ ?_
          rotate_left 2
          ·
           go_simp
           constructor
           · rfl
           · rfl
          refine hK.out _ _ ⟨(pw_cell_below (below_alloc HPd.out.hB _) HG2.out), (HLK.out _ (below_alloc HPd.out.hB _))⟩ (fun hHeld => ?_)
          clear hK K
          refine norm_ (a' := ?_) ?_ ?_
          rotate_left; (· show Act.put _ (some 148) _ = _; simp only [Act.put, List.setIfInBounds_toArray, List.set_cons_zero, List.set_cons_succ, i64_w, i32_w]; rfl)
          refine one_ (i := 3) (N := some 149) #[true, true, true, true, true, true, true, true, true, false, false, false] rfl rfl (by kernel_rfl) (by decide) (fun K hK => ?_)
          refine Kd.R_append_step (Kd.int .i64) B (by rfl) (.tmp 146) (.tmp 148) 33 3 (.int .i64 0) 8 (by rfl) Try.underlying33 info3 rfl (by decide) (by decide) _ cs (x : Int) [.int .i64 x] _ (fun _ => False) (by rfl) (by rfl) rfl (fun _ h => h.elim) HPd.out.apart HPd.out.hCl (Below.refl B wd) HPd.out.hBs.2 (by have := HS.out.1; omega) ?_
          intro v9 w9 ho9 _ hg9 hz9
          have H9 := Aside0.mk (HPd.out.app1 hg9 hz9 ho9 ⟨by omega, by omega⟩)
          clear ho9 hg9 hz9 HPd
          refine hK.out _ _ ⟨(pw_cell_below H9.out.hB HG2.out), (HLK.out _ H9.out.hB)⟩ (fun hHeld => ?_)
          clear hK K
          refine norm_ (a' := ?_) ?_ ?_
          rotate_left; (· show Act.put _ (some 149) _ = _; simp only [Act.put, List.setIfInBounds_toArray, List.set_cons_zero, List.set_cons_succ, i64_w, i32_w]; rfl)
          refine one_ (i := 9) (N := some 155) #[true, true, true, true, true, true, true, true, true, true, false, false] rfl rfl (by kernel_rfl) (by decide) (fun K hK => ?_)
          refine Kd.R_append_rows_step (Kd.int .i64) B (by rfl) (.tmp 150) (.tmp 154) 33 3 (.int .i64 0) 8 (by rfl) Try.underlying33 info3 rfl (by decide) (by decide) _ ms (M x) Ax (M x).length cx T1 (fun _ => False) (by rfl) (by rfl) H9.out.hMk (Kd.C_below HCX.out H9.out.hB) (fun _ _ h => h) (fun _ h => h.elim) (fun _ _ => trivial) (Below.refl B w9) H9.out.hBs.2 (by have := HML.out; omega) ?_
          intro v10 w10 ho10 _ hg10 hz10
          have H10 := Aside0.mk (H9.out.app2 hg10 hz10 ho10)
          clear ho10 hg10 hz10 H9
          refine hK.out _ _ ⟨(pw_cell_below H10.out.hB HG2.out), (HLK.out _ H10.out.hB)⟩ (fun hHeld => ?_)
          clear hK K
          refine norm_ (a' := ?_) ?_ ?_
          rotate_left; (· show Act.put _ (some 155) _ = _; simp only [Act.put, List.setIfInBounds_toArray, List.set_cons_zero, List.set_cons_succ, i64_w, i32_w]; rfl)
          refine pure_ (i := 10) (N := some 15) (v := ?_) (a' := ?_) #[true, true, true, true, true, true, true, true, true, true, true, false] rfl rfl (by kernel_rfl) (fun _ _ _ h => h) (Or.inl ⟨by rfl, ?_⟩) ?_ ?_
          rotate_left; (· intro w'; go_simp; with_reducible rfl)
          rotate_left; (· simp only [Act.put, List.setIfInBounds_toArray, List.set_cons_zero, List.set_cons_succ, i64_w, i32_w]; rfl)
          refine pure_ (i := 11) (N := some 16) (v := ?_) (a' := ?_) #[true, true, true, true, true, true, true, true, true, true, true, true] rfl rfl (by kernel_rfl) (fun _ _ _ h => h) (Or.inl ⟨by rfl, ?_⟩) ?_ ?_
          rotate_left; (· intro w'; go_simp; with_reducible rfl)
          rotate_left; (· simp only [Act.put, List.setIfInBounds_toArray, List.set_cons_zero, List.set_cons_succ, i64_w, i32_w]; rfl)
          refine done_ (by kernel_rfl) ?_
          clear hHeld HLK HCX HML
          go_wp2_with fail
          go_roundw
          case rel => exact ⟨x + 1, cs ++ [(x : Int)], ms ++ M x, sn.set x true, hlx, by go_num, HC, ⟨⟨by have := HS.out.1; simp; omega, by rw [List.length_append]; exact hml'⟩⟩, H10⟩
          case measure => (simp [intOf] <;> omega)
         ·
          rw [if_neg hyp] at hd
          have HC := Aside0.mk hd
          clear hd
          go_wp2
          go_roundw
          case rel => exact ⟨x + 1, cs, ms, sn, hlx, by go_num, HC, ⟨⟨by have := HS.out.1; omega, HS.out.2⟩⟩, HP⟩
          case measure => (simp [intOf] <;> omega)
        ·
         obtain rfl : E.length = x := by omega
         have hd := HC.out
         rw [Nat.sub_self] at hd
         simp only [collF, Option.some.injEq, Prod.mk.injEq] at hd
         obtain ⟨rfl, rfl, rfl⟩ := hd
         clear HC
         have hfl' := HFL.out
         go_upto_region 33 with (go_at_call 29; refine (sort_calls _ ms _ B _ HP.out.hMk (by have := HS.out.2; omega)).mono ?_; rintro e w3 ⟨rfl, hs3, hg3⟩; have HP3 := Aside0.mk (HP.out.app2 hg3 (.inl rfl) hs3); clear hs3 hg3 HP)
         obtain ⟨zs, hzs⟩ : ∃ zs, zs = sortI ms := ⟨_, rfl⟩
         have HBT' : Aside0 (bestF E L M k zs none z23 = some (bb, tt)) := ⟨by rw [hzs]; exact HBT.out⟩
         have HZL : Aside0 (zs.length ≤ 1000000) := ⟨by rw [hzs, ← sortI_eq, List.length_mergeSort]; exact HS.out.2⟩
         have HPz : Aside0 (Ph3 W0 B E.length (.slice (some ⟨gf, 0, none⟩) far.length c2) far (.slice A5 E.length c5) (.slice (some ⟨gs, 0, none⟩) E.length c6) u12 u15 u16 out ch sn cs zs w3) := ⟨by rw [hzs, ← sortI_eq]; exact HP3.out⟩
         clear HP3 hzs HBT
         obtain ⟨Az, cz, rfl⟩ := R_shape HPz.out.hMk
         obtain ⟨tb, htb⟩ : ∃ tb, tb = w3.heap.size := ⟨_, rfl⟩
         have HTBE := Aside0.mk htb
         go_upto_region 35 with (fail)
         obtain ⟨Wm, hWm, HBm, HTm⟩ : ∃ Wm : World, w3.alloc (.cells #[.int .i64 0, .int .i64 0, .string ⟨#[]⟩] 23) = Wm ∧ Aside0 (Below w3.heap.size w3 Wm) ∧ Aside0 (Wm.heap[tb]? = some (.cells #[.int .i64 0, .int .i64 0, .string ⟨#[]⟩] 23 (0, 0))) := ⟨_, rfl, ⟨below_alloc (Below.refl _ _) _⟩, ⟨by rw [htb]; exact heap_alloc_new _ _⟩⟩
         rw [hWm, ← htb]
         clear hWm htb
         go_wp2_with fail
         have HPz' := HPz
         go_loopw [19, 161] (fun v19 v161 wr => ∃ (x : Nat) (b : Option (List Int)) (t : S23), x ≤ zs.length ∧ v161 = .int .i64 x ∧ Aside0 (bestF E L M k (zs.drop x) b t = some (bb, tt)) ∧ Aside0 (wr.heap[tb]? = some (.cells #[.int .i64 t.f0, .int .i64 t.f1, .string t.f2] 23 (0, 0))) ∧ Aside0 (BestAt tb wr b v19) ∧ Aside0 (Below w3.heap.size w3 wr)) (fun _ i _ => zs.length - (intOf i).toNat)
         case atStart => exact ⟨0, none, z23, Nat.zero_le _, rfl, HBT', HTm, ⟨rfl⟩, HBm⟩
         case round =>
          clear HBT' HTm HBm
          obtain ⟨x, b, t, hx, rfl, HC, HTBr, HBA, HB⟩ := hrel
          have hzl : zs.length ≤ 1000000 := HZL.out
          by_cases hlz : x < zs.length
          ·
           have hd := HC.out
           clear HC
           rw [drop_cons 0 _ _ hlz] at hd
           simp only [bestF] at hd
           obtain ⟨i, hi⟩ : ∃ i, i = zs.getD x 0 := ⟨_, rfl⟩
           obtain ⟨gz, rfl, hz1, hz2⟩ := R_head HPz.out.hMk (by omega)
           clear hz1 hz2
           have hcz := (R_cellN 0 (Kd.R_below HPz.out.hMk HB.out) x hlz).1
           rw [← hi] at hcz hd
           clear hi
           by_cases hir : 0 ≤ i ∧ i < (L.length : Int)
           case neg => rw [if_neg hir] at hd; cases hd
           rw [if_pos hir] at hd
           obtain ⟨hi0, hi1⟩ := hir
           obtain ⟨rr, hch, hd2⟩ := Option.bind_eq_some_iff.1 hd
           have HBw := Aside0.mk (below_step HPz.out.hB HB.out)
           obtain ⟨al, rfl, _, _, _, c3, c4, c5, _⟩ := at_T36 (Kd.C_below HL0.out HBw.out) i hi0 hi1
           obtain ⟨ma, hma⟩ : ∃ m, m = (rd_T36 L i).f3 := ⟨_, rfl⟩
           rw [← hma] at c3 c4 c5 hd2
           clear hma hd
           obtain ⟨m0, m1, m2⟩ := ma
           simp only at c3 c4 c5
           have HCH := Aside0.mk hch
           have HCC := Aside0.mk hd2
           clear hch hd2
           have x0 := pw_cell_below HBw.out HG0.out
           have x1 := pw_cell_below HBw.out HG1.out
           have x2 := pw_cell_below HBw.out HG2.out
           cases rr with
           | none =>
            go_upto_region 41 with (go_at_call 30; refine (chain_calls k (some al) cl L _ _ E mb M i _ _ (Kd.C_below HL0.out HBw.out) (Kd.C_below HE0.out HBw.out) (HM0.out.below HBw.out) hn HCH.out).mono ?_; rintro e w4 ⟨hpost, hb4⟩; obtain rfl := chainpost_none hpost; have HB2 := Aside0.mk (below_step HB.out hb4); have HTB2 := Aside0.mk (blk_below HTBr.out hb4); replace c3 := pw_cell_below hb4 c3; replace c4 := pw_cell_below hb4 c4; replace c5 := pw_cell_below hb4 c5; have HBEST := Aside0.mk (show BestAt tb w4 (pickB b none) _ from HBA.out.below hb4); clear hpost hb4 x0 x1 x2 hcz)
            have hpT : ∀ tv, (m0 ≠ 5 ∧ m0 ≠ 6 → tv = (⟨m0, m1, m2⟩ : S23)) → (¬ (m0 ≠ 5 ∧ m0 ≠ 6) → tv = t) → pickT ⟨m0, m1, m2⟩ t = tv := fun tv h1 h2 => by
             unfold pickT
             simp only
             by_cases hk : m0 ≠ 5 ∧ m0 ≠ 6
             · rw [if_pos hk, h1 hk]
             · rw [if_neg hk, h2 hk]
            go_upto_region 42 with (fail)
            rcases (show m0 = 5 ∨ m0 = 6 ∨ (m0 ≠ 5 ∧ m0 ≠ 6) from by omega) with h5 | h5 | ⟨h5, h6⟩
            ·
             rw [hpT t (fun h => absurd h5 h.1) (fun _ => rfl)] at HCC
             subst h5
             clear hpT
             go_wp2
             go_roundw
             case rel => exact ⟨x + 1, _, t, hlz, by go_num, HCC, HTB2, HBEST, HB2⟩
             case measure => (simp [intOf] <;> omega)
            ·
             rw [hpT t (fun h => absurd h5 h.2) (fun _ => rfl)] at HCC
             subst h5
             clear hpT
             go_wp2
             go_roundw
             case rel => exact ⟨x + 1, _, t, hlz, by go_num, HCC, HTB2, HBEST, HB2⟩
             case measure => (simp [intOf] <;> omega)
            ·
             rw [hpT ⟨m0, m1, m2⟩ (fun _ => rfl) (fun h => absurd ⟨h5, h6⟩ h)] at HCC
             clear hpT
             have h5b : (m0 != 5) = true := bne_iff_ne.mpr h5
             have h6b : (m0 != 6) = true := bne_iff_ne.mpr h6
             go_upto_region 43 with (fail)
             have ht0 : w4.cell? ⟨tb, 0, none⟩ = some (.int .i64 t.f0) := by rw [blk_cell HTB2.out]; rfl
             have ht1 : w4.cell? ⟨tb, 1, none⟩ = some (.int .i64 t.f1) := by rw [blk_cell HTB2.out]; rfl
             have ht2 : w4.cell? ⟨tb, 2, none⟩ = some (.string t.f2) := by rw [blk_cell HTB2.out]; rfl
             have hf0 : w4.frozen? ⟨tb, 0, none⟩ = false := blk_frozen HTB2.out 0
             have hf1 : w4.frozen? ⟨tb, 1, none⟩ = false := blk_frozen HTB2.out 1
             have hf2 : w4.frozen? ⟨tb, 2, none⟩ = false := blk_frozen HTB2.out 2
             have hS := blk_set (blk_set (blk_set HTB2.out 0 (.int .i64 m0)) 1 (.int .i64 m1)) 2 (.string m2)
             have hBS := (((HBEST.out.set HTB2.out 0 (.int .i64 m0)).set (blk_set HTB2.out 0 (.int .i64 m0)) 1 (.int .i64 m1)).set (blk_set (blk_set HTB2.out 0 (.int .i64 m0)) 1 (.int .i64 m1)) 2 (.string m2))
             have hB3 := (((HB2.out.setCell (p := ⟨tb, 0, none⟩) (Nat.le_of_eq HTBE.out.symm) (.int .i64 m0)).setCell (p := ⟨tb, 1, none⟩) (Nat.le_of_eq HTBE.out.symm) (.int .i64 m1)).setCell (p := ⟨tb, 2, none⟩) (Nat.le_of_eq HTBE.out.symm) (.string m2))
             have HS3 := Aside0.mk hS
             have HBS3 := Aside0.mk hBS
             have HB3 := Aside0.mk hB3
             clear hS hBS hB3
             go_wp2
             go_roundw
             case rel => exact ⟨x + 1, _, ⟨m0, m1, m2⟩, hlz, by go_num, HCC, HS3, HBS3, HB3⟩
             case measure => (simp [intOf] <;> omega)
           | some cc =>
            cases b with
            | none =>
             have hv19 : u19 = nilV := HBA.out
             subst hv19
             go_upto_region 41 with (go_at_call 30; refine (chain_calls k (some al) cl L _ _ E mb M i _ _ (Kd.C_below HL0.out HBw.out) (Kd.C_below HE0.out HBw.out) (HM0.out.below HBw.out) hn HCH.out).mono ?_; rintro e w4 ⟨hpost, hb4⟩; obtain ⟨Ac, cc2, rfl, hbest⟩ := chainpost_some hpost (show tb ≤ wr.heap.size from by rw [HTBE.out]; exact HB.out.size); have HB2 := Aside0.mk (below_step HB.out hb4); have HTB2 := Aside0.mk (blk_below HTBr.out hb4); replace c3 := pw_cell_below hb4 c3; replace c4 := pw_cell_below hb4 c4; replace c5 := pw_cell_below hb4 c5; have HBEST := Aside0.mk (show BestAt tb w4 (pickB none (some cc)) _ from hbest); clear hbest; clear hpost hb4 x0 x1 x2 hcz)
             have hpT : ∀ tv, (m0 ≠ 5 ∧ m0 ≠ 6 → tv = (⟨m0, m1, m2⟩ : S23)) → (¬ (m0 ≠ 5 ∧ m0 ≠ 6) → tv = t) → pickT ⟨m0, m1, m2⟩ t = tv := fun tv h1 h2 => by
              unfold pickT
              simp only
              by_cases hk : m0 ≠ 5 ∧ m0 ≠ 6
              · rw [if_pos hk, h1 hk]
              · rw [if_neg hk, h2 hk]
             go_upto_region 42 with (fail)
             rcases (show m0 = 5 ∨ m0 = 6 ∨ (m0 ≠ 5 ∧ m0 ≠ 6) from by omega) with h5 | h5 | ⟨h5, h6⟩
             ·
              rw [hpT t (fun h => absurd h5 h.1) (fun _ => rfl)] at HCC
              subst h5
              clear hpT
              go_wp2
              go_roundw
              case rel => exact ⟨x + 1, _, t, hlz, by go_num, HCC, HTB2, HBEST, HB2⟩
              case measure => (simp [intOf] <;> omega)
             ·
              rw [hpT t (fun h => absurd h5 h.2) (fun _ => rfl)] at HCC
              subst h5
              clear hpT
              go_wp2
              go_roundw
              case rel => exact ⟨x + 1, _, t, hlz, by go_num, HCC, HTB2, HBEST, HB2⟩
              case measure => (simp [intOf] <;> omega)
             ·
              rw [hpT ⟨m0, m1, m2⟩ (fun _ => rfl) (fun h => absurd ⟨h5, h6⟩ h)] at HCC
              clear hpT
              have h5b : (m0 != 5) = true := bne_iff_ne.mpr h5
              have h6b : (m0 != 6) = true := bne_iff_ne.mpr h6
              go_upto_region 43 with (fail)
              have ht0 : w4.cell? ⟨tb, 0, none⟩ = some (.int .i64 t.f0) := by rw [blk_cell HTB2.out]; rfl
              have ht1 : w4.cell? ⟨tb, 1, none⟩ = some (.int .i64 t.f1) := by rw [blk_cell HTB2.out]; rfl
              have ht2 : w4.cell? ⟨tb, 2, none⟩ = some (.string t.f2) := by rw [blk_cell HTB2.out]; rfl
              have hf0 : w4.frozen? ⟨tb, 0, none⟩ = false := blk_frozen HTB2.out 0
              have hf1 : w4.frozen? ⟨tb, 1, none⟩ = false := blk_frozen HTB2.out 1
              have hf2 : w4.frozen? ⟨tb, 2, none⟩ = false := blk_frozen HTB2.out 2
              have hS := blk_set (blk_set (blk_set HTB2.out 0 (.int .i64 m0)) 1 (.int .i64 m1)) 2 (.string m2)
              have hBS := (((HBEST.out.set HTB2.out 0 (.int .i64 m0)).set (blk_set HTB2.out 0 (.int .i64 m0)) 1 (.int .i64 m1)).set (blk_set (blk_set HTB2.out 0 (.int .i64 m0)) 1 (.int .i64 m1)) 2 (.string m2))
              have hB3 := (((HB2.out.setCell (p := ⟨tb, 0, none⟩) (Nat.le_of_eq HTBE.out.symm) (.int .i64 m0)).setCell (p := ⟨tb, 1, none⟩) (Nat.le_of_eq HTBE.out.symm) (.int .i64 m1)).setCell (p := ⟨tb, 2, none⟩) (Nat.le_of_eq HTBE.out.symm) (.string m2))
              have HS3 := Aside0.mk hS
              have HBS3 := Aside0.mk hBS
              have HB3 := Aside0.mk hB3
              clear hS hBS hB3
              go_wp2
              go_roundw
              case rel => exact ⟨x + 1, _, ⟨m0, m1, m2⟩, hlz, by go_num, HCC, HS3, HBS3, HB3⟩
              case measure => (simp [intOf] <;> omega)
            | some bd =>
             obtain ⟨Ab, cb, rfl, hrb⟩ := HBA.out
             have HRB := Aside0.mk hrb
             clear hrb
             by_cases hle : cc.length < bd.length
             ·
              have hpB : pickB (some bd) (some cc) = some cc := by simp [pickB, hle]
              rw [hpB] at HCC
              clear hpB
              go_upto_region 41 with (go_at_call 30; refine (chain_calls k (some al) cl L _ _ E mb M i _ _ (Kd.C_below HL0.out HBw.out) (Kd.C_below HE0.out HBw.out) (HM0.out.below HBw.out) hn HCH.out).mono ?_; rintro e w4 ⟨hpost, hb4⟩; obtain ⟨Ac, cc2, rfl, hbest⟩ := chainpost_some hpost (show tb ≤ wr.heap.size from by rw [HTBE.out]; exact HB.out.size); have HB2 := Aside0.mk (below_step HB.out hb4); have HTB2 := Aside0.mk (blk_below HTBr.out hb4); replace c3 := pw_cell_below hb4 c3; replace c4 := pw_cell_below hb4 c4; replace c5 := pw_cell_below hb4 c5; have HBEST := Aside0.mk hbest; clear hbest; clear hpost hb4 x0 x1 x2 hcz)
              have hpT : ∀ tv, (m0 ≠ 5 ∧ m0 ≠ 6 → tv = (⟨m0, m1, m2⟩ : S23)) → (¬ (m0 ≠ 5 ∧ m0 ≠ 6) → tv = t) → pickT ⟨m0, m1, m2⟩ t = tv := fun tv h1 h2 => by
               unfold pickT
               simp only
               by_cases hk : m0 ≠ 5 ∧ m0 ≠ 6
               · rw [if_pos hk, h1 hk]
               · rw [if_neg hk, h2 hk]
              go_upto_region 42 with (fail)
              rcases (show m0 = 5 ∨ m0 = 6 ∨ (m0 ≠ 5 ∧ m0 ≠ 6) from by omega) with h5 | h5 | ⟨h5, h6⟩
              ·
               rw [hpT t (fun h => absurd h5 h.1) (fun _ => rfl)] at HCC
               subst h5
               clear hpT
               go_wp2
               go_roundw
               case rel => exact ⟨x + 1, _, t, hlz, by go_num, HCC, HTB2, HBEST, HB2⟩
               case measure => (simp [intOf] <;> omega)
              ·
               rw [hpT t (fun h => absurd h5 h.2) (fun _ => rfl)] at HCC
               subst h5
               clear hpT
               go_wp2
               go_roundw
               case rel => exact ⟨x + 1, _, t, hlz, by go_num, HCC, HTB2, HBEST, HB2⟩
               case measure => (simp [intOf] <;> omega)
              ·
               rw [hpT ⟨m0, m1, m2⟩ (fun _ => rfl) (fun h => absurd ⟨h5, h6⟩ h)] at HCC
               clear hpT
               have h5b : (m0 != 5) = true := bne_iff_ne.mpr h5
               have h6b : (m0 != 6) = true := bne_iff_ne.mpr h6
               go_upto_region 43 with (fail)
               have ht0 : w4.cell? ⟨tb, 0, none⟩ = some (.int .i64 t.f0) := by rw [blk_cell HTB2.out]; rfl
               have ht1 : w4.cell? ⟨tb, 1, none⟩ = some (.int .i64 t.f1) := by rw [blk_cell HTB2.out]; rfl
               have ht2 : w4.cell? ⟨tb, 2, none⟩ = some (.string t.f2) := by rw [blk_cell HTB2.out]; rfl
               have hf0 : w4.frozen? ⟨tb, 0, none⟩ = false := blk_frozen HTB2.out 0
               have hf1 : w4.frozen? ⟨tb, 1, none⟩ = false := blk_frozen HTB2.out 1
               have hf2 : w4.frozen? ⟨tb, 2, none⟩ = false := blk_frozen HTB2.out 2
               have hS := blk_set (blk_set (blk_set HTB2.out 0 (.int .i64 m0)) 1 (.int .i64 m1)) 2 (.string m2)
               have hBS := (((HBEST.out.set HTB2.out 0 (.int .i64 m0)).set (blk_set HTB2.out 0 (.int .i64 m0)) 1 (.int .i64 m1)).set (blk_set (blk_set HTB2.out 0 (.int .i64 m0)) 1 (.int .i64 m1)) 2 (.string m2))
               have hB3 := (((HB2.out.setCell (p := ⟨tb, 0, none⟩) (Nat.le_of_eq HTBE.out.symm) (.int .i64 m0)).setCell (p := ⟨tb, 1, none⟩) (Nat.le_of_eq HTBE.out.symm) (.int .i64 m1)).setCell (p := ⟨tb, 2, none⟩) (Nat.le_of_eq HTBE.out.symm) (.string m2))
               have HS3 := Aside0.mk hS
               have HBS3 := Aside0.mk hBS
               have HB3 := Aside0.mk hB3
               clear hS hBS hB3
               go_wp2
               go_roundw
               case rel => exact ⟨x + 1, _, ⟨m0, m1, m2⟩, hlz, by go_num, HCC, HS3, HBS3, HB3⟩
               case measure => (simp [intOf] <;> omega)
             ·
              have hpB : pickB (some bd) (some cc) = some bd := by simp [pickB, hle]
              rw [hpB] at HCC
              clear hpB
              go_upto_region 41 with (go_at_call 30; refine (chain_calls k (some al) cl L _ _ E mb M i _ _ (Kd.C_below HL0.out HBw.out) (Kd.C_below HE0.out HBw.out) (HM0.out.below HBw.out) hn HCH.out).mono ?_; rintro e w4 ⟨hpost, hb4⟩; obtain ⟨Ac, cc2, rfl, hbest⟩ := chainpost_some hpost (show tb ≤ wr.heap.size from by rw [HTBE.out]; exact HB.out.size); have HB2 := Aside0.mk (below_step HB.out hb4); have HTB2 := Aside0.mk (blk_below HTBr.out hb4); replace c3 := pw_cell_below hb4 c3; replace c4 := pw_cell_below hb4 c4; replace c5 := pw_cell_below hb4 c5; have HBEST := Aside0.mk (show BestAt tb w4 (some bd) (.slice (some Ab) bd.length cb) from ⟨Ab, cb, rfl, Kd.R_below HRB.out hb4⟩); clear hbest; clear hpost hb4 x0 x1 x2 hcz)
              have hpT : ∀ tv, (m0 ≠ 5 ∧ m0 ≠ 6 → tv = (⟨m0, m1, m2⟩ : S23)) → (¬ (m0 ≠ 5 ∧ m0 ≠ 6) → tv = t) → pickT ⟨m0, m1, m2⟩ t = tv := fun tv h1 h2 => by
               unfold pickT
               simp only
               by_cases hk : m0 ≠ 5 ∧ m0 ≠ 6
               · rw [if_pos hk, h1 hk]
               · rw [if_neg hk, h2 hk]
              go_upto_region 42 with (fail)
              rcases (show m0 = 5 ∨ m0 = 6 ∨ (m0 ≠ 5 ∧ m0 ≠ 6) from by omega) with h5 | h5 | ⟨h5, h6⟩
              ·
               rw [hpT t (fun h => absurd h5 h.1) (fun _ => rfl)] at HCC
               subst h5
               clear hpT
               go_wp2
               go_roundw
               case rel => exact ⟨x + 1, _, t, hlz, by go_num, HCC, HTB2, HBEST, HB2⟩
               case measure => (simp [intOf] <;> omega)
              ·
               rw [hpT t (fun h => absurd h5 h.2) (fun _ => rfl)] at HCC
               subst h5
               clear hpT
               go_wp2
               go_roundw
               case rel => exact ⟨x + 1, _, t, hlz, by go_num, HCC, HTB2, HBEST, HB2⟩
               case measure => (simp [intOf] <;> omega)
              ·
               rw [hpT ⟨m0, m1, m2⟩ (fun _ => rfl) (fun h => absurd ⟨h5, h6⟩ h)] at HCC
               clear hpT
               have h5b : (m0 != 5) = true := bne_iff_ne.mpr h5
               have h6b : (m0 != 6) = true := bne_iff_ne.mpr h6
               go_upto_region 43 with (fail)
               have ht0 : w4.cell? ⟨tb, 0, none⟩ = some (.int .i64 t.f0) := by rw [blk_cell HTB2.out]; rfl
               have ht1 : w4.cell? ⟨tb, 1, none⟩ = some (.int .i64 t.f1) := by rw [blk_cell HTB2.out]; rfl
               have ht2 : w4.cell? ⟨tb, 2, none⟩ = some (.string t.f2) := by rw [blk_cell HTB2.out]; rfl
               have hf0 : w4.frozen? ⟨tb, 0, none⟩ = false := blk_frozen HTB2.out 0
               have hf1 : w4.frozen? ⟨tb, 1, none⟩ = false := blk_frozen HTB2.out 1
               have hf2 : w4.frozen? ⟨tb, 2, none⟩ = false := blk_frozen HTB2.out 2
               have hS := blk_set (blk_set (blk_set HTB2.out 0 (.int .i64 m0)) 1 (.int .i64 m1)) 2 (.string m2)
               have hBS := (((HBEST.out.set HTB2.out 0 (.int .i64 m0)).set (blk_set HTB2.out 0 (.int .i64 m0)) 1 (.int .i64 m1)).set (blk_set (blk_set HTB2.out 0 (.int .i64 m0)) 1 (.int .i64 m1)) 2 (.string m2))
               have hB3 := (((HB2.out.setCell (p := ⟨tb, 0, none⟩) (Nat.le_of_eq HTBE.out.symm) (.int .i64 m0)).setCell (p := ⟨tb, 1, none⟩) (Nat.le_of_eq HTBE.out.symm) (.int .i64 m1)).setCell (p := ⟨tb, 2, none⟩) (Nat.le_of_eq HTBE.out.symm) (.string m2))
               have HS3 := Aside0.mk hS
               have HBS3 := Aside0.mk hBS
               have HB3 := Aside0.mk hB3
               clear hS hBS hB3
               go_wp2
               go_roundw
               case rel => exact ⟨x + 1, _, ⟨m0, m1, m2⟩, hlz, by go_num, HCC, HS3, HBS3, HB3⟩
               case measure => (simp [intOf] <;> omega)
          ·
           obtain rfl : zs.length = x := by omega
           have hd := HC.out
           rw [List.drop_length] at hd
           simp only [bestF, Option.some.injEq, Prod.mk.injEq] at hd
           obtain ⟨rfl, rfl⟩ := hd
           clear HC
           have HPe := Aside0.mk (HPz.out.below HB.out)
           have HTBB : Aside0 (B ≤ tb) := ⟨by rw [HTBE.out]; exact HPz.out.hBs.2⟩
           cases b with
           | some c =>
            obtain ⟨Ab, cb, hu, hrb⟩ := HBA.out
            subst hu
            have HD2 : Aside0 (outerF E L M k (E.length - (v + 1)) (v + 1) out (ch ++ [c]) sn = some (qo, qc)) := ⟨HD.out⟩
            have HRB := Aside0.mk (Kd.R_lower (base' := W0.heap.size) (R_ok hrb (fun k => tb ≤ k) rfl (Kd.R_base hrb)) (Nat.le_trans HPz.out.hBs.1 HTBB.out))
            have HOK : Aside0 (∀ k, tb ≤ k → T1 k ∧ some k ≠ u12.ownBlock) := ⟨fun k hk => ⟨trivial, fun he => by have := HPe.out.hC.1 k he.symm; have := HTBB.out; omega⟩⟩
            have HCC := Aside0.mk (Kd.R_mono (ok' := T1) HPe.out.hC (fun _ _ => trivial))
            have hcl' := HCL.out
            clear hrb HD
            go_wp2_with (at_builtin; refine Kd.R_append kII W0.heap.size rfl (.tmp 204) (.tmp 206) 29 33 (.slice none 0 0) 24 rfl Try.underlying29 info33 rfl (by decide) (by decide) _ ch c [.slice (some Ab) c.length cb] T1 (fun k => tb ≤ k) rfl rfl ⟨_, rfl, HRB.out⟩ HOK.out (fun _ _ => trivial) HCC.out HPe.out.hB HPe.out.hB.size (by omega) ?_; intro v7 w7 ho7 hb7 hg7 hz7; have HP7 := Aside0.mk (HPe.out.close.chain hg7 ho7); clear ho7 hb7 hg7 hz7)
            go_roundw
            case rel => exact ⟨v + 1, out, ch ++ [c], sn, hlt, by go_num, HD2, ⟨by simp; omega⟩, HP7⟩
            case measure => (simp [intOf] <;> omega)
           | none =>
            have hv19 : u19 = nilV := HBA.out
            subst hv19
            have HD2 : Aside0 (outerF E L M k (E.length - (v + 1)) (v + 1) (fillF t cs out) ch sn = some (qo, qc)) := ⟨HD.out⟩
            clear HD
            obtain ⟨Ac, cc, rfl⟩ := R_shape HPe.out.hCl
            obtain ⟨ob, rfl, hz1, hz2⟩ := R_head HPe.out.hO (by omega)
            have HOB : Aside0 (ob < tb) := ⟨by have h1 := Kd.R_lt HPz.out.hO ob rfl; rw [HTBE.out]; exact h1⟩
            clear hz1 hz2
            have hcsl : cs.length ≤ 4096 := by have := HS.out.1; omega
            go_wp2_with fail
            have HTe := HTBr
            go_loopw [210] (fun v210 wr => ∃ (x : Nat) (o2 : List S23), x ≤ cs.length ∧ v210 = .int .i64 x ∧ Aside0 (fillF t (cs.drop x) o2 = fillF t cs out) ∧ Aside0 (wr.heap[tb]? = some (.cells #[.int .i64 t.f0, .int .i64 t.f1, .string t.f2] 23 (0, 0))) ∧ Aside0 (Ph3 W0 B E.length (.slice (some ⟨gf, 0, none⟩) far.length c2) far (.slice (some ⟨ob, 0, none⟩) E.length c5) (.slice (some ⟨gs, 0, none⟩) E.length c6) u12 (.slice Ac cs.length cc) (.slice Az zs.length cz) o2 ch sn cs zs wr)) (fun i _ => cs.length - (intOf i).toNat)
            case atStart => exact ⟨0, out, Nat.zero_le _, rfl, ⟨rfl⟩, HTe, HPe⟩
            case round =>
             clear HTe HPe HPz HPz' HTBr HBA HB
             obtain ⟨x, o2, hxc, rfl, HF2, HTBr, HPe⟩ := hrel
             by_cases hlc : x < cs.length
             ·
              have hd := HF2.out
              rw [drop_cons 0 _ _ hlc] at hd
              simp only [fillF] at hd
              obtain ⟨i, hi⟩ : ∃ i, i = cs.getD x 0 := ⟨_, rfl⟩
              obtain ⟨gk, rfl, hz1, hz2⟩ := R_head HPe.out.hCl (by omega)
              clear hz1 hz2
              have hck := (R_cellN 0 HPe.out.hCl x hlc).1
              obtain ⟨hi0, hi1⟩ : 0 ≤ i ∧ i < (E.length : Int) := HPe.out.hcr i (by rw [hi, List.getD_eq_getElem?_getD, List.getElem?_eq_getElem hlc]; exact List.getElem_mem _)
              rw [← hi] at hck hd
              have HF3 := Aside0.mk hd
              clear hi hd HF2
              obtain ⟨c, hcl, hM, hcc, hfr⟩ := Kd.R_elem HPe.out.hO z23 i hi0 hi1
              have HCc := Aside0.mk hcc
              have HCl := Aside0.mk (show c.length = 3 from hcl)
              have ht0 : wr.cell? ⟨tb, 0, none⟩ = some (.int .i64 t.f0) := by rw [blk_cell HTBr.out]; rfl
              have ht1 : wr.cell? ⟨tb, 1, none⟩ = some (.int .i64 t.f1) := by rw [blk_cell HTBr.out]; rfl
              have ht2 : wr.cell? ⟨tb, 2, none⟩ = some (.string t.f2) := by rw [blk_cell HTBr.out]; rfl
              clear hcl hM hcc hfr
              go_wp2_with ((with_reducible refine gate_store (t := 23) (p := 217) rfl ?_); refine Kd.R_store k23 W0.heap.size rfl rfl 23 (.tmp 217) (.tmp 216) rfl 23 i 0 o2 t (.agg #[.int .i64 t.f0, .int .i64 t.f1, .string t.f2]) [.int .i64 t.f0, .int .i64 t.f1, .string t.f2] c T1 (fun _ => False) rfl rfl rfl rfl info23s (one23 t) HPe.out.hO hi0 hi1 HCl.out HCc.out (Nat.le_refl 3) (put23 HCl.out t) (fun _ h => h.elim) HPe.out.hB ?_; intro w7 hr7 hb7 hg7; have HP7 := Aside0.mk (HPe.out.fill hg7 hr7); have HT7 := Aside0.mk (blk_grown HTBr.out hg7 (by have := HOB.out; simp; omega)); clear hr7 hb7 hg7)
              go_roundw
              case rel => exact ⟨x + 1, _, hlc, by go_num, HF3, HT7, HP7⟩
              case measure => (simp [intOf] <;> omega)
             ·
              obtain rfl : cs.length = x := by omega
              have hd := HF2.out
              rw [List.drop_length] at hd
              simp only [fillF] at hd
              subst hd
              go_wp2_with fail
              go_roundw
              case rel => exact ⟨v + 1, _, ch, sn, hlt, by go_num, HD2, ⟨Nat.le_succ_of_le HCL.out⟩, ⟨HPe.out.close⟩⟩
              case measure => (simp [intOf] <;> omega)
     ·
      obtain rfl : E.length = v := by omega
      have hd := HD.out
      rw [Nat.sub_self] at hd
      simp only [outerF, Option.some.injEq, Prod.mk.injEq] at hd
      obtain ⟨rfl, rfl⟩ := hd
      go_wp2
      go_ret3
      exact ⟨_, _, rfl, Kd.R_lower HP.out.hO HW0.out.size, Kd.R_lower HP.out.hC HW0.out.size, below_step HW0.out HP.out.hB⟩
end Go.Proofs.Ytjbafigageingaa
