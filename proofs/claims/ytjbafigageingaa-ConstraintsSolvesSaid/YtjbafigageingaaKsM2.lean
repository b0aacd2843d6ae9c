import Derived.Test.YtjbafigageingaaKsM1
import Derived.Test.YtjbafigageingaaKsPFx1
import Derived.Test.YtjbafigageingaaProg
import Derived.Test.YtjbafigageingaaKsW
import Derived.Below
import Derived.Deep.Draws
import Derived.Deep.AppendLies
import Derived.Maps.AppendAt
import Derived.OwnWalk
import Derived.Laws.BytesArg
import Derived.Laws.MakeOwn
import Derived.Laws.OwnMore
import Derived.Deep.OwnRows
import Derived.Tactics
import Derived.Lib.ConvBytes
import Derived.Laws.Slices
import Derived.WalkKit
import Derived.KernelRfl
import Derived.RowKit3
import Derived.Deep.LoopGhost
import Derived.Deep.QuietTactic
import Derived.BigQuiet
import Derived.WideLaws
import Derived.Deep.DeepCutAuto
import Derived.Deep.CutBlock
import Derived.Deep.RegionHeld3
import Derived.Laws.Rows
import Derived.Lib.AppendStr
import Derived.ArgAppend
import Derived.Laws.IdiomCopy
import Derived.OrdersHeld
import Derived.Laws.BitsLemmas
import Derived.RowKit
import Derived.Test.YtjbafigageingaaKsM0
import Derived.WalkSpells
import Derived.Outline
import Derived.Maps.OwnSet
import Derived.Maps.RangeWalk
import Derived.StillTailTactics
namespace Go.Proofs.Ytjbafigageingaa
open Go.RowKit Go.Proofs.YtjbafigageingaaW.PrintWords Go.Proofs.YtjbafigageingaaW.PrintLast Go.Proofs.YtjbafigageingaaW.PrintMore
set_option linter.unusedVariables false
set_option linter.unusedSimpArgs false
theorem valid_step {N : Nat} {l : List S36} {i : Nat} (hi : i < l.length) (hl : l.length ≤ 1000000) (k : Nat) :
    (ValidC N (rd_T36 l i) → PF.assessorref09_valid.l0 (k + 3) N l i = PF.assessorref09_valid.l0 (k + 1) N l ((i + 1 : Nat) : Int)) ∧
    (¬ ValidC N (rd_T36 l i) → PF.assessorref09_valid.l0 (k + 3) N l i = some 1) := by
  have hw : wrap64 ((i : Int) + 1) = ((i + 1 : Nat) : Int) := by rw [wrap_small _ (by omega)]; omega
  generalize hR : PF.assessorref09_valid.l0 (k + 1) N l ((i + 1 : Nat) : Int) = R
  simp only [PF.assessorref09_valid.l0]
  rw [if_pos (by omega : (i : Int) < (l.length : Int)), if_pos (by omega : (0 : Int) ≤ (i : Int))]
  simp only [PF.assessorref09_valid.j2, hw, refIsMark, Option.bind_some, hR]
  generalize rd_T36 l i = c
  unfold ValidC InN
  constructor
  · rintro ⟨⟨h1, h2⟩, h3⟩
    rw [if_neg (by omega), if_neg (by omega)]
    rcases h3 with ⟨h3, h4⟩ | ⟨h3, h4, h5⟩
    · simp [h3, h4]
    · rw [if_neg (by omega)]
      have : ¬ c.f2 < 0 := by omega
      have : ¬ (N : Int) ≤ c.f2 := by omega
      simp [h3, *]
  · intro h
    by_cases h1 : c.f1 < 0
    · simp [h1]
    · by_cases h2 : c.f1 ≥ (N : Int)
      · simp [h1, h2]
      · rw [if_neg h1, if_neg h2]
        by_cases h3 : c.f0 = 0
        · have : ¬ isMarkB c.f3 = true := fun hm => h ⟨by omega, .inl ⟨h3, hm⟩⟩
          simp [h3, this]
        · rw [if_neg h3]
          by_cases h4 : c.f0 = 1
          · by_cases h5 : c.f2 < 0
            · simp [h4, h5]
            · by_cases h6 : (N : Int) ≤ c.f2
              · simp [h4, h5, h6]
              · exact absurd ⟨by omega, .inr ⟨h4, by omega⟩⟩ h
          · simp [h4]
theorem valid_yes {N : Nat} {l : List S36} (hl : l.length ≤ 1000000) (hV : Valid N l) : ∀ (d i k : Nat), i + d = l.length → 2 * d + 3 ≤ k → PF.assessorref09_valid.l0 k N l i = some 0
  | 0, i, k, h, hk => by
    obtain ⟨k, rfl⟩ : ∃ m, k = m + 1 := ⟨k - 1, by omega⟩
    simp only [PF.assessorref09_valid.l0]
    rw [if_neg (by omega)]
  | d + 1, i, k, h, hk => by
    obtain ⟨k, rfl⟩ : ∃ m, k = m + 3 := ⟨k - 3, by omega⟩
    rw [(valid_step (by omega) hl k).1 (hV _ (at_mem (i := (i : Int)) (by omega)))]
    exact valid_yes hl hV d (i + 1) (k + 1) (by omega) (by omega)
theorem valid_no {N : Nat} {l : List S36} (hl : l.length ≤ 1000000) : ∀ (d i k : Nat), i + d = l.length → 2 * d + 3 ≤ k → (∃ j : Nat, i ≤ j ∧ j < l.length ∧ ¬ ValidC N (rd_T36 l j)) → PF.assessorref09_valid.l0 k N l i = some 1
  | 0, i, k, h, hk, hx => by
    obtain ⟨j, h1, h2, _⟩ := hx
    omega
  | d + 1, i, k, h, hk, hx => by
    obtain ⟨k, rfl⟩ : ∃ m, k = m + 3 := ⟨k - 3, by omega⟩
    obtain ⟨j, h1, h2, h3⟩ := hx
    by_cases hc : ValidC N (rd_T36 l i)
    · rw [(valid_step (by omega) hl k).1 hc]
      refine valid_no hl d (i + 1) (k + 1) (by omega) (by omega) ⟨j, ?_, h2, h3⟩
      rcases Nat.lt_or_ge i j with hlt | hge
      · exact hlt
      · have : j = i := by omega
        subst this
        exact absurd hc h3
    · exact (valid_step (by omega) hl k).2 hc
theorem rdN (xs : List Int) (i : Nat) : rd xs (i : Int) = xs.getD i 0 := by
  unfold rd
  rw [Int.toNat_natCast]
end Go.Proofs.Ytjbafigageingaa

namespace Go.Proofs.Ytjbafigageingaa
open Go.RowKit Go.Proofs.YtjbafigageingaaW.PrintWords Go.Proofs.YtjbafigageingaaW.PrintLast Go.Proofs.YtjbafigageingaaW.PrintMore
set_option linter.unusedVariables false
set_option linter.unusedSimpArgs false

set_option maxRecDepth 100000 in
theorem clone_int (A : Option Addr) (c : Nat) (xs : List Int) (w : World) (hC : Kd.C (Kd.int .i64) w A xs.length xs) (hb : xs.length * 8 ≤ 140737488355328) :
    Calls Try.prog 38 #[.slice A xs.length c] w fun e w' => ∃ v : Value, e = .returned v ∧ Kd.R (Kd.int .i64) 3 w' w.heap.size (fun _ => True) v xs ∧ Below w.heap.size w w' := by
  have HC := Aside0.mk hC
  have HB := Aside0.mk hb
  clear hb
  cases A with
  | none =>
    have h0 : xs = [] := by
      rcases Nat.eq_zero_or_pos xs.length with h | h
      · exact List.length_eq_zero_iff.1 h
      · obtain ⟨ad, hn, _⟩ := HC.out.2.2 h
        cases hn
    subst h0
    clear hC HB HC
    have hq := fun (w' : World) (n c : Nat) => Lib.run_eql_slice_nil (P := Try.prog) w' 33 3 none n c 0 0 Try.underlying33
    go_enter Try.func38, Try.ntmps38
    go_wp2
    go_ret
    exact ⟨_, rfl, Kd.R_nil _ _ _ _ _, Below.refl _ _⟩
  | some a =>
    clear hC
    have hq := fun (w' : World) (n c : Nat) => Lib.run_eql_slice_nil (P := Try.prog) w' 33 3 (some a) n c 0 0 Try.underlying33
    have HR : Aside0 (Kd.C (Kd.int .i64) (w.alloc (.cells #[] 3)) (some a) xs.length xs) := ⟨Kd.C_below HC.out (below_alloc (Below.refl _ _) _)⟩
    have HO : Aside0 (Kd.R (Kd.int .i64) 3 (w.alloc (.cells #[] 3)) w.heap.size (fun _ => True) (.slice (some ⟨w.heap.size, 0, none⟩) 0 0) []) :=
      ⟨⟨fun _ _ => trivial, [], (by have h := World.ownsRow_lit (base := w.heap.size) (e := 3) (size := 1) w #[] 0 (Nat.le_refl _) (by simp [maxLen]) (by simp); exact h), Reps.none _ _⟩⟩
    clear HC
    go_enter Try.func38, Try.ntmps38
    go_wp2_with (at_builtin; refine Kd.R_append_rows (Kd.int .i64) w.heap.size rfl (.tmp 5) (.tmp 6) 33 3 (.int .i64 0) 8 rfl Try.underlying33 info3 rfl (by decide) (by decide) _ [] xs (some a) xs.length c (fun _ => True) (fun _ => False) rfl rfl HO.out HR.out (fun _ _ h => h) (fun _ h => h.elim) (fun _ _ => trivial) (below_alloc (Below.refl w.heap.size w) _) (by simp) (by simpa using HB.out) ?_; intro v1 w1 ho hb hg _; have HO1 := Aside0.mk ho; have HB1 := Aside0.mk hb; clear ho hb hg HO HR)
    go_ret
    exact ⟨_, rfl, HO1.out, HB1.out⟩
end Go.Proofs.Ytjbafigageingaa

namespace Go.Proofs.Ytjbafigageingaa
open Go.RowKit Go.Proofs.YtjbafigageingaaW.PrintWords Go.Proofs.YtjbafigageingaaW.PrintLast Go.Proofs.YtjbafigageingaaW.PrintMore
set_option linter.unusedVariables false
set_option linter.unusedSimpArgs false

theorem fill_step (n j : Nat) (a b : Int) (h : j < n) : (List.replicate j a ++ List.replicate (n - j) b).set j a = List.replicate (j + 1) a ++ List.replicate (n - (j + 1)) b := by
  rw [List.set_append_right _ _ (by simp)]
  simp only [List.length_replicate, Nat.sub_self]
  obtain ⟨d, hd⟩ : ∃ d, n - j = d + 1 := ⟨n - j - 1, by omega⟩
  have hd2 : n - (j + 1) = d := by omega
  rw [hd, hd2, List.replicate_succ, List.set_cons_zero, List.replicate_succ', List.append_assoc, List.singleton_append]

section
variable {α : Type} {d : Kd α} {e : Nat} {w : World} {base : Nat} {ok : Nat → Prop} {A : Option Addr} {n c : Nat} {xs : List α}
theorem R_len (h : d.R e w base ok (.slice A n c) xs) : n = xs.length := by
  obtain ⟨A', c', he, _⟩ := Kd.R_reads h
  injection he
theorem R_head (h : d.R e w base ok (.slice A n c) xs) (hp : 0 < n) : ∃ g, A = some ⟨g, 0, none⟩ ∧ base ≤ g ∧ g < w.heap.size := by
  obtain ⟨g, cap, he, h1, h2, _⟩ := Kd.R_form h (by rw [← R_len h]; exact hp)
  injection he with he
  exact ⟨g, he, h1, h2⟩
theorem R_shape {v : Value} (h : d.R e w base ok v xs) : ∃ A c, v = .slice A xs.length c := by
  obtain ⟨A, c, e, _⟩ := Kd.R_reads h
  exact ⟨A, c, e⟩
end
section
variable {α : Type} {enc : α → Value} {h1 : ∀ x, (enc x).oneCell' = true} {e base g n cap : Nat} {ok : Nat → Prop} {W : World} {xs : List α}
theorem R_cellN (d : α) (h : (Kd.scalar enc h1).R e W base ok (.slice (some ⟨g, 0, none⟩) n cap) xs) (j : Nat) (hj : j < n) : W.cell? ⟨g, j, none⟩ = some (enc (xs.getD j d)) ∧ W.frozen? ⟨g, j, none⟩ = false := by
  have := Kd.R_celln d h (j : Int) (by omega) (by omega)
  simpa [rdOf] using this
theorem R_putN (h : (Kd.scalar enc h1).R e W base ok (.slice (some ⟨g, 0, none⟩) n cap) xs) (j : Nat) (x : α) : (Kd.scalar enc h1).R e (W.setCell ⟨g, j, none⟩ (enc x)) base ok (.slice (some ⟨g, 0, none⟩) n cap) (xs.set j x) ∧ W.grownBy (W.setCell ⟨g, j, none⟩ (enc x)) (some g) := by
  have := Kd.R_putg h (j : Int) x
  simpa using this
end
section
variable {α : Type} {d : Kd α} {e base : Nat} {ok : Nat → Prop} {w w1 : World} {v : Value} {xs : List α} {row : Option Nat}
/-- A row without rows inside: what is written is another one. -/
theorem R_flat (hd : d.E = []) (h : d.R e w base ok v xs) (hg : w.grownBy w1 row) (hne : ∀ k, v.ownBlock = some k → some k ≠ row) : d.R e w1 base ok v xs := by
  obtain ⟨h0, inner, ho, hr⟩ := h
  refine ⟨h0, inner, own_move ho (fun k hk => hg.block k (own_lt ho k hk) (hne k hk)), hr.imp_ (fun _ _ hp => ?_)⟩
  have hb := d.M_bound hp
  refine d.M_mono (fun k hk => hk.1) (d.M_move (fun k hk => ?_) hb)
  obtain ⟨_, _, _, q, hq, _⟩ := hk
  rw [hd] at hq
  cases hq
theorem R_ok (h : d.R e w base ok v xs) (P : Nat → Prop) (hd : d.E = []) (hP : ∀ k, v.ownBlock = some k → P k) : d.R e w base P v xs := by
  obtain ⟨h0, inner, ho, hr⟩ := h
  refine ⟨hP, inner, ho, hr.imp_ (fun _ _ hp => ?_)⟩
  have hb := d.M_bound hp
  refine d.M_mono (fun k hk => ?_) hb
  obtain ⟨_, _, _, q, hq, _⟩ := hk
  rw [hd] at hq
  cases hq
end
section
variable {α : Type} {enc : α → Value} {h1 : ∀ x, (enc x).oneCell' = true} {n : Nat} {A : Option Addr} {W : World} {xs : List α}
theorem C_cellN (d : α) (h : (Kd.scalar enc h1).C W A n xs) (j : Nat) (hj : j < n) : ∃ ad, A = some ad ∧ W.cell? (ad.add j) = some (enc (xs.getD j d)) := by
  obtain ⟨ad, c, e, hl, hK, hc⟩ := h.get_ d (j : Int) (by omega) (by omega)
  refine ⟨ad, e, ?_⟩
  have hc0 := hc 0
  rw [hK] at hc0
  simpa [Kd.scalar] using hc0 _ rfl
end
theorem C_55N {n : Nat} {A : Option Addr} {W : World} {xs : List S55} (h : k55.C W A n xs) (j : Nat) (hj : j < n) : ∃ ad, A = some ad ∧ W.cell? (ad.add (j * 2)) = some (.int .i64 (xs.getD j z55).f0) ∧ W.cell? ⟨(ad.add (j * 2)).block, (ad.add (j * 2)).off + 1, none⟩ = some (.int .i64 (xs.getD j z55).f1) := by
  have := at_T55 h (j : Int) (by omega) (by omega)
  simpa [rd_T55] using this
theorem Q_head0 {α : Type} {enc : α → Value} {h1 : ∀ x, (enc x).oneCell' = true} {e base n c : Nat} {ok : Nat → Prop} {A : Option Addr} {W : World} {x : α} {xs : List α} (h : (Kd.scalar enc h1).Q e W base ok (.slice A n c) (x :: xs)) :
    ∃ b o, A = some ⟨b, o, none⟩ ∧ W.cell? ⟨b, o, none⟩ = some (enc x) := by
  obtain ⟨hn, _, hC⟩ := Kd.Q_reads' h
  obtain ⟨ad, rfl, hc⟩ := C_cellN x hC 0 (by simp)
  obtain ⟨_, inner, hq, _⟩ := h
  rcases hq.2 with ⟨h0, _⟩ | ⟨g, off, cap, cur, he, _⟩
  · simp at h0
  · injection he with he
    injection he with he
    subst he
    refine ⟨_, _, rfl, ?_⟩
    simpa [Addr.add] using hc
theorem Q_tail {α : Type} {d : Kd α} {P : Program} (t e : TypeId) {i : TypeInfo} (ht : P.underlying t = some (.slice e)) (hi : P.info? e = some i) (hsz : i.size = d.sz) {base n c : Nat} {ok : Nat → Prop} {A : Option Addr} {W : World} {x : α} {xs : List α} (h : d.Q e W base ok (.slice A n c) (x :: xs)) :
    ∃ A' c', (∀ W : World, (Instr.slice t (.slice A n c) (some (.int .i64 1)) none none).run P W = .ok (.slice A' xs.length c') W) ∧ d.Q e W base ok (.slice A' xs.length c') xs := by
  obtain ⟨hn, _, hC⟩ := Kd.Q_reads' h
  have hl : n - 1 = xs.length := by simp at hn; omega
  refine ⟨if c = 1 then A else A.map (·.add (1 * d.sz)), c - 1, fun W => ?_, ?_⟩
  · have := cut_from (P := P) t e .i64 ht hi d.sz hsz A n c 1 (by omega) (by simp at hn; omega) W
    simpa [hl] using this
  · have := Kd.Q_drop (k := 1) h (by simp)
    simpa [hl] using this
theorem drop_cons {α : Type} (d : α) (l : List α) (j : Nat) (h : j < l.length) : l.drop j = l.getD j d :: l.drop (j + 1) := by
  rw [List.getD_eq_getElem?_getD, List.getElem?_eq_getElem h, Option.getD_some, List.drop_eq_getElem_cons h]
end Go.Proofs.Ytjbafigageingaa

namespace Go.Proofs.Ytjbafigageingaa
open Go.RowKit Go.Proofs.YtjbafigageingaaW.PrintWords Go.Proofs.YtjbafigageingaaW.PrintLast Go.Proofs.YtjbafigageingaaW.PrintMore
set_option linter.unusedVariables false
set_option linter.unusedSimpArgs false

set_option maxRecDepth 100000 in
theorem dist_calls (k : Nat) (l : Value) (Ae : Option Addr) (ce : Nat) (E : List (List S55)) (m : Value) (Af : Option Addr) (cf : Nat) (F : List Int) (r : List Int) (w : World)
  (hl : ∃ A n c, l = .slice A n c) (hm : ∃ b, m = .map b)
  (hE : Kd.C (Kd.slice 55 k55) w Ae E.length E) (hF : Kd.C (Kd.int .i64) w Af F.length F) (hn : E.length ≤ 4096) (hf : F.length ≤ 4096) (h : dist E F k = some r) :
  Calls Try.prog 28 #[.agg #[l, .slice Ae E.length ce, m], .slice Af F.length cf] w fun e w' => ∃ v : Value, e = .returned v ∧ Kd.R (Kd.int .i64) 3 w' w.heap.size (fun _ => True) v r ∧ Below w.heap.size w w' := by
 obtain ⟨la, ln, lc, rfl⟩ := hl
 obtain ⟨mb, rfl⟩ := hm
 have HE := Aside0.mk hE
 have HF := Aside0.mk hF
 have H := Aside0.mk h
 clear hE hF h
 go_enter Try.func28, Try.ntmps28
 go_wp2_with ((with_reducible refine gate_dst (N := 16) rfl ?_); refine Kd.R_make (Kd.int .i64) _ 3 rfl (N := 16) rfl 33 _ _ rfl (E.length : Int) rfl rfl Try.underlying33 (.int .i64 0) 8 info3 rfl (by decide) (by omega) 0 (ok := fun _ => True) (okp := fun _ => True) rfl (fun _ hk => hk) trivial (by omega) (by simp; omega) (Below.refl _ _) (Nat.le_refl _) ?_; intro v6 w6 ho6 hb6 hz1 hz2; clear hz1 hz2; have e6 : ∃ A c, v6 = .slice A E.length c := (by obtain ⟨A, c, e, _⟩ := Kd.R_reads ho6; exact ⟨A, c, by simpa using e⟩); obtain ⟨A6, c6, rfl⟩ := e6; have HO6 := Aside0.mk ho6; have HB6 := Aside0.mk hb6; clear ho6 hb6)
 have X : ∃ w1 : World, Below w.heap.size w w1 ∧ w1.heap[w.heap.size]? = some (.cells #[.slice la ln lc, .slice Ae E.length ce, .map mb] 52 (0, 0)) ∧ Kd.R (Kd.int .i64) 3 w6 w1.heap.size (fun _ => True) (.slice A6 E.length c6) (List.replicate E.length 0) ∧ Below w1.heap.size w1 w6 := ⟨_, below_alloc (Below.refl _ _) _, heap_alloc_new _ _, by simpa using HO6.out, HB6.out⟩
 clear HO6 HB6
 obtain ⟨w1, hb1, hbox, ho6, hb6⟩ := X
 have HB1 := Aside0.mk hb1
 have HX1 := Aside0.mk hbox
 have HO6 := Aside0.mk ho6
 have HB6 := Aside0.mk hb6
 have HE1 := Aside0.mk (Kd.C_below HE.out hb1)
 have HF1 := Aside0.mk (Kd.C_below HF.out hb1)
 clear hb1 hbox ho6 hb6 HE HF
 go_loopw [19] (fun v19 wr => ∃ j : Nat, j ≤ E.length ∧ v19 = .int .i64 j ∧ Aside0 (Kd.R (Kd.int .i64) 3 wr w1.heap.size (fun _ => True) (.slice A6 E.length c6) (List.replicate j (-1) ++ List.replicate (E.length - j) 0)) ∧ Aside0 (Below w1.heap.size w1 wr)) (fun i _ => E.length - (intOf i).toNat)
 case atStart => exact ⟨0, Nat.zero_le _, rfl, ⟨by simpa using HO6.out⟩, HB6⟩
 case round =>
  obtain ⟨j, hj, rfl, HO, HB⟩ := hrel
  clear HO6 HB6
  by_cases hlt : j < E.length
  ·
   obtain ⟨g, rfl, hg1, hg2⟩ := R_head HO.out (by omega)
   obtain ⟨hx, hf⟩ := R_cellN 0 HO.out j hlt
   have HS := Aside0.mk (R_putN HO.out j (-1)).1
   have HG := Aside0.mk hg1
   clear hg1 hg2
   go_wp2
   go_roundw
   case rel =>
    refine ⟨j + 1, hlt, by go_num, ⟨?_⟩, ⟨HB.out.setCell HG.out _⟩⟩
    rw [← fill_step _ _ _ _ hlt]
    exact HS.out
   case measure => simp [intOf]; omega
  ·
   obtain rfl : E.length = j := by omega
   obtain ⟨out1, hd1, hd2⟩ : ∃ out1, dFrom (List.replicate E.length (-1)) F = some out1 ∧ dBfs E k out1 F = some r := by
    have h := H.out
    unfold dist at h
    cases hx : dFrom (List.replicate E.length (-1)) F with
    | none => rw [hx] at h; cases h
    | some o => rw [hx] at h; exact ⟨o, rfl, h⟩
   have HD1 := Aside0.mk hd1
   have HD2 := Aside0.mk hd2
   clear hd1 hd2 H
   have HFr := Aside0.mk (Kd.C_below HF1.out HB.out)
   have HFb : Aside0 (F.length * 8 ≤ 140737488355328) := ⟨by omega⟩
   have HO' : Aside0 (Kd.R (Kd.int .i64) 3 wr w1.heap.size (fun _ => True) (.slice A6 E.length c6) (List.replicate E.length (-1))) := ⟨by simpa using HO.out⟩
   clear HO
   go_wp2_with (go_at_call 38; refine (clone_int _ _ _ _ HFr.out HFb.out).mono ?_; rintro e w7 ⟨v7, rfl, ho7, hb7⟩; have e7 := R_shape ho7; obtain ⟨A7, c7, rfl⟩ := e7; have HQ := Aside0.mk (Kd.Q_of_R ho7); have HB7 := Aside0.mk hb7; clear ho7 hb7)
   obtain ⟨B6, hB6⟩ : ∃ B6, B6 = (Value.slice A6 E.length c6).ownBlock := ⟨_, rfl⟩
   have NB6 := Aside0.mk hB6
   clear hB6
   have HO7 : Aside0 (Kd.R (Kd.int .i64) 3 w7 w1.heap.size (fun _ => True) (.slice A6 E.length c6) (List.replicate E.length (-1))) := ⟨Kd.R_below HO'.out HB7.out⟩
   have HQ7 : Aside0 (Kd.Q (Kd.int .i64) 3 w7 w1.heap.size (fun k => some k ≠ B6) (.slice A7 F.length c7) F) := ⟨by
    refine Kd.Q_lower (Kd.Q_mono (Kd.Q_bound HQ.out) (fun k hk he => ?_)) HB.out.size
    obtain ⟨inner, ho⟩ := Kd.R_own HO'.out
    have := own_lt ho k (by rw [← NB6.out]; exact he.symm)
    have := hk.2.1
    omega⟩
   have HB17 : Aside0 (Below w1.heap.size w1 w7) := ⟨below_step HB.out HB7.out⟩
   clear HO' HQ HB HB7 HFr HFb
   go_loopw [9, 30] (fun _ v30 wr => ∃ (j : Nat) (xs : List Int), j ≤ F.length ∧ v30 = .int .i64 j ∧ Aside0 (dFrom xs (F.drop j) = some out1) ∧ Aside0 (Kd.R (Kd.int .i64) 3 wr w1.heap.size (fun _ => True) (.slice A6 E.length c6) xs) ∧ Aside0 (Kd.Q (Kd.int .i64) 3 wr w1.heap.size (fun k => some k ≠ B6) (.slice A7 F.length c7) F) ∧ Aside0 (Below w1.heap.size w1 wr)) (fun _ i _ => F.length - (intOf i).toNat)
   case atStart => exact ⟨0, _, Nat.zero_le _, rfl, HD1, HO7, HQ7, HB17⟩
   case round =>
    obtain ⟨j, xs, hj, rfl, HD, HO, HQ, HB⟩ := hrel
    clear HO7 HQ7 HB17 HD1
    by_cases hlt : j < F.length
    ·
     have hd := HD.out
     rw [drop_cons 0 _ _ hlt] at hd
     simp only [dFrom] at hd
     obtain ⟨x, hx⟩ : ∃ x, x = F.getD j 0 := ⟨_, rfl⟩
     obtain ⟨ad, rfl, hc⟩ := C_cellN 0 HF1.out j hlt
     have hcr := (HB.out.cell (World.block_lt_of_cell? w1 _ hc)).trans hc
     rw [← hx] at hd hcr
     clear hx hc
     by_cases hr : 0 ≤ x ∧ x < (xs.length : Int)
     ·
      rw [if_pos hr] at hd
      have hn : E.length = xs.length := R_len HO.out
      obtain ⟨hr0, hr1⟩ := hr
      rw [← hn] at hr1
      have HN := Aside0.mk hn
      clear hn
      obtain ⟨g, rfl, hg1, hg2⟩ := R_head HO.out (by omega)
      obtain ⟨hx, hf⟩ := Kd.R_celln 0 HO.out x hr0 hr1
      have HS := Aside0.mk (Kd.R_putg HO.out x 0)
      have HG := Aside0.mk hg1
      have HD' := Aside0.mk hd
      clear hg1 hg2 hd
      go_wp2
      go_roundw
      case rel => exact ⟨j + 1, _, hlt, by go_num, HD', ⟨HS.out.1⟩, ⟨Kd.Q_grown HQ.out HS.out.2 (fun k hk => by rw [NB6.out] at hk; exact hk)⟩, ⟨HB.out.setCell HG.out _⟩⟩
      case measure => simp [intOf]; omega
     ·
      rw [if_neg hr] at hd
      cases hd
    ·
     obtain rfl : F.length = j := by omega
     obtain rfl : xs = out1 := by
      have := HD.out
      rw [List.drop_length] at this
      simpa [dFrom] using this
     clear HD
     go_wp2_with fail
     go_loopg [7, 10] k (fun gk v7 _ wr => ∃ (todo out : List Int) (At : Option Addr) (ct : Nat), v7 = .slice At todo.length ct ∧ Aside0 (dBfs E gk out todo = some r) ∧ Aside0 (Kd.R (Kd.int .i64) 3 wr w1.heap.size (fun _ => True) (.slice A6 E.length c6) out) ∧ Aside0 (Kd.Q (Kd.int .i64) 3 wr w1.heap.size (fun k => some k ≠ B6) (.slice At todo.length ct) todo) ∧ Aside0 (Below w1.heap.size w1 wr))
     case atStart => exact ⟨F, xs, A7, c7, rfl, HD2, HO, HQ, HB⟩
     case round =>
      clear HD2 HO HQ HB
      obtain ⟨todo, out, At, ct, rfl, HD, HO, HQ, HB⟩ := hrel
      cases gk with
      | zero => exact absurd HD.out (by simp [dBfs])
      | succ k1 =>
       cases todo with
       | nil =>
        have hr : out = r := by simpa [dBfs] using HD.out
        subst hr
        clear HD HQ
        go_wp2
        go_ret
        exact ⟨_, rfl, Kd.R_lower HO.out HB1.out.size, below_step HB1.out HB.out⟩
       | cons v rest =>
        have hd := HD.out
        clear HD
        simp only [dBfs] at hd
        by_cases hv : 0 ≤ v ∧ v < (E.length : Int)
        ·
         rw [if_pos hv] at hd
         obtain ⟨hv0, hv1⟩ := hv
         obtain ⟨p2, hp1, hp2⟩ := Option.bind_eq_some_iff.1 hd
         obtain ⟨o2, t2⟩ := p2
         have HP1 := Aside0.mk hp1
         have HP2 := Aside0.mk hp2
         clear hd hp1 hp2
         obtain ⟨tb, tof, rfl, ht0⟩ := Q_head0 HQ.out
         obtain ⟨i3, hi3, hi3z⟩ := Option.map_eq_some_iff.1 info3
         simp only [Prod.mk.injEq] at hi3z
         obtain ⟨A2, c2, hcut, hq2⟩ := Q_tail (P := Try.prog) 33 3 Try.underlying33 hi3 hi3z.2.1 HQ.out
         have HQ2 := Aside0.mk hq2
         simp only [List.length_cons] at hcut
         have hgb := HB1.out.size
         have hbx : wr.cell? ⟨w.heap.size, 1, none⟩ = some (.slice Ae E.length ce) := by
          have h0 : w1.cell? ⟨w.heap.size, 1, none⟩ = some (.slice Ae E.length ce) := by rw [blk_cell HX1.out]; rfl
          exact (HB.out.cell (World.block_lt_of_cell? w1 _ h0)).trans h0
         obtain ⟨ae, A0, c0, rfl, hc0, hlc0, hC0⟩ := at_L8 HE1.out v hv0 hv1
         have hcr := (HB.out.cell (World.block_lt_of_cell? w1 _ hc0)).trans hc0
         obtain ⟨es, hes⟩ : ∃ es, es = rdE E v := ⟨_, rfl⟩
         have hes' : rd_L8 E v = es := hes.symm
         have HP1' : Aside0 (dInner v es out rest = some (o2, t2)) := ⟨by rw [hes]; exact HP1.out⟩
         rw [hes'] at hcr hC0
         have HES := Aside0.mk hC0
         have hesl : es.length ≤ 9223372036854775807 := hC0.2.1
         clear hq2 hi3z hi3 HQ HP1 hc0 hlc0 hC0 hes hes' hgb
         go_wp2_with fail
         obtain ⟨wo, rfl⟩ : ∃ wo : World, wo = wr := ⟨_, rfl⟩
         clear ht0 hbx hcr hcut
         go_loopw [7, 12, 52] (fun v7 _ v52 wr => ∃ (j : Nat) (xs todo : List Int) (At : Option Addr) (ct : Nat), j ≤ es.length ∧ v52 = .int .i64 j ∧ v7 = .slice At todo.length ct ∧ Aside0 (dInner v (es.drop j) xs todo = some (o2, t2)) ∧ Aside0 (Kd.R (Kd.int .i64) 3 wr w1.heap.size (fun _ => True) (.slice A6 E.length c6) xs) ∧ Aside0 (Kd.Q (Kd.int .i64) 3 wr w1.heap.size (fun k => some k ≠ B6) (.slice At todo.length ct) todo) ∧ Aside0 (Below w1.heap.size w1 wr)) (fun _ _ i _ => es.length - (intOf i).toNat)
         case atStart => exact ⟨0, out, rest, A2, c2, Nat.zero_le _, rfl, rfl, HP1', HO, HQ2, HB⟩
         case round =>
          clear HO HB HQ2 HP1'
          obtain ⟨j, xs, todo, At, ct, hj, rfl, rfl, HD, HO, HQ, HB⟩ := hrel
          by_cases hlt : j < es.length
          ·
           have hd := HD.out
           clear HD
           rw [drop_cons z55 _ _ hlt] at hd
           simp only [dInner] at hd
           obtain ⟨x, hx⟩ : ∃ x, x = es.getD j z55 := ⟨_, rfl⟩
           obtain ⟨ad, rfl, hc0, hc1⟩ := C_55N HES.out j hlt
           have hcr0 := (HB.out.cell (World.block_lt_of_cell? w1 _ hc0)).trans hc0
           have hcr1 := (HB.out.cell (World.block_lt_of_cell? w1 _ hc1)).trans hc1
           rw [← hx] at hd hcr0 hcr1
           clear hx hc0 hc1
           obtain ⟨x0, x1⟩ := x
           simp only at hd hcr0 hcr1
           by_cases hr : 0 ≤ x1 ∧ x1 < (xs.length : Int)
           ·
            rw [if_pos hr] at hd
            have hn : E.length = xs.length := R_len HO.out
            obtain ⟨hr0, hr1⟩ := hr
            rw [← hn] at hr1
            have HN := Aside0.mk hn
            clear hn
            obtain ⟨g, rfl, hg1, hg2⟩ := R_head HO.out (by omega)
            obtain ⟨hx, hf⟩ := Kd.R_celln 0 HO.out x1 hr0 hr1
            obtain ⟨y, hy⟩ : ∃ y, y = rdOf 0 xs x1 := ⟨_, rfl⟩
            rw [← hy] at hx
            rw [show rd xs x1 = y from hy.symm] at hd
            have HG := Aside0.mk hg1
            have HY := Aside0.mk hy
            clear hg1 hy
            by_cases hy0 : y < 0
            ·
             rw [if_pos hy0] at hd
             by_cases hz : 0 ≤ v ∧ v < (xs.length : Int) ∧ todo.length < 1000000
             ·
              rw [if_pos hz] at hd
              have hzl := hz.2.2
              obtain ⟨hxv, hfv⟩ := Kd.R_celln 0 HO.out v hv0 hv1
              obtain ⟨z, hz0⟩ : ∃ z, z = rdOf 0 xs v := ⟨_, rfl⟩
              rw [← hz0] at hxv
              rw [show rd xs v = z from hz0.symm] at hd
              have HD := Aside0.mk hd
              clear hd hz hz0 hfv
              go_wp2
              go_region
              obtain ⟨W, hW, hO, hQ, hB, hc, hsz⟩ : ∃ W : World, ((wr.setCell ⟨g, x1.toNat, none⟩ (.int .i64 (wrap64 (z + 1)))).alloc (.cells #[.int .i64 x0, .int .i64 x1] 55)).drew = W ∧
                Kd.R (Kd.int .i64) 3 W w1.heap.size (fun _ => True) (.slice (some ⟨g, 0, none⟩) E.length c6) (xs.set x1.toNat (wrap64 (z + 1))) ∧
                Kd.Q (Kd.int .i64) 3 W w1.heap.size (fun k => some k ≠ B6) (.slice At todo.length ct) todo ∧ Below w1.heap.size w1 W ∧ W.cell? ⟨wr.heap.size, 1, none⟩ = some (.int .i64 x1) ∧ g < W.heap.size := by
               have hp := Kd.R_putg HO.out x1 (wrap64 (z + 1))
               refine ⟨_, rfl, Kd.R_drew (Kd.R_alloc hp.1 _), Kd.Q_drew (Kd.Q_alloc (Kd.Q_grown HQ.out hp.2 (fun k hk => by rw [NB6.out] at hk; exact hk)) _), ((HB.out.setCell HG.out _).alloc (by have := HB.out.size; simp; omega) _).drew, ?_, by simp; omega⟩
               have h0 : (wr.setCell ⟨g, x1.toNat, none⟩ (.int .i64 (wrap64 (z + 1)))).heap.size = wr.heap.size := by simp
               have h1 := World.cell?_alloc_new (wr.setCell ⟨g, x1.toNat, none⟩ (.int .i64 (wrap64 (z + 1)))) #[.int .i64 x0, .int .i64 x1] 55 1
               rw [h0] at h1
               exact h1
              rw [hW]
              have XO := Aside0.mk hO
              have XQ := Aside0.mk hQ
              have XB := Aside0.mk hB
              clear hW hO hQ hB HO HQ HB hx hf hxv hcr0 hcr1
              go_wp2_with (at_builtin; refine Kd.Q_append (Kd.int .i64) w1.heap.size rfl (.tmp 71) (.tmp 74) 33 3 (.int .i64 0) 8 rfl Try.underlying33 info3 rfl (by decide) (by decide) _ todo x1 [.int .i64 x1] (fun k => some k ≠ B6) (fun _ => False) rfl rfl rfl (fun _ h => h.elim) (fun k hk => by rw [NB6.out]; simp [Value.ownBlock]; omega) XQ.out XB.out XB.out.size (by omega) ?_; intro v1 w2 hq hb hg hz; have hO2 := R_flat rfl XO.out hg (fun k hk => (fun he => XQ.out.1 k he.symm (by rw [NB6.out]; exact hk.symm))); obtain ⟨A1, c1, rfl, _⟩ := Kd.Q_slice hq; have YQ := Aside0.mk hq; have YB := Aside0.mk hb; have YO := Aside0.mk hO2; clear hq hb hO2 hg hz XO XQ XB hc)
      
              go_roundw
              case rel => exact ⟨j + 1, _, todo ++ [x1], A1, c1, hlt, by go_num, by simp, HD, YO, YQ, YB⟩
              case measure => simp [intOf]; omega
             ·
              rw [if_neg hz] at hd
              cases hd
            ·
             rw [if_neg hy0] at hd
             have HD := Aside0.mk hd
             clear hd
             have hO := Kd.R_alloc HO.out (.cells #[.int .i64 x0, .int .i64 x1] 55)
             have hQ := Kd.Q_alloc HQ.out (.cells #[.int .i64 x0, .int .i64 x1] 55)
             have hB := HB.out.alloc HB.out.size (.cells #[.int .i64 x0, .int .i64 x1] 55)
             have XO := Aside0.mk hO
             have XQ := Aside0.mk hQ
             have XB := Aside0.mk hB
             clear hO hQ hB HO HQ HB
             go_wp2
             go_roundw
             case rel => exact ⟨j + 1, _, todo, At, ct, hlt, by go_num, rfl, HD, XO, XQ, XB⟩
             case measure => simp [intOf]; omega
           ·
            rw [if_neg hr] at hd
            cases hd
          ·
           obtain rfl : es.length = j := by omega
           have hd := HD.out
           rw [List.drop_length] at hd
           simp only [dInner, Option.some.injEq, Prod.mk.injEq] at hd
           obtain ⟨rfl, rfl⟩ := hd
           clear HD
           go_wp2_with fail
           go_roundg k1
           case rel => exact ⟨todo, xs, At, ct, rfl, HP2, HO, HQ, HB⟩
           case measure => omega
        ·
         rw [if_neg hv] at hd
         cases hd
end Go.Proofs.Ytjbafigageingaa

namespace Go.Proofs.Ytjbafigageingaa
open Go.RowKit Go.Maps Go.Proofs.YtjbafigageingaaW.PrintWords Go.Proofs.YtjbafigageingaaW.PrintLast Go.Proofs.YtjbafigageingaaW.PrintMore
set_option linter.unusedVariables false
set_option linter.unusedSimpArgs false

/-- An element is read as itself. -/
def tokR (v : Value) : Option (DataW Value × List MemPlace) := some (.held v, [])
/-- Block b is a map of at most n entries that holds m. -/
def MapK {κ : Type} (P : Program) (k : TypeId) (lit : κ → Lit) (w : World) (b n : Nat) (m : κ → Option Value) : Prop :=
  ∃ D : DataW Value, w.ownsMap P k tokR b n D ∧ (∀ x, Maps.has D (lit x) = (m x).isSome) ∧ ∀ x z, D.atKey (lit x) (.held z) = .held ((m x).getD z)
section
variable {κ : Type} {P : Program} {k t e : TypeId} {lit : κ → Lit} {w w1 : World} {b n : Nat} {m : κ → Option Value} {row : Option Nat}
theorem MapK.made (P : Program) (k : TypeId) (lit : κ → Lit) (w : World) : MapK P k lit (w.alloc (.map #[] 0)) w.heap.size 0 (fun _ => none) :=
  ⟨.map [], World.ownsMap_made _ _ _ _, fun _ => rfl, fun _ _ => rfl⟩
theorem MapK.lt (h : MapK P k lit w b n m) : b < w.heap.size := by
  obtain ⟨D, h, _⟩ := h
  exact h.lt
theorem MapK.obj (h : MapK P k lit w b n m) : ∃ es c, w.heap[b]? = some (.map es c) := by
  obtain ⟨D, ⟨es, c, h, _⟩, _⟩ := h
  exact ⟨es, c, h⟩
theorem MapK.mono (h : MapK P k lit w b n m) {n' : Nat} (hn : n ≤ n') : MapK P k lit w b n' m := by
  obtain ⟨D, h, r⟩ := h
  exact ⟨D, h.mono hn, r⟩
theorem MapK.kept (h : MapK P k lit w b n m) (hg : w.grownBy w1 row) (hne : some b ≠ row) : MapK P k lit w1 b n m := by
  obtain ⟨D, h, r⟩ := h
  exact ⟨D, h.kept hg hne, r⟩
theorem MapK.move (h : MapK P k lit w b n m) (hg : w1.heap[b]? = w.heap[b]?) : MapK P k lit w1 b n m := by
  obtain ⟨D, ⟨es, clock, hb, F, hs, hD⟩, r⟩ := h
  exact ⟨D, ⟨es, clock, hg.trans hb, F, hs, hD⟩, r⟩
theorem MapK.below (h : MapK P k lit w b n m) (hb : Below w.heap.size w w1) : MapK P k lit w1 b n m := h.move (hb.block b h.lt)
theorem MapK.lookup (h : MapK P k lit w b n m) (K : Keyed P k) (ht : P.underlying t = some (.map k e)) {z : Value} (hz : (zeroValue e).run P w = .ok z w) {key : Value} (x : κ) (hkey : keyOf P k key = some (lit x)) :
    (Instr.lookup t (.map (some b)) key false).run P w = .ok ((m x).getD z) w := by
  obtain ⟨D, h, _, hat⟩ := h
  obtain ⟨v, ps, hr, hv⟩ := h.lookup (zd := .held z) (zp := []) K ht hz rfl hkey
  rw [hr]
  simp only [tokR, Option.some.injEq, Prod.mk.injEq] at hv
  have := hv.1.trans (hat x z)
  injection this with this
  rw [this]
theorem MapK.update [DecidableEq κ] (h : MapK P k lit w b n m) (K : Keyed P k) (ht : P.underlying t = some (.map k e)) (hn : n < maxLen) (hl : ∀ x y, lit x = lit y → x = y) {key : Value} (x : κ) (hkey : keyOf P k key = some (lit x)) (v : Value) :
    ∃ w', (Instr.mapUpdate t (.map (some b)) key v).run P w = .ok () w' ∧ MapK P k lit w' b (n + 1) (fun y => if y = x then some v else m y) ∧ w.grownBy w' (some b) := by
  obtain ⟨D, h, hh, hat⟩ := h
  obtain ⟨w', hr, ho, hg⟩ := h.update (d := .held v) (ps := []) K ht hn hkey rfl
  have hi := h.isMap
  have hk := K.key hkey
  refine ⟨w', hr, ⟨_, ho, fun y => ?_, fun y z => ?_⟩, hg⟩
  · by_cases hy : y = x
    · subst hy
      simp [Maps.has_put_same hi hk]
    · rw [Maps.has_put_other (fun he => hy (hl _ _ he)), hh]; simp only [if_neg hy]
  · by_cases hy : y = x
    · subst hy
      simp [Maps.atKey_put_same hi hk]
    · rw [Maps.atKey_put_other (fun he => hy (hl _ _ he)), hat]; simp only [if_neg hy]
end
def litI (x : Int) : Lit := .int .i64 x
theorem litI_inj : ∀ x y, litI x = litI y → x = y := fun x y h => by injection h
end Go.Proofs.Ytjbafigageingaa

namespace Go.Proofs.Ytjbafigageingaa
open Go.RowKit Go.Maps Go.Proofs.YtjbafigageingaaW.PrintWords Go.Proofs.YtjbafigageingaaW.PrintLast Go.Proofs.YtjbafigageingaaW.PrintMore
set_option linter.unusedVariables false
set_option linter.unusedSimpArgs false

theorem law3 : Keyed Try.prog 3 := int_keyed Try.underlying3
theorem zero33 (w : World) : (zeroValue 33).run Try.prog w = .ok (.slice none 0 0) w := by kernel_rfl
/-- The map of the marks, read. -/
def MarksAt (w : World) (mb : Nat) (N : Nat) (M : Int → List Int) : Prop :=
  ∃ cnt m, MapK Try.prog 3 litI w mb cnt m ∧ ∀ v : Int, 0 ≤ v → v < N → ∃ A c, (m v).getD (.slice none 0 0) = .slice A (M v).length c ∧ (M v).length ≤ c ∧ Kd.C (Kd.int .i64) w A (M v).length (M v)
theorem MarksAt.below {w w1 : World} {mb N : Nat} {M : Int → List Int} (h : MarksAt w mb N M) (hb : Below w.heap.size w w1) : MarksAt w1 mb N M := by
  obtain ⟨cnt, m, hm, hr⟩ := h
  refine ⟨cnt, m, hm.below hb, fun v h0 h1 => ?_⟩
  obtain ⟨A, c, he, hl, hC⟩ := hr v h0 h1
  exact ⟨A, c, he, hl, Kd.C_below hC hb⟩
theorem key3 {v : Int} {N : Nat} (hN : N ≤ 4096) (h0 : 0 ≤ v) (h1 : v < N) : keyOf Try.prog 3 (.int .i64 v) = some (litI v) :=
  keyOf_int_mk Try.underlying3 (WalkArith.wf_i64 (by omega))
theorem MarksAt.look {w : World} {mb N : Nat} {M : Int → List Int} (h : MarksAt w mb N M) (hN : N ≤ 4096) {v : Int} (h0 : 0 ≤ v) (h1 : v < N) :
    ∃ A c, (∀ w1 : World, Below w.heap.size w w1 → (Instr.lookup 50 (.map (some mb)) (.int .i64 v) false).run Try.prog w1 = .ok (.slice A (M v).length c) w1) ∧ (M v).length ≤ c ∧ Kd.C (Kd.int .i64) w A (M v).length (M v) := by
  obtain ⟨cnt, m, hm, hr⟩ := h
  obtain ⟨A, c, he, hl, hC⟩ := hr v h0 h1
  refine ⟨A, c, fun w1 hb => ?_, hl, hC⟩
  have := (hm.below hb).lookup law3 Try.underlying50 (zero33 w1) v (key3 hN h0 h1)
  rw [this, he]
theorem C_36N {n : Nat} {A : Option Addr} {W : World} {xs : List S36} (h : k36.C W A n xs) (i : Int) (h0 : 0 ≤ i) (h1 : i < n) : ∃ ad, A = some ad ∧
    W.cell? ⟨(ad.add (i.toNat * 8)).block, (ad.add (i.toNat * 8)).off + 3, none⟩ = some (.int .i64 (rd_T36 xs i).f3.f0) ∧ W.cell? ⟨(ad.add (i.toNat * 8)).block, (ad.add (i.toNat * 8)).off + 4, none⟩ = some (.int .i64 (rd_T36 xs i).f3.f1) ∧
    W.cell? ⟨(ad.add (i.toNat * 8)).block, (ad.add (i.toNat * 8)).off + 5, none⟩ = some (.string (rd_T36 xs i).f3.f2) := by
  obtain ⟨ad, hA, _, _, _, c3, c4, c5, _⟩ := at_T36 h i h0 h1
  exact ⟨ad, hA, c3, c4, c5⟩

set_option maxRecDepth 100000 in
theorem other_calls (Al : Option Addr) (cl : Nat) (L : List S36) (ev : Value) (mb N : Nat) (M : Int → List Int) (i v j : Int) (b : Bool) (w : World)
    (he : ∃ A n c, ev = .slice A n c) (hL : Kd.C k36 w Al L.length L) (hM : MarksAt w mb N M) (hN : N ≤ 4096) (hv0 : 0 ≤ v) (hv1 : v < N) (h : otherF L i (M v) = some (j, b)) :
    Calls Try.prog 41 #[.agg #[.slice Al L.length cl, ev, .map (some mb)], .int .i64 i, .int .i64 v] w fun e w' => e = .returned (.tuple #[.int .i64 j, .bool b]) ∧ Below w.heap.size w w' := by
  obtain ⟨ea, en, ec, rfl⟩ := he
  obtain ⟨A, c, hlook, hlc, hC⟩ := hM.look hN hv0 hv1
  have hlook1 := hlook _ (below_alloc (Below.refl _ _) (.cells #[.slice Al L.length cl, .slice ea en ec, .map (some mb)] 52))
  obtain ⟨xs, hxs⟩ : ∃ xs, xs = M v := ⟨_, rfl⟩
  rw [← hxs] at h hlook1 hC
  have hxl : xs.length ≤ 9223372036854775807 := hC.2.1
  have HL := Aside0.mk hL
  have HC := Aside0.mk hC
  have H := Aside0.mk h
  clear hL hC h hlook hM hxs hlc hN hv0 hv1
  go_enter Try.func41, Try.ntmps41
  go_wp2_with fail
  obtain ⟨w1, hW, hb1, hbx, hC1, hL1⟩ : ∃ w1 : World, w.alloc (.cells #[.slice Al L.length cl, .slice ea en ec, .map (some mb)] 52) = w1 ∧ Below w.heap.size w w1 ∧ w1.cell? ⟨w.heap.size, 0, none⟩ = some (.slice Al L.length cl) ∧
      Kd.C (Kd.int .i64) w1 A xs.length xs ∧ Kd.C k36 w1 Al L.length L := by
    have hb := below_alloc (Below.refl w.heap.size w) (.cells #[.slice Al L.length cl, .slice ea en ec, .map (some mb)] 52)
    exact ⟨_, rfl, hb, by simp, Kd.C_below HC.out hb, Kd.C_below HL.out hb⟩
  rw [hW]
  have HB1 := Aside0.mk hb1
  have HX1 := Aside0.mk hbx
  have HC1 := Aside0.mk hC1
  have HL1 := Aside0.mk hL1
  clear hW hb1 hbx hC1 hL1 HC HL hlook1
  go_loopw [9, 15] (fun _ v15 wr => ∃ n : Nat, n ≤ xs.length ∧ v15 = .int .i64 n ∧ Aside0 (otherF L i (xs.drop n) = some (j, b)) ∧ Aside0 (Below w1.heap.size w1 wr)) (fun _ i _ => xs.length - (intOf i).toNat)
  case atStart => exact ⟨0, Nat.zero_le _, rfl, H, ⟨Below.refl _ _⟩⟩
  case round =>
    obtain ⟨n, hn, rfl, HD, HB⟩ := hrel
    clear H
    by_cases hlt : n < xs.length
    · have hd := HD.out
      rw [drop_cons 0 _ _ hlt] at hd
      simp only [otherF] at hd
      obtain ⟨x, hx⟩ : ∃ x, x = xs.getD n 0 := ⟨_, rfl⟩
      obtain ⟨ad, rfl, hc⟩ := C_cellN 0 HC1.out n hlt
      have hcr := (HB.out.cell (World.block_lt_of_cell? w1 _ hc)).trans hc
      rw [← hx] at hd hcr
      have hbx := HX1.out
      have hbr := (HB.out.cell (World.block_lt_of_cell? w1 _ hbx)).trans hbx
      clear hx hc HD hbx
      by_cases hix : i < x
      · rw [if_pos hix] at hd
        by_cases hr : (0 ≤ i ∧ i < (L.length : Int)) ∧ (0 ≤ x ∧ x < (L.length : Int))
        · rw [if_pos hr] at hd
          obtain ⟨⟨hi0, hi1⟩, hx0, hx1⟩ := hr
          obtain ⟨al, rfl, a0, a1, a2⟩ := C_36N HL1.out i hi0 hi1
          obtain ⟨al', hal, b0, b1, b2⟩ := C_36N HL1.out x hx0 hx1
          injection hal with hal
          subst hal
          replace a0 := (HB.out.cell (World.block_lt_of_cell? w1 _ a0)).trans a0
          replace a1 := (HB.out.cell (World.block_lt_of_cell? w1 _ a1)).trans a1
          replace a2 := (HB.out.cell (World.block_lt_of_cell? w1 _ a2)).trans a2
          replace b0 := (HB.out.cell (World.block_lt_of_cell? w1 _ b0)).trans b0
          replace b1 := (HB.out.cell (World.block_lt_of_cell? w1 _ b1)).trans b1
          replace b2 := (HB.out.cell (World.block_lt_of_cell? w1 _ b2)).trans b2
          obtain ⟨ma, hma⟩ : ∃ m, m = (rd_T36 L i).f3 := ⟨_, rfl⟩
          obtain ⟨mx, hmx⟩ : ∃ m, m = (rd_T36 L x).f3 := ⟨_, rfl⟩
          rw [← hma] at a0 a1 a2
          rw [← hmx] at b0 b1 b2
          rw [← hma, ← hmx] at hd
          clear hma hmx
          obtain ⟨ma0, ma1, ma2⟩ := ma
          obtain ⟨mx0, mx1, mx2⟩ := mx
          simp only at a0 a1 a2 b0 b1 b2
          go_wp2_with fail
          go_still_tail 16, (by kernel_rfl)
          change wpList _ _ _ _ _ wr.drew
          have HBd : Aside0 (Below w1.heap.size w1 wr.drew) := ⟨HB.out.drew⟩
          generalize wr.drew = wd at HBd ⊢
          clear hcr hbr HB
          cases hex : exclB ⟨ma0, ma1, ma2⟩ ⟨mx0, mx1, mx2⟩ with
          | true =>
            rw [hex] at hd
            simp only [if_true, Option.some.injEq, Prod.mk.injEq] at hd
            obtain ⟨rfl, rfl⟩ := hd
            have CE := Aside0.mk (exclude_calls ⟨ma0, ma1, ma2⟩ ⟨mx0, mx1, mx2⟩ wd)
            rw [hex] at CE
            clear hex
            go_wp2_with (go_at_call 8; refine CE.out.mono ?_; rintro e w2 ⟨rfl, hb⟩; have HB2 := Aside0.mk (below_step HBd.out hb); clear hb)
            go_ret2
            exact ⟨rfl, below_step HB1.out HB2.out⟩
          | false =>
            rw [hex] at hd
            simp only [Bool.false_eq_true, if_false] at hd
            have HD := Aside0.mk hd
            have CE := Aside0.mk (exclude_calls ⟨ma0, ma1, ma2⟩ ⟨mx0, mx1, mx2⟩ wd)
            rw [hex] at CE
            clear hex hd
            go_wp2_with (go_at_call 8; refine CE.out.mono ?_; rintro e w2 ⟨rfl, hb⟩; have HB2 := Aside0.mk (below_step HBd.out hb); clear hb)
            go_roundw
            case rel => exact ⟨n + 1, hlt, by go_num, HD, HB2⟩
            case measure => simp [intOf]; omega
        · rw [if_neg hr] at hd
          cases hd
      · rw [if_neg hix] at hd
        have HD := Aside0.mk hd
        clear hd
        have hixd : decide (i < x) = false := by simpa using hix
        clear hix
        go_wp2_with fail
        go_quiet (fail)
        have HBd : Aside0 (Below w1.heap.size w1 (wr.drewN nq)) := ⟨pw_below_drewN HB.out _⟩
        go_wp2
        go_roundw
        case rel => exact ⟨n + 1, hlt, by go_num, HD, HBd⟩
        case measure => simp [intOf]; omega
    · obtain rfl : xs.length = n := by omega
      have hd := HD.out
      rw [List.drop_length] at hd
      simp only [otherF, Option.some.injEq, Prod.mk.injEq] at hd
      obtain ⟨rfl, rfl⟩ := hd
      go_wp2
      go_ret2
      exact ⟨rfl, below_step HB1.out HB.out⟩
end Go.Proofs.Ytjbafigageingaa
