import Derived.Test.YtjbafigageingaaKcSolve
import Derived.Test.YtjbafigageingaaKcPRx6
import Derived.Test.YtjbafigageingaaKcExcl
import Derived.Test.YtjbafigageingaaKcExcP
import Derived.ArgAppend
namespace Go.Proofs.Ytjbafigageingaa
open Go.RowKit Go.Maps Go.Proofs.YtjbafigageingaaW.PrintWords Go.Proofs.YtjbafigageingaaW.PrintLast Go.Proofs.YtjbafigageingaaW.PrintMore
set_option linter.unusedVariables false
set_option linter.unusedSimpArgs false
theorem full_append_run {α : Type} {d : Kd α} {P : Program} {W : World} (t ty e : TypeId) (z : Value) (bytes : Nat) (ht : P.underlying t = some (.slice e)) (hinfo : (P.info? e).map (fun i => (i.zero, i.size, i.bytes)) = some (some z, d.sz, bytes)) (hz : z.cells.size = d.sz) (hs0 : 0 < d.sz) (hb0 : 0 < bytes)
    (b : Addr) (n : Nat) (xs : List α) (p : α) (cs : List Value) (hC : d.C W (some b) n xs) (hKM : ∀ (w : World) base ok x c, d.K w x c → d.M w base ok x c) (hp : d.K W p cs) (hl : (n + 1) * bytes ≤ 140737488355328) :
    ∃ v1 w1, (Builtin.append_ #[t, t] ty #[.slice (some b) n n, .slice (some ⟨W.heap.size, 0, none⟩) 1 1]).run P (W.alloc (.cells cs.toArray e)) = .ok v1 w1 ∧ d.R e w1 W.heap.size T1 v1 (xs ++ [p]) ∧ Below W.heap.size W w1 := by
  obtain ⟨i0, hi, hzz⟩ := Option.map_eq_some_iff.1 hinfo
  simp only [Prod.mk.injEq] at hzz
  obtain ⟨hz0, hz1, hz2⟩ := hzz
  have hb := below_alloc (Below.refl W.heap.size W) (.cells cs.toArray e)
  have hC1 := Kd.C_below hC hb
  obtain ⟨inner, hr, hcell⟩ := ReadsRow.inner_ hC1
  have hn : xs.length = n := hC.1
  have hcl := d.K_len hp
  have hlen : n + 1 ≤ 140737488355328 := Nat.le_trans (Nat.le_mul_of_pos_right _ hb0) hl
  obtain ⟨v1, w1, hrun, hown, hg⟩ := run_append_arg_grows (P := P) (w := W.alloc (.cells cs.toArray e)) t ty e i0 z d.sz bytes ht hi hz0 hz1 hz2 hz hs0 b n n inner (by rw [hr.1, hn]) hcell ⟨W.heap.size, 0, none⟩ 1 1 cs (by rw [hcl, Nat.one_mul])
    (by simpa using World.news_of_block (cs := cs.toArray) (t := e) (fr := (0, 0)) (heap_alloc_new W (.cells cs.toArray e))) (by omega) (by simp only [maxLen]; omega) hl
  have hb1 : Below (W.alloc (.cells cs.toArray e)).heap.size (W.alloc (.cells cs.toArray e)) w1 := ⟨hg.os, hg.tape, hg.output, hg.size, fun k hk => hg.block k hk (by simp)⟩
  have hown' : w1.ownsRow W.heap.size e d.sz v1 (xs ++ [p]).length (inner ++ cs) := by
    rw [List.length_append, hn]
    exact own_weaken hown (by simp)
  refine ⟨v1, w1, hrun, ⟨fun _ _ => trivial, _, hown', ?_⟩, below_step hb hb1⟩
  exact (hr.imp_ (fun x c hk => hKM w1 _ _ x c (d.K_below hb1 hk))).snoc (hKM w1 _ _ p cs (d.K_below (below_step hb hb1) hp)) hcl
theorem k36_KM (w : World) (base : Nat) (ok : Nat → Prop) (x : S36) (c : List Value) (h : k36.K w x c) : k36.M w base ok x c := by
  obtain rfl := k36_open h
  exact k36_mkM _ _ _ _
section
variable {P : Program} {ops : Array Oper} {rest : List Oper} {o : Oper} {a : Act} {Q' : Exit → Act → World → Prop} {Kc : Act → World → Prop} {α : Type}
theorem full_append_step (d : Kd α) {W : World} (hw : Region.wanted o (yielded ops a.tmps) = true) (s x : Operand) (t e : TypeId) (z : Value) (bytes : Nat)
    (ho : o.op = .call { callee := .builtin .append, args := #[s, x], argTypes := #[t, t] })
    (ht : P.underlying t = some (.slice e)) (hinfo : (P.info? e).map (fun i => (i.zero, i.size, i.bytes)) = some (some z, d.sz, bytes)) (hz : z.cells.size = d.sz) (hs0 : 0 < d.sz) (hb0 : 0 < bytes)
    (b : Addr) (n : Nat) (xs : List α) (p : α) (cs : List Value) (hs : a.eval s = .slice (some b) n n) (hx : a.eval x = .slice (some ⟨W.heap.size, 0, none⟩) 1 1) (hC : d.C W (some b) n xs) (hKM : ∀ (w : World) base ok x c, d.K w x c → d.M w base ok x c) (hp : d.K W p cs) (hl : (n + 1) * bytes ≤ 140737488355328)
    (h : ∀ v1 w1, d.R e w1 W.heap.size T1 v1 (xs ++ [p]) → Below W.heap.size W w1 → Kc (a.put o.dst v1) w1) :
    if Region.wanted o (yielded ops a.tmps) = true then Oper.wp P o a (W.alloc (.cells cs.toArray e)) Kc Q' else Kc (a.put o.dst undef) (W.alloc (.cells cs.toArray e)) := by
  obtain ⟨v1, w1, hr, h1, h2⟩ := full_append_run (P := P) (W := W) t o.type e z bytes ht hinfo hz hs0 hb0 b n xs p cs hC hKM hp hl
  rw [if_pos hw]
  unfold Oper.wp execOp
  simp only [ho, resolve, invoke, builtin, Sem.run_bind, Sem.run_pure, Result.andThen_ok, List.map_toArray, List.map_cons, List.map_nil, hs, hx, hr]
  exact h v1 w1 h1 h2
end
theorem R_lit3 {α : Type} (d : Kd α) (e : Nat) (W : World) (x y z : α) (cx cy cz : List Value) (hx : ∀ w b ok, d.M w b ok x cx) (hy : ∀ w b ok, d.M w b ok y cy) (hz : ∀ w b ok, d.M w b ok z cz) :
    d.R e (W.alloc (.cells (cx ++ cy ++ cz).toArray e)) W.heap.size T1 (.slice (some ⟨W.heap.size, 0, none⟩) 3 3) [x, y, z] := by
  have lx := d.K_len (d.K_of_M (hx W 0 T1))
  have ly := d.K_len (d.K_of_M (hy W 0 T1))
  have lz := d.K_len (d.K_of_M (hz W 0 T1))
  refine ⟨fun _ _ => trivial, cx ++ cy ++ cz, ?_, ?_⟩
  · have h := World.ownsRow_lit (base := W.heap.size) (e := e) (size := d.sz) W (cx ++ cy ++ cz).toArray 3 (Nat.le_refl _) (by simp [maxLen]) (by simp; omega)
    simpa using h
  · exact ((((Reps.none _ _).snoc (ps := []) (cs := []) (hx _ _ _) lx).snoc (hy _ _ _) ly).snoc (hz _ _ _) lz)
theorem C_lists1 (W w1 : World) (A : Option Addr) (c : Nat) (l : List Int) (hl : l.length ≤ c) (hC : Kd.C (Kd.int .i64) W A l.length l) : Kd.C kII (W.alloc (.cells #[.slice A l.length c] 33)) (some ⟨W.heap.size, 0, none⟩) 1 [l] := by
  refine ⟨rfl, by omega, fun _ => ⟨_, rfl, fun j p hj => ?_⟩⟩
  match j, hj with
  | 0, hj =>
    simp at hj
    subst hj
    refine ⟨[.slice A l.length c], rfl, ⟨A, c, rfl, hl, Kd.C_below hC (below_alloc (Below.refl _ _) _)⟩, fun i u hu => ?_⟩
    match i, hu with
    | 0, hu =>
      simp at hu
      subst hu
      simp [kII, Kd.slice, Addr.add]
abbrev exL : List S36 := [⟨0, 0, 0, ⟨1, 0, ⟨#[]⟩⟩, 0, 0⟩, ⟨1, 0, 1, ⟨0, 0, ⟨#[]⟩⟩, 0, 0⟩, ⟨1, 1, 2, ⟨0, 0, ⟨#[]⟩⟩, 0, 0⟩, ⟨0, 2, 0, ⟨2, 0, ⟨#[]⟩⟩, 0, 0⟩, ⟨1, 0, 2, ⟨0, 0, ⟨#[]⟩⟩, 0, 0⟩]
abbrev exR : List S36 := [⟨0, 0, 0, ⟨1, 0, ⟨#[]⟩⟩, 0, 0⟩, ⟨1, 0, 1, ⟨0, 0, ⟨#[]⟩⟩, 0, 0⟩, ⟨1, 1, 2, ⟨0, 0, ⟨#[]⟩⟩, 0, 0⟩, ⟨1, 0, 2, ⟨0, 0, ⟨#[]⟩⟩, 0, 0⟩]
abbrev int23 : S23 := ⟨1, 0, ⟨#[]⟩⟩
theorem C_three {W : World} {A : Option Addr} (h : k36.C W A 5 exL) : k36.C W A 3 [exL.getD 0 z36, exL.getD 1 z36, exL.getD 2 z36] := by
  obtain ⟨_, _, h3⟩ := h
  refine ⟨rfl, by omega, fun _ => ?_⟩
  obtain ⟨ad, e, hc⟩ := h3 (by omega)
  refine ⟨ad, e, fun j p hj => hc j p ?_⟩
  match j, hj with
  | 0, hj => exact hj
  | 1, hj => exact hj
  | 2, hj => exact hj
def made9 : Array Value := madeCells (Value.agg #[.int .i64 0, .int .i64 0, .string ⟨#[]⟩]).cells 9
theorem mk3 (W : World) : (Instr.makeSlice 28 (.int .i64 3) (.int .i64 3)).run Try.prog W = .ok (.slice (some ⟨W.heap.size, 0, none⟩) 3 3) (W.alloc (.cells made9 23)) := by
  obtain ⟨i0, hi, hzz⟩ := Option.map_eq_some_iff.1 info23
  simp only [Prod.mk.injEq] at hzz
  obtain ⟨hz0, hz1, hz2⟩ := hzz
  have hr := run_make (P := Try.prog) W 28 23 i0 (.agg #[.int .i64 0, .int .i64 0, .string ⟨#[]⟩]) Try.underlying28 hi hz0 .i64 .i64 3 3 (by decide) (by decide) (by rw [hz2]; decide) (by decide)
  rw [hz1] at hr
  exact hr
theorem R_made9 (W : World) : Kd.R k23 23 (W.alloc (.cells made9 23)) W.heap.size T1 (.slice (some ⟨W.heap.size, 0, none⟩) 3 3) [z23, z23, z23] := by
  have hrep := Kd.reps_made (R := k23.M (W.alloc (.cells made9 23)) W.heap.size (fun k => T1 k ∧ some k ≠ (Value.slice (some ⟨W.heap.size, 0, none⟩) 3 3).ownBlock)) (z := .agg #[.int .i64 0, .int .i64 0, .string ⟨#[]⟩]) (size := 3) rfl (by decide) (k23_mkM _ _ _ z23) 3
  refine ⟨fun _ _ => trivial, made9.toList, ?_, hrep⟩
  have h := World.ownsRow_lit (base := W.heap.size) (e := 23) (size := 3) W made9 3 (Nat.le_refl _) (by simp [maxLen]) (by have h9 := hrep.1; rw [Array.length_toList] at h9; exact h9)
  have h' : (W.alloc (.cells made9 23)).ownsRow W.heap.size 23 3 (.slice (some ⟨W.heap.size, 0, none⟩) 3 3) 3 made9.toList := by simpa using h
  exact h'
theorem evL : solveF 3 exL 10 = some ([z23, z23, z23], [[0, 4, 3]], 0) := by kernel_rfl
theorem evR : solveF 3 exR 10 = some ([int23, int23, int23], [], 0) := by kernel_rfl
theorem eqv1 : PR.assessorref08_Equal.f 10 [z23, z23, z23] [z23, z23, z23] = some true := by kernel_rfl
theorem eqv2 : PR.assessorref08_Equal.f 10 [int23, int23, int23] [int23, int23, int23] = some true := by kernel_rfl
theorem eqv3 : PR.assessorref09_Lists.f 10 [[0, 4, 3]] [[0, 4, 3]] = some true := by kernel_rfl
theorem R_int9 (W : World) : Kd.R k23 23 (W.alloc (.cells #[.int .i64 1, .int .i64 0, .string ⟨#[]⟩, .int .i64 1, .int .i64 0, .string ⟨#[]⟩, .int .i64 1, .int .i64 0, .string ⟨#[]⟩] 23)) W.heap.size T1 (.slice (some ⟨W.heap.size, 0, none⟩) 3 3) [int23, int23, int23] :=
  R_lit3 k23 23 W int23 int23 int23 [.int .i64 1, .int .i64 0, .string ⟨#[]⟩] [.int .i64 1, .int .i64 0, .string ⟨#[]⟩] [.int .i64 1, .int .i64 0, .string ⟨#[]⟩] (fun _ _ _ => k23_mkM _ _ _ _) (fun _ _ _ => k23_mkM _ _ _ _) (fun _ _ _ => k23_mkM _ _ _ _)
theorem R_three (W : World) : Kd.R (Kd.int .i64) 3 (W.alloc (.cells #[.int .i64 0, .int .i64 4, .int .i64 3] 3)) W.heap.size T1 (.slice (some ⟨W.heap.size, 0, none⟩) 3 3) [0, 4, 3] :=
  R_lit3 (Kd.int .i64) 3 W 0 4 3 [.int .i64 0] [.int .i64 4] [.int .i64 3] (fun _ _ _ => rfl) (fun _ _ _ => rfl) (fun _ _ _ => rfl)
theorem call16a (W : World) (b : Nat) (A : Option Addr) (c : Nat) (h : Kd.R k23 23 W b T1 (.slice A 3 c) [z23, z23, z23]) :
    Calls Try.prog 16 #[.slice A 3 c, .slice (some ⟨W.heap.size, 0, none⟩) 3 3] (W.alloc (.cells made9 23)) fun e w' => e = .returned (.bool true) ∧ Below W.heap.size W w' := by
  have hb := below_alloc (Below.refl W.heap.size W) (.cells made9 23)
  obtain ⟨_, h1, h2⟩ := Kd.R_reads' h
  obtain ⟨_, _, h3⟩ := Kd.R_reads' (R_made9 W)
  refine (PR.assessorref08_Equal.calls 10 A c [z23, z23, z23] _ 3 [z23, z23, z23] true _ (Kd.C_below h2 hb) h1 h3 (Nat.le_refl 3) eqv1).mono ?_
  rintro e w' ⟨he, hd⟩
  exact ⟨he, below_step hb hd.below⟩
theorem call16b (W : World) (b : Nat) (A : Option Addr) (c : Nat) (h : Kd.R k23 23 W b T1 (.slice A 3 c) [int23, int23, int23]) :
    Calls Try.prog 16 #[.slice A 3 c, .slice (some ⟨W.heap.size, 0, none⟩) 3 3] (W.alloc (.cells #[.int .i64 1, .int .i64 0, .string ⟨#[]⟩, .int .i64 1, .int .i64 0, .string ⟨#[]⟩, .int .i64 1, .int .i64 0, .string ⟨#[]⟩] 23)) fun e w' => e = .returned (.bool true) ∧ Below W.heap.size W w' := by
  have hb := below_alloc (Below.refl W.heap.size W) (.cells #[.int .i64 1, .int .i64 0, .string ⟨#[]⟩, .int .i64 1, .int .i64 0, .string ⟨#[]⟩, .int .i64 1, .int .i64 0, .string ⟨#[]⟩] 23)
  obtain ⟨_, h1, h2⟩ := Kd.R_reads' h
  obtain ⟨_, _, h3⟩ := Kd.R_reads' (R_int9 W)
  refine (PR.assessorref08_Equal.calls 10 A c [int23, int23, int23] _ 3 [int23, int23, int23] true _ (Kd.C_below h2 hb) h1 h3 (Nat.le_refl 3) eqv2).mono ?_
  rintro e w' ⟨he, hd⟩
  exact ⟨he, below_step hb hd.below⟩
theorem call18a (W : World) (b : Nat) (A : Option Addr) (c : Nat) (h : Kd.R kII 33 W b T1 (.slice A 1 c) [[0, 4, 3]]) :
    Calls Try.prog 18 #[.slice A 1 c, .slice (some ⟨W.heap.size + 1, 0, none⟩) 1 1] ((W.alloc (.cells #[.int .i64 0, .int .i64 4, .int .i64 3] 3)).alloc (.cells #[.slice (some ⟨W.heap.size, 0, none⟩) 3 3] 33)) fun e w' => e = .returned (.bool true) ∧ Below W.heap.size W w' := by
  have hb := below_alloc (below_alloc (Below.refl W.heap.size W) (.cells #[.int .i64 0, .int .i64 4, .int .i64 3] 3)) (.cells #[.slice (some ⟨W.heap.size, 0, none⟩) 3 3] 33)
  obtain ⟨_, h1, h2⟩ := Kd.R_reads' h
  obtain ⟨_, _, h3⟩ := Kd.R_reads' (R_three W)
  have h4 := C_lists1 (W.alloc (.cells #[.int .i64 0, .int .i64 4, .int .i64 3] 3)) W (some ⟨W.heap.size, 0, none⟩) 3 [0, 4, 3] (Nat.le_refl 3) h3
  rw [World.size_alloc] at h4
  refine (PR.assessorref09_Lists.calls 10 A c [[0, 4, 3]] _ 1 [[0, 4, 3]] true _ (Kd.C_below h2 hb) h1 h4 (Nat.le_refl 1) eqv3).mono ?_
  rintro e w' ⟨he, hd⟩
  exact ⟨he, below_step hb hd.below⟩
set_option maxRecDepth 100000 in
set_option maxHeartbeats 4000000 in
theorem awake_calls (w : World) : Calls Try.prog 10 #[] w fun e w' => e = .returned (.bool true) ∧ Below w.heap.size w w' := by
  go_enter Try.func10, Try.ntmps10
  go_upto_region 2 with (first
    | (go_at_call 26; refine (PR.assessorlaw09_example.calls exL _ rfl).mono ?_; rintro e w1 ⟨v1, rfl, hr1, hb1⟩; obtain ⟨A1, c1, rfl⟩ := R_shape hr1; have HR1 := Aside0.mk hr1; have HB1 := Aside0.mk hb1; clear hr1 hb1)
    | (go_at_call 12; refine (solve_calls 3 A1 c1 exL 10 _ _ (Kd.R_reads' HR1.out).2.2 (by decide) evL).mono ?_; rintro e w2 ⟨vo, vc, rfl, ho2, hc2, hb2⟩; have HO2 := Aside0.mk ho2; have HC2 := Aside0.mk hc2; have HB2 := Aside0.mk (below_step HB1.out hb2); clear ho2 hc2 hb2 HR1 HB1))
  refine start_ (n := 8) (S := fun w' => True) (ds := []) #[false, false, false, false, false, false, false, false] (by kernel_rfl) rfl rfl trivial (fun hHeld => ?_)
  have HO2d := Aside0.mk (Kd.R_below HO2.out (below_drew (Below.refl _ _)))
  have HC2d := Aside0.mk (Kd.R_below HC2.out (below_drew (Below.refl _ _)))
  have HB2d := Aside0.mk (below_drew1 HB2.out)
  clear HO2 HC2 HB2
  generalize w2.drew = wd at HO2d HC2d HB2d ⊢
  refine one_ (i := 0) (N := some 15) #[true, false, false, false, false, false, false, false] rfl rfl (by kernel_rfl) (by decide) (fun K hK => ?_)
  refine goes_ Try.func26 (by kernel_rfl) rfl #[] (by rfl) rfl rfl (by first | rfl | (simp only [List.map_toArray, List.map_cons, List.map_nil]; done) | (simp only [List.map_toArray, List.map_cons, List.map_nil]; rfl)) ?_
  with_reducible refine (PR.assessorlaw09_example.calls exL _ rfl).mono ?_
  rintro e w3 ⟨v3, rfl, hr3, hb3⟩
  refine ⟨_, rfl, ?_⟩
  obtain ⟨A3, c3, rfl⟩ := R_shape hr3
  obtain ⟨g3, rfl, hz1, hz2⟩ := R_head hr3 (by decide)
  have hcap3 : (3 : Int) ≤ (c3 : Int) := by have h5 : 5 ≤ c3 := (Kd.R_reads' hr3).2.1; omega
  have hC3 := (Kd.R_reads' hr3).2.2
  have HC3 := Aside0.mk hC3
  have HB3 := Aside0.mk hb3
  clear hr3 hb3 hz1 hz2 hC3
  refine hK.out _ _ trivial (fun hHeld => ?_)
  clear hK K
  refine norm_ (a' := ?_) ?_ ?_
  rotate_left
  · show Act.put _ (some 15) _ = _
    simp only [Act.put, List.setIfInBounds_toArray, List.set_cons_zero, List.set_cons_succ, i64_w, i32_w]
    rfl
  refine pure_ (i := 1) (N := some 16) (v := ?_) (a' := ?_) #[true, true, false, false, false, false, false, false] rfl rfl (by kernel_rfl) (fun _ _ _ h => h) (Or.inl ⟨by rfl, ?_⟩) ?_ ?_
  rotate_left
  · intro w'
    go_simp
    with_reducible rfl
  rotate_left
  · simp only [Act.put, List.setIfInBounds_toArray, List.set_cons_zero, List.set_cons_succ, i64_w, i32_w]
    rfl
  refine one_ (i := 2) (N := some 17) #[true, true, true, false, false, false, false, false] rfl rfl (by kernel_rfl) (by decide) (fun K hK => ?_)
  refine goes_ Try.func26 (by kernel_rfl) rfl #[] (by rfl) rfl rfl (by first | rfl | (simp only [List.map_toArray, List.map_cons, List.map_nil]; done) | (simp only [List.map_toArray, List.map_cons, List.map_nil]; rfl)) ?_
  with_reducible refine (PR.assessorlaw09_example.calls exL _ rfl).mono ?_
  rintro e w4 ⟨v4, rfl, hr4, hb4⟩
  refine ⟨_, rfl, ?_⟩
  obtain ⟨A4, c4, rfl⟩ := R_shape hr4
  obtain ⟨g4, rfl, hz1, hz2⟩ := R_head hr4 (by decide)
  obtain ⟨ad4, had4, p0, p1, p2, p3, p4, p5, p6, p7⟩ := at_T36 (Kd.R_reads' hr4).2.2 4 (by decide) (by decide)
  injection had4 with had4
  subst had4
  have q0 : w4.cell? ⟨g4, 32, none⟩ = some (.int .i64 1) := p0
  have q1 : w4.cell? ⟨g4, 33, none⟩ = some (.int .i64 0) := p1
  have q2 : w4.cell? ⟨g4, 34, none⟩ = some (.int .i64 2) := p2
  have q3 : w4.cell? ⟨g4, 35, none⟩ = some (.int .i64 0) := p3
  have q4 : w4.cell? ⟨g4, 36, none⟩ = some (.int .i64 0) := p4
  have q5 : w4.cell? ⟨g4, 37, none⟩ = some (.string ⟨#[]⟩) := p5
  have q6 : w4.cell? ⟨g4, 38, none⟩ = some (.int .i64 0) := p6
  have q7 : w4.cell? ⟨g4, 39, none⟩ = some (.int .i64 0) := p7
  clear p0 p1 p2 p3 p4 p5 p6 p7
  have HC4 := Aside0.mk (Kd.C_below HC3.out hb4)
  have HB4 := Aside0.mk (below_step HB3.out hb4)
  clear hr4 hb4 hz1 hz2 HC3 HB3
  refine hK.out _ _ trivial (fun hHeld => ?_)
  clear hK K
  refine norm_ (a' := ?_) ?_ ?_
  rotate_left
  · show Act.put _ (some 17) _ = _
    simp only [Act.put, List.setIfInBounds_toArray, List.set_cons_zero, List.set_cons_succ, i64_w, i32_w]
    rfl
  refine pure_ (i := 3) (N := some 18) (v := ?_) (a' := ?_) #[true, true, true, true, false, false, false, false] rfl rfl (by kernel_rfl) (fun _ _ _ h => h) (Or.inl ⟨by rfl, ?_⟩) ?_ ?_
  rotate_left
  · intro w'
    go_simp
    with_reducible rfl
  rotate_left
  · simp only [Act.put, List.setIfInBounds_toArray, List.set_cons_zero, List.set_cons_succ, i64_w, i32_w]
    rfl
  refine one_ (i := 4) (N := some 19) #[true, true, true, true, true, false, false, false] rfl rfl (by kernel_rfl) (by decide) (fun K hK => ?_)
  refine value_ (w1 := ?_) (v := ?_) (by rfl) rfl ?_ ?_
  rotate_left 2
  · go_simp
    constructor
    · rfl
    · rfl
  refine hK.out _ _ trivial (fun hHeld => ?_)
  clear hK K
  refine norm_ (a' := ?_) ?_ ?_
  rotate_left
  · show Act.put _ (some 19) _ = _
    simp only [Act.put, List.setIfInBounds_toArray, List.set_cons_zero, List.set_cons_succ, i64_w, i32_w]
    rfl
  refine one_ (i := 5) (N := some 20) #[true, true, true, true, true, true, false, false] rfl rfl (by kernel_rfl) (by decide) (fun K hK => ?_)
  refine value_ (w1 := ?_) (v := ?_) (by rfl) rfl ?_ ?_
  rotate_left 2
  · go_simp
    constructor
    · rfl
    · rfl
  refine hK.out _ _ trivial (fun hHeld => ?_)
  clear hK K
  refine norm_ (a' := ?_) ?_ ?_
  rotate_left
  · show Act.put _ (some 20) _ = _
    simp only [Act.put, List.setIfInBounds_toArray, List.set_cons_zero, List.set_cons_succ, i64_w, i32_w]
    rfl
  refine one_ (i := 6) (N := some 21) #[true, true, true, true, true, true, true, false] rfl rfl (by kernel_rfl) (by decide) (fun K hK => ?_)
  refine full_append_step k36 (W := w4) (by rfl) (.tmp 16) (.tmp 20) 26 36 (.agg #[.int .i64 0, .int .i64 0, .int .i64 0, .int .i64 0, .int .i64 0, .string ⟨#[]⟩, .int .i64 0, .int .i64 0]) 72 (by rfl) Try.underlying26 info36 rfl (by decide) (by decide) ⟨g3, 0, none⟩ 3 [exL.getD 0 z36, exL.getD 1 z36, exL.getD 2 z36] (exL.getD 4 z36) [.int .i64 1, .int .i64 0, .int .i64 2, .int .i64 0, .int .i64 0, .string ⟨#[]⟩, .int .i64 0, .int .i64 0] (by rfl) (by rfl) (C_three HC4.out) k36_KM (k36_mk _ _) (by omega) ?_
  intro v6 w6 hr6 hb6
  have HR6 := Aside0.mk (Kd.R_lower hr6 (Nat.le_trans HB2d.out.size HB4.out.size))
  have HB6 := Aside0.mk (below_step HB4.out hb6)
  clear hr6 hb6
  refine hK.out _ _ trivial (fun hHeld => ?_)
  clear hK K
  refine norm_ (a' := ?_) ?_ ?_
  rotate_left
  · show Act.put _ (some 21) _ = _
    simp only [Act.put, List.setIfInBounds_toArray, List.set_cons_zero, List.set_cons_succ, i64_w, i32_w]
    rfl
  refine pure_ (i := 7) (N := some 4) (v := ?_) (a' := ?_) #[true, true, true, true, true, true, true, true] rfl rfl (by kernel_rfl) (fun _ _ _ h => h) (Or.inl ⟨by rfl, ?_⟩) ?_ ?_
  rotate_left
  · intro w'
    go_simp
    with_reducible rfl
  rotate_left
  · simp only [Act.put, List.setIfInBounds_toArray, List.set_cons_zero, List.set_cons_succ, i64_w, i32_w]
    rfl
  refine done_ (by kernel_rfl) ?_
  clear hHeld q0 q1 q2 q3 q4 q5 q6 q7 hcap3 HC4 HB4
  replace HR6 : Aside0 (k36.R 36 w6 w.heap.size T1 v6 exR) := ⟨HR6.out⟩
  obtain ⟨A6, c6, rfl⟩ := R_shape HR6.out
  go_upto_region 4 with (go_at_call 12; refine (solve_calls 3 A6 c6 exR 10 _ _ (Kd.R_reads' HR6.out).2.2 (by decide) evR).mono ?_; rintro e w7 ⟨vo7, vc7, rfl, ho7, hc7, hb7⟩; have HO7 := Aside0.mk ho7; have HC7 := Aside0.mk hc7; have HB7 := Aside0.mk (below_step HB6.out hb7); clear ho7 hc7 hb7 HR6)
  have HO2 := Aside0.mk (Kd.R_below HO2d.out HB7.out)
  have HC2 := Aside0.mk (Kd.R_below HC2d.out HB7.out)
  have HBB := Aside0.mk (below_step HB2d.out HB7.out)
  clear HO2d HC2d HB2d HB6 HB7
  obtain ⟨Ao2, co2, rfl⟩ : ∃ A c, vo = .slice A 3 c := R_shape HO2.out
  obtain ⟨Ac2, cc2, rfl⟩ : ∃ A c, vc = .slice A 1 c := R_shape HC2.out
  obtain ⟨Ao7, co7, rfl⟩ : ∃ A c, vo7 = .slice A 3 c := R_shape HO7.out
  obtain ⟨Ac7, cc7, rfl⟩ : ∃ A c, vc7 = .slice A 0 c := R_shape HC7.out
  go_upto_region 5 with (fail)
  obtain ⟨W, hW, hbW, k0, k1, k2⟩ : ∃ W : World, w7.alloc (.cells #[.int .i64 1, .int .i64 0, .string ⟨#[]⟩] 23) = W ∧ Below w7.heap.size w7 W ∧ W.cell? ⟨w7.heap.size, 0, none⟩ = some (.int .i64 1) ∧ W.cell? ⟨w7.heap.size, 1, none⟩ = some (.int .i64 0) ∧ W.cell? ⟨w7.heap.size, 2, none⟩ = some (.string ⟨#[]⟩) := ⟨_, rfl, below_alloc (Below.refl _ _) _, by simp, by simp, by simp⟩
  rw [hW]
  replace HO2 := Aside0.mk (Kd.R_below HO2.out hbW)
  replace HC2 := Aside0.mk (Kd.R_below HC2.out hbW)
  replace HO7 := Aside0.mk (Kd.R_below HO7.out hbW)
  replace HBB := Aside0.mk (below_step HBB.out hbW)
  clear hW hbW HC7
  have hmk := mk3
  go_wp2_with (first
    | (go_at_call 16; refine (call16a _ _ _ _ HO2.out).mono ?_; rintro e w9 ⟨rfl, hb9⟩; have HB9 := Aside0.mk (below_step HBB.out hb9); have HCC := Aside0.mk (Kd.R_below HC2.out hb9); have HOC := Aside0.mk (Kd.R_below HO7.out hb9); replace k0 := pw_cell_below hb9 k0; replace k1 := pw_cell_below hb9 k1; replace k2 := pw_cell_below hb9 k2; clear hb9 HO2 HC2 HO7 HBB)
    | (go_at_call 18; refine (call18a _ _ _ _ HCC.out).mono ?_; rintro e w10 ⟨rfl, hb10⟩; have HB10 := Aside0.mk (below_step HB9.out hb10); have HOD := Aside0.mk (Kd.R_below HOC.out hb10); replace k0 := pw_cell_below hb10 k0; replace k1 := pw_cell_below hb10 k1; replace k2 := pw_cell_below hb10 k2; clear hb10 HOC HCC HB9)
    | (go_at_call 16; refine (call16b _ _ _ _ HOD.out).mono ?_; rintro e w11 ⟨rfl, hb11⟩; have HB11 := Aside0.mk (below_step HB10.out hb11); clear hb11 HOD HB10 k0 k1 k2))
  go_ret
  exact ⟨rfl, HB11.out⟩
end Go.Proofs.Ytjbafigageingaa
