import Derived.Test.YtjbafigageingaaKsSolve
import Derived.Test.YtjbafigageingaaKsPRx6
import Derived.Test.YtjbafigageingaaKsM0
import Derived.Test.YtjbafigageingaaKsM1
import Derived.ArgAppend
import Derived.Test.YtjbafigageingaaProg
import Derived.Test.YtjbafigageingaaKsW
import Derived.Below
import Derived.Deep.Draws
import Derived.Deep.AppendLies
import Derived.Maps.AppendAt
import Derived.OwnWalk
import Derived.Laws.BytesArg
import Derived.Laws.MakeOwn
import Derived.Laws.OwnMore
import Derived.Deep.OwnRows
import Derived.Tactics
import Derived.Lib.ConvBytes
import Derived.Laws.Slices
import Derived.WalkKit
import Derived.KernelRfl
import Derived.RowKit3
import Derived.Deep.LoopGhost
import Derived.Deep.QuietTactic
import Derived.BigQuiet
import Derived.WideLaws
import Derived.Deep.DeepCutAuto
import Derived.Deep.CutBlock
import Derived.Deep.RegionHeld3
import Derived.Laws.Rows
import Derived.Lib.AppendStr
import Derived.Laws.IdiomCopy
import Derived.OrdersHeld
import Derived.Laws.BitsLemmas
import Derived.RowKit
import Derived.Test.YtjbafigageingaaKsM2
import Derived.Test.YtjbafigageingaaKsPFx1
import Derived.Test.YtjbafigageingaaKsConn
namespace Go.Proofs.Ytjbafigageingaa
open Go.RowKit Go.Maps Go.Proofs.YtjbafigageingaaW.PrintWords Go.Proofs.YtjbafigageingaaW.PrintLast Go.Proofs.YtjbafigageingaaW.PrintMore
set_option linter.unusedVariables false
set_option linter.unusedSimpArgs false
theorem full_append_run {α : Type} {d : Kd α} {P : Program} {W : World} (t ty e : TypeId) (z : Value) (bytes : Nat) (ht : P.underlying t = some (.slice e)) (hinfo : (P.info? e).map (fun i => (i.zero, i.size, i.bytes)) = some (some z, d.sz, bytes)) (hz : z.cells.size = d.sz) (hs0 : 0 < d.sz) (hb0 : 0 < bytes)
    (b : Addr) (n : Nat) (xs : List α) (p : α) (cs : List Value) (hC : d.C W (some b) n xs) (hKM : ∀ (w : World) base ok x c, d.K w x c → d.M w base ok x c) (hp : d.K W p cs) (hl : (n + 1) * bytes ≤ 140737488355328) :
    ∃ v1 w1, (Builtin.append_ #[t, t] ty #[.slice (some b) n n, .slice (some ⟨W.heap.size, 0, none⟩) 1 1]).run P (W.alloc (.cells cs.toArray e)) = .ok v1 w1 ∧ d.R e w1 W.heap.size T1 v1 (xs ++ [p]) ∧ Below W.heap.size W w1 := by
  obtain ⟨i0, hi, hzz⟩ := Option.map_eq_some_iff.1 hinfo
  simp only [Prod.mk.injEq] at hzz
  obtain ⟨hz0, hz1, hz2⟩ := hzz
  have hb := below_alloc (Below.refl W.heap.size W) (.cells cs.toArray e)
  have hC1 := Kd.C_below hC hb
  obtain ⟨inner, hr, hcell⟩ := ReadsRow.inner_ hC1
  have hn : xs.length = n := hC.1
  have hcl := d.K_len hp
  have hlen : n + 1 ≤ 140737488355328 := Nat.le_trans (Nat.le_mul_of_pos_right _ hb0) hl
  obtain ⟨v1, w1, hrun, hown, hg⟩ := run_append_arg_grows (P := P) (w := W.alloc (.cells cs.toArray e)) t ty e i0 z d.sz bytes ht hi hz0 hz1 hz2 hz hs0 b n n inner (by rw [hr.1, hn]) hcell ⟨W.heap.size, 0, none⟩ 1 1 cs (by rw [hcl, Nat.one_mul])
    (by simpa using World.news_of_block (cs := cs.toArray) (t := e) (fr := (0, 0)) (heap_alloc_new W (.cells cs.toArray e))) (by omega) (by simp only [maxLen]; omega) hl
  have hb1 : Below (W.alloc (.cells cs.toArray e)).heap.size (W.alloc (.cells cs.toArray e)) w1 := ⟨hg.os, hg.tape, hg.output, hg.size, fun k hk => hg.block k hk (by simp)⟩
  have hown' : w1.ownsRow W.heap.size e d.sz v1 (xs ++ [p]).length (inner ++ cs) := by
    rw [List.length_append, hn]
    exact own_weaken hown (by simp)
  refine ⟨v1, w1, hrun, ⟨fun _ _ => trivial, _, hown', ?_⟩, below_step hb hb1⟩
  exact (hr.imp_ (fun x c hk => hKM w1 _ _ x c (d.K_below hb1 hk))).snoc (hKM w1 _ _ p cs (d.K_below (below_step hb hb1) hp)) hcl
theorem k36_KM (w : World) (base : Nat) (ok : Nat → Prop) (x : S36) (c : List Value) (h : k36.K w x c) : k36.M w base ok x c := by
  obtain rfl := k36_open h
  exact k36_mkM _ _ _ _
section
variable {P : Program} {ops : Array Oper} {rest : List Oper} {o : Oper} {a : Act} {Q' : Exit → Act → World → Prop} {Kc : Act → World → Prop} {α : Type}
theorem full_append_step (d : Kd α) {W : World} (hw : Region.wanted o (yielded ops a.tmps) = true) (s x : Operand) (t e : TypeId) (z : Value) (bytes : Nat)
    (ho : o.op = .call { callee := .builtin .append, args := #[s, x], argTypes := #[t, t] })
    (ht : P.underlying t = some (.slice e)) (hinfo : (P.info? e).map (fun i => (i.zero, i.size, i.bytes)) = some (some z, d.sz, bytes)) (hz : z.cells.size = d.sz) (hs0 : 0 < d.sz) (hb0 : 0 < bytes)
    (b : Addr) (n : Nat) (xs : List α) (p : α) (cs : List Value) (hs : a.eval s = .slice (some b) n n) (hx : a.eval x = .slice (some ⟨W.heap.size, 0, none⟩) 1 1) (hC : d.C W (some b) n xs) (hKM : ∀ (w : World) base ok x c, d.K w x c → d.M w base ok x c) (hp : d.K W p cs) (hl : (n + 1) * bytes ≤ 140737488355328)
    (h : ∀ v1 w1, d.R e w1 W.heap.size T1 v1 (xs ++ [p]) → Below W.heap.size W w1 → Kc (a.put o.dst v1) w1) :
    if Region.wanted o (yielded ops a.tmps) = true then Oper.wp P o a (W.alloc (.cells cs.toArray e)) Kc Q' else Kc (a.put o.dst undef) (W.alloc (.cells cs.toArray e)) := by
  obtain ⟨v1, w1, hr, h1, h2⟩ := full_append_run (P := P) (W := W) t o.type e z bytes ht hinfo hz hs0 hb0 b n xs p cs hC hKM hp hl
  rw [if_pos hw]
  unfold Oper.wp execOp
  simp only [ho, resolve, invoke, builtin, Sem.run_bind, Sem.run_pure, Result.andThen_ok, List.map_toArray, List.map_cons, List.map_nil, hs, hx, hr]
  exact h v1 w1 h1 h2
end
theorem R_lit3 {α : Type} (d : Kd α) (e : Nat) (W : World) (x y z : α) (cx cy cz : List Value) (hx : ∀ w b ok, d.M w b ok x cx) (hy : ∀ w b ok, d.M w b ok y cy) (hz : ∀ w b ok, d.M w b ok z cz) :
    d.R e (W.alloc (.cells (cx ++ cy ++ cz).toArray e)) W.heap.size T1 (.slice (some ⟨W.heap.size, 0, none⟩) 3 3) [x, y, z] := by
  have lx := d.K_len (d.K_of_M (hx W 0 T1))
  have ly := d.K_len (d.K_of_M (hy W 0 T1))
  have lz := d.K_len (d.K_of_M (hz W 0 T1))
  refine ⟨fun _ _ => trivial, cx ++ cy ++ cz, ?_, ?_⟩
  · have h := World.ownsRow_lit (base := W.heap.size) (e := e) (size := d.sz) W (cx ++ cy ++ cz).toArray 3 (Nat.le_refl _) (by simp [maxLen]) (by simp; omega)
    simpa using h
  · exact ((((Reps.none _ _).snoc (ps := []) (cs := []) (hx _ _ _) lx).snoc (hy _ _ _) ly).snoc (hz _ _ _) lz)
theorem C_lists1 (W w1 : World) (A : Option Addr) (c : Nat) (l : List Int) (hl : l.length ≤ c) (hC : Kd.C (Kd.int .i64) W A l.length l) : Kd.C kII (W.alloc (.cells #[.slice A l.length c] 33)) (some ⟨W.heap.size, 0, none⟩) 1 [l] := by
  refine ⟨rfl, by omega, fun _ => ⟨_, rfl, fun j p hj => ?_⟩⟩
  match j, hj with
  | 0, hj =>
    simp at hj
    subst hj
    refine ⟨[.slice A l.length c], rfl, ⟨A, c, rfl, hl, Kd.C_below hC (below_alloc (Below.refl _ _) _)⟩, fun i u hu => ?_⟩
    match i, hu with
    | 0, hu =>
      simp at hu
      subst hu
      simp [kII, Kd.slice, Addr.add]
abbrev exL : List S36 := [⟨0, 0, 0, ⟨1, 0, ⟨#[]⟩⟩, 0, 0⟩, ⟨1, 0, 1, ⟨0, 0, ⟨#[]⟩⟩, 0, 0⟩, ⟨1, 1, 2, ⟨0, 0, ⟨#[]⟩⟩, 0, 0⟩, ⟨0, 2, 0, ⟨2, 0, ⟨#[]⟩⟩, 0, 0⟩, ⟨1, 0, 2, ⟨0, 0, ⟨#[]⟩⟩, 0, 0⟩]
abbrev exR : List S36 := [⟨0, 0, 0, ⟨1, 0, ⟨#[]⟩⟩, 0, 0⟩, ⟨1, 0, 1, ⟨0, 0, ⟨#[]⟩⟩, 0, 0⟩, ⟨1, 1, 2, ⟨0, 0, ⟨#[]⟩⟩, 0, 0⟩, ⟨1, 0, 2, ⟨0, 0, ⟨#[]⟩⟩, 0, 0⟩]
abbrev int23 : S23 := ⟨1, 0, ⟨#[]⟩⟩
theorem C_three {W : World} {A : Option Addr} (h : k36.C W A 5 exL) : k36.C W A 3 [exL.getD 0 z36, exL.getD 1 z36, exL.getD 2 z36] := by
  obtain ⟨_, _, h3⟩ := h
  refine ⟨rfl, by omega, fun _ => ?_⟩
  obtain ⟨ad, e, hc⟩ := h3 (by omega)
  refine ⟨ad, e, fun j p hj => hc j p ?_⟩
  match j, hj with
  | 0, hj => exact hj
  | 1, hj => exact hj
  | 2, hj => exact hj
def made9 : Array Value := madeCells (Value.agg #[.int .i64 0, .int .i64 0, .string ⟨#[]⟩]).cells 9
theorem mk3 (W : World) : (Instr.makeSlice 28 (.int .i64 3) (.int .i64 3)).run Try.prog W = .ok (.slice (some ⟨W.heap.size, 0, none⟩) 3 3) (W.alloc (.cells made9 23)) := by
  obtain ⟨i0, hi, hzz⟩ := Option.map_eq_some_iff.1 info23
  simp only [Prod.mk.injEq] at hzz
  obtain ⟨hz0, hz1, hz2⟩ := hzz
  have hr := run_make (P := Try.prog) W 28 23 i0 (.agg #[.int .i64 0, .int .i64 0, .string ⟨#[]⟩]) Try.underlying28 hi hz0 .i64 .i64 3 3 (by decide) (by decide) (by rw [hz2]; decide) (by decide)
  rw [hz1] at hr
  exact hr
theorem R_made9 (W : World) : Kd.R k23 23 (W.alloc (.cells made9 23)) W.heap.size T1 (.slice (some ⟨W.heap.size, 0, none⟩) 3 3) [z23, z23, z23] := by
  have hrep := Kd.reps_made (R := k23.M (W.alloc (.cells made9 23)) W.heap.size (fun k => T1 k ∧ some k ≠ (Value.slice (some ⟨W.heap.size, 0, none⟩) 3 3).ownBlock)) (z := .agg #[.int .i64 0, .int .i64 0, .string ⟨#[]⟩]) (size := 3) rfl (by decide) (k23_mkM _ _ _ z23) 3
  refine ⟨fun _ _ => trivial, made9.toList, ?_, hrep⟩
  have h := World.ownsRow_lit (base := W.heap.size) (e := 23) (size := 3) W made9 3 (Nat.le_refl _) (by simp [maxLen]) (by have h9 := hrep.1; rw [Array.length_toList] at h9; exact h9)
  have h' : (W.alloc (.cells made9 23)).ownsRow W.heap.size 23 3 (.slice (some ⟨W.heap.size, 0, none⟩) 3 3) 3 made9.toList := by simpa using h
  exact h'
theorem evL : solveF 3 exL 10 = some ([z23, z23, z23], [[0, 4, 3]], 0) := by kernel_rfl
theorem evR : solveF 3 exR 10 = some ([int23, int23, int23], [], 0) := by kernel_rfl
theorem eqv1 : PR.assessorref08_Equal.f 10 [z23, z23, z23] [z23, z23, z23] = some true := by kernel_rfl
theorem eqv2 : PR.assessorref08_Equal.f 10 [int23, int23, int23] [int23, int23, int23] = some true := by kernel_rfl
theorem eqv3 : PR.assessorref09_Lists.f 10 [[0, 4, 3]] [[0, 4, 3]] = some true := by kernel_rfl
theorem R_int9 (W : World) : Kd.R k23 23 (W.alloc (.cells #[.int .i64 1, .int .i64 0, .string ⟨#[]⟩, .int .i64 1, .int .i64 0, .string ⟨#[]⟩, .int .i64 1, .int .i64 0, .string ⟨#[]⟩] 23)) W.heap.size T1 (.slice (some ⟨W.heap.size, 0, none⟩) 3 3) [int23, int23, int23] :=
  R_lit3 k23 23 W int23 int23 int23 [.int .i64 1, .int .i64 0, .string ⟨#[]⟩] [.int .i64 1, .int .i64 0, .string ⟨#[]⟩] [.int .i64 1, .int .i64 0, .string ⟨#[]⟩] (fun _ _ _ => k23_mkM _ _ _ _) (fun _ _ _ => k23_mkM _ _ _ _) (fun _ _ _ => k23_mkM _ _ _ _)
theorem R_three (W : World) : Kd.R (Kd.int .i64) 3 (W.alloc (.cells #[.int .i64 0, .int .i64 4, .int .i64 3] 3)) W.heap.size T1 (.slice (some ⟨W.heap.size, 0, none⟩) 3 3) [0, 4, 3] :=
  R_lit3 (Kd.int .i64) 3 W 0 4 3 [.int .i64 0] [.int .i64 4] [.int .i64 3] (fun _ _ _ => rfl) (fun _ _ _ => rfl) (fun _ _ _ => rfl)
theorem call16a (W : World) (b : Nat) (A : Option Addr) (c : Nat) (h : Kd.R k23 23 W b T1 (.slice A 3 c) [z23, z23, z23]) :
    Calls Try.prog 16 #[.slice A 3 c, .slice (some ⟨W.heap.size, 0, none⟩) 3 3] (W.alloc (.cells made9 23)) fun e w' => e = .returned (.bool true) ∧ Below W.heap.size W w' := by
  have hb := below_alloc (Below.refl W.heap.size W) (.cells made9 23)
  obtain ⟨_, h1, h2⟩ := Kd.R_reads' h
  obtain ⟨_, _, h3⟩ := Kd.R_reads' (R_made9 W)
  refine (PR.assessorref08_Equal.calls 10 A c [z23, z23, z23] _ 3 [z23, z23, z23] true _ (Kd.C_below h2 hb) h1 h3 (Nat.le_refl 3) eqv1).mono ?_
  rintro e w' ⟨he, hd⟩
  exact ⟨he, below_step hb hd.below⟩
theorem call16b (W : World) (b : Nat) (A : Option Addr) (c : Nat) (h : Kd.R k23 23 W b T1 (.slice A 3 c) [int23, int23, int23]) :
    Calls Try.prog 16 #[.slice A 3 c, .slice (some ⟨W.heap.size, 0, none⟩) 3 3] (W.alloc (.cells #[.int .i64 1, .int .i64 0, .string ⟨#[]⟩, .int .i64 1, .int .i64 0, .string ⟨#[]⟩, .int .i64 1, .int .i64 0, .string ⟨#[]⟩] 23)) fun e w' => e = .returned (.bool true) ∧ Below W.heap.size W w' := by
  have hb := below_alloc (Below.refl W.heap.size W) (.cells #[.int .i64 1, .int .i64 0, .string ⟨#[]⟩, .int .i64 1, .int .i64 0, .string ⟨#[]⟩, .int .i64 1, .int .i64 0, .string ⟨#[]⟩] 23)
  obtain ⟨_, h1, h2⟩ := Kd.R_reads' h
  obtain ⟨_, _, h3⟩ := Kd.R_reads' (R_int9 W)
  refine (PR.assessorref08_Equal.calls 10 A c [int23, int23, int23] _ 3 [int23, int23, int23] true _ (Kd.C_below h2 hb) h1 h3 (Nat.le_refl 3) eqv2).mono ?_
  rintro e w' ⟨he, hd⟩
  exact ⟨he, below_step hb hd.below⟩
theorem call18a (W : World) (b : Nat) (A : Option Addr) (c : Nat) (h : Kd.R kII 33 W b T1 (.slice A 1 c) [[0, 4, 3]]) :
    Calls Try.prog 18 #[.slice A 1 c, .slice (some ⟨W.heap.size + 1, 0, none⟩) 1 1] ((W.alloc (.cells #[.int .i64 0, .int .i64 4, .int .i64 3] 3)).alloc (.cells #[.slice (some ⟨W.heap.size, 0, none⟩) 3 3] 33)) fun e w' => e = .returned (.bool true) ∧ Below W.heap.size W w' := by
  have hb := below_alloc (below_alloc (Below.refl W.heap.size W) (.cells #[.int .i64 0, .int .i64 4, .int .i64 3] 3)) (.cells #[.slice (some ⟨W.heap.size, 0, none⟩) 3 3] 33)
  obtain ⟨_, h1, h2⟩ := Kd.R_reads' h
  obtain ⟨_, _, h3⟩ := Kd.R_reads' (R_three W)
  have h4 := C_lists1 (W.alloc (.cells #[.int .i64 0, .int .i64 4, .int .i64 3] 3)) W (some ⟨W.heap.size, 0, none⟩) 3 [0, 4, 3] (Nat.le_refl 3) h3
  rw [World.size_alloc] at h4
  refine (PR.assessorref09_Lists.calls 10 A c [[0, 4, 3]] _ 1 [[0, 4, 3]] true _ (Kd.C_below h2 hb) h1 h4 (Nat.le_refl 1) eqv3).mono ?_
  rintro e w' ⟨he, hd⟩
  exact ⟨he, below_step hb hd.below⟩
set_option maxRecDepth 100000 in
set_option maxHeartbeats 4000000 in
theorem awake_calls (w : World) : Calls Try.prog 10 #[] w fun e w' => e = .returned (.bool true) ∧ Below w.heap.size w w' := by
  go_enter Try.func10, Try.ntmps10
  go_upto_region 2 with (first
    | (go_at_call 26; refine (PR.assessorlaw09_example.calls exL _ rfl).mono ?_; rintro e w1 ⟨v1, rfl, hr1, hb1⟩; obtain ⟨A1, c1, rfl⟩ := R_shape hr1; have HR1 := Aside0.mk hr1; have HB1 := Aside0.mk hb1; clear hr1 hb1)
    | (go_at_call 12; refine (solve_calls 3 A1 c1 exL 10 _ _ (Kd.R_reads' HR1.out).2.2 (by decide) evL).mono ?_; rintro e w2 ⟨vo, vc, rfl, ho2, hc2, hb2⟩; have HO2 := Aside0.mk ho2; have HC2 := Aside0.mk hc2; have HB2 := Aside0.mk (below_step HB1.out hb2); clear ho2 hc2 hb2 HR1 HB1))
  refine start_ (n := 8) (S := fun w' => True) (ds := []) #[false, false, false, false, false, false, false, false] (by kernel_rfl) rfl rfl trivial (fun hHeld => ?_)
  have HO2d := Aside0.mk (Kd.R_below HO2.out (below_drew (Below.refl _ _)))
  have HC2d := Aside0.mk (Kd.R_below HC2.out (below_drew (Below.refl _ _)))
  have HB2d := Aside0.mk (below_drew1 HB2.out)
  clear HO2 HC2 HB2
  generalize w2.drew = wd at HO2d HC2d HB2d ⊢
  refine one_ (i := 0) (N := some 15) #[true, false, false, false, false, false, false, false] rfl rfl (by kernel_rfl) (by decide) (fun K hK => ?_)
  refine goes_ Try.func26 (by kernel_rfl) rfl #[] (by rfl) rfl rfl (by first | rfl | (simp only [List.map_toArray, List.map_cons, List.map_nil]; done) | (simp only [List.map_toArray, List.map_cons, List.map_nil]; rfl)) ?_
  with_reducible refine (PR.assessorlaw09_example.calls exL _ rfl).mono ?_
  rintro e w3 ⟨v3, rfl, hr3, hb3⟩
  refine ⟨_, rfl, ?_⟩
  obtain ⟨A3, c3, rfl⟩ := R_shape hr3
  obtain ⟨g3, rfl, hz1, hz2⟩ := R_head hr3 (by decide)
  have hcap3 : (3 : Int) ≤ (c3 : Int) := by have h5 : 5 ≤ c3 := (Kd.R_reads' hr3).2.1; omega
  have hC3 := (Kd.R_reads' hr3).2.2
  have HC3 := Aside0.mk hC3
  have HB3 := Aside0.mk hb3
  clear hr3 hb3 hz1 hz2 hC3
  refine hK.out _ _ trivial (fun hHeld => ?_)
  clear hK K
  refine norm_ (a' := ?_) ?_ ?_
  rotate_left
  · show Act.put _ (some 15) _ = _
    simp only [Act.put, List.setIfInBounds_toArray, List.set_cons_zero, List.set_cons_succ, i64_w, i32_w]
    rfl
  refine pure_ (i := 1) (N := some 16) (v := ?_) (a' := ?_) #[true, true, false, false, false, false, false, false] rfl rfl (by kernel_rfl) (fun _ _ _ h => h) (Or.inl ⟨by rfl, ?_⟩) ?_ ?_
  rotate_left
  · intro w'
    go_simp
    with_reducible rfl
  rotate_left
  · simp only [Act.put, List.setIfInBounds_toArray, List.set_cons_zero, List.set_cons_succ, i64_w, i32_w]
    rfl
  refine one_ (i := 2) (N := some 17) #[true, true, true, false, false, false, false, false] rfl rfl (by kernel_rfl) (by decide) (fun K hK => ?_)
  refine goes_ Try.func26 (by kernel_rfl) rfl #[] (by rfl) rfl rfl (by first | rfl | (simp only [List.map_toArray, List.map_cons, List.map_nil]; done) | (simp only [List.map_toArray, List.map_cons, List.map_nil]; rfl)) ?_
  with_reducible refine (PR.assessorlaw09_example.calls exL _ rfl).mono ?_
  rintro e w4 ⟨v4, rfl, hr4, hb4⟩
  refine ⟨_, rfl, ?_⟩
  obtain ⟨A4, c4, rfl⟩ := R_shape hr4
  obtain ⟨g4, rfl, hz1, hz2⟩ := R_head hr4 (by decide)
  obtain ⟨ad4, had4, p0, p1, p2, p3, p4, p5, p6, p7⟩ := at_T36 (Kd.R_reads' hr4).2.2 4 (by decide) (by decide)
  injection had4 with had4
  subst had4
  have q0 : w4.cell? ⟨g4, 32, none⟩ = some (.int .i64 1) := p0
  have q1 : w4.cell? ⟨g4, 33, none⟩ = some (.int .i64 0) := p1
  have q2 : w4.cell? ⟨g4, 34, none⟩ = some (.int .i64 2) := p2
  have q3 : w4.cell? ⟨g4, 35, none⟩ = some (.int .i64 0) := p3
  have q4 : w4.cell? ⟨g4, 36, none⟩ = some (.int .i64 0) := p4
  have q5 : w4.cell? ⟨g4, 37, none⟩ = some (.string ⟨#[]⟩) := p5
  have q6 : w4.cell? ⟨g4, 38, none⟩ = some (.int .i64 0) := p6
  have q7 : w4.cell? ⟨g4, 39, none⟩ = some (.int .i64 0) := p7
  clear p0 p1 p2 p3 p4 p5 p6 p7
  have HC4 := Aside0.mk (Kd.C_below HC3.out hb4)
  have HB4 := Aside0.mk (below_step HB3.out hb4)
  clear hr4 hb4 hz1 hz2 HC3 HB3
  refine hK.out _ _ trivial (fun hHeld => ?_)
  clear hK K
  refine norm_ (a' := ?_) ?_ ?_
  rotate_left
  · show Act.put _ (some 17) _ = _
    simp only [Act.put, List.setIfInBounds_toArray, List.set_cons_zero, List.set_cons_succ, i64_w, i32_w]
    rfl
  refine pure_ (i := 3) (N := some 18) (v := ?_) (a' := ?_) #[true, true, true, true, false, false, false, false] rfl rfl (by kernel_rfl) (fun _ _ _ h => h) (Or.inl ⟨by rfl, ?_⟩) ?_ ?_
  rotate_left
  · intro w'
    go_simp
    with_reducible rfl
  rotate_left
  · simp only [Act.put, List.setIfInBounds_toArray, List.set_cons_zero, List.set_cons_succ, i64_w, i32_w]
    rfl
  refine one_ (i := 4) (N := some 19) #[true, true, true, true, true, false, false, false] rfl rfl (by kernel_rfl) (by decide) (fun K hK => ?_)
  refine value_ (w1 := ?_) (v := ?_) (by rfl) rfl ?_ ?_
  rotate_left 2
  · go_simp
    constructor
    · rfl
    · rfl
  refine hK.out _ _ trivial (fun hHeld => ?_)
  clear hK K
  refine norm_ (a' := ?_) ?_ ?_
  rotate_left
  · show Act.put _ (some 19) _ = _
    simp only [Act.put, List.setIfInBounds_toArray, List.set_cons_zero, List.set_cons_succ, i64_w, i32_w]
    rfl
  refine one_ (i := 5) (N := some 20) #[true, true, true, true, true, true, false, false] rfl rfl (by kernel_rfl) (by decide) (fun K hK => ?_)
  refine value_ (w1 := ?_) (v := ?_) (by rfl) rfl ?_ ?_
  rotate_left 2
  · go_simp
    constructor
    · rfl
    · rfl
  refine hK.out _ _ trivial (fun hHeld => ?_)
  clear hK K
  refine norm_ (a' := ?_) ?_ ?_
  rotate_left
  · show Act.put _ (some 20) _ = _
    simp only [Act.put, List.setIfInBounds_toArray, List.set_cons_zero, List.set_cons_succ, i64_w, i32_w]
    rfl
  refine one_ (i := 6) (N := some 21) #[true, true, true, true, true, true, true, false] rfl rfl (by kernel_rfl) (by decide) (fun K hK => ?_)
  refine full_append_step k36 (W := w4) (by rfl) (.tmp 16) (.tmp 20) 26 36 (.agg #[.int .i64 0, .int .i64 0, .int .i64 0, .int .i64 0, .int .i64 0, .string ⟨#[]⟩, .int .i64 0, .int .i64 0]) 72 (by rfl) Try.underlying26 info36 rfl (by decide) (by decide) ⟨g3, 0, none⟩ 3 [exL.getD 0 z36, exL.getD 1 z36, exL.getD 2 z36] (exL.getD 4 z36) [.int .i64 1, .int .i64 0, .int .i64 2, .int .i64 0, .int .i64 0, .string ⟨#[]⟩, .int .i64 0, .int .i64 0] (by rfl) (by rfl) (C_three HC4.out) k36_KM (k36_mk _ _) (by omega) ?_
  intro v6 w6 hr6 hb6
  have HR6 := Aside0.mk (Kd.R_lower hr6 (Nat.le_trans HB2d.out.size HB4.out.size))
  have HB6 := Aside0.mk (below_step HB4.out hb6)
  clear hr6 hb6
  refine hK.out _ _ trivial (fun hHeld => ?_)
  clear hK K
  refine norm_ (a' := ?_) ?_ ?_
  rotate_left
  · show Act.put _ (some 21) _ = _
    simp only [Act.put, List.setIfInBounds_toArray, List.set_cons_zero, List.set_cons_succ, i64_w, i32_w]
    rfl
  refine pure_ (i := 7) (N := some 4) (v := ?_) (a' := ?_) #[true, true, true, true, true, true, true, true] rfl rfl (by kernel_rfl) (fun _ _ _ h => h) (Or.inl ⟨by rfl, ?_⟩) ?_ ?_
  rotate_left
  · intro w'
    go_simp
    with_reducible rfl
  rotate_left
  · simp only [Act.put, List.setIfInBounds_toArray, List.set_cons_zero, List.set_cons_succ, i64_w, i32_w]
    rfl
  refine done_ (by kernel_rfl) ?_
  clear hHeld q0 q1 q2 q3 q4 q5 q6 q7 hcap3 HC4 HB4
  replace HR6 : Aside0 (k36.R 36 w6 w.heap.size T1 v6 exR) := ⟨HR6.out⟩
  obtain ⟨A6, c6, rfl⟩ := R_shape HR6.out
  go_upto_region 4 with (go_at_call 12; refine (solve_calls 3 A6 c6 exR 10 _ _ (Kd.R_reads' HR6.out).2.2 (by decide) evR).mono ?_; rintro e w7 ⟨vo7, vc7, rfl, ho7, hc7, hb7⟩; have HO7 := Aside0.mk ho7; have HC7 := Aside0.mk hc7; have HB7 := Aside0.mk (below_step HB6.out hb7); clear ho7 hc7 hb7 HR6)
  have HO2 := Aside0.mk (Kd.R_below HO2d.out HB7.out)
  have HC2 := Aside0.mk (Kd.R_below HC2d.out HB7.out)
  have HBB := Aside0.mk (below_step HB2d.out HB7.out)
  clear HO2d HC2d HB2d HB6 HB7
  obtain ⟨Ao2, co2, rfl⟩ : ∃ A c, vo = .slice A 3 c := R_shape HO2.out
  obtain ⟨Ac2, cc2, rfl⟩ : ∃ A c, vc = .slice A 1 c := R_shape HC2.out
  obtain ⟨Ao7, co7, rfl⟩ : ∃ A c, vo7 = .slice A 3 c := R_shape HO7.out
  obtain ⟨Ac7, cc7, rfl⟩ : ∃ A c, vc7 = .slice A 0 c := R_shape HC7.out
  go_upto_region 5 with (fail)
  obtain ⟨W, hW, hbW, k0, k1, k2⟩ : ∃ W : World, w7.alloc (.cells #[.int .i64 1, .int .i64 0, .string ⟨#[]⟩] 23) = W ∧ Below w7.heap.size w7 W ∧ W.cell? ⟨w7.heap.size, 0, none⟩ = some (.int .i64 1) ∧ W.cell? ⟨w7.heap.size, 1, none⟩ = some (.int .i64 0) ∧ W.cell? ⟨w7.heap.size, 2, none⟩ = some (.string ⟨#[]⟩) := ⟨_, rfl, below_alloc (Below.refl _ _) _, by simp, by simp, by simp⟩
  rw [hW]
  replace HO2 := Aside0.mk (Kd.R_below HO2.out hbW)
  replace HC2 := Aside0.mk (Kd.R_below HC2.out hbW)
  replace HO7 := Aside0.mk (Kd.R_below HO7.out hbW)
  replace HBB := Aside0.mk (below_step HBB.out hbW)
  clear hW hbW HC7
  have hmk := mk3
  go_wp2_with (first
    | (go_at_call 16; refine (call16a _ _ _ _ HO2.out).mono ?_; rintro e w9 ⟨rfl, hb9⟩; have HB9 := Aside0.mk (below_step HBB.out hb9); have HCC := Aside0.mk (Kd.R_below HC2.out hb9); have HOC := Aside0.mk (Kd.R_below HO7.out hb9); replace k0 := pw_cell_below hb9 k0; replace k1 := pw_cell_below hb9 k1; replace k2 := pw_cell_below hb9 k2; clear hb9 HO2 HC2 HO7 HBB)
    | (go_at_call 18; refine (call18a _ _ _ _ HCC.out).mono ?_; rintro e w10 ⟨rfl, hb10⟩; have HB10 := Aside0.mk (below_step HB9.out hb10); have HOD := Aside0.mk (Kd.R_below HOC.out hb10); replace k0 := pw_cell_below hb10 k0; replace k1 := pw_cell_below hb10 k1; replace k2 := pw_cell_below hb10 k2; clear hb10 HOC HCC HB9)
    | (go_at_call 16; refine (call16b _ _ _ _ HOD.out).mono ?_; rintro e w11 ⟨rfl, hb11⟩; have HB11 := Aside0.mk (below_step HB10.out hb11); clear hb11 HOD HB10 k0 k1 k2))
  go_ret
  exact ⟨rfl, HB11.out⟩
end Go.Proofs.Ytjbafigageingaa

namespace Go.Proofs.Ytjbafigageingaa
open Go.RowKit Go.Proofs.YtjbafigageingaaW.PrintWords Go.Proofs.YtjbafigageingaaW.PrintLast Go.Proofs.YtjbafigageingaaW.PrintMore
set_option linter.unusedVariables false
def constraints_Solve.f (a0 : Int) (l : List S36) : Option (List S23 × List (List Int) × Int) := if l.length ≤ 1000000 then solveF a0 l 10000 else none
theorem constraints_Solve.calls (a0 : Int) (A1 : Option Addr) (c1 : Nat) (l1 : List S36) (r1 : List S23) (r2 : List (List Int)) (r3 : Int) (w : World) (hr1 : Kd.C k36 w A1 l1.length l1) (hc1 : l1.length ≤ c1) (h : constraints_Solve.f a0 l1 = some (r1, r2, r3)) :
    Calls Try.prog 12 #[.int .i64 a0, .slice A1 l1.length c1] w fun e w' => ∃ v1_ v2_ : Value, e = .returned (.tuple #[v1_, v2_, .int .i64 r3]) ∧ Kd.R k23 23 w' w.heap.size (fun _ => True) v1_ r1 ∧ Kd.R (Kd.slice 3 (Kd.int .i64)) 33 w' w.heap.size (fun _ => True) v2_ r2 ∧ Below w.heap.size w w' := by
  unfold constraints_Solve.f at h
  by_cases hl : l1.length ≤ 1000000
  · rw [if_pos hl] at h
    exact (solve_calls a0 A1 c1 l1 10000 w _ hr1 hl h).mono fun e w' ⟨v1, v2, h1, h2, h3, h4⟩ => ⟨v1, v2, h1, h2, h3, h4⟩
  · rw [if_neg hl] at h
    cases h
def assessorlaw09_awake.f : Option Bool := some true
theorem assessorlaw09_awake.calls (r : Bool) (w : World) (h : assessorlaw09_awake.f = some r) :
    Calls Try.prog 10 #[] w fun e w' => e = .returned (.bool r) ∧ Below w.heap.size w w' := by
  obtain rfl : true = r := Option.some.inj h
  exact awake_calls w
end Go.Proofs.Ytjbafigageingaa

namespace Go.Proofs.Ytjbafigageingaa
open Go.RowKit Go.Proofs.YtjbafigageingaaW.PrintWords Go.Proofs.YtjbafigageingaaW.PrintLast Go.Proofs.YtjbafigageingaaW.PrintMore
set_option linter.unusedVariables false
set_option linter.unusedSimpArgs false
theorem equal_l0 {x y : List S23} (hl : x.length = y.length) (hx : x.length ≤ 1000000) (hs : ∀ u, u < x.length → sameT (x.getD u z23) (y.getD u z23) = true) : ∀ (d i k : Nat), i + d = x.length → d < k → PR.assessorref08_Equal.l0 k x y i = some true
  | 0, i, k, h, hk => by
    obtain ⟨k, rfl⟩ : ∃ m, k = m + 1 := ⟨k - 1, by omega⟩
    simp only [PR.assessorref08_Equal.l0]
    rw [if_neg (by omega)]
  | d + 1, i, k, h, hk => by
    obtain ⟨k, rfl⟩ : ∃ m, k = m + 1 := ⟨k - 1, by omega⟩
    have hwr : wrap64 ((i : Int) + 1) = ((i + 1 : Nat) : Int) := by rw [wrap_small _ (by omega)]; omega
    have h1 := hs i (by omega)
    have hc : (!(((rd_T23 x i).f0) == ((rd_T23 y i).f0)) || (!(((rd_T23 x i).f1) == ((rd_T23 y i).f1)) || (!((((rd_T23 x i).f2).toList) == (((rd_T23 y i).f2).toList))))) = false := by
      unfold rd_T23
      rw [Int.toNat_natCast]
      unfold sameT at h1
      simp only [Bool.and_eq_true] at h1
      obtain ⟨e1, e2, e3⟩ := h1
      rw [e1, e2, e3]
      rfl
    simp only [PR.assessorref08_Equal.l0]
    rw [if_pos (by omega), if_pos (by omega), if_pos (by omega), hc, if_neg (by decide), hwr]
    exact equal_l0 hl hx hs d (i + 1) k (by omega) (by omega)
theorem equal_true {x y : List S23} (hl : x.length = y.length) (hx : x.length ≤ 1000000) (hs : ∀ u, u < x.length → sameT (x.getD u z23) (y.getD u z23) = true) {k : Nat} (hk : x.length < k) : PR.assessorref08_Equal.f k x y = some true := by
  unfold PR.assessorref08_Equal.f
  rw [if_pos (by omega)]
  exact equal_l0 hl hx hs x.length 0 k (by omega) hk
theorem solve_of {a0 : Int} {l : List S36} (hl : l.length ≤ 80) : constraints_Solve.f a0 l = solveF a0 l 10000 := by
  unfold constraints_Solve.f
  rw [if_pos (by omega)]
theorem few_eq (a0 : Int) (l : List S36) : PR.assessorlaw09_few.f a0 l = some (decide (l.length ≤ 80 ∧ (a0 ≤ 60 ∨ a0 > 4096))) := by
  unfold PR.assessorlaw09_few.f
  by_cases h1 : (l.length : Int) ≤ 80
  · rw [if_pos h1]
    have h1' : l.length ≤ 80 := by omega
    by_cases h2 : a0 ≤ 60
    · rw [if_pos h2]; simp [h1', h2]
    · rw [if_neg h2]; simp [h1', h2]
  · rw [if_neg h1]
    have h1' : ¬ l.length ≤ 80 := by omega
    simp [h1']
theorem reps_len (L : List S36) (N : Nat) : (reps L N).length ≤ N := by
  unfold reps
  exact Nat.le_trans (List.length_filter_le _ _) (by simp)
end Go.Proofs.Ytjbafigageingaa

namespace Go.Proofs.Ytjbafigageingaa
open Go.RowKit Go.Proofs.YtjbafigageingaaW.PrintWords Go.Proofs.YtjbafigageingaaW.PrintLast Go.Proofs.YtjbafigageingaaW.PrintMore
set_option linter.unusedVariables false
set_option linter.unusedSimpArgs false
/-- a walk can be shortened -/
theorem wk_short {N : Nat} {L : List S36} (hV : Valid N L) (hN : N ≤ 4096) {f v : Int} (hf : InN N f) {n : Nat} (h : WkL L n f v) : ∃ m, m < N ∧ WkL L m f v := by
  obtain ⟨⟨E, M⟩, hbd⟩ := build_valid (N := N) L 0 (List.replicate N []) (fun _ => []) hV
  obtain ⟨hb, _⟩ := build_some L [] _ _ (built_nil N) hbd
  rw [List.nil_append] at hb
  obtain ⟨far, _, hF⟩ := hb.dist hV hN (F := [f]) (fun x hx => by rw [List.mem_singleton.1 hx]; exact hf) (by simp) (k := 10000) (by simp; omega)
  rcases hF.far v (wkL_in hV hf h) with ⟨_, g⟩ | ⟨m, _, g2, ⟨f', hf', g3⟩, _⟩
  · exact absurd h (g f (List.mem_singleton.2 rfl) n)
  · rw [List.mem_singleton.1 hf'] at g3
    exact ⟨m, g2, g3⟩
end Go.Proofs.Ytjbafigageingaa

namespace Go.Proofs.Ytjbafigageingaa
open Go.RowKit Go.Proofs.YtjbafigageingaaW.PrintWords Go.Proofs.YtjbafigageingaaW.PrintLast Go.Proofs.YtjbafigageingaaW.PrintMore
set_option linter.unusedVariables false
set_option linter.unusedSimpArgs false
structure DX (N : Nat) (L : List S36) (f d : Int) (out : List Int) : Prop where
  len : out.length = N
  rg : ∀ v, InN N v → rd out v ≤ d
  mn : ∀ v, InN N v → rd out v < 0 → rd out v = -1
  sd : ∀ v, InN N v → 0 ≤ rd out v → WkL L (rd out v).toNat f v
  fr : rd out f = 0
  cl : ∀ u v, InN N u → AdjL L u v → 0 ≤ rd out u → rd out u < d → 0 ≤ rd out v ∧ rd out v ≤ rd out u + 1
structure PX (N : Nat) (L : List S36) (f d : Int) (m : Nat) (i : Nat) (out : List Int) (ch : Bool) : Prop where
  len : out.length = N
  rg : ∀ v, InN N v → rd out v ≤ d + 1
  mn : ∀ v, InN N v → rd out v < 0 → rd out v = -1
  sd : ∀ v, InN N v → 0 ≤ rd out v → WkL L (rd out v).toNat f v
  fr : rd out f = 0
  cl : ∀ u v, InN N u → AdjL L u v → 0 ≤ rd out u → rd out u < d → 0 ≤ rd out v ∧ rd out v ≤ rd out u + 1
  pr : ∀ j : Nat, j < i → (cAt L j).f0 = 1 → (rd out (cAt L j).f1 = d → 0 ≤ rd out (cAt L j).f2) ∧ (rd out (cAt L j).f2 = d → 0 ≤ rd out (cAt L j).f1)
  nc : ch = false → ∀ v, InN N v → rd out v ≤ d
  ng : neg out ≤ m
  nd : ch = true → neg out < m
theorem PX.put {N : Nat} {L : List S36} {f d : Int} {m i : Nat} {out : List Int} {ch : Bool} (h : PX N L f d m i out ch) (hV : Valid N L) (hd : 0 ≤ d) (hf : InN N f) {a b : Int} (ha : InN N a) (hb : InN N b) (hab : AdjL L a b) (h1 : rd out a = d) (h2 : rd out b < 0) : PX N L f d m i (out.set b.toNat (d + 1)) true := by
  have hbo : 0 ≤ b ∧ b < (out.length : Int) := by rw [h.len]; exact hb
  have hs : ∀ v, 0 ≤ v → rd (out.set b.toNat (d + 1)) v = if v = b then d + 1 else rd out v := fun v hv => rd_set out b v (d + 1) hbo hv
  have hn := neg_set out b (d + 1) hbo (by omega) h2
  have same : ∀ v, InN N v → 0 ≤ rd out v → rd (out.set b.toNat (d + 1)) v = rd out v := fun v hv h0 => by
    rw [hs v hv.1]
    split
    · rename_i he
      rw [he] at h0
      omega
    · rfl
  have up : ∀ v, InN N v → 0 ≤ rd out v → 0 ≤ rd (out.set b.toNat (d + 1)) v := fun v hv h0 => by
    rw [same v hv h0]; exact h0
  have hj : ∀ j : Nat, j < L.length → (cAt L j).f0 = 1 → InN N (cAt L j).f1 ∧ InN N (cAt L j).f2 := fun j hj h0 => by
    have := hV _ (at_memN hj)
    rcases this.2 with h | h
    · omega
    · exact ⟨this.1, h.2⟩
  refine ⟨by rw [List.length_set]; exact h.len, fun v hv => ?_, fun v hv h0 => ?_, fun v hv h0 => ?_, (by rw [same f hf (by rw [h.fr]; exact Int.le_refl _)]; exact h.fr), fun u v hu huv h0 h3 => ?_, fun j hji h0 => ?_, (fun hc => by cases hc), (by have := h.ng; omega), fun _ => ?_⟩
  · rw [hs v hv.1]
    split
    · omega
    · exact h.rg v hv
  · rw [hs v hv.1] at h0 ⊢
    split at h0
    · omega
    · rename_i he
      rw [if_neg he]
      exact h.mn v hv h0
  · by_cases he : v = b
    · subst he
      rw [hs v hv.1, if_pos rfl]
      have := h.sd a ha (by omega)
      rw [h1] at this
      rw [show (d + 1).toNat = d.toNat + 1 from by omega]
      exact this.snoc hab
    · have e := hs v hv.1
      rw [if_neg he] at e
      rw [e] at h0 ⊢
      exact h.sd v hv h0
  · by_cases he : u = b
    · rw [he, hs b hb.1, if_pos rfl] at h3
      omega
    · have e := hs u hu.1
      rw [if_neg he] at e
      rw [e] at h0 h3 ⊢
      obtain ⟨g1, g2⟩ := h.cl u v hu huv h0 h3
      rw [same v (adjL_in hV huv).2 g1]
      exact ⟨g1, g2⟩
  · by_cases hjl : j < L.length
    · obtain ⟨g1, g2⟩ := hj j hjl h0
      obtain ⟨p1, p2⟩ := h.pr j hji h0
      constructor
      · intro he
        rw [hs _ g1.1] at he
        split at he
        · omega
        · exact up _ g2 (p1 he)
      · intro he
        rw [hs _ g2.1] at he
        split at he
        · omega
        · exact up _ g1 (p2 he)
    · have : cAt L (j : Int) = z36 := by
        unfold cAt rd_T36
        rw [Int.toNat_natCast, List.getD_eq_getElem?_getD, List.getElem?_eq_none (by omega)]
        rfl
      rw [this] at h0
      exact absurd h0 (by decide)
  · have := h.ng
    omega
theorem PX.next {N : Nat} {L : List S36} {f d : Int} {m i : Nat} {out : List Int} {ch : Bool} (h : PX N L f d m i out ch) (hp : (cAt L i).f0 = 1 → (rd out (cAt L i).f1 = d → 0 ≤ rd out (cAt L i).f2) ∧ (rd out (cAt L i).f2 = d → 0 ≤ rd out (cAt L i).f1)) : PX N L f d m (i + 1) out ch :=
  ⟨h.len, h.rg, h.mn, h.sd, h.fr, h.cl, fun j hj h0 => by
    rcases Nat.lt_or_ge j i with h1 | h1
    · exact h.pr j h1 h0
    · have : j = i := by omega
      subst this
      exact hp h0, h.nc, h.ng, h.nd⟩
theorem dist_stepX {N : Nat} {L : List S36} {f d : Int} {m i : Nat} {out : List Int} {ch : Bool} (h : PX N L f d m i out ch) (hV : Valid N L) (hd : 0 ≤ d ∧ d ≤ 1000000) (hf : InN N f) (hi : i < L.length) (hl : L.length ≤ 1000000) (k : Nat) :
    ∃ out' ch' k', k ≤ k' ∧ PR.assessorref09_distances.l2 (k + 2) L out ch d i = PR.assessorref09_distances.l2 k' L out' ch' d ((i + 1 : Nat) : Int) ∧ PX N L f d m (i + 1) out' ch' := by
  have hw : wrap64 ((i : Int) + 1) = ((i + 1 : Nat) : Int) := by rw [wrap_small _ (by omega)]; omega
  have hwd : wrap64 (d + 1) = d + 1 := wrap_small _ (by omega)
  have hlen := h.len
  have e2 : ∀ k, PR.assessorref09_distances.l2 (k + 1) L out ch d i = _ := fun k => by rw [PR.assessorref09_distances.l2]
  by_cases h0 : (rd_T36 L i).f0 = 1
  · obtain ⟨hA, hB0⟩ := hV _ (at_memN hi)
    have hB : InN N (cAt L i).f2 := by
      rcases hB0 with h | h
      · have : (cAt L i).f0 = 1 := h0
        omega
      · exact h.2
    have hab : AdjL L (cAt L i).f1 (cAt L i).f2 := ⟨_, at_memN hi, h0, .inl ⟨rfl, rfl⟩⟩
    obtain ⟨A, hAe⟩ : ∃ A, A = (rd_T36 L i).f1 := ⟨_, rfl⟩
    obtain ⟨B, hBe⟩ : ∃ B, B = (rd_T36 L i).f2 := ⟨_, rfl⟩
    have qA : InN N A := by rw [hAe]; exact hA
    have qB : InN N B := by rw [hBe]; exact hB
    have qab : AdjL L A B := by rw [hAe, hBe]; exact hab
    have oA : A < (out.length : Int) := by rw [hlen]; exact qA.2
    have oB : B < (out.length : Int) := by rw [hlen]; exact qB.2
    have fin : ∀ {out' : List Int} {ch' : Bool}, PX N L f d m i out' ch' → ((rd out' A = d → 0 ≤ rd out' B) ∧ (rd out' B = d → 0 ≤ rd out' A)) → PX N L f d m (i + 1) out' ch' := fun hh hp => hh.next (fun _ => by
      show (rd _ (rd_T36 L i).f1 = d → 0 ≤ rd _ (rd_T36 L i).f2) ∧ (rd _ (rd_T36 L i).f2 = d → 0 ≤ rd _ (rd_T36 L i).f1)
      rw [← hAe, ← hBe]; exact hp)
    rw [e2 (k + 1)]
    rw [if_pos (by omega), if_pos (by omega), if_pos h0, ← hAe, ← hBe, if_pos qA.1, if_pos oA]
    have j3 : ∀ b : Bool, (b = true → rd out A = d ∧ rd out B < 0) → (b = false → rd out A = d → 0 ≤ rd out B) →
        ∃ out' ch', PR.assessorref09_distances.j3 (k + 1) L out ch d i b = PR.assessorref09_distances.l2 k L out' ch' d ((i + 1 : Nat) : Int) ∧ PX N L f d m (i + 1) out' ch' := by
      intro b hb1 hb2
      simp only [PR.assessorref09_distances.j3]
      rw [← hAe, ← hBe, hw, hwd]
      cases b with
      | true =>
        obtain ⟨g1, g2⟩ := hb1 rfl
        have hp := h.put hV hd.1 hf qA qB qab g1 g2
        have hs : ∀ v, 0 ≤ v → rd (out.set B.toNat (d + 1)) v = if v = B then d + 1 else rd out v := fun v hv => rd_set out B v (d + 1) ⟨qB.1, oB⟩ hv
        rw [if_pos rfl, if_pos (by omega), if_pos (by omega), if_pos qB.1, if_pos oB]
        simp only [Option.bind_some]
        rw [if_neg (by rw [hs B qB.1, if_pos rfl]; omega)]
        refine ⟨_, _, rfl, fin hp ⟨fun _ => ?_, fun he => ?_⟩⟩
        · rw [hs B qB.1, if_pos rfl]; omega
        · rw [hs B qB.1, if_pos rfl] at he; omega
      | false =>
        rw [if_neg (by decide), if_pos (by omega), if_pos (by omega), if_pos qB.1, if_pos oB]
        by_cases hbd : rd out B = d
        · rw [if_pos hbd, if_pos qA.1, if_pos oA]
          by_cases han : rd out A < 0
          · rw [if_pos han]
            have hp := h.put hV hd.1 hf qB qA qab.symm hbd han
            have hs : ∀ v, 0 ≤ v → rd (out.set A.toNat (d + 1)) v = if v = A then d + 1 else rd out v := fun v hv => rd_set out A v (d + 1) ⟨qA.1, oA⟩ hv
            refine ⟨_, _, rfl, fin hp ⟨fun he => ?_, fun _ => ?_⟩⟩
            · rw [hs A qA.1, if_pos rfl] at he; omega
            · rw [hs A qA.1, if_pos rfl]; omega
          · rw [if_neg han]
            exact ⟨_, _, rfl, fin h ⟨fun he => hb2 rfl he, fun _ => by omega⟩⟩
        · rw [if_neg hbd]
          exact ⟨_, _, rfl, fin h ⟨fun he => hb2 rfl he, fun he => absurd he hbd⟩⟩
    by_cases had : rd out A = d
    · rw [if_pos had, if_pos qB.1, if_pos oB]
      obtain ⟨o, c, g1, g2⟩ := j3 (decide (rd out B < 0)) (fun hb => ⟨had, of_decide_eq_true hb⟩) (fun hb _ => by have := of_decide_eq_false hb; omega)
      exact ⟨o, c, k, Nat.le_refl _, g1, g2⟩
    · rw [if_neg had]
      obtain ⟨o, c, g1, g2⟩ := j3 false (fun hb => by cases hb) (fun _ he => absurd he had)
      exact ⟨o, c, k, Nat.le_refl _, g1, g2⟩
  · rw [e2 (k + 1), if_pos (by omega), if_pos (by omega), if_neg h0, hw]
    exact ⟨out, ch, k + 1, by omega, rfl, h.next (fun h1 => absurd h1 h0)⟩
theorem dist_passX {N : Nat} {L : List S36} {f d : Int} {m : Nat} (hV : Valid N L) (hd : 0 ≤ d ∧ d ≤ 1000000) (hf : InN N f) (hl : L.length ≤ 1000000) : ∀ (c i k : Nat) (out : List Int) (ch : Bool), i + c = L.length → PX N L f d m i out ch → 2 * c + 1 ≤ k →
    ∃ out' ch' k', k ≤ k' + 2 * c + 1 ∧ PR.assessorref09_distances.l2 k L out ch d i = PR.assessorref09_distances.l1 k' L out' ch' (d + 1) ∧ PX N L f d m L.length out' ch'
  | 0, i, k, out, ch, hc, h, hk => by
    obtain ⟨k, rfl⟩ : ∃ m, k = m + 1 := ⟨k - 1, by omega⟩
    have : i = L.length := by omega
    subst this
    refine ⟨out, ch, k, by omega, ?_, h⟩
    rw [PR.assessorref09_distances.l2, if_neg (by omega), wrap_small _ (by omega)]
  | c + 1, i, k, out, ch, hc, h, hk => by
    obtain ⟨k, rfl⟩ : ∃ m, k = m + 2 := ⟨k - 2, by omega⟩
    obtain ⟨o, b, k', g1, g2, g3⟩ := dist_stepX h hV hd hf (by omega) hl k
    obtain ⟨o2, b2, k2, q1, q2, q3⟩ := dist_passX hV hd hf hl c (i + 1) k' o b (by omega) g3 (by omega)
    exact ⟨o2, b2, k2, by omega, g2.trans q2, q3⟩
theorem PX.of {N : Nat} {L : List S36} {f d : Int} {out : List Int} (h : DX N L f d out) (hd : 0 ≤ d) : PX N L f d (neg out) 0 out false :=
  ⟨h.len, fun v hv => by have := h.rg v hv; omega, h.mn, h.sd, h.fr, h.cl, fun j hj => absurd hj (Nat.not_lt_zero _), fun _ => h.rg, Nat.le_refl _, fun hc => by cases hc⟩
theorem PX.done {N : Nat} {L : List S36} {f d : Int} {m : Nat} {out : List Int} {ch : Bool} (h : PX N L f d m L.length out ch) (hV : Valid N L) : DX N L f (d + 1) out :=
  ⟨h.len, h.rg, h.mn, h.sd, h.fr, fun u v hu huv h0 h1 => by
    rcases Int.lt_or_le (rd out u) d with h2 | h2
    · exact h.cl u v hu huv h0 h2
    · have he : rd out u = d := by omega
      have hv := h.rg v (adjL_in hV huv).2
      obtain ⟨c, hc, hk, hh⟩ := huv
      obtain ⟨j, hj, _, rfl⟩ := mem_at hc
      obtain ⟨p1, p2⟩ := h.pr j hj hk
      rcases hh with ⟨rfl, rfl⟩ | ⟨rfl, rfl⟩
      · exact ⟨p1 he, by omega⟩
      · exact ⟨p2 he, by omega⟩⟩
theorem reach_le {N : Nat} {L : List S36} {o : List Int} (hV : Valid N L) (hcl : ∀ u v, InN N u → AdjL L u v → 0 ≤ rd o u → 0 ≤ rd o v ∧ rd o v ≤ rd o u + 1) {n : Nat} {u v : Int} (hw : WkL L n u v) : InN N u → rd o u = 0 → 0 ≤ rd o v ∧ rd o v ≤ n := by
  induction hw with
  | nil u => intro _ h; omega
  | snoc hw ha ih =>
    intro h1 h2
    have := ih h1 h2
    have := hcl _ _ (wkL_in hV h1 hw) ha this.1
    omega
/-- what distances answers -/
def Dst (N : Nat) (L : List S36) (f : Int) (r : List Int) : Prop := r.length = N ∧ ∀ v, InN N v → (rd r v = -1 ∧ ∀ n, ¬ WkL L n f v) ∨ ∃ n : Nat, rd r v = n ∧ WkL L n f v ∧ ∀ m, WkL L m f v → n ≤ m
theorem DX.end {N : Nat} {L : List S36} {f d : Int} {o : List Int} (h : DX N L f (d + 1) o) (hV : Valid N L) (hf : InN N f) (hnc : ∀ v, InN N v → rd o v ≤ d) : Dst N L f o := by
  refine ⟨h.len, fun v hv => ?_⟩
  have hr : ∀ {n : Nat}, WkL L n f v → 0 ≤ rd o v ∧ rd o v ≤ n := fun hw => reach_le hV (fun u v hu ha h0 => h.cl u v hu ha h0 (by have := hnc u hu; omega)) hw hf h.fr
  by_cases h0 : rd o v < 0
  · exact .inl ⟨h.mn v hv h0, fun n hw => by have := hr hw; omega⟩
  · obtain ⟨n, hn⟩ := Int.eq_ofNat_of_zero_le (show 0 ≤ rd o v by omega)
    refine .inr ⟨n, hn, ?_, fun m hw => by have := hr hw; omega⟩
    have := h.sd v hv (by omega)
    rw [hn, Int.toNat_natCast] at this
    exact this
theorem dist_allX {N : Nat} {L : List S36} {f : Int} (hV : Valid N L) (hN : N ≤ 100000) (hf : InN N f) (hl : L.length ≤ 1000000) : ∀ (m k : Nat) (d : Int) (out : List Int), 0 ≤ d → DX N L f d out → neg out ≤ m → d + neg out ≤ N → (m + 1) * (2 * L.length + 2) + 1 ≤ k →
    ∃ r, PR.assessorref09_distances.l1 k L out true d = some r ∧ Dst N L f r := by
  intro m
  induction m with
  | zero =>
    intro k d out hd h hm hdn hk
    obtain ⟨k, rfl⟩ : ∃ m, k = m + 1 := ⟨k - 1, by omega⟩
    rw [PR.assessorref09_distances.l1, if_pos rfl]
    obtain ⟨o, b, k', g1, g2, g3⟩ := dist_passX (m := neg out) hV (by omega) hf hl L.length 0 k out false (by omega) (PX.of h hd) (by omega)
    rw [show ((0 : Nat) : Int) = 0 from rfl] at g2
    rw [g2]
    have hb : b = false := by
      cases b with
      | false => rfl
      | true => have := g3.nd rfl; omega
    subst hb
    obtain ⟨k', rfl⟩ : ∃ m, k' = m + 1 := ⟨k' - 1, by omega⟩
    rw [PR.assessorref09_distances.l1, if_neg (by decide)]
    exact ⟨o, rfl, (g3.done hV).end hV hf (g3.nc rfl)⟩
  | succ m ih =>
    intro k d out hd h hm hdn hk
    obtain ⟨k, rfl⟩ : ∃ m, k = m + 1 := ⟨k - 1, by omega⟩
    have e : (m + 1 + 1) * (2 * L.length + 2) = (m + 1) * (2 * L.length + 2) + (2 * L.length + 2) := by rw [Nat.add_mul (m + 1) 1, Nat.one_mul]
    rw [PR.assessorref09_distances.l1, if_pos rfl]
    obtain ⟨o, b, k', g1, g2, g3⟩ := dist_passX (m := neg out) hV (by omega) hf hl L.length 0 k out false (by omega) (PX.of h hd) (by omega)
    rw [show ((0 : Nat) : Int) = 0 from rfl] at g2
    rw [g2]
    cases b with
    | true =>
      have := g3.nd rfl
      exact ih k' (d + 1) o (by omega) (g3.done hV) (by omega) (by omega) (by omega)
    | false =>
      obtain ⟨k', rfl⟩ : ∃ m, k' = m + 1 := ⟨k' - 1, by omega⟩
      rw [PR.assessorref09_distances.l1, if_neg (by decide)]
      exact ⟨o, rfl, (g3.done hV).end hV hf (g3.nc rfl)⟩
theorem distances_X {N : Nat} {L : List S36} {f : Int} (hV : Valid N L) (hN : N ≤ 60) (hf : InN N f) (hl : L.length ≤ 80) {k : Nat} (hk : 20000 ≤ k) :
    ∃ r, PR.assessorref09_distances.f k N L f = some r ∧ FarL N L [f] r := by
  unfold PR.assessorref09_distances.f
  rw [if_pos (by omega), if_pos (by omega), Int.toNat_natCast]
  obtain ⟨o, k', g1, g2, g3, g4⟩ := dist_l0 (L := L) (by omega) hf N 0 k (List.replicate N 0) (by omega) (by simp) (fun v hv => absurd hv (Nat.not_lt_zero _)) (by omega)
  rw [show ((0 : Nat) : Int) = 0 from rfl] at g2
  rw [g2]
  have hfo : 0 ≤ f ∧ f < (o.length : Int) := by rw [g3]; exact hf
  have hs : ∀ v, 0 ≤ v → rd (o.set f.toNat 0) v = if v = f then 0 else rd o v := fun v hv => rd_set o f v 0 hfo hv
  have hm : ∀ v, InN N v → v ≠ f → rd (o.set f.toNat 0) v = -1 := fun v hv hne => by
    rw [hs v hv.1, if_neg hne]
    obtain ⟨n, rfl⟩ := Int.eq_ofNat_of_zero_le hv.1
    exact g4 n (by have := hv.2; omega)
  have hff : rd (o.set f.toNat 0) f = 0 := by rw [hs f hf.1, if_pos rfl]
  have hn : neg (o.set f.toNat 0) + 1 ≤ N := by
    have := neg_lt (o.set f.toNat 0) f (by rw [List.length_set]; exact hfo) (by omega)
    rw [List.length_set, g3] at this
    exact this
  have hD : DX N L f 0 (o.set f.toNat 0) := by
    refine ⟨by rw [List.length_set]; exact g3, fun v hv => ?_, fun v hv h0 => ?_, fun v hv h0 => ?_, hff, fun u v hu huv h0 h1 => by omega⟩
    · by_cases he : v = f
      · rw [he]; omega
      · rw [hm v hv he]; omega
    · by_cases he : v = f
      · rw [he, hff] at h0; omega
      · exact hm v hv he
    · by_cases he : v = f
      · rw [he, hff]; exact .nil _
      · rw [hm v hv he] at h0; omega
  have e1 : (60 + 1) * (2 * L.length + 2) + 1 ≤ (60 + 1) * (2 * 80 + 2) + 1 := by omega
  obtain ⟨r, h1, h2, h3⟩ := dist_allX hV (by omega) hf (by omega) 60 k' 0 _ (by omega) hD (by omega) (by omega) (by omega)
  refine ⟨r, h1, h2, fun v hv => ?_⟩
  rcases h3 v hv with ⟨q1, q2⟩ | ⟨n, q1, q2, q3⟩
  · exact .inl ⟨q1, fun g hg n => by rw [List.mem_singleton.1 hg]; exact q2 n⟩
  · obtain ⟨m, m1, m2⟩ := wk_short hV (by omega) hf q2
    have := q3 m m2
    exact .inr ⟨n, q1, by omega, ⟨f, List.mem_singleton.2 rfl, q2⟩, fun g hg m hw => by rw [List.mem_singleton.1 hg] at hw; exact q3 m hw⟩
end Go.Proofs.Ytjbafigageingaa

namespace Go.Proofs.Ytjbafigageingaa
open Go.RowKit Go.Proofs.YtjbafigageingaaW.PrintWords Go.Proofs.YtjbafigageingaaW.PrintLast Go.Proofs.YtjbafigageingaaW.PrintMore
set_option linter.unusedVariables false
set_option linter.unusedSimpArgs false
def lexLe : List Int → List Int → Prop
  | [], _ => True
  | _ :: _, [] => False
  | a :: xs, b :: bs => a < b ∨ (a = b ∧ lexLe xs bs)
theorem lexLe_refl : ∀ c : List Int, lexLe c c
  | [] => trivial
  | a :: xs => .inr ⟨rfl, lexLe_refl xs⟩
theorem lexLe_anti : ∀ c d : List Int, c.length = d.length → lexLe c d → lexLe d c → c = d
  | [], [], _, _, _ => rfl
  | a :: xs, b :: bs, hl, h1, h2 => by
    rcases h1 with h1 | ⟨h1, h1'⟩
    · rcases h2 with h2 | ⟨h2, _⟩ <;> omega
    · rcases h2 with h2 | ⟨h2, h2'⟩
      · omega
      · rw [h1, lexLe_anti xs bs (by simpa using hl) h1' h2']
theorem lexLe_append : ∀ p p' q q' : List Int, p.length = p'.length → lexLe p p' → (p = p' → lexLe q q') → lexLe (p ++ q) (p' ++ q')
  | [], [], q, q', _, _, h => h rfl
  | a :: xs, b :: bs, q, q', hl, h1, h => by
    rcases h1 with h1 | ⟨h1, h1'⟩
    · exact .inl h1
    · exact .inr ⟨h1, lexLe_append xs bs q q' (by simpa using hl) h1' (fun he => h (by rw [h1, he]))⟩
theorem lexLe_total : ∀ c d : List Int, c.length = d.length → lexLe c d ∨ lexLe d c
  | [], _, _ => .inl trivial
  | a :: xs, [], h => by simp at h
  | a :: xs, b :: bs, h => by
    rcases Int.lt_trichotomy a b with h1 | h1 | h1
    · exact .inl (.inl h1)
    · rcases lexLe_total xs bs (by simpa using h) with h2 | h2
      · exact .inl (.inr ⟨h1, h2⟩)
      · exact .inr (.inr ⟨h1.symm, h2⟩)
    · exact .inr (.inl h1)
theorem lexLe_trans : ∀ c d e : List Int, c.length = d.length → d.length = e.length → lexLe c d → lexLe d e → lexLe c e
  | [], _, _, _, _, _, _ => trivial
  | a :: as1, b :: bs, x :: xs, h1, h2, h3, h4 => by
    rcases h3 with h3 | ⟨h3, h3'⟩
    · rcases h4 with h4 | ⟨h4, _⟩
      · exact .inl (by omega)
      · exact .inl (by omega)
    · rcases h4 with h4 | ⟨h4, h4'⟩
      · exact .inl (by omega)
      · exact .inr ⟨h3.trans h4, lexLe_trans as1 bs xs (by simpa using h1) (by simpa using h2) h3' h4'⟩
/-- shorter, or not longer and not behind -/
def SLe (c d : List Int) : Prop := c.length < d.length ∨ (c.length = d.length ∧ lexLe c d)
theorem SLe_anti {c d : List Int} (h1 : SLe c d) (h2 : SLe d c) : c = d := by
  rcases h1 with h1 | ⟨h1, h1'⟩
  · rcases h2 with h2 | ⟨h2, _⟩ <;> omega
  · rcases h2 with h2 | ⟨h2, h2'⟩
    · omega
    · exact lexLe_anti c d h1 h1' h2'
theorem SLe_trans {c d e : List Int} (h1 : SLe c d) (h2 : SLe d e) : SLe c e := by
  rcases h1 with h1 | ⟨h1, h1'⟩
  · rcases h2 with h2 | ⟨h2, _⟩ <;> exact .inl (by omega)
  · rcases h2 with h2 | ⟨h2, h2'⟩
    · exact .inl (by omega)
    · exact .inr ⟨by omega, lexLe_trans c d e h1 h2 h1' h2'⟩
theorem SLe_total (c d : List Int) : SLe c d ∨ SLe d c := by
  rcases Nat.lt_trichotomy c.length d.length with h | h | h
  · exact .inl (.inl h)
  · rcases lexLe_total c d h with h2 | h2
    · exact .inl (.inr ⟨h, h2⟩)
    · exact .inr (.inr ⟨h.symm, h2⟩)
  · exact .inr (.inl h)
theorem otherF_least {L : List S36} {i : Int} (hi : 0 ≤ i ∧ i < (L.length : Int)) : ∀ (js : List Int), (∀ j ∈ js, 0 ≤ j ∧ j < (L.length : Int)) → js.Pairwise (· < ·) → ∀ r, otherF L i js = some r → r.2 = true →
    ∀ j ∈ js, i < j → exclB (cAt L i).f3 (cAt L j).f3 = true → r.1 ≤ j
  | [], _, _, _, _, _, j, hj, _, _ => by cases hj
  | x :: js, h, hs, r, hr, ht, j, hj, hij, hx => by
    have hxr := h x (List.mem_cons_self ..)
    obtain ⟨hs1, hs2⟩ := List.pairwise_cons.1 hs
    simp only [otherF] at hr
    have rest : otherF L i js = some r → ¬ (i < x ∧ exclB (cAt L i).f3 (cAt L x).f3 = true) → r.1 ≤ j := fun hr hno => by
      rcases List.mem_cons.1 hj with rfl | hj
      · exact absurd ⟨hij, hx⟩ hno
      · exact otherF_least hi js (fun y hy => h y (List.mem_cons_of_mem _ hy)) hs2 r hr ht j hj hij hx
    by_cases hix : i < x
    · rw [if_pos hix, if_pos ⟨hi, hxr⟩] at hr
      by_cases he : exclB (rd_T36 L i).f3 (rd_T36 L x).f3 = true
      · rw [if_pos he] at hr
        obtain rfl := Option.some.inj hr
        rcases List.mem_cons.1 hj with rfl | hj
        · exact Int.le_refl _
        · exact Int.le_of_lt (hs1 j hj)
      · rw [if_neg he] at hr
        exact rest hr (fun hh => he hh.2)
    · rw [if_neg hix] at hr
      exact rest hr (fun hh => hix hh.1)
theorem tgtF_all {L : List S36} {M : MM} {far : List Int} {i : Int} (hi : 0 ≤ i ∧ i < (L.length : Int)) (hM : ∀ v, ∀ j ∈ M v, 0 ≤ j ∧ j < (L.length : Int)) : ∀ (d v : Nat) (best : Int) (ts : List Int) (r : Int × List Int), tgtF L M far i d v best ts = some r →
    (∀ u : Nat, u < v → 0 ≤ rd far u → Tgt L M i u → 0 ≤ best ∧ best ≤ rd far u ∧ (rd far u = best → (u : Int) ∈ ts)) → ∀ u : Nat, u < v + d → 0 ≤ rd far u → Tgt L M i u → 0 ≤ r.1 ∧ r.1 ≤ rd far u ∧ (rd far u = r.1 → (u : Int) ∈ r.2)
  | 0, v, best, ts, r, h, hI => by
    simp only [tgtF] at h
    obtain rfl := Option.some.inj h
    exact hI
  | d + 1, v, best, ts, r, h, hI => by
    have go : ∀ {best' ts'}, tgtF L M far i d (v + 1) best' ts' = some r → (∀ u : Nat, u < v → 0 ≤ rd far u → Tgt L M i u → 0 ≤ best' ∧ best' ≤ rd far u ∧ (rd far u = best' → (u : Int) ∈ ts')) → (0 ≤ rd far v → Tgt L M i v → 0 ≤ best' ∧ best' ≤ rd far v ∧ (rd far v = best' → (v : Int) ∈ ts')) →
        ∀ u : Nat, u < v + (d + 1) → 0 ≤ rd far u → Tgt L M i u → 0 ≤ r.1 ∧ r.1 ≤ rd far u ∧ (rd far u = r.1 → (u : Int) ∈ r.2) := fun {best' ts'} h h1 h2 u hu => by
      refine tgtF_all hi hM d (v + 1) best' ts' r h (fun u hu => ?_) u (by omega)
      rcases Nat.lt_or_ge u v with hlt | hge
      · exact h1 u hlt
      · obtain rfl : u = v := by omega
        exact h2
    simp only [tgtF] at h
    by_cases h1 : rd far v < 0
    · rw [if_pos h1] at h
      exact go h hI (fun h0 => by omega)
    · rw [if_neg h1] at h
      by_cases h2 : 0 ≤ best ∧ best < rd far v
      · rw [if_pos h2] at h
        exact go h hI (fun _ _ => ⟨h2.1, by omega, fun he => by omega⟩)
      · rw [if_neg h2] at h
        obtain ⟨p, o1, o2, o3⟩ := otherF_ok hi (M v) (hM v)
        rw [o1] at h
        simp only [Option.bind_some] at h
        by_cases h3 : p.2 = true
        · rw [if_pos h3] at h
          by_cases h4 : best < 0 ∨ rd far v < best
          · rw [if_pos h4] at h
            refine go h (fun u hu h0 hT => ?_) (fun h0 _ => ⟨h0, Int.le_refl _, fun _ => List.mem_singleton.2 rfl⟩)
            have := hI u hu h0 hT
            exact ⟨by omega, by omega, fun he => by omega⟩
          · rw [if_neg h4] at h
            refine go h (fun u hu h0 hT => ?_) (fun h0 _ => ⟨by omega, by omega, fun _ => List.mem_append_right _ (List.mem_singleton.2 rfl)⟩)
            have := hI u hu h0 hT
            exact ⟨this.1, this.2.1, fun he => List.mem_append_left _ (this.2.2 he)⟩
        · rw [if_neg h3] at h
          refine go h hI (fun _ hT => ?_)
          obtain ⟨j, hj, hij, hx⟩ := hT
          rw [o3 (Bool.eq_false_iff.2 h3) j hj hij] at hx
          cases hx
theorem nextE_min {left : List Int} {lv : Int} (hw : wrap64 (lv - 1) = lv - 1) : ∀ (es : List S55), (∀ e ∈ es, 0 ≤ e.f1 ∧ e.f1 < (left.length : Int)) → (∀ e ∈ es, 0 ≤ e.f0) → ∀ nx r : S55, nextE left lv es nx = some r →
    (0 ≤ nx.f0 → r.f0 ≤ nx.f0) ∧ ∀ e ∈ es, rd left e.f1 = lv - 1 → r.f0 ≤ e.f0
  | [], _, _, nx, r, h => by
    simp only [nextE] at h
    obtain rfl := Option.some.inj h
    exact ⟨fun _ => Int.le_refl _, fun e he => by cases he⟩
  | x :: es, h, h0, nx, r, hr => by
    have hx := h x (List.mem_cons_self ..)
    have hx0 := h0 x (List.mem_cons_self ..)
    have ih := fun nx => nextE_min hw es (fun y hy => h y (List.mem_cons_of_mem _ hy)) (fun y hy => h0 y (List.mem_cons_of_mem _ hy)) nx r
    simp only [nextE, if_pos hx] at hr
    rw [hw] at hr
    by_cases hc : rd left x.f1 = lv - 1
    · rw [if_pos hc] at hr
      by_cases hn : nx.f0 < 0
      · rw [if_pos hn] at hr
        obtain ⟨a, b⟩ := ih x hr
        refine ⟨fun hh => by omega, fun e he hle => ?_⟩
        rcases List.mem_cons.1 he with rfl | he
        · exact a hx0
        · exact b e he hle
      · rw [if_neg hn] at hr
        by_cases hlt : x.f0 < nx.f0
        · rw [if_pos hlt] at hr
          obtain ⟨a, b⟩ := ih x hr
          have := a hx0
          refine ⟨fun hh => by omega, fun e he hle => ?_⟩
          rcases List.mem_cons.1 he with rfl | he
          · exact a hx0
          · exact b e he hle
        · rw [if_neg hlt] at hr
          obtain ⟨a, b⟩ := ih nx hr
          have := a (by omega)
          refine ⟨a, fun e he hle => ?_⟩
          rcases List.mem_cons.1 he with rfl | he
          · omega
          · exact b e he hle
    · rw [if_neg hc] at hr
      obtain ⟨a, b⟩ := ih nx hr
      refine ⟨a, fun e he hle => ?_⟩
      rcases List.mem_cons.1 he with rfl | he
      · exact absurd hle hc
      · exact b e he hle
theorem far_le {N : Nat} {L : List S36} {ts left : List Int} (hl : FarL N L ts left) {v u : Int} {m : Nat} (hv : InN N v) (hu : u ∈ ts) (hw : WkL L m v u) : 0 ≤ rd left v ∧ rd left v ≤ m := by
  rcases hl.far v hv with ⟨_, g⟩ | ⟨n, g1, _, _, g4⟩
  · exact absurd hw.symm (g u hu m)
  · have := g4 u hu m hw.symm
    omega
theorem far_adj {N : Nat} {L : List S36} {ts left : List Int} (hl : FarL N L ts left) {v u : Int} (hv : InN N v) (hu : InN N u) (ha : AdjL L v u) (h0 : 0 ≤ rd left u) : rd left v ≤ rd left u + 1 := by
  rcases hl.far u hu with ⟨g, _⟩ | ⟨n, g1, _, ⟨f, hf, g3⟩, _⟩
  · omega
  · have := far_le hl hv hf (WkL.cons ha g3.symm)
    omega
theorem wayF_least {N : Nat} {L : List S36} {E : EE} {M : MM} (hb : Built N L E M) (hV : Valid N L) (hN : N ≤ 4096) {ts left : List Int} (hts : ∀ t ∈ ts, InN N t) (hl : FarL N L ts left) : ∀ (n k : Nat) (out : List Int) (v : Int), InN N v → rd left v = n → n < k → out.length + n ≤ 900000 →
    ∀ p u, wayF E left k out v = some (out ++ p, u) → ∀ (p' : List Int) (u' : Int), (∀ i ∈ p', 0 ≤ i ∧ i < (L.length : Int)) → wayC L v p' = some u' → u' ∈ ts → p'.length = n → lexLe p p'
  | n, 0, _, _, _, _, hk, _ => by omega
  | 0, k + 1, out, v, hv, hn, _, _ => by
    intro p u h p' u' _ _ _ _
    have hvl : 0 ≤ v ∧ v < (left.length : Int) := by rw [hl.len]; exact hv
    simp only [wayF] at h
    rw [if_pos hvl, if_neg (by omega)] at h
    have := Option.some.inj h
    injection this with h1 _
    have : p = [] := by
      have := congrArg List.length h1
      rw [List.length_append] at this
      exact List.length_eq_zero_iff.1 (by omega)
    rw [this]
    trivial
  | n + 1, k + 1, out, v, hv, hn, hk, hol => by
    intro p u h p' u' hr hway hu' hlen
    have hvl : 0 ≤ v ∧ v < (left.length : Int) := by rw [hl.len]; exact hv
    have hvE : v < (E.length : Int) := by rw [hb.len]; exact hv.2
    have hEok := hb.eok hV
    have hedge : ∀ e ∈ rdE E v, InN N e.f1 ∧ (0 ≤ e.f0 ∧ e.f0 < (L.length : Int)) ∧ (cAt L e.f0).f0 = 1 ∧ (((cAt L e.f0).f1 = v ∧ e.f1 = (cAt L e.f0).f2) ∨ ((cAt L e.f0).f2 = v ∧ e.f1 = (cAt L e.f0).f1)) := fun e he => by
      have h1 := hEok v (by unfold InR; rw [hb.len]; exact hv) e he
      unfold InR at h1
      rw [hb.len] at h1
      obtain ⟨j, c, hg, h0, h2⟩ := (hb.edge v hv e).1 he
      have hjl := (List.getElem?_eq_some_iff.1 hg).1
      rcases h2 with ⟨h2, rfl⟩ | ⟨h2, rfl⟩
      · exact ⟨h1, ⟨by simp, by simp; omega⟩, by rw [cAt_of hg]; exact h0, .inl ⟨by rw [cAt_of hg]; exact h2, by rw [cAt_of hg]⟩⟩
      · exact ⟨h1, ⟨by simp, by simp; omega⟩, by rw [cAt_of hg]; exact h0, .inr ⟨by rw [cAt_of hg]; exact h2, by rw [cAt_of hg]⟩⟩
    have hn4 : n + 1 < N := by
      rcases hl.far v hv with ⟨h1, _⟩ | ⟨m, h1, h2, _⟩
      · omega
      · omega
    -- the other way's first step is an edge that leads on
    obtain ⟨i, p1, rfl⟩ : ∃ i p1, p' = i :: p1 := by
      cases p' with
      | nil => simp at hlen
      | cons i p1 => exact ⟨i, p1, rfl⟩
    have hi := hr i (List.mem_cons_self ..)
    obtain ⟨j, hj⟩ := Int.eq_ofNat_of_zero_le hi.1
    have hjL : j < L.length := by omega
    have hstep : ∃ v', wayC L v' p1 = some u' ∧ (⟨i, v'⟩ : S55) ∈ rdE E v ∧ AdjL L v v' := by
      simp only [wayC] at hway
      split at hway
      case isFalse => cases hway
      rename_i h0
      have hg : L[j]? = some (cAt L i) := by
        rw [List.getElem?_eq_getElem hjL, hj]
        exact congrArg some (cAt_of (List.getElem?_eq_getElem hjL)).symm
      split at hway
      · rename_i h1
        exact ⟨_, hway, (hb.edge v hv _).2 ⟨j, _, hg, h0, .inl ⟨h1, by rw [hj]⟩⟩, ⟨_, at_mem hi, h0, .inl ⟨h1, rfl⟩⟩⟩
      · split at hway
        case isFalse => cases hway
        rename_i h2
        exact ⟨_, hway, (hb.edge v hv _).2 ⟨j, _, hg, h0, .inr ⟨h2, by rw [hj]⟩⟩, ⟨_, at_mem hi, h0, .inr ⟨h2, rfl⟩⟩⟩
    obtain ⟨v', hw1, he, ha⟩ := hstep
    have hv' : InN N v' := (hedge _ he).1
    have hl1 : p1.length = n := by simpa using hlen
    have hwk := wayC_wk p1 v' u' (fun x hx => hr x (List.mem_cons_of_mem _ hx)) hw1
    rw [hl1] at hwk
    have hf := far_le hl hv' hu' hwk
    have hf2 := far_adj hl hv hv' ha hf.1
    have hlev : rd left v' = ((n + 1 : Nat) : Int) - 1 := by omega
    obtain ⟨r, h1, h2, h3⟩ := nextE_ok (left := left) (lv := ((n + 1 : Nat) : Int)) (wrap_small _ (by omega)) (rdE E v) (fun e he => by rw [hl.len]; exact (hedge e he).1) (fun e he => (hedge e he).2.1.1) ⟨-1, 0⟩
    have hmin := nextE_min (left := left) (lv := ((n + 1 : Nat) : Int)) (wrap_small _ (by omega)) (rdE E v) (fun e he => by rw [hl.len]; exact (hedge e he).1) (fun e he => (hedge e he).2.1.1) ⟨-1, 0⟩ r h1
    have hr0 := h3 (.inr ⟨_, he, hlev⟩)
    have hre : r ∈ rdE E v ∧ rd left r.f1 = ((n + 1 : Nat) : Int) - 1 := by
      rcases h2 with rfl | h2
      · exact absurd hr0 (by decide)
      · exact h2
    have hle : r.f0 ≤ i := hmin.2 _ he hlev
    obtain ⟨g1, g2, g3, g4⟩ := hedge r hre.1
    obtain ⟨q, uq, f1, f2, f3, f4, f5, f6⟩ := wayF_ok hb hV hN hts hl n k (out ++ [r.f0]) r.f1 g1 (by rw [hre.2]; omega) (by omega) (by rw [List.length_append, List.length_singleton]; omega)
    simp only [wayF] at h
    rw [if_pos hvl, hn, if_pos (by omega), if_pos ⟨hvE, by omega⟩, h1] at h
    simp only [Option.bind_some] at h
    rw [f1] at h
    have hinj := Option.some.inj h
    injection hinj with e1 e2
    have hp : p = r.f0 :: q := by
      rw [List.append_assoc] at e1
      exact (List.append_cancel_left e1).symm
    rw [hp]
    by_cases hri : r.f0 = i
    · refine .inr ⟨hri, ?_⟩
      have hself : r.f1 = v' := by
        obtain ⟨a1, a2, a3, a4⟩ := hedge _ he
        rw [hri] at g4
        rcases g4 with ⟨b1, b2⟩ | ⟨b1, b2⟩
        · rcases a4 with ⟨c1, c2⟩ | ⟨c1, c2⟩
          · exact b2.trans c2.symm
          · exact b2.trans (c1.trans (b1.symm.trans c2.symm))
        · rcases a4 with ⟨c1, c2⟩ | ⟨c1, c2⟩
          · exact b2.trans (c1.trans (b1.symm.trans c2.symm))
          · exact b2.trans c2.symm
      exact wayF_least hb hV hN hts hl n k (out ++ [r.f0]) r.f1 g1 (by rw [hre.2]; omega) (by omega) (by rw [List.length_append, List.length_singleton]; omega) q uq f1 p1 u' (fun x hx => hr x (List.mem_cons_of_mem _ hx)) (by rw [hself]; exact hw1) hu' hl1
    · exact .inl (by omega)
theorem chain_ok2 {N : Nat} {L : List S36} {E : EE} {M : MM} (hb : Built N L E M) (hV : Valid N L) (hN : N ≤ 4096) {i : Nat} (hi : i < L.length) (hk0 : (cAt L i).f0 = 0) {k : Nat} (hk : 10000 ≤ k) :
    ∃ r, chainF E L M k i = some r ∧ (r = none → ∀ n, ¬ Opp L i n) ∧ (∀ c, r = some c → ∃ p z, c = (i : Int) :: (p ++ [z]) ∧ IsCh L i z p ∧ (∀ n, Opp L i n → p.length ≤ n) ∧ ∀ z' p', IsCh L i z' p' → p'.length = p.length → lexLe (p ++ [z]) (p' ++ [z'])) := by
  have hiL : 0 ≤ (i : Int) ∧ (i : Int) < (L.length : Int) := by omega
  have hci : cAt L i ∈ L := by
    unfold cAt rd_T36
    rw [Int.toNat_natCast, List.getD_eq_getElem?_getD, List.getElem?_eq_getElem hi]
    exact List.getElem_mem hi
  have hA := (hV _ hci).1
  have hMr : ∀ v, ∀ j ∈ M v, 0 ≤ j ∧ j < (L.length : Int) := fun v j hj => by
    obtain ⟨n, rfl, hn⟩ := (hb.mark v j).1 hj
    have := markAt_lt hn
    omega
  have hMo : ∀ {v : Int} {j : Int}, j ∈ M v → ∃ n : Nat, j = n ∧ n < L.length ∧ (cAt L n).f0 = 0 ∧ (cAt L n).f1 = v := fun {v j} hj => by
    obtain ⟨n, rfl, hn⟩ := (hb.mark v j).1 hj
    exact ⟨n, rfl, markAt_lt hn, (markAt_c hn).1, (markAt_c hn).2.1⟩
  have hoM : ∀ {n : Nat}, n < L.length → (cAt L n).f0 = 0 → (n : Int) ∈ M (cAt L n).f1 := fun {n} hn h0 => by
    refine (hb.mark _ _).2 ⟨n, rfl, L[n], List.getElem?_eq_getElem hn, ?_⟩
    have := cAt_of (List.getElem?_eq_getElem hn)
    rw [this] at h0 ⊢
    exact ⟨h0, rfl⟩
  obtain ⟨far, hfar, hF⟩ := hb.dist hV hN (F := [(cAt L i).f1]) (fun f hf => by rw [List.mem_singleton.1 hf]; exact hA) (by simp) (k := k) (by simp; omega)
  have hElen := hb.len
  obtain ⟨⟨best, ts⟩, htg, hT⟩ := tgtF_ok (far := far) hiL hMr E.length 0 (-1) [] ⟨fun _ => ⟨rfl, rfl, fun u hu => by omega⟩, fun h => by omega, Nat.le_refl 0⟩
  rw [Nat.zero_add, hElen] at hT
  unfold chainF
  rw [if_pos hiL, hfar]
  simp only [Option.bind_some]
  rw [htg]
  simp only [Option.bind_some]
  -- an opponent is a target
  have hopp : ∀ n, Opp L i n → ∃ u : Nat, u < N ∧ 0 ≤ rd far u ∧ Tgt L M i u ∧ rd far u ≤ n := fun n hO => by
    obtain ⟨j, h1, h2, h3, h4, h5⟩ := hO
    have hin := wkL_in hV hA h5
    obtain ⟨u, hu⟩ := Int.eq_ofNat_of_zero_le hin.1
    rw [hu] at hin h5
    refine ⟨u, by have := hin.2; omega, ?_⟩
    have hTg : Tgt L M i u := ⟨j, by have := hoM h2 h3; rw [hu] at this; exact this, h1, h4⟩
    rcases hF.far u hin with ⟨_, g⟩ | ⟨q, g1, _, _, g4⟩
    · exact absurd h5 (g _ (List.mem_singleton.2 rfl) n)
    · have := g4 _ (List.mem_singleton.2 rfl) n h5
      exact ⟨by omega, hTg, by omega⟩
  by_cases hbn : best < 0
  · rw [if_pos hbn]
    obtain ⟨_, _, h3⟩ := hT.none hbn
    refine ⟨none, rfl, fun _ n hO => ?_, fun c hc => by cases hc⟩
    obtain ⟨u, hu, h0, hTg, _⟩ := hopp n hO
    exact h3 u hu ⟨h0, hTg⟩
  · rw [if_neg hbn]
    obtain ⟨h1, h2, h3⟩ := hT.some (by omega)
    have hts : ∀ t ∈ ts, InN N t := fun t ht => ⟨(h2 t ht).1, (h2 t ht).2.1⟩
    have htl : ts.length ≤ N := hT.len
    obtain ⟨left, hleft, hL⟩ := hb.dist hV hN hts (by omega) (k := k) (by omega)
    rw [hleft]
    simp only [Option.bind_some]
    obtain ⟨b, hbb⟩ := Int.eq_ofNat_of_zero_le (show 0 ≤ best by omega)
    -- the distance from the targets is the best
    have hlv : rd left (cAt L i).f1 = b := by
      obtain ⟨t, ht⟩ := List.exists_mem_of_ne_nil ts h1
      have ht2 := h2 t ht
      have hft : WkL L b (cAt L i).f1 t := by
        rcases hF.far t (hts t ht) with ⟨g, _⟩ | ⟨q, g1, _, ⟨f, hf, g3⟩, _⟩
        · omega
        · rw [List.mem_singleton.1 hf] at g3
          obtain rfl : q = b := by omega
          exact g3
      rcases hL.far _ hA with ⟨_, g⟩ | ⟨q, g1, _, ⟨f, hf, g3⟩, g4⟩
      · exact absurd hft.symm (g t ht b)
      · have h5 := g4 t ht b hft.symm
        have h6 : b ≤ q := by
          have hf2 := h2 f hf
          rcases hF.far f (hts f hf) with ⟨g, _⟩ | ⟨q', g1', _, _, g4'⟩
          · omega
          · have := g4' _ (List.mem_singleton.2 rfl) q g3.symm
            omega
        omega
    have hbN : b < N := by
      rcases hL.far _ hA with ⟨g, _⟩ | ⟨q, g1, g2, _⟩
      · omega
      · omega
    obtain ⟨p, u, g1, g2, g3, g4, g5, g6⟩ := wayF_ok hb hV hN hts hL b k [(i : Int)] (cAt L i).f1 hA hlv (by omega) (by simp; omega)
    rw [show rd_T36 L (i : Int) = cAt L i from rfl, g1]
    simp only [Option.bind_some]
    rw [if_pos (show 0 ≤ u ∧ u < (E.length : Int) by rw [hElen]; exact g4)]
    obtain ⟨jb, o1, o2, o3⟩ := otherF_ok hiL (M u) (hMr u)
    rw [o1]
    simp only [Option.bind_some]
    have hjb : jb.2 = true := by
      cases hh : jb.2 with
      | true => rfl
      | false =>
        obtain ⟨j, hj, hij, hx⟩ := (h2 u g3).2.2.2
        rw [o3 hh j hj hij] at hx
        cases hx
    obtain ⟨q1, q2, q3⟩ := o2 hjb
    obtain ⟨nz, hz, hzl, hz0, hz1⟩ := hMo q1
    refine ⟨_, rfl, (fun h => by cases h), fun c hc => ?_⟩
    injection hc with hc
    refine ⟨p, jb.1, by rw [← hc]; rfl, ⟨q2, hiL, by omega, g6, hk0, by rw [hz]; exact hz0, q3, by rw [hz, hz1]; exact g5⟩, fun n hO => ?_, fun z' p' hI hlen => ?_⟩
    · obtain ⟨w, hw, h0, hTg, hle⟩ := hopp n hO
      have := h3 w hw h0 hTg
      omega
    · have hwk := wayC_wk p' _ _ hI.rp hI.way
      have hin := wkL_in hV hA hwk
      obtain ⟨zn, hzn⟩ := Int.eq_ofNat_of_zero_le hI.rz.1
      obtain ⟨w, hw⟩ := Int.eq_ofNat_of_zero_le hin.1
      have hwN : w < N := by have := hin.2; omega
      have hMz : z' ∈ M (cAt L z').f1 := by
        rw [hzn]
        exact hoM (by have := hI.rz.2; omega) (by rw [← hzn]; exact hI.kz)
      have hTw : Tgt L M i w := ⟨z', by rw [← hw]; exact hMz, hI.lt, hI.ex⟩
      have hfw : 0 ≤ rd far w ∧ rd far w ≤ b := by
        rcases hF.far w (by rw [← hw]; exact hin) with ⟨_, g⟩ | ⟨q, q1', _, _, q4⟩
        · exact absurd (by rw [← hw]; exact hwk) (g _ (List.mem_singleton.2 rfl) p'.length)
        · have := q4 _ (List.mem_singleton.2 rfl) p'.length (by rw [← hw]; exact hwk)
          omega
      have hall := tgtF_all (far := far) hiL hMr E.length 0 (-1) [] (best, ts) htg (fun u hu => by omega) w (by omega) hfw.1 hTw
      simp only at hall
      have hmem : (cAt L z').f1 ∈ ts := by rw [hw]; exact hall.2.2 (by omega)
      refine lexLe_append p p' _ _ (by rw [g2, hlen, g2]) (wayF_least hb hV hN hts hL b k [(i : Int)] (cAt L i).f1 hA hlv (by omega) (by simp; omega) p u g1 p' _ hI.rp hI.way hmem (by rw [hlen, g2])) (fun he => ?_)
      have hu : u = (cAt L z').f1 := by
        have := hI.way
        rw [← he, g5] at this
        exact Option.some.inj this
      have := otherF_least hiL (M u) (hMr u) (hb.sorted u) jb o1 hjb z' (by rw [hu]; exact hMz) hI.lt hI.ex
      by_cases hj : jb.1 = z'
      · exact .inr ⟨hj, trivial⟩
      · exact .inl (by omega)
end Go.Proofs.Ytjbafigageingaa
