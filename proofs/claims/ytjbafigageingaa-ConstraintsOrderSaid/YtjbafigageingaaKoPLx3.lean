import Derived.Test.YtjbafigageingaaKoSurr
import Derived.Test.YtjbafigageingaaKoPRx6
import Derived.Test.YtjbafigageingaaKoPRx3
import Derived.Test.YtjbafigageingaaProg
import Derived.Test.YtjbafigageingaaKoW
import Derived.Below
import Derived.Deep.Draws
import Derived.Deep.AppendLies
import Derived.Maps.AppendAt
import Derived.OwnWalk
import Derived.Laws.BytesArg
import Derived.Laws.MakeOwn
import Derived.Laws.OwnMore
import Derived.Deep.OwnRows
import Derived.Tactics
import Derived.Lib.ConvBytes
import Derived.Laws.Slices
import Derived.WalkKit
import Derived.KernelRfl
import Derived.RowKit3
import Derived.Deep.LoopGhost
import Derived.Deep.QuietTactic
import Derived.BigQuiet
import Derived.WideLaws
import Derived.Deep.DeepCutAuto
import Derived.Deep.CutBlock
import Derived.Deep.RegionHeld3
import Derived.Laws.Rows
import Derived.Lib.AppendStr
import Derived.ArgAppend
import Derived.Laws.IdiomCopy
import Derived.OrdersHeld
import Derived.Laws.BitsLemmas
import Derived.RowKit
namespace Go.Proofs.Ytjbafigageingaa.PF
end Go.Proofs.Ytjbafigageingaa.PF
namespace Go.Proofs.Ytjbafigageingaa.PL
open Go.Proofs.Ytjbafigageingaa.PR Go.Proofs.Ytjbafigageingaa.PF
open Go.RowKit Go.Proofs.YtjbafigageingaaW.PrintWords Go.Proofs.YtjbafigageingaaW.PrintLast Go.Proofs.YtjbafigageingaaW.PrintMore
attribute [local go_sem] max2_int min2_int max_two min_two max_three min_three max_four min_four
set_option linter.unusedVariables false
set_option linter.unusedSimpArgs false

mutual
def assessorlaw09_ConstraintsOrder.j0 : Nat → Int → List (S36) → Int → Bool → Option (Bool)
 | 0, _, _, _, _ => none
 | k + 1, x0, x1, x2, x24 => if x24 = true then ((assessorlaw09_awake.f).bind fun t177 => (some t177)) else (if (x1.length : Int) = 0 then (none) else ((some (([] : List (S36)) : List (S36))).bind fun y178 => (if 0 ≤ (Int.tmod (wrap64 (x2)) (x1.length : Int)) then (if (Int.tmod (wrap64 (x2)) (x1.length : Int)) ≤ (x1.length : Int) then ((some (x1.drop ((Int.tmod (wrap64 (x2)) (x1.length : Int)) : Int).toNat : List (S36))).bind fun y181 => (if y178.length + y181.length < 1954687338268 then ((some (y178 ++ y181 : List (S36))).bind fun y185 => ((some (x1.take ((Int.tmod (wrap64 (x2)) (x1.length : Int)) : Int).toNat : List (S36))).bind fun y188 => (if y185.length + y188.length < 1954687338268 then ((constraints_Solve.f x0 x1).bind fun bt195 => ((constraints_Solve.f x0 (y185 ++ y188)).bind fun bt202 => (if bt195.2.2 = bt202.2.2 then ((assessorref08_Equal.f k bt195.1 bt202.1).bind fun t209 => (if t209 = true then (assessorlaw09_ConstraintsOrder.j1 k bt195.2.1 bt202.2.1 ((bt195.2.1.length : Int) != (bt202.2.1.length : Int))) else (assessorlaw09_ConstraintsOrder.j1 k bt195.2.1 bt202.2.1 true))) else (assessorlaw09_ConstraintsOrder.j1 k bt195.2.1 bt202.2.1 true)))) else (none)))) else (none))) else (none)) else (none))))
def assessorlaw09_ConstraintsOrder.j1 : Nat → List (List Int) → List (List Int) → Bool → Option (Bool)
 | 0, _, _, _ => none
 | k + 1, x10, x13, x69 => if x69 = true then (some false) else (assessorlaw09_ConstraintsOrder.l0 k x10 x13 (x10.length : Int) 0)
def assessorlaw09_ConstraintsOrder.l0 : Nat → List (List Int) → List (List Int) → Int → Int → Option (Bool)
 | 0, _, _, _, _ => none
 | k + 1, x10, x13, x71, x72 => if x72 < x71 then (if 0 ≤ x72 then (if x72 < (x10.length : Int) then (if x72 < (x13.length : Int) then (if ((rd_L7 x10 x72).length : Int) = ((rd_L7 x13 x72).length : Int) then (assessorlaw09_ConstraintsOrder.l0 k x10 x13 x71 (wrap64 (x72 + 1))) else (some false)) else (none)) else (none)) else (none)) else ((assessorlaw09_awake.f).bind fun t212 => (some t212))
end
def assessorlaw09_ConstraintsOrder.f (k : Nat) (a0 : Int) (l1 : List (S36)) (a2 : Int) : Option (Bool) := (assessorlaw09_few.f a0 l1).bind fun t176 => (if t176 = true then (assessorlaw09_ConstraintsOrder.j0 k a0 l1 a2 ((l1.length : Int) == 0)) else (assessorlaw09_ConstraintsOrder.j0 k a0 l1 a2 true))
def assessorlaw09_ConstraintsOrder.T4 : Bool × List (List Nat × List Nat) := (true, [([], []), ([], []), ([], []), ([1, 2], [1, 2]), ([0, 3], [0, 3]), ([], []), ([], []), ([5, 6], [5, 6]), ([4, 7, 4], [4, 7]), ([8, 8, 0, 1, 2, 3, 4, 5, 6, 7, 8], [8])])
def assessorlaw09_ConstraintsOrder.B4 : List Nat := [0, 0, 0, 6, 15, 0, 0, 96, 255, 511]
theorem assessorlaw09_ConstraintsOrder.tab4 : rtab .any (opsOf Try.f6 4) = assessorlaw09_ConstraintsOrder.T4 := by kernel_rfl
theorem assessorlaw09_ConstraintsOrder.bits4 : waitsOk assessorlaw09_ConstraintsOrder.T4.2 assessorlaw09_ConstraintsOrder.B4 = true := by kernel_rfl
def assessorlaw09_ConstraintsOrder.T12 : Bool × List (List Nat × List Nat) := (true, [([], []), ([], []), ([0, 1], [0, 1]), ([2], [2]), ([3], [3]), ([], []), ([], []), ([5, 6], [5, 6]), ([7], [7]), ([8], [8]), ([4, 9], [4, 9])])
def assessorlaw09_ConstraintsOrder.B12 : List Nat := [0, 0, 3, 7, 15, 0, 0, 96, 224, 480, 1023]
theorem assessorlaw09_ConstraintsOrder.tab12 : rtab .any (opsOf Try.f6 12) = assessorlaw09_ConstraintsOrder.T12 := by kernel_rfl
theorem assessorlaw09_ConstraintsOrder.bits12 : waitsOk assessorlaw09_ConstraintsOrder.T12.2 assessorlaw09_ConstraintsOrder.B12 = true := by kernel_rfl
set_option maxHeartbeats 8000000 in
set_option maxRecDepth 100000 in
theorem assessorlaw09_ConstraintsOrder.calls (k : Nat) (a0 : Int) (A1 : Option Addr) (c1 : Nat) (l1 : List (S36)) (a2 : Int) (r : Bool) (w : World) (hr1 : Kd.C k36 w A1 l1.length l1) (hc1 : l1.length ≤ c1) (h : assessorlaw09_ConstraintsOrder.f k a0 l1 a2 = some r) (ht_ : r = true) :
  Calls Try.prog 6 #[.int .i64 a0, .slice A1 l1.length c1, .int .u8 a2] w fun e w' => e = .returned (.bool r) ∧ Below w.heap.size w w' := by
 have HTru_ := Aside0.mk ht_
 clear ht_
 have HR1 := Aside0.mk hr1
 have HC1 := Aside0.mk hc1
 clear hr1 hc1
 have HB := Aside0.mk (Below.refl w.heap.size w)
 have H : ((assessorlaw09_few.f a0 l1).bind fun t176 => (if t176 = true then (assessorlaw09_ConstraintsOrder.j0 k a0 l1 a2 ((l1.length : Int) == 0)) else (assessorlaw09_ConstraintsOrder.j0 k a0 l1 a2 true))) = some r := h
 clear h
 have HC4 := Aside0.mk H
 clear H
 go_enter Try.func6, Try.ntmps6
 go_upto_region 1 with (fail)
 go_cut [24] (fun v24 wc => ∃ (kq : Nat) (x24_3 : Bool), v24 = .bool x24_3 ∧ Aside0 (assessorlaw09_ConstraintsOrder.j0 kq a0 l1 a2 x24_3 = some r) ∧ Aside0 (kq ≤ k) ∧ Aside0 (Below w.heap.size w wc))
 case first =>
  have H := HC4.out
  clear HC4
  replace H := Option.bind_eq_some_iff.mp H
  obtain ⟨t176, A50, H⟩ := H
  replace H : (if t176 = true then (assessorlaw09_ConstraintsOrder.j0 k a0 l1 a2 ((l1.length : Int) == 0)) else (assessorlaw09_ConstraintsOrder.j0 k a0 l1 a2 true)) = some r := H
  have A5 := Aside0.mk A50
  clear A50
  by_cases c6 : t176 = true
  ·
   subst c6
   have H1 : (assessorlaw09_ConstraintsOrder.j0 k a0 l1 a2 ((l1.length : Int) == 0)) = some r := by rw [if_pos rfl] at H; exact H
   clear H
   have H := H1
   clear H1
   have H' := Aside0.mk H
   clear H
   go_wp2_with (first | ((with_reducible refine gate_callee (f := 11) rfl ?_); refine goesL_ (some 18) rfl rfl Try.func11 (by kernel_rfl) rfl #[.int .i64 a0, .slice A1 l1.length c1] rfl (by (try simp only [List.map_toArray, List.map_cons, List.map_nil]); first | done | rfl | (simp only [List.length_drop, List.length_take]; rfl)) ?_; (with_reducible refine (assessorlaw09_few.calls a0 _ _ l1 true _ ?side1 ?side2 A5.out).mono ?_); (case side1 => repeat (first | exact (Kd.C_below HR1.out HB.out) | (with_reducible refine Kd.C_alloc ?_ _) | (with_reducible refine Kd.C_drewN ?_ _) | (with_reducible refine Kd.C_drew ?_))); (case side2 => exact HC1.out); rintro e w' ⟨rfl, ⟨nd, rfl⟩⟩; refine ⟨_, rfl, ?_⟩))
   go_meet
   case rel => exact ⟨_, (((l1.length : Int) == 0)), (by first | rfl | (simp; done) | (simp [*]; done)), H', ⟨by first | omega | exact Nat.le_refl _⟩, ⟨by repeat (first | (with_reducible first | exact HB.out | apply below_alloc | apply pw_below_drewN | apply below_drew1) | exact HB.out)⟩⟩
  ·
   replace c6 := Bool.eq_false_iff.mpr c6
   subst c6
   have H1 : (assessorlaw09_ConstraintsOrder.j0 k a0 l1 a2 true) = some r := by rw [if_neg (show ¬ (false = true) by decide)] at H; exact H
   clear H
   have H := H1
   clear H1
   have H' := Aside0.mk H
   clear H
   go_wp2_with (first | ((with_reducible refine gate_callee (f := 11) rfl ?_); refine goesL_ (some 18) rfl rfl Try.func11 (by kernel_rfl) rfl #[.int .i64 a0, .slice A1 l1.length c1] rfl (by (try simp only [List.map_toArray, List.map_cons, List.map_nil]); first | done | rfl | (simp only [List.length_drop, List.length_take]; rfl)) ?_; (with_reducible refine (assessorlaw09_few.calls a0 _ _ l1 false _ ?side1 ?side2 A5.out).mono ?_); (case side1 => repeat (first | exact (Kd.C_below HR1.out HB.out) | (with_reducible refine Kd.C_alloc ?_ _) | (with_reducible refine Kd.C_drewN ?_ _) | (with_reducible refine Kd.C_drew ?_))); (case side2 => exact HC1.out); rintro e w' ⟨rfl, ⟨nd, rfl⟩⟩; refine ⟨_, rfl, ?_⟩))
   go_meet
   case rel => exact ⟨_, (true), (by first | rfl | (simp; done) | (simp [*]; done)), H', ⟨by first | omega | exact Nat.le_refl _⟩, ⟨by repeat (first | (with_reducible first | exact HB.out | apply below_alloc | apply pw_below_drewN | apply below_drew1) | exact HB.out)⟩⟩
 case rest =>
  clear HC4
  try clear c1
  try clear p2
  try clear c6
  obtain ⟨kq, x24_3, rfl, HA, HJ3, HB⟩ := hcut
  cases kq with
  | zero => exact absurd HA.out (by simp [assessorlaw09_ConstraintsOrder.j0])
  | succ kj3 =>
   have H := HA.out
   clear HA
   simp only [assessorlaw09_ConstraintsOrder.j0] at H
   by_cases c7 : x24_3 = true
   ·
    subst c7
    have H1 : ((assessorlaw09_awake.f).bind fun t177 => (some t177)) = some r := by rw [if_pos rfl] at H; exact H
    clear H
    have H := H1
    clear H1
    replace H := Option.bind_eq_some_iff.mp H
    obtain ⟨t177, A80, H⟩ := H
    replace H : (some t177) = some r := H
    have A8 := Aside0.mk A80
    clear A80
    obtain rfl := Option.some.inj H
    go_wp2_with (first | ((with_reducible refine gate_callee (f := 10) rfl ?_); refine goesL_ (some 25) rfl rfl Try.func10 (by kernel_rfl) rfl #[] rfl (by (try simp only [List.map_toArray, List.map_cons, List.map_nil]); first | done | rfl | (simp only [List.length_drop, List.length_take]; rfl)) ?_; (with_reducible refine (assessorlaw09_awake.calls  t177 _ A8.out).mono ?_); rintro e w9 ⟨rfl, hb⟩; refine ⟨_, rfl, ?_⟩; have n0_ := Aside0.mk (below_step (by repeat (first | (with_reducible first | exact HB.out | apply below_alloc | apply pw_below_drewN | apply below_drew1) | exact HB.out)) hb); clear HB; have HB := n0_; clear n0_; (try clear hb); (try clear hb2); (try clear hk); (try clear hi)))
    go_ret
    exact ⟨by first | rfl | (simp [errW_none, errW_some] <;> rfl) | (simp [*, errW_none, errW_some] <;> rfl), by repeat (first | (with_reducible first | exact HB.out | apply below_alloc | apply pw_below_drewN | apply below_drew1) | exact HB.out)⟩
   ·
    replace c7 := Bool.eq_false_iff.mpr c7
    subst c7
    have H1 : (if (l1.length : Int) = 0 then (none) else ((some (([] : List (S36)) : List (S36))).bind fun y178 => (if 0 ≤ (Int.tmod (wrap64 (a2)) (l1.length : Int)) then (if (Int.tmod (wrap64 (a2)) (l1.length : Int)) ≤ (l1.length : Int) then ((some (l1.drop ((Int.tmod (wrap64 (a2)) (l1.length : Int)) : Int).toNat : List (S36))).bind fun y181 => (if y178.length + y181.length < 1954687338268 then ((some (y178 ++ y181 : List (S36))).bind fun y185 => ((some (l1.take ((Int.tmod (wrap64 (a2)) (l1.length : Int)) : Int).toNat : List (S36))).bind fun y188 => (if y185.length + y188.length < 1954687338268 then ((constraints_Solve.f a0 l1).bind fun bt195 => ((constraints_Solve.f a0 (y185 ++ y188)).bind fun bt202 => (if bt195.2.2 = bt202.2.2 then ((assessorref08_Equal.f kj3 bt195.1 bt202.1).bind fun t209 => (if t209 = true then (assessorlaw09_ConstraintsOrder.j1 kj3 bt195.2.1 bt202.2.1 ((bt195.2.1.length : Int) != (bt202.2.1.length : Int))) else (assessorlaw09_ConstraintsOrder.j1 kj3 bt195.2.1 bt202.2.1 true))) else (assessorlaw09_ConstraintsOrder.j1 kj3 bt195.2.1 bt202.2.1 true)))) else (none)))) else (none))) else (none)) else (none)))) = some r := by rw [if_neg (show ¬ (false = true) by decide)] at H; exact H
    clear H
    have H := H1
    clear H1
    by_cases c10 : (l1.length : Int) = 0
    ·
     rw [if_pos c10] at H
     exact absurd H (by simp)
    ·
     rw [if_neg c10] at H
     have c10b0 : ((l1.length : Int) == 0) = false := beq_eq_false_iff_ne.mpr c10
     have c10b1 : ((l1.length : Int) != 0) = true := bne_iff_ne.mpr c10
     have c10b2 : ¬ (l1 = []) := fun h_ => c10 (by rw [h_]; rfl)
     obtain ⟨y178, hy178⟩ : ∃ y_ : List (S36), y_ = (([] : List (S36))) := ⟨_, rfl⟩
     replace H : (if 0 ≤ (Int.tmod (wrap64 (a2)) (l1.length : Int)) then (if (Int.tmod (wrap64 (a2)) (l1.length : Int)) ≤ (l1.length : Int) then ((some (l1.drop ((Int.tmod (wrap64 (a2)) (l1.length : Int)) : Int).toNat : List (S36))).bind fun y181 => (if y178.length + y181.length < 1954687338268 then ((some (y178 ++ y181 : List (S36))).bind fun y185 => ((some (l1.take ((Int.tmod (wrap64 (a2)) (l1.length : Int)) : Int).toNat : List (S36))).bind fun y188 => (if y185.length + y188.length < 1954687338268 then ((constraints_Solve.f a0 l1).bind fun bt195 => ((constraints_Solve.f a0 (y185 ++ y188)).bind fun bt202 => (if bt195.2.2 = bt202.2.2 then ((assessorref08_Equal.f kj3 bt195.1 bt202.1).bind fun t209 => (if t209 = true then (assessorlaw09_ConstraintsOrder.j1 kj3 bt195.2.1 bt202.2.1 ((bt195.2.1.length : Int) != (bt202.2.1.length : Int))) else (assessorlaw09_ConstraintsOrder.j1 kj3 bt195.2.1 bt202.2.1 true))) else (assessorlaw09_ConstraintsOrder.j1 kj3 bt195.2.1 bt202.2.1 true)))) else (none)))) else (none))) else (none)) else (none)) = some r := by first | (rw [hy178]; with_reducible exact H) | (have H2_ := (Option.bind_some _ _).symm.trans H; rw [hy178]; with_reducible exact H2_) | (have H2_ := (Option.bind_some _ _).symm.trans H; with_reducible exact H2_) | with_reducible exact H | (rw [hy178]; exact H) | exact H
     have Ny178 := Aside0.mk hy178
     clear hy178
     obtain ⟨ji11, hji11⟩ : ∃ j_ : Int, (Int.tmod (wrap64 (a2)) (l1.length : Int)) = j_ := ⟨_, rfl⟩
     replace H : (if 0 ≤ (ji11) then (if (ji11) ≤ (l1.length : Int) then ((some (l1.drop ((ji11) : Int).toNat : List (S36))).bind fun y181 => (if y178.length + y181.length < 1954687338268 then ((some (y178 ++ y181 : List (S36))).bind fun y185 => ((some (l1.take ((ji11) : Int).toNat : List (S36))).bind fun y188 => (if y185.length + y188.length < 1954687338268 then ((constraints_Solve.f a0 l1).bind fun bt195 => ((constraints_Solve.f a0 (y185 ++ y188)).bind fun bt202 => (if bt195.2.2 = bt202.2.2 then ((assessorref08_Equal.f kj3 bt195.1 bt202.1).bind fun t209 => (if t209 = true then (assessorlaw09_ConstraintsOrder.j1 kj3 bt195.2.1 bt202.2.1 ((bt195.2.1.length : Int) != (bt202.2.1.length : Int))) else (assessorlaw09_ConstraintsOrder.j1 kj3 bt195.2.1 bt202.2.1 true))) else (assessorlaw09_ConstraintsOrder.j1 kj3 bt195.2.1 bt202.2.1 true)))) else (none)))) else (none))) else (none)) else (none)) = some r := by first | (rw [hji11] at H; exact H) | (simp only [hji11] at H ⊢; exact H)
     by_cases c12 : 0 ≤ (ji11)
     ·
      rw [if_pos c12] at H
      have c12b0 := eq_true c12
      have c12b1 : decide (0 ≤ (ji11)) = true := decide_eq_true c12
      clear c12
      by_cases c13 : (ji11) ≤ (l1.length : Int)
      ·
       rw [if_pos c13] at H
       have c13b0 := eq_true c13
       have c13b1 : decide ((ji11) ≤ (l1.length : Int)) = true := decide_eq_true c13
       clear c13
       obtain ⟨y181, hy181⟩ : ∃ y_ : List (S36), y_ = (l1.drop ((ji11) : Int).toNat) := ⟨_, rfl⟩
       replace H : (if y178.length + y181.length < 1954687338268 then ((some (y178 ++ y181 : List (S36))).bind fun y185 => ((some (l1.take ((ji11) : Int).toNat : List (S36))).bind fun y188 => (if y185.length + y188.length < 1954687338268 then ((constraints_Solve.f a0 l1).bind fun bt195 => ((constraints_Solve.f a0 (y185 ++ y188)).bind fun bt202 => (if bt195.2.2 = bt202.2.2 then ((assessorref08_Equal.f kj3 bt195.1 bt202.1).bind fun t209 => (if t209 = true then (assessorlaw09_ConstraintsOrder.j1 kj3 bt195.2.1 bt202.2.1 ((bt195.2.1.length : Int) != (bt202.2.1.length : Int))) else (assessorlaw09_ConstraintsOrder.j1 kj3 bt195.2.1 bt202.2.1 true))) else (assessorlaw09_ConstraintsOrder.j1 kj3 bt195.2.1 bt202.2.1 true)))) else (none)))) else (none)) = some r := by first | (rw [hy181]; with_reducible exact H) | (have H2_ := (Option.bind_some _ _).symm.trans H; rw [hy181]; with_reducible exact H2_) | (have H2_ := (Option.bind_some _ _).symm.trans H; with_reducible exact H2_) | with_reducible exact H | (rw [hy181]; exact H) | exact H
       have Ny181 := Aside0.mk hy181
       clear hy181
       by_cases c14 : y178.length + y181.length < 1954687338268
       ·
        rw [if_pos c14] at H
        have LMc14 := Aside0.mk c14
        clear c14
        obtain ⟨y185, hy185⟩ : ∃ y_ : List (S36), y_ = (y178 ++ y181) := ⟨_, rfl⟩
        replace H : ((some (l1.take ((ji11) : Int).toNat : List (S36))).bind fun y188 => (if y185.length + y188.length < 1954687338268 then ((constraints_Solve.f a0 l1).bind fun bt195 => ((constraints_Solve.f a0 (y185 ++ y188)).bind fun bt202 => (if bt195.2.2 = bt202.2.2 then ((assessorref08_Equal.f kj3 bt195.1 bt202.1).bind fun t209 => (if t209 = true then (assessorlaw09_ConstraintsOrder.j1 kj3 bt195.2.1 bt202.2.1 ((bt195.2.1.length : Int) != (bt202.2.1.length : Int))) else (assessorlaw09_ConstraintsOrder.j1 kj3 bt195.2.1 bt202.2.1 true))) else (assessorlaw09_ConstraintsOrder.j1 kj3 bt195.2.1 bt202.2.1 true)))) else (none))) = some r := by first | (rw [hy185]; with_reducible exact H) | (have H2_ := (Option.bind_some _ _).symm.trans H; rw [hy185]; with_reducible exact H2_) | (have H2_ := (Option.bind_some _ _).symm.trans H; with_reducible exact H2_) | with_reducible exact H | (rw [hy185]; exact H) | exact H
        have Ny185 := Aside0.mk hy185
        clear hy185
        have c15b0 := eq_true (of_decide_eq_true (by first | (with_reducible assumption) | assumption) : 0 ≤ (ji11))
        have c16b0 := eq_true (of_decide_eq_true (by first | (with_reducible assumption) | assumption) : (ji11) ≤ (l1.length : Int))
        obtain ⟨y188, hy188⟩ : ∃ y_ : List (S36), y_ = (l1.take ((ji11) : Int).toNat) := ⟨_, rfl⟩
        replace H : (if y185.length + y188.length < 1954687338268 then ((constraints_Solve.f a0 l1).bind fun bt195 => ((constraints_Solve.f a0 (y185 ++ y188)).bind fun bt202 => (if bt195.2.2 = bt202.2.2 then ((assessorref08_Equal.f kj3 bt195.1 bt202.1).bind fun t209 => (if t209 = true then (assessorlaw09_ConstraintsOrder.j1 kj3 bt195.2.1 bt202.2.1 ((bt195.2.1.length : Int) != (bt202.2.1.length : Int))) else (assessorlaw09_ConstraintsOrder.j1 kj3 bt195.2.1 bt202.2.1 true))) else (assessorlaw09_ConstraintsOrder.j1 kj3 bt195.2.1 bt202.2.1 true)))) else (none)) = some r := by first | (rw [hy188]; with_reducible exact H) | (have H2_ := (Option.bind_some _ _).symm.trans H; rw [hy188]; with_reducible exact H2_) | (have H2_ := (Option.bind_some _ _).symm.trans H; with_reducible exact H2_) | with_reducible exact H | (rw [hy188]; exact H) | exact H
        have Ny188 := Aside0.mk hy188
        clear hy188
        by_cases c17 : y185.length + y188.length < 1954687338268
        ·
         rw [if_pos c17] at H
         have LMc17 := Aside0.mk c17
         clear c17
         obtain ⟨y192, hy192⟩ : ∃ y_ : List (S36), y_ = (y185 ++ y188) := ⟨_, rfl⟩
         replace H : ((constraints_Solve.f a0 l1).bind fun bt195 => ((constraints_Solve.f a0 y192).bind fun bt202 => (if bt195.2.2 = bt202.2.2 then ((assessorref08_Equal.f kj3 bt195.1 bt202.1).bind fun t209 => (if t209 = true then (assessorlaw09_ConstraintsOrder.j1 kj3 bt195.2.1 bt202.2.1 ((bt195.2.1.length : Int) != (bt202.2.1.length : Int))) else (assessorlaw09_ConstraintsOrder.j1 kj3 bt195.2.1 bt202.2.1 true))) else (assessorlaw09_ConstraintsOrder.j1 kj3 bt195.2.1 bt202.2.1 true)))) = some r := by first | (rw [hy192]; with_reducible exact H) | (have H2_ := (Option.bind_some _ _).symm.trans H; rw [hy192]; with_reducible exact H2_) | (have H2_ := (Option.bind_some _ _).symm.trans H; with_reducible exact H2_) | with_reducible exact H | (rw [hy192]; exact H) | exact H
         have Ny192 := Aside0.mk hy192
         clear hy192
         replace H := Option.bind_eq_some_iff.mp H
         obtain ⟨⟨t195, t196, t197⟩, A180, H⟩ := H
         replace H : ((constraints_Solve.f a0 y192).bind fun bt202 => (if t197 = bt202.2.2 then ((assessorref08_Equal.f kj3 t195 bt202.1).bind fun t209 => (if t209 = true then (assessorlaw09_ConstraintsOrder.j1 kj3 t196 bt202.2.1 ((t196.length : Int) != (bt202.2.1.length : Int))) else (assessorlaw09_ConstraintsOrder.j1 kj3 t196 bt202.2.1 true))) else (assessorlaw09_ConstraintsOrder.j1 kj3 t196 bt202.2.1 true))) = some r := H
         have A18 := Aside0.mk A180
         clear A180
         replace H := Option.bind_eq_some_iff.mp H
         obtain ⟨⟨t202, t203, t204⟩, A190, H⟩ := H
         replace H : (if t197 = t204 then ((assessorref08_Equal.f kj3 t195 t202).bind fun t209 => (if t209 = true then (assessorlaw09_ConstraintsOrder.j1 kj3 t196 t203 ((t196.length : Int) != (t203.length : Int))) else (assessorlaw09_ConstraintsOrder.j1 kj3 t196 t203 true))) else (assessorlaw09_ConstraintsOrder.j1 kj3 t196 t203 true)) = some r := H
         have A19 := Aside0.mk A190
         clear A190
         have HC20 := Aside0.mk H
         clear H
         try go_wp2
         have n0_ := Aside0.mk (below_drew1 HB.out)
         clear HB
         have HB := n0_
         clear n0_
         have q22 : ((ji11) : Int) ≤ ((l1.length : Int) : Int) := of_decide_eq_true (by first | (with_reducible assumption) | assumption)
         obtain ⟨i022, hi022, _, hsz22, _⟩ := info_parts info36
         have hroom22 : l1.length ≤ c1 := HC1.out
         have hC22 : Kd.C k36 _ A1 l1.length l1 := HR1.out
         have q022 : (0 : Int) ≤ ((ji11) : Int) := of_decide_eq_true (by first | (with_reducible assumption) | assumption)
         have hcut22 := cut_from (P := Try.prog) 26 36 .i64 Try.underlying26 hi022 8 hsz22 A1 l1.length c1 (ji11) q022 q22
         have hr22 := Kd.C_drop (m := ((ji11) : Int).toNat) (c := c1) hC22 (by omega) hroom22
         obtain ⟨A22, hA22⟩ : ∃ A_, A_ = (if c1 = ((ji11) : Int).toNat then A1 else (A1 : Option Addr).map (·.add (((ji11) : Int).toNat * 8))) := ⟨_, rfl⟩
         obtain ⟨c22, hc22⟩ : ∃ c_, c_ = c1 - ((ji11) : Int).toNat := ⟨_, rfl⟩
         have hy22 : y181.length = l1.length - ((ji11) : Int).toNat := (by rw [Ny181.out, List.length_drop] <;> omega)
         rw [show (l1).drop ((ji11) : Int).toNat = y181 from Ny181.out.symm] at hr22
         replace hr22 : Kd.C k36 _ A22 y181.length y181 := (by rw [hA22]; exact hr22)
         rw [← hy22, ← hA22, ← hc22] at hcut22
         have HR184 := Aside0.mk hr22
         have HC184 := Aside0.mk (show y181.length ≤ c22 from by rw [hy22, hc22]; exact Nat.sub_le_sub_right hroom22 _)
         clear hr22 hC22 hroom22 hi022 hsz22 hc22
         have KY22 := Aside0.mk hy22
         have KA22 := Aside0.mk hA22
         clear hy22 hA22
         replace q22 := eq_true q22
         have q23 : ((ji11) : Int) ≤ ((l1.length : Int) : Int) := of_decide_eq_true (by first | (with_reducible assumption) | assumption)
         obtain ⟨i023, hi023, _, hsz23, _⟩ := info_parts info36
         have hroom23 : l1.length ≤ c1 := HC1.out
         have hC23 : Kd.C k36 _ A1 l1.length l1 := HR1.out
         have hcut23 := cut_to (P := Try.prog) 26 36 .i64 Try.underlying26 hi023 A1 l1.length c1 (ji11) (of_decide_eq_true (by first | (with_reducible assumption) | assumption)) q23 hroom23
         have hr23 := Kd.C_take (m := ((ji11) : Int).toNat) hC23 (by omega)
         have hy23 : y188.length = ((ji11) : Int).toNat := (by rw [Ny188.out, List.length_take]; omega)
         rw [← Ny188.out] at hr23
         rw [← hy23] at hcut23
         have HR191 := Aside0.mk hr23
         have HC191 := Aside0.mk (show y188.length ≤ c1 from by omega)
         clear hr23 hC23 hroom23 hi023 hsz23
         have KY23 := Aside0.mk hy23
         clear hy23
         replace q23 := eq_true q23
         refine start_ (n := 10) (S := fun w' => True) (ds := []) #[false, false, false, false, false, false, false, false, false, false] (by kernel_rfl) rfl rfl trivial (fun hHeld => ?_); refine with_tabW assessorlaw09_ConstraintsOrder.tab4 assessorlaw09_ConstraintsOrder.bits4 (fun HT_ HW_ => ?_)
         generalize wc.drew = w21 at HB HR184 HR191 hHeld ⊢
         refine pure_ (i := 1) (N := some 32) (v := ?_) (a' := ?_) #[false, true, false, false, false, false, false, false, false, false] rfl rfl (any_of HT_.out (by kernel_rfl)) (fun _ _ _ h => h) (Or.inl ⟨by rfl, ?_⟩) ?_ ?_
         rotate_left; (· intro w'; go_simp; with_reducible rfl)
         rotate_left; (· simp only [Act.put, List.setIfInBounds_toArray, List.set_cons_zero, List.set_cons_succ, i64_w, i32_w]; rfl)
         refine pure_ (i := 2) (N := some 33) (v := ?_) (a' := ?_) #[false, true, true, false, false, false, false, false, false, false] rfl rfl (any_of HT_.out (by kernel_rfl)) (fun _ _ _ h => h) (Or.inl ⟨by rfl, ?_⟩) ?_ ?_
         rotate_left; (· intro w'; go_simp; with_reducible rfl)
         rotate_left; (· simp only [Act.put, List.setIfInBounds_toArray, List.set_cons_zero, List.set_cons_succ, i64_w, i32_w]; rfl)
         refine pure_ (i := 3) (N := some 34) (v := ?_) (a' := ?_) #[false, true, true, true, false, false, false, false, false, false] rfl rfl (any_of HT_.out (by kernel_rfl)) (fun _ _ _ h => h) (Or.inl ⟨by rfl, ?_⟩) ?_ ?_
         rotate_left; (· intro w'; go_simp; with_reducible rfl)
         rotate_left; (· simp only [Act.put, List.setIfInBounds_toArray, List.set_cons_zero, List.set_cons_succ, i64_w, i32_w]; rfl)
         refine pure_ (i := 5) (N := some 36) (v := ?_) (a' := ?_) #[false, true, true, true, false, true, false, false, false, false] rfl rfl (any_of HT_.out (by kernel_rfl)) (fun _ _ _ h => h) (Or.inl ⟨by rfl, ?_⟩) ?_ ?_
         rotate_left; (· intro w'; go_simp; with_reducible rfl)
         rotate_left; (· simp only [Act.put, List.setIfInBounds_toArray, List.set_cons_zero, List.set_cons_succ, i64_w, i32_w]; rfl)
         refine pure_ (i := 6) (N := some 37) (v := ?_) (a' := ?_) #[false, true, true, true, false, true, true, false, false, false] rfl rfl (any_of HT_.out (by kernel_rfl)) (fun _ _ _ h => h) (Or.inl ⟨by rfl, ?_⟩) ?_ ?_
         rotate_left; (· intro w'; go_simp; with_reducible rfl)
         rotate_left; (· simp only [Act.put, List.setIfInBounds_toArray, List.set_cons_zero, List.set_cons_succ, i64_w, i32_w]; rfl)
         refine pure_ (i := 7) (N := some 38) (v := ?_) (a' := ?_) #[false, true, true, true, false, true, true, true, false, false] rfl rfl (any_of HT_.out (by kernel_rfl)) (fun _ _ _ h => h) (Or.inl ⟨by rfl, ?_⟩) ?_ ?_
         rotate_left; (· intro w'; go_simp; with_reducible rfl)
         rotate_left; (· simp only [Act.put, List.setIfInBounds_toArray, List.set_cons_zero, List.set_cons_succ, i64_w, i32_w]; rfl)
         refine one_ (i := 0) (N := some 31) #[true, true, true, true, false, true, true, true, false, false] rfl rfl (one_of HT_.out (by kernel_rfl)) (by decide) (fun K hK => ?_)
         refine Kd.R_lit_step k36 _ 36 ?hg (N := 31) ?hd (xs := ([] : List (S36))) (inner := []) (ok := fun _ => True) (okp := fun _ => True) ?hr ?hp (fun _ hk => hk) trivial (Below.refl _ _) (Nat.le_refl _) (by simp) ?_; (case hd => rfl); (case hg => rfl); (case hr => first | (go_simp; done) | (go_simp; rfl)); (case hp => exact (Reps.none _ _))
         intro v179 w24 ho25 hb hg_ hnew_
         clear hg_ hnew_
         (first | rw [← Ny178.out] at ho25 | (simp only [Int.reduceToNat] at ho25; rw [← Ny178.out] at ho25))
         have n0_ := Aside0.mk (Kd.R_lower ho25 (below_size (by repeat (first | (with_reducible first | exact HB.out | apply below_alloc | apply pw_below_drewN | apply below_drew1) | exact HB.out))))
         have n1_ := Aside0.mk (below_step (by repeat (first | (with_reducible first | exact HB.out | apply below_alloc | apply pw_below_drewN | apply below_drew1) | exact HB.out)) hb)
         clear HB
         have HO180 := n0_
         have HB := n1_
         clear n0_ n1_
         clear hb ho25
         refine hK.out _ _ trivial (fun hHeld => ?_)
         clear hK K
         refine norm_ (a' := ?_) ?_ ?_
         rotate_left; (· show Act.put _ (some 31) _ = _; simp only [Act.put, List.setIfInBounds_toArray, List.set_cons_zero, List.set_cons_succ, i64_w, i32_w]; rfl)
         refine one_ (i := 4) (N := some 35) #[true, true, true, true, true, true, true, true, false, false] rfl rfl (one_of HT_.out (by kernel_rfl)) (by decide) (fun K hK => ?_)
         refine Kd.R_append_rows_step k36 (w0 := w) w.heap.size (by rfl) (.tmp 31) (.tmp 34) 26 36 (.agg #[(.int .i64 0), (.int .i64 0), (.int .i64 0), (.int .i64 0), (.int .i64 0), (.string ⟨#[]⟩), (.int .i64 0), (.int .i64 0)]) 72 rfl Try.underlying26 info36 rfl (by decide) (by omega) v179 y178 y181 _ _ _ (fun _ => True) (fun _ => False) rfl rfl ?aO ?aR (fun _ _ h => h) (fun _ h => h.elim) ?aF ?aB ?aS ?aL ?_
         (case aR => repeat (first | exact (Kd.C_below HR184.out HB.out) | (with_reducible refine Kd.C_alloc ?_ _) | (with_reducible refine Kd.C_drewN ?_ _) | (with_reducible refine Kd.C_drew ?_)))
         (case aB => exact (by repeat (first | (with_reducible first | exact HB.out | apply below_alloc | apply pw_below_drewN | apply below_drew1) | exact HB.out)))
         (case aF => exact (fun _ _ => trivial))
         (case aO => exact (by (with_reducible repeat (first | apply Kd.R_alloc | apply Kd.R_drewN | apply Kd.R_drew)); exact HO180.out))
         (case aS => exact (below_size (by repeat (first | (with_reducible first | exact HB.out | apply below_alloc | apply pw_below_drewN | apply below_drew1) | exact HB.out))))
         (case aL => have := LMc14.out; omega)
         intro v186 w26 ho hb hg hat
         rw [← Ny185.out] at ho
         have n0_ := Aside0.mk (hb)
         have n1_ := Aside0.mk (ho)
         clear HB
         clear HO180
         have HB := n0_
         have HO187 := n1_
         clear n0_ n1_
         clear ho hb hg hat
         refine hK.out _ _ trivial (fun hHeld => ?_)
         clear hK K
         refine norm_ (a' := ?_) ?_ ?_
         rotate_left; (· show Act.put _ (some 35) _ = _; simp only [Act.put, List.setIfInBounds_toArray, List.set_cons_zero, List.set_cons_succ, i64_w, i32_w]; rfl)
         refine one_ (i := 8) (N := some 39) #[true, true, true, true, true, true, true, true, true, false] rfl rfl (one_of HT_.out (by kernel_rfl)) (by decide) (fun K hK => ?_)
         refine Kd.R_append_rows_step k36 (w0 := w) w.heap.size (by rfl) (.tmp 35) (.tmp 38) 26 36 (.agg #[(.int .i64 0), (.int .i64 0), (.int .i64 0), (.int .i64 0), (.int .i64 0), (.string ⟨#[]⟩), (.int .i64 0), (.int .i64 0)]) 72 rfl Try.underlying26 info36 rfl (by decide) (by omega) v186 y185 y188 _ _ _ (fun _ => True) (fun _ => False) rfl rfl ?aO ?aR (fun _ _ h => h) (fun _ h => h.elim) ?aF ?aB ?aS ?aL ?_
         (case aR => repeat (first | exact (Kd.C_below HR191.out HB.out) | (with_reducible refine Kd.C_alloc ?_ _) | (with_reducible refine Kd.C_drewN ?_ _) | (with_reducible refine Kd.C_drew ?_)))
         (case aB => exact (by repeat (first | (with_reducible first | exact HB.out | apply below_alloc | apply pw_below_drewN | apply below_drew1) | exact HB.out)))
         (case aF => exact (fun _ _ => trivial))
         (case aO => exact (by (with_reducible repeat (first | apply Kd.R_alloc | apply Kd.R_drewN | apply Kd.R_drew)); exact HO187.out))
         (case aS => exact (below_size (by repeat (first | (with_reducible first | exact HB.out | apply below_alloc | apply pw_below_drewN | apply below_drew1) | exact HB.out))))
         (case aL => have := LMc17.out; omega)
         intro v193 w27 ho hb hg hat
         rw [← Ny192.out] at ho
         have n0_ := Aside0.mk (hb)
         have n1_ := Aside0.mk (ho)
         clear HB
         clear HO187
         have HB := n0_
         have HO194 := n1_
         clear n0_ n1_
         clear ho hb hg hat
         refine hK.out _ _ trivial (fun hHeld => ?_)
         clear hK K
         refine norm_ (a' := ?_) ?_ ?_
         rotate_left; (· show Act.put _ (some 39) _ = _; simp only [Act.put, List.setIfInBounds_toArray, List.set_cons_zero, List.set_cons_succ, i64_w, i32_w]; rfl)
         refine pure_ (i := 9) (N := some 8) (v := ?_) (a' := ?_) #[true, true, true, true, true, true, true, true, true, true] rfl rfl (any_of HT_.out (by kernel_rfl)) (fun _ _ _ h => h) (Or.inl ⟨by rfl, ?_⟩) ?_ ?_
         rotate_left; (· intro w'; go_simp; with_reducible rfl)
         rotate_left; (· simp only [Act.put, List.setIfInBounds_toArray, List.set_cons_zero, List.set_cons_succ, i64_w, i32_w]; rfl)
         refine done_ (done_of HT_.out (by kernel_rfl)) ?_
         go_upto_region 7 with (first | ((with_reducible refine gate_callee (f := 12) rfl ?_); refine goesL_ (some 43) rfl rfl Try.func12 (by kernel_rfl) rfl #[.int .i64 a0, .slice A1 l1.length c1] rfl (by (try simp only [List.map_toArray, List.map_cons, List.map_nil]); first | done | rfl | (simp only [List.length_drop, List.length_take]; rfl)) ?_; (with_reducible refine (constraints_Solve.calls a0 _ _ l1 t195 t196 t197 _ ?side1 ?side2 A18.out).mono ?_); (case side1 => repeat (first | exact (Kd.C_below HR1.out HB.out) | (with_reducible refine Kd.C_alloc ?_ _) | (with_reducible refine Kd.C_drewN ?_ _) | (with_reducible refine Kd.C_drew ?_))); (case side2 => exact HC1.out); rintro e w28 ⟨v198, v200, rfl, ho0, ho1, hb⟩; refine ⟨_, rfl, ?_⟩; have n0_ := Aside0.mk (Kd.R_below (by (with_reducible repeat (first | apply Kd.R_alloc | apply Kd.R_drewN | apply Kd.R_drew)); exact HO194.out) hb); have n1_ := Aside0.mk (Kd.R_lower ho0 (below_size (by repeat (first | (with_reducible first | exact HB.out | apply below_alloc | apply pw_below_drewN | apply below_drew1) | exact HB.out)))); have n2_ := Aside0.mk (Kd.R_lower ho1 (below_size (by repeat (first | (with_reducible first | exact HB.out | apply below_alloc | apply pw_below_drewN | apply below_drew1) | exact HB.out)))); have n3_ := Aside0.mk (below_step (by repeat (first | (with_reducible first | exact HB.out | apply below_alloc | apply pw_below_drewN | apply below_drew1) | exact HB.out)) hb); clear HO194; clear HB; have HO194 := n0_; have HO199 := n1_; have HO201 := n2_; have HB := n3_; clear n0_ n1_ n2_ n3_; (try clear hb); (try clear hb2); (try clear hk); (try clear hi); (try clear ho0); (try clear ho1); obtain ⟨Ao29, co29, eo29⟩ := Kd.R_slice HO194.out; subst eo29) | ((with_reducible refine gate_callee (f := 12) rfl ?_); refine goesL_ (some 50) rfl rfl Try.func12 (by kernel_rfl) rfl #[.int .i64 a0, .slice Ao29 y192.length co29] rfl (by (try simp only [List.map_toArray, List.map_cons, List.map_nil]); first | done | rfl | (simp only [List.length_drop, List.length_take]; rfl)) ?_; (with_reducible refine (constraints_Solve.calls a0 _ _ y192 t202 t203 t204 _ ?side1 ?side2 A19.out).mono ?_); (case side1 => repeat (first | exact (Kd.R_reads' HO194.out).2.2 | (with_reducible refine Kd.C_alloc ?_ _) | (with_reducible refine Kd.C_drewN ?_ _) | (with_reducible refine Kd.C_drew ?_))); (case side2 => exact (Kd.R_reads' HO194.out).2.1); rintro e w30 ⟨v205, v207, rfl, ho0, ho1, hb⟩; refine ⟨_, rfl, ?_⟩; have n0_ := Aside0.mk (Kd.R_below (by (with_reducible repeat (first | apply Kd.R_alloc | apply Kd.R_drewN | apply Kd.R_drew)); exact HO194.out) hb); have n1_ := Aside0.mk (Kd.R_elder' (by (with_reducible repeat (first | apply Kd.R_alloc | apply Kd.R_drewN | apply Kd.R_drew)); exact HO199.out) (Kd.R_base ho0) hb); have n2_ := Aside0.mk (Kd.R_elder' (by (with_reducible repeat (first | apply Kd.R_alloc | apply Kd.R_drewN | apply Kd.R_drew)); exact HO201.out) (Kd.R_base ho1) hb); have n3_ := Aside0.mk (Kd.R_lower (Kd.R_new' ho0 (Kd.R_lt (by (with_reducible repeat (first | apply Kd.R_alloc | apply Kd.R_drewN | apply Kd.R_drew)); exact HO199.out))) (below_size (by repeat (first | (with_reducible first | exact HB.out | apply below_alloc | apply pw_below_drewN | apply below_drew1) | exact HB.out)))); have n4_ := Aside0.mk (Kd.R_lower (Kd.R_new' ho1 (Kd.R_lt (by (with_reducible repeat (first | apply Kd.R_alloc | apply Kd.R_drewN | apply Kd.R_drew)); exact HO201.out))) (below_size (by repeat (first | (with_reducible first | exact HB.out | apply below_alloc | apply pw_below_drewN | apply below_drew1) | exact HB.out)))); have n5_ := Aside0.mk (below_step (by repeat (first | (with_reducible first | exact HB.out | apply below_alloc | apply pw_below_drewN | apply below_drew1) | exact HB.out)) hb); clear HO194; clear HO199; clear HO201; clear HB; have HO194 := n0_; have HO199 := n1_; have HO201 := n2_; have HO206 := n3_; have HO208 := n4_; have HB := n5_; clear n0_ n1_ n2_ n3_ n4_ n5_; (try clear hb); (try clear hb2); (try clear hk); (try clear hi); (try clear ho0); (try clear ho1)))
         (try simp only [Act.put, List.setIfInBounds_toArray, List.set_cons_zero, List.set_cons_succ])
         go_cut [69] (fun v69 wc => ∃ (kq : Nat) (x69_19 : Bool), v69 = .bool x69_19 ∧ Aside0 (assessorlaw09_ConstraintsOrder.j1 kq t196 t203 x69_19 = some r) ∧ Aside0 (kq ≤ kj3) ∧ Aside0 (Kd.R (Kd.slice 3 (Kd.int .i64)) 33 wc w.heap.size (fun k_ => some k_ ≠ (v207 : Value).ownBlock) v200 t196) ∧ Aside0 (Kd.R (Kd.slice 3 (Kd.int .i64)) 33 wc w.heap.size (fun k_ => some k_ ≠ (v200 : Value).ownBlock) v207 t203) ∧ Aside0 (Below w.heap.size w wc))
         case first =>
          have H := HC20.out
          clear HC20
          by_cases c31 : t197 = t204
          ·
           rw [if_pos c31] at H
           have c31b0 : (t197 == t204) = true := beq_iff_eq.mpr c31
           have c31b1 : (t197 != t204) = false := bne_eq_false_iff_eq.mpr c31
           clear c31
           (first | rw [c31b0] | (simp only [i64_w, i32_w]; rw [c31b0]) | skip)
           replace H := Option.bind_eq_some_iff.mp H
           obtain ⟨t209, A320, H⟩ := H
           replace H : (if t209 = true then (assessorlaw09_ConstraintsOrder.j1 kj3 t196 t203 ((t196.length : Int) != (t203.length : Int))) else (assessorlaw09_ConstraintsOrder.j1 kj3 t196 t203 true)) = some r := H
           have A32 := Aside0.mk A320
           clear A320
           by_cases c33 : t209 = true
           ·
            subst c33
            have H1 : (assessorlaw09_ConstraintsOrder.j1 kj3 t196 t203 ((t196.length : Int) != (t203.length : Int))) = some r := by rw [if_pos rfl] at H; exact H
            clear H
            have H := H1
            clear H1
            have H' := Aside0.mk H
            clear H
            obtain ⟨Ao34, co34, eo34⟩ := Kd.R_slice HO199.out
            subst eo34
            obtain ⟨Ao35, co35, eo35⟩ := Kd.R_slice HO206.out
            subst eo35
            go_wp2_with (first | (go_at_call 16; (with_reducible refine (assessorref08_Equal.calls kj3 _ _ t195 _ _ t202 true _ ?side1 ?side2 ?side3 ?side4 A32.out).mono ?_); (case side1 => repeat (first | exact (Kd.R_reads' HO199.out).2.2 | (with_reducible refine Kd.C_alloc ?_ _) | (with_reducible refine Kd.C_drewN ?_ _) | (with_reducible refine Kd.C_drew ?_))); (case side2 => exact (Kd.R_reads' HO199.out).2.1); (case side3 => repeat (first | exact (Kd.R_reads' HO206.out).2.2 | (with_reducible refine Kd.C_alloc ?_ _) | (with_reducible refine Kd.C_drewN ?_ _) | (with_reducible refine Kd.C_drew ?_))); (case side4 => exact (Kd.R_reads' HO206.out).2.1); rintro e w' ⟨rfl, ⟨nd, rfl⟩⟩; obtain ⟨Ao36, co36, eo36⟩ := Kd.R_slice HO201.out; subst eo36; obtain ⟨Ao37, co37, eo37⟩ := Kd.R_slice HO208.out; subst eo37))
            go_meet
            case rel => exact ⟨_, (((t196.length : Int) != (t203.length : Int))), (by first | rfl | (simp; done) | (simp [*]; done)), H', ⟨by have := HJ3.out; first | omega | exact Nat.le_refl _⟩, ⟨by (with_reducible repeat (first | apply Kd.R_alloc | apply Kd.R_drewN | apply Kd.R_drew)); exact Kd.R_mono HO201.out (fun _ hk => hk.2)⟩, ⟨by (with_reducible repeat (first | apply Kd.R_alloc | apply Kd.R_drewN | apply Kd.R_drew)); exact Kd.R_mono HO208.out (fun _ hk => hk.2)⟩, ⟨by repeat (first | (with_reducible first | exact HB.out | apply below_alloc | apply pw_below_drewN | apply below_drew1) | exact HB.out)⟩⟩
           ·
            replace c33 := Bool.eq_false_iff.mpr c33
            subst c33
            have H1 : (assessorlaw09_ConstraintsOrder.j1 kj3 t196 t203 true) = some r := by rw [if_neg (show ¬ (false = true) by decide)] at H; exact H
            clear H
            have H := H1
            clear H1
            have H' := Aside0.mk H
            clear H
            obtain ⟨Ao38, co38, eo38⟩ := Kd.R_slice HO199.out
            subst eo38
            obtain ⟨Ao39, co39, eo39⟩ := Kd.R_slice HO206.out
            subst eo39
            go_wp2_with (first | (go_at_call 16; (with_reducible refine (assessorref08_Equal.calls kj3 _ _ t195 _ _ t202 false _ ?side1 ?side2 ?side3 ?side4 A32.out).mono ?_); (case side1 => repeat (first | exact (Kd.R_reads' HO199.out).2.2 | (with_reducible refine Kd.C_alloc ?_ _) | (with_reducible refine Kd.C_drewN ?_ _) | (with_reducible refine Kd.C_drew ?_))); (case side2 => exact (Kd.R_reads' HO199.out).2.1); (case side3 => repeat (first | exact (Kd.R_reads' HO206.out).2.2 | (with_reducible refine Kd.C_alloc ?_ _) | (with_reducible refine Kd.C_drewN ?_ _) | (with_reducible refine Kd.C_drew ?_))); (case side4 => exact (Kd.R_reads' HO206.out).2.1); rintro e w' ⟨rfl, ⟨nd, rfl⟩⟩))
            go_meet
            case rel => exact ⟨_, (true), (by first | rfl | (simp; done) | (simp [*]; done)), H', ⟨by have := HJ3.out; first | omega | exact Nat.le_refl _⟩, ⟨by (with_reducible repeat (first | apply Kd.R_alloc | apply Kd.R_drewN | apply Kd.R_drew)); exact Kd.R_mono HO201.out (fun _ hk => hk.2)⟩, ⟨by (with_reducible repeat (first | apply Kd.R_alloc | apply Kd.R_drewN | apply Kd.R_drew)); exact Kd.R_mono HO208.out (fun _ hk => hk.2)⟩, ⟨by repeat (first | (with_reducible first | exact HB.out | apply below_alloc | apply pw_below_drewN | apply below_drew1) | exact HB.out)⟩⟩
          ·
           rw [if_neg c31] at H
           have c31b0 : (t197 == t204) = false := beq_eq_false_iff_ne.mpr c31
           have c31b1 : (t197 != t204) = true := bne_iff_ne.mpr c31
           (first | rw [c31b0] | (simp only [i64_w, i32_w]; rw [c31b0]) | skip)
           have H' := Aside0.mk H
           clear H
           go_wp2
           go_meet
           case rel => exact ⟨_, (true), (by first | rfl | (simp; done) | (simp [*]; done)), H', ⟨by have := HJ3.out; first | omega | exact Nat.le_refl _⟩, ⟨by (with_reducible repeat (first | apply Kd.R_alloc | apply Kd.R_drewN | apply Kd.R_drew)); exact Kd.R_mono HO201.out (fun _ hk => hk.2)⟩, ⟨by (with_reducible repeat (first | apply Kd.R_alloc | apply Kd.R_drewN | apply Kd.R_drew)); exact Kd.R_mono HO208.out (fun _ hk => hk.2)⟩, ⟨by repeat (first | (with_reducible first | exact HB.out | apply below_alloc | apply pw_below_drewN | apply below_drew1) | exact HB.out)⟩⟩
         case rest =>
          clear HC20
          try clear c1
          try clear c2
          try clear p2
          try clear q2
          try clear c3
          try clear c6
          try clear p6
          try clear c7
          try clear c10
          try clear c10b0
          try clear c10b1
          try clear c10b2
          try clear c11
          try clear c12
          try clear c12b0
          try clear c12b1
          try clear c13
          try clear c13b0
          try clear c13b1
          try clear c14
          try clear c15
          try clear c15b0
          try clear c16
          try clear c16b0
          try clear c17
          try clear c22
          try clear q22
          try clear q23
          try clear c31
          try clear c31b0
          try clear c31b1
          try clear c33
          try clear p2
          try clear q022
          try clear q22
          try clear q23
          obtain ⟨kq, x69_19, rfl, HA, HJ19, HO_10, HO_13, HB⟩ := hcut
          cases kq with
          | zero => exact absurd HA.out (by simp [assessorlaw09_ConstraintsOrder.j1])
          | succ kj19 =>
           have H := HA.out
           clear HA
           simp only [assessorlaw09_ConstraintsOrder.j1] at H
           by_cases c40 : x69_19 = true
           ·
            subst c40
            have H1 : (some false) = some r := by rw [if_pos rfl] at H; exact H
            clear H
            have H := H1
            clear H1
            obtain rfl := Option.some.inj H
            exact absurd HTru_.out (by decide)
           ·
            replace c40 := Bool.eq_false_iff.mpr c40
            subst c40
            have H1 : (assessorlaw09_ConstraintsOrder.l0 kj19 t196 t203 (t196.length : Int) 0) = some r := by rw [if_neg (show ¬ (false = true) by decide)] at H; exact H
            clear H
            have H := H1
            clear H1
            have H' := Aside0.mk H
            clear H
            obtain ⟨Ao41, co41, eo41⟩ := Kd.R_slice HO_10.out
            subst eo41
            go_wp2
            go_loopg [72] kj19 (fun kq v72 w' => ∃ (x72_3 : Int), v72 = .int .i64 x72_3 ∧ Aside0 (assessorlaw09_ConstraintsOrder.l0 kq t196 t203 (t196.length : Int) x72_3 = some r) ∧ Aside0 (kq ≤ kj19) ∧ Aside0 (Kd.R (Kd.slice 3 (Kd.int .i64)) 33 w' w.heap.size (fun k_ => some k_ ≠ (v207 : Value).ownBlock) (.slice Ao41 t196.length co41) t196) ∧ Aside0 (Kd.R (Kd.slice 3 (Kd.int .i64)) 33 w' w.heap.size (fun k_ => some k_ ≠ ((.slice Ao41 t196.length co41) : Value).ownBlock) v207 t203) ∧ Aside0 (Below w.heap.size w w'))
            case atStart => exact ⟨(0), (by first | rfl | (simp; done) | (simp [*]; done)), H', ⟨Nat.le_refl _⟩, ⟨by (with_reducible repeat (first | apply Kd.R_alloc | apply Kd.R_drewN | apply Kd.R_drew)); exact HO_10.out⟩, ⟨by (with_reducible repeat (first | apply Kd.R_alloc | apply Kd.R_drewN | apply Kd.R_drew)); exact HO_13.out⟩, ⟨by repeat (first | (with_reducible first | exact HB.out | apply below_alloc | apply pw_below_drewN | apply below_drew1) | exact HB.out)⟩⟩
            case round =>
             clear H'
             try clear c1
             try clear c2
             try clear p2
             try clear q2
             try clear c3
             try clear c4
             try clear c6
             try clear p6
             try clear c7
             try clear c10
             try clear c10b0
             try clear c10b1
             try clear c10b2
             try clear c11
             try clear c12
             try clear c12b0
             try clear c12b1
             try clear c13
             try clear c13b0
             try clear c13b1
             try clear c14
             try clear c15
             try clear c15b0
             try clear c16
             try clear c16b0
             try clear c17
             try clear c22
             try clear q22
             try clear q23
             try clear c31
             try clear c31b0
             try clear c31b1
             try clear c33
             try clear c40
             try clear p2
             try clear p6
             try clear q022
             try clear q2
             try clear q22
             try clear q23
             obtain ⟨x72_3, rfl, HA, HK3, HO_10, HO_13, HB⟩ := hrel
             cases gk with
             | zero => exact absurd HA.out (by simp [assessorlaw09_ConstraintsOrder.l0])
             | succ k3 =>
              have H := HA.out
              clear HA
              simp only [assessorlaw09_ConstraintsOrder.l0] at H
              by_cases c42 : x72_3 < (t196.length : Int)
              ·
               rw [if_pos c42] at H
               have c42b0 : decide (x72_3 < (t196.length : Int)) = true := decide_eq_true c42
               clear c42
               by_cases c43 : 0 ≤ x72_3
               ·
                rw [if_pos c43] at H
                have c43b0 : decide (0 ≤ x72_3) = true := decide_eq_true c43
                clear c43
                by_cases c44 : x72_3 < (t196.length : Int)
                ·
                 rw [if_pos c44] at H
                 have c44b0 : decide (x72_3 < (t196.length : Int)) = true := decide_eq_true c44
                 clear c44
                 by_cases c45 : x72_3 < (t203.length : Int)
                 ·
                  rw [if_pos c45] at H
                  have c45b0 : decide (x72_3 < (t203.length : Int)) = true := decide_eq_true c45
                  clear c45
                  by_cases c46 : ((rd_L7 t196 x72_3).length : Int) = ((rd_L7 t203 x72_3).length : Int)
                  ·
                   rw [if_pos c46] at H
                   have c46b0 : (((rd_L7 t196 x72_3).length : Int) == ((rd_L7 t203 x72_3).length : Int)) = true := beq_iff_eq.mpr c46
                   have c46b1 : (((rd_L7 t196 x72_3).length : Int) != ((rd_L7 t203 x72_3).length : Int)) = false := bne_eq_false_iff_eq.mpr c46
                   have c46b2 : ((rd_L7 t196 x72_3).length == (rd_L7 t203 x72_3).length) = true := by first | simpa using c46 | (simp at c46 ⊢; omega)
                   clear c46
                   have H' := Aside0.mk H
                   clear H
                   try go_wp2
                   have n0_ := Aside0.mk (Kd.R_drew HO_10.out)
                   have n1_ := Aside0.mk (Kd.R_drew HO_13.out)
                   have n2_ := Aside0.mk (below_drew1 HB.out)
                   clear HO_10
                   clear HO_13
                   clear HB
                   have HO_10 := n0_
                   have HO_13 := n1_
                   have HB := n2_
                   clear n0_ n1_ n2_
                   have p210 : 0 ≤ (x72_3 : Int) := of_decide_eq_true (by first | (with_reducible assumption) | assumption)
                   have q210 : x72_3 < (t196.length : Int) := of_decide_eq_true (by first | (with_reducible assumption) | assumption)
                   obtain ⟨ad210, A210_0, c210_0, e210, hx210_0, hl210_0, hi210_0⟩ := at_L7 (Kd.R_reads' HO_10.out).2.2 x72_3 p210 q210
                   cases e210
                   obtain ⟨ce210, hce210, hMe210, hcc210⟩ := Kd.R_get HO_10.out [] x72_3 p210 (by first | exact q210 | exact of_decide_eq_true (by first | (with_reducible assumption) | assumption) | (have e_ := (Kd.R_reads' HO_10.out).1; omega))
                   obtain ⟨ve210_0, rfl, ge210_0⟩ := hMe210
                   have hv210_0 := hcc210 0 _ rfl
                   rw [Nat.add_zero, show ((Kd.slice 3 (Kd.int .i64))).sz = 1 from rfl, Nat.mul_one] at hv210_0
                   replace hv210_0 := Option.some.inj (hv210_0.symm.trans hx210_0)
                   rw [hv210_0] at ge210_0
                   have HL210_0 := Aside0.mk (show Kd.R (Kd.int .i64) 3 _ _ _ _ (rd_L7 t196 x72_3) from ge210_0)
                   clear hv210_0 ge210_0
                   clear hcc210 hce210
                   have HR210_0 := Aside0.mk hi210_0
                   have HC210_0 := Aside0.mk hl210_0
                   clear hi210_0 hl210_0
                   replace p210 := eq_true p210
                   replace q210 := eq_true q210
                   obtain ⟨Ao48, co48, eo48⟩ := Kd.R_slice HO_13.out
                   (first | subst eo48 | (injection eo48 with f1_ f2_ f3_; have f4_ := f1_.symm; have f5_ := f3_.symm; clear f1_ f2_ f3_; subst f4_; subst f5_))
                   have p211 : 0 ≤ (x72_3 : Int) := of_decide_eq_true (by first | (with_reducible assumption) | assumption)
                   have q211 : x72_3 < (t203.length : Int) := of_decide_eq_true (by first | (with_reducible assumption) | assumption)
                   obtain ⟨ad211, A211_0, c211_0, e211, hx211_0, hl211_0, hi211_0⟩ := at_L7 (Kd.R_reads' HO_13.out).2.2 x72_3 p211 q211
                   cases e211
                   obtain ⟨ce211, hce211, hMe211, hcc211⟩ := Kd.R_get HO_13.out [] x72_3 p211 (by first | exact q211 | exact of_decide_eq_true (by first | (with_reducible assumption) | assumption) | (have e_ := (Kd.R_reads' HO_13.out).1; omega))
                   obtain ⟨ve211_0, rfl, ge211_0⟩ := hMe211
                   have hv211_0 := hcc211 0 _ rfl
                   rw [Nat.add_zero, show ((Kd.slice 3 (Kd.int .i64))).sz = 1 from rfl, Nat.mul_one] at hv211_0
                   replace hv211_0 := Option.some.inj (hv211_0.symm.trans hx211_0)
                   rw [hv211_0] at ge211_0
                   have HL211_0 := Aside0.mk (show Kd.R (Kd.int .i64) 3 _ _ _ _ (rd_L7 t203 x72_3) from ge211_0)
                   clear hv211_0 ge211_0
                   clear hcc211 hce211
                   have HR211_0 := Aside0.mk hi211_0
                   have HC211_0 := Aside0.mk hl211_0
                   clear hi211_0 hl211_0
                   replace p211 := eq_true p211
                   replace q211 := eq_true q211
                   refine start_ (n := 11) (S := fun w' => w'.cell? (ad210.add (x72_3).toNat) = some (.slice A210_0 (rd_L7 t196 x72_3).length c210_0) ∧ w'.cell? (ad211.add (x72_3).toNat) = some (.slice A211_0 (rd_L7 t203 x72_3).length c211_0)) (ds := []) #[false, false, false, false, false, false, false, false, false, false, false] (by kernel_rfl) rfl rfl ⟨hx210_0, hx211_0⟩ (fun hHeld => ?_); refine with_tabW assessorlaw09_ConstraintsOrder.tab12 assessorlaw09_ConstraintsOrder.bits12 (fun HT_ HW_ => ?_)
                   generalize wr.drew = w47 at HO_10 HO_13 HB HL210_0 HL211_0 HR210_0 HR211_0 hx210_0 hx211_0 hHeld ⊢
                   refine pure_ (i := 0) (N := some 75) (v := ?_) (a' := ?_) #[true, false, false, false, false, false, false, false, false, false, false] rfl rfl (any_of HT_.out (by kernel_rfl)) (fun _ _ _ h => h) (Or.inl ⟨by rfl, ?_⟩) ?_ ?_
                   rotate_left; (· intro w'; go_simp; with_reducible rfl)
                   rotate_left; (· simp only [Act.put, List.setIfInBounds_toArray, List.set_cons_zero, List.set_cons_succ, i64_w, i32_w]; rfl)
                   refine pure_ (i := 1) (N := some 76) (v := ?_) (a' := ?_) #[true, true, false, false, false, false, false, false, false, false, false] rfl rfl (any_of HT_.out (by kernel_rfl)) (fun _ _ _ h => h) (Or.inl ⟨by rfl, ?_⟩) ?_ ?_
                   rotate_left; (· intro w'; go_simp; with_reducible rfl)
                   rotate_left; (· simp only [Act.put, List.setIfInBounds_toArray, List.set_cons_zero, List.set_cons_succ, i64_w, i32_w]; rfl)
                   refine pure_ (i := 2) (N := some 77) (v := ?_) (a' := ?_) #[true, true, true, false, false, false, false, false, false, false, false] rfl rfl (any_of HT_.out (by kernel_rfl)) (fun _ _ _ h => h) (Or.inl ⟨by rfl, ?_⟩) ?_ ?_
                   rotate_left; (· intro w'; go_simp; with_reducible rfl)
                   rotate_left; (· simp only [Act.put, List.setIfInBounds_toArray, List.set_cons_zero, List.set_cons_succ, i64_w, i32_w]; rfl)
                   refine pure_ (i := 5) (N := some 80) (v := ?_) (a' := ?_) #[true, true, true, false, false, true, false, false, false, false, false] rfl rfl (any_of HT_.out (by kernel_rfl)) (fun _ _ _ h => h) (Or.inl ⟨by rfl, ?_⟩) ?_ ?_
                   rotate_left; (· intro w'; go_simp; with_reducible rfl)
                   rotate_left; (· simp only [Act.put, List.setIfInBounds_toArray, List.set_cons_zero, List.set_cons_succ, i64_w, i32_w]; rfl)
                   refine pure_ (i := 6) (N := some 81) (v := ?_) (a' := ?_) #[true, true, true, false, false, true, true, false, false, false, false] rfl rfl (any_of HT_.out (by kernel_rfl)) (fun _ _ _ h => h) (Or.inl ⟨by rfl, ?_⟩) ?_ ?_
                   rotate_left; (· intro w'; go_simp; with_reducible rfl)
                   rotate_left; (· simp only [Act.put, List.setIfInBounds_toArray, List.set_cons_zero, List.set_cons_succ, i64_w, i32_w]; rfl)
                   refine pure_ (i := 7) (N := some 82) (v := ?_) (a' := ?_) #[true, true, true, false, false, true, true, true, false, false, false] rfl rfl (any_of HT_.out (by kernel_rfl)) (fun _ _ _ h => h) (Or.inl ⟨by rfl, ?_⟩) ?_ ?_
                   rotate_left; (· intro w'; go_simp; with_reducible rfl)
                   rotate_left; (· simp only [Act.put, List.setIfInBounds_toArray, List.set_cons_zero, List.set_cons_succ, i64_w, i32_w]; rfl)
                   refine take_ (i := 3) (N := some 78) (v := ?_) (a' := ?_) #[true, true, true, true, false, true, true, true, false, false, false] rfl rfl (take_ofW HT_.out HW_.out (by kernel_rfl)) (fun _ _ _ h => h) (Or.inl ⟨by rfl, ?_⟩) hHeld ?_ ?_
                   rotate_left; (· rintro w' ⟨s0, s1⟩; go_simp; with_reducible rfl)
                   rotate_left; (· simp only [Act.put, List.setIfInBounds_toArray, List.set_cons_zero, List.set_cons_succ, i64_w, i32_w]; rfl)
                   refine pure_ (i := 4) (N := some 79) (v := ?_) (a' := ?_) #[true, true, true, true, true, true, true, true, false, false, false] rfl rfl (any_of HT_.out (by kernel_rfl)) (fun _ _ _ h => h) (Or.inl ⟨by rfl, ?_⟩) ?_ ?_
                   rotate_left; (· intro w'; go_simp; with_reducible rfl)
                   rotate_left; (· simp only [Act.put, List.setIfInBounds_toArray, List.set_cons_zero, List.set_cons_succ, i64_w, i32_w]; rfl)
                   refine take_ (i := 8) (N := some 83) (v := ?_) (a' := ?_) #[true, true, true, true, true, true, true, true, true, false, false] rfl rfl (take_ofW HT_.out HW_.out (by kernel_rfl)) (fun _ _ _ h => h) (Or.inl ⟨by rfl, ?_⟩) hHeld ?_ ?_
                   rotate_left; (· rintro w' ⟨s0, s1⟩; go_simp; with_reducible rfl)
                   rotate_left; (· simp only [Act.put, List.setIfInBounds_toArray, List.set_cons_zero, List.set_cons_succ, i64_w, i32_w]; rfl)
                   refine pure_ (i := 9) (N := some 84) (v := ?_) (a' := ?_) #[true, true, true, true, true, true, true, true, true, true, false] rfl rfl (any_of HT_.out (by kernel_rfl)) (fun _ _ _ h => h) (Or.inl ⟨by rfl, ?_⟩) ?_ ?_
                   rotate_left; (· intro w'; go_simp; with_reducible rfl)
                   rotate_left; (· simp only [Act.put, List.setIfInBounds_toArray, List.set_cons_zero, List.set_cons_succ, i64_w, i32_w]; rfl)
                   refine pure_ (i := 10) (N := some 85) (v := ?_) (a' := ?_) #[true, true, true, true, true, true, true, true, true, true, true] rfl rfl (any_of HT_.out (by kernel_rfl)) (fun _ _ _ h => h) (Or.inl ⟨by rfl, ?_⟩) ?_ ?_
                   rotate_left; (· intro w'; go_simp; with_reducible rfl)
                   rotate_left; (· simp only [Act.put, List.setIfInBounds_toArray, List.set_cons_zero, List.set_cons_succ, i64_w, i32_w]; rfl)
                   refine done_ (done_of HT_.out (by kernel_rfl)) ?_
                   try go_wp2
                   go_roundg k3
                   case measure => have := HJ3.out; have := HJ19.out; have := HK3.out; omega
                   case rel => exact ⟨(wrap64 (x72_3 + 1)), (by first | rfl | (simp; done) | (simp [*]; done)), H', ⟨by have := HJ3.out; have := HJ19.out; have := HK3.out; omega⟩, ⟨by (with_reducible repeat (first | apply Kd.R_alloc | apply Kd.R_drewN | apply Kd.R_drew)); exact HO_10.out⟩, ⟨by (with_reducible repeat (first | apply Kd.R_alloc | apply Kd.R_drewN | apply Kd.R_drew)); exact HO_13.out⟩, ⟨by repeat (first | (with_reducible first | exact HB.out | apply below_alloc | apply pw_below_drewN | apply below_drew1) | exact HB.out)⟩⟩
                  ·
                   rw [if_neg c46] at H
                   have c46b0 : (((rd_L7 t196 x72_3).length : Int) == ((rd_L7 t203 x72_3).length : Int)) = false := beq_eq_false_iff_ne.mpr c46
                   have c46b1 : (((rd_L7 t196 x72_3).length : Int) != ((rd_L7 t203 x72_3).length : Int)) = true := bne_iff_ne.mpr c46
                   have c46b2 : ((rd_L7 t196 x72_3).length == (rd_L7 t203 x72_3).length) = false := by first | simpa using c46 | (simp at c46 ⊢; omega)
                   obtain rfl := Option.some.inj H
                   exact absurd HTru_.out (by decide)
                 ·
                  rw [if_neg c45] at H
                  exact absurd H (by simp)
                ·
                 rw [if_neg c44] at H
                 exact absurd H (by simp)
               ·
                rw [if_neg c43] at H
                exact absurd H (by simp)
              ·
               rw [if_neg c42] at H
               have c42b0 : decide (x72_3 < (t196.length : Int)) = false := decide_eq_false c42
               clear c42
               replace H := Option.bind_eq_some_iff.mp H
               obtain ⟨t212, A490, H⟩ := H
               replace H : (some t212) = some r := H
               have A49 := Aside0.mk A490
               clear A490
               obtain rfl := Option.some.inj H
               go_wp2_with (first | ((with_reducible refine gate_callee (f := 10) rfl ?_); refine goesL_ (some 87) rfl rfl Try.func10 (by kernel_rfl) rfl #[] rfl (by (try simp only [List.map_toArray, List.map_cons, List.map_nil]); first | done | rfl | (simp only [List.length_drop, List.length_take]; rfl)) ?_; (with_reducible refine (assessorlaw09_awake.calls  t212 _ A49.out).mono ?_); rintro e w50 ⟨rfl, hb⟩; refine ⟨_, rfl, ?_⟩; have n0_ := Aside0.mk (Kd.R_below (by (with_reducible repeat (first | apply Kd.R_alloc | apply Kd.R_drewN | apply Kd.R_drew)); exact HO_10.out) hb); have n1_ := Aside0.mk (Kd.R_below (by (with_reducible repeat (first | apply Kd.R_alloc | apply Kd.R_drewN | apply Kd.R_drew)); exact HO_13.out) hb); have n2_ := Aside0.mk (below_step (by repeat (first | (with_reducible first | exact HB.out | apply below_alloc | apply pw_below_drewN | apply below_drew1) | exact HB.out)) hb); clear HO_10; clear HO_13; clear HB; have HO_10 := n0_; have HO_13 := n1_; have HB := n2_; clear n0_ n1_ n2_; (try clear hb); (try clear hb2); (try clear hk); (try clear hi)))
               go_ret
               exact ⟨by first | rfl | (simp [errW_none, errW_some] <;> rfl) | (simp only [← hji11]; first | rfl | (simp [errW_none, errW_some] <;> rfl)) | (simp [*, errW_none, errW_some] <;> rfl), by repeat (first | (with_reducible first | exact HB.out | apply below_alloc | apply pw_below_drewN | apply below_drew1) | exact HB.out)⟩
        ·
         rw [if_neg c17] at H
         exact absurd H (by simp)
       ·
        rw [if_neg c14] at H
        exact absurd H (by simp)
      ·
       rw [if_neg c13] at H
       exact absurd H (by simp)
     ·
      rw [if_neg c12] at H
      exact absurd H (by simp)

end Go.Proofs.Ytjbafigageingaa.PL
