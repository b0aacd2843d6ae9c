import Derived.Test.YtjbafigageingaaKcPRx3
import Derived.Test.YtjbafigageingaaKcNeB
import Derived.Test.YtjbafigageingaaProg
import Derived.Test.YtjbafigageingaaKcW
import Derived.Below
import Derived.Deep.Draws
import Derived.Deep.AppendLies
import Derived.Maps.AppendAt
import Derived.OwnWalk
import Derived.Laws.BytesArg
import Derived.Laws.MakeOwn
import Derived.Laws.OwnMore
import Derived.Deep.OwnRows
import Derived.Tactics
import Derived.Lib.ConvBytes
import Derived.Laws.Slices
import Derived.WalkKit
import Derived.KernelRfl
import Derived.RowKit3
import Derived.Deep.LoopGhost
import Derived.Deep.QuietTactic
import Derived.BigQuiet
import Derived.WideLaws
import Derived.Deep.DeepCutAuto
import Derived.Deep.CutBlock
import Derived.Deep.RegionHeld3
import Derived.Laws.Rows
import Derived.Lib.AppendStr
import Derived.ArgAppend
import Derived.Laws.IdiomCopy
import Derived.OrdersHeld
import Derived.Laws.BitsLemmas
import Derived.RowKit
namespace Go.Proofs.Ytjbafigageingaa.PN
open Go.Proofs.Ytjbafigageingaa.PR
open Go.RowKit Go.Proofs.YtjbafigageingaaW.PrintWords Go.Proofs.YtjbafigageingaaW.PrintLast Go.Proofs.YtjbafigageingaaW.PrintMore
attribute [local go_sem] max2_int min2_int max_two min_two max_three min_three max_four min_four
set_option linter.unusedVariables false
set_option linter.unusedSimpArgs false

mutual
def assessorlaw09_isChain.j0 : Nat → List (S36) → List Int → Bool → Option (Bool)
 | 0, _, _, _ => none
 | k + 1, x0, x1, x27 => if x27 = true then (some false) else (assessorlaw09_isChain.l0 k x0 x1 x1 (x1.length : Int) 0)
def assessorlaw09_isChain.l0 : Nat → List (S36) → List Int → List Int → Int → Int → Option (Bool)
 | 0, _, _, _, _, _ => none
 | k + 1, x0, x1, x28, x29, x30 => if x30 < x29 then (if 0 ≤ x30 then (if x30 < (x28.length : Int) then (if (rd x28 x30) < 0 then (some false) else (if (rd x28 x30) ≥ (x0.length : Int) then (some false) else (assessorlaw09_isChain.l0 k x0 x1 x28 x29 (wrap64 (x30 + 1))))) else (none)) else (none)) else (if 0 < (x1.length : Int) then (if 0 ≤ (rd x1 0) then (if (rd x1 0) < (x0.length : Int) then (if 0 ≤ (wrap64 ((x1.length : Int) - 1)) then (if (wrap64 ((x1.length : Int) - 1)) < (x1.length : Int) then (if 0 ≤ (rd x1 (wrap64 ((x1.length : Int) - 1))) then (if (rd x1 (wrap64 ((x1.length : Int) - 1))) < (x0.length : Int) then (if ((rd_T36 x0 (rd x1 0)).f0) = 0 then (if ((rd_T36 x0 (rd x1 (wrap64 ((x1.length : Int) - 1)))).f0) = 0 then ((assessorref09_Exclude.f k ((rd_T36 x0 (rd x1 0)).f3.f0) ((rd_T36 x0 (rd x1 0)).f3.f1) ((rd_T36 x0 (rd x1 0)).f3.f2) ((rd_T36 x0 (rd x1 (wrap64 ((x1.length : Int) - 1)))).f3.f0) ((rd_T36 x0 (rd x1 (wrap64 ((x1.length : Int) - 1)))).f3.f1) ((rd_T36 x0 (rd x1 (wrap64 ((x1.length : Int) - 1)))).f3.f2)).bind fun t119 => (assessorlaw09_isChain.j2 k x0 x1 (!t119) ((rd_T36 x0 (rd x1 0)).f0) ((rd_T36 x0 (rd x1 0)).f1) ((rd_T36 x0 (rd x1 0)).f2) ((rd_T36 x0 (rd x1 0)).f3.f0) ((rd_T36 x0 (rd x1 0)).f3.f1) ((rd_T36 x0 (rd x1 0)).f3.f2) ((rd_T36 x0 (rd x1 0)).f4) ((rd_T36 x0 (rd x1 0)).f5) ((rd_T36 x0 (rd x1 (wrap64 ((x1.length : Int) - 1)))).f0) ((rd_T36 x0 (rd x1 (wrap64 ((x1.length : Int) - 1)))).f1) ((rd_T36 x0 (rd x1 (wrap64 ((x1.length : Int) - 1)))).f2) ((rd_T36 x0 (rd x1 (wrap64 ((x1.length : Int) - 1)))).f3.f0) ((rd_T36 x0 (rd x1 (wrap64 ((x1.length : Int) - 1)))).f3.f1) ((rd_T36 x0 (rd x1 (wrap64 ((x1.length : Int) - 1)))).f3.f2) ((rd_T36 x0 (rd x1 (wrap64 ((x1.length : Int) - 1)))).f4) ((rd_T36 x0 (rd x1 (wrap64 ((x1.length : Int) - 1)))).f5))) else (assessorlaw09_isChain.j2 k x0 x1 true ((rd_T36 x0 (rd x1 0)).f0) ((rd_T36 x0 (rd x1 0)).f1) ((rd_T36 x0 (rd x1 0)).f2) ((rd_T36 x0 (rd x1 0)).f3.f0) ((rd_T36 x0 (rd x1 0)).f3.f1) ((rd_T36 x0 (rd x1 0)).f3.f2) ((rd_T36 x0 (rd x1 0)).f4) ((rd_T36 x0 (rd x1 0)).f5) ((rd_T36 x0 (rd x1 (wrap64 ((x1.length : Int) - 1)))).f0) ((rd_T36 x0 (rd x1 (wrap64 ((x1.length : Int) - 1)))).f1) ((rd_T36 x0 (rd x1 (wrap64 ((x1.length : Int) - 1)))).f2) ((rd_T36 x0 (rd x1 (wrap64 ((x1.length : Int) - 1)))).f3.f0) ((rd_T36 x0 (rd x1 (wrap64 ((x1.length : Int) - 1)))).f3.f1) ((rd_T36 x0 (rd x1 (wrap64 ((x1.length : Int) - 1)))).f3.f2) ((rd_T36 x0 (rd x1 (wrap64 ((x1.length : Int) - 1)))).f4) ((rd_T36 x0 (rd x1 (wrap64 ((x1.length : Int) - 1)))).f5))) else (assessorlaw09_isChain.j2 k x0 x1 true ((rd_T36 x0 (rd x1 0)).f0) ((rd_T36 x0 (rd x1 0)).f1) ((rd_T36 x0 (rd x1 0)).f2) ((rd_T36 x0 (rd x1 0)).f3.f0) ((rd_T36 x0 (rd x1 0)).f3.f1) ((rd_T36 x0 (rd x1 0)).f3.f2) ((rd_T36 x0 (rd x1 0)).f4) ((rd_T36 x0 (rd x1 0)).f5) ((rd_T36 x0 (rd x1 (wrap64 ((x1.length : Int) - 1)))).f0) ((rd_T36 x0 (rd x1 (wrap64 ((x1.length : Int) - 1)))).f1) ((rd_T36 x0 (rd x1 (wrap64 ((x1.length : Int) - 1)))).f2) ((rd_T36 x0 (rd x1 (wrap64 ((x1.length : Int) - 1)))).f3.f0) ((rd_T36 x0 (rd x1 (wrap64 ((x1.length : Int) - 1)))).f3.f1) ((rd_T36 x0 (rd x1 (wrap64 ((x1.length : Int) - 1)))).f3.f2) ((rd_T36 x0 (rd x1 (wrap64 ((x1.length : Int) - 1)))).f4) ((rd_T36 x0 (rd x1 (wrap64 ((x1.length : Int) - 1)))).f5))) else (none)) else (none)) else (none)) else (none)) else (none)) else (none)) else (none))
def assessorlaw09_isChain.j2 : Nat → List (S36) → List Int → Bool → Int → Int → Int → Int → Int → ByteArray → Int → Int → Int → Int → Int → Int → Int → ByteArray → Int → Int → Option (Bool)
 | 0, _, _, _, _, _, _, _, _, _, _, _, _, _, _, _, _, _, _, _ => none
 | k + 1, x0, x1, x73, x118000, x118001, x118002, x118003, x118004, x118005, x118006, x118007, x119000, x119001, x119002, x119003, x119004, x119005, x119006, x119007 => if x73 = true then (some false) else (if 1 ≤ (wrap64 ((x1.length : Int) - 1)) then (if (wrap64 ((x1.length : Int) - 1)) ≤ (x1.length : Int) then (assessorlaw09_isChain.l1 k x0 x118001 ((x1.take ((wrap64 ((x1.length : Int) - 1)) : Int).toNat).drop 1) (((x1.take ((wrap64 ((x1.length : Int) - 1)) : Int).toNat).drop 1).length : Int) 0 x119000 x119001 x119002 x119003 x119004 x119005 x119006 x119007) else (none)) else (none))
def assessorlaw09_isChain.l1 : Nat → List (S36) → Int → List Int → Int → Int → Int → Int → Int → Int → Int → ByteArray → Int → Int → Option (Bool)
 | 0, _, _, _, _, _, _, _, _, _, _, _, _, _ => none
 | k + 1, x0, x9, x80, x81, x82, x119000, x119001, x119002, x119003, x119004, x119005, x119006, x119007 => if x82 < x81 then (if 0 ≤ x82 then (if x82 < (x80.length : Int) then (if 0 ≤ (rd x80 x82) then (if (rd x80 x82) < (x0.length : Int) then (if ((rd_T36 x0 (rd x80 x82)).f0) = 1 then (if ((rd_T36 x0 (rd x80 x82)).f1) = x9 then (assessorlaw09_isChain.l1 k x0 ((rd_T36 x0 (rd x80 x82)).f2) x80 x81 (wrap64 (x82 + 1)) x119000 x119001 x119002 x119003 x119004 x119005 x119006 x119007) else (if ((rd_T36 x0 (rd x80 x82)).f2) = x9 then (assessorlaw09_isChain.l1 k x0 ((rd_T36 x0 (rd x80 x82)).f1) x80 x81 (wrap64 (x82 + 1)) x119000 x119001 x119002 x119003 x119004 x119005 x119006 x119007) else (some false))) else (some false)) else (none)) else (none)) else (none)) else (none)) else (some (x9 == x119001))
end
def assessorlaw09_isChain.f (k : Nat) (l0 : List (S36)) (l1 : List Int) : Option (Bool) := if (l1.length : Int) < 2 then (assessorlaw09_isChain.j0 k l0 l1 true) else (if 0 < (l1.length : Int) then (if 0 ≤ (wrap64 ((l1.length : Int) - 1)) then (if (wrap64 ((l1.length : Int) - 1)) < (l1.length : Int) then (assessorlaw09_isChain.j0 k l0 l1 (decide ((rd l1 0) ≥ (rd l1 (wrap64 ((l1.length : Int) - 1)))))) else (none)) else (none)) else (none))
def assessorlaw09_isChain.T1 : Bool × List (List Nat × List Nat) := (true, [([], []), ([0], [0]), ([1], [1]), ([2], [2]), ([3], [3]), ([4, 3], [3, 4]), ([5, 3], [3, 5]), ([3], [3]), ([3], [3]), ([8, 3], [3, 8]), ([9, 3], [3, 9]), ([7, 10, 3], [3, 7, 10]), ([11, 3], [3, 11]), ([6, 12, 3], [3, 6, 12]), ([3, 13], [3, 13])])
def assessorlaw09_isChain.B1 : List Nat := [0, 1, 3, 7, 15, 31, 63, 15, 15, 271, 783, 1935, 3983, 8191, 16383]
theorem assessorlaw09_isChain.tab1 : rtab .any (opsOf Try.f14 1) = assessorlaw09_isChain.T1 := by kernel_rfl
theorem assessorlaw09_isChain.bits1 : waitsOk assessorlaw09_isChain.T1.2 assessorlaw09_isChain.B1 = true := by kernel_rfl
def assessorlaw09_isChain.T9 : Bool × List (List Nat × List Nat) := (true, [([], []), ([], []), ([1], [1]), ([2], [2]), ([0, 3], [0, 3]), ([4], [4]), ([], []), ([], []), ([], []), ([8], [8]), ([9], [9]), ([7, 10], [7, 10]), ([11], [11]), ([6, 12], [6, 12]), ([13], [13]), ([], []), ([], []), ([15, 5, 0, 1, 2, 3, 4, 5, 15, 16], [5, 15]), ([16, 14, 17, 0, 1, 2, 3, 4, 5, 6, 7, 8, 9, 10, 11, 12, 13, 14, 15, 16, 17], [14, 16])])
def assessorlaw09_isChain.B9 : List Nat := [0, 0, 2, 6, 15, 31, 0, 0, 0, 256, 768, 1920, 3968, 8128, 16320, 0, 0, 98367, 262143]
theorem assessorlaw09_isChain.tab9 : rtab .any (opsOf Try.f14 9) = assessorlaw09_isChain.T9 := by kernel_rfl
theorem assessorlaw09_isChain.bits9 : waitsOk assessorlaw09_isChain.T9.2 assessorlaw09_isChain.B9 = true := by kernel_rfl
set_option maxHeartbeats 8000000 in
set_option maxRecDepth 100000 in
theorem assessorlaw09_isChain.calls (k : Nat) (A0 : Option Addr) (c0 : Nat) (l0 : List (S36)) (A1 : Option Addr) (c1 : Nat) (l1 : List Int) (r : Bool) (w : World) (hr0 : Kd.C k36 w A0 l0.length l0) (hc0 : l0.length ≤ c0) (hr1 : Kd.C (Kd.int .i64) w A1 l1.length l1) (hc1 : l1.length ≤ c1) (h : assessorlaw09_isChain.f k l0 l1 = some r) (ht_ : r = true) :
  Calls Try.prog 14 #[.slice A0 l0.length c0, .slice A1 l1.length c1] w fun e w' => e = .returned (.bool r) ∧ Below w.heap.size w w' := by
 have hu36 := Try.underlying36
 have hu23 := Try.underlying23
 have HTru_ := Aside0.mk ht_
 clear ht_
 have HR0 := Aside0.mk hr0
 have HC0 := Aside0.mk hc0
 clear hr0 hc0
 have HR1 := Aside0.mk hr1
 have HC1 := Aside0.mk hc1
 clear hr1 hc1
 have HB := Aside0.mk (Below.refl w.heap.size w)
 have H : (if (l1.length : Int) < 2 then (assessorlaw09_isChain.j0 k l0 l1 true) else (if 0 < (l1.length : Int) then (if 0 ≤ (wrap64 ((l1.length : Int) - 1)) then (if (wrap64 ((l1.length : Int) - 1)) < (l1.length : Int) then (assessorlaw09_isChain.j0 k l0 l1 (decide ((rd l1 0) ≥ (rd l1 (wrap64 ((l1.length : Int) - 1)))))) else (none)) else (none)) else (none))) = some r := h
 clear h
 have HC3 := Aside0.mk H
 clear H
 go_enter Try.func14, Try.ntmps14
 go_upto_region 1 with (fail)
 go_cut [27] (fun v27 wc => ∃ (kq : Nat) (x27_2 : Bool), v27 = .bool x27_2 ∧ Aside0 (assessorlaw09_isChain.j0 kq l0 l1 x27_2 = some r) ∧ Aside0 (kq ≤ k) ∧ Aside0 (Below w.heap.size w wc))
 case first =>
  have H := HC3.out
  clear HC3
  by_cases c4 : (l1.length : Int) < 2
  ·
   rw [if_pos c4] at H
   have c4b0 : decide ((l1.length : Int) < 2) = true := decide_eq_true c4
   have c4b1 : decide (l1.length < 2) = true := decide_eq_true (by omega)
   clear c4
   (first | rw [c4b0] | (simp only [i64_w, i32_w]; rw [c4b0]) | skip)
   have H' := Aside0.mk H
   clear H
   try go_wp2
   have n0_ := Aside0.mk (below_drew1 HB.out)
   clear HB
   have HB := n0_
   clear n0_
   refine start_ (n := 15) (S := fun w' => True) (ds := []) #[false, false, false, false, false, false, false, false, false, false, false, false, false, false, false] (by kernel_rfl) rfl rfl trivial (fun hHeld => ?_); refine with_tabW assessorlaw09_isChain.tab1 assessorlaw09_isChain.bits1 (fun HT_ HW_ => ?_)
   generalize w.drew = w5 at HB hHeld ⊢
   refine pure_ (i := 0) (N := some 13) (v := ?_) (a' := ?_) #[true, false, false, false, false, false, false, false, false, false, false, false, false, false, false] rfl rfl (any_of HT_.out (by kernel_rfl)) (fun _ _ _ h => h) (Or.inl ⟨by rfl, ?_⟩) ?_ ?_
   rotate_left; (· intro w'; go_simp; with_reducible rfl)
   rotate_left; (· simp only [Act.put, List.setIfInBounds_toArray, List.set_cons_zero, List.set_cons_succ, i64_w, i32_w]; rfl)
   refine pure_ (i := 1) (N := some 14) (v := ?_) (a' := ?_) #[true, true, false, false, false, false, false, false, false, false, false, false, false, false, false] rfl rfl (any_of HT_.out (by kernel_rfl)) (fun _ _ _ h => h) (Or.inl ⟨by rfl, ?_⟩) ?_ ?_
   rotate_left; (· intro w'; go_simp; with_reducible rfl)
   rotate_left; (· simp only [Act.put, List.setIfInBounds_toArray, List.set_cons_zero, List.set_cons_succ, i64_w, i32_w]; rfl)
   refine pure_ (i := 2) (N := some 15) (v := ?_) (a' := ?_) #[true, true, true, false, false, false, false, false, false, false, false, false, false, false, false] rfl rfl (any_of HT_.out (by kernel_rfl)) (fun _ _ _ h => h) (Or.inl ⟨by rfl, ?_⟩) ?_ ?_
   rotate_left; (· intro w'; go_simp; with_reducible rfl)
   rotate_left; (· simp only [Act.put, List.setIfInBounds_toArray, List.set_cons_zero, List.set_cons_succ, i64_w, i32_w]; rfl)
   refine pure_ (i := 3) (N := some 16) (v := ?_) (a' := ?_) #[true, true, true, true, false, false, false, false, false, false, false, false, false, false, false] rfl rfl (any_of HT_.out (by kernel_rfl)) (fun _ _ _ h => h) (Or.inl ⟨by rfl, ?_⟩) ?_ ?_
   rotate_left; (· intro w'; go_simp; with_reducible rfl)
   rotate_left; (· simp only [Act.put, List.setIfInBounds_toArray, List.set_cons_zero, List.set_cons_succ, i64_w, i32_w]; rfl)
   refine pure_ (i := 4) (N := some 17) (v := undef) (a' := ?_) #[true, true, true, true, true, false, false, false, false, false, false, false, false, false, false] rfl rfl (any_of HT_.out (by kernel_rfl)) (fun _ _ _ h => h) (Or.inr ⟨by rfl, rfl⟩) ?_ ?_
   rotate_left; (· simp only [Act.put, List.setIfInBounds_toArray, List.set_cons_zero, List.set_cons_succ, i64_w, i32_w]; rfl)
   refine pure_ (i := 5) (N := some 18) (v := undef) (a' := ?_) #[true, true, true, true, true, true, false, false, false, false, false, false, false, false, false] rfl rfl (any_of HT_.out (by kernel_rfl)) (fun _ _ _ h => h) (Or.inr ⟨by rfl, rfl⟩) ?_ ?_
   rotate_left; (· simp only [Act.put, List.setIfInBounds_toArray, List.set_cons_zero, List.set_cons_succ, i64_w, i32_w]; rfl)
   refine pure_ (i := 6) (N := some 19) (v := undef) (a' := ?_) #[true, true, true, true, true, true, true, false, false, false, false, false, false, false, false] rfl rfl (any_of HT_.out (by kernel_rfl)) (fun _ _ _ h => h) (Or.inr ⟨by rfl, rfl⟩) ?_ ?_
   rotate_left; (· simp only [Act.put, List.setIfInBounds_toArray, List.set_cons_zero, List.set_cons_succ, i64_w, i32_w]; rfl)
   refine pure_ (i := 7) (N := some 20) (v := undef) (a' := ?_) #[true, true, true, true, true, true, true, true, false, false, false, false, false, false, false] rfl rfl (any_of HT_.out (by kernel_rfl)) (fun _ _ _ h => h) (Or.inr ⟨by rfl, rfl⟩) ?_ ?_
   rotate_left; (· simp only [Act.put, List.setIfInBounds_toArray, List.set_cons_zero, List.set_cons_succ, i64_w, i32_w]; rfl)
   refine pure_ (i := 8) (N := some 21) (v := undef) (a' := ?_) #[true, true, true, true, true, true, true, true, true, false, false, false, false, false, false] rfl rfl (any_of HT_.out (by kernel_rfl)) (fun _ _ _ h => h) (Or.inr ⟨by rfl, rfl⟩) ?_ ?_
   rotate_left; (· simp only [Act.put, List.setIfInBounds_toArray, List.set_cons_zero, List.set_cons_succ, i64_w, i32_w]; rfl)
   refine pure_ (i := 9) (N := some 22) (v := undef) (a' := ?_) #[true, true, true, true, true, true, true, true, true, true, false, false, false, false, false] rfl rfl (any_of HT_.out (by kernel_rfl)) (fun _ _ _ h => h) (Or.inr ⟨by rfl, rfl⟩) ?_ ?_
   rotate_left; (· simp only [Act.put, List.setIfInBounds_toArray, List.set_cons_zero, List.set_cons_succ, i64_w, i32_w]; rfl)
   refine pure_ (i := 10) (N := some 23) (v := undef) (a' := ?_) #[true, true, true, true, true, true, true, true, true, true, true, false, false, false, false] rfl rfl (any_of HT_.out (by kernel_rfl)) (fun _ _ _ h => h) (Or.inr ⟨by rfl, rfl⟩) ?_ ?_
   rotate_left; (· simp only [Act.put, List.setIfInBounds_toArray, List.set_cons_zero, List.set_cons_succ, i64_w, i32_w]; rfl)
   refine pure_ (i := 11) (N := some 24) (v := undef) (a' := ?_) #[true, true, true, true, true, true, true, true, true, true, true, true, false, false, false] rfl rfl (any_of HT_.out (by kernel_rfl)) (fun _ _ _ h => h) (Or.inr ⟨by rfl, rfl⟩) ?_ ?_
   rotate_left; (· simp only [Act.put, List.setIfInBounds_toArray, List.set_cons_zero, List.set_cons_succ, i64_w, i32_w]; rfl)
   refine pure_ (i := 12) (N := some 25) (v := undef) (a' := ?_) #[true, true, true, true, true, true, true, true, true, true, true, true, true, false, false] rfl rfl (any_of HT_.out (by kernel_rfl)) (fun _ _ _ h => h) (Or.inr ⟨by rfl, rfl⟩) ?_ ?_
   rotate_left; (· simp only [Act.put, List.setIfInBounds_toArray, List.set_cons_zero, List.set_cons_succ, i64_w, i32_w]; rfl)
   refine pure_ (i := 13) (N := some 26) (v := undef) (a' := ?_) #[true, true, true, true, true, true, true, true, true, true, true, true, true, true, false] rfl rfl (any_of HT_.out (by kernel_rfl)) (fun _ _ _ h => h) (Or.inr ⟨by rfl, rfl⟩) ?_ ?_
   rotate_left; (· simp only [Act.put, List.setIfInBounds_toArray, List.set_cons_zero, List.set_cons_succ, i64_w, i32_w]; rfl)
   refine pure_ (i := 14) (N := some 27) (v := ?_) (a' := ?_) #[true, true, true, true, true, true, true, true, true, true, true, true, true, true, true] rfl rfl (any_of HT_.out (by kernel_rfl)) (fun _ _ _ h => h) (Or.inl ⟨by rfl, ?_⟩) ?_ ?_
   rotate_left; (· intro w'; go_simp; with_reducible rfl)
   rotate_left; (· simp only [Act.put, List.setIfInBounds_toArray, List.set_cons_zero, List.set_cons_succ, i64_w, i32_w]; rfl)
   refine done_ (done_of HT_.out (by kernel_rfl)) ?_
   try go_wp2
   go_meet
   case rel => exact ⟨_, (true), (by first | rfl | (simp; done) | (simp [*]; done)), H', ⟨by first | omega | exact Nat.le_refl _⟩, ⟨by repeat (first | (with_reducible first | exact HB.out | apply below_alloc | apply pw_below_drewN | apply below_drew1) | exact HB.out)⟩⟩
  ·
   rw [if_neg c4] at H
   have c4b0 : decide ((l1.length : Int) < 2) = false := decide_eq_false c4
   have c4b1 : decide (l1.length < 2) = false := decide_eq_false (by omega)
   clear c4
   (first | rw [c4b0] | (simp only [i64_w, i32_w]; rw [c4b0]) | skip)
   by_cases c6 : 0 < (l1.length : Int)
   ·
    rw [if_pos c6] at H
    have c6b0 : decide (0 < (l1.length : Int)) = true := decide_eq_true c6
    have c6b1 : decide (0 < l1.length) = true := decide_eq_true (by omega)
    clear c6
    obtain ⟨ji7, hji7⟩ : ∃ j_ : Int, (wrap64 ((l1.length : Int) - 1)) = j_ := ⟨_, rfl⟩
    replace H : (if 0 ≤ (ji7) then (if (ji7) < (l1.length : Int) then (assessorlaw09_isChain.j0 k l0 l1 (decide ((rd l1 0) ≥ (rd l1 (ji7))))) else (none)) else (none)) = some r := by first | (rw [hji7] at H; exact H) | (simp only [hji7] at H ⊢; exact H)
    have hji7w : (IntKind.i64.wrap ((l1.length : Int) - 1)) = ji7 := (i64_w _).trans hji7
    by_cases c8 : 0 ≤ (ji7)
    ·
     rw [if_pos c8] at H
     have c8b0 : decide (0 ≤ (ji7)) = true := decide_eq_true c8
     clear c8
     by_cases c9 : (ji7) < (l1.length : Int)
     ·
      rw [if_pos c9] at H
      have c9b0 : decide ((ji7) < (l1.length : Int)) = true := decide_eq_true c9
      clear c9
      have H' := Aside0.mk H
      clear H
      try go_wp2
      have n0_ := Aside0.mk (below_drew1 HB.out)
      clear HB
      have HB := n0_
      clear n0_
      have p110 : 0 ≤ (0 : Int) := (by omega)
      have q110 : 0 < (l1.length : Int) := of_decide_eq_true (by first | (with_reducible assumption) | assumption)
      obtain ⟨ad110, e110, hx110_0⟩ := Kd.at_int HR1.out 0 p110 q110
      have hw110_0 := hx110_0
      (try rw [show ((0 : Int)).toNat = 0 from rfl] at hw110_0)
      (try rw [show 0 * 1 = 0 from rfl] at hw110_0)
      (try rw [Addr.add_zero'] at hw110_0)
      cases e110
      have qi110 : (0 < l1.length) = True := eq_true (by omega)
      (try rw [show ((0 : Int)).toNat = 0 from rfl] at hx110_0)
      (try rw [Addr.add_zero'] at hx110_0)
      replace hx110_0 := (HB.out.cell (World.block_lt_of_cell? w _ hx110_0)).trans hx110_0
      replace p110 := eq_true p110
      replace q110 := eq_true q110
      have p111 : 0 ≤ ((ji7) : Int) := of_decide_eq_true (by first | (with_reducible assumption) | assumption)
      have q111 : (ji7) < (l1.length : Int) := of_decide_eq_true (by first | (with_reducible assumption) | assumption)
      obtain ⟨ad111, e111, hx111_0⟩ := Kd.at_int HR1.out (ji7) p111 q111
      have hw111_0 := hx111_0
      obtain rfl : ad110 = ad111 := (by injection e111)
      replace hx111_0 := (HB.out.cell (World.block_lt_of_cell? w _ hx111_0)).trans hx111_0
      replace p111 := eq_true p111
      replace q111 := eq_true q111
      refine start_ (n := 15) (S := fun w' => w'.cell? ad110 = some (.int .i64 (rd l1 0)) ∧ w'.cell? (ad110.add ((ji7)).toNat) = some (.int .i64 (rd l1 (ji7)))) (ds := []) #[false, false, false, false, false, false, false, false, false, false, false, false, false, false, false] (by kernel_rfl) rfl rfl ⟨((HB.out.cell (World.block_lt_of_cell? w _ hw110_0)).trans hw110_0), ((HB.out.cell (World.block_lt_of_cell? w _ hw111_0)).trans hw111_0)⟩ (fun hHeld => ?_); refine with_tabW assessorlaw09_isChain.tab1 assessorlaw09_isChain.bits1 (fun HT_ HW_ => ?_)
      generalize w.drew = w10 at HB hx110_0 hx111_0 hHeld ⊢
      refine pure_ (i := 0) (N := some 13) (v := ?_) (a' := ?_) #[true, false, false, false, false, false, false, false, false, false, false, false, false, false, false] rfl rfl (any_of HT_.out (by kernel_rfl)) (fun _ _ _ h => h) (Or.inl ⟨by rfl, ?_⟩) ?_ ?_
      rotate_left; (· intro w'; go_simp; with_reducible rfl)
      rotate_left; (· simp only [Act.put, List.setIfInBounds_toArray, List.set_cons_zero, List.set_cons_succ, i64_w, i32_w]; rfl)
      refine pure_ (i := 1) (N := some 14) (v := ?_) (a' := ?_) #[true, true, false, false, false, false, false, false, false, false, false, false, false, false, false] rfl rfl (any_of HT_.out (by kernel_rfl)) (fun _ _ _ h => h) (Or.inl ⟨by rfl, ?_⟩) ?_ ?_
      rotate_left; (· intro w'; go_simp; with_reducible rfl)
      rotate_left; (· simp only [Act.put, List.setIfInBounds_toArray, List.set_cons_zero, List.set_cons_succ, i64_w, i32_w]; rfl)
      refine pure_ (i := 2) (N := some 15) (v := ?_) (a' := ?_) #[true, true, true, false, false, false, false, false, false, false, false, false, false, false, false] rfl rfl (any_of HT_.out (by kernel_rfl)) (fun _ _ _ h => h) (Or.inl ⟨by rfl, ?_⟩) ?_ ?_
      rotate_left; (· intro w'; go_simp; with_reducible rfl)
      rotate_left; (· simp only [Act.put, List.setIfInBounds_toArray, List.set_cons_zero, List.set_cons_succ, i64_w, i32_w]; rfl)
      refine pure_ (i := 3) (N := some 16) (v := ?_) (a' := ?_) #[true, true, true, true, false, false, false, false, false, false, false, false, false, false, false] rfl rfl (any_of HT_.out (by kernel_rfl)) (fun _ _ _ h => h) (Or.inl ⟨by rfl, ?_⟩) ?_ ?_
      rotate_left; (· intro w'; go_simp; with_reducible rfl)
      rotate_left; (· simp only [Act.put, List.setIfInBounds_toArray, List.set_cons_zero, List.set_cons_succ, i64_w, i32_w]; rfl)
      refine pure_ (i := 4) (N := some 17) (v := ?_) (a' := ?_) #[true, true, true, true, true, false, false, false, false, false, false, false, false, false, false] rfl rfl (any_of HT_.out (by kernel_rfl)) (fun _ _ _ h => h) (Or.inl ⟨by rfl, ?_⟩) ?_ ?_
      rotate_left; (· intro w'; go_simp; with_reducible rfl)
      rotate_left; (· simp only [Act.put, List.setIfInBounds_toArray, List.set_cons_zero, List.set_cons_succ, i64_w, i32_w]; rfl)
      refine pure_ (i := 5) (N := some 18) (v := ?_) (a' := ?_) #[true, true, true, true, true, true, false, false, false, false, false, false, false, false, false] rfl rfl (any_of HT_.out (by kernel_rfl)) (fun _ _ _ h => h) (Or.inl ⟨by rfl, ?_⟩) ?_ ?_
      rotate_left; (· intro w'; go_simp; with_reducible rfl)
      rotate_left; (· simp only [Act.put, List.setIfInBounds_toArray, List.set_cons_zero, List.set_cons_succ, i64_w, i32_w]; rfl)
      refine pure_ (i := 7) (N := some 20) (v := ?_) (a' := ?_) #[true, true, true, true, true, true, false, true, false, false, false, false, false, false, false] rfl rfl (any_of HT_.out (by kernel_rfl)) (fun _ _ _ h => h) (Or.inl ⟨by rfl, ?_⟩) ?_ ?_
      rotate_left; (· intro w'; go_simp; with_reducible rfl)
      rotate_left; (· simp only [Act.put, List.setIfInBounds_toArray, List.set_cons_zero, List.set_cons_succ, i64_w, i32_w]; rfl)
      refine pure_ (i := 8) (N := some 21) (v := ?_) (a' := ?_) #[true, true, true, true, true, true, false, true, true, false, false, false, false, false, false] rfl rfl (any_of HT_.out (by kernel_rfl)) (fun _ _ _ h => h) (Or.inl ⟨by rfl, ?_⟩) ?_ ?_
      rotate_left; (· intro w'; go_simp; with_reducible rfl)
      rotate_left; (· simp only [Act.put, List.setIfInBounds_toArray, List.set_cons_zero, List.set_cons_succ, i64_w, i32_w]; rfl)
      refine pure_ (i := 9) (N := some 22) (v := ?_) (a' := ?_) #[true, true, true, true, true, true, false, true, true, true, false, false, false, false, false] rfl rfl (any_of HT_.out (by kernel_rfl)) (fun _ _ _ h => h) (Or.inl ⟨by rfl, ?_⟩) ?_ ?_
      rotate_left; (· intro w'; go_simp; with_reducible rfl)
      rotate_left; (· simp only [Act.put, List.setIfInBounds_toArray, List.set_cons_zero, List.set_cons_succ, i64_w, i32_w]; rfl)
      refine pure_ (i := 10) (N := some 23) (v := ?_) (a' := ?_) #[true, true, true, true, true, true, false, true, true, true, true, false, false, false, false] rfl rfl (any_of HT_.out (by kernel_rfl)) (fun _ _ _ h => h) (Or.inl ⟨by rfl, ?_⟩) ?_ ?_
      rotate_left; (· intro w'; go_simp; with_reducible rfl)
      rotate_left; (· simp only [Act.put, List.setIfInBounds_toArray, List.set_cons_zero, List.set_cons_succ, i64_w, i32_w]; rfl)
      refine pure_ (i := 11) (N := some 24) (v := ?_) (a' := ?_) #[true, true, true, true, true, true, false, true, true, true, true, true, false, false, false] rfl rfl (any_of HT_.out (by kernel_rfl)) (fun _ _ _ h => h) (Or.inl ⟨by rfl, ?_⟩) ?_ ?_
      rotate_left; (· intro w'; go_simp; with_reducible rfl)
      rotate_left; (· simp only [Act.put, List.setIfInBounds_toArray, List.set_cons_zero, List.set_cons_succ, i64_w, i32_w]; rfl)
      refine take_ (i := 6) (N := some 19) (v := ?_) (a' := ?_) #[true, true, true, true, true, true, true, true, true, true, true, true, false, false, false] rfl rfl (take_ofW HT_.out HW_.out (by kernel_rfl)) (fun _ _ _ h => h) (Or.inl ⟨by rfl, ?_⟩) hHeld ?_ ?_
      rotate_left; (· rintro w' ⟨s0, s1⟩; go_simp; with_reducible rfl)
      rotate_left; (· simp only [Act.put, List.setIfInBounds_toArray, List.set_cons_zero, List.set_cons_succ, i64_w, i32_w]; rfl)
      refine take_ (i := 12) (N := some 25) (v := ?_) (a' := ?_) #[true, true, true, true, true, true, true, true, true, true, true, true, true, false, false] rfl rfl (take_ofW HT_.out HW_.out (by kernel_rfl)) (fun _ _ _ h => h) (Or.inl ⟨by rfl, ?_⟩) hHeld ?_ ?_
      rotate_left; (· rintro w' ⟨s0, s1⟩; go_simp; with_reducible rfl)
      rotate_left; (· simp only [Act.put, List.setIfInBounds_toArray, List.set_cons_zero, List.set_cons_succ, i64_w, i32_w]; rfl)
      refine pure_ (i := 13) (N := some 26) (v := ?_) (a' := ?_) #[true, true, true, true, true, true, true, true, true, true, true, true, true, true, false] rfl rfl (any_of HT_.out (by kernel_rfl)) (fun _ _ _ h => h) (Or.inl ⟨by rfl, ?_⟩) ?_ ?_
      rotate_left; (· intro w'; go_simp; with_reducible rfl)
      rotate_left; (· simp only [Act.put, List.setIfInBounds_toArray, List.set_cons_zero, List.set_cons_succ, i64_w, i32_w]; rfl)
      refine pure_ (i := 14) (N := some 27) (v := ?_) (a' := ?_) #[true, true, true, true, true, true, true, true, true, true, true, true, true, true, true] rfl rfl (any_of HT_.out (by kernel_rfl)) (fun _ _ _ h => h) (Or.inl ⟨by rfl, ?_⟩) ?_ ?_
      rotate_left; (· intro w'; go_simp; with_reducible rfl)
      rotate_left; (· simp only [Act.put, List.setIfInBounds_toArray, List.set_cons_zero, List.set_cons_succ, i64_w, i32_w]; rfl)
      refine done_ (done_of HT_.out (by kernel_rfl)) ?_
      try go_wp2
      go_meet
      case rel => exact ⟨_, (decide ((rd l1 0) ≥ (rd l1 (ji7)))), (by first | rfl | (simp; done) | (simp only [← hji7] <;> (first | rfl | simp)) | (simp [*]; done)), H', ⟨by first | omega | exact Nat.le_refl _⟩, ⟨by repeat (first | (with_reducible first | exact HB.out | apply below_alloc | apply pw_below_drewN | apply below_drew1) | exact HB.out)⟩⟩
     ·
      rw [if_neg c9] at H
      exact absurd H (by simp)
    ·
     rw [if_neg c8] at H
     exact absurd H (by simp)
   ·
    rw [if_neg c6] at H
    exact absurd H (by simp)
 case rest =>
  clear HC3
  try clear c1
  try clear p1
  try clear q1
  try clear hx1
  try clear qi1
  try clear p2
  try clear c4
  try clear c4b0
  try clear c4b1
  try clear c6
  try clear c6b0
  try clear c6b1
  try clear p6
  try clear c8
  try clear c8b0
  try clear c9
  try clear c9b0
  try clear hx110_0
  try clear hx111_0
  try clear p110
  try clear p111
  try clear q110
  try clear q111
  obtain ⟨kq, x27_2, rfl, HA, HJ2, HB⟩ := hcut
  cases kq with
  | zero => exact absurd HA.out (by simp [assessorlaw09_isChain.j0])
  | succ kj2 =>
   have H := HA.out
   clear HA
   simp only [assessorlaw09_isChain.j0] at H
   by_cases c11 : x27_2 = true
   ·
    subst c11
    have H1 : (some false) = some r := by rw [if_pos rfl] at H; exact H
    clear H
    have H := H1
    clear H1
    obtain rfl := Option.some.inj H
    exact absurd HTru_.out (by decide)
   ·
    replace c11 := Bool.eq_false_iff.mpr c11
    subst c11
    have H1 : (assessorlaw09_isChain.l0 kj2 l0 l1 l1 (l1.length : Int) 0) = some r := by rw [if_neg (show ¬ (false = true) by decide)] at H; exact H
    clear H
    have H := H1
    clear H1
    have H' := Aside0.mk H
    clear H
    go_wp2
    go_loopg [30] kj2 (fun kq v30 w' => ∃ (x30_2 : Int), v30 = .int .i64 x30_2 ∧ Aside0 (assessorlaw09_isChain.l0 kq l0 l1 l1 (l1.length : Int) x30_2 = some r) ∧ Aside0 (kq ≤ kj2) ∧ Aside0 (Below w.heap.size w w'))
    case atStart => exact ⟨(0), (by first | rfl | (simp; done) | (simp [*]; done)), H', ⟨Nat.le_refl _⟩, ⟨by repeat (first | (with_reducible first | exact HB.out | apply below_alloc | apply pw_below_drewN | apply below_drew1) | exact HB.out)⟩⟩
    case round =>
     clear H'
     try clear c1
     try clear p1
     try clear q1
     try clear hx1
     try clear qi1
     try clear p2
     try clear c4
     try clear c4b0
     try clear c4b1
     try clear c6
     try clear c6b0
     try clear c6b1
     try clear p6
     try clear c8
     try clear c8b0
     try clear c9
     try clear c9b0
     try clear c11
     try clear p11
     try clear q11
     try clear hx11
     try clear qi11
     try clear hx110_0
     try clear hx111_0
     try clear p1
     try clear p110
     try clear p111
     try clear p2
     try clear p6
     try clear q1
     try clear q110
     try clear q111
     obtain ⟨x30_2, rfl, HA, HK2, HB⟩ := hrel
     cases gk with
     | zero => exact absurd HA.out (by simp [assessorlaw09_isChain.l0])
     | succ k2 =>
      have H := HA.out
      clear HA
      simp only [assessorlaw09_isChain.l0] at H
      by_cases c12 : x30_2 < (l1.length : Int)
      ·
       rw [if_pos c12] at H
       have c12b0 : decide (x30_2 < (l1.length : Int)) = true := decide_eq_true c12
       clear c12
       by_cases c13 : 0 ≤ x30_2
       ·
        rw [if_pos c13] at H
        have c13b0 : decide (0 ≤ x30_2) = true := decide_eq_true c13
        clear c13
        by_cases c14 : x30_2 < (l1.length : Int)
        ·
         rw [if_pos c14] at H
         have c14b0 : decide (x30_2 < (l1.length : Int)) = true := decide_eq_true c14
         clear c14
         by_cases c15 : (rd l1 x30_2) < 0
         ·
          rw [if_pos c15] at H
          have c15b0 : decide ((rd l1 x30_2) < 0) = true := decide_eq_true c15
          clear c15
          obtain rfl := Option.some.inj H
          exact absurd HTru_.out (by decide)
         ·
          rw [if_neg c15] at H
          have c15b0 : decide ((rd l1 x30_2) < 0) = false := decide_eq_false c15
          clear c15
          by_cases c16 : (rd l1 x30_2) ≥ (l0.length : Int)
          ·
           rw [if_pos c16] at H
           have c16b0 : decide ((l0.length : Int) ≤ (rd l1 x30_2)) = true := decide_eq_true c16
           clear c16
           obtain rfl := Option.some.inj H
           exact absurd HTru_.out (by decide)
          ·
           rw [if_neg c16] at H
           have c16b0 : decide ((l0.length : Int) ≤ (rd l1 x30_2)) = false := decide_eq_false c16
           clear c16
           have H' := Aside0.mk H
           clear H
           have p112 : 0 ≤ (x30_2 : Int) := of_decide_eq_true (by first | (with_reducible assumption) | assumption)
           have q112 : x30_2 < (l1.length : Int) := of_decide_eq_true (by first | (with_reducible assumption) | assumption)
           obtain ⟨ad112, e112, hx112_0⟩ := Kd.at_int HR1.out x30_2 p112 q112
           cases e112
           replace hx112_0 := (HB.out.cell (World.block_lt_of_cell? w _ hx112_0)).trans hx112_0
           replace p112 := eq_true p112
           replace q112 := eq_true q112
           go_wp2
           go_roundg k2
           case measure => have := HJ2.out; have := HK2.out; omega
           case rel => exact ⟨(wrap64 (x30_2 + 1)), (by first | rfl | (simp; done) | (simp [*]; done)), H', ⟨by have := HJ2.out; have := HK2.out; omega⟩, ⟨by repeat (first | (with_reducible first | exact HB.out | apply below_alloc | apply pw_below_drewN | apply below_drew1) | exact HB.out)⟩⟩
        ·
         rw [if_neg c14] at H
         exact absurd H (by simp)
       ·
        rw [if_neg c13] at H
        exact absurd H (by simp)
      ·
       rw [if_neg c12] at H
       have c12b0 : decide (x30_2 < (l1.length : Int)) = false := decide_eq_false c12
       clear c12
       by_cases c17 : 0 < (l1.length : Int)
       ·
        rw [if_pos c17] at H
        have c17b0 : decide (0 < (l1.length : Int)) = true := decide_eq_true c17
        have c17b1 : decide (0 < l1.length) = true := decide_eq_true (by omega)
        clear c17
        by_cases c18 : 0 ≤ (rd l1 0)
        ·
         rw [if_pos c18] at H
         have c18b0 : decide (0 ≤ (rd l1 0)) = true := decide_eq_true c18
         clear c18
         by_cases c19 : (rd l1 0) < (l0.length : Int)
         ·
          rw [if_pos c19] at H
          have c19b0 : decide ((rd l1 0) < (l0.length : Int)) = true := decide_eq_true c19
          clear c19
          obtain ⟨ji20, hji20⟩ : ∃ j_ : Int, (wrap64 ((l1.length : Int) - 1)) = j_ := ⟨_, rfl⟩
          replace H : (if 0 ≤ (ji20) then (if (ji20) < (l1.length : Int) then (if 0 ≤ (rd l1 (ji20)) then (if (rd l1 (ji20)) < (l0.length : Int) then (if ((rd_T36 l0 (rd l1 0)).f0) = 0 then (if ((rd_T36 l0 (rd l1 (ji20))).f0) = 0 then ((assessorref09_Exclude.f k2 ((rd_T36 l0 (rd l1 0)).f3.f0) ((rd_T36 l0 (rd l1 0)).f3.f1) ((rd_T36 l0 (rd l1 0)).f3.f2) ((rd_T36 l0 (rd l1 (ji20))).f3.f0) ((rd_T36 l0 (rd l1 (ji20))).f3.f1) ((rd_T36 l0 (rd l1 (ji20))).f3.f2)).bind fun t119 => (assessorlaw09_isChain.j2 k2 l0 l1 (!t119) ((rd_T36 l0 (rd l1 0)).f0) ((rd_T36 l0 (rd l1 0)).f1) ((rd_T36 l0 (rd l1 0)).f2) ((rd_T36 l0 (rd l1 0)).f3.f0) ((rd_T36 l0 (rd l1 0)).f3.f1) ((rd_T36 l0 (rd l1 0)).f3.f2) ((rd_T36 l0 (rd l1 0)).f4) ((rd_T36 l0 (rd l1 0)).f5) ((rd_T36 l0 (rd l1 (ji20))).f0) ((rd_T36 l0 (rd l1 (ji20))).f1) ((rd_T36 l0 (rd l1 (ji20))).f2) ((rd_T36 l0 (rd l1 (ji20))).f3.f0) ((rd_T36 l0 (rd l1 (ji20))).f3.f1) ((rd_T36 l0 (rd l1 (ji20))).f3.f2) ((rd_T36 l0 (rd l1 (ji20))).f4) ((rd_T36 l0 (rd l1 (ji20))).f5))) else (assessorlaw09_isChain.j2 k2 l0 l1 true ((rd_T36 l0 (rd l1 0)).f0) ((rd_T36 l0 (rd l1 0)).f1) ((rd_T36 l0 (rd l1 0)).f2) ((rd_T36 l0 (rd l1 0)).f3.f0) ((rd_T36 l0 (rd l1 0)).f3.f1) ((rd_T36 l0 (rd l1 0)).f3.f2) ((rd_T36 l0 (rd l1 0)).f4) ((rd_T36 l0 (rd l1 0)).f5) ((rd_T36 l0 (rd l1 (ji20))).f0) ((rd_T36 l0 (rd l1 (ji20))).f1) ((rd_T36 l0 (rd l1 (ji20))).f2) ((rd_T36 l0 (rd l1 (ji20))).f3.f0) ((rd_T36 l0 (rd l1 (ji20))).f3.f1) ((rd_T36 l0 (rd l1 (ji20))).f3.f2) ((rd_T36 l0 (rd l1 (ji20))).f4) ((rd_T36 l0 (rd l1 (ji20))).f5))) else (assessorlaw09_isChain.j2 k2 l0 l1 true ((rd_T36 l0 (rd l1 0)).f0) ((rd_T36 l0 (rd l1 0)).f1) ((rd_T36 l0 (rd l1 0)).f2) ((rd_T36 l0 (rd l1 0)).f3.f0) ((rd_T36 l0 (rd l1 0)).f3.f1) ((rd_T36 l0 (rd l1 0)).f3.f2) ((rd_T36 l0 (rd l1 0)).f4) ((rd_T36 l0 (rd l1 0)).f5) ((rd_T36 l0 (rd l1 (ji20))).f0) ((rd_T36 l0 (rd l1 (ji20))).f1) ((rd_T36 l0 (rd l1 (ji20))).f2) ((rd_T36 l0 (rd l1 (ji20))).f3.f0) ((rd_T36 l0 (rd l1 (ji20))).f3.f1) ((rd_T36 l0 (rd l1 (ji20))).f3.f2) ((rd_T36 l0 (rd l1 (ji20))).f4) ((rd_T36 l0 (rd l1 (ji20))).f5))) else (none)) else (none)) else (none)) else (none)) = some r := by first | (rw [hji20] at H; exact H) | (simp only [hji20] at H ⊢; exact H)
          have hji20w : (IntKind.i64.wrap ((l1.length : Int) - 1)) = ji20 := (i64_w _).trans hji20
          by_cases c21 : 0 ≤ (ji20)
          ·
           rw [if_pos c21] at H
           have c21b0 : decide (0 ≤ (ji20)) = true := decide_eq_true c21
           clear c21
           by_cases c22 : (ji20) < (l1.length : Int)
           ·
            rw [if_pos c22] at H
            have c22b0 : decide ((ji20) < (l1.length : Int)) = true := decide_eq_true c22
            clear c22
            by_cases c23 : 0 ≤ (rd l1 (ji20))
            ·
             rw [if_pos c23] at H
             have c23b0 : decide (0 ≤ (rd l1 (ji20))) = true := decide_eq_true c23
             clear c23
             by_cases c24 : (rd l1 (ji20)) < (l0.length : Int)
             ·
              rw [if_pos c24] at H
              have c24b0 : decide ((rd l1 (ji20)) < (l0.length : Int)) = true := decide_eq_true c24
              clear c24
              have HC25 := Aside0.mk H
              clear H
              try go_wp2
              have n0_ := Aside0.mk (below_drew1 HB.out)
              clear HB
              have HB := n0_
              clear n0_
              have p113 : 0 ≤ (0 : Int) := (by omega)
              have q113 : 0 < (l1.length : Int) := of_decide_eq_true (by first | (with_reducible assumption) | assumption)
              obtain ⟨ad113, e113, hx113_0⟩ := Kd.at_int HR1.out 0 p113 q113
              have hw113_0 := hx113_0
              (try rw [show ((0 : Int)).toNat = 0 from rfl] at hw113_0)
              (try rw [show 0 * 1 = 0 from rfl] at hw113_0)
              (try rw [Addr.add_zero'] at hw113_0)
              cases e113
              have qi113 : (0 < l1.length) = True := eq_true (by omega)
              (try rw [show ((0 : Int)).toNat = 0 from rfl] at hx113_0)
              (try rw [Addr.add_zero'] at hx113_0)
              replace hx113_0 := (HB.out.cell (World.block_lt_of_cell? w _ hx113_0)).trans hx113_0
              replace p113 := eq_true p113
              replace q113 := eq_true q113
              have p114 : 0 ≤ ((rd l1 0) : Int) := of_decide_eq_true (by first | (with_reducible assumption) | assumption)
              have q114 : (rd l1 0) < (l0.length : Int) := of_decide_eq_true (by first | (with_reducible assumption) | assumption)
              obtain ⟨ad114, e114, hx114_0, hx114_1, hx114_2, hx114_3, hx114_4, hx114_5, hx114_6, hx114_7⟩ := at_T36 HR0.out (rd l1 0) p114 q114
              have hw114_7 := hx114_7
              have hw114_6 := hx114_6
              have hw114_5 := hx114_5
              have hw114_4 := hx114_4
              have hw114_3 := hx114_3
              have hw114_2 := hx114_2
              have hw114_1 := hx114_1
              have hw114_0 := hx114_0
              cases e114
              replace hx114_0 := (HB.out.cell (World.block_lt_of_cell? w _ hx114_0)).trans hx114_0
              replace hx114_1 := (HB.out.cell (World.block_lt_of_cell? w _ hx114_1)).trans hx114_1
              replace hx114_2 := (HB.out.cell (World.block_lt_of_cell? w _ hx114_2)).trans hx114_2
              replace hx114_3 := (HB.out.cell (World.block_lt_of_cell? w _ hx114_3)).trans hx114_3
              replace hx114_4 := (HB.out.cell (World.block_lt_of_cell? w _ hx114_4)).trans hx114_4
              replace hx114_5 := (HB.out.cell (World.block_lt_of_cell? w _ hx114_5)).trans hx114_5
              replace hx114_6 := (HB.out.cell (World.block_lt_of_cell? w _ hx114_6)).trans hx114_6
              replace hx114_7 := (HB.out.cell (World.block_lt_of_cell? w _ hx114_7)).trans hx114_7
              replace p114 := eq_true p114
              replace q114 := eq_true q114
              have p115 : 0 ≤ ((ji20) : Int) := of_decide_eq_true (by first | (with_reducible assumption) | assumption)
              have q115 : (ji20) < (l1.length : Int) := of_decide_eq_true (by first | (with_reducible assumption) | assumption)
              obtain ⟨ad115, e115, hx115_0⟩ := Kd.at_int HR1.out (ji20) p115 q115
              have hw115_0 := hx115_0
              obtain rfl : ad113 = ad115 := (by injection e115)
              replace hx115_0 := (HB.out.cell (World.block_lt_of_cell? w _ hx115_0)).trans hx115_0
              replace p115 := eq_true p115
              replace q115 := eq_true q115
              have p116 : 0 ≤ ((rd l1 (ji20)) : Int) := of_decide_eq_true (by first | (with_reducible assumption) | assumption)
              have q116 : (rd l1 (ji20)) < (l0.length : Int) := of_decide_eq_true (by first | (with_reducible assumption) | assumption)
              obtain ⟨ad116, e116, hx116_0, hx116_1, hx116_2, hx116_3, hx116_4, hx116_5, hx116_6, hx116_7⟩ := at_T36 HR0.out (rd l1 (ji20)) p116 q116
              have hw116_7 := hx116_7
              have hw116_6 := hx116_6
              have hw116_5 := hx116_5
              have hw116_4 := hx116_4
              have hw116_3 := hx116_3
              have hw116_2 := hx116_2
              have hw116_1 := hx116_1
              have hw116_0 := hx116_0
              obtain rfl : ad114 = ad116 := (by injection e116)
              replace hx116_0 := (HB.out.cell (World.block_lt_of_cell? w _ hx116_0)).trans hx116_0
              replace hx116_1 := (HB.out.cell (World.block_lt_of_cell? w _ hx116_1)).trans hx116_1
              replace hx116_2 := (HB.out.cell (World.block_lt_of_cell? w _ hx116_2)).trans hx116_2
              replace hx116_3 := (HB.out.cell (World.block_lt_of_cell? w _ hx116_3)).trans hx116_3
              replace hx116_4 := (HB.out.cell (World.block_lt_of_cell? w _ hx116_4)).trans hx116_4
              replace hx116_5 := (HB.out.cell (World.block_lt_of_cell? w _ hx116_5)).trans hx116_5
              replace hx116_6 := (HB.out.cell (World.block_lt_of_cell? w _ hx116_6)).trans hx116_6
              replace hx116_7 := (HB.out.cell (World.block_lt_of_cell? w _ hx116_7)).trans hx116_7
              replace p116 := eq_true p116
              replace q116 := eq_true q116
              refine start_ (n := 19) (S := fun w' => w'.cell? ad113 = some (.int .i64 (rd l1 0)) ∧ w'.cell? (ad114.add (((rd l1 0)).toNat * 8)) = some (.int .i64 ((rd_T36 l0 (rd l1 0)).f0)) ∧ w'.cell? ⟨(ad114.add (((rd l1 0)).toNat * 8)).block, (ad114.add (((rd l1 0)).toNat * 8)).off + 1, none⟩ = some (.int .i64 ((rd_T36 l0 (rd l1 0)).f1)) ∧ w'.cell? ⟨(ad114.add (((rd l1 0)).toNat * 8)).block, (ad114.add (((rd l1 0)).toNat * 8)).off + 2, none⟩ = some (.int .i64 ((rd_T36 l0 (rd l1 0)).f2)) ∧ w'.cell? ⟨(ad114.add (((rd l1 0)).toNat * 8)).block, (ad114.add (((rd l1 0)).toNat * 8)).off + 3, none⟩ = some (.int .i64 ((rd_T36 l0 (rd l1 0)).f3.f0)) ∧ w'.cell? ⟨(ad114.add (((rd l1 0)).toNat * 8)).block, (ad114.add (((rd l1 0)).toNat * 8)).off + 4, none⟩ = some (.int .i64 ((rd_T36 l0 (rd l1 0)).f3.f1)) ∧ w'.cell? ⟨(ad114.add (((rd l1 0)).toNat * 8)).block, (ad114.add (((rd l1 0)).toNat * 8)).off + 5, none⟩ = some (.string ((rd_T36 l0 (rd l1 0)).f3.f2)) ∧ w'.cell? ⟨(ad114.add (((rd l1 0)).toNat * 8)).block, (ad114.add (((rd l1 0)).toNat * 8)).off + 6, none⟩ = some (.int .i64 ((rd_T36 l0 (rd l1 0)).f4)) ∧ w'.cell? ⟨(ad114.add (((rd l1 0)).toNat * 8)).block, (ad114.add (((rd l1 0)).toNat * 8)).off + 7, none⟩ = some (.int .i64 ((rd_T36 l0 (rd l1 0)).f5)) ∧ w'.cell? (ad113.add ((ji20)).toNat) = some (.int .i64 (rd l1 (ji20))) ∧ w'.cell? (ad114.add (((rd l1 (ji20))).toNat * 8)) = some (.int .i64 ((rd_T36 l0 (rd l1 (ji20))).f0)) ∧ w'.cell? ⟨(ad114.add (((rd l1 (ji20))).toNat * 8)).block, (ad114.add (((rd l1 (ji20))).toNat * 8)).off + 1, none⟩ = some (.int .i64 ((rd_T36 l0 (rd l1 (ji20))).f1)) ∧ w'.cell? ⟨(ad114.add (((rd l1 (ji20))).toNat * 8)).block, (ad114.add (((rd l1 (ji20))).toNat * 8)).off + 2, none⟩ = some (.int .i64 ((rd_T36 l0 (rd l1 (ji20))).f2)) ∧ w'.cell? ⟨(ad114.add (((rd l1 (ji20))).toNat * 8)).block, (ad114.add (((rd l1 (ji20))).toNat * 8)).off + 3, none⟩ = some (.int .i64 ((rd_T36 l0 (rd l1 (ji20))).f3.f0)) ∧ w'.cell? ⟨(ad114.add (((rd l1 (ji20))).toNat * 8)).block, (ad114.add (((rd l1 (ji20))).toNat * 8)).off + 4, none⟩ = some (.int .i64 ((rd_T36 l0 (rd l1 (ji20))).f3.f1)) ∧ w'.cell? ⟨(ad114.add (((rd l1 (ji20))).toNat * 8)).block, (ad114.add (((rd l1 (ji20))).toNat * 8)).off + 5, none⟩ = some (.string ((rd_T36 l0 (rd l1 (ji20))).f3.f2)) ∧ w'.cell? ⟨(ad114.add (((rd l1 (ji20))).toNat * 8)).block, (ad114.add (((rd l1 (ji20))).toNat * 8)).off + 6, none⟩ = some (.int .i64 ((rd_T36 l0 (rd l1 (ji20))).f4)) ∧ w'.cell? ⟨(ad114.add (((rd l1 (ji20))).toNat * 8)).block, (ad114.add (((rd l1 (ji20))).toNat * 8)).off + 7, none⟩ = some (.int .i64 ((rd_T36 l0 (rd l1 (ji20))).f5))) (ds := []) #[false, false, false, false, false, false, false, false, false, false, false, false, false, false, false, false, false, false, false] (by kernel_rfl) rfl rfl ⟨((HB.out.cell (World.block_lt_of_cell? w _ hw113_0)).trans hw113_0), ((HB.out.cell (World.block_lt_of_cell? w _ hw114_0)).trans hw114_0), ((HB.out.cell (World.block_lt_of_cell? w _ hw114_1)).trans hw114_1), ((HB.out.cell (World.block_lt_of_cell? w _ hw114_2)).trans hw114_2), ((HB.out.cell (World.block_lt_of_cell? w _ hw114_3)).trans hw114_3), ((HB.out.cell (World.block_lt_of_cell? w _ hw114_4)).trans hw114_4), ((HB.out.cell (World.block_lt_of_cell? w _ hw114_5)).trans hw114_5), ((HB.out.cell (World.block_lt_of_cell? w _ hw114_6)).trans hw114_6), ((HB.out.cell (World.block_lt_of_cell? w _ hw114_7)).trans hw114_7), ((HB.out.cell (World.block_lt_of_cell? w _ hw115_0)).trans hw115_0), ((HB.out.cell (World.block_lt_of_cell? w _ hw116_0)).trans hw116_0), ((HB.out.cell (World.block_lt_of_cell? w _ hw116_1)).trans hw116_1), ((HB.out.cell (World.block_lt_of_cell? w _ hw116_2)).trans hw116_2), ((HB.out.cell (World.block_lt_of_cell? w _ hw116_3)).trans hw116_3), ((HB.out.cell (World.block_lt_of_cell? w _ hw116_4)).trans hw116_4), ((HB.out.cell (World.block_lt_of_cell? w _ hw116_5)).trans hw116_5), ((HB.out.cell (World.block_lt_of_cell? w _ hw116_6)).trans hw116_6), ((HB.out.cell (World.block_lt_of_cell? w _ hw116_7)).trans hw116_7)⟩ (fun hHeld => ?_); refine with_tabW assessorlaw09_isChain.tab9 assessorlaw09_isChain.bits9 (fun HT_ HW_ => ?_)
              generalize wr.drew = w26 at HB hx113_0 hx114_0 hx114_1 hx114_2 hx114_3 hx114_4 hx114_5 hx114_6 hx114_7 hx115_0 hx116_0 hx116_1 hx116_2 hx116_3 hx116_4 hx116_5 hx116_6 hx116_7 hHeld ⊢
              refine pure_ (i := 0) (N := some 43) (v := ?_) (a' := ?_) #[true, false, false, false, false, false, false, false, false, false, false, false, false, false, false, false, false, false, false] rfl rfl (any_of HT_.out (by kernel_rfl)) (fun _ _ _ h => h) (Or.inl ⟨by rfl, ?_⟩) ?_ ?_
              rotate_left; (· intro w'; go_simp; with_reducible rfl)
              rotate_left; (· simp only [Act.put, List.setIfInBounds_toArray, List.set_cons_zero, List.set_cons_succ, i64_w, i32_w]; rfl)
              refine pure_ (i := 1) (N := some 44) (v := ?_) (a' := ?_) #[true, true, false, false, false, false, false, false, false, false, false, false, false, false, false, false, false, false, false] rfl rfl (any_of HT_.out (by kernel_rfl)) (fun _ _ _ h => h) (Or.inl ⟨by rfl, ?_⟩) ?_ ?_
              rotate_left; (· intro w'; go_simp; with_reducible rfl)
              rotate_left; (· simp only [Act.put, List.setIfInBounds_toArray, List.set_cons_zero, List.set_cons_succ, i64_w, i32_w]; rfl)
              refine pure_ (i := 2) (N := some 45) (v := ?_) (a' := ?_) #[true, true, true, false, false, false, false, false, false, false, false, false, false, false, false, false, false, false, false] rfl rfl (any_of HT_.out (by kernel_rfl)) (fun _ _ _ h => h) (Or.inl ⟨by rfl, ?_⟩) ?_ ?_
              rotate_left; (· intro w'; go_simp; with_reducible rfl)
              rotate_left; (· simp only [Act.put, List.setIfInBounds_toArray, List.set_cons_zero, List.set_cons_succ, i64_w, i32_w]; rfl)
              refine pure_ (i := 6) (N := some 49) (v := ?_) (a' := ?_) #[true, true, true, false, false, false, true, false, false, false, false, false, false, false, false, false, false, false, false] rfl rfl (any_of HT_.out (by kernel_rfl)) (fun _ _ _ h => h) (Or.inl ⟨by rfl, ?_⟩) ?_ ?_
              rotate_left; (· intro w'; go_simp; with_reducible rfl)
              rotate_left; (· simp only [Act.put, List.setIfInBounds_toArray, List.set_cons_zero, List.set_cons_succ, i64_w, i32_w]; rfl)
              refine pure_ (i := 7) (N := some 50) (v := ?_) (a' := ?_) #[true, true, true, false, false, false, true, true, false, false, false, false, false, false, false, false, false, false, false] rfl rfl (any_of HT_.out (by kernel_rfl)) (fun _ _ _ h => h) (Or.inl ⟨by rfl, ?_⟩) ?_ ?_
              rotate_left; (· intro w'; go_simp; with_reducible rfl)
              rotate_left; (· simp only [Act.put, List.setIfInBounds_toArray, List.set_cons_zero, List.set_cons_succ, i64_w, i32_w]; rfl)
              refine pure_ (i := 8) (N := some 51) (v := ?_) (a' := ?_) #[true, true, true, false, false, false, true, true, true, false, false, false, false, false, false, false, false, false, false] rfl rfl (any_of HT_.out (by kernel_rfl)) (fun _ _ _ h => h) (Or.inl ⟨by rfl, ?_⟩) ?_ ?_
              rotate_left; (· intro w'; go_simp; with_reducible rfl)
              rotate_left; (· simp only [Act.put, List.setIfInBounds_toArray, List.set_cons_zero, List.set_cons_succ, i64_w, i32_w]; rfl)
              refine pure_ (i := 9) (N := some 52) (v := ?_) (a' := ?_) #[true, true, true, false, false, false, true, true, true, true, false, false, false, false, false, false, false, false, false] rfl rfl (any_of HT_.out (by kernel_rfl)) (fun _ _ _ h => h) (Or.inl ⟨by rfl, ?_⟩) ?_ ?_
              rotate_left; (· intro w'; go_simp; with_reducible rfl)
              rotate_left; (· simp only [Act.put, List.setIfInBounds_toArray, List.set_cons_zero, List.set_cons_succ, i64_w, i32_w]; rfl)
              refine pure_ (i := 10) (N := some 53) (v := ?_) (a' := ?_) #[true, true, true, false, false, false, true, true, true, true, true, false, false, false, false, false, false, false, false] rfl rfl (any_of HT_.out (by kernel_rfl)) (fun _ _ _ h => h) (Or.inl ⟨by rfl, ?_⟩) ?_ ?_
              rotate_left; (· intro w'; go_simp; with_reducible rfl)
              rotate_left; (· simp only [Act.put, List.setIfInBounds_toArray, List.set_cons_zero, List.set_cons_succ, i64_w, i32_w]; rfl)
              refine pure_ (i := 11) (N := some 54) (v := ?_) (a' := ?_) #[true, true, true, false, false, false, true, true, true, true, true, true, false, false, false, false, false, false, false] rfl rfl (any_of HT_.out (by kernel_rfl)) (fun _ _ _ h => h) (Or.inl ⟨by rfl, ?_⟩) ?_ ?_
              rotate_left; (· intro w'; go_simp; with_reducible rfl)
              rotate_left; (· simp only [Act.put, List.setIfInBounds_toArray, List.set_cons_zero, List.set_cons_succ, i64_w, i32_w]; rfl)
              refine take_ (i := 3) (N := some 46) (v := ?_) (a' := ?_) #[true, true, true, true, false, false, true, true, true, true, true, true, false, false, false, false, false, false, false] rfl rfl (take_ofW HT_.out HW_.out (by kernel_rfl)) (fun _ _ _ h => h) (Or.inl ⟨by rfl, ?_⟩) hHeld ?_ ?_
              rotate_left; (· rintro w' ⟨s0, s1, s2, s3, s4, s5, s6, s7, s8, s9, s10, s11, s12, s13, s14, s15, s16, s17⟩; go_simp; with_reducible rfl)
              rotate_left; (· simp only [Act.put, List.setIfInBounds_toArray, List.set_cons_zero, List.set_cons_succ, i64_w, i32_w]; rfl)
              refine pure_ (i := 4) (N := some 47) (v := ?_) (a' := ?_) #[true, true, true, true, true, false, true, true, true, true, true, true, false, false, false, false, false, false, false] rfl rfl (any_of HT_.out (by kernel_rfl)) (fun _ _ _ h => h) (Or.inl ⟨by rfl, ?_⟩) ?_ ?_
              rotate_left; (· intro w'; go_simp; with_reducible rfl)
              rotate_left; (· simp only [Act.put, List.setIfInBounds_toArray, List.set_cons_zero, List.set_cons_succ, i64_w, i32_w]; rfl)
              refine take_ (i := 5) (N := some 48) (v := ?_) (a' := ?_) #[true, true, true, true, true, true, true, true, true, true, true, true, false, false, false, false, false, false, false] rfl rfl (take_ofW HT_.out HW_.out (by kernel_rfl)) (fun _ _ _ h => h) (Or.inl ⟨by rfl, ?_⟩) hHeld ?_ ?_
              rotate_left; (· rintro w' ⟨s0, s1, s2, s3, s4, s5, s6, s7, s8, s9, s10, s11, s12, s13, s14, s15, s16, s17⟩; go_simp; with_reducible rfl)
              rotate_left; (· simp only [Act.put, List.setIfInBounds_toArray, List.set_cons_zero, List.set_cons_succ, i64_w, i32_w]; rfl)
              refine take_ (i := 12) (N := some 55) (v := ?_) (a' := ?_) #[true, true, true, true, true, true, true, true, true, true, true, true, true, false, false, false, false, false, false] rfl rfl (take_ofW HT_.out HW_.out (by kernel_rfl)) (fun _ _ _ h => h) (Or.inl ⟨by rfl, ?_⟩) hHeld ?_ ?_
              rotate_left; (· rintro w' ⟨s0, s1, s2, s3, s4, s5, s6, s7, s8, s9, s10, s11, s12, s13, s14, s15, s16, s17⟩; go_simp; with_reducible rfl)
              rotate_left; (· simp only [Act.put, List.setIfInBounds_toArray, List.set_cons_zero, List.set_cons_succ, i64_w, i32_w]; rfl)
              refine pure_ (i := 13) (N := some 56) (v := ?_) (a' := ?_) #[true, true, true, true, true, true, true, true, true, true, true, true, true, true, false, false, false, false, false] rfl rfl (any_of HT_.out (by kernel_rfl)) (fun _ _ _ h => h) (Or.inl ⟨by rfl, ?_⟩) ?_ ?_
              rotate_left; (· intro w'; go_simp; with_reducible rfl)
              rotate_left; (· simp only [Act.put, List.setIfInBounds_toArray, List.set_cons_zero, List.set_cons_succ, i64_w, i32_w]; rfl)
              refine take_ (i := 14) (N := some 57) (v := ?_) (a' := ?_) #[true, true, true, true, true, true, true, true, true, true, true, true, true, true, true, false, false, false, false] rfl rfl (take_ofW HT_.out HW_.out (by kernel_rfl)) (fun _ _ _ h => h) (Or.inl ⟨by rfl, ?_⟩) hHeld ?_ ?_
              rotate_left; (· rintro w' ⟨s0, s1, s2, s3, s4, s5, s6, s7, s8, s9, s10, s11, s12, s13, s14, s15, s16, s17⟩; go_simp; with_reducible rfl)
              rotate_left; (· simp only [Act.put, List.setIfInBounds_toArray, List.set_cons_zero, List.set_cons_succ, i64_w, i32_w]; rfl)
              refine join_ (σ := Nat × Nat) 2 #[true, true, true, true, true, true, true, true, true, true, true, true, true, true, true, true, true, false, false] (fun s_ => [(7, .pointer (some ⟨s_.1, 0, none⟩)), (8, .pointer (some ⟨s_.2, 0, none⟩))]) (fun s_ w' => (w'.cell? ad113 = some (.int .i64 (rd l1 0)) ∧ w'.cell? (ad114.add (((rd l1 0)).toNat * 8)) = some (.int .i64 ((rd_T36 l0 (rd l1 0)).f0)) ∧ w'.cell? ⟨(ad114.add (((rd l1 0)).toNat * 8)).block, (ad114.add (((rd l1 0)).toNat * 8)).off + 1, none⟩ = some (.int .i64 ((rd_T36 l0 (rd l1 0)).f1)) ∧ w'.cell? ⟨(ad114.add (((rd l1 0)).toNat * 8)).block, (ad114.add (((rd l1 0)).toNat * 8)).off + 2, none⟩ = some (.int .i64 ((rd_T36 l0 (rd l1 0)).f2)) ∧ w'.cell? ⟨(ad114.add (((rd l1 0)).toNat * 8)).block, (ad114.add (((rd l1 0)).toNat * 8)).off + 3, none⟩ = some (.int .i64 ((rd_T36 l0 (rd l1 0)).f3.f0)) ∧ w'.cell? ⟨(ad114.add (((rd l1 0)).toNat * 8)).block, (ad114.add (((rd l1 0)).toNat * 8)).off + 4, none⟩ = some (.int .i64 ((rd_T36 l0 (rd l1 0)).f3.f1)) ∧ w'.cell? ⟨(ad114.add (((rd l1 0)).toNat * 8)).block, (ad114.add (((rd l1 0)).toNat * 8)).off + 5, none⟩ = some (.string ((rd_T36 l0 (rd l1 0)).f3.f2)) ∧ w'.cell? ⟨(ad114.add (((rd l1 0)).toNat * 8)).block, (ad114.add (((rd l1 0)).toNat * 8)).off + 6, none⟩ = some (.int .i64 ((rd_T36 l0 (rd l1 0)).f4)) ∧ w'.cell? ⟨(ad114.add (((rd l1 0)).toNat * 8)).block, (ad114.add (((rd l1 0)).toNat * 8)).off + 7, none⟩ = some (.int .i64 ((rd_T36 l0 (rd l1 0)).f5)) ∧ w'.cell? (ad113.add ((ji20)).toNat) = some (.int .i64 (rd l1 (ji20))) ∧ w'.cell? (ad114.add (((rd l1 (ji20))).toNat * 8)) = some (.int .i64 ((rd_T36 l0 (rd l1 (ji20))).f0)) ∧ w'.cell? ⟨(ad114.add (((rd l1 (ji20))).toNat * 8)).block, (ad114.add (((rd l1 (ji20))).toNat * 8)).off + 1, none⟩ = some (.int .i64 ((rd_T36 l0 (rd l1 (ji20))).f1)) ∧ w'.cell? ⟨(ad114.add (((rd l1 (ji20))).toNat * 8)).block, (ad114.add (((rd l1 (ji20))).toNat * 8)).off + 2, none⟩ = some (.int .i64 ((rd_T36 l0 (rd l1 (ji20))).f2)) ∧ w'.cell? ⟨(ad114.add (((rd l1 (ji20))).toNat * 8)).block, (ad114.add (((rd l1 (ji20))).toNat * 8)).off + 3, none⟩ = some (.int .i64 ((rd_T36 l0 (rd l1 (ji20))).f3.f0)) ∧ w'.cell? ⟨(ad114.add (((rd l1 (ji20))).toNat * 8)).block, (ad114.add (((rd l1 (ji20))).toNat * 8)).off + 4, none⟩ = some (.int .i64 ((rd_T36 l0 (rd l1 (ji20))).f3.f1)) ∧ w'.cell? ⟨(ad114.add (((rd l1 (ji20))).toNat * 8)).block, (ad114.add (((rd l1 (ji20))).toNat * 8)).off + 5, none⟩ = some (.string ((rd_T36 l0 (rd l1 (ji20))).f3.f2)) ∧ w'.cell? ⟨(ad114.add (((rd l1 (ji20))).toNat * 8)).block, (ad114.add (((rd l1 (ji20))).toNat * 8)).off + 6, none⟩ = some (.int .i64 ((rd_T36 l0 (rd l1 (ji20))).f4)) ∧ w'.cell? ⟨(ad114.add (((rd l1 (ji20))).toNat * 8)).block, (ad114.add (((rd l1 (ji20))).toNat * 8)).off + 7, none⟩ = some (.int .i64 ((rd_T36 l0 (rd l1 (ji20))).f5))) ∧ (w'.heap[s_.1]? = some (.cells #[.int .i64 0, .int .i64 0, .int .i64 0, .int .i64 0, .int .i64 0, .string (⟨#[]⟩ : ByteArray), .int .i64 0, .int .i64 0] 36 (0, 0))) ∧ (w'.heap[s_.2]? = some (.cells #[.int .i64 0, .int .i64 0, .int .i64 0, .int .i64 0, .int .i64 0, .string (⟨#[]⟩ : ByteArray), .int .i64 0, .int .i64 0] 36 (0, 0))) ∧ (w.heap.size ≤ s_.1) ∧ (w.heap.size ≤ s_.1) ∧ (s_.2 ≠ s_.1) ∧ (s_.1 ≠ s_.2) ∧ (w.heap.size ≤ s_.2) ∧ (w.heap.size ≤ s_.2) ∧ (Below w.heap.size w w')) ?_ ?_
              rotate_left
              ·
               intro hCont
               refine two_ (i := 15) (j := 16) (Ni := some 7) (Nj := some 8) #[true, true, true, true, true, true, true, true, true, true, true, true, true, true, true, true, false, false, false] #[true, true, true, true, true, true, true, true, true, true, true, true, true, true, true, false, true, false, false] rfl rfl rfl rfl (two_of HT_.out (by kernel_rfl)) (by decide) (by decide) (fun K hK => ?_) (fun K hK => ?_)
               ·
                skip
                refine box_step ?hg (N := 7) ?hd (cs := #[.int .i64 0, .int .i64 0, .int .i64 0, .int .i64 0, .int .i64 0, .string (⟨#[]⟩ : ByteArray), .int .i64 0, .int .i64 0]) (t := 36) ?hr ?_; (case hd => rfl); (case hg => rfl); (case hr => first | (go_simp; done) | (go_simp; rfl))
                intro gb117 hg w27 hbox hb
                have n0_ := Aside0.mk (below_step (by repeat (first | (with_reducible first | exact HB.out | apply below_alloc | apply pw_below_drewN | apply below_drew1) | exact HB.out)) hb)
                have n1_ := Aside0.mk (hbox)
                have n2_ := Aside0.mk ((by rw [hg]; exact (below_size (by repeat (first | (with_reducible first | exact HB.out | apply below_alloc | apply pw_below_drewN | apply below_drew1) | exact HB.out))) : w.heap.size ≤ gb117))
                have n3_ := Aside0.mk ((by rw [hg]; exact (below_size (by repeat (first | (with_reducible first | exact HB.out | apply below_alloc | apply pw_below_drewN | apply below_drew1) | exact HB.out))) : w.heap.size ≤ gb117))
                clear HB
                have HB := n0_
                have BK117 := n1_
                have GW117 := n2_
                have GE117 := n3_
                clear n0_ n1_ n2_ n3_
                clear hb hbox hg
                refine hK.out _ _ ⟨((HB.out.cell (World.block_lt_of_cell? w _ hw113_0)).trans hw113_0), ((HB.out.cell (World.block_lt_of_cell? w _ hw114_0)).trans hw114_0), ((HB.out.cell (World.block_lt_of_cell? w _ hw114_1)).trans hw114_1), ((HB.out.cell (World.block_lt_of_cell? w _ hw114_2)).trans hw114_2), ((HB.out.cell (World.block_lt_of_cell? w _ hw114_3)).trans hw114_3), ((HB.out.cell (World.block_lt_of_cell? w _ hw114_4)).trans hw114_4), ((HB.out.cell (World.block_lt_of_cell? w _ hw114_5)).trans hw114_5), ((HB.out.cell (World.block_lt_of_cell? w _ hw114_6)).trans hw114_6), ((HB.out.cell (World.block_lt_of_cell? w _ hw114_7)).trans hw114_7), ((HB.out.cell (World.block_lt_of_cell? w _ hw115_0)).trans hw115_0), ((HB.out.cell (World.block_lt_of_cell? w _ hw116_0)).trans hw116_0), ((HB.out.cell (World.block_lt_of_cell? w _ hw116_1)).trans hw116_1), ((HB.out.cell (World.block_lt_of_cell? w _ hw116_2)).trans hw116_2), ((HB.out.cell (World.block_lt_of_cell? w _ hw116_3)).trans hw116_3), ((HB.out.cell (World.block_lt_of_cell? w _ hw116_4)).trans hw116_4), ((HB.out.cell (World.block_lt_of_cell? w _ hw116_5)).trans hw116_5), ((HB.out.cell (World.block_lt_of_cell? w _ hw116_6)).trans hw116_6), ((HB.out.cell (World.block_lt_of_cell? w _ hw116_7)).trans hw116_7)⟩ (fun hHeld => ?_)
                clear hK K
                refine norm_ (a' := ?_) ?_ ?_
                rotate_left; (· show Act.put _ (some 7) _ = _; simp only [Act.put, List.setIfInBounds_toArray, List.set_cons_zero, List.set_cons_succ, i64_w, i32_w]; rfl)
                refine one_ (i := 16) (N := some 8) #[true, true, true, true, true, true, true, true, true, true, true, true, true, true, true, true, true, false, false] rfl rfl (one_of HT_.out (by kernel_rfl)) (by decide) (fun K hK => ?_)
                refine box_step ?hg (N := 8) ?hd (cs := #[.int .i64 0, .int .i64 0, .int .i64 0, .int .i64 0, .int .i64 0, .string (⟨#[]⟩ : ByteArray), .int .i64 0, .int .i64 0]) (t := 36) ?hr ?_; (case hd => rfl); (case hg => rfl); (case hr => first | (go_simp; done) | (go_simp; rfl))
                intro gb118 hg w28 hbox hb
                have n0_ := Aside0.mk (blk_below (g := gb117) (o := .cells #[.int .i64 0, .int .i64 0, .int .i64 0, .int .i64 0, .int .i64 0, .string (⟨#[]⟩ : ByteArray), .int .i64 0, .int .i64 0] 36 (0, 0)) (by (with_reducible repeat (first | refine blk_drewN ?_ _ | refine blk_drew ?_ | refine blk_alloc ?_ _)); exact BK117.out) hb)
                have n1_ := Aside0.mk (below_step (by repeat (first | (with_reducible first | exact HB.out | apply below_alloc | apply pw_below_drewN | apply below_drew1 | refine below_set ?_ GE117.out) | exact HB.out)) hb)
                have n2_ := Aside0.mk (hbox)
                have n3_ := Aside0.mk ((by rw [hg]; exact (below_size (by repeat (first | (with_reducible first | exact HB.out | apply below_alloc | apply pw_below_drewN | apply below_drew1 | refine below_set ?_ GE117.out) | exact HB.out))) : w.heap.size ≤ gb118))
                have n4_ := Aside0.mk ((by rw [hg]; exact (below_size (by repeat (first | (with_reducible first | exact HB.out | apply below_alloc | apply pw_below_drewN | apply below_drew1 | refine below_set ?_ GE117.out) | exact HB.out))) : w.heap.size ≤ gb118))
                have n5_ := Aside0.mk ((by rw [hg]; exact Nat.ne_of_lt (blk_lt (g := gb117) (o := .cells #[.int .i64 0, .int .i64 0, .int .i64 0, .int .i64 0, .int .i64 0, .string (⟨#[]⟩ : ByteArray), .int .i64 0, .int .i64 0] 36 (0, 0)) (by (with_reducible repeat (first | refine blk_drewN ?_ _ | refine blk_drew ?_ | refine blk_alloc ?_ _)); exact BK117.out)) : gb117 ≠ gb118))
                have n6_ := Aside0.mk ((by rw [hg]; exact Nat.ne_of_gt (blk_lt (g := gb117) (o := .cells #[.int .i64 0, .int .i64 0, .int .i64 0, .int .i64 0, .int .i64 0, .string (⟨#[]⟩ : ByteArray), .int .i64 0, .int .i64 0] 36 (0, 0)) (by (with_reducible repeat (first | refine blk_drewN ?_ _ | refine blk_drew ?_ | refine blk_alloc ?_ _)); exact BK117.out)) : gb118 ≠ gb117))
                clear BK117
                clear HB
                have BK117 := n0_
                have HB := n1_
                have BK118 := n2_
                have GW118 := n3_
                have GE118 := n4_
                have NB117_118 := n5_
                have NB118_117 := n6_
                clear n0_ n1_ n2_ n3_ n4_ n5_ n6_
                clear hb hbox hg
                refine hK.out _ _ ⟨((HB.out.cell (World.block_lt_of_cell? w _ hw113_0)).trans hw113_0), ((HB.out.cell (World.block_lt_of_cell? w _ hw114_0)).trans hw114_0), ((HB.out.cell (World.block_lt_of_cell? w _ hw114_1)).trans hw114_1), ((HB.out.cell (World.block_lt_of_cell? w _ hw114_2)).trans hw114_2), ((HB.out.cell (World.block_lt_of_cell? w _ hw114_3)).trans hw114_3), ((HB.out.cell (World.block_lt_of_cell? w _ hw114_4)).trans hw114_4), ((HB.out.cell (World.block_lt_of_cell? w _ hw114_5)).trans hw114_5), ((HB.out.cell (World.block_lt_of_cell? w _ hw114_6)).trans hw114_6), ((HB.out.cell (World.block_lt_of_cell? w _ hw114_7)).trans hw114_7), ((HB.out.cell (World.block_lt_of_cell? w _ hw115_0)).trans hw115_0), ((HB.out.cell (World.block_lt_of_cell? w _ hw116_0)).trans hw116_0), ((HB.out.cell (World.block_lt_of_cell? w _ hw116_1)).trans hw116_1), ((HB.out.cell (World.block_lt_of_cell? w _ hw116_2)).trans hw116_2), ((HB.out.cell (World.block_lt_of_cell? w _ hw116_3)).trans hw116_3), ((HB.out.cell (World.block_lt_of_cell? w _ hw116_4)).trans hw116_4), ((HB.out.cell (World.block_lt_of_cell? w _ hw116_5)).trans hw116_5), ((HB.out.cell (World.block_lt_of_cell? w _ hw116_6)).trans hw116_6), ((HB.out.cell (World.block_lt_of_cell? w _ hw116_7)).trans hw116_7)⟩ (fun hHeld => ?_)
                clear hK K
                refine norm_ (a' := ?_) ?_ ?_
                rotate_left; (· show Act.put _ (some 8) _ = _; simp only [Act.put, List.setIfInBounds_toArray, List.set_cons_zero, List.set_cons_succ, i64_w, i32_w]; rfl)
                exact norm_ (by simp only [putAll, Act.put, List.setIfInBounds_toArray, List.set_cons_zero, List.set_cons_succ]) (hCont (gb117, gb118) _ ⟨hHeld, (by (with_reducible repeat (first | refine blk_drewN ?_ _ | refine blk_drew ?_ | refine blk_alloc ?_ _)); exact BK117.out), (by (with_reducible repeat (first | refine blk_drewN ?_ _ | refine blk_drew ?_ | refine blk_alloc ?_ _)); exact BK118.out), GW117.out, GE117.out, NB118_117.out, NB117_118.out, GW118.out, GE118.out, (by repeat (first | (with_reducible first | exact HB.out | apply below_alloc | apply pw_below_drewN | apply below_drew1 | refine below_set ?_ GE117.out | refine below_set ?_ GE118.out) | exact HB.out))⟩)
               ·
                skip
                refine box_step ?hg (N := 8) ?hd (cs := #[.int .i64 0, .int .i64 0, .int .i64 0, .int .i64 0, .int .i64 0, .string (⟨#[]⟩ : ByteArray), .int .i64 0, .int .i64 0]) (t := 36) ?hr ?_; (case hd => rfl); (case hg => rfl); (case hr => first | (go_simp; done) | (go_simp; rfl))
                intro gb118 hg w27 hbox hb
                have n0_ := Aside0.mk (below_step (by repeat (first | (with_reducible first | exact HB.out | apply below_alloc | apply pw_below_drewN | apply below_drew1) | exact HB.out)) hb)
                have n1_ := Aside0.mk (hbox)
                have n2_ := Aside0.mk ((by rw [hg]; exact (below_size (by repeat (first | (with_reducible first | exact HB.out | apply below_alloc | apply pw_below_drewN | apply below_drew1) | exact HB.out))) : w.heap.size ≤ gb118))
                have n3_ := Aside0.mk ((by rw [hg]; exact (below_size (by repeat (first | (with_reducible first | exact HB.out | apply below_alloc | apply pw_below_drewN | apply below_drew1) | exact HB.out))) : w.heap.size ≤ gb118))
                clear HB
                have HB := n0_
                have BK118 := n1_
                have GW118 := n2_
                have GE118 := n3_
                clear n0_ n1_ n2_ n3_
                clear hb hbox hg
                refine hK.out _ _ ⟨((HB.out.cell (World.block_lt_of_cell? w _ hw113_0)).trans hw113_0), ((HB.out.cell (World.block_lt_of_cell? w _ hw114_0)).trans hw114_0), ((HB.out.cell (World.block_lt_of_cell? w _ hw114_1)).trans hw114_1), ((HB.out.cell (World.block_lt_of_cell? w _ hw114_2)).trans hw114_2), ((HB.out.cell (World.block_lt_of_cell? w _ hw114_3)).trans hw114_3), ((HB.out.cell (World.block_lt_of_cell? w _ hw114_4)).trans hw114_4), ((HB.out.cell (World.block_lt_of_cell? w _ hw114_5)).trans hw114_5), ((HB.out.cell (World.block_lt_of_cell? w _ hw114_6)).trans hw114_6), ((HB.out.cell (World.block_lt_of_cell? w _ hw114_7)).trans hw114_7), ((HB.out.cell (World.block_lt_of_cell? w _ hw115_0)).trans hw115_0), ((HB.out.cell (World.block_lt_of_cell? w _ hw116_0)).trans hw116_0), ((HB.out.cell (World.block_lt_of_cell? w _ hw116_1)).trans hw116_1), ((HB.out.cell (World.block_lt_of_cell? w _ hw116_2)).trans hw116_2), ((HB.out.cell (World.block_lt_of_cell? w _ hw116_3)).trans hw116_3), ((HB.out.cell (World.block_lt_of_cell? w _ hw116_4)).trans hw116_4), ((HB.out.cell (World.block_lt_of_cell? w _ hw116_5)).trans hw116_5), ((HB.out.cell (World.block_lt_of_cell? w _ hw116_6)).trans hw116_6), ((HB.out.cell (World.block_lt_of_cell? w _ hw116_7)).trans hw116_7)⟩ (fun hHeld => ?_)
                clear hK K
                refine norm_ (a' := ?_) ?_ ?_
                rotate_left; (· show Act.put _ (some 8) _ = _; simp only [Act.put, List.setIfInBounds_toArray, List.set_cons_zero, List.set_cons_succ, i64_w, i32_w]; rfl)
                refine one_ (i := 15) (N := some 7) #[true, true, true, true, true, true, true, true, true, true, true, true, true, true, true, true, true, false, false] rfl rfl (one_of HT_.out (by kernel_rfl)) (by decide) (fun K hK => ?_)
                refine box_step ?hg (N := 7) ?hd (cs := #[.int .i64 0, .int .i64 0, .int .i64 0, .int .i64 0, .int .i64 0, .string (⟨#[]⟩ : ByteArray), .int .i64 0, .int .i64 0]) (t := 36) ?hr ?_; (case hd => rfl); (case hg => rfl); (case hr => first | (go_simp; done) | (go_simp; rfl))
                intro gb117 hg w28 hbox hb
                have n0_ := Aside0.mk (blk_below (g := gb118) (o := .cells #[.int .i64 0, .int .i64 0, .int .i64 0, .int .i64 0, .int .i64 0, .string (⟨#[]⟩ : ByteArray), .int .i64 0, .int .i64 0] 36 (0, 0)) (by (with_reducible repeat (first | refine blk_drewN ?_ _ | refine blk_drew ?_ | refine blk_alloc ?_ _)); exact BK118.out) hb)
                have n1_ := Aside0.mk (below_step (by repeat (first | (with_reducible first | exact HB.out | apply below_alloc | apply pw_below_drewN | apply below_drew1 | refine below_set ?_ GE118.out) | exact HB.out)) hb)
                have n2_ := Aside0.mk (hbox)
                have n3_ := Aside0.mk ((by rw [hg]; exact (below_size (by repeat (first | (with_reducible first | exact HB.out | apply below_alloc | apply pw_below_drewN | apply below_drew1 | refine below_set ?_ GE118.out) | exact HB.out))) : w.heap.size ≤ gb117))
                have n4_ := Aside0.mk ((by rw [hg]; exact (below_size (by repeat (first | (with_reducible first | exact HB.out | apply below_alloc | apply pw_below_drewN | apply below_drew1 | refine below_set ?_ GE118.out) | exact HB.out))) : w.heap.size ≤ gb117))
                have n5_ := Aside0.mk ((by rw [hg]; exact Nat.ne_of_lt (blk_lt (g := gb118) (o := .cells #[.int .i64 0, .int .i64 0, .int .i64 0, .int .i64 0, .int .i64 0, .string (⟨#[]⟩ : ByteArray), .int .i64 0, .int .i64 0] 36 (0, 0)) (by (with_reducible repeat (first | refine blk_drewN ?_ _ | refine blk_drew ?_ | refine blk_alloc ?_ _)); exact BK118.out)) : gb118 ≠ gb117))
                have n6_ := Aside0.mk ((by rw [hg]; exact Nat.ne_of_gt (blk_lt (g := gb118) (o := .cells #[.int .i64 0, .int .i64 0, .int .i64 0, .int .i64 0, .int .i64 0, .string (⟨#[]⟩ : ByteArray), .int .i64 0, .int .i64 0] 36 (0, 0)) (by (with_reducible repeat (first | refine blk_drewN ?_ _ | refine blk_drew ?_ | refine blk_alloc ?_ _)); exact BK118.out)) : gb117 ≠ gb118))
                clear BK118
                clear HB
                have BK118 := n0_
                have HB := n1_
                have BK117 := n2_
                have GW117 := n3_
                have GE117 := n4_
                have NB118_117 := n5_
                have NB117_118 := n6_
                clear n0_ n1_ n2_ n3_ n4_ n5_ n6_
                clear hb hbox hg
                refine hK.out _ _ ⟨((HB.out.cell (World.block_lt_of_cell? w _ hw113_0)).trans hw113_0), ((HB.out.cell (World.block_lt_of_cell? w _ hw114_0)).trans hw114_0), ((HB.out.cell (World.block_lt_of_cell? w _ hw114_1)).trans hw114_1), ((HB.out.cell (World.block_lt_of_cell? w _ hw114_2)).trans hw114_2), ((HB.out.cell (World.block_lt_of_cell? w _ hw114_3)).trans hw114_3), ((HB.out.cell (World.block_lt_of_cell? w _ hw114_4)).trans hw114_4), ((HB.out.cell (World.block_lt_of_cell? w _ hw114_5)).trans hw114_5), ((HB.out.cell (World.block_lt_of_cell? w _ hw114_6)).trans hw114_6), ((HB.out.cell (World.block_lt_of_cell? w _ hw114_7)).trans hw114_7), ((HB.out.cell (World.block_lt_of_cell? w _ hw115_0)).trans hw115_0), ((HB.out.cell (World.block_lt_of_cell? w _ hw116_0)).trans hw116_0), ((HB.out.cell (World.block_lt_of_cell? w _ hw116_1)).trans hw116_1), ((HB.out.cell (World.block_lt_of_cell? w _ hw116_2)).trans hw116_2), ((HB.out.cell (World.block_lt_of_cell? w _ hw116_3)).trans hw116_3), ((HB.out.cell (World.block_lt_of_cell? w _ hw116_4)).trans hw116_4), ((HB.out.cell (World.block_lt_of_cell? w _ hw116_5)).trans hw116_5), ((HB.out.cell (World.block_lt_of_cell? w _ hw116_6)).trans hw116_6), ((HB.out.cell (World.block_lt_of_cell? w _ hw116_7)).trans hw116_7)⟩ (fun hHeld => ?_)
                clear hK K
                refine norm_ (a' := ?_) ?_ ?_
                rotate_left; (· show Act.put _ (some 7) _ = _; simp only [Act.put, List.setIfInBounds_toArray, List.set_cons_zero, List.set_cons_succ, i64_w, i32_w]; rfl)
                exact norm_ (by simp only [putAll, Act.put, List.setIfInBounds_toArray, List.set_cons_zero, List.set_cons_succ]) (hCont (gb117, gb118) _ ⟨hHeld, (by (with_reducible repeat (first | refine blk_drewN ?_ _ | refine blk_drew ?_ | refine blk_alloc ?_ _)); exact BK117.out), (by (with_reducible repeat (first | refine blk_drewN ?_ _ | refine blk_drew ?_ | refine blk_alloc ?_ _)); exact BK118.out), GW117.out, GE117.out, NB118_117.out, NB117_118.out, GW118.out, GE118.out, (by repeat (first | (with_reducible first | exact HB.out | apply below_alloc | apply pw_below_drewN | apply below_drew1 | refine below_set ?_ GE118.out | refine below_set ?_ GE117.out) | exact HB.out))⟩)
              rintro ⟨gb117, gb118⟩ w29 ⟨hS_, h0_, h1_, h2_, h3_, h4_, h5_, h6_, h7_, h8_⟩
              have n0_ : Aside0 (w29.heap[gb117]? = some (.cells #[.int .i64 0, .int .i64 0, .int .i64 0, .int .i64 0, .int .i64 0, .string (⟨#[]⟩ : ByteArray), .int .i64 0, .int .i64 0] 36 (0, 0))) := ⟨h0_⟩
              have n1_ : Aside0 (w29.heap[gb118]? = some (.cells #[.int .i64 0, .int .i64 0, .int .i64 0, .int .i64 0, .int .i64 0, .string (⟨#[]⟩ : ByteArray), .int .i64 0, .int .i64 0] 36 (0, 0))) := ⟨h1_⟩
              have n2_ : Aside0 (w.heap.size ≤ gb117) := ⟨h2_⟩
              have n3_ : Aside0 (w.heap.size ≤ gb117) := ⟨h3_⟩
              have n4_ : Aside0 (gb118 ≠ gb117) := ⟨h4_⟩
              have n5_ : Aside0 (gb117 ≠ gb118) := ⟨h5_⟩
              have n6_ : Aside0 (w.heap.size ≤ gb118) := ⟨h6_⟩
              have n7_ : Aside0 (w.heap.size ≤ gb118) := ⟨h7_⟩
              have n8_ : Aside0 (Below w.heap.size w w29) := ⟨h8_⟩
              clear HB
              clear h0_ h1_ h2_ h3_ h4_ h5_ h6_ h7_ h8_
              have BK117 := n0_
              have BK118 := n1_
              have GW117 := n2_
              have GE117 := n3_
              have NB118_117 := n4_
              have NB117_118 := n5_
              have GW118 := n6_
              have GE118 := n7_
              have HB := n8_
              clear n0_ n1_ n2_ n3_ n4_ n5_ n6_ n7_ n8_
              have hHeld : w29.cell? ad113 = some (.int .i64 (rd l1 0)) ∧ w29.cell? (ad114.add (((rd l1 0)).toNat * 8)) = some (.int .i64 ((rd_T36 l0 (rd l1 0)).f0)) ∧ w29.cell? ⟨(ad114.add (((rd l1 0)).toNat * 8)).block, (ad114.add (((rd l1 0)).toNat * 8)).off + 1, none⟩ = some (.int .i64 ((rd_T36 l0 (rd l1 0)).f1)) ∧ w29.cell? ⟨(ad114.add (((rd l1 0)).toNat * 8)).block, (ad114.add (((rd l1 0)).toNat * 8)).off + 2, none⟩ = some (.int .i64 ((rd_T36 l0 (rd l1 0)).f2)) ∧ w29.cell? ⟨(ad114.add (((rd l1 0)).toNat * 8)).block, (ad114.add (((rd l1 0)).toNat * 8)).off + 3, none⟩ = some (.int .i64 ((rd_T36 l0 (rd l1 0)).f3.f0)) ∧ w29.cell? ⟨(ad114.add (((rd l1 0)).toNat * 8)).block, (ad114.add (((rd l1 0)).toNat * 8)).off + 4, none⟩ = some (.int .i64 ((rd_T36 l0 (rd l1 0)).f3.f1)) ∧ w29.cell? ⟨(ad114.add (((rd l1 0)).toNat * 8)).block, (ad114.add (((rd l1 0)).toNat * 8)).off + 5, none⟩ = some (.string ((rd_T36 l0 (rd l1 0)).f3.f2)) ∧ w29.cell? ⟨(ad114.add (((rd l1 0)).toNat * 8)).block, (ad114.add (((rd l1 0)).toNat * 8)).off + 6, none⟩ = some (.int .i64 ((rd_T36 l0 (rd l1 0)).f4)) ∧ w29.cell? ⟨(ad114.add (((rd l1 0)).toNat * 8)).block, (ad114.add (((rd l1 0)).toNat * 8)).off + 7, none⟩ = some (.int .i64 ((rd_T36 l0 (rd l1 0)).f5)) ∧ w29.cell? (ad113.add ((ji20)).toNat) = some (.int .i64 (rd l1 (ji20))) ∧ w29.cell? (ad114.add (((rd l1 (ji20))).toNat * 8)) = some (.int .i64 ((rd_T36 l0 (rd l1 (ji20))).f0)) ∧ w29.cell? ⟨(ad114.add (((rd l1 (ji20))).toNat * 8)).block, (ad114.add (((rd l1 (ji20))).toNat * 8)).off + 1, none⟩ = some (.int .i64 ((rd_T36 l0 (rd l1 (ji20))).f1)) ∧ w29.cell? ⟨(ad114.add (((rd l1 (ji20))).toNat * 8)).block, (ad114.add (((rd l1 (ji20))).toNat * 8)).off + 2, none⟩ = some (.int .i64 ((rd_T36 l0 (rd l1 (ji20))).f2)) ∧ w29.cell? ⟨(ad114.add (((rd l1 (ji20))).toNat * 8)).block, (ad114.add (((rd l1 (ji20))).toNat * 8)).off + 3, none⟩ = some (.int .i64 ((rd_T36 l0 (rd l1 (ji20))).f3.f0)) ∧ w29.cell? ⟨(ad114.add (((rd l1 (ji20))).toNat * 8)).block, (ad114.add (((rd l1 (ji20))).toNat * 8)).off + 4, none⟩ = some (.int .i64 ((rd_T36 l0 (rd l1 (ji20))).f3.f1)) ∧ w29.cell? ⟨(ad114.add (((rd l1 (ji20))).toNat * 8)).block, (ad114.add (((rd l1 (ji20))).toNat * 8)).off + 5, none⟩ = some (.string ((rd_T36 l0 (rd l1 (ji20))).f3.f2)) ∧ w29.cell? ⟨(ad114.add (((rd l1 (ji20))).toNat * 8)).block, (ad114.add (((rd l1 (ji20))).toNat * 8)).off + 6, none⟩ = some (.int .i64 ((rd_T36 l0 (rd l1 (ji20))).f4)) ∧ w29.cell? ⟨(ad114.add (((rd l1 (ji20))).toNat * 8)).block, (ad114.add (((rd l1 (ji20))).toNat * 8)).off + 7, none⟩ = some (.int .i64 ((rd_T36 l0 (rd l1 (ji20))).f5)) := hS_
              refine norm_ (a' := ?_) ?_ ?_
              rotate_left; (· simp only [putAll, Act.put, List.setIfInBounds_toArray, List.set_cons_zero, List.set_cons_succ]; rfl)
              refine one_ (i := 17) (N := none) #[true, true, true, true, true, true, true, true, true, true, true, true, true, true, true, true, true, true, false] rfl rfl (one_of HT_.out (by kernel_rfl)) (by decide) (fun K hK => ?_)
              have hs30 : w29.cell? ⟨gb117, 0, none⟩ = some (.int .i64 0) := (blk_cell BK117.out 0).trans rfl
              have hfs30 := blk_frozen BK117.out 0
              have hns30_1 := NB118_117.out
              have hms30_1 := NB117_118.out
              have hs31 : w29.cell? ⟨gb117, 1, none⟩ = some (.int .i64 0) := (blk_cell BK117.out 1).trans rfl
              have hfs31 := blk_frozen BK117.out 1
              have hns31_1 := NB118_117.out
              have hms31_1 := NB117_118.out
              have hs32 : w29.cell? ⟨gb117, 2, none⟩ = some (.int .i64 0) := (blk_cell BK117.out 2).trans rfl
              have hfs32 := blk_frozen BK117.out 2
              have hns32_1 := NB118_117.out
              have hms32_1 := NB117_118.out
              have hs33 : w29.cell? ⟨gb117, 3, none⟩ = some (.int .i64 0) := (blk_cell BK117.out 3).trans rfl
              have hfs33 := blk_frozen BK117.out 3
              have hns33_1 := NB118_117.out
              have hms33_1 := NB117_118.out
              have hs34 : w29.cell? ⟨gb117, 4, none⟩ = some (.int .i64 0) := (blk_cell BK117.out 4).trans rfl
              have hfs34 := blk_frozen BK117.out 4
              have hns34_1 := NB118_117.out
              have hms34_1 := NB117_118.out
              have hs35 : w29.cell? ⟨gb117, 5, none⟩ = some (.string (⟨#[]⟩ : ByteArray)) := (blk_cell BK117.out 5).trans rfl
              have hfs35 := blk_frozen BK117.out 5
              have hns35_1 := NB118_117.out
              have hms35_1 := NB117_118.out
              have hs36 : w29.cell? ⟨gb117, 6, none⟩ = some (.int .i64 0) := (blk_cell BK117.out 6).trans rfl
              have hfs36 := blk_frozen BK117.out 6
              have hns36_1 := NB118_117.out
              have hms36_1 := NB117_118.out
              have hs37 : w29.cell? ⟨gb117, 7, none⟩ = some (.int .i64 0) := (blk_cell BK117.out 7).trans rfl
              have hfs37 := blk_frozen BK117.out 7
              have hns37_1 := NB118_117.out
              have hms37_1 := NB117_118.out
              refine skip_ (w1 := ?_) ?_ ?_ ?_ ?_
              rotate_left; (· rfl); (· rfl); (· go_simp; rfl)
              refine hK.out _ _ ⟨((cell_far (p := ⟨gb117, _, none⟩) (by exact neB hw113_0 GW117.out) _).trans (((cell_far (p := ⟨gb117, _, none⟩) (by exact neB hw113_0 GW117.out) _).trans (((cell_far (p := ⟨gb117, _, none⟩) (by exact neB hw113_0 GW117.out) _).trans (((cell_far (p := ⟨gb117, _, none⟩) (by exact neB hw113_0 GW117.out) _).trans (((cell_far (p := ⟨gb117, _, none⟩) (by exact neB hw113_0 GW117.out) _).trans (((cell_far (p := ⟨gb117, _, none⟩) (by exact neB hw113_0 GW117.out) _).trans (((cell_far (p := ⟨gb117, _, none⟩) (by exact neB hw113_0 GW117.out) _).trans (((cell_far (p := ⟨gb117, _, none⟩) (by exact neB hw113_0 GW117.out) _).trans (hHeld.1)))))))))))))))), ((cell_far (p := ⟨gb117, _, none⟩) (by exact neB hw114_0 GW117.out) _).trans (((cell_far (p := ⟨gb117, _, none⟩) (by exact neB hw114_0 GW117.out) _).trans (((cell_far (p := ⟨gb117, _, none⟩) (by exact neB hw114_0 GW117.out) _).trans (((cell_far (p := ⟨gb117, _, none⟩) (by exact neB hw114_0 GW117.out) _).trans (((cell_far (p := ⟨gb117, _, none⟩) (by exact neB hw114_0 GW117.out) _).trans (((cell_far (p := ⟨gb117, _, none⟩) (by exact neB hw114_0 GW117.out) _).trans (((cell_far (p := ⟨gb117, _, none⟩) (by exact neB hw114_0 GW117.out) _).trans (((cell_far (p := ⟨gb117, _, none⟩) (by exact neB hw114_0 GW117.out) _).trans (hHeld.2.1)))))))))))))))), ((cell_far (p := ⟨gb117, _, none⟩) (by exact neB hw114_1 GW117.out) _).trans (((cell_far (p := ⟨gb117, _, none⟩) (by exact neB hw114_1 GW117.out) _).trans (((cell_far (p := ⟨gb117, _, none⟩) (by exact neB hw114_1 GW117.out) _).trans (((cell_far (p := ⟨gb117, _, none⟩) (by exact neB hw114_1 GW117.out) _).trans (((cell_far (p := ⟨gb117, _, none⟩) (by exact neB hw114_1 GW117.out) _).trans (((cell_far (p := ⟨gb117, _, none⟩) (by exact neB hw114_1 GW117.out) _).trans (((cell_far (p := ⟨gb117, _, none⟩) (by exact neB hw114_1 GW117.out) _).trans (((cell_far (p := ⟨gb117, _, none⟩) (by exact neB hw114_1 GW117.out) _).trans (hHeld.2.2.1)))))))))))))))), ((cell_far (p := ⟨gb117, _, none⟩) (by exact neB hw114_2 GW117.out) _).trans (((cell_far (p := ⟨gb117, _, none⟩) (by exact neB hw114_2 GW117.out) _).trans (((cell_far (p := ⟨gb117, _, none⟩) (by exact neB hw114_2 GW117.out) _).trans (((cell_far (p := ⟨gb117, _, none⟩) (by exact neB hw114_2 GW117.out) _).trans (((cell_far (p := ⟨gb117, _, none⟩) (by exact neB hw114_2 GW117.out) _).trans (((cell_far (p := ⟨gb117, _, none⟩) (by exact neB hw114_2 GW117.out) _).trans (((cell_far (p := ⟨gb117, _, none⟩) (by exact neB hw114_2 GW117.out) _).trans (((cell_far (p := ⟨gb117, _, none⟩) (by exact neB hw114_2 GW117.out) _).trans (hHeld.2.2.2.1)))))))))))))))), ((cell_far (p := ⟨gb117, _, none⟩) (by exact neB hw114_3 GW117.out) _).trans (((cell_far (p := ⟨gb117, _, none⟩) (by exact neB hw114_3 GW117.out) _).trans (((cell_far (p := ⟨gb117, _, none⟩) (by exact neB hw114_3 GW117.out) _).trans (((cell_far (p := ⟨gb117, _, none⟩) (by exact neB hw114_3 GW117.out) _).trans (((cell_far (p := ⟨gb117, _, none⟩) (by exact neB hw114_3 GW117.out) _).trans (((cell_far (p := ⟨gb117, _, none⟩) (by exact neB hw114_3 GW117.out) _).trans (((cell_far (p := ⟨gb117, _, none⟩) (by exact neB hw114_3 GW117.out) _).trans (((cell_far (p := ⟨gb117, _, none⟩) (by exact neB hw114_3 GW117.out) _).trans (hHeld.2.2.2.2.1)))))))))))))))), ((cell_far (p := ⟨gb117, _, none⟩) (by exact neB hw114_4 GW117.out) _).trans (((cell_far (p := ⟨gb117, _, none⟩) (by exact neB hw114_4 GW117.out) _).trans (((cell_far (p := ⟨gb117, _, none⟩) (by exact neB hw114_4 GW117.out) _).trans (((cell_far (p := ⟨gb117, _, none⟩) (by exact neB hw114_4 GW117.out) _).trans (((cell_far (p := ⟨gb117, _, none⟩) (by exact neB hw114_4 GW117.out) _).trans (((cell_far (p := ⟨gb117, _, none⟩) (by exact neB hw114_4 GW117.out) _).trans (((cell_far (p := ⟨gb117, _, none⟩) (by exact neB hw114_4 GW117.out) _).trans (((cell_far (p := ⟨gb117, _, none⟩) (by exact neB hw114_4 GW117.out) _).trans (hHeld.2.2.2.2.2.1)))))))))))))))), ((cell_far (p := ⟨gb117, _, none⟩) (by exact neB hw114_5 GW117.out) _).trans (((cell_far (p := ⟨gb117, _, none⟩) (by exact neB hw114_5 GW117.out) _).trans (((cell_far (p := ⟨gb117, _, none⟩) (by exact neB hw114_5 GW117.out) _).trans (((cell_far (p := ⟨gb117, _, none⟩) (by exact neB hw114_5 GW117.out) _).trans (((cell_far (p := ⟨gb117, _, none⟩) (by exact neB hw114_5 GW117.out) _).trans (((cell_far (p := ⟨gb117, _, none⟩) (by exact neB hw114_5 GW117.out) _).trans (((cell_far (p := ⟨gb117, _, none⟩) (by exact neB hw114_5 GW117.out) _).trans (((cell_far (p := ⟨gb117, _, none⟩) (by exact neB hw114_5 GW117.out) _).trans (hHeld.2.2.2.2.2.2.1)))))))))))))))), ((cell_far (p := ⟨gb117, _, none⟩) (by exact neB hw114_6 GW117.out) _).trans (((cell_far (p := ⟨gb117, _, none⟩) (by exact neB hw114_6 GW117.out) _).trans (((cell_far (p := ⟨gb117, _, none⟩) (by exact neB hw114_6 GW117.out) _).trans (((cell_far (p := ⟨gb117, _, none⟩) (by exact neB hw114_6 GW117.out) _).trans (((cell_far (p := ⟨gb117, _, none⟩) (by exact neB hw114_6 GW117.out) _).trans (((cell_far (p := ⟨gb117, _, none⟩) (by exact neB hw114_6 GW117.out) _).trans (((cell_far (p := ⟨gb117, _, none⟩) (by exact neB hw114_6 GW117.out) _).trans (((cell_far (p := ⟨gb117, _, none⟩) (by exact neB hw114_6 GW117.out) _).trans (hHeld.2.2.2.2.2.2.2.1)))))))))))))))), ((cell_far (p := ⟨gb117, _, none⟩) (by exact neB hw114_7 GW117.out) _).trans (((cell_far (p := ⟨gb117, _, none⟩) (by exact neB hw114_7 GW117.out) _).trans (((cell_far (p := ⟨gb117, _, none⟩) (by exact neB hw114_7 GW117.out) _).trans (((cell_far (p := ⟨gb117, _, none⟩) (by exact neB hw114_7 GW117.out) _).trans (((cell_far (p := ⟨gb117, _, none⟩) (by exact neB hw114_7 GW117.out) _).trans (((cell_far (p := ⟨gb117, _, none⟩) (by exact neB hw114_7 GW117.out) _).trans (((cell_far (p := ⟨gb117, _, none⟩) (by exact neB hw114_7 GW117.out) _).trans (((cell_far (p := ⟨gb117, _, none⟩) (by exact neB hw114_7 GW117.out) _).trans (hHeld.2.2.2.2.2.2.2.2.1)))))))))))))))), ((cell_far (p := ⟨gb117, _, none⟩) (by exact neB hw115_0 GW117.out) _).trans (((cell_far (p := ⟨gb117, _, none⟩) (by exact neB hw115_0 GW117.out) _).trans (((cell_far (p := ⟨gb117, _, none⟩) (by exact neB hw115_0 GW117.out) _).trans (((cell_far (p := ⟨gb117, _, none⟩) (by exact neB hw115_0 GW117.out) _).trans (((cell_far (p := ⟨gb117, _, none⟩) (by exact neB hw115_0 GW117.out) _).trans (((cell_far (p := ⟨gb117, _, none⟩) (by exact neB hw115_0 GW117.out) _).trans (((cell_far (p := ⟨gb117, _, none⟩) (by exact neB hw115_0 GW117.out) _).trans (((cell_far (p := ⟨gb117, _, none⟩) (by exact neB hw115_0 GW117.out) _).trans (hHeld.2.2.2.2.2.2.2.2.2.1)))))))))))))))), ((cell_far (p := ⟨gb117, _, none⟩) (by exact neB hw116_0 GW117.out) _).trans (((cell_far (p := ⟨gb117, _, none⟩) (by exact neB hw116_0 GW117.out) _).trans (((cell_far (p := ⟨gb117, _, none⟩) (by exact neB hw116_0 GW117.out) _).trans (((cell_far (p := ⟨gb117, _, none⟩) (by exact neB hw116_0 GW117.out) _).trans (((cell_far (p := ⟨gb117, _, none⟩) (by exact neB hw116_0 GW117.out) _).trans (((cell_far (p := ⟨gb117, _, none⟩) (by exact neB hw116_0 GW117.out) _).trans (((cell_far (p := ⟨gb117, _, none⟩) (by exact neB hw116_0 GW117.out) _).trans (((cell_far (p := ⟨gb117, _, none⟩) (by exact neB hw116_0 GW117.out) _).trans (hHeld.2.2.2.2.2.2.2.2.2.2.1)))))))))))))))), ((cell_far (p := ⟨gb117, _, none⟩) (by exact neB hw116_1 GW117.out) _).trans (((cell_far (p := ⟨gb117, _, none⟩) (by exact neB hw116_1 GW117.out) _).trans (((cell_far (p := ⟨gb117, _, none⟩) (by exact neB hw116_1 GW117.out) _).trans (((cell_far (p := ⟨gb117, _, none⟩) (by exact neB hw116_1 GW117.out) _).trans (((cell_far (p := ⟨gb117, _, none⟩) (by exact neB hw116_1 GW117.out) _).trans (((cell_far (p := ⟨gb117, _, none⟩) (by exact neB hw116_1 GW117.out) _).trans (((cell_far (p := ⟨gb117, _, none⟩) (by exact neB hw116_1 GW117.out) _).trans (((cell_far (p := ⟨gb117, _, none⟩) (by exact neB hw116_1 GW117.out) _).trans (hHeld.2.2.2.2.2.2.2.2.2.2.2.1)))))))))))))))), ((cell_far (p := ⟨gb117, _, none⟩) (by exact neB hw116_2 GW117.out) _).trans (((cell_far (p := ⟨gb117, _, none⟩) (by exact neB hw116_2 GW117.out) _).trans (((cell_far (p := ⟨gb117, _, none⟩) (by exact neB hw116_2 GW117.out) _).trans (((cell_far (p := ⟨gb117, _, none⟩) (by exact neB hw116_2 GW117.out) _).trans (((cell_far (p := ⟨gb117, _, none⟩) (by exact neB hw116_2 GW117.out) _).trans (((cell_far (p := ⟨gb117, _, none⟩) (by exact neB hw116_2 GW117.out) _).trans (((cell_far (p := ⟨gb117, _, none⟩) (by exact neB hw116_2 GW117.out) _).trans (((cell_far (p := ⟨gb117, _, none⟩) (by exact neB hw116_2 GW117.out) _).trans (hHeld.2.2.2.2.2.2.2.2.2.2.2.2.1)))))))))))))))), ((cell_far (p := ⟨gb117, _, none⟩) (by exact neB hw116_3 GW117.out) _).trans (((cell_far (p := ⟨gb117, _, none⟩) (by exact neB hw116_3 GW117.out) _).trans (((cell_far (p := ⟨gb117, _, none⟩) (by exact neB hw116_3 GW117.out) _).trans (((cell_far (p := ⟨gb117, _, none⟩) (by exact neB hw116_3 GW117.out) _).trans (((cell_far (p := ⟨gb117, _, none⟩) (by exact neB hw116_3 GW117.out) _).trans (((cell_far (p := ⟨gb117, _, none⟩) (by exact neB hw116_3 GW117.out) _).trans (((cell_far (p := ⟨gb117, _, none⟩) (by exact neB hw116_3 GW117.out) _).trans (((cell_far (p := ⟨gb117, _, none⟩) (by exact neB hw116_3 GW117.out) _).trans (hHeld.2.2.2.2.2.2.2.2.2.2.2.2.2.1)))))))))))))))), ((cell_far (p := ⟨gb117, _, none⟩) (by exact neB hw116_4 GW117.out) _).trans (((cell_far (p := ⟨gb117, _, none⟩) (by exact neB hw116_4 GW117.out) _).trans (((cell_far (p := ⟨gb117, _, none⟩) (by exact neB hw116_4 GW117.out) _).trans (((cell_far (p := ⟨gb117, _, none⟩) (by exact neB hw116_4 GW117.out) _).trans (((cell_far (p := ⟨gb117, _, none⟩) (by exact neB hw116_4 GW117.out) _).trans (((cell_far (p := ⟨gb117, _, none⟩) (by exact neB hw116_4 GW117.out) _).trans (((cell_far (p := ⟨gb117, _, none⟩) (by exact neB hw116_4 GW117.out) _).trans (((cell_far (p := ⟨gb117, _, none⟩) (by exact neB hw116_4 GW117.out) _).trans (hHeld.2.2.2.2.2.2.2.2.2.2.2.2.2.2.1)))))))))))))))), ((cell_far (p := ⟨gb117, _, none⟩) (by exact neB hw116_5 GW117.out) _).trans (((cell_far (p := ⟨gb117, _, none⟩) (by exact neB hw116_5 GW117.out) _).trans (((cell_far (p := ⟨gb117, _, none⟩) (by exact neB hw116_5 GW117.out) _).trans (((cell_far (p := ⟨gb117, _, none⟩) (by exact neB hw116_5 GW117.out) _).trans (((cell_far (p := ⟨gb117, _, none⟩) (by exact neB hw116_5 GW117.out) _).trans (((cell_far (p := ⟨gb117, _, none⟩) (by exact neB hw116_5 GW117.out) _).trans (((cell_far (p := ⟨gb117, _, none⟩) (by exact neB hw116_5 GW117.out) _).trans (((cell_far (p := ⟨gb117, _, none⟩) (by exact neB hw116_5 GW117.out) _).trans (hHeld.2.2.2.2.2.2.2.2.2.2.2.2.2.2.2.1)))))))))))))))), ((cell_far (p := ⟨gb117, _, none⟩) (by exact neB hw116_6 GW117.out) _).trans (((cell_far (p := ⟨gb117, _, none⟩) (by exact neB hw116_6 GW117.out) _).trans (((cell_far (p := ⟨gb117, _, none⟩) (by exact neB hw116_6 GW117.out) _).trans (((cell_far (p := ⟨gb117, _, none⟩) (by exact neB hw116_6 GW117.out) _).trans (((cell_far (p := ⟨gb117, _, none⟩) (by exact neB hw116_6 GW117.out) _).trans (((cell_far (p := ⟨gb117, _, none⟩) (by exact neB hw116_6 GW117.out) _).trans (((cell_far (p := ⟨gb117, _, none⟩) (by exact neB hw116_6 GW117.out) _).trans (((cell_far (p := ⟨gb117, _, none⟩) (by exact neB hw116_6 GW117.out) _).trans (hHeld.2.2.2.2.2.2.2.2.2.2.2.2.2.2.2.2.1)))))))))))))))), ((cell_far (p := ⟨gb117, _, none⟩) (by exact neB hw116_7 GW117.out) _).trans (((cell_far (p := ⟨gb117, _, none⟩) (by exact neB hw116_7 GW117.out) _).trans (((cell_far (p := ⟨gb117, _, none⟩) (by exact neB hw116_7 GW117.out) _).trans (((cell_far (p := ⟨gb117, _, none⟩) (by exact neB hw116_7 GW117.out) _).trans (((cell_far (p := ⟨gb117, _, none⟩) (by exact neB hw116_7 GW117.out) _).trans (((cell_far (p := ⟨gb117, _, none⟩) (by exact neB hw116_7 GW117.out) _).trans (((cell_far (p := ⟨gb117, _, none⟩) (by exact neB hw116_7 GW117.out) _).trans (((cell_far (p := ⟨gb117, _, none⟩) (by exact neB hw116_7 GW117.out) _).trans (hHeld.2.2.2.2.2.2.2.2.2.2.2.2.2.2.2.2.2))))))))))))))))⟩ (fun hHeld => ?_)
              clear hK K
              refine one_ (i := 18) (N := none) #[true, true, true, true, true, true, true, true, true, true, true, true, true, true, true, true, true, true, true] rfl rfl (one_of HT_.out (by kernel_rfl)) (by decide) (fun K hK => ?_)
              have hs38 : w29.cell? ⟨gb118, 0, none⟩ = some (.int .i64 0) := (blk_cell BK118.out 0).trans rfl
              have hfs38 := blk_frozen BK118.out 0
              have hns38_0 := NB117_118.out
              have hms38_0 := NB118_117.out
              have hs39 : w29.cell? ⟨gb118, 1, none⟩ = some (.int .i64 0) := (blk_cell BK118.out 1).trans rfl
              have hfs39 := blk_frozen BK118.out 1
              have hns39_0 := NB117_118.out
              have hms39_0 := NB118_117.out
              have hs40 : w29.cell? ⟨gb118, 2, none⟩ = some (.int .i64 0) := (blk_cell BK118.out 2).trans rfl
              have hfs40 := blk_frozen BK118.out 2
              have hns40_0 := NB117_118.out
              have hms40_0 := NB118_117.out
              have hs41 : w29.cell? ⟨gb118, 3, none⟩ = some (.int .i64 0) := (blk_cell BK118.out 3).trans rfl
              have hfs41 := blk_frozen BK118.out 3
              have hns41_0 := NB117_118.out
              have hms41_0 := NB118_117.out
              have hs42 : w29.cell? ⟨gb118, 4, none⟩ = some (.int .i64 0) := (blk_cell BK118.out 4).trans rfl
              have hfs42 := blk_frozen BK118.out 4
              have hns42_0 := NB117_118.out
              have hms42_0 := NB118_117.out
              have hs43 : w29.cell? ⟨gb118, 5, none⟩ = some (.string (⟨#[]⟩ : ByteArray)) := (blk_cell BK118.out 5).trans rfl
              have hfs43 := blk_frozen BK118.out 5
              have hns43_0 := NB117_118.out
              have hms43_0 := NB118_117.out
              have hs44 : w29.cell? ⟨gb118, 6, none⟩ = some (.int .i64 0) := (blk_cell BK118.out 6).trans rfl
              have hfs44 := blk_frozen BK118.out 6
              have hns44_0 := NB117_118.out
              have hms44_0 := NB118_117.out
              have hs45 : w29.cell? ⟨gb118, 7, none⟩ = some (.int .i64 0) := (blk_cell BK118.out 7).trans rfl
              have hfs45 := blk_frozen BK118.out 7
              have hns45_0 := NB117_118.out
              have hms45_0 := NB118_117.out
              refine skip_ (w1 := ?_) ?_ ?_ ?_ ?_
              rotate_left; (· rfl); (· rfl); (· go_simp; rfl)
              refine hK.out _ _ ⟨((cell_far (p := ⟨gb118, _, none⟩) (by exact neB hw113_0 GW118.out) _).trans (((cell_far (p := ⟨gb118, _, none⟩) (by exact neB hw113_0 GW118.out) _).trans (((cell_far (p := ⟨gb118, _, none⟩) (by exact neB hw113_0 GW118.out) _).trans (((cell_far (p := ⟨gb118, _, none⟩) (by exact neB hw113_0 GW118.out) _).trans (((cell_far (p := ⟨gb118, _, none⟩) (by exact neB hw113_0 GW118.out) _).trans (((cell_far (p := ⟨gb118, _, none⟩) (by exact neB hw113_0 GW118.out) _).trans (((cell_far (p := ⟨gb118, _, none⟩) (by exact neB hw113_0 GW118.out) _).trans (((cell_far (p := ⟨gb118, _, none⟩) (by exact neB hw113_0 GW118.out) _).trans (hHeld.1)))))))))))))))), ((cell_far (p := ⟨gb118, _, none⟩) (by exact neB hw114_0 GW118.out) _).trans (((cell_far (p := ⟨gb118, _, none⟩) (by exact neB hw114_0 GW118.out) _).trans (((cell_far (p := ⟨gb118, _, none⟩) (by exact neB hw114_0 GW118.out) _).trans (((cell_far (p := ⟨gb118, _, none⟩) (by exact neB hw114_0 GW118.out) _).trans (((cell_far (p := ⟨gb118, _, none⟩) (by exact neB hw114_0 GW118.out) _).trans (((cell_far (p := ⟨gb118, _, none⟩) (by exact neB hw114_0 GW118.out) _).trans (((cell_far (p := ⟨gb118, _, none⟩) (by exact neB hw114_0 GW118.out) _).trans (((cell_far (p := ⟨gb118, _, none⟩) (by exact neB hw114_0 GW118.out) _).trans (hHeld.2.1)))))))))))))))), ((cell_far (p := ⟨gb118, _, none⟩) (by exact neB hw114_1 GW118.out) _).trans (((cell_far (p := ⟨gb118, _, none⟩) (by exact neB hw114_1 GW118.out) _).trans (((cell_far (p := ⟨gb118, _, none⟩) (by exact neB hw114_1 GW118.out) _).trans (((cell_far (p := ⟨gb118, _, none⟩) (by exact neB hw114_1 GW118.out) _).trans (((cell_far (p := ⟨gb118, _, none⟩) (by exact neB hw114_1 GW118.out) _).trans (((cell_far (p := ⟨gb118, _, none⟩) (by exact neB hw114_1 GW118.out) _).trans (((cell_far (p := ⟨gb118, _, none⟩) (by exact neB hw114_1 GW118.out) _).trans (((cell_far (p := ⟨gb118, _, none⟩) (by exact neB hw114_1 GW118.out) _).trans (hHeld.2.2.1)))))))))))))))), ((cell_far (p := ⟨gb118, _, none⟩) (by exact neB hw114_2 GW118.out) _).trans (((cell_far (p := ⟨gb118, _, none⟩) (by exact neB hw114_2 GW118.out) _).trans (((cell_far (p := ⟨gb118, _, none⟩) (by exact neB hw114_2 GW118.out) _).trans (((cell_far (p := ⟨gb118, _, none⟩) (by exact neB hw114_2 GW118.out) _).trans (((cell_far (p := ⟨gb118, _, none⟩) (by exact neB hw114_2 GW118.out) _).trans (((cell_far (p := ⟨gb118, _, none⟩) (by exact neB hw114_2 GW118.out) _).trans (((cell_far (p := ⟨gb118, _, none⟩) (by exact neB hw114_2 GW118.out) _).trans (((cell_far (p := ⟨gb118, _, none⟩) (by exact neB hw114_2 GW118.out) _).trans (hHeld.2.2.2.1)))))))))))))))), ((cell_far (p := ⟨gb118, _, none⟩) (by exact neB hw114_3 GW118.out) _).trans (((cell_far (p := ⟨gb118, _, none⟩) (by exact neB hw114_3 GW118.out) _).trans (((cell_far (p := ⟨gb118, _, none⟩) (by exact neB hw114_3 GW118.out) _).trans (((cell_far (p := ⟨gb118, _, none⟩) (by exact neB hw114_3 GW118.out) _).trans (((cell_far (p := ⟨gb118, _, none⟩) (by exact neB hw114_3 GW118.out) _).trans (((cell_far (p := ⟨gb118, _, none⟩) (by exact neB hw114_3 GW118.out) _).trans (((cell_far (p := ⟨gb118, _, none⟩) (by exact neB hw114_3 GW118.out) _).trans (((cell_far (p := ⟨gb118, _, none⟩) (by exact neB hw114_3 GW118.out) _).trans (hHeld.2.2.2.2.1)))))))))))))))), ((cell_far (p := ⟨gb118, _, none⟩) (by exact neB hw114_4 GW118.out) _).trans (((cell_far (p := ⟨gb118, _, none⟩) (by exact neB hw114_4 GW118.out) _).trans (((cell_far (p := ⟨gb118, _, none⟩) (by exact neB hw114_4 GW118.out) _).trans (((cell_far (p := ⟨gb118, _, none⟩) (by exact neB hw114_4 GW118.out) _).trans (((cell_far (p := ⟨gb118, _, none⟩) (by exact neB hw114_4 GW118.out) _).trans (((cell_far (p := ⟨gb118, _, none⟩) (by exact neB hw114_4 GW118.out) _).trans (((cell_far (p := ⟨gb118, _, none⟩) (by exact neB hw114_4 GW118.out) _).trans (((cell_far (p := ⟨gb118, _, none⟩) (by exact neB hw114_4 GW118.out) _).trans (hHeld.2.2.2.2.2.1)))))))))))))))), ((cell_far (p := ⟨gb118, _, none⟩) (by exact neB hw114_5 GW118.out) _).trans (((cell_far (p := ⟨gb118, _, none⟩) (by exact neB hw114_5 GW118.out) _).trans (((cell_far (p := ⟨gb118, _, none⟩) (by exact neB hw114_5 GW118.out) _).trans (((cell_far (p := ⟨gb118, _, none⟩) (by exact neB hw114_5 GW118.out) _).trans (((cell_far (p := ⟨gb118, _, none⟩) (by exact neB hw114_5 GW118.out) _).trans (((cell_far (p := ⟨gb118, _, none⟩) (by exact neB hw114_5 GW118.out) _).trans (((cell_far (p := ⟨gb118, _, none⟩) (by exact neB hw114_5 GW118.out) _).trans (((cell_far (p := ⟨gb118, _, none⟩) (by exact neB hw114_5 GW118.out) _).trans (hHeld.2.2.2.2.2.2.1)))))))))))))))), ((cell_far (p := ⟨gb118, _, none⟩) (by exact neB hw114_6 GW118.out) _).trans (((cell_far (p := ⟨gb118, _, none⟩) (by exact neB hw114_6 GW118.out) _).trans (((cell_far (p := ⟨gb118, _, none⟩) (by exact neB hw114_6 GW118.out) _).trans (((cell_far (p := ⟨gb118, _, none⟩) (by exact neB hw114_6 GW118.out) _).trans (((cell_far (p := ⟨gb118, _, none⟩) (by exact neB hw114_6 GW118.out) _).trans (((cell_far (p := ⟨gb118, _, none⟩) (by exact neB hw114_6 GW118.out) _).trans (((cell_far (p := ⟨gb118, _, none⟩) (by exact neB hw114_6 GW118.out) _).trans (((cell_far (p := ⟨gb118, _, none⟩) (by exact neB hw114_6 GW118.out) _).trans (hHeld.2.2.2.2.2.2.2.1)))))))))))))))), ((cell_far (p := ⟨gb118, _, none⟩) (by exact neB hw114_7 GW118.out) _).trans (((cell_far (p := ⟨gb118, _, none⟩) (by exact neB hw114_7 GW118.out) _).trans (((cell_far (p := ⟨gb118, _, none⟩) (by exact neB hw114_7 GW118.out) _).trans (((cell_far (p := ⟨gb118, _, none⟩) (by exact neB hw114_7 GW118.out) _).trans (((cell_far (p := ⟨gb118, _, none⟩) (by exact neB hw114_7 GW118.out) _).trans (((cell_far (p := ⟨gb118, _, none⟩) (by exact neB hw114_7 GW118.out) _).trans (((cell_far (p := ⟨gb118, _, none⟩) (by exact neB hw114_7 GW118.out) _).trans (((cell_far (p := ⟨gb118, _, none⟩) (by exact neB hw114_7 GW118.out) _).trans (hHeld.2.2.2.2.2.2.2.2.1)))))))))))))))), ((cell_far (p := ⟨gb118, _, none⟩) (by exact neB hw115_0 GW118.out) _).trans (((cell_far (p := ⟨gb118, _, none⟩) (by exact neB hw115_0 GW118.out) _).trans (((cell_far (p := ⟨gb118, _, none⟩) (by exact neB hw115_0 GW118.out) _).trans (((cell_far (p := ⟨gb118, _, none⟩) (by exact neB hw115_0 GW118.out) _).trans (((cell_far (p := ⟨gb118, _, none⟩) (by exact neB hw115_0 GW118.out) _).trans (((cell_far (p := ⟨gb118, _, none⟩) (by exact neB hw115_0 GW118.out) _).trans (((cell_far (p := ⟨gb118, _, none⟩) (by exact neB hw115_0 GW118.out) _).trans (((cell_far (p := ⟨gb118, _, none⟩) (by exact neB hw115_0 GW118.out) _).trans (hHeld.2.2.2.2.2.2.2.2.2.1)))))))))))))))), ((cell_far (p := ⟨gb118, _, none⟩) (by exact neB hw116_0 GW118.out) _).trans (((cell_far (p := ⟨gb118, _, none⟩) (by exact neB hw116_0 GW118.out) _).trans (((cell_far (p := ⟨gb118, _, none⟩) (by exact neB hw116_0 GW118.out) _).trans (((cell_far (p := ⟨gb118, _, none⟩) (by exact neB hw116_0 GW118.out) _).trans (((cell_far (p := ⟨gb118, _, none⟩) (by exact neB hw116_0 GW118.out) _).trans (((cell_far (p := ⟨gb118, _, none⟩) (by exact neB hw116_0 GW118.out) _).trans (((cell_far (p := ⟨gb118, _, none⟩) (by exact neB hw116_0 GW118.out) _).trans (((cell_far (p := ⟨gb118, _, none⟩) (by exact neB hw116_0 GW118.out) _).trans (hHeld.2.2.2.2.2.2.2.2.2.2.1)))))))))))))))), ((cell_far (p := ⟨gb118, _, none⟩) (by exact neB hw116_1 GW118.out) _).trans (((cell_far (p := ⟨gb118, _, none⟩) (by exact neB hw116_1 GW118.out) _).trans (((cell_far (p := ⟨gb118, _, none⟩) (by exact neB hw116_1 GW118.out) _).trans (((cell_far (p := ⟨gb118, _, none⟩) (by exact neB hw116_1 GW118.out) _).trans (((cell_far (p := ⟨gb118, _, none⟩) (by exact neB hw116_1 GW118.out) _).trans (((cell_far (p := ⟨gb118, _, none⟩) (by exact neB hw116_1 GW118.out) _).trans (((cell_far (p := ⟨gb118, _, none⟩) (by exact neB hw116_1 GW118.out) _).trans (((cell_far (p := ⟨gb118, _, none⟩) (by exact neB hw116_1 GW118.out) _).trans (hHeld.2.2.2.2.2.2.2.2.2.2.2.1)))))))))))))))), ((cell_far (p := ⟨gb118, _, none⟩) (by exact neB hw116_2 GW118.out) _).trans (((cell_far (p := ⟨gb118, _, none⟩) (by exact neB hw116_2 GW118.out) _).trans (((cell_far (p := ⟨gb118, _, none⟩) (by exact neB hw116_2 GW118.out) _).trans (((cell_far (p := ⟨gb118, _, none⟩) (by exact neB hw116_2 GW118.out) _).trans (((cell_far (p := ⟨gb118, _, none⟩) (by exact neB hw116_2 GW118.out) _).trans (((cell_far (p := ⟨gb118, _, none⟩) (by exact neB hw116_2 GW118.out) _).trans (((cell_far (p := ⟨gb118, _, none⟩) (by exact neB hw116_2 GW118.out) _).trans (((cell_far (p := ⟨gb118, _, none⟩) (by exact neB hw116_2 GW118.out) _).trans (hHeld.2.2.2.2.2.2.2.2.2.2.2.2.1)))))))))))))))), ((cell_far (p := ⟨gb118, _, none⟩) (by exact neB hw116_3 GW118.out) _).trans (((cell_far (p := ⟨gb118, _, none⟩) (by exact neB hw116_3 GW118.out) _).trans (((cell_far (p := ⟨gb118, _, none⟩) (by exact neB hw116_3 GW118.out) _).trans (((cell_far (p := ⟨gb118, _, none⟩) (by exact neB hw116_3 GW118.out) _).trans (((cell_far (p := ⟨gb118, _, none⟩) (by exact neB hw116_3 GW118.out) _).trans (((cell_far (p := ⟨gb118, _, none⟩) (by exact neB hw116_3 GW118.out) _).trans (((cell_far (p := ⟨gb118, _, none⟩) (by exact neB hw116_3 GW118.out) _).trans (((cell_far (p := ⟨gb118, _, none⟩) (by exact neB hw116_3 GW118.out) _).trans (hHeld.2.2.2.2.2.2.2.2.2.2.2.2.2.1)))))))))))))))), ((cell_far (p := ⟨gb118, _, none⟩) (by exact neB hw116_4 GW118.out) _).trans (((cell_far (p := ⟨gb118, _, none⟩) (by exact neB hw116_4 GW118.out) _).trans (((cell_far (p := ⟨gb118, _, none⟩) (by exact neB hw116_4 GW118.out) _).trans (((cell_far (p := ⟨gb118, _, none⟩) (by exact neB hw116_4 GW118.out) _).trans (((cell_far (p := ⟨gb118, _, none⟩) (by exact neB hw116_4 GW118.out) _).trans (((cell_far (p := ⟨gb118, _, none⟩) (by exact neB hw116_4 GW118.out) _).trans (((cell_far (p := ⟨gb118, _, none⟩) (by exact neB hw116_4 GW118.out) _).trans (((cell_far (p := ⟨gb118, _, none⟩) (by exact neB hw116_4 GW118.out) _).trans (hHeld.2.2.2.2.2.2.2.2.2.2.2.2.2.2.1)))))))))))))))), ((cell_far (p := ⟨gb118, _, none⟩) (by exact neB hw116_5 GW118.out) _).trans (((cell_far (p := ⟨gb118, _, none⟩) (by exact neB hw116_5 GW118.out) _).trans (((cell_far (p := ⟨gb118, _, none⟩) (by exact neB hw116_5 GW118.out) _).trans (((cell_far (p := ⟨gb118, _, none⟩) (by exact neB hw116_5 GW118.out) _).trans (((cell_far (p := ⟨gb118, _, none⟩) (by exact neB hw116_5 GW118.out) _).trans (((cell_far (p := ⟨gb118, _, none⟩) (by exact neB hw116_5 GW118.out) _).trans (((cell_far (p := ⟨gb118, _, none⟩) (by exact neB hw116_5 GW118.out) _).trans (((cell_far (p := ⟨gb118, _, none⟩) (by exact neB hw116_5 GW118.out) _).trans (hHeld.2.2.2.2.2.2.2.2.2.2.2.2.2.2.2.1)))))))))))))))), ((cell_far (p := ⟨gb118, _, none⟩) (by exact neB hw116_6 GW118.out) _).trans (((cell_far (p := ⟨gb118, _, none⟩) (by exact neB hw116_6 GW118.out) _).trans (((cell_far (p := ⟨gb118, _, none⟩) (by exact neB hw116_6 GW118.out) _).trans (((cell_far (p := ⟨gb118, _, none⟩) (by exact neB hw116_6 GW118.out) _).trans (((cell_far (p := ⟨gb118, _, none⟩) (by exact neB hw116_6 GW118.out) _).trans (((cell_far (p := ⟨gb118, _, none⟩) (by exact neB hw116_6 GW118.out) _).trans (((cell_far (p := ⟨gb118, _, none⟩) (by exact neB hw116_6 GW118.out) _).trans (((cell_far (p := ⟨gb118, _, none⟩) (by exact neB hw116_6 GW118.out) _).trans (hHeld.2.2.2.2.2.2.2.2.2.2.2.2.2.2.2.2.1)))))))))))))))), ((cell_far (p := ⟨gb118, _, none⟩) (by exact neB hw116_7 GW118.out) _).trans (((cell_far (p := ⟨gb118, _, none⟩) (by exact neB hw116_7 GW118.out) _).trans (((cell_far (p := ⟨gb118, _, none⟩) (by exact neB hw116_7 GW118.out) _).trans (((cell_far (p := ⟨gb118, _, none⟩) (by exact neB hw116_7 GW118.out) _).trans (((cell_far (p := ⟨gb118, _, none⟩) (by exact neB hw116_7 GW118.out) _).trans (((cell_far (p := ⟨gb118, _, none⟩) (by exact neB hw116_7 GW118.out) _).trans (((cell_far (p := ⟨gb118, _, none⟩) (by exact neB hw116_7 GW118.out) _).trans (((cell_far (p := ⟨gb118, _, none⟩) (by exact neB hw116_7 GW118.out) _).trans (hHeld.2.2.2.2.2.2.2.2.2.2.2.2.2.2.2.2.2))))))))))))))))⟩ (fun hHeld => ?_)
              clear hK K
              refine done_ (done_of HT_.out (by kernel_rfl)) ?_
              go_upto_region 10 with (fail)
              go_cut [73] (fun v73 wc => ∃ (kq : Nat) (x73_24 : Bool), v73 = .bool x73_24 ∧ Aside0 (assessorlaw09_isChain.j2 kq l0 l1 x73_24 ((rd_T36 l0 (rd l1 0)).f0) ((rd_T36 l0 (rd l1 0)).f1) ((rd_T36 l0 (rd l1 0)).f2) ((rd_T36 l0 (rd l1 0)).f3.f0) ((rd_T36 l0 (rd l1 0)).f3.f1) ((rd_T36 l0 (rd l1 0)).f3.f2) ((rd_T36 l0 (rd l1 0)).f4) ((rd_T36 l0 (rd l1 0)).f5) ((rd_T36 l0 (rd l1 (ji20))).f0) ((rd_T36 l0 (rd l1 (ji20))).f1) ((rd_T36 l0 (rd l1 (ji20))).f2) ((rd_T36 l0 (rd l1 (ji20))).f3.f0) ((rd_T36 l0 (rd l1 (ji20))).f3.f1) ((rd_T36 l0 (rd l1 (ji20))).f3.f2) ((rd_T36 l0 (rd l1 (ji20))).f4) ((rd_T36 l0 (rd l1 (ji20))).f5) = some r) ∧ Aside0 (kq ≤ k2) ∧ Aside0 (wc.heap[gb117]? = some (.cells #[.int .i64 ((rd_T36 l0 (rd l1 0)).f0), .int .i64 ((rd_T36 l0 (rd l1 0)).f1), .int .i64 ((rd_T36 l0 (rd l1 0)).f2), .int .i64 ((rd_T36 l0 (rd l1 0)).f3.f0), .int .i64 ((rd_T36 l0 (rd l1 0)).f3.f1), .string ((rd_T36 l0 (rd l1 0)).f3.f2), .int .i64 ((rd_T36 l0 (rd l1 0)).f4), .int .i64 ((rd_T36 l0 (rd l1 0)).f5)] 36 (0, 0))) ∧ Aside0 (wc.heap[gb118]? = some (.cells #[.int .i64 ((rd_T36 l0 (rd l1 (ji20))).f0), .int .i64 ((rd_T36 l0 (rd l1 (ji20))).f1), .int .i64 ((rd_T36 l0 (rd l1 (ji20))).f2), .int .i64 ((rd_T36 l0 (rd l1 (ji20))).f3.f0), .int .i64 ((rd_T36 l0 (rd l1 (ji20))).f3.f1), .string ((rd_T36 l0 (rd l1 (ji20))).f3.f2), .int .i64 ((rd_T36 l0 (rd l1 (ji20))).f4), .int .i64 ((rd_T36 l0 (rd l1 (ji20))).f5)] 36 (0, 0))) ∧ Aside0 (Below w.heap.size w wc))
              case first =>
               have H := HC25.out
               clear HC25
               by_cases c46 : ((rd_T36 l0 (rd l1 0)).f0) = 0
               ·
                rw [if_pos c46] at H
                have c46b0 : (((rd_T36 l0 (rd l1 0)).f0) == 0) = true := beq_iff_eq.mpr c46
                have c46b1 : (((rd_T36 l0 (rd l1 0)).f0) != 0) = false := bne_eq_false_iff_eq.mpr c46
                clear c46
                (first | rw [c46b0] | (simp only [i64_w, i32_w]; rw [c46b0]) | skip)
                by_cases c47 : ((rd_T36 l0 (rd l1 (ji20))).f0) = 0
                ·
                 rw [if_pos c47] at H
                 have c47b0 : (((rd_T36 l0 (rd l1 (ji20))).f0) == 0) = true := beq_iff_eq.mpr c47
                 have c47b1 : (((rd_T36 l0 (rd l1 (ji20))).f0) != 0) = false := bne_eq_false_iff_eq.mpr c47
                 clear c47
                 replace H := Option.bind_eq_some_iff.mp H
                 obtain ⟨t119, A480, H⟩ := H
                 replace H : (assessorlaw09_isChain.j2 k2 l0 l1 (!t119) ((rd_T36 l0 (rd l1 0)).f0) ((rd_T36 l0 (rd l1 0)).f1) ((rd_T36 l0 (rd l1 0)).f2) ((rd_T36 l0 (rd l1 0)).f3.f0) ((rd_T36 l0 (rd l1 0)).f3.f1) ((rd_T36 l0 (rd l1 0)).f3.f2) ((rd_T36 l0 (rd l1 0)).f4) ((rd_T36 l0 (rd l1 0)).f5) ((rd_T36 l0 (rd l1 (ji20))).f0) ((rd_T36 l0 (rd l1 (ji20))).f1) ((rd_T36 l0 (rd l1 (ji20))).f2) ((rd_T36 l0 (rd l1 (ji20))).f3.f0) ((rd_T36 l0 (rd l1 (ji20))).f3.f1) ((rd_T36 l0 (rd l1 (ji20))).f3.f2) ((rd_T36 l0 (rd l1 (ji20))).f4) ((rd_T36 l0 (rd l1 (ji20))).f5)) = some r := H
                 have A48 := Aside0.mk A480
                 clear A480
                 have H' := Aside0.mk H
                 clear H
                 have hnb49 := NB117_118.out
                 have hnc49 := NB118_117.out
                 have hcz50_0 : w29.cell? ⟨gb117, 0, none⟩ = some (.int .i64 0) := (blk_cell BK117.out 0).trans rfl
                 have hcz50_1 : w29.cell? ⟨gb117, 1, none⟩ = some (.int .i64 0) := (blk_cell BK117.out 1).trans rfl
                 have hcz50_2 : w29.cell? ⟨gb117, 2, none⟩ = some (.int .i64 0) := (blk_cell BK117.out 2).trans rfl
                 have hcz50_3 : w29.cell? ⟨gb117, 3, none⟩ = some (.int .i64 0) := (blk_cell BK117.out 3).trans rfl
                 have hcz50_4 : w29.cell? ⟨gb117, 4, none⟩ = some (.int .i64 0) := (blk_cell BK117.out 4).trans rfl
                 have hcz50_5 : w29.cell? ⟨gb117, 5, none⟩ = some (.string (⟨#[]⟩ : ByteArray)) := (blk_cell BK117.out 5).trans rfl
                 have hcz50_6 : w29.cell? ⟨gb117, 6, none⟩ = some (.int .i64 0) := (blk_cell BK117.out 6).trans rfl
                 have hcz50_7 : w29.cell? ⟨gb117, 7, none⟩ = some (.int .i64 0) := (blk_cell BK117.out 7).trans rfl
                 have hfz50_0 := blk_frozen BK117.out 0
                 have hfz50_1 := blk_frozen BK117.out 1
                 have hfz50_2 := blk_frozen BK117.out 2
                 have hfz50_3 := blk_frozen BK117.out 3
                 have hfz50_4 := blk_frozen BK117.out 4
                 have hfz50_5 := blk_frozen BK117.out 5
                 have hfz50_6 := blk_frozen BK117.out 6
                 have hfz50_7 := blk_frozen BK117.out 7
                 have hcz51_0 : w29.cell? ⟨gb118, 0, none⟩ = some (.int .i64 0) := (blk_cell BK118.out 0).trans rfl
                 have hcz51_1 : w29.cell? ⟨gb118, 1, none⟩ = some (.int .i64 0) := (blk_cell BK118.out 1).trans rfl
                 have hcz51_2 : w29.cell? ⟨gb118, 2, none⟩ = some (.int .i64 0) := (blk_cell BK118.out 2).trans rfl
                 have hcz51_3 : w29.cell? ⟨gb118, 3, none⟩ = some (.int .i64 0) := (blk_cell BK118.out 3).trans rfl
                 have hcz51_4 : w29.cell? ⟨gb118, 4, none⟩ = some (.int .i64 0) := (blk_cell BK118.out 4).trans rfl
                 have hcz51_5 : w29.cell? ⟨gb118, 5, none⟩ = some (.string (⟨#[]⟩ : ByteArray)) := (blk_cell BK118.out 5).trans rfl
                 have hcz51_6 : w29.cell? ⟨gb118, 6, none⟩ = some (.int .i64 0) := (blk_cell BK118.out 6).trans rfl
                 have hcz51_7 : w29.cell? ⟨gb118, 7, none⟩ = some (.int .i64 0) := (blk_cell BK118.out 7).trans rfl
                 have hfz51_0 := blk_frozen BK118.out 0
                 have hfz51_1 := blk_frozen BK118.out 1
                 have hfz51_2 := blk_frozen BK118.out 2
                 have hfz51_3 := blk_frozen BK118.out 3
                 have hfz51_4 := blk_frozen BK118.out 4
                 have hfz51_5 := blk_frozen BK118.out 5
                 have hfz51_6 := blk_frozen BK118.out 6
                 have hfz51_7 := blk_frozen BK118.out 7
                 go_wp2_with (first | (go_at_call 9; (with_reducible refine (assessorref09_Exclude.calls k2 ((rd_T36 l0 (rd l1 0)).f3.f0) ((rd_T36 l0 (rd l1 0)).f3.f1) ((rd_T36 l0 (rd l1 0)).f3.f2) ((rd_T36 l0 (rd l1 (ji20))).f3.f0) ((rd_T36 l0 (rd l1 (ji20))).f3.f1) ((rd_T36 l0 (rd l1 (ji20))).f3.f2) t119 _ A48.out).mono ?_); rintro e w52 ⟨rfl, hb⟩; have n0_ := Aside0.mk (blk_below (g := gb117) (o := .cells #[.int .i64 ((rd_T36 l0 (rd l1 0)).f0), .int .i64 ((rd_T36 l0 (rd l1 0)).f1), .int .i64 ((rd_T36 l0 (rd l1 0)).f2), .int .i64 ((rd_T36 l0 (rd l1 0)).f3.f0), .int .i64 ((rd_T36 l0 (rd l1 0)).f3.f1), .string ((rd_T36 l0 (rd l1 0)).f3.f2), .int .i64 ((rd_T36 l0 (rd l1 0)).f4), .int .i64 ((rd_T36 l0 (rd l1 0)).f5)] 36 (0, 0)) (by (with_reducible repeat (first | refine blk_drewN ?_ _ | refine blk_drew ?_ | refine blk_alloc ?_ _)); refine blk_far ?_ NB117_118.out _; (with_reducible repeat (first | refine blk_drewN ?_ _ | refine blk_drew ?_ | refine blk_alloc ?_ _)); refine blk_far ?_ NB117_118.out _; (with_reducible repeat (first | refine blk_drewN ?_ _ | refine blk_drew ?_ | refine blk_alloc ?_ _)); refine blk_far ?_ NB117_118.out _; (with_reducible repeat (first | refine blk_drewN ?_ _ | refine blk_drew ?_ | refine blk_alloc ?_ _)); refine blk_far ?_ NB117_118.out _; (with_reducible repeat (first | refine blk_drewN ?_ _ | refine blk_drew ?_ | refine blk_alloc ?_ _)); refine blk_far ?_ NB117_118.out _; (with_reducible repeat (first | refine blk_drewN ?_ _ | refine blk_drew ?_ | refine blk_alloc ?_ _)); refine blk_far ?_ NB117_118.out _; (with_reducible repeat (first | refine blk_drewN ?_ _ | refine blk_drew ?_ | refine blk_alloc ?_ _)); refine blk_far ?_ NB117_118.out _; (with_reducible repeat (first | refine blk_drewN ?_ _ | refine blk_drew ?_ | refine blk_alloc ?_ _)); refine blk_far ?_ NB117_118.out _; (with_reducible repeat (first | refine blk_drewN ?_ _ | refine blk_drew ?_ | refine blk_alloc ?_ _)); refine blk_put (cs := #[.int .i64 ((rd_T36 l0 (rd l1 0)).f0), .int .i64 ((rd_T36 l0 (rd l1 0)).f1), .int .i64 ((rd_T36 l0 (rd l1 0)).f2), .int .i64 ((rd_T36 l0 (rd l1 0)).f3.f0), .int .i64 ((rd_T36 l0 (rd l1 0)).f3.f1), .string ((rd_T36 l0 (rd l1 0)).f3.f2), .int .i64 ((rd_T36 l0 (rd l1 0)).f4), .int .i64 0]) ?_ 7 _ rfl; (with_reducible repeat (first | refine blk_drewN ?_ _ | refine blk_drew ?_ | refine blk_alloc ?_ _)); refine blk_put (cs := #[.int .i64 ((rd_T36 l0 (rd l1 0)).f0), .int .i64 ((rd_T36 l0 (rd l1 0)).f1), .int .i64 ((rd_T36 l0 (rd l1 0)).f2), .int .i64 ((rd_T36 l0 (rd l1 0)).f3.f0), .int .i64 ((rd_T36 l0 (rd l1 0)).f3.f1), .string ((rd_T36 l0 (rd l1 0)).f3.f2), .int .i64 0, .int .i64 0]) ?_ 6 _ rfl; (with_reducible repeat (first | refine blk_drewN ?_ _ | refine blk_drew ?_ | refine blk_alloc ?_ _)); refine blk_put (cs := #[.int .i64 ((rd_T36 l0 (rd l1 0)).f0), .int .i64 ((rd_T36 l0 (rd l1 0)).f1), .int .i64 ((rd_T36 l0 (rd l1 0)).f2), .int .i64 ((rd_T36 l0 (rd l1 0)).f3.f0), .int .i64 ((rd_T36 l0 (rd l1 0)).f3.f1), .string (⟨#[]⟩ : ByteArray), .int .i64 0, .int .i64 0]) ?_ 5 _ rfl; (with_reducible repeat (first | refine blk_drewN ?_ _ | refine blk_drew ?_ | refine blk_alloc ?_ _)); refine blk_put (cs := #[.int .i64 ((rd_T36 l0 (rd l1 0)).f0), .int .i64 ((rd_T36 l0 (rd l1 0)).f1), .int .i64 ((rd_T36 l0 (rd l1 0)).f2), .int .i64 ((rd_T36 l0 (rd l1 0)).f3.f0), .int .i64 0, .string (⟨#[]⟩ : ByteArray), .int .i64 0, .int .i64 0]) ?_ 4 _ rfl; (with_reducible repeat (first | refine blk_drewN ?_ _ | refine blk_drew ?_ | refine blk_alloc ?_ _)); refine blk_put (cs := #[.int .i64 ((rd_T36 l0 (rd l1 0)).f0), .int .i64 ((rd_T36 l0 (rd l1 0)).f1), .int .i64 ((rd_T36 l0 (rd l1 0)).f2), .int .i64 0, .int .i64 0, .string (⟨#[]⟩ : ByteArray), .int .i64 0, .int .i64 0]) ?_ 3 _ rfl; (with_reducible repeat (first | refine blk_drewN ?_ _ | refine blk_drew ?_ | refine blk_alloc ?_ _)); refine blk_put (cs := #[.int .i64 ((rd_T36 l0 (rd l1 0)).f0), .int .i64 ((rd_T36 l0 (rd l1 0)).f1), .int .i64 0, .int .i64 0, .int .i64 0, .string (⟨#[]⟩ : ByteArray), .int .i64 0, .int .i64 0]) ?_ 2 _ rfl; (with_reducible repeat (first | refine blk_drewN ?_ _ | refine blk_drew ?_ | refine blk_alloc ?_ _)); refine blk_put (cs := #[.int .i64 ((rd_T36 l0 (rd l1 0)).f0), .int .i64 0, .int .i64 0, .int .i64 0, .int .i64 0, .string (⟨#[]⟩ : ByteArray), .int .i64 0, .int .i64 0]) ?_ 1 _ rfl; (with_reducible repeat (first | refine blk_drewN ?_ _ | refine blk_drew ?_ | refine blk_alloc ?_ _)); refine blk_put (cs := #[.int .i64 0, .int .i64 0, .int .i64 0, .int .i64 0, .int .i64 0, .string (⟨#[]⟩ : ByteArray), .int .i64 0, .int .i64 0]) ?_ 0 _ rfl; (with_reducible repeat (first | refine blk_drewN ?_ _ | refine blk_drew ?_ | refine blk_alloc ?_ _)); exact BK117.out) hb); have n1_ := Aside0.mk (blk_below (g := gb118) (o := .cells #[.int .i64 ((rd_T36 l0 (rd l1 (ji20))).f0), .int .i64 ((rd_T36 l0 (rd l1 (ji20))).f1), .int .i64 ((rd_T36 l0 (rd l1 (ji20))).f2), .int .i64 ((rd_T36 l0 (rd l1 (ji20))).f3.f0), .int .i64 ((rd_T36 l0 (rd l1 (ji20))).f3.f1), .string ((rd_T36 l0 (rd l1 (ji20))).f3.f2), .int .i64 ((rd_T36 l0 (rd l1 (ji20))).f4), .int .i64 ((rd_T36 l0 (rd l1 (ji20))).f5)] 36 (0, 0)) (by (with_reducible repeat (first | refine blk_drewN ?_ _ | refine blk_drew ?_ | refine blk_alloc ?_ _)); refine blk_put (cs := #[.int .i64 ((rd_T36 l0 (rd l1 (ji20))).f0), .int .i64 ((rd_T36 l0 (rd l1 (ji20))).f1), .int .i64 ((rd_T36 l0 (rd l1 (ji20))).f2), .int .i64 ((rd_T36 l0 (rd l1 (ji20))).f3.f0), .int .i64 ((rd_T36 l0 (rd l1 (ji20))).f3.f1), .string ((rd_T36 l0 (rd l1 (ji20))).f3.f2), .int .i64 ((rd_T36 l0 (rd l1 (ji20))).f4), .int .i64 0]) ?_ 7 _ rfl; (with_reducible repeat (first | refine blk_drewN ?_ _ | refine blk_drew ?_ | refine blk_alloc ?_ _)); refine blk_put (cs := #[.int .i64 ((rd_T36 l0 (rd l1 (ji20))).f0), .int .i64 ((rd_T36 l0 (rd l1 (ji20))).f1), .int .i64 ((rd_T36 l0 (rd l1 (ji20))).f2), .int .i64 ((rd_T36 l0 (rd l1 (ji20))).f3.f0), .int .i64 ((rd_T36 l0 (rd l1 (ji20))).f3.f1), .string ((rd_T36 l0 (rd l1 (ji20))).f3.f2), .int .i64 0, .int .i64 0]) ?_ 6 _ rfl; (with_reducible repeat (first | refine blk_drewN ?_ _ | refine blk_drew ?_ | refine blk_alloc ?_ _)); refine blk_put (cs := #[.int .i64 ((rd_T36 l0 (rd l1 (ji20))).f0), .int .i64 ((rd_T36 l0 (rd l1 (ji20))).f1), .int .i64 ((rd_T36 l0 (rd l1 (ji20))).f2), .int .i64 ((rd_T36 l0 (rd l1 (ji20))).f3.f0), .int .i64 ((rd_T36 l0 (rd l1 (ji20))).f3.f1), .string (⟨#[]⟩ : ByteArray), .int .i64 0, .int .i64 0]) ?_ 5 _ rfl; (with_reducible repeat (first | refine blk_drewN ?_ _ | refine blk_drew ?_ | refine blk_alloc ?_ _)); refine blk_put (cs := #[.int .i64 ((rd_T36 l0 (rd l1 (ji20))).f0), .int .i64 ((rd_T36 l0 (rd l1 (ji20))).f1), .int .i64 ((rd_T36 l0 (rd l1 (ji20))).f2), .int .i64 ((rd_T36 l0 (rd l1 (ji20))).f3.f0), .int .i64 0, .string (⟨#[]⟩ : ByteArray), .int .i64 0, .int .i64 0]) ?_ 4 _ rfl; (with_reducible repeat (first | refine blk_drewN ?_ _ | refine blk_drew ?_ | refine blk_alloc ?_ _)); refine blk_put (cs := #[.int .i64 ((rd_T36 l0 (rd l1 (ji20))).f0), .int .i64 ((rd_T36 l0 (rd l1 (ji20))).f1), .int .i64 ((rd_T36 l0 (rd l1 (ji20))).f2), .int .i64 0, .int .i64 0, .string (⟨#[]⟩ : ByteArray), .int .i64 0, .int .i64 0]) ?_ 3 _ rfl; (with_reducible repeat (first | refine blk_drewN ?_ _ | refine blk_drew ?_ | refine blk_alloc ?_ _)); refine blk_put (cs := #[.int .i64 ((rd_T36 l0 (rd l1 (ji20))).f0), .int .i64 ((rd_T36 l0 (rd l1 (ji20))).f1), .int .i64 0, .int .i64 0, .int .i64 0, .string (⟨#[]⟩ : ByteArray), .int .i64 0, .int .i64 0]) ?_ 2 _ rfl; (with_reducible repeat (first | refine blk_drewN ?_ _ | refine blk_drew ?_ | refine blk_alloc ?_ _)); refine blk_put (cs := #[.int .i64 ((rd_T36 l0 (rd l1 (ji20))).f0), .int .i64 0, .int .i64 0, .int .i64 0, .int .i64 0, .string (⟨#[]⟩ : ByteArray), .int .i64 0, .int .i64 0]) ?_ 1 _ rfl; (with_reducible repeat (first | refine blk_drewN ?_ _ | refine blk_drew ?_ | refine blk_alloc ?_ _)); refine blk_put (cs := #[.int .i64 0, .int .i64 0, .int .i64 0, .int .i64 0, .int .i64 0, .string (⟨#[]⟩ : ByteArray), .int .i64 0, .int .i64 0]) ?_ 0 _ rfl; (with_reducible repeat (first | refine blk_drewN ?_ _ | refine blk_drew ?_ | refine blk_alloc ?_ _)); refine blk_far ?_ NB118_117.out _; (with_reducible repeat (first | refine blk_drewN ?_ _ | refine blk_drew ?_ | refine blk_alloc ?_ _)); refine blk_far ?_ NB118_117.out _; (with_reducible repeat (first | refine blk_drewN ?_ _ | refine blk_drew ?_ | refine blk_alloc ?_ _)); refine blk_far ?_ NB118_117.out _; (with_reducible repeat (first | refine blk_drewN ?_ _ | refine blk_drew ?_ | refine blk_alloc ?_ _)); refine blk_far ?_ NB118_117.out _; (with_reducible repeat (first | refine blk_drewN ?_ _ | refine blk_drew ?_ | refine blk_alloc ?_ _)); refine blk_far ?_ NB118_117.out _; (with_reducible repeat (first | refine blk_drewN ?_ _ | refine blk_drew ?_ | refine blk_alloc ?_ _)); refine blk_far ?_ NB118_117.out _; (with_reducible repeat (first | refine blk_drewN ?_ _ | refine blk_drew ?_ | refine blk_alloc ?_ _)); refine blk_far ?_ NB118_117.out _; (with_reducible repeat (first | refine blk_drewN ?_ _ | refine blk_drew ?_ | refine blk_alloc ?_ _)); refine blk_far ?_ NB118_117.out _; (with_reducible repeat (first | refine blk_drewN ?_ _ | refine blk_drew ?_ | refine blk_alloc ?_ _)); exact BK118.out) hb); have n2_ := Aside0.mk (below_step (by repeat (first | (with_reducible first | exact HB.out | apply below_alloc | apply pw_below_drewN | apply below_drew1 | refine below_set ?_ GE117.out | refine below_set ?_ GE118.out) | exact HB.out)) hb); clear BK117; clear BK118; clear HB; have BK117 := n0_; have BK118 := n1_; have HB := n2_; clear n0_ n1_ n2_; (try clear hb); (try clear hb2); (try clear hk); (try clear hi)))
                 go_meet
                 case rel => exact ⟨_, (!t119), (by first | rfl | (simp; done) | (simp [*]; done)), H', ⟨by have := HJ2.out; have := HK2.out; first | omega | exact Nat.le_refl _⟩, ⟨by (with_reducible repeat (first | refine blk_drewN ?_ _ | refine blk_drew ?_ | refine blk_alloc ?_ _)); exact BK117.out⟩, ⟨by (with_reducible repeat (first | refine blk_drewN ?_ _ | refine blk_drew ?_ | refine blk_alloc ?_ _)); exact BK118.out⟩, ⟨by repeat (first | (with_reducible first | exact HB.out | apply below_alloc | apply pw_below_drewN | apply below_drew1 | refine below_set ?_ GE117.out | refine below_set ?_ GE118.out) | exact HB.out)⟩⟩
                ·
                 rw [if_neg c47] at H
                 have c47b0 : (((rd_T36 l0 (rd l1 (ji20))).f0) == 0) = false := beq_eq_false_iff_ne.mpr c47
                 have c47b1 : (((rd_T36 l0 (rd l1 (ji20))).f0) != 0) = true := bne_iff_ne.mpr c47
                 have H' := Aside0.mk H
                 clear H
                 have hnb53 := NB117_118.out
                 have hnc53 := NB118_117.out
                 have hcz54_0 : w29.cell? ⟨gb117, 0, none⟩ = some (.int .i64 0) := (blk_cell BK117.out 0).trans rfl
                 have hcz54_1 : w29.cell? ⟨gb117, 1, none⟩ = some (.int .i64 0) := (blk_cell BK117.out 1).trans rfl
                 have hcz54_2 : w29.cell? ⟨gb117, 2, none⟩ = some (.int .i64 0) := (blk_cell BK117.out 2).trans rfl
                 have hcz54_3 : w29.cell? ⟨gb117, 3, none⟩ = some (.int .i64 0) := (blk_cell BK117.out 3).trans rfl
                 have hcz54_4 : w29.cell? ⟨gb117, 4, none⟩ = some (.int .i64 0) := (blk_cell BK117.out 4).trans rfl
                 have hcz54_5 : w29.cell? ⟨gb117, 5, none⟩ = some (.string (⟨#[]⟩ : ByteArray)) := (blk_cell BK117.out 5).trans rfl
                 have hcz54_6 : w29.cell? ⟨gb117, 6, none⟩ = some (.int .i64 0) := (blk_cell BK117.out 6).trans rfl
                 have hcz54_7 : w29.cell? ⟨gb117, 7, none⟩ = some (.int .i64 0) := (blk_cell BK117.out 7).trans rfl
                 have hfz54_0 := blk_frozen BK117.out 0
                 have hfz54_1 := blk_frozen BK117.out 1
                 have hfz54_2 := blk_frozen BK117.out 2
                 have hfz54_3 := blk_frozen BK117.out 3
                 have hfz54_4 := blk_frozen BK117.out 4
                 have hfz54_5 := blk_frozen BK117.out 5
                 have hfz54_6 := blk_frozen BK117.out 6
                 have hfz54_7 := blk_frozen BK117.out 7
                 have hcz55_0 : w29.cell? ⟨gb118, 0, none⟩ = some (.int .i64 0) := (blk_cell BK118.out 0).trans rfl
                 have hcz55_1 : w29.cell? ⟨gb118, 1, none⟩ = some (.int .i64 0) := (blk_cell BK118.out 1).trans rfl
                 have hcz55_2 : w29.cell? ⟨gb118, 2, none⟩ = some (.int .i64 0) := (blk_cell BK118.out 2).trans rfl
                 have hcz55_3 : w29.cell? ⟨gb118, 3, none⟩ = some (.int .i64 0) := (blk_cell BK118.out 3).trans rfl
                 have hcz55_4 : w29.cell? ⟨gb118, 4, none⟩ = some (.int .i64 0) := (blk_cell BK118.out 4).trans rfl
                 have hcz55_5 : w29.cell? ⟨gb118, 5, none⟩ = some (.string (⟨#[]⟩ : ByteArray)) := (blk_cell BK118.out 5).trans rfl
                 have hcz55_6 : w29.cell? ⟨gb118, 6, none⟩ = some (.int .i64 0) := (blk_cell BK118.out 6).trans rfl
                 have hcz55_7 : w29.cell? ⟨gb118, 7, none⟩ = some (.int .i64 0) := (blk_cell BK118.out 7).trans rfl
                 have hfz55_0 := blk_frozen BK118.out 0
                 have hfz55_1 := blk_frozen BK118.out 1
                 have hfz55_2 := blk_frozen BK118.out 2
                 have hfz55_3 := blk_frozen BK118.out 3
                 have hfz55_4 := blk_frozen BK118.out 4
                 have hfz55_5 := blk_frozen BK118.out 5
                 have hfz55_6 := blk_frozen BK118.out 6
                 have hfz55_7 := blk_frozen BK118.out 7
                 go_wp2
                 go_meet
                 case rel => exact ⟨_, (true), (by first | rfl | (simp; done) | (simp [*]; done)), H', ⟨by have := HJ2.out; have := HK2.out; first | omega | exact Nat.le_refl _⟩, ⟨by (with_reducible repeat (first | refine blk_drewN ?_ _ | refine blk_drew ?_ | refine blk_alloc ?_ _)); refine blk_far ?_ NB117_118.out _; (with_reducible repeat (first | refine blk_drewN ?_ _ | refine blk_drew ?_ | refine blk_alloc ?_ _)); refine blk_far ?_ NB117_118.out _; (with_reducible repeat (first | refine blk_drewN ?_ _ | refine blk_drew ?_ | refine blk_alloc ?_ _)); refine blk_far ?_ NB117_118.out _; (with_reducible repeat (first | refine blk_drewN ?_ _ | refine blk_drew ?_ | refine blk_alloc ?_ _)); refine blk_far ?_ NB117_118.out _; (with_reducible repeat (first | refine blk_drewN ?_ _ | refine blk_drew ?_ | refine blk_alloc ?_ _)); refine blk_far ?_ NB117_118.out _; (with_reducible repeat (first | refine blk_drewN ?_ _ | refine blk_drew ?_ | refine blk_alloc ?_ _)); refine blk_far ?_ NB117_118.out _; (with_reducible repeat (first | refine blk_drewN ?_ _ | refine blk_drew ?_ | refine blk_alloc ?_ _)); refine blk_far ?_ NB117_118.out _; (with_reducible repeat (first | refine blk_drewN ?_ _ | refine blk_drew ?_ | refine blk_alloc ?_ _)); refine blk_far ?_ NB117_118.out _; (with_reducible repeat (first | refine blk_drewN ?_ _ | refine blk_drew ?_ | refine blk_alloc ?_ _)); refine blk_put (cs := #[.int .i64 ((rd_T36 l0 (rd l1 0)).f0), .int .i64 ((rd_T36 l0 (rd l1 0)).f1), .int .i64 ((rd_T36 l0 (rd l1 0)).f2), .int .i64 ((rd_T36 l0 (rd l1 0)).f3.f0), .int .i64 ((rd_T36 l0 (rd l1 0)).f3.f1), .string ((rd_T36 l0 (rd l1 0)).f3.f2), .int .i64 ((rd_T36 l0 (rd l1 0)).f4), .int .i64 0]) ?_ 7 _ rfl; (with_reducible repeat (first | refine blk_drewN ?_ _ | refine blk_drew ?_ | refine blk_alloc ?_ _)); refine blk_put (cs := #[.int .i64 ((rd_T36 l0 (rd l1 0)).f0), .int .i64 ((rd_T36 l0 (rd l1 0)).f1), .int .i64 ((rd_T36 l0 (rd l1 0)).f2), .int .i64 ((rd_T36 l0 (rd l1 0)).f3.f0), .int .i64 ((rd_T36 l0 (rd l1 0)).f3.f1), .string ((rd_T36 l0 (rd l1 0)).f3.f2), .int .i64 0, .int .i64 0]) ?_ 6 _ rfl; (with_reducible repeat (first | refine blk_drewN ?_ _ | refine blk_drew ?_ | refine blk_alloc ?_ _)); refine blk_put (cs := #[.int .i64 ((rd_T36 l0 (rd l1 0)).f0), .int .i64 ((rd_T36 l0 (rd l1 0)).f1), .int .i64 ((rd_T36 l0 (rd l1 0)).f2), .int .i64 ((rd_T36 l0 (rd l1 0)).f3.f0), .int .i64 ((rd_T36 l0 (rd l1 0)).f3.f1), .string (⟨#[]⟩ : ByteArray), .int .i64 0, .int .i64 0]) ?_ 5 _ rfl; (with_reducible repeat (first | refine blk_drewN ?_ _ | refine blk_drew ?_ | refine blk_alloc ?_ _)); refine blk_put (cs := #[.int .i64 ((rd_T36 l0 (rd l1 0)).f0), .int .i64 ((rd_T36 l0 (rd l1 0)).f1), .int .i64 ((rd_T36 l0 (rd l1 0)).f2), .int .i64 ((rd_T36 l0 (rd l1 0)).f3.f0), .int .i64 0, .string (⟨#[]⟩ : ByteArray), .int .i64 0, .int .i64 0]) ?_ 4 _ rfl; (with_reducible repeat (first | refine blk_drewN ?_ _ | refine blk_drew ?_ | refine blk_alloc ?_ _)); refine blk_put (cs := #[.int .i64 ((rd_T36 l0 (rd l1 0)).f0), .int .i64 ((rd_T36 l0 (rd l1 0)).f1), .int .i64 ((rd_T36 l0 (rd l1 0)).f2), .int .i64 0, .int .i64 0, .string (⟨#[]⟩ : ByteArray), .int .i64 0, .int .i64 0]) ?_ 3 _ rfl; (with_reducible repeat (first | refine blk_drewN ?_ _ | refine blk_drew ?_ | refine blk_alloc ?_ _)); refine blk_put (cs := #[.int .i64 ((rd_T36 l0 (rd l1 0)).f0), .int .i64 ((rd_T36 l0 (rd l1 0)).f1), .int .i64 0, .int .i64 0, .int .i64 0, .string (⟨#[]⟩ : ByteArray), .int .i64 0, .int .i64 0]) ?_ 2 _ rfl; (with_reducible repeat (first | refine blk_drewN ?_ _ | refine blk_drew ?_ | refine blk_alloc ?_ _)); refine blk_put (cs := #[.int .i64 ((rd_T36 l0 (rd l1 0)).f0), .int .i64 0, .int .i64 0, .int .i64 0, .int .i64 0, .string (⟨#[]⟩ : ByteArray), .int .i64 0, .int .i64 0]) ?_ 1 _ rfl; (with_reducible repeat (first | refine blk_drewN ?_ _ | refine blk_drew ?_ | refine blk_alloc ?_ _)); refine blk_put (cs := #[.int .i64 0, .int .i64 0, .int .i64 0, .int .i64 0, .int .i64 0, .string (⟨#[]⟩ : ByteArray), .int .i64 0, .int .i64 0]) ?_ 0 _ rfl; (with_reducible repeat (first | refine blk_drewN ?_ _ | refine blk_drew ?_ | refine blk_alloc ?_ _)); exact BK117.out⟩, ⟨by (with_reducible repeat (first | refine blk_drewN ?_ _ | refine blk_drew ?_ | refine blk_alloc ?_ _)); refine blk_put (cs := #[.int .i64 ((rd_T36 l0 (rd l1 (ji20))).f0), .int .i64 ((rd_T36 l0 (rd l1 (ji20))).f1), .int .i64 ((rd_T36 l0 (rd l1 (ji20))).f2), .int .i64 ((rd_T36 l0 (rd l1 (ji20))).f3.f0), .int .i64 ((rd_T36 l0 (rd l1 (ji20))).f3.f1), .string ((rd_T36 l0 (rd l1 (ji20))).f3.f2), .int .i64 ((rd_T36 l0 (rd l1 (ji20))).f4), .int .i64 0]) ?_ 7 _ rfl; (with_reducible repeat (first | refine blk_drewN ?_ _ | refine blk_drew ?_ | refine blk_alloc ?_ _)); refine blk_put (cs := #[.int .i64 ((rd_T36 l0 (rd l1 (ji20))).f0), .int .i64 ((rd_T36 l0 (rd l1 (ji20))).f1), .int .i64 ((rd_T36 l0 (rd l1 (ji20))).f2), .int .i64 ((rd_T36 l0 (rd l1 (ji20))).f3.f0), .int .i64 ((rd_T36 l0 (rd l1 (ji20))).f3.f1), .string ((rd_T36 l0 (rd l1 (ji20))).f3.f2), .int .i64 0, .int .i64 0]) ?_ 6 _ rfl; (with_reducible repeat (first | refine blk_drewN ?_ _ | refine blk_drew ?_ | refine blk_alloc ?_ _)); refine blk_put (cs := #[.int .i64 ((rd_T36 l0 (rd l1 (ji20))).f0), .int .i64 ((rd_T36 l0 (rd l1 (ji20))).f1), .int .i64 ((rd_T36 l0 (rd l1 (ji20))).f2), .int .i64 ((rd_T36 l0 (rd l1 (ji20))).f3.f0), .int .i64 ((rd_T36 l0 (rd l1 (ji20))).f3.f1), .string (⟨#[]⟩ : ByteArray), .int .i64 0, .int .i64 0]) ?_ 5 _ rfl; (with_reducible repeat (first | refine blk_drewN ?_ _ | refine blk_drew ?_ | refine blk_alloc ?_ _)); refine blk_put (cs := #[.int .i64 ((rd_T36 l0 (rd l1 (ji20))).f0), .int .i64 ((rd_T36 l0 (rd l1 (ji20))).f1), .int .i64 ((rd_T36 l0 (rd l1 (ji20))).f2), .int .i64 ((rd_T36 l0 (rd l1 (ji20))).f3.f0), .int .i64 0, .string (⟨#[]⟩ : ByteArray), .int .i64 0, .int .i64 0]) ?_ 4 _ rfl; (with_reducible repeat (first | refine blk_drewN ?_ _ | refine blk_drew ?_ | refine blk_alloc ?_ _)); refine blk_put (cs := #[.int .i64 ((rd_T36 l0 (rd l1 (ji20))).f0), .int .i64 ((rd_T36 l0 (rd l1 (ji20))).f1), .int .i64 ((rd_T36 l0 (rd l1 (ji20))).f2), .int .i64 0, .int .i64 0, .string (⟨#[]⟩ : ByteArray), .int .i64 0, .int .i64 0]) ?_ 3 _ rfl; (with_reducible repeat (first | refine blk_drewN ?_ _ | refine blk_drew ?_ | refine blk_alloc ?_ _)); refine blk_put (cs := #[.int .i64 ((rd_T36 l0 (rd l1 (ji20))).f0), .int .i64 ((rd_T36 l0 (rd l1 (ji20))).f1), .int .i64 0, .int .i64 0, .int .i64 0, .string (⟨#[]⟩ : ByteArray), .int .i64 0, .int .i64 0]) ?_ 2 _ rfl; (with_reducible repeat (first | refine blk_drewN ?_ _ | refine blk_drew ?_ | refine blk_alloc ?_ _)); refine blk_put (cs := #[.int .i64 ((rd_T36 l0 (rd l1 (ji20))).f0), .int .i64 0, .int .i64 0, .int .i64 0, .int .i64 0, .string (⟨#[]⟩ : ByteArray), .int .i64 0, .int .i64 0]) ?_ 1 _ rfl; (with_reducible repeat (first | refine blk_drewN ?_ _ | refine blk_drew ?_ | refine blk_alloc ?_ _)); refine blk_put (cs := #[.int .i64 0, .int .i64 0, .int .i64 0, .int .i64 0, .int .i64 0, .string (⟨#[]⟩ : ByteArray), .int .i64 0, .int .i64 0]) ?_ 0 _ rfl; (with_reducible repeat (first | refine blk_drewN ?_ _ | refine blk_drew ?_ | refine blk_alloc ?_ _)); refine blk_far ?_ NB118_117.out _; (with_reducible repeat (first | refine blk_drewN ?_ _ | refine blk_drew ?_ | refine blk_alloc ?_ _)); refine blk_far ?_ NB118_117.out _; (with_reducible repeat (first | refine blk_drewN ?_ _ | refine blk_drew ?_ | refine blk_alloc ?_ _)); refine blk_far ?_ NB118_117.out _; (with_reducible repeat (first | refine blk_drewN ?_ _ | refine blk_drew ?_ | refine blk_alloc ?_ _)); refine blk_far ?_ NB118_117.out _; (with_reducible repeat (first | refine blk_drewN ?_ _ | refine blk_drew ?_ | refine blk_alloc ?_ _)); refine blk_far ?_ NB118_117.out _; (with_reducible repeat (first | refine blk_drewN ?_ _ | refine blk_drew ?_ | refine blk_alloc ?_ _)); refine blk_far ?_ NB118_117.out _; (with_reducible repeat (first | refine blk_drewN ?_ _ | refine blk_drew ?_ | refine blk_alloc ?_ _)); refine blk_far ?_ NB118_117.out _; (with_reducible repeat (first | refine blk_drewN ?_ _ | refine blk_drew ?_ | refine blk_alloc ?_ _)); refine blk_far ?_ NB118_117.out _; (with_reducible repeat (first | refine blk_drewN ?_ _ | refine blk_drew ?_ | refine blk_alloc ?_ _)); exact BK118.out⟩, ⟨by repeat (first | (with_reducible first | exact HB.out | apply below_alloc | apply pw_below_drewN | apply below_drew1 | refine below_set ?_ GE117.out | refine below_set ?_ GE118.out) | exact HB.out)⟩⟩
               ·
                rw [if_neg c46] at H
                have c46b0 : (((rd_T36 l0 (rd l1 0)).f0) == 0) = false := beq_eq_false_iff_ne.mpr c46
                have c46b1 : (((rd_T36 l0 (rd l1 0)).f0) != 0) = true := bne_iff_ne.mpr c46
                (first | rw [c46b0] | (simp only [i64_w, i32_w]; rw [c46b0]) | skip)
                have H' := Aside0.mk H
                clear H
                have hnb56 := NB117_118.out
                have hnc56 := NB118_117.out
                have hcz57_0 : w29.cell? ⟨gb117, 0, none⟩ = some (.int .i64 0) := (blk_cell BK117.out 0).trans rfl
                have hcz57_1 : w29.cell? ⟨gb117, 1, none⟩ = some (.int .i64 0) := (blk_cell BK117.out 1).trans rfl
                have hcz57_2 : w29.cell? ⟨gb117, 2, none⟩ = some (.int .i64 0) := (blk_cell BK117.out 2).trans rfl
                have hcz57_3 : w29.cell? ⟨gb117, 3, none⟩ = some (.int .i64 0) := (blk_cell BK117.out 3).trans rfl
                have hcz57_4 : w29.cell? ⟨gb117, 4, none⟩ = some (.int .i64 0) := (blk_cell BK117.out 4).trans rfl
                have hcz57_5 : w29.cell? ⟨gb117, 5, none⟩ = some (.string (⟨#[]⟩ : ByteArray)) := (blk_cell BK117.out 5).trans rfl
                have hcz57_6 : w29.cell? ⟨gb117, 6, none⟩ = some (.int .i64 0) := (blk_cell BK117.out 6).trans rfl
                have hcz57_7 : w29.cell? ⟨gb117, 7, none⟩ = some (.int .i64 0) := (blk_cell BK117.out 7).trans rfl
                have hfz57_0 := blk_frozen BK117.out 0
                have hfz57_1 := blk_frozen BK117.out 1
                have hfz57_2 := blk_frozen BK117.out 2
                have hfz57_3 := blk_frozen BK117.out 3
                have hfz57_4 := blk_frozen BK117.out 4
                have hfz57_5 := blk_frozen BK117.out 5
                have hfz57_6 := blk_frozen BK117.out 6
                have hfz57_7 := blk_frozen BK117.out 7
                go_wp2
                go_meet
                case rel => exact ⟨_, (true), (by first | rfl | (simp; done) | (simp [*]; done)), H', ⟨by have := HJ2.out; have := HK2.out; first | omega | exact Nat.le_refl _⟩, ⟨by (with_reducible repeat (first | refine blk_drewN ?_ _ | refine blk_drew ?_ | refine blk_alloc ?_ _)); refine blk_far ?_ NB117_118.out _; (with_reducible repeat (first | refine blk_drewN ?_ _ | refine blk_drew ?_ | refine blk_alloc ?_ _)); refine blk_far ?_ NB117_118.out _; (with_reducible repeat (first | refine blk_drewN ?_ _ | refine blk_drew ?_ | refine blk_alloc ?_ _)); refine blk_far ?_ NB117_118.out _; (with_reducible repeat (first | refine blk_drewN ?_ _ | refine blk_drew ?_ | refine blk_alloc ?_ _)); refine blk_far ?_ NB117_118.out _; (with_reducible repeat (first | refine blk_drewN ?_ _ | refine blk_drew ?_ | refine blk_alloc ?_ _)); refine blk_far ?_ NB117_118.out _; (with_reducible repeat (first | refine blk_drewN ?_ _ | refine blk_drew ?_ | refine blk_alloc ?_ _)); refine blk_far ?_ NB117_118.out _; (with_reducible repeat (first | refine blk_drewN ?_ _ | refine blk_drew ?_ | refine blk_alloc ?_ _)); refine blk_far ?_ NB117_118.out _; (with_reducible repeat (first | refine blk_drewN ?_ _ | refine blk_drew ?_ | refine blk_alloc ?_ _)); refine blk_far ?_ NB117_118.out _; (with_reducible repeat (first | refine blk_drewN ?_ _ | refine blk_drew ?_ | refine blk_alloc ?_ _)); refine blk_put (cs := #[.int .i64 ((rd_T36 l0 (rd l1 0)).f0), .int .i64 ((rd_T36 l0 (rd l1 0)).f1), .int .i64 ((rd_T36 l0 (rd l1 0)).f2), .int .i64 ((rd_T36 l0 (rd l1 0)).f3.f0), .int .i64 ((rd_T36 l0 (rd l1 0)).f3.f1), .string ((rd_T36 l0 (rd l1 0)).f3.f2), .int .i64 ((rd_T36 l0 (rd l1 0)).f4), .int .i64 0]) ?_ 7 _ rfl; (with_reducible repeat (first | refine blk_drewN ?_ _ | refine blk_drew ?_ | refine blk_alloc ?_ _)); refine blk_put (cs := #[.int .i64 ((rd_T36 l0 (rd l1 0)).f0), .int .i64 ((rd_T36 l0 (rd l1 0)).f1), .int .i64 ((rd_T36 l0 (rd l1 0)).f2), .int .i64 ((rd_T36 l0 (rd l1 0)).f3.f0), .int .i64 ((rd_T36 l0 (rd l1 0)).f3.f1), .string ((rd_T36 l0 (rd l1 0)).f3.f2), .int .i64 0, .int .i64 0]) ?_ 6 _ rfl; (with_reducible repeat (first | refine blk_drewN ?_ _ | refine blk_drew ?_ | refine blk_alloc ?_ _)); refine blk_put (cs := #[.int .i64 ((rd_T36 l0 (rd l1 0)).f0), .int .i64 ((rd_T36 l0 (rd l1 0)).f1), .int .i64 ((rd_T36 l0 (rd l1 0)).f2), .int .i64 ((rd_T36 l0 (rd l1 0)).f3.f0), .int .i64 ((rd_T36 l0 (rd l1 0)).f3.f1), .string (⟨#[]⟩ : ByteArray), .int .i64 0, .int .i64 0]) ?_ 5 _ rfl; (with_reducible repeat (first | refine blk_drewN ?_ _ | refine blk_drew ?_ | refine blk_alloc ?_ _)); refine blk_put (cs := #[.int .i64 ((rd_T36 l0 (rd l1 0)).f0), .int .i64 ((rd_T36 l0 (rd l1 0)).f1), .int .i64 ((rd_T36 l0 (rd l1 0)).f2), .int .i64 ((rd_T36 l0 (rd l1 0)).f3.f0), .int .i64 0, .string (⟨#[]⟩ : ByteArray), .int .i64 0, .int .i64 0]) ?_ 4 _ rfl; (with_reducible repeat (first | refine blk_drewN ?_ _ | refine blk_drew ?_ | refine blk_alloc ?_ _)); refine blk_put (cs := #[.int .i64 ((rd_T36 l0 (rd l1 0)).f0), .int .i64 ((rd_T36 l0 (rd l1 0)).f1), .int .i64 ((rd_T36 l0 (rd l1 0)).f2), .int .i64 0, .int .i64 0, .string (⟨#[]⟩ : ByteArray), .int .i64 0, .int .i64 0]) ?_ 3 _ rfl; (with_reducible repeat (first | refine blk_drewN ?_ _ | refine blk_drew ?_ | refine blk_alloc ?_ _)); refine blk_put (cs := #[.int .i64 ((rd_T36 l0 (rd l1 0)).f0), .int .i64 ((rd_T36 l0 (rd l1 0)).f1), .int .i64 0, .int .i64 0, .int .i64 0, .string (⟨#[]⟩ : ByteArray), .int .i64 0, .int .i64 0]) ?_ 2 _ rfl; (with_reducible repeat (first | refine blk_drewN ?_ _ | refine blk_drew ?_ | refine blk_alloc ?_ _)); refine blk_put (cs := #[.int .i64 ((rd_T36 l0 (rd l1 0)).f0), .int .i64 0, .int .i64 0, .int .i64 0, .int .i64 0, .string (⟨#[]⟩ : ByteArray), .int .i64 0, .int .i64 0]) ?_ 1 _ rfl; (with_reducible repeat (first | refine blk_drewN ?_ _ | refine blk_drew ?_ | refine blk_alloc ?_ _)); refine blk_put (cs := #[.int .i64 0, .int .i64 0, .int .i64 0, .int .i64 0, .int .i64 0, .string (⟨#[]⟩ : ByteArray), .int .i64 0, .int .i64 0]) ?_ 0 _ rfl; (with_reducible repeat (first | refine blk_drewN ?_ _ | refine blk_drew ?_ | refine blk_alloc ?_ _)); exact BK117.out⟩, ⟨by (with_reducible repeat (first | refine blk_drewN ?_ _ | refine blk_drew ?_ | refine blk_alloc ?_ _)); refine blk_put (cs := #[.int .i64 ((rd_T36 l0 (rd l1 (ji20))).f0), .int .i64 ((rd_T36 l0 (rd l1 (ji20))).f1), .int .i64 ((rd_T36 l0 (rd l1 (ji20))).f2), .int .i64 ((rd_T36 l0 (rd l1 (ji20))).f3.f0), .int .i64 ((rd_T36 l0 (rd l1 (ji20))).f3.f1), .string ((rd_T36 l0 (rd l1 (ji20))).f3.f2), .int .i64 ((rd_T36 l0 (rd l1 (ji20))).f4), .int .i64 0]) ?_ 7 _ rfl; (with_reducible repeat (first | refine blk_drewN ?_ _ | refine blk_drew ?_ | refine blk_alloc ?_ _)); refine blk_put (cs := #[.int .i64 ((rd_T36 l0 (rd l1 (ji20))).f0), .int .i64 ((rd_T36 l0 (rd l1 (ji20))).f1), .int .i64 ((rd_T36 l0 (rd l1 (ji20))).f2), .int .i64 ((rd_T36 l0 (rd l1 (ji20))).f3.f0), .int .i64 ((rd_T36 l0 (rd l1 (ji20))).f3.f1), .string ((rd_T36 l0 (rd l1 (ji20))).f3.f2), .int .i64 0, .int .i64 0]) ?_ 6 _ rfl; (with_reducible repeat (first | refine blk_drewN ?_ _ | refine blk_drew ?_ | refine blk_alloc ?_ _)); refine blk_put (cs := #[.int .i64 ((rd_T36 l0 (rd l1 (ji20))).f0), .int .i64 ((rd_T36 l0 (rd l1 (ji20))).f1), .int .i64 ((rd_T36 l0 (rd l1 (ji20))).f2), .int .i64 ((rd_T36 l0 (rd l1 (ji20))).f3.f0), .int .i64 ((rd_T36 l0 (rd l1 (ji20))).f3.f1), .string (⟨#[]⟩ : ByteArray), .int .i64 0, .int .i64 0]) ?_ 5 _ rfl; (with_reducible repeat (first | refine blk_drewN ?_ _ | refine blk_drew ?_ | refine blk_alloc ?_ _)); refine blk_put (cs := #[.int .i64 ((rd_T36 l0 (rd l1 (ji20))).f0), .int .i64 ((rd_T36 l0 (rd l1 (ji20))).f1), .int .i64 ((rd_T36 l0 (rd l1 (ji20))).f2), .int .i64 ((rd_T36 l0 (rd l1 (ji20))).f3.f0), .int .i64 0, .string (⟨#[]⟩ : ByteArray), .int .i64 0, .int .i64 0]) ?_ 4 _ rfl; (with_reducible repeat (first | refine blk_drewN ?_ _ | refine blk_drew ?_ | refine blk_alloc ?_ _)); refine blk_put (cs := #[.int .i64 ((rd_T36 l0 (rd l1 (ji20))).f0), .int .i64 ((rd_T36 l0 (rd l1 (ji20))).f1), .int .i64 ((rd_T36 l0 (rd l1 (ji20))).f2), .int .i64 0, .int .i64 0, .string (⟨#[]⟩ : ByteArray), .int .i64 0, .int .i64 0]) ?_ 3 _ rfl; (with_reducible repeat (first | refine blk_drewN ?_ _ | refine blk_drew ?_ | refine blk_alloc ?_ _)); refine blk_put (cs := #[.int .i64 ((rd_T36 l0 (rd l1 (ji20))).f0), .int .i64 ((rd_T36 l0 (rd l1 (ji20))).f1), .int .i64 0, .int .i64 0, .int .i64 0, .string (⟨#[]⟩ : ByteArray), .int .i64 0, .int .i64 0]) ?_ 2 _ rfl; (with_reducible repeat (first | refine blk_drewN ?_ _ | refine blk_drew ?_ | refine blk_alloc ?_ _)); refine blk_put (cs := #[.int .i64 ((rd_T36 l0 (rd l1 (ji20))).f0), .int .i64 0, .int .i64 0, .int .i64 0, .int .i64 0, .string (⟨#[]⟩ : ByteArray), .int .i64 0, .int .i64 0]) ?_ 1 _ rfl; (with_reducible repeat (first | refine blk_drewN ?_ _ | refine blk_drew ?_ | refine blk_alloc ?_ _)); refine blk_put (cs := #[.int .i64 0, .int .i64 0, .int .i64 0, .int .i64 0, .int .i64 0, .string (⟨#[]⟩ : ByteArray), .int .i64 0, .int .i64 0]) ?_ 0 _ rfl; (with_reducible repeat (first | refine blk_drewN ?_ _ | refine blk_drew ?_ | refine blk_alloc ?_ _)); refine blk_far ?_ NB118_117.out _; (with_reducible repeat (first | refine blk_drewN ?_ _ | refine blk_drew ?_ | refine blk_alloc ?_ _)); refine blk_far ?_ NB118_117.out _; (with_reducible repeat (first | refine blk_drewN ?_ _ | refine blk_drew ?_ | refine blk_alloc ?_ _)); refine blk_far ?_ NB118_117.out _; (with_reducible repeat (first | refine blk_drewN ?_ _ | refine blk_drew ?_ | refine blk_alloc ?_ _)); refine blk_far ?_ NB118_117.out _; (with_reducible repeat (first | refine blk_drewN ?_ _ | refine blk_drew ?_ | refine blk_alloc ?_ _)); refine blk_far ?_ NB118_117.out _; (with_reducible repeat (first | refine blk_drewN ?_ _ | refine blk_drew ?_ | refine blk_alloc ?_ _)); refine blk_far ?_ NB118_117.out _; (with_reducible repeat (first | refine blk_drewN ?_ _ | refine blk_drew ?_ | refine blk_alloc ?_ _)); refine blk_far ?_ NB118_117.out _; (with_reducible repeat (first | refine blk_drewN ?_ _ | refine blk_drew ?_ | refine blk_alloc ?_ _)); refine blk_far ?_ NB118_117.out _; (with_reducible repeat (first | refine blk_drewN ?_ _ | refine blk_drew ?_ | refine blk_alloc ?_ _)); exact BK118.out⟩, ⟨by repeat (first | (with_reducible first | exact HB.out | apply below_alloc | apply pw_below_drewN | apply below_drew1 | refine below_set ?_ GE117.out | refine below_set ?_ GE118.out) | exact HB.out)⟩⟩
              case rest =>
               clear HC25
               try clear c1
               try clear p1
               try clear q1
               try clear hx1
               try clear qi1
               try clear c2
               try clear p2
               try clear c4
               try clear c5
               try clear p6
               try clear p11
               try clear q11
               try clear hx11
               try clear qi11
               try clear c12
               try clear c12b0
               try clear c13
               try clear c14
               try clear c15
               try clear c15b0
               try clear c16
               try clear c16b0
               try clear c17
               try clear c17b0
               try clear c17b1
               try clear c18
               try clear c18b0
               try clear c19
               try clear c19b0
               try clear c21
               try clear c21b0
               try clear c22
               try clear c22b0
               try clear c23
               try clear c23b0
               try clear c24
               try clear c24b0
               try clear c46
               try clear c46b0
               try clear c46b1
               try clear c47
               try clear c47b0
               try clear c47b1
               try clear c49
               try clear c53
               try clear c56
               try clear hcz50_0
               try clear hcz50_1
               try clear hcz50_2
               try clear hcz50_3
               try clear hcz50_4
               try clear hcz50_5
               try clear hcz50_6
               try clear hcz50_7
               try clear hcz51_0
               try clear hcz51_1
               try clear hcz51_2
               try clear hcz51_3
               try clear hcz51_4
               try clear hcz51_5
               try clear hcz51_6
               try clear hcz51_7
               try clear hcz54_0
               try clear hcz54_1
               try clear hcz54_2
               try clear hcz54_3
               try clear hcz54_4
               try clear hcz54_5
               try clear hcz54_6
               try clear hcz54_7
               try clear hcz55_0
               try clear hcz55_1
               try clear hcz55_2
               try clear hcz55_3
               try clear hcz55_4
               try clear hcz55_5
               try clear hcz55_6
               try clear hcz55_7
               try clear hcz57_0
               try clear hcz57_1
               try clear hcz57_2
               try clear hcz57_3
               try clear hcz57_4
               try clear hcz57_5
               try clear hcz57_6
               try clear hcz57_7
               try clear hfz50_0
               try clear hfz50_1
               try clear hfz50_2
               try clear hfz50_3
               try clear hfz50_4
               try clear hfz50_5
               try clear hfz50_6
               try clear hfz50_7
               try clear hfz51_0
               try clear hfz51_1
               try clear hfz51_2
               try clear hfz51_3
               try clear hfz51_4
               try clear hfz51_5
               try clear hfz51_6
               try clear hfz51_7
               try clear hfz54_0
               try clear hfz54_1
               try clear hfz54_2
               try clear hfz54_3
               try clear hfz54_4
               try clear hfz54_5
               try clear hfz54_6
               try clear hfz54_7
               try clear hfz55_0
               try clear hfz55_1
               try clear hfz55_2
               try clear hfz55_3
               try clear hfz55_4
               try clear hfz55_5
               try clear hfz55_6
               try clear hfz55_7
               try clear hfz57_0
               try clear hfz57_1
               try clear hfz57_2
               try clear hfz57_3
               try clear hfz57_4
               try clear hfz57_5
               try clear hfz57_6
               try clear hfz57_7
               try clear hx112_0
               try clear hx113_0
               try clear hx114_0
               try clear hx114_1
               try clear hx114_2
               try clear hx114_3
               try clear hx114_4
               try clear hx114_5
               try clear hx114_6
               try clear hx114_7
               try clear hx115_0
               try clear hx116_0
               try clear hx116_1
               try clear hx116_2
               try clear hx116_3
               try clear hx116_4
               try clear hx116_5
               try clear hx116_6
               try clear hx116_7
               try clear p112
               try clear p113
               try clear p114
               try clear p115
               try clear p116
               try clear q112
               try clear q113
               try clear q114
               try clear q115
               try clear q116
               obtain ⟨kq, x73_24, rfl, HA, HJ24, BK117, BK118, HB⟩ := hcut
               cases kq with
               | zero => exact absurd HA.out (by simp [assessorlaw09_isChain.j2])
               | succ kj24 =>
                have H := HA.out
                clear HA
                simp only [assessorlaw09_isChain.j2] at H
                by_cases c58 : x73_24 = true
                ·
                 subst c58
                 have H1 : (some false) = some r := by rw [if_pos rfl] at H; exact H
                 clear H
                 have H := H1
                 clear H1
                 obtain rfl := Option.some.inj H
                 exact absurd HTru_.out (by decide)
                ·
                 replace c58 := Bool.eq_false_iff.mpr c58
                 subst c58
                 have H1 : (if 1 ≤ (wrap64 ((l1.length : Int) - 1)) then (if (wrap64 ((l1.length : Int) - 1)) ≤ (l1.length : Int) then (assessorlaw09_isChain.l1 kj24 l0 ((rd_T36 l0 (rd l1 0)).f1) ((l1.take ((wrap64 ((l1.length : Int) - 1)) : Int).toNat).drop 1) (((l1.take ((wrap64 ((l1.length : Int) - 1)) : Int).toNat).drop 1).length : Int) 0 ((rd_T36 l0 (rd l1 (ji20))).f0) ((rd_T36 l0 (rd l1 (ji20))).f1) ((rd_T36 l0 (rd l1 (ji20))).f2) ((rd_T36 l0 (rd l1 (ji20))).f3.f0) ((rd_T36 l0 (rd l1 (ji20))).f3.f1) ((rd_T36 l0 (rd l1 (ji20))).f3.f2) ((rd_T36 l0 (rd l1 (ji20))).f4) ((rd_T36 l0 (rd l1 (ji20))).f5)) else (none)) else (none)) = some r := by rw [if_neg (show ¬ (false = true) by decide)] at H; exact H
                 clear H
                 have H := H1
                 clear H1
                 by_cases c59 : 1 ≤ (wrap64 ((l1.length : Int) - 1))
                 ·
                  rw [if_pos c59] at H
                  have c59b0 := eq_true c59
                  have c59b1 : decide (1 ≤ (wrap64 ((l1.length : Int) - 1))) = true := decide_eq_true c59
                  clear c59
                  by_cases c60 : (wrap64 ((l1.length : Int) - 1)) ≤ (l1.length : Int)
                  ·
                   rw [if_pos c60] at H
                   have c60b0 := eq_true c60
                   have c60b1 : decide ((wrap64 ((l1.length : Int) - 1)) ≤ (l1.length : Int)) = true := decide_eq_true c60
                   clear c60
                   obtain ⟨ml, hml⟩ : ∃ y_ : List Int, y_ = ((l1.take ((wrap64 ((l1.length : Int) - 1)) : Int).toNat).drop 1) := ⟨_, rfl⟩
                   rw [← hml] at H
                   have H' := Aside0.mk H
                   clear H
                   have hnb61 := NB117_118.out
                   have hnc61 := NB118_117.out
                   have hcz62_0 : wc.cell? ⟨gb117, 0, none⟩ = some (.int .i64 ((rd_T36 l0 (rd l1 0)).f0)) := (blk_cell BK117.out 0).trans rfl
                   have hcz62_1 : wc.cell? ⟨gb117, 1, none⟩ = some (.int .i64 ((rd_T36 l0 (rd l1 0)).f1)) := (blk_cell BK117.out 1).trans rfl
                   have hcz62_2 : wc.cell? ⟨gb117, 2, none⟩ = some (.int .i64 ((rd_T36 l0 (rd l1 0)).f2)) := (blk_cell BK117.out 2).trans rfl
                   have hcz62_3 : wc.cell? ⟨gb117, 3, none⟩ = some (.int .i64 ((rd_T36 l0 (rd l1 0)).f3.f0)) := (blk_cell BK117.out 3).trans rfl
                   have hcz62_4 : wc.cell? ⟨gb117, 4, none⟩ = some (.int .i64 ((rd_T36 l0 (rd l1 0)).f3.f1)) := (blk_cell BK117.out 4).trans rfl
                   have hcz62_5 : wc.cell? ⟨gb117, 5, none⟩ = some (.string ((rd_T36 l0 (rd l1 0)).f3.f2)) := (blk_cell BK117.out 5).trans rfl
                   have hcz62_6 : wc.cell? ⟨gb117, 6, none⟩ = some (.int .i64 ((rd_T36 l0 (rd l1 0)).f4)) := (blk_cell BK117.out 6).trans rfl
                   have hcz62_7 : wc.cell? ⟨gb117, 7, none⟩ = some (.int .i64 ((rd_T36 l0 (rd l1 0)).f5)) := (blk_cell BK117.out 7).trans rfl
                   have hfz62_0 := blk_frozen BK117.out 0
                   have hfz62_1 := blk_frozen BK117.out 1
                   have hfz62_2 := blk_frozen BK117.out 2
                   have hfz62_3 := blk_frozen BK117.out 3
                   have hfz62_4 := blk_frozen BK117.out 4
                   have hfz62_5 := blk_frozen BK117.out 5
                   have hfz62_6 := blk_frozen BK117.out 6
                   have hfz62_7 := blk_frozen BK117.out 7
                   obtain ⟨i063, hi063, _, hsz63, _⟩ := info_parts info3
                   obtain ⟨A63, hcut63, hA63, hC63⟩ := print_mid_of (P := Try.prog) (Value.int .i64) 0 33 3 .i64 .i64 Try.underlying33 hi063 hsz63 (some ad113) c1 l1 1 (wrap64 ((l1.length : Int) - 1)) (by omega) (by first | omega | exact of_decide_eq_true (by first | (with_reducible assumption) | assumption)) (of_decide_eq_true (by first | (with_reducible assumption) | assumption)) HC1.out
                   have HR120 := Aside0.mk (Kd.C_of_reads (h1 := fun _ => rfl) (hA63 _ (Kd.reads_of_C HR1.out)))
                   have HC120 := Aside0.mk hC63
                   clear hA63 hC63 hi063 hsz63
                   have hml' : ml = List.drop (Int.toNat 1) (List.take (wrap64 ((l1.length : Int) - 1)).toNat l1) := hml
                   rw [← hml'] at hcut63 HR120 HC120
                   have Nml := Aside0.mk hml
                   clear hml hml'
                   have NJ20 := Aside0.mk hji20
                   clear hji20 hji20w
                   go_wp2
                   go_loopg [9, 82] kj24 (fun kq v9 v82 w' => ∃ (x9_4 : Int) (x82_4 : Int), v9 = .int .i64 x9_4 ∧ v82 = .int .i64 x82_4 ∧ Aside0 (assessorlaw09_isChain.l1 kq l0 x9_4 ml (ml.length : Int) x82_4 ((rd_T36 l0 (rd l1 (ji20))).f0) ((rd_T36 l0 (rd l1 (ji20))).f1) ((rd_T36 l0 (rd l1 (ji20))).f2) ((rd_T36 l0 (rd l1 (ji20))).f3.f0) ((rd_T36 l0 (rd l1 (ji20))).f3.f1) ((rd_T36 l0 (rd l1 (ji20))).f3.f2) ((rd_T36 l0 (rd l1 (ji20))).f4) ((rd_T36 l0 (rd l1 (ji20))).f5) = some r) ∧ Aside0 (kq ≤ kj24) ∧ Aside0 (w'.heap[gb117]? = some (.cells #[.int .i64 ((rd_T36 l0 (rd l1 0)).f0), .int .i64 ((rd_T36 l0 (rd l1 0)).f1), .int .i64 ((rd_T36 l0 (rd l1 0)).f2), .int .i64 ((rd_T36 l0 (rd l1 0)).f3.f0), .int .i64 ((rd_T36 l0 (rd l1 0)).f3.f1), .string ((rd_T36 l0 (rd l1 0)).f3.f2), .int .i64 ((rd_T36 l0 (rd l1 0)).f4), .int .i64 ((rd_T36 l0 (rd l1 0)).f5)] 36 (0, 0))) ∧ Aside0 (w'.heap[gb118]? = some (.cells #[.int .i64 ((rd_T36 l0 (rd l1 (ji20))).f0), .int .i64 ((rd_T36 l0 (rd l1 (ji20))).f1), .int .i64 ((rd_T36 l0 (rd l1 (ji20))).f2), .int .i64 ((rd_T36 l0 (rd l1 (ji20))).f3.f0), .int .i64 ((rd_T36 l0 (rd l1 (ji20))).f3.f1), .string ((rd_T36 l0 (rd l1 (ji20))).f3.f2), .int .i64 ((rd_T36 l0 (rd l1 (ji20))).f4), .int .i64 ((rd_T36 l0 (rd l1 (ji20))).f5)] 36 (0, 0))) ∧ Aside0 (Below w.heap.size w w'))
                   case atStart => exact ⟨(((rd_T36 l0 (rd l1 0)).f1)), (0), (by first | rfl | (simp; done) | (simp [*]; done)), (by first | rfl | (simp; done) | (simp [*]; done)), H', ⟨Nat.le_refl _⟩, ⟨by (with_reducible repeat (first | refine blk_drewN ?_ _ | refine blk_drew ?_ | refine blk_alloc ?_ _)); exact BK117.out⟩, ⟨by (with_reducible repeat (first | refine blk_drewN ?_ _ | refine blk_drew ?_ | refine blk_alloc ?_ _)); exact BK118.out⟩, ⟨by repeat (first | (with_reducible first | exact HB.out | apply below_alloc | apply pw_below_drewN | apply below_drew1 | refine below_set ?_ GE117.out | refine below_set ?_ GE118.out) | exact HB.out)⟩⟩
                   case round =>
                    clear H'
                    try clear c1
                    try clear p1
                    try clear q1
                    try clear hx1
                    try clear qi1
                    try clear c2
                    try clear p2
                    try clear c4
                    try clear c5
                    try clear c6
                    try clear p6
                    try clear p11
                    try clear q11
                    try clear hx11
                    try clear qi11
                    try clear c12
                    try clear c12b0
                    try clear c13
                    try clear c14
                    try clear c15
                    try clear c15b0
                    try clear c16
                    try clear c16b0
                    try clear c17
                    try clear c17b0
                    try clear c17b1
                    try clear c18
                    try clear c18b0
                    try clear c19
                    try clear c19b0
                    try clear c21
                    try clear c21b0
                    try clear c22
                    try clear c22b0
                    try clear c23
                    try clear c23b0
                    try clear c24
                    try clear c24b0
                    try clear c46
                    try clear c46b0
                    try clear c46b1
                    try clear c47
                    try clear c47b0
                    try clear c47b1
                    try clear c49
                    try clear c53
                    try clear c56
                    try clear c58
                    try clear c59
                    try clear c59b0
                    try clear c59b1
                    try clear c60
                    try clear c60b0
                    try clear c60b1
                    try clear c61
                    try clear hcz50_0
                    try clear hcz50_1
                    try clear hcz50_2
                    try clear hcz50_3
                    try clear hcz50_4
                    try clear hcz50_5
                    try clear hcz50_6
                    try clear hcz50_7
                    try clear hcz51_0
                    try clear hcz51_1
                    try clear hcz51_2
                    try clear hcz51_3
                    try clear hcz51_4
                    try clear hcz51_5
                    try clear hcz51_6
                    try clear hcz51_7
                    try clear hcz54_0
                    try clear hcz54_1
                    try clear hcz54_2
                    try clear hcz54_3
                    try clear hcz54_4
                    try clear hcz54_5
                    try clear hcz54_6
                    try clear hcz54_7
                    try clear hcz55_0
                    try clear hcz55_1
                    try clear hcz55_2
                    try clear hcz55_3
                    try clear hcz55_4
                    try clear hcz55_5
                    try clear hcz55_6
                    try clear hcz55_7
                    try clear hcz57_0
                    try clear hcz57_1
                    try clear hcz57_2
                    try clear hcz57_3
                    try clear hcz57_4
                    try clear hcz57_5
                    try clear hcz57_6
                    try clear hcz57_7
                    try clear hcz62_0
                    try clear hcz62_1
                    try clear hcz62_2
                    try clear hcz62_3
                    try clear hcz62_4
                    try clear hcz62_5
                    try clear hcz62_6
                    try clear hcz62_7
                    try clear hfz50_0
                    try clear hfz50_1
                    try clear hfz50_2
                    try clear hfz50_3
                    try clear hfz50_4
                    try clear hfz50_5
                    try clear hfz50_6
                    try clear hfz50_7
                    try clear hfz51_0
                    try clear hfz51_1
                    try clear hfz51_2
                    try clear hfz51_3
                    try clear hfz51_4
                    try clear hfz51_5
                    try clear hfz51_6
                    try clear hfz51_7
                    try clear hfz54_0
                    try clear hfz54_1
                    try clear hfz54_2
                    try clear hfz54_3
                    try clear hfz54_4
                    try clear hfz54_5
                    try clear hfz54_6
                    try clear hfz54_7
                    try clear hfz55_0
                    try clear hfz55_1
                    try clear hfz55_2
                    try clear hfz55_3
                    try clear hfz55_4
                    try clear hfz55_5
                    try clear hfz55_6
                    try clear hfz55_7
                    try clear hfz57_0
                    try clear hfz57_1
                    try clear hfz57_2
                    try clear hfz57_3
                    try clear hfz57_4
                    try clear hfz57_5
                    try clear hfz57_6
                    try clear hfz57_7
                    try clear hfz62_0
                    try clear hfz62_1
                    try clear hfz62_2
                    try clear hfz62_3
                    try clear hfz62_4
                    try clear hfz62_5
                    try clear hfz62_6
                    try clear hfz62_7
                    try clear hx112_0
                    try clear hx113_0
                    try clear hx114_0
                    try clear hx114_1
                    try clear hx114_2
                    try clear hx114_3
                    try clear hx114_4
                    try clear hx114_5
                    try clear hx114_6
                    try clear hx114_7
                    try clear hx115_0
                    try clear hx116_0
                    try clear hx116_1
                    try clear hx116_2
                    try clear hx116_3
                    try clear hx116_4
                    try clear hx116_5
                    try clear hx116_6
                    try clear hx116_7
                    try clear p1
                    try clear p11
                    try clear p112
                    try clear p113
                    try clear p114
                    try clear p115
                    try clear p116
                    try clear p2
                    try clear p6
                    try clear q1
                    try clear q11
                    try clear q112
                    try clear q113
                    try clear q114
                    try clear q115
                    try clear q116
                    obtain ⟨x9_4, x82_4, rfl, rfl, HA, HK4, BK117, BK118, HB⟩ := hrel
                    cases gk with
                    | zero => exact absurd HA.out (by simp [assessorlaw09_isChain.l1])
                    | succ k4 =>
                     have H := HA.out
                     clear HA
                     simp only [assessorlaw09_isChain.l1] at H
                     by_cases c64 : x82_4 < (ml.length : Int)
                     ·
                      rw [if_pos c64] at H
                      have c64b0 : decide (x82_4 < (ml.length : Int)) = true := decide_eq_true c64
                      clear c64
                      by_cases c65 : 0 ≤ x82_4
                      ·
                       rw [if_pos c65] at H
                       have c65b0 : decide (0 ≤ x82_4) = true := decide_eq_true c65
                       clear c65
                       by_cases c66 : x82_4 < (ml.length : Int)
                       ·
                        rw [if_pos c66] at H
                        have c66b0 : decide (x82_4 < (ml.length : Int)) = true := decide_eq_true c66
                        clear c66
                        obtain ⟨ji67, hji67⟩ : ∃ j_ : Int, (rd ml x82_4) = j_ := ⟨_, rfl⟩
                        replace H : (if 0 ≤ (ji67) then (if (ji67) < (l0.length : Int) then (if ((rd_T36 l0 (ji67)).f0) = 1 then (if ((rd_T36 l0 (ji67)).f1) = x9_4 then (assessorlaw09_isChain.l1 k4 l0 ((rd_T36 l0 (ji67)).f2) ml (ml.length : Int) (wrap64 (x82_4 + 1)) ((rd_T36 l0 (rd l1 (ji20))).f0) ((rd_T36 l0 (rd l1 (ji20))).f1) ((rd_T36 l0 (rd l1 (ji20))).f2) ((rd_T36 l0 (rd l1 (ji20))).f3.f0) ((rd_T36 l0 (rd l1 (ji20))).f3.f1) ((rd_T36 l0 (rd l1 (ji20))).f3.f2) ((rd_T36 l0 (rd l1 (ji20))).f4) ((rd_T36 l0 (rd l1 (ji20))).f5)) else (if ((rd_T36 l0 (ji67)).f2) = x9_4 then (assessorlaw09_isChain.l1 k4 l0 ((rd_T36 l0 (ji67)).f1) ml (ml.length : Int) (wrap64 (x82_4 + 1)) ((rd_T36 l0 (rd l1 (ji20))).f0) ((rd_T36 l0 (rd l1 (ji20))).f1) ((rd_T36 l0 (rd l1 (ji20))).f2) ((rd_T36 l0 (rd l1 (ji20))).f3.f0) ((rd_T36 l0 (rd l1 (ji20))).f3.f1) ((rd_T36 l0 (rd l1 (ji20))).f3.f2) ((rd_T36 l0 (rd l1 (ji20))).f4) ((rd_T36 l0 (rd l1 (ji20))).f5)) else (some false))) else (some false)) else (none)) else (none)) = some r := by first | (rw [hji67] at H; exact H) | (simp only [hji67] at H ⊢; exact H)
                        by_cases c68 : 0 ≤ (ji67)
                        ·
                         rw [if_pos c68] at H
                         have c68b0 : decide (0 ≤ (ji67)) = true := decide_eq_true c68
                         clear c68
                         by_cases c69 : (ji67) < (l0.length : Int)
                         ·
                          rw [if_pos c69] at H
                          have c69b0 : decide ((ji67) < (l0.length : Int)) = true := decide_eq_true c69
                          clear c69
                          by_cases c70 : ((rd_T36 l0 (ji67)).f0) = 1
                          ·
                           rw [if_pos c70] at H
                           have c70b0 : (((rd_T36 l0 (ji67)).f0) == 1) = true := beq_iff_eq.mpr c70
                           have c70b1 : (((rd_T36 l0 (ji67)).f0) != 1) = false := bne_eq_false_iff_eq.mpr c70
                           clear c70
                           by_cases c71 : ((rd_T36 l0 (ji67)).f1) = x9_4
                           ·
                            rw [if_pos c71] at H
                            have c71b0 : (((rd_T36 l0 (ji67)).f1) == x9_4) = true := beq_iff_eq.mpr c71
                            have c71b1 : (((rd_T36 l0 (ji67)).f1) != x9_4) = false := bne_eq_false_iff_eq.mpr c71
                            clear c71
                            have H' := Aside0.mk H
                            clear H
                            have p121 : 0 ≤ (x82_4 : Int) := of_decide_eq_true (by first | (with_reducible assumption) | assumption)
                            have q121 : x82_4 < (ml.length : Int) := of_decide_eq_true (by first | (with_reducible assumption) | assumption)
                            obtain ⟨ad121, e121, hx121_0⟩ := Kd.at_int HR120.out x82_4 p121 q121
                            cases e121
                            replace hx121_0 := (HB.out.cell (World.block_lt_of_cell? w _ hx121_0)).trans hx121_0
                            replace p121 := eq_true p121
                            replace q121 := eq_true q121
                            have p122 : 0 ≤ ((ji67) : Int) := of_decide_eq_true (by first | (with_reducible assumption) | assumption)
                            have q122 : (ji67) < (l0.length : Int) := of_decide_eq_true (by first | (with_reducible assumption) | assumption)
                            obtain ⟨ad122, e122, hx122_0, hx122_1, hx122_2, hx122_3, hx122_4, hx122_5, hx122_6, hx122_7⟩ := at_T36 HR0.out (ji67) p122 q122
                            obtain rfl : ad114 = ad122 := (by injection e122)
                            replace hx122_0 := (HB.out.cell (World.block_lt_of_cell? w _ hx122_0)).trans hx122_0
                            replace hx122_1 := (HB.out.cell (World.block_lt_of_cell? w _ hx122_1)).trans hx122_1
                            replace hx122_2 := (HB.out.cell (World.block_lt_of_cell? w _ hx122_2)).trans hx122_2
                            replace hx122_3 := (HB.out.cell (World.block_lt_of_cell? w _ hx122_3)).trans hx122_3
                            replace hx122_4 := (HB.out.cell (World.block_lt_of_cell? w _ hx122_4)).trans hx122_4
                            replace hx122_5 := (HB.out.cell (World.block_lt_of_cell? w _ hx122_5)).trans hx122_5
                            replace hx122_6 := (HB.out.cell (World.block_lt_of_cell? w _ hx122_6)).trans hx122_6
                            replace hx122_7 := (HB.out.cell (World.block_lt_of_cell? w _ hx122_7)).trans hx122_7
                            replace p122 := eq_true p122
                            replace q122 := eq_true q122
                            go_wp2_with (first | ((with_reducible refine gate_dst (N := 12) rfl ?_); (try (refine gate_guard (by rfl) ?_; dsimp only)); refine box_event ?hg (N := 12) ?hd (cs := #[.int .i64 0, .int .i64 0, .int .i64 0, .int .i64 0, .int .i64 0, .string (⟨#[]⟩ : ByteArray), .int .i64 0, .int .i64 0]) (t := 36) ?hr ?_; (case hd => rfl); (case hg => rfl); (case hr => first | (go_simp; done) | (go_simp; rfl)); intro gb123 hg w72 hbox hb; have n0_ := Aside0.mk (blk_below (g := gb117) (o := .cells #[.int .i64 ((rd_T36 l0 (rd l1 0)).f0), .int .i64 ((rd_T36 l0 (rd l1 0)).f1), .int .i64 ((rd_T36 l0 (rd l1 0)).f2), .int .i64 ((rd_T36 l0 (rd l1 0)).f3.f0), .int .i64 ((rd_T36 l0 (rd l1 0)).f3.f1), .string ((rd_T36 l0 (rd l1 0)).f3.f2), .int .i64 ((rd_T36 l0 (rd l1 0)).f4), .int .i64 ((rd_T36 l0 (rd l1 0)).f5)] 36 (0, 0)) (by (with_reducible repeat (first | refine blk_drewN ?_ _ | refine blk_drew ?_ | refine blk_alloc ?_ _)); exact BK117.out) hb); have n1_ := Aside0.mk (blk_below (g := gb118) (o := .cells #[.int .i64 ((rd_T36 l0 (rd l1 (ji20))).f0), .int .i64 ((rd_T36 l0 (rd l1 (ji20))).f1), .int .i64 ((rd_T36 l0 (rd l1 (ji20))).f2), .int .i64 ((rd_T36 l0 (rd l1 (ji20))).f3.f0), .int .i64 ((rd_T36 l0 (rd l1 (ji20))).f3.f1), .string ((rd_T36 l0 (rd l1 (ji20))).f3.f2), .int .i64 ((rd_T36 l0 (rd l1 (ji20))).f4), .int .i64 ((rd_T36 l0 (rd l1 (ji20))).f5)] 36 (0, 0)) (by (with_reducible repeat (first | refine blk_drewN ?_ _ | refine blk_drew ?_ | refine blk_alloc ?_ _)); exact BK118.out) hb); have n2_ := Aside0.mk (below_step (by repeat (first | (with_reducible first | exact HB.out | apply below_alloc | apply pw_below_drewN | apply below_drew1 | refine below_set ?_ GE117.out | refine below_set ?_ GE118.out) | exact HB.out)) hb); have n3_ := Aside0.mk (hbox); have n4_ := Aside0.mk ((by rw [hg]; exact (below_size (by repeat (first | (with_reducible first | exact HB.out | apply below_alloc | apply pw_below_drewN | apply below_drew1 | refine below_set ?_ GE117.out | refine below_set ?_ GE118.out) | exact HB.out))) : w.heap.size ≤ gb123)); have n5_ := Aside0.mk ((by rw [hg]; exact (below_size (by repeat (first | (with_reducible first | exact HB.out | apply below_alloc | apply pw_below_drewN | apply below_drew1 | refine below_set ?_ GE117.out | refine below_set ?_ GE118.out) | exact HB.out))) : w.heap.size ≤ gb123)); have n6_ := Aside0.mk ((by rw [hg]; exact Nat.ne_of_lt (blk_lt (g := gb117) (o := .cells #[.int .i64 ((rd_T36 l0 (rd l1 0)).f0), .int .i64 ((rd_T36 l0 (rd l1 0)).f1), .int .i64 ((rd_T36 l0 (rd l1 0)).f2), .int .i64 ((rd_T36 l0 (rd l1 0)).f3.f0), .int .i64 ((rd_T36 l0 (rd l1 0)).f3.f1), .string ((rd_T36 l0 (rd l1 0)).f3.f2), .int .i64 ((rd_T36 l0 (rd l1 0)).f4), .int .i64 ((rd_T36 l0 (rd l1 0)).f5)] 36 (0, 0)) (by (with_reducible repeat (first | refine blk_drewN ?_ _ | refine blk_drew ?_ | refine blk_alloc ?_ _)); exact BK117.out)) : gb117 ≠ gb123)); have n7_ := Aside0.mk ((by rw [hg]; exact Nat.ne_of_gt (blk_lt (g := gb117) (o := .cells #[.int .i64 ((rd_T36 l0 (rd l1 0)).f0), .int .i64 ((rd_T36 l0 (rd l1 0)).f1), .int .i64 ((rd_T36 l0 (rd l1 0)).f2), .int .i64 ((rd_T36 l0 (rd l1 0)).f3.f0), .int .i64 ((rd_T36 l0 (rd l1 0)).f3.f1), .string ((rd_T36 l0 (rd l1 0)).f3.f2), .int .i64 ((rd_T36 l0 (rd l1 0)).f4), .int .i64 ((rd_T36 l0 (rd l1 0)).f5)] 36 (0, 0)) (by (with_reducible repeat (first | refine blk_drewN ?_ _ | refine blk_drew ?_ | refine blk_alloc ?_ _)); exact BK117.out)) : gb123 ≠ gb117)); have n8_ := Aside0.mk ((by rw [hg]; exact Nat.ne_of_lt (blk_lt (g := gb118) (o := .cells #[.int .i64 ((rd_T36 l0 (rd l1 (ji20))).f0), .int .i64 ((rd_T36 l0 (rd l1 (ji20))).f1), .int .i64 ((rd_T36 l0 (rd l1 (ji20))).f2), .int .i64 ((rd_T36 l0 (rd l1 (ji20))).f3.f0), .int .i64 ((rd_T36 l0 (rd l1 (ji20))).f3.f1), .string ((rd_T36 l0 (rd l1 (ji20))).f3.f2), .int .i64 ((rd_T36 l0 (rd l1 (ji20))).f4), .int .i64 ((rd_T36 l0 (rd l1 (ji20))).f5)] 36 (0, 0)) (by (with_reducible repeat (first | refine blk_drewN ?_ _ | refine blk_drew ?_ | refine blk_alloc ?_ _)); exact BK118.out)) : gb118 ≠ gb123)); have n9_ := Aside0.mk ((by rw [hg]; exact Nat.ne_of_gt (blk_lt (g := gb118) (o := .cells #[.int .i64 ((rd_T36 l0 (rd l1 (ji20))).f0), .int .i64 ((rd_T36 l0 (rd l1 (ji20))).f1), .int .i64 ((rd_T36 l0 (rd l1 (ji20))).f2), .int .i64 ((rd_T36 l0 (rd l1 (ji20))).f3.f0), .int .i64 ((rd_T36 l0 (rd l1 (ji20))).f3.f1), .string ((rd_T36 l0 (rd l1 (ji20))).f3.f2), .int .i64 ((rd_T36 l0 (rd l1 (ji20))).f4), .int .i64 ((rd_T36 l0 (rd l1 (ji20))).f5)] 36 (0, 0)) (by (with_reducible repeat (first | refine blk_drewN ?_ _ | refine blk_drew ?_ | refine blk_alloc ?_ _)); exact BK118.out)) : gb123 ≠ gb118)); clear BK117; clear BK118; clear HB; have BK117 := n0_; have BK118 := n1_; have HB := n2_; have BK123 := n3_; have GW123 := n4_; have GE123 := n5_; have NB117_123 := n6_; have NB123_117 := n7_; have NB118_123 := n8_; have NB123_118 := n9_; clear n0_ n1_ n2_ n3_ n4_ n5_ n6_ n7_ n8_ n9_; clear hb hbox hg; have hnb73 := NB123_117.out; have hnc73 := NB117_123.out; have hnb74 := NB123_118.out; have hnc74 := NB118_123.out; have hcz75_0 : w72.cell? ⟨gb123, 0, none⟩ = some (.int .i64 0) := (blk_cell BK123.out 0).trans rfl; have hcz75_1 : w72.cell? ⟨gb123, 1, none⟩ = some (.int .i64 0) := (blk_cell BK123.out 1).trans rfl; have hcz75_2 : w72.cell? ⟨gb123, 2, none⟩ = some (.int .i64 0) := (blk_cell BK123.out 2).trans rfl; have hcz75_3 : w72.cell? ⟨gb123, 3, none⟩ = some (.int .i64 0) := (blk_cell BK123.out 3).trans rfl; have hcz75_4 : w72.cell? ⟨gb123, 4, none⟩ = some (.int .i64 0) := (blk_cell BK123.out 4).trans rfl; have hcz75_5 : w72.cell? ⟨gb123, 5, none⟩ = some (.string (⟨#[]⟩ : ByteArray)) := (blk_cell BK123.out 5).trans rfl; have hcz75_6 : w72.cell? ⟨gb123, 6, none⟩ = some (.int .i64 0) := (blk_cell BK123.out 6).trans rfl; have hcz75_7 : w72.cell? ⟨gb123, 7, none⟩ = some (.int .i64 0) := (blk_cell BK123.out 7).trans rfl; have hfz75_0 := blk_frozen BK123.out 0; have hfz75_1 := blk_frozen BK123.out 1; have hfz75_2 := blk_frozen BK123.out 2; have hfz75_3 := blk_frozen BK123.out 3; have hfz75_4 := blk_frozen BK123.out 4; have hfz75_5 := blk_frozen BK123.out 5; have hfz75_6 := blk_frozen BK123.out 6; have hfz75_7 := blk_frozen BK123.out 7))
                            go_roundg k4
                            case measure => have := HJ2.out; have := HK2.out; have := HJ24.out; have := HK4.out; omega
                            case rel => exact ⟨((rd_T36 l0 (ji67)).f2), (wrap64 (x82_4 + 1)), (by first | rfl | (simp; done) | (simp only [← hji67] <;> (first | rfl | simp)) | (simp [*]; done)), (by first | rfl | (simp; done) | (simp [*]; done)), H', ⟨by have := HJ2.out; have := HK2.out; have := HJ24.out; have := HK4.out; omega⟩, ⟨by (with_reducible repeat (first | refine blk_drewN ?_ _ | refine blk_drew ?_ | refine blk_alloc ?_ _)); refine blk_far ?_ NB117_123.out _; (with_reducible repeat (first | refine blk_drewN ?_ _ | refine blk_drew ?_ | refine blk_alloc ?_ _)); refine blk_far ?_ NB117_123.out _; (with_reducible repeat (first | refine blk_drewN ?_ _ | refine blk_drew ?_ | refine blk_alloc ?_ _)); refine blk_far ?_ NB117_123.out _; (with_reducible repeat (first | refine blk_drewN ?_ _ | refine blk_drew ?_ | refine blk_alloc ?_ _)); refine blk_far ?_ NB117_123.out _; (with_reducible repeat (first | refine blk_drewN ?_ _ | refine blk_drew ?_ | refine blk_alloc ?_ _)); refine blk_far ?_ NB117_123.out _; (with_reducible repeat (first | refine blk_drewN ?_ _ | refine blk_drew ?_ | refine blk_alloc ?_ _)); refine blk_far ?_ NB117_123.out _; (with_reducible repeat (first | refine blk_drewN ?_ _ | refine blk_drew ?_ | refine blk_alloc ?_ _)); refine blk_far ?_ NB117_123.out _; (with_reducible repeat (first | refine blk_drewN ?_ _ | refine blk_drew ?_ | refine blk_alloc ?_ _)); refine blk_far ?_ NB117_123.out _; (with_reducible repeat (first | refine blk_drewN ?_ _ | refine blk_drew ?_ | refine blk_alloc ?_ _)); exact BK117.out⟩, ⟨by (with_reducible repeat (first | refine blk_drewN ?_ _ | refine blk_drew ?_ | refine blk_alloc ?_ _)); refine blk_far ?_ NB118_123.out _; (with_reducible repeat (first | refine blk_drewN ?_ _ | refine blk_drew ?_ | refine blk_alloc ?_ _)); refine blk_far ?_ NB118_123.out _; (with_reducible repeat (first | refine blk_drewN ?_ _ | refine blk_drew ?_ | refine blk_alloc ?_ _)); refine blk_far ?_ NB118_123.out _; (with_reducible repeat (first | refine blk_drewN ?_ _ | refine blk_drew ?_ | refine blk_alloc ?_ _)); refine blk_far ?_ NB118_123.out _; (with_reducible repeat (first | refine blk_drewN ?_ _ | refine blk_drew ?_ | refine blk_alloc ?_ _)); refine blk_far ?_ NB118_123.out _; (with_reducible repeat (first | refine blk_drewN ?_ _ | refine blk_drew ?_ | refine blk_alloc ?_ _)); refine blk_far ?_ NB118_123.out _; (with_reducible repeat (first | refine blk_drewN ?_ _ | refine blk_drew ?_ | refine blk_alloc ?_ _)); refine blk_far ?_ NB118_123.out _; (with_reducible repeat (first | refine blk_drewN ?_ _ | refine blk_drew ?_ | refine blk_alloc ?_ _)); refine blk_far ?_ NB118_123.out _; (with_reducible repeat (first | refine blk_drewN ?_ _ | refine blk_drew ?_ | refine blk_alloc ?_ _)); exact BK118.out⟩, ⟨by repeat (first | (with_reducible first | exact HB.out | apply below_alloc | apply pw_below_drewN | apply below_drew1 | refine below_set ?_ GE117.out | refine below_set ?_ GE118.out | refine below_set ?_ GE123.out) | exact HB.out)⟩⟩
                           ·
                            rw [if_neg c71] at H
                            have c71b0 : (((rd_T36 l0 (ji67)).f1) == x9_4) = false := beq_eq_false_iff_ne.mpr c71
                            have c71b1 : (((rd_T36 l0 (ji67)).f1) != x9_4) = true := bne_iff_ne.mpr c71
                            by_cases c76 : ((rd_T36 l0 (ji67)).f2) = x9_4
                            ·
                             rw [if_pos c76] at H
                             have c76b0 : (((rd_T36 l0 (ji67)).f2) == x9_4) = true := beq_iff_eq.mpr c76
                             have c76b1 : (((rd_T36 l0 (ji67)).f2) != x9_4) = false := bne_eq_false_iff_eq.mpr c76
                             clear c76
                             have H' := Aside0.mk H
                             clear H
                             have p121 : 0 ≤ (x82_4 : Int) := of_decide_eq_true (by first | (with_reducible assumption) | assumption)
                             have q121 : x82_4 < (ml.length : Int) := of_decide_eq_true (by first | (with_reducible assumption) | assumption)
                             obtain ⟨ad121, e121, hx121_0⟩ := Kd.at_int HR120.out x82_4 p121 q121
                             cases e121
                             replace hx121_0 := (HB.out.cell (World.block_lt_of_cell? w _ hx121_0)).trans hx121_0
                             replace p121 := eq_true p121
                             replace q121 := eq_true q121
                             have p122 : 0 ≤ ((ji67) : Int) := of_decide_eq_true (by first | (with_reducible assumption) | assumption)
                             have q122 : (ji67) < (l0.length : Int) := of_decide_eq_true (by first | (with_reducible assumption) | assumption)
                             obtain ⟨ad122, e122, hx122_0, hx122_1, hx122_2, hx122_3, hx122_4, hx122_5, hx122_6, hx122_7⟩ := at_T36 HR0.out (ji67) p122 q122
                             obtain rfl : ad114 = ad122 := (by injection e122)
                             replace hx122_0 := (HB.out.cell (World.block_lt_of_cell? w _ hx122_0)).trans hx122_0
                             replace hx122_1 := (HB.out.cell (World.block_lt_of_cell? w _ hx122_1)).trans hx122_1
                             replace hx122_2 := (HB.out.cell (World.block_lt_of_cell? w _ hx122_2)).trans hx122_2
                             replace hx122_3 := (HB.out.cell (World.block_lt_of_cell? w _ hx122_3)).trans hx122_3
                             replace hx122_4 := (HB.out.cell (World.block_lt_of_cell? w _ hx122_4)).trans hx122_4
                             replace hx122_5 := (HB.out.cell (World.block_lt_of_cell? w _ hx122_5)).trans hx122_5
                             replace hx122_6 := (HB.out.cell (World.block_lt_of_cell? w _ hx122_6)).trans hx122_6
                             replace hx122_7 := (HB.out.cell (World.block_lt_of_cell? w _ hx122_7)).trans hx122_7
                             replace p122 := eq_true p122
                             replace q122 := eq_true q122
                             go_wp2_with (first | ((with_reducible refine gate_dst (N := 12) rfl ?_); (try (refine gate_guard (by rfl) ?_; dsimp only)); refine box_event ?hg (N := 12) ?hd (cs := #[.int .i64 0, .int .i64 0, .int .i64 0, .int .i64 0, .int .i64 0, .string (⟨#[]⟩ : ByteArray), .int .i64 0, .int .i64 0]) (t := 36) ?hr ?_; (case hd => rfl); (case hg => rfl); (case hr => first | (go_simp; done) | (go_simp; rfl)); intro gb123 hg w77 hbox hb; have n0_ := Aside0.mk (blk_below (g := gb117) (o := .cells #[.int .i64 ((rd_T36 l0 (rd l1 0)).f0), .int .i64 ((rd_T36 l0 (rd l1 0)).f1), .int .i64 ((rd_T36 l0 (rd l1 0)).f2), .int .i64 ((rd_T36 l0 (rd l1 0)).f3.f0), .int .i64 ((rd_T36 l0 (rd l1 0)).f3.f1), .string ((rd_T36 l0 (rd l1 0)).f3.f2), .int .i64 ((rd_T36 l0 (rd l1 0)).f4), .int .i64 ((rd_T36 l0 (rd l1 0)).f5)] 36 (0, 0)) (by (with_reducible repeat (first | refine blk_drewN ?_ _ | refine blk_drew ?_ | refine blk_alloc ?_ _)); exact BK117.out) hb); have n1_ := Aside0.mk (blk_below (g := gb118) (o := .cells #[.int .i64 ((rd_T36 l0 (rd l1 (ji20))).f0), .int .i64 ((rd_T36 l0 (rd l1 (ji20))).f1), .int .i64 ((rd_T36 l0 (rd l1 (ji20))).f2), .int .i64 ((rd_T36 l0 (rd l1 (ji20))).f3.f0), .int .i64 ((rd_T36 l0 (rd l1 (ji20))).f3.f1), .string ((rd_T36 l0 (rd l1 (ji20))).f3.f2), .int .i64 ((rd_T36 l0 (rd l1 (ji20))).f4), .int .i64 ((rd_T36 l0 (rd l1 (ji20))).f5)] 36 (0, 0)) (by (with_reducible repeat (first | refine blk_drewN ?_ _ | refine blk_drew ?_ | refine blk_alloc ?_ _)); exact BK118.out) hb); have n2_ := Aside0.mk (below_step (by repeat (first | (with_reducible first | exact HB.out | apply below_alloc | apply pw_below_drewN | apply below_drew1 | refine below_set ?_ GE117.out | refine below_set ?_ GE118.out) | exact HB.out)) hb); have n3_ := Aside0.mk (hbox); have n4_ := Aside0.mk ((by rw [hg]; exact (below_size (by repeat (first | (with_reducible first | exact HB.out | apply below_alloc | apply pw_below_drewN | apply below_drew1 | refine below_set ?_ GE117.out | refine below_set ?_ GE118.out) | exact HB.out))) : w.heap.size ≤ gb123)); have n5_ := Aside0.mk ((by rw [hg]; exact (below_size (by repeat (first | (with_reducible first | exact HB.out | apply below_alloc | apply pw_below_drewN | apply below_drew1 | refine below_set ?_ GE117.out | refine below_set ?_ GE118.out) | exact HB.out))) : w.heap.size ≤ gb123)); have n6_ := Aside0.mk ((by rw [hg]; exact Nat.ne_of_lt (blk_lt (g := gb117) (o := .cells #[.int .i64 ((rd_T36 l0 (rd l1 0)).f0), .int .i64 ((rd_T36 l0 (rd l1 0)).f1), .int .i64 ((rd_T36 l0 (rd l1 0)).f2), .int .i64 ((rd_T36 l0 (rd l1 0)).f3.f0), .int .i64 ((rd_T36 l0 (rd l1 0)).f3.f1), .string ((rd_T36 l0 (rd l1 0)).f3.f2), .int .i64 ((rd_T36 l0 (rd l1 0)).f4), .int .i64 ((rd_T36 l0 (rd l1 0)).f5)] 36 (0, 0)) (by (with_reducible repeat (first | refine blk_drewN ?_ _ | refine blk_drew ?_ | refine blk_alloc ?_ _)); exact BK117.out)) : gb117 ≠ gb123)); have n7_ := Aside0.mk ((by rw [hg]; exact Nat.ne_of_gt (blk_lt (g := gb117) (o := .cells #[.int .i64 ((rd_T36 l0 (rd l1 0)).f0), .int .i64 ((rd_T36 l0 (rd l1 0)).f1), .int .i64 ((rd_T36 l0 (rd l1 0)).f2), .int .i64 ((rd_T36 l0 (rd l1 0)).f3.f0), .int .i64 ((rd_T36 l0 (rd l1 0)).f3.f1), .string ((rd_T36 l0 (rd l1 0)).f3.f2), .int .i64 ((rd_T36 l0 (rd l1 0)).f4), .int .i64 ((rd_T36 l0 (rd l1 0)).f5)] 36 (0, 0)) (by (with_reducible repeat (first | refine blk_drewN ?_ _ | refine blk_drew ?_ | refine blk_alloc ?_ _)); exact BK117.out)) : gb123 ≠ gb117)); have n8_ := Aside0.mk ((by rw [hg]; exact Nat.ne_of_lt (blk_lt (g := gb118) (o := .cells #[.int .i64 ((rd_T36 l0 (rd l1 (ji20))).f0), .int .i64 ((rd_T36 l0 (rd l1 (ji20))).f1), .int .i64 ((rd_T36 l0 (rd l1 (ji20))).f2), .int .i64 ((rd_T36 l0 (rd l1 (ji20))).f3.f0), .int .i64 ((rd_T36 l0 (rd l1 (ji20))).f3.f1), .string ((rd_T36 l0 (rd l1 (ji20))).f3.f2), .int .i64 ((rd_T36 l0 (rd l1 (ji20))).f4), .int .i64 ((rd_T36 l0 (rd l1 (ji20))).f5)] 36 (0, 0)) (by (with_reducible repeat (first | refine blk_drewN ?_ _ | refine blk_drew ?_ | refine blk_alloc ?_ _)); exact BK118.out)) : gb118 ≠ gb123)); have n9_ := Aside0.mk ((by rw [hg]; exact Nat.ne_of_gt (blk_lt (g := gb118) (o := .cells #[.int .i64 ((rd_T36 l0 (rd l1 (ji20))).f0), .int .i64 ((rd_T36 l0 (rd l1 (ji20))).f1), .int .i64 ((rd_T36 l0 (rd l1 (ji20))).f2), .int .i64 ((rd_T36 l0 (rd l1 (ji20))).f3.f0), .int .i64 ((rd_T36 l0 (rd l1 (ji20))).f3.f1), .string ((rd_T36 l0 (rd l1 (ji20))).f3.f2), .int .i64 ((rd_T36 l0 (rd l1 (ji20))).f4), .int .i64 ((rd_T36 l0 (rd l1 (ji20))).f5)] 36 (0, 0)) (by (with_reducible repeat (first | refine blk_drewN ?_ _ | refine blk_drew ?_ | refine blk_alloc ?_ _)); exact BK118.out)) : gb123 ≠ gb118)); clear BK117; clear BK118; clear HB; have BK117 := n0_; have BK118 := n1_; have HB := n2_; have BK123 := n3_; have GW123 := n4_; have GE123 := n5_; have NB117_123 := n6_; have NB123_117 := n7_; have NB118_123 := n8_; have NB123_118 := n9_; clear n0_ n1_ n2_ n3_ n4_ n5_ n6_ n7_ n8_ n9_; clear hb hbox hg; have hnb78 := NB123_117.out; have hnc78 := NB117_123.out; have hnb79 := NB123_118.out; have hnc79 := NB118_123.out; have hcz80_0 : w77.cell? ⟨gb123, 0, none⟩ = some (.int .i64 0) := (blk_cell BK123.out 0).trans rfl; have hcz80_1 : w77.cell? ⟨gb123, 1, none⟩ = some (.int .i64 0) := (blk_cell BK123.out 1).trans rfl; have hcz80_2 : w77.cell? ⟨gb123, 2, none⟩ = some (.int .i64 0) := (blk_cell BK123.out 2).trans rfl; have hcz80_3 : w77.cell? ⟨gb123, 3, none⟩ = some (.int .i64 0) := (blk_cell BK123.out 3).trans rfl; have hcz80_4 : w77.cell? ⟨gb123, 4, none⟩ = some (.int .i64 0) := (blk_cell BK123.out 4).trans rfl; have hcz80_5 : w77.cell? ⟨gb123, 5, none⟩ = some (.string (⟨#[]⟩ : ByteArray)) := (blk_cell BK123.out 5).trans rfl; have hcz80_6 : w77.cell? ⟨gb123, 6, none⟩ = some (.int .i64 0) := (blk_cell BK123.out 6).trans rfl; have hcz80_7 : w77.cell? ⟨gb123, 7, none⟩ = some (.int .i64 0) := (blk_cell BK123.out 7).trans rfl; have hfz80_0 := blk_frozen BK123.out 0; have hfz80_1 := blk_frozen BK123.out 1; have hfz80_2 := blk_frozen BK123.out 2; have hfz80_3 := blk_frozen BK123.out 3; have hfz80_4 := blk_frozen BK123.out 4; have hfz80_5 := blk_frozen BK123.out 5; have hfz80_6 := blk_frozen BK123.out 6; have hfz80_7 := blk_frozen BK123.out 7))
                             go_roundg k4
                             case measure => have := HJ2.out; have := HK2.out; have := HJ24.out; have := HK4.out; omega
                             case rel => exact ⟨((rd_T36 l0 (ji67)).f1), (wrap64 (x82_4 + 1)), (by first | rfl | (simp; done) | (simp only [← hji67] <;> (first | rfl | simp)) | (simp [*]; done)), (by first | rfl | (simp; done) | (simp [*]; done)), H', ⟨by have := HJ2.out; have := HK2.out; have := HJ24.out; have := HK4.out; omega⟩, ⟨by (with_reducible repeat (first | refine blk_drewN ?_ _ | refine blk_drew ?_ | refine blk_alloc ?_ _)); refine blk_far ?_ NB117_123.out _; (with_reducible repeat (first | refine blk_drewN ?_ _ | refine blk_drew ?_ | refine blk_alloc ?_ _)); refine blk_far ?_ NB117_123.out _; (with_reducible repeat (first | refine blk_drewN ?_ _ | refine blk_drew ?_ | refine blk_alloc ?_ _)); refine blk_far ?_ NB117_123.out _; (with_reducible repeat (first | refine blk_drewN ?_ _ | refine blk_drew ?_ | refine blk_alloc ?_ _)); refine blk_far ?_ NB117_123.out _; (with_reducible repeat (first | refine blk_drewN ?_ _ | refine blk_drew ?_ | refine blk_alloc ?_ _)); refine blk_far ?_ NB117_123.out _; (with_reducible repeat (first | refine blk_drewN ?_ _ | refine blk_drew ?_ | refine blk_alloc ?_ _)); refine blk_far ?_ NB117_123.out _; (with_reducible repeat (first | refine blk_drewN ?_ _ | refine blk_drew ?_ | refine blk_alloc ?_ _)); refine blk_far ?_ NB117_123.out _; (with_reducible repeat (first | refine blk_drewN ?_ _ | refine blk_drew ?_ | refine blk_alloc ?_ _)); refine blk_far ?_ NB117_123.out _; (with_reducible repeat (first | refine blk_drewN ?_ _ | refine blk_drew ?_ | refine blk_alloc ?_ _)); exact BK117.out⟩, ⟨by (with_reducible repeat (first | refine blk_drewN ?_ _ | refine blk_drew ?_ | refine blk_alloc ?_ _)); refine blk_far ?_ NB118_123.out _; (with_reducible repeat (first | refine blk_drewN ?_ _ | refine blk_drew ?_ | refine blk_alloc ?_ _)); refine blk_far ?_ NB118_123.out _; (with_reducible repeat (first | refine blk_drewN ?_ _ | refine blk_drew ?_ | refine blk_alloc ?_ _)); refine blk_far ?_ NB118_123.out _; (with_reducible repeat (first | refine blk_drewN ?_ _ | refine blk_drew ?_ | refine blk_alloc ?_ _)); refine blk_far ?_ NB118_123.out _; (with_reducible repeat (first | refine blk_drewN ?_ _ | refine blk_drew ?_ | refine blk_alloc ?_ _)); refine blk_far ?_ NB118_123.out _; (with_reducible repeat (first | refine blk_drewN ?_ _ | refine blk_drew ?_ | refine blk_alloc ?_ _)); refine blk_far ?_ NB118_123.out _; (with_reducible repeat (first | refine blk_drewN ?_ _ | refine blk_drew ?_ | refine blk_alloc ?_ _)); refine blk_far ?_ NB118_123.out _; (with_reducible repeat (first | refine blk_drewN ?_ _ | refine blk_drew ?_ | refine blk_alloc ?_ _)); refine blk_far ?_ NB118_123.out _; (with_reducible repeat (first | refine blk_drewN ?_ _ | refine blk_drew ?_ | refine blk_alloc ?_ _)); exact BK118.out⟩, ⟨by repeat (first | (with_reducible first | exact HB.out | apply below_alloc | apply pw_below_drewN | apply below_drew1 | refine below_set ?_ GE117.out | refine below_set ?_ GE118.out | refine below_set ?_ GE123.out) | exact HB.out)⟩⟩
                            ·
                             rw [if_neg c76] at H
                             have c76b0 : (((rd_T36 l0 (ji67)).f2) == x9_4) = false := beq_eq_false_iff_ne.mpr c76
                             have c76b1 : (((rd_T36 l0 (ji67)).f2) != x9_4) = true := bne_iff_ne.mpr c76
                             obtain rfl := Option.some.inj H
                             exact absurd HTru_.out (by decide)
                          ·
                           rw [if_neg c70] at H
                           have c70b0 : (((rd_T36 l0 (ji67)).f0) == 1) = false := beq_eq_false_iff_ne.mpr c70
                           have c70b1 : (((rd_T36 l0 (ji67)).f0) != 1) = true := bne_iff_ne.mpr c70
                           obtain rfl := Option.some.inj H
                           exact absurd HTru_.out (by decide)
                         ·
                          rw [if_neg c69] at H
                          exact absurd H (by simp)
                        ·
                         rw [if_neg c68] at H
                         exact absurd H (by simp)
                       ·
                        rw [if_neg c66] at H
                        exact absurd H (by simp)
                      ·
                       rw [if_neg c65] at H
                       exact absurd H (by simp)
                     ·
                      rw [if_neg c64] at H
                      have c64b0 : decide (x82_4 < (ml.length : Int)) = false := decide_eq_false c64
                      clear c64
                      obtain rfl := Option.some.inj H
                      have hnb81 := NB118_117.out
                      have hnc81 := NB117_118.out
                      have hcz82_0 : wr.cell? ⟨gb118, 0, none⟩ = some (.int .i64 ((rd_T36 l0 (rd l1 (ji20))).f0)) := (blk_cell BK118.out 0).trans rfl
                      have hcz82_1 : wr.cell? ⟨gb118, 1, none⟩ = some (.int .i64 ((rd_T36 l0 (rd l1 (ji20))).f1)) := (blk_cell BK118.out 1).trans rfl
                      have hcz82_2 : wr.cell? ⟨gb118, 2, none⟩ = some (.int .i64 ((rd_T36 l0 (rd l1 (ji20))).f2)) := (blk_cell BK118.out 2).trans rfl
                      have hcz82_3 : wr.cell? ⟨gb118, 3, none⟩ = some (.int .i64 ((rd_T36 l0 (rd l1 (ji20))).f3.f0)) := (blk_cell BK118.out 3).trans rfl
                      have hcz82_4 : wr.cell? ⟨gb118, 4, none⟩ = some (.int .i64 ((rd_T36 l0 (rd l1 (ji20))).f3.f1)) := (blk_cell BK118.out 4).trans rfl
                      have hcz82_5 : wr.cell? ⟨gb118, 5, none⟩ = some (.string ((rd_T36 l0 (rd l1 (ji20))).f3.f2)) := (blk_cell BK118.out 5).trans rfl
                      have hcz82_6 : wr.cell? ⟨gb118, 6, none⟩ = some (.int .i64 ((rd_T36 l0 (rd l1 (ji20))).f4)) := (blk_cell BK118.out 6).trans rfl
                      have hcz82_7 : wr.cell? ⟨gb118, 7, none⟩ = some (.int .i64 ((rd_T36 l0 (rd l1 (ji20))).f5)) := (blk_cell BK118.out 7).trans rfl
                      have hfz82_0 := blk_frozen BK118.out 0
                      have hfz82_1 := blk_frozen BK118.out 1
                      have hfz82_2 := blk_frozen BK118.out 2
                      have hfz82_3 := blk_frozen BK118.out 3
                      have hfz82_4 := blk_frozen BK118.out 4
                      have hfz82_5 := blk_frozen BK118.out 5
                      have hfz82_6 := blk_frozen BK118.out 6
                      have hfz82_7 := blk_frozen BK118.out 7
                      go_wp2
                      go_ret
                      exact ⟨by first | rfl | (simp [errW_none, errW_some] <;> rfl) | (simp only [← hji20]; first | rfl | (simp [errW_none, errW_some] <;> rfl)) | (simp [*, errW_none, errW_some] <;> rfl), by repeat (first | (with_reducible first | exact HB.out | apply below_alloc | apply pw_below_drewN | apply below_drew1 | refine below_set ?_ GE117.out | refine below_set ?_ GE118.out) | exact HB.out)⟩
                  ·
                   rw [if_neg c60] at H
                   exact absurd H (by simp)
                 ·
                  rw [if_neg c59] at H
                  exact absurd H (by simp)
             ·
              rw [if_neg c24] at H
              exact absurd H (by simp)
            ·
             rw [if_neg c23] at H
             exact absurd H (by simp)
           ·
            rw [if_neg c22] at H
            exact absurd H (by simp)
          ·
           rw [if_neg c21] at H
           exact absurd H (by simp)
         ·
          rw [if_neg c19] at H
          exact absurd H (by simp)
        ·
         rw [if_neg c18] at H
         exact absurd H (by simp)
       ·
        rw [if_neg c17] at H
        exact absurd H (by simp)

end Go.Proofs.Ytjbafigageingaa.PN
