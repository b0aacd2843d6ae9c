import Derived.Test.YtjbafigageingaaKsM5
import Derived.Test.YtjbafigageingaaKsM1
import Derived.Test.YtjbafigageingaaKsPRx6
import Derived.Test.YtjbafigageingaaProg
import Derived.Test.YtjbafigageingaaKsW
import Derived.Below
import Derived.Deep.Draws
import Derived.Deep.AppendLies
import Derived.Maps.AppendAt
import Derived.OwnWalk
import Derived.Laws.BytesArg
import Derived.Laws.MakeOwn
import Derived.Laws.OwnMore
import Derived.Deep.OwnRows
import Derived.Tactics
import Derived.Lib.ConvBytes
import Derived.Laws.Slices
import Derived.WalkKit
import Derived.KernelRfl
import Derived.RowKit3
import Derived.Deep.LoopGhost
import Derived.Deep.QuietTactic
import Derived.BigQuiet
import Derived.WideLaws
import Derived.Deep.DeepCutAuto
import Derived.Deep.CutBlock
import Derived.Deep.RegionHeld3
import Derived.Laws.Rows
import Derived.Lib.AppendStr
import Derived.ArgAppend
import Derived.Laws.IdiomCopy
import Derived.OrdersHeld
import Derived.Laws.BitsLemmas
import Derived.RowKit
namespace Go.Proofs.Ytjbafigageingaa.PS
open Go.Proofs.Ytjbafigageingaa.PR Go.Proofs.Ytjbafigageingaa.PF
open Go.RowKit Go.Proofs.YtjbafigageingaaW.PrintWords Go.Proofs.YtjbafigageingaaW.PrintLast Go.Proofs.YtjbafigageingaaW.PrintMore
attribute [local go_sem] max2_int min2_int max_two min_two max_three min_three max_four min_four
set_option linter.unusedVariables false
set_option linter.unusedSimpArgs false

mutual
def assessorref09_way.l0 : Nat → List (S36) → List Int → List Int → Int → Option (List Int)
 | 0, _, _, _, _ => none
 | k + 1, x0, x2, x7, x8 => if 0 ≤ x8 then (if x8 < (x2.length : Int) then (if (rd x2 x8) > 0 then (assessorref09_way.l1 k x0 x2 x7 x8 0) else (some x7)) else (none)) else (none)
def assessorref09_way.l1 : Nat → List (S36) → List Int → List Int → Int → Int → Option (List Int)
 | 0, _, _, _, _, _ => none
 | k + 1, x0, x2, x7, x8, x9 => if x9 < (x0.length : Int) then (if 0 ≤ x9 then (if ((rd_T36 x0 x9).f0) = 1 then (if ((rd_T36 x0 x9).f1) = x8 then (if ((rd_T36 x0 x9).f2) ≥ 0 then (if 0 ≤ ((rd_T36 x0 x9).f2) then (if ((rd_T36 x0 x9).f2) < (x2.length : Int) then (if 0 ≤ x8 then (if x8 < (x2.length : Int) then (if (rd x2 ((rd_T36 x0 x9).f2)) = (wrap64 ((rd x2 x8) - 1)) then (if x7.length < 17592186044416 then (assessorref09_way.l0 k x0 x2 (x7 ++ [x9]) ((rd_T36 x0 x9).f2)) else (none)) else (assessorref09_way.l1 k x0 x2 x7 x8 (wrap64 (x9 + 1)))) else (none)) else (none)) else (none)) else (none)) else (assessorref09_way.l1 k x0 x2 x7 x8 (wrap64 (x9 + 1)))) else (if ((rd_T36 x0 x9).f2) = x8 then (if ((rd_T36 x0 x9).f1) ≥ 0 then (if 0 ≤ ((rd_T36 x0 x9).f1) then (if ((rd_T36 x0 x9).f1) < (x2.length : Int) then (if 0 ≤ x8 then (if x8 < (x2.length : Int) then (if (rd x2 ((rd_T36 x0 x9).f1)) = (wrap64 ((rd x2 x8) - 1)) then (if x7.length < 17592186044416 then (assessorref09_way.l0 k x0 x2 (x7 ++ [x9]) ((rd_T36 x0 x9).f1)) else (none)) else (assessorref09_way.l1 k x0 x2 x7 x8 (wrap64 (x9 + 1)))) else (none)) else (none)) else (none)) else (none)) else (assessorref09_way.l1 k x0 x2 x7 x8 (wrap64 (x9 + 1)))) else (if (-1) ≥ 0 then (if 0 ≤ (-1) then (if (-1) < (x2.length : Int) then (if 0 ≤ x8 then (if x8 < (x2.length : Int) then (if (rd x2 (-1)) = (wrap64 ((rd x2 x8) - 1)) then (if x7.length < 17592186044416 then (assessorref09_way.l0 k x0 x2 (x7 ++ [x9]) (-1)) else (none)) else (assessorref09_way.l1 k x0 x2 x7 x8 (wrap64 (x9 + 1)))) else (none)) else (none)) else (none)) else (none)) else (assessorref09_way.l1 k x0 x2 x7 x8 (wrap64 (x9 + 1)))))) else (assessorref09_way.l1 k x0 x2 x7 x8 (wrap64 (x9 + 1)))) else (none)) else (assessorref09_way.l0 k x0 x2 x7 x8)
end
def assessorref09_way.f (k : Nat) (l0 : List (S36)) (a1 : Int) (l2 : List Int) : Option (List Int) := assessorref09_way.l0 k l0 l2 (([] : List Int)) a1
set_option maxHeartbeats 8000000 in
set_option maxRecDepth 100000 in
theorem assessorref09_way.calls (k : Nat) (A0 : Option Addr) (c0 : Nat) (l0 : List (S36)) (a1 : Int) (A2 : Option Addr) (c2 : Nat) (l2 : List Int) (r : List Int) (w : World) (hr0 : Kd.C k36 w A0 l0.length l0) (hc0 : l0.length ≤ c0) (hr2 : Kd.C (Kd.int .i64) w A2 l2.length l2) (hc2 : l2.length ≤ c2) (h : assessorref09_way.f k l0 a1 l2 = some r) :
  Calls Try.prog 33 #[.slice A0 l0.length c0, .int .i64 a1, .slice A2 l2.length c2] w fun e w' => ∃ v0_ : Value, e = .returned (v0_) ∧ Kd.R (Kd.int .i64) 3 w' w.heap.size (fun _ => True) v0_ r ∧ Below w.heap.size w w' := by
 have HR0 := Aside0.mk hr0
 have HC0 := Aside0.mk hc0
 clear hr0 hc0
 have HR2 := Aside0.mk hr2
 have HC2 := Aside0.mk hc2
 clear hr2 hc2
 have HB := Aside0.mk (Below.refl w.heap.size w)
 have H : (assessorref09_way.l0 k l0 l2 (([] : List Int)) a1) = some r := h
 clear h
 obtain ⟨y140, hy140⟩ : ∃ y_ : List Int, y_ = (([] : List Int)) := ⟨_, rfl⟩
 replace H : (assessorref09_way.l0 k l0 l2 y140 a1) = some r := by first | (rw [hy140]; with_reducible exact H) | (have H2_ := (Option.bind_some _ _).symm.trans H; rw [hy140]; with_reducible exact H2_) | (have H2_ := (Option.bind_some _ _).symm.trans H; with_reducible exact H2_) | with_reducible exact H | (rw [hy140]; exact H) | exact H
 have Ny140 := Aside0.mk hy140
 clear hy140; have H' := Aside0.mk H; clear H
 go_enter Try.func33, Try.ntmps33
 go_wp2_with (first | ((with_reducible refine gate_dst (N := 11) rfl ?_); refine Kd.R_lit (Kd.int .i64) _ 3 ?hg (N := 11) ?hd (xs := ([] : List Int)) (inner := []) (ok := fun _ => True) (okp := fun _ => True) ?hr ?hp (fun _ hk => hk) trivial (Below.refl _ _) (Nat.le_refl _) (by simp) ?_; (case hd => rfl); (case hg => rfl); (case hr => first | (go_simp; done) | (go_simp; rfl)); (case hp => exact (Reps.none _ _)); intro v141 w4 ho5 hb hg_ hnew_; clear hg_ hnew_; (first | rw [← Ny140.out] at ho5 | (simp only [Int.reduceToNat] at ho5; rw [← Ny140.out] at ho5)); have n0_ := Aside0.mk (Kd.R_lower ho5 (bZ (by repeat (first | (with_reducible first | exact HB.out | apply bA | apply bN | apply bD) | exact HB.out)))); have n1_ := Aside0.mk (bT (by repeat (first | (with_reducible first | exact HB.out | apply bA | apply bN | apply bD) | exact HB.out)) hb); clear HB; have HO142 := n0_; have HB := n1_; clear n0_ n1_; clear hb ho5))
 repeat (go_quiet (first | ((with_reducible refine gate_dst (N := 11) rfl ?_); refine Kd.R_lit (Kd.int .i64) _ 3 ?hg (N := 11) ?hd (xs := ([] : List Int)) (inner := []) (ok := fun _ => True) (okp := fun _ => True) ?hr ?hp (fun _ hk => hk) trivial (Below.refl _ _) (Nat.le_refl _) (by simp) ?_; (case hd => rfl); (case hg => rfl); (case hr => first | (go_simp; done) | (go_simp; rfl)); (case hp => exact (Reps.none _ _)); intro v141 w4 ho5 hb hg_ hnew_; clear hg_ hnew_; (first | rw [← Ny140.out] at ho5 | (simp only [Int.reduceToNat] at ho5; rw [← Ny140.out] at ho5)); have n0_ := Aside0.mk (Kd.R_lower ho5 (bZ (by repeat (first | (with_reducible first | exact HB.out | apply bA | apply bN | apply bD) | exact HB.out)))); have n1_ := Aside0.mk (bT (by repeat (first | (with_reducible first | exact HB.out | apply bA | apply bN | apply bD) | exact HB.out)) hb); clear HB; have HO142 := n0_; have HB := n1_; clear n0_ n1_; clear hb ho5)); try go_wp2_with (first | ((with_reducible refine gate_dst (N := 11) rfl ?_); refine Kd.R_lit (Kd.int .i64) _ 3 ?hg (N := 11) ?hd (xs := ([] : List Int)) (inner := []) (ok := fun _ => True) (okp := fun _ => True) ?hr ?hp (fun _ hk => hk) trivial (Below.refl _ _) (Nat.le_refl _) (by simp) ?_; (case hd => rfl); (case hg => rfl); (case hr => first | (go_simp; done) | (go_simp; rfl)); (case hp => exact (Reps.none _ _)); intro v141 w4 ho5 hb hg_ hnew_; clear hg_ hnew_; (first | rw [← Ny140.out] at ho5 | (simp only [Int.reduceToNat] at ho5; rw [← Ny140.out] at ho5)); have n0_ := Aside0.mk (Kd.R_lower ho5 (bZ (by repeat (first | (with_reducible first | exact HB.out | apply bA | apply bN | apply bD) | exact HB.out)))); have n1_ := Aside0.mk (bT (by repeat (first | (with_reducible first | exact HB.out | apply bA | apply bN | apply bD) | exact HB.out)) hb); clear HB; have HO142 := n0_; have HB := n1_; clear n0_ n1_; clear hb ho5)))
 go_loopg [7, 8] k (fun kq v7 v8 w' => ∃ (x7_1 : List Int) (x8_1 : Int), v8 = .int .i64 x8_1 ∧ Aside0 (assessorref09_way.l0 kq l0 l2 x7_1 x8_1 = some r) ∧ Aside0 (kq ≤ k) ∧ Aside0 (Kd.R (Kd.int .i64) 3 w' w.heap.size (fun _ => True) v7 x7_1) ∧ Aside0 (Below w.heap.size w w'))
 case atStart => exact ⟨(y140), (a1), (by first | rfl | (simp; done) | (simp [*]; done)), H', ⟨Nat.le_refl _⟩, ⟨by (with_reducible repeat (first | apply rA | apply rN | apply rD)); exact HO142.out⟩, ⟨by repeat (first | (with_reducible first | exact HB.out | apply bA | apply bN | apply bD) | exact HB.out)⟩⟩
 case round =>
  clear H'; (try clear c2); (try clear p2); (try clear c3)
  obtain ⟨x7_1, x8_1, rfl, HA, HK1, HO_7, HB⟩ := hrel
  cases gk with
  | zero => exact absurd HA.out (by simp [assessorref09_way.l0])
  | succ k1 =>
   have H := HA.out
   clear HA
   simp only [assessorref09_way.l0] at H
   by_cases c6 : 0 ≤ x8_1; rotate_left
   · rw [if_neg c6] at H; exact absurd H (by simp)
   rw [if_pos c6] at H
   have c6b0 : decide (0 ≤ x8_1) = true := decide_eq_true c6
   clear c6
   by_cases c7 : x8_1 < (l2.length : Int); rotate_left
   · rw [if_neg c7] at H; exact absurd H (by simp)
   rw [if_pos c7] at H
   have c7b0 : decide (x8_1 < (l2.length : Int)) = true := decide_eq_true c7
   clear c7
   by_cases c8 : (rd l2 x8_1) > 0
   ·
    rw [if_pos c8] at H
    have c8b0 : decide (0 < (rd l2 x8_1)) = true := decide_eq_true c8
    clear c8; have H' := Aside0.mk H; clear H
    have p143 : 0 ≤ (x8_1 : Int) := of_decide_eq_true (by assumption)
    have q143 : x8_1 < (l2.length : Int) := of_decide_eq_true (by assumption)
    obtain ⟨ad143, e143, hx143_0⟩ := Kd.at_int HR2.out x8_1 p143 q143
    cases e143; replace hx143_0 := upc HB.out hx143_0; replace p143 := eq_true p143; replace q143 := eq_true q143
    go_wp2
    repeat (go_quiet (fail); try go_wp2)
    go_loopg [7, 8, 9] k1 (fun kq v7 v8 v9 w' => ∃ (x7_2 : List Int) (x8_2 : Int) (x9_2 : Int), v8 = .int .i64 x8_2 ∧ v9 = .int .i64 x9_2 ∧ Aside0 (assessorref09_way.l1 kq l0 l2 x7_2 x8_2 x9_2 = some r) ∧ Aside0 (kq ≤ k1) ∧ Aside0 (Kd.R (Kd.int .i64) 3 w' w.heap.size (fun _ => True) v7 x7_2) ∧ Aside0 (Below w.heap.size w w'))
    case atStart => exact ⟨(x7_1), (x8_1), (0), (by first | rfl | (simp; done) | (simp [*]; done)), (by first | rfl | (simp; done) | (simp [*]; done)), H', ⟨Nat.le_refl _⟩, ⟨by (with_reducible repeat (first | apply rA | apply rN | apply rD)); exact HO_7.out⟩, ⟨by repeat (first | (with_reducible first | exact HB.out | apply bA | apply bN | apply bD) | exact HB.out)⟩⟩
    case round =>
     clear H'; (try clear p1); (try clear q1); (try clear hx1); (try clear c2); (try clear p2); (try clear c3); (try clear c6); (try clear c6b0); (try clear c7); (try clear c7b0); (try clear c8); (try clear c8b0); (try clear hx143_0); (try clear p143); (try clear p2); (try clear q143)
     obtain ⟨x7_2, x8_2, x9_2, rfl, rfl, HA, HK2, HO_7, HB⟩ := hrel
     cases gk with
     | zero => exact absurd HA.out (by simp [assessorref09_way.l1])
     | succ k2 =>
      have H := HA.out
      clear HA
      simp only [assessorref09_way.l1] at H
      by_cases c9 : x9_2 < (l0.length : Int)
      ·
       rw [if_pos c9] at H
       have c9b0 : decide (x9_2 < (l0.length : Int)) = true := decide_eq_true c9
       clear c9
       by_cases c10 : 0 ≤ x9_2; rotate_left
       · rw [if_neg c10] at H; exact absurd H (by simp)
       rw [if_pos c10] at H
       have c10b0 : decide (0 ≤ x9_2) = true := decide_eq_true c10
       clear c10
       by_cases c11 : ((rd_T36 l0 x9_2).f0) = 1
       ·
        rw [if_pos c11] at H
        have c11b0 : (((rd_T36 l0 x9_2).f0) == 1) = true := beq_iff_eq.mpr c11
        have c11b1 : (((rd_T36 l0 x9_2).f0) != 1) = false := bne_eq_false_iff_eq.mpr c11
        clear c11
        by_cases c12 : ((rd_T36 l0 x9_2).f1) = x8_2
        ·
         rw [if_pos c12] at H
         have c12b0 : (((rd_T36 l0 x9_2).f1) == x8_2) = true := beq_iff_eq.mpr c12
         have c12b1 : (((rd_T36 l0 x9_2).f1) != x8_2) = false := bne_eq_false_iff_eq.mpr c12
         clear c12
         by_cases c13 : ((rd_T36 l0 x9_2).f2) ≥ 0
         ·
          rw [if_pos c13] at H
          have c13b0 : decide (0 ≤ ((rd_T36 l0 x9_2).f2)) = true := decide_eq_true c13
          clear c13
          by_cases c14 : 0 ≤ ((rd_T36 l0 x9_2).f2); rotate_left
          · rw [if_neg c14] at H; exact absurd H (by simp)
          rw [if_pos c14] at H
          have c14b0 : decide (0 ≤ ((rd_T36 l0 x9_2).f2)) = true := decide_eq_true c14
          clear c14
          by_cases c15 : ((rd_T36 l0 x9_2).f2) < (l2.length : Int); rotate_left
          · rw [if_neg c15] at H; exact absurd H (by simp)
          rw [if_pos c15] at H
          have c15b0 : decide (((rd_T36 l0 x9_2).f2) < (l2.length : Int)) = true := decide_eq_true c15
          clear c15
          by_cases c16 : 0 ≤ x8_2; rotate_left
          · rw [if_neg c16] at H; exact absurd H (by simp)
          rw [if_pos c16] at H
          have c16b0 : decide (0 ≤ x8_2) = true := decide_eq_true c16
          clear c16
          by_cases c17 : x8_2 < (l2.length : Int); rotate_left
          · rw [if_neg c17] at H; exact absurd H (by simp)
          rw [if_pos c17] at H
          have c17b0 : decide (x8_2 < (l2.length : Int)) = true := decide_eq_true c17
          clear c17
          by_cases c18 : (rd l2 ((rd_T36 l0 x9_2).f2)) = (wrap64 ((rd l2 x8_2) - 1))
          ·
           rw [if_pos c18] at H
           have c18b0 : ((rd l2 ((rd_T36 l0 x9_2).f2)) == (wrap64 ((rd l2 x8_2) - 1))) = true := beq_iff_eq.mpr c18
           have c18b1 : ((rd l2 ((rd_T36 l0 x9_2).f2)) != (wrap64 ((rd l2 x8_2) - 1))) = false := bne_eq_false_iff_eq.mpr c18
           clear c18
           by_cases c19 : x7_2.length < 17592186044416; rotate_left
           · rw [if_neg c19] at H; exact absurd H (by simp)
           rw [if_pos c19] at H
           have LMc19 := Aside0.mk c19
           clear c19
           obtain ⟨y149, hy149⟩ : ∃ y_ : List Int, y_ = (x7_2 ++ [x9_2]) := ⟨_, rfl⟩
           replace H : (assessorref09_way.l0 k2 l0 l2 y149 ((rd_T36 l0 x9_2).f2)) = some r := by first | (rw [hy149]; with_reducible exact H) | (have H2_ := (Option.bind_some _ _).symm.trans H; rw [hy149]; with_reducible exact H2_) | (have H2_ := (Option.bind_some _ _).symm.trans H; with_reducible exact H2_) | with_reducible exact H | (rw [hy149]; exact H) | exact H
           have Ny149 := Aside0.mk hy149
           clear hy149; have H' := Aside0.mk H; clear H
           have p144 : 0 ≤ (x9_2 : Int) := of_decide_eq_true (by assumption)
           have q144 : x9_2 < (l0.length : Int) := of_decide_eq_true (by assumption)
           obtain ⟨ad144, e144, hx144_0, hx144_1, hx144_2, hx144_3, hx144_4, hx144_5, hx144_6, hx144_7⟩ := at_T36 HR0.out x9_2 p144 q144
           cases e144; replace hx144_0 := upc HB.out hx144_0; replace hx144_1 := upc HB.out hx144_1; replace hx144_2 := upc HB.out hx144_2; replace hx144_3 := upc HB.out hx144_3; replace hx144_4 := upc HB.out hx144_4; replace hx144_5 := upc HB.out hx144_5; replace hx144_6 := upc HB.out hx144_6; replace hx144_7 := upc HB.out hx144_7; replace p144 := eq_true p144; replace q144 := eq_true q144
           have p145 : 0 ≤ (x9_2 : Int) := of_decide_eq_true (by assumption)
           have q145 : x9_2 < (l0.length : Int) := of_decide_eq_true (by assumption)
           obtain ⟨ad145, e145, hx145_0, hx145_1, hx145_2, hx145_3, hx145_4, hx145_5, hx145_6, hx145_7⟩ := at_T36 HR0.out x9_2 p145 q145
           obtain rfl : ad144 = ad145 := (by injection e145)
           replace hx145_0 := upc HB.out hx145_0; replace hx145_1 := upc HB.out hx145_1; replace hx145_2 := upc HB.out hx145_2; replace hx145_3 := upc HB.out hx145_3; replace hx145_4 := upc HB.out hx145_4; replace hx145_5 := upc HB.out hx145_5; replace hx145_6 := upc HB.out hx145_6; replace hx145_7 := upc HB.out hx145_7; replace p145 := eq_true p145; replace q145 := eq_true q145
           have p146 : 0 ≤ (x9_2 : Int) := of_decide_eq_true (by assumption)
           have q146 : x9_2 < (l0.length : Int) := of_decide_eq_true (by assumption)
           obtain ⟨ad146, e146, hx146_0, hx146_1, hx146_2, hx146_3, hx146_4, hx146_5, hx146_6, hx146_7⟩ := at_T36 HR0.out x9_2 p146 q146
           obtain rfl : ad144 = ad146 := (by injection e146)
           replace hx146_0 := upc HB.out hx146_0; replace hx146_1 := upc HB.out hx146_1; replace hx146_2 := upc HB.out hx146_2; replace hx146_3 := upc HB.out hx146_3; replace hx146_4 := upc HB.out hx146_4; replace hx146_5 := upc HB.out hx146_5; replace hx146_6 := upc HB.out hx146_6; replace hx146_7 := upc HB.out hx146_7; replace p146 := eq_true p146; replace q146 := eq_true q146
           have p147 : 0 ≤ (((rd_T36 l0 x9_2).f2) : Int) := of_decide_eq_true (by assumption)
           have q147 : ((rd_T36 l0 x9_2).f2) < (l2.length : Int) := of_decide_eq_true (by assumption)
           obtain ⟨ad147, e147, hx147_0⟩ := Kd.at_int HR2.out ((rd_T36 l0 x9_2).f2) p147 q147
           obtain rfl : ad143 = ad147 := (by injection e147)
           replace hx147_0 := upc HB.out hx147_0; replace p147 := eq_true p147; replace q147 := eq_true q147
           have p148 : 0 ≤ (x8_2 : Int) := of_decide_eq_true (by assumption)
           have q148 : x8_2 < (l2.length : Int) := of_decide_eq_true (by assumption)
           obtain ⟨ad148, e148, hx148_0⟩ := Kd.at_int HR2.out x8_2 p148 q148
           obtain rfl : ad143 = ad148 := (by injection e148)
           replace hx148_0 := upc HB.out hx148_0; replace p148 := eq_true p148; replace q148 := eq_true q148
           go_wp2_with (first | ((with_reducible refine gate_builtin (b := .append) (xs := #[.tmp 68, .tmp 70]) rfl ?_); at_builtin; refine Kd.R_append (Kd.int .i64) (w0 := w) w.heap.size rfl (.tmp 68) (.tmp 70) 33 3 (.int .i64 0) 8 rfl Try.underlying33 info3 rfl (by decide) (by omega) u7 x7_2 x9_2 [.int .i64 x9_2] (fun _ => True) (fun _ => False) rfl rfl ?aP (fun _ hk => hk.elim) ?aF ?aO ?aB ?aS ?aL ?_; (case aP => exact rfl); (case aB => exact (by repeat (first | (with_reducible first | exact HB.out | apply bA | apply bN | apply bD) | exact HB.out))); (case aF => exact (fun _ _ => trivial)); (case aO => exact (by (with_reducible repeat (first | apply rA | apply rN | apply rD)); exact HO_7.out)); (case aS => exact (bZ (by repeat (first | (with_reducible first | exact HB.out | apply bA | apply bN | apply bD) | exact HB.out)))); (case aL => have := LMc19.out; omega); intro v150 w20 ho hb hg hat; rw [← Ny149.out] at ho; have n0_ := Aside0.mk (hb); have n1_ := Aside0.mk (ho); clear HB; clear HO_7; have HB := n0_; have HO151 := n1_; clear n0_ n1_; clear ho hb hg hat))
           repeat (go_quiet (first | ((with_reducible refine gate_builtin (b := .append) (xs := #[.tmp 68, .tmp 70]) rfl ?_); at_builtin; refine Kd.R_append (Kd.int .i64) (w0 := w) w.heap.size rfl (.tmp 68) (.tmp 70) 33 3 (.int .i64 0) 8 rfl Try.underlying33 info3 rfl (by decide) (by omega) u7 x7_2 x9_2 [.int .i64 x9_2] (fun _ => True) (fun _ => False) rfl rfl ?aP (fun _ hk => hk.elim) ?aF ?aO ?aB ?aS ?aL ?_; (case aP => exact rfl); (case aB => exact (by repeat (first | (with_reducible first | exact HB.out | apply bA | apply bN | apply bD) | exact HB.out))); (case aF => exact (fun _ _ => trivial)); (case aO => exact (by (with_reducible repeat (first | apply rA | apply rN | apply rD)); exact HO_7.out)); (case aS => exact (bZ (by repeat (first | (with_reducible first | exact HB.out | apply bA | apply bN | apply bD) | exact HB.out)))); (case aL => have := LMc19.out; omega); intro v150 w20 ho hb hg hat; rw [← Ny149.out] at ho; have n0_ := Aside0.mk (hb); have n1_ := Aside0.mk (ho); clear HB; clear HO_7; have HB := n0_; have HO151 := n1_; clear n0_ n1_; clear ho hb hg hat)); try go_wp2_with (first | ((with_reducible refine gate_builtin (b := .append) (xs := #[.tmp 68, .tmp 70]) rfl ?_); at_builtin; refine Kd.R_append (Kd.int .i64) (w0 := w) w.heap.size rfl (.tmp 68) (.tmp 70) 33 3 (.int .i64 0) 8 rfl Try.underlying33 info3 rfl (by decide) (by omega) u7 x7_2 x9_2 [.int .i64 x9_2] (fun _ => True) (fun _ => False) rfl rfl ?aP (fun _ hk => hk.elim) ?aF ?aO ?aB ?aS ?aL ?_; (case aP => exact rfl); (case aB => exact (by repeat (first | (with_reducible first | exact HB.out | apply bA | apply bN | apply bD) | exact HB.out))); (case aF => exact (fun _ _ => trivial)); (case aO => exact (by (with_reducible repeat (first | apply rA | apply rN | apply rD)); exact HO_7.out)); (case aS => exact (bZ (by repeat (first | (with_reducible first | exact HB.out | apply bA | apply bN | apply bD) | exact HB.out)))); (case aL => have := LMc19.out; omega); intro v150 w20 ho hb hg hat; rw [← Ny149.out] at ho; have n0_ := Aside0.mk (hb); have n1_ := Aside0.mk (ho); clear HB; clear HO_7; have HB := n0_; have HO151 := n1_; clear n0_ n1_; clear ho hb hg hat)))
           go_roundg k2
           case measure => have := HK1.out; have := HK2.out; omega
           case rel => exact ⟨(y149), ((rd_T36 l0 x9_2).f2), (by first | rfl | (simp; done) | (simp [*]; done)), H', ⟨by have := HK1.out; have := HK2.out; omega⟩, ⟨by (with_reducible repeat (first | apply rA | apply rN | apply rD)); exact HO151.out⟩, ⟨by repeat (first | (with_reducible first | exact HB.out | apply bA | apply bN | apply bD) | exact HB.out)⟩⟩
          ·
           rw [if_neg c18] at H
           have c18b0 : ((rd l2 ((rd_T36 l0 x9_2).f2)) == (wrap64 ((rd l2 x8_2) - 1))) = false := beq_eq_false_iff_ne.mpr c18
           have c18b1 : ((rd l2 ((rd_T36 l0 x9_2).f2)) != (wrap64 ((rd l2 x8_2) - 1))) = true := bne_iff_ne.mpr c18
           have H' := Aside0.mk H; clear H
           have p144 : 0 ≤ (x9_2 : Int) := of_decide_eq_true (by assumption)
           have q144 : x9_2 < (l0.length : Int) := of_decide_eq_true (by assumption)
           obtain ⟨ad144, e144, hx144_0, hx144_1, hx144_2, hx144_3, hx144_4, hx144_5, hx144_6, hx144_7⟩ := at_T36 HR0.out x9_2 p144 q144
           cases e144; replace hx144_0 := upc HB.out hx144_0; replace hx144_1 := upc HB.out hx144_1; replace hx144_2 := upc HB.out hx144_2; replace hx144_3 := upc HB.out hx144_3; replace hx144_4 := upc HB.out hx144_4; replace hx144_5 := upc HB.out hx144_5; replace hx144_6 := upc HB.out hx144_6; replace hx144_7 := upc HB.out hx144_7; replace p144 := eq_true p144; replace q144 := eq_true q144
           have p145 : 0 ≤ (x9_2 : Int) := of_decide_eq_true (by assumption)
           have q145 : x9_2 < (l0.length : Int) := of_decide_eq_true (by assumption)
           obtain ⟨ad145, e145, hx145_0, hx145_1, hx145_2, hx145_3, hx145_4, hx145_5, hx145_6, hx145_7⟩ := at_T36 HR0.out x9_2 p145 q145
           obtain rfl : ad144 = ad145 := (by injection e145)
           replace hx145_0 := upc HB.out hx145_0; replace hx145_1 := upc HB.out hx145_1; replace hx145_2 := upc HB.out hx145_2; replace hx145_3 := upc HB.out hx145_3; replace hx145_4 := upc HB.out hx145_4; replace hx145_5 := upc HB.out hx145_5; replace hx145_6 := upc HB.out hx145_6; replace hx145_7 := upc HB.out hx145_7; replace p145 := eq_true p145; replace q145 := eq_true q145
           have p146 : 0 ≤ (x9_2 : Int) := of_decide_eq_true (by assumption)
           have q146 : x9_2 < (l0.length : Int) := of_decide_eq_true (by assumption)
           obtain ⟨ad146, e146, hx146_0, hx146_1, hx146_2, hx146_3, hx146_4, hx146_5, hx146_6, hx146_7⟩ := at_T36 HR0.out x9_2 p146 q146
           obtain rfl : ad144 = ad146 := (by injection e146)
           replace hx146_0 := upc HB.out hx146_0; replace hx146_1 := upc HB.out hx146_1; replace hx146_2 := upc HB.out hx146_2; replace hx146_3 := upc HB.out hx146_3; replace hx146_4 := upc HB.out hx146_4; replace hx146_5 := upc HB.out hx146_5; replace hx146_6 := upc HB.out hx146_6; replace hx146_7 := upc HB.out hx146_7; replace p146 := eq_true p146; replace q146 := eq_true q146
           have p147 : 0 ≤ (((rd_T36 l0 x9_2).f2) : Int) := of_decide_eq_true (by assumption)
           have q147 : ((rd_T36 l0 x9_2).f2) < (l2.length : Int) := of_decide_eq_true (by assumption)
           obtain ⟨ad147, e147, hx147_0⟩ := Kd.at_int HR2.out ((rd_T36 l0 x9_2).f2) p147 q147
           obtain rfl : ad143 = ad147 := (by injection e147)
           replace hx147_0 := upc HB.out hx147_0; replace p147 := eq_true p147; replace q147 := eq_true q147
           have p148 : 0 ≤ (x8_2 : Int) := of_decide_eq_true (by assumption)
           have q148 : x8_2 < (l2.length : Int) := of_decide_eq_true (by assumption)
           obtain ⟨ad148, e148, hx148_0⟩ := Kd.at_int HR2.out x8_2 p148 q148
           obtain rfl : ad143 = ad148 := (by injection e148)
           replace hx148_0 := upc HB.out hx148_0; replace p148 := eq_true p148; replace q148 := eq_true q148
           go_wp2
           repeat (go_quiet (fail); try go_wp2)
           go_roundg k2
           case measure => have := HK1.out; have := HK2.out; omega
           case rel => exact ⟨(x7_2), (x8_2), (wrap64 (x9_2 + 1)), (by first | rfl | (simp; done) | (simp [*]; done)), (by first | rfl | (simp; done) | (simp [*]; done)), H', ⟨by have := HK1.out; have := HK2.out; omega⟩, ⟨by (with_reducible repeat (first | apply rA | apply rN | apply rD)); exact HO_7.out⟩, ⟨by repeat (first | (with_reducible first | exact HB.out | apply bA | apply bN | apply bD) | exact HB.out)⟩⟩
         ·
          rw [if_neg c13] at H
          have c13b0 : decide (0 ≤ ((rd_T36 l0 x9_2).f2)) = false := decide_eq_false c13
          clear c13; have H' := Aside0.mk H; clear H
          have p144 : 0 ≤ (x9_2 : Int) := of_decide_eq_true (by assumption)
          have q144 : x9_2 < (l0.length : Int) := of_decide_eq_true (by assumption)
          obtain ⟨ad144, e144, hx144_0, hx144_1, hx144_2, hx144_3, hx144_4, hx144_5, hx144_6, hx144_7⟩ := at_T36 HR0.out x9_2 p144 q144
          cases e144; replace hx144_0 := upc HB.out hx144_0; replace hx144_1 := upc HB.out hx144_1; replace hx144_2 := upc HB.out hx144_2; replace hx144_3 := upc HB.out hx144_3; replace hx144_4 := upc HB.out hx144_4; replace hx144_5 := upc HB.out hx144_5; replace hx144_6 := upc HB.out hx144_6; replace hx144_7 := upc HB.out hx144_7; replace p144 := eq_true p144; replace q144 := eq_true q144
          have p145 : 0 ≤ (x9_2 : Int) := of_decide_eq_true (by assumption)
          have q145 : x9_2 < (l0.length : Int) := of_decide_eq_true (by assumption)
          obtain ⟨ad145, e145, hx145_0, hx145_1, hx145_2, hx145_3, hx145_4, hx145_5, hx145_6, hx145_7⟩ := at_T36 HR0.out x9_2 p145 q145
          obtain rfl : ad144 = ad145 := (by injection e145)
          replace hx145_0 := upc HB.out hx145_0; replace hx145_1 := upc HB.out hx145_1; replace hx145_2 := upc HB.out hx145_2; replace hx145_3 := upc HB.out hx145_3; replace hx145_4 := upc HB.out hx145_4; replace hx145_5 := upc HB.out hx145_5; replace hx145_6 := upc HB.out hx145_6; replace hx145_7 := upc HB.out hx145_7; replace p145 := eq_true p145; replace q145 := eq_true q145
          have p146 : 0 ≤ (x9_2 : Int) := of_decide_eq_true (by assumption)
          have q146 : x9_2 < (l0.length : Int) := of_decide_eq_true (by assumption)
          obtain ⟨ad146, e146, hx146_0, hx146_1, hx146_2, hx146_3, hx146_4, hx146_5, hx146_6, hx146_7⟩ := at_T36 HR0.out x9_2 p146 q146
          obtain rfl : ad144 = ad146 := (by injection e146)
          replace hx146_0 := upc HB.out hx146_0; replace hx146_1 := upc HB.out hx146_1; replace hx146_2 := upc HB.out hx146_2; replace hx146_3 := upc HB.out hx146_3; replace hx146_4 := upc HB.out hx146_4; replace hx146_5 := upc HB.out hx146_5; replace hx146_6 := upc HB.out hx146_6; replace hx146_7 := upc HB.out hx146_7; replace p146 := eq_true p146; replace q146 := eq_true q146
          go_wp2
          repeat (go_quiet (fail); try go_wp2)
          go_roundg k2
          case measure => have := HK1.out; have := HK2.out; omega
          case rel => exact ⟨(x7_2), (x8_2), (wrap64 (x9_2 + 1)), (by first | rfl | (simp; done) | (simp [*]; done)), (by first | rfl | (simp; done) | (simp [*]; done)), H', ⟨by have := HK1.out; have := HK2.out; omega⟩, ⟨by (with_reducible repeat (first | apply rA | apply rN | apply rD)); exact HO_7.out⟩, ⟨by repeat (first | (with_reducible first | exact HB.out | apply bA | apply bN | apply bD) | exact HB.out)⟩⟩
        ·
         rw [if_neg c12] at H
         have c12b0 : (((rd_T36 l0 x9_2).f1) == x8_2) = false := beq_eq_false_iff_ne.mpr c12
         have c12b1 : (((rd_T36 l0 x9_2).f1) != x8_2) = true := bne_iff_ne.mpr c12
         by_cases c21 : ((rd_T36 l0 x9_2).f2) = x8_2
         ·
          rw [if_pos c21] at H
          have c21b0 : (((rd_T36 l0 x9_2).f2) == x8_2) = true := beq_iff_eq.mpr c21
          have c21b1 : (((rd_T36 l0 x9_2).f2) != x8_2) = false := bne_eq_false_iff_eq.mpr c21
          clear c21
          by_cases c22 : ((rd_T36 l0 x9_2).f1) ≥ 0
          ·
           rw [if_pos c22] at H
           have c22b0 : decide (0 ≤ ((rd_T36 l0 x9_2).f1)) = true := decide_eq_true c22
           clear c22
           by_cases c23 : 0 ≤ ((rd_T36 l0 x9_2).f1); rotate_left
           · rw [if_neg c23] at H; exact absurd H (by simp)
           rw [if_pos c23] at H
           have c23b0 : decide (0 ≤ ((rd_T36 l0 x9_2).f1)) = true := decide_eq_true c23
           clear c23
           by_cases c24 : ((rd_T36 l0 x9_2).f1) < (l2.length : Int); rotate_left
           · rw [if_neg c24] at H; exact absurd H (by simp)
           rw [if_pos c24] at H
           have c24b0 : decide (((rd_T36 l0 x9_2).f1) < (l2.length : Int)) = true := decide_eq_true c24
           clear c24
           by_cases c25 : 0 ≤ x8_2; rotate_left
           · rw [if_neg c25] at H; exact absurd H (by simp)
           rw [if_pos c25] at H
           have c25b0 : decide (0 ≤ x8_2) = true := decide_eq_true c25
           clear c25
           by_cases c26 : x8_2 < (l2.length : Int); rotate_left
           · rw [if_neg c26] at H; exact absurd H (by simp)
           rw [if_pos c26] at H
           have c26b0 : decide (x8_2 < (l2.length : Int)) = true := decide_eq_true c26
           clear c26
           by_cases c27 : (rd l2 ((rd_T36 l0 x9_2).f1)) = (wrap64 ((rd l2 x8_2) - 1))
           ·
            rw [if_pos c27] at H
            have c27b0 : ((rd l2 ((rd_T36 l0 x9_2).f1)) == (wrap64 ((rd l2 x8_2) - 1))) = true := beq_iff_eq.mpr c27
            have c27b1 : ((rd l2 ((rd_T36 l0 x9_2).f1)) != (wrap64 ((rd l2 x8_2) - 1))) = false := bne_eq_false_iff_eq.mpr c27
            clear c27
            by_cases c28 : x7_2.length < 17592186044416; rotate_left
            · rw [if_neg c28] at H; exact absurd H (by simp)
            rw [if_pos c28] at H
            have LMc28 := Aside0.mk c28
            clear c28
            obtain ⟨y156, hy156⟩ : ∃ y_ : List Int, y_ = (x7_2 ++ [x9_2]) := ⟨_, rfl⟩
            replace H : (assessorref09_way.l0 k2 l0 l2 y156 ((rd_T36 l0 x9_2).f1)) = some r := by first | (rw [hy156]; with_reducible exact H) | (have H2_ := (Option.bind_some _ _).symm.trans H; rw [hy156]; with_reducible exact H2_) | (have H2_ := (Option.bind_some _ _).symm.trans H; with_reducible exact H2_) | with_reducible exact H | (rw [hy156]; exact H) | exact H
            have Ny156 := Aside0.mk hy156
            clear hy156; have H' := Aside0.mk H; clear H
            have p144 : 0 ≤ (x9_2 : Int) := of_decide_eq_true (by assumption)
            have q144 : x9_2 < (l0.length : Int) := of_decide_eq_true (by assumption)
            obtain ⟨ad144, e144, hx144_0, hx144_1, hx144_2, hx144_3, hx144_4, hx144_5, hx144_6, hx144_7⟩ := at_T36 HR0.out x9_2 p144 q144
            cases e144; replace hx144_0 := upc HB.out hx144_0; replace hx144_1 := upc HB.out hx144_1; replace hx144_2 := upc HB.out hx144_2; replace hx144_3 := upc HB.out hx144_3; replace hx144_4 := upc HB.out hx144_4; replace hx144_5 := upc HB.out hx144_5; replace hx144_6 := upc HB.out hx144_6; replace hx144_7 := upc HB.out hx144_7; replace p144 := eq_true p144; replace q144 := eq_true q144
            have p145 : 0 ≤ (x9_2 : Int) := of_decide_eq_true (by assumption)
            have q145 : x9_2 < (l0.length : Int) := of_decide_eq_true (by assumption)
            obtain ⟨ad145, e145, hx145_0, hx145_1, hx145_2, hx145_3, hx145_4, hx145_5, hx145_6, hx145_7⟩ := at_T36 HR0.out x9_2 p145 q145
            obtain rfl : ad144 = ad145 := (by injection e145)
            replace hx145_0 := upc HB.out hx145_0; replace hx145_1 := upc HB.out hx145_1; replace hx145_2 := upc HB.out hx145_2; replace hx145_3 := upc HB.out hx145_3; replace hx145_4 := upc HB.out hx145_4; replace hx145_5 := upc HB.out hx145_5; replace hx145_6 := upc HB.out hx145_6; replace hx145_7 := upc HB.out hx145_7; replace p145 := eq_true p145; replace q145 := eq_true q145
            have p152 : 0 ≤ (x9_2 : Int) := of_decide_eq_true (by assumption)
            have q152 : x9_2 < (l0.length : Int) := of_decide_eq_true (by assumption)
            obtain ⟨ad152, e152, hx152_0, hx152_1, hx152_2, hx152_3, hx152_4, hx152_5, hx152_6, hx152_7⟩ := at_T36 HR0.out x9_2 p152 q152
            obtain rfl : ad144 = ad152 := (by injection e152)
            replace hx152_0 := upc HB.out hx152_0; replace hx152_1 := upc HB.out hx152_1; replace hx152_2 := upc HB.out hx152_2; replace hx152_3 := upc HB.out hx152_3; replace hx152_4 := upc HB.out hx152_4; replace hx152_5 := upc HB.out hx152_5; replace hx152_6 := upc HB.out hx152_6; replace hx152_7 := upc HB.out hx152_7; replace p152 := eq_true p152; replace q152 := eq_true q152
            have p153 : 0 ≤ (x9_2 : Int) := of_decide_eq_true (by assumption)
            have q153 : x9_2 < (l0.length : Int) := of_decide_eq_true (by assumption)
            obtain ⟨ad153, e153, hx153_0, hx153_1, hx153_2, hx153_3, hx153_4, hx153_5, hx153_6, hx153_7⟩ := at_T36 HR0.out x9_2 p153 q153
            obtain rfl : ad144 = ad153 := (by injection e153)
            replace hx153_0 := upc HB.out hx153_0; replace hx153_1 := upc HB.out hx153_1; replace hx153_2 := upc HB.out hx153_2; replace hx153_3 := upc HB.out hx153_3; replace hx153_4 := upc HB.out hx153_4; replace hx153_5 := upc HB.out hx153_5; replace hx153_6 := upc HB.out hx153_6; replace hx153_7 := upc HB.out hx153_7; replace p153 := eq_true p153; replace q153 := eq_true q153
            have p154 : 0 ≤ (((rd_T36 l0 x9_2).f1) : Int) := of_decide_eq_true (by assumption)
            have q154 : ((rd_T36 l0 x9_2).f1) < (l2.length : Int) := of_decide_eq_true (by assumption)
            obtain ⟨ad154, e154, hx154_0⟩ := Kd.at_int HR2.out ((rd_T36 l0 x9_2).f1) p154 q154
            obtain rfl : ad143 = ad154 := (by injection e154)
            replace hx154_0 := upc HB.out hx154_0; replace p154 := eq_true p154; replace q154 := eq_true q154
            have p155 : 0 ≤ (x8_2 : Int) := of_decide_eq_true (by assumption)
            have q155 : x8_2 < (l2.length : Int) := of_decide_eq_true (by assumption)
            obtain ⟨ad155, e155, hx155_0⟩ := Kd.at_int HR2.out x8_2 p155 q155
            obtain rfl : ad143 = ad155 := (by injection e155)
            replace hx155_0 := upc HB.out hx155_0; replace p155 := eq_true p155; replace q155 := eq_true q155
            go_wp2_with (first | ((with_reducible refine gate_builtin (b := .append) (xs := #[.tmp 68, .tmp 70]) rfl ?_); at_builtin; refine Kd.R_append (Kd.int .i64) (w0 := w) w.heap.size rfl (.tmp 68) (.tmp 70) 33 3 (.int .i64 0) 8 rfl Try.underlying33 info3 rfl (by decide) (by omega) u7 x7_2 x9_2 [.int .i64 x9_2] (fun _ => True) (fun _ => False) rfl rfl ?aP (fun _ hk => hk.elim) ?aF ?aO ?aB ?aS ?aL ?_; (case aP => exact rfl); (case aB => exact (by repeat (first | (with_reducible first | exact HB.out | apply bA | apply bN | apply bD) | exact HB.out))); (case aF => exact (fun _ _ => trivial)); (case aO => exact (by (with_reducible repeat (first | apply rA | apply rN | apply rD)); exact HO_7.out)); (case aS => exact (bZ (by repeat (first | (with_reducible first | exact HB.out | apply bA | apply bN | apply bD) | exact HB.out)))); (case aL => have := LMc28.out; omega); intro v157 w29 ho hb hg hat; rw [← Ny156.out] at ho; have n0_ := Aside0.mk (hb); have n1_ := Aside0.mk (ho); clear HB; clear HO_7; have HB := n0_; have HO158 := n1_; clear n0_ n1_; clear ho hb hg hat))
            repeat (go_quiet (first | ((with_reducible refine gate_builtin (b := .append) (xs := #[.tmp 68, .tmp 70]) rfl ?_); at_builtin; refine Kd.R_append (Kd.int .i64) (w0 := w) w.heap.size rfl (.tmp 68) (.tmp 70) 33 3 (.int .i64 0) 8 rfl Try.underlying33 info3 rfl (by decide) (by omega) u7 x7_2 x9_2 [.int .i64 x9_2] (fun _ => True) (fun _ => False) rfl rfl ?aP (fun _ hk => hk.elim) ?aF ?aO ?aB ?aS ?aL ?_; (case aP => exact rfl); (case aB => exact (by repeat (first | (with_reducible first | exact HB.out | apply bA | apply bN | apply bD) | exact HB.out))); (case aF => exact (fun _ _ => trivial)); (case aO => exact (by (with_reducible repeat (first | apply rA | apply rN | apply rD)); exact HO_7.out)); (case aS => exact (bZ (by repeat (first | (with_reducible first | exact HB.out | apply bA | apply bN | apply bD) | exact HB.out)))); (case aL => have := LMc28.out; omega); intro v157 w29 ho hb hg hat; rw [← Ny156.out] at ho; have n0_ := Aside0.mk (hb); have n1_ := Aside0.mk (ho); clear HB; clear HO_7; have HB := n0_; have HO158 := n1_; clear n0_ n1_; clear ho hb hg hat)); try go_wp2_with (first | ((with_reducible refine gate_builtin (b := .append) (xs := #[.tmp 68, .tmp 70]) rfl ?_); at_builtin; refine Kd.R_append (Kd.int .i64) (w0 := w) w.heap.size rfl (.tmp 68) (.tmp 70) 33 3 (.int .i64 0) 8 rfl Try.underlying33 info3 rfl (by decide) (by omega) u7 x7_2 x9_2 [.int .i64 x9_2] (fun _ => True) (fun _ => False) rfl rfl ?aP (fun _ hk => hk.elim) ?aF ?aO ?aB ?aS ?aL ?_; (case aP => exact rfl); (case aB => exact (by repeat (first | (with_reducible first | exact HB.out | apply bA | apply bN | apply bD) | exact HB.out))); (case aF => exact (fun _ _ => trivial)); (case aO => exact (by (with_reducible repeat (first | apply rA | apply rN | apply rD)); exact HO_7.out)); (case aS => exact (bZ (by repeat (first | (with_reducible first | exact HB.out | apply bA | apply bN | apply bD) | exact HB.out)))); (case aL => have := LMc28.out; omega); intro v157 w29 ho hb hg hat; rw [← Ny156.out] at ho; have n0_ := Aside0.mk (hb); have n1_ := Aside0.mk (ho); clear HB; clear HO_7; have HB := n0_; have HO158 := n1_; clear n0_ n1_; clear ho hb hg hat)))
            go_roundg k2
            case measure => have := HK1.out; have := HK2.out; omega
            case rel => exact ⟨(y156), ((rd_T36 l0 x9_2).f1), (by first | rfl | (simp; done) | (simp [*]; done)), H', ⟨by have := HK1.out; have := HK2.out; omega⟩, ⟨by (with_reducible repeat (first | apply rA | apply rN | apply rD)); exact HO158.out⟩, ⟨by repeat (first | (with_reducible first | exact HB.out | apply bA | apply bN | apply bD) | exact HB.out)⟩⟩
           ·
            rw [if_neg c27] at H
            have c27b0 : ((rd l2 ((rd_T36 l0 x9_2).f1)) == (wrap64 ((rd l2 x8_2) - 1))) = false := beq_eq_false_iff_ne.mpr c27
            have c27b1 : ((rd l2 ((rd_T36 l0 x9_2).f1)) != (wrap64 ((rd l2 x8_2) - 1))) = true := bne_iff_ne.mpr c27
            have H' := Aside0.mk H; clear H
            have p144 : 0 ≤ (x9_2 : Int) := of_decide_eq_true (by assumption)
            have q144 : x9_2 < (l0.length : Int) := of_decide_eq_true (by assumption)
            obtain ⟨ad144, e144, hx144_0, hx144_1, hx144_2, hx144_3, hx144_4, hx144_5, hx144_6, hx144_7⟩ := at_T36 HR0.out x9_2 p144 q144
            cases e144; replace hx144_0 := upc HB.out hx144_0; replace hx144_1 := upc HB.out hx144_1; replace hx144_2 := upc HB.out hx144_2; replace hx144_3 := upc HB.out hx144_3; replace hx144_4 := upc HB.out hx144_4; replace hx144_5 := upc HB.out hx144_5; replace hx144_6 := upc HB.out hx144_6; replace hx144_7 := upc HB.out hx144_7; replace p144 := eq_true p144; replace q144 := eq_true q144
            have p145 : 0 ≤ (x9_2 : Int) := of_decide_eq_true (by assumption)
            have q145 : x9_2 < (l0.length : Int) := of_decide_eq_true (by assumption)
            obtain ⟨ad145, e145, hx145_0, hx145_1, hx145_2, hx145_3, hx145_4, hx145_5, hx145_6, hx145_7⟩ := at_T36 HR0.out x9_2 p145 q145
            obtain rfl : ad144 = ad145 := (by injection e145)
            replace hx145_0 := upc HB.out hx145_0; replace hx145_1 := upc HB.out hx145_1; replace hx145_2 := upc HB.out hx145_2; replace hx145_3 := upc HB.out hx145_3; replace hx145_4 := upc HB.out hx145_4; replace hx145_5 := upc HB.out hx145_5; replace hx145_6 := upc HB.out hx145_6; replace hx145_7 := upc HB.out hx145_7; replace p145 := eq_true p145; replace q145 := eq_true q145
            have p152 : 0 ≤ (x9_2 : Int) := of_decide_eq_true (by assumption)
            have q152 : x9_2 < (l0.length : Int) := of_decide_eq_true (by assumption)
            obtain ⟨ad152, e152, hx152_0, hx152_1, hx152_2, hx152_3, hx152_4, hx152_5, hx152_6, hx152_7⟩ := at_T36 HR0.out x9_2 p152 q152
            obtain rfl : ad144 = ad152 := (by injection e152)
            replace hx152_0 := upc HB.out hx152_0; replace hx152_1 := upc HB.out hx152_1; replace hx152_2 := upc HB.out hx152_2; replace hx152_3 := upc HB.out hx152_3; replace hx152_4 := upc HB.out hx152_4; replace hx152_5 := upc HB.out hx152_5; replace hx152_6 := upc HB.out hx152_6; replace hx152_7 := upc HB.out hx152_7; replace p152 := eq_true p152; replace q152 := eq_true q152
            have p153 : 0 ≤ (x9_2 : Int) := of_decide_eq_true (by assumption)
            have q153 : x9_2 < (l0.length : Int) := of_decide_eq_true (by assumption)
            obtain ⟨ad153, e153, hx153_0, hx153_1, hx153_2, hx153_3, hx153_4, hx153_5, hx153_6, hx153_7⟩ := at_T36 HR0.out x9_2 p153 q153
            obtain rfl : ad144 = ad153 := (by injection e153)
            replace hx153_0 := upc HB.out hx153_0; replace hx153_1 := upc HB.out hx153_1; replace hx153_2 := upc HB.out hx153_2; replace hx153_3 := upc HB.out hx153_3; replace hx153_4 := upc HB.out hx153_4; replace hx153_5 := upc HB.out hx153_5; replace hx153_6 := upc HB.out hx153_6; replace hx153_7 := upc HB.out hx153_7; replace p153 := eq_true p153; replace q153 := eq_true q153
            have p154 : 0 ≤ (((rd_T36 l0 x9_2).f1) : Int) := of_decide_eq_true (by assumption)
            have q154 : ((rd_T36 l0 x9_2).f1) < (l2.length : Int) := of_decide_eq_true (by assumption)
            obtain ⟨ad154, e154, hx154_0⟩ := Kd.at_int HR2.out ((rd_T36 l0 x9_2).f1) p154 q154
            obtain rfl : ad143 = ad154 := (by injection e154)
            replace hx154_0 := upc HB.out hx154_0; replace p154 := eq_true p154; replace q154 := eq_true q154
            have p155 : 0 ≤ (x8_2 : Int) := of_decide_eq_true (by assumption)
            have q155 : x8_2 < (l2.length : Int) := of_decide_eq_true (by assumption)
            obtain ⟨ad155, e155, hx155_0⟩ := Kd.at_int HR2.out x8_2 p155 q155
            obtain rfl : ad143 = ad155 := (by injection e155)
            replace hx155_0 := upc HB.out hx155_0; replace p155 := eq_true p155; replace q155 := eq_true q155
            go_wp2
            repeat (go_quiet (fail); try go_wp2)
            go_roundg k2
            case measure => have := HK1.out; have := HK2.out; omega
            case rel => exact ⟨(x7_2), (x8_2), (wrap64 (x9_2 + 1)), (by first | rfl | (simp; done) | (simp [*]; done)), (by first | rfl | (simp; done) | (simp [*]; done)), H', ⟨by have := HK1.out; have := HK2.out; omega⟩, ⟨by (with_reducible repeat (first | apply rA | apply rN | apply rD)); exact HO_7.out⟩, ⟨by repeat (first | (with_reducible first | exact HB.out | apply bA | apply bN | apply bD) | exact HB.out)⟩⟩
          ·
           rw [if_neg c22] at H
           have c22b0 : decide (0 ≤ ((rd_T36 l0 x9_2).f1)) = false := decide_eq_false c22
           clear c22; have H' := Aside0.mk H; clear H
           have p144 : 0 ≤ (x9_2 : Int) := of_decide_eq_true (by assumption)
           have q144 : x9_2 < (l0.length : Int) := of_decide_eq_true (by assumption)
           obtain ⟨ad144, e144, hx144_0, hx144_1, hx144_2, hx144_3, hx144_4, hx144_5, hx144_6, hx144_7⟩ := at_T36 HR0.out x9_2 p144 q144
           cases e144; replace hx144_0 := upc HB.out hx144_0; replace hx144_1 := upc HB.out hx144_1; replace hx144_2 := upc HB.out hx144_2; replace hx144_3 := upc HB.out hx144_3; replace hx144_4 := upc HB.out hx144_4; replace hx144_5 := upc HB.out hx144_5; replace hx144_6 := upc HB.out hx144_6; replace hx144_7 := upc HB.out hx144_7; replace p144 := eq_true p144; replace q144 := eq_true q144
           have p145 : 0 ≤ (x9_2 : Int) := of_decide_eq_true (by assumption)
           have q145 : x9_2 < (l0.length : Int) := of_decide_eq_true (by assumption)
           obtain ⟨ad145, e145, hx145_0, hx145_1, hx145_2, hx145_3, hx145_4, hx145_5, hx145_6, hx145_7⟩ := at_T36 HR0.out x9_2 p145 q145
           obtain rfl : ad144 = ad145 := (by injection e145)
           replace hx145_0 := upc HB.out hx145_0; replace hx145_1 := upc HB.out hx145_1; replace hx145_2 := upc HB.out hx145_2; replace hx145_3 := upc HB.out hx145_3; replace hx145_4 := upc HB.out hx145_4; replace hx145_5 := upc HB.out hx145_5; replace hx145_6 := upc HB.out hx145_6; replace hx145_7 := upc HB.out hx145_7; replace p145 := eq_true p145; replace q145 := eq_true q145
           have p152 : 0 ≤ (x9_2 : Int) := of_decide_eq_true (by assumption)
           have q152 : x9_2 < (l0.length : Int) := of_decide_eq_true (by assumption)
           obtain ⟨ad152, e152, hx152_0, hx152_1, hx152_2, hx152_3, hx152_4, hx152_5, hx152_6, hx152_7⟩ := at_T36 HR0.out x9_2 p152 q152
           obtain rfl : ad144 = ad152 := (by injection e152)
           replace hx152_0 := upc HB.out hx152_0; replace hx152_1 := upc HB.out hx152_1; replace hx152_2 := upc HB.out hx152_2; replace hx152_3 := upc HB.out hx152_3; replace hx152_4 := upc HB.out hx152_4; replace hx152_5 := upc HB.out hx152_5; replace hx152_6 := upc HB.out hx152_6; replace hx152_7 := upc HB.out hx152_7; replace p152 := eq_true p152; replace q152 := eq_true q152
           have p153 : 0 ≤ (x9_2 : Int) := of_decide_eq_true (by assumption)
           have q153 : x9_2 < (l0.length : Int) := of_decide_eq_true (by assumption)
           obtain ⟨ad153, e153, hx153_0, hx153_1, hx153_2, hx153_3, hx153_4, hx153_5, hx153_6, hx153_7⟩ := at_T36 HR0.out x9_2 p153 q153
           obtain rfl : ad144 = ad153 := (by injection e153)
           replace hx153_0 := upc HB.out hx153_0; replace hx153_1 := upc HB.out hx153_1; replace hx153_2 := upc HB.out hx153_2; replace hx153_3 := upc HB.out hx153_3; replace hx153_4 := upc HB.out hx153_4; replace hx153_5 := upc HB.out hx153_5; replace hx153_6 := upc HB.out hx153_6; replace hx153_7 := upc HB.out hx153_7; replace p153 := eq_true p153; replace q153 := eq_true q153
           go_wp2
           repeat (go_quiet (fail); try go_wp2)
           go_roundg k2
           case measure => have := HK1.out; have := HK2.out; omega
           case rel => exact ⟨(x7_2), (x8_2), (wrap64 (x9_2 + 1)), (by first | rfl | (simp; done) | (simp [*]; done)), (by first | rfl | (simp; done) | (simp [*]; done)), H', ⟨by have := HK1.out; have := HK2.out; omega⟩, ⟨by (with_reducible repeat (first | apply rA | apply rN | apply rD)); exact HO_7.out⟩, ⟨by repeat (first | (with_reducible first | exact HB.out | apply bA | apply bN | apply bD) | exact HB.out)⟩⟩
         ·
          rw [if_neg c21] at H
          have c21b0 : (((rd_T36 l0 x9_2).f2) == x8_2) = false := beq_eq_false_iff_ne.mpr c21
          have c21b1 : (((rd_T36 l0 x9_2).f2) != x8_2) = true := bne_iff_ne.mpr c21
          by_cases c30 : (-1) ≥ 0
          ·
           exact absurd c30 (by decide)
          ·
           rw [if_neg c30] at H
           have c30b0 : decide (0 ≤ (-1)) = false := decide_eq_false c30
           clear c30; have H' := Aside0.mk H; clear H
           have p144 : 0 ≤ (x9_2 : Int) := of_decide_eq_true (by assumption)
           have q144 : x9_2 < (l0.length : Int) := of_decide_eq_true (by assumption)
           obtain ⟨ad144, e144, hx144_0, hx144_1, hx144_2, hx144_3, hx144_4, hx144_5, hx144_6, hx144_7⟩ := at_T36 HR0.out x9_2 p144 q144
           cases e144; replace hx144_0 := upc HB.out hx144_0; replace hx144_1 := upc HB.out hx144_1; replace hx144_2 := upc HB.out hx144_2; replace hx144_3 := upc HB.out hx144_3; replace hx144_4 := upc HB.out hx144_4; replace hx144_5 := upc HB.out hx144_5; replace hx144_6 := upc HB.out hx144_6; replace hx144_7 := upc HB.out hx144_7; replace p144 := eq_true p144; replace q144 := eq_true q144
           have p145 : 0 ≤ (x9_2 : Int) := of_decide_eq_true (by assumption)
           have q145 : x9_2 < (l0.length : Int) := of_decide_eq_true (by assumption)
           obtain ⟨ad145, e145, hx145_0, hx145_1, hx145_2, hx145_3, hx145_4, hx145_5, hx145_6, hx145_7⟩ := at_T36 HR0.out x9_2 p145 q145
           obtain rfl : ad144 = ad145 := (by injection e145)
           replace hx145_0 := upc HB.out hx145_0; replace hx145_1 := upc HB.out hx145_1; replace hx145_2 := upc HB.out hx145_2; replace hx145_3 := upc HB.out hx145_3; replace hx145_4 := upc HB.out hx145_4; replace hx145_5 := upc HB.out hx145_5; replace hx145_6 := upc HB.out hx145_6; replace hx145_7 := upc HB.out hx145_7; replace p145 := eq_true p145; replace q145 := eq_true q145
           have p152 : 0 ≤ (x9_2 : Int) := of_decide_eq_true (by assumption)
           have q152 : x9_2 < (l0.length : Int) := of_decide_eq_true (by assumption)
           obtain ⟨ad152, e152, hx152_0, hx152_1, hx152_2, hx152_3, hx152_4, hx152_5, hx152_6, hx152_7⟩ := at_T36 HR0.out x9_2 p152 q152
           obtain rfl : ad144 = ad152 := (by injection e152)
           replace hx152_0 := upc HB.out hx152_0; replace hx152_1 := upc HB.out hx152_1; replace hx152_2 := upc HB.out hx152_2; replace hx152_3 := upc HB.out hx152_3; replace hx152_4 := upc HB.out hx152_4; replace hx152_5 := upc HB.out hx152_5; replace hx152_6 := upc HB.out hx152_6; replace hx152_7 := upc HB.out hx152_7; replace p152 := eq_true p152; replace q152 := eq_true q152
           go_wp2
           repeat (go_quiet (fail); try go_wp2)
           go_roundg k2
           case measure => have := HK1.out; have := HK2.out; omega
           case rel => exact ⟨(x7_2), (x8_2), (wrap64 (x9_2 + 1)), (by first | rfl | (simp; done) | (simp [*]; done)), (by first | rfl | (simp; done) | (simp [*]; done)), H', ⟨by have := HK1.out; have := HK2.out; omega⟩, ⟨by (with_reducible repeat (first | apply rA | apply rN | apply rD)); exact HO_7.out⟩, ⟨by repeat (first | (with_reducible first | exact HB.out | apply bA | apply bN | apply bD) | exact HB.out)⟩⟩
       ·
        rw [if_neg c11] at H
        have c11b0 : (((rd_T36 l0 x9_2).f0) == 1) = false := beq_eq_false_iff_ne.mpr c11
        have c11b1 : (((rd_T36 l0 x9_2).f0) != 1) = true := bne_iff_ne.mpr c11
        have H' := Aside0.mk H; clear H
        have p144 : 0 ≤ (x9_2 : Int) := of_decide_eq_true (by assumption)
        have q144 : x9_2 < (l0.length : Int) := of_decide_eq_true (by assumption)
        obtain ⟨ad144, e144, hx144_0, hx144_1, hx144_2, hx144_3, hx144_4, hx144_5, hx144_6, hx144_7⟩ := at_T36 HR0.out x9_2 p144 q144
        cases e144; replace hx144_0 := upc HB.out hx144_0; replace hx144_1 := upc HB.out hx144_1; replace hx144_2 := upc HB.out hx144_2; replace hx144_3 := upc HB.out hx144_3; replace hx144_4 := upc HB.out hx144_4; replace hx144_5 := upc HB.out hx144_5; replace hx144_6 := upc HB.out hx144_6; replace hx144_7 := upc HB.out hx144_7; replace p144 := eq_true p144; replace q144 := eq_true q144
        go_wp2
        repeat (go_quiet (fail); try go_wp2)
        go_roundg k2
        case measure => have := HK1.out; have := HK2.out; omega
        case rel => exact ⟨(x7_2), (x8_2), (wrap64 (x9_2 + 1)), (by first | rfl | (simp; done) | (simp [*]; done)), (by first | rfl | (simp; done) | (simp [*]; done)), H', ⟨by have := HK1.out; have := HK2.out; omega⟩, ⟨by (with_reducible repeat (first | apply rA | apply rN | apply rD)); exact HO_7.out⟩, ⟨by repeat (first | (with_reducible first | exact HB.out | apply bA | apply bN | apply bD) | exact HB.out)⟩⟩
      ·
       rw [if_neg c9] at H
       have c9b0 : decide (x9_2 < (l0.length : Int)) = false := decide_eq_false c9
       clear c9; have H' := Aside0.mk H; clear H
       go_wp2
       repeat (go_quiet (fail); try go_wp2)
       go_roundg k2
       case measure => have := HK1.out; have := HK2.out; omega
       case rel => exact ⟨(x7_2), (x8_2), (by first | rfl | (simp; done) | (simp [*]; done)), H', ⟨by have := HK1.out; have := HK2.out; omega⟩, ⟨by (with_reducible repeat (first | apply rA | apply rN | apply rD)); exact HO_7.out⟩, ⟨by repeat (first | (with_reducible first | exact HB.out | apply bA | apply bN | apply bD) | exact HB.out)⟩⟩
   ·
    rw [if_neg c8] at H
    have c8b0 : decide (0 < (rd l2 x8_1)) = false := decide_eq_false c8
    clear c8
    obtain rfl := Option.some.inj H
    have p143 : 0 ≤ (x8_1 : Int) := of_decide_eq_true (by assumption)
    have q143 : x8_1 < (l2.length : Int) := of_decide_eq_true (by assumption)
    obtain ⟨ad143, e143, hx143_0⟩ := Kd.at_int HR2.out x8_1 p143 q143
    cases e143; replace hx143_0 := upc HB.out hx143_0; replace p143 := eq_true p143; replace q143 := eq_true q143
    go_wp2
    repeat (go_quiet (fail); try go_wp2)
    go_ret
    exact ⟨_, by first | rfl | (simp [errW_none, errW_some] <;> rfl) | (simp [*, errW_none, errW_some] <;> rfl), by (with_reducible repeat (first | apply rA | apply rN | apply rD)); exact HO_7.out, by repeat (first | (with_reducible first | exact HB.out | apply bA | apply bN | apply bD) | exact HB.out)⟩
end Go.Proofs.Ytjbafigageingaa.PS
