import Derived.Test.YtjbafigageingaaKsM5
import Derived.Test.YtjbafigageingaaKsM1
import Derived.Test.YtjbafigageingaaKsPRx6
import Derived.Test.YtjbafigageingaaProg
import Derived.Test.YtjbafigageingaaKsW
import Derived.Below
import Derived.Deep.Draws
import Derived.Deep.AppendLies
import Derived.Maps.AppendAt
import Derived.OwnWalk
import Derived.Laws.BytesArg
import Derived.Laws.MakeOwn
import Derived.Laws.OwnMore
import Derived.Deep.OwnRows
import Derived.Tactics
import Derived.Lib.ConvBytes
import Derived.Laws.Slices
import Derived.WalkKit
import Derived.KernelRfl
import Derived.RowKit3
import Derived.Deep.LoopGhost
import Derived.Deep.QuietTactic
import Derived.BigQuiet
import Derived.WideLaws
import Derived.Deep.DeepCutAuto
import Derived.Deep.CutBlock
import Derived.Deep.RegionHeld3
import Derived.Laws.Rows
import Derived.Lib.AppendStr
import Derived.ArgAppend
import Derived.Laws.IdiomCopy
import Derived.OrdersHeld
import Derived.Laws.BitsLemmas
import Derived.RowKit
import Derived.Test.YtjbafigageingaaKsPSx6
namespace Go.Proofs.Ytjbafigageingaa.PS
open Go.Proofs.Ytjbafigageingaa.PR Go.Proofs.Ytjbafigageingaa.PF
open Go.RowKit Go.Proofs.YtjbafigageingaaW.PrintWords Go.Proofs.YtjbafigageingaaW.PrintLast Go.Proofs.YtjbafigageingaaW.PrintMore
attribute [local go_sem] max2_int min2_int max_two min_two max_three min_three max_four min_four
set_option linter.unusedVariables false
set_option linter.unusedSimpArgs false

mutual
def constraints_Explain.l0 : Nat → List (S36) → List (S65) → List Int → Int → Int → Option ((List (S65)))
 | 0, _, _, _, _, _ => none
 | k + 1, x0, x5, x9, x10, x11 => if x11 < x10 then (if 0 ≤ x11 then (if x11 < (x9.length : Int) then (if (rd x9 x11) < 0 then (constraints_Explain.j1 k x0 x5 (rd x9 x11) x9 x10 x11 true) else (constraints_Explain.j1 k x0 x5 (rd x9 x11) x9 x10 x11 (decide ((rd x9 x11) ≥ (x0.length : Int))))) else (none)) else (none)) else (some x5)
def constraints_Explain.j1 : Nat → List (S36) → List (S65) → Int → List Int → Int → Int → Bool → Option ((List (S65)))
 | 0, _, _, _, _, _, _, _ => none
 | k + 1, x0, x5, x7, x9, x10, x11, x22 => if x22 = true then (some ([] : List (S65))) else (if 0 ≤ x7 then (if x7 < (x0.length : Int) then (if ((rd_T36 x0 x7).f0) = 0 then ((types_Format.f ((rd_T36 x0 x7).f3.f0) ((rd_T36 x0 x7).f3.f1) ((rd_T36 x0 x7).f3.f2)).bind fun t242 => (if x5.length < 3518437208883 then (constraints_Explain.l0 k x0 (x5 ++ [(⟨(rd_T36 x0 x7).f0, (rd_T36 x0 x7).f4, (rd_T36 x0 x7).f5, t242⟩ : S65)]) x9 x10 (wrap64 (x11 + 1))) else (none))) else (if x5.length < 3518437208883 then (constraints_Explain.l0 k x0 (x5 ++ [(⟨(rd_T36 x0 x7).f0, (rd_T36 x0 x7).f4, (rd_T36 x0 x7).f5, (⟨#[]⟩ : ByteArray)⟩ : S65)]) x9 x10 (wrap64 (x11 + 1))) else (none))) else (none)) else (none))
end
def constraints_Explain.f (k : Nat) (l0 : List (S36)) (l1 : List Int) : Option ((List (S65))) := constraints_Explain.l0 k l0 ([] : List (S65)) l1 (l1.length : Int) 0
def constraints_Explain.T7 : Bool × List (List Nat × List Nat) := (true, [([], []), ([], []), ([0, 1], [0, 1]), ([2], [2]), ([3], [3]), ([], []), ([], []), ([5, 6], [5, 6]), ([7], [7]), ([8], [8]), ([], []), ([], []), ([10, 11], [10, 11]), ([12], [12]), ([13], [13]), ([4, 9, 14], [4, 9, 14]), ([], []), ([16, 15, 0, 1, 2, 3, 4, 5, 6, 7, 8, 9, 10, 11, 12, 13, 14, 15, 16], [15, 16])])
def constraints_Explain.B7 : List Nat := [0, 0, 3, 7, 15, 0, 0, 96, 224, 480, 0, 0, 3072, 7168, 15360, 32767, 0, 131071]
theorem constraints_Explain.tab7 : rtab .any (opsOf Try.f20 7) = constraints_Explain.T7 := by kernel_rfl
theorem constraints_Explain.bits7 : waitsOk constraints_Explain.T7.2 constraints_Explain.B7 = true := by kernel_rfl
set_option maxHeartbeats 8000000 in
set_option maxRecDepth 100000 in
theorem constraints_Explain.calls (k : Nat) (A0 : Option Addr) (c0 : Nat) (l0 : List (S36)) (A1 : Option Addr) (c1 : Nat) (l1 : List Int) (r : List (S65)) (w : World) (hr0 : Kd.C k36 w A0 l0.length l0) (hc0 : l0.length ≤ c0) (hr1 : Kd.C (Kd.int .i64) w A1 l1.length l1) (hc1 : l1.length ≤ c1) (h : constraints_Explain.f k l0 l1 = some r) :
  Calls Try.prog 20 #[.slice A0 l0.length c0, .slice A1 l1.length c1] w fun e w' => ∃ v0_ : Value, e = .returned (v0_) ∧ Kd.R k65 65 w' w.heap.size (fun _ => True) v0_ r ∧ Below w.heap.size w w' := by
 have hu65 := Try.underlying65
 have hu23 := Try.underlying23
 have HR0 := Aside0.mk hr0
 have HC0 := Aside0.mk hc0
 clear hr0 hc0
 have HR1 := Aside0.mk hr1
 have HC1 := Aside0.mk hc1
 clear hr1 hc1
 have HB := Aside0.mk (Below.refl w.heap.size w)
 have H : (constraints_Explain.l0 k l0 ([] : List (S65)) l1 (l1.length : Int) 0) = some r := h
 clear h; have H' := Aside0.mk H; clear H
 go_enter Try.func20, Try.ntmps20
 go_wp2
 go_loopg [5, 11] k (fun kq v5 v11 w' => ∃ (x5_1 : List (S65)) (x11_1 : Int), v11 = .int .i64 x11_1 ∧ Aside0 (constraints_Explain.l0 kq l0 x5_1 l1 (l1.length : Int) x11_1 = some r) ∧ Aside0 (kq ≤ k) ∧ Aside0 (Kd.R k65 65 w' w.heap.size (fun _ => True) v5 x5_1) ∧ Aside0 (Below w.heap.size w w'))
 case atStart => exact ⟨(([] : List (S65))), (0), (by first | rfl | (simp; done) | (simp [*]; done)), H', ⟨Nat.le_refl _⟩, ⟨by first | exact Kd.R_nil _ _ _ _ _ | exact Kd.N_nil _ _ _ _ _ | exact Kd.V_nil _ _ _ _ _ | exact Kd.Q_nil _ _ _ _ _ | exact Kd.S_nil _ _ _ _ _⟩, ⟨by repeat (first | (with_reducible first | exact HB.out | apply bA | apply bN | apply bD) | exact HB.out)⟩⟩
 case round =>
  clear H'; (try clear c1); (try clear c2); (try clear p2)
  obtain ⟨x5_1, x11_1, rfl, HA, HK1, HO_5, HB⟩ := hrel
  cases gk with
  | zero => exact absurd HA.out (by simp [constraints_Explain.l0])
  | succ k1 =>
   have H := HA.out
   clear HA
   simp only [constraints_Explain.l0] at H
   by_cases c3 : x11_1 < (l1.length : Int)
   ·
    rw [if_pos c3] at H
    have c3b0 : decide (x11_1 < (l1.length : Int)) = true := decide_eq_true c3
    clear c3
    by_cases c4 : 0 ≤ x11_1; rotate_left
    · rw [if_neg c4] at H; exact absurd H (by simp)
    rw [if_pos c4] at H
    have c4b0 : decide (0 ≤ x11_1) = true := decide_eq_true c4
    clear c4
    by_cases c5 : x11_1 < (l1.length : Int); rotate_left
    · rw [if_neg c5] at H; exact absurd H (by simp)
    rw [if_pos c5] at H
    have c5b0 : decide (x11_1 < (l1.length : Int)) = true := decide_eq_true c5
    clear c5
    have HC6 := Aside0.mk H
    clear H
    have p236 : 0 ≤ (x11_1 : Int) := of_decide_eq_true (by assumption)
    have q236 : x11_1 < (l1.length : Int) := of_decide_eq_true (by assumption)
    obtain ⟨ad236, e236, hx236_0⟩ := Kd.at_int HR1.out x11_1 p236 q236
    cases e236; replace hx236_0 := upc HB.out hx236_0; replace p236 := eq_true p236; replace q236 := eq_true q236
    go_upto_region 5 with (fail)
    go_cut [22] (fun v22 wc => ∃ (kq : Nat) (x22_5 : Bool), v22 = .bool x22_5 ∧ Aside0 (constraints_Explain.j1 kq l0 x5_1 (rd l1 x11_1) l1 (l1.length : Int) x11_1 x22_5 = some r) ∧ Aside0 (kq ≤ k1) ∧ Aside0 (Kd.R k65 65 wc w.heap.size (fun _ => True) u5 x5_1) ∧ Aside0 (Below w.heap.size w wc))
    case first =>
     have H := HC6.out
     clear HC6
     by_cases c7 : (rd l1 x11_1) < 0
     ·
      rw [if_pos c7] at H
      have c7b0 : decide ((rd l1 x11_1) < 0) = true := decide_eq_true c7
      clear c7
      (first | rw [c7b0] | (simp only [i64_w, i32_w]; rw [c7b0]) | skip)
      have H' := Aside0.mk H; clear H
      go_wp2
      go_meet
      case rel => exact ⟨_, (true), (by first | rfl | (simp; done) | (simp [*]; done)), H', ⟨by have := HK1.out; first | omega | exact Nat.le_refl _⟩, ⟨by (with_reducible repeat (first | apply rA | apply rN | apply rD)); exact HO_5.out⟩, ⟨by repeat (first | (with_reducible first | exact HB.out | apply bA | apply bN | apply bD) | exact HB.out)⟩⟩
     ·
      rw [if_neg c7] at H
      have c7b0 : decide ((rd l1 x11_1) < 0) = false := decide_eq_false c7
      clear c7
      (first | rw [c7b0] | (simp only [i64_w, i32_w]; rw [c7b0]) | skip)
      have H' := Aside0.mk H; clear H
      go_wp2
      go_meet
      case rel => exact ⟨_, (decide ((rd l1 x11_1) ≥ (l0.length : Int))), (by first | rfl | (simp; done) | (simp [*]; done)), H', ⟨by have := HK1.out; first | omega | exact Nat.le_refl _⟩, ⟨by (with_reducible repeat (first | apply rA | apply rN | apply rD)); exact HO_5.out⟩, ⟨by repeat (first | (with_reducible first | exact HB.out | apply bA | apply bN | apply bD) | exact HB.out)⟩⟩
    case rest =>
     clear HC6; (try clear c1); (try clear c2); (try clear p2); (try clear q2); (try clear hx2); (try clear c3); (try clear c3b0); (try clear c4); (try clear c4b0); (try clear c5); (try clear c5b0); (try clear c7); (try clear c7b0); (try clear hx236_0); (try clear p2); (try clear p236); (try clear q236)
     obtain ⟨kq, x22_5, rfl, HA, HJ5, HO_5, HB⟩ := hcut
     cases kq with
     | zero => exact absurd HA.out (by simp [constraints_Explain.j1])
     | succ kj5 =>
      have H := HA.out
      clear HA
      simp only [constraints_Explain.j1] at H
      by_cases c8 : x22_5 = true
      ·
       subst c8
       have H1 : (some ([] : List (S65))) = some r := by rw [if_pos rfl] at H; exact H
       clear H; have H := H1; clear H1
       obtain rfl := Option.some.inj H
       go_wp2
       go_ret
       exact ⟨_, by first | rfl | (simp [errW_none, errW_some] <;> rfl) | (simp [*, errW_none, errW_some] <;> rfl), by first | exact Kd.R_nil _ _ _ _ _ | exact Kd.N_nil _ _ _ _ _ | exact Kd.V_nil _ _ _ _ _ | exact Kd.Q_nil _ _ _ _ _ | exact Kd.S_nil _ _ _ _ _, by repeat (first | (with_reducible first | exact HB.out | apply bA | apply bN | apply bD) | exact HB.out)⟩
      ·
       replace c8 := Bool.eq_false_iff.mpr c8
       subst c8
       have H1 : (if 0 ≤ (rd l1 x11_1) then (if (rd l1 x11_1) < (l0.length : Int) then (if ((rd_T36 l0 (rd l1 x11_1)).f0) = 0 then ((types_Format.f ((rd_T36 l0 (rd l1 x11_1)).f3.f0) ((rd_T36 l0 (rd l1 x11_1)).f3.f1) ((rd_T36 l0 (rd l1 x11_1)).f3.f2)).bind fun t242 => (if x5_1.length < 3518437208883 then (constraints_Explain.l0 kj5 l0 (x5_1 ++ [(⟨(rd_T36 l0 (rd l1 x11_1)).f0, (rd_T36 l0 (rd l1 x11_1)).f4, (rd_T36 l0 (rd l1 x11_1)).f5, t242⟩ : S65)]) l1 (l1.length : Int) (wrap64 (x11_1 + 1))) else (none))) else (if x5_1.length < 3518437208883 then (constraints_Explain.l0 kj5 l0 (x5_1 ++ [(⟨(rd_T36 l0 (rd l1 x11_1)).f0, (rd_T36 l0 (rd l1 x11_1)).f4, (rd_T36 l0 (rd l1 x11_1)).f5, (⟨#[]⟩ : ByteArray)⟩ : S65)]) l1 (l1.length : Int) (wrap64 (x11_1 + 1))) else (none))) else (none)) else (none)) = some r := by rw [if_neg (show ¬ (false = true) by decide)] at H; exact H
       clear H; have H := H1; clear H1
       by_cases c9 : 0 ≤ (rd l1 x11_1); rotate_left
       · rw [if_neg c9] at H; exact absurd H (by simp)
       rw [if_pos c9] at H
       have c9b0 : decide (0 ≤ (rd l1 x11_1)) = true := decide_eq_true c9
       clear c9
       by_cases c10 : (rd l1 x11_1) < (l0.length : Int); rotate_left
       · rw [if_neg c10] at H; exact absurd H (by simp)
       rw [if_pos c10] at H
       have c10b0 : decide ((rd l1 x11_1) < (l0.length : Int)) = true := decide_eq_true c10
       clear c10
       by_cases c11 : ((rd_T36 l0 (rd l1 x11_1)).f0) = 0
       ·
        rw [if_pos c11] at H
        have c11b0 : (((rd_T36 l0 (rd l1 x11_1)).f0) == 0) = true := beq_iff_eq.mpr c11
        have c11b1 : (((rd_T36 l0 (rd l1 x11_1)).f0) != 0) = false := bne_eq_false_iff_eq.mpr c11
        clear c11
        replace H := Option.bind_eq_some_iff.mp H
        obtain ⟨t242, A120, H⟩ := H
        replace H : (if x5_1.length < 3518437208883 then (constraints_Explain.l0 kj5 l0 (x5_1 ++ [(⟨(rd_T36 l0 (rd l1 x11_1)).f0, (rd_T36 l0 (rd l1 x11_1)).f4, (rd_T36 l0 (rd l1 x11_1)).f5, t242⟩ : S65)]) l1 (l1.length : Int) (wrap64 (x11_1 + 1))) else (none)) = some r := H
        have A12 := Aside0.mk A120
        clear A120
        by_cases c13 : x5_1.length < 3518437208883; rotate_left
        · rw [if_neg c13] at H; exact absurd H (by simp)
        rw [if_pos c13] at H
        have LMc13 := Aside0.mk c13
        clear c13
        obtain ⟨y243, hy243⟩ : ∃ y_ : List (S65), y_ = (x5_1 ++ [(⟨(rd_T36 l0 (rd l1 x11_1)).f0, (rd_T36 l0 (rd l1 x11_1)).f4, (rd_T36 l0 (rd l1 x11_1)).f5, t242⟩ : S65)]) := ⟨_, rfl⟩
        replace H : (constraints_Explain.l0 kj5 l0 y243 l1 (l1.length : Int) (wrap64 (x11_1 + 1))) = some r := by first | (rw [hy243]; with_reducible exact H) | (have H2_ := (Option.bind_some _ _).symm.trans H; rw [hy243]; with_reducible exact H2_) | (have H2_ := (Option.bind_some _ _).symm.trans H; with_reducible exact H2_) | with_reducible exact H | (rw [hy243]; exact H) | exact H
        have Ny243 := Aside0.mk hy243
        clear hy243; have H' := Aside0.mk H; clear H
        try go_wp2
        have n0_ := Aside0.mk (rD HO_5.out)
        have n1_ := Aside0.mk (bD HB.out)
        clear HO_5; clear HB; have HO_5 := n0_; have HB := n1_; clear n0_ n1_
        have p237 : 0 ≤ ((rd l1 x11_1) : Int) := of_decide_eq_true (by assumption)
        have q237 : (rd l1 x11_1) < (l0.length : Int) := of_decide_eq_true (by assumption)
        obtain ⟨ad237, e237, hx237_0, hx237_1, hx237_2, hx237_3, hx237_4, hx237_5, hx237_6, hx237_7⟩ := at_T36 HR0.out (rd l1 x11_1) p237 q237
        have hw237_7 := hx237_7; have hw237_6 := hx237_6; have hw237_5 := hx237_5; have hw237_4 := hx237_4; have hw237_3 := hx237_3; have hw237_2 := hx237_2; have hw237_1 := hx237_1; have hw237_0 := hx237_0; cases e237; replace hx237_0 := upc HB.out hx237_0; replace hx237_1 := upc HB.out hx237_1; replace hx237_2 := upc HB.out hx237_2; replace hx237_3 := upc HB.out hx237_3; replace hx237_4 := upc HB.out hx237_4; replace hx237_5 := upc HB.out hx237_5; replace hx237_6 := upc HB.out hx237_6; replace hx237_7 := upc HB.out hx237_7; replace p237 := eq_true p237; replace q237 := eq_true q237
        have p238 : 0 ≤ ((rd l1 x11_1) : Int) := of_decide_eq_true (by assumption)
        have q238 : (rd l1 x11_1) < (l0.length : Int) := of_decide_eq_true (by assumption)
        obtain ⟨ad238, e238, hx238_0, hx238_1, hx238_2, hx238_3, hx238_4, hx238_5, hx238_6, hx238_7⟩ := at_T36 HR0.out (rd l1 x11_1) p238 q238
        have hw238_7 := hx238_7; have hw238_6 := hx238_6; have hw238_5 := hx238_5; have hw238_4 := hx238_4; have hw238_3 := hx238_3; have hw238_2 := hx238_2; have hw238_1 := hx238_1; have hw238_0 := hx238_0
        obtain rfl : ad237 = ad238 := (by injection e238)
        replace hx238_0 := upc HB.out hx238_0; replace hx238_1 := upc HB.out hx238_1; replace hx238_2 := upc HB.out hx238_2; replace hx238_3 := upc HB.out hx238_3; replace hx238_4 := upc HB.out hx238_4; replace hx238_5 := upc HB.out hx238_5; replace hx238_6 := upc HB.out hx238_6; replace hx238_7 := upc HB.out hx238_7; replace p238 := eq_true p238; replace q238 := eq_true q238
        have p239 : 0 ≤ ((rd l1 x11_1) : Int) := of_decide_eq_true (by assumption)
        have q239 : (rd l1 x11_1) < (l0.length : Int) := of_decide_eq_true (by assumption)
        obtain ⟨ad239, e239, hx239_0, hx239_1, hx239_2, hx239_3, hx239_4, hx239_5, hx239_6, hx239_7⟩ := at_T36 HR0.out (rd l1 x11_1) p239 q239
        have hw239_7 := hx239_7; have hw239_6 := hx239_6; have hw239_5 := hx239_5; have hw239_4 := hx239_4; have hw239_3 := hx239_3; have hw239_2 := hx239_2; have hw239_1 := hx239_1; have hw239_0 := hx239_0
        obtain rfl : ad237 = ad239 := (by injection e239)
        replace hx239_0 := upc HB.out hx239_0; replace hx239_1 := upc HB.out hx239_1; replace hx239_2 := upc HB.out hx239_2; replace hx239_3 := upc HB.out hx239_3; replace hx239_4 := upc HB.out hx239_4; replace hx239_5 := upc HB.out hx239_5; replace hx239_6 := upc HB.out hx239_6; replace hx239_7 := upc HB.out hx239_7; replace p239 := eq_true p239; replace q239 := eq_true q239
        refine start_ (n := 18) (S := fun w' => w'.cell? (ad237.add (((rd l1 x11_1)).toNat * 8)) = some (.int .i64 ((rd_T36 l0 (rd l1 x11_1)).f0)) ∧ w'.cell? ⟨(ad237.add (((rd l1 x11_1)).toNat * 8)).block, (ad237.add (((rd l1 x11_1)).toNat * 8)).off + 1, none⟩ = some (.int .i64 ((rd_T36 l0 (rd l1 x11_1)).f1)) ∧ w'.cell? ⟨(ad237.add (((rd l1 x11_1)).toNat * 8)).block, (ad237.add (((rd l1 x11_1)).toNat * 8)).off + 2, none⟩ = some (.int .i64 ((rd_T36 l0 (rd l1 x11_1)).f2)) ∧ w'.cell? ⟨(ad237.add (((rd l1 x11_1)).toNat * 8)).block, (ad237.add (((rd l1 x11_1)).toNat * 8)).off + 3, none⟩ = some (.int .i64 ((rd_T36 l0 (rd l1 x11_1)).f3.f0)) ∧ w'.cell? ⟨(ad237.add (((rd l1 x11_1)).toNat * 8)).block, (ad237.add (((rd l1 x11_1)).toNat * 8)).off + 4, none⟩ = some (.int .i64 ((rd_T36 l0 (rd l1 x11_1)).f3.f1)) ∧ w'.cell? ⟨(ad237.add (((rd l1 x11_1)).toNat * 8)).block, (ad237.add (((rd l1 x11_1)).toNat * 8)).off + 5, none⟩ = some (.string ((rd_T36 l0 (rd l1 x11_1)).f3.f2)) ∧ w'.cell? ⟨(ad237.add (((rd l1 x11_1)).toNat * 8)).block, (ad237.add (((rd l1 x11_1)).toNat * 8)).off + 6, none⟩ = some (.int .i64 ((rd_T36 l0 (rd l1 x11_1)).f4)) ∧ w'.cell? ⟨(ad237.add (((rd l1 x11_1)).toNat * 8)).block, (ad237.add (((rd l1 x11_1)).toNat * 8)).off + 7, none⟩ = some (.int .i64 ((rd_T36 l0 (rd l1 x11_1)).f5)) ∧ w'.cell? (ad237.add (((rd l1 x11_1)).toNat * 8)) = some (.int .i64 ((rd_T36 l0 (rd l1 x11_1)).f0)) ∧ w'.cell? ⟨(ad237.add (((rd l1 x11_1)).toNat * 8)).block, (ad237.add (((rd l1 x11_1)).toNat * 8)).off + 1, none⟩ = some (.int .i64 ((rd_T36 l0 (rd l1 x11_1)).f1)) ∧ w'.cell? ⟨(ad237.add (((rd l1 x11_1)).toNat * 8)).block, (ad237.add (((rd l1 x11_1)).toNat * 8)).off + 2, none⟩ = some (.int .i64 ((rd_T36 l0 (rd l1 x11_1)).f2)) ∧ w'.cell? ⟨(ad237.add (((rd l1 x11_1)).toNat * 8)).block, (ad237.add (((rd l1 x11_1)).toNat * 8)).off + 3, none⟩ = some (.int .i64 ((rd_T36 l0 (rd l1 x11_1)).f3.f0)) ∧ w'.cell? ⟨(ad237.add (((rd l1 x11_1)).toNat * 8)).block, (ad237.add (((rd l1 x11_1)).toNat * 8)).off + 4, none⟩ = some (.int .i64 ((rd_T36 l0 (rd l1 x11_1)).f3.f1)) ∧ w'.cell? ⟨(ad237.add (((rd l1 x11_1)).toNat * 8)).block, (ad237.add (((rd l1 x11_1)).toNat * 8)).off + 5, none⟩ = some (.string ((rd_T36 l0 (rd l1 x11_1)).f3.f2)) ∧ w'.cell? ⟨(ad237.add (((rd l1 x11_1)).toNat * 8)).block, (ad237.add (((rd l1 x11_1)).toNat * 8)).off + 6, none⟩ = some (.int .i64 ((rd_T36 l0 (rd l1 x11_1)).f4)) ∧ w'.cell? ⟨(ad237.add (((rd l1 x11_1)).toNat * 8)).block, (ad237.add (((rd l1 x11_1)).toNat * 8)).off + 7, none⟩ = some (.int .i64 ((rd_T36 l0 (rd l1 x11_1)).f5)) ∧ w'.cell? (ad237.add (((rd l1 x11_1)).toNat * 8)) = some (.int .i64 ((rd_T36 l0 (rd l1 x11_1)).f0)) ∧ w'.cell? ⟨(ad237.add (((rd l1 x11_1)).toNat * 8)).block, (ad237.add (((rd l1 x11_1)).toNat * 8)).off + 1, none⟩ = some (.int .i64 ((rd_T36 l0 (rd l1 x11_1)).f1)) ∧ w'.cell? ⟨(ad237.add (((rd l1 x11_1)).toNat * 8)).block, (ad237.add (((rd l1 x11_1)).toNat * 8)).off + 2, none⟩ = some (.int .i64 ((rd_T36 l0 (rd l1 x11_1)).f2)) ∧ w'.cell? ⟨(ad237.add (((rd l1 x11_1)).toNat * 8)).block, (ad237.add (((rd l1 x11_1)).toNat * 8)).off + 3, none⟩ = some (.int .i64 ((rd_T36 l0 (rd l1 x11_1)).f3.f0)) ∧ w'.cell? ⟨(ad237.add (((rd l1 x11_1)).toNat * 8)).block, (ad237.add (((rd l1 x11_1)).toNat * 8)).off + 4, none⟩ = some (.int .i64 ((rd_T36 l0 (rd l1 x11_1)).f3.f1)) ∧ w'.cell? ⟨(ad237.add (((rd l1 x11_1)).toNat * 8)).block, (ad237.add (((rd l1 x11_1)).toNat * 8)).off + 5, none⟩ = some (.string ((rd_T36 l0 (rd l1 x11_1)).f3.f2)) ∧ w'.cell? ⟨(ad237.add (((rd l1 x11_1)).toNat * 8)).block, (ad237.add (((rd l1 x11_1)).toNat * 8)).off + 6, none⟩ = some (.int .i64 ((rd_T36 l0 (rd l1 x11_1)).f4)) ∧ w'.cell? ⟨(ad237.add (((rd l1 x11_1)).toNat * 8)).block, (ad237.add (((rd l1 x11_1)).toNat * 8)).off + 7, none⟩ = some (.int .i64 ((rd_T36 l0 (rd l1 x11_1)).f5))) (ds := []) #[false, false, false, false, false, false, false, false, false, false, false, false, false, false, false, false, false, false] (by kernel_rfl) rfl rfl ⟨(upc HB.out hw237_0), (upc HB.out hw237_1), (upc HB.out hw237_2), (upc HB.out hw237_3), (upc HB.out hw237_4), (upc HB.out hw237_5), (upc HB.out hw237_6), (upc HB.out hw237_7), (upc HB.out hw238_0), (upc HB.out hw238_1), (upc HB.out hw238_2), (upc HB.out hw238_3), (upc HB.out hw238_4), (upc HB.out hw238_5), (upc HB.out hw238_6), (upc HB.out hw238_7), (upc HB.out hw239_0), (upc HB.out hw239_1), (upc HB.out hw239_2), (upc HB.out hw239_3), (upc HB.out hw239_4), (upc HB.out hw239_5), (upc HB.out hw239_6), (upc HB.out hw239_7)⟩ (fun hHeld => ?_); refine with_tabW constraints_Explain.tab7 constraints_Explain.bits7 (fun HT_ HW_ => ?_)
        generalize wc.drew = w14 at HO_5 HB hx237_0 hx237_1 hx237_2 hx237_3 hx237_4 hx237_5 hx237_6 hx237_7 hx238_0 hx238_1 hx238_2 hx238_3 hx238_4 hx238_5 hx238_6 hx238_7 hx239_0 hx239_1 hx239_2 hx239_3 hx239_4 hx239_5 hx239_6 hx239_7 hHeld ⊢
        refine pure_ (i := 0) (N := some 23) (v := ?_) (a' := ?_) #[true, false, false, false, false, false, false, false, false, false, false, false, false, false, false, false, false, false] rfl rfl (any_of HT_.out (by kernel_rfl)) (fun _ _ _ h => h) (Or.inl ⟨by rfl, ?_⟩) ?_ ?_
        rotate_left; (· intro w'; go_simp; with_reducible rfl)
        rotate_left; (· simp only [Act.put, List.setIfInBounds_toArray, List.set_cons_zero, List.set_cons_succ, i64_w, i32_w]; rfl)
        refine pure_ (i := 1) (N := some 24) (v := ?_) (a' := ?_) #[true, true, false, false, false, false, false, false, false, false, false, false, false, false, false, false, false, false] rfl rfl (any_of HT_.out (by kernel_rfl)) (fun _ _ _ h => h) (Or.inl ⟨by rfl, ?_⟩) ?_ ?_
        rotate_left; (· intro w'; go_simp; with_reducible rfl)
        rotate_left; (· simp only [Act.put, List.setIfInBounds_toArray, List.set_cons_zero, List.set_cons_succ, i64_w, i32_w]; rfl)
        refine pure_ (i := 2) (N := some 25) (v := ?_) (a' := ?_) #[true, true, true, false, false, false, false, false, false, false, false, false, false, false, false, false, false, false] rfl rfl (any_of HT_.out (by kernel_rfl)) (fun _ _ _ h => h) (Or.inl ⟨by rfl, ?_⟩) ?_ ?_
        rotate_left; (· intro w'; go_simp; with_reducible rfl)
        rotate_left; (· simp only [Act.put, List.setIfInBounds_toArray, List.set_cons_zero, List.set_cons_succ, i64_w, i32_w]; rfl)
        refine pure_ (i := 3) (N := some 26) (v := ?_) (a' := ?_) #[true, true, true, true, false, false, false, false, false, false, false, false, false, false, false, false, false, false] rfl rfl (any_of HT_.out (by kernel_rfl)) (fun _ _ _ h => h) (Or.inl ⟨by rfl, ?_⟩) ?_ ?_
        rotate_left; (· intro w'; go_simp; with_reducible rfl)
        rotate_left; (· simp only [Act.put, List.setIfInBounds_toArray, List.set_cons_zero, List.set_cons_succ, i64_w, i32_w]; rfl)
        refine pure_ (i := 5) (N := some 28) (v := ?_) (a' := ?_) #[true, true, true, true, false, true, false, false, false, false, false, false, false, false, false, false, false, false] rfl rfl (any_of HT_.out (by kernel_rfl)) (fun _ _ _ h => h) (Or.inl ⟨by rfl, ?_⟩) ?_ ?_
        rotate_left; (· intro w'; go_simp; with_reducible rfl)
        rotate_left; (· simp only [Act.put, List.setIfInBounds_toArray, List.set_cons_zero, List.set_cons_succ, i64_w, i32_w]; rfl)
        refine pure_ (i := 6) (N := some 29) (v := ?_) (a' := ?_) #[true, true, true, true, false, true, true, false, false, false, false, false, false, false, false, false, false, false] rfl rfl (any_of HT_.out (by kernel_rfl)) (fun _ _ _ h => h) (Or.inl ⟨by rfl, ?_⟩) ?_ ?_
        rotate_left; (· intro w'; go_simp; with_reducible rfl)
        rotate_left; (· simp only [Act.put, List.setIfInBounds_toArray, List.set_cons_zero, List.set_cons_succ, i64_w, i32_w]; rfl)
        refine pure_ (i := 7) (N := some 30) (v := ?_) (a' := ?_) #[true, true, true, true, false, true, true, true, false, false, false, false, false, false, false, false, false, false] rfl rfl (any_of HT_.out (by kernel_rfl)) (fun _ _ _ h => h) (Or.inl ⟨by rfl, ?_⟩) ?_ ?_
        rotate_left; (· intro w'; go_simp; with_reducible rfl)
        rotate_left; (· simp only [Act.put, List.setIfInBounds_toArray, List.set_cons_zero, List.set_cons_succ, i64_w, i32_w]; rfl)
        refine pure_ (i := 8) (N := some 31) (v := ?_) (a' := ?_) #[true, true, true, true, false, true, true, true, true, false, false, false, false, false, false, false, false, false] rfl rfl (any_of HT_.out (by kernel_rfl)) (fun _ _ _ h => h) (Or.inl ⟨by rfl, ?_⟩) ?_ ?_
        rotate_left; (· intro w'; go_simp; with_reducible rfl)
        rotate_left; (· simp only [Act.put, List.setIfInBounds_toArray, List.set_cons_zero, List.set_cons_succ, i64_w, i32_w]; rfl)
        refine pure_ (i := 10) (N := some 33) (v := ?_) (a' := ?_) #[true, true, true, true, false, true, true, true, true, false, true, false, false, false, false, false, false, false] rfl rfl (any_of HT_.out (by kernel_rfl)) (fun _ _ _ h => h) (Or.inl ⟨by rfl, ?_⟩) ?_ ?_
        rotate_left; (· intro w'; go_simp; with_reducible rfl)
        rotate_left; (· simp only [Act.put, List.setIfInBounds_toArray, List.set_cons_zero, List.set_cons_succ, i64_w, i32_w]; rfl)
        refine pure_ (i := 11) (N := some 34) (v := ?_) (a' := ?_) #[true, true, true, true, false, true, true, true, true, false, true, true, false, false, false, false, false, false] rfl rfl (any_of HT_.out (by kernel_rfl)) (fun _ _ _ h => h) (Or.inl ⟨by rfl, ?_⟩) ?_ ?_
        rotate_left; (· intro w'; go_simp; with_reducible rfl)
        rotate_left; (· simp only [Act.put, List.setIfInBounds_toArray, List.set_cons_zero, List.set_cons_succ, i64_w, i32_w]; rfl)
        refine pure_ (i := 12) (N := some 35) (v := ?_) (a' := ?_) #[true, true, true, true, false, true, true, true, true, false, true, true, true, false, false, false, false, false] rfl rfl (any_of HT_.out (by kernel_rfl)) (fun _ _ _ h => h) (Or.inl ⟨by rfl, ?_⟩) ?_ ?_
        rotate_left; (· intro w'; go_simp; with_reducible rfl)
        rotate_left; (· simp only [Act.put, List.setIfInBounds_toArray, List.set_cons_zero, List.set_cons_succ, i64_w, i32_w]; rfl)
        refine pure_ (i := 13) (N := some 36) (v := ?_) (a' := ?_) #[true, true, true, true, false, true, true, true, true, false, true, true, true, true, false, false, false, false] rfl rfl (any_of HT_.out (by kernel_rfl)) (fun _ _ _ h => h) (Or.inl ⟨by rfl, ?_⟩) ?_ ?_
        rotate_left; (· intro w'; go_simp; with_reducible rfl)
        rotate_left; (· simp only [Act.put, List.setIfInBounds_toArray, List.set_cons_zero, List.set_cons_succ, i64_w, i32_w]; rfl)
        refine take_ (i := 4) (N := some 27) (v := ?_) (a' := ?_) #[true, true, true, true, true, true, true, true, true, false, true, true, true, true, false, false, false, false] rfl rfl (take_ofW HT_.out HW_.out (by kernel_rfl)) (fun _ _ _ h => h) (Or.inl ⟨by rfl, ?_⟩) hHeld ?_ ?_
        rotate_left; (· rintro w' ⟨s0, s1, s2, s3, s4, s5, s6, s7, s8, s9, s10, s11, s12, s13, s14, s15, s16, s17, s18, s19, s20, s21, s22, s23⟩; go_simp; with_reducible rfl)
        rotate_left; (· simp only [Act.put, List.setIfInBounds_toArray, List.set_cons_zero, List.set_cons_succ, i64_w, i32_w]; rfl)
        refine take_ (i := 9) (N := some 32) (v := ?_) (a' := ?_) #[true, true, true, true, true, true, true, true, true, true, true, true, true, true, false, false, false, false] rfl rfl (take_ofW HT_.out HW_.out (by kernel_rfl)) (fun _ _ _ h => h) (Or.inl ⟨by rfl, ?_⟩) hHeld ?_ ?_
        rotate_left; (· rintro w' ⟨s0, s1, s2, s3, s4, s5, s6, s7, s8, s9, s10, s11, s12, s13, s14, s15, s16, s17, s18, s19, s20, s21, s22, s23⟩; go_simp; with_reducible rfl)
        rotate_left; (· simp only [Act.put, List.setIfInBounds_toArray, List.set_cons_zero, List.set_cons_succ, i64_w, i32_w]; rfl)
        refine take_ (i := 14) (N := some 37) (v := ?_) (a' := ?_) #[true, true, true, true, true, true, true, true, true, true, true, true, true, true, true, false, false, false] rfl rfl (take_ofW HT_.out HW_.out (by kernel_rfl)) (fun _ _ _ h => h) (Or.inl ⟨by rfl, ?_⟩) hHeld ?_ ?_
        rotate_left; (· rintro w' ⟨s0, s1, s2, s3, s4, s5, s6, s7, s8, s9, s10, s11, s12, s13, s14, s15, s16, s17, s18, s19, s20, s21, s22, s23⟩; go_simp; with_reducible rfl)
        rotate_left; (· simp only [Act.put, List.setIfInBounds_toArray, List.set_cons_zero, List.set_cons_succ, i64_w, i32_w]; rfl)
        refine pure_ (i := 15) (N := some 38) (v := ?_) (a' := ?_) #[true, true, true, true, true, true, true, true, true, true, true, true, true, true, true, true, false, false] rfl rfl (any_of HT_.out (by kernel_rfl)) (fun _ _ _ h => h) (Or.inl ⟨by rfl, ?_⟩) ?_ ?_
        rotate_left; (· intro w'; go_simp; with_reducible rfl)
        rotate_left; (· simp only [Act.put, List.setIfInBounds_toArray, List.set_cons_zero, List.set_cons_succ, i64_w, i32_w]; rfl)
        refine one_ (i := 16) (N := some 8) #[true, true, true, true, true, true, true, true, true, true, true, true, true, true, true, true, true, false] rfl rfl (one_of HT_.out (by kernel_rfl)) (by decide) (fun K hK => ?_)
        refine box_step ?hg (N := 8) ?hd (cs := #[.int .i64 0, .int .i64 0, .int .i64 0, .string (⟨#[]⟩ : ByteArray)]) (t := 65) ?hr ?_; (case hd => rfl); (case hg => rfl); (case hr => first | (go_simp; done) | (go_simp; rfl))
        intro gb240 hg w15 hbox hb
        have n0_ := Aside0.mk (Kd.R_below (Kd.R_elderB (by (with_reducible repeat (first | apply rA | apply rN | apply rD)); exact HO_5.out) gb240 (Nat.le_of_eq hg.symm)) hb)
        have n1_ := Aside0.mk (bT (by repeat (first | (with_reducible first | exact HB.out | apply bA | apply bN | apply bD) | exact HB.out)) hb)
        have n2_ := Aside0.mk (hbox)
        have n3_ := Aside0.mk ((by rw [hg]; exact (bZ (by repeat (first | (with_reducible first | exact HB.out | apply bA | apply bN | apply bD) | exact HB.out))) : w.heap.size ≤ gb240))
        have n4_ := Aside0.mk ((by rw [hg]; exact (bZ (by repeat (first | (with_reducible first | exact HB.out | apply bA | apply bN | apply bD) | exact HB.out))) : w.heap.size ≤ gb240))
        clear HO_5; clear HB; have HO_5 := n0_; have HB := n1_; have BK240 := n2_; have GW240 := n3_; have GE240 := n4_; clear n0_ n1_ n2_ n3_ n4_; clear hb hbox hg
        refine hK.out _ _ ⟨(upc HB.out hw237_0), (upc HB.out hw237_1), (upc HB.out hw237_2), (upc HB.out hw237_3), (upc HB.out hw237_4), (upc HB.out hw237_5), (upc HB.out hw237_6), (upc HB.out hw237_7), (upc HB.out hw238_0), (upc HB.out hw238_1), (upc HB.out hw238_2), (upc HB.out hw238_3), (upc HB.out hw238_4), (upc HB.out hw238_5), (upc HB.out hw238_6), (upc HB.out hw238_7), (upc HB.out hw239_0), (upc HB.out hw239_1), (upc HB.out hw239_2), (upc HB.out hw239_3), (upc HB.out hw239_4), (upc HB.out hw239_5), (upc HB.out hw239_6), (upc HB.out hw239_7)⟩ (fun hHeld => ?_)
        clear hK K
        refine norm_ (a' := ?_) ?_ ?_
        rotate_left; (· show Act.put _ (some 8) _ = _; simp only [Act.put, List.setIfInBounds_toArray, List.set_cons_zero, List.set_cons_succ, i64_w, i32_w]; rfl)
        refine one_ (i := 17) (N := none) #[true, true, true, true, true, true, true, true, true, true, true, true, true, true, true, true, true, true] rfl rfl (one_of HT_.out (by kernel_rfl)) (by decide) (fun K hK => ?_)
        have hs16 : w15.cell? ⟨gb240, 0, none⟩ = some (.int .i64 0) := (blk_cell BK240.out 0).trans rfl
        have hfs16 := blk_frozen BK240.out 0
        have hs17 : w15.cell? ⟨gb240, 1, none⟩ = some (.int .i64 0) := (blk_cell BK240.out 1).trans rfl
        have hfs17 := blk_frozen BK240.out 1
        have hs18 : w15.cell? ⟨gb240, 2, none⟩ = some (.int .i64 0) := (blk_cell BK240.out 2).trans rfl
        have hfs18 := blk_frozen BK240.out 2
        have hs19 : w15.cell? ⟨gb240, 3, none⟩ = some (.string (⟨#[]⟩ : ByteArray)) := (blk_cell BK240.out 3).trans rfl
        have hfs19 := blk_frozen BK240.out 3
        refine skip_ (w1 := ?_) ?_ ?_ ?_ ?_
        rotate_left; (· rfl); (· rfl); (· go_simp; rfl)
        refine hK.out _ _ ⟨((cf_ hw237_0 GW240.out).trans (((cf_ hw237_0 GW240.out).trans (((cf_ hw237_0 GW240.out).trans (((cf_ hw237_0 GW240.out).trans (hHeld.1)))))))), ((cf_ hw237_1 GW240.out).trans (((cf_ hw237_1 GW240.out).trans (((cf_ hw237_1 GW240.out).trans (((cf_ hw237_1 GW240.out).trans (hHeld.2.1)))))))), ((cf_ hw237_2 GW240.out).trans (((cf_ hw237_2 GW240.out).trans (((cf_ hw237_2 GW240.out).trans (((cf_ hw237_2 GW240.out).trans (hHeld.2.2.1)))))))), ((cf_ hw237_3 GW240.out).trans (((cf_ hw237_3 GW240.out).trans (((cf_ hw237_3 GW240.out).trans (((cf_ hw237_3 GW240.out).trans (hHeld.2.2.2.1)))))))), ((cf_ hw237_4 GW240.out).trans (((cf_ hw237_4 GW240.out).trans (((cf_ hw237_4 GW240.out).trans (((cf_ hw237_4 GW240.out).trans (hHeld.2.2.2.2.1)))))))), ((cf_ hw237_5 GW240.out).trans (((cf_ hw237_5 GW240.out).trans (((cf_ hw237_5 GW240.out).trans (((cf_ hw237_5 GW240.out).trans (hHeld.2.2.2.2.2.1)))))))), ((cf_ hw237_6 GW240.out).trans (((cf_ hw237_6 GW240.out).trans (((cf_ hw237_6 GW240.out).trans (((cf_ hw237_6 GW240.out).trans (hHeld.2.2.2.2.2.2.1)))))))), ((cf_ hw237_7 GW240.out).trans (((cf_ hw237_7 GW240.out).trans (((cf_ hw237_7 GW240.out).trans (((cf_ hw237_7 GW240.out).trans (hHeld.2.2.2.2.2.2.2.1)))))))), ((cf_ hw238_0 GW240.out).trans (((cf_ hw238_0 GW240.out).trans (((cf_ hw238_0 GW240.out).trans (((cf_ hw238_0 GW240.out).trans (hHeld.2.2.2.2.2.2.2.2.1)))))))), ((cf_ hw238_1 GW240.out).trans (((cf_ hw238_1 GW240.out).trans (((cf_ hw238_1 GW240.out).trans (((cf_ hw238_1 GW240.out).trans (hHeld.2.2.2.2.2.2.2.2.2.1)))))))), ((cf_ hw238_2 GW240.out).trans (((cf_ hw238_2 GW240.out).trans (((cf_ hw238_2 GW240.out).trans (((cf_ hw238_2 GW240.out).trans (hHeld.2.2.2.2.2.2.2.2.2.2.1)))))))), ((cf_ hw238_3 GW240.out).trans (((cf_ hw238_3 GW240.out).trans (((cf_ hw238_3 GW240.out).trans (((cf_ hw238_3 GW240.out).trans (hHeld.2.2.2.2.2.2.2.2.2.2.2.1)))))))), ((cf_ hw238_4 GW240.out).trans (((cf_ hw238_4 GW240.out).trans (((cf_ hw238_4 GW240.out).trans (((cf_ hw238_4 GW240.out).trans (hHeld.2.2.2.2.2.2.2.2.2.2.2.2.1)))))))), ((cf_ hw238_5 GW240.out).trans (((cf_ hw238_5 GW240.out).trans (((cf_ hw238_5 GW240.out).trans (((cf_ hw238_5 GW240.out).trans (hHeld.2.2.2.2.2.2.2.2.2.2.2.2.2.1)))))))), ((cf_ hw238_6 GW240.out).trans (((cf_ hw238_6 GW240.out).trans (((cf_ hw238_6 GW240.out).trans (((cf_ hw238_6 GW240.out).trans (hHeld.2.2.2.2.2.2.2.2.2.2.2.2.2.2.1)))))))), ((cf_ hw238_7 GW240.out).trans (((cf_ hw238_7 GW240.out).trans (((cf_ hw238_7 GW240.out).trans (((cf_ hw238_7 GW240.out).trans (hHeld.2.2.2.2.2.2.2.2.2.2.2.2.2.2.2.1)))))))), ((cf_ hw239_0 GW240.out).trans (((cf_ hw239_0 GW240.out).trans (((cf_ hw239_0 GW240.out).trans (((cf_ hw239_0 GW240.out).trans (hHeld.2.2.2.2.2.2.2.2.2.2.2.2.2.2.2.2.1)))))))), ((cf_ hw239_1 GW240.out).trans (((cf_ hw239_1 GW240.out).trans (((cf_ hw239_1 GW240.out).trans (((cf_ hw239_1 GW240.out).trans (hHeld.2.2.2.2.2.2.2.2.2.2.2.2.2.2.2.2.2.1)))))))), ((cf_ hw239_2 GW240.out).trans (((cf_ hw239_2 GW240.out).trans (((cf_ hw239_2 GW240.out).trans (((cf_ hw239_2 GW240.out).trans (hHeld.2.2.2.2.2.2.2.2.2.2.2.2.2.2.2.2.2.2.1)))))))), ((cf_ hw239_3 GW240.out).trans (((cf_ hw239_3 GW240.out).trans (((cf_ hw239_3 GW240.out).trans (((cf_ hw239_3 GW240.out).trans (hHeld.2.2.2.2.2.2.2.2.2.2.2.2.2.2.2.2.2.2.2.1)))))))), ((cf_ hw239_4 GW240.out).trans (((cf_ hw239_4 GW240.out).trans (((cf_ hw239_4 GW240.out).trans (((cf_ hw239_4 GW240.out).trans (hHeld.2.2.2.2.2.2.2.2.2.2.2.2.2.2.2.2.2.2.2.2.1)))))))), ((cf_ hw239_5 GW240.out).trans (((cf_ hw239_5 GW240.out).trans (((cf_ hw239_5 GW240.out).trans (((cf_ hw239_5 GW240.out).trans (hHeld.2.2.2.2.2.2.2.2.2.2.2.2.2.2.2.2.2.2.2.2.2.1)))))))), ((cf_ hw239_6 GW240.out).trans (((cf_ hw239_6 GW240.out).trans (((cf_ hw239_6 GW240.out).trans (((cf_ hw239_6 GW240.out).trans (hHeld.2.2.2.2.2.2.2.2.2.2.2.2.2.2.2.2.2.2.2.2.2.2.1)))))))), ((cf_ hw239_7 GW240.out).trans (((cf_ hw239_7 GW240.out).trans (((cf_ hw239_7 GW240.out).trans (((cf_ hw239_7 GW240.out).trans (hHeld.2.2.2.2.2.2.2.2.2.2.2.2.2.2.2.2.2.2.2.2.2.2.2))))))))⟩ (fun hHeld => ?_)
        clear hK K
        refine done_ (done_of HT_.out (by kernel_rfl)) ?_
        have hcz20_0 : w15.cell? ⟨gb240, 0, none⟩ = some (.int .i64 0) := (blk_cell BK240.out 0).trans rfl
        have hcz20_1 : w15.cell? ⟨gb240, 1, none⟩ = some (.int .i64 0) := (blk_cell BK240.out 1).trans rfl
        have hcz20_2 : w15.cell? ⟨gb240, 2, none⟩ = some (.int .i64 0) := (blk_cell BK240.out 2).trans rfl
        have hcz20_3 : w15.cell? ⟨gb240, 3, none⟩ = some (.string (⟨#[]⟩ : ByteArray)) := (blk_cell BK240.out 3).trans rfl
        have hfz20_0 := blk_frozen BK240.out 0
        have hfz20_1 := blk_frozen BK240.out 1
        have hfz20_2 := blk_frozen BK240.out 2
        have hfz20_3 := blk_frozen BK240.out 3
        have p241 : 0 ≤ ((rd l1 x11_1) : Int) := of_decide_eq_true (by assumption)
        have q241 : (rd l1 x11_1) < (l0.length : Int) := of_decide_eq_true (by assumption)
        obtain ⟨ad241, e241, hx241_0, hx241_1, hx241_2, hx241_3, hx241_4, hx241_5, hx241_6, hx241_7⟩ := at_T36 HR0.out (rd l1 x11_1) p241 q241
        obtain rfl : ad237 = ad241 := (by injection e241)
        have hn241_0 : ad237.block ≠ gb240 := Nat.ne_of_lt (Nat.lt_of_lt_of_le (by have := World.block_lt_of_cell? _ _ hx241_0; first | rwa [add_block] at this | exact this) GW240.out)
        have hn241_1 : ad237.block ≠ gb240 := Nat.ne_of_lt (Nat.lt_of_lt_of_le (by have := World.block_lt_of_cell? _ _ hx241_0; first | rwa [add_block] at this | exact this) GW240.out)
        have hn241_2 : ad237.block ≠ gb240 := Nat.ne_of_lt (Nat.lt_of_lt_of_le (by have := World.block_lt_of_cell? _ _ hx241_0; first | rwa [add_block] at this | exact this) GW240.out)
        have hn241_3 : ad237.block ≠ gb240 := Nat.ne_of_lt (Nat.lt_of_lt_of_le (by have := World.block_lt_of_cell? _ _ hx241_0; first | rwa [add_block] at this | exact this) GW240.out)
        replace hx241_0 := upc HB.out hx241_0; replace hx241_1 := upc HB.out hx241_1; replace hx241_2 := upc HB.out hx241_2; replace hx241_3 := upc HB.out hx241_3; replace hx241_4 := upc HB.out hx241_4; replace hx241_5 := upc HB.out hx241_5; replace hx241_6 := upc HB.out hx241_6; replace hx241_7 := upc HB.out hx241_7
        replace hx241_0 := (cell_far (p := ⟨gb240, 0, none⟩) (by first | (rw [add_block]; exact hn241_0) | (show (Addr.add _ _).block ≠ _; rw [add_block]; exact hn241_0) | exact hn241_0) (.int .i64 ((rd_T36 l0 (rd l1 x11_1)).f0))).trans hx241_0
        replace hx241_1 := (cell_far (p := ⟨gb240, 0, none⟩) (by first | (rw [add_block]; exact hn241_0) | (show (Addr.add _ _).block ≠ _; rw [add_block]; exact hn241_0) | exact hn241_0) (.int .i64 ((rd_T36 l0 (rd l1 x11_1)).f0))).trans hx241_1
        replace hx241_2 := (cell_far (p := ⟨gb240, 0, none⟩) (by first | (rw [add_block]; exact hn241_0) | (show (Addr.add _ _).block ≠ _; rw [add_block]; exact hn241_0) | exact hn241_0) (.int .i64 ((rd_T36 l0 (rd l1 x11_1)).f0))).trans hx241_2
        replace hx241_3 := (cell_far (p := ⟨gb240, 0, none⟩) (by first | (rw [add_block]; exact hn241_0) | (show (Addr.add _ _).block ≠ _; rw [add_block]; exact hn241_0) | exact hn241_0) (.int .i64 ((rd_T36 l0 (rd l1 x11_1)).f0))).trans hx241_3
        replace hx241_4 := (cell_far (p := ⟨gb240, 0, none⟩) (by first | (rw [add_block]; exact hn241_0) | (show (Addr.add _ _).block ≠ _; rw [add_block]; exact hn241_0) | exact hn241_0) (.int .i64 ((rd_T36 l0 (rd l1 x11_1)).f0))).trans hx241_4
        replace hx241_5 := (cell_far (p := ⟨gb240, 0, none⟩) (by first | (rw [add_block]; exact hn241_0) | (show (Addr.add _ _).block ≠ _; rw [add_block]; exact hn241_0) | exact hn241_0) (.int .i64 ((rd_T36 l0 (rd l1 x11_1)).f0))).trans hx241_5
        replace hx241_6 := (cell_far (p := ⟨gb240, 0, none⟩) (by first | (rw [add_block]; exact hn241_0) | (show (Addr.add _ _).block ≠ _; rw [add_block]; exact hn241_0) | exact hn241_0) (.int .i64 ((rd_T36 l0 (rd l1 x11_1)).f0))).trans hx241_6
        replace hx241_7 := (cell_far (p := ⟨gb240, 0, none⟩) (by first | (rw [add_block]; exact hn241_0) | (show (Addr.add _ _).block ≠ _; rw [add_block]; exact hn241_0) | exact hn241_0) (.int .i64 ((rd_T36 l0 (rd l1 x11_1)).f0))).trans hx241_7
        replace hx241_0 := (cell_far (p := ⟨gb240, 1, none⟩) (by first | (rw [add_block]; exact hn241_1) | (show (Addr.add _ _).block ≠ _; rw [add_block]; exact hn241_1) | exact hn241_1) (.int .i64 ((rd_T36 l0 (rd l1 x11_1)).f4))).trans hx241_0
        replace hx241_1 := (cell_far (p := ⟨gb240, 1, none⟩) (by first | (rw [add_block]; exact hn241_1) | (show (Addr.add _ _).block ≠ _; rw [add_block]; exact hn241_1) | exact hn241_1) (.int .i64 ((rd_T36 l0 (rd l1 x11_1)).f4))).trans hx241_1
        replace hx241_2 := (cell_far (p := ⟨gb240, 1, none⟩) (by first | (rw [add_block]; exact hn241_1) | (show (Addr.add _ _).block ≠ _; rw [add_block]; exact hn241_1) | exact hn241_1) (.int .i64 ((rd_T36 l0 (rd l1 x11_1)).f4))).trans hx241_2
        replace hx241_3 := (cell_far (p := ⟨gb240, 1, none⟩) (by first | (rw [add_block]; exact hn241_1) | (show (Addr.add _ _).block ≠ _; rw [add_block]; exact hn241_1) | exact hn241_1) (.int .i64 ((rd_T36 l0 (rd l1 x11_1)).f4))).trans hx241_3
        replace hx241_4 := (cell_far (p := ⟨gb240, 1, none⟩) (by first | (rw [add_block]; exact hn241_1) | (show (Addr.add _ _).block ≠ _; rw [add_block]; exact hn241_1) | exact hn241_1) (.int .i64 ((rd_T36 l0 (rd l1 x11_1)).f4))).trans hx241_4
        replace hx241_5 := (cell_far (p := ⟨gb240, 1, none⟩) (by first | (rw [add_block]; exact hn241_1) | (show (Addr.add _ _).block ≠ _; rw [add_block]; exact hn241_1) | exact hn241_1) (.int .i64 ((rd_T36 l0 (rd l1 x11_1)).f4))).trans hx241_5
        replace hx241_6 := (cell_far (p := ⟨gb240, 1, none⟩) (by first | (rw [add_block]; exact hn241_1) | (show (Addr.add _ _).block ≠ _; rw [add_block]; exact hn241_1) | exact hn241_1) (.int .i64 ((rd_T36 l0 (rd l1 x11_1)).f4))).trans hx241_6
        replace hx241_7 := (cell_far (p := ⟨gb240, 1, none⟩) (by first | (rw [add_block]; exact hn241_1) | (show (Addr.add _ _).block ≠ _; rw [add_block]; exact hn241_1) | exact hn241_1) (.int .i64 ((rd_T36 l0 (rd l1 x11_1)).f4))).trans hx241_7
        replace hx241_0 := (cell_far (p := ⟨gb240, 2, none⟩) (by first | (rw [add_block]; exact hn241_2) | (show (Addr.add _ _).block ≠ _; rw [add_block]; exact hn241_2) | exact hn241_2) (.int .i64 ((rd_T36 l0 (rd l1 x11_1)).f5))).trans hx241_0
        replace hx241_1 := (cell_far (p := ⟨gb240, 2, none⟩) (by first | (rw [add_block]; exact hn241_2) | (show (Addr.add _ _).block ≠ _; rw [add_block]; exact hn241_2) | exact hn241_2) (.int .i64 ((rd_T36 l0 (rd l1 x11_1)).f5))).trans hx241_1
        replace hx241_2 := (cell_far (p := ⟨gb240, 2, none⟩) (by first | (rw [add_block]; exact hn241_2) | (show (Addr.add _ _).block ≠ _; rw [add_block]; exact hn241_2) | exact hn241_2) (.int .i64 ((rd_T36 l0 (rd l1 x11_1)).f5))).trans hx241_2
        replace hx241_3 := (cell_far (p := ⟨gb240, 2, none⟩) (by first | (rw [add_block]; exact hn241_2) | (show (Addr.add _ _).block ≠ _; rw [add_block]; exact hn241_2) | exact hn241_2) (.int .i64 ((rd_T36 l0 (rd l1 x11_1)).f5))).trans hx241_3
        replace hx241_4 := (cell_far (p := ⟨gb240, 2, none⟩) (by first | (rw [add_block]; exact hn241_2) | (show (Addr.add _ _).block ≠ _; rw [add_block]; exact hn241_2) | exact hn241_2) (.int .i64 ((rd_T36 l0 (rd l1 x11_1)).f5))).trans hx241_4
        replace hx241_5 := (cell_far (p := ⟨gb240, 2, none⟩) (by first | (rw [add_block]; exact hn241_2) | (show (Addr.add _ _).block ≠ _; rw [add_block]; exact hn241_2) | exact hn241_2) (.int .i64 ((rd_T36 l0 (rd l1 x11_1)).f5))).trans hx241_5
        replace hx241_6 := (cell_far (p := ⟨gb240, 2, none⟩) (by first | (rw [add_block]; exact hn241_2) | (show (Addr.add _ _).block ≠ _; rw [add_block]; exact hn241_2) | exact hn241_2) (.int .i64 ((rd_T36 l0 (rd l1 x11_1)).f5))).trans hx241_6
        replace hx241_7 := (cell_far (p := ⟨gb240, 2, none⟩) (by first | (rw [add_block]; exact hn241_2) | (show (Addr.add _ _).block ≠ _; rw [add_block]; exact hn241_2) | exact hn241_2) (.int .i64 ((rd_T36 l0 (rd l1 x11_1)).f5))).trans hx241_7
        replace hx241_0 := (cell_far (p := ⟨gb240, 3, none⟩) (by first | (rw [add_block]; exact hn241_3) | (show (Addr.add _ _).block ≠ _; rw [add_block]; exact hn241_3) | exact hn241_3) (.string (⟨#[]⟩ : ByteArray))).trans hx241_0
        replace hx241_1 := (cell_far (p := ⟨gb240, 3, none⟩) (by first | (rw [add_block]; exact hn241_3) | (show (Addr.add _ _).block ≠ _; rw [add_block]; exact hn241_3) | exact hn241_3) (.string (⟨#[]⟩ : ByteArray))).trans hx241_1
        replace hx241_2 := (cell_far (p := ⟨gb240, 3, none⟩) (by first | (rw [add_block]; exact hn241_3) | (show (Addr.add _ _).block ≠ _; rw [add_block]; exact hn241_3) | exact hn241_3) (.string (⟨#[]⟩ : ByteArray))).trans hx241_2
        replace hx241_3 := (cell_far (p := ⟨gb240, 3, none⟩) (by first | (rw [add_block]; exact hn241_3) | (show (Addr.add _ _).block ≠ _; rw [add_block]; exact hn241_3) | exact hn241_3) (.string (⟨#[]⟩ : ByteArray))).trans hx241_3
        replace hx241_4 := (cell_far (p := ⟨gb240, 3, none⟩) (by first | (rw [add_block]; exact hn241_3) | (show (Addr.add _ _).block ≠ _; rw [add_block]; exact hn241_3) | exact hn241_3) (.string (⟨#[]⟩ : ByteArray))).trans hx241_4
        replace hx241_5 := (cell_far (p := ⟨gb240, 3, none⟩) (by first | (rw [add_block]; exact hn241_3) | (show (Addr.add _ _).block ≠ _; rw [add_block]; exact hn241_3) | exact hn241_3) (.string (⟨#[]⟩ : ByteArray))).trans hx241_5
        replace hx241_6 := (cell_far (p := ⟨gb240, 3, none⟩) (by first | (rw [add_block]; exact hn241_3) | (show (Addr.add _ _).block ≠ _; rw [add_block]; exact hn241_3) | exact hn241_3) (.string (⟨#[]⟩ : ByteArray))).trans hx241_6
        replace hx241_7 := (cell_far (p := ⟨gb240, 3, none⟩) (by first | (rw [add_block]; exact hn241_3) | (show (Addr.add _ _).block ≠ _; rw [add_block]; exact hn241_3) | exact hn241_3) (.string (⟨#[]⟩ : ByteArray))).trans hx241_7
        clear hn241_0; clear hn241_1; clear hn241_2; clear hn241_3; replace p241 := eq_true p241; replace q241 := eq_true q241
        try go_wp2_with (first | ((with_reducible refine gate_callee (f := 36) rfl ?_); refine goesL_ (some 47) rfl rfl Try.func36 (by kernel_rfl) rfl #[.agg #[.int .i64 ((rd_T36 l0 (rd l1 x11_1)).f3.f0), .int .i64 ((rd_T36 l0 (rd l1 x11_1)).f3.f1), .string ((rd_T36 l0 (rd l1 x11_1)).f3.f2)]] rfl (by (try simp only [List.map_toArray, List.map_cons, List.map_nil]); first | done | rfl | (simp only [List.length_drop, List.length_take]; rfl)) ?_; (with_reducible refine (types_Format.calls ((rd_T36 l0 (rd l1 x11_1)).f3.f0) ((rd_T36 l0 (rd l1 x11_1)).f3.f1) ((rd_T36 l0 (rd l1 x11_1)).f3.f2) t242 _ A12.out).mono ?_); rintro e w21 ⟨rfl, hb⟩; refine ⟨_, rfl, ?_⟩; have n0_ := Aside0.mk (Kd.R_below (by (with_reducible repeat (first | apply rA | apply rN | apply rD)); exact (Kd.R_mono (Kd.R_far (p := ⟨gb240, 3, none⟩) (Kd.R_far (p := ⟨gb240, 2, none⟩) (Kd.R_far (p := ⟨gb240, 1, none⟩) (Kd.R_far (p := ⟨gb240, 0, none⟩) (Kd.R_mono HO_5.out (fun k_ hk => (⟨hk, hk.2⟩ : _ ∧ k_ ≠ gb240))) (fun _ hk => hk.2) (.int .i64 ((rd_T36 l0 (rd l1 x11_1)).f0))) (fun _ hk => hk.2) (.int .i64 ((rd_T36 l0 (rd l1 x11_1)).f4))) (fun _ hk => hk.2) (.int .i64 ((rd_T36 l0 (rd l1 x11_1)).f5))) (fun _ hk => hk.2) (.string (⟨#[]⟩ : ByteArray))) (fun _ h_ => h_.1))) hb); have n1_ := Aside0.mk (blk_below (g := gb240) (o := .cells #[.int .i64 ((rd_T36 l0 (rd l1 x11_1)).f0), .int .i64 ((rd_T36 l0 (rd l1 x11_1)).f4), .int .i64 ((rd_T36 l0 (rd l1 x11_1)).f5), .string (⟨#[]⟩ : ByteArray)] 65 (0, 0)) (by (with_reducible repeat (first | refine kN ?_ _ | refine kD ?_ | refine kA ?_ _)); refine blk_put (cs := #[.int .i64 ((rd_T36 l0 (rd l1 x11_1)).f0), .int .i64 ((rd_T36 l0 (rd l1 x11_1)).f4), .int .i64 ((rd_T36 l0 (rd l1 x11_1)).f5), .string (⟨#[]⟩ : ByteArray)]) ?_ 3 _ rfl; (with_reducible repeat (first | refine kN ?_ _ | refine kD ?_ | refine kA ?_ _)); refine blk_put (cs := #[.int .i64 ((rd_T36 l0 (rd l1 x11_1)).f0), .int .i64 ((rd_T36 l0 (rd l1 x11_1)).f4), .int .i64 0, .string (⟨#[]⟩ : ByteArray)]) ?_ 2 _ rfl; (with_reducible repeat (first | refine kN ?_ _ | refine kD ?_ | refine kA ?_ _)); refine blk_put (cs := #[.int .i64 ((rd_T36 l0 (rd l1 x11_1)).f0), .int .i64 0, .int .i64 0, .string (⟨#[]⟩ : ByteArray)]) ?_ 1 _ rfl; (with_reducible repeat (first | refine kN ?_ _ | refine kD ?_ | refine kA ?_ _)); refine blk_put (cs := #[.int .i64 0, .int .i64 0, .int .i64 0, .string (⟨#[]⟩ : ByteArray)]) ?_ 0 _ rfl; (with_reducible repeat (first | refine kN ?_ _ | refine kD ?_ | refine kA ?_ _)); exact BK240.out) hb); have n2_ := Aside0.mk (bT (by repeat (first | (with_reducible first | exact HB.out | apply bA | apply bN | apply bD | refine bS ?_ GE240.out) | exact HB.out)) hb); clear HO_5; clear BK240; clear HB; have HO_5 := n0_; have BK240 := n1_; have HB := n2_; clear n0_ n1_ n2_; (try clear hb); (try clear hb2); (try clear hk); (try clear hi); have hcz22_0 : w21.cell? ⟨gb240, 0, none⟩ = some (.int .i64 ((rd_T36 l0 (rd l1 x11_1)).f0)) := (blk_cell BK240.out 0).trans rfl; have hcz22_1 : w21.cell? ⟨gb240, 1, none⟩ = some (.int .i64 ((rd_T36 l0 (rd l1 x11_1)).f4)) := (blk_cell BK240.out 1).trans rfl; have hcz22_2 : w21.cell? ⟨gb240, 2, none⟩ = some (.int .i64 ((rd_T36 l0 (rd l1 x11_1)).f5)) := (blk_cell BK240.out 2).trans rfl; have hcz22_3 : w21.cell? ⟨gb240, 3, none⟩ = some (.string (⟨#[]⟩ : ByteArray)) := (blk_cell BK240.out 3).trans rfl; have hfz22_0 := blk_frozen BK240.out 0; have hfz22_1 := blk_frozen BK240.out 1; have hfz22_2 := blk_frozen BK240.out 2; have hfz22_3 := blk_frozen BK240.out 3) | ((with_reducible refine gate_builtin (b := .append) (xs := #[.tmp 49, .tmp 51]) rfl ?_); (try (refine gate_guard (by rfl) ?_; dsimp only)); at_builtin; refine Kd.R_append k65 (w0 := w) w.heap.size rfl (.tmp 49) (.tmp 51) 43 65 (.agg #[(.int .i64 0), (.int .i64 0), (.int .i64 0), (.string ⟨#[]⟩)]) 40 rfl Try.underlying43 info65 rfl (by decide) (by omega) u5 x5_1 (⟨(rd_T36 l0 (rd l1 x11_1)).f0, (rd_T36 l0 (rd l1 x11_1)).f4, (rd_T36 l0 (rd l1 x11_1)).f5, t242⟩ : S65) [.int .i64 ((rd_T36 l0 (rd l1 x11_1)).f0), .int .i64 ((rd_T36 l0 (rd l1 x11_1)).f4), .int .i64 ((rd_T36 l0 (rd l1 x11_1)).f5), .string t242] (fun k_ => k_ ≠ gb240) (fun _ => False) rfl (by first | (go_simp; done) | (go_simp; rfl)) ?aP (fun _ hk => hk.elim) ?aF ?aO ?aB ?aS ?aL ?_; (case aP => exact k65_mkM _ _ _ (⟨(rd_T36 l0 (rd l1 x11_1)).f0, (rd_T36 l0 (rd l1 x11_1)).f4, (rd_T36 l0 (rd l1 x11_1)).f5, t242⟩ : S65)); (case aB => exact (by repeat (first | (with_reducible first | exact HB.out | apply bA | apply bN | apply bD | refine bS ?_ GE240.out) | exact HB.out))); (case aF => exact (fun k_ hk => Kd.freshB (g := gb240) (o := .cells #[.int .i64 ((rd_T36 l0 (rd l1 x11_1)).f0), .int .i64 ((rd_T36 l0 (rd l1 x11_1)).f4), .int .i64 ((rd_T36 l0 (rd l1 x11_1)).f5), .string t242] 65 (0, 0)) (by (with_reducible repeat (first | refine kN ?_ _ | refine kD ?_ | refine kA ?_ _)); refine blk_put (cs := #[.int .i64 ((rd_T36 l0 (rd l1 x11_1)).f0), .int .i64 ((rd_T36 l0 (rd l1 x11_1)).f4), .int .i64 ((rd_T36 l0 (rd l1 x11_1)).f5), .string (⟨#[]⟩ : ByteArray)]) ?_ 3 _ rfl; (with_reducible repeat (first | refine kN ?_ _ | refine kD ?_ | refine kA ?_ _)); exact BK240.out) k_ hk)); (case aO => exact (by (with_reducible repeat (first | apply rA | apply rN | apply rD)); exact Kd.R_mono (Kd.R_far (p := ⟨gb240, 3, none⟩) (Kd.R_mono HO_5.out (fun k_ hk => (⟨hk, hk.2⟩ : _ ∧ k_ ≠ gb240))) (fun _ hk => hk.2) (.string t242)) (fun _ hk => hk.1.2))); (case aS => exact (bZ (by repeat (first | (with_reducible first | exact HB.out | apply bA | apply bN | apply bD | refine bS ?_ GE240.out) | exact HB.out)))); (case aL => have := LMc13.out; omega); intro v244 w23 ho hb hg hat; rw [← Ny243.out] at ho; have n0_ := Aside0.mk (blk_grown (g := gb240) (o := .cells #[.int .i64 ((rd_T36 l0 (rd l1 x11_1)).f0), .int .i64 ((rd_T36 l0 (rd l1 x11_1)).f4), .int .i64 ((rd_T36 l0 (rd l1 x11_1)).f5), .string t242] 65 (0, 0)) (by (with_reducible repeat (first | refine kN ?_ _ | refine kD ?_ | refine kA ?_ _)); refine blk_put (cs := #[.int .i64 ((rd_T36 l0 (rd l1 x11_1)).f0), .int .i64 ((rd_T36 l0 (rd l1 x11_1)).f4), .int .i64 ((rd_T36 l0 (rd l1 x11_1)).f5), .string (⟨#[]⟩ : ByteArray)]) ?_ 3 _ rfl; (with_reducible repeat (first | refine kN ?_ _ | refine kD ?_ | refine kA ?_ _)); exact BK240.out) hg (Kd.R_away HO_5.out (fun _ hk => hk.2))); have n1_ := Aside0.mk (hb); have n2_ := Aside0.mk (ho); clear BK240; clear HB; clear HO_5; have BK240 := n0_; have HB := n1_; have HO245 := n2_; clear n0_ n1_ n2_; clear ho hb hg hat))
        go_roundg kj5
        case measure => have := HK1.out; have := HJ5.out; omega
        case rel => exact ⟨(y243), (wrap64 (x11_1 + 1)), (by first | rfl | (simp; done) | (simp [*]; done)), H', ⟨by have := HK1.out; have := HJ5.out; omega⟩, ⟨by (with_reducible repeat (first | apply rA | apply rN | apply rD)); exact Kd.R_mono HO245.out (fun _ hk => trivial)⟩, ⟨by repeat (first | (with_reducible first | exact HB.out | apply bA | apply bN | apply bD | refine bS ?_ GE240.out) | exact HB.out)⟩⟩
       ·
        rw [if_neg c11] at H
        have c11b0 : (((rd_T36 l0 (rd l1 x11_1)).f0) == 0) = false := beq_eq_false_iff_ne.mpr c11
        have c11b1 : (((rd_T36 l0 (rd l1 x11_1)).f0) != 0) = true := bne_iff_ne.mpr c11
        by_cases c24 : x5_1.length < 3518437208883; rotate_left
        · rw [if_neg c24] at H; exact absurd H (by simp)
        rw [if_pos c24] at H
        have LMc24 := Aside0.mk c24
        clear c24
        obtain ⟨y246, hy246⟩ : ∃ y_ : List (S65), y_ = (x5_1 ++ [(⟨(rd_T36 l0 (rd l1 x11_1)).f0, (rd_T36 l0 (rd l1 x11_1)).f4, (rd_T36 l0 (rd l1 x11_1)).f5, (⟨#[]⟩ : ByteArray)⟩ : S65)]) := ⟨_, rfl⟩
        replace H : (constraints_Explain.l0 kj5 l0 y246 l1 (l1.length : Int) (wrap64 (x11_1 + 1))) = some r := by first | (rw [hy246]; with_reducible exact H) | (have H2_ := (Option.bind_some _ _).symm.trans H; rw [hy246]; with_reducible exact H2_) | (have H2_ := (Option.bind_some _ _).symm.trans H; with_reducible exact H2_) | with_reducible exact H | (rw [hy246]; exact H) | exact H
        have Ny246 := Aside0.mk hy246
        clear hy246; have H' := Aside0.mk H; clear H
        try go_wp2
        have n0_ := Aside0.mk (rD HO_5.out)
        have n1_ := Aside0.mk (bD HB.out)
        clear HO_5; clear HB; have HO_5 := n0_; have HB := n1_; clear n0_ n1_
        have p237 : 0 ≤ ((rd l1 x11_1) : Int) := of_decide_eq_true (by assumption)
        have q237 : (rd l1 x11_1) < (l0.length : Int) := of_decide_eq_true (by assumption)
        obtain ⟨ad237, e237, hx237_0, hx237_1, hx237_2, hx237_3, hx237_4, hx237_5, hx237_6, hx237_7⟩ := at_T36 HR0.out (rd l1 x11_1) p237 q237
        have hw237_7 := hx237_7; have hw237_6 := hx237_6; have hw237_5 := hx237_5; have hw237_4 := hx237_4; have hw237_3 := hx237_3; have hw237_2 := hx237_2; have hw237_1 := hx237_1; have hw237_0 := hx237_0; cases e237; replace hx237_0 := upc HB.out hx237_0; replace hx237_1 := upc HB.out hx237_1; replace hx237_2 := upc HB.out hx237_2; replace hx237_3 := upc HB.out hx237_3; replace hx237_4 := upc HB.out hx237_4; replace hx237_5 := upc HB.out hx237_5; replace hx237_6 := upc HB.out hx237_6; replace hx237_7 := upc HB.out hx237_7; replace p237 := eq_true p237; replace q237 := eq_true q237
        have p238 : 0 ≤ ((rd l1 x11_1) : Int) := of_decide_eq_true (by assumption)
        have q238 : (rd l1 x11_1) < (l0.length : Int) := of_decide_eq_true (by assumption)
        obtain ⟨ad238, e238, hx238_0, hx238_1, hx238_2, hx238_3, hx238_4, hx238_5, hx238_6, hx238_7⟩ := at_T36 HR0.out (rd l1 x11_1) p238 q238
        have hw238_7 := hx238_7; have hw238_6 := hx238_6; have hw238_5 := hx238_5; have hw238_4 := hx238_4; have hw238_3 := hx238_3; have hw238_2 := hx238_2; have hw238_1 := hx238_1; have hw238_0 := hx238_0
        obtain rfl : ad237 = ad238 := (by injection e238)
        replace hx238_0 := upc HB.out hx238_0; replace hx238_1 := upc HB.out hx238_1; replace hx238_2 := upc HB.out hx238_2; replace hx238_3 := upc HB.out hx238_3; replace hx238_4 := upc HB.out hx238_4; replace hx238_5 := upc HB.out hx238_5; replace hx238_6 := upc HB.out hx238_6; replace hx238_7 := upc HB.out hx238_7; replace p238 := eq_true p238; replace q238 := eq_true q238
        have p239 : 0 ≤ ((rd l1 x11_1) : Int) := of_decide_eq_true (by assumption)
        have q239 : (rd l1 x11_1) < (l0.length : Int) := of_decide_eq_true (by assumption)
        obtain ⟨ad239, e239, hx239_0, hx239_1, hx239_2, hx239_3, hx239_4, hx239_5, hx239_6, hx239_7⟩ := at_T36 HR0.out (rd l1 x11_1) p239 q239
        have hw239_7 := hx239_7; have hw239_6 := hx239_6; have hw239_5 := hx239_5; have hw239_4 := hx239_4; have hw239_3 := hx239_3; have hw239_2 := hx239_2; have hw239_1 := hx239_1; have hw239_0 := hx239_0
        obtain rfl : ad237 = ad239 := (by injection e239)
        replace hx239_0 := upc HB.out hx239_0; replace hx239_1 := upc HB.out hx239_1; replace hx239_2 := upc HB.out hx239_2; replace hx239_3 := upc HB.out hx239_3; replace hx239_4 := upc HB.out hx239_4; replace hx239_5 := upc HB.out hx239_5; replace hx239_6 := upc HB.out hx239_6; replace hx239_7 := upc HB.out hx239_7; replace p239 := eq_true p239; replace q239 := eq_true q239
        refine start_ (n := 18) (S := fun w' => w'.cell? (ad237.add (((rd l1 x11_1)).toNat * 8)) = some (.int .i64 ((rd_T36 l0 (rd l1 x11_1)).f0)) ∧ w'.cell? ⟨(ad237.add (((rd l1 x11_1)).toNat * 8)).block, (ad237.add (((rd l1 x11_1)).toNat * 8)).off + 1, none⟩ = some (.int .i64 ((rd_T36 l0 (rd l1 x11_1)).f1)) ∧ w'.cell? ⟨(ad237.add (((rd l1 x11_1)).toNat * 8)).block, (ad237.add (((rd l1 x11_1)).toNat * 8)).off + 2, none⟩ = some (.int .i64 ((rd_T36 l0 (rd l1 x11_1)).f2)) ∧ w'.cell? ⟨(ad237.add (((rd l1 x11_1)).toNat * 8)).block, (ad237.add (((rd l1 x11_1)).toNat * 8)).off + 3, none⟩ = some (.int .i64 ((rd_T36 l0 (rd l1 x11_1)).f3.f0)) ∧ w'.cell? ⟨(ad237.add (((rd l1 x11_1)).toNat * 8)).block, (ad237.add (((rd l1 x11_1)).toNat * 8)).off + 4, none⟩ = some (.int .i64 ((rd_T36 l0 (rd l1 x11_1)).f3.f1)) ∧ w'.cell? ⟨(ad237.add (((rd l1 x11_1)).toNat * 8)).block, (ad237.add (((rd l1 x11_1)).toNat * 8)).off + 5, none⟩ = some (.string ((rd_T36 l0 (rd l1 x11_1)).f3.f2)) ∧ w'.cell? ⟨(ad237.add (((rd l1 x11_1)).toNat * 8)).block, (ad237.add (((rd l1 x11_1)).toNat * 8)).off + 6, none⟩ = some (.int .i64 ((rd_T36 l0 (rd l1 x11_1)).f4)) ∧ w'.cell? ⟨(ad237.add (((rd l1 x11_1)).toNat * 8)).block, (ad237.add (((rd l1 x11_1)).toNat * 8)).off + 7, none⟩ = some (.int .i64 ((rd_T36 l0 (rd l1 x11_1)).f5)) ∧ w'.cell? (ad237.add (((rd l1 x11_1)).toNat * 8)) = some (.int .i64 ((rd_T36 l0 (rd l1 x11_1)).f0)) ∧ w'.cell? ⟨(ad237.add (((rd l1 x11_1)).toNat * 8)).block, (ad237.add (((rd l1 x11_1)).toNat * 8)).off + 1, none⟩ = some (.int .i64 ((rd_T36 l0 (rd l1 x11_1)).f1)) ∧ w'.cell? ⟨(ad237.add (((rd l1 x11_1)).toNat * 8)).block, (ad237.add (((rd l1 x11_1)).toNat * 8)).off + 2, none⟩ = some (.int .i64 ((rd_T36 l0 (rd l1 x11_1)).f2)) ∧ w'.cell? ⟨(ad237.add (((rd l1 x11_1)).toNat * 8)).block, (ad237.add (((rd l1 x11_1)).toNat * 8)).off + 3, none⟩ = some (.int .i64 ((rd_T36 l0 (rd l1 x11_1)).f3.f0)) ∧ w'.cell? ⟨(ad237.add (((rd l1 x11_1)).toNat * 8)).block, (ad237.add (((rd l1 x11_1)).toNat * 8)).off + 4, none⟩ = some (.int .i64 ((rd_T36 l0 (rd l1 x11_1)).f3.f1)) ∧ w'.cell? ⟨(ad237.add (((rd l1 x11_1)).toNat * 8)).block, (ad237.add (((rd l1 x11_1)).toNat * 8)).off + 5, none⟩ = some (.string ((rd_T36 l0 (rd l1 x11_1)).f3.f2)) ∧ w'.cell? ⟨(ad237.add (((rd l1 x11_1)).toNat * 8)).block, (ad237.add (((rd l1 x11_1)).toNat * 8)).off + 6, none⟩ = some (.int .i64 ((rd_T36 l0 (rd l1 x11_1)).f4)) ∧ w'.cell? ⟨(ad237.add (((rd l1 x11_1)).toNat * 8)).block, (ad237.add (((rd l1 x11_1)).toNat * 8)).off + 7, none⟩ = some (.int .i64 ((rd_T36 l0 (rd l1 x11_1)).f5)) ∧ w'.cell? (ad237.add (((rd l1 x11_1)).toNat * 8)) = some (.int .i64 ((rd_T36 l0 (rd l1 x11_1)).f0)) ∧ w'.cell? ⟨(ad237.add (((rd l1 x11_1)).toNat * 8)).block, (ad237.add (((rd l1 x11_1)).toNat * 8)).off + 1, none⟩ = some (.int .i64 ((rd_T36 l0 (rd l1 x11_1)).f1)) ∧ w'.cell? ⟨(ad237.add (((rd l1 x11_1)).toNat * 8)).block, (ad237.add (((rd l1 x11_1)).toNat * 8)).off + 2, none⟩ = some (.int .i64 ((rd_T36 l0 (rd l1 x11_1)).f2)) ∧ w'.cell? ⟨(ad237.add (((rd l1 x11_1)).toNat * 8)).block, (ad237.add (((rd l1 x11_1)).toNat * 8)).off + 3, none⟩ = some (.int .i64 ((rd_T36 l0 (rd l1 x11_1)).f3.f0)) ∧ w'.cell? ⟨(ad237.add (((rd l1 x11_1)).toNat * 8)).block, (ad237.add (((rd l1 x11_1)).toNat * 8)).off + 4, none⟩ = some (.int .i64 ((rd_T36 l0 (rd l1 x11_1)).f3.f1)) ∧ w'.cell? ⟨(ad237.add (((rd l1 x11_1)).toNat * 8)).block, (ad237.add (((rd l1 x11_1)).toNat * 8)).off + 5, none⟩ = some (.string ((rd_T36 l0 (rd l1 x11_1)).f3.f2)) ∧ w'.cell? ⟨(ad237.add (((rd l1 x11_1)).toNat * 8)).block, (ad237.add (((rd l1 x11_1)).toNat * 8)).off + 6, none⟩ = some (.int .i64 ((rd_T36 l0 (rd l1 x11_1)).f4)) ∧ w'.cell? ⟨(ad237.add (((rd l1 x11_1)).toNat * 8)).block, (ad237.add (((rd l1 x11_1)).toNat * 8)).off + 7, none⟩ = some (.int .i64 ((rd_T36 l0 (rd l1 x11_1)).f5))) (ds := []) #[false, false, false, false, false, false, false, false, false, false, false, false, false, false, false, false, false, false] (by kernel_rfl) rfl rfl ⟨(upc HB.out hw237_0), (upc HB.out hw237_1), (upc HB.out hw237_2), (upc HB.out hw237_3), (upc HB.out hw237_4), (upc HB.out hw237_5), (upc HB.out hw237_6), (upc HB.out hw237_7), (upc HB.out hw238_0), (upc HB.out hw238_1), (upc HB.out hw238_2), (upc HB.out hw238_3), (upc HB.out hw238_4), (upc HB.out hw238_5), (upc HB.out hw238_6), (upc HB.out hw238_7), (upc HB.out hw239_0), (upc HB.out hw239_1), (upc HB.out hw239_2), (upc HB.out hw239_3), (upc HB.out hw239_4), (upc HB.out hw239_5), (upc HB.out hw239_6), (upc HB.out hw239_7)⟩ (fun hHeld => ?_); refine with_tabW constraints_Explain.tab7 constraints_Explain.bits7 (fun HT_ HW_ => ?_)
        generalize wc.drew = w25 at HO_5 HB hx237_0 hx237_1 hx237_2 hx237_3 hx237_4 hx237_5 hx237_6 hx237_7 hx238_0 hx238_1 hx238_2 hx238_3 hx238_4 hx238_5 hx238_6 hx238_7 hx239_0 hx239_1 hx239_2 hx239_3 hx239_4 hx239_5 hx239_6 hx239_7 hHeld ⊢
        refine pure_ (i := 0) (N := some 23) (v := ?_) (a' := ?_) #[true, false, false, false, false, false, false, false, false, false, false, false, false, false, false, false, false, false] rfl rfl (any_of HT_.out (by kernel_rfl)) (fun _ _ _ h => h) (Or.inl ⟨by rfl, ?_⟩) ?_ ?_
        rotate_left; (· intro w'; go_simp; with_reducible rfl)
        rotate_left; (· simp only [Act.put, List.setIfInBounds_toArray, List.set_cons_zero, List.set_cons_succ, i64_w, i32_w]; rfl)
        refine pure_ (i := 1) (N := some 24) (v := ?_) (a' := ?_) #[true, true, false, false, false, false, false, false, false, false, false, false, false, false, false, false, false, false] rfl rfl (any_of HT_.out (by kernel_rfl)) (fun _ _ _ h => h) (Or.inl ⟨by rfl, ?_⟩) ?_ ?_
        rotate_left; (· intro w'; go_simp; with_reducible rfl)
        rotate_left; (· simp only [Act.put, List.setIfInBounds_toArray, List.set_cons_zero, List.set_cons_succ, i64_w, i32_w]; rfl)
        refine pure_ (i := 2) (N := some 25) (v := ?_) (a' := ?_) #[true, true, true, false, false, false, false, false, false, false, false, false, false, false, false, false, false, false] rfl rfl (any_of HT_.out (by kernel_rfl)) (fun _ _ _ h => h) (Or.inl ⟨by rfl, ?_⟩) ?_ ?_
        rotate_left; (· intro w'; go_simp; with_reducible rfl)
        rotate_left; (· simp only [Act.put, List.setIfInBounds_toArray, List.set_cons_zero, List.set_cons_succ, i64_w, i32_w]; rfl)
        refine pure_ (i := 3) (N := some 26) (v := ?_) (a' := ?_) #[true, true, true, true, false, false, false, false, false, false, false, false, false, false, false, false, false, false] rfl rfl (any_of HT_.out (by kernel_rfl)) (fun _ _ _ h => h) (Or.inl ⟨by rfl, ?_⟩) ?_ ?_
        rotate_left; (· intro w'; go_simp; with_reducible rfl)
        rotate_left; (· simp only [Act.put, List.setIfInBounds_toArray, List.set_cons_zero, List.set_cons_succ, i64_w, i32_w]; rfl)
        refine pure_ (i := 5) (N := some 28) (v := ?_) (a' := ?_) #[true, true, true, true, false, true, false, false, false, false, false, false, false, false, false, false, false, false] rfl rfl (any_of HT_.out (by kernel_rfl)) (fun _ _ _ h => h) (Or.inl ⟨by rfl, ?_⟩) ?_ ?_
        rotate_left; (· intro w'; go_simp; with_reducible rfl)
        rotate_left; (· simp only [Act.put, List.setIfInBounds_toArray, List.set_cons_zero, List.set_cons_succ, i64_w, i32_w]; rfl)
        refine pure_ (i := 6) (N := some 29) (v := ?_) (a' := ?_) #[true, true, true, true, false, true, true, false, false, false, false, false, false, false, false, false, false, false] rfl rfl (any_of HT_.out (by kernel_rfl)) (fun _ _ _ h => h) (Or.inl ⟨by rfl, ?_⟩) ?_ ?_
        rotate_left; (· intro w'; go_simp; with_reducible rfl)
        rotate_left; (· simp only [Act.put, List.setIfInBounds_toArray, List.set_cons_zero, List.set_cons_succ, i64_w, i32_w]; rfl)
        refine pure_ (i := 7) (N := some 30) (v := ?_) (a' := ?_) #[true, true, true, true, false, true, true, true, false, false, false, false, false, false, false, false, false, false] rfl rfl (any_of HT_.out (by kernel_rfl)) (fun _ _ _ h => h) (Or.inl ⟨by rfl, ?_⟩) ?_ ?_
        rotate_left; (· intro w'; go_simp; with_reducible rfl)
        rotate_left; (· simp only [Act.put, List.setIfInBounds_toArray, List.set_cons_zero, List.set_cons_succ, i64_w, i32_w]; rfl)
        refine pure_ (i := 8) (N := some 31) (v := ?_) (a' := ?_) #[true, true, true, true, false, true, true, true, true, false, false, false, false, false, false, false, false, false] rfl rfl (any_of HT_.out (by kernel_rfl)) (fun _ _ _ h => h) (Or.inl ⟨by rfl, ?_⟩) ?_ ?_
        rotate_left; (· intro w'; go_simp; with_reducible rfl)
        rotate_left; (· simp only [Act.put, List.setIfInBounds_toArray, List.set_cons_zero, List.set_cons_succ, i64_w, i32_w]; rfl)
        refine pure_ (i := 10) (N := some 33) (v := ?_) (a' := ?_) #[true, true, true, true, false, true, true, true, true, false, true, false, false, false, false, false, false, false] rfl rfl (any_of HT_.out (by kernel_rfl)) (fun _ _ _ h => h) (Or.inl ⟨by rfl, ?_⟩) ?_ ?_
        rotate_left; (· intro w'; go_simp; with_reducible rfl)
        rotate_left; (· simp only [Act.put, List.setIfInBounds_toArray, List.set_cons_zero, List.set_cons_succ, i64_w, i32_w]; rfl)
        refine pure_ (i := 11) (N := some 34) (v := ?_) (a' := ?_) #[true, true, true, true, false, true, true, true, true, false, true, true, false, false, false, false, false, false] rfl rfl (any_of HT_.out (by kernel_rfl)) (fun _ _ _ h => h) (Or.inl ⟨by rfl, ?_⟩) ?_ ?_
        rotate_left; (· intro w'; go_simp; with_reducible rfl)
        rotate_left; (· simp only [Act.put, List.setIfInBounds_toArray, List.set_cons_zero, List.set_cons_succ, i64_w, i32_w]; rfl)
        refine pure_ (i := 12) (N := some 35) (v := ?_) (a' := ?_) #[true, true, true, true, false, true, true, true, true, false, true, true, true, false, false, false, false, false] rfl rfl (any_of HT_.out (by kernel_rfl)) (fun _ _ _ h => h) (Or.inl ⟨by rfl, ?_⟩) ?_ ?_
        rotate_left; (· intro w'; go_simp; with_reducible rfl)
        rotate_left; (· simp only [Act.put, List.setIfInBounds_toArray, List.set_cons_zero, List.set_cons_succ, i64_w, i32_w]; rfl)
        refine pure_ (i := 13) (N := some 36) (v := ?_) (a' := ?_) #[true, true, true, true, false, true, true, true, true, false, true, true, true, true, false, false, false, false] rfl rfl (any_of HT_.out (by kernel_rfl)) (fun _ _ _ h => h) (Or.inl ⟨by rfl, ?_⟩) ?_ ?_
        rotate_left; (· intro w'; go_simp; with_reducible rfl)
        rotate_left; (· simp only [Act.put, List.setIfInBounds_toArray, List.set_cons_zero, List.set_cons_succ, i64_w, i32_w]; rfl)
        refine take_ (i := 4) (N := some 27) (v := ?_) (a' := ?_) #[true, true, true, true, true, true, true, true, true, false, true, true, true, true, false, false, false, false] rfl rfl (take_ofW HT_.out HW_.out (by kernel_rfl)) (fun _ _ _ h => h) (Or.inl ⟨by rfl, ?_⟩) hHeld ?_ ?_
        rotate_left; (· rintro w' ⟨s0, s1, s2, s3, s4, s5, s6, s7, s8, s9, s10, s11, s12, s13, s14, s15, s16, s17, s18, s19, s20, s21, s22, s23⟩; go_simp; with_reducible rfl)
        rotate_left; (· simp only [Act.put, List.setIfInBounds_toArray, List.set_cons_zero, List.set_cons_succ, i64_w, i32_w]; rfl)
        refine take_ (i := 9) (N := some 32) (v := ?_) (a' := ?_) #[true, true, true, true, true, true, true, true, true, true, true, true, true, true, false, false, false, false] rfl rfl (take_ofW HT_.out HW_.out (by kernel_rfl)) (fun _ _ _ h => h) (Or.inl ⟨by rfl, ?_⟩) hHeld ?_ ?_
        rotate_left; (· rintro w' ⟨s0, s1, s2, s3, s4, s5, s6, s7, s8, s9, s10, s11, s12, s13, s14, s15, s16, s17, s18, s19, s20, s21, s22, s23⟩; go_simp; with_reducible rfl)
        rotate_left; (· simp only [Act.put, List.setIfInBounds_toArray, List.set_cons_zero, List.set_cons_succ, i64_w, i32_w]; rfl)
        refine take_ (i := 14) (N := some 37) (v := ?_) (a' := ?_) #[true, true, true, true, true, true, true, true, true, true, true, true, true, true, true, false, false, false] rfl rfl (take_ofW HT_.out HW_.out (by kernel_rfl)) (fun _ _ _ h => h) (Or.inl ⟨by rfl, ?_⟩) hHeld ?_ ?_
        rotate_left; (· rintro w' ⟨s0, s1, s2, s3, s4, s5, s6, s7, s8, s9, s10, s11, s12, s13, s14, s15, s16, s17, s18, s19, s20, s21, s22, s23⟩; go_simp; with_reducible rfl)
        rotate_left; (· simp only [Act.put, List.setIfInBounds_toArray, List.set_cons_zero, List.set_cons_succ, i64_w, i32_w]; rfl)
        refine pure_ (i := 15) (N := some 38) (v := ?_) (a' := ?_) #[true, true, true, true, true, true, true, true, true, true, true, true, true, true, true, true, false, false] rfl rfl (any_of HT_.out (by kernel_rfl)) (fun _ _ _ h => h) (Or.inl ⟨by rfl, ?_⟩) ?_ ?_
        rotate_left; (· intro w'; go_simp; with_reducible rfl)
        rotate_left; (· simp only [Act.put, List.setIfInBounds_toArray, List.set_cons_zero, List.set_cons_succ, i64_w, i32_w]; rfl)
        refine one_ (i := 16) (N := some 8) #[true, true, true, true, true, true, true, true, true, true, true, true, true, true, true, true, true, false] rfl rfl (one_of HT_.out (by kernel_rfl)) (by decide) (fun K hK => ?_)
        refine box_step ?hg (N := 8) ?hd (cs := #[.int .i64 0, .int .i64 0, .int .i64 0, .string (⟨#[]⟩ : ByteArray)]) (t := 65) ?hr ?_; (case hd => rfl); (case hg => rfl); (case hr => first | (go_simp; done) | (go_simp; rfl))
        intro gb240 hg w26 hbox hb
        have n0_ := Aside0.mk (Kd.R_below (Kd.R_elderB (by (with_reducible repeat (first | apply rA | apply rN | apply rD)); exact HO_5.out) gb240 (Nat.le_of_eq hg.symm)) hb)
        have n1_ := Aside0.mk (bT (by repeat (first | (with_reducible first | exact HB.out | apply bA | apply bN | apply bD) | exact HB.out)) hb)
        have n2_ := Aside0.mk (hbox)
        have n3_ := Aside0.mk ((by rw [hg]; exact (bZ (by repeat (first | (with_reducible first | exact HB.out | apply bA | apply bN | apply bD) | exact HB.out))) : w.heap.size ≤ gb240))
        have n4_ := Aside0.mk ((by rw [hg]; exact (bZ (by repeat (first | (with_reducible first | exact HB.out | apply bA | apply bN | apply bD) | exact HB.out))) : w.heap.size ≤ gb240))
        clear HO_5; clear HB; have HO_5 := n0_; have HB := n1_; have BK240 := n2_; have GW240 := n3_; have GE240 := n4_; clear n0_ n1_ n2_ n3_ n4_; clear hb hbox hg
        refine hK.out _ _ ⟨(upc HB.out hw237_0), (upc HB.out hw237_1), (upc HB.out hw237_2), (upc HB.out hw237_3), (upc HB.out hw237_4), (upc HB.out hw237_5), (upc HB.out hw237_6), (upc HB.out hw237_7), (upc HB.out hw238_0), (upc HB.out hw238_1), (upc HB.out hw238_2), (upc HB.out hw238_3), (upc HB.out hw238_4), (upc HB.out hw238_5), (upc HB.out hw238_6), (upc HB.out hw238_7), (upc HB.out hw239_0), (upc HB.out hw239_1), (upc HB.out hw239_2), (upc HB.out hw239_3), (upc HB.out hw239_4), (upc HB.out hw239_5), (upc HB.out hw239_6), (upc HB.out hw239_7)⟩ (fun hHeld => ?_)
        clear hK K
        refine norm_ (a' := ?_) ?_ ?_
        rotate_left; (· show Act.put _ (some 8) _ = _; simp only [Act.put, List.setIfInBounds_toArray, List.set_cons_zero, List.set_cons_succ, i64_w, i32_w]; rfl)
        refine one_ (i := 17) (N := none) #[true, true, true, true, true, true, true, true, true, true, true, true, true, true, true, true, true, true] rfl rfl (one_of HT_.out (by kernel_rfl)) (by decide) (fun K hK => ?_)
        have hs27 : w26.cell? ⟨gb240, 0, none⟩ = some (.int .i64 0) := (blk_cell BK240.out 0).trans rfl
        have hfs27 := blk_frozen BK240.out 0
        have hs28 : w26.cell? ⟨gb240, 1, none⟩ = some (.int .i64 0) := (blk_cell BK240.out 1).trans rfl
        have hfs28 := blk_frozen BK240.out 1
        have hs29 : w26.cell? ⟨gb240, 2, none⟩ = some (.int .i64 0) := (blk_cell BK240.out 2).trans rfl
        have hfs29 := blk_frozen BK240.out 2
        have hs30 : w26.cell? ⟨gb240, 3, none⟩ = some (.string (⟨#[]⟩ : ByteArray)) := (blk_cell BK240.out 3).trans rfl
        have hfs30 := blk_frozen BK240.out 3
        refine skip_ (w1 := ?_) ?_ ?_ ?_ ?_
        rotate_left; (· rfl); (· rfl); (· go_simp; rfl)
        refine hK.out _ _ ⟨((cf_ hw237_0 GW240.out).trans (((cf_ hw237_0 GW240.out).trans (((cf_ hw237_0 GW240.out).trans (((cf_ hw237_0 GW240.out).trans (hHeld.1)))))))), ((cf_ hw237_1 GW240.out).trans (((cf_ hw237_1 GW240.out).trans (((cf_ hw237_1 GW240.out).trans (((cf_ hw237_1 GW240.out).trans (hHeld.2.1)))))))), ((cf_ hw237_2 GW240.out).trans (((cf_ hw237_2 GW240.out).trans (((cf_ hw237_2 GW240.out).trans (((cf_ hw237_2 GW240.out).trans (hHeld.2.2.1)))))))), ((cf_ hw237_3 GW240.out).trans (((cf_ hw237_3 GW240.out).trans (((cf_ hw237_3 GW240.out).trans (((cf_ hw237_3 GW240.out).trans (hHeld.2.2.2.1)))))))), ((cf_ hw237_4 GW240.out).trans (((cf_ hw237_4 GW240.out).trans (((cf_ hw237_4 GW240.out).trans (((cf_ hw237_4 GW240.out).trans (hHeld.2.2.2.2.1)))))))), ((cf_ hw237_5 GW240.out).trans (((cf_ hw237_5 GW240.out).trans (((cf_ hw237_5 GW240.out).trans (((cf_ hw237_5 GW240.out).trans (hHeld.2.2.2.2.2.1)))))))), ((cf_ hw237_6 GW240.out).trans (((cf_ hw237_6 GW240.out).trans (((cf_ hw237_6 GW240.out).trans (((cf_ hw237_6 GW240.out).trans (hHeld.2.2.2.2.2.2.1)))))))), ((cf_ hw237_7 GW240.out).trans (((cf_ hw237_7 GW240.out).trans (((cf_ hw237_7 GW240.out).trans (((cf_ hw237_7 GW240.out).trans (hHeld.2.2.2.2.2.2.2.1)))))))), ((cf_ hw238_0 GW240.out).trans (((cf_ hw238_0 GW240.out).trans (((cf_ hw238_0 GW240.out).trans (((cf_ hw238_0 GW240.out).trans (hHeld.2.2.2.2.2.2.2.2.1)))))))), ((cf_ hw238_1 GW240.out).trans (((cf_ hw238_1 GW240.out).trans (((cf_ hw238_1 GW240.out).trans (((cf_ hw238_1 GW240.out).trans (hHeld.2.2.2.2.2.2.2.2.2.1)))))))), ((cf_ hw238_2 GW240.out).trans (((cf_ hw238_2 GW240.out).trans (((cf_ hw238_2 GW240.out).trans (((cf_ hw238_2 GW240.out).trans (hHeld.2.2.2.2.2.2.2.2.2.2.1)))))))), ((cf_ hw238_3 GW240.out).trans (((cf_ hw238_3 GW240.out).trans (((cf_ hw238_3 GW240.out).trans (((cf_ hw238_3 GW240.out).trans (hHeld.2.2.2.2.2.2.2.2.2.2.2.1)))))))), ((cf_ hw238_4 GW240.out).trans (((cf_ hw238_4 GW240.out).trans (((cf_ hw238_4 GW240.out).trans (((cf_ hw238_4 GW240.out).trans (hHeld.2.2.2.2.2.2.2.2.2.2.2.2.1)))))))), ((cf_ hw238_5 GW240.out).trans (((cf_ hw238_5 GW240.out).trans (((cf_ hw238_5 GW240.out).trans (((cf_ hw238_5 GW240.out).trans (hHeld.2.2.2.2.2.2.2.2.2.2.2.2.2.1)))))))), ((cf_ hw238_6 GW240.out).trans (((cf_ hw238_6 GW240.out).trans (((cf_ hw238_6 GW240.out).trans (((cf_ hw238_6 GW240.out).trans (hHeld.2.2.2.2.2.2.2.2.2.2.2.2.2.2.1)))))))), ((cf_ hw238_7 GW240.out).trans (((cf_ hw238_7 GW240.out).trans (((cf_ hw238_7 GW240.out).trans (((cf_ hw238_7 GW240.out).trans (hHeld.2.2.2.2.2.2.2.2.2.2.2.2.2.2.2.1)))))))), ((cf_ hw239_0 GW240.out).trans (((cf_ hw239_0 GW240.out).trans (((cf_ hw239_0 GW240.out).trans (((cf_ hw239_0 GW240.out).trans (hHeld.2.2.2.2.2.2.2.2.2.2.2.2.2.2.2.2.1)))))))), ((cf_ hw239_1 GW240.out).trans (((cf_ hw239_1 GW240.out).trans (((cf_ hw239_1 GW240.out).trans (((cf_ hw239_1 GW240.out).trans (hHeld.2.2.2.2.2.2.2.2.2.2.2.2.2.2.2.2.2.1)))))))), ((cf_ hw239_2 GW240.out).trans (((cf_ hw239_2 GW240.out).trans (((cf_ hw239_2 GW240.out).trans (((cf_ hw239_2 GW240.out).trans (hHeld.2.2.2.2.2.2.2.2.2.2.2.2.2.2.2.2.2.2.1)))))))), ((cf_ hw239_3 GW240.out).trans (((cf_ hw239_3 GW240.out).trans (((cf_ hw239_3 GW240.out).trans (((cf_ hw239_3 GW240.out).trans (hHeld.2.2.2.2.2.2.2.2.2.2.2.2.2.2.2.2.2.2.2.1)))))))), ((cf_ hw239_4 GW240.out).trans (((cf_ hw239_4 GW240.out).trans (((cf_ hw239_4 GW240.out).trans (((cf_ hw239_4 GW240.out).trans (hHeld.2.2.2.2.2.2.2.2.2.2.2.2.2.2.2.2.2.2.2.2.1)))))))), ((cf_ hw239_5 GW240.out).trans (((cf_ hw239_5 GW240.out).trans (((cf_ hw239_5 GW240.out).trans (((cf_ hw239_5 GW240.out).trans (hHeld.2.2.2.2.2.2.2.2.2.2.2.2.2.2.2.2.2.2.2.2.2.1)))))))), ((cf_ hw239_6 GW240.out).trans (((cf_ hw239_6 GW240.out).trans (((cf_ hw239_6 GW240.out).trans (((cf_ hw239_6 GW240.out).trans (hHeld.2.2.2.2.2.2.2.2.2.2.2.2.2.2.2.2.2.2.2.2.2.2.1)))))))), ((cf_ hw239_7 GW240.out).trans (((cf_ hw239_7 GW240.out).trans (((cf_ hw239_7 GW240.out).trans (((cf_ hw239_7 GW240.out).trans (hHeld.2.2.2.2.2.2.2.2.2.2.2.2.2.2.2.2.2.2.2.2.2.2.2))))))))⟩ (fun hHeld => ?_)
        clear hK K
        refine done_ (done_of HT_.out (by kernel_rfl)) ?_
        have hcz31_0 : w26.cell? ⟨gb240, 0, none⟩ = some (.int .i64 0) := (blk_cell BK240.out 0).trans rfl
        have hcz31_1 : w26.cell? ⟨gb240, 1, none⟩ = some (.int .i64 0) := (blk_cell BK240.out 1).trans rfl
        have hcz31_2 : w26.cell? ⟨gb240, 2, none⟩ = some (.int .i64 0) := (blk_cell BK240.out 2).trans rfl
        have hcz31_3 : w26.cell? ⟨gb240, 3, none⟩ = some (.string (⟨#[]⟩ : ByteArray)) := (blk_cell BK240.out 3).trans rfl
        have hfz31_0 := blk_frozen BK240.out 0
        have hfz31_1 := blk_frozen BK240.out 1
        have hfz31_2 := blk_frozen BK240.out 2
        have hfz31_3 := blk_frozen BK240.out 3
        try go_wp2_with (first | ((with_reducible refine gate_builtin (b := .append) (xs := #[.tmp 49, .tmp 51]) rfl ?_); (try (refine gate_guard (by rfl) ?_; dsimp only)); at_builtin; refine Kd.R_append k65 (w0 := w) w.heap.size rfl (.tmp 49) (.tmp 51) 43 65 (.agg #[(.int .i64 0), (.int .i64 0), (.int .i64 0), (.string ⟨#[]⟩)]) 40 rfl Try.underlying43 info65 rfl (by decide) (by omega) u5 x5_1 (⟨(rd_T36 l0 (rd l1 x11_1)).f0, (rd_T36 l0 (rd l1 x11_1)).f4, (rd_T36 l0 (rd l1 x11_1)).f5, (⟨#[]⟩ : ByteArray)⟩ : S65) [.int .i64 ((rd_T36 l0 (rd l1 x11_1)).f0), .int .i64 ((rd_T36 l0 (rd l1 x11_1)).f4), .int .i64 ((rd_T36 l0 (rd l1 x11_1)).f5), .string (⟨#[]⟩ : ByteArray)] (fun k_ => k_ ≠ gb240) (fun _ => False) rfl (by first | (go_simp; done) | (go_simp; rfl)) ?aP (fun _ hk => hk.elim) ?aF ?aO ?aB ?aS ?aL ?_; (case aP => exact k65_mkM _ _ _ (⟨(rd_T36 l0 (rd l1 x11_1)).f0, (rd_T36 l0 (rd l1 x11_1)).f4, (rd_T36 l0 (rd l1 x11_1)).f5, (⟨#[]⟩ : ByteArray)⟩ : S65)); (case aB => exact (by repeat (first | (with_reducible first | exact HB.out | apply bA | apply bN | apply bD | refine bS ?_ GE240.out) | exact HB.out))); (case aF => exact (fun k_ hk => Kd.freshB (g := gb240) (o := .cells #[.int .i64 ((rd_T36 l0 (rd l1 x11_1)).f0), .int .i64 ((rd_T36 l0 (rd l1 x11_1)).f4), .int .i64 ((rd_T36 l0 (rd l1 x11_1)).f5), .string (⟨#[]⟩ : ByteArray)] 65 (0, 0)) (by (with_reducible repeat (first | refine kN ?_ _ | refine kD ?_ | refine kA ?_ _)); refine blk_put (cs := #[.int .i64 ((rd_T36 l0 (rd l1 x11_1)).f0), .int .i64 ((rd_T36 l0 (rd l1 x11_1)).f4), .int .i64 ((rd_T36 l0 (rd l1 x11_1)).f5), .string (⟨#[]⟩ : ByteArray)]) ?_ 3 _ rfl; (with_reducible repeat (first | refine kN ?_ _ | refine kD ?_ | refine kA ?_ _)); refine blk_put (cs := #[.int .i64 ((rd_T36 l0 (rd l1 x11_1)).f0), .int .i64 ((rd_T36 l0 (rd l1 x11_1)).f4), .int .i64 0, .string (⟨#[]⟩ : ByteArray)]) ?_ 2 _ rfl; (with_reducible repeat (first | refine kN ?_ _ | refine kD ?_ | refine kA ?_ _)); refine blk_put (cs := #[.int .i64 ((rd_T36 l0 (rd l1 x11_1)).f0), .int .i64 0, .int .i64 0, .string (⟨#[]⟩ : ByteArray)]) ?_ 1 _ rfl; (with_reducible repeat (first | refine kN ?_ _ | refine kD ?_ | refine kA ?_ _)); refine blk_put (cs := #[.int .i64 0, .int .i64 0, .int .i64 0, .string (⟨#[]⟩ : ByteArray)]) ?_ 0 _ rfl; (with_reducible repeat (first | refine kN ?_ _ | refine kD ?_ | refine kA ?_ _)); exact BK240.out) k_ hk)); (case aO => exact (by (with_reducible repeat (first | apply rA | apply rN | apply rD)); exact Kd.R_mono (Kd.R_far (p := ⟨gb240, 3, none⟩) (Kd.R_far (p := ⟨gb240, 2, none⟩) (Kd.R_far (p := ⟨gb240, 1, none⟩) (Kd.R_far (p := ⟨gb240, 0, none⟩) (Kd.R_mono HO_5.out (fun k_ hk => (⟨hk, hk.2⟩ : _ ∧ k_ ≠ gb240))) (fun _ hk => hk.2) (.int .i64 ((rd_T36 l0 (rd l1 x11_1)).f0))) (fun _ hk => hk.2) (.int .i64 ((rd_T36 l0 (rd l1 x11_1)).f4))) (fun _ hk => hk.2) (.int .i64 ((rd_T36 l0 (rd l1 x11_1)).f5))) (fun _ hk => hk.2) (.string (⟨#[]⟩ : ByteArray))) (fun _ hk => hk.1.2))); (case aS => exact (bZ (by repeat (first | (with_reducible first | exact HB.out | apply bA | apply bN | apply bD | refine bS ?_ GE240.out) | exact HB.out)))); (case aL => have := LMc24.out; omega); intro v247 w32 ho hb hg hat; rw [← Ny246.out] at ho; have n0_ := Aside0.mk (blk_grown (g := gb240) (o := .cells #[.int .i64 ((rd_T36 l0 (rd l1 x11_1)).f0), .int .i64 ((rd_T36 l0 (rd l1 x11_1)).f4), .int .i64 ((rd_T36 l0 (rd l1 x11_1)).f5), .string (⟨#[]⟩ : ByteArray)] 65 (0, 0)) (by (with_reducible repeat (first | refine kN ?_ _ | refine kD ?_ | refine kA ?_ _)); refine blk_put (cs := #[.int .i64 ((rd_T36 l0 (rd l1 x11_1)).f0), .int .i64 ((rd_T36 l0 (rd l1 x11_1)).f4), .int .i64 ((rd_T36 l0 (rd l1 x11_1)).f5), .string (⟨#[]⟩ : ByteArray)]) ?_ 3 _ rfl; (with_reducible repeat (first | refine kN ?_ _ | refine kD ?_ | refine kA ?_ _)); refine blk_put (cs := #[.int .i64 ((rd_T36 l0 (rd l1 x11_1)).f0), .int .i64 ((rd_T36 l0 (rd l1 x11_1)).f4), .int .i64 0, .string (⟨#[]⟩ : ByteArray)]) ?_ 2 _ rfl; (with_reducible repeat (first | refine kN ?_ _ | refine kD ?_ | refine kA ?_ _)); refine blk_put (cs := #[.int .i64 ((rd_T36 l0 (rd l1 x11_1)).f0), .int .i64 0, .int .i64 0, .string (⟨#[]⟩ : ByteArray)]) ?_ 1 _ rfl; (with_reducible repeat (first | refine kN ?_ _ | refine kD ?_ | refine kA ?_ _)); refine blk_put (cs := #[.int .i64 0, .int .i64 0, .int .i64 0, .string (⟨#[]⟩ : ByteArray)]) ?_ 0 _ rfl; (with_reducible repeat (first | refine kN ?_ _ | refine kD ?_ | refine kA ?_ _)); exact BK240.out) hg (Kd.R_away HO_5.out (fun _ hk => hk.2))); have n1_ := Aside0.mk (hb); have n2_ := Aside0.mk (ho); clear BK240; clear HB; clear HO_5; have BK240 := n0_; have HB := n1_; have HO248 := n2_; clear n0_ n1_ n2_; clear ho hb hg hat))
        go_roundg kj5
        case measure => have := HK1.out; have := HJ5.out; omega
        case rel => exact ⟨(y246), (wrap64 (x11_1 + 1)), (by first | rfl | (simp; done) | (simp [*]; done)), H', ⟨by have := HK1.out; have := HJ5.out; omega⟩, ⟨by (with_reducible repeat (first | apply rA | apply rN | apply rD)); exact Kd.R_mono HO248.out (fun _ hk => trivial)⟩, ⟨by repeat (first | (with_reducible first | exact HB.out | apply bA | apply bN | apply bD | refine bS ?_ GE240.out) | exact HB.out)⟩⟩
   ·
    rw [if_neg c3] at H
    have c3b0 : decide (x11_1 < (l1.length : Int)) = false := decide_eq_false c3
    clear c3
    obtain rfl := Option.some.inj H
    go_wp2
    go_ret
    exact ⟨_, by first | rfl | (simp [errW_none, errW_some] <;> rfl) | (simp [*, errW_none, errW_some] <;> rfl), by (with_reducible repeat (first | apply rA | apply rN | apply rD)); exact HO_5.out, by repeat (first | (with_reducible first | exact HB.out | apply bA | apply bN | apply bD) | exact HB.out)⟩

def assessorref08_decimal.f : Nat → Int → Option (ByteArray)
 | 0, _ => none
 | k + 1, a0 => (some (([(wrap64 (48 + (Int.tmod a0 10))) % 256] : List Int) : List Int)).bind fun y249 => (if a0 ≥ 10 then ((assessorref08_decimal.f k (wrap64 (Int.tdiv a0 10))).bind fun t252 => (if t252.size + (strOfNums y249).size ≤ 9223372036854775807 then (some (t252 ++ (strOfNums y249))) else (none))) else (some (strOfNums y249)))
theorem assessorref08_decimal.mono_l : ∀ k, (∀ y0, LeO (assessorref08_decimal.f k y0) (assessorref08_decimal.f (k + 1) y0))
 | 0 => fun _ r h => by simp [assessorref08_decimal.f] at h
 | k + 1 => by
  have ih0 := assessorref08_decimal.mono_l k
  ·
   intro y0
   unfold assessorref08_decimal.f
   repeat' first
   | (with_reducible exact ih0 _)
   | (with_reducible exact LeO.refl _)
   | (with_reducible exact LeO.none _)
   | (with_reducible refine LeO.ite ?_ ?_)
   | (with_reducible refine LeO.bind ?_ (fun _ => ?_))
   | exact ih0 _
   | exact LeO.none _
   | refine LeO.ite ?_ ?_
   | refine LeO.bind ?_ (fun _ => ?_)
theorem assessorref08_decimal.mono : ∀ a0 k, LeO (assessorref08_decimal.f k a0) (assessorref08_decimal.f (k + 1) a0) := by
 intro a0 k
 have ih0 := assessorref08_decimal.mono_l k
 exact ih0 a0
set_option maxHeartbeats 8000000 in
set_option maxRecDepth 100000 in
theorem assessorref08_decimal.calls (k : Nat) : ∀ (a0 : Int) (r : ByteArray) (w : World) (h : assessorref08_decimal.f k a0 = some r),
  Calls Try.prog 43 #[.int .i64 a0] w fun e w' => e = .returned (.string r) ∧ Below w.heap.size w w' := by
 induction k using Nat.strongRecOn with
 | _ k ih =>
 intro a0 r w h
 cases k with
 | zero => exact absurd h (by simp [assessorref08_decimal.f])
 | succ k =>
 simp only [assessorref08_decimal.f] at h
 have HB := Aside0.mk (Below.refl w.heap.size w)
 have H : ((some (([(wrap64 (48 + (Int.tmod a0 10))) % 256] : List Int) : List Int)).bind fun y249 => (if a0 ≥ 10 then ((assessorref08_decimal.f k (wrap64 (Int.tdiv a0 10))).bind fun t252 => (if t252.size + (strOfNums y249).size ≤ 9223372036854775807 then (some (t252 ++ (strOfNums y249))) else (none))) else (some (strOfNums y249)))) = some r := h
 clear h
 obtain ⟨y249, hy249⟩ : ∃ y_ : List Int, y_ = (([(wrap64 (48 + (Int.tmod a0 10))) % 256] : List Int)) := ⟨_, rfl⟩
 replace H : (if a0 ≥ 10 then ((assessorref08_decimal.f k (wrap64 (Int.tdiv a0 10))).bind fun t252 => (if t252.size + (strOfNums y249).size ≤ 9223372036854775807 then (some (t252 ++ (strOfNums y249))) else (none))) else (some (strOfNums y249))) = some r := by first | (rw [hy249]; with_reducible exact H) | (have H2_ := (Option.bind_some _ _).symm.trans H; rw [hy249]; with_reducible exact H2_) | (have H2_ := (Option.bind_some _ _).symm.trans H; with_reducible exact H2_) | with_reducible exact H | (rw [hy249]; exact H) | exact H
 have Ny249 := Aside0.mk hy249
 clear hy249
 by_cases c2 : a0 ≥ 10
 ·
  rw [if_pos c2] at H
  have c2b0 : decide (10 ≤ a0) = true := decide_eq_true c2
  clear c2
  replace H := Option.bind_eq_some_iff.mp H
  obtain ⟨t252, A30, H⟩ := H
  replace H : (if t252.size + (strOfNums y249).size ≤ 9223372036854775807 then (some (t252 ++ (strOfNums y249))) else (none)) = some r := H
  have A3 := Aside0.mk A30
  clear A30
  by_cases c4 : t252.size + (strOfNums y249).size ≤ 9223372036854775807; rotate_left
  · rw [if_neg c4] at H; exact absurd H (by simp)
  rw [if_pos c4] at H
  have c4b0 := eq_true c4
  have c4b1 : decide (t252.size + (strOfNums y249).size ≤ 9223372036854775807) = true := decide_eq_true c4
  try have c4b2 : (9223372036854775807 < t252.size + (strOfNums y249).size) = False := eq_false (Nat.not_lt.2 c4)
  obtain rfl := Option.some.inj H
  go_enter Try.func43, Try.ntmps43
  go_wp2_with (first | ((with_reducible refine gate_dst (N := 8) rfl ?_); refine Kd.R_lit (Kd.int .u8) _ 5 ?hg (N := 8) ?hd (xs := ([(wrap64 (48 + (Int.tmod a0 10))) % 256] : List Int)) (inner := [.int .u8 ((wrap64 (48 + (Int.tmod a0 10))) % 256)]) (ok := fun _ => True) (okp := fun _ => True) ?hr ?hp (fun _ hk => hk) trivial (Below.refl _ _) (Nat.le_refl _) (by simp) ?_; (case hd => rfl); (case hg => rfl); (case hr => first | (go_simp; done) | (go_simp; rfl)); (case hp => exact (Reps.one (show Kd.M (Kd.int .u8) _ _ _ ((wrap64 (48 + (Int.tmod a0 10))) % 256) [.int .u8 ((wrap64 (48 + (Int.tmod a0 10))) % 256)] from rfl) (Reps.none _ _))); intro v250 w5 ho6 hb hg_ hnew_; clear hg_ hnew_; (first | rw [← Ny249.out] at ho6 | (simp only [Int.reduceToNat] at ho6; rw [← Ny249.out] at ho6)); have n0_ := Aside0.mk (Kd.R_lower ho6 (bZ (by repeat (first | (with_reducible first | exact HB.out | apply bA | apply bN | apply bD) | exact HB.out)))); have n1_ := Aside0.mk (bT (by repeat (first | (with_reducible first | exact HB.out | apply bA | apply bN | apply bD) | exact HB.out)) hb); clear HB; have HO251 := n0_; have HB := n1_; clear n0_ n1_; clear hb ho6; have hcv7 := own_string (P := Try.prog) Try.underlying86 Try.underlying5 Try.underlying9 (Kd.own_of_R HO251.out)) | ((with_reducible refine gate_callee (f := 43) rfl ?_); refine goesL_ (some 14) rfl rfl Try.func43 (by kernel_rfl) rfl #[.int .i64 (wrap64 (Int.tdiv a0 10))] rfl (by (try simp only [List.map_toArray, List.map_cons, List.map_nil]); first | done | rfl | (simp only [List.length_drop, List.length_take]; rfl)) ?_; (with_reducible refine (ih k (by omega) (wrap64 (Int.tdiv a0 10)) t252 _ A3.out).mono ?_); rintro e w8 ⟨rfl, hb⟩; refine ⟨_, rfl, ?_⟩; have n0_ := Aside0.mk (Kd.R_below (by (with_reducible repeat (first | apply rA | apply rN | apply rD)); exact HO251.out) hb); have n1_ := Aside0.mk (bT (by repeat (first | (with_reducible first | exact HB.out | apply bA | apply bN | apply bD) | exact HB.out)) hb); clear HO251; clear HB; have HO251 := n0_; have HB := n1_; clear n0_ n1_; (try clear hb); (try clear hb2); (try clear hk); (try clear hi)))
  go_ret
  exact ⟨by first | rfl | (simp [errW_none, errW_some] <;> rfl) | (simp [*, errW_none, errW_some] <;> rfl), by repeat (first | (with_reducible first | exact HB.out | apply bA | apply bN | apply bD) | exact HB.out)⟩
 ·
  rw [if_neg c2] at H
  have c2b0 : decide (10 ≤ a0) = false := decide_eq_false c2
  clear c2
  obtain rfl := Option.some.inj H
  go_enter Try.func43, Try.ntmps43
  go_wp2_with (first | ((with_reducible refine gate_dst (N := 8) rfl ?_); refine Kd.R_lit (Kd.int .u8) _ 5 ?hg (N := 8) ?hd (xs := ([(wrap64 (48 + (Int.tmod a0 10))) % 256] : List Int)) (inner := [.int .u8 ((wrap64 (48 + (Int.tmod a0 10))) % 256)]) (ok := fun _ => True) (okp := fun _ => True) ?hr ?hp (fun _ hk => hk) trivial (Below.refl _ _) (Nat.le_refl _) (by simp) ?_; (case hd => rfl); (case hg => rfl); (case hr => first | (go_simp; done) | (go_simp; rfl)); (case hp => exact (Reps.one (show Kd.M (Kd.int .u8) _ _ _ ((wrap64 (48 + (Int.tmod a0 10))) % 256) [.int .u8 ((wrap64 (48 + (Int.tmod a0 10))) % 256)] from rfl) (Reps.none _ _))); intro v250 w9 ho10 hb hg_ hnew_; clear hg_ hnew_; (first | rw [← Ny249.out] at ho10 | (simp only [Int.reduceToNat] at ho10; rw [← Ny249.out] at ho10)); have n0_ := Aside0.mk (Kd.R_lower ho10 (bZ (by repeat (first | (with_reducible first | exact HB.out | apply bA | apply bN | apply bD) | exact HB.out)))); have n1_ := Aside0.mk (bT (by repeat (first | (with_reducible first | exact HB.out | apply bA | apply bN | apply bD) | exact HB.out)) hb); clear HB; have HO251 := n0_; have HB := n1_; clear n0_ n1_; clear hb ho10; have hcv11 := own_string (P := Try.prog) Try.underlying86 Try.underlying5 Try.underlying9 (Kd.own_of_R HO251.out)))
  go_ret
  exact ⟨by first | rfl | (simp [errW_none, errW_some] <;> rfl) | (simp [*, errW_none, errW_some] <;> rfl), by repeat (first | (with_reducible first | exact HB.out | apply bA | apply bN | apply bD) | exact HB.out)⟩

end Go.Proofs.Ytjbafigageingaa.PS
