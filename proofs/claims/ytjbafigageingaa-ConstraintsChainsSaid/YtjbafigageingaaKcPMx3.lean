import Derived.Test.YtjbafigageingaaKcSurr
import Derived.Test.YtjbafigageingaaKcPFx1
import Derived.Test.YtjbafigageingaaProg
import Derived.Test.YtjbafigageingaaKcW
import Derived.Below
import Derived.Deep.Draws
import Derived.Deep.AppendLies
import Derived.Maps.AppendAt
import Derived.OwnWalk
import Derived.Laws.BytesArg
import Derived.Laws.MakeOwn
import Derived.Laws.OwnMore
import Derived.Deep.OwnRows
import Derived.Tactics
import Derived.Lib.ConvBytes
import Derived.Laws.Slices
import Derived.WalkKit
import Derived.KernelRfl
import Derived.RowKit3
import Derived.Deep.LoopGhost
import Derived.Deep.QuietTactic
import Derived.BigQuiet
import Derived.WideLaws
import Derived.Deep.DeepCutAuto
import Derived.Deep.CutBlock
import Derived.Deep.RegionHeld3
import Derived.Laws.Rows
import Derived.Lib.AppendStr
import Derived.ArgAppend
import Derived.Laws.IdiomCopy
import Derived.OrdersHeld
import Derived.Laws.BitsLemmas
import Derived.RowKit
import Derived.Test.YtjbafigageingaaKcPMx1
import Derived.Test.YtjbafigageingaaKcPMx2
namespace Go.Proofs.Ytjbafigageingaa.PM
open Go.Proofs.Ytjbafigageingaa.PR Go.Proofs.Ytjbafigageingaa.PF
open Go.RowKit Go.Proofs.YtjbafigageingaaW.PrintWords Go.Proofs.YtjbafigageingaaW.PrintLast Go.Proofs.YtjbafigageingaaW.PrintMore
attribute [local go_sem] max2_int min2_int max_two min_two max_three min_three max_four min_four
set_option linter.unusedVariables false
set_option linter.unusedSimpArgs false

attribute [local go_sem high] eqA23
set_option maxHeartbeats 8000000 in
set_option maxRecDepth 100000 in
theorem assessorlaw09_ConstraintsChains.calls (k : Nat) (a0 : Int) (A1 : Option Addr) (c1 : Nat) (l1 : List (S36)) (r : Bool) (w : World) (hr1 : Kd.C k36 w A1 l1.length l1) (hc1 : l1.length ≤ c1) (h : assessorlaw09_ConstraintsChains.f k a0 l1 = some r) (ht_ : r = true) :
  Calls Try.prog 4 #[.int .i64 a0, .slice A1 l1.length c1] w fun e w' => e = .returned (.bool r) ∧ Below w.heap.size w w' := by
 have hu23 := Try.underlying23
 have hu36 := Try.underlying36
 have HTru_ := Aside0.mk ht_
 clear ht_
 have HR1 := Aside0.mk hr1
 have HC1 := Aside0.mk hc1
 clear hr1 hc1
 have HB := Aside0.mk (Below.refl w.heap.size w)
 have H : ((assessorlaw09_few.f a0 l1).bind fun t115 => (if t115 = true then ((constraints_Solve.f a0 l1).bind fun bt117 => ((assessorref09_Fits.f k a0 l1).bind fun t124 => (if ((bt117.2.2 == 0) != t124) = true then (some false) else (if bt117.2.2 = 0 then (if (bt117.1.length : Int) = a0 then (assessorlaw09_ConstraintsChains.l0 k a0 l1 bt117.1 bt117.2.1 (bt117.2.1.length : Int) 0) else (some false)) else (if (wrap64 ((bt117.1.length : Int) + (bt117.2.1.length : Int))) = 0 then ((assessorlaw09_awake.f).bind fun t125 => (some t125)) else (some false)))))) else ((assessorlaw09_awake.f).bind fun t116 => (some t116)))) = some r := h
 clear h
 replace H := Option.bind_eq_some_iff.mp H
 obtain ⟨t115, A30, H⟩ := H
 replace H : (if t115 = true then ((constraints_Solve.f a0 l1).bind fun bt117 => ((assessorref09_Fits.f k a0 l1).bind fun t124 => (if ((bt117.2.2 == 0) != t124) = true then (some false) else (if bt117.2.2 = 0 then (if (bt117.1.length : Int) = a0 then (assessorlaw09_ConstraintsChains.l0 k a0 l1 bt117.1 bt117.2.1 (bt117.2.1.length : Int) 0) else (some false)) else (if (wrap64 ((bt117.1.length : Int) + (bt117.2.1.length : Int))) = 0 then ((assessorlaw09_awake.f).bind fun t125 => (some t125)) else (some false)))))) else ((assessorlaw09_awake.f).bind fun t116 => (some t116))) = some r := H
 have A3 := Aside0.mk A30
 clear A30
 by_cases c4 : t115 = true
 ·
  subst c4
  have H1 : ((constraints_Solve.f a0 l1).bind fun bt117 => ((assessorref09_Fits.f k a0 l1).bind fun t124 => (if ((bt117.2.2 == 0) != t124) = true then (some false) else (if bt117.2.2 = 0 then (if (bt117.1.length : Int) = a0 then (assessorlaw09_ConstraintsChains.l0 k a0 l1 bt117.1 bt117.2.1 (bt117.2.1.length : Int) 0) else (some false)) else (if (wrap64 ((bt117.1.length : Int) + (bt117.2.1.length : Int))) = 0 then ((assessorlaw09_awake.f).bind fun t125 => (some t125)) else (some false)))))) = some r := by rw [if_pos rfl] at H; exact H
  clear H
  have H := H1
  clear H1
  replace H := Option.bind_eq_some_iff.mp H
  obtain ⟨⟨t117, t118, t119⟩, A50, H⟩ := H
  replace H : ((assessorref09_Fits.f k a0 l1).bind fun t124 => (if ((t119 == 0) != t124) = true then (some false) else (if t119 = 0 then (if (t117.length : Int) = a0 then (assessorlaw09_ConstraintsChains.l0 k a0 l1 t117 t118 (t118.length : Int) 0) else (some false)) else (if (wrap64 ((t117.length : Int) + (t118.length : Int))) = 0 then ((assessorlaw09_awake.f).bind fun t125 => (some t125)) else (some false))))) = some r := H
  have A5 := Aside0.mk A50
  clear A50
  replace H := Option.bind_eq_some_iff.mp H
  obtain ⟨t124, A60, H⟩ := H
  replace H : (if ((t119 == 0) != t124) = true then (some false) else (if t119 = 0 then (if (t117.length : Int) = a0 then (assessorlaw09_ConstraintsChains.l0 k a0 l1 t117 t118 (t118.length : Int) 0) else (some false)) else (if (wrap64 ((t117.length : Int) + (t118.length : Int))) = 0 then ((assessorlaw09_awake.f).bind fun t125 => (some t125)) else (some false)))) = some r := H
  have A6 := Aside0.mk A60
  clear A60
  by_cases c7 : ((t119 == 0) != t124) = true
  ·
   rw [if_pos c7] at H
   have c7b0 : ((t119 == 0) != t124) = true := c7
   (try (have c7b1 : decide ((t119 == 0) = t124) = false := by simpa using c7))
   (try (have c7b2 : ((t119 == 0) == t124) = false := by simpa using c7))
   (try (have c7b3 : ¬ ((t119 == 0) = t124) := by simpa using c7))
   clear c7
   obtain rfl := Option.some.inj H
   exact absurd HTru_.out (by decide)
  ·
   rw [if_neg c7] at H
   have c7b0 : ((t119 == 0) != t124) = false := by simpa using c7
   (try (have c7b1 : decide ((t119 == 0) = t124) = true := by simpa using c7))
   (try (have c7b2 : ((t119 == 0) == t124) = true := by simpa using c7))
   clear c7
   by_cases c8 : t119 = 0
   ·
    rw [if_pos c8] at H
    have c8b0 : (t119 == 0) = true := beq_iff_eq.mpr c8
    have c8b1 : (t119 != 0) = false := bne_eq_false_iff_eq.mpr c8
    have c8t : t124 = true := by rw [c8b0] at c7b0; simpa using c7b0
    clear c8
    by_cases c9 : (t117.length : Int) = a0
    ·
     rw [if_pos c9] at H
     have c9b0 : ((t117.length : Int) == a0) = true := beq_iff_eq.mpr c9
     have c9b1 : ((t117.length : Int) != a0) = false := bne_eq_false_iff_eq.mpr c9
     clear c9
     have H' := Aside0.mk H
     clear H
     go_enter Try.func4, Try.ntmps4
     go_wp2_with (first | ((with_reducible refine gate_callee (f := 11) rfl ?_); refine goesL_ (some 20) rfl rfl Try.func11 (by kernel_rfl) rfl #[.int .i64 a0, .slice A1 l1.length c1] rfl (by (try simp only [List.map_toArray, List.map_cons, List.map_nil]); first | done | rfl | (simp only [List.length_drop, List.length_take]; rfl)) ?_; (with_reducible refine (assessorlaw09_few.calls a0 _ _ l1 true _ ?side1 ?side2 A3.out).mono ?_); (case side1 => repeat (first | exact HR1.out | (with_reducible refine Kd.C_alloc ?_ _) | (with_reducible refine Kd.C_drewN ?_ _) | (with_reducible refine Kd.C_drew ?_))); (case side2 => exact HC1.out); rintro e w' ⟨rfl, ⟨nd, rfl⟩⟩; refine ⟨_, rfl, ?_⟩) | ((with_reducible refine gate_callee (f := 12) rfl ?_); refine goesL_ (some 26) rfl rfl Try.func12 (by kernel_rfl) rfl #[.int .i64 a0, .slice A1 l1.length c1] rfl (by (try simp only [List.map_toArray, List.map_cons, List.map_nil]); first | done | rfl | (simp only [List.length_drop, List.length_take]; rfl)) ?_; (with_reducible refine (constraints_Solve.calls a0 _ _ l1 t117 t118 t119 _ ?side1 ?side2 A5.out).mono ?_); (case side1 => repeat (first | exact HR1.out | (with_reducible refine Kd.C_alloc ?_ _) | (with_reducible refine Kd.C_drewN ?_ _) | (with_reducible refine Kd.C_drew ?_))); (case side2 => exact HC1.out); rintro e w10 ⟨v120, v122, rfl, ho0, ho1, hb⟩; refine ⟨_, rfl, ?_⟩; have n0_ := Aside0.mk (Kd.R_lower ho0 (below_size (by repeat (first | (with_reducible first | exact HB.out | apply below_alloc | apply pw_below_drewN | apply below_drew1) | exact HB.out)))); have n1_ := Aside0.mk (Kd.R_lower ho1 (below_size (by repeat (first | (with_reducible first | exact HB.out | apply below_alloc | apply pw_below_drewN | apply below_drew1) | exact HB.out)))); have n2_ := Aside0.mk (below_step (by repeat (first | (with_reducible first | exact HB.out | apply below_alloc | apply pw_below_drewN | apply below_drew1) | exact HB.out)) hb); clear HB; have HO121 := n0_; have HO123 := n1_; have HB := n2_; clear n0_ n1_ n2_; (try clear hb); (try clear hb2); (try clear hk); (try clear hi); (try clear ho0); (try clear ho1)) | ((with_reducible refine gate_callee (f := 13) rfl ?_); refine goesL_ (some 34) rfl rfl Try.func13 (by kernel_rfl) rfl #[.int .i64 a0, .slice A1 l1.length c1] rfl (by (try simp only [List.map_toArray, List.map_cons, List.map_nil]); first | done | rfl | (simp only [List.length_drop, List.length_take]; rfl)) ?_; (with_reducible refine (assessorref09_Fits.calls k a0 _ _ l1 t124 _ ?side1 ?side2 A6.out).mono ?_); (case side1 => repeat (first | exact (Kd.C_below HR1.out HB.out) | (with_reducible refine Kd.C_alloc ?_ _) | (with_reducible refine Kd.C_drewN ?_ _) | (with_reducible refine Kd.C_drew ?_))); (case side2 => exact HC1.out); rintro e w11 ⟨rfl, hb⟩; refine ⟨_, rfl, ?_⟩; have n0_ := Aside0.mk (Kd.R_below (by (with_reducible repeat (first | apply Kd.R_alloc | apply Kd.R_drewN | apply Kd.R_drew)); exact HO121.out) hb); have n1_ := Aside0.mk (Kd.R_below (by (with_reducible repeat (first | apply Kd.R_alloc | apply Kd.R_drewN | apply Kd.R_drew)); exact HO123.out) hb); have n2_ := Aside0.mk (below_step (by repeat (first | (with_reducible first | exact HB.out | apply below_alloc | apply pw_below_drewN | apply below_drew1) | exact HB.out)) hb); clear HO121; clear HO123; clear HB; have HO121 := n0_; have HO123 := n1_; have HB := n2_; clear n0_ n1_ n2_; (try clear hb); (try clear hb2); (try clear hk); (try clear hi); obtain ⟨Ao12, co12, eo12⟩ := Kd.R_slice HO121.out; subst eo12; obtain ⟨Ao13, co13, eo13⟩ := Kd.R_slice HO123.out; subst eo13))
     go_loopg [53] k (fun kq v53 w' => ∃ (x53_1 : Int), v53 = .int .i64 x53_1 ∧ Aside0 (assessorlaw09_ConstraintsChains.l0 kq a0 l1 t117 t118 (t118.length : Int) x53_1 = some r) ∧ Aside0 (kq ≤ k) ∧ Aside0 (Kd.R k23 23 w' w.heap.size (fun _ => True) (.slice Ao12 t117.length co12) t117) ∧ Aside0 (Kd.R (Kd.slice 3 (Kd.int .i64)) 33 w' w.heap.size (fun _ => True) (.slice Ao13 t118.length co13) t118) ∧ Aside0 (Below w.heap.size w w'))
     case atStart => exact ⟨(0), (by first | rfl | (simp; done) | (simp [*]; done)), H', ⟨Nat.le_refl _⟩, ⟨by (with_reducible repeat (first | apply Kd.R_alloc | apply Kd.R_drewN | apply Kd.R_drew)); exact HO121.out⟩, ⟨by (with_reducible repeat (first | apply Kd.R_alloc | apply Kd.R_drewN | apply Kd.R_drew)); exact HO123.out⟩, ⟨by repeat (first | (with_reducible first | exact HB.out | apply below_alloc | apply pw_below_drewN | apply below_drew1) | exact HB.out)⟩⟩
     case round =>
      clear H'
      try clear c1
      try clear p2
      try clear c4
      try clear p6
      try clear c7
      try clear c7b0
      try clear c7b1
      try clear c7b2
      try clear c8
      try clear c8b0
      try clear c8b1
      try clear c9
      try clear c9b0
      try clear c9b1
      try clear c11
      try clear c12
      try clear c13
      obtain ⟨x53_1, rfl, HA, HK1, HO_5, HO_51, HB⟩ := hrel
      cases gk with
      | zero => exact absurd HA.out (by simp [assessorlaw09_ConstraintsChains.l0])
      | succ k1 =>
       have H := HA.out
       clear HA
       simp only [assessorlaw09_ConstraintsChains.l0] at H
       by_cases c14 : x53_1 < (t118.length : Int)
       ·
        rw [if_pos c14] at H
        have c14b0 : decide (x53_1 < (t118.length : Int)) = true := decide_eq_true c14
        clear c14
        by_cases c15 : 0 ≤ x53_1; rotate_left
        · rw [if_neg c15] at H; exact absurd H (by simp)
        rw [if_pos c15] at H
        have c15b0 : decide (0 ≤ x53_1) = true := decide_eq_true c15
        clear c15
        by_cases c16 : x53_1 < (t118.length : Int); rotate_left
        · rw [if_neg c16] at H; exact absurd H (by simp)
        rw [if_pos c16] at H
        have c16b0 : decide (x53_1 < (t118.length : Int)) = true := decide_eq_true c16
        clear c16
        replace H := Option.bind_eq_some_iff.mp H
        obtain ⟨t127, A170, H⟩ := H
        replace H : (if t127 = true then (if 0 < ((rd_L7 t118 x53_1).length : Int) then (if 0 ≤ (rd (rd_L7 t118 x53_1) 0) then (if (rd (rd_L7 t118 x53_1) 0) < (l1.length : Int) then (if 0 ≤ ((rd_T36 l1 (rd (rd_L7 t118 x53_1) 0)).f1) then (if ((rd_T36 l1 (rd (rd_L7 t118 x53_1) 0)).f1) < (t117.length : Int) then (if (!(((rd_T23 t117 ((rd_T36 l1 (rd (rd_L7 t118 x53_1) 0)).f1)).f0) == 0) || (!(((rd_T23 t117 ((rd_T36 l1 (rd (rd_L7 t118 x53_1) 0)).f1)).f1) == 0) || (!((((rd_T23 t117 ((rd_T36 l1 (rd (rd_L7 t118 x53_1) 0)).f1)).f2).toList) == ([] : List UInt8))))) = true then (some false) else (assessorlaw09_ConstraintsChains.l1 k1 a0 l1 t117 (rd_L7 t118 x53_1) ([] : List (S36)) t118 (t118.length : Int) x53_1 (rd_L7 t118 x53_1) ((rd_L7 t118 x53_1).length : Int) 0)) else (none)) else (none)) else (none)) else (none)) else (none)) else (some false)) = some r := H
        have A17 := Aside0.mk A170
        clear A170
        by_cases c18 : t127 = true
        ·
         subst c18
         have H1 : (if 0 < ((rd_L7 t118 x53_1).length : Int) then (if 0 ≤ (rd (rd_L7 t118 x53_1) 0) then (if (rd (rd_L7 t118 x53_1) 0) < (l1.length : Int) then (if 0 ≤ ((rd_T36 l1 (rd (rd_L7 t118 x53_1) 0)).f1) then (if ((rd_T36 l1 (rd (rd_L7 t118 x53_1) 0)).f1) < (t117.length : Int) then (if (!(((rd_T23 t117 ((rd_T36 l1 (rd (rd_L7 t118 x53_1) 0)).f1)).f0) == 0) || (!(((rd_T23 t117 ((rd_T36 l1 (rd (rd_L7 t118 x53_1) 0)).f1)).f1) == 0) || (!((((rd_T23 t117 ((rd_T36 l1 (rd (rd_L7 t118 x53_1) 0)).f1)).f2).toList) == ([] : List UInt8))))) = true then (some false) else (assessorlaw09_ConstraintsChains.l1 k1 a0 l1 t117 (rd_L7 t118 x53_1) ([] : List (S36)) t118 (t118.length : Int) x53_1 (rd_L7 t118 x53_1) ((rd_L7 t118 x53_1).length : Int) 0)) else (none)) else (none)) else (none)) else (none)) else (none)) = some r := by rw [if_pos rfl] at H; exact H
         clear H
         have H := H1
         clear H1
         by_cases c19 : 0 < ((rd_L7 t118 x53_1).length : Int); rotate_left
         · rw [if_neg c19] at H; exact absurd H (by simp)
         rw [if_pos c19] at H
         have c19b0 : decide (0 < ((rd_L7 t118 x53_1).length : Int)) = true := decide_eq_true c19
         have c19b1 : decide (0 < (rd_L7 t118 x53_1).length) = true := decide_eq_true (by omega)
         clear c19
         by_cases c20 : 0 ≤ (rd (rd_L7 t118 x53_1) 0); rotate_left
         · rw [if_neg c20] at H; exact absurd H (by simp)
         rw [if_pos c20] at H
         have c20b0 : decide (0 ≤ (rd (rd_L7 t118 x53_1) 0)) = true := decide_eq_true c20
         clear c20
         by_cases c21 : (rd (rd_L7 t118 x53_1) 0) < (l1.length : Int); rotate_left
         · rw [if_neg c21] at H; exact absurd H (by simp)
         rw [if_pos c21] at H
         have c21b0 : decide ((rd (rd_L7 t118 x53_1) 0) < (l1.length : Int)) = true := decide_eq_true c21
         clear c21
         by_cases c22 : 0 ≤ ((rd_T36 l1 (rd (rd_L7 t118 x53_1) 0)).f1); rotate_left
         · rw [if_neg c22] at H; exact absurd H (by simp)
         rw [if_pos c22] at H
         have c22b0 : decide (0 ≤ ((rd_T36 l1 (rd (rd_L7 t118 x53_1) 0)).f1)) = true := decide_eq_true c22
         clear c22
         by_cases c23 : ((rd_T36 l1 (rd (rd_L7 t118 x53_1) 0)).f1) < (t117.length : Int); rotate_left
         · rw [if_neg c23] at H; exact absurd H (by simp)
         rw [if_pos c23] at H
         have c23b0 : decide (((rd_T36 l1 (rd (rd_L7 t118 x53_1) 0)).f1) < (t117.length : Int)) = true := decide_eq_true c23
         clear c23
         by_cases c24 : (!(((rd_T23 t117 ((rd_T36 l1 (rd (rd_L7 t118 x53_1) 0)).f1)).f0) == 0) || (!(((rd_T23 t117 ((rd_T36 l1 (rd (rd_L7 t118 x53_1) 0)).f1)).f1) == 0) || (!((((rd_T23 t117 ((rd_T36 l1 (rd (rd_L7 t118 x53_1) 0)).f1)).f2).toList) == ([] : List UInt8))))) = true
         ·
          rw [if_pos c24] at H
          have c24b0 : (!(((rd_T23 t117 ((rd_T36 l1 (rd (rd_L7 t118 x53_1) 0)).f1)).f0) == 0) || (!(((rd_T23 t117 ((rd_T36 l1 (rd (rd_L7 t118 x53_1) 0)).f1)).f1) == 0) || (!((((rd_T23 t117 ((rd_T36 l1 (rd (rd_L7 t118 x53_1) 0)).f1)).f2).toList) == ([] : List UInt8))))) = true := c24
          have c24e0 := c24b0
          simp only [isEmpty_beq] at c24e0
          clear c24
          obtain rfl := Option.some.inj H
          exact absurd HTru_.out (by decide)
         ·
          rw [if_neg c24] at H
          have c24b0 : (!(((rd_T23 t117 ((rd_T36 l1 (rd (rd_L7 t118 x53_1) 0)).f1)).f0) == 0) || (!(((rd_T23 t117 ((rd_T36 l1 (rd (rd_L7 t118 x53_1) 0)).f1)).f1) == 0) || (!((((rd_T23 t117 ((rd_T36 l1 (rd (rd_L7 t118 x53_1) 0)).f1)).f2).toList) == ([] : List UInt8))))) = false := by simpa using c24
          have c24e0 := c24b0
          simp only [isEmpty_beq] at c24e0
          clear c24
          have H' := Aside0.mk H
          clear H
          have p126 : 0 ≤ (x53_1 : Int) := of_decide_eq_true (by first | (with_reducible assumption) | assumption)
          have q126 : x53_1 < (t118.length : Int) := of_decide_eq_true (by first | (with_reducible assumption) | assumption)
          obtain ⟨ad126, A126_0, c126_0, e126, hx126_0, hl126_0, hi126_0⟩ := at_L7 (Kd.R_reads' HO_51.out).2.2 x53_1 p126 q126
          cases e126
          obtain ⟨ce126, hce126, hMe126, hcc126⟩ := Kd.R_get HO_51.out [] x53_1 p126 (by first | exact q126 | exact of_decide_eq_true (by first | (with_reducible assumption) | assumption) | (have e_ := (Kd.R_reads' HO_51.out).1; omega))
          obtain ⟨ve126_0, rfl, ge126_0⟩ := hMe126
          have hv126_0 := hcc126 0 _ rfl
          rw [Nat.add_zero, show ((Kd.slice 3 (Kd.int .i64))).sz = 1 from rfl, Nat.mul_one] at hv126_0
          replace hv126_0 := Option.some.inj (hv126_0.symm.trans hx126_0)
          rw [hv126_0] at ge126_0
          have HL126_0 := Aside0.mk (show Kd.R (Kd.int .i64) 3 _ _ _ _ (rd_L7 t118 x53_1) from ge126_0)
          clear hv126_0 ge126_0
          clear hcc126 hce126
          have HR126_0 := Aside0.mk hi126_0
          have HC126_0 := Aside0.mk hl126_0
          clear hi126_0 hl126_0
          replace p126 := eq_true p126
          replace q126 := eq_true q126
          go_wp2_with (first | ((with_reducible refine gate_callee (f := 14) rfl ?_); refine goesL_ (some 59) rfl rfl Try.func14 (by kernel_rfl) rfl #[.slice A1 l1.length c1, .slice A126_0 (rd_L7 t118 x53_1).length c126_0] rfl (by (try simp only [List.map_toArray, List.map_cons, List.map_nil]); first | done | rfl | (simp only [List.length_drop, List.length_take]; rfl)) ?_; (with_reducible refine (assessorlaw09_isChain.calls _ _ l1 _ _ (rd_L7 t118 x53_1) true _ ?side1 ?side2 ?side3 ?side4 A17.out).mono ?_); (case side1 => repeat (first | exact (Kd.C_below HR1.out HB.out) | (with_reducible refine Kd.C_alloc ?_ _) | (with_reducible refine Kd.C_drewN ?_ _) | (with_reducible refine Kd.C_drew ?_))); (case side2 => exact HC1.out); (case side3 => repeat (first | exact (by repeat (first | (with_reducible exact HR126_0.out) | (with_reducible refine Kd.C_alloc ?_ _) | (with_reducible refine Kd.C_drewN ?_ _) | (with_reducible refine Kd.C_drew ?_) | exact HR126_0.out)) | (with_reducible refine Kd.C_alloc ?_ _) | (with_reducible refine Kd.C_drewN ?_ _) | (with_reducible refine Kd.C_drew ?_))); (case side4 => exact HC126_0.out); rintro e w25 ⟨rfl, hb⟩; refine ⟨_, rfl, ?_⟩; have n0_ := Aside0.mk (Kd.R_below (by (with_reducible repeat (first | apply Kd.R_alloc | apply Kd.R_drewN | apply Kd.R_drew)); exact HO_5.out) hb); have n1_ := Aside0.mk (Kd.R_below (by (with_reducible repeat (first | apply Kd.R_alloc | apply Kd.R_drewN | apply Kd.R_drew)); exact HO_51.out) hb); have n2_ := Aside0.mk (Kd.R_below (by (with_reducible repeat (first | apply Kd.R_alloc | apply Kd.R_drewN | apply Kd.R_drew)); exact HL126_0.out) hb); have n3_ := Aside0.mk (Kd.C_below (by repeat (first | (with_reducible exact HR126_0.out) | (with_reducible refine Kd.C_alloc ?_ _) | (with_reducible refine Kd.C_drewN ?_ _) | (with_reducible refine Kd.C_drew ?_) | exact HR126_0.out)) hb); have n4_ := Aside0.mk (below_step (by repeat (first | (with_reducible first | exact HB.out | apply below_alloc | apply pw_below_drewN | apply below_drew1) | exact HB.out)) hb); clear HO_5; clear HO_51; clear HL126_0; clear HR126_0; clear HB; have HO_5 := n0_; have HO_51 := n1_; have HL126_0 := n2_; have HR126_0 := n3_; have HB := n4_; clear n0_ n1_ n2_ n3_ n4_; (try clear hb); (try clear hb2); (try clear hk); (try clear hi); have p128 : 0 ≤ (0 : Int) := (by omega); have q128 : 0 < ((rd_L7 t118 x53_1).length : Int) := of_decide_eq_true (by first | (with_reducible assumption) | assumption); obtain ⟨ad128, e128, hx128_0⟩ := Kd.at_int (by repeat (first | (with_reducible exact HR126_0.out) | (with_reducible refine Kd.C_alloc ?_ _) | (with_reducible refine Kd.C_drewN ?_ _) | (with_reducible refine Kd.C_drew ?_) | exact HR126_0.out)) 0 p128 q128; cases e128; have qi128 : (0 < (rd_L7 t118 x53_1).length) = True := eq_true (by omega); (try rw [show ((0 : Int)).toNat = 0 from rfl] at hx128_0); (try rw [Addr.add_zero'] at hx128_0); replace p128 := eq_true p128; replace q128 := eq_true q128; have p129 : 0 ≤ ((rd (rd_L7 t118 x53_1) 0) : Int) := of_decide_eq_true (by first | (with_reducible assumption) | assumption); have q129 : (rd (rd_L7 t118 x53_1) 0) < (l1.length : Int) := of_decide_eq_true (by first | (with_reducible assumption) | assumption); obtain ⟨ad129, e129, hx129_0, hx129_1, hx129_2, hx129_3, hx129_4, hx129_5, hx129_6, hx129_7⟩ := at_T36 HR1.out (rd (rd_L7 t118 x53_1) 0) p129 q129; cases e129; replace hx129_0 := (HB.out.cell (World.block_lt_of_cell? w _ hx129_0)).trans hx129_0; replace hx129_1 := (HB.out.cell (World.block_lt_of_cell? w _ hx129_1)).trans hx129_1; replace hx129_2 := (HB.out.cell (World.block_lt_of_cell? w _ hx129_2)).trans hx129_2; replace hx129_3 := (HB.out.cell (World.block_lt_of_cell? w _ hx129_3)).trans hx129_3; replace hx129_4 := (HB.out.cell (World.block_lt_of_cell? w _ hx129_4)).trans hx129_4; replace hx129_5 := (HB.out.cell (World.block_lt_of_cell? w _ hx129_5)).trans hx129_5; replace hx129_6 := (HB.out.cell (World.block_lt_of_cell? w _ hx129_6)).trans hx129_6; replace hx129_7 := (HB.out.cell (World.block_lt_of_cell? w _ hx129_7)).trans hx129_7; replace p129 := eq_true p129; replace q129 := eq_true q129; have p130 : 0 ≤ (((rd_T36 l1 (rd (rd_L7 t118 x53_1) 0)).f1) : Int) := of_decide_eq_true (by first | (with_reducible assumption) | assumption); have q130 : ((rd_T36 l1 (rd (rd_L7 t118 x53_1) 0)).f1) < (t117.length : Int) := of_decide_eq_true (by first | (with_reducible assumption) | assumption); obtain ⟨ad130, e130, hx130_0, hx130_1, hx130_2⟩ := at_T23 (Kd.R_reads' HO_5.out).2.2 ((rd_T36 l1 (rd (rd_L7 t118 x53_1) 0)).f1) p130 q130; cases e130; replace p130 := eq_true p130; replace q130 := eq_true q130))
          go_loopg [10, 77] k1 (fun kq v10 v77 w' => ∃ (x10_2 : List (S36)) (x77_2 : Int), v77 = .int .i64 x77_2 ∧ Aside0 (assessorlaw09_ConstraintsChains.l1 kq a0 l1 t117 (rd_L7 t118 x53_1) x10_2 t118 (t118.length : Int) x53_1 (rd_L7 t118 x53_1) ((rd_L7 t118 x53_1).length : Int) x77_2 = some r) ∧ Aside0 (kq ≤ k1) ∧ Aside0 (Kd.R k23 23 w' w.heap.size (fun _ => True) (.slice (some ad130) t117.length co12) t117) ∧ Aside0 (Kd.R k36 36 w' w.heap.size (fun _ => True) v10 x10_2) ∧ Aside0 (Kd.R (Kd.slice 3 (Kd.int .i64)) 33 w' w.heap.size (fun _ => True) (.slice (some ad126) t118.length co13) t118) ∧ Aside0 (∃ b_ ok_, Kd.R (Kd.int .i64) 3 w' b_ ok_ (.slice (some ad128) (rd_L7 t118 x53_1).length c126_0) (rd_L7 t118 x53_1)) ∧ Aside0 (Below w.heap.size w w'))
          case atStart => exact ⟨(([] : List (S36))), (0), (by first | rfl | (simp; done) | (simp [*]; done)), H', ⟨Nat.le_refl _⟩, ⟨by (with_reducible repeat (first | apply Kd.R_alloc | apply Kd.R_drewN | apply Kd.R_drew)); exact HO_5.out⟩, ⟨by first | exact Kd.R_nil _ _ _ _ _ | exact Kd.N_nil _ _ _ _ _ | exact Kd.V_nil _ _ _ _ _ | exact Kd.Q_nil _ _ _ _ _ | exact Kd.S_nil _ _ _ _ _⟩, ⟨by (with_reducible repeat (first | apply Kd.R_alloc | apply Kd.R_drewN | apply Kd.R_drew)); exact HO_51.out⟩, ⟨⟨_, _, HL126_0.out⟩⟩, ⟨by repeat (first | (with_reducible first | exact HB.out | apply below_alloc | apply pw_below_drewN | apply below_drew1) | exact HB.out)⟩⟩
          case round =>
           clear H'
           try clear c1
           try clear p1
           try clear q1
           try clear hx1
           try clear qi1
           try clear c2
           try clear p2
           try clear c4
           try clear p6
           try clear c7
           try clear c7b0
           try clear c7b1
           try clear c7b2
           try clear c8
           try clear c8b0
           try clear c8b1
           try clear c9
           try clear c9b0
           try clear c9b1
           try clear c11
           try clear c12
           try clear p12
           try clear q12
           try clear hx12
           try clear qi12
           try clear c13
           try clear p13
           try clear q13
           try clear hx13
           try clear c14
           try clear c14b0
           try clear c15
           try clear c15b0
           try clear c16
           try clear c16b0
           try clear c18
           try clear c19
           try clear c19b0
           try clear c19b1
           try clear c20
           try clear c20b0
           try clear c21
           try clear c21b0
           try clear c22
           try clear c22b0
           try clear c23
           try clear c23b0
           try clear c24
           try clear c24b0
           try clear hx126_0
           try clear hx128_0
           try clear hx129_0
           try clear hx129_1
           try clear hx129_2
           try clear hx129_3
           try clear hx129_4
           try clear hx129_5
           try clear hx129_6
           try clear hx129_7
           try clear hx130_0
           try clear hx130_1
           try clear hx130_2
           try clear p126
           try clear p128
           try clear p129
           try clear p130
           try clear p2
           try clear p6
           try clear q126
           try clear q128
           try clear q129
           try clear q130
           obtain ⟨x10_2, x77_2, rfl, HA, HK2, HO_5, HO_10, HO_51, HLx, HB⟩ := hrel
           obtain ⟨b_, ok_, hl126⟩ := HLx.out
           have HR126_1 := Aside0.mk (Kd.R_reads' hl126).2.2
           have HL126_1 := Aside0.mk hl126
           clear hl126 HLx
           cases gk with
           | zero => exact absurd HA.out (by simp [assessorlaw09_ConstraintsChains.l1])
           | succ k2 =>
            have H := HA.out
            clear HA
            simp only [assessorlaw09_ConstraintsChains.l1] at H
            by_cases c26 : x77_2 < ((rd_L7 t118 x53_1).length : Int)
            ·
             rw [if_pos c26] at H
             have c26b0 : decide (x77_2 < ((rd_L7 t118 x53_1).length : Int)) = true := decide_eq_true c26
             clear c26
             by_cases c27 : 0 ≤ x77_2; rotate_left
             · rw [if_neg c27] at H; exact absurd H (by simp)
             rw [if_pos c27] at H
             have c27b0 : decide (0 ≤ x77_2) = true := decide_eq_true c27
             clear c27
             by_cases c28 : x77_2 < ((rd_L7 t118 x53_1).length : Int); rotate_left
             · rw [if_neg c28] at H; exact absurd H (by simp)
             rw [if_pos c28] at H
             have c28b0 : decide (x77_2 < ((rd_L7 t118 x53_1).length : Int)) = true := decide_eq_true c28
             clear c28
             by_cases c29 : 0 ≤ (rd (rd_L7 t118 x53_1) x77_2); rotate_left
             · rw [if_neg c29] at H; exact absurd H (by simp)
             rw [if_pos c29] at H
             have c29b0 : decide (0 ≤ (rd (rd_L7 t118 x53_1) x77_2)) = true := decide_eq_true c29
             clear c29
             by_cases c30 : (rd (rd_L7 t118 x53_1) x77_2) < (l1.length : Int); rotate_left
             · rw [if_neg c30] at H; exact absurd H (by simp)
             rw [if_pos c30] at H
             have c30b0 : decide ((rd (rd_L7 t118 x53_1) x77_2) < (l1.length : Int)) = true := decide_eq_true c30
             clear c30
             by_cases c31 : x10_2.length < 1954687338268; rotate_left
             · rw [if_neg c31] at H; exact absurd H (by simp)
             rw [if_pos c31] at H
             have LMc31 := Aside0.mk c31
             clear c31
             obtain ⟨y133, hy133⟩ : ∃ y_ : List (S36), y_ = (x10_2 ++ [(⟨(rd_T36 l1 (rd (rd_L7 t118 x53_1) x77_2)).f0, (rd_T36 l1 (rd (rd_L7 t118 x53_1) x77_2)).f1, (rd_T36 l1 (rd (rd_L7 t118 x53_1) x77_2)).f2, (⟨(rd_T36 l1 (rd (rd_L7 t118 x53_1) x77_2)).f3.f0, (rd_T36 l1 (rd (rd_L7 t118 x53_1) x77_2)).f3.f1, (rd_T36 l1 (rd (rd_L7 t118 x53_1) x77_2)).f3.f2⟩ : S23), (rd_T36 l1 (rd (rd_L7 t118 x53_1) x77_2)).f4, (rd_T36 l1 (rd (rd_L7 t118 x53_1) x77_2)).f5⟩ : S36)]) := ⟨_, rfl⟩
             replace H : (assessorlaw09_ConstraintsChains.l1 k2 a0 l1 t117 (rd_L7 t118 x53_1) y133 t118 (t118.length : Int) x53_1 (rd_L7 t118 x53_1) ((rd_L7 t118 x53_1).length : Int) (wrap64 (x77_2 + 1))) = some r := by first | (rw [hy133]; with_reducible exact H) | (have H2_ := (Option.bind_some _ _).symm.trans H; rw [hy133]; with_reducible exact H2_) | (have H2_ := (Option.bind_some _ _).symm.trans H; with_reducible exact H2_) | with_reducible exact H | (rw [hy133]; exact H) | exact H
             have Ny133 := Aside0.mk hy133
             clear hy133
             have H' := Aside0.mk H
             clear H
             have p131 : 0 ≤ (x77_2 : Int) := of_decide_eq_true (by first | (with_reducible assumption) | assumption)
             have q131 : x77_2 < ((rd_L7 t118 x53_1).length : Int) := of_decide_eq_true (by first | (with_reducible assumption) | assumption)
             obtain ⟨ad131, e131, hx131_0⟩ := Kd.at_int HR126_1.out x77_2 p131 q131
             obtain rfl : ad128 = ad131 := (by injection e131)
             skip
             replace p131 := eq_true p131
             replace q131 := eq_true q131
             have p132 : 0 ≤ ((rd (rd_L7 t118 x53_1) x77_2) : Int) := of_decide_eq_true (by first | (with_reducible assumption) | assumption)
             have q132 : (rd (rd_L7 t118 x53_1) x77_2) < (l1.length : Int) := of_decide_eq_true (by first | (with_reducible assumption) | assumption)
             obtain ⟨ad132, e132, hx132_0, hx132_1, hx132_2, hx132_3, hx132_4, hx132_5, hx132_6, hx132_7⟩ := at_T36 HR1.out (rd (rd_L7 t118 x53_1) x77_2) p132 q132
             obtain rfl : ad129 = ad132 := (by injection e132)
             replace hx132_0 := (HB.out.cell (World.block_lt_of_cell? w _ hx132_0)).trans hx132_0
             replace hx132_1 := (HB.out.cell (World.block_lt_of_cell? w _ hx132_1)).trans hx132_1
             replace hx132_2 := (HB.out.cell (World.block_lt_of_cell? w _ hx132_2)).trans hx132_2
             replace hx132_3 := (HB.out.cell (World.block_lt_of_cell? w _ hx132_3)).trans hx132_3
             replace hx132_4 := (HB.out.cell (World.block_lt_of_cell? w _ hx132_4)).trans hx132_4
             replace hx132_5 := (HB.out.cell (World.block_lt_of_cell? w _ hx132_5)).trans hx132_5
             replace hx132_6 := (HB.out.cell (World.block_lt_of_cell? w _ hx132_6)).trans hx132_6
             replace hx132_7 := (HB.out.cell (World.block_lt_of_cell? w _ hx132_7)).trans hx132_7
             replace p132 := eq_true p132
             replace q132 := eq_true q132
             go_wp2_with (first | ((with_reducible refine gate_builtin (b := .append) (xs := #[.tmp 81, .tmp 86]) rfl ?_); (try (refine gate_guard (by rfl) ?_; dsimp only)); at_builtin; refine Kd.R_append k36 (w0 := w) w.heap.size rfl (.tmp 81) (.tmp 86) 26 36 (.agg #[(.int .i64 0), (.int .i64 0), (.int .i64 0), (.int .i64 0), (.int .i64 0), (.string ⟨#[]⟩), (.int .i64 0), (.int .i64 0)]) 72 rfl Try.underlying26 info36 rfl (by decide) (by omega) u10 x10_2 (⟨(rd_T36 l1 (rd (rd_L7 t118 x53_1) x77_2)).f0, (rd_T36 l1 (rd (rd_L7 t118 x53_1) x77_2)).f1, (rd_T36 l1 (rd (rd_L7 t118 x53_1) x77_2)).f2, (⟨(rd_T36 l1 (rd (rd_L7 t118 x53_1) x77_2)).f3.f0, (rd_T36 l1 (rd (rd_L7 t118 x53_1) x77_2)).f3.f1, (rd_T36 l1 (rd (rd_L7 t118 x53_1) x77_2)).f3.f2⟩ : S23), (rd_T36 l1 (rd (rd_L7 t118 x53_1) x77_2)).f4, (rd_T36 l1 (rd (rd_L7 t118 x53_1) x77_2)).f5⟩ : S36) [.int .i64 ((rd_T36 l1 (rd (rd_L7 t118 x53_1) x77_2)).f0), .int .i64 ((rd_T36 l1 (rd (rd_L7 t118 x53_1) x77_2)).f1), .int .i64 ((rd_T36 l1 (rd (rd_L7 t118 x53_1) x77_2)).f2), .int .i64 ((rd_T36 l1 (rd (rd_L7 t118 x53_1) x77_2)).f3.f0), .int .i64 ((rd_T36 l1 (rd (rd_L7 t118 x53_1) x77_2)).f3.f1), .string ((rd_T36 l1 (rd (rd_L7 t118 x53_1) x77_2)).f3.f2), .int .i64 ((rd_T36 l1 (rd (rd_L7 t118 x53_1) x77_2)).f4), .int .i64 ((rd_T36 l1 (rd (rd_L7 t118 x53_1) x77_2)).f5)] (fun _ => True) (fun _ => False) rfl rfl ?aP (fun _ hk => hk.elim) ?aF ?aO ?aB ?aS ?aL ?_; (case aP => exact k36_mkM _ _ _ (⟨(rd_T36 l1 (rd (rd_L7 t118 x53_1) x77_2)).f0, (rd_T36 l1 (rd (rd_L7 t118 x53_1) x77_2)).f1, (rd_T36 l1 (rd (rd_L7 t118 x53_1) x77_2)).f2, (⟨(rd_T36 l1 (rd (rd_L7 t118 x53_1) x77_2)).f3.f0, (rd_T36 l1 (rd (rd_L7 t118 x53_1) x77_2)).f3.f1, (rd_T36 l1 (rd (rd_L7 t118 x53_1) x77_2)).f3.f2⟩ : S23), (rd_T36 l1 (rd (rd_L7 t118 x53_1) x77_2)).f4, (rd_T36 l1 (rd (rd_L7 t118 x53_1) x77_2)).f5⟩ : S36)); (case aB => exact (by repeat (first | (with_reducible first | exact HB.out | apply below_alloc | apply pw_below_drewN | apply below_drew1) | exact HB.out))); (case aF => exact (fun _ _ => trivial)); (case aO => exact (by (with_reducible repeat (first | apply Kd.R_alloc | apply Kd.R_drewN | apply Kd.R_drew)); exact HO_10.out)); (case aS => exact (below_size (by repeat (first | (with_reducible first | exact HB.out | apply below_alloc | apply pw_below_drewN | apply below_drew1) | exact HB.out)))); (case aL => have := LMc31.out; omega); intro v134 w32 ho hb hg hat; rw [← Ny133.out] at ho; have n0_ := Aside0.mk (Kd.R_over' (by (with_reducible repeat (first | apply Kd.R_alloc | apply Kd.R_drewN | apply Kd.R_drew)); exact HO_5.out) (Kd.R_typed (by (with_reducible repeat (first | apply Kd.R_alloc | apply Kd.R_drewN | apply Kd.R_drew)); exact HO_10.out)) (by decide) hg); have n1_ := Aside0.mk (Kd.R_over' (by (with_reducible repeat (first | apply Kd.R_alloc | apply Kd.R_drewN | apply Kd.R_drew)); exact HO_51.out) (Kd.R_typed (by (with_reducible repeat (first | apply Kd.R_alloc | apply Kd.R_drewN | apply Kd.R_drew)); exact HO_10.out)) (by decide) hg); have n2_ := Aside0.mk (hb); have n3_ := Aside0.mk (ho); have n4_ := Aside0.mk (Kd.R_over' (by (with_reducible repeat (first | apply Kd.R_alloc | apply Kd.R_drewN | apply Kd.R_drew)); exact HL126_1.out) (Kd.R_typed (by (with_reducible repeat (first | apply Kd.R_alloc | apply Kd.R_drewN | apply Kd.R_drew)); exact HO_10.out)) (by decide) hg); clear HL126_1; clear HR126_1; have HL126_1 := n4_; clear n4_; clear HO_5; clear HO_51; clear HB; clear HO_10; have HO_5 := n0_; have HO_51 := n1_; have HB := n2_; have HO135 := n3_; clear n0_ n1_ n2_ n3_; clear ho hb hg hat))
             go_roundg k2
             case measure => have := HK1.out; have := HK2.out; omega
             case rel => exact ⟨(y133), (wrap64 (x77_2 + 1)), (by first | rfl | (simp; done) | (simp [*]; done)), H', ⟨by have := HK1.out; have := HK2.out; omega⟩, ⟨by (with_reducible repeat (first | apply Kd.R_alloc | apply Kd.R_drewN | apply Kd.R_drew)); exact HO_5.out⟩, ⟨by (with_reducible repeat (first | apply Kd.R_alloc | apply Kd.R_drewN | apply Kd.R_drew)); exact HO135.out⟩, ⟨by (with_reducible repeat (first | apply Kd.R_alloc | apply Kd.R_drewN | apply Kd.R_drew)); exact HO_51.out⟩, ⟨⟨_, _, (by (with_reducible repeat (first | apply Kd.R_alloc | apply Kd.R_drewN | apply Kd.R_drew)); exact HL126_1.out)⟩⟩, ⟨by repeat (first | (with_reducible first | exact HB.out | apply below_alloc | apply pw_below_drewN | apply below_drew1) | exact HB.out)⟩⟩
            ·
             rw [if_neg c26] at H
             have c26b0 : decide (x77_2 < ((rd_L7 t118 x53_1).length : Int)) = false := decide_eq_false c26
             clear c26
             replace H := Option.bind_eq_some_iff.mp H
             obtain ⟨⟨t136, t137, t138⟩, A330, H⟩ := H
             replace H : (if t138 = 0 then (if (t137.length : Int) = 1 then (if 0 < (t137.length : Int) then (if ((rd_L7 t137 0).length : Int) = ((rd_L7 t118 x53_1).length : Int) then (assessorlaw09_ConstraintsChains.l0 k2 a0 l1 t117 t118 (t118.length : Int) (wrap64 (x53_1 + 1))) else (some false)) else (none)) else (some false)) else (some false)) = some r := H
             have A33 := Aside0.mk A330
             clear A330
             by_cases c34 : t138 = 0
             ·
              rw [if_pos c34] at H
              have c34b0 : (t138 == 0) = true := beq_iff_eq.mpr c34
              have c34b1 : (t138 != 0) = false := bne_eq_false_iff_eq.mpr c34
              clear c34
              by_cases c35 : (t137.length : Int) = 1
              ·
               rw [if_pos c35] at H
               have c35b0 : ((t137.length : Int) == 1) = true := beq_iff_eq.mpr c35
               have c35b1 : ((t137.length : Int) != 1) = false := bne_eq_false_iff_eq.mpr c35
               clear c35
               by_cases c36 : 0 < (t137.length : Int); rotate_left
               · rw [if_neg c36] at H; exact absurd H (by simp)
               rw [if_pos c36] at H
               have c36b0 : decide (0 < (t137.length : Int)) = true := decide_eq_true c36
               have c36b1 : decide (0 < t137.length) = true := decide_eq_true (by omega)
               clear c36
               by_cases c37 : ((rd_L7 t137 0).length : Int) = ((rd_L7 t118 x53_1).length : Int)
               ·
                rw [if_pos c37] at H
                have c37b0 : (((rd_L7 t137 0).length : Int) == ((rd_L7 t118 x53_1).length : Int)) = true := beq_iff_eq.mpr c37
                have c37b1 : (((rd_L7 t137 0).length : Int) != ((rd_L7 t118 x53_1).length : Int)) = false := bne_eq_false_iff_eq.mpr c37
                have c37b2 : ((rd_L7 t137 0).length == (rd_L7 t118 x53_1).length) = true := by first | simpa using c37 | (simp at c37 ⊢; omega)
                clear c37
                have H' := Aside0.mk H
                clear H
                obtain ⟨Ao38, co38, eo38⟩ := Kd.R_slice HO_10.out
                subst eo38
                go_wp2_with (first | ((with_reducible refine gate_callee (f := 12) rfl ?_); refine goesL_ (some 92) rfl rfl Try.func12 (by kernel_rfl) rfl #[.int .i64 a0, .slice Ao38 x10_2.length co38] rfl (by (try simp only [List.map_toArray, List.map_cons, List.map_nil]); first | done | rfl | (simp only [List.length_drop, List.length_take]; rfl)) ?_; (with_reducible refine (constraints_Solve.calls a0 _ _ x10_2 t136 t137 t138 _ ?side1 ?side2 A33.out).mono ?_); (case side1 => repeat (first | exact (Kd.R_reads' HO_10.out).2.2 | (with_reducible refine Kd.C_alloc ?_ _) | (with_reducible refine Kd.C_drewN ?_ _) | (with_reducible refine Kd.C_drew ?_))); (case side2 => exact (Kd.R_reads' HO_10.out).2.1); rintro e w39 ⟨v139, v141, rfl, ho0, ho1, hb⟩; refine ⟨_, rfl, ?_⟩; have n0_ := Aside0.mk (Kd.R_elder' (by (with_reducible repeat (first | apply Kd.R_alloc | apply Kd.R_drewN | apply Kd.R_drew)); exact HO_5.out) (Kd.R_base ho0) hb); have n1_ := Aside0.mk (Kd.R_below (by (with_reducible repeat (first | apply Kd.R_alloc | apply Kd.R_drewN | apply Kd.R_drew)); exact HO_10.out) hb); have n2_ := Aside0.mk (Kd.R_elder' (by (with_reducible repeat (first | apply Kd.R_alloc | apply Kd.R_drewN | apply Kd.R_drew)); exact HO_51.out) (Kd.R_base ho1) hb); have n3_ := Aside0.mk (Kd.R_lower (Kd.R_new' ho0 (Kd.R_lt (by (with_reducible repeat (first | apply Kd.R_alloc | apply Kd.R_drewN | apply Kd.R_drew)); exact HO_5.out))) (below_size (by repeat (first | (with_reducible first | exact HB.out | apply below_alloc | apply pw_below_drewN | apply below_drew1) | exact HB.out)))); have n4_ := Aside0.mk (Kd.R_lower (Kd.R_new' ho1 (Kd.R_lt (by (with_reducible repeat (first | apply Kd.R_alloc | apply Kd.R_drewN | apply Kd.R_drew)); exact HO_51.out))) (below_size (by repeat (first | (with_reducible first | exact HB.out | apply below_alloc | apply pw_below_drewN | apply below_drew1) | exact HB.out)))); have n5_ := Aside0.mk (below_step (by repeat (first | (with_reducible first | exact HB.out | apply below_alloc | apply pw_below_drewN | apply below_drew1) | exact HB.out)) hb); clear HO_5; clear HO_10; clear HO_51; clear HB; have HO_5 := n0_; have HO_10 := n1_; have HO_51 := n2_; have HO140 := n3_; have HO142 := n4_; have HB := n5_; clear n0_ n1_ n2_ n3_ n4_ n5_; (try clear hb); (try clear hb2); (try clear hk); (try clear hi); (try clear ho0); (try clear ho1); obtain ⟨Ao40, co40, eo40⟩ := Kd.R_slice HO142.out; subst eo40; have p143 : 0 ≤ (0 : Int) := (by omega); have q143 : 0 < (t137.length : Int) := of_decide_eq_true (by first | (with_reducible assumption) | assumption); obtain ⟨ad143, A143_0, c143_0, e143, hx143_0, hl143_0, hi143_0⟩ := at_L7 (Kd.R_reads' HO142.out).2.2 0 p143 q143; cases e143; obtain ⟨ce143, hce143, hMe143, hcc143⟩ := Kd.R_get HO142.out [] 0 p143 (by first | exact q143 | exact of_decide_eq_true (by first | (with_reducible assumption) | assumption) | (have e_ := (Kd.R_reads' HO142.out).1; omega)); obtain ⟨ve143_0, rfl, ge143_0⟩ := hMe143; have hv143_0 := hcc143 0 _ rfl; rw [Nat.add_zero, show ((Kd.slice 3 (Kd.int .i64))).sz = 1 from rfl, Nat.mul_one] at hv143_0; replace hv143_0 := Option.some.inj (hv143_0.symm.trans hx143_0); rw [hv143_0] at ge143_0; have HL143_0 := Aside0.mk (show Kd.R (Kd.int .i64) 3 _ _ _ _ (rd_L7 t137 0) from ge143_0); clear hv143_0 ge143_0; clear hcc143 hce143; have qi143 : (0 < t137.length) = True := eq_true (by omega); (try rw [show ((0 : Int)).toNat = 0 from rfl] at hx143_0); (try rw [Addr.add_zero'] at hx143_0); have HR143_0 := Aside0.mk hi143_0; have HC143_0 := Aside0.mk hl143_0; clear hi143_0 hl143_0; replace p143 := eq_true p143; replace q143 := eq_true q143))
                go_roundg k2
                case measure => have := HK1.out; have := HK2.out; omega
                case rel => exact ⟨(wrap64 (x53_1 + 1)), (by first | rfl | (simp; done) | (simp [*]; done)), H', ⟨by have := HK1.out; have := HK2.out; omega⟩, ⟨by (with_reducible repeat (first | apply Kd.R_alloc | apply Kd.R_drewN | apply Kd.R_drew)); exact Kd.R_mono HO_5.out (fun _ hk => trivial)⟩, ⟨by (with_reducible repeat (first | apply Kd.R_alloc | apply Kd.R_drewN | apply Kd.R_drew)); exact Kd.R_mono HO_51.out (fun _ hk => trivial)⟩, ⟨by repeat (first | (with_reducible first | exact HB.out | apply below_alloc | apply pw_below_drewN | apply below_drew1) | exact HB.out)⟩⟩
               ·
                rw [if_neg c37] at H
                have c37b0 : (((rd_L7 t137 0).length : Int) == ((rd_L7 t118 x53_1).length : Int)) = false := beq_eq_false_iff_ne.mpr c37
                have c37b1 : (((rd_L7 t137 0).length : Int) != ((rd_L7 t118 x53_1).length : Int)) = true := bne_iff_ne.mpr c37
                have c37b2 : ((rd_L7 t137 0).length == (rd_L7 t118 x53_1).length) = false := by first | simpa using c37 | (simp at c37 ⊢; omega)
                obtain rfl := Option.some.inj H
                exact absurd HTru_.out (by decide)
              ·
               rw [if_neg c35] at H
               have c35b0 : ((t137.length : Int) == 1) = false := beq_eq_false_iff_ne.mpr c35
               have c35b1 : ((t137.length : Int) != 1) = true := bne_iff_ne.mpr c35
               obtain rfl := Option.some.inj H
               exact absurd HTru_.out (by decide)
             ·
              rw [if_neg c34] at H
              have c34b0 : (t138 == 0) = false := beq_eq_false_iff_ne.mpr c34
              have c34b1 : (t138 != 0) = true := bne_iff_ne.mpr c34
              obtain rfl := Option.some.inj H
              exact absurd HTru_.out (by decide)
        ·
         replace c18 := Bool.eq_false_iff.mpr c18
         subst c18
         have H1 : (some false) = some r := by rw [if_neg (show ¬ (false = true) by decide)] at H; exact H
         clear H
         have H := H1
         clear H1
         obtain rfl := Option.some.inj H
         exact absurd HTru_.out (by decide)
       ·
        rw [if_neg c14] at H
        have c14b0 : decide (x53_1 < (t118.length : Int)) = false := decide_eq_false c14
        clear c14
        have H' := Aside0.mk H
        clear H
        go_wp2
        go_loopg [115] k1 (fun kq v115 w' => ∃ (x115_2 : Int), v115 = .int .i64 x115_2 ∧ Aside0 (assessorlaw09_ConstraintsChains.l2 kq t117 l1 (l1.length : Int) x115_2 = some r) ∧ Aside0 (kq ≤ k1) ∧ Aside0 (Kd.R k23 23 w' w.heap.size (fun _ => True) (.slice Ao12 t117.length co12) t117) ∧ Aside0 (Below w.heap.size w w'))
        case atStart => exact ⟨(0), (by first | rfl | (simp; done) | (simp [*]; done)), H', ⟨Nat.le_refl _⟩, ⟨by (with_reducible repeat (first | apply Kd.R_alloc | apply Kd.R_drewN | apply Kd.R_drew)); exact HO_5.out⟩, ⟨by repeat (first | (with_reducible first | exact HB.out | apply below_alloc | apply pw_below_drewN | apply below_drew1) | exact HB.out)⟩⟩
        case round =>
         clear H'
         try clear c1
         try clear p1
         try clear q1
         try clear hx1
         try clear qi1
         try clear c2
         try clear p2
         try clear c3
         try clear c4
         try clear p6
         try clear c7
         try clear c7b0
         try clear c7b1
         try clear c7b2
         try clear c8
         try clear c8b0
         try clear c8b1
         try clear c9
         try clear c9b0
         try clear c9b1
         try clear c11
         try clear c12
         try clear p12
         try clear q12
         try clear hx12
         try clear qi12
         try clear c13
         try clear p13
         try clear q13
         try clear hx13
         try clear c14
         try clear c14b0
         try clear p14
         try clear q14
         try clear hx14
         try clear qi14
         try clear c15
         try clear c15b0
         try clear c16
         try clear c16b0
         try clear c18
         try clear c19
         try clear c19b0
         try clear c19b1
         try clear c20
         try clear c20b0
         try clear c21
         try clear c21b0
         try clear c22
         try clear c22b0
         try clear c23
         try clear c23b0
         try clear c24
         try clear c24b0
         try clear c26
         try clear c26b0
         try clear c27
         try clear c27b0
         try clear c28
         try clear c28b0
         try clear c29
         try clear c29b0
         try clear c30
         try clear c30b0
         try clear c31
         try clear c34
         try clear c34b0
         try clear c34b1
         try clear c35
         try clear c35b0
         try clear c35b1
         try clear c36
         try clear c36b0
         try clear c36b1
         try clear c37
         try clear c37b0
         try clear c37b1
         try clear c37b2
         try clear hx126_0
         try clear hx128_0
         try clear hx129_0
         try clear hx129_1
         try clear hx129_2
         try clear hx129_3
         try clear hx129_4
         try clear hx129_5
         try clear hx129_6
         try clear hx129_7
         try clear hx130_0
         try clear hx130_1
         try clear hx130_2
         try clear hx131_0
         try clear hx132_0
         try clear hx132_1
         try clear hx132_2
         try clear hx132_3
         try clear hx132_4
         try clear hx132_5
         try clear hx132_6
         try clear hx132_7
         try clear hx143_0
         try clear p1
         try clear p12
         try clear p126
         try clear p128
         try clear p129
         try clear p13
         try clear p130
         try clear p131
         try clear p132
         try clear p143
         try clear p2
         try clear p6
         try clear q1
         try clear q12
         try clear q126
         try clear q128
         try clear q129
         try clear q13
         try clear q130
         try clear q131
         try clear q132
         try clear q143
         obtain ⟨x115_2, rfl, HA, HK2, HO_5, HB⟩ := hrel
         cases gk with
         | zero => exact absurd HA.out (by simp [assessorlaw09_ConstraintsChains.l2])
         | succ k2 =>
          have H := HA.out
          clear HA
          simp only [assessorlaw09_ConstraintsChains.l2] at H
          by_cases c41 : x115_2 < (l1.length : Int)
          ·
           rw [if_pos c41] at H
           have c41b0 : decide (x115_2 < (l1.length : Int)) = true := decide_eq_true c41
           clear c41
           by_cases c42 : 0 ≤ x115_2; rotate_left
           · rw [if_neg c42] at H; exact absurd H (by simp)
           rw [if_pos c42] at H
           have c42b0 : decide (0 ≤ x115_2) = true := decide_eq_true c42
           clear c42
           by_cases c43 : x115_2 < (l1.length : Int); rotate_left
           · rw [if_neg c43] at H; exact absurd H (by simp)
           rw [if_pos c43] at H
           have c43b0 : decide (x115_2 < (l1.length : Int)) = true := decide_eq_true c43
           clear c43
           by_cases c44 : ((rd_T36 l1 x115_2).f0) = 1
           ·
            rw [if_pos c44] at H
            have c44b0 : (((rd_T36 l1 x115_2).f0) == 1) = true := beq_iff_eq.mpr c44
            have c44b1 : (((rd_T36 l1 x115_2).f0) != 1) = false := bne_eq_false_iff_eq.mpr c44
            clear c44
            by_cases c45 : 0 ≤ ((rd_T36 l1 x115_2).f1); rotate_left
            · rw [if_neg c45] at H; exact absurd H (by simp)
            rw [if_pos c45] at H
            have c45b0 : decide (0 ≤ ((rd_T36 l1 x115_2).f1)) = true := decide_eq_true c45
            clear c45
            by_cases c46 : ((rd_T36 l1 x115_2).f1) < (t117.length : Int); rotate_left
            · rw [if_neg c46] at H; exact absurd H (by simp)
            rw [if_pos c46] at H
            have c46b0 : decide (((rd_T36 l1 x115_2).f1) < (t117.length : Int)) = true := decide_eq_true c46
            clear c46
            by_cases c47 : 0 ≤ ((rd_T36 l1 x115_2).f2); rotate_left
            · rw [if_neg c47] at H; exact absurd H (by simp)
            rw [if_pos c47] at H
            have c47b0 : decide (0 ≤ ((rd_T36 l1 x115_2).f2)) = true := decide_eq_true c47
            clear c47
            by_cases c48 : ((rd_T36 l1 x115_2).f2) < (t117.length : Int); rotate_left
            · rw [if_neg c48] at H; exact absurd H (by simp)
            rw [if_pos c48] at H
            have c48b0 : decide (((rd_T36 l1 x115_2).f2) < (t117.length : Int)) = true := decide_eq_true c48
            clear c48
            by_cases c49 : (!(((rd_T23 t117 ((rd_T36 l1 x115_2).f1)).f0) == ((rd_T23 t117 ((rd_T36 l1 x115_2).f2)).f0)) || (!(((rd_T23 t117 ((rd_T36 l1 x115_2).f1)).f1) == ((rd_T23 t117 ((rd_T36 l1 x115_2).f2)).f1)) || (!((((rd_T23 t117 ((rd_T36 l1 x115_2).f1)).f2).toList) == (((rd_T23 t117 ((rd_T36 l1 x115_2).f2)).f2).toList))))) = true
            ·
             rw [if_pos c49] at H
             have c49b0 : (!(((rd_T23 t117 ((rd_T36 l1 x115_2).f1)).f0) == ((rd_T23 t117 ((rd_T36 l1 x115_2).f2)).f0)) || (!(((rd_T23 t117 ((rd_T36 l1 x115_2).f1)).f1) == ((rd_T23 t117 ((rd_T36 l1 x115_2).f2)).f1)) || (!((((rd_T23 t117 ((rd_T36 l1 x115_2).f1)).f2).toList) == (((rd_T23 t117 ((rd_T36 l1 x115_2).f2)).f2).toList))))) = true := c49
             clear c49
             obtain rfl := Option.some.inj H
             exact absurd HTru_.out (by decide)
            ·
             rw [if_neg c49] at H
             have c49b0 : (!(((rd_T23 t117 ((rd_T36 l1 x115_2).f1)).f0) == ((rd_T23 t117 ((rd_T36 l1 x115_2).f2)).f0)) || (!(((rd_T23 t117 ((rd_T36 l1 x115_2).f1)).f1) == ((rd_T23 t117 ((rd_T36 l1 x115_2).f2)).f1)) || (!((((rd_T23 t117 ((rd_T36 l1 x115_2).f1)).f2).toList) == (((rd_T23 t117 ((rd_T36 l1 x115_2).f2)).f2).toList))))) = false := by simpa using c49
             clear c49
             by_cases c50 : ((rd_T36 l1 x115_2).f0) = 0
             ·
              rw [if_pos c50] at H
              have c50b0 : (((rd_T36 l1 x115_2).f0) == 0) = true := beq_iff_eq.mpr c50
              have c50b1 : (((rd_T36 l1 x115_2).f0) != 0) = false := bne_eq_false_iff_eq.mpr c50
              clear c50
              by_cases c51 : (!(((rd_T23 t117 ((rd_T36 l1 x115_2).f1)).f0) == 0) || (!(((rd_T23 t117 ((rd_T36 l1 x115_2).f1)).f1) == 0) || (!((((rd_T23 t117 ((rd_T36 l1 x115_2).f1)).f2).toList) == ([] : List UInt8))))) = true
              ·
               rw [if_pos c51] at H
               have c51b0 : (!(((rd_T23 t117 ((rd_T36 l1 x115_2).f1)).f0) == 0) || (!(((rd_T23 t117 ((rd_T36 l1 x115_2).f1)).f1) == 0) || (!((((rd_T23 t117 ((rd_T36 l1 x115_2).f1)).f2).toList) == ([] : List UInt8))))) = true := c51
               have c51e0 := c51b0
               simp only [isEmpty_beq] at c51e0
               clear c51
               replace H := Option.bind_eq_some_iff.mp H
               obtain ⟨t150, A520, H⟩ := H
               replace H : (if t150 = true then (some false) else (assessorlaw09_ConstraintsChains.l2 k2 t117 l1 (l1.length : Int) (wrap64 (x115_2 + 1)))) = some r := H
               have A52 := Aside0.mk A520
               clear A520
               by_cases c53 : t150 = true
               ·
                subst c53
                have H1 : (some false) = some r := by rw [if_pos rfl] at H; exact H
                clear H
                have H := H1
                clear H1
                obtain rfl := Option.some.inj H
                exact absurd HTru_.out (by decide)
               ·
                replace c53 := Bool.eq_false_iff.mpr c53
                subst c53
                have H1 : (assessorlaw09_ConstraintsChains.l2 k2 t117 l1 (l1.length : Int) (wrap64 (x115_2 + 1))) = some r := by rw [if_neg (show ¬ (false = true) by decide)] at H; exact H
                clear H
                have H := H1
                clear H1
                have H' := Aside0.mk H
                clear H
                have p144 : 0 ≤ (x115_2 : Int) := of_decide_eq_true (by first | (with_reducible assumption) | assumption)
                have q144 : x115_2 < (l1.length : Int) := of_decide_eq_true (by first | (with_reducible assumption) | assumption)
                obtain ⟨ad144, e144, hx144_0, hx144_1, hx144_2, hx144_3, hx144_4, hx144_5, hx144_6, hx144_7⟩ := at_T36 HR1.out x115_2 p144 q144
                cases e144
                replace hx144_0 := (HB.out.cell (World.block_lt_of_cell? w _ hx144_0)).trans hx144_0
                replace hx144_1 := (HB.out.cell (World.block_lt_of_cell? w _ hx144_1)).trans hx144_1
                replace hx144_2 := (HB.out.cell (World.block_lt_of_cell? w _ hx144_2)).trans hx144_2
                replace hx144_3 := (HB.out.cell (World.block_lt_of_cell? w _ hx144_3)).trans hx144_3
                replace hx144_4 := (HB.out.cell (World.block_lt_of_cell? w _ hx144_4)).trans hx144_4
                replace hx144_5 := (HB.out.cell (World.block_lt_of_cell? w _ hx144_5)).trans hx144_5
                replace hx144_6 := (HB.out.cell (World.block_lt_of_cell? w _ hx144_6)).trans hx144_6
                replace hx144_7 := (HB.out.cell (World.block_lt_of_cell? w _ hx144_7)).trans hx144_7
                replace p144 := eq_true p144
                replace q144 := eq_true q144
                try go_wp2_with (first | ((with_reducible refine gate_dst (N := 17) rfl ?_); (try (refine gate_guard (by rfl) ?_; dsimp only)); refine box_event ?hg (N := 17) ?hd (cs := #[.int .i64 0, .int .i64 0, .int .i64 0, .int .i64 0, .int .i64 0, .string (⟨#[]⟩ : ByteArray), .int .i64 0, .int .i64 0]) (t := 36) ?hr ?_; (case hd => rfl); (case hg => rfl); (case hr => first | (go_simp; done) | (go_simp; rfl)); intro gb145 hg w54 hbox hb; have n0_ := Aside0.mk (Kd.R_below (by (with_reducible repeat (first | apply Kd.R_alloc | apply Kd.R_drewN | apply Kd.R_drew)); exact HO_5.out) hb); have n1_ := Aside0.mk (below_step (by repeat (first | (with_reducible first | exact HB.out | apply below_alloc | apply pw_below_drewN | apply below_drew1) | exact HB.out)) hb); have n2_ := Aside0.mk (hbox); have n3_ := Aside0.mk ((by rw [hg]; exact (below_size (by repeat (first | (with_reducible first | exact HB.out | apply below_alloc | apply pw_below_drewN | apply below_drew1) | exact HB.out))) : w.heap.size ≤ gb145)); have n4_ := Aside0.mk ((by rw [hg]; exact (below_size (by repeat (first | (with_reducible first | exact HB.out | apply below_alloc | apply pw_below_drewN | apply below_drew1) | exact HB.out))) : w.heap.size ≤ gb145)); clear HO_5; clear HB; have HO_5 := n0_; have HB := n1_; have BK145 := n2_; have GW145 := n3_; have GE145 := n4_; clear n0_ n1_ n2_ n3_ n4_; clear hb hbox hg; have hcz55_0 : w54.cell? ⟨gb145, 0, none⟩ = some (.int .i64 0) := (blk_cell BK145.out 0).trans rfl; have hcz55_1 : w54.cell? ⟨gb145, 1, none⟩ = some (.int .i64 0) := (blk_cell BK145.out 1).trans rfl; have hcz55_2 : w54.cell? ⟨gb145, 2, none⟩ = some (.int .i64 0) := (blk_cell BK145.out 2).trans rfl; have hcz55_3 : w54.cell? ⟨gb145, 3, none⟩ = some (.int .i64 0) := (blk_cell BK145.out 3).trans rfl; have hcz55_4 : w54.cell? ⟨gb145, 4, none⟩ = some (.int .i64 0) := (blk_cell BK145.out 4).trans rfl; have hcz55_5 : w54.cell? ⟨gb145, 5, none⟩ = some (.string (⟨#[]⟩ : ByteArray)) := (blk_cell BK145.out 5).trans rfl; have hcz55_6 : w54.cell? ⟨gb145, 6, none⟩ = some (.int .i64 0) := (blk_cell BK145.out 6).trans rfl; have hcz55_7 : w54.cell? ⟨gb145, 7, none⟩ = some (.int .i64 0) := (blk_cell BK145.out 7).trans rfl; have hfz55_0 := blk_frozen BK145.out 0; have hfz55_1 := blk_frozen BK145.out 1; have hfz55_2 := blk_frozen BK145.out 2; have hfz55_3 := blk_frozen BK145.out 3; have hfz55_4 := blk_frozen BK145.out 4; have hfz55_5 := blk_frozen BK145.out 5; have hfz55_6 := blk_frozen BK145.out 6; have hfz55_7 := blk_frozen BK145.out 7))
                have n0_ : Aside0 (Kd.R k23 23 ((((((((w54.setCell ⟨gb145, 0, none⟩ (.int .i64 ((rd_T36 l1 x115_2).f0))).setCell ⟨gb145, 1, none⟩ (.int .i64 ((rd_T36 l1 x115_2).f1))).setCell ⟨gb145, 2, none⟩ (.int .i64 ((rd_T36 l1 x115_2).f2))).setCell ⟨gb145, 3, none⟩ (.int .i64 ((rd_T36 l1 x115_2).f3.f0))).setCell ⟨gb145, 4, none⟩ (.int .i64 ((rd_T36 l1 x115_2).f3.f1))).setCell ⟨gb145, 5, none⟩ (.string ((rd_T36 l1 x115_2).f3.f2))).setCell ⟨gb145, 6, none⟩ (.int .i64 ((rd_T36 l1 x115_2).f4))).setCell ⟨gb145, 7, none⟩ (.int .i64 ((rd_T36 l1 x115_2).f5))) w.heap.size (fun _ => True) (.slice Ao12 t117.length co12) t117) := ⟨by (with_reducible repeat (first | apply Kd.R_alloc | apply Kd.R_drewN | apply Kd.R_drew)); exact Kd.R_mono (Kd.R_far (p := ⟨gb145, 7, none⟩) (Kd.R_far (p := ⟨gb145, 6, none⟩) (Kd.R_far (p := ⟨gb145, 5, none⟩) (Kd.R_far (p := ⟨gb145, 4, none⟩) (Kd.R_far (p := ⟨gb145, 3, none⟩) (Kd.R_far (p := ⟨gb145, 2, none⟩) (Kd.R_far (p := ⟨gb145, 1, none⟩) (Kd.R_far (p := ⟨gb145, 0, none⟩) (Kd.R_types HO_5.out BK145.out (by decide)) (fun _ hk => hk.2) (.int .i64 ((rd_T36 l1 x115_2).f0))) (fun _ hk => hk.2) (.int .i64 ((rd_T36 l1 x115_2).f1))) (fun _ hk => hk.2) (.int .i64 ((rd_T36 l1 x115_2).f2))) (fun _ hk => hk.2) (.int .i64 ((rd_T36 l1 x115_2).f3.f0))) (fun _ hk => hk.2) (.int .i64 ((rd_T36 l1 x115_2).f3.f1))) (fun _ hk => hk.2) (.string ((rd_T36 l1 x115_2).f3.f2))) (fun _ hk => hk.2) (.int .i64 ((rd_T36 l1 x115_2).f4))) (fun _ hk => hk.2) (.int .i64 ((rd_T36 l1 x115_2).f5))) (fun _ hk => trivial)⟩
                have n1_ : Aside0 (((((((((w54.setCell ⟨gb145, 0, none⟩ (.int .i64 ((rd_T36 l1 x115_2).f0))).setCell ⟨gb145, 1, none⟩ (.int .i64 ((rd_T36 l1 x115_2).f1))).setCell ⟨gb145, 2, none⟩ (.int .i64 ((rd_T36 l1 x115_2).f2))).setCell ⟨gb145, 3, none⟩ (.int .i64 ((rd_T36 l1 x115_2).f3.f0))).setCell ⟨gb145, 4, none⟩ (.int .i64 ((rd_T36 l1 x115_2).f3.f1))).setCell ⟨gb145, 5, none⟩ (.string ((rd_T36 l1 x115_2).f3.f2))).setCell ⟨gb145, 6, none⟩ (.int .i64 ((rd_T36 l1 x115_2).f4))).setCell ⟨gb145, 7, none⟩ (.int .i64 ((rd_T36 l1 x115_2).f5))).heap[gb145]? = some (.cells #[.int .i64 ((rd_T36 l1 x115_2).f0), .int .i64 ((rd_T36 l1 x115_2).f1), .int .i64 ((rd_T36 l1 x115_2).f2), .int .i64 ((rd_T36 l1 x115_2).f3.f0), .int .i64 ((rd_T36 l1 x115_2).f3.f1), .string ((rd_T36 l1 x115_2).f3.f2), .int .i64 ((rd_T36 l1 x115_2).f4), .int .i64 ((rd_T36 l1 x115_2).f5)] 36 (0, 0))) := ⟨by (with_reducible repeat (first | refine blk_drewN ?_ _ | refine blk_drew ?_ | refine blk_alloc ?_ _)); refine blk_put (cs := #[.int .i64 ((rd_T36 l1 x115_2).f0), .int .i64 ((rd_T36 l1 x115_2).f1), .int .i64 ((rd_T36 l1 x115_2).f2), .int .i64 ((rd_T36 l1 x115_2).f3.f0), .int .i64 ((rd_T36 l1 x115_2).f3.f1), .string ((rd_T36 l1 x115_2).f3.f2), .int .i64 ((rd_T36 l1 x115_2).f4), .int .i64 0]) ?_ 7 _ rfl; (with_reducible repeat (first | refine blk_drewN ?_ _ | refine blk_drew ?_ | refine blk_alloc ?_ _)); refine blk_put (cs := #[.int .i64 ((rd_T36 l1 x115_2).f0), .int .i64 ((rd_T36 l1 x115_2).f1), .int .i64 ((rd_T36 l1 x115_2).f2), .int .i64 ((rd_T36 l1 x115_2).f3.f0), .int .i64 ((rd_T36 l1 x115_2).f3.f1), .string ((rd_T36 l1 x115_2).f3.f2), .int .i64 0, .int .i64 0]) ?_ 6 _ rfl; (with_reducible repeat (first | refine blk_drewN ?_ _ | refine blk_drew ?_ | refine blk_alloc ?_ _)); refine blk_put (cs := #[.int .i64 ((rd_T36 l1 x115_2).f0), .int .i64 ((rd_T36 l1 x115_2).f1), .int .i64 ((rd_T36 l1 x115_2).f2), .int .i64 ((rd_T36 l1 x115_2).f3.f0), .int .i64 ((rd_T36 l1 x115_2).f3.f1), .string (⟨#[]⟩ : ByteArray), .int .i64 0, .int .i64 0]) ?_ 5 _ rfl; (with_reducible repeat (first | refine blk_drewN ?_ _ | refine blk_drew ?_ | refine blk_alloc ?_ _)); refine blk_put (cs := #[.int .i64 ((rd_T36 l1 x115_2).f0), .int .i64 ((rd_T36 l1 x115_2).f1), .int .i64 ((rd_T36 l1 x115_2).f2), .int .i64 ((rd_T36 l1 x115_2).f3.f0), .int .i64 0, .string (⟨#[]⟩ : ByteArray), .int .i64 0, .int .i64 0]) ?_ 4 _ rfl; (with_reducible repeat (first | refine blk_drewN ?_ _ | refine blk_drew ?_ | refine blk_alloc ?_ _)); refine blk_put (cs := #[.int .i64 ((rd_T36 l1 x115_2).f0), .int .i64 ((rd_T36 l1 x115_2).f1), .int .i64 ((rd_T36 l1 x115_2).f2), .int .i64 0, .int .i64 0, .string (⟨#[]⟩ : ByteArray), .int .i64 0, .int .i64 0]) ?_ 3 _ rfl; (with_reducible repeat (first | refine blk_drewN ?_ _ | refine blk_drew ?_ | refine blk_alloc ?_ _)); refine blk_put (cs := #[.int .i64 ((rd_T36 l1 x115_2).f0), .int .i64 ((rd_T36 l1 x115_2).f1), .int .i64 0, .int .i64 0, .int .i64 0, .string (⟨#[]⟩ : ByteArray), .int .i64 0, .int .i64 0]) ?_ 2 _ rfl; (with_reducible repeat (first | refine blk_drewN ?_ _ | refine blk_drew ?_ | refine blk_alloc ?_ _)); refine blk_put (cs := #[.int .i64 ((rd_T36 l1 x115_2).f0), .int .i64 0, .int .i64 0, .int .i64 0, .int .i64 0, .string (⟨#[]⟩ : ByteArray), .int .i64 0, .int .i64 0]) ?_ 1 _ rfl; (with_reducible repeat (first | refine blk_drewN ?_ _ | refine blk_drew ?_ | refine blk_alloc ?_ _)); refine blk_put (cs := #[.int .i64 0, .int .i64 0, .int .i64 0, .int .i64 0, .int .i64 0, .string (⟨#[]⟩ : ByteArray), .int .i64 0, .int .i64 0]) ?_ 0 _ rfl; (with_reducible repeat (first | refine blk_drewN ?_ _ | refine blk_drew ?_ | refine blk_alloc ?_ _)); exact BK145.out⟩
                have n2_ : Aside0 (Below w.heap.size w ((((((((w54.setCell ⟨gb145, 0, none⟩ (.int .i64 ((rd_T36 l1 x115_2).f0))).setCell ⟨gb145, 1, none⟩ (.int .i64 ((rd_T36 l1 x115_2).f1))).setCell ⟨gb145, 2, none⟩ (.int .i64 ((rd_T36 l1 x115_2).f2))).setCell ⟨gb145, 3, none⟩ (.int .i64 ((rd_T36 l1 x115_2).f3.f0))).setCell ⟨gb145, 4, none⟩ (.int .i64 ((rd_T36 l1 x115_2).f3.f1))).setCell ⟨gb145, 5, none⟩ (.string ((rd_T36 l1 x115_2).f3.f2))).setCell ⟨gb145, 6, none⟩ (.int .i64 ((rd_T36 l1 x115_2).f4))).setCell ⟨gb145, 7, none⟩ (.int .i64 ((rd_T36 l1 x115_2).f5)))) := ⟨by repeat (first | (with_reducible first | exact HB.out | apply below_alloc | apply pw_below_drewN | apply below_drew1 | refine below_set ?_ GE145.out) | exact HB.out)⟩
                (try clear HO_5)
                (try clear BK145)
                (try clear HB)
                generalize ((((((((w54.setCell ⟨gb145, 0, none⟩ (.int .i64 ((rd_T36 l1 x115_2).f0))).setCell ⟨gb145, 1, none⟩ (.int .i64 ((rd_T36 l1 x115_2).f1))).setCell ⟨gb145, 2, none⟩ (.int .i64 ((rd_T36 l1 x115_2).f2))).setCell ⟨gb145, 3, none⟩ (.int .i64 ((rd_T36 l1 x115_2).f3.f0))).setCell ⟨gb145, 4, none⟩ (.int .i64 ((rd_T36 l1 x115_2).f3.f1))).setCell ⟨gb145, 5, none⟩ (.string ((rd_T36 l1 x115_2).f3.f2))).setCell ⟨gb145, 6, none⟩ (.int .i64 ((rd_T36 l1 x115_2).f4))).setCell ⟨gb145, 7, none⟩ (.int .i64 ((rd_T36 l1 x115_2).f5))) = w56 at n0_ n1_ n2_ ⊢
                have HO_5 := n0_
                have BK145 := n1_
                have HB := n2_
                clear n0_ n1_ n2_
                have n0_ := Aside0.mk (Kd.R_drew HO_5.out)
                have n1_ := Aside0.mk (blk_drew BK145.out)
                have n2_ := Aside0.mk (below_drew1 HB.out)
                clear HO_5
                clear BK145
                clear HB
                have HO_5 := n0_
                have BK145 := n1_
                have HB := n2_
                clear n0_ n1_ n2_
                have p146 : 0 ≤ (((rd_T36 l1 x115_2).f1) : Int) := of_decide_eq_true (by first | (with_reducible assumption) | assumption)
                have q146 : ((rd_T36 l1 x115_2).f1) < (t117.length : Int) := of_decide_eq_true (by first | (with_reducible assumption) | assumption)
                obtain ⟨ad146, e146, hx146_0, hx146_1, hx146_2⟩ := at_T23 (Kd.R_reads' HO_5.out).2.2 ((rd_T36 l1 x115_2).f1) p146 q146
                cases e146
                replace p146 := eq_true p146
                replace q146 := eq_true q146
                have p147 : 0 ≤ (((rd_T36 l1 x115_2).f2) : Int) := of_decide_eq_true (by first | (with_reducible assumption) | assumption)
                have q147 : ((rd_T36 l1 x115_2).f2) < (t117.length : Int) := of_decide_eq_true (by first | (with_reducible assumption) | assumption)
                obtain ⟨ad147, e147, hx147_0, hx147_1, hx147_2⟩ := at_T23 (Kd.R_reads' HO_5.out).2.2 ((rd_T36 l1 x115_2).f2) p147 q147
                obtain rfl : ad146 = ad147 := (by injection e147)
                replace p147 := eq_true p147
                replace q147 := eq_true q147
                have p148 : 0 ≤ (((rd_T36 l1 x115_2).f1) : Int) := of_decide_eq_true (by first | (with_reducible assumption) | assumption)
                have q148 : ((rd_T36 l1 x115_2).f1) < (t117.length : Int) := of_decide_eq_true (by first | (with_reducible assumption) | assumption)
                obtain ⟨ad148, e148, hx148_0, hx148_1, hx148_2⟩ := at_T23 (Kd.R_reads' HO_5.out).2.2 ((rd_T36 l1 x115_2).f1) p148 q148
                obtain rfl : ad146 = ad148 := (by injection e148)
                replace p148 := eq_true p148
                replace q148 := eq_true q148
                have p149 : 0 ≤ (((rd_T36 l1 x115_2).f1) : Int) := of_decide_eq_true (by first | (with_reducible assumption) | assumption)
                have q149 : ((rd_T36 l1 x115_2).f1) < (t117.length : Int) := of_decide_eq_true (by first | (with_reducible assumption) | assumption)
                obtain ⟨ad149, e149, hx149_0, hx149_1, hx149_2⟩ := at_T23 (Kd.R_reads' HO_5.out).2.2 ((rd_T36 l1 x115_2).f1) p149 q149
                obtain rfl : ad146 = ad149 := (by injection e149)
                replace p149 := eq_true p149
                replace q149 := eq_true q149
                refine start_ (n := 40) (S := fun w' => w'.cell? ⟨gb145, 0, none⟩ = some (.int .i64 ((rd_T36 l1 x115_2).f0)) ∧ w'.cell? ⟨gb145, 1, none⟩ = some (.int .i64 ((rd_T36 l1 x115_2).f1)) ∧ w'.cell? ⟨gb145, 2, none⟩ = some (.int .i64 ((rd_T36 l1 x115_2).f2)) ∧ w'.cell? ⟨gb145, 3, none⟩ = some (.int .i64 ((rd_T36 l1 x115_2).f3.f0)) ∧ w'.cell? ⟨gb145, 4, none⟩ = some (.int .i64 ((rd_T36 l1 x115_2).f3.f1)) ∧ w'.cell? ⟨gb145, 5, none⟩ = some (.string ((rd_T36 l1 x115_2).f3.f2)) ∧ w'.cell? ⟨gb145, 6, none⟩ = some (.int .i64 ((rd_T36 l1 x115_2).f4)) ∧ w'.cell? ⟨gb145, 7, none⟩ = some (.int .i64 ((rd_T36 l1 x115_2).f5)) ∧ w'.cell? (ad146.add ((((rd_T36 l1 x115_2).f1)).toNat * 3)) = some (.int .i64 ((rd_T23 t117 ((rd_T36 l1 x115_2).f1)).f0)) ∧ w'.cell? ⟨(ad146.add ((((rd_T36 l1 x115_2).f1)).toNat * 3)).block, (ad146.add ((((rd_T36 l1 x115_2).f1)).toNat * 3)).off + 1, none⟩ = some (.int .i64 ((rd_T23 t117 ((rd_T36 l1 x115_2).f1)).f1)) ∧ w'.cell? ⟨(ad146.add ((((rd_T36 l1 x115_2).f1)).toNat * 3)).block, (ad146.add ((((rd_T36 l1 x115_2).f1)).toNat * 3)).off + 2, none⟩ = some (.string ((rd_T23 t117 ((rd_T36 l1 x115_2).f1)).f2)) ∧ w'.cell? (ad146.add ((((rd_T36 l1 x115_2).f2)).toNat * 3)) = some (.int .i64 ((rd_T23 t117 ((rd_T36 l1 x115_2).f2)).f0)) ∧ w'.cell? ⟨(ad146.add ((((rd_T36 l1 x115_2).f2)).toNat * 3)).block, (ad146.add ((((rd_T36 l1 x115_2).f2)).toNat * 3)).off + 1, none⟩ = some (.int .i64 ((rd_T23 t117 ((rd_T36 l1 x115_2).f2)).f1)) ∧ w'.cell? ⟨(ad146.add ((((rd_T36 l1 x115_2).f2)).toNat * 3)).block, (ad146.add ((((rd_T36 l1 x115_2).f2)).toNat * 3)).off + 2, none⟩ = some (.string ((rd_T23 t117 ((rd_T36 l1 x115_2).f2)).f2)) ∧ w'.cell? (ad146.add ((((rd_T36 l1 x115_2).f1)).toNat * 3)) = some (.int .i64 ((rd_T23 t117 ((rd_T36 l1 x115_2).f1)).f0)) ∧ w'.cell? ⟨(ad146.add ((((rd_T36 l1 x115_2).f1)).toNat * 3)).block, (ad146.add ((((rd_T36 l1 x115_2).f1)).toNat * 3)).off + 1, none⟩ = some (.int .i64 ((rd_T23 t117 ((rd_T36 l1 x115_2).f1)).f1)) ∧ w'.cell? ⟨(ad146.add ((((rd_T36 l1 x115_2).f1)).toNat * 3)).block, (ad146.add ((((rd_T36 l1 x115_2).f1)).toNat * 3)).off + 2, none⟩ = some (.string ((rd_T23 t117 ((rd_T36 l1 x115_2).f1)).f2)) ∧ w'.cell? (ad146.add ((((rd_T36 l1 x115_2).f1)).toNat * 3)) = some (.int .i64 ((rd_T23 t117 ((rd_T36 l1 x115_2).f1)).f0)) ∧ w'.cell? ⟨(ad146.add ((((rd_T36 l1 x115_2).f1)).toNat * 3)).block, (ad146.add ((((rd_T36 l1 x115_2).f1)).toNat * 3)).off + 1, none⟩ = some (.int .i64 ((rd_T23 t117 ((rd_T36 l1 x115_2).f1)).f1)) ∧ w'.cell? ⟨(ad146.add ((((rd_T36 l1 x115_2).f1)).toNat * 3)).block, (ad146.add ((((rd_T36 l1 x115_2).f1)).toNat * 3)).off + 2, none⟩ = some (.string ((rd_T23 t117 ((rd_T36 l1 x115_2).f1)).f2))) (ds := []) #[nn, nn, nn, nn, nn, nn, nn, nn, nn, nn, nn, nn, nn, nn, nn, nn, nn, nn, nn, nn, nn, nn, nn, nn, nn, nn, nn, nn, nn, nn, nn, nn, nn, nn, nn, nn, nn, nn, nn, nn] (by kernel_rfl) rfl rfl ⟨(blk_cell BK145.out 0).trans rfl, (blk_cell BK145.out 1).trans rfl, (blk_cell BK145.out 2).trans rfl, (blk_cell BK145.out 3).trans rfl, (blk_cell BK145.out 4).trans rfl, (blk_cell BK145.out 5).trans rfl, (blk_cell BK145.out 6).trans rfl, (blk_cell BK145.out 7).trans rfl, hx146_0, hx146_1, hx146_2, hx147_0, hx147_1, hx147_2, hx148_0, hx148_1, hx148_2, hx149_0, hx149_1, hx149_2⟩ (fun hHeld => ?_); refine with_tabW assessorlaw09_ConstraintsChains.tab28 assessorlaw09_ConstraintsChains.bits28 (fun HT_ HW_ => ?_)
                generalize w56.drew = w57 at HO_5 BK145 HB hx146_0 hx146_1 hx146_2 hx147_0 hx147_1 hx147_2 hx148_0 hx148_1 hx148_2 hx149_0 hx149_1 hx149_2 hHeld ⊢
                refine pure_ (i := 0) (N := some 119) (v := ?_) (a' := ?_) #[yy, nn, nn, nn, nn, nn, nn, nn, nn, nn, nn, nn, nn, nn, nn, nn, nn, nn, nn, nn, nn, nn, nn, nn, nn, nn, nn, nn, nn, nn, nn, nn, nn, nn, nn, nn, nn, nn, nn, nn] rfl rfl (any_of HT_.out (by kernel_rfl)) (fun _ _ _ h => h) (Or.inl ⟨by rfl, ?_⟩) ?_ ?_
                rotate_left; (· intro w'; go_simp; with_reducible rfl)
                rotate_left; (· simp only [Act.put, List.setIfInBounds_toArray, List.set_cons_zero, List.set_cons_succ, i64_w, i32_w]; rfl)
                refine take_ (i := 1) (N := some 120) (v := ?_) (a' := ?_) #[yy, yy, nn, nn, nn, nn, nn, nn, nn, nn, nn, nn, nn, nn, nn, nn, nn, nn, nn, nn, nn, nn, nn, nn, nn, nn, nn, nn, nn, nn, nn, nn, nn, nn, nn, nn, nn, nn, nn, nn] rfl rfl (take_ofW HT_.out HW_.out (by kernel_rfl)) (fun _ _ _ h => h) (Or.inl ⟨by rfl, ?_⟩) hHeld ?_ ?_
                rotate_left; (· rintro w' ⟨s0, s1, s2, s3, s4, s5, s6, s7, s8, s9, s10, s11, s12, s13, s14, s15, s16, s17, s18, s19⟩; go_simp; with_reducible rfl)
                rotate_left; (· simp only [Act.put, List.setIfInBounds_toArray, List.set_cons_zero, List.set_cons_succ, i64_w, i32_w]; rfl)
                refine pure_ (i := 2) (N := some 121) (v := ?_) (a' := ?_) #[yy, yy, yy, nn, nn, nn, nn, nn, nn, nn, nn, nn, nn, nn, nn, nn, nn, nn, nn, nn, nn, nn, nn, nn, nn, nn, nn, nn, nn, nn, nn, nn, nn, nn, nn, nn, nn, nn, nn, nn] rfl rfl (any_of HT_.out (by kernel_rfl)) (fun _ _ _ h => h) (Or.inl ⟨by rfl, ?_⟩) ?_ ?_
                rotate_left; (· intro w'; go_simp; with_reducible rfl)
                rotate_left; (· simp only [Act.put, List.setIfInBounds_toArray, List.set_cons_zero, List.set_cons_succ, i64_w, i32_w]; rfl)
                refine pure_ (i := 3) (N := some 122) (v := ?_) (a' := ?_) #[yy, yy, yy, yy, nn, nn, nn, nn, nn, nn, nn, nn, nn, nn, nn, nn, nn, nn, nn, nn, nn, nn, nn, nn, nn, nn, nn, nn, nn, nn, nn, nn, nn, nn, nn, nn, nn, nn, nn, nn] rfl rfl (any_of HT_.out (by kernel_rfl)) (fun _ _ _ h => h) (Or.inl ⟨by rfl, ?_⟩) ?_ ?_
                rotate_left; (· intro w'; go_simp; with_reducible rfl)
                rotate_left; (· simp only [Act.put, List.setIfInBounds_toArray, List.set_cons_zero, List.set_cons_succ, i64_w, i32_w]; rfl)
                refine pure_ (i := 4) (N := some 123) (v := ?_) (a' := ?_) #[yy, yy, yy, yy, yy, nn, nn, nn, nn, nn, nn, nn, nn, nn, nn, nn, nn, nn, nn, nn, nn, nn, nn, nn, nn, nn, nn, nn, nn, nn, nn, nn, nn, nn, nn, nn, nn, nn, nn, nn] rfl rfl (any_of HT_.out (by kernel_rfl)) (fun _ _ _ h => h) (Or.inl ⟨by rfl, ?_⟩) ?_ ?_
                rotate_left; (· intro w'; go_simp; with_reducible rfl)
                rotate_left; (· simp only [Act.put, List.setIfInBounds_toArray, List.set_cons_zero, List.set_cons_succ, i64_w, i32_w]; rfl)
                refine pure_ (i := 5) (N := some 124) (v := ?_) (a' := ?_) #[yy, yy, yy, yy, yy, yy, nn, nn, nn, nn, nn, nn, nn, nn, nn, nn, nn, nn, nn, nn, nn, nn, nn, nn, nn, nn, nn, nn, nn, nn, nn, nn, nn, nn, nn, nn, nn, nn, nn, nn] rfl rfl (any_of HT_.out (by kernel_rfl)) (fun _ _ _ h => h) (Or.inl ⟨by rfl, ?_⟩) ?_ ?_
                rotate_left; (· intro w'; go_simp; with_reducible rfl)
                rotate_left; (· simp only [Act.put, List.setIfInBounds_toArray, List.set_cons_zero, List.set_cons_succ, i64_w, i32_w]; rfl)
                refine pure_ (i := 9) (N := some 128) (v := ?_) (a' := ?_) #[yy, yy, yy, yy, yy, yy, nn, nn, nn, yy, nn, nn, nn, nn, nn, nn, nn, nn, nn, nn, nn, nn, nn, nn, nn, nn, nn, nn, nn, nn, nn, nn, nn, nn, nn, nn, nn, nn, nn, nn] rfl rfl (any_of HT_.out (by kernel_rfl)) (fun _ _ _ h => h) (Or.inl ⟨by rfl, ?_⟩) ?_ ?_
                rotate_left; (· intro w'; go_simp; with_reducible rfl)
                rotate_left; (· simp only [Act.put, List.setIfInBounds_toArray, List.set_cons_zero, List.set_cons_succ, i64_w, i32_w]; rfl)
                refine pure_ (i := 10) (N := some 129) (v := ?_) (a' := ?_) #[yy, yy, yy, yy, yy, yy, nn, nn, nn, yy, yy, nn, nn, nn, nn, nn, nn, nn, nn, nn, nn, nn, nn, nn, nn, nn, nn, nn, nn, nn, nn, nn, nn, nn, nn, nn, nn, nn, nn, nn] rfl rfl (any_of HT_.out (by kernel_rfl)) (fun _ _ _ h => h) (Or.inl ⟨by rfl, ?_⟩) ?_ ?_
                rotate_left; (· intro w'; go_simp; with_reducible rfl)
                rotate_left; (· simp only [Act.put, List.setIfInBounds_toArray, List.set_cons_zero, List.set_cons_succ, i64_w, i32_w]; rfl)
                refine take_ (i := 6) (N := some 125) (v := ?_) (a' := ?_) #[yy, yy, yy, yy, yy, yy, yy, nn, nn, yy, yy, nn, nn, nn, nn, nn, nn, nn, nn, nn, nn, nn, nn, nn, nn, nn, nn, nn, nn, nn, nn, nn, nn, nn, nn, nn, nn, nn, nn, nn] rfl rfl (take_ofW HT_.out HW_.out (by kernel_rfl)) (fun _ _ _ h => h) (Or.inl ⟨by rfl, ?_⟩) hHeld ?_ ?_
                rotate_left; (· rintro w' ⟨s0, s1, s2, s3, s4, s5, s6, s7, s8, s9, s10, s11, s12, s13, s14, s15, s16, s17, s18, s19⟩; go_simp; with_reducible rfl)
                rotate_left; (· simp only [Act.put, List.setIfInBounds_toArray, List.set_cons_zero, List.set_cons_succ, i64_w, i32_w]; rfl)
                refine pure_ (i := 7) (N := some 126) (v := ?_) (a' := ?_) #[yy, yy, yy, yy, yy, yy, yy, yy, nn, yy, yy, nn, nn, nn, nn, nn, nn, nn, nn, nn, nn, nn, nn, nn, nn, nn, nn, nn, nn, nn, nn, nn, nn, nn, nn, nn, nn, nn, nn, nn] rfl rfl (any_of HT_.out (by kernel_rfl)) (fun _ _ _ h => h) (Or.inl ⟨by rfl, ?_⟩) ?_ ?_
                rotate_left; (· intro w'; go_simp; with_reducible rfl)
                rotate_left; (· simp only [Act.put, List.setIfInBounds_toArray, List.set_cons_zero, List.set_cons_succ, i64_w, i32_w]; rfl)
                refine take_ (i := 8) (N := some 127) (v := ?_) (a' := ?_) #[yy, yy, yy, yy, yy, yy, yy, yy, yy, yy, yy, nn, nn, nn, nn, nn, nn, nn, nn, nn, nn, nn, nn, nn, nn, nn, nn, nn, nn, nn, nn, nn, nn, nn, nn, nn, nn, nn, nn, nn] rfl rfl (take_ofW HT_.out HW_.out (by kernel_rfl)) (fun _ _ _ h => h) (Or.inl ⟨by rfl, ?_⟩) hHeld ?_ ?_
                rotate_left; (· rintro w' ⟨s0, s1, s2, s3, s4, s5, s6, s7, s8, s9, s10, s11, s12, s13, s14, s15, s16, s17, s18, s19⟩; go_simp; with_reducible rfl)
                rotate_left; (· simp only [Act.put, List.setIfInBounds_toArray, List.set_cons_zero, List.set_cons_succ, i64_w, i32_w]; rfl)
                refine take_ (i := 11) (N := some 130) (v := ?_) (a' := ?_) #[yy, yy, yy, yy, yy, yy, yy, yy, yy, yy, yy, yy, nn, nn, nn, nn, nn, nn, nn, nn, nn, nn, nn, nn, nn, nn, nn, nn, nn, nn, nn, nn, nn, nn, nn, nn, nn, nn, nn, nn] rfl rfl (take_ofW HT_.out HW_.out (by kernel_rfl)) (fun _ _ _ h => h) (Or.inl ⟨by rfl, ?_⟩) hHeld ?_ ?_
                rotate_left; (· rintro w' ⟨s0, s1, s2, s3, s4, s5, s6, s7, s8, s9, s10, s11, s12, s13, s14, s15, s16, s17, s18, s19⟩; go_simp; with_reducible rfl)
                rotate_left; (· simp only [Act.put, List.setIfInBounds_toArray, List.set_cons_zero, List.set_cons_succ, i64_w, i32_w]; rfl)
                refine pure_ (i := 12) (N := some 131) (v := ?_) (a' := ?_) #[yy, yy, yy, yy, yy, yy, yy, yy, yy, yy, yy, yy, yy, nn, nn, nn, nn, nn, nn, nn, nn, nn, nn, nn, nn, nn, nn, nn, nn, nn, nn, nn, nn, nn, nn, nn, nn, nn, nn, nn] rfl rfl (any_of HT_.out (by kernel_rfl)) (fun _ _ _ h => h) (Or.inl ⟨by rfl, ?_⟩) ?_ ?_
                rotate_left; (· intro w'; go_simp; with_reducible rfl)
                rotate_left; (· simp only [Act.put, List.setIfInBounds_toArray, List.set_cons_zero, List.set_cons_succ, i64_w, i32_w]; rfl)
                refine take_ (i := 13) (N := some 132) (v := ?_) (a' := ?_) #[yy, yy, yy, yy, yy, yy, yy, yy, yy, yy, yy, yy, yy, yy, nn, nn, nn, nn, nn, nn, nn, nn, nn, nn, nn, nn, nn, nn, nn, nn, nn, nn, nn, nn, nn, nn, nn, nn, nn, nn] rfl rfl (take_ofW HT_.out HW_.out (by kernel_rfl)) (fun _ _ _ h => h) (Or.inl ⟨by rfl, ?_⟩) hHeld ?_ ?_
                rotate_left; (· rintro w' ⟨s0, s1, s2, s3, s4, s5, s6, s7, s8, s9, s10, s11, s12, s13, s14, s15, s16, s17, s18, s19⟩; go_simp; with_reducible rfl)
                rotate_left; (· simp only [Act.put, List.setIfInBounds_toArray, List.set_cons_zero, List.set_cons_succ, i64_w, i32_w]; rfl)
                refine pure_ (i := 14) (N := some 133) (v := ?_) (a' := ?_) #[yy, yy, yy, yy, yy, yy, yy, yy, yy, yy, yy, yy, yy, yy, yy, nn, nn, nn, nn, nn, nn, nn, nn, nn, nn, nn, nn, nn, nn, nn, nn, nn, nn, nn, nn, nn, nn, nn, nn, nn] rfl rfl (any_of HT_.out (by kernel_rfl)) (fun _ _ _ h => h) (Or.inl ⟨by rfl, ?_⟩) ?_ ?_
                rotate_left; (· intro w'; go_simp; with_reducible rfl)
                rotate_left; (· simp only [Act.put, List.setIfInBounds_toArray, List.set_cons_zero, List.set_cons_succ, i64_w, i32_w]; rfl)
                refine pure_ (i := 15) (N := some 134) (v := ?_) (a' := ?_) #[yy, yy, yy, yy, yy, yy, yy, yy, yy, yy, yy, yy, yy, yy, yy, yy, nn, nn, nn, nn, nn, nn, nn, nn, nn, nn, nn, nn, nn, nn, nn, nn, nn, nn, nn, nn, nn, nn, nn, nn] rfl rfl (any_of HT_.out (by kernel_rfl)) (fun _ _ _ h => h) (Or.inl ⟨by rfl, ?_⟩) ?_ ?_
                rotate_left; (· intro w'; go_simp; with_reducible rfl)
                rotate_left; (· simp only [Act.put, List.setIfInBounds_toArray, List.set_cons_zero, List.set_cons_succ, i64_w, i32_w]; rfl)
                refine pure_ (i := 16) (N := some 135) (v := ?_) (a' := ?_) #[yy, yy, yy, yy, yy, yy, yy, yy, yy, yy, yy, yy, yy, yy, yy, yy, yy, nn, nn, nn, nn, nn, nn, nn, nn, nn, nn, nn, nn, nn, nn, nn, nn, nn, nn, nn, nn, nn, nn, nn] rfl rfl (any_of HT_.out (by kernel_rfl)) (fun _ _ _ h => h) (Or.inl ⟨by rfl, ?_⟩) ?_ ?_
                rotate_left; (· intro w'; go_simp; with_reducible rfl)
                rotate_left; (· simp only [Act.put, List.setIfInBounds_toArray, List.set_cons_zero, List.set_cons_succ, i64_w, i32_w]; rfl)
                refine pure_ (i := 17) (N := some 136) (v := ?_) (a' := ?_) #[yy, yy, yy, yy, yy, yy, yy, yy, yy, yy, yy, yy, yy, yy, yy, yy, yy, yy, nn, nn, nn, nn, nn, nn, nn, nn, nn, nn, nn, nn, nn, nn, nn, nn, nn, nn, nn, nn, nn, nn] rfl rfl (any_of HT_.out (by kernel_rfl)) (fun _ _ _ h => h) (Or.inl ⟨by rfl, ?_⟩) ?_ ?_
                rotate_left; (· intro w'; go_simp; with_reducible rfl)
                rotate_left; (· simp only [Act.put, List.setIfInBounds_toArray, List.set_cons_zero, List.set_cons_succ, i64_w, i32_w]; rfl)
                refine take_ (i := 18) (N := some 137) (v := ?_) (a' := ?_) #[yy, yy, yy, yy, yy, yy, yy, yy, yy, yy, yy, yy, yy, yy, yy, yy, yy, yy, yy, nn, nn, nn, nn, nn, nn, nn, nn, nn, nn, nn, nn, nn, nn, nn, nn, nn, nn, nn, nn, nn] rfl rfl (take_ofW HT_.out HW_.out (by kernel_rfl)) (fun _ _ _ h => h) (Or.inl ⟨by rfl, ?_⟩) hHeld ?_ ?_
                rotate_left; (· rintro w' ⟨s0, s1, s2, s3, s4, s5, s6, s7, s8, s9, s10, s11, s12, s13, s14, s15, s16, s17, s18, s19⟩; go_simp; with_reducible rfl)
                rotate_left; (· simp only [Act.put, List.setIfInBounds_toArray, List.set_cons_zero, List.set_cons_succ, i64_w, i32_w]; rfl)
                refine pure_ (i := 19) (N := some 138) (v := ?_) (a' := ?_) #[yy, yy, yy, yy, yy, yy, yy, yy, yy, yy, yy, yy, yy, yy, yy, yy, yy, yy, yy, yy, nn, nn, nn, nn, nn, nn, nn, nn, nn, nn, nn, nn, nn, nn, nn, nn, nn, nn, nn, nn] rfl rfl (any_of HT_.out (by kernel_rfl)) (fun _ _ _ h => h) (Or.inl ⟨by rfl, ?_⟩) ?_ ?_
                rotate_left; (· intro w'; go_simp; with_reducible rfl)
                rotate_left; (· simp only [Act.put, List.setIfInBounds_toArray, List.set_cons_zero, List.set_cons_succ, i64_w, i32_w]; rfl)
                refine pure_ (i := 20) (N := some 139) (v := ?_) (a' := ?_) #[yy, yy, yy, yy, yy, yy, yy, yy, yy, yy, yy, yy, yy, yy, yy, yy, yy, yy, yy, yy, yy, nn, nn, nn, nn, nn, nn, nn, nn, nn, nn, nn, nn, nn, nn, nn, nn, nn, nn, nn] rfl rfl (any_of HT_.out (by kernel_rfl)) (fun _ _ _ h => h) (Or.inl ⟨by rfl, ?_⟩) ?_ ?_
                rotate_left; (· intro w'; go_simp; with_reducible rfl)
                rotate_left; (· simp only [Act.put, List.setIfInBounds_toArray, List.set_cons_zero, List.set_cons_succ, i64_w, i32_w]; rfl)
                refine pure_ (i := 21) (N := some 140) (v := ?_) (a' := ?_) #[yy, yy, yy, yy, yy, yy, yy, yy, yy, yy, yy, yy, yy, yy, yy, yy, yy, yy, yy, yy, yy, yy, nn, nn, nn, nn, nn, nn, nn, nn, nn, nn, nn, nn, nn, nn, nn, nn, nn, nn] rfl rfl (any_of HT_.out (by kernel_rfl)) (fun _ _ _ h => h) (Or.inl ⟨by rfl, ?_⟩) ?_ ?_
                rotate_left; (· intro w'; go_simp; with_reducible rfl)
                rotate_left; (· simp only [Act.put, List.setIfInBounds_toArray, List.set_cons_zero, List.set_cons_succ, i64_w, i32_w]; rfl)
                refine pure_ (i := 22) (N := some 141) (v := ?_) (a' := ?_) #[yy, yy, yy, yy, yy, yy, yy, yy, yy, yy, yy, yy, yy, yy, yy, yy, yy, yy, yy, yy, yy, yy, yy, nn, nn, nn, nn, nn, nn, nn, nn, nn, nn, nn, nn, nn, nn, nn, nn, nn] rfl rfl (any_of HT_.out (by kernel_rfl)) (fun _ _ _ h => h) (Or.inl ⟨by rfl, ?_⟩) ?_ ?_
                rotate_left; (· intro w'; go_simp; with_reducible rfl)
                rotate_left; (· simp only [Act.put, List.setIfInBounds_toArray, List.set_cons_zero, List.set_cons_succ, i64_w, i32_w]; rfl)
                refine pure_ (i := 26) (N := some 145) (v := ?_) (a' := ?_) #[yy, yy, yy, yy, yy, yy, yy, yy, yy, yy, yy, yy, yy, yy, yy, yy, yy, yy, yy, yy, yy, yy, yy, nn, nn, nn, yy, nn, nn, nn, nn, nn, nn, nn, nn, nn, nn, nn, nn, nn] rfl rfl (any_of HT_.out (by kernel_rfl)) (fun _ _ _ h => h) (Or.inl ⟨by rfl, ?_⟩) ?_ ?_
                rotate_left; (· intro w'; go_simp; with_reducible rfl)
                rotate_left; (· simp only [Act.put, List.setIfInBounds_toArray, List.set_cons_zero, List.set_cons_succ, i64_w, i32_w]; rfl)
                refine take_ (i := 23) (N := some 142) (v := ?_) (a' := ?_) #[yy, yy, yy, yy, yy, yy, yy, yy, yy, yy, yy, yy, yy, yy, yy, yy, yy, yy, yy, yy, yy, yy, yy, yy, nn, nn, yy, nn, nn, nn, nn, nn, nn, nn, nn, nn, nn, nn, nn, nn] rfl rfl (take_ofW HT_.out HW_.out (by kernel_rfl)) (fun _ _ _ h => h) (Or.inl ⟨by rfl, ?_⟩) hHeld ?_ ?_
                rotate_left; (· rintro w' ⟨s0, s1, s2, s3, s4, s5, s6, s7, s8, s9, s10, s11, s12, s13, s14, s15, s16, s17, s18, s19⟩; go_simp; with_reducible rfl)
                rotate_left; (· simp only [Act.put, List.setIfInBounds_toArray, List.set_cons_zero, List.set_cons_succ, i64_w, i32_w]; rfl)
                refine pure_ (i := 24) (N := some 143) (v := ?_) (a' := ?_) #[yy, yy, yy, yy, yy, yy, yy, yy, yy, yy, yy, yy, yy, yy, yy, yy, yy, yy, yy, yy, yy, yy, yy, yy, yy, nn, yy, nn, nn, nn, nn, nn, nn, nn, nn, nn, nn, nn, nn, nn] rfl rfl (any_of HT_.out (by kernel_rfl)) (fun _ _ _ h => h) (Or.inl ⟨by rfl, ?_⟩) ?_ ?_
                rotate_left; (· intro w'; go_simp; with_reducible rfl)
                rotate_left; (· simp only [Act.put, List.setIfInBounds_toArray, List.set_cons_zero, List.set_cons_succ, i64_w, i32_w]; rfl)
                refine take_ (i := 25) (N := some 144) (v := ?_) (a' := ?_) #[yy, yy, yy, yy, yy, yy, yy, yy, yy, yy, yy, yy, yy, yy, yy, yy, yy, yy, yy, yy, yy, yy, yy, yy, yy, yy, yy, nn, nn, nn, nn, nn, nn, nn, nn, nn, nn, nn, nn, nn] rfl rfl (take_ofW HT_.out HW_.out (by kernel_rfl)) (fun _ _ _ h => h) (Or.inl ⟨by rfl, ?_⟩) hHeld ?_ ?_
                rotate_left; (· rintro w' ⟨s0, s1, s2, s3, s4, s5, s6, s7, s8, s9, s10, s11, s12, s13, s14, s15, s16, s17, s18, s19⟩; go_simp; with_reducible rfl)
                rotate_left; (· simp only [Act.put, List.setIfInBounds_toArray, List.set_cons_zero, List.set_cons_succ, i64_w, i32_w]; rfl)
                refine pure_ (i := 27) (N := some 146) (v := ?_) (a' := ?_) #[yy, yy, yy, yy, yy, yy, yy, yy, yy, yy, yy, yy, yy, yy, yy, yy, yy, yy, yy, yy, yy, yy, yy, yy, yy, yy, yy, yy, nn, nn, nn, nn, nn, nn, nn, nn, nn, nn, nn, nn] rfl rfl (any_of HT_.out (by kernel_rfl)) (fun _ _ _ h => h) (Or.inl ⟨by rfl, ?_⟩) ?_ ?_
                rotate_left; (· intro w'; go_simp; with_reducible rfl)
                rotate_left; (· simp only [Act.put, List.setIfInBounds_toArray, List.set_cons_zero, List.set_cons_succ, i64_w, i32_w]; rfl)
                refine pure_ (i := 28) (N := some 147) (v := ?_) (a' := ?_) #[yy, yy, yy, yy, yy, yy, yy, yy, yy, yy, yy, yy, yy, yy, yy, yy, yy, yy, yy, yy, yy, yy, yy, yy, yy, yy, yy, yy, yy, nn, nn, nn, nn, nn, nn, nn, nn, nn, nn, nn] rfl rfl (any_of HT_.out (by kernel_rfl)) (fun _ _ _ h => h) (Or.inl ⟨by rfl, ?_⟩) ?_ ?_
                rotate_left; (· intro w'; go_simp; with_reducible rfl)
                rotate_left; (· simp only [Act.put, List.setIfInBounds_toArray, List.set_cons_zero, List.set_cons_succ, i64_w, i32_w]; rfl)
                refine pure_ (i := 29) (N := some 148) (v := ?_) (a' := ?_) #[yy, yy, yy, yy, yy, yy, yy, yy, yy, yy, yy, yy, yy, yy, yy, yy, yy, yy, yy, yy, yy, yy, yy, yy, yy, yy, yy, yy, yy, yy, nn, nn, nn, nn, nn, nn, nn, nn, nn, nn] rfl rfl (any_of HT_.out (by kernel_rfl)) (fun _ _ _ h => h) (Or.inl ⟨by rfl, ?_⟩) ?_ ?_
                rotate_left; (· intro w'; go_simp; with_reducible rfl)
                rotate_left; (· simp only [Act.put, List.setIfInBounds_toArray, List.set_cons_zero, List.set_cons_succ, i64_w, i32_w]; rfl)
                refine pure_ (i := 30) (N := some 149) (v := ?_) (a' := ?_) #[yy, yy, yy, yy, yy, yy, yy, yy, yy, yy, yy, yy, yy, yy, yy, yy, yy, yy, yy, yy, yy, yy, yy, yy, yy, yy, yy, yy, yy, yy, yy, nn, nn, nn, nn, nn, nn, nn, nn, nn] rfl rfl (any_of HT_.out (by kernel_rfl)) (fun _ _ _ h => h) (Or.inl ⟨by rfl, ?_⟩) ?_ ?_
                rotate_left; (· intro w'; go_simp; with_reducible rfl)
                rotate_left; (· simp only [Act.put, List.setIfInBounds_toArray, List.set_cons_zero, List.set_cons_succ, i64_w, i32_w]; rfl)
                refine pure_ (i := 32) (N := some 151) (v := ?_) (a' := ?_) #[yy, yy, yy, yy, yy, yy, yy, yy, yy, yy, yy, yy, yy, yy, yy, yy, yy, yy, yy, yy, yy, yy, yy, yy, yy, yy, yy, yy, yy, yy, yy, nn, yy, nn, nn, nn, nn, nn, nn, nn] rfl rfl (any_of HT_.out (by kernel_rfl)) (fun _ _ _ h => h) (Or.inl ⟨by rfl, ?_⟩) ?_ ?_
                rotate_left; (· intro w'; go_simp; with_reducible rfl)
                rotate_left; (· simp only [Act.put, List.setIfInBounds_toArray, List.set_cons_zero, List.set_cons_succ, i64_w, i32_w]; rfl)
                refine pure_ (i := 33) (N := some 152) (v := ?_) (a' := ?_) #[yy, yy, yy, yy, yy, yy, yy, yy, yy, yy, yy, yy, yy, yy, yy, yy, yy, yy, yy, yy, yy, yy, yy, yy, yy, yy, yy, yy, yy, yy, yy, nn, yy, yy, nn, nn, nn, nn, nn, nn] rfl rfl (any_of HT_.out (by kernel_rfl)) (fun _ _ _ h => h) (Or.inl ⟨by rfl, ?_⟩) ?_ ?_
                rotate_left; (· intro w'; go_simp; with_reducible rfl)
                rotate_left; (· simp only [Act.put, List.setIfInBounds_toArray, List.set_cons_zero, List.set_cons_succ, i64_w, i32_w]; rfl)
                refine take_ (i := 31) (N := some 150) (v := ?_) (a' := ?_) #[yy, yy, yy, yy, yy, yy, yy, yy, yy, yy, yy, yy, yy, yy, yy, yy, yy, yy, yy, yy, yy, yy, yy, yy, yy, yy, yy, yy, yy, yy, yy, yy, yy, yy, nn, nn, nn, nn, nn, nn] rfl rfl (take_ofW HT_.out HW_.out (by kernel_rfl)) (fun _ _ _ h => h) (Or.inl ⟨by rfl, ?_⟩) hHeld ?_ ?_
                rotate_left; (· rintro w' ⟨s0, s1, s2, s3, s4, s5, s6, s7, s8, s9, s10, s11, s12, s13, s14, s15, s16, s17, s18, s19⟩; go_simp; with_reducible rfl)
                rotate_left; (· simp only [Act.put, List.setIfInBounds_toArray, List.set_cons_zero, List.set_cons_succ, i64_w, i32_w]; rfl)
                refine take_ (i := 34) (N := some 153) (v := ?_) (a' := ?_) #[yy, yy, yy, yy, yy, yy, yy, yy, yy, yy, yy, yy, yy, yy, yy, yy, yy, yy, yy, yy, yy, yy, yy, yy, yy, yy, yy, yy, yy, yy, yy, yy, yy, yy, yy, nn, nn, nn, nn, nn] rfl rfl (take_ofW HT_.out HW_.out (by kernel_rfl)) (fun _ _ _ h => h) (Or.inl ⟨by rfl, ?_⟩) hHeld ?_ ?_
                rotate_left; (· rintro w' ⟨s0, s1, s2, s3, s4, s5, s6, s7, s8, s9, s10, s11, s12, s13, s14, s15, s16, s17, s18, s19⟩; go_simp; with_reducible rfl)
                rotate_left; (· simp only [Act.put, List.setIfInBounds_toArray, List.set_cons_zero, List.set_cons_succ, i64_w, i32_w]; rfl)
                refine pure_ (i := 35) (N := some 154) (v := ?_) (a' := ?_) #[yy, yy, yy, yy, yy, yy, yy, yy, yy, yy, yy, yy, yy, yy, yy, yy, yy, yy, yy, yy, yy, yy, yy, yy, yy, yy, yy, yy, yy, yy, yy, yy, yy, yy, yy, yy, nn, nn, nn, nn] rfl rfl (any_of HT_.out (by kernel_rfl)) (fun _ _ _ h => h) (Or.inl ⟨by rfl, ?_⟩) ?_ ?_
                rotate_left; (· intro w'; go_simp; with_reducible rfl)
                rotate_left; (· simp only [Act.put, List.setIfInBounds_toArray, List.set_cons_zero, List.set_cons_succ, i64_w, i32_w]; rfl)
                refine take_ (i := 36) (N := some 155) (v := ?_) (a' := ?_) #[yy, yy, yy, yy, yy, yy, yy, yy, yy, yy, yy, yy, yy, yy, yy, yy, yy, yy, yy, yy, yy, yy, yy, yy, yy, yy, yy, yy, yy, yy, yy, yy, yy, yy, yy, yy, yy, nn, nn, nn] rfl rfl (take_ofW HT_.out HW_.out (by kernel_rfl)) (fun _ _ _ h => h) (Or.inl ⟨by rfl, ?_⟩) hHeld ?_ ?_
                rotate_left; (· rintro w' ⟨s0, s1, s2, s3, s4, s5, s6, s7, s8, s9, s10, s11, s12, s13, s14, s15, s16, s17, s18, s19⟩; go_simp; with_reducible rfl)
                rotate_left; (· simp only [Act.put, List.setIfInBounds_toArray, List.set_cons_zero, List.set_cons_succ, i64_w, i32_w]; rfl)
                refine one_ (i := 37) (N := some 156) #[yy, yy, yy, yy, yy, yy, yy, yy, yy, yy, yy, yy, yy, yy, yy, yy, yy, yy, yy, yy, yy, yy, yy, yy, yy, yy, yy, yy, yy, yy, yy, yy, yy, yy, yy, yy, yy, yy, nn, nn] rfl rfl (one_of HT_.out (by kernel_rfl)) (by decide) (fun K hK => ?_)
                refine goes_ Try.func9 (by kernel_rfl) rfl #[.agg #[.int .i64 ((rd_T36 l1 x115_2).f3.f0), .int .i64 ((rd_T36 l1 x115_2).f3.f1), .string ((rd_T36 l1 x115_2).f3.f2)], .agg #[.int .i64 ((rd_T23 t117 ((rd_T36 l1 x115_2).f1)).f0), .int .i64 ((rd_T23 t117 ((rd_T36 l1 x115_2).f1)).f1), .string ((rd_T23 t117 ((rd_T36 l1 x115_2).f1)).f2)]] (by rfl) rfl rfl (by (try simp only [List.map_toArray, List.map_cons, List.map_nil]); first | done | rfl | (simp only [List.length_drop, List.length_take]; rfl)) ?_
                with_reducible refine (assessorref09_Exclude.calls k2 ((rd_T36 l1 x115_2).f3.f0) ((rd_T36 l1 x115_2).f3.f1) ((rd_T36 l1 x115_2).f3.f2) ((rd_T23 t117 ((rd_T36 l1 x115_2).f1)).f0) ((rd_T23 t117 ((rd_T36 l1 x115_2).f1)).f1) ((rd_T23 t117 ((rd_T36 l1 x115_2).f1)).f2) false _ A52.out).mono ?_
                rintro e w58 ⟨rfl, hb⟩
                have HS8_ := (hb.cell (World.block_lt_of_cell? _ _ (hHeld.2.2.2.2.2.2.2.2.1))).trans (hHeld.2.2.2.2.2.2.2.2.1)
                have HS9_ := (hb.cell (World.block_lt_of_cell? _ _ (hHeld.2.2.2.2.2.2.2.2.2.1))).trans (hHeld.2.2.2.2.2.2.2.2.2.1)
                have HS10_ := (hb.cell (World.block_lt_of_cell? _ _ (hHeld.2.2.2.2.2.2.2.2.2.2.1))).trans (hHeld.2.2.2.2.2.2.2.2.2.2.1)
                have HS11_ := (hb.cell (World.block_lt_of_cell? _ _ (hHeld.2.2.2.2.2.2.2.2.2.2.2.1))).trans (hHeld.2.2.2.2.2.2.2.2.2.2.2.1)
                have HS12_ := (hb.cell (World.block_lt_of_cell? _ _ (hHeld.2.2.2.2.2.2.2.2.2.2.2.2.1))).trans (hHeld.2.2.2.2.2.2.2.2.2.2.2.2.1)
                have HS13_ := (hb.cell (World.block_lt_of_cell? _ _ (hHeld.2.2.2.2.2.2.2.2.2.2.2.2.2.1))).trans (hHeld.2.2.2.2.2.2.2.2.2.2.2.2.2.1)
                have HS14_ := (hb.cell (World.block_lt_of_cell? _ _ (hHeld.2.2.2.2.2.2.2.2.2.2.2.2.2.2.1))).trans (hHeld.2.2.2.2.2.2.2.2.2.2.2.2.2.2.1)
                have HS15_ := (hb.cell (World.block_lt_of_cell? _ _ (hHeld.2.2.2.2.2.2.2.2.2.2.2.2.2.2.2.1))).trans (hHeld.2.2.2.2.2.2.2.2.2.2.2.2.2.2.2.1)
                have HS16_ := (hb.cell (World.block_lt_of_cell? _ _ (hHeld.2.2.2.2.2.2.2.2.2.2.2.2.2.2.2.2.1))).trans (hHeld.2.2.2.2.2.2.2.2.2.2.2.2.2.2.2.2.1)
                have HS17_ := (hb.cell (World.block_lt_of_cell? _ _ (hHeld.2.2.2.2.2.2.2.2.2.2.2.2.2.2.2.2.2.1))).trans (hHeld.2.2.2.2.2.2.2.2.2.2.2.2.2.2.2.2.2.1)
                have HS18_ := (hb.cell (World.block_lt_of_cell? _ _ (hHeld.2.2.2.2.2.2.2.2.2.2.2.2.2.2.2.2.2.2.1))).trans (hHeld.2.2.2.2.2.2.2.2.2.2.2.2.2.2.2.2.2.2.1)
                have HS19_ := (hb.cell (World.block_lt_of_cell? _ _ (hHeld.2.2.2.2.2.2.2.2.2.2.2.2.2.2.2.2.2.2.2))).trans (hHeld.2.2.2.2.2.2.2.2.2.2.2.2.2.2.2.2.2.2.2)
                refine ⟨_, rfl, ?_⟩
                have n0_ := Aside0.mk (Kd.R_below (by (with_reducible repeat (first | apply Kd.R_alloc | apply Kd.R_drewN | apply Kd.R_drew)); exact HO_5.out) hb)
                have n1_ := Aside0.mk (blk_below (g := gb145) (o := .cells #[.int .i64 ((rd_T36 l1 x115_2).f0), .int .i64 ((rd_T36 l1 x115_2).f1), .int .i64 ((rd_T36 l1 x115_2).f2), .int .i64 ((rd_T36 l1 x115_2).f3.f0), .int .i64 ((rd_T36 l1 x115_2).f3.f1), .string ((rd_T36 l1 x115_2).f3.f2), .int .i64 ((rd_T36 l1 x115_2).f4), .int .i64 ((rd_T36 l1 x115_2).f5)] 36 (0, 0)) (by (with_reducible repeat (first | refine blk_drewN ?_ _ | refine blk_drew ?_ | refine blk_alloc ?_ _)); exact BK145.out) hb)
                have n2_ := Aside0.mk (below_step (by repeat (first | (with_reducible first | exact HB.out | apply below_alloc | apply pw_below_drewN | apply below_drew1 | refine below_set ?_ GE145.out) | exact HB.out)) hb)
                clear HO_5
                clear BK145
                clear HB
                have HO_5 := n0_
                have BK145 := n1_
                have HB := n2_
                clear n0_ n1_ n2_
                (try clear hb)
                (try clear hb2)
                (try clear hk)
                (try clear hi)
                refine hK.out _ _ ⟨(blk_cell BK145.out 0).trans rfl, (blk_cell BK145.out 1).trans rfl, (blk_cell BK145.out 2).trans rfl, (blk_cell BK145.out 3).trans rfl, (blk_cell BK145.out 4).trans rfl, (blk_cell BK145.out 5).trans rfl, (blk_cell BK145.out 6).trans rfl, (blk_cell BK145.out 7).trans rfl, HS8_, HS9_, HS10_, HS11_, HS12_, HS13_, HS14_, HS15_, HS16_, HS17_, HS18_, HS19_⟩ (fun hHeld => ?_)
                clear hK K
                refine norm_ (a' := ?_) ?_ ?_
                rotate_left; (· show Act.put _ (some 156) _ = _; simp only [Act.put, List.setIfInBounds_toArray, List.set_cons_zero, List.set_cons_succ, i64_w, i32_w]; rfl)
                refine pure_ (i := 38) (N := some 157) (v := ?_) (a' := ?_) #[yy, yy, yy, yy, yy, yy, yy, yy, yy, yy, yy, yy, yy, yy, yy, yy, yy, yy, yy, yy, yy, yy, yy, yy, yy, yy, yy, yy, yy, yy, yy, yy, yy, yy, yy, yy, yy, yy, yy, nn] rfl rfl (any_of HT_.out (by kernel_rfl)) (fun _ _ _ h => h) (Or.inl ⟨by rfl, ?_⟩) ?_ ?_
                rotate_left; (· intro w'; go_simp; with_reducible rfl)
                rotate_left; (· simp only [Act.put, List.setIfInBounds_toArray, List.set_cons_zero, List.set_cons_succ, i64_w, i32_w]; rfl)
                refine pure_ (i := 39) (N := some 158) (v := ?_) (a' := ?_) #[yy, yy, yy, yy, yy, yy, yy, yy, yy, yy, yy, yy, yy, yy, yy, yy, yy, yy, yy, yy, yy, yy, yy, yy, yy, yy, yy, yy, yy, yy, yy, yy, yy, yy, yy, yy, yy, yy, yy, yy] rfl rfl (any_of HT_.out (by kernel_rfl)) (fun _ _ _ h => h) (Or.inl ⟨by rfl, ?_⟩) ?_ ?_
                rotate_left; (· intro w'; go_simp; with_reducible rfl)
                rotate_left; (· simp only [Act.put, List.setIfInBounds_toArray, List.set_cons_zero, List.set_cons_succ, i64_w, i32_w]; rfl)
                refine done_ (done_of HT_.out (by kernel_rfl)) ?_
                try go_wp2
                go_roundg k2
                case measure => have := HK1.out; have := HK2.out; omega
                case rel => exact ⟨(wrap64 (x115_2 + 1)), (by first | rfl | (simp; done) | (simp [*]; done)), H', ⟨by have := HK1.out; have := HK2.out; omega⟩, ⟨by (with_reducible repeat (first | apply Kd.R_alloc | apply Kd.R_drewN | apply Kd.R_drew)); exact HO_5.out⟩, ⟨by repeat (first | (with_reducible first | exact HB.out | apply below_alloc | apply pw_below_drewN | apply below_drew1 | refine below_set ?_ GE145.out) | exact HB.out)⟩⟩
              ·
               rw [if_neg c51] at H
               have c51b0 : (!(((rd_T23 t117 ((rd_T36 l1 x115_2).f1)).f0) == 0) || (!(((rd_T23 t117 ((rd_T36 l1 x115_2).f1)).f1) == 0) || (!((((rd_T23 t117 ((rd_T36 l1 x115_2).f1)).f2).toList) == ([] : List UInt8))))) = false := by simpa using c51
               have c51e0 := c51b0
               simp only [isEmpty_beq] at c51e0
               clear c51
               have H' := Aside0.mk H
               clear H
               have p144 : 0 ≤ (x115_2 : Int) := of_decide_eq_true (by first | (with_reducible assumption) | assumption)
               have q144 : x115_2 < (l1.length : Int) := of_decide_eq_true (by first | (with_reducible assumption) | assumption)
               obtain ⟨ad144, e144, hx144_0, hx144_1, hx144_2, hx144_3, hx144_4, hx144_5, hx144_6, hx144_7⟩ := at_T36 HR1.out x115_2 p144 q144
               cases e144
               replace hx144_0 := (HB.out.cell (World.block_lt_of_cell? w _ hx144_0)).trans hx144_0
               replace hx144_1 := (HB.out.cell (World.block_lt_of_cell? w _ hx144_1)).trans hx144_1
               replace hx144_2 := (HB.out.cell (World.block_lt_of_cell? w _ hx144_2)).trans hx144_2
               replace hx144_3 := (HB.out.cell (World.block_lt_of_cell? w _ hx144_3)).trans hx144_3
               replace hx144_4 := (HB.out.cell (World.block_lt_of_cell? w _ hx144_4)).trans hx144_4
               replace hx144_5 := (HB.out.cell (World.block_lt_of_cell? w _ hx144_5)).trans hx144_5
               replace hx144_6 := (HB.out.cell (World.block_lt_of_cell? w _ hx144_6)).trans hx144_6
               replace hx144_7 := (HB.out.cell (World.block_lt_of_cell? w _ hx144_7)).trans hx144_7
               replace p144 := eq_true p144
               replace q144 := eq_true q144
               try go_wp2_with (first | ((with_reducible refine gate_dst (N := 17) rfl ?_); (try (refine gate_guard (by rfl) ?_; dsimp only)); refine box_event ?hg (N := 17) ?hd (cs := #[.int .i64 0, .int .i64 0, .int .i64 0, .int .i64 0, .int .i64 0, .string (⟨#[]⟩ : ByteArray), .int .i64 0, .int .i64 0]) (t := 36) ?hr ?_; (case hd => rfl); (case hg => rfl); (case hr => first | (go_simp; done) | (go_simp; rfl)); intro gb145 hg w59 hbox hb; have n0_ := Aside0.mk (Kd.R_below (by (with_reducible repeat (first | apply Kd.R_alloc | apply Kd.R_drewN | apply Kd.R_drew)); exact HO_5.out) hb); have n1_ := Aside0.mk (below_step (by repeat (first | (with_reducible first | exact HB.out | apply below_alloc | apply pw_below_drewN | apply below_drew1) | exact HB.out)) hb); have n2_ := Aside0.mk (hbox); have n3_ := Aside0.mk ((by rw [hg]; exact (below_size (by repeat (first | (with_reducible first | exact HB.out | apply below_alloc | apply pw_below_drewN | apply below_drew1) | exact HB.out))) : w.heap.size ≤ gb145)); have n4_ := Aside0.mk ((by rw [hg]; exact (below_size (by repeat (first | (with_reducible first | exact HB.out | apply below_alloc | apply pw_below_drewN | apply below_drew1) | exact HB.out))) : w.heap.size ≤ gb145)); clear HO_5; clear HB; have HO_5 := n0_; have HB := n1_; have BK145 := n2_; have GW145 := n3_; have GE145 := n4_; clear n0_ n1_ n2_ n3_ n4_; clear hb hbox hg; have hcz60_0 : w59.cell? ⟨gb145, 0, none⟩ = some (.int .i64 0) := (blk_cell BK145.out 0).trans rfl; have hcz60_1 : w59.cell? ⟨gb145, 1, none⟩ = some (.int .i64 0) := (blk_cell BK145.out 1).trans rfl; have hcz60_2 : w59.cell? ⟨gb145, 2, none⟩ = some (.int .i64 0) := (blk_cell BK145.out 2).trans rfl; have hcz60_3 : w59.cell? ⟨gb145, 3, none⟩ = some (.int .i64 0) := (blk_cell BK145.out 3).trans rfl; have hcz60_4 : w59.cell? ⟨gb145, 4, none⟩ = some (.int .i64 0) := (blk_cell BK145.out 4).trans rfl; have hcz60_5 : w59.cell? ⟨gb145, 5, none⟩ = some (.string (⟨#[]⟩ : ByteArray)) := (blk_cell BK145.out 5).trans rfl; have hcz60_6 : w59.cell? ⟨gb145, 6, none⟩ = some (.int .i64 0) := (blk_cell BK145.out 6).trans rfl; have hcz60_7 : w59.cell? ⟨gb145, 7, none⟩ = some (.int .i64 0) := (blk_cell BK145.out 7).trans rfl; have hfz60_0 := blk_frozen BK145.out 0; have hfz60_1 := blk_frozen BK145.out 1; have hfz60_2 := blk_frozen BK145.out 2; have hfz60_3 := blk_frozen BK145.out 3; have hfz60_4 := blk_frozen BK145.out 4; have hfz60_5 := blk_frozen BK145.out 5; have hfz60_6 := blk_frozen BK145.out 6; have hfz60_7 := blk_frozen BK145.out 7))
               have n0_ : Aside0 (Kd.R k23 23 ((((((((w59.setCell ⟨gb145, 0, none⟩ (.int .i64 ((rd_T36 l1 x115_2).f0))).setCell ⟨gb145, 1, none⟩ (.int .i64 ((rd_T36 l1 x115_2).f1))).setCell ⟨gb145, 2, none⟩ (.int .i64 ((rd_T36 l1 x115_2).f2))).setCell ⟨gb145, 3, none⟩ (.int .i64 ((rd_T36 l1 x115_2).f3.f0))).setCell ⟨gb145, 4, none⟩ (.int .i64 ((rd_T36 l1 x115_2).f3.f1))).setCell ⟨gb145, 5, none⟩ (.string ((rd_T36 l1 x115_2).f3.f2))).setCell ⟨gb145, 6, none⟩ (.int .i64 ((rd_T36 l1 x115_2).f4))).setCell ⟨gb145, 7, none⟩ (.int .i64 ((rd_T36 l1 x115_2).f5))) w.heap.size (fun _ => True) (.slice Ao12 t117.length co12) t117) := ⟨by (with_reducible repeat (first | apply Kd.R_alloc | apply Kd.R_drewN | apply Kd.R_drew)); exact Kd.R_mono (Kd.R_far (p := ⟨gb145, 7, none⟩) (Kd.R_far (p := ⟨gb145, 6, none⟩) (Kd.R_far (p := ⟨gb145, 5, none⟩) (Kd.R_far (p := ⟨gb145, 4, none⟩) (Kd.R_far (p := ⟨gb145, 3, none⟩) (Kd.R_far (p := ⟨gb145, 2, none⟩) (Kd.R_far (p := ⟨gb145, 1, none⟩) (Kd.R_far (p := ⟨gb145, 0, none⟩) (Kd.R_types HO_5.out BK145.out (by decide)) (fun _ hk => hk.2) (.int .i64 ((rd_T36 l1 x115_2).f0))) (fun _ hk => hk.2) (.int .i64 ((rd_T36 l1 x115_2).f1))) (fun _ hk => hk.2) (.int .i64 ((rd_T36 l1 x115_2).f2))) (fun _ hk => hk.2) (.int .i64 ((rd_T36 l1 x115_2).f3.f0))) (fun _ hk => hk.2) (.int .i64 ((rd_T36 l1 x115_2).f3.f1))) (fun _ hk => hk.2) (.string ((rd_T36 l1 x115_2).f3.f2))) (fun _ hk => hk.2) (.int .i64 ((rd_T36 l1 x115_2).f4))) (fun _ hk => hk.2) (.int .i64 ((rd_T36 l1 x115_2).f5))) (fun _ hk => trivial)⟩
               have n1_ : Aside0 (((((((((w59.setCell ⟨gb145, 0, none⟩ (.int .i64 ((rd_T36 l1 x115_2).f0))).setCell ⟨gb145, 1, none⟩ (.int .i64 ((rd_T36 l1 x115_2).f1))).setCell ⟨gb145, 2, none⟩ (.int .i64 ((rd_T36 l1 x115_2).f2))).setCell ⟨gb145, 3, none⟩ (.int .i64 ((rd_T36 l1 x115_2).f3.f0))).setCell ⟨gb145, 4, none⟩ (.int .i64 ((rd_T36 l1 x115_2).f3.f1))).setCell ⟨gb145, 5, none⟩ (.string ((rd_T36 l1 x115_2).f3.f2))).setCell ⟨gb145, 6, none⟩ (.int .i64 ((rd_T36 l1 x115_2).f4))).setCell ⟨gb145, 7, none⟩ (.int .i64 ((rd_T36 l1 x115_2).f5))).heap[gb145]? = some (.cells #[.int .i64 ((rd_T36 l1 x115_2).f0), .int .i64 ((rd_T36 l1 x115_2).f1), .int .i64 ((rd_T36 l1 x115_2).f2), .int .i64 ((rd_T36 l1 x115_2).f3.f0), .int .i64 ((rd_T36 l1 x115_2).f3.f1), .string ((rd_T36 l1 x115_2).f3.f2), .int .i64 ((rd_T36 l1 x115_2).f4), .int .i64 ((rd_T36 l1 x115_2).f5)] 36 (0, 0))) := ⟨by (with_reducible repeat (first | refine blk_drewN ?_ _ | refine blk_drew ?_ | refine blk_alloc ?_ _)); refine blk_put (cs := #[.int .i64 ((rd_T36 l1 x115_2).f0), .int .i64 ((rd_T36 l1 x115_2).f1), .int .i64 ((rd_T36 l1 x115_2).f2), .int .i64 ((rd_T36 l1 x115_2).f3.f0), .int .i64 ((rd_T36 l1 x115_2).f3.f1), .string ((rd_T36 l1 x115_2).f3.f2), .int .i64 ((rd_T36 l1 x115_2).f4), .int .i64 0]) ?_ 7 _ rfl; (with_reducible repeat (first | refine blk_drewN ?_ _ | refine blk_drew ?_ | refine blk_alloc ?_ _)); refine blk_put (cs := #[.int .i64 ((rd_T36 l1 x115_2).f0), .int .i64 ((rd_T36 l1 x115_2).f1), .int .i64 ((rd_T36 l1 x115_2).f2), .int .i64 ((rd_T36 l1 x115_2).f3.f0), .int .i64 ((rd_T36 l1 x115_2).f3.f1), .string ((rd_T36 l1 x115_2).f3.f2), .int .i64 0, .int .i64 0]) ?_ 6 _ rfl; (with_reducible repeat (first | refine blk_drewN ?_ _ | refine blk_drew ?_ | refine blk_alloc ?_ _)); refine blk_put (cs := #[.int .i64 ((rd_T36 l1 x115_2).f0), .int .i64 ((rd_T36 l1 x115_2).f1), .int .i64 ((rd_T36 l1 x115_2).f2), .int .i64 ((rd_T36 l1 x115_2).f3.f0), .int .i64 ((rd_T36 l1 x115_2).f3.f1), .string (⟨#[]⟩ : ByteArray), .int .i64 0, .int .i64 0]) ?_ 5 _ rfl; (with_reducible repeat (first | refine blk_drewN ?_ _ | refine blk_drew ?_ | refine blk_alloc ?_ _)); refine blk_put (cs := #[.int .i64 ((rd_T36 l1 x115_2).f0), .int .i64 ((rd_T36 l1 x115_2).f1), .int .i64 ((rd_T36 l1 x115_2).f2), .int .i64 ((rd_T36 l1 x115_2).f3.f0), .int .i64 0, .string (⟨#[]⟩ : ByteArray), .int .i64 0, .int .i64 0]) ?_ 4 _ rfl; (with_reducible repeat (first | refine blk_drewN ?_ _ | refine blk_drew ?_ | refine blk_alloc ?_ _)); refine blk_put (cs := #[.int .i64 ((rd_T36 l1 x115_2).f0), .int .i64 ((rd_T36 l1 x115_2).f1), .int .i64 ((rd_T36 l1 x115_2).f2), .int .i64 0, .int .i64 0, .string (⟨#[]⟩ : ByteArray), .int .i64 0, .int .i64 0]) ?_ 3 _ rfl; (with_reducible repeat (first | refine blk_drewN ?_ _ | refine blk_drew ?_ | refine blk_alloc ?_ _)); refine blk_put (cs := #[.int .i64 ((rd_T36 l1 x115_2).f0), .int .i64 ((rd_T36 l1 x115_2).f1), .int .i64 0, .int .i64 0, .int .i64 0, .string (⟨#[]⟩ : ByteArray), .int .i64 0, .int .i64 0]) ?_ 2 _ rfl; (with_reducible repeat (first | refine blk_drewN ?_ _ | refine blk_drew ?_ | refine blk_alloc ?_ _)); refine blk_put (cs := #[.int .i64 ((rd_T36 l1 x115_2).f0), .int .i64 0, .int .i64 0, .int .i64 0, .int .i64 0, .string (⟨#[]⟩ : ByteArray), .int .i64 0, .int .i64 0]) ?_ 1 _ rfl; (with_reducible repeat (first | refine blk_drewN ?_ _ | refine blk_drew ?_ | refine blk_alloc ?_ _)); refine blk_put (cs := #[.int .i64 0, .int .i64 0, .int .i64 0, .int .i64 0, .int .i64 0, .string (⟨#[]⟩ : ByteArray), .int .i64 0, .int .i64 0]) ?_ 0 _ rfl; (with_reducible repeat (first | refine blk_drewN ?_ _ | refine blk_drew ?_ | refine blk_alloc ?_ _)); exact BK145.out⟩
               have n2_ : Aside0 (Below w.heap.size w ((((((((w59.setCell ⟨gb145, 0, none⟩ (.int .i64 ((rd_T36 l1 x115_2).f0))).setCell ⟨gb145, 1, none⟩ (.int .i64 ((rd_T36 l1 x115_2).f1))).setCell ⟨gb145, 2, none⟩ (.int .i64 ((rd_T36 l1 x115_2).f2))).setCell ⟨gb145, 3, none⟩ (.int .i64 ((rd_T36 l1 x115_2).f3.f0))).setCell ⟨gb145, 4, none⟩ (.int .i64 ((rd_T36 l1 x115_2).f3.f1))).setCell ⟨gb145, 5, none⟩ (.string ((rd_T36 l1 x115_2).f3.f2))).setCell ⟨gb145, 6, none⟩ (.int .i64 ((rd_T36 l1 x115_2).f4))).setCell ⟨gb145, 7, none⟩ (.int .i64 ((rd_T36 l1 x115_2).f5)))) := ⟨by repeat (first | (with_reducible first | exact HB.out | apply below_alloc | apply pw_below_drewN | apply below_drew1 | refine below_set ?_ GE145.out) | exact HB.out)⟩
               (try clear HO_5)
               (try clear BK145)
               (try clear HB)
               generalize ((((((((w59.setCell ⟨gb145, 0, none⟩ (.int .i64 ((rd_T36 l1 x115_2).f0))).setCell ⟨gb145, 1, none⟩ (.int .i64 ((rd_T36 l1 x115_2).f1))).setCell ⟨gb145, 2, none⟩ (.int .i64 ((rd_T36 l1 x115_2).f2))).setCell ⟨gb145, 3, none⟩ (.int .i64 ((rd_T36 l1 x115_2).f3.f0))).setCell ⟨gb145, 4, none⟩ (.int .i64 ((rd_T36 l1 x115_2).f3.f1))).setCell ⟨gb145, 5, none⟩ (.string ((rd_T36 l1 x115_2).f3.f2))).setCell ⟨gb145, 6, none⟩ (.int .i64 ((rd_T36 l1 x115_2).f4))).setCell ⟨gb145, 7, none⟩ (.int .i64 ((rd_T36 l1 x115_2).f5))) = w61 at n0_ n1_ n2_ ⊢
               have HO_5 := n0_
               have BK145 := n1_
               have HB := n2_
               clear n0_ n1_ n2_
               have n0_ := Aside0.mk (Kd.R_drew HO_5.out)
               have n1_ := Aside0.mk (blk_drew BK145.out)
               have n2_ := Aside0.mk (below_drew1 HB.out)
               clear HO_5
               clear BK145
               clear HB
               have HO_5 := n0_
               have BK145 := n1_
               have HB := n2_
               clear n0_ n1_ n2_
               have p146 : 0 ≤ (((rd_T36 l1 x115_2).f1) : Int) := of_decide_eq_true (by first | (with_reducible assumption) | assumption)
               have q146 : ((rd_T36 l1 x115_2).f1) < (t117.length : Int) := of_decide_eq_true (by first | (with_reducible assumption) | assumption)
               obtain ⟨ad146, e146, hx146_0, hx146_1, hx146_2⟩ := at_T23 (Kd.R_reads' HO_5.out).2.2 ((rd_T36 l1 x115_2).f1) p146 q146
               cases e146
               replace p146 := eq_true p146
               replace q146 := eq_true q146
               have p147 : 0 ≤ (((rd_T36 l1 x115_2).f2) : Int) := of_decide_eq_true (by first | (with_reducible assumption) | assumption)
               have q147 : ((rd_T36 l1 x115_2).f2) < (t117.length : Int) := of_decide_eq_true (by first | (with_reducible assumption) | assumption)
               obtain ⟨ad147, e147, hx147_0, hx147_1, hx147_2⟩ := at_T23 (Kd.R_reads' HO_5.out).2.2 ((rd_T36 l1 x115_2).f2) p147 q147
               obtain rfl : ad146 = ad147 := (by injection e147)
               replace p147 := eq_true p147
               replace q147 := eq_true q147
               have p148 : 0 ≤ (((rd_T36 l1 x115_2).f1) : Int) := of_decide_eq_true (by first | (with_reducible assumption) | assumption)
               have q148 : ((rd_T36 l1 x115_2).f1) < (t117.length : Int) := of_decide_eq_true (by first | (with_reducible assumption) | assumption)
               obtain ⟨ad148, e148, hx148_0, hx148_1, hx148_2⟩ := at_T23 (Kd.R_reads' HO_5.out).2.2 ((rd_T36 l1 x115_2).f1) p148 q148
               obtain rfl : ad146 = ad148 := (by injection e148)
               replace p148 := eq_true p148
               replace q148 := eq_true q148
               refine start_ (n := 40) (S := fun w' => w'.cell? ⟨gb145, 0, none⟩ = some (.int .i64 ((rd_T36 l1 x115_2).f0)) ∧ w'.cell? ⟨gb145, 1, none⟩ = some (.int .i64 ((rd_T36 l1 x115_2).f1)) ∧ w'.cell? ⟨gb145, 2, none⟩ = some (.int .i64 ((rd_T36 l1 x115_2).f2)) ∧ w'.cell? ⟨gb145, 3, none⟩ = some (.int .i64 ((rd_T36 l1 x115_2).f3.f0)) ∧ w'.cell? ⟨gb145, 4, none⟩ = some (.int .i64 ((rd_T36 l1 x115_2).f3.f1)) ∧ w'.cell? ⟨gb145, 5, none⟩ = some (.string ((rd_T36 l1 x115_2).f3.f2)) ∧ w'.cell? ⟨gb145, 6, none⟩ = some (.int .i64 ((rd_T36 l1 x115_2).f4)) ∧ w'.cell? ⟨gb145, 7, none⟩ = some (.int .i64 ((rd_T36 l1 x115_2).f5)) ∧ w'.cell? (ad146.add ((((rd_T36 l1 x115_2).f1)).toNat * 3)) = some (.int .i64 ((rd_T23 t117 ((rd_T36 l1 x115_2).f1)).f0)) ∧ w'.cell? ⟨(ad146.add ((((rd_T36 l1 x115_2).f1)).toNat * 3)).block, (ad146.add ((((rd_T36 l1 x115_2).f1)).toNat * 3)).off + 1, none⟩ = some (.int .i64 ((rd_T23 t117 ((rd_T36 l1 x115_2).f1)).f1)) ∧ w'.cell? ⟨(ad146.add ((((rd_T36 l1 x115_2).f1)).toNat * 3)).block, (ad146.add ((((rd_T36 l1 x115_2).f1)).toNat * 3)).off + 2, none⟩ = some (.string ((rd_T23 t117 ((rd_T36 l1 x115_2).f1)).f2)) ∧ w'.cell? (ad146.add ((((rd_T36 l1 x115_2).f2)).toNat * 3)) = some (.int .i64 ((rd_T23 t117 ((rd_T36 l1 x115_2).f2)).f0)) ∧ w'.cell? ⟨(ad146.add ((((rd_T36 l1 x115_2).f2)).toNat * 3)).block, (ad146.add ((((rd_T36 l1 x115_2).f2)).toNat * 3)).off + 1, none⟩ = some (.int .i64 ((rd_T23 t117 ((rd_T36 l1 x115_2).f2)).f1)) ∧ w'.cell? ⟨(ad146.add ((((rd_T36 l1 x115_2).f2)).toNat * 3)).block, (ad146.add ((((rd_T36 l1 x115_2).f2)).toNat * 3)).off + 2, none⟩ = some (.string ((rd_T23 t117 ((rd_T36 l1 x115_2).f2)).f2)) ∧ w'.cell? (ad146.add ((((rd_T36 l1 x115_2).f1)).toNat * 3)) = some (.int .i64 ((rd_T23 t117 ((rd_T36 l1 x115_2).f1)).f0)) ∧ w'.cell? ⟨(ad146.add ((((rd_T36 l1 x115_2).f1)).toNat * 3)).block, (ad146.add ((((rd_T36 l1 x115_2).f1)).toNat * 3)).off + 1, none⟩ = some (.int .i64 ((rd_T23 t117 ((rd_T36 l1 x115_2).f1)).f1)) ∧ w'.cell? ⟨(ad146.add ((((rd_T36 l1 x115_2).f1)).toNat * 3)).block, (ad146.add ((((rd_T36 l1 x115_2).f1)).toNat * 3)).off + 2, none⟩ = some (.string ((rd_T23 t117 ((rd_T36 l1 x115_2).f1)).f2))) (ds := []) #[nn, nn, nn, nn, nn, nn, nn, nn, nn, nn, nn, nn, nn, nn, nn, nn, nn, nn, nn, nn, nn, nn, nn, nn, nn, nn, nn, nn, nn, nn, nn, nn, nn, nn, nn, nn, nn, nn, nn, nn] (by kernel_rfl) rfl rfl ⟨(blk_cell BK145.out 0).trans rfl, (blk_cell BK145.out 1).trans rfl, (blk_cell BK145.out 2).trans rfl, (blk_cell BK145.out 3).trans rfl, (blk_cell BK145.out 4).trans rfl, (blk_cell BK145.out 5).trans rfl, (blk_cell BK145.out 6).trans rfl, (blk_cell BK145.out 7).trans rfl, hx146_0, hx146_1, hx146_2, hx147_0, hx147_1, hx147_2, hx148_0, hx148_1, hx148_2⟩ (fun hHeld => ?_); refine with_tabW assessorlaw09_ConstraintsChains.tab28 assessorlaw09_ConstraintsChains.bits28 (fun HT_ HW_ => ?_)
               generalize w61.drew = w62 at HO_5 BK145 HB hx146_0 hx146_1 hx146_2 hx147_0 hx147_1 hx147_2 hx148_0 hx148_1 hx148_2 hHeld ⊢
               refine pure_ (i := 0) (N := some 119) (v := ?_) (a' := ?_) #[yy, nn, nn, nn, nn, nn, nn, nn, nn, nn, nn, nn, nn, nn, nn, nn, nn, nn, nn, nn, nn, nn, nn, nn, nn, nn, nn, nn, nn, nn, nn, nn, nn, nn, nn, nn, nn, nn, nn, nn] rfl rfl (any_of HT_.out (by kernel_rfl)) (fun _ _ _ h => h) (Or.inl ⟨by rfl, ?_⟩) ?_ ?_
               rotate_left; (· intro w'; go_simp; with_reducible rfl)
               rotate_left; (· simp only [Act.put, List.setIfInBounds_toArray, List.set_cons_zero, List.set_cons_succ, i64_w, i32_w]; rfl)
               refine take_ (i := 1) (N := some 120) (v := ?_) (a' := ?_) #[yy, yy, nn, nn, nn, nn, nn, nn, nn, nn, nn, nn, nn, nn, nn, nn, nn, nn, nn, nn, nn, nn, nn, nn, nn, nn, nn, nn, nn, nn, nn, nn, nn, nn, nn, nn, nn, nn, nn, nn] rfl rfl (take_ofW HT_.out HW_.out (by kernel_rfl)) (fun _ _ _ h => h) (Or.inl ⟨by rfl, ?_⟩) hHeld ?_ ?_
               rotate_left; (· rintro w' ⟨s0, s1, s2, s3, s4, s5, s6, s7, s8, s9, s10, s11, s12, s13, s14, s15, s16⟩; go_simp; with_reducible rfl)
               rotate_left; (· simp only [Act.put, List.setIfInBounds_toArray, List.set_cons_zero, List.set_cons_succ, i64_w, i32_w]; rfl)
               refine pure_ (i := 2) (N := some 121) (v := ?_) (a' := ?_) #[yy, yy, yy, nn, nn, nn, nn, nn, nn, nn, nn, nn, nn, nn, nn, nn, nn, nn, nn, nn, nn, nn, nn, nn, nn, nn, nn, nn, nn, nn, nn, nn, nn, nn, nn, nn, nn, nn, nn, nn] rfl rfl (any_of HT_.out (by kernel_rfl)) (fun _ _ _ h => h) (Or.inl ⟨by rfl, ?_⟩) ?_ ?_
               rotate_left; (· intro w'; go_simp; with_reducible rfl)
               rotate_left; (· simp only [Act.put, List.setIfInBounds_toArray, List.set_cons_zero, List.set_cons_succ, i64_w, i32_w]; rfl)
               refine pure_ (i := 3) (N := some 122) (v := ?_) (a' := ?_) #[yy, yy, yy, yy, nn, nn, nn, nn, nn, nn, nn, nn, nn, nn, nn, nn, nn, nn, nn, nn, nn, nn, nn, nn, nn, nn, nn, nn, nn, nn, nn, nn, nn, nn, nn, nn, nn, nn, nn, nn] rfl rfl (any_of HT_.out (by kernel_rfl)) (fun _ _ _ h => h) (Or.inl ⟨by rfl, ?_⟩) ?_ ?_
               rotate_left; (· intro w'; go_simp; with_reducible rfl)
               rotate_left; (· simp only [Act.put, List.setIfInBounds_toArray, List.set_cons_zero, List.set_cons_succ, i64_w, i32_w]; rfl)
               refine pure_ (i := 4) (N := some 123) (v := ?_) (a' := ?_) #[yy, yy, yy, yy, yy, nn, nn, nn, nn, nn, nn, nn, nn, nn, nn, nn, nn, nn, nn, nn, nn, nn, nn, nn, nn, nn, nn, nn, nn, nn, nn, nn, nn, nn, nn, nn, nn, nn, nn, nn] rfl rfl (any_of HT_.out (by kernel_rfl)) (fun _ _ _ h => h) (Or.inl ⟨by rfl, ?_⟩) ?_ ?_
               rotate_left; (· intro w'; go_simp; with_reducible rfl)
               rotate_left; (· simp only [Act.put, List.setIfInBounds_toArray, List.set_cons_zero, List.set_cons_succ, i64_w, i32_w]; rfl)
               refine pure_ (i := 5) (N := some 124) (v := ?_) (a' := ?_) #[yy, yy, yy, yy, yy, yy, nn, nn, nn, nn, nn, nn, nn, nn, nn, nn, nn, nn, nn, nn, nn, nn, nn, nn, nn, nn, nn, nn, nn, nn, nn, nn, nn, nn, nn, nn, nn, nn, nn, nn] rfl rfl (any_of HT_.out (by kernel_rfl)) (fun _ _ _ h => h) (Or.inl ⟨by rfl, ?_⟩) ?_ ?_
               rotate_left; (· intro w'; go_simp; with_reducible rfl)
               rotate_left; (· simp only [Act.put, List.setIfInBounds_toArray, List.set_cons_zero, List.set_cons_succ, i64_w, i32_w]; rfl)
               refine pure_ (i := 9) (N := some 128) (v := ?_) (a' := ?_) #[yy, yy, yy, yy, yy, yy, nn, nn, nn, yy, nn, nn, nn, nn, nn, nn, nn, nn, nn, nn, nn, nn, nn, nn, nn, nn, nn, nn, nn, nn, nn, nn, nn, nn, nn, nn, nn, nn, nn, nn] rfl rfl (any_of HT_.out (by kernel_rfl)) (fun _ _ _ h => h) (Or.inl ⟨by rfl, ?_⟩) ?_ ?_
               rotate_left; (· intro w'; go_simp; with_reducible rfl)
               rotate_left; (· simp only [Act.put, List.setIfInBounds_toArray, List.set_cons_zero, List.set_cons_succ, i64_w, i32_w]; rfl)
               refine pure_ (i := 10) (N := some 129) (v := ?_) (a' := ?_) #[yy, yy, yy, yy, yy, yy, nn, nn, nn, yy, yy, nn, nn, nn, nn, nn, nn, nn, nn, nn, nn, nn, nn, nn, nn, nn, nn, nn, nn, nn, nn, nn, nn, nn, nn, nn, nn, nn, nn, nn] rfl rfl (any_of HT_.out (by kernel_rfl)) (fun _ _ _ h => h) (Or.inl ⟨by rfl, ?_⟩) ?_ ?_
               rotate_left; (· intro w'; go_simp; with_reducible rfl)
               rotate_left; (· simp only [Act.put, List.setIfInBounds_toArray, List.set_cons_zero, List.set_cons_succ, i64_w, i32_w]; rfl)
               refine take_ (i := 6) (N := some 125) (v := ?_) (a' := ?_) #[yy, yy, yy, yy, yy, yy, yy, nn, nn, yy, yy, nn, nn, nn, nn, nn, nn, nn, nn, nn, nn, nn, nn, nn, nn, nn, nn, nn, nn, nn, nn, nn, nn, nn, nn, nn, nn, nn, nn, nn] rfl rfl (take_ofW HT_.out HW_.out (by kernel_rfl)) (fun _ _ _ h => h) (Or.inl ⟨by rfl, ?_⟩) hHeld ?_ ?_
               rotate_left; (· rintro w' ⟨s0, s1, s2, s3, s4, s5, s6, s7, s8, s9, s10, s11, s12, s13, s14, s15, s16⟩; go_simp; with_reducible rfl)
               rotate_left; (· simp only [Act.put, List.setIfInBounds_toArray, List.set_cons_zero, List.set_cons_succ, i64_w, i32_w]; rfl)
               refine pure_ (i := 7) (N := some 126) (v := ?_) (a' := ?_) #[yy, yy, yy, yy, yy, yy, yy, yy, nn, yy, yy, nn, nn, nn, nn, nn, nn, nn, nn, nn, nn, nn, nn, nn, nn, nn, nn, nn, nn, nn, nn, nn, nn, nn, nn, nn, nn, nn, nn, nn] rfl rfl (any_of HT_.out (by kernel_rfl)) (fun _ _ _ h => h) (Or.inl ⟨by rfl, ?_⟩) ?_ ?_
               rotate_left; (· intro w'; go_simp; with_reducible rfl)
               rotate_left; (· simp only [Act.put, List.setIfInBounds_toArray, List.set_cons_zero, List.set_cons_succ, i64_w, i32_w]; rfl)
               refine take_ (i := 8) (N := some 127) (v := ?_) (a' := ?_) #[yy, yy, yy, yy, yy, yy, yy, yy, yy, yy, yy, nn, nn, nn, nn, nn, nn, nn, nn, nn, nn, nn, nn, nn, nn, nn, nn, nn, nn, nn, nn, nn, nn, nn, nn, nn, nn, nn, nn, nn] rfl rfl (take_ofW HT_.out HW_.out (by kernel_rfl)) (fun _ _ _ h => h) (Or.inl ⟨by rfl, ?_⟩) hHeld ?_ ?_
               rotate_left; (· rintro w' ⟨s0, s1, s2, s3, s4, s5, s6, s7, s8, s9, s10, s11, s12, s13, s14, s15, s16⟩; go_simp; with_reducible rfl)
               rotate_left; (· simp only [Act.put, List.setIfInBounds_toArray, List.set_cons_zero, List.set_cons_succ, i64_w, i32_w]; rfl)
               refine take_ (i := 11) (N := some 130) (v := ?_) (a' := ?_) #[yy, yy, yy, yy, yy, yy, yy, yy, yy, yy, yy, yy, nn, nn, nn, nn, nn, nn, nn, nn, nn, nn, nn, nn, nn, nn, nn, nn, nn, nn, nn, nn, nn, nn, nn, nn, nn, nn, nn, nn] rfl rfl (take_ofW HT_.out HW_.out (by kernel_rfl)) (fun _ _ _ h => h) (Or.inl ⟨by rfl, ?_⟩) hHeld ?_ ?_
               rotate_left; (· rintro w' ⟨s0, s1, s2, s3, s4, s5, s6, s7, s8, s9, s10, s11, s12, s13, s14, s15, s16⟩; go_simp; with_reducible rfl)
               rotate_left; (· simp only [Act.put, List.setIfInBounds_toArray, List.set_cons_zero, List.set_cons_succ, i64_w, i32_w]; rfl)
               refine pure_ (i := 12) (N := some 131) (v := ?_) (a' := ?_) #[yy, yy, yy, yy, yy, yy, yy, yy, yy, yy, yy, yy, yy, nn, nn, nn, nn, nn, nn, nn, nn, nn, nn, nn, nn, nn, nn, nn, nn, nn, nn, nn, nn, nn, nn, nn, nn, nn, nn, nn] rfl rfl (any_of HT_.out (by kernel_rfl)) (fun _ _ _ h => h) (Or.inl ⟨by rfl, ?_⟩) ?_ ?_
               rotate_left; (· intro w'; go_simp; with_reducible rfl)
               rotate_left; (· simp only [Act.put, List.setIfInBounds_toArray, List.set_cons_zero, List.set_cons_succ, i64_w, i32_w]; rfl)
               refine take_ (i := 13) (N := some 132) (v := ?_) (a' := ?_) #[yy, yy, yy, yy, yy, yy, yy, yy, yy, yy, yy, yy, yy, yy, nn, nn, nn, nn, nn, nn, nn, nn, nn, nn, nn, nn, nn, nn, nn, nn, nn, nn, nn, nn, nn, nn, nn, nn, nn, nn] rfl rfl (take_ofW HT_.out HW_.out (by kernel_rfl)) (fun _ _ _ h => h) (Or.inl ⟨by rfl, ?_⟩) hHeld ?_ ?_
               rotate_left; (· rintro w' ⟨s0, s1, s2, s3, s4, s5, s6, s7, s8, s9, s10, s11, s12, s13, s14, s15, s16⟩; go_simp; with_reducible rfl)
               rotate_left; (· simp only [Act.put, List.setIfInBounds_toArray, List.set_cons_zero, List.set_cons_succ, i64_w, i32_w]; rfl)
               refine pure_ (i := 14) (N := some 133) (v := ?_) (a' := ?_) #[yy, yy, yy, yy, yy, yy, yy, yy, yy, yy, yy, yy, yy, yy, yy, nn, nn, nn, nn, nn, nn, nn, nn, nn, nn, nn, nn, nn, nn, nn, nn, nn, nn, nn, nn, nn, nn, nn, nn, nn] rfl rfl (any_of HT_.out (by kernel_rfl)) (fun _ _ _ h => h) (Or.inl ⟨by rfl, ?_⟩) ?_ ?_
               rotate_left; (· intro w'; go_simp; with_reducible rfl)
               rotate_left; (· simp only [Act.put, List.setIfInBounds_toArray, List.set_cons_zero, List.set_cons_succ, i64_w, i32_w]; rfl)
               refine pure_ (i := 15) (N := some 134) (v := ?_) (a' := ?_) #[yy, yy, yy, yy, yy, yy, yy, yy, yy, yy, yy, yy, yy, yy, yy, yy, nn, nn, nn, nn, nn, nn, nn, nn, nn, nn, nn, nn, nn, nn, nn, nn, nn, nn, nn, nn, nn, nn, nn, nn] rfl rfl (any_of HT_.out (by kernel_rfl)) (fun _ _ _ h => h) (Or.inl ⟨by rfl, ?_⟩) ?_ ?_
               rotate_left; (· intro w'; go_simp; with_reducible rfl)
               rotate_left; (· simp only [Act.put, List.setIfInBounds_toArray, List.set_cons_zero, List.set_cons_succ, i64_w, i32_w]; rfl)
               refine pure_ (i := 16) (N := some 135) (v := ?_) (a' := ?_) #[yy, yy, yy, yy, yy, yy, yy, yy, yy, yy, yy, yy, yy, yy, yy, yy, yy, nn, nn, nn, nn, nn, nn, nn, nn, nn, nn, nn, nn, nn, nn, nn, nn, nn, nn, nn, nn, nn, nn, nn] rfl rfl (any_of HT_.out (by kernel_rfl)) (fun _ _ _ h => h) (Or.inl ⟨by rfl, ?_⟩) ?_ ?_
               rotate_left; (· intro w'; go_simp; with_reducible rfl)
               rotate_left; (· simp only [Act.put, List.setIfInBounds_toArray, List.set_cons_zero, List.set_cons_succ, i64_w, i32_w]; rfl)
               refine pure_ (i := 17) (N := some 136) (v := ?_) (a' := ?_) #[yy, yy, yy, yy, yy, yy, yy, yy, yy, yy, yy, yy, yy, yy, yy, yy, yy, yy, nn, nn, nn, nn, nn, nn, nn, nn, nn, nn, nn, nn, nn, nn, nn, nn, nn, nn, nn, nn, nn, nn] rfl rfl (any_of HT_.out (by kernel_rfl)) (fun _ _ _ h => h) (Or.inl ⟨by rfl, ?_⟩) ?_ ?_
               rotate_left; (· intro w'; go_simp; with_reducible rfl)
               rotate_left; (· simp only [Act.put, List.setIfInBounds_toArray, List.set_cons_zero, List.set_cons_succ, i64_w, i32_w]; rfl)
               refine take_ (i := 18) (N := some 137) (v := ?_) (a' := ?_) #[yy, yy, yy, yy, yy, yy, yy, yy, yy, yy, yy, yy, yy, yy, yy, yy, yy, yy, yy, nn, nn, nn, nn, nn, nn, nn, nn, nn, nn, nn, nn, nn, nn, nn, nn, nn, nn, nn, nn, nn] rfl rfl (take_ofW HT_.out HW_.out (by kernel_rfl)) (fun _ _ _ h => h) (Or.inl ⟨by rfl, ?_⟩) hHeld ?_ ?_
               rotate_left; (· rintro w' ⟨s0, s1, s2, s3, s4, s5, s6, s7, s8, s9, s10, s11, s12, s13, s14, s15, s16⟩; go_simp; with_reducible rfl)
               rotate_left; (· simp only [Act.put, List.setIfInBounds_toArray, List.set_cons_zero, List.set_cons_succ, i64_w, i32_w]; rfl)
               refine pure_ (i := 19) (N := some 138) (v := ?_) (a' := ?_) #[yy, yy, yy, yy, yy, yy, yy, yy, yy, yy, yy, yy, yy, yy, yy, yy, yy, yy, yy, yy, nn, nn, nn, nn, nn, nn, nn, nn, nn, nn, nn, nn, nn, nn, nn, nn, nn, nn, nn, nn] rfl rfl (any_of HT_.out (by kernel_rfl)) (fun _ _ _ h => h) (Or.inl ⟨by rfl, ?_⟩) ?_ ?_
               rotate_left; (· intro w'; go_simp; with_reducible rfl)
               rotate_left; (· simp only [Act.put, List.setIfInBounds_toArray, List.set_cons_zero, List.set_cons_succ, i64_w, i32_w]; rfl)
               refine pure_ (i := 20) (N := some 139) (v := ?_) (a' := ?_) #[yy, yy, yy, yy, yy, yy, yy, yy, yy, yy, yy, yy, yy, yy, yy, yy, yy, yy, yy, yy, yy, nn, nn, nn, nn, nn, nn, nn, nn, nn, nn, nn, nn, nn, nn, nn, nn, nn, nn, nn] rfl rfl (any_of HT_.out (by kernel_rfl)) (fun _ _ _ h => h) (Or.inl ⟨by rfl, ?_⟩) ?_ ?_
               rotate_left; (· intro w'; go_simp; with_reducible rfl)
               rotate_left; (· simp only [Act.put, List.setIfInBounds_toArray, List.set_cons_zero, List.set_cons_succ, i64_w, i32_w]; rfl)
               refine pure_ (i := 21) (N := some 140) (v := ?_) (a' := ?_) #[yy, yy, yy, yy, yy, yy, yy, yy, yy, yy, yy, yy, yy, yy, yy, yy, yy, yy, yy, yy, yy, yy, nn, nn, nn, nn, nn, nn, nn, nn, nn, nn, nn, nn, nn, nn, nn, nn, nn, nn] rfl rfl (any_of HT_.out (by kernel_rfl)) (fun _ _ _ h => h) (Or.inl ⟨by rfl, ?_⟩) ?_ ?_
               rotate_left; (· intro w'; go_simp; with_reducible rfl)
               rotate_left; (· simp only [Act.put, List.setIfInBounds_toArray, List.set_cons_zero, List.set_cons_succ, i64_w, i32_w]; rfl)
               refine pure_ (i := 22) (N := some 141) (v := ?_) (a' := ?_) #[yy, yy, yy, yy, yy, yy, yy, yy, yy, yy, yy, yy, yy, yy, yy, yy, yy, yy, yy, yy, yy, yy, yy, nn, nn, nn, nn, nn, nn, nn, nn, nn, nn, nn, nn, nn, nn, nn, nn, nn] rfl rfl (any_of HT_.out (by kernel_rfl)) (fun _ _ _ h => h) (Or.inl ⟨by rfl, ?_⟩) ?_ ?_
               rotate_left; (· intro w'; go_simp; with_reducible rfl)
               rotate_left; (· simp only [Act.put, List.setIfInBounds_toArray, List.set_cons_zero, List.set_cons_succ, i64_w, i32_w]; rfl)
               refine pure_ (i := 26) (N := some 145) (v := ?_) (a' := ?_) #[yy, yy, yy, yy, yy, yy, yy, yy, yy, yy, yy, yy, yy, yy, yy, yy, yy, yy, yy, yy, yy, yy, yy, nn, nn, nn, yy, nn, nn, nn, nn, nn, nn, nn, nn, nn, nn, nn, nn, nn] rfl rfl (any_of HT_.out (by kernel_rfl)) (fun _ _ _ h => h) (Or.inl ⟨by rfl, ?_⟩) ?_ ?_
               rotate_left; (· intro w'; go_simp; with_reducible rfl)
               rotate_left; (· simp only [Act.put, List.setIfInBounds_toArray, List.set_cons_zero, List.set_cons_succ, i64_w, i32_w]; rfl)
               refine take_ (i := 23) (N := some 142) (v := ?_) (a' := ?_) #[yy, yy, yy, yy, yy, yy, yy, yy, yy, yy, yy, yy, yy, yy, yy, yy, yy, yy, yy, yy, yy, yy, yy, yy, nn, nn, yy, nn, nn, nn, nn, nn, nn, nn, nn, nn, nn, nn, nn, nn] rfl rfl (take_ofW HT_.out HW_.out (by kernel_rfl)) (fun _ _ _ h => h) (Or.inl ⟨by rfl, ?_⟩) hHeld ?_ ?_
               rotate_left; (· rintro w' ⟨s0, s1, s2, s3, s4, s5, s6, s7, s8, s9, s10, s11, s12, s13, s14, s15, s16⟩; go_simp; with_reducible rfl)
               rotate_left; (· simp only [Act.put, List.setIfInBounds_toArray, List.set_cons_zero, List.set_cons_succ, i64_w, i32_w]; rfl)
               refine pure_ (i := 24) (N := some 143) (v := ?_) (a' := ?_) #[yy, yy, yy, yy, yy, yy, yy, yy, yy, yy, yy, yy, yy, yy, yy, yy, yy, yy, yy, yy, yy, yy, yy, yy, yy, nn, yy, nn, nn, nn, nn, nn, nn, nn, nn, nn, nn, nn, nn, nn] rfl rfl (any_of HT_.out (by kernel_rfl)) (fun _ _ _ h => h) (Or.inl ⟨by rfl, ?_⟩) ?_ ?_
               rotate_left; (· intro w'; go_simp; with_reducible rfl)
               rotate_left; (· simp only [Act.put, List.setIfInBounds_toArray, List.set_cons_zero, List.set_cons_succ, i64_w, i32_w]; rfl)
               refine take_ (i := 25) (N := some 144) (v := ?_) (a' := ?_) #[yy, yy, yy, yy, yy, yy, yy, yy, yy, yy, yy, yy, yy, yy, yy, yy, yy, yy, yy, yy, yy, yy, yy, yy, yy, yy, yy, nn, nn, nn, nn, nn, nn, nn, nn, nn, nn, nn, nn, nn] rfl rfl (take_ofW HT_.out HW_.out (by kernel_rfl)) (fun _ _ _ h => h) (Or.inl ⟨by rfl, ?_⟩) hHeld ?_ ?_
               rotate_left; (· rintro w' ⟨s0, s1, s2, s3, s4, s5, s6, s7, s8, s9, s10, s11, s12, s13, s14, s15, s16⟩; go_simp; with_reducible rfl)
               rotate_left; (· simp only [Act.put, List.setIfInBounds_toArray, List.set_cons_zero, List.set_cons_succ, i64_w, i32_w]; rfl)
               refine pure_ (i := 27) (N := some 146) (v := ?_) (a' := ?_) #[yy, yy, yy, yy, yy, yy, yy, yy, yy, yy, yy, yy, yy, yy, yy, yy, yy, yy, yy, yy, yy, yy, yy, yy, yy, yy, yy, yy, nn, nn, nn, nn, nn, nn, nn, nn, nn, nn, nn, nn] rfl rfl (any_of HT_.out (by kernel_rfl)) (fun _ _ _ h => h) (Or.inl ⟨by rfl, ?_⟩) ?_ ?_
               rotate_left; (· intro w'; go_simp; with_reducible rfl)
               rotate_left; (· simp only [Act.put, List.setIfInBounds_toArray, List.set_cons_zero, List.set_cons_succ, i64_w, i32_w]; rfl)
               refine pure_ (i := 28) (N := some 147) (v := ?_) (a' := ?_) #[yy, yy, yy, yy, yy, yy, yy, yy, yy, yy, yy, yy, yy, yy, yy, yy, yy, yy, yy, yy, yy, yy, yy, yy, yy, yy, yy, yy, yy, nn, nn, nn, nn, nn, nn, nn, nn, nn, nn, nn] rfl rfl (any_of HT_.out (by kernel_rfl)) (fun _ _ _ h => h) (Or.inl ⟨by rfl, ?_⟩) ?_ ?_
               rotate_left; (· intro w'; go_simp; with_reducible rfl)
               rotate_left; (· simp only [Act.put, List.setIfInBounds_toArray, List.set_cons_zero, List.set_cons_succ, i64_w, i32_w]; rfl)
               refine pure_ (i := 29) (N := some 148) (v := ?_) (a' := ?_) #[yy, yy, yy, yy, yy, yy, yy, yy, yy, yy, yy, yy, yy, yy, yy, yy, yy, yy, yy, yy, yy, yy, yy, yy, yy, yy, yy, yy, yy, yy, nn, nn, nn, nn, nn, nn, nn, nn, nn, nn] rfl rfl (any_of HT_.out (by kernel_rfl)) (fun _ _ _ h => h) (Or.inl ⟨by rfl, ?_⟩) ?_ ?_
               rotate_left; (· intro w'; go_simp; with_reducible rfl)
               rotate_left; (· simp only [Act.put, List.setIfInBounds_toArray, List.set_cons_zero, List.set_cons_succ, i64_w, i32_w]; rfl)
               refine pure_ (i := 30) (N := some 149) (v := undef) (a' := ?_) #[yy, yy, yy, yy, yy, yy, yy, yy, yy, yy, yy, yy, yy, yy, yy, yy, yy, yy, yy, yy, yy, yy, yy, yy, yy, yy, yy, yy, yy, yy, yy, nn, nn, nn, nn, nn, nn, nn, nn, nn] rfl rfl (any_of HT_.out (by kernel_rfl)) (fun _ _ _ h => h) (Or.inr ⟨by rfl, rfl⟩) ?_ ?_
               rotate_left; (· simp only [Act.put, List.setIfInBounds_toArray, List.set_cons_zero, List.set_cons_succ, i64_w, i32_w]; rfl)
               refine pure_ (i := 31) (N := some 150) (v := undef) (a' := ?_) #[yy, yy, yy, yy, yy, yy, yy, yy, yy, yy, yy, yy, yy, yy, yy, yy, yy, yy, yy, yy, yy, yy, yy, yy, yy, yy, yy, yy, yy, yy, yy, yy, nn, nn, nn, nn, nn, nn, nn, nn] rfl rfl (any_of HT_.out (by kernel_rfl)) (fun _ _ _ h => h) (Or.inr ⟨by rfl, rfl⟩) ?_ ?_
               rotate_left; (· simp only [Act.put, List.setIfInBounds_toArray, List.set_cons_zero, List.set_cons_succ, i64_w, i32_w]; rfl)
               refine pure_ (i := 32) (N := some 151) (v := undef) (a' := ?_) #[yy, yy, yy, yy, yy, yy, yy, yy, yy, yy, yy, yy, yy, yy, yy, yy, yy, yy, yy, yy, yy, yy, yy, yy, yy, yy, yy, yy, yy, yy, yy, yy, yy, nn, nn, nn, nn, nn, nn, nn] rfl rfl (any_of HT_.out (by kernel_rfl)) (fun _ _ _ h => h) (Or.inr ⟨by rfl, rfl⟩) ?_ ?_
               rotate_left; (· simp only [Act.put, List.setIfInBounds_toArray, List.set_cons_zero, List.set_cons_succ, i64_w, i32_w]; rfl)
               refine pure_ (i := 33) (N := some 152) (v := undef) (a' := ?_) #[yy, yy, yy, yy, yy, yy, yy, yy, yy, yy, yy, yy, yy, yy, yy, yy, yy, yy, yy, yy, yy, yy, yy, yy, yy, yy, yy, yy, yy, yy, yy, yy, yy, yy, nn, nn, nn, nn, nn, nn] rfl rfl (any_of HT_.out (by kernel_rfl)) (fun _ _ _ h => h) (Or.inr ⟨by rfl, rfl⟩) ?_ ?_
               rotate_left; (· simp only [Act.put, List.setIfInBounds_toArray, List.set_cons_zero, List.set_cons_succ, i64_w, i32_w]; rfl)
               refine pure_ (i := 34) (N := some 153) (v := undef) (a' := ?_) #[yy, yy, yy, yy, yy, yy, yy, yy, yy, yy, yy, yy, yy, yy, yy, yy, yy, yy, yy, yy, yy, yy, yy, yy, yy, yy, yy, yy, yy, yy, yy, yy, yy, yy, yy, nn, nn, nn, nn, nn] rfl rfl (any_of HT_.out (by kernel_rfl)) (fun _ _ _ h => h) (Or.inr ⟨by rfl, rfl⟩) ?_ ?_
               rotate_left; (· simp only [Act.put, List.setIfInBounds_toArray, List.set_cons_zero, List.set_cons_succ, i64_w, i32_w]; rfl)
               refine pure_ (i := 35) (N := some 154) (v := undef) (a' := ?_) #[yy, yy, yy, yy, yy, yy, yy, yy, yy, yy, yy, yy, yy, yy, yy, yy, yy, yy, yy, yy, yy, yy, yy, yy, yy, yy, yy, yy, yy, yy, yy, yy, yy, yy, yy, yy, nn, nn, nn, nn] rfl rfl (any_of HT_.out (by kernel_rfl)) (fun _ _ _ h => h) (Or.inr ⟨by rfl, rfl⟩) ?_ ?_
               rotate_left; (· simp only [Act.put, List.setIfInBounds_toArray, List.set_cons_zero, List.set_cons_succ, i64_w, i32_w]; rfl)
               refine pure_ (i := 36) (N := some 155) (v := undef) (a' := ?_) #[yy, yy, yy, yy, yy, yy, yy, yy, yy, yy, yy, yy, yy, yy, yy, yy, yy, yy, yy, yy, yy, yy, yy, yy, yy, yy, yy, yy, yy, yy, yy, yy, yy, yy, yy, yy, yy, nn, nn, nn] rfl rfl (any_of HT_.out (by kernel_rfl)) (fun _ _ _ h => h) (Or.inr ⟨by rfl, rfl⟩) ?_ ?_
               rotate_left; (· simp only [Act.put, List.setIfInBounds_toArray, List.set_cons_zero, List.set_cons_succ, i64_w, i32_w]; rfl)
               refine pure_ (i := 37) (N := some 156) (v := undef) (a' := ?_) #[yy, yy, yy, yy, yy, yy, yy, yy, yy, yy, yy, yy, yy, yy, yy, yy, yy, yy, yy, yy, yy, yy, yy, yy, yy, yy, yy, yy, yy, yy, yy, yy, yy, yy, yy, yy, yy, yy, nn, nn] rfl rfl (any_of HT_.out (by kernel_rfl)) (fun _ _ _ h => h) (Or.inr ⟨by rfl, rfl⟩) ?_ ?_
               rotate_left; (· simp only [Act.put, List.setIfInBounds_toArray, List.set_cons_zero, List.set_cons_succ, i64_w, i32_w]; rfl)
               refine pure_ (i := 38) (N := some 157) (v := ?_) (a' := ?_) #[yy, yy, yy, yy, yy, yy, yy, yy, yy, yy, yy, yy, yy, yy, yy, yy, yy, yy, yy, yy, yy, yy, yy, yy, yy, yy, yy, yy, yy, yy, yy, yy, yy, yy, yy, yy, yy, yy, yy, nn] rfl rfl (any_of HT_.out (by kernel_rfl)) (fun _ _ _ h => h) (Or.inl ⟨by rfl, ?_⟩) ?_ ?_
               rotate_left; (· intro w'; go_simp; with_reducible rfl)
               rotate_left; (· simp only [Act.put, List.setIfInBounds_toArray, List.set_cons_zero, List.set_cons_succ, i64_w, i32_w]; rfl)
               refine pure_ (i := 39) (N := some 158) (v := ?_) (a' := ?_) #[yy, yy, yy, yy, yy, yy, yy, yy, yy, yy, yy, yy, yy, yy, yy, yy, yy, yy, yy, yy, yy, yy, yy, yy, yy, yy, yy, yy, yy, yy, yy, yy, yy, yy, yy, yy, yy, yy, yy, yy] rfl rfl (any_of HT_.out (by kernel_rfl)) (fun _ _ _ h => h) (Or.inl ⟨by rfl, ?_⟩) ?_ ?_
               rotate_left; (· intro w'; go_simp; with_reducible rfl)
               rotate_left; (· simp only [Act.put, List.setIfInBounds_toArray, List.set_cons_zero, List.set_cons_succ, i64_w, i32_w]; rfl)
               refine done_ (done_of HT_.out (by kernel_rfl)) ?_
               try go_wp2
               go_roundg k2
               case measure => have := HK1.out; have := HK2.out; omega
               case rel => exact ⟨(wrap64 (x115_2 + 1)), (by first | rfl | (simp; done) | (simp [*]; done)), H', ⟨by have := HK1.out; have := HK2.out; omega⟩, ⟨by (with_reducible repeat (first | apply Kd.R_alloc | apply Kd.R_drewN | apply Kd.R_drew)); exact HO_5.out⟩, ⟨by repeat (first | (with_reducible first | exact HB.out | apply below_alloc | apply pw_below_drewN | apply below_drew1 | refine below_set ?_ GE145.out) | exact HB.out)⟩⟩
             ·
              rw [if_neg c50] at H
              have c50b0 : (((rd_T36 l1 x115_2).f0) == 0) = false := beq_eq_false_iff_ne.mpr c50
              have c50b1 : (((rd_T36 l1 x115_2).f0) != 0) = true := bne_iff_ne.mpr c50
              have H' := Aside0.mk H
              clear H
              have p144 : 0 ≤ (x115_2 : Int) := of_decide_eq_true (by first | (with_reducible assumption) | assumption)
              have q144 : x115_2 < (l1.length : Int) := of_decide_eq_true (by first | (with_reducible assumption) | assumption)
              obtain ⟨ad144, e144, hx144_0, hx144_1, hx144_2, hx144_3, hx144_4, hx144_5, hx144_6, hx144_7⟩ := at_T36 HR1.out x115_2 p144 q144
              cases e144
              replace hx144_0 := (HB.out.cell (World.block_lt_of_cell? w _ hx144_0)).trans hx144_0
              replace hx144_1 := (HB.out.cell (World.block_lt_of_cell? w _ hx144_1)).trans hx144_1
              replace hx144_2 := (HB.out.cell (World.block_lt_of_cell? w _ hx144_2)).trans hx144_2
              replace hx144_3 := (HB.out.cell (World.block_lt_of_cell? w _ hx144_3)).trans hx144_3
              replace hx144_4 := (HB.out.cell (World.block_lt_of_cell? w _ hx144_4)).trans hx144_4
              replace hx144_5 := (HB.out.cell (World.block_lt_of_cell? w _ hx144_5)).trans hx144_5
              replace hx144_6 := (HB.out.cell (World.block_lt_of_cell? w _ hx144_6)).trans hx144_6
              replace hx144_7 := (HB.out.cell (World.block_lt_of_cell? w _ hx144_7)).trans hx144_7
              replace p144 := eq_true p144
              replace q144 := eq_true q144
              try go_wp2_with (first | ((with_reducible refine gate_dst (N := 17) rfl ?_); (try (refine gate_guard (by rfl) ?_; dsimp only)); refine box_event ?hg (N := 17) ?hd (cs := #[.int .i64 0, .int .i64 0, .int .i64 0, .int .i64 0, .int .i64 0, .string (⟨#[]⟩ : ByteArray), .int .i64 0, .int .i64 0]) (t := 36) ?hr ?_; (case hd => rfl); (case hg => rfl); (case hr => first | (go_simp; done) | (go_simp; rfl)); intro gb145 hg w63 hbox hb; have n0_ := Aside0.mk (Kd.R_below (by (with_reducible repeat (first | apply Kd.R_alloc | apply Kd.R_drewN | apply Kd.R_drew)); exact HO_5.out) hb); have n1_ := Aside0.mk (below_step (by repeat (first | (with_reducible first | exact HB.out | apply below_alloc | apply pw_below_drewN | apply below_drew1) | exact HB.out)) hb); have n2_ := Aside0.mk (hbox); have n3_ := Aside0.mk ((by rw [hg]; exact (below_size (by repeat (first | (with_reducible first | exact HB.out | apply below_alloc | apply pw_below_drewN | apply below_drew1) | exact HB.out))) : w.heap.size ≤ gb145)); have n4_ := Aside0.mk ((by rw [hg]; exact (below_size (by repeat (first | (with_reducible first | exact HB.out | apply below_alloc | apply pw_below_drewN | apply below_drew1) | exact HB.out))) : w.heap.size ≤ gb145)); clear HO_5; clear HB; have HO_5 := n0_; have HB := n1_; have BK145 := n2_; have GW145 := n3_; have GE145 := n4_; clear n0_ n1_ n2_ n3_ n4_; clear hb hbox hg; have hcz64_0 : w63.cell? ⟨gb145, 0, none⟩ = some (.int .i64 0) := (blk_cell BK145.out 0).trans rfl; have hcz64_1 : w63.cell? ⟨gb145, 1, none⟩ = some (.int .i64 0) := (blk_cell BK145.out 1).trans rfl; have hcz64_2 : w63.cell? ⟨gb145, 2, none⟩ = some (.int .i64 0) := (blk_cell BK145.out 2).trans rfl; have hcz64_3 : w63.cell? ⟨gb145, 3, none⟩ = some (.int .i64 0) := (blk_cell BK145.out 3).trans rfl; have hcz64_4 : w63.cell? ⟨gb145, 4, none⟩ = some (.int .i64 0) := (blk_cell BK145.out 4).trans rfl; have hcz64_5 : w63.cell? ⟨gb145, 5, none⟩ = some (.string (⟨#[]⟩ : ByteArray)) := (blk_cell BK145.out 5).trans rfl; have hcz64_6 : w63.cell? ⟨gb145, 6, none⟩ = some (.int .i64 0) := (blk_cell BK145.out 6).trans rfl; have hcz64_7 : w63.cell? ⟨gb145, 7, none⟩ = some (.int .i64 0) := (blk_cell BK145.out 7).trans rfl; have hfz64_0 := blk_frozen BK145.out 0; have hfz64_1 := blk_frozen BK145.out 1; have hfz64_2 := blk_frozen BK145.out 2; have hfz64_3 := blk_frozen BK145.out 3; have hfz64_4 := blk_frozen BK145.out 4; have hfz64_5 := blk_frozen BK145.out 5; have hfz64_6 := blk_frozen BK145.out 6; have hfz64_7 := blk_frozen BK145.out 7))
              have n0_ : Aside0 (Kd.R k23 23 ((((((((w63.setCell ⟨gb145, 0, none⟩ (.int .i64 ((rd_T36 l1 x115_2).f0))).setCell ⟨gb145, 1, none⟩ (.int .i64 ((rd_T36 l1 x115_2).f1))).setCell ⟨gb145, 2, none⟩ (.int .i64 ((rd_T36 l1 x115_2).f2))).setCell ⟨gb145, 3, none⟩ (.int .i64 ((rd_T36 l1 x115_2).f3.f0))).setCell ⟨gb145, 4, none⟩ (.int .i64 ((rd_T36 l1 x115_2).f3.f1))).setCell ⟨gb145, 5, none⟩ (.string ((rd_T36 l1 x115_2).f3.f2))).setCell ⟨gb145, 6, none⟩ (.int .i64 ((rd_T36 l1 x115_2).f4))).setCell ⟨gb145, 7, none⟩ (.int .i64 ((rd_T36 l1 x115_2).f5))) w.heap.size (fun _ => True) (.slice Ao12 t117.length co12) t117) := ⟨by (with_reducible repeat (first | apply Kd.R_alloc | apply Kd.R_drewN | apply Kd.R_drew)); exact Kd.R_mono (Kd.R_far (p := ⟨gb145, 7, none⟩) (Kd.R_far (p := ⟨gb145, 6, none⟩) (Kd.R_far (p := ⟨gb145, 5, none⟩) (Kd.R_far (p := ⟨gb145, 4, none⟩) (Kd.R_far (p := ⟨gb145, 3, none⟩) (Kd.R_far (p := ⟨gb145, 2, none⟩) (Kd.R_far (p := ⟨gb145, 1, none⟩) (Kd.R_far (p := ⟨gb145, 0, none⟩) (Kd.R_types HO_5.out BK145.out (by decide)) (fun _ hk => hk.2) (.int .i64 ((rd_T36 l1 x115_2).f0))) (fun _ hk => hk.2) (.int .i64 ((rd_T36 l1 x115_2).f1))) (fun _ hk => hk.2) (.int .i64 ((rd_T36 l1 x115_2).f2))) (fun _ hk => hk.2) (.int .i64 ((rd_T36 l1 x115_2).f3.f0))) (fun _ hk => hk.2) (.int .i64 ((rd_T36 l1 x115_2).f3.f1))) (fun _ hk => hk.2) (.string ((rd_T36 l1 x115_2).f3.f2))) (fun _ hk => hk.2) (.int .i64 ((rd_T36 l1 x115_2).f4))) (fun _ hk => hk.2) (.int .i64 ((rd_T36 l1 x115_2).f5))) (fun _ hk => trivial)⟩
              have n1_ : Aside0 (((((((((w63.setCell ⟨gb145, 0, none⟩ (.int .i64 ((rd_T36 l1 x115_2).f0))).setCell ⟨gb145, 1, none⟩ (.int .i64 ((rd_T36 l1 x115_2).f1))).setCell ⟨gb145, 2, none⟩ (.int .i64 ((rd_T36 l1 x115_2).f2))).setCell ⟨gb145, 3, none⟩ (.int .i64 ((rd_T36 l1 x115_2).f3.f0))).setCell ⟨gb145, 4, none⟩ (.int .i64 ((rd_T36 l1 x115_2).f3.f1))).setCell ⟨gb145, 5, none⟩ (.string ((rd_T36 l1 x115_2).f3.f2))).setCell ⟨gb145, 6, none⟩ (.int .i64 ((rd_T36 l1 x115_2).f4))).setCell ⟨gb145, 7, none⟩ (.int .i64 ((rd_T36 l1 x115_2).f5))).heap[gb145]? = some (.cells #[.int .i64 ((rd_T36 l1 x115_2).f0), .int .i64 ((rd_T36 l1 x115_2).f1), .int .i64 ((rd_T36 l1 x115_2).f2), .int .i64 ((rd_T36 l1 x115_2).f3.f0), .int .i64 ((rd_T36 l1 x115_2).f3.f1), .string ((rd_T36 l1 x115_2).f3.f2), .int .i64 ((rd_T36 l1 x115_2).f4), .int .i64 ((rd_T36 l1 x115_2).f5)] 36 (0, 0))) := ⟨by (with_reducible repeat (first | refine blk_drewN ?_ _ | refine blk_drew ?_ | refine blk_alloc ?_ _)); refine blk_put (cs := #[.int .i64 ((rd_T36 l1 x115_2).f0), .int .i64 ((rd_T36 l1 x115_2).f1), .int .i64 ((rd_T36 l1 x115_2).f2), .int .i64 ((rd_T36 l1 x115_2).f3.f0), .int .i64 ((rd_T36 l1 x115_2).f3.f1), .string ((rd_T36 l1 x115_2).f3.f2), .int .i64 ((rd_T36 l1 x115_2).f4), .int .i64 0]) ?_ 7 _ rfl; (with_reducible repeat (first | refine blk_drewN ?_ _ | refine blk_drew ?_ | refine blk_alloc ?_ _)); refine blk_put (cs := #[.int .i64 ((rd_T36 l1 x115_2).f0), .int .i64 ((rd_T36 l1 x115_2).f1), .int .i64 ((rd_T36 l1 x115_2).f2), .int .i64 ((rd_T36 l1 x115_2).f3.f0), .int .i64 ((rd_T36 l1 x115_2).f3.f1), .string ((rd_T36 l1 x115_2).f3.f2), .int .i64 0, .int .i64 0]) ?_ 6 _ rfl; (with_reducible repeat (first | refine blk_drewN ?_ _ | refine blk_drew ?_ | refine blk_alloc ?_ _)); refine blk_put (cs := #[.int .i64 ((rd_T36 l1 x115_2).f0), .int .i64 ((rd_T36 l1 x115_2).f1), .int .i64 ((rd_T36 l1 x115_2).f2), .int .i64 ((rd_T36 l1 x115_2).f3.f0), .int .i64 ((rd_T36 l1 x115_2).f3.f1), .string (⟨#[]⟩ : ByteArray), .int .i64 0, .int .i64 0]) ?_ 5 _ rfl; (with_reducible repeat (first | refine blk_drewN ?_ _ | refine blk_drew ?_ | refine blk_alloc ?_ _)); refine blk_put (cs := #[.int .i64 ((rd_T36 l1 x115_2).f0), .int .i64 ((rd_T36 l1 x115_2).f1), .int .i64 ((rd_T36 l1 x115_2).f2), .int .i64 ((rd_T36 l1 x115_2).f3.f0), .int .i64 0, .string (⟨#[]⟩ : ByteArray), .int .i64 0, .int .i64 0]) ?_ 4 _ rfl; (with_reducible repeat (first | refine blk_drewN ?_ _ | refine blk_drew ?_ | refine blk_alloc ?_ _)); refine blk_put (cs := #[.int .i64 ((rd_T36 l1 x115_2).f0), .int .i64 ((rd_T36 l1 x115_2).f1), .int .i64 ((rd_T36 l1 x115_2).f2), .int .i64 0, .int .i64 0, .string (⟨#[]⟩ : ByteArray), .int .i64 0, .int .i64 0]) ?_ 3 _ rfl; (with_reducible repeat (first | refine blk_drewN ?_ _ | refine blk_drew ?_ | refine blk_alloc ?_ _)); refine blk_put (cs := #[.int .i64 ((rd_T36 l1 x115_2).f0), .int .i64 ((rd_T36 l1 x115_2).f1), .int .i64 0, .int .i64 0, .int .i64 0, .string (⟨#[]⟩ : ByteArray), .int .i64 0, .int .i64 0]) ?_ 2 _ rfl; (with_reducible repeat (first | refine blk_drewN ?_ _ | refine blk_drew ?_ | refine blk_alloc ?_ _)); refine blk_put (cs := #[.int .i64 ((rd_T36 l1 x115_2).f0), .int .i64 0, .int .i64 0, .int .i64 0, .int .i64 0, .string (⟨#[]⟩ : ByteArray), .int .i64 0, .int .i64 0]) ?_ 1 _ rfl; (with_reducible repeat (first | refine blk_drewN ?_ _ | refine blk_drew ?_ | refine blk_alloc ?_ _)); refine blk_put (cs := #[.int .i64 0, .int .i64 0, .int .i64 0, .int .i64 0, .int .i64 0, .string (⟨#[]⟩ : ByteArray), .int .i64 0, .int .i64 0]) ?_ 0 _ rfl; (with_reducible repeat (first | refine blk_drewN ?_ _ | refine blk_drew ?_ | refine blk_alloc ?_ _)); exact BK145.out⟩
              have n2_ : Aside0 (Below w.heap.size w ((((((((w63.setCell ⟨gb145, 0, none⟩ (.int .i64 ((rd_T36 l1 x115_2).f0))).setCell ⟨gb145, 1, none⟩ (.int .i64 ((rd_T36 l1 x115_2).f1))).setCell ⟨gb145, 2, none⟩ (.int .i64 ((rd_T36 l1 x115_2).f2))).setCell ⟨gb145, 3, none⟩ (.int .i64 ((rd_T36 l1 x115_2).f3.f0))).setCell ⟨gb145, 4, none⟩ (.int .i64 ((rd_T36 l1 x115_2).f3.f1))).setCell ⟨gb145, 5, none⟩ (.string ((rd_T36 l1 x115_2).f3.f2))).setCell ⟨gb145, 6, none⟩ (.int .i64 ((rd_T36 l1 x115_2).f4))).setCell ⟨gb145, 7, none⟩ (.int .i64 ((rd_T36 l1 x115_2).f5)))) := ⟨by repeat (first | (with_reducible first | exact HB.out | apply below_alloc | apply pw_below_drewN | apply below_drew1 | refine below_set ?_ GE145.out) | exact HB.out)⟩
              (try clear HO_5)
              (try clear BK145)
              (try clear HB)
              generalize ((((((((w63.setCell ⟨gb145, 0, none⟩ (.int .i64 ((rd_T36 l1 x115_2).f0))).setCell ⟨gb145, 1, none⟩ (.int .i64 ((rd_T36 l1 x115_2).f1))).setCell ⟨gb145, 2, none⟩ (.int .i64 ((rd_T36 l1 x115_2).f2))).setCell ⟨gb145, 3, none⟩ (.int .i64 ((rd_T36 l1 x115_2).f3.f0))).setCell ⟨gb145, 4, none⟩ (.int .i64 ((rd_T36 l1 x115_2).f3.f1))).setCell ⟨gb145, 5, none⟩ (.string ((rd_T36 l1 x115_2).f3.f2))).setCell ⟨gb145, 6, none⟩ (.int .i64 ((rd_T36 l1 x115_2).f4))).setCell ⟨gb145, 7, none⟩ (.int .i64 ((rd_T36 l1 x115_2).f5))) = w65 at n0_ n1_ n2_ ⊢
              have HO_5 := n0_
              have BK145 := n1_
              have HB := n2_
              clear n0_ n1_ n2_
              have n0_ := Aside0.mk (Kd.R_drew HO_5.out)
              have n1_ := Aside0.mk (blk_drew BK145.out)
              have n2_ := Aside0.mk (below_drew1 HB.out)
              clear HO_5
              clear BK145
              clear HB
              have HO_5 := n0_
              have BK145 := n1_
              have HB := n2_
              clear n0_ n1_ n2_
              have p146 : 0 ≤ (((rd_T36 l1 x115_2).f1) : Int) := of_decide_eq_true (by first | (with_reducible assumption) | assumption)
              have q146 : ((rd_T36 l1 x115_2).f1) < (t117.length : Int) := of_decide_eq_true (by first | (with_reducible assumption) | assumption)
              obtain ⟨ad146, e146, hx146_0, hx146_1, hx146_2⟩ := at_T23 (Kd.R_reads' HO_5.out).2.2 ((rd_T36 l1 x115_2).f1) p146 q146
              cases e146
              replace p146 := eq_true p146
              replace q146 := eq_true q146
              have p147 : 0 ≤ (((rd_T36 l1 x115_2).f2) : Int) := of_decide_eq_true (by first | (with_reducible assumption) | assumption)
              have q147 : ((rd_T36 l1 x115_2).f2) < (t117.length : Int) := of_decide_eq_true (by first | (with_reducible assumption) | assumption)
              obtain ⟨ad147, e147, hx147_0, hx147_1, hx147_2⟩ := at_T23 (Kd.R_reads' HO_5.out).2.2 ((rd_T36 l1 x115_2).f2) p147 q147
              obtain rfl : ad146 = ad147 := (by injection e147)
              replace p147 := eq_true p147
              replace q147 := eq_true q147
              refine start_ (n := 40) (S := fun w' => w'.cell? ⟨gb145, 0, none⟩ = some (.int .i64 ((rd_T36 l1 x115_2).f0)) ∧ w'.cell? ⟨gb145, 1, none⟩ = some (.int .i64 ((rd_T36 l1 x115_2).f1)) ∧ w'.cell? ⟨gb145, 2, none⟩ = some (.int .i64 ((rd_T36 l1 x115_2).f2)) ∧ w'.cell? ⟨gb145, 3, none⟩ = some (.int .i64 ((rd_T36 l1 x115_2).f3.f0)) ∧ w'.cell? ⟨gb145, 4, none⟩ = some (.int .i64 ((rd_T36 l1 x115_2).f3.f1)) ∧ w'.cell? ⟨gb145, 5, none⟩ = some (.string ((rd_T36 l1 x115_2).f3.f2)) ∧ w'.cell? ⟨gb145, 6, none⟩ = some (.int .i64 ((rd_T36 l1 x115_2).f4)) ∧ w'.cell? ⟨gb145, 7, none⟩ = some (.int .i64 ((rd_T36 l1 x115_2).f5)) ∧ w'.cell? (ad146.add ((((rd_T36 l1 x115_2).f1)).toNat * 3)) = some (.int .i64 ((rd_T23 t117 ((rd_T36 l1 x115_2).f1)).f0)) ∧ w'.cell? ⟨(ad146.add ((((rd_T36 l1 x115_2).f1)).toNat * 3)).block, (ad146.add ((((rd_T36 l1 x115_2).f1)).toNat * 3)).off + 1, none⟩ = some (.int .i64 ((rd_T23 t117 ((rd_T36 l1 x115_2).f1)).f1)) ∧ w'.cell? ⟨(ad146.add ((((rd_T36 l1 x115_2).f1)).toNat * 3)).block, (ad146.add ((((rd_T36 l1 x115_2).f1)).toNat * 3)).off + 2, none⟩ = some (.string ((rd_T23 t117 ((rd_T36 l1 x115_2).f1)).f2)) ∧ w'.cell? (ad146.add ((((rd_T36 l1 x115_2).f2)).toNat * 3)) = some (.int .i64 ((rd_T23 t117 ((rd_T36 l1 x115_2).f2)).f0)) ∧ w'.cell? ⟨(ad146.add ((((rd_T36 l1 x115_2).f2)).toNat * 3)).block, (ad146.add ((((rd_T36 l1 x115_2).f2)).toNat * 3)).off + 1, none⟩ = some (.int .i64 ((rd_T23 t117 ((rd_T36 l1 x115_2).f2)).f1)) ∧ w'.cell? ⟨(ad146.add ((((rd_T36 l1 x115_2).f2)).toNat * 3)).block, (ad146.add ((((rd_T36 l1 x115_2).f2)).toNat * 3)).off + 2, none⟩ = some (.string ((rd_T23 t117 ((rd_T36 l1 x115_2).f2)).f2))) (ds := []) #[nn, nn, nn, nn, nn, nn, nn, nn, nn, nn, nn, nn, nn, nn, nn, nn, nn, nn, nn, nn, nn, nn, nn, nn, nn, nn, nn, nn, nn, nn, nn, nn, nn, nn, nn, nn, nn, nn, nn, nn] (by kernel_rfl) rfl rfl ⟨(blk_cell BK145.out 0).trans rfl, (blk_cell BK145.out 1).trans rfl, (blk_cell BK145.out 2).trans rfl, (blk_cell BK145.out 3).trans rfl, (blk_cell BK145.out 4).trans rfl, (blk_cell BK145.out 5).trans rfl, (blk_cell BK145.out 6).trans rfl, (blk_cell BK145.out 7).trans rfl, hx146_0, hx146_1, hx146_2, hx147_0, hx147_1, hx147_2⟩ (fun hHeld => ?_); refine with_tabW assessorlaw09_ConstraintsChains.tab28 assessorlaw09_ConstraintsChains.bits28 (fun HT_ HW_ => ?_)
              generalize w65.drew = w66 at HO_5 BK145 HB hx146_0 hx146_1 hx146_2 hx147_0 hx147_1 hx147_2 hHeld ⊢
              refine pure_ (i := 0) (N := some 119) (v := ?_) (a' := ?_) #[yy, nn, nn, nn, nn, nn, nn, nn, nn, nn, nn, nn, nn, nn, nn, nn, nn, nn, nn, nn, nn, nn, nn, nn, nn, nn, nn, nn, nn, nn, nn, nn, nn, nn, nn, nn, nn, nn, nn, nn] rfl rfl (any_of HT_.out (by kernel_rfl)) (fun _ _ _ h => h) (Or.inl ⟨by rfl, ?_⟩) ?_ ?_
              rotate_left; (· intro w'; go_simp; with_reducible rfl)
              rotate_left; (· simp only [Act.put, List.setIfInBounds_toArray, List.set_cons_zero, List.set_cons_succ, i64_w, i32_w]; rfl)
              refine take_ (i := 1) (N := some 120) (v := ?_) (a' := ?_) #[yy, yy, nn, nn, nn, nn, nn, nn, nn, nn, nn, nn, nn, nn, nn, nn, nn, nn, nn, nn, nn, nn, nn, nn, nn, nn, nn, nn, nn, nn, nn, nn, nn, nn, nn, nn, nn, nn, nn, nn] rfl rfl (take_ofW HT_.out HW_.out (by kernel_rfl)) (fun _ _ _ h => h) (Or.inl ⟨by rfl, ?_⟩) hHeld ?_ ?_
              rotate_left; (· rintro w' ⟨s0, s1, s2, s3, s4, s5, s6, s7, s8, s9, s10, s11, s12, s13⟩; go_simp; with_reducible rfl)
              rotate_left; (· simp only [Act.put, List.setIfInBounds_toArray, List.set_cons_zero, List.set_cons_succ, i64_w, i32_w]; rfl)
              refine pure_ (i := 2) (N := some 121) (v := ?_) (a' := ?_) #[yy, yy, yy, nn, nn, nn, nn, nn, nn, nn, nn, nn, nn, nn, nn, nn, nn, nn, nn, nn, nn, nn, nn, nn, nn, nn, nn, nn, nn, nn, nn, nn, nn, nn, nn, nn, nn, nn, nn, nn] rfl rfl (any_of HT_.out (by kernel_rfl)) (fun _ _ _ h => h) (Or.inl ⟨by rfl, ?_⟩) ?_ ?_
              rotate_left; (· intro w'; go_simp; with_reducible rfl)
              rotate_left; (· simp only [Act.put, List.setIfInBounds_toArray, List.set_cons_zero, List.set_cons_succ, i64_w, i32_w]; rfl)
              refine pure_ (i := 3) (N := some 122) (v := ?_) (a' := ?_) #[yy, yy, yy, yy, nn, nn, nn, nn, nn, nn, nn, nn, nn, nn, nn, nn, nn, nn, nn, nn, nn, nn, nn, nn, nn, nn, nn, nn, nn, nn, nn, nn, nn, nn, nn, nn, nn, nn, nn, nn] rfl rfl (any_of HT_.out (by kernel_rfl)) (fun _ _ _ h => h) (Or.inl ⟨by rfl, ?_⟩) ?_ ?_
              rotate_left; (· intro w'; go_simp; with_reducible rfl)
              rotate_left; (· simp only [Act.put, List.setIfInBounds_toArray, List.set_cons_zero, List.set_cons_succ, i64_w, i32_w]; rfl)
              refine pure_ (i := 4) (N := some 123) (v := ?_) (a' := ?_) #[yy, yy, yy, yy, yy, nn, nn, nn, nn, nn, nn, nn, nn, nn, nn, nn, nn, nn, nn, nn, nn, nn, nn, nn, nn, nn, nn, nn, nn, nn, nn, nn, nn, nn, nn, nn, nn, nn, nn, nn] rfl rfl (any_of HT_.out (by kernel_rfl)) (fun _ _ _ h => h) (Or.inl ⟨by rfl, ?_⟩) ?_ ?_
              rotate_left; (· intro w'; go_simp; with_reducible rfl)
              rotate_left; (· simp only [Act.put, List.setIfInBounds_toArray, List.set_cons_zero, List.set_cons_succ, i64_w, i32_w]; rfl)
              refine pure_ (i := 5) (N := some 124) (v := ?_) (a' := ?_) #[yy, yy, yy, yy, yy, yy, nn, nn, nn, nn, nn, nn, nn, nn, nn, nn, nn, nn, nn, nn, nn, nn, nn, nn, nn, nn, nn, nn, nn, nn, nn, nn, nn, nn, nn, nn, nn, nn, nn, nn] rfl rfl (any_of HT_.out (by kernel_rfl)) (fun _ _ _ h => h) (Or.inl ⟨by rfl, ?_⟩) ?_ ?_
              rotate_left; (· intro w'; go_simp; with_reducible rfl)
              rotate_left; (· simp only [Act.put, List.setIfInBounds_toArray, List.set_cons_zero, List.set_cons_succ, i64_w, i32_w]; rfl)
              refine pure_ (i := 9) (N := some 128) (v := ?_) (a' := ?_) #[yy, yy, yy, yy, yy, yy, nn, nn, nn, yy, nn, nn, nn, nn, nn, nn, nn, nn, nn, nn, nn, nn, nn, nn, nn, nn, nn, nn, nn, nn, nn, nn, nn, nn, nn, nn, nn, nn, nn, nn] rfl rfl (any_of HT_.out (by kernel_rfl)) (fun _ _ _ h => h) (Or.inl ⟨by rfl, ?_⟩) ?_ ?_
              rotate_left; (· intro w'; go_simp; with_reducible rfl)
              rotate_left; (· simp only [Act.put, List.setIfInBounds_toArray, List.set_cons_zero, List.set_cons_succ, i64_w, i32_w]; rfl)
              refine pure_ (i := 10) (N := some 129) (v := ?_) (a' := ?_) #[yy, yy, yy, yy, yy, yy, nn, nn, nn, yy, yy, nn, nn, nn, nn, nn, nn, nn, nn, nn, nn, nn, nn, nn, nn, nn, nn, nn, nn, nn, nn, nn, nn, nn, nn, nn, nn, nn, nn, nn] rfl rfl (any_of HT_.out (by kernel_rfl)) (fun _ _ _ h => h) (Or.inl ⟨by rfl, ?_⟩) ?_ ?_
              rotate_left; (· intro w'; go_simp; with_reducible rfl)
              rotate_left; (· simp only [Act.put, List.setIfInBounds_toArray, List.set_cons_zero, List.set_cons_succ, i64_w, i32_w]; rfl)
              refine take_ (i := 6) (N := some 125) (v := ?_) (a' := ?_) #[yy, yy, yy, yy, yy, yy, yy, nn, nn, yy, yy, nn, nn, nn, nn, nn, nn, nn, nn, nn, nn, nn, nn, nn, nn, nn, nn, nn, nn, nn, nn, nn, nn, nn, nn, nn, nn, nn, nn, nn] rfl rfl (take_ofW HT_.out HW_.out (by kernel_rfl)) (fun _ _ _ h => h) (Or.inl ⟨by rfl, ?_⟩) hHeld ?_ ?_
              rotate_left; (· rintro w' ⟨s0, s1, s2, s3, s4, s5, s6, s7, s8, s9, s10, s11, s12, s13⟩; go_simp; with_reducible rfl)
              rotate_left; (· simp only [Act.put, List.setIfInBounds_toArray, List.set_cons_zero, List.set_cons_succ, i64_w, i32_w]; rfl)
              refine pure_ (i := 7) (N := some 126) (v := ?_) (a' := ?_) #[yy, yy, yy, yy, yy, yy, yy, yy, nn, yy, yy, nn, nn, nn, nn, nn, nn, nn, nn, nn, nn, nn, nn, nn, nn, nn, nn, nn, nn, nn, nn, nn, nn, nn, nn, nn, nn, nn, nn, nn] rfl rfl (any_of HT_.out (by kernel_rfl)) (fun _ _ _ h => h) (Or.inl ⟨by rfl, ?_⟩) ?_ ?_
              rotate_left; (· intro w'; go_simp; with_reducible rfl)
              rotate_left; (· simp only [Act.put, List.setIfInBounds_toArray, List.set_cons_zero, List.set_cons_succ, i64_w, i32_w]; rfl)
              refine take_ (i := 8) (N := some 127) (v := ?_) (a' := ?_) #[yy, yy, yy, yy, yy, yy, yy, yy, yy, yy, yy, nn, nn, nn, nn, nn, nn, nn, nn, nn, nn, nn, nn, nn, nn, nn, nn, nn, nn, nn, nn, nn, nn, nn, nn, nn, nn, nn, nn, nn] rfl rfl (take_ofW HT_.out HW_.out (by kernel_rfl)) (fun _ _ _ h => h) (Or.inl ⟨by rfl, ?_⟩) hHeld ?_ ?_
              rotate_left; (· rintro w' ⟨s0, s1, s2, s3, s4, s5, s6, s7, s8, s9, s10, s11, s12, s13⟩; go_simp; with_reducible rfl)
              rotate_left; (· simp only [Act.put, List.setIfInBounds_toArray, List.set_cons_zero, List.set_cons_succ, i64_w, i32_w]; rfl)
              refine take_ (i := 11) (N := some 130) (v := ?_) (a' := ?_) #[yy, yy, yy, yy, yy, yy, yy, yy, yy, yy, yy, yy, nn, nn, nn, nn, nn, nn, nn, nn, nn, nn, nn, nn, nn, nn, nn, nn, nn, nn, nn, nn, nn, nn, nn, nn, nn, nn, nn, nn] rfl rfl (take_ofW HT_.out HW_.out (by kernel_rfl)) (fun _ _ _ h => h) (Or.inl ⟨by rfl, ?_⟩) hHeld ?_ ?_
              rotate_left; (· rintro w' ⟨s0, s1, s2, s3, s4, s5, s6, s7, s8, s9, s10, s11, s12, s13⟩; go_simp; with_reducible rfl)
              rotate_left; (· simp only [Act.put, List.setIfInBounds_toArray, List.set_cons_zero, List.set_cons_succ, i64_w, i32_w]; rfl)
              refine pure_ (i := 12) (N := some 131) (v := ?_) (a' := ?_) #[yy, yy, yy, yy, yy, yy, yy, yy, yy, yy, yy, yy, yy, nn, nn, nn, nn, nn, nn, nn, nn, nn, nn, nn, nn, nn, nn, nn, nn, nn, nn, nn, nn, nn, nn, nn, nn, nn, nn, nn] rfl rfl (any_of HT_.out (by kernel_rfl)) (fun _ _ _ h => h) (Or.inl ⟨by rfl, ?_⟩) ?_ ?_
              rotate_left; (· intro w'; go_simp; with_reducible rfl)
              rotate_left; (· simp only [Act.put, List.setIfInBounds_toArray, List.set_cons_zero, List.set_cons_succ, i64_w, i32_w]; rfl)
              refine take_ (i := 13) (N := some 132) (v := ?_) (a' := ?_) #[yy, yy, yy, yy, yy, yy, yy, yy, yy, yy, yy, yy, yy, yy, nn, nn, nn, nn, nn, nn, nn, nn, nn, nn, nn, nn, nn, nn, nn, nn, nn, nn, nn, nn, nn, nn, nn, nn, nn, nn] rfl rfl (take_ofW HT_.out HW_.out (by kernel_rfl)) (fun _ _ _ h => h) (Or.inl ⟨by rfl, ?_⟩) hHeld ?_ ?_
              rotate_left; (· rintro w' ⟨s0, s1, s2, s3, s4, s5, s6, s7, s8, s9, s10, s11, s12, s13⟩; go_simp; with_reducible rfl)
              rotate_left; (· simp only [Act.put, List.setIfInBounds_toArray, List.set_cons_zero, List.set_cons_succ, i64_w, i32_w]; rfl)
              refine pure_ (i := 14) (N := some 133) (v := ?_) (a' := ?_) #[yy, yy, yy, yy, yy, yy, yy, yy, yy, yy, yy, yy, yy, yy, yy, nn, nn, nn, nn, nn, nn, nn, nn, nn, nn, nn, nn, nn, nn, nn, nn, nn, nn, nn, nn, nn, nn, nn, nn, nn] rfl rfl (any_of HT_.out (by kernel_rfl)) (fun _ _ _ h => h) (Or.inl ⟨by rfl, ?_⟩) ?_ ?_
              rotate_left; (· intro w'; go_simp; with_reducible rfl)
              rotate_left; (· simp only [Act.put, List.setIfInBounds_toArray, List.set_cons_zero, List.set_cons_succ, i64_w, i32_w]; rfl)
              refine pure_ (i := 15) (N := some 134) (v := ?_) (a' := ?_) #[yy, yy, yy, yy, yy, yy, yy, yy, yy, yy, yy, yy, yy, yy, yy, yy, nn, nn, nn, nn, nn, nn, nn, nn, nn, nn, nn, nn, nn, nn, nn, nn, nn, nn, nn, nn, nn, nn, nn, nn] rfl rfl (any_of HT_.out (by kernel_rfl)) (fun _ _ _ h => h) (Or.inl ⟨by rfl, ?_⟩) ?_ ?_
              rotate_left; (· intro w'; go_simp; with_reducible rfl)
              rotate_left; (· simp only [Act.put, List.setIfInBounds_toArray, List.set_cons_zero, List.set_cons_succ, i64_w, i32_w]; rfl)
              refine pure_ (i := 16) (N := some 135) (v := ?_) (a' := ?_) #[yy, yy, yy, yy, yy, yy, yy, yy, yy, yy, yy, yy, yy, yy, yy, yy, yy, nn, nn, nn, nn, nn, nn, nn, nn, nn, nn, nn, nn, nn, nn, nn, nn, nn, nn, nn, nn, nn, nn, nn] rfl rfl (any_of HT_.out (by kernel_rfl)) (fun _ _ _ h => h) (Or.inl ⟨by rfl, ?_⟩) ?_ ?_
              rotate_left; (· intro w'; go_simp; with_reducible rfl)
              rotate_left; (· simp only [Act.put, List.setIfInBounds_toArray, List.set_cons_zero, List.set_cons_succ, i64_w, i32_w]; rfl)
              refine pure_ (i := 17) (N := some 136) (v := ?_) (a' := ?_) #[yy, yy, yy, yy, yy, yy, yy, yy, yy, yy, yy, yy, yy, yy, yy, yy, yy, yy, nn, nn, nn, nn, nn, nn, nn, nn, nn, nn, nn, nn, nn, nn, nn, nn, nn, nn, nn, nn, nn, nn] rfl rfl (any_of HT_.out (by kernel_rfl)) (fun _ _ _ h => h) (Or.inl ⟨by rfl, ?_⟩) ?_ ?_
              rotate_left; (· intro w'; go_simp; with_reducible rfl)
              rotate_left; (· simp only [Act.put, List.setIfInBounds_toArray, List.set_cons_zero, List.set_cons_succ, i64_w, i32_w]; rfl)
              refine take_ (i := 18) (N := some 137) (v := ?_) (a' := ?_) #[yy, yy, yy, yy, yy, yy, yy, yy, yy, yy, yy, yy, yy, yy, yy, yy, yy, yy, yy, nn, nn, nn, nn, nn, nn, nn, nn, nn, nn, nn, nn, nn, nn, nn, nn, nn, nn, nn, nn, nn] rfl rfl (take_ofW HT_.out HW_.out (by kernel_rfl)) (fun _ _ _ h => h) (Or.inl ⟨by rfl, ?_⟩) hHeld ?_ ?_
              rotate_left; (· rintro w' ⟨s0, s1, s2, s3, s4, s5, s6, s7, s8, s9, s10, s11, s12, s13⟩; go_simp; with_reducible rfl)
              rotate_left; (· simp only [Act.put, List.setIfInBounds_toArray, List.set_cons_zero, List.set_cons_succ, i64_w, i32_w]; rfl)
              refine pure_ (i := 19) (N := some 138) (v := ?_) (a' := ?_) #[yy, yy, yy, yy, yy, yy, yy, yy, yy, yy, yy, yy, yy, yy, yy, yy, yy, yy, yy, yy, nn, nn, nn, nn, nn, nn, nn, nn, nn, nn, nn, nn, nn, nn, nn, nn, nn, nn, nn, nn] rfl rfl (any_of HT_.out (by kernel_rfl)) (fun _ _ _ h => h) (Or.inl ⟨by rfl, ?_⟩) ?_ ?_
              rotate_left; (· intro w'; go_simp; with_reducible rfl)
              rotate_left; (· simp only [Act.put, List.setIfInBounds_toArray, List.set_cons_zero, List.set_cons_succ, i64_w, i32_w]; rfl)
              refine pure_ (i := 20) (N := some 139) (v := ?_) (a' := ?_) #[yy, yy, yy, yy, yy, yy, yy, yy, yy, yy, yy, yy, yy, yy, yy, yy, yy, yy, yy, yy, yy, nn, nn, nn, nn, nn, nn, nn, nn, nn, nn, nn, nn, nn, nn, nn, nn, nn, nn, nn] rfl rfl (any_of HT_.out (by kernel_rfl)) (fun _ _ _ h => h) (Or.inl ⟨by rfl, ?_⟩) ?_ ?_
              rotate_left; (· intro w'; go_simp; with_reducible rfl)
              rotate_left; (· simp only [Act.put, List.setIfInBounds_toArray, List.set_cons_zero, List.set_cons_succ, i64_w, i32_w]; rfl)
              refine pure_ (i := 21) (N := some 140) (v := undef) (a' := ?_) #[yy, yy, yy, yy, yy, yy, yy, yy, yy, yy, yy, yy, yy, yy, yy, yy, yy, yy, yy, yy, yy, yy, nn, nn, nn, nn, nn, nn, nn, nn, nn, nn, nn, nn, nn, nn, nn, nn, nn, nn] rfl rfl (any_of HT_.out (by kernel_rfl)) (fun _ _ _ h => h) (Or.inr ⟨by rfl, rfl⟩) ?_ ?_
              rotate_left; (· simp only [Act.put, List.setIfInBounds_toArray, List.set_cons_zero, List.set_cons_succ, i64_w, i32_w]; rfl)
              refine pure_ (i := 22) (N := some 141) (v := undef) (a' := ?_) #[yy, yy, yy, yy, yy, yy, yy, yy, yy, yy, yy, yy, yy, yy, yy, yy, yy, yy, yy, yy, yy, yy, yy, nn, nn, nn, nn, nn, nn, nn, nn, nn, nn, nn, nn, nn, nn, nn, nn, nn] rfl rfl (any_of HT_.out (by kernel_rfl)) (fun _ _ _ h => h) (Or.inr ⟨by rfl, rfl⟩) ?_ ?_
              rotate_left; (· simp only [Act.put, List.setIfInBounds_toArray, List.set_cons_zero, List.set_cons_succ, i64_w, i32_w]; rfl)
              refine pure_ (i := 23) (N := some 142) (v := undef) (a' := ?_) #[yy, yy, yy, yy, yy, yy, yy, yy, yy, yy, yy, yy, yy, yy, yy, yy, yy, yy, yy, yy, yy, yy, yy, yy, nn, nn, nn, nn, nn, nn, nn, nn, nn, nn, nn, nn, nn, nn, nn, nn] rfl rfl (any_of HT_.out (by kernel_rfl)) (fun _ _ _ h => h) (Or.inr ⟨by rfl, rfl⟩) ?_ ?_
              rotate_left; (· simp only [Act.put, List.setIfInBounds_toArray, List.set_cons_zero, List.set_cons_succ, i64_w, i32_w]; rfl)
              refine pure_ (i := 24) (N := some 143) (v := undef) (a' := ?_) #[yy, yy, yy, yy, yy, yy, yy, yy, yy, yy, yy, yy, yy, yy, yy, yy, yy, yy, yy, yy, yy, yy, yy, yy, yy, nn, nn, nn, nn, nn, nn, nn, nn, nn, nn, nn, nn, nn, nn, nn] rfl rfl (any_of HT_.out (by kernel_rfl)) (fun _ _ _ h => h) (Or.inr ⟨by rfl, rfl⟩) ?_ ?_
              rotate_left; (· simp only [Act.put, List.setIfInBounds_toArray, List.set_cons_zero, List.set_cons_succ, i64_w, i32_w]; rfl)
              refine pure_ (i := 25) (N := some 144) (v := undef) (a' := ?_) #[yy, yy, yy, yy, yy, yy, yy, yy, yy, yy, yy, yy, yy, yy, yy, yy, yy, yy, yy, yy, yy, yy, yy, yy, yy, yy, nn, nn, nn, nn, nn, nn, nn, nn, nn, nn, nn, nn, nn, nn] rfl rfl (any_of HT_.out (by kernel_rfl)) (fun _ _ _ h => h) (Or.inr ⟨by rfl, rfl⟩) ?_ ?_
              rotate_left; (· simp only [Act.put, List.setIfInBounds_toArray, List.set_cons_zero, List.set_cons_succ, i64_w, i32_w]; rfl)
              refine pure_ (i := 26) (N := some 145) (v := undef) (a' := ?_) #[yy, yy, yy, yy, yy, yy, yy, yy, yy, yy, yy, yy, yy, yy, yy, yy, yy, yy, yy, yy, yy, yy, yy, yy, yy, yy, yy, nn, nn, nn, nn, nn, nn, nn, nn, nn, nn, nn, nn, nn] rfl rfl (any_of HT_.out (by kernel_rfl)) (fun _ _ _ h => h) (Or.inr ⟨by rfl, rfl⟩) ?_ ?_
              rotate_left; (· simp only [Act.put, List.setIfInBounds_toArray, List.set_cons_zero, List.set_cons_succ, i64_w, i32_w]; rfl)
              refine pure_ (i := 27) (N := some 146) (v := undef) (a' := ?_) #[yy, yy, yy, yy, yy, yy, yy, yy, yy, yy, yy, yy, yy, yy, yy, yy, yy, yy, yy, yy, yy, yy, yy, yy, yy, yy, yy, yy, nn, nn, nn, nn, nn, nn, nn, nn, nn, nn, nn, nn] rfl rfl (any_of HT_.out (by kernel_rfl)) (fun _ _ _ h => h) (Or.inr ⟨by rfl, rfl⟩) ?_ ?_
              rotate_left; (· simp only [Act.put, List.setIfInBounds_toArray, List.set_cons_zero, List.set_cons_succ, i64_w, i32_w]; rfl)
              refine pure_ (i := 28) (N := some 147) (v := ?_) (a' := ?_) #[yy, yy, yy, yy, yy, yy, yy, yy, yy, yy, yy, yy, yy, yy, yy, yy, yy, yy, yy, yy, yy, yy, yy, yy, yy, yy, yy, yy, yy, nn, nn, nn, nn, nn, nn, nn, nn, nn, nn, nn] rfl rfl (any_of HT_.out (by kernel_rfl)) (fun _ _ _ h => h) (Or.inl ⟨by rfl, ?_⟩) ?_ ?_
              rotate_left; (· intro w'; go_simp; with_reducible rfl)
              rotate_left; (· simp only [Act.put, List.setIfInBounds_toArray, List.set_cons_zero, List.set_cons_succ, i64_w, i32_w]; rfl)
              refine pure_ (i := 29) (N := some 148) (v := ?_) (a' := ?_) #[yy, yy, yy, yy, yy, yy, yy, yy, yy, yy, yy, yy, yy, yy, yy, yy, yy, yy, yy, yy, yy, yy, yy, yy, yy, yy, yy, yy, yy, yy, nn, nn, nn, nn, nn, nn, nn, nn, nn, nn] rfl rfl (any_of HT_.out (by kernel_rfl)) (fun _ _ _ h => h) (Or.inl ⟨by rfl, ?_⟩) ?_ ?_
              rotate_left; (· intro w'; go_simp; with_reducible rfl)
              rotate_left; (· simp only [Act.put, List.setIfInBounds_toArray, List.set_cons_zero, List.set_cons_succ, i64_w, i32_w]; rfl)
              refine pure_ (i := 30) (N := some 149) (v := undef) (a' := ?_) #[yy, yy, yy, yy, yy, yy, yy, yy, yy, yy, yy, yy, yy, yy, yy, yy, yy, yy, yy, yy, yy, yy, yy, yy, yy, yy, yy, yy, yy, yy, yy, nn, nn, nn, nn, nn, nn, nn, nn, nn] rfl rfl (any_of HT_.out (by kernel_rfl)) (fun _ _ _ h => h) (Or.inr ⟨by rfl, rfl⟩) ?_ ?_
              rotate_left; (· simp only [Act.put, List.setIfInBounds_toArray, List.set_cons_zero, List.set_cons_succ, i64_w, i32_w]; rfl)
              refine pure_ (i := 31) (N := some 150) (v := undef) (a' := ?_) #[yy, yy, yy, yy, yy, yy, yy, yy, yy, yy, yy, yy, yy, yy, yy, yy, yy, yy, yy, yy, yy, yy, yy, yy, yy, yy, yy, yy, yy, yy, yy, yy, nn, nn, nn, nn, nn, nn, nn, nn] rfl rfl (any_of HT_.out (by kernel_rfl)) (fun _ _ _ h => h) (Or.inr ⟨by rfl, rfl⟩) ?_ ?_
              rotate_left; (· simp only [Act.put, List.setIfInBounds_toArray, List.set_cons_zero, List.set_cons_succ, i64_w, i32_w]; rfl)
              refine pure_ (i := 32) (N := some 151) (v := undef) (a' := ?_) #[yy, yy, yy, yy, yy, yy, yy, yy, yy, yy, yy, yy, yy, yy, yy, yy, yy, yy, yy, yy, yy, yy, yy, yy, yy, yy, yy, yy, yy, yy, yy, yy, yy, nn, nn, nn, nn, nn, nn, nn] rfl rfl (any_of HT_.out (by kernel_rfl)) (fun _ _ _ h => h) (Or.inr ⟨by rfl, rfl⟩) ?_ ?_
              rotate_left; (· simp only [Act.put, List.setIfInBounds_toArray, List.set_cons_zero, List.set_cons_succ, i64_w, i32_w]; rfl)
              refine pure_ (i := 33) (N := some 152) (v := undef) (a' := ?_) #[yy, yy, yy, yy, yy, yy, yy, yy, yy, yy, yy, yy, yy, yy, yy, yy, yy, yy, yy, yy, yy, yy, yy, yy, yy, yy, yy, yy, yy, yy, yy, yy, yy, yy, nn, nn, nn, nn, nn, nn] rfl rfl (any_of HT_.out (by kernel_rfl)) (fun _ _ _ h => h) (Or.inr ⟨by rfl, rfl⟩) ?_ ?_
              rotate_left; (· simp only [Act.put, List.setIfInBounds_toArray, List.set_cons_zero, List.set_cons_succ, i64_w, i32_w]; rfl)
              refine pure_ (i := 34) (N := some 153) (v := undef) (a' := ?_) #[yy, yy, yy, yy, yy, yy, yy, yy, yy, yy, yy, yy, yy, yy, yy, yy, yy, yy, yy, yy, yy, yy, yy, yy, yy, yy, yy, yy, yy, yy, yy, yy, yy, yy, yy, nn, nn, nn, nn, nn] rfl rfl (any_of HT_.out (by kernel_rfl)) (fun _ _ _ h => h) (Or.inr ⟨by rfl, rfl⟩) ?_ ?_
              rotate_left; (· simp only [Act.put, List.setIfInBounds_toArray, List.set_cons_zero, List.set_cons_succ, i64_w, i32_w]; rfl)
              refine pure_ (i := 35) (N := some 154) (v := undef) (a' := ?_) #[yy, yy, yy, yy, yy, yy, yy, yy, yy, yy, yy, yy, yy, yy, yy, yy, yy, yy, yy, yy, yy, yy, yy, yy, yy, yy, yy, yy, yy, yy, yy, yy, yy, yy, yy, yy, nn, nn, nn, nn] rfl rfl (any_of HT_.out (by kernel_rfl)) (fun _ _ _ h => h) (Or.inr ⟨by rfl, rfl⟩) ?_ ?_
              rotate_left; (· simp only [Act.put, List.setIfInBounds_toArray, List.set_cons_zero, List.set_cons_succ, i64_w, i32_w]; rfl)
              refine pure_ (i := 36) (N := some 155) (v := undef) (a' := ?_) #[yy, yy, yy, yy, yy, yy, yy, yy, yy, yy, yy, yy, yy, yy, yy, yy, yy, yy, yy, yy, yy, yy, yy, yy, yy, yy, yy, yy, yy, yy, yy, yy, yy, yy, yy, yy, yy, nn, nn, nn] rfl rfl (any_of HT_.out (by kernel_rfl)) (fun _ _ _ h => h) (Or.inr ⟨by rfl, rfl⟩) ?_ ?_
              rotate_left; (· simp only [Act.put, List.setIfInBounds_toArray, List.set_cons_zero, List.set_cons_succ, i64_w, i32_w]; rfl)
              refine pure_ (i := 37) (N := some 156) (v := undef) (a' := ?_) #[yy, yy, yy, yy, yy, yy, yy, yy, yy, yy, yy, yy, yy, yy, yy, yy, yy, yy, yy, yy, yy, yy, yy, yy, yy, yy, yy, yy, yy, yy, yy, yy, yy, yy, yy, yy, yy, yy, nn, nn] rfl rfl (any_of HT_.out (by kernel_rfl)) (fun _ _ _ h => h) (Or.inr ⟨by rfl, rfl⟩) ?_ ?_
              rotate_left; (· simp only [Act.put, List.setIfInBounds_toArray, List.set_cons_zero, List.set_cons_succ, i64_w, i32_w]; rfl)
              refine pure_ (i := 38) (N := some 157) (v := ?_) (a' := ?_) #[yy, yy, yy, yy, yy, yy, yy, yy, yy, yy, yy, yy, yy, yy, yy, yy, yy, yy, yy, yy, yy, yy, yy, yy, yy, yy, yy, yy, yy, yy, yy, yy, yy, yy, yy, yy, yy, yy, yy, nn] rfl rfl (any_of HT_.out (by kernel_rfl)) (fun _ _ _ h => h) (Or.inl ⟨by rfl, ?_⟩) ?_ ?_
              rotate_left; (· intro w'; go_simp; with_reducible rfl)
              rotate_left; (· simp only [Act.put, List.setIfInBounds_toArray, List.set_cons_zero, List.set_cons_succ, i64_w, i32_w]; rfl)
              refine pure_ (i := 39) (N := some 158) (v := ?_) (a' := ?_) #[yy, yy, yy, yy, yy, yy, yy, yy, yy, yy, yy, yy, yy, yy, yy, yy, yy, yy, yy, yy, yy, yy, yy, yy, yy, yy, yy, yy, yy, yy, yy, yy, yy, yy, yy, yy, yy, yy, yy, yy] rfl rfl (any_of HT_.out (by kernel_rfl)) (fun _ _ _ h => h) (Or.inl ⟨by rfl, ?_⟩) ?_ ?_
              rotate_left; (· intro w'; go_simp; with_reducible rfl)
              rotate_left; (· simp only [Act.put, List.setIfInBounds_toArray, List.set_cons_zero, List.set_cons_succ, i64_w, i32_w]; rfl)
              refine done_ (done_of HT_.out (by kernel_rfl)) ?_
              try go_wp2
              go_roundg k2
              case measure => have := HK1.out; have := HK2.out; omega
              case rel => exact ⟨(wrap64 (x115_2 + 1)), (by first | rfl | (simp; done) | (simp [*]; done)), H', ⟨by have := HK1.out; have := HK2.out; omega⟩, ⟨by (with_reducible repeat (first | apply Kd.R_alloc | apply Kd.R_drewN | apply Kd.R_drew)); exact HO_5.out⟩, ⟨by repeat (first | (with_reducible first | exact HB.out | apply below_alloc | apply pw_below_drewN | apply below_drew1 | refine below_set ?_ GE145.out) | exact HB.out)⟩⟩
           ·
            rw [if_neg c44] at H
            have c44b0 : (((rd_T36 l1 x115_2).f0) == 1) = false := beq_eq_false_iff_ne.mpr c44
            have c44b1 : (((rd_T36 l1 x115_2).f0) != 1) = true := bne_iff_ne.mpr c44
            by_cases c67 : ((rd_T36 l1 x115_2).f0) = 0
            ·
             rw [if_pos c67] at H
             have c67b0 : (((rd_T36 l1 x115_2).f0) == 0) = true := beq_iff_eq.mpr c67
             have c67b1 : (((rd_T36 l1 x115_2).f0) != 0) = false := bne_eq_false_iff_eq.mpr c67
             clear c67
             by_cases c68 : 0 ≤ ((rd_T36 l1 x115_2).f1); rotate_left
             · rw [if_neg c68] at H; exact absurd H (by simp)
             rw [if_pos c68] at H
             have c68b0 : decide (0 ≤ ((rd_T36 l1 x115_2).f1)) = true := decide_eq_true c68
             clear c68
             by_cases c69 : ((rd_T36 l1 x115_2).f1) < (t117.length : Int); rotate_left
             · rw [if_neg c69] at H; exact absurd H (by simp)
             rw [if_pos c69] at H
             have c69b0 : decide (((rd_T36 l1 x115_2).f1) < (t117.length : Int)) = true := decide_eq_true c69
             clear c69
             by_cases c70 : (!(((rd_T23 t117 ((rd_T36 l1 x115_2).f1)).f0) == 0) || (!(((rd_T23 t117 ((rd_T36 l1 x115_2).f1)).f1) == 0) || (!((((rd_T23 t117 ((rd_T36 l1 x115_2).f1)).f2).toList) == ([] : List UInt8))))) = true
             ·
              rw [if_pos c70] at H
              have c70b0 : (!(((rd_T23 t117 ((rd_T36 l1 x115_2).f1)).f0) == 0) || (!(((rd_T23 t117 ((rd_T36 l1 x115_2).f1)).f1) == 0) || (!((((rd_T23 t117 ((rd_T36 l1 x115_2).f1)).f2).toList) == ([] : List UInt8))))) = true := c70
              have c70e0 := c70b0
              simp only [isEmpty_beq] at c70e0
              clear c70
              replace H := Option.bind_eq_some_iff.mp H
              obtain ⟨t153, A710, H⟩ := H
              replace H : (if t153 = true then (some false) else (assessorlaw09_ConstraintsChains.l2 k2 t117 l1 (l1.length : Int) (wrap64 (x115_2 + 1)))) = some r := H
              have A71 := Aside0.mk A710
              clear A710
              by_cases c72 : t153 = true
              ·
               subst c72
               have H1 : (some false) = some r := by rw [if_pos rfl] at H; exact H
               clear H
               have H := H1
               clear H1
               obtain rfl := Option.some.inj H
               exact absurd HTru_.out (by decide)
              ·
               replace c72 := Bool.eq_false_iff.mpr c72
               subst c72
               have H1 : (assessorlaw09_ConstraintsChains.l2 k2 t117 l1 (l1.length : Int) (wrap64 (x115_2 + 1))) = some r := by rw [if_neg (show ¬ (false = true) by decide)] at H; exact H
               clear H
               have H := H1
               clear H1
               have H' := Aside0.mk H
               clear H
               have p144 : 0 ≤ (x115_2 : Int) := of_decide_eq_true (by first | (with_reducible assumption) | assumption)
               have q144 : x115_2 < (l1.length : Int) := of_decide_eq_true (by first | (with_reducible assumption) | assumption)
               obtain ⟨ad144, e144, hx144_0, hx144_1, hx144_2, hx144_3, hx144_4, hx144_5, hx144_6, hx144_7⟩ := at_T36 HR1.out x115_2 p144 q144
               cases e144
               replace hx144_0 := (HB.out.cell (World.block_lt_of_cell? w _ hx144_0)).trans hx144_0
               replace hx144_1 := (HB.out.cell (World.block_lt_of_cell? w _ hx144_1)).trans hx144_1
               replace hx144_2 := (HB.out.cell (World.block_lt_of_cell? w _ hx144_2)).trans hx144_2
               replace hx144_3 := (HB.out.cell (World.block_lt_of_cell? w _ hx144_3)).trans hx144_3
               replace hx144_4 := (HB.out.cell (World.block_lt_of_cell? w _ hx144_4)).trans hx144_4
               replace hx144_5 := (HB.out.cell (World.block_lt_of_cell? w _ hx144_5)).trans hx144_5
               replace hx144_6 := (HB.out.cell (World.block_lt_of_cell? w _ hx144_6)).trans hx144_6
               replace hx144_7 := (HB.out.cell (World.block_lt_of_cell? w _ hx144_7)).trans hx144_7
               replace p144 := eq_true p144
               replace q144 := eq_true q144
               try go_wp2_with (first | ((with_reducible refine gate_dst (N := 17) rfl ?_); (try (refine gate_guard (by rfl) ?_; dsimp only)); refine box_event ?hg (N := 17) ?hd (cs := #[.int .i64 0, .int .i64 0, .int .i64 0, .int .i64 0, .int .i64 0, .string (⟨#[]⟩ : ByteArray), .int .i64 0, .int .i64 0]) (t := 36) ?hr ?_; (case hd => rfl); (case hg => rfl); (case hr => first | (go_simp; done) | (go_simp; rfl)); intro gb145 hg w73 hbox hb; have n0_ := Aside0.mk (Kd.R_below (by (with_reducible repeat (first | apply Kd.R_alloc | apply Kd.R_drewN | apply Kd.R_drew)); exact HO_5.out) hb); have n1_ := Aside0.mk (below_step (by repeat (first | (with_reducible first | exact HB.out | apply below_alloc | apply pw_below_drewN | apply below_drew1) | exact HB.out)) hb); have n2_ := Aside0.mk (hbox); have n3_ := Aside0.mk ((by rw [hg]; exact (below_size (by repeat (first | (with_reducible first | exact HB.out | apply below_alloc | apply pw_below_drewN | apply below_drew1) | exact HB.out))) : w.heap.size ≤ gb145)); have n4_ := Aside0.mk ((by rw [hg]; exact (below_size (by repeat (first | (with_reducible first | exact HB.out | apply below_alloc | apply pw_below_drewN | apply below_drew1) | exact HB.out))) : w.heap.size ≤ gb145)); clear HO_5; clear HB; have HO_5 := n0_; have HB := n1_; have BK145 := n2_; have GW145 := n3_; have GE145 := n4_; clear n0_ n1_ n2_ n3_ n4_; clear hb hbox hg; have hcz74_0 : w73.cell? ⟨gb145, 0, none⟩ = some (.int .i64 0) := (blk_cell BK145.out 0).trans rfl; have hcz74_1 : w73.cell? ⟨gb145, 1, none⟩ = some (.int .i64 0) := (blk_cell BK145.out 1).trans rfl; have hcz74_2 : w73.cell? ⟨gb145, 2, none⟩ = some (.int .i64 0) := (blk_cell BK145.out 2).trans rfl; have hcz74_3 : w73.cell? ⟨gb145, 3, none⟩ = some (.int .i64 0) := (blk_cell BK145.out 3).trans rfl; have hcz74_4 : w73.cell? ⟨gb145, 4, none⟩ = some (.int .i64 0) := (blk_cell BK145.out 4).trans rfl; have hcz74_5 : w73.cell? ⟨gb145, 5, none⟩ = some (.string (⟨#[]⟩ : ByteArray)) := (blk_cell BK145.out 5).trans rfl; have hcz74_6 : w73.cell? ⟨gb145, 6, none⟩ = some (.int .i64 0) := (blk_cell BK145.out 6).trans rfl; have hcz74_7 : w73.cell? ⟨gb145, 7, none⟩ = some (.int .i64 0) := (blk_cell BK145.out 7).trans rfl; have hfz74_0 := blk_frozen BK145.out 0; have hfz74_1 := blk_frozen BK145.out 1; have hfz74_2 := blk_frozen BK145.out 2; have hfz74_3 := blk_frozen BK145.out 3; have hfz74_4 := blk_frozen BK145.out 4; have hfz74_5 := blk_frozen BK145.out 5; have hfz74_6 := blk_frozen BK145.out 6; have hfz74_7 := blk_frozen BK145.out 7))
               have n0_ : Aside0 (Kd.R k23 23 ((((((((w73.setCell ⟨gb145, 0, none⟩ (.int .i64 ((rd_T36 l1 x115_2).f0))).setCell ⟨gb145, 1, none⟩ (.int .i64 ((rd_T36 l1 x115_2).f1))).setCell ⟨gb145, 2, none⟩ (.int .i64 ((rd_T36 l1 x115_2).f2))).setCell ⟨gb145, 3, none⟩ (.int .i64 ((rd_T36 l1 x115_2).f3.f0))).setCell ⟨gb145, 4, none⟩ (.int .i64 ((rd_T36 l1 x115_2).f3.f1))).setCell ⟨gb145, 5, none⟩ (.string ((rd_T36 l1 x115_2).f3.f2))).setCell ⟨gb145, 6, none⟩ (.int .i64 ((rd_T36 l1 x115_2).f4))).setCell ⟨gb145, 7, none⟩ (.int .i64 ((rd_T36 l1 x115_2).f5))) w.heap.size (fun _ => True) (.slice Ao12 t117.length co12) t117) := ⟨by (with_reducible repeat (first | apply Kd.R_alloc | apply Kd.R_drewN | apply Kd.R_drew)); exact Kd.R_mono (Kd.R_far (p := ⟨gb145, 7, none⟩) (Kd.R_far (p := ⟨gb145, 6, none⟩) (Kd.R_far (p := ⟨gb145, 5, none⟩) (Kd.R_far (p := ⟨gb145, 4, none⟩) (Kd.R_far (p := ⟨gb145, 3, none⟩) (Kd.R_far (p := ⟨gb145, 2, none⟩) (Kd.R_far (p := ⟨gb145, 1, none⟩) (Kd.R_far (p := ⟨gb145, 0, none⟩) (Kd.R_types HO_5.out BK145.out (by decide)) (fun _ hk => hk.2) (.int .i64 ((rd_T36 l1 x115_2).f0))) (fun _ hk => hk.2) (.int .i64 ((rd_T36 l1 x115_2).f1))) (fun _ hk => hk.2) (.int .i64 ((rd_T36 l1 x115_2).f2))) (fun _ hk => hk.2) (.int .i64 ((rd_T36 l1 x115_2).f3.f0))) (fun _ hk => hk.2) (.int .i64 ((rd_T36 l1 x115_2).f3.f1))) (fun _ hk => hk.2) (.string ((rd_T36 l1 x115_2).f3.f2))) (fun _ hk => hk.2) (.int .i64 ((rd_T36 l1 x115_2).f4))) (fun _ hk => hk.2) (.int .i64 ((rd_T36 l1 x115_2).f5))) (fun _ hk => trivial)⟩
               have n1_ : Aside0 (((((((((w73.setCell ⟨gb145, 0, none⟩ (.int .i64 ((rd_T36 l1 x115_2).f0))).setCell ⟨gb145, 1, none⟩ (.int .i64 ((rd_T36 l1 x115_2).f1))).setCell ⟨gb145, 2, none⟩ (.int .i64 ((rd_T36 l1 x115_2).f2))).setCell ⟨gb145, 3, none⟩ (.int .i64 ((rd_T36 l1 x115_2).f3.f0))).setCell ⟨gb145, 4, none⟩ (.int .i64 ((rd_T36 l1 x115_2).f3.f1))).setCell ⟨gb145, 5, none⟩ (.string ((rd_T36 l1 x115_2).f3.f2))).setCell ⟨gb145, 6, none⟩ (.int .i64 ((rd_T36 l1 x115_2).f4))).setCell ⟨gb145, 7, none⟩ (.int .i64 ((rd_T36 l1 x115_2).f5))).heap[gb145]? = some (.cells #[.int .i64 ((rd_T36 l1 x115_2).f0), .int .i64 ((rd_T36 l1 x115_2).f1), .int .i64 ((rd_T36 l1 x115_2).f2), .int .i64 ((rd_T36 l1 x115_2).f3.f0), .int .i64 ((rd_T36 l1 x115_2).f3.f1), .string ((rd_T36 l1 x115_2).f3.f2), .int .i64 ((rd_T36 l1 x115_2).f4), .int .i64 ((rd_T36 l1 x115_2).f5)] 36 (0, 0))) := ⟨by (with_reducible repeat (first | refine blk_drewN ?_ _ | refine blk_drew ?_ | refine blk_alloc ?_ _)); refine blk_put (cs := #[.int .i64 ((rd_T36 l1 x115_2).f0), .int .i64 ((rd_T36 l1 x115_2).f1), .int .i64 ((rd_T36 l1 x115_2).f2), .int .i64 ((rd_T36 l1 x115_2).f3.f0), .int .i64 ((rd_T36 l1 x115_2).f3.f1), .string ((rd_T36 l1 x115_2).f3.f2), .int .i64 ((rd_T36 l1 x115_2).f4), .int .i64 0]) ?_ 7 _ rfl; (with_reducible repeat (first | refine blk_drewN ?_ _ | refine blk_drew ?_ | refine blk_alloc ?_ _)); refine blk_put (cs := #[.int .i64 ((rd_T36 l1 x115_2).f0), .int .i64 ((rd_T36 l1 x115_2).f1), .int .i64 ((rd_T36 l1 x115_2).f2), .int .i64 ((rd_T36 l1 x115_2).f3.f0), .int .i64 ((rd_T36 l1 x115_2).f3.f1), .string ((rd_T36 l1 x115_2).f3.f2), .int .i64 0, .int .i64 0]) ?_ 6 _ rfl; (with_reducible repeat (first | refine blk_drewN ?_ _ | refine blk_drew ?_ | refine blk_alloc ?_ _)); refine blk_put (cs := #[.int .i64 ((rd_T36 l1 x115_2).f0), .int .i64 ((rd_T36 l1 x115_2).f1), .int .i64 ((rd_T36 l1 x115_2).f2), .int .i64 ((rd_T36 l1 x115_2).f3.f0), .int .i64 ((rd_T36 l1 x115_2).f3.f1), .string (⟨#[]⟩ : ByteArray), .int .i64 0, .int .i64 0]) ?_ 5 _ rfl; (with_reducible repeat (first | refine blk_drewN ?_ _ | refine blk_drew ?_ | refine blk_alloc ?_ _)); refine blk_put (cs := #[.int .i64 ((rd_T36 l1 x115_2).f0), .int .i64 ((rd_T36 l1 x115_2).f1), .int .i64 ((rd_T36 l1 x115_2).f2), .int .i64 ((rd_T36 l1 x115_2).f3.f0), .int .i64 0, .string (⟨#[]⟩ : ByteArray), .int .i64 0, .int .i64 0]) ?_ 4 _ rfl; (with_reducible repeat (first | refine blk_drewN ?_ _ | refine blk_drew ?_ | refine blk_alloc ?_ _)); refine blk_put (cs := #[.int .i64 ((rd_T36 l1 x115_2).f0), .int .i64 ((rd_T36 l1 x115_2).f1), .int .i64 ((rd_T36 l1 x115_2).f2), .int .i64 0, .int .i64 0, .string (⟨#[]⟩ : ByteArray), .int .i64 0, .int .i64 0]) ?_ 3 _ rfl; (with_reducible repeat (first | refine blk_drewN ?_ _ | refine blk_drew ?_ | refine blk_alloc ?_ _)); refine blk_put (cs := #[.int .i64 ((rd_T36 l1 x115_2).f0), .int .i64 ((rd_T36 l1 x115_2).f1), .int .i64 0, .int .i64 0, .int .i64 0, .string (⟨#[]⟩ : ByteArray), .int .i64 0, .int .i64 0]) ?_ 2 _ rfl; (with_reducible repeat (first | refine blk_drewN ?_ _ | refine blk_drew ?_ | refine blk_alloc ?_ _)); refine blk_put (cs := #[.int .i64 ((rd_T36 l1 x115_2).f0), .int .i64 0, .int .i64 0, .int .i64 0, .int .i64 0, .string (⟨#[]⟩ : ByteArray), .int .i64 0, .int .i64 0]) ?_ 1 _ rfl; (with_reducible repeat (first | refine blk_drewN ?_ _ | refine blk_drew ?_ | refine blk_alloc ?_ _)); refine blk_put (cs := #[.int .i64 0, .int .i64 0, .int .i64 0, .int .i64 0, .int .i64 0, .string (⟨#[]⟩ : ByteArray), .int .i64 0, .int .i64 0]) ?_ 0 _ rfl; (with_reducible repeat (first | refine blk_drewN ?_ _ | refine blk_drew ?_ | refine blk_alloc ?_ _)); exact BK145.out⟩
               have n2_ : Aside0 (Below w.heap.size w ((((((((w73.setCell ⟨gb145, 0, none⟩ (.int .i64 ((rd_T36 l1 x115_2).f0))).setCell ⟨gb145, 1, none⟩ (.int .i64 ((rd_T36 l1 x115_2).f1))).setCell ⟨gb145, 2, none⟩ (.int .i64 ((rd_T36 l1 x115_2).f2))).setCell ⟨gb145, 3, none⟩ (.int .i64 ((rd_T36 l1 x115_2).f3.f0))).setCell ⟨gb145, 4, none⟩ (.int .i64 ((rd_T36 l1 x115_2).f3.f1))).setCell ⟨gb145, 5, none⟩ (.string ((rd_T36 l1 x115_2).f3.f2))).setCell ⟨gb145, 6, none⟩ (.int .i64 ((rd_T36 l1 x115_2).f4))).setCell ⟨gb145, 7, none⟩ (.int .i64 ((rd_T36 l1 x115_2).f5)))) := ⟨by repeat (first | (with_reducible first | exact HB.out | apply below_alloc | apply pw_below_drewN | apply below_drew1 | refine below_set ?_ GE145.out) | exact HB.out)⟩
               (try clear HO_5)
               (try clear BK145)
               (try clear HB)
               generalize ((((((((w73.setCell ⟨gb145, 0, none⟩ (.int .i64 ((rd_T36 l1 x115_2).f0))).setCell ⟨gb145, 1, none⟩ (.int .i64 ((rd_T36 l1 x115_2).f1))).setCell ⟨gb145, 2, none⟩ (.int .i64 ((rd_T36 l1 x115_2).f2))).setCell ⟨gb145, 3, none⟩ (.int .i64 ((rd_T36 l1 x115_2).f3.f0))).setCell ⟨gb145, 4, none⟩ (.int .i64 ((rd_T36 l1 x115_2).f3.f1))).setCell ⟨gb145, 5, none⟩ (.string ((rd_T36 l1 x115_2).f3.f2))).setCell ⟨gb145, 6, none⟩ (.int .i64 ((rd_T36 l1 x115_2).f4))).setCell ⟨gb145, 7, none⟩ (.int .i64 ((rd_T36 l1 x115_2).f5))) = w75 at n0_ n1_ n2_ ⊢
               have HO_5 := n0_
               have BK145 := n1_
               have HB := n2_
               clear n0_ n1_ n2_
               have n0_ := Aside0.mk (Kd.R_drew HO_5.out)
               have n1_ := Aside0.mk (blk_drew BK145.out)
               have n2_ := Aside0.mk (below_drew1 HB.out)
               clear HO_5
               clear BK145
               clear HB
               have HO_5 := n0_
               have BK145 := n1_
               have HB := n2_
               clear n0_ n1_ n2_
               have p151 : 0 ≤ (((rd_T36 l1 x115_2).f1) : Int) := of_decide_eq_true (by first | (with_reducible assumption) | assumption)
               have q151 : ((rd_T36 l1 x115_2).f1) < (t117.length : Int) := of_decide_eq_true (by first | (with_reducible assumption) | assumption)
               obtain ⟨ad151, e151, hx151_0, hx151_1, hx151_2⟩ := at_T23 (Kd.R_reads' HO_5.out).2.2 ((rd_T36 l1 x115_2).f1) p151 q151
               cases e151
               replace p151 := eq_true p151
               replace q151 := eq_true q151
               have p152 : 0 ≤ (((rd_T36 l1 x115_2).f1) : Int) := of_decide_eq_true (by first | (with_reducible assumption) | assumption)
               have q152 : ((rd_T36 l1 x115_2).f1) < (t117.length : Int) := of_decide_eq_true (by first | (with_reducible assumption) | assumption)
               obtain ⟨ad152, e152, hx152_0, hx152_1, hx152_2⟩ := at_T23 (Kd.R_reads' HO_5.out).2.2 ((rd_T36 l1 x115_2).f1) p152 q152
               obtain rfl : ad151 = ad152 := (by injection e152)
               replace p152 := eq_true p152
               replace q152 := eq_true q152
               refine start_ (n := 40) (S := fun w' => w'.cell? ⟨gb145, 0, none⟩ = some (.int .i64 ((rd_T36 l1 x115_2).f0)) ∧ w'.cell? ⟨gb145, 1, none⟩ = some (.int .i64 ((rd_T36 l1 x115_2).f1)) ∧ w'.cell? ⟨gb145, 2, none⟩ = some (.int .i64 ((rd_T36 l1 x115_2).f2)) ∧ w'.cell? ⟨gb145, 3, none⟩ = some (.int .i64 ((rd_T36 l1 x115_2).f3.f0)) ∧ w'.cell? ⟨gb145, 4, none⟩ = some (.int .i64 ((rd_T36 l1 x115_2).f3.f1)) ∧ w'.cell? ⟨gb145, 5, none⟩ = some (.string ((rd_T36 l1 x115_2).f3.f2)) ∧ w'.cell? ⟨gb145, 6, none⟩ = some (.int .i64 ((rd_T36 l1 x115_2).f4)) ∧ w'.cell? ⟨gb145, 7, none⟩ = some (.int .i64 ((rd_T36 l1 x115_2).f5)) ∧ w'.cell? (ad151.add ((((rd_T36 l1 x115_2).f1)).toNat * 3)) = some (.int .i64 ((rd_T23 t117 ((rd_T36 l1 x115_2).f1)).f0)) ∧ w'.cell? ⟨(ad151.add ((((rd_T36 l1 x115_2).f1)).toNat * 3)).block, (ad151.add ((((rd_T36 l1 x115_2).f1)).toNat * 3)).off + 1, none⟩ = some (.int .i64 ((rd_T23 t117 ((rd_T36 l1 x115_2).f1)).f1)) ∧ w'.cell? ⟨(ad151.add ((((rd_T36 l1 x115_2).f1)).toNat * 3)).block, (ad151.add ((((rd_T36 l1 x115_2).f1)).toNat * 3)).off + 2, none⟩ = some (.string ((rd_T23 t117 ((rd_T36 l1 x115_2).f1)).f2)) ∧ w'.cell? (ad151.add ((((rd_T36 l1 x115_2).f1)).toNat * 3)) = some (.int .i64 ((rd_T23 t117 ((rd_T36 l1 x115_2).f1)).f0)) ∧ w'.cell? ⟨(ad151.add ((((rd_T36 l1 x115_2).f1)).toNat * 3)).block, (ad151.add ((((rd_T36 l1 x115_2).f1)).toNat * 3)).off + 1, none⟩ = some (.int .i64 ((rd_T23 t117 ((rd_T36 l1 x115_2).f1)).f1)) ∧ w'.cell? ⟨(ad151.add ((((rd_T36 l1 x115_2).f1)).toNat * 3)).block, (ad151.add ((((rd_T36 l1 x115_2).f1)).toNat * 3)).off + 2, none⟩ = some (.string ((rd_T23 t117 ((rd_T36 l1 x115_2).f1)).f2))) (ds := []) #[nn, nn, nn, nn, nn, nn, nn, nn, nn, nn, nn, nn, nn, nn, nn, nn, nn, nn, nn, nn, nn, nn, nn, nn, nn, nn, nn, nn, nn, nn, nn, nn, nn, nn, nn, nn, nn, nn, nn, nn] (by kernel_rfl) rfl rfl ⟨(blk_cell BK145.out 0).trans rfl, (blk_cell BK145.out 1).trans rfl, (blk_cell BK145.out 2).trans rfl, (blk_cell BK145.out 3).trans rfl, (blk_cell BK145.out 4).trans rfl, (blk_cell BK145.out 5).trans rfl, (blk_cell BK145.out 6).trans rfl, (blk_cell BK145.out 7).trans rfl, hx151_0, hx151_1, hx151_2, hx152_0, hx152_1, hx152_2⟩ (fun hHeld => ?_); refine with_tabW assessorlaw09_ConstraintsChains.tab28 assessorlaw09_ConstraintsChains.bits28 (fun HT_ HW_ => ?_)
               generalize w75.drew = w76 at HO_5 BK145 HB hx151_0 hx151_1 hx151_2 hx152_0 hx152_1 hx152_2 hHeld ⊢
               refine pure_ (i := 0) (N := some 119) (v := ?_) (a' := ?_) #[yy, nn, nn, nn, nn, nn, nn, nn, nn, nn, nn, nn, nn, nn, nn, nn, nn, nn, nn, nn, nn, nn, nn, nn, nn, nn, nn, nn, nn, nn, nn, nn, nn, nn, nn, nn, nn, nn, nn, nn] rfl rfl (any_of HT_.out (by kernel_rfl)) (fun _ _ _ h => h) (Or.inl ⟨by rfl, ?_⟩) ?_ ?_
               rotate_left; (· intro w'; go_simp; with_reducible rfl)
               rotate_left; (· simp only [Act.put, List.setIfInBounds_toArray, List.set_cons_zero, List.set_cons_succ, i64_w, i32_w]; rfl)
               refine take_ (i := 1) (N := some 120) (v := ?_) (a' := ?_) #[yy, yy, nn, nn, nn, nn, nn, nn, nn, nn, nn, nn, nn, nn, nn, nn, nn, nn, nn, nn, nn, nn, nn, nn, nn, nn, nn, nn, nn, nn, nn, nn, nn, nn, nn, nn, nn, nn, nn, nn] rfl rfl (take_ofW HT_.out HW_.out (by kernel_rfl)) (fun _ _ _ h => h) (Or.inl ⟨by rfl, ?_⟩) hHeld ?_ ?_
               rotate_left; (· rintro w' ⟨s0, s1, s2, s3, s4, s5, s6, s7, s8, s9, s10, s11, s12, s13⟩; go_simp; with_reducible rfl)
               rotate_left; (· simp only [Act.put, List.setIfInBounds_toArray, List.set_cons_zero, List.set_cons_succ, i64_w, i32_w]; rfl)
               refine pure_ (i := 2) (N := some 121) (v := ?_) (a' := ?_) #[yy, yy, yy, nn, nn, nn, nn, nn, nn, nn, nn, nn, nn, nn, nn, nn, nn, nn, nn, nn, nn, nn, nn, nn, nn, nn, nn, nn, nn, nn, nn, nn, nn, nn, nn, nn, nn, nn, nn, nn] rfl rfl (any_of HT_.out (by kernel_rfl)) (fun _ _ _ h => h) (Or.inl ⟨by rfl, ?_⟩) ?_ ?_
               rotate_left; (· intro w'; go_simp; with_reducible rfl)
               rotate_left; (· simp only [Act.put, List.setIfInBounds_toArray, List.set_cons_zero, List.set_cons_succ, i64_w, i32_w]; rfl)
               refine pure_ (i := 3) (N := some 122) (v := ?_) (a' := ?_) #[yy, yy, yy, yy, nn, nn, nn, nn, nn, nn, nn, nn, nn, nn, nn, nn, nn, nn, nn, nn, nn, nn, nn, nn, nn, nn, nn, nn, nn, nn, nn, nn, nn, nn, nn, nn, nn, nn, nn, nn] rfl rfl (any_of HT_.out (by kernel_rfl)) (fun _ _ _ h => h) (Or.inl ⟨by rfl, ?_⟩) ?_ ?_
               rotate_left; (· intro w'; go_simp; with_reducible rfl)
               rotate_left; (· simp only [Act.put, List.setIfInBounds_toArray, List.set_cons_zero, List.set_cons_succ, i64_w, i32_w]; rfl)
               refine pure_ (i := 4) (N := some 123) (v := undef) (a' := ?_) #[yy, yy, yy, yy, yy, nn, nn, nn, nn, nn, nn, nn, nn, nn, nn, nn, nn, nn, nn, nn, nn, nn, nn, nn, nn, nn, nn, nn, nn, nn, nn, nn, nn, nn, nn, nn, nn, nn, nn, nn] rfl rfl (any_of HT_.out (by kernel_rfl)) (fun _ _ _ h => h) (Or.inr ⟨by rfl, rfl⟩) ?_ ?_
               rotate_left; (· simp only [Act.put, List.setIfInBounds_toArray, List.set_cons_zero, List.set_cons_succ, i64_w, i32_w]; rfl)
               refine pure_ (i := 5) (N := some 124) (v := undef) (a' := ?_) #[yy, yy, yy, yy, yy, yy, nn, nn, nn, nn, nn, nn, nn, nn, nn, nn, nn, nn, nn, nn, nn, nn, nn, nn, nn, nn, nn, nn, nn, nn, nn, nn, nn, nn, nn, nn, nn, nn, nn, nn] rfl rfl (any_of HT_.out (by kernel_rfl)) (fun _ _ _ h => h) (Or.inr ⟨by rfl, rfl⟩) ?_ ?_
               rotate_left; (· simp only [Act.put, List.setIfInBounds_toArray, List.set_cons_zero, List.set_cons_succ, i64_w, i32_w]; rfl)
               refine pure_ (i := 6) (N := some 125) (v := undef) (a' := ?_) #[yy, yy, yy, yy, yy, yy, yy, nn, nn, nn, nn, nn, nn, nn, nn, nn, nn, nn, nn, nn, nn, nn, nn, nn, nn, nn, nn, nn, nn, nn, nn, nn, nn, nn, nn, nn, nn, nn, nn, nn] rfl rfl (any_of HT_.out (by kernel_rfl)) (fun _ _ _ h => h) (Or.inr ⟨by rfl, rfl⟩) ?_ ?_
               rotate_left; (· simp only [Act.put, List.setIfInBounds_toArray, List.set_cons_zero, List.set_cons_succ, i64_w, i32_w]; rfl)
               refine pure_ (i := 7) (N := some 126) (v := undef) (a' := ?_) #[yy, yy, yy, yy, yy, yy, yy, yy, nn, nn, nn, nn, nn, nn, nn, nn, nn, nn, nn, nn, nn, nn, nn, nn, nn, nn, nn, nn, nn, nn, nn, nn, nn, nn, nn, nn, nn, nn, nn, nn] rfl rfl (any_of HT_.out (by kernel_rfl)) (fun _ _ _ h => h) (Or.inr ⟨by rfl, rfl⟩) ?_ ?_
               rotate_left; (· simp only [Act.put, List.setIfInBounds_toArray, List.set_cons_zero, List.set_cons_succ, i64_w, i32_w]; rfl)
               refine pure_ (i := 8) (N := some 127) (v := undef) (a' := ?_) #[yy, yy, yy, yy, yy, yy, yy, yy, yy, nn, nn, nn, nn, nn, nn, nn, nn, nn, nn, nn, nn, nn, nn, nn, nn, nn, nn, nn, nn, nn, nn, nn, nn, nn, nn, nn, nn, nn, nn, nn] rfl rfl (any_of HT_.out (by kernel_rfl)) (fun _ _ _ h => h) (Or.inr ⟨by rfl, rfl⟩) ?_ ?_
               rotate_left; (· simp only [Act.put, List.setIfInBounds_toArray, List.set_cons_zero, List.set_cons_succ, i64_w, i32_w]; rfl)
               refine pure_ (i := 9) (N := some 128) (v := undef) (a' := ?_) #[yy, yy, yy, yy, yy, yy, yy, yy, yy, yy, nn, nn, nn, nn, nn, nn, nn, nn, nn, nn, nn, nn, nn, nn, nn, nn, nn, nn, nn, nn, nn, nn, nn, nn, nn, nn, nn, nn, nn, nn] rfl rfl (any_of HT_.out (by kernel_rfl)) (fun _ _ _ h => h) (Or.inr ⟨by rfl, rfl⟩) ?_ ?_
               rotate_left; (· simp only [Act.put, List.setIfInBounds_toArray, List.set_cons_zero, List.set_cons_succ, i64_w, i32_w]; rfl)
               refine pure_ (i := 10) (N := some 129) (v := undef) (a' := ?_) #[yy, yy, yy, yy, yy, yy, yy, yy, yy, yy, yy, nn, nn, nn, nn, nn, nn, nn, nn, nn, nn, nn, nn, nn, nn, nn, nn, nn, nn, nn, nn, nn, nn, nn, nn, nn, nn, nn, nn, nn] rfl rfl (any_of HT_.out (by kernel_rfl)) (fun _ _ _ h => h) (Or.inr ⟨by rfl, rfl⟩) ?_ ?_
               rotate_left; (· simp only [Act.put, List.setIfInBounds_toArray, List.set_cons_zero, List.set_cons_succ, i64_w, i32_w]; rfl)
               refine pure_ (i := 11) (N := some 130) (v := undef) (a' := ?_) #[yy, yy, yy, yy, yy, yy, yy, yy, yy, yy, yy, yy, nn, nn, nn, nn, nn, nn, nn, nn, nn, nn, nn, nn, nn, nn, nn, nn, nn, nn, nn, nn, nn, nn, nn, nn, nn, nn, nn, nn] rfl rfl (any_of HT_.out (by kernel_rfl)) (fun _ _ _ h => h) (Or.inr ⟨by rfl, rfl⟩) ?_ ?_
               rotate_left; (· simp only [Act.put, List.setIfInBounds_toArray, List.set_cons_zero, List.set_cons_succ, i64_w, i32_w]; rfl)
               refine pure_ (i := 12) (N := some 131) (v := undef) (a' := ?_) #[yy, yy, yy, yy, yy, yy, yy, yy, yy, yy, yy, yy, yy, nn, nn, nn, nn, nn, nn, nn, nn, nn, nn, nn, nn, nn, nn, nn, nn, nn, nn, nn, nn, nn, nn, nn, nn, nn, nn, nn] rfl rfl (any_of HT_.out (by kernel_rfl)) (fun _ _ _ h => h) (Or.inr ⟨by rfl, rfl⟩) ?_ ?_
               rotate_left; (· simp only [Act.put, List.setIfInBounds_toArray, List.set_cons_zero, List.set_cons_succ, i64_w, i32_w]; rfl)
               refine pure_ (i := 13) (N := some 132) (v := undef) (a' := ?_) #[yy, yy, yy, yy, yy, yy, yy, yy, yy, yy, yy, yy, yy, yy, nn, nn, nn, nn, nn, nn, nn, nn, nn, nn, nn, nn, nn, nn, nn, nn, nn, nn, nn, nn, nn, nn, nn, nn, nn, nn] rfl rfl (any_of HT_.out (by kernel_rfl)) (fun _ _ _ h => h) (Or.inr ⟨by rfl, rfl⟩) ?_ ?_
               rotate_left; (· simp only [Act.put, List.setIfInBounds_toArray, List.set_cons_zero, List.set_cons_succ, i64_w, i32_w]; rfl)
               refine pure_ (i := 14) (N := some 133) (v := undef) (a' := ?_) #[yy, yy, yy, yy, yy, yy, yy, yy, yy, yy, yy, yy, yy, yy, yy, nn, nn, nn, nn, nn, nn, nn, nn, nn, nn, nn, nn, nn, nn, nn, nn, nn, nn, nn, nn, nn, nn, nn, nn, nn] rfl rfl (any_of HT_.out (by kernel_rfl)) (fun _ _ _ h => h) (Or.inr ⟨by rfl, rfl⟩) ?_ ?_
               rotate_left; (· simp only [Act.put, List.setIfInBounds_toArray, List.set_cons_zero, List.set_cons_succ, i64_w, i32_w]; rfl)
               refine pure_ (i := 15) (N := some 134) (v := ?_) (a' := ?_) #[yy, yy, yy, yy, yy, yy, yy, yy, yy, yy, yy, yy, yy, yy, yy, yy, nn, nn, nn, nn, nn, nn, nn, nn, nn, nn, nn, nn, nn, nn, nn, nn, nn, nn, nn, nn, nn, nn, nn, nn] rfl rfl (any_of HT_.out (by kernel_rfl)) (fun _ _ _ h => h) (Or.inl ⟨by rfl, ?_⟩) ?_ ?_
               rotate_left; (· intro w'; go_simp; with_reducible rfl)
               rotate_left; (· simp only [Act.put, List.setIfInBounds_toArray, List.set_cons_zero, List.set_cons_succ, i64_w, i32_w]; rfl)
               refine pure_ (i := 16) (N := some 135) (v := ?_) (a' := ?_) #[yy, yy, yy, yy, yy, yy, yy, yy, yy, yy, yy, yy, yy, yy, yy, yy, yy, nn, nn, nn, nn, nn, nn, nn, nn, nn, nn, nn, nn, nn, nn, nn, nn, nn, nn, nn, nn, nn, nn, nn] rfl rfl (any_of HT_.out (by kernel_rfl)) (fun _ _ _ h => h) (Or.inl ⟨by rfl, ?_⟩) ?_ ?_
               rotate_left; (· intro w'; go_simp; with_reducible rfl)
               rotate_left; (· simp only [Act.put, List.setIfInBounds_toArray, List.set_cons_zero, List.set_cons_succ, i64_w, i32_w]; rfl)
               refine pure_ (i := 17) (N := some 136) (v := ?_) (a' := ?_) #[yy, yy, yy, yy, yy, yy, yy, yy, yy, yy, yy, yy, yy, yy, yy, yy, yy, yy, nn, nn, nn, nn, nn, nn, nn, nn, nn, nn, nn, nn, nn, nn, nn, nn, nn, nn, nn, nn, nn, nn] rfl rfl (any_of HT_.out (by kernel_rfl)) (fun _ _ _ h => h) (Or.inl ⟨by rfl, ?_⟩) ?_ ?_
               rotate_left; (· intro w'; go_simp; with_reducible rfl)
               rotate_left; (· simp only [Act.put, List.setIfInBounds_toArray, List.set_cons_zero, List.set_cons_succ, i64_w, i32_w]; rfl)
               refine take_ (i := 18) (N := some 137) (v := ?_) (a' := ?_) #[yy, yy, yy, yy, yy, yy, yy, yy, yy, yy, yy, yy, yy, yy, yy, yy, yy, yy, yy, nn, nn, nn, nn, nn, nn, nn, nn, nn, nn, nn, nn, nn, nn, nn, nn, nn, nn, nn, nn, nn] rfl rfl (take_ofW HT_.out HW_.out (by kernel_rfl)) (fun _ _ _ h => h) (Or.inl ⟨by rfl, ?_⟩) hHeld ?_ ?_
               rotate_left; (· rintro w' ⟨s0, s1, s2, s3, s4, s5, s6, s7, s8, s9, s10, s11, s12, s13⟩; go_simp; with_reducible rfl)
               rotate_left; (· simp only [Act.put, List.setIfInBounds_toArray, List.set_cons_zero, List.set_cons_succ, i64_w, i32_w]; rfl)
               refine pure_ (i := 19) (N := some 138) (v := ?_) (a' := ?_) #[yy, yy, yy, yy, yy, yy, yy, yy, yy, yy, yy, yy, yy, yy, yy, yy, yy, yy, yy, yy, nn, nn, nn, nn, nn, nn, nn, nn, nn, nn, nn, nn, nn, nn, nn, nn, nn, nn, nn, nn] rfl rfl (any_of HT_.out (by kernel_rfl)) (fun _ _ _ h => h) (Or.inl ⟨by rfl, ?_⟩) ?_ ?_
               rotate_left; (· intro w'; go_simp; with_reducible rfl)
               rotate_left; (· simp only [Act.put, List.setIfInBounds_toArray, List.set_cons_zero, List.set_cons_succ, i64_w, i32_w]; rfl)
               refine pure_ (i := 20) (N := some 139) (v := ?_) (a' := ?_) #[yy, yy, yy, yy, yy, yy, yy, yy, yy, yy, yy, yy, yy, yy, yy, yy, yy, yy, yy, yy, yy, nn, nn, nn, nn, nn, nn, nn, nn, nn, nn, nn, nn, nn, nn, nn, nn, nn, nn, nn] rfl rfl (any_of HT_.out (by kernel_rfl)) (fun _ _ _ h => h) (Or.inl ⟨by rfl, ?_⟩) ?_ ?_
               rotate_left; (· intro w'; go_simp; with_reducible rfl)
               rotate_left; (· simp only [Act.put, List.setIfInBounds_toArray, List.set_cons_zero, List.set_cons_succ, i64_w, i32_w]; rfl)
               refine pure_ (i := 21) (N := some 140) (v := ?_) (a' := ?_) #[yy, yy, yy, yy, yy, yy, yy, yy, yy, yy, yy, yy, yy, yy, yy, yy, yy, yy, yy, yy, yy, yy, nn, nn, nn, nn, nn, nn, nn, nn, nn, nn, nn, nn, nn, nn, nn, nn, nn, nn] rfl rfl (any_of HT_.out (by kernel_rfl)) (fun _ _ _ h => h) (Or.inl ⟨by rfl, ?_⟩) ?_ ?_
               rotate_left; (· intro w'; go_simp; with_reducible rfl)
               rotate_left; (· simp only [Act.put, List.setIfInBounds_toArray, List.set_cons_zero, List.set_cons_succ, i64_w, i32_w]; rfl)
               refine pure_ (i := 22) (N := some 141) (v := ?_) (a' := ?_) #[yy, yy, yy, yy, yy, yy, yy, yy, yy, yy, yy, yy, yy, yy, yy, yy, yy, yy, yy, yy, yy, yy, yy, nn, nn, nn, nn, nn, nn, nn, nn, nn, nn, nn, nn, nn, nn, nn, nn, nn] rfl rfl (any_of HT_.out (by kernel_rfl)) (fun _ _ _ h => h) (Or.inl ⟨by rfl, ?_⟩) ?_ ?_
               rotate_left; (· intro w'; go_simp; with_reducible rfl)
               rotate_left; (· simp only [Act.put, List.setIfInBounds_toArray, List.set_cons_zero, List.set_cons_succ, i64_w, i32_w]; rfl)
               refine pure_ (i := 26) (N := some 145) (v := ?_) (a' := ?_) #[yy, yy, yy, yy, yy, yy, yy, yy, yy, yy, yy, yy, yy, yy, yy, yy, yy, yy, yy, yy, yy, yy, yy, nn, nn, nn, yy, nn, nn, nn, nn, nn, nn, nn, nn, nn, nn, nn, nn, nn] rfl rfl (any_of HT_.out (by kernel_rfl)) (fun _ _ _ h => h) (Or.inl ⟨by rfl, ?_⟩) ?_ ?_
               rotate_left; (· intro w'; go_simp; with_reducible rfl)
               rotate_left; (· simp only [Act.put, List.setIfInBounds_toArray, List.set_cons_zero, List.set_cons_succ, i64_w, i32_w]; rfl)
               refine take_ (i := 23) (N := some 142) (v := ?_) (a' := ?_) #[yy, yy, yy, yy, yy, yy, yy, yy, yy, yy, yy, yy, yy, yy, yy, yy, yy, yy, yy, yy, yy, yy, yy, yy, nn, nn, yy, nn, nn, nn, nn, nn, nn, nn, nn, nn, nn, nn, nn, nn] rfl rfl (take_ofW HT_.out HW_.out (by kernel_rfl)) (fun _ _ _ h => h) (Or.inl ⟨by rfl, ?_⟩) hHeld ?_ ?_
               rotate_left; (· rintro w' ⟨s0, s1, s2, s3, s4, s5, s6, s7, s8, s9, s10, s11, s12, s13⟩; go_simp; with_reducible rfl)
               rotate_left; (· simp only [Act.put, List.setIfInBounds_toArray, List.set_cons_zero, List.set_cons_succ, i64_w, i32_w]; rfl)
               refine pure_ (i := 24) (N := some 143) (v := ?_) (a' := ?_) #[yy, yy, yy, yy, yy, yy, yy, yy, yy, yy, yy, yy, yy, yy, yy, yy, yy, yy, yy, yy, yy, yy, yy, yy, yy, nn, yy, nn, nn, nn, nn, nn, nn, nn, nn, nn, nn, nn, nn, nn] rfl rfl (any_of HT_.out (by kernel_rfl)) (fun _ _ _ h => h) (Or.inl ⟨by rfl, ?_⟩) ?_ ?_
               rotate_left; (· intro w'; go_simp; with_reducible rfl)
               rotate_left; (· simp only [Act.put, List.setIfInBounds_toArray, List.set_cons_zero, List.set_cons_succ, i64_w, i32_w]; rfl)
               refine take_ (i := 25) (N := some 144) (v := ?_) (a' := ?_) #[yy, yy, yy, yy, yy, yy, yy, yy, yy, yy, yy, yy, yy, yy, yy, yy, yy, yy, yy, yy, yy, yy, yy, yy, yy, yy, yy, nn, nn, nn, nn, nn, nn, nn, nn, nn, nn, nn, nn, nn] rfl rfl (take_ofW HT_.out HW_.out (by kernel_rfl)) (fun _ _ _ h => h) (Or.inl ⟨by rfl, ?_⟩) hHeld ?_ ?_
               rotate_left; (· rintro w' ⟨s0, s1, s2, s3, s4, s5, s6, s7, s8, s9, s10, s11, s12, s13⟩; go_simp; with_reducible rfl)
               rotate_left; (· simp only [Act.put, List.setIfInBounds_toArray, List.set_cons_zero, List.set_cons_succ, i64_w, i32_w]; rfl)
               refine pure_ (i := 27) (N := some 146) (v := ?_) (a' := ?_) #[yy, yy, yy, yy, yy, yy, yy, yy, yy, yy, yy, yy, yy, yy, yy, yy, yy, yy, yy, yy, yy, yy, yy, yy, yy, yy, yy, yy, nn, nn, nn, nn, nn, nn, nn, nn, nn, nn, nn, nn] rfl rfl (any_of HT_.out (by kernel_rfl)) (fun _ _ _ h => h) (Or.inl ⟨by rfl, ?_⟩) ?_ ?_
               rotate_left; (· intro w'; go_simp; with_reducible rfl)
               rotate_left; (· simp only [Act.put, List.setIfInBounds_toArray, List.set_cons_zero, List.set_cons_succ, i64_w, i32_w]; rfl)
               refine pure_ (i := 28) (N := some 147) (v := ?_) (a' := ?_) #[yy, yy, yy, yy, yy, yy, yy, yy, yy, yy, yy, yy, yy, yy, yy, yy, yy, yy, yy, yy, yy, yy, yy, yy, yy, yy, yy, yy, yy, nn, nn, nn, nn, nn, nn, nn, nn, nn, nn, nn] rfl rfl (any_of HT_.out (by kernel_rfl)) (fun _ _ _ h => h) (Or.inl ⟨by rfl, ?_⟩) ?_ ?_
               rotate_left; (· intro w'; go_simp; with_reducible rfl)
               rotate_left; (· simp only [Act.put, List.setIfInBounds_toArray, List.set_cons_zero, List.set_cons_succ, i64_w, i32_w]; rfl)
               refine pure_ (i := 29) (N := some 148) (v := ?_) (a' := ?_) #[yy, yy, yy, yy, yy, yy, yy, yy, yy, yy, yy, yy, yy, yy, yy, yy, yy, yy, yy, yy, yy, yy, yy, yy, yy, yy, yy, yy, yy, yy, nn, nn, nn, nn, nn, nn, nn, nn, nn, nn] rfl rfl (any_of HT_.out (by kernel_rfl)) (fun _ _ _ h => h) (Or.inl ⟨by rfl, ?_⟩) ?_ ?_
               rotate_left; (· intro w'; go_simp; with_reducible rfl)
               rotate_left; (· simp only [Act.put, List.setIfInBounds_toArray, List.set_cons_zero, List.set_cons_succ, i64_w, i32_w]; rfl)
               refine pure_ (i := 30) (N := some 149) (v := ?_) (a' := ?_) #[yy, yy, yy, yy, yy, yy, yy, yy, yy, yy, yy, yy, yy, yy, yy, yy, yy, yy, yy, yy, yy, yy, yy, yy, yy, yy, yy, yy, yy, yy, yy, nn, nn, nn, nn, nn, nn, nn, nn, nn] rfl rfl (any_of HT_.out (by kernel_rfl)) (fun _ _ _ h => h) (Or.inl ⟨by rfl, ?_⟩) ?_ ?_
               rotate_left; (· intro w'; go_simp; with_reducible rfl)
               rotate_left; (· simp only [Act.put, List.setIfInBounds_toArray, List.set_cons_zero, List.set_cons_succ, i64_w, i32_w]; rfl)
               refine pure_ (i := 32) (N := some 151) (v := ?_) (a' := ?_) #[yy, yy, yy, yy, yy, yy, yy, yy, yy, yy, yy, yy, yy, yy, yy, yy, yy, yy, yy, yy, yy, yy, yy, yy, yy, yy, yy, yy, yy, yy, yy, nn, yy, nn, nn, nn, nn, nn, nn, nn] rfl rfl (any_of HT_.out (by kernel_rfl)) (fun _ _ _ h => h) (Or.inl ⟨by rfl, ?_⟩) ?_ ?_
               rotate_left; (· intro w'; go_simp; with_reducible rfl)
               rotate_left; (· simp only [Act.put, List.setIfInBounds_toArray, List.set_cons_zero, List.set_cons_succ, i64_w, i32_w]; rfl)
               refine pure_ (i := 33) (N := some 152) (v := ?_) (a' := ?_) #[yy, yy, yy, yy, yy, yy, yy, yy, yy, yy, yy, yy, yy, yy, yy, yy, yy, yy, yy, yy, yy, yy, yy, yy, yy, yy, yy, yy, yy, yy, yy, nn, yy, yy, nn, nn, nn, nn, nn, nn] rfl rfl (any_of HT_.out (by kernel_rfl)) (fun _ _ _ h => h) (Or.inl ⟨by rfl, ?_⟩) ?_ ?_
               rotate_left; (· intro w'; go_simp; with_reducible rfl)
               rotate_left; (· simp only [Act.put, List.setIfInBounds_toArray, List.set_cons_zero, List.set_cons_succ, i64_w, i32_w]; rfl)
               refine take_ (i := 31) (N := some 150) (v := ?_) (a' := ?_) #[yy, yy, yy, yy, yy, yy, yy, yy, yy, yy, yy, yy, yy, yy, yy, yy, yy, yy, yy, yy, yy, yy, yy, yy, yy, yy, yy, yy, yy, yy, yy, yy, yy, yy, nn, nn, nn, nn, nn, nn] rfl rfl (take_ofW HT_.out HW_.out (by kernel_rfl)) (fun _ _ _ h => h) (Or.inl ⟨by rfl, ?_⟩) hHeld ?_ ?_
               rotate_left; (· rintro w' ⟨s0, s1, s2, s3, s4, s5, s6, s7, s8, s9, s10, s11, s12, s13⟩; go_simp; with_reducible rfl)
               rotate_left; (· simp only [Act.put, List.setIfInBounds_toArray, List.set_cons_zero, List.set_cons_succ, i64_w, i32_w]; rfl)
               refine take_ (i := 34) (N := some 153) (v := ?_) (a' := ?_) #[yy, yy, yy, yy, yy, yy, yy, yy, yy, yy, yy, yy, yy, yy, yy, yy, yy, yy, yy, yy, yy, yy, yy, yy, yy, yy, yy, yy, yy, yy, yy, yy, yy, yy, yy, nn, nn, nn, nn, nn] rfl rfl (take_ofW HT_.out HW_.out (by kernel_rfl)) (fun _ _ _ h => h) (Or.inl ⟨by rfl, ?_⟩) hHeld ?_ ?_
               rotate_left; (· rintro w' ⟨s0, s1, s2, s3, s4, s5, s6, s7, s8, s9, s10, s11, s12, s13⟩; go_simp; with_reducible rfl)
               rotate_left; (· simp only [Act.put, List.setIfInBounds_toArray, List.set_cons_zero, List.set_cons_succ, i64_w, i32_w]; rfl)
               refine pure_ (i := 35) (N := some 154) (v := ?_) (a' := ?_) #[yy, yy, yy, yy, yy, yy, yy, yy, yy, yy, yy, yy, yy, yy, yy, yy, yy, yy, yy, yy, yy, yy, yy, yy, yy, yy, yy, yy, yy, yy, yy, yy, yy, yy, yy, yy, nn, nn, nn, nn] rfl rfl (any_of HT_.out (by kernel_rfl)) (fun _ _ _ h => h) (Or.inl ⟨by rfl, ?_⟩) ?_ ?_
               rotate_left; (· intro w'; go_simp; with_reducible rfl)
               rotate_left; (· simp only [Act.put, List.setIfInBounds_toArray, List.set_cons_zero, List.set_cons_succ, i64_w, i32_w]; rfl)
               refine take_ (i := 36) (N := some 155) (v := ?_) (a' := ?_) #[yy, yy, yy, yy, yy, yy, yy, yy, yy, yy, yy, yy, yy, yy, yy, yy, yy, yy, yy, yy, yy, yy, yy, yy, yy, yy, yy, yy, yy, yy, yy, yy, yy, yy, yy, yy, yy, nn, nn, nn] rfl rfl (take_ofW HT_.out HW_.out (by kernel_rfl)) (fun _ _ _ h => h) (Or.inl ⟨by rfl, ?_⟩) hHeld ?_ ?_
               rotate_left; (· rintro w' ⟨s0, s1, s2, s3, s4, s5, s6, s7, s8, s9, s10, s11, s12, s13⟩; go_simp; with_reducible rfl)
               rotate_left; (· simp only [Act.put, List.setIfInBounds_toArray, List.set_cons_zero, List.set_cons_succ, i64_w, i32_w]; rfl)
               refine one_ (i := 37) (N := some 156) #[yy, yy, yy, yy, yy, yy, yy, yy, yy, yy, yy, yy, yy, yy, yy, yy, yy, yy, yy, yy, yy, yy, yy, yy, yy, yy, yy, yy, yy, yy, yy, yy, yy, yy, yy, yy, yy, yy, nn, nn] rfl rfl (one_of HT_.out (by kernel_rfl)) (by decide) (fun K hK => ?_)
               refine goes_ Try.func9 (by kernel_rfl) rfl #[.agg #[.int .i64 ((rd_T36 l1 x115_2).f3.f0), .int .i64 ((rd_T36 l1 x115_2).f3.f1), .string ((rd_T36 l1 x115_2).f3.f2)], .agg #[.int .i64 ((rd_T23 t117 ((rd_T36 l1 x115_2).f1)).f0), .int .i64 ((rd_T23 t117 ((rd_T36 l1 x115_2).f1)).f1), .string ((rd_T23 t117 ((rd_T36 l1 x115_2).f1)).f2)]] (by rfl) rfl rfl (by (try simp only [List.map_toArray, List.map_cons, List.map_nil]); first | done | rfl | (simp only [List.length_drop, List.length_take]; rfl)) ?_
               with_reducible refine (assessorref09_Exclude.calls k2 ((rd_T36 l1 x115_2).f3.f0) ((rd_T36 l1 x115_2).f3.f1) ((rd_T36 l1 x115_2).f3.f2) ((rd_T23 t117 ((rd_T36 l1 x115_2).f1)).f0) ((rd_T23 t117 ((rd_T36 l1 x115_2).f1)).f1) ((rd_T23 t117 ((rd_T36 l1 x115_2).f1)).f2) false _ A71.out).mono ?_
               rintro e w77 ⟨rfl, hb⟩
               have HS8_ := (hb.cell (World.block_lt_of_cell? _ _ (hHeld.2.2.2.2.2.2.2.2.1))).trans (hHeld.2.2.2.2.2.2.2.2.1)
               have HS9_ := (hb.cell (World.block_lt_of_cell? _ _ (hHeld.2.2.2.2.2.2.2.2.2.1))).trans (hHeld.2.2.2.2.2.2.2.2.2.1)
               have HS10_ := (hb.cell (World.block_lt_of_cell? _ _ (hHeld.2.2.2.2.2.2.2.2.2.2.1))).trans (hHeld.2.2.2.2.2.2.2.2.2.2.1)
               have HS11_ := (hb.cell (World.block_lt_of_cell? _ _ (hHeld.2.2.2.2.2.2.2.2.2.2.2.1))).trans (hHeld.2.2.2.2.2.2.2.2.2.2.2.1)
               have HS12_ := (hb.cell (World.block_lt_of_cell? _ _ (hHeld.2.2.2.2.2.2.2.2.2.2.2.2.1))).trans (hHeld.2.2.2.2.2.2.2.2.2.2.2.2.1)
               have HS13_ := (hb.cell (World.block_lt_of_cell? _ _ (hHeld.2.2.2.2.2.2.2.2.2.2.2.2.2))).trans (hHeld.2.2.2.2.2.2.2.2.2.2.2.2.2)
               refine ⟨_, rfl, ?_⟩
               have n0_ := Aside0.mk (Kd.R_below (by (with_reducible repeat (first | apply Kd.R_alloc | apply Kd.R_drewN | apply Kd.R_drew)); exact HO_5.out) hb)
               have n1_ := Aside0.mk (blk_below (g := gb145) (o := .cells #[.int .i64 ((rd_T36 l1 x115_2).f0), .int .i64 ((rd_T36 l1 x115_2).f1), .int .i64 ((rd_T36 l1 x115_2).f2), .int .i64 ((rd_T36 l1 x115_2).f3.f0), .int .i64 ((rd_T36 l1 x115_2).f3.f1), .string ((rd_T36 l1 x115_2).f3.f2), .int .i64 ((rd_T36 l1 x115_2).f4), .int .i64 ((rd_T36 l1 x115_2).f5)] 36 (0, 0)) (by (with_reducible repeat (first | refine blk_drewN ?_ _ | refine blk_drew ?_ | refine blk_alloc ?_ _)); exact BK145.out) hb)
               have n2_ := Aside0.mk (below_step (by repeat (first | (with_reducible first | exact HB.out | apply below_alloc | apply pw_below_drewN | apply below_drew1 | refine below_set ?_ GE145.out) | exact HB.out)) hb)
               clear HO_5
               clear BK145
               clear HB
               have HO_5 := n0_
               have BK145 := n1_
               have HB := n2_
               clear n0_ n1_ n2_
               (try clear hb)
               (try clear hb2)
               (try clear hk)
               (try clear hi)
               refine hK.out _ _ ⟨(blk_cell BK145.out 0).trans rfl, (blk_cell BK145.out 1).trans rfl, (blk_cell BK145.out 2).trans rfl, (blk_cell BK145.out 3).trans rfl, (blk_cell BK145.out 4).trans rfl, (blk_cell BK145.out 5).trans rfl, (blk_cell BK145.out 6).trans rfl, (blk_cell BK145.out 7).trans rfl, HS8_, HS9_, HS10_, HS11_, HS12_, HS13_⟩ (fun hHeld => ?_)
               clear hK K
               refine norm_ (a' := ?_) ?_ ?_
               rotate_left; (· show Act.put _ (some 156) _ = _; simp only [Act.put, List.setIfInBounds_toArray, List.set_cons_zero, List.set_cons_succ, i64_w, i32_w]; rfl)
               refine pure_ (i := 38) (N := some 157) (v := ?_) (a' := ?_) #[yy, yy, yy, yy, yy, yy, yy, yy, yy, yy, yy, yy, yy, yy, yy, yy, yy, yy, yy, yy, yy, yy, yy, yy, yy, yy, yy, yy, yy, yy, yy, yy, yy, yy, yy, yy, yy, yy, yy, nn] rfl rfl (any_of HT_.out (by kernel_rfl)) (fun _ _ _ h => h) (Or.inl ⟨by rfl, ?_⟩) ?_ ?_
               rotate_left; (· intro w'; go_simp; with_reducible rfl)
               rotate_left; (· simp only [Act.put, List.setIfInBounds_toArray, List.set_cons_zero, List.set_cons_succ, i64_w, i32_w]; rfl)
               refine pure_ (i := 39) (N := some 158) (v := ?_) (a' := ?_) #[yy, yy, yy, yy, yy, yy, yy, yy, yy, yy, yy, yy, yy, yy, yy, yy, yy, yy, yy, yy, yy, yy, yy, yy, yy, yy, yy, yy, yy, yy, yy, yy, yy, yy, yy, yy, yy, yy, yy, yy] rfl rfl (any_of HT_.out (by kernel_rfl)) (fun _ _ _ h => h) (Or.inl ⟨by rfl, ?_⟩) ?_ ?_
               rotate_left; (· intro w'; go_simp; with_reducible rfl)
               rotate_left; (· simp only [Act.put, List.setIfInBounds_toArray, List.set_cons_zero, List.set_cons_succ, i64_w, i32_w]; rfl)
               refine done_ (done_of HT_.out (by kernel_rfl)) ?_
               try go_wp2
               go_roundg k2
               case measure => have := HK1.out; have := HK2.out; omega
               case rel => exact ⟨(wrap64 (x115_2 + 1)), (by first | rfl | (simp; done) | (simp [*]; done)), H', ⟨by have := HK1.out; have := HK2.out; omega⟩, ⟨by (with_reducible repeat (first | apply Kd.R_alloc | apply Kd.R_drewN | apply Kd.R_drew)); exact HO_5.out⟩, ⟨by repeat (first | (with_reducible first | exact HB.out | apply below_alloc | apply pw_below_drewN | apply below_drew1 | refine below_set ?_ GE145.out) | exact HB.out)⟩⟩
             ·
              rw [if_neg c70] at H
              have c70b0 : (!(((rd_T23 t117 ((rd_T36 l1 x115_2).f1)).f0) == 0) || (!(((rd_T23 t117 ((rd_T36 l1 x115_2).f1)).f1) == 0) || (!((((rd_T23 t117 ((rd_T36 l1 x115_2).f1)).f2).toList) == ([] : List UInt8))))) = false := by simpa using c70
              have c70e0 := c70b0
              simp only [isEmpty_beq] at c70e0
              clear c70
              have H' := Aside0.mk H
              clear H
              have p144 : 0 ≤ (x115_2 : Int) := of_decide_eq_true (by first | (with_reducible assumption) | assumption)
              have q144 : x115_2 < (l1.length : Int) := of_decide_eq_true (by first | (with_reducible assumption) | assumption)
              obtain ⟨ad144, e144, hx144_0, hx144_1, hx144_2, hx144_3, hx144_4, hx144_5, hx144_6, hx144_7⟩ := at_T36 HR1.out x115_2 p144 q144
              cases e144
              replace hx144_0 := (HB.out.cell (World.block_lt_of_cell? w _ hx144_0)).trans hx144_0
              replace hx144_1 := (HB.out.cell (World.block_lt_of_cell? w _ hx144_1)).trans hx144_1
              replace hx144_2 := (HB.out.cell (World.block_lt_of_cell? w _ hx144_2)).trans hx144_2
              replace hx144_3 := (HB.out.cell (World.block_lt_of_cell? w _ hx144_3)).trans hx144_3
              replace hx144_4 := (HB.out.cell (World.block_lt_of_cell? w _ hx144_4)).trans hx144_4
              replace hx144_5 := (HB.out.cell (World.block_lt_of_cell? w _ hx144_5)).trans hx144_5
              replace hx144_6 := (HB.out.cell (World.block_lt_of_cell? w _ hx144_6)).trans hx144_6
              replace hx144_7 := (HB.out.cell (World.block_lt_of_cell? w _ hx144_7)).trans hx144_7
              replace p144 := eq_true p144
              replace q144 := eq_true q144
              try go_wp2_with (first | ((with_reducible refine gate_dst (N := 17) rfl ?_); (try (refine gate_guard (by rfl) ?_; dsimp only)); refine box_event ?hg (N := 17) ?hd (cs := #[.int .i64 0, .int .i64 0, .int .i64 0, .int .i64 0, .int .i64 0, .string (⟨#[]⟩ : ByteArray), .int .i64 0, .int .i64 0]) (t := 36) ?hr ?_; (case hd => rfl); (case hg => rfl); (case hr => first | (go_simp; done) | (go_simp; rfl)); intro gb145 hg w78 hbox hb; have n0_ := Aside0.mk (Kd.R_below (by (with_reducible repeat (first | apply Kd.R_alloc | apply Kd.R_drewN | apply Kd.R_drew)); exact HO_5.out) hb); have n1_ := Aside0.mk (below_step (by repeat (first | (with_reducible first | exact HB.out | apply below_alloc | apply pw_below_drewN | apply below_drew1) | exact HB.out)) hb); have n2_ := Aside0.mk (hbox); have n3_ := Aside0.mk ((by rw [hg]; exact (below_size (by repeat (first | (with_reducible first | exact HB.out | apply below_alloc | apply pw_below_drewN | apply below_drew1) | exact HB.out))) : w.heap.size ≤ gb145)); have n4_ := Aside0.mk ((by rw [hg]; exact (below_size (by repeat (first | (with_reducible first | exact HB.out | apply below_alloc | apply pw_below_drewN | apply below_drew1) | exact HB.out))) : w.heap.size ≤ gb145)); clear HO_5; clear HB; have HO_5 := n0_; have HB := n1_; have BK145 := n2_; have GW145 := n3_; have GE145 := n4_; clear n0_ n1_ n2_ n3_ n4_; clear hb hbox hg; have hcz79_0 : w78.cell? ⟨gb145, 0, none⟩ = some (.int .i64 0) := (blk_cell BK145.out 0).trans rfl; have hcz79_1 : w78.cell? ⟨gb145, 1, none⟩ = some (.int .i64 0) := (blk_cell BK145.out 1).trans rfl; have hcz79_2 : w78.cell? ⟨gb145, 2, none⟩ = some (.int .i64 0) := (blk_cell BK145.out 2).trans rfl; have hcz79_3 : w78.cell? ⟨gb145, 3, none⟩ = some (.int .i64 0) := (blk_cell BK145.out 3).trans rfl; have hcz79_4 : w78.cell? ⟨gb145, 4, none⟩ = some (.int .i64 0) := (blk_cell BK145.out 4).trans rfl; have hcz79_5 : w78.cell? ⟨gb145, 5, none⟩ = some (.string (⟨#[]⟩ : ByteArray)) := (blk_cell BK145.out 5).trans rfl; have hcz79_6 : w78.cell? ⟨gb145, 6, none⟩ = some (.int .i64 0) := (blk_cell BK145.out 6).trans rfl; have hcz79_7 : w78.cell? ⟨gb145, 7, none⟩ = some (.int .i64 0) := (blk_cell BK145.out 7).trans rfl; have hfz79_0 := blk_frozen BK145.out 0; have hfz79_1 := blk_frozen BK145.out 1; have hfz79_2 := blk_frozen BK145.out 2; have hfz79_3 := blk_frozen BK145.out 3; have hfz79_4 := blk_frozen BK145.out 4; have hfz79_5 := blk_frozen BK145.out 5; have hfz79_6 := blk_frozen BK145.out 6; have hfz79_7 := blk_frozen BK145.out 7))
              have n0_ : Aside0 (Kd.R k23 23 ((((((((w78.setCell ⟨gb145, 0, none⟩ (.int .i64 ((rd_T36 l1 x115_2).f0))).setCell ⟨gb145, 1, none⟩ (.int .i64 ((rd_T36 l1 x115_2).f1))).setCell ⟨gb145, 2, none⟩ (.int .i64 ((rd_T36 l1 x115_2).f2))).setCell ⟨gb145, 3, none⟩ (.int .i64 ((rd_T36 l1 x115_2).f3.f0))).setCell ⟨gb145, 4, none⟩ (.int .i64 ((rd_T36 l1 x115_2).f3.f1))).setCell ⟨gb145, 5, none⟩ (.string ((rd_T36 l1 x115_2).f3.f2))).setCell ⟨gb145, 6, none⟩ (.int .i64 ((rd_T36 l1 x115_2).f4))).setCell ⟨gb145, 7, none⟩ (.int .i64 ((rd_T36 l1 x115_2).f5))) w.heap.size (fun _ => True) (.slice Ao12 t117.length co12) t117) := ⟨by (with_reducible repeat (first | apply Kd.R_alloc | apply Kd.R_drewN | apply Kd.R_drew)); exact Kd.R_mono (Kd.R_far (p := ⟨gb145, 7, none⟩) (Kd.R_far (p := ⟨gb145, 6, none⟩) (Kd.R_far (p := ⟨gb145, 5, none⟩) (Kd.R_far (p := ⟨gb145, 4, none⟩) (Kd.R_far (p := ⟨gb145, 3, none⟩) (Kd.R_far (p := ⟨gb145, 2, none⟩) (Kd.R_far (p := ⟨gb145, 1, none⟩) (Kd.R_far (p := ⟨gb145, 0, none⟩) (Kd.R_types HO_5.out BK145.out (by decide)) (fun _ hk => hk.2) (.int .i64 ((rd_T36 l1 x115_2).f0))) (fun _ hk => hk.2) (.int .i64 ((rd_T36 l1 x115_2).f1))) (fun _ hk => hk.2) (.int .i64 ((rd_T36 l1 x115_2).f2))) (fun _ hk => hk.2) (.int .i64 ((rd_T36 l1 x115_2).f3.f0))) (fun _ hk => hk.2) (.int .i64 ((rd_T36 l1 x115_2).f3.f1))) (fun _ hk => hk.2) (.string ((rd_T36 l1 x115_2).f3.f2))) (fun _ hk => hk.2) (.int .i64 ((rd_T36 l1 x115_2).f4))) (fun _ hk => hk.2) (.int .i64 ((rd_T36 l1 x115_2).f5))) (fun _ hk => trivial)⟩
              have n1_ : Aside0 (((((((((w78.setCell ⟨gb145, 0, none⟩ (.int .i64 ((rd_T36 l1 x115_2).f0))).setCell ⟨gb145, 1, none⟩ (.int .i64 ((rd_T36 l1 x115_2).f1))).setCell ⟨gb145, 2, none⟩ (.int .i64 ((rd_T36 l1 x115_2).f2))).setCell ⟨gb145, 3, none⟩ (.int .i64 ((rd_T36 l1 x115_2).f3.f0))).setCell ⟨gb145, 4, none⟩ (.int .i64 ((rd_T36 l1 x115_2).f3.f1))).setCell ⟨gb145, 5, none⟩ (.string ((rd_T36 l1 x115_2).f3.f2))).setCell ⟨gb145, 6, none⟩ (.int .i64 ((rd_T36 l1 x115_2).f4))).setCell ⟨gb145, 7, none⟩ (.int .i64 ((rd_T36 l1 x115_2).f5))).heap[gb145]? = some (.cells #[.int .i64 ((rd_T36 l1 x115_2).f0), .int .i64 ((rd_T36 l1 x115_2).f1), .int .i64 ((rd_T36 l1 x115_2).f2), .int .i64 ((rd_T36 l1 x115_2).f3.f0), .int .i64 ((rd_T36 l1 x115_2).f3.f1), .string ((rd_T36 l1 x115_2).f3.f2), .int .i64 ((rd_T36 l1 x115_2).f4), .int .i64 ((rd_T36 l1 x115_2).f5)] 36 (0, 0))) := ⟨by (with_reducible repeat (first | refine blk_drewN ?_ _ | refine blk_drew ?_ | refine blk_alloc ?_ _)); refine blk_put (cs := #[.int .i64 ((rd_T36 l1 x115_2).f0), .int .i64 ((rd_T36 l1 x115_2).f1), .int .i64 ((rd_T36 l1 x115_2).f2), .int .i64 ((rd_T36 l1 x115_2).f3.f0), .int .i64 ((rd_T36 l1 x115_2).f3.f1), .string ((rd_T36 l1 x115_2).f3.f2), .int .i64 ((rd_T36 l1 x115_2).f4), .int .i64 0]) ?_ 7 _ rfl; (with_reducible repeat (first | refine blk_drewN ?_ _ | refine blk_drew ?_ | refine blk_alloc ?_ _)); refine blk_put (cs := #[.int .i64 ((rd_T36 l1 x115_2).f0), .int .i64 ((rd_T36 l1 x115_2).f1), .int .i64 ((rd_T36 l1 x115_2).f2), .int .i64 ((rd_T36 l1 x115_2).f3.f0), .int .i64 ((rd_T36 l1 x115_2).f3.f1), .string ((rd_T36 l1 x115_2).f3.f2), .int .i64 0, .int .i64 0]) ?_ 6 _ rfl; (with_reducible repeat (first | refine blk_drewN ?_ _ | refine blk_drew ?_ | refine blk_alloc ?_ _)); refine blk_put (cs := #[.int .i64 ((rd_T36 l1 x115_2).f0), .int .i64 ((rd_T36 l1 x115_2).f1), .int .i64 ((rd_T36 l1 x115_2).f2), .int .i64 ((rd_T36 l1 x115_2).f3.f0), .int .i64 ((rd_T36 l1 x115_2).f3.f1), .string (⟨#[]⟩ : ByteArray), .int .i64 0, .int .i64 0]) ?_ 5 _ rfl; (with_reducible repeat (first | refine blk_drewN ?_ _ | refine blk_drew ?_ | refine blk_alloc ?_ _)); refine blk_put (cs := #[.int .i64 ((rd_T36 l1 x115_2).f0), .int .i64 ((rd_T36 l1 x115_2).f1), .int .i64 ((rd_T36 l1 x115_2).f2), .int .i64 ((rd_T36 l1 x115_2).f3.f0), .int .i64 0, .string (⟨#[]⟩ : ByteArray), .int .i64 0, .int .i64 0]) ?_ 4 _ rfl; (with_reducible repeat (first | refine blk_drewN ?_ _ | refine blk_drew ?_ | refine blk_alloc ?_ _)); refine blk_put (cs := #[.int .i64 ((rd_T36 l1 x115_2).f0), .int .i64 ((rd_T36 l1 x115_2).f1), .int .i64 ((rd_T36 l1 x115_2).f2), .int .i64 0, .int .i64 0, .string (⟨#[]⟩ : ByteArray), .int .i64 0, .int .i64 0]) ?_ 3 _ rfl; (with_reducible repeat (first | refine blk_drewN ?_ _ | refine blk_drew ?_ | refine blk_alloc ?_ _)); refine blk_put (cs := #[.int .i64 ((rd_T36 l1 x115_2).f0), .int .i64 ((rd_T36 l1 x115_2).f1), .int .i64 0, .int .i64 0, .int .i64 0, .string (⟨#[]⟩ : ByteArray), .int .i64 0, .int .i64 0]) ?_ 2 _ rfl; (with_reducible repeat (first | refine blk_drewN ?_ _ | refine blk_drew ?_ | refine blk_alloc ?_ _)); refine blk_put (cs := #[.int .i64 ((rd_T36 l1 x115_2).f0), .int .i64 0, .int .i64 0, .int .i64 0, .int .i64 0, .string (⟨#[]⟩ : ByteArray), .int .i64 0, .int .i64 0]) ?_ 1 _ rfl; (with_reducible repeat (first | refine blk_drewN ?_ _ | refine blk_drew ?_ | refine blk_alloc ?_ _)); refine blk_put (cs := #[.int .i64 0, .int .i64 0, .int .i64 0, .int .i64 0, .int .i64 0, .string (⟨#[]⟩ : ByteArray), .int .i64 0, .int .i64 0]) ?_ 0 _ rfl; (with_reducible repeat (first | refine blk_drewN ?_ _ | refine blk_drew ?_ | refine blk_alloc ?_ _)); exact BK145.out⟩
              have n2_ : Aside0 (Below w.heap.size w ((((((((w78.setCell ⟨gb145, 0, none⟩ (.int .i64 ((rd_T36 l1 x115_2).f0))).setCell ⟨gb145, 1, none⟩ (.int .i64 ((rd_T36 l1 x115_2).f1))).setCell ⟨gb145, 2, none⟩ (.int .i64 ((rd_T36 l1 x115_2).f2))).setCell ⟨gb145, 3, none⟩ (.int .i64 ((rd_T36 l1 x115_2).f3.f0))).setCell ⟨gb145, 4, none⟩ (.int .i64 ((rd_T36 l1 x115_2).f3.f1))).setCell ⟨gb145, 5, none⟩ (.string ((rd_T36 l1 x115_2).f3.f2))).setCell ⟨gb145, 6, none⟩ (.int .i64 ((rd_T36 l1 x115_2).f4))).setCell ⟨gb145, 7, none⟩ (.int .i64 ((rd_T36 l1 x115_2).f5)))) := ⟨by repeat (first | (with_reducible first | exact HB.out | apply below_alloc | apply pw_below_drewN | apply below_drew1 | refine below_set ?_ GE145.out) | exact HB.out)⟩
              (try clear HO_5)
              (try clear BK145)
              (try clear HB)
              generalize ((((((((w78.setCell ⟨gb145, 0, none⟩ (.int .i64 ((rd_T36 l1 x115_2).f0))).setCell ⟨gb145, 1, none⟩ (.int .i64 ((rd_T36 l1 x115_2).f1))).setCell ⟨gb145, 2, none⟩ (.int .i64 ((rd_T36 l1 x115_2).f2))).setCell ⟨gb145, 3, none⟩ (.int .i64 ((rd_T36 l1 x115_2).f3.f0))).setCell ⟨gb145, 4, none⟩ (.int .i64 ((rd_T36 l1 x115_2).f3.f1))).setCell ⟨gb145, 5, none⟩ (.string ((rd_T36 l1 x115_2).f3.f2))).setCell ⟨gb145, 6, none⟩ (.int .i64 ((rd_T36 l1 x115_2).f4))).setCell ⟨gb145, 7, none⟩ (.int .i64 ((rd_T36 l1 x115_2).f5))) = w80 at n0_ n1_ n2_ ⊢
              have HO_5 := n0_
              have BK145 := n1_
              have HB := n2_
              clear n0_ n1_ n2_
              have n0_ := Aside0.mk (Kd.R_drew HO_5.out)
              have n1_ := Aside0.mk (blk_drew BK145.out)
              have n2_ := Aside0.mk (below_drew1 HB.out)
              clear HO_5
              clear BK145
              clear HB
              have HO_5 := n0_
              have BK145 := n1_
              have HB := n2_
              clear n0_ n1_ n2_
              have p151 : 0 ≤ (((rd_T36 l1 x115_2).f1) : Int) := of_decide_eq_true (by first | (with_reducible assumption) | assumption)
              have q151 : ((rd_T36 l1 x115_2).f1) < (t117.length : Int) := of_decide_eq_true (by first | (with_reducible assumption) | assumption)
              obtain ⟨ad151, e151, hx151_0, hx151_1, hx151_2⟩ := at_T23 (Kd.R_reads' HO_5.out).2.2 ((rd_T36 l1 x115_2).f1) p151 q151
              cases e151
              replace p151 := eq_true p151
              replace q151 := eq_true q151
              refine start_ (n := 40) (S := fun w' => w'.cell? ⟨gb145, 0, none⟩ = some (.int .i64 ((rd_T36 l1 x115_2).f0)) ∧ w'.cell? ⟨gb145, 1, none⟩ = some (.int .i64 ((rd_T36 l1 x115_2).f1)) ∧ w'.cell? ⟨gb145, 2, none⟩ = some (.int .i64 ((rd_T36 l1 x115_2).f2)) ∧ w'.cell? ⟨gb145, 3, none⟩ = some (.int .i64 ((rd_T36 l1 x115_2).f3.f0)) ∧ w'.cell? ⟨gb145, 4, none⟩ = some (.int .i64 ((rd_T36 l1 x115_2).f3.f1)) ∧ w'.cell? ⟨gb145, 5, none⟩ = some (.string ((rd_T36 l1 x115_2).f3.f2)) ∧ w'.cell? ⟨gb145, 6, none⟩ = some (.int .i64 ((rd_T36 l1 x115_2).f4)) ∧ w'.cell? ⟨gb145, 7, none⟩ = some (.int .i64 ((rd_T36 l1 x115_2).f5)) ∧ w'.cell? (ad151.add ((((rd_T36 l1 x115_2).f1)).toNat * 3)) = some (.int .i64 ((rd_T23 t117 ((rd_T36 l1 x115_2).f1)).f0)) ∧ w'.cell? ⟨(ad151.add ((((rd_T36 l1 x115_2).f1)).toNat * 3)).block, (ad151.add ((((rd_T36 l1 x115_2).f1)).toNat * 3)).off + 1, none⟩ = some (.int .i64 ((rd_T23 t117 ((rd_T36 l1 x115_2).f1)).f1)) ∧ w'.cell? ⟨(ad151.add ((((rd_T36 l1 x115_2).f1)).toNat * 3)).block, (ad151.add ((((rd_T36 l1 x115_2).f1)).toNat * 3)).off + 2, none⟩ = some (.string ((rd_T23 t117 ((rd_T36 l1 x115_2).f1)).f2))) (ds := []) #[nn, nn, nn, nn, nn, nn, nn, nn, nn, nn, nn, nn, nn, nn, nn, nn, nn, nn, nn, nn, nn, nn, nn, nn, nn, nn, nn, nn, nn, nn, nn, nn, nn, nn, nn, nn, nn, nn, nn, nn] (by kernel_rfl) rfl rfl ⟨(blk_cell BK145.out 0).trans rfl, (blk_cell BK145.out 1).trans rfl, (blk_cell BK145.out 2).trans rfl, (blk_cell BK145.out 3).trans rfl, (blk_cell BK145.out 4).trans rfl, (blk_cell BK145.out 5).trans rfl, (blk_cell BK145.out 6).trans rfl, (blk_cell BK145.out 7).trans rfl, hx151_0, hx151_1, hx151_2⟩ (fun hHeld => ?_); refine with_tabW assessorlaw09_ConstraintsChains.tab28 assessorlaw09_ConstraintsChains.bits28 (fun HT_ HW_ => ?_)
              generalize w80.drew = w81 at HO_5 BK145 HB hx151_0 hx151_1 hx151_2 hHeld ⊢
              refine pure_ (i := 0) (N := some 119) (v := ?_) (a' := ?_) #[yy, nn, nn, nn, nn, nn, nn, nn, nn, nn, nn, nn, nn, nn, nn, nn, nn, nn, nn, nn, nn, nn, nn, nn, nn, nn, nn, nn, nn, nn, nn, nn, nn, nn, nn, nn, nn, nn, nn, nn] rfl rfl (any_of HT_.out (by kernel_rfl)) (fun _ _ _ h => h) (Or.inl ⟨by rfl, ?_⟩) ?_ ?_
              rotate_left; (· intro w'; go_simp; with_reducible rfl)
              rotate_left; (· simp only [Act.put, List.setIfInBounds_toArray, List.set_cons_zero, List.set_cons_succ, i64_w, i32_w]; rfl)
              refine take_ (i := 1) (N := some 120) (v := ?_) (a' := ?_) #[yy, yy, nn, nn, nn, nn, nn, nn, nn, nn, nn, nn, nn, nn, nn, nn, nn, nn, nn, nn, nn, nn, nn, nn, nn, nn, nn, nn, nn, nn, nn, nn, nn, nn, nn, nn, nn, nn, nn, nn] rfl rfl (take_ofW HT_.out HW_.out (by kernel_rfl)) (fun _ _ _ h => h) (Or.inl ⟨by rfl, ?_⟩) hHeld ?_ ?_
              rotate_left; (· rintro w' ⟨s0, s1, s2, s3, s4, s5, s6, s7, s8, s9, s10⟩; go_simp; with_reducible rfl)
              rotate_left; (· simp only [Act.put, List.setIfInBounds_toArray, List.set_cons_zero, List.set_cons_succ, i64_w, i32_w]; rfl)
              refine pure_ (i := 2) (N := some 121) (v := ?_) (a' := ?_) #[yy, yy, yy, nn, nn, nn, nn, nn, nn, nn, nn, nn, nn, nn, nn, nn, nn, nn, nn, nn, nn, nn, nn, nn, nn, nn, nn, nn, nn, nn, nn, nn, nn, nn, nn, nn, nn, nn, nn, nn] rfl rfl (any_of HT_.out (by kernel_rfl)) (fun _ _ _ h => h) (Or.inl ⟨by rfl, ?_⟩) ?_ ?_
              rotate_left; (· intro w'; go_simp; with_reducible rfl)
              rotate_left; (· simp only [Act.put, List.setIfInBounds_toArray, List.set_cons_zero, List.set_cons_succ, i64_w, i32_w]; rfl)
              refine pure_ (i := 3) (N := some 122) (v := ?_) (a' := ?_) #[yy, yy, yy, yy, nn, nn, nn, nn, nn, nn, nn, nn, nn, nn, nn, nn, nn, nn, nn, nn, nn, nn, nn, nn, nn, nn, nn, nn, nn, nn, nn, nn, nn, nn, nn, nn, nn, nn, nn, nn] rfl rfl (any_of HT_.out (by kernel_rfl)) (fun _ _ _ h => h) (Or.inl ⟨by rfl, ?_⟩) ?_ ?_
              rotate_left; (· intro w'; go_simp; with_reducible rfl)
              rotate_left; (· simp only [Act.put, List.setIfInBounds_toArray, List.set_cons_zero, List.set_cons_succ, i64_w, i32_w]; rfl)
              refine pure_ (i := 4) (N := some 123) (v := undef) (a' := ?_) #[yy, yy, yy, yy, yy, nn, nn, nn, nn, nn, nn, nn, nn, nn, nn, nn, nn, nn, nn, nn, nn, nn, nn, nn, nn, nn, nn, nn, nn, nn, nn, nn, nn, nn, nn, nn, nn, nn, nn, nn] rfl rfl (any_of HT_.out (by kernel_rfl)) (fun _ _ _ h => h) (Or.inr ⟨by rfl, rfl⟩) ?_ ?_
              rotate_left; (· simp only [Act.put, List.setIfInBounds_toArray, List.set_cons_zero, List.set_cons_succ, i64_w, i32_w]; rfl)
              refine pure_ (i := 5) (N := some 124) (v := undef) (a' := ?_) #[yy, yy, yy, yy, yy, yy, nn, nn, nn, nn, nn, nn, nn, nn, nn, nn, nn, nn, nn, nn, nn, nn, nn, nn, nn, nn, nn, nn, nn, nn, nn, nn, nn, nn, nn, nn, nn, nn, nn, nn] rfl rfl (any_of HT_.out (by kernel_rfl)) (fun _ _ _ h => h) (Or.inr ⟨by rfl, rfl⟩) ?_ ?_
              rotate_left; (· simp only [Act.put, List.setIfInBounds_toArray, List.set_cons_zero, List.set_cons_succ, i64_w, i32_w]; rfl)
              refine pure_ (i := 6) (N := some 125) (v := undef) (a' := ?_) #[yy, yy, yy, yy, yy, yy, yy, nn, nn, nn, nn, nn, nn, nn, nn, nn, nn, nn, nn, nn, nn, nn, nn, nn, nn, nn, nn, nn, nn, nn, nn, nn, nn, nn, nn, nn, nn, nn, nn, nn] rfl rfl (any_of HT_.out (by kernel_rfl)) (fun _ _ _ h => h) (Or.inr ⟨by rfl, rfl⟩) ?_ ?_
              rotate_left; (· simp only [Act.put, List.setIfInBounds_toArray, List.set_cons_zero, List.set_cons_succ, i64_w, i32_w]; rfl)
              refine pure_ (i := 7) (N := some 126) (v := undef) (a' := ?_) #[yy, yy, yy, yy, yy, yy, yy, yy, nn, nn, nn, nn, nn, nn, nn, nn, nn, nn, nn, nn, nn, nn, nn, nn, nn, nn, nn, nn, nn, nn, nn, nn, nn, nn, nn, nn, nn, nn, nn, nn] rfl rfl (any_of HT_.out (by kernel_rfl)) (fun _ _ _ h => h) (Or.inr ⟨by rfl, rfl⟩) ?_ ?_
              rotate_left; (· simp only [Act.put, List.setIfInBounds_toArray, List.set_cons_zero, List.set_cons_succ, i64_w, i32_w]; rfl)
              refine pure_ (i := 8) (N := some 127) (v := undef) (a' := ?_) #[yy, yy, yy, yy, yy, yy, yy, yy, yy, nn, nn, nn, nn, nn, nn, nn, nn, nn, nn, nn, nn, nn, nn, nn, nn, nn, nn, nn, nn, nn, nn, nn, nn, nn, nn, nn, nn, nn, nn, nn] rfl rfl (any_of HT_.out (by kernel_rfl)) (fun _ _ _ h => h) (Or.inr ⟨by rfl, rfl⟩) ?_ ?_
              rotate_left; (· simp only [Act.put, List.setIfInBounds_toArray, List.set_cons_zero, List.set_cons_succ, i64_w, i32_w]; rfl)
              refine pure_ (i := 9) (N := some 128) (v := undef) (a' := ?_) #[yy, yy, yy, yy, yy, yy, yy, yy, yy, yy, nn, nn, nn, nn, nn, nn, nn, nn, nn, nn, nn, nn, nn, nn, nn, nn, nn, nn, nn, nn, nn, nn, nn, nn, nn, nn, nn, nn, nn, nn] rfl rfl (any_of HT_.out (by kernel_rfl)) (fun _ _ _ h => h) (Or.inr ⟨by rfl, rfl⟩) ?_ ?_
              rotate_left; (· simp only [Act.put, List.setIfInBounds_toArray, List.set_cons_zero, List.set_cons_succ, i64_w, i32_w]; rfl)
              refine pure_ (i := 10) (N := some 129) (v := undef) (a' := ?_) #[yy, yy, yy, yy, yy, yy, yy, yy, yy, yy, yy, nn, nn, nn, nn, nn, nn, nn, nn, nn, nn, nn, nn, nn, nn, nn, nn, nn, nn, nn, nn, nn, nn, nn, nn, nn, nn, nn, nn, nn] rfl rfl (any_of HT_.out (by kernel_rfl)) (fun _ _ _ h => h) (Or.inr ⟨by rfl, rfl⟩) ?_ ?_
              rotate_left; (· simp only [Act.put, List.setIfInBounds_toArray, List.set_cons_zero, List.set_cons_succ, i64_w, i32_w]; rfl)
              refine pure_ (i := 11) (N := some 130) (v := undef) (a' := ?_) #[yy, yy, yy, yy, yy, yy, yy, yy, yy, yy, yy, yy, nn, nn, nn, nn, nn, nn, nn, nn, nn, nn, nn, nn, nn, nn, nn, nn, nn, nn, nn, nn, nn, nn, nn, nn, nn, nn, nn, nn] rfl rfl (any_of HT_.out (by kernel_rfl)) (fun _ _ _ h => h) (Or.inr ⟨by rfl, rfl⟩) ?_ ?_
              rotate_left; (· simp only [Act.put, List.setIfInBounds_toArray, List.set_cons_zero, List.set_cons_succ, i64_w, i32_w]; rfl)
              refine pure_ (i := 12) (N := some 131) (v := undef) (a' := ?_) #[yy, yy, yy, yy, yy, yy, yy, yy, yy, yy, yy, yy, yy, nn, nn, nn, nn, nn, nn, nn, nn, nn, nn, nn, nn, nn, nn, nn, nn, nn, nn, nn, nn, nn, nn, nn, nn, nn, nn, nn] rfl rfl (any_of HT_.out (by kernel_rfl)) (fun _ _ _ h => h) (Or.inr ⟨by rfl, rfl⟩) ?_ ?_
              rotate_left; (· simp only [Act.put, List.setIfInBounds_toArray, List.set_cons_zero, List.set_cons_succ, i64_w, i32_w]; rfl)
              refine pure_ (i := 13) (N := some 132) (v := undef) (a' := ?_) #[yy, yy, yy, yy, yy, yy, yy, yy, yy, yy, yy, yy, yy, yy, nn, nn, nn, nn, nn, nn, nn, nn, nn, nn, nn, nn, nn, nn, nn, nn, nn, nn, nn, nn, nn, nn, nn, nn, nn, nn] rfl rfl (any_of HT_.out (by kernel_rfl)) (fun _ _ _ h => h) (Or.inr ⟨by rfl, rfl⟩) ?_ ?_
              rotate_left; (· simp only [Act.put, List.setIfInBounds_toArray, List.set_cons_zero, List.set_cons_succ, i64_w, i32_w]; rfl)
              refine pure_ (i := 14) (N := some 133) (v := undef) (a' := ?_) #[yy, yy, yy, yy, yy, yy, yy, yy, yy, yy, yy, yy, yy, yy, yy, nn, nn, nn, nn, nn, nn, nn, nn, nn, nn, nn, nn, nn, nn, nn, nn, nn, nn, nn, nn, nn, nn, nn, nn, nn] rfl rfl (any_of HT_.out (by kernel_rfl)) (fun _ _ _ h => h) (Or.inr ⟨by rfl, rfl⟩) ?_ ?_
              rotate_left; (· simp only [Act.put, List.setIfInBounds_toArray, List.set_cons_zero, List.set_cons_succ, i64_w, i32_w]; rfl)
              refine pure_ (i := 15) (N := some 134) (v := ?_) (a' := ?_) #[yy, yy, yy, yy, yy, yy, yy, yy, yy, yy, yy, yy, yy, yy, yy, yy, nn, nn, nn, nn, nn, nn, nn, nn, nn, nn, nn, nn, nn, nn, nn, nn, nn, nn, nn, nn, nn, nn, nn, nn] rfl rfl (any_of HT_.out (by kernel_rfl)) (fun _ _ _ h => h) (Or.inl ⟨by rfl, ?_⟩) ?_ ?_
              rotate_left; (· intro w'; go_simp; with_reducible rfl)
              rotate_left; (· simp only [Act.put, List.setIfInBounds_toArray, List.set_cons_zero, List.set_cons_succ, i64_w, i32_w]; rfl)
              refine pure_ (i := 16) (N := some 135) (v := ?_) (a' := ?_) #[yy, yy, yy, yy, yy, yy, yy, yy, yy, yy, yy, yy, yy, yy, yy, yy, yy, nn, nn, nn, nn, nn, nn, nn, nn, nn, nn, nn, nn, nn, nn, nn, nn, nn, nn, nn, nn, nn, nn, nn] rfl rfl (any_of HT_.out (by kernel_rfl)) (fun _ _ _ h => h) (Or.inl ⟨by rfl, ?_⟩) ?_ ?_
              rotate_left; (· intro w'; go_simp; with_reducible rfl)
              rotate_left; (· simp only [Act.put, List.setIfInBounds_toArray, List.set_cons_zero, List.set_cons_succ, i64_w, i32_w]; rfl)
              refine pure_ (i := 17) (N := some 136) (v := ?_) (a' := ?_) #[yy, yy, yy, yy, yy, yy, yy, yy, yy, yy, yy, yy, yy, yy, yy, yy, yy, yy, nn, nn, nn, nn, nn, nn, nn, nn, nn, nn, nn, nn, nn, nn, nn, nn, nn, nn, nn, nn, nn, nn] rfl rfl (any_of HT_.out (by kernel_rfl)) (fun _ _ _ h => h) (Or.inl ⟨by rfl, ?_⟩) ?_ ?_
              rotate_left; (· intro w'; go_simp; with_reducible rfl)
              rotate_left; (· simp only [Act.put, List.setIfInBounds_toArray, List.set_cons_zero, List.set_cons_succ, i64_w, i32_w]; rfl)
              refine take_ (i := 18) (N := some 137) (v := ?_) (a' := ?_) #[yy, yy, yy, yy, yy, yy, yy, yy, yy, yy, yy, yy, yy, yy, yy, yy, yy, yy, yy, nn, nn, nn, nn, nn, nn, nn, nn, nn, nn, nn, nn, nn, nn, nn, nn, nn, nn, nn, nn, nn] rfl rfl (take_ofW HT_.out HW_.out (by kernel_rfl)) (fun _ _ _ h => h) (Or.inl ⟨by rfl, ?_⟩) hHeld ?_ ?_
              rotate_left; (· rintro w' ⟨s0, s1, s2, s3, s4, s5, s6, s7, s8, s9, s10⟩; go_simp; with_reducible rfl)
              rotate_left; (· simp only [Act.put, List.setIfInBounds_toArray, List.set_cons_zero, List.set_cons_succ, i64_w, i32_w]; rfl)
              refine pure_ (i := 19) (N := some 138) (v := ?_) (a' := ?_) #[yy, yy, yy, yy, yy, yy, yy, yy, yy, yy, yy, yy, yy, yy, yy, yy, yy, yy, yy, yy, nn, nn, nn, nn, nn, nn, nn, nn, nn, nn, nn, nn, nn, nn, nn, nn, nn, nn, nn, nn] rfl rfl (any_of HT_.out (by kernel_rfl)) (fun _ _ _ h => h) (Or.inl ⟨by rfl, ?_⟩) ?_ ?_
              rotate_left; (· intro w'; go_simp; with_reducible rfl)
              rotate_left; (· simp only [Act.put, List.setIfInBounds_toArray, List.set_cons_zero, List.set_cons_succ, i64_w, i32_w]; rfl)
              refine pure_ (i := 20) (N := some 139) (v := ?_) (a' := ?_) #[yy, yy, yy, yy, yy, yy, yy, yy, yy, yy, yy, yy, yy, yy, yy, yy, yy, yy, yy, yy, yy, nn, nn, nn, nn, nn, nn, nn, nn, nn, nn, nn, nn, nn, nn, nn, nn, nn, nn, nn] rfl rfl (any_of HT_.out (by kernel_rfl)) (fun _ _ _ h => h) (Or.inl ⟨by rfl, ?_⟩) ?_ ?_
              rotate_left; (· intro w'; go_simp; with_reducible rfl)
              rotate_left; (· simp only [Act.put, List.setIfInBounds_toArray, List.set_cons_zero, List.set_cons_succ, i64_w, i32_w]; rfl)
              refine pure_ (i := 21) (N := some 140) (v := ?_) (a' := ?_) #[yy, yy, yy, yy, yy, yy, yy, yy, yy, yy, yy, yy, yy, yy, yy, yy, yy, yy, yy, yy, yy, yy, nn, nn, nn, nn, nn, nn, nn, nn, nn, nn, nn, nn, nn, nn, nn, nn, nn, nn] rfl rfl (any_of HT_.out (by kernel_rfl)) (fun _ _ _ h => h) (Or.inl ⟨by rfl, ?_⟩) ?_ ?_
              rotate_left; (· intro w'; go_simp; with_reducible rfl)
              rotate_left; (· simp only [Act.put, List.setIfInBounds_toArray, List.set_cons_zero, List.set_cons_succ, i64_w, i32_w]; rfl)
              refine pure_ (i := 22) (N := some 141) (v := ?_) (a' := ?_) #[yy, yy, yy, yy, yy, yy, yy, yy, yy, yy, yy, yy, yy, yy, yy, yy, yy, yy, yy, yy, yy, yy, yy, nn, nn, nn, nn, nn, nn, nn, nn, nn, nn, nn, nn, nn, nn, nn, nn, nn] rfl rfl (any_of HT_.out (by kernel_rfl)) (fun _ _ _ h => h) (Or.inl ⟨by rfl, ?_⟩) ?_ ?_
              rotate_left; (· intro w'; go_simp; with_reducible rfl)
              rotate_left; (· simp only [Act.put, List.setIfInBounds_toArray, List.set_cons_zero, List.set_cons_succ, i64_w, i32_w]; rfl)
              refine pure_ (i := 26) (N := some 145) (v := ?_) (a' := ?_) #[yy, yy, yy, yy, yy, yy, yy, yy, yy, yy, yy, yy, yy, yy, yy, yy, yy, yy, yy, yy, yy, yy, yy, nn, nn, nn, yy, nn, nn, nn, nn, nn, nn, nn, nn, nn, nn, nn, nn, nn] rfl rfl (any_of HT_.out (by kernel_rfl)) (fun _ _ _ h => h) (Or.inl ⟨by rfl, ?_⟩) ?_ ?_
              rotate_left; (· intro w'; go_simp; with_reducible rfl)
              rotate_left; (· simp only [Act.put, List.setIfInBounds_toArray, List.set_cons_zero, List.set_cons_succ, i64_w, i32_w]; rfl)
              refine take_ (i := 23) (N := some 142) (v := ?_) (a' := ?_) #[yy, yy, yy, yy, yy, yy, yy, yy, yy, yy, yy, yy, yy, yy, yy, yy, yy, yy, yy, yy, yy, yy, yy, yy, nn, nn, yy, nn, nn, nn, nn, nn, nn, nn, nn, nn, nn, nn, nn, nn] rfl rfl (take_ofW HT_.out HW_.out (by kernel_rfl)) (fun _ _ _ h => h) (Or.inl ⟨by rfl, ?_⟩) hHeld ?_ ?_
              rotate_left; (· rintro w' ⟨s0, s1, s2, s3, s4, s5, s6, s7, s8, s9, s10⟩; go_simp; with_reducible rfl)
              rotate_left; (· simp only [Act.put, List.setIfInBounds_toArray, List.set_cons_zero, List.set_cons_succ, i64_w, i32_w]; rfl)
              refine pure_ (i := 24) (N := some 143) (v := ?_) (a' := ?_) #[yy, yy, yy, yy, yy, yy, yy, yy, yy, yy, yy, yy, yy, yy, yy, yy, yy, yy, yy, yy, yy, yy, yy, yy, yy, nn, yy, nn, nn, nn, nn, nn, nn, nn, nn, nn, nn, nn, nn, nn] rfl rfl (any_of HT_.out (by kernel_rfl)) (fun _ _ _ h => h) (Or.inl ⟨by rfl, ?_⟩) ?_ ?_
              rotate_left; (· intro w'; go_simp; with_reducible rfl)
              rotate_left; (· simp only [Act.put, List.setIfInBounds_toArray, List.set_cons_zero, List.set_cons_succ, i64_w, i32_w]; rfl)
              refine take_ (i := 25) (N := some 144) (v := ?_) (a' := ?_) #[yy, yy, yy, yy, yy, yy, yy, yy, yy, yy, yy, yy, yy, yy, yy, yy, yy, yy, yy, yy, yy, yy, yy, yy, yy, yy, yy, nn, nn, nn, nn, nn, nn, nn, nn, nn, nn, nn, nn, nn] rfl rfl (take_ofW HT_.out HW_.out (by kernel_rfl)) (fun _ _ _ h => h) (Or.inl ⟨by rfl, ?_⟩) hHeld ?_ ?_
              rotate_left; (· rintro w' ⟨s0, s1, s2, s3, s4, s5, s6, s7, s8, s9, s10⟩; go_simp; with_reducible rfl)
              rotate_left; (· simp only [Act.put, List.setIfInBounds_toArray, List.set_cons_zero, List.set_cons_succ, i64_w, i32_w]; rfl)
              refine pure_ (i := 27) (N := some 146) (v := ?_) (a' := ?_) #[yy, yy, yy, yy, yy, yy, yy, yy, yy, yy, yy, yy, yy, yy, yy, yy, yy, yy, yy, yy, yy, yy, yy, yy, yy, yy, yy, yy, nn, nn, nn, nn, nn, nn, nn, nn, nn, nn, nn, nn] rfl rfl (any_of HT_.out (by kernel_rfl)) (fun _ _ _ h => h) (Or.inl ⟨by rfl, ?_⟩) ?_ ?_
              rotate_left; (· intro w'; go_simp; with_reducible rfl)
              rotate_left; (· simp only [Act.put, List.setIfInBounds_toArray, List.set_cons_zero, List.set_cons_succ, i64_w, i32_w]; rfl)
              refine pure_ (i := 28) (N := some 147) (v := ?_) (a' := ?_) #[yy, yy, yy, yy, yy, yy, yy, yy, yy, yy, yy, yy, yy, yy, yy, yy, yy, yy, yy, yy, yy, yy, yy, yy, yy, yy, yy, yy, yy, nn, nn, nn, nn, nn, nn, nn, nn, nn, nn, nn] rfl rfl (any_of HT_.out (by kernel_rfl)) (fun _ _ _ h => h) (Or.inl ⟨by rfl, ?_⟩) ?_ ?_
              rotate_left; (· intro w'; go_simp; with_reducible rfl)
              rotate_left; (· simp only [Act.put, List.setIfInBounds_toArray, List.set_cons_zero, List.set_cons_succ, i64_w, i32_w]; rfl)
              refine pure_ (i := 29) (N := some 148) (v := ?_) (a' := ?_) #[yy, yy, yy, yy, yy, yy, yy, yy, yy, yy, yy, yy, yy, yy, yy, yy, yy, yy, yy, yy, yy, yy, yy, yy, yy, yy, yy, yy, yy, yy, nn, nn, nn, nn, nn, nn, nn, nn, nn, nn] rfl rfl (any_of HT_.out (by kernel_rfl)) (fun _ _ _ h => h) (Or.inl ⟨by rfl, ?_⟩) ?_ ?_
              rotate_left; (· intro w'; go_simp; with_reducible rfl)
              rotate_left; (· simp only [Act.put, List.setIfInBounds_toArray, List.set_cons_zero, List.set_cons_succ, i64_w, i32_w]; rfl)
              refine pure_ (i := 30) (N := some 149) (v := undef) (a' := ?_) #[yy, yy, yy, yy, yy, yy, yy, yy, yy, yy, yy, yy, yy, yy, yy, yy, yy, yy, yy, yy, yy, yy, yy, yy, yy, yy, yy, yy, yy, yy, yy, nn, nn, nn, nn, nn, nn, nn, nn, nn] rfl rfl (any_of HT_.out (by kernel_rfl)) (fun _ _ _ h => h) (Or.inr ⟨by rfl, rfl⟩) ?_ ?_
              rotate_left; (· simp only [Act.put, List.setIfInBounds_toArray, List.set_cons_zero, List.set_cons_succ, i64_w, i32_w]; rfl)
              refine pure_ (i := 31) (N := some 150) (v := undef) (a' := ?_) #[yy, yy, yy, yy, yy, yy, yy, yy, yy, yy, yy, yy, yy, yy, yy, yy, yy, yy, yy, yy, yy, yy, yy, yy, yy, yy, yy, yy, yy, yy, yy, yy, nn, nn, nn, nn, nn, nn, nn, nn] rfl rfl (any_of HT_.out (by kernel_rfl)) (fun _ _ _ h => h) (Or.inr ⟨by rfl, rfl⟩) ?_ ?_
              rotate_left; (· simp only [Act.put, List.setIfInBounds_toArray, List.set_cons_zero, List.set_cons_succ, i64_w, i32_w]; rfl)
              refine pure_ (i := 32) (N := some 151) (v := undef) (a' := ?_) #[yy, yy, yy, yy, yy, yy, yy, yy, yy, yy, yy, yy, yy, yy, yy, yy, yy, yy, yy, yy, yy, yy, yy, yy, yy, yy, yy, yy, yy, yy, yy, yy, yy, nn, nn, nn, nn, nn, nn, nn] rfl rfl (any_of HT_.out (by kernel_rfl)) (fun _ _ _ h => h) (Or.inr ⟨by rfl, rfl⟩) ?_ ?_
              rotate_left; (· simp only [Act.put, List.setIfInBounds_toArray, List.set_cons_zero, List.set_cons_succ, i64_w, i32_w]; rfl)
              refine pure_ (i := 33) (N := some 152) (v := undef) (a' := ?_) #[yy, yy, yy, yy, yy, yy, yy, yy, yy, yy, yy, yy, yy, yy, yy, yy, yy, yy, yy, yy, yy, yy, yy, yy, yy, yy, yy, yy, yy, yy, yy, yy, yy, yy, nn, nn, nn, nn, nn, nn] rfl rfl (any_of HT_.out (by kernel_rfl)) (fun _ _ _ h => h) (Or.inr ⟨by rfl, rfl⟩) ?_ ?_
              rotate_left; (· simp only [Act.put, List.setIfInBounds_toArray, List.set_cons_zero, List.set_cons_succ, i64_w, i32_w]; rfl)
              refine pure_ (i := 34) (N := some 153) (v := undef) (a' := ?_) #[yy, yy, yy, yy, yy, yy, yy, yy, yy, yy, yy, yy, yy, yy, yy, yy, yy, yy, yy, yy, yy, yy, yy, yy, yy, yy, yy, yy, yy, yy, yy, yy, yy, yy, yy, nn, nn, nn, nn, nn] rfl rfl (any_of HT_.out (by kernel_rfl)) (fun _ _ _ h => h) (Or.inr ⟨by rfl, rfl⟩) ?_ ?_
              rotate_left; (· simp only [Act.put, List.setIfInBounds_toArray, List.set_cons_zero, List.set_cons_succ, i64_w, i32_w]; rfl)
              refine pure_ (i := 35) (N := some 154) (v := undef) (a' := ?_) #[yy, yy, yy, yy, yy, yy, yy, yy, yy, yy, yy, yy, yy, yy, yy, yy, yy, yy, yy, yy, yy, yy, yy, yy, yy, yy, yy, yy, yy, yy, yy, yy, yy, yy, yy, yy, nn, nn, nn, nn] rfl rfl (any_of HT_.out (by kernel_rfl)) (fun _ _ _ h => h) (Or.inr ⟨by rfl, rfl⟩) ?_ ?_
              rotate_left; (· simp only [Act.put, List.setIfInBounds_toArray, List.set_cons_zero, List.set_cons_succ, i64_w, i32_w]; rfl)
              refine pure_ (i := 36) (N := some 155) (v := undef) (a' := ?_) #[yy, yy, yy, yy, yy, yy, yy, yy, yy, yy, yy, yy, yy, yy, yy, yy, yy, yy, yy, yy, yy, yy, yy, yy, yy, yy, yy, yy, yy, yy, yy, yy, yy, yy, yy, yy, yy, nn, nn, nn] rfl rfl (any_of HT_.out (by kernel_rfl)) (fun _ _ _ h => h) (Or.inr ⟨by rfl, rfl⟩) ?_ ?_
              rotate_left; (· simp only [Act.put, List.setIfInBounds_toArray, List.set_cons_zero, List.set_cons_succ, i64_w, i32_w]; rfl)
              refine pure_ (i := 37) (N := some 156) (v := undef) (a' := ?_) #[yy, yy, yy, yy, yy, yy, yy, yy, yy, yy, yy, yy, yy, yy, yy, yy, yy, yy, yy, yy, yy, yy, yy, yy, yy, yy, yy, yy, yy, yy, yy, yy, yy, yy, yy, yy, yy, yy, nn, nn] rfl rfl (any_of HT_.out (by kernel_rfl)) (fun _ _ _ h => h) (Or.inr ⟨by rfl, rfl⟩) ?_ ?_
              rotate_left; (· simp only [Act.put, List.setIfInBounds_toArray, List.set_cons_zero, List.set_cons_succ, i64_w, i32_w]; rfl)
              refine pure_ (i := 38) (N := some 157) (v := ?_) (a' := ?_) #[yy, yy, yy, yy, yy, yy, yy, yy, yy, yy, yy, yy, yy, yy, yy, yy, yy, yy, yy, yy, yy, yy, yy, yy, yy, yy, yy, yy, yy, yy, yy, yy, yy, yy, yy, yy, yy, yy, yy, nn] rfl rfl (any_of HT_.out (by kernel_rfl)) (fun _ _ _ h => h) (Or.inl ⟨by rfl, ?_⟩) ?_ ?_
              rotate_left; (· intro w'; go_simp; with_reducible rfl)
              rotate_left; (· simp only [Act.put, List.setIfInBounds_toArray, List.set_cons_zero, List.set_cons_succ, i64_w, i32_w]; rfl)
              refine pure_ (i := 39) (N := some 158) (v := ?_) (a' := ?_) #[yy, yy, yy, yy, yy, yy, yy, yy, yy, yy, yy, yy, yy, yy, yy, yy, yy, yy, yy, yy, yy, yy, yy, yy, yy, yy, yy, yy, yy, yy, yy, yy, yy, yy, yy, yy, yy, yy, yy, yy] rfl rfl (any_of HT_.out (by kernel_rfl)) (fun _ _ _ h => h) (Or.inl ⟨by rfl, ?_⟩) ?_ ?_
              rotate_left; (· intro w'; go_simp; with_reducible rfl)
              rotate_left; (· simp only [Act.put, List.setIfInBounds_toArray, List.set_cons_zero, List.set_cons_succ, i64_w, i32_w]; rfl)
              refine done_ (done_of HT_.out (by kernel_rfl)) ?_
              try go_wp2
              go_roundg k2
              case measure => have := HK1.out; have := HK2.out; omega
              case rel => exact ⟨(wrap64 (x115_2 + 1)), (by first | rfl | (simp; done) | (simp [*]; done)), H', ⟨by have := HK1.out; have := HK2.out; omega⟩, ⟨by (with_reducible repeat (first | apply Kd.R_alloc | apply Kd.R_drewN | apply Kd.R_drew)); exact HO_5.out⟩, ⟨by repeat (first | (with_reducible first | exact HB.out | apply below_alloc | apply pw_below_drewN | apply below_drew1 | refine below_set ?_ GE145.out) | exact HB.out)⟩⟩
            ·
             rw [if_neg c67] at H
             have c67b0 : (((rd_T36 l1 x115_2).f0) == 0) = false := beq_eq_false_iff_ne.mpr c67
             have c67b1 : (((rd_T36 l1 x115_2).f0) != 0) = true := bne_iff_ne.mpr c67
             have H' := Aside0.mk H
             clear H
             have p144 : 0 ≤ (x115_2 : Int) := of_decide_eq_true (by first | (with_reducible assumption) | assumption)
             have q144 : x115_2 < (l1.length : Int) := of_decide_eq_true (by first | (with_reducible assumption) | assumption)
             obtain ⟨ad144, e144, hx144_0, hx144_1, hx144_2, hx144_3, hx144_4, hx144_5, hx144_6, hx144_7⟩ := at_T36 HR1.out x115_2 p144 q144
             cases e144
             replace hx144_0 := (HB.out.cell (World.block_lt_of_cell? w _ hx144_0)).trans hx144_0
             replace hx144_1 := (HB.out.cell (World.block_lt_of_cell? w _ hx144_1)).trans hx144_1
             replace hx144_2 := (HB.out.cell (World.block_lt_of_cell? w _ hx144_2)).trans hx144_2
             replace hx144_3 := (HB.out.cell (World.block_lt_of_cell? w _ hx144_3)).trans hx144_3
             replace hx144_4 := (HB.out.cell (World.block_lt_of_cell? w _ hx144_4)).trans hx144_4
             replace hx144_5 := (HB.out.cell (World.block_lt_of_cell? w _ hx144_5)).trans hx144_5
             replace hx144_6 := (HB.out.cell (World.block_lt_of_cell? w _ hx144_6)).trans hx144_6
             replace hx144_7 := (HB.out.cell (World.block_lt_of_cell? w _ hx144_7)).trans hx144_7
             replace p144 := eq_true p144
             replace q144 := eq_true q144
             try go_wp2_with (first | ((with_reducible refine gate_dst (N := 17) rfl ?_); (try (refine gate_guard (by rfl) ?_; dsimp only)); refine box_event ?hg (N := 17) ?hd (cs := #[.int .i64 0, .int .i64 0, .int .i64 0, .int .i64 0, .int .i64 0, .string (⟨#[]⟩ : ByteArray), .int .i64 0, .int .i64 0]) (t := 36) ?hr ?_; (case hd => rfl); (case hg => rfl); (case hr => first | (go_simp; done) | (go_simp; rfl)); intro gb145 hg w82 hbox hb; have n0_ := Aside0.mk (Kd.R_below (by (with_reducible repeat (first | apply Kd.R_alloc | apply Kd.R_drewN | apply Kd.R_drew)); exact HO_5.out) hb); have n1_ := Aside0.mk (below_step (by repeat (first | (with_reducible first | exact HB.out | apply below_alloc | apply pw_below_drewN | apply below_drew1) | exact HB.out)) hb); have n2_ := Aside0.mk (hbox); have n3_ := Aside0.mk ((by rw [hg]; exact (below_size (by repeat (first | (with_reducible first | exact HB.out | apply below_alloc | apply pw_below_drewN | apply below_drew1) | exact HB.out))) : w.heap.size ≤ gb145)); have n4_ := Aside0.mk ((by rw [hg]; exact (below_size (by repeat (first | (with_reducible first | exact HB.out | apply below_alloc | apply pw_below_drewN | apply below_drew1) | exact HB.out))) : w.heap.size ≤ gb145)); clear HO_5; clear HB; have HO_5 := n0_; have HB := n1_; have BK145 := n2_; have GW145 := n3_; have GE145 := n4_; clear n0_ n1_ n2_ n3_ n4_; clear hb hbox hg; have hcz83_0 : w82.cell? ⟨gb145, 0, none⟩ = some (.int .i64 0) := (blk_cell BK145.out 0).trans rfl; have hcz83_1 : w82.cell? ⟨gb145, 1, none⟩ = some (.int .i64 0) := (blk_cell BK145.out 1).trans rfl; have hcz83_2 : w82.cell? ⟨gb145, 2, none⟩ = some (.int .i64 0) := (blk_cell BK145.out 2).trans rfl; have hcz83_3 : w82.cell? ⟨gb145, 3, none⟩ = some (.int .i64 0) := (blk_cell BK145.out 3).trans rfl; have hcz83_4 : w82.cell? ⟨gb145, 4, none⟩ = some (.int .i64 0) := (blk_cell BK145.out 4).trans rfl; have hcz83_5 : w82.cell? ⟨gb145, 5, none⟩ = some (.string (⟨#[]⟩ : ByteArray)) := (blk_cell BK145.out 5).trans rfl; have hcz83_6 : w82.cell? ⟨gb145, 6, none⟩ = some (.int .i64 0) := (blk_cell BK145.out 6).trans rfl; have hcz83_7 : w82.cell? ⟨gb145, 7, none⟩ = some (.int .i64 0) := (blk_cell BK145.out 7).trans rfl; have hfz83_0 := blk_frozen BK145.out 0; have hfz83_1 := blk_frozen BK145.out 1; have hfz83_2 := blk_frozen BK145.out 2; have hfz83_3 := blk_frozen BK145.out 3; have hfz83_4 := blk_frozen BK145.out 4; have hfz83_5 := blk_frozen BK145.out 5; have hfz83_6 := blk_frozen BK145.out 6; have hfz83_7 := blk_frozen BK145.out 7))
             have n0_ : Aside0 (Kd.R k23 23 ((((((((w82.setCell ⟨gb145, 0, none⟩ (.int .i64 ((rd_T36 l1 x115_2).f0))).setCell ⟨gb145, 1, none⟩ (.int .i64 ((rd_T36 l1 x115_2).f1))).setCell ⟨gb145, 2, none⟩ (.int .i64 ((rd_T36 l1 x115_2).f2))).setCell ⟨gb145, 3, none⟩ (.int .i64 ((rd_T36 l1 x115_2).f3.f0))).setCell ⟨gb145, 4, none⟩ (.int .i64 ((rd_T36 l1 x115_2).f3.f1))).setCell ⟨gb145, 5, none⟩ (.string ((rd_T36 l1 x115_2).f3.f2))).setCell ⟨gb145, 6, none⟩ (.int .i64 ((rd_T36 l1 x115_2).f4))).setCell ⟨gb145, 7, none⟩ (.int .i64 ((rd_T36 l1 x115_2).f5))) w.heap.size (fun _ => True) (.slice Ao12 t117.length co12) t117) := ⟨by (with_reducible repeat (first | apply Kd.R_alloc | apply Kd.R_drewN | apply Kd.R_drew)); exact Kd.R_mono (Kd.R_far (p := ⟨gb145, 7, none⟩) (Kd.R_far (p := ⟨gb145, 6, none⟩) (Kd.R_far (p := ⟨gb145, 5, none⟩) (Kd.R_far (p := ⟨gb145, 4, none⟩) (Kd.R_far (p := ⟨gb145, 3, none⟩) (Kd.R_far (p := ⟨gb145, 2, none⟩) (Kd.R_far (p := ⟨gb145, 1, none⟩) (Kd.R_far (p := ⟨gb145, 0, none⟩) (Kd.R_types HO_5.out BK145.out (by decide)) (fun _ hk => hk.2) (.int .i64 ((rd_T36 l1 x115_2).f0))) (fun _ hk => hk.2) (.int .i64 ((rd_T36 l1 x115_2).f1))) (fun _ hk => hk.2) (.int .i64 ((rd_T36 l1 x115_2).f2))) (fun _ hk => hk.2) (.int .i64 ((rd_T36 l1 x115_2).f3.f0))) (fun _ hk => hk.2) (.int .i64 ((rd_T36 l1 x115_2).f3.f1))) (fun _ hk => hk.2) (.string ((rd_T36 l1 x115_2).f3.f2))) (fun _ hk => hk.2) (.int .i64 ((rd_T36 l1 x115_2).f4))) (fun _ hk => hk.2) (.int .i64 ((rd_T36 l1 x115_2).f5))) (fun _ hk => trivial)⟩
             have n1_ : Aside0 (((((((((w82.setCell ⟨gb145, 0, none⟩ (.int .i64 ((rd_T36 l1 x115_2).f0))).setCell ⟨gb145, 1, none⟩ (.int .i64 ((rd_T36 l1 x115_2).f1))).setCell ⟨gb145, 2, none⟩ (.int .i64 ((rd_T36 l1 x115_2).f2))).setCell ⟨gb145, 3, none⟩ (.int .i64 ((rd_T36 l1 x115_2).f3.f0))).setCell ⟨gb145, 4, none⟩ (.int .i64 ((rd_T36 l1 x115_2).f3.f1))).setCell ⟨gb145, 5, none⟩ (.string ((rd_T36 l1 x115_2).f3.f2))).setCell ⟨gb145, 6, none⟩ (.int .i64 ((rd_T36 l1 x115_2).f4))).setCell ⟨gb145, 7, none⟩ (.int .i64 ((rd_T36 l1 x115_2).f5))).heap[gb145]? = some (.cells #[.int .i64 ((rd_T36 l1 x115_2).f0), .int .i64 ((rd_T36 l1 x115_2).f1), .int .i64 ((rd_T36 l1 x115_2).f2), .int .i64 ((rd_T36 l1 x115_2).f3.f0), .int .i64 ((rd_T36 l1 x115_2).f3.f1), .string ((rd_T36 l1 x115_2).f3.f2), .int .i64 ((rd_T36 l1 x115_2).f4), .int .i64 ((rd_T36 l1 x115_2).f5)] 36 (0, 0))) := ⟨by (with_reducible repeat (first | refine blk_drewN ?_ _ | refine blk_drew ?_ | refine blk_alloc ?_ _)); refine blk_put (cs := #[.int .i64 ((rd_T36 l1 x115_2).f0), .int .i64 ((rd_T36 l1 x115_2).f1), .int .i64 ((rd_T36 l1 x115_2).f2), .int .i64 ((rd_T36 l1 x115_2).f3.f0), .int .i64 ((rd_T36 l1 x115_2).f3.f1), .string ((rd_T36 l1 x115_2).f3.f2), .int .i64 ((rd_T36 l1 x115_2).f4), .int .i64 0]) ?_ 7 _ rfl; (with_reducible repeat (first | refine blk_drewN ?_ _ | refine blk_drew ?_ | refine blk_alloc ?_ _)); refine blk_put (cs := #[.int .i64 ((rd_T36 l1 x115_2).f0), .int .i64 ((rd_T36 l1 x115_2).f1), .int .i64 ((rd_T36 l1 x115_2).f2), .int .i64 ((rd_T36 l1 x115_2).f3.f0), .int .i64 ((rd_T36 l1 x115_2).f3.f1), .string ((rd_T36 l1 x115_2).f3.f2), .int .i64 0, .int .i64 0]) ?_ 6 _ rfl; (with_reducible repeat (first | refine blk_drewN ?_ _ | refine blk_drew ?_ | refine blk_alloc ?_ _)); refine blk_put (cs := #[.int .i64 ((rd_T36 l1 x115_2).f0), .int .i64 ((rd_T36 l1 x115_2).f1), .int .i64 ((rd_T36 l1 x115_2).f2), .int .i64 ((rd_T36 l1 x115_2).f3.f0), .int .i64 ((rd_T36 l1 x115_2).f3.f1), .string (⟨#[]⟩ : ByteArray), .int .i64 0, .int .i64 0]) ?_ 5 _ rfl; (with_reducible repeat (first | refine blk_drewN ?_ _ | refine blk_drew ?_ | refine blk_alloc ?_ _)); refine blk_put (cs := #[.int .i64 ((rd_T36 l1 x115_2).f0), .int .i64 ((rd_T36 l1 x115_2).f1), .int .i64 ((rd_T36 l1 x115_2).f2), .int .i64 ((rd_T36 l1 x115_2).f3.f0), .int .i64 0, .string (⟨#[]⟩ : ByteArray), .int .i64 0, .int .i64 0]) ?_ 4 _ rfl; (with_reducible repeat (first | refine blk_drewN ?_ _ | refine blk_drew ?_ | refine blk_alloc ?_ _)); refine blk_put (cs := #[.int .i64 ((rd_T36 l1 x115_2).f0), .int .i64 ((rd_T36 l1 x115_2).f1), .int .i64 ((rd_T36 l1 x115_2).f2), .int .i64 0, .int .i64 0, .string (⟨#[]⟩ : ByteArray), .int .i64 0, .int .i64 0]) ?_ 3 _ rfl; (with_reducible repeat (first | refine blk_drewN ?_ _ | refine blk_drew ?_ | refine blk_alloc ?_ _)); refine blk_put (cs := #[.int .i64 ((rd_T36 l1 x115_2).f0), .int .i64 ((rd_T36 l1 x115_2).f1), .int .i64 0, .int .i64 0, .int .i64 0, .string (⟨#[]⟩ : ByteArray), .int .i64 0, .int .i64 0]) ?_ 2 _ rfl; (with_reducible repeat (first | refine blk_drewN ?_ _ | refine blk_drew ?_ | refine blk_alloc ?_ _)); refine blk_put (cs := #[.int .i64 ((rd_T36 l1 x115_2).f0), .int .i64 0, .int .i64 0, .int .i64 0, .int .i64 0, .string (⟨#[]⟩ : ByteArray), .int .i64 0, .int .i64 0]) ?_ 1 _ rfl; (with_reducible repeat (first | refine blk_drewN ?_ _ | refine blk_drew ?_ | refine blk_alloc ?_ _)); refine blk_put (cs := #[.int .i64 0, .int .i64 0, .int .i64 0, .int .i64 0, .int .i64 0, .string (⟨#[]⟩ : ByteArray), .int .i64 0, .int .i64 0]) ?_ 0 _ rfl; (with_reducible repeat (first | refine blk_drewN ?_ _ | refine blk_drew ?_ | refine blk_alloc ?_ _)); exact BK145.out⟩
             have n2_ : Aside0 (Below w.heap.size w ((((((((w82.setCell ⟨gb145, 0, none⟩ (.int .i64 ((rd_T36 l1 x115_2).f0))).setCell ⟨gb145, 1, none⟩ (.int .i64 ((rd_T36 l1 x115_2).f1))).setCell ⟨gb145, 2, none⟩ (.int .i64 ((rd_T36 l1 x115_2).f2))).setCell ⟨gb145, 3, none⟩ (.int .i64 ((rd_T36 l1 x115_2).f3.f0))).setCell ⟨gb145, 4, none⟩ (.int .i64 ((rd_T36 l1 x115_2).f3.f1))).setCell ⟨gb145, 5, none⟩ (.string ((rd_T36 l1 x115_2).f3.f2))).setCell ⟨gb145, 6, none⟩ (.int .i64 ((rd_T36 l1 x115_2).f4))).setCell ⟨gb145, 7, none⟩ (.int .i64 ((rd_T36 l1 x115_2).f5)))) := ⟨by repeat (first | (with_reducible first | exact HB.out | apply below_alloc | apply pw_below_drewN | apply below_drew1 | refine below_set ?_ GE145.out) | exact HB.out)⟩
             (try clear HO_5)
             (try clear BK145)
             (try clear HB)
             generalize ((((((((w82.setCell ⟨gb145, 0, none⟩ (.int .i64 ((rd_T36 l1 x115_2).f0))).setCell ⟨gb145, 1, none⟩ (.int .i64 ((rd_T36 l1 x115_2).f1))).setCell ⟨gb145, 2, none⟩ (.int .i64 ((rd_T36 l1 x115_2).f2))).setCell ⟨gb145, 3, none⟩ (.int .i64 ((rd_T36 l1 x115_2).f3.f0))).setCell ⟨gb145, 4, none⟩ (.int .i64 ((rd_T36 l1 x115_2).f3.f1))).setCell ⟨gb145, 5, none⟩ (.string ((rd_T36 l1 x115_2).f3.f2))).setCell ⟨gb145, 6, none⟩ (.int .i64 ((rd_T36 l1 x115_2).f4))).setCell ⟨gb145, 7, none⟩ (.int .i64 ((rd_T36 l1 x115_2).f5))) = w84 at n0_ n1_ n2_ ⊢
             have HO_5 := n0_
             have BK145 := n1_
             have HB := n2_
             clear n0_ n1_ n2_
             have n0_ := Aside0.mk (Kd.R_drew HO_5.out)
             have n1_ := Aside0.mk (blk_drew BK145.out)
             have n2_ := Aside0.mk (below_drew1 HB.out)
             clear HO_5
             clear BK145
             clear HB
             have HO_5 := n0_
             have BK145 := n1_
             have HB := n2_
             clear n0_ n1_ n2_
             refine start_ (n := 40) (S := fun w' => w'.cell? ⟨gb145, 0, none⟩ = some (.int .i64 ((rd_T36 l1 x115_2).f0)) ∧ w'.cell? ⟨gb145, 1, none⟩ = some (.int .i64 ((rd_T36 l1 x115_2).f1)) ∧ w'.cell? ⟨gb145, 2, none⟩ = some (.int .i64 ((rd_T36 l1 x115_2).f2)) ∧ w'.cell? ⟨gb145, 3, none⟩ = some (.int .i64 ((rd_T36 l1 x115_2).f3.f0)) ∧ w'.cell? ⟨gb145, 4, none⟩ = some (.int .i64 ((rd_T36 l1 x115_2).f3.f1)) ∧ w'.cell? ⟨gb145, 5, none⟩ = some (.string ((rd_T36 l1 x115_2).f3.f2)) ∧ w'.cell? ⟨gb145, 6, none⟩ = some (.int .i64 ((rd_T36 l1 x115_2).f4)) ∧ w'.cell? ⟨gb145, 7, none⟩ = some (.int .i64 ((rd_T36 l1 x115_2).f5))) (ds := []) #[nn, nn, nn, nn, nn, nn, nn, nn, nn, nn, nn, nn, nn, nn, nn, nn, nn, nn, nn, nn, nn, nn, nn, nn, nn, nn, nn, nn, nn, nn, nn, nn, nn, nn, nn, nn, nn, nn, nn, nn] (by kernel_rfl) rfl rfl ⟨(blk_cell BK145.out 0).trans rfl, (blk_cell BK145.out 1).trans rfl, (blk_cell BK145.out 2).trans rfl, (blk_cell BK145.out 3).trans rfl, (blk_cell BK145.out 4).trans rfl, (blk_cell BK145.out 5).trans rfl, (blk_cell BK145.out 6).trans rfl, (blk_cell BK145.out 7).trans rfl⟩ (fun hHeld => ?_); refine with_tabW assessorlaw09_ConstraintsChains.tab28 assessorlaw09_ConstraintsChains.bits28 (fun HT_ HW_ => ?_)
             generalize w84.drew = w85 at HO_5 BK145 HB hHeld ⊢
             refine pure_ (i := 0) (N := some 119) (v := ?_) (a' := ?_) #[yy, nn, nn, nn, nn, nn, nn, nn, nn, nn, nn, nn, nn, nn, nn, nn, nn, nn, nn, nn, nn, nn, nn, nn, nn, nn, nn, nn, nn, nn, nn, nn, nn, nn, nn, nn, nn, nn, nn, nn] rfl rfl (any_of HT_.out (by kernel_rfl)) (fun _ _ _ h => h) (Or.inl ⟨by rfl, ?_⟩) ?_ ?_
             rotate_left; (· intro w'; go_simp; with_reducible rfl)
             rotate_left; (· simp only [Act.put, List.setIfInBounds_toArray, List.set_cons_zero, List.set_cons_succ, i64_w, i32_w]; rfl)
             refine take_ (i := 1) (N := some 120) (v := ?_) (a' := ?_) #[yy, yy, nn, nn, nn, nn, nn, nn, nn, nn, nn, nn, nn, nn, nn, nn, nn, nn, nn, nn, nn, nn, nn, nn, nn, nn, nn, nn, nn, nn, nn, nn, nn, nn, nn, nn, nn, nn, nn, nn] rfl rfl (take_ofW HT_.out HW_.out (by kernel_rfl)) (fun _ _ _ h => h) (Or.inl ⟨by rfl, ?_⟩) hHeld ?_ ?_
             rotate_left; (· rintro w' ⟨s0, s1, s2, s3, s4, s5, s6, s7⟩; go_simp; with_reducible rfl)
             rotate_left; (· simp only [Act.put, List.setIfInBounds_toArray, List.set_cons_zero, List.set_cons_succ, i64_w, i32_w]; rfl)
             refine pure_ (i := 2) (N := some 121) (v := ?_) (a' := ?_) #[yy, yy, yy, nn, nn, nn, nn, nn, nn, nn, nn, nn, nn, nn, nn, nn, nn, nn, nn, nn, nn, nn, nn, nn, nn, nn, nn, nn, nn, nn, nn, nn, nn, nn, nn, nn, nn, nn, nn, nn] rfl rfl (any_of HT_.out (by kernel_rfl)) (fun _ _ _ h => h) (Or.inl ⟨by rfl, ?_⟩) ?_ ?_
             rotate_left; (· intro w'; go_simp; with_reducible rfl)
             rotate_left; (· simp only [Act.put, List.setIfInBounds_toArray, List.set_cons_zero, List.set_cons_succ, i64_w, i32_w]; rfl)
             refine pure_ (i := 3) (N := some 122) (v := ?_) (a' := ?_) #[yy, yy, yy, yy, nn, nn, nn, nn, nn, nn, nn, nn, nn, nn, nn, nn, nn, nn, nn, nn, nn, nn, nn, nn, nn, nn, nn, nn, nn, nn, nn, nn, nn, nn, nn, nn, nn, nn, nn, nn] rfl rfl (any_of HT_.out (by kernel_rfl)) (fun _ _ _ h => h) (Or.inl ⟨by rfl, ?_⟩) ?_ ?_
             rotate_left; (· intro w'; go_simp; with_reducible rfl)
             rotate_left; (· simp only [Act.put, List.setIfInBounds_toArray, List.set_cons_zero, List.set_cons_succ, i64_w, i32_w]; rfl)
             refine pure_ (i := 4) (N := some 123) (v := undef) (a' := ?_) #[yy, yy, yy, yy, yy, nn, nn, nn, nn, nn, nn, nn, nn, nn, nn, nn, nn, nn, nn, nn, nn, nn, nn, nn, nn, nn, nn, nn, nn, nn, nn, nn, nn, nn, nn, nn, nn, nn, nn, nn] rfl rfl (any_of HT_.out (by kernel_rfl)) (fun _ _ _ h => h) (Or.inr ⟨by rfl, rfl⟩) ?_ ?_
             rotate_left; (· simp only [Act.put, List.setIfInBounds_toArray, List.set_cons_zero, List.set_cons_succ, i64_w, i32_w]; rfl)
             refine pure_ (i := 5) (N := some 124) (v := undef) (a' := ?_) #[yy, yy, yy, yy, yy, yy, nn, nn, nn, nn, nn, nn, nn, nn, nn, nn, nn, nn, nn, nn, nn, nn, nn, nn, nn, nn, nn, nn, nn, nn, nn, nn, nn, nn, nn, nn, nn, nn, nn, nn] rfl rfl (any_of HT_.out (by kernel_rfl)) (fun _ _ _ h => h) (Or.inr ⟨by rfl, rfl⟩) ?_ ?_
             rotate_left; (· simp only [Act.put, List.setIfInBounds_toArray, List.set_cons_zero, List.set_cons_succ, i64_w, i32_w]; rfl)
             refine pure_ (i := 6) (N := some 125) (v := undef) (a' := ?_) #[yy, yy, yy, yy, yy, yy, yy, nn, nn, nn, nn, nn, nn, nn, nn, nn, nn, nn, nn, nn, nn, nn, nn, nn, nn, nn, nn, nn, nn, nn, nn, nn, nn, nn, nn, nn, nn, nn, nn, nn] rfl rfl (any_of HT_.out (by kernel_rfl)) (fun _ _ _ h => h) (Or.inr ⟨by rfl, rfl⟩) ?_ ?_
             rotate_left; (· simp only [Act.put, List.setIfInBounds_toArray, List.set_cons_zero, List.set_cons_succ, i64_w, i32_w]; rfl)
             refine pure_ (i := 7) (N := some 126) (v := undef) (a' := ?_) #[yy, yy, yy, yy, yy, yy, yy, yy, nn, nn, nn, nn, nn, nn, nn, nn, nn, nn, nn, nn, nn, nn, nn, nn, nn, nn, nn, nn, nn, nn, nn, nn, nn, nn, nn, nn, nn, nn, nn, nn] rfl rfl (any_of HT_.out (by kernel_rfl)) (fun _ _ _ h => h) (Or.inr ⟨by rfl, rfl⟩) ?_ ?_
             rotate_left; (· simp only [Act.put, List.setIfInBounds_toArray, List.set_cons_zero, List.set_cons_succ, i64_w, i32_w]; rfl)
             refine pure_ (i := 8) (N := some 127) (v := undef) (a' := ?_) #[yy, yy, yy, yy, yy, yy, yy, yy, yy, nn, nn, nn, nn, nn, nn, nn, nn, nn, nn, nn, nn, nn, nn, nn, nn, nn, nn, nn, nn, nn, nn, nn, nn, nn, nn, nn, nn, nn, nn, nn] rfl rfl (any_of HT_.out (by kernel_rfl)) (fun _ _ _ h => h) (Or.inr ⟨by rfl, rfl⟩) ?_ ?_
             rotate_left; (· simp only [Act.put, List.setIfInBounds_toArray, List.set_cons_zero, List.set_cons_succ, i64_w, i32_w]; rfl)
             refine pure_ (i := 9) (N := some 128) (v := undef) (a' := ?_) #[yy, yy, yy, yy, yy, yy, yy, yy, yy, yy, nn, nn, nn, nn, nn, nn, nn, nn, nn, nn, nn, nn, nn, nn, nn, nn, nn, nn, nn, nn, nn, nn, nn, nn, nn, nn, nn, nn, nn, nn] rfl rfl (any_of HT_.out (by kernel_rfl)) (fun _ _ _ h => h) (Or.inr ⟨by rfl, rfl⟩) ?_ ?_
             rotate_left; (· simp only [Act.put, List.setIfInBounds_toArray, List.set_cons_zero, List.set_cons_succ, i64_w, i32_w]; rfl)
             refine pure_ (i := 10) (N := some 129) (v := undef) (a' := ?_) #[yy, yy, yy, yy, yy, yy, yy, yy, yy, yy, yy, nn, nn, nn, nn, nn, nn, nn, nn, nn, nn, nn, nn, nn, nn, nn, nn, nn, nn, nn, nn, nn, nn, nn, nn, nn, nn, nn, nn, nn] rfl rfl (any_of HT_.out (by kernel_rfl)) (fun _ _ _ h => h) (Or.inr ⟨by rfl, rfl⟩) ?_ ?_
             rotate_left; (· simp only [Act.put, List.setIfInBounds_toArray, List.set_cons_zero, List.set_cons_succ, i64_w, i32_w]; rfl)
             refine pure_ (i := 11) (N := some 130) (v := undef) (a' := ?_) #[yy, yy, yy, yy, yy, yy, yy, yy, yy, yy, yy, yy, nn, nn, nn, nn, nn, nn, nn, nn, nn, nn, nn, nn, nn, nn, nn, nn, nn, nn, nn, nn, nn, nn, nn, nn, nn, nn, nn, nn] rfl rfl (any_of HT_.out (by kernel_rfl)) (fun _ _ _ h => h) (Or.inr ⟨by rfl, rfl⟩) ?_ ?_
             rotate_left; (· simp only [Act.put, List.setIfInBounds_toArray, List.set_cons_zero, List.set_cons_succ, i64_w, i32_w]; rfl)
             refine pure_ (i := 12) (N := some 131) (v := undef) (a' := ?_) #[yy, yy, yy, yy, yy, yy, yy, yy, yy, yy, yy, yy, yy, nn, nn, nn, nn, nn, nn, nn, nn, nn, nn, nn, nn, nn, nn, nn, nn, nn, nn, nn, nn, nn, nn, nn, nn, nn, nn, nn] rfl rfl (any_of HT_.out (by kernel_rfl)) (fun _ _ _ h => h) (Or.inr ⟨by rfl, rfl⟩) ?_ ?_
             rotate_left; (· simp only [Act.put, List.setIfInBounds_toArray, List.set_cons_zero, List.set_cons_succ, i64_w, i32_w]; rfl)
             refine pure_ (i := 13) (N := some 132) (v := undef) (a' := ?_) #[yy, yy, yy, yy, yy, yy, yy, yy, yy, yy, yy, yy, yy, yy, nn, nn, nn, nn, nn, nn, nn, nn, nn, nn, nn, nn, nn, nn, nn, nn, nn, nn, nn, nn, nn, nn, nn, nn, nn, nn] rfl rfl (any_of HT_.out (by kernel_rfl)) (fun _ _ _ h => h) (Or.inr ⟨by rfl, rfl⟩) ?_ ?_
             rotate_left; (· simp only [Act.put, List.setIfInBounds_toArray, List.set_cons_zero, List.set_cons_succ, i64_w, i32_w]; rfl)
             refine pure_ (i := 14) (N := some 133) (v := undef) (a' := ?_) #[yy, yy, yy, yy, yy, yy, yy, yy, yy, yy, yy, yy, yy, yy, yy, nn, nn, nn, nn, nn, nn, nn, nn, nn, nn, nn, nn, nn, nn, nn, nn, nn, nn, nn, nn, nn, nn, nn, nn, nn] rfl rfl (any_of HT_.out (by kernel_rfl)) (fun _ _ _ h => h) (Or.inr ⟨by rfl, rfl⟩) ?_ ?_
             rotate_left; (· simp only [Act.put, List.setIfInBounds_toArray, List.set_cons_zero, List.set_cons_succ, i64_w, i32_w]; rfl)
             refine pure_ (i := 15) (N := some 134) (v := ?_) (a' := ?_) #[yy, yy, yy, yy, yy, yy, yy, yy, yy, yy, yy, yy, yy, yy, yy, yy, nn, nn, nn, nn, nn, nn, nn, nn, nn, nn, nn, nn, nn, nn, nn, nn, nn, nn, nn, nn, nn, nn, nn, nn] rfl rfl (any_of HT_.out (by kernel_rfl)) (fun _ _ _ h => h) (Or.inl ⟨by rfl, ?_⟩) ?_ ?_
             rotate_left; (· intro w'; go_simp; with_reducible rfl)
             rotate_left; (· simp only [Act.put, List.setIfInBounds_toArray, List.set_cons_zero, List.set_cons_succ, i64_w, i32_w]; rfl)
             refine pure_ (i := 16) (N := some 135) (v := ?_) (a' := ?_) #[yy, yy, yy, yy, yy, yy, yy, yy, yy, yy, yy, yy, yy, yy, yy, yy, yy, nn, nn, nn, nn, nn, nn, nn, nn, nn, nn, nn, nn, nn, nn, nn, nn, nn, nn, nn, nn, nn, nn, nn] rfl rfl (any_of HT_.out (by kernel_rfl)) (fun _ _ _ h => h) (Or.inl ⟨by rfl, ?_⟩) ?_ ?_
             rotate_left; (· intro w'; go_simp; with_reducible rfl)
             rotate_left; (· simp only [Act.put, List.setIfInBounds_toArray, List.set_cons_zero, List.set_cons_succ, i64_w, i32_w]; rfl)
             refine pure_ (i := 17) (N := some 136) (v := ?_) (a' := ?_) #[yy, yy, yy, yy, yy, yy, yy, yy, yy, yy, yy, yy, yy, yy, yy, yy, yy, yy, nn, nn, nn, nn, nn, nn, nn, nn, nn, nn, nn, nn, nn, nn, nn, nn, nn, nn, nn, nn, nn, nn] rfl rfl (any_of HT_.out (by kernel_rfl)) (fun _ _ _ h => h) (Or.inl ⟨by rfl, ?_⟩) ?_ ?_
             rotate_left; (· intro w'; go_simp; with_reducible rfl)
             rotate_left; (· simp only [Act.put, List.setIfInBounds_toArray, List.set_cons_zero, List.set_cons_succ, i64_w, i32_w]; rfl)
             refine take_ (i := 18) (N := some 137) (v := ?_) (a' := ?_) #[yy, yy, yy, yy, yy, yy, yy, yy, yy, yy, yy, yy, yy, yy, yy, yy, yy, yy, yy, nn, nn, nn, nn, nn, nn, nn, nn, nn, nn, nn, nn, nn, nn, nn, nn, nn, nn, nn, nn, nn] rfl rfl (take_ofW HT_.out HW_.out (by kernel_rfl)) (fun _ _ _ h => h) (Or.inl ⟨by rfl, ?_⟩) hHeld ?_ ?_
             rotate_left; (· rintro w' ⟨s0, s1, s2, s3, s4, s5, s6, s7⟩; go_simp; with_reducible rfl)
             rotate_left; (· simp only [Act.put, List.setIfInBounds_toArray, List.set_cons_zero, List.set_cons_succ, i64_w, i32_w]; rfl)
             refine pure_ (i := 19) (N := some 138) (v := ?_) (a' := ?_) #[yy, yy, yy, yy, yy, yy, yy, yy, yy, yy, yy, yy, yy, yy, yy, yy, yy, yy, yy, yy, nn, nn, nn, nn, nn, nn, nn, nn, nn, nn, nn, nn, nn, nn, nn, nn, nn, nn, nn, nn] rfl rfl (any_of HT_.out (by kernel_rfl)) (fun _ _ _ h => h) (Or.inl ⟨by rfl, ?_⟩) ?_ ?_
             rotate_left; (· intro w'; go_simp; with_reducible rfl)
             rotate_left; (· simp only [Act.put, List.setIfInBounds_toArray, List.set_cons_zero, List.set_cons_succ, i64_w, i32_w]; rfl)
             refine pure_ (i := 20) (N := some 139) (v := ?_) (a' := ?_) #[yy, yy, yy, yy, yy, yy, yy, yy, yy, yy, yy, yy, yy, yy, yy, yy, yy, yy, yy, yy, yy, nn, nn, nn, nn, nn, nn, nn, nn, nn, nn, nn, nn, nn, nn, nn, nn, nn, nn, nn] rfl rfl (any_of HT_.out (by kernel_rfl)) (fun _ _ _ h => h) (Or.inl ⟨by rfl, ?_⟩) ?_ ?_
             rotate_left; (· intro w'; go_simp; with_reducible rfl)
             rotate_left; (· simp only [Act.put, List.setIfInBounds_toArray, List.set_cons_zero, List.set_cons_succ, i64_w, i32_w]; rfl)
             refine pure_ (i := 21) (N := some 140) (v := undef) (a' := ?_) #[yy, yy, yy, yy, yy, yy, yy, yy, yy, yy, yy, yy, yy, yy, yy, yy, yy, yy, yy, yy, yy, yy, nn, nn, nn, nn, nn, nn, nn, nn, nn, nn, nn, nn, nn, nn, nn, nn, nn, nn] rfl rfl (any_of HT_.out (by kernel_rfl)) (fun _ _ _ h => h) (Or.inr ⟨by rfl, rfl⟩) ?_ ?_
             rotate_left; (· simp only [Act.put, List.setIfInBounds_toArray, List.set_cons_zero, List.set_cons_succ, i64_w, i32_w]; rfl)
             refine pure_ (i := 22) (N := some 141) (v := undef) (a' := ?_) #[yy, yy, yy, yy, yy, yy, yy, yy, yy, yy, yy, yy, yy, yy, yy, yy, yy, yy, yy, yy, yy, yy, yy, nn, nn, nn, nn, nn, nn, nn, nn, nn, nn, nn, nn, nn, nn, nn, nn, nn] rfl rfl (any_of HT_.out (by kernel_rfl)) (fun _ _ _ h => h) (Or.inr ⟨by rfl, rfl⟩) ?_ ?_
             rotate_left; (· simp only [Act.put, List.setIfInBounds_toArray, List.set_cons_zero, List.set_cons_succ, i64_w, i32_w]; rfl)
             refine pure_ (i := 23) (N := some 142) (v := undef) (a' := ?_) #[yy, yy, yy, yy, yy, yy, yy, yy, yy, yy, yy, yy, yy, yy, yy, yy, yy, yy, yy, yy, yy, yy, yy, yy, nn, nn, nn, nn, nn, nn, nn, nn, nn, nn, nn, nn, nn, nn, nn, nn] rfl rfl (any_of HT_.out (by kernel_rfl)) (fun _ _ _ h => h) (Or.inr ⟨by rfl, rfl⟩) ?_ ?_
             rotate_left; (· simp only [Act.put, List.setIfInBounds_toArray, List.set_cons_zero, List.set_cons_succ, i64_w, i32_w]; rfl)
             refine pure_ (i := 24) (N := some 143) (v := undef) (a' := ?_) #[yy, yy, yy, yy, yy, yy, yy, yy, yy, yy, yy, yy, yy, yy, yy, yy, yy, yy, yy, yy, yy, yy, yy, yy, yy, nn, nn, nn, nn, nn, nn, nn, nn, nn, nn, nn, nn, nn, nn, nn] rfl rfl (any_of HT_.out (by kernel_rfl)) (fun _ _ _ h => h) (Or.inr ⟨by rfl, rfl⟩) ?_ ?_
             rotate_left; (· simp only [Act.put, List.setIfInBounds_toArray, List.set_cons_zero, List.set_cons_succ, i64_w, i32_w]; rfl)
             refine pure_ (i := 25) (N := some 144) (v := undef) (a' := ?_) #[yy, yy, yy, yy, yy, yy, yy, yy, yy, yy, yy, yy, yy, yy, yy, yy, yy, yy, yy, yy, yy, yy, yy, yy, yy, yy, nn, nn, nn, nn, nn, nn, nn, nn, nn, nn, nn, nn, nn, nn] rfl rfl (any_of HT_.out (by kernel_rfl)) (fun _ _ _ h => h) (Or.inr ⟨by rfl, rfl⟩) ?_ ?_
             rotate_left; (· simp only [Act.put, List.setIfInBounds_toArray, List.set_cons_zero, List.set_cons_succ, i64_w, i32_w]; rfl)
             refine pure_ (i := 26) (N := some 145) (v := undef) (a' := ?_) #[yy, yy, yy, yy, yy, yy, yy, yy, yy, yy, yy, yy, yy, yy, yy, yy, yy, yy, yy, yy, yy, yy, yy, yy, yy, yy, yy, nn, nn, nn, nn, nn, nn, nn, nn, nn, nn, nn, nn, nn] rfl rfl (any_of HT_.out (by kernel_rfl)) (fun _ _ _ h => h) (Or.inr ⟨by rfl, rfl⟩) ?_ ?_
             rotate_left; (· simp only [Act.put, List.setIfInBounds_toArray, List.set_cons_zero, List.set_cons_succ, i64_w, i32_w]; rfl)
             refine pure_ (i := 27) (N := some 146) (v := undef) (a' := ?_) #[yy, yy, yy, yy, yy, yy, yy, yy, yy, yy, yy, yy, yy, yy, yy, yy, yy, yy, yy, yy, yy, yy, yy, yy, yy, yy, yy, yy, nn, nn, nn, nn, nn, nn, nn, nn, nn, nn, nn, nn] rfl rfl (any_of HT_.out (by kernel_rfl)) (fun _ _ _ h => h) (Or.inr ⟨by rfl, rfl⟩) ?_ ?_
             rotate_left; (· simp only [Act.put, List.setIfInBounds_toArray, List.set_cons_zero, List.set_cons_succ, i64_w, i32_w]; rfl)
             refine pure_ (i := 28) (N := some 147) (v := ?_) (a' := ?_) #[yy, yy, yy, yy, yy, yy, yy, yy, yy, yy, yy, yy, yy, yy, yy, yy, yy, yy, yy, yy, yy, yy, yy, yy, yy, yy, yy, yy, yy, nn, nn, nn, nn, nn, nn, nn, nn, nn, nn, nn] rfl rfl (any_of HT_.out (by kernel_rfl)) (fun _ _ _ h => h) (Or.inl ⟨by rfl, ?_⟩) ?_ ?_
             rotate_left; (· intro w'; go_simp; with_reducible rfl)
             rotate_left; (· simp only [Act.put, List.setIfInBounds_toArray, List.set_cons_zero, List.set_cons_succ, i64_w, i32_w]; rfl)
             refine pure_ (i := 29) (N := some 148) (v := ?_) (a' := ?_) #[yy, yy, yy, yy, yy, yy, yy, yy, yy, yy, yy, yy, yy, yy, yy, yy, yy, yy, yy, yy, yy, yy, yy, yy, yy, yy, yy, yy, yy, yy, nn, nn, nn, nn, nn, nn, nn, nn, nn, nn] rfl rfl (any_of HT_.out (by kernel_rfl)) (fun _ _ _ h => h) (Or.inl ⟨by rfl, ?_⟩) ?_ ?_
             rotate_left; (· intro w'; go_simp; with_reducible rfl)
             rotate_left; (· simp only [Act.put, List.setIfInBounds_toArray, List.set_cons_zero, List.set_cons_succ, i64_w, i32_w]; rfl)
             refine pure_ (i := 30) (N := some 149) (v := undef) (a' := ?_) #[yy, yy, yy, yy, yy, yy, yy, yy, yy, yy, yy, yy, yy, yy, yy, yy, yy, yy, yy, yy, yy, yy, yy, yy, yy, yy, yy, yy, yy, yy, yy, nn, nn, nn, nn, nn, nn, nn, nn, nn] rfl rfl (any_of HT_.out (by kernel_rfl)) (fun _ _ _ h => h) (Or.inr ⟨by rfl, rfl⟩) ?_ ?_
             rotate_left; (· simp only [Act.put, List.setIfInBounds_toArray, List.set_cons_zero, List.set_cons_succ, i64_w, i32_w]; rfl)
             refine pure_ (i := 31) (N := some 150) (v := undef) (a' := ?_) #[yy, yy, yy, yy, yy, yy, yy, yy, yy, yy, yy, yy, yy, yy, yy, yy, yy, yy, yy, yy, yy, yy, yy, yy, yy, yy, yy, yy, yy, yy, yy, yy, nn, nn, nn, nn, nn, nn, nn, nn] rfl rfl (any_of HT_.out (by kernel_rfl)) (fun _ _ _ h => h) (Or.inr ⟨by rfl, rfl⟩) ?_ ?_
             rotate_left; (· simp only [Act.put, List.setIfInBounds_toArray, List.set_cons_zero, List.set_cons_succ, i64_w, i32_w]; rfl)
             refine pure_ (i := 32) (N := some 151) (v := undef) (a' := ?_) #[yy, yy, yy, yy, yy, yy, yy, yy, yy, yy, yy, yy, yy, yy, yy, yy, yy, yy, yy, yy, yy, yy, yy, yy, yy, yy, yy, yy, yy, yy, yy, yy, yy, nn, nn, nn, nn, nn, nn, nn] rfl rfl (any_of HT_.out (by kernel_rfl)) (fun _ _ _ h => h) (Or.inr ⟨by rfl, rfl⟩) ?_ ?_
             rotate_left; (· simp only [Act.put, List.setIfInBounds_toArray, List.set_cons_zero, List.set_cons_succ, i64_w, i32_w]; rfl)
             refine pure_ (i := 33) (N := some 152) (v := undef) (a' := ?_) #[yy, yy, yy, yy, yy, yy, yy, yy, yy, yy, yy, yy, yy, yy, yy, yy, yy, yy, yy, yy, yy, yy, yy, yy, yy, yy, yy, yy, yy, yy, yy, yy, yy, yy, nn, nn, nn, nn, nn, nn] rfl rfl (any_of HT_.out (by kernel_rfl)) (fun _ _ _ h => h) (Or.inr ⟨by rfl, rfl⟩) ?_ ?_
             rotate_left; (· simp only [Act.put, List.setIfInBounds_toArray, List.set_cons_zero, List.set_cons_succ, i64_w, i32_w]; rfl)
             refine pure_ (i := 34) (N := some 153) (v := undef) (a' := ?_) #[yy, yy, yy, yy, yy, yy, yy, yy, yy, yy, yy, yy, yy, yy, yy, yy, yy, yy, yy, yy, yy, yy, yy, yy, yy, yy, yy, yy, yy, yy, yy, yy, yy, yy, yy, nn, nn, nn, nn, nn] rfl rfl (any_of HT_.out (by kernel_rfl)) (fun _ _ _ h => h) (Or.inr ⟨by rfl, rfl⟩) ?_ ?_
             rotate_left; (· simp only [Act.put, List.setIfInBounds_toArray, List.set_cons_zero, List.set_cons_succ, i64_w, i32_w]; rfl)
             refine pure_ (i := 35) (N := some 154) (v := undef) (a' := ?_) #[yy, yy, yy, yy, yy, yy, yy, yy, yy, yy, yy, yy, yy, yy, yy, yy, yy, yy, yy, yy, yy, yy, yy, yy, yy, yy, yy, yy, yy, yy, yy, yy, yy, yy, yy, yy, nn, nn, nn, nn] rfl rfl (any_of HT_.out (by kernel_rfl)) (fun _ _ _ h => h) (Or.inr ⟨by rfl, rfl⟩) ?_ ?_
             rotate_left; (· simp only [Act.put, List.setIfInBounds_toArray, List.set_cons_zero, List.set_cons_succ, i64_w, i32_w]; rfl)
             refine pure_ (i := 36) (N := some 155) (v := undef) (a' := ?_) #[yy, yy, yy, yy, yy, yy, yy, yy, yy, yy, yy, yy, yy, yy, yy, yy, yy, yy, yy, yy, yy, yy, yy, yy, yy, yy, yy, yy, yy, yy, yy, yy, yy, yy, yy, yy, yy, nn, nn, nn] rfl rfl (any_of HT_.out (by kernel_rfl)) (fun _ _ _ h => h) (Or.inr ⟨by rfl, rfl⟩) ?_ ?_
             rotate_left; (· simp only [Act.put, List.setIfInBounds_toArray, List.set_cons_zero, List.set_cons_succ, i64_w, i32_w]; rfl)
             refine pure_ (i := 37) (N := some 156) (v := undef) (a' := ?_) #[yy, yy, yy, yy, yy, yy, yy, yy, yy, yy, yy, yy, yy, yy, yy, yy, yy, yy, yy, yy, yy, yy, yy, yy, yy, yy, yy, yy, yy, yy, yy, yy, yy, yy, yy, yy, yy, yy, nn, nn] rfl rfl (any_of HT_.out (by kernel_rfl)) (fun _ _ _ h => h) (Or.inr ⟨by rfl, rfl⟩) ?_ ?_
             rotate_left; (· simp only [Act.put, List.setIfInBounds_toArray, List.set_cons_zero, List.set_cons_succ, i64_w, i32_w]; rfl)
             refine pure_ (i := 38) (N := some 157) (v := ?_) (a' := ?_) #[yy, yy, yy, yy, yy, yy, yy, yy, yy, yy, yy, yy, yy, yy, yy, yy, yy, yy, yy, yy, yy, yy, yy, yy, yy, yy, yy, yy, yy, yy, yy, yy, yy, yy, yy, yy, yy, yy, yy, nn] rfl rfl (any_of HT_.out (by kernel_rfl)) (fun _ _ _ h => h) (Or.inl ⟨by rfl, ?_⟩) ?_ ?_
             rotate_left; (· intro w'; go_simp; with_reducible rfl)
             rotate_left; (· simp only [Act.put, List.setIfInBounds_toArray, List.set_cons_zero, List.set_cons_succ, i64_w, i32_w]; rfl)
             refine pure_ (i := 39) (N := some 158) (v := ?_) (a' := ?_) #[yy, yy, yy, yy, yy, yy, yy, yy, yy, yy, yy, yy, yy, yy, yy, yy, yy, yy, yy, yy, yy, yy, yy, yy, yy, yy, yy, yy, yy, yy, yy, yy, yy, yy, yy, yy, yy, yy, yy, yy] rfl rfl (any_of HT_.out (by kernel_rfl)) (fun _ _ _ h => h) (Or.inl ⟨by rfl, ?_⟩) ?_ ?_
             rotate_left; (· intro w'; go_simp; with_reducible rfl)
             rotate_left; (· simp only [Act.put, List.setIfInBounds_toArray, List.set_cons_zero, List.set_cons_succ, i64_w, i32_w]; rfl)
             refine done_ (done_of HT_.out (by kernel_rfl)) ?_
             try go_wp2
             go_roundg k2
             case measure => have := HK1.out; have := HK2.out; omega
             case rel => exact ⟨(wrap64 (x115_2 + 1)), (by first | rfl | (simp; done) | (simp [*]; done)), H', ⟨by have := HK1.out; have := HK2.out; omega⟩, ⟨by (with_reducible repeat (first | apply Kd.R_alloc | apply Kd.R_drewN | apply Kd.R_drew)); exact HO_5.out⟩, ⟨by repeat (first | (with_reducible first | exact HB.out | apply below_alloc | apply pw_below_drewN | apply below_drew1 | refine below_set ?_ GE145.out) | exact HB.out)⟩⟩
          ·
           rw [if_neg c41] at H
           have c41b0 : decide (x115_2 < (l1.length : Int)) = false := decide_eq_false c41
           clear c41
           replace H := Option.bind_eq_some_iff.mp H
           obtain ⟨t154, A860, H⟩ := H
           replace H : (some t154) = some r := H
           have A86 := Aside0.mk A860
           clear A860
           obtain rfl := Option.some.inj H
           go_wp2_with (first | ((with_reducible refine gate_callee (f := 10) rfl ?_); refine goesL_ (some 160) rfl rfl Try.func10 (by kernel_rfl) rfl #[] rfl (by (try simp only [List.map_toArray, List.map_cons, List.map_nil]); first | done | rfl | (simp only [List.length_drop, List.length_take]; rfl)) ?_; (with_reducible refine (assessorlaw09_awake.calls  t154 _ A86.out).mono ?_); rintro e w87 ⟨rfl, hb⟩; refine ⟨_, rfl, ?_⟩; have n0_ := Aside0.mk (Kd.R_below (by (with_reducible repeat (first | apply Kd.R_alloc | apply Kd.R_drewN | apply Kd.R_drew)); exact HO_5.out) hb); have n1_ := Aside0.mk (below_step (by repeat (first | (with_reducible first | exact HB.out | apply below_alloc | apply pw_below_drewN | apply below_drew1) | exact HB.out)) hb); clear HO_5; clear HB; have HO_5 := n0_; have HB := n1_; clear n0_ n1_; (try clear hb); (try clear hb2); (try clear hk); (try clear hi)))
           go_ret
           exact ⟨by first | rfl | (simp [errW_none, errW_some] <;> rfl) | (simp [*, errW_none, errW_some] <;> rfl), by repeat (first | (with_reducible first | exact HB.out | apply below_alloc | apply pw_below_drewN | apply below_drew1) | exact HB.out)⟩
    ·
     rw [if_neg c9] at H
     have c9b0 : ((t117.length : Int) == a0) = false := beq_eq_false_iff_ne.mpr c9
     have c9b1 : ((t117.length : Int) != a0) = true := bne_iff_ne.mpr c9
     obtain rfl := Option.some.inj H
     exact absurd HTru_.out (by decide)
   ·
    rw [if_neg c8] at H
    have c8b0 : (t119 == 0) = false := beq_eq_false_iff_ne.mpr c8
    have c8b1 : (t119 != 0) = true := bne_iff_ne.mpr c8
    have c8t : t124 = false := by rw [c8b0] at c7b0; simpa using c7b0
    by_cases c88 : (wrap64 ((t117.length : Int) + (t118.length : Int))) = 0
    ·
     rw [if_pos c88] at H
     have c88b0 : ((wrap64 ((t117.length : Int) + (t118.length : Int))) == 0) = true := beq_iff_eq.mpr c88
     have c88b1 : ((wrap64 ((t117.length : Int) + (t118.length : Int))) != 0) = false := bne_eq_false_iff_eq.mpr c88
     clear c88
     replace H := Option.bind_eq_some_iff.mp H
     obtain ⟨t125, A890, H⟩ := H
     replace H : (some t125) = some r := H
     have A89 := Aside0.mk A890
     clear A890
     obtain rfl := Option.some.inj H
     go_enter Try.func4, Try.ntmps4
     go_wp2_with (first | ((with_reducible refine gate_callee (f := 11) rfl ?_); refine goesL_ (some 20) rfl rfl Try.func11 (by kernel_rfl) rfl #[.int .i64 a0, .slice A1 l1.length c1] rfl (by (try simp only [List.map_toArray, List.map_cons, List.map_nil]); first | done | rfl | (simp only [List.length_drop, List.length_take]; rfl)) ?_; (with_reducible refine (assessorlaw09_few.calls a0 _ _ l1 true _ ?side1 ?side2 A3.out).mono ?_); (case side1 => repeat (first | exact HR1.out | (with_reducible refine Kd.C_alloc ?_ _) | (with_reducible refine Kd.C_drewN ?_ _) | (with_reducible refine Kd.C_drew ?_))); (case side2 => exact HC1.out); rintro e w' ⟨rfl, ⟨nd, rfl⟩⟩; refine ⟨_, rfl, ?_⟩) | ((with_reducible refine gate_callee (f := 12) rfl ?_); refine goesL_ (some 26) rfl rfl Try.func12 (by kernel_rfl) rfl #[.int .i64 a0, .slice A1 l1.length c1] rfl (by (try simp only [List.map_toArray, List.map_cons, List.map_nil]); first | done | rfl | (simp only [List.length_drop, List.length_take]; rfl)) ?_; (with_reducible refine (constraints_Solve.calls a0 _ _ l1 t117 t118 t119 _ ?side1 ?side2 A5.out).mono ?_); (case side1 => repeat (first | exact HR1.out | (with_reducible refine Kd.C_alloc ?_ _) | (with_reducible refine Kd.C_drewN ?_ _) | (with_reducible refine Kd.C_drew ?_))); (case side2 => exact HC1.out); rintro e w90 ⟨v120, v122, rfl, ho0, ho1, hb⟩; refine ⟨_, rfl, ?_⟩; have n0_ := Aside0.mk (Kd.R_lower ho0 (below_size (by repeat (first | (with_reducible first | exact HB.out | apply below_alloc | apply pw_below_drewN | apply below_drew1) | exact HB.out)))); have n1_ := Aside0.mk (Kd.R_lower ho1 (below_size (by repeat (first | (with_reducible first | exact HB.out | apply below_alloc | apply pw_below_drewN | apply below_drew1) | exact HB.out)))); have n2_ := Aside0.mk (below_step (by repeat (first | (with_reducible first | exact HB.out | apply below_alloc | apply pw_below_drewN | apply below_drew1) | exact HB.out)) hb); clear HB; have HO121 := n0_; have HO123 := n1_; have HB := n2_; clear n0_ n1_ n2_; (try clear hb); (try clear hb2); (try clear hk); (try clear hi); (try clear ho0); (try clear ho1)) | ((with_reducible refine gate_callee (f := 13) rfl ?_); refine goesL_ (some 34) rfl rfl Try.func13 (by kernel_rfl) rfl #[.int .i64 a0, .slice A1 l1.length c1] rfl (by (try simp only [List.map_toArray, List.map_cons, List.map_nil]); first | done | rfl | (simp only [List.length_drop, List.length_take]; rfl)) ?_; (with_reducible refine (assessorref09_Fits.calls k a0 _ _ l1 t124 _ ?side1 ?side2 A6.out).mono ?_); (case side1 => repeat (first | exact (Kd.C_below HR1.out HB.out) | (with_reducible refine Kd.C_alloc ?_ _) | (with_reducible refine Kd.C_drewN ?_ _) | (with_reducible refine Kd.C_drew ?_))); (case side2 => exact HC1.out); rintro e w91 ⟨rfl, hb⟩; refine ⟨_, rfl, ?_⟩; have n0_ := Aside0.mk (Kd.R_below (by (with_reducible repeat (first | apply Kd.R_alloc | apply Kd.R_drewN | apply Kd.R_drew)); exact HO121.out) hb); have n1_ := Aside0.mk (Kd.R_below (by (with_reducible repeat (first | apply Kd.R_alloc | apply Kd.R_drewN | apply Kd.R_drew)); exact HO123.out) hb); have n2_ := Aside0.mk (below_step (by repeat (first | (with_reducible first | exact HB.out | apply below_alloc | apply pw_below_drewN | apply below_drew1) | exact HB.out)) hb); clear HO121; clear HO123; clear HB; have HO121 := n0_; have HO123 := n1_; have HB := n2_; clear n0_ n1_ n2_; (try clear hb); (try clear hb2); (try clear hk); (try clear hi); obtain ⟨Ao92, co92, eo92⟩ := Kd.R_slice HO121.out; subst eo92; obtain ⟨Ao93, co93, eo93⟩ := Kd.R_slice HO123.out; subst eo93) | (go_at_call 10; (with_reducible refine (assessorlaw09_awake.calls  t125 _ A89.out).mono ?_); rintro e w94 ⟨rfl, hb⟩; have n0_ := Aside0.mk (Kd.R_below (by (with_reducible repeat (first | apply Kd.R_alloc | apply Kd.R_drewN | apply Kd.R_drew)); exact HO121.out) hb); have n1_ := Aside0.mk (Kd.R_below (by (with_reducible repeat (first | apply Kd.R_alloc | apply Kd.R_drewN | apply Kd.R_drew)); exact HO123.out) hb); have n2_ := Aside0.mk (below_step (by repeat (first | (with_reducible first | exact HB.out | apply below_alloc | apply pw_below_drewN | apply below_drew1) | exact HB.out)) hb); clear HO121; clear HO123; clear HB; have HO121 := n0_; have HO123 := n1_; have HB := n2_; clear n0_ n1_ n2_; (try clear hb); (try clear hb2); (try clear hk); (try clear hi)))
     go_ret
     exact ⟨by first | rfl | (simp [errW_none, errW_some] <;> rfl) | (simp [*, errW_none, errW_some] <;> rfl), by repeat (first | (with_reducible first | exact HB.out | apply below_alloc | apply pw_below_drewN | apply below_drew1) | exact HB.out)⟩
    ·
     rw [if_neg c88] at H
     have c88b0 : ((wrap64 ((t117.length : Int) + (t118.length : Int))) == 0) = false := beq_eq_false_iff_ne.mpr c88
     have c88b1 : ((wrap64 ((t117.length : Int) + (t118.length : Int))) != 0) = true := bne_iff_ne.mpr c88
     obtain rfl := Option.some.inj H
     exact absurd HTru_.out (by decide)
 ·
  replace c4 := Bool.eq_false_iff.mpr c4
  subst c4
  have H1 : ((assessorlaw09_awake.f).bind fun t116 => (some t116)) = some r := by rw [if_neg (show ¬ (false = true) by decide)] at H; exact H
  clear H
  have H := H1
  clear H1
  replace H := Option.bind_eq_some_iff.mp H
  obtain ⟨t116, A950, H⟩ := H
  replace H : (some t116) = some r := H
  have A95 := Aside0.mk A950
  clear A950
  obtain rfl := Option.some.inj H
  go_enter Try.func4, Try.ntmps4
  go_wp2_with (first | ((with_reducible refine gate_callee (f := 11) rfl ?_); refine goesL_ (some 20) rfl rfl Try.func11 (by kernel_rfl) rfl #[.int .i64 a0, .slice A1 l1.length c1] rfl (by (try simp only [List.map_toArray, List.map_cons, List.map_nil]); first | done | rfl | (simp only [List.length_drop, List.length_take]; rfl)) ?_; (with_reducible refine (assessorlaw09_few.calls a0 _ _ l1 false _ ?side1 ?side2 A3.out).mono ?_); (case side1 => repeat (first | exact HR1.out | (with_reducible refine Kd.C_alloc ?_ _) | (with_reducible refine Kd.C_drewN ?_ _) | (with_reducible refine Kd.C_drew ?_))); (case side2 => exact HC1.out); rintro e w' ⟨rfl, ⟨nd, rfl⟩⟩; refine ⟨_, rfl, ?_⟩) | ((with_reducible refine gate_callee (f := 10) rfl ?_); refine goesL_ (some 22) rfl rfl Try.func10 (by kernel_rfl) rfl #[] rfl (by (try simp only [List.map_toArray, List.map_cons, List.map_nil]); first | done | rfl | (simp only [List.length_drop, List.length_take]; rfl)) ?_; (with_reducible refine (assessorlaw09_awake.calls  t116 _ A95.out).mono ?_); rintro e w96 ⟨rfl, hb⟩; refine ⟨_, rfl, ?_⟩; have n0_ := Aside0.mk (below_step (by repeat (first | (with_reducible first | exact HB.out | apply below_alloc | apply pw_below_drewN | apply below_drew1) | exact HB.out)) hb); clear HB; have HB := n0_; clear n0_; (try clear hb); (try clear hb2); (try clear hk); (try clear hi)))
  go_ret
  exact ⟨by first | rfl | (simp [errW_none, errW_some] <;> rfl) | (simp [*, errW_none, errW_some] <;> rfl), by repeat (first | (with_reducible first | exact HB.out | apply below_alloc | apply pw_below_drewN | apply below_drew1) | exact HB.out)⟩

end Go.Proofs.Ytjbafigageingaa.PM
