import Derived.Test.YtjbafigageingaaKgSurr
import Derived.Test.YtjbafigageingaaKgPFx1
import Derived.Test.YtjbafigageingaaProg
import Derived.Test.YtjbafigageingaaKgW
import Derived.Below
import Derived.Deep.Draws
import Derived.Deep.AppendLies
import Derived.Maps.AppendAt
import Derived.OwnWalk
import Derived.Laws.BytesArg
import Derived.Laws.MakeOwn
import Derived.Laws.OwnMore
import Derived.Deep.OwnRows
import Derived.Tactics
import Derived.Lib.ConvBytes
import Derived.Laws.Slices
import Derived.WalkKit
import Derived.KernelRfl
import Derived.RowKit3
import Derived.Deep.LoopGhost
import Derived.Deep.QuietTactic
import Derived.BigQuiet
import Derived.WideLaws
import Derived.Deep.DeepCutAuto
import Derived.Deep.CutBlock
import Derived.Deep.RegionHeld3
import Derived.Laws.Rows
import Derived.Lib.AppendStr
import Derived.ArgAppend
import Derived.Laws.IdiomCopy
import Derived.OrdersHeld
import Derived.Laws.BitsLemmas
import Derived.RowKit
namespace Go.Proofs.Ytjbafigageingaa.PL
open Go.Proofs.Ytjbafigageingaa.PR Go.Proofs.Ytjbafigageingaa.PF
open Go.RowKit Go.Proofs.YtjbafigageingaaW.PrintWords Go.Proofs.YtjbafigageingaaW.PrintLast Go.Proofs.YtjbafigageingaaW.PrintMore
attribute [local go_sem] max2_int min2_int max_two min_two max_three min_three max_four min_four
set_option linter.unusedVariables false
set_option linter.unusedSimpArgs false

mutual
def assessorlaw09_ConstraintsGrow.j0 : Nat → Int → List (S36) → Bool → Option (Bool)
 | 0, _, _, _ => none
 | k + 1, x0, x1, x25 => if x25 = true then ((assessorlaw09_awake.f).bind fun t140 => (some t140)) else ((constraints_Solve.f x0 x1).bind fun bt141 => (if 0 ≤ (wrap64 ((x1.length : Int) - 1)) then (if (wrap64 ((x1.length : Int) - 1)) ≤ (x1.length : Int) then ((constraints_Solve.f x0 (x1.take ((wrap64 ((x1.length : Int) - 1)) : Int).toNat)).bind fun bt152 => ((assessorref09_Fits.f k x0 x1).bind fun t159 => (if t159 = true then (if bt141.2.2 = 0 then (assessorlaw09_ConstraintsGrow.j1 k x0 x1 bt141.2.1 bt152.2.1 (bt152.2.2 != 0)) else (assessorlaw09_ConstraintsGrow.j1 k x0 x1 bt141.2.1 bt152.2.1 true)) else ((assessorlaw09_awake.f).bind fun t160 => (some t160))))) else (none)) else (none)))
def assessorlaw09_ConstraintsGrow.j1 : Nat → Int → List (S36) → List (List Int) → List (List Int) → Bool → Option (Bool)
 | 0, _, _, _, _, _ => none
 | k + 1, x0, x1, x6, x9, x55 => if x55 = true then (some false) else (assessorlaw09_ConstraintsGrow.l0 k x0 x1 x6 x9 (x9.length : Int) 0)
def assessorlaw09_ConstraintsGrow.l0 : Nat → Int → List (S36) → List (List Int) → List (List Int) → Int → Int → Option (Bool)
 | 0, _, _, _, _, _, _ => none
 | k + 1, x0, x1, x6, x56, x57, x58 => if x58 < x57 then (if 0 ≤ x58 then (if x58 < (x56.length : Int) then ((assessorlaw09_isChain.f x1 (rd_L7 x56 x58)).bind fun t163 => (if t163 = true then (if 0 < ((rd_L7 x56 x58).length : Int) then (if 0 ≤ (rd (rd_L7 x56 x58) 0) then (if (rd (rd_L7 x56 x58) 0) < (x1.length : Int) then ((assessorref09_Connected.f k x0 x1 ((rd_T36 x1 (rd (rd_L7 x56 x58) 0)).f1)).bind fun t166 => (assessorlaw09_ConstraintsGrow.l1 k x0 x1 x6 (rd_L7 x56 x58) t166 false x56 x57 x58 x6 (x6.length : Int) 0)) else (none)) else (none)) else (none)) else (some false))) else (none)) else (none)) else ((assessorlaw09_awake.f).bind fun t161 => (some t161))
def assessorlaw09_ConstraintsGrow.l1 : Nat → Int → List (S36) → List (List Int) → List Int → List Bool → Bool → List (List Int) → Int → Int → List (List Int) → Int → Int → Option (Bool)
 | 0, _, _, _, _, _, _, _, _, _, _, _, _ => none
 | k + 1, x0, x1, x6, x12, x13, x14, x56, x57, x58, x76, x77, x78 => if x78 < x77 then (if 0 ≤ x78 then (if x78 < (x76.length : Int) then (if x14 = true then (assessorlaw09_ConstraintsGrow.l1 k x0 x1 x6 x12 x13 true x56 x57 x58 x76 x77 (wrap64 (x78 + 1))) else ((assessorlaw09_isChain.f x1 (rd_L7 x76 x78)).bind fun t170 => (if t170 = true then (if 0 < ((rd_L7 x76 x78).length : Int) then (if 0 ≤ (rd (rd_L7 x76 x78) 0) then (if (rd (rd_L7 x76 x78) 0) < (x1.length : Int) then (if 0 ≤ ((rd_T36 x1 (rd (rd_L7 x76 x78) 0)).f1) then (if ((rd_T36 x1 (rd (rd_L7 x76 x78) 0)).f1) < (x13.length : Int) then (if rdOf false x13 ((rd_T36 x1 (rd (rd_L7 x76 x78) 0)).f1) = true then (assessorlaw09_ConstraintsGrow.l1 k x0 x1 x6 x12 x13 (decide (((rd_L7 x76 x78).length : Int) ≤ (x12.length : Int))) x56 x57 x58 x76 x77 (wrap64 (x78 + 1))) else (assessorlaw09_ConstraintsGrow.l1 k x0 x1 x6 x12 x13 false x56 x57 x58 x76 x77 (wrap64 (x78 + 1)))) else (none)) else (none)) else (none)) else (none)) else (none)) else (assessorlaw09_ConstraintsGrow.l1 k x0 x1 x6 x12 x13 false x56 x57 x58 x76 x77 (wrap64 (x78 + 1)))))) else (none)) else (none)) else (if x14 = true then (assessorlaw09_ConstraintsGrow.l0 k x0 x1 x6 x56 x57 (wrap64 (x58 + 1))) else (some false))
end
def assessorlaw09_ConstraintsGrow.f (k : Nat) (a0 : Int) (l1 : List (S36)) : Option (Bool) := (assessorlaw09_few.f a0 l1).bind fun t139 => (if t139 = true then (assessorlaw09_ConstraintsGrow.j0 k a0 l1 ((l1.length : Int) == 0)) else (assessorlaw09_ConstraintsGrow.j0 k a0 l1 true))
set_option maxHeartbeats 8000000 in
set_option maxRecDepth 100000 in
theorem assessorlaw09_ConstraintsGrow.calls (k : Nat) (a0 : Int) (A1 : Option Addr) (c1 : Nat) (l1 : List (S36)) (r : Bool) (w : World) (hr1 : Kd.C k36 w A1 l1.length l1) (hc1 : l1.length ≤ c1) (h : assessorlaw09_ConstraintsGrow.f k a0 l1 = some r) (ht_ : r = true) :
  Calls Try.prog 5 #[.int .i64 a0, .slice A1 l1.length c1] w fun e w' => e = .returned (.bool r) ∧ Below w.heap.size w w' := by
 have HTru_ := Aside0.mk ht_
 clear ht_
 have HR1 := Aside0.mk hr1
 have HC1 := Aside0.mk hc1
 clear hr1 hc1
 have HB := Aside0.mk (Below.refl w.heap.size w)
 have H : ((assessorlaw09_few.f a0 l1).bind fun t139 => (if t139 = true then (assessorlaw09_ConstraintsGrow.j0 k a0 l1 ((l1.length : Int) == 0)) else (assessorlaw09_ConstraintsGrow.j0 k a0 l1 true))) = some r := h
 clear h
 have HC3 := Aside0.mk H
 clear H
 go_enter Try.func5, Try.ntmps5
 go_upto_region 1 with (fail)
 go_cut [25] (fun v25 wc => ∃ (kq : Nat) (x25_2 : Bool), v25 = .bool x25_2 ∧ Aside0 (assessorlaw09_ConstraintsGrow.j0 kq a0 l1 x25_2 = some r) ∧ Aside0 (kq ≤ k) ∧ Aside0 (Below w.heap.size w wc))
 case first =>
  have H := HC3.out
  clear HC3
  replace H := Option.bind_eq_some_iff.mp H
  obtain ⟨t139, A40, H⟩ := H
  replace H : (if t139 = true then (assessorlaw09_ConstraintsGrow.j0 k a0 l1 ((l1.length : Int) == 0)) else (assessorlaw09_ConstraintsGrow.j0 k a0 l1 true)) = some r := H
  have A4 := Aside0.mk A40
  clear A40
  by_cases c5 : t139 = true
  ·
   subst c5
   have H1 : (assessorlaw09_ConstraintsGrow.j0 k a0 l1 ((l1.length : Int) == 0)) = some r := by rw [if_pos rfl] at H; exact H
   clear H
   have H := H1
   clear H1
   have H' := Aside0.mk H
   clear H
   go_wp2_with (first | ((with_reducible refine gate_callee (f := 11) rfl ?_); refine goesL_ (some 19) rfl rfl Try.func11 (by kernel_rfl) rfl #[.int .i64 a0, .slice A1 l1.length c1] rfl (by (try simp only [List.map_toArray, List.map_cons, List.map_nil]); first | done | rfl | (simp only [List.length_drop, List.length_take]; rfl)) ?_; (with_reducible refine (assessorlaw09_few.calls a0 _ _ l1 true _ ?side1 ?side2 A4.out).mono ?_); (case side1 => repeat (first | exact (Kd.C_below HR1.out HB.out) | (with_reducible refine Kd.C_alloc ?_ _) | (with_reducible refine Kd.C_drewN ?_ _) | (with_reducible refine Kd.C_drew ?_))); (case side2 => exact HC1.out); rintro e w' ⟨rfl, ⟨nd, rfl⟩⟩; refine ⟨_, rfl, ?_⟩))
   go_meet
   case rel => exact ⟨_, (((l1.length : Int) == 0)), (by first | rfl | (simp; done) | (simp [*]; done)), H', ⟨by first | omega | exact Nat.le_refl _⟩, ⟨by repeat (first | (with_reducible first | exact HB.out | apply below_alloc | apply pw_below_drewN | apply below_drew1) | exact HB.out)⟩⟩
  ·
   replace c5 := Bool.eq_false_iff.mpr c5
   subst c5
   have H1 : (assessorlaw09_ConstraintsGrow.j0 k a0 l1 true) = some r := by rw [if_neg (show ¬ (false = true) by decide)] at H; exact H
   clear H
   have H := H1
   clear H1
   have H' := Aside0.mk H
   clear H
   go_wp2_with (first | ((with_reducible refine gate_callee (f := 11) rfl ?_); refine goesL_ (some 19) rfl rfl Try.func11 (by kernel_rfl) rfl #[.int .i64 a0, .slice A1 l1.length c1] rfl (by (try simp only [List.map_toArray, List.map_cons, List.map_nil]); first | done | rfl | (simp only [List.length_drop, List.length_take]; rfl)) ?_; (with_reducible refine (assessorlaw09_few.calls a0 _ _ l1 false _ ?side1 ?side2 A4.out).mono ?_); (case side1 => repeat (first | exact (Kd.C_below HR1.out HB.out) | (with_reducible refine Kd.C_alloc ?_ _) | (with_reducible refine Kd.C_drewN ?_ _) | (with_reducible refine Kd.C_drew ?_))); (case side2 => exact HC1.out); rintro e w' ⟨rfl, ⟨nd, rfl⟩⟩; refine ⟨_, rfl, ?_⟩))
   go_meet
   case rel => exact ⟨_, (true), (by first | rfl | (simp; done) | (simp [*]; done)), H', ⟨by first | omega | exact Nat.le_refl _⟩, ⟨by repeat (first | (with_reducible first | exact HB.out | apply below_alloc | apply pw_below_drewN | apply below_drew1) | exact HB.out)⟩⟩
 case rest =>
  clear HC3
  try clear c1
  try clear p2
  try clear c5
  obtain ⟨kq, x25_2, rfl, HA, HJ2, HB⟩ := hcut
  cases kq with
  | zero => exact absurd HA.out (by simp [assessorlaw09_ConstraintsGrow.j0])
  | succ kj2 =>
   have H := HA.out
   clear HA
   simp only [assessorlaw09_ConstraintsGrow.j0] at H
   by_cases c6 : x25_2 = true
   ·
    subst c6
    have H1 : ((assessorlaw09_awake.f).bind fun t140 => (some t140)) = some r := by rw [if_pos rfl] at H; exact H
    clear H
    have H := H1
    clear H1
    replace H := Option.bind_eq_some_iff.mp H
    obtain ⟨t140, A70, H⟩ := H
    replace H : (some t140) = some r := H
    have A7 := Aside0.mk A70
    clear A70
    obtain rfl := Option.some.inj H
    go_wp2_with (first | ((with_reducible refine gate_callee (f := 10) rfl ?_); refine goesL_ (some 26) rfl rfl Try.func10 (by kernel_rfl) rfl #[] rfl (by (try simp only [List.map_toArray, List.map_cons, List.map_nil]); first | done | rfl | (simp only [List.length_drop, List.length_take]; rfl)) ?_; (with_reducible refine (assessorlaw09_awake.calls  t140 _ A7.out).mono ?_); rintro e w8 ⟨rfl, hb⟩; refine ⟨_, rfl, ?_⟩; have n0_ := Aside0.mk (below_step (by repeat (first | (with_reducible first | exact HB.out | apply below_alloc | apply pw_below_drewN | apply below_drew1) | exact HB.out)) hb); clear HB; have HB := n0_; clear n0_; (try clear hb); (try clear hb2); (try clear hk); (try clear hi)))
    go_ret
    exact ⟨by first | rfl | (simp [errW_none, errW_some] <;> rfl) | (simp [*, errW_none, errW_some] <;> rfl), by repeat (first | (with_reducible first | exact HB.out | apply below_alloc | apply pw_below_drewN | apply below_drew1) | exact HB.out)⟩
   ·
    replace c6 := Bool.eq_false_iff.mpr c6
    subst c6
    have H1 : ((constraints_Solve.f a0 l1).bind fun bt141 => (if 0 ≤ (wrap64 ((l1.length : Int) - 1)) then (if (wrap64 ((l1.length : Int) - 1)) ≤ (l1.length : Int) then ((constraints_Solve.f a0 (l1.take ((wrap64 ((l1.length : Int) - 1)) : Int).toNat)).bind fun bt152 => ((assessorref09_Fits.f kj2 a0 l1).bind fun t159 => (if t159 = true then (if bt141.2.2 = 0 then (assessorlaw09_ConstraintsGrow.j1 kj2 a0 l1 bt141.2.1 bt152.2.1 (bt152.2.2 != 0)) else (assessorlaw09_ConstraintsGrow.j1 kj2 a0 l1 bt141.2.1 bt152.2.1 true)) else ((assessorlaw09_awake.f).bind fun t160 => (some t160))))) else (none)) else (none))) = some r := by rw [if_neg (show ¬ (false = true) by decide)] at H; exact H
    clear H
    have H := H1
    clear H1
    replace H := Option.bind_eq_some_iff.mp H
    obtain ⟨⟨t141, t142, t143⟩, A90, H⟩ := H
    replace H : (if 0 ≤ (wrap64 ((l1.length : Int) - 1)) then (if (wrap64 ((l1.length : Int) - 1)) ≤ (l1.length : Int) then ((constraints_Solve.f a0 (l1.take ((wrap64 ((l1.length : Int) - 1)) : Int).toNat)).bind fun bt152 => ((assessorref09_Fits.f kj2 a0 l1).bind fun t159 => (if t159 = true then (if t143 = 0 then (assessorlaw09_ConstraintsGrow.j1 kj2 a0 l1 t142 bt152.2.1 (bt152.2.2 != 0)) else (assessorlaw09_ConstraintsGrow.j1 kj2 a0 l1 t142 bt152.2.1 true)) else ((assessorlaw09_awake.f).bind fun t160 => (some t160))))) else (none)) else (none)) = some r := H
    have A9 := Aside0.mk A90
    clear A90
    obtain ⟨ji10, hji10⟩ : ∃ j_ : Int, (wrap64 ((l1.length : Int) - 1)) = j_ := ⟨_, rfl⟩
    replace H : (if 0 ≤ (ji10) then (if (ji10) ≤ (l1.length : Int) then ((constraints_Solve.f a0 (l1.take ((ji10) : Int).toNat)).bind fun bt152 => ((assessorref09_Fits.f kj2 a0 l1).bind fun t159 => (if t159 = true then (if t143 = 0 then (assessorlaw09_ConstraintsGrow.j1 kj2 a0 l1 t142 bt152.2.1 (bt152.2.2 != 0)) else (assessorlaw09_ConstraintsGrow.j1 kj2 a0 l1 t142 bt152.2.1 true)) else ((assessorlaw09_awake.f).bind fun t160 => (some t160))))) else (none)) else (none)) = some r := by first | (rw [hji10] at H; exact H) | (simp only [hji10] at H ⊢; exact H)
    (try rw [hji10] at A9)
    have hji10w : (IntKind.i64.wrap ((l1.length : Int) - 1)) = ji10 := (i64_w _).trans hji10
    by_cases c11 : 0 ≤ (ji10)
    ·
     rw [if_pos c11] at H
     have c11b0 := eq_true c11
     have c11b1 : decide (0 ≤ (ji10)) = true := decide_eq_true c11
     clear c11
     by_cases c12 : (ji10) ≤ (l1.length : Int)
     ·
      rw [if_pos c12] at H
      have c12b0 := eq_true c12
      have c12b1 : decide ((ji10) ≤ (l1.length : Int)) = true := decide_eq_true c12
      clear c12
      obtain ⟨y148, hy148⟩ : ∃ y_ : List (S36), y_ = (l1.take ((ji10) : Int).toNat) := ⟨_, rfl⟩
      replace H : ((constraints_Solve.f a0 y148).bind fun bt152 => ((assessorref09_Fits.f kj2 a0 l1).bind fun t159 => (if t159 = true then (if t143 = 0 then (assessorlaw09_ConstraintsGrow.j1 kj2 a0 l1 t142 bt152.2.1 (bt152.2.2 != 0)) else (assessorlaw09_ConstraintsGrow.j1 kj2 a0 l1 t142 bt152.2.1 true)) else ((assessorlaw09_awake.f).bind fun t160 => (some t160))))) = some r := by first | (rw [hy148]; with_reducible exact H) | (have H2_ := (Option.bind_some _ _).symm.trans H; rw [hy148]; with_reducible exact H2_) | (have H2_ := (Option.bind_some _ _).symm.trans H; with_reducible exact H2_) | with_reducible exact H | (rw [hy148]; exact H) | exact H
      have Ny148 := Aside0.mk hy148
      clear hy148
      replace H := Option.bind_eq_some_iff.mp H
      obtain ⟨⟨t152, t153, t154⟩, A130, H⟩ := H
      replace H : ((assessorref09_Fits.f kj2 a0 l1).bind fun t159 => (if t159 = true then (if t143 = 0 then (assessorlaw09_ConstraintsGrow.j1 kj2 a0 l1 t142 t153 (t154 != 0)) else (assessorlaw09_ConstraintsGrow.j1 kj2 a0 l1 t142 t153 true)) else ((assessorlaw09_awake.f).bind fun t160 => (some t160)))) = some r := H
      have A13 := Aside0.mk A130
      clear A130
      replace H := Option.bind_eq_some_iff.mp H
      obtain ⟨t159, A140, H⟩ := H
      replace H : (if t159 = true then (if t143 = 0 then (assessorlaw09_ConstraintsGrow.j1 kj2 a0 l1 t142 t153 (t154 != 0)) else (assessorlaw09_ConstraintsGrow.j1 kj2 a0 l1 t142 t153 true)) else ((assessorlaw09_awake.f).bind fun t160 => (some t160))) = some r := H
      have A14 := Aside0.mk A140
      clear A140
      by_cases c15 : t159 = true
      ·
       subst c15
       have H1 : (if t143 = 0 then (assessorlaw09_ConstraintsGrow.j1 kj2 a0 l1 t142 t153 (t154 != 0)) else (assessorlaw09_ConstraintsGrow.j1 kj2 a0 l1 t142 t153 true)) = some r := by rw [if_pos rfl] at H; exact H
       clear H
       have H := H1
       clear H1
       have HC16 := Aside0.mk H
       clear H
       go_upto_region 7 with (first | ((with_reducible refine gate_callee (f := 12) rfl ?_); refine goesL_ (some 30) rfl rfl Try.func12 (by kernel_rfl) rfl #[.int .i64 a0, .slice A1 l1.length c1] rfl (by (try simp only [List.map_toArray, List.map_cons, List.map_nil]); first | done | rfl | (simp only [List.length_drop, List.length_take]; rfl)) ?_; (with_reducible refine (constraints_Solve.calls a0 _ _ l1 t141 t142 t143 _ ?side1 ?side2 A9.out).mono ?_); (case side1 => repeat (first | exact (Kd.C_below HR1.out HB.out) | (with_reducible refine Kd.C_alloc ?_ _) | (with_reducible refine Kd.C_drewN ?_ _) | (with_reducible refine Kd.C_drew ?_))); (case side2 => exact HC1.out); rintro e w17 ⟨v144, v146, rfl, ho0, ho1, hb⟩; refine ⟨_, rfl, ?_⟩; have n0_ := Aside0.mk (Kd.R_lower ho0 (below_size (by repeat (first | (with_reducible first | exact HB.out | apply below_alloc | apply pw_below_drewN | apply below_drew1) | exact HB.out)))); have n1_ := Aside0.mk (Kd.R_lower ho1 (below_size (by repeat (first | (with_reducible first | exact HB.out | apply below_alloc | apply pw_below_drewN | apply below_drew1) | exact HB.out)))); have n2_ := Aside0.mk (below_step (by repeat (first | (with_reducible first | exact HB.out | apply below_alloc | apply pw_below_drewN | apply below_drew1) | exact HB.out)) hb); clear HB; have HO145 := n0_; have HO147 := n1_; have HB := n2_; clear n0_ n1_ n2_; (try clear hb); (try clear hb2); (try clear hk); (try clear hi); (try clear ho0); (try clear ho1); have q18 : ((ji10) : Int) ≤ ((l1.length : Int) : Int) := of_decide_eq_true (by first | (with_reducible assumption) | assumption); obtain ⟨i018, hi018, _, hsz18, _⟩ := info_parts info36; have hroom18 : l1.length ≤ c1 := HC1.out; have hC18 : Kd.C k36 _ A1 l1.length l1 := HR1.out; have hcut18 := cut_to (P := Try.prog) 26 36 .i64 Try.underlying26 hi018 A1 l1.length c1 (ji10) (of_decide_eq_true (by first | (with_reducible assumption) | assumption)) q18 hroom18; have hr18 := Kd.C_take (m := ((ji10) : Int).toNat) hC18 (by omega); have hy18 : y148.length = ((ji10) : Int).toNat := (by rw [Ny148.out, List.length_take]; omega); rw [← Ny148.out] at hr18; rw [← hy18] at hcut18; have HR151 := Aside0.mk hr18; have HC151 := Aside0.mk (show y148.length ≤ c1 from by omega); clear hr18 hC18 hroom18 hi018 hsz18; have KY18 := Aside0.mk hy18; clear hy18; replace q18 := eq_true q18) | ((with_reducible refine gate_callee (f := 12) rfl ?_); refine goesL_ (some 41) rfl rfl Try.func12 (by kernel_rfl) rfl #[.int .i64 a0, .slice A1 y148.length c1] rfl (by (try simp only [List.map_toArray, List.map_cons, List.map_nil]); first | done | rfl | (simp only [List.length_drop, List.length_take]; rfl)) ?_; (with_reducible refine (constraints_Solve.calls a0 _ _ y148 t152 t153 t154 _ ?side1 ?side2 A13.out).mono ?_); (case side1 => repeat (first | exact (Kd.C_below HR151.out HB.out) | (with_reducible refine Kd.C_alloc ?_ _) | (with_reducible refine Kd.C_drewN ?_ _) | (with_reducible refine Kd.C_drew ?_))); (case side2 => exact HC151.out); rintro e w19 ⟨v155, v157, rfl, ho0, ho1, hb⟩; refine ⟨_, rfl, ?_⟩; have n0_ := Aside0.mk (Kd.R_elder' (by (with_reducible repeat (first | apply Kd.R_alloc | apply Kd.R_drewN | apply Kd.R_drew)); exact HO145.out) (Kd.R_base ho0) hb); have n1_ := Aside0.mk (Kd.R_elder' (by (with_reducible repeat (first | apply Kd.R_alloc | apply Kd.R_drewN | apply Kd.R_drew)); exact HO147.out) (Kd.R_base ho1) hb); have n2_ := Aside0.mk (Kd.R_lower (Kd.R_new' ho0 (Kd.R_lt (by (with_reducible repeat (first | apply Kd.R_alloc | apply Kd.R_drewN | apply Kd.R_drew)); exact HO145.out))) (below_size (by repeat (first | (with_reducible first | exact HB.out | apply below_alloc | apply pw_below_drewN | apply below_drew1) | exact HB.out)))); have n3_ := Aside0.mk (Kd.R_lower (Kd.R_new' ho1 (Kd.R_lt (by (with_reducible repeat (first | apply Kd.R_alloc | apply Kd.R_drewN | apply Kd.R_drew)); exact HO147.out))) (below_size (by repeat (first | (with_reducible first | exact HB.out | apply below_alloc | apply pw_below_drewN | apply below_drew1) | exact HB.out)))); have n4_ := Aside0.mk (below_step (by repeat (first | (with_reducible first | exact HB.out | apply below_alloc | apply pw_below_drewN | apply below_drew1) | exact HB.out)) hb); clear HO145; clear HO147; clear HB; have HO145 := n0_; have HO147 := n1_; have HO156 := n2_; have HO158 := n3_; have HB := n4_; clear n0_ n1_ n2_ n3_ n4_; (try clear hb); (try clear hb2); (try clear hk); (try clear hi); (try clear ho0); (try clear ho1)) | ((with_reducible refine gate_callee (f := 13) rfl ?_); refine goesL_ (some 47) rfl rfl Try.func13 (by kernel_rfl) rfl #[.int .i64 a0, .slice A1 l1.length c1] rfl (by (try simp only [List.map_toArray, List.map_cons, List.map_nil]); first | done | rfl | (simp only [List.length_drop, List.length_take]; rfl)) ?_; (with_reducible refine (assessorref09_Fits.calls kj2 a0 _ _ l1 true _ ?side1 ?side2 A14.out).mono ?_); (case side1 => repeat (first | exact (Kd.C_below HR1.out HB.out) | (with_reducible refine Kd.C_alloc ?_ _) | (with_reducible refine Kd.C_drewN ?_ _) | (with_reducible refine Kd.C_drew ?_))); (case side2 => exact HC1.out); rintro e w20 ⟨rfl, hb⟩; refine ⟨_, rfl, ?_⟩; have n0_ := Aside0.mk (Kd.R_below (by (with_reducible repeat (first | apply Kd.R_alloc | apply Kd.R_drewN | apply Kd.R_drew)); exact HO145.out) hb); have n1_ := Aside0.mk (Kd.R_below (by (with_reducible repeat (first | apply Kd.R_alloc | apply Kd.R_drewN | apply Kd.R_drew)); exact HO147.out) hb); have n2_ := Aside0.mk (Kd.R_below (by (with_reducible repeat (first | apply Kd.R_alloc | apply Kd.R_drewN | apply Kd.R_drew)); exact HO156.out) hb); have n3_ := Aside0.mk (Kd.R_below (by (with_reducible repeat (first | apply Kd.R_alloc | apply Kd.R_drewN | apply Kd.R_drew)); exact HO158.out) hb); have n4_ := Aside0.mk (below_step (by repeat (first | (with_reducible first | exact HB.out | apply below_alloc | apply pw_below_drewN | apply below_drew1) | exact HB.out)) hb); clear HO145; clear HO147; clear HO156; clear HO158; clear HB; have HO145 := n0_; have HO147 := n1_; have HO156 := n2_; have HO158 := n3_; have HB := n4_; clear n0_ n1_ n2_ n3_ n4_; (try clear hb); (try clear hb2); (try clear hk); (try clear hi)))
       (try simp only [Act.put, List.setIfInBounds_toArray, List.set_cons_zero, List.set_cons_succ])
       go_cut [55] (fun v55 wc => ∃ (kq : Nat) (x55_15 : Bool), v55 = .bool x55_15 ∧ Aside0 (assessorlaw09_ConstraintsGrow.j1 kq a0 l1 t142 t153 x55_15 = some r) ∧ Aside0 (kq ≤ kj2) ∧ Aside0 (Kd.R (Kd.slice 3 (Kd.int .i64)) 33 wc w.heap.size (fun k_ => some k_ ≠ (v157 : Value).ownBlock) v146 t142) ∧ Aside0 (Kd.R (Kd.slice 3 (Kd.int .i64)) 33 wc w.heap.size (fun k_ => some k_ ≠ (v146 : Value).ownBlock) v157 t153) ∧ Aside0 (Below w.heap.size w wc))
       case first =>
        have H := HC16.out
        clear HC16
        by_cases c21 : t143 = 0
        ·
         rw [if_pos c21] at H
         have c21b0 : (t143 == 0) = true := beq_iff_eq.mpr c21
         have c21b1 : (t143 != 0) = false := bne_eq_false_iff_eq.mpr c21
         clear c21
         (first | rw [c21b0] | (simp only [i64_w, i32_w]; rw [c21b0]) | skip)
         have H' := Aside0.mk H
         clear H
         go_wp2
         go_meet
         case rel => exact ⟨_, ((t154 != 0)), (by first | rfl | (simp; done) | (simp [*]; done)), H', ⟨by have := HJ2.out; first | omega | exact Nat.le_refl _⟩, ⟨by (with_reducible repeat (first | apply Kd.R_alloc | apply Kd.R_drewN | apply Kd.R_drew)); exact Kd.R_mono HO147.out (fun _ hk => hk.2)⟩, ⟨by (with_reducible repeat (first | apply Kd.R_alloc | apply Kd.R_drewN | apply Kd.R_drew)); exact Kd.R_mono HO158.out (fun _ hk => hk.2)⟩, ⟨by repeat (first | (with_reducible first | exact HB.out | apply below_alloc | apply pw_below_drewN | apply below_drew1) | exact HB.out)⟩⟩
        ·
         rw [if_neg c21] at H
         have c21b0 : (t143 == 0) = false := beq_eq_false_iff_ne.mpr c21
         have c21b1 : (t143 != 0) = true := bne_iff_ne.mpr c21
         (first | rw [c21b0] | (simp only [i64_w, i32_w]; rw [c21b0]) | skip)
         have H' := Aside0.mk H
         clear H
         go_wp2
         go_meet
         case rel => exact ⟨_, (true), (by first | rfl | (simp; done) | (simp [*]; done)), H', ⟨by have := HJ2.out; first | omega | exact Nat.le_refl _⟩, ⟨by (with_reducible repeat (first | apply Kd.R_alloc | apply Kd.R_drewN | apply Kd.R_drew)); exact Kd.R_mono HO147.out (fun _ hk => hk.2)⟩, ⟨by (with_reducible repeat (first | apply Kd.R_alloc | apply Kd.R_drewN | apply Kd.R_drew)); exact Kd.R_mono HO158.out (fun _ hk => hk.2)⟩, ⟨by repeat (first | (with_reducible first | exact HB.out | apply below_alloc | apply pw_below_drewN | apply below_drew1) | exact HB.out)⟩⟩
       case rest =>
        clear HC16
        try clear c1
        try clear q1
        try clear c2
        try clear p2
        try clear c5
        try clear c6
        try clear p6
        try clear c10
        try clear c11
        try clear c11b0
        try clear c11b1
        try clear c12
        try clear c12b0
        try clear c12b1
        try clear c13
        try clear c15
        try clear q18
        try clear c21
        try clear c21b0
        try clear c21b1
        try clear p2
        try clear q18
        obtain ⟨kq, x55_15, rfl, HA, HJ15, HO_6, HO_9, HB⟩ := hcut
        cases kq with
        | zero => exact absurd HA.out (by simp [assessorlaw09_ConstraintsGrow.j1])
        | succ kj15 =>
         have H := HA.out
         clear HA
         simp only [assessorlaw09_ConstraintsGrow.j1] at H
         by_cases c22 : x55_15 = true
         ·
          subst c22
          have H1 : (some false) = some r := by rw [if_pos rfl] at H; exact H
          clear H
          have H := H1
          clear H1
          obtain rfl := Option.some.inj H
          exact absurd HTru_.out (by decide)
         ·
          replace c22 := Bool.eq_false_iff.mpr c22
          subst c22
          have H1 : (assessorlaw09_ConstraintsGrow.l0 kj15 a0 l1 t142 t153 (t153.length : Int) 0) = some r := by rw [if_neg (show ¬ (false = true) by decide)] at H; exact H
          clear H
          have H := H1
          clear H1
          have H' := Aside0.mk H
          clear H
          obtain ⟨Ao23, co23, eo23⟩ := Kd.R_slice HO_9.out
          subst eo23
          go_wp2
          go_loopg [58] kj15 (fun kq v58 w' => ∃ (x58_3 : Int), v58 = .int .i64 x58_3 ∧ Aside0 (assessorlaw09_ConstraintsGrow.l0 kq a0 l1 t142 t153 (t153.length : Int) x58_3 = some r) ∧ Aside0 (kq ≤ kj15) ∧ Aside0 (Kd.R (Kd.slice 3 (Kd.int .i64)) 33 w' w.heap.size (fun k_ => some k_ ≠ ((.slice Ao23 t153.length co23) : Value).ownBlock) v146 t142) ∧ Aside0 (Kd.R (Kd.slice 3 (Kd.int .i64)) 33 w' w.heap.size (fun k_ => some k_ ≠ (v146 : Value).ownBlock) (.slice Ao23 t153.length co23) t153) ∧ Aside0 (Below w.heap.size w w'))
          case atStart => exact ⟨(0), (by first | rfl | (simp; done) | (simp [*]; done)), H', ⟨Nat.le_refl _⟩, ⟨by (with_reducible repeat (first | apply Kd.R_alloc | apply Kd.R_drewN | apply Kd.R_drew)); exact HO_6.out⟩, ⟨by (with_reducible repeat (first | apply Kd.R_alloc | apply Kd.R_drewN | apply Kd.R_drew)); exact HO_9.out⟩, ⟨by repeat (first | (with_reducible first | exact HB.out | apply below_alloc | apply pw_below_drewN | apply below_drew1) | exact HB.out)⟩⟩
          case round =>
           clear H'
           try clear c1
           try clear q1
           try clear c2
           try clear p2
           try clear c5
           try clear c6
           try clear p6
           try clear c10
           try clear c11
           try clear c11b0
           try clear c11b1
           try clear c12
           try clear c12b0
           try clear c12b1
           try clear c13
           try clear c15
           try clear q18
           try clear c21
           try clear c21b0
           try clear c21b1
           try clear c22
           try clear p2
           try clear p6
           try clear q1
           try clear q18
           obtain ⟨x58_3, rfl, HA, HK3, HO_6, HO_56, HB⟩ := hrel
           cases gk with
           | zero => exact absurd HA.out (by simp [assessorlaw09_ConstraintsGrow.l0])
           | succ k3 =>
            have H := HA.out
            clear HA
            simp only [assessorlaw09_ConstraintsGrow.l0] at H
            by_cases c24 : x58_3 < (t153.length : Int)
            ·
             rw [if_pos c24] at H
             have c24b0 : decide (x58_3 < (t153.length : Int)) = true := decide_eq_true c24
             clear c24
             by_cases c25 : 0 ≤ x58_3
             ·
              rw [if_pos c25] at H
              have c25b0 : decide (0 ≤ x58_3) = true := decide_eq_true c25
              clear c25
              by_cases c26 : x58_3 < (t153.length : Int)
              ·
               rw [if_pos c26] at H
               have c26b0 : decide (x58_3 < (t153.length : Int)) = true := decide_eq_true c26
               clear c26
               replace H := Option.bind_eq_some_iff.mp H
               obtain ⟨t163, A270, H⟩ := H
               replace H : (if t163 = true then (if 0 < ((rd_L7 t153 x58_3).length : Int) then (if 0 ≤ (rd (rd_L7 t153 x58_3) 0) then (if (rd (rd_L7 t153 x58_3) 0) < (l1.length : Int) then ((assessorref09_Connected.f k3 a0 l1 ((rd_T36 l1 (rd (rd_L7 t153 x58_3) 0)).f1)).bind fun t166 => (assessorlaw09_ConstraintsGrow.l1 k3 a0 l1 t142 (rd_L7 t153 x58_3) t166 false t153 (t153.length : Int) x58_3 t142 (t142.length : Int) 0)) else (none)) else (none)) else (none)) else (some false)) = some r := H
               have A27 := Aside0.mk A270
               clear A270
               by_cases c28 : t163 = true
               ·
                subst c28
                have H1 : (if 0 < ((rd_L7 t153 x58_3).length : Int) then (if 0 ≤ (rd (rd_L7 t153 x58_3) 0) then (if (rd (rd_L7 t153 x58_3) 0) < (l1.length : Int) then ((assessorref09_Connected.f k3 a0 l1 ((rd_T36 l1 (rd (rd_L7 t153 x58_3) 0)).f1)).bind fun t166 => (assessorlaw09_ConstraintsGrow.l1 k3 a0 l1 t142 (rd_L7 t153 x58_3) t166 false t153 (t153.length : Int) x58_3 t142 (t142.length : Int) 0)) else (none)) else (none)) else (none)) = some r := by rw [if_pos rfl] at H; exact H
                clear H
                have H := H1
                clear H1
                by_cases c29 : 0 < ((rd_L7 t153 x58_3).length : Int)
                ·
                 rw [if_pos c29] at H
                 have c29b0 : decide (0 < ((rd_L7 t153 x58_3).length : Int)) = true := decide_eq_true c29
                 have c29b1 : decide (0 < (rd_L7 t153 x58_3).length) = true := decide_eq_true (by omega)
                 clear c29
                 by_cases c30 : 0 ≤ (rd (rd_L7 t153 x58_3) 0)
                 ·
                  rw [if_pos c30] at H
                  have c30b0 : decide (0 ≤ (rd (rd_L7 t153 x58_3) 0)) = true := decide_eq_true c30
                  clear c30
                  by_cases c31 : (rd (rd_L7 t153 x58_3) 0) < (l1.length : Int)
                  ·
                   rw [if_pos c31] at H
                   have c31b0 : decide ((rd (rd_L7 t153 x58_3) 0) < (l1.length : Int)) = true := decide_eq_true c31
                   clear c31
                   replace H := Option.bind_eq_some_iff.mp H
                   obtain ⟨t166, A320, H⟩ := H
                   replace H : (assessorlaw09_ConstraintsGrow.l1 k3 a0 l1 t142 (rd_L7 t153 x58_3) t166 false t153 (t153.length : Int) x58_3 t142 (t142.length : Int) 0) = some r := H
                   have A32 := Aside0.mk A320
                   clear A320
                   have H' := Aside0.mk H
                   clear H
                   have p162 : 0 ≤ (x58_3 : Int) := of_decide_eq_true (by first | (with_reducible assumption) | assumption)
                   have q162 : x58_3 < (t153.length : Int) := of_decide_eq_true (by first | (with_reducible assumption) | assumption)
                   obtain ⟨ad162, A162_0, c162_0, e162, hx162_0, hl162_0, hi162_0⟩ := at_L7 (Kd.R_reads' HO_56.out).2.2 x58_3 p162 q162
                   cases e162
                   obtain ⟨ce162, hce162, hMe162, hcc162⟩ := Kd.R_get HO_56.out [] x58_3 p162 (by first | exact q162 | exact of_decide_eq_true (by first | (with_reducible assumption) | assumption) | (have e_ := (Kd.R_reads' HO_56.out).1; omega))
                   obtain ⟨ve162_0, rfl, ge162_0⟩ := hMe162
                   have hv162_0 := hcc162 0 _ rfl
                   rw [Nat.add_zero, show ((Kd.slice 3 (Kd.int .i64))).sz = 1 from rfl, Nat.mul_one] at hv162_0
                   replace hv162_0 := Option.some.inj (hv162_0.symm.trans hx162_0)
                   rw [hv162_0] at ge162_0
                   have HL162_0 := Aside0.mk (show Kd.R (Kd.int .i64) 3 _ _ _ _ (rd_L7 t153 x58_3) from ge162_0)
                   clear hv162_0 ge162_0
                   clear hcc162 hce162
                   have HR162_0 := Aside0.mk hi162_0
                   have HC162_0 := Aside0.mk hl162_0
                   clear hi162_0 hl162_0
                   replace p162 := eq_true p162
                   replace q162 := eq_true q162
                   go_wp2_with (first | ((with_reducible refine gate_callee (f := 14) rfl ?_); refine goesL_ (some 64) rfl rfl Try.func14 (by kernel_rfl) rfl #[.slice A1 l1.length c1, .slice A162_0 (rd_L7 t153 x58_3).length c162_0] rfl (by (try simp only [List.map_toArray, List.map_cons, List.map_nil]); first | done | rfl | (simp only [List.length_drop, List.length_take]; rfl)) ?_; (with_reducible refine (assessorlaw09_isChain.calls _ _ l1 _ _ (rd_L7 t153 x58_3) true _ ?side1 ?side2 ?side3 ?side4 A27.out).mono ?_); (case side1 => repeat (first | exact (Kd.C_below HR1.out HB.out) | (with_reducible refine Kd.C_alloc ?_ _) | (with_reducible refine Kd.C_drewN ?_ _) | (with_reducible refine Kd.C_drew ?_))); (case side2 => exact HC1.out); (case side3 => repeat (first | exact (by repeat (first | (with_reducible exact HR162_0.out) | (with_reducible refine Kd.C_alloc ?_ _) | (with_reducible refine Kd.C_drewN ?_ _) | (with_reducible refine Kd.C_drew ?_) | exact HR162_0.out)) | (with_reducible refine Kd.C_alloc ?_ _) | (with_reducible refine Kd.C_drewN ?_ _) | (with_reducible refine Kd.C_drew ?_))); (case side4 => exact HC162_0.out); rintro e w33 ⟨rfl, hb⟩; refine ⟨_, rfl, ?_⟩; have n0_ := Aside0.mk (Kd.R_below (by (with_reducible repeat (first | apply Kd.R_alloc | apply Kd.R_drewN | apply Kd.R_drew)); exact HO_6.out) hb); have n1_ := Aside0.mk (Kd.R_below (by (with_reducible repeat (first | apply Kd.R_alloc | apply Kd.R_drewN | apply Kd.R_drew)); exact HO_56.out) hb); have n2_ := Aside0.mk (Kd.R_below (by (with_reducible repeat (first | apply Kd.R_alloc | apply Kd.R_drewN | apply Kd.R_drew)); exact HL162_0.out) hb); have n3_ := Aside0.mk (Kd.C_below (by repeat (first | (with_reducible exact HR162_0.out) | (with_reducible refine Kd.C_alloc ?_ _) | (with_reducible refine Kd.C_drewN ?_ _) | (with_reducible refine Kd.C_drew ?_) | exact HR162_0.out)) hb); have n4_ := Aside0.mk (below_step (by repeat (first | (with_reducible first | exact HB.out | apply below_alloc | apply pw_below_drewN | apply below_drew1) | exact HB.out)) hb); clear HO_6; clear HO_56; clear HL162_0; clear HR162_0; clear HB; have HO_6 := n0_; have HO_56 := n1_; have HL162_0 := n2_; have HR162_0 := n3_; have HB := n4_; clear n0_ n1_ n2_ n3_ n4_; (try clear hb); (try clear hb2); (try clear hk); (try clear hi); have p164 : 0 ≤ (0 : Int) := (by omega); have q164 : 0 < ((rd_L7 t153 x58_3).length : Int) := of_decide_eq_true (by first | (with_reducible assumption) | assumption); obtain ⟨ad164, e164, hx164_0⟩ := Kd.at_int (by repeat (first | (with_reducible exact HR162_0.out) | (with_reducible refine Kd.C_alloc ?_ _) | (with_reducible refine Kd.C_drewN ?_ _) | (with_reducible refine Kd.C_drew ?_) | exact HR162_0.out)) 0 p164 q164; cases e164; have qi164 : (0 < (rd_L7 t153 x58_3).length) = True := eq_true (by omega); (try rw [show ((0 : Int)).toNat = 0 from rfl] at hx164_0); (try rw [Addr.add_zero'] at hx164_0); replace p164 := eq_true p164; replace q164 := eq_true q164; have p165 : 0 ≤ ((rd (rd_L7 t153 x58_3) 0) : Int) := of_decide_eq_true (by first | (with_reducible assumption) | assumption); have q165 : (rd (rd_L7 t153 x58_3) 0) < (l1.length : Int) := of_decide_eq_true (by first | (with_reducible assumption) | assumption); obtain ⟨ad165, e165, hx165_0, hx165_1, hx165_2, hx165_3, hx165_4, hx165_5, hx165_6, hx165_7⟩ := at_T36 HR1.out (rd (rd_L7 t153 x58_3) 0) p165 q165; cases e165; replace hx165_0 := (HB.out.cell (World.block_lt_of_cell? w _ hx165_0)).trans hx165_0; replace hx165_1 := (HB.out.cell (World.block_lt_of_cell? w _ hx165_1)).trans hx165_1; replace hx165_2 := (HB.out.cell (World.block_lt_of_cell? w _ hx165_2)).trans hx165_2; replace hx165_3 := (HB.out.cell (World.block_lt_of_cell? w _ hx165_3)).trans hx165_3; replace hx165_4 := (HB.out.cell (World.block_lt_of_cell? w _ hx165_4)).trans hx165_4; replace hx165_5 := (HB.out.cell (World.block_lt_of_cell? w _ hx165_5)).trans hx165_5; replace hx165_6 := (HB.out.cell (World.block_lt_of_cell? w _ hx165_6)).trans hx165_6; replace hx165_7 := (HB.out.cell (World.block_lt_of_cell? w _ hx165_7)).trans hx165_7; replace p165 := eq_true p165; replace q165 := eq_true q165) | ((with_reducible refine gate_callee (f := 15) rfl ?_); refine goesL_ (some 75) rfl rfl Try.func15 (by kernel_rfl) rfl #[.int .i64 a0, .slice (some ad165) l1.length c1, .int .i64 ((rd_T36 l1 (rd (rd_L7 t153 x58_3) 0)).f1)] rfl (by (try simp only [List.map_toArray, List.map_cons, List.map_nil]); first | done | rfl | (simp only [List.length_drop, List.length_take]; rfl)) ?_; (with_reducible refine (assessorref09_Connected.calls k3 a0 _ _ l1 ((rd_T36 l1 (rd (rd_L7 t153 x58_3) 0)).f1) t166 _ ?side1 ?side2 A32.out).mono ?_); (case side1 => repeat (first | exact (Kd.C_below HR1.out HB.out) | (with_reducible refine Kd.C_alloc ?_ _) | (with_reducible refine Kd.C_drewN ?_ _) | (with_reducible refine Kd.C_drew ?_))); (case side2 => exact HC1.out); rintro e w34 ⟨v167, rfl, ho0, hb⟩; refine ⟨_, rfl, ?_⟩; have n0_ := Aside0.mk (Kd.R_below (by (with_reducible repeat (first | apply Kd.R_alloc | apply Kd.R_drewN | apply Kd.R_drew)); exact HO_6.out) hb); have n1_ := Aside0.mk (Kd.R_below (by (with_reducible repeat (first | apply Kd.R_alloc | apply Kd.R_drewN | apply Kd.R_drew)); exact HO_56.out) hb); have n2_ := Aside0.mk (Kd.R_below (by (with_reducible repeat (first | apply Kd.R_alloc | apply Kd.R_drewN | apply Kd.R_drew)); exact HL162_0.out) hb); have n3_ := Aside0.mk (Kd.R_lower ho0 (below_size (by repeat (first | (with_reducible first | exact HB.out | apply below_alloc | apply pw_below_drewN | apply below_drew1) | exact HB.out)))); have n4_ := Aside0.mk (Kd.C_below (by repeat (first | (with_reducible exact HR162_0.out) | (with_reducible refine Kd.C_alloc ?_ _) | (with_reducible refine Kd.C_drewN ?_ _) | (with_reducible refine Kd.C_drew ?_) | exact HR162_0.out)) hb); have n5_ := Aside0.mk (below_step (by repeat (first | (with_reducible first | exact HB.out | apply below_alloc | apply pw_below_drewN | apply below_drew1) | exact HB.out)) hb); clear HO_6; clear HO_56; clear HL162_0; clear HR162_0; clear HB; have HO_6 := n0_; have HO_56 := n1_; have HL162_0 := n2_; have HO168 := n3_; have HR162_0 := n4_; have HB := n5_; clear n0_ n1_ n2_ n3_ n4_ n5_; (try clear hb); (try clear hb2); (try clear hk); (try clear hi); (try clear ho0); obtain ⟨Ao35, co35, eo35⟩ := Kd.R_slice HO_6.out; subst eo35))
                   go_loopg [14, 78] k3 (fun kq v14 v78 w' => ∃ (x14_4 : Bool) (x78_4 : Int), v14 = .bool x14_4 ∧ v78 = .int .i64 x78_4 ∧ Aside0 (assessorlaw09_ConstraintsGrow.l1 kq a0 l1 t142 (rd_L7 t153 x58_3) t166 x14_4 t153 (t153.length : Int) x58_3 t142 (t142.length : Int) x78_4 = some r) ∧ Aside0 (kq ≤ k3) ∧ Aside0 (Kd.R (Kd.slice 3 (Kd.int .i64)) 33 w' w.heap.size (fun k_ => some k_ ≠ ((.slice (some ad162) t153.length co23) : Value).ownBlock) (.slice Ao35 t142.length co35) t142) ∧ Aside0 (Kd.R Kd.bool 4 w' w.heap.size (fun _ => True) v167 t166) ∧ Aside0 (Kd.R (Kd.slice 3 (Kd.int .i64)) 33 w' w.heap.size (fun k_ => some k_ ≠ ((.slice Ao35 t142.length co35) : Value).ownBlock ∧ some k_ ≠ ((.slice Ao35 t142.length co35) : Value).ownBlock) (.slice (some ad162) t153.length co23) t153) ∧ Aside0 (Kd.R (Kd.slice 3 (Kd.int .i64)) 33 w' w.heap.size (fun k_ => some k_ ≠ ((.slice (some ad162) t153.length co23) : Value).ownBlock) (.slice Ao35 t142.length co35) t142) ∧ Aside0 (Kd.C (Kd.int .i64) w' (some ad164) (rd_L7 t153 x58_3).length (rd_L7 t153 x58_3)) ∧ Aside0 (Below w.heap.size w w'))
                   case atStart => exact ⟨(false), (0), (by first | rfl | (simp; done) | (simp [*]; done)), (by first | rfl | (simp; done) | (simp [*]; done)), H', ⟨Nat.le_refl _⟩, ⟨by (with_reducible repeat (first | apply Kd.R_alloc | apply Kd.R_drewN | apply Kd.R_drew)); exact HO_6.out⟩, ⟨by (with_reducible repeat (first | apply Kd.R_alloc | apply Kd.R_drewN | apply Kd.R_drew)); exact HO168.out⟩, ⟨by (with_reducible repeat (first | apply Kd.R_alloc | apply Kd.R_drewN | apply Kd.R_drew)); exact Kd.R_mono HO_56.out (fun _ hk => ⟨hk, hk⟩)⟩, ⟨by (with_reducible repeat (first | apply Kd.R_alloc | apply Kd.R_drewN | apply Kd.R_drew)); exact HO_6.out⟩, ⟨by repeat (first | (with_reducible exact HR162_0.out) | (with_reducible refine Kd.C_alloc ?_ _) | (with_reducible refine Kd.C_drewN ?_ _) | (with_reducible refine Kd.C_drew ?_) | exact HR162_0.out)⟩, ⟨by repeat (first | (with_reducible first | exact HB.out | apply below_alloc | apply pw_below_drewN | apply below_drew1) | exact HB.out)⟩⟩
                   case round =>
                    clear H'
                    try clear c1
                    try clear p1
                    try clear q1
                    try clear hx1
                    try clear qi1
                    try clear c2
                    try clear p2
                    try clear c3
                    try clear c5
                    try clear c6
                    try clear p6
                    try clear c10
                    try clear c11
                    try clear c11b0
                    try clear c11b1
                    try clear c12
                    try clear c12b0
                    try clear c12b1
                    try clear c13
                    try clear c14
                    try clear c15
                    try clear c16
                    try clear p16
                    try clear q16
                    try clear hx16
                    try clear qi16
                    try clear q18
                    try clear c21
                    try clear c21b0
                    try clear c21b1
                    try clear c22
                    try clear c24
                    try clear c24b0
                    try clear c25
                    try clear c25b0
                    try clear c26
                    try clear c26b0
                    try clear c28
                    try clear c29
                    try clear c29b0
                    try clear c29b1
                    try clear c30
                    try clear c30b0
                    try clear c31
                    try clear c31b0
                    try clear hx162_0
                    try clear hx164_0
                    try clear hx165_0
                    try clear hx165_1
                    try clear hx165_2
                    try clear hx165_3
                    try clear hx165_4
                    try clear hx165_5
                    try clear hx165_6
                    try clear hx165_7
                    try clear p162
                    try clear p164
                    try clear p165
                    try clear p2
                    try clear p6
                    try clear q1
                    try clear q162
                    try clear q164
                    try clear q165
                    try clear q18
                    obtain ⟨x14_4, x78_4, rfl, rfl, HA, HK4, HO_6, HO_13, HO_56, HO_76, HR162_0, HB⟩ := hrel
                    cases gk with
                    | zero => exact absurd HA.out (by simp [assessorlaw09_ConstraintsGrow.l1])
                    | succ k4 =>
                     have H := HA.out
                     clear HA
                     simp only [assessorlaw09_ConstraintsGrow.l1] at H
                     by_cases c36 : x78_4 < (t142.length : Int)
                     ·
                      rw [if_pos c36] at H
                      have c36b0 : decide (x78_4 < (t142.length : Int)) = true := decide_eq_true c36
                      clear c36
                      by_cases c37 : 0 ≤ x78_4
                      ·
                       rw [if_pos c37] at H
                       have c37b0 : decide (0 ≤ x78_4) = true := decide_eq_true c37
                       clear c37
                       by_cases c38 : x78_4 < (t142.length : Int)
                       ·
                        rw [if_pos c38] at H
                        have c38b0 : decide (x78_4 < (t142.length : Int)) = true := decide_eq_true c38
                        clear c38
                        by_cases c39 : x14_4 = true
                        ·
                         subst c39
                         have H1 : (assessorlaw09_ConstraintsGrow.l1 k4 a0 l1 t142 (rd_L7 t153 x58_3) t166 true t153 (t153.length : Int) x58_3 t142 (t142.length : Int) (wrap64 (x78_4 + 1))) = some r := by rw [if_pos rfl] at H; exact H
                         clear H
                         have H := H1
                         clear H1
                         have H' := Aside0.mk H
                         clear H
                         have p169 : 0 ≤ (x78_4 : Int) := of_decide_eq_true (by first | (with_reducible assumption) | assumption)
                         have q169 : x78_4 < (t142.length : Int) := of_decide_eq_true (by first | (with_reducible assumption) | assumption)
                         obtain ⟨ad169, A169_0, c169_0, e169, hx169_0, hl169_0, hi169_0⟩ := at_L7 (Kd.R_reads' HO_76.out).2.2 x78_4 p169 q169
                         cases e169
                         obtain ⟨ce169, hce169, hMe169, hcc169⟩ := Kd.R_get HO_76.out [] x78_4 p169 (by first | exact q169 | exact of_decide_eq_true (by first | (with_reducible assumption) | assumption) | (have e_ := (Kd.R_reads' HO_76.out).1; omega))
                         obtain ⟨ve169_0, rfl, ge169_0⟩ := hMe169
                         have hv169_0 := hcc169 0 _ rfl
                         rw [Nat.add_zero, show ((Kd.slice 3 (Kd.int .i64))).sz = 1 from rfl, Nat.mul_one] at hv169_0
                         replace hv169_0 := Option.some.inj (hv169_0.symm.trans hx169_0)
                         rw [hv169_0] at ge169_0
                         have HL169_0 := Aside0.mk (show Kd.R (Kd.int .i64) 3 _ _ _ _ (rd_L7 t142 x78_4) from ge169_0)
                         clear hv169_0 ge169_0
                         clear hcc169 hce169
                         have HR169_0 := Aside0.mk hi169_0
                         have HC169_0 := Aside0.mk hl169_0
                         clear hi169_0 hl169_0
                         replace p169 := eq_true p169
                         replace q169 := eq_true q169
                         go_wp2
                         go_roundg k4
                         case measure => have := HJ2.out; have := HJ15.out; have := HK3.out; have := HK4.out; omega
                         case rel => exact ⟨(true), (wrap64 (x78_4 + 1)), (by first | rfl | (simp; done) | (simp [*]; done)), (by first | rfl | (simp; done) | (simp [*]; done)), H', ⟨by have := HJ2.out; have := HJ15.out; have := HK3.out; have := HK4.out; omega⟩, ⟨by (with_reducible repeat (first | apply Kd.R_alloc | apply Kd.R_drewN | apply Kd.R_drew)); exact HO_6.out⟩, ⟨by (with_reducible repeat (first | apply Kd.R_alloc | apply Kd.R_drewN | apply Kd.R_drew)); exact HO_13.out⟩, ⟨by (with_reducible repeat (first | apply Kd.R_alloc | apply Kd.R_drewN | apply Kd.R_drew)); exact HO_56.out⟩, ⟨by (with_reducible repeat (first | apply Kd.R_alloc | apply Kd.R_drewN | apply Kd.R_drew)); exact HO_76.out⟩, ⟨by repeat (first | (with_reducible exact HR162_0.out) | (with_reducible refine Kd.C_alloc ?_ _) | (with_reducible refine Kd.C_drewN ?_ _) | (with_reducible refine Kd.C_drew ?_) | exact HR162_0.out)⟩, ⟨by repeat (first | (with_reducible first | exact HB.out | apply below_alloc | apply pw_below_drewN | apply below_drew1) | exact HB.out)⟩⟩
                        ·
                         replace c39 := Bool.eq_false_iff.mpr c39
                         subst c39
                         have H1 : ((assessorlaw09_isChain.f l1 (rd_L7 t142 x78_4)).bind fun t170 => (if t170 = true then (if 0 < ((rd_L7 t142 x78_4).length : Int) then (if 0 ≤ (rd (rd_L7 t142 x78_4) 0) then (if (rd (rd_L7 t142 x78_4) 0) < (l1.length : Int) then (if 0 ≤ ((rd_T36 l1 (rd (rd_L7 t142 x78_4) 0)).f1) then (if ((rd_T36 l1 (rd (rd_L7 t142 x78_4) 0)).f1) < (t166.length : Int) then (if rdOf false t166 ((rd_T36 l1 (rd (rd_L7 t142 x78_4) 0)).f1) = true then (assessorlaw09_ConstraintsGrow.l1 k4 a0 l1 t142 (rd_L7 t153 x58_3) t166 (decide (((rd_L7 t142 x78_4).length : Int) ≤ ((rd_L7 t153 x58_3).length : Int))) t153 (t153.length : Int) x58_3 t142 (t142.length : Int) (wrap64 (x78_4 + 1))) else (assessorlaw09_ConstraintsGrow.l1 k4 a0 l1 t142 (rd_L7 t153 x58_3) t166 false t153 (t153.length : Int) x58_3 t142 (t142.length : Int) (wrap64 (x78_4 + 1)))) else (none)) else (none)) else (none)) else (none)) else (none)) else (assessorlaw09_ConstraintsGrow.l1 k4 a0 l1 t142 (rd_L7 t153 x58_3) t166 false t153 (t153.length : Int) x58_3 t142 (t142.length : Int) (wrap64 (x78_4 + 1))))) = some r := by rw [if_neg (show ¬ (false = true) by decide)] at H; exact H
                         clear H
                         have H := H1
                         clear H1
                         replace H := Option.bind_eq_some_iff.mp H
                         obtain ⟨t170, A400, H⟩ := H
                         replace H : (if t170 = true then (if 0 < ((rd_L7 t142 x78_4).length : Int) then (if 0 ≤ (rd (rd_L7 t142 x78_4) 0) then (if (rd (rd_L7 t142 x78_4) 0) < (l1.length : Int) then (if 0 ≤ ((rd_T36 l1 (rd (rd_L7 t142 x78_4) 0)).f1) then (if ((rd_T36 l1 (rd (rd_L7 t142 x78_4) 0)).f1) < (t166.length : Int) then (if rdOf false t166 ((rd_T36 l1 (rd (rd_L7 t142 x78_4) 0)).f1) = true then (assessorlaw09_ConstraintsGrow.l1 k4 a0 l1 t142 (rd_L7 t153 x58_3) t166 (decide (((rd_L7 t142 x78_4).length : Int) ≤ ((rd_L7 t153 x58_3).length : Int))) t153 (t153.length : Int) x58_3 t142 (t142.length : Int) (wrap64 (x78_4 + 1))) else (assessorlaw09_ConstraintsGrow.l1 k4 a0 l1 t142 (rd_L7 t153 x58_3) t166 false t153 (t153.length : Int) x58_3 t142 (t142.length : Int) (wrap64 (x78_4 + 1)))) else (none)) else (none)) else (none)) else (none)) else (none)) else (assessorlaw09_ConstraintsGrow.l1 k4 a0 l1 t142 (rd_L7 t153 x58_3) t166 false t153 (t153.length : Int) x58_3 t142 (t142.length : Int) (wrap64 (x78_4 + 1)))) = some r := H
                         have A40 := Aside0.mk A400
                         clear A400
                         by_cases c41 : t170 = true
                         ·
                          subst c41
                          have H1 : (if 0 < ((rd_L7 t142 x78_4).length : Int) then (if 0 ≤ (rd (rd_L7 t142 x78_4) 0) then (if (rd (rd_L7 t142 x78_4) 0) < (l1.length : Int) then (if 0 ≤ ((rd_T36 l1 (rd (rd_L7 t142 x78_4) 0)).f1) then (if ((rd_T36 l1 (rd (rd_L7 t142 x78_4) 0)).f1) < (t166.length : Int) then (if rdOf false t166 ((rd_T36 l1 (rd (rd_L7 t142 x78_4) 0)).f1) = true then (assessorlaw09_ConstraintsGrow.l1 k4 a0 l1 t142 (rd_L7 t153 x58_3) t166 (decide (((rd_L7 t142 x78_4).length : Int) ≤ ((rd_L7 t153 x58_3).length : Int))) t153 (t153.length : Int) x58_3 t142 (t142.length : Int) (wrap64 (x78_4 + 1))) else (assessorlaw09_ConstraintsGrow.l1 k4 a0 l1 t142 (rd_L7 t153 x58_3) t166 false t153 (t153.length : Int) x58_3 t142 (t142.length : Int) (wrap64 (x78_4 + 1)))) else (none)) else (none)) else (none)) else (none)) else (none)) = some r := by rw [if_pos rfl] at H; exact H
                          clear H
                          have H := H1
                          clear H1
                          by_cases c42 : 0 < ((rd_L7 t142 x78_4).length : Int)
                          ·
                           rw [if_pos c42] at H
                           have c42b0 : decide (0 < ((rd_L7 t142 x78_4).length : Int)) = true := decide_eq_true c42
                           have c42b1 : decide (0 < (rd_L7 t142 x78_4).length) = true := decide_eq_true (by omega)
                           clear c42
                           by_cases c43 : 0 ≤ (rd (rd_L7 t142 x78_4) 0)
                           ·
                            rw [if_pos c43] at H
                            have c43b0 : decide (0 ≤ (rd (rd_L7 t142 x78_4) 0)) = true := decide_eq_true c43
                            clear c43
                            by_cases c44 : (rd (rd_L7 t142 x78_4) 0) < (l1.length : Int)
                            ·
                             rw [if_pos c44] at H
                             have c44b0 : decide ((rd (rd_L7 t142 x78_4) 0) < (l1.length : Int)) = true := decide_eq_true c44
                             clear c44
                             by_cases c45 : 0 ≤ ((rd_T36 l1 (rd (rd_L7 t142 x78_4) 0)).f1)
                             ·
                              rw [if_pos c45] at H
                              have c45b0 : decide (0 ≤ ((rd_T36 l1 (rd (rd_L7 t142 x78_4) 0)).f1)) = true := decide_eq_true c45
                              clear c45
                              by_cases c46 : ((rd_T36 l1 (rd (rd_L7 t142 x78_4) 0)).f1) < (t166.length : Int)
                              ·
                               rw [if_pos c46] at H
                               have c46b0 : decide (((rd_T36 l1 (rd (rd_L7 t142 x78_4) 0)).f1) < (t166.length : Int)) = true := decide_eq_true c46
                               clear c46
                               obtain ⟨bq47, hbq47⟩ : ∃ b_ : Bool, b_ = (rdOf false t166 ((rd_T36 l1 (rd (rd_L7 t142 x78_4) 0)).f1)) := ⟨_, rfl⟩
                               replace H : (if bq47 = true then (assessorlaw09_ConstraintsGrow.l1 k4 a0 l1 t142 (rd_L7 t153 x58_3) t166 (decide (((rd_L7 t142 x78_4).length : Int) ≤ ((rd_L7 t153 x58_3).length : Int))) t153 (t153.length : Int) x58_3 t142 (t142.length : Int) (wrap64 (x78_4 + 1))) else (assessorlaw09_ConstraintsGrow.l1 k4 a0 l1 t142 (rd_L7 t153 x58_3) t166 false t153 (t153.length : Int) x58_3 t142 (t142.length : Int) (wrap64 (x78_4 + 1)))) = some r := by rw [← hbq47] at H; exact H
                               have Nbq47 := Aside0.mk hbq47
                               clear hbq47
                               by_cases c48 : bq47 = true
                               ·
                                subst c48
                                have H1 : (assessorlaw09_ConstraintsGrow.l1 k4 a0 l1 t142 (rd_L7 t153 x58_3) t166 (decide (((rd_L7 t142 x78_4).length : Int) ≤ ((rd_L7 t153 x58_3).length : Int))) t153 (t153.length : Int) x58_3 t142 (t142.length : Int) (wrap64 (x78_4 + 1))) = some r := by rw [if_pos rfl] at H; exact H
                                clear H
                                have H := H1
                                clear H1
                                have H' := Aside0.mk H
                                clear H
                                have p169 : 0 ≤ (x78_4 : Int) := of_decide_eq_true (by first | (with_reducible assumption) | assumption)
                                have q169 : x78_4 < (t142.length : Int) := of_decide_eq_true (by first | (with_reducible assumption) | assumption)
                                obtain ⟨ad169, A169_0, c169_0, e169, hx169_0, hl169_0, hi169_0⟩ := at_L7 (Kd.R_reads' HO_76.out).2.2 x78_4 p169 q169
                                cases e169
                                obtain ⟨ce169, hce169, hMe169, hcc169⟩ := Kd.R_get HO_76.out [] x78_4 p169 (by first | exact q169 | exact of_decide_eq_true (by first | (with_reducible assumption) | assumption) | (have e_ := (Kd.R_reads' HO_76.out).1; omega))
                                obtain ⟨ve169_0, rfl, ge169_0⟩ := hMe169
                                have hv169_0 := hcc169 0 _ rfl
                                rw [Nat.add_zero, show ((Kd.slice 3 (Kd.int .i64))).sz = 1 from rfl, Nat.mul_one] at hv169_0
                                replace hv169_0 := Option.some.inj (hv169_0.symm.trans hx169_0)
                                rw [hv169_0] at ge169_0
                                have HL169_0 := Aside0.mk (show Kd.R (Kd.int .i64) 3 _ _ _ _ (rd_L7 t142 x78_4) from ge169_0)
                                clear hv169_0 ge169_0
                                clear hcc169 hce169
                                have HR169_0 := Aside0.mk hi169_0
                                have HC169_0 := Aside0.mk hl169_0
                                clear hi169_0 hl169_0
                                replace p169 := eq_true p169
                                replace q169 := eq_true q169
                                go_wp2_with (first | (go_at_call 14; (with_reducible refine (assessorlaw09_isChain.calls _ _ l1 _ _ (rd_L7 t142 x78_4) true _ ?side1 ?side2 ?side3 ?side4 A40.out).mono ?_); (case side1 => repeat (first | exact (Kd.C_below HR1.out HB.out) | (with_reducible refine Kd.C_alloc ?_ _) | (with_reducible refine Kd.C_drewN ?_ _) | (with_reducible refine Kd.C_drew ?_))); (case side2 => exact HC1.out); (case side3 => repeat (first | exact (by repeat (first | (with_reducible exact HR169_0.out) | (with_reducible refine Kd.C_alloc ?_ _) | (with_reducible refine Kd.C_drewN ?_ _) | (with_reducible refine Kd.C_drew ?_) | exact HR169_0.out)) | (with_reducible refine Kd.C_alloc ?_ _) | (with_reducible refine Kd.C_drewN ?_ _) | (with_reducible refine Kd.C_drew ?_))); (case side4 => exact HC169_0.out); rintro e w49 ⟨rfl, hb⟩; have n0_ := Aside0.mk (Kd.R_below (by (with_reducible repeat (first | apply Kd.R_alloc | apply Kd.R_drewN | apply Kd.R_drew)); exact HO_6.out) hb); have n1_ := Aside0.mk (Kd.R_below (by (with_reducible repeat (first | apply Kd.R_alloc | apply Kd.R_drewN | apply Kd.R_drew)); exact HO_13.out) hb); have n2_ := Aside0.mk (Kd.R_below (by (with_reducible repeat (first | apply Kd.R_alloc | apply Kd.R_drewN | apply Kd.R_drew)); exact HO_56.out) hb); have n3_ := Aside0.mk (Kd.R_below (by (with_reducible repeat (first | apply Kd.R_alloc | apply Kd.R_drewN | apply Kd.R_drew)); exact HO_76.out) hb); have n4_ := Aside0.mk (Kd.R_below (by (with_reducible repeat (first | apply Kd.R_alloc | apply Kd.R_drewN | apply Kd.R_drew)); exact HL169_0.out) hb); have n5_ := Aside0.mk (Kd.C_below (by repeat (first | (with_reducible exact HR162_0.out) | (with_reducible refine Kd.C_alloc ?_ _) | (with_reducible refine Kd.C_drewN ?_ _) | (with_reducible refine Kd.C_drew ?_) | exact HR162_0.out)) hb); have n6_ := Aside0.mk (Kd.C_below (by repeat (first | (with_reducible exact HR169_0.out) | (with_reducible refine Kd.C_alloc ?_ _) | (with_reducible refine Kd.C_drewN ?_ _) | (with_reducible refine Kd.C_drew ?_) | exact HR169_0.out)) hb); have n7_ := Aside0.mk (below_step (by repeat (first | (with_reducible first | exact HB.out | apply below_alloc | apply pw_below_drewN | apply below_drew1) | exact HB.out)) hb); clear HO_6; clear HO_13; clear HO_56; clear HO_76; clear HL169_0; clear HR162_0; clear HR169_0; clear HB; have HO_6 := n0_; have HO_13 := n1_; have HO_56 := n2_; have HO_76 := n3_; have HL169_0 := n4_; have HR162_0 := n5_; have HR169_0 := n6_; have HB := n7_; clear n0_ n1_ n2_ n3_ n4_ n5_ n6_ n7_; (try clear hb); (try clear hb2); (try clear hk); (try clear hi); have p171 : 0 ≤ (0 : Int) := (by omega); have q171 : 0 < ((rd_L7 t142 x78_4).length : Int) := of_decide_eq_true (by first | (with_reducible assumption) | assumption); obtain ⟨ad171, e171, hx171_0⟩ := Kd.at_int (by repeat (first | (with_reducible exact HR169_0.out) | (with_reducible refine Kd.C_alloc ?_ _) | (with_reducible refine Kd.C_drewN ?_ _) | (with_reducible refine Kd.C_drew ?_) | exact HR169_0.out)) 0 p171 q171; cases e171; have qi171 : (0 < (rd_L7 t142 x78_4).length) = True := eq_true (by omega); (try rw [show ((0 : Int)).toNat = 0 from rfl] at hx171_0); (try rw [Addr.add_zero'] at hx171_0); replace p171 := eq_true p171; replace q171 := eq_true q171; have p172 : 0 ≤ ((rd (rd_L7 t142 x78_4) 0) : Int) := of_decide_eq_true (by first | (with_reducible assumption) | assumption); have q172 : (rd (rd_L7 t142 x78_4) 0) < (l1.length : Int) := of_decide_eq_true (by first | (with_reducible assumption) | assumption); obtain ⟨ad172, e172, hx172_0, hx172_1, hx172_2, hx172_3, hx172_4, hx172_5, hx172_6, hx172_7⟩ := at_T36 HR1.out (rd (rd_L7 t142 x78_4) 0) p172 q172; obtain rfl : ad165 = ad172 := (by injection e172); replace hx172_0 := (HB.out.cell (World.block_lt_of_cell? w _ hx172_0)).trans hx172_0; replace hx172_1 := (HB.out.cell (World.block_lt_of_cell? w _ hx172_1)).trans hx172_1; replace hx172_2 := (HB.out.cell (World.block_lt_of_cell? w _ hx172_2)).trans hx172_2; replace hx172_3 := (HB.out.cell (World.block_lt_of_cell? w _ hx172_3)).trans hx172_3; replace hx172_4 := (HB.out.cell (World.block_lt_of_cell? w _ hx172_4)).trans hx172_4; replace hx172_5 := (HB.out.cell (World.block_lt_of_cell? w _ hx172_5)).trans hx172_5; replace hx172_6 := (HB.out.cell (World.block_lt_of_cell? w _ hx172_6)).trans hx172_6; replace hx172_7 := (HB.out.cell (World.block_lt_of_cell? w _ hx172_7)).trans hx172_7; replace p172 := eq_true p172; replace q172 := eq_true q172; obtain ⟨Ao50, co50, eo50⟩ := Kd.R_slice HO_13.out; subst eo50; have p173 : 0 ≤ (((rd_T36 l1 (rd (rd_L7 t142 x78_4) 0)).f1) : Int) := of_decide_eq_true (by first | (with_reducible assumption) | assumption); have q173 : ((rd_T36 l1 (rd (rd_L7 t142 x78_4) 0)).f1) < (t166.length : Int) := of_decide_eq_true (by first | (with_reducible assumption) | assumption); obtain ⟨ad173, e173, hx173_0⟩ := Kd.at_bool (Kd.R_reads' HO_13.out).2.2 ((rd_T36 l1 (rd (rd_L7 t142 x78_4) 0)).f1) p173 q173; (try rw [← Nbq47.out] at hx173_0); cases e173; replace p173 := eq_true p173; replace q173 := eq_true q173))
                                go_roundg k4
                                case measure => have := HJ2.out; have := HJ15.out; have := HK3.out; have := HK4.out; omega
                                case rel => exact ⟨(decide (((rd_L7 t142 x78_4).length : Int) ≤ ((rd_L7 t153 x58_3).length : Int))), (wrap64 (x78_4 + 1)), (by first | rfl | (simp; done) | (simp [*]; done)), (by first | rfl | (simp; done) | (simp [*]; done)), H', ⟨by have := HJ2.out; have := HJ15.out; have := HK3.out; have := HK4.out; omega⟩, ⟨by (with_reducible repeat (first | apply Kd.R_alloc | apply Kd.R_drewN | apply Kd.R_drew)); exact HO_6.out⟩, ⟨by (with_reducible repeat (first | apply Kd.R_alloc | apply Kd.R_drewN | apply Kd.R_drew)); exact HO_13.out⟩, ⟨by (with_reducible repeat (first | apply Kd.R_alloc | apply Kd.R_drewN | apply Kd.R_drew)); exact HO_56.out⟩, ⟨by (with_reducible repeat (first | apply Kd.R_alloc | apply Kd.R_drewN | apply Kd.R_drew)); exact HO_76.out⟩, ⟨by repeat (first | (with_reducible exact HR162_0.out) | (with_reducible refine Kd.C_alloc ?_ _) | (with_reducible refine Kd.C_drewN ?_ _) | (with_reducible refine Kd.C_drew ?_) | exact HR162_0.out)⟩, ⟨by repeat (first | (with_reducible first | exact HB.out | apply below_alloc | apply pw_below_drewN | apply below_drew1) | exact HB.out)⟩⟩
                               ·
                                replace c48 := Bool.eq_false_iff.mpr c48
                                subst c48
                                have H1 : (assessorlaw09_ConstraintsGrow.l1 k4 a0 l1 t142 (rd_L7 t153 x58_3) t166 false t153 (t153.length : Int) x58_3 t142 (t142.length : Int) (wrap64 (x78_4 + 1))) = some r := by rw [if_neg (show ¬ (false = true) by decide)] at H; exact H
                                clear H
                                have H := H1
                                clear H1
                                have H' := Aside0.mk H
                                clear H
                                have p169 : 0 ≤ (x78_4 : Int) := of_decide_eq_true (by first | (with_reducible assumption) | assumption)
                                have q169 : x78_4 < (t142.length : Int) := of_decide_eq_true (by first | (with_reducible assumption) | assumption)
                                obtain ⟨ad169, A169_0, c169_0, e169, hx169_0, hl169_0, hi169_0⟩ := at_L7 (Kd.R_reads' HO_76.out).2.2 x78_4 p169 q169
                                cases e169
                                obtain ⟨ce169, hce169, hMe169, hcc169⟩ := Kd.R_get HO_76.out [] x78_4 p169 (by first | exact q169 | exact of_decide_eq_true (by first | (with_reducible assumption) | assumption) | (have e_ := (Kd.R_reads' HO_76.out).1; omega))
                                obtain ⟨ve169_0, rfl, ge169_0⟩ := hMe169
                                have hv169_0 := hcc169 0 _ rfl
                                rw [Nat.add_zero, show ((Kd.slice 3 (Kd.int .i64))).sz = 1 from rfl, Nat.mul_one] at hv169_0
                                replace hv169_0 := Option.some.inj (hv169_0.symm.trans hx169_0)
                                rw [hv169_0] at ge169_0
                                have HL169_0 := Aside0.mk (show Kd.R (Kd.int .i64) 3 _ _ _ _ (rd_L7 t142 x78_4) from ge169_0)
                                clear hv169_0 ge169_0
                                clear hcc169 hce169
                                have HR169_0 := Aside0.mk hi169_0
                                have HC169_0 := Aside0.mk hl169_0
                                clear hi169_0 hl169_0
                                replace p169 := eq_true p169
                                replace q169 := eq_true q169
                                go_wp2_with (first | (go_at_call 14; (with_reducible refine (assessorlaw09_isChain.calls _ _ l1 _ _ (rd_L7 t142 x78_4) true _ ?side1 ?side2 ?side3 ?side4 A40.out).mono ?_); (case side1 => repeat (first | exact (Kd.C_below HR1.out HB.out) | (with_reducible refine Kd.C_alloc ?_ _) | (with_reducible refine Kd.C_drewN ?_ _) | (with_reducible refine Kd.C_drew ?_))); (case side2 => exact HC1.out); (case side3 => repeat (first | exact (by repeat (first | (with_reducible exact HR169_0.out) | (with_reducible refine Kd.C_alloc ?_ _) | (with_reducible refine Kd.C_drewN ?_ _) | (with_reducible refine Kd.C_drew ?_) | exact HR169_0.out)) | (with_reducible refine Kd.C_alloc ?_ _) | (with_reducible refine Kd.C_drewN ?_ _) | (with_reducible refine Kd.C_drew ?_))); (case side4 => exact HC169_0.out); rintro e w51 ⟨rfl, hb⟩; have n0_ := Aside0.mk (Kd.R_below (by (with_reducible repeat (first | apply Kd.R_alloc | apply Kd.R_drewN | apply Kd.R_drew)); exact HO_6.out) hb); have n1_ := Aside0.mk (Kd.R_below (by (with_reducible repeat (first | apply Kd.R_alloc | apply Kd.R_drewN | apply Kd.R_drew)); exact HO_13.out) hb); have n2_ := Aside0.mk (Kd.R_below (by (with_reducible repeat (first | apply Kd.R_alloc | apply Kd.R_drewN | apply Kd.R_drew)); exact HO_56.out) hb); have n3_ := Aside0.mk (Kd.R_below (by (with_reducible repeat (first | apply Kd.R_alloc | apply Kd.R_drewN | apply Kd.R_drew)); exact HO_76.out) hb); have n4_ := Aside0.mk (Kd.R_below (by (with_reducible repeat (first | apply Kd.R_alloc | apply Kd.R_drewN | apply Kd.R_drew)); exact HL169_0.out) hb); have n5_ := Aside0.mk (Kd.C_below (by repeat (first | (with_reducible exact HR162_0.out) | (with_reducible refine Kd.C_alloc ?_ _) | (with_reducible refine Kd.C_drewN ?_ _) | (with_reducible refine Kd.C_drew ?_) | exact HR162_0.out)) hb); have n6_ := Aside0.mk (Kd.C_below (by repeat (first | (with_reducible exact HR169_0.out) | (with_reducible refine Kd.C_alloc ?_ _) | (with_reducible refine Kd.C_drewN ?_ _) | (with_reducible refine Kd.C_drew ?_) | exact HR169_0.out)) hb); have n7_ := Aside0.mk (below_step (by repeat (first | (with_reducible first | exact HB.out | apply below_alloc | apply pw_below_drewN | apply below_drew1) | exact HB.out)) hb); clear HO_6; clear HO_13; clear HO_56; clear HO_76; clear HL169_0; clear HR162_0; clear HR169_0; clear HB; have HO_6 := n0_; have HO_13 := n1_; have HO_56 := n2_; have HO_76 := n3_; have HL169_0 := n4_; have HR162_0 := n5_; have HR169_0 := n6_; have HB := n7_; clear n0_ n1_ n2_ n3_ n4_ n5_ n6_ n7_; (try clear hb); (try clear hb2); (try clear hk); (try clear hi); have p171 : 0 ≤ (0 : Int) := (by omega); have q171 : 0 < ((rd_L7 t142 x78_4).length : Int) := of_decide_eq_true (by first | (with_reducible assumption) | assumption); obtain ⟨ad171, e171, hx171_0⟩ := Kd.at_int (by repeat (first | (with_reducible exact HR169_0.out) | (with_reducible refine Kd.C_alloc ?_ _) | (with_reducible refine Kd.C_drewN ?_ _) | (with_reducible refine Kd.C_drew ?_) | exact HR169_0.out)) 0 p171 q171; cases e171; have qi171 : (0 < (rd_L7 t142 x78_4).length) = True := eq_true (by omega); (try rw [show ((0 : Int)).toNat = 0 from rfl] at hx171_0); (try rw [Addr.add_zero'] at hx171_0); replace p171 := eq_true p171; replace q171 := eq_true q171; have p172 : 0 ≤ ((rd (rd_L7 t142 x78_4) 0) : Int) := of_decide_eq_true (by first | (with_reducible assumption) | assumption); have q172 : (rd (rd_L7 t142 x78_4) 0) < (l1.length : Int) := of_decide_eq_true (by first | (with_reducible assumption) | assumption); obtain ⟨ad172, e172, hx172_0, hx172_1, hx172_2, hx172_3, hx172_4, hx172_5, hx172_6, hx172_7⟩ := at_T36 HR1.out (rd (rd_L7 t142 x78_4) 0) p172 q172; obtain rfl : ad165 = ad172 := (by injection e172); replace hx172_0 := (HB.out.cell (World.block_lt_of_cell? w _ hx172_0)).trans hx172_0; replace hx172_1 := (HB.out.cell (World.block_lt_of_cell? w _ hx172_1)).trans hx172_1; replace hx172_2 := (HB.out.cell (World.block_lt_of_cell? w _ hx172_2)).trans hx172_2; replace hx172_3 := (HB.out.cell (World.block_lt_of_cell? w _ hx172_3)).trans hx172_3; replace hx172_4 := (HB.out.cell (World.block_lt_of_cell? w _ hx172_4)).trans hx172_4; replace hx172_5 := (HB.out.cell (World.block_lt_of_cell? w _ hx172_5)).trans hx172_5; replace hx172_6 := (HB.out.cell (World.block_lt_of_cell? w _ hx172_6)).trans hx172_6; replace hx172_7 := (HB.out.cell (World.block_lt_of_cell? w _ hx172_7)).trans hx172_7; replace p172 := eq_true p172; replace q172 := eq_true q172; obtain ⟨Ao52, co52, eo52⟩ := Kd.R_slice HO_13.out; subst eo52; have p173 : 0 ≤ (((rd_T36 l1 (rd (rd_L7 t142 x78_4) 0)).f1) : Int) := of_decide_eq_true (by first | (with_reducible assumption) | assumption); have q173 : ((rd_T36 l1 (rd (rd_L7 t142 x78_4) 0)).f1) < (t166.length : Int) := of_decide_eq_true (by first | (with_reducible assumption) | assumption); obtain ⟨ad173, e173, hx173_0⟩ := Kd.at_bool (Kd.R_reads' HO_13.out).2.2 ((rd_T36 l1 (rd (rd_L7 t142 x78_4) 0)).f1) p173 q173; (try rw [← Nbq47.out] at hx173_0); cases e173; replace p173 := eq_true p173; replace q173 := eq_true q173))
                                go_roundg k4
                                case measure => have := HJ2.out; have := HJ15.out; have := HK3.out; have := HK4.out; omega
                                case rel => exact ⟨(false), (wrap64 (x78_4 + 1)), (by first | rfl | (simp; done) | (simp [*]; done)), (by first | rfl | (simp; done) | (simp [*]; done)), H', ⟨by have := HJ2.out; have := HJ15.out; have := HK3.out; have := HK4.out; omega⟩, ⟨by (with_reducible repeat (first | apply Kd.R_alloc | apply Kd.R_drewN | apply Kd.R_drew)); exact HO_6.out⟩, ⟨by (with_reducible repeat (first | apply Kd.R_alloc | apply Kd.R_drewN | apply Kd.R_drew)); exact HO_13.out⟩, ⟨by (with_reducible repeat (first | apply Kd.R_alloc | apply Kd.R_drewN | apply Kd.R_drew)); exact HO_56.out⟩, ⟨by (with_reducible repeat (first | apply Kd.R_alloc | apply Kd.R_drewN | apply Kd.R_drew)); exact HO_76.out⟩, ⟨by repeat (first | (with_reducible exact HR162_0.out) | (with_reducible refine Kd.C_alloc ?_ _) | (with_reducible refine Kd.C_drewN ?_ _) | (with_reducible refine Kd.C_drew ?_) | exact HR162_0.out)⟩, ⟨by repeat (first | (with_reducible first | exact HB.out | apply below_alloc | apply pw_below_drewN | apply below_drew1) | exact HB.out)⟩⟩
                              ·
                               rw [if_neg c46] at H
                               exact absurd H (by simp)
                             ·
                              rw [if_neg c45] at H
                              exact absurd H (by simp)
                            ·
                             rw [if_neg c44] at H
                             exact absurd H (by simp)
                           ·
                            rw [if_neg c43] at H
                            exact absurd H (by simp)
                          ·
                           rw [if_neg c42] at H
                           exact absurd H (by simp)
                         ·
                          replace c41 := Bool.eq_false_iff.mpr c41
                          subst c41
                          have H1 : (assessorlaw09_ConstraintsGrow.l1 k4 a0 l1 t142 (rd_L7 t153 x58_3) t166 false t153 (t153.length : Int) x58_3 t142 (t142.length : Int) (wrap64 (x78_4 + 1))) = some r := by rw [if_neg (show ¬ (false = true) by decide)] at H; exact H
                          clear H
                          have H := H1
                          clear H1
                          have H' := Aside0.mk H
                          clear H
                          have p169 : 0 ≤ (x78_4 : Int) := of_decide_eq_true (by first | (with_reducible assumption) | assumption)
                          have q169 : x78_4 < (t142.length : Int) := of_decide_eq_true (by first | (with_reducible assumption) | assumption)
                          obtain ⟨ad169, A169_0, c169_0, e169, hx169_0, hl169_0, hi169_0⟩ := at_L7 (Kd.R_reads' HO_76.out).2.2 x78_4 p169 q169
                          cases e169
                          obtain ⟨ce169, hce169, hMe169, hcc169⟩ := Kd.R_get HO_76.out [] x78_4 p169 (by first | exact q169 | exact of_decide_eq_true (by first | (with_reducible assumption) | assumption) | (have e_ := (Kd.R_reads' HO_76.out).1; omega))
                          obtain ⟨ve169_0, rfl, ge169_0⟩ := hMe169
                          have hv169_0 := hcc169 0 _ rfl
                          rw [Nat.add_zero, show ((Kd.slice 3 (Kd.int .i64))).sz = 1 from rfl, Nat.mul_one] at hv169_0
                          replace hv169_0 := Option.some.inj (hv169_0.symm.trans hx169_0)
                          rw [hv169_0] at ge169_0
                          have HL169_0 := Aside0.mk (show Kd.R (Kd.int .i64) 3 _ _ _ _ (rd_L7 t142 x78_4) from ge169_0)
                          clear hv169_0 ge169_0
                          clear hcc169 hce169
                          have HR169_0 := Aside0.mk hi169_0
                          have HC169_0 := Aside0.mk hl169_0
                          clear hi169_0 hl169_0
                          replace p169 := eq_true p169
                          replace q169 := eq_true q169
                          go_wp2_with (first | (go_at_call 14; (with_reducible refine (assessorlaw09_isChain.calls _ _ l1 _ _ (rd_L7 t142 x78_4) false _ ?side1 ?side2 ?side3 ?side4 A40.out).mono ?_); (case side1 => repeat (first | exact (Kd.C_below HR1.out HB.out) | (with_reducible refine Kd.C_alloc ?_ _) | (with_reducible refine Kd.C_drewN ?_ _) | (with_reducible refine Kd.C_drew ?_))); (case side2 => exact HC1.out); (case side3 => repeat (first | exact (by repeat (first | (with_reducible exact HR169_0.out) | (with_reducible refine Kd.C_alloc ?_ _) | (with_reducible refine Kd.C_drewN ?_ _) | (with_reducible refine Kd.C_drew ?_) | exact HR169_0.out)) | (with_reducible refine Kd.C_alloc ?_ _) | (with_reducible refine Kd.C_drewN ?_ _) | (with_reducible refine Kd.C_drew ?_))); (case side4 => exact HC169_0.out); rintro e w53 ⟨rfl, hb⟩; have n0_ := Aside0.mk (Kd.R_below (by (with_reducible repeat (first | apply Kd.R_alloc | apply Kd.R_drewN | apply Kd.R_drew)); exact HO_6.out) hb); have n1_ := Aside0.mk (Kd.R_below (by (with_reducible repeat (first | apply Kd.R_alloc | apply Kd.R_drewN | apply Kd.R_drew)); exact HO_13.out) hb); have n2_ := Aside0.mk (Kd.R_below (by (with_reducible repeat (first | apply Kd.R_alloc | apply Kd.R_drewN | apply Kd.R_drew)); exact HO_56.out) hb); have n3_ := Aside0.mk (Kd.R_below (by (with_reducible repeat (first | apply Kd.R_alloc | apply Kd.R_drewN | apply Kd.R_drew)); exact HO_76.out) hb); have n4_ := Aside0.mk (Kd.R_below (by (with_reducible repeat (first | apply Kd.R_alloc | apply Kd.R_drewN | apply Kd.R_drew)); exact HL169_0.out) hb); have n5_ := Aside0.mk (Kd.C_below (by repeat (first | (with_reducible exact HR162_0.out) | (with_reducible refine Kd.C_alloc ?_ _) | (with_reducible refine Kd.C_drewN ?_ _) | (with_reducible refine Kd.C_drew ?_) | exact HR162_0.out)) hb); have n6_ := Aside0.mk (Kd.C_below (by repeat (first | (with_reducible exact HR169_0.out) | (with_reducible refine Kd.C_alloc ?_ _) | (with_reducible refine Kd.C_drewN ?_ _) | (with_reducible refine Kd.C_drew ?_) | exact HR169_0.out)) hb); have n7_ := Aside0.mk (below_step (by repeat (first | (with_reducible first | exact HB.out | apply below_alloc | apply pw_below_drewN | apply below_drew1) | exact HB.out)) hb); clear HO_6; clear HO_13; clear HO_56; clear HO_76; clear HL169_0; clear HR162_0; clear HR169_0; clear HB; have HO_6 := n0_; have HO_13 := n1_; have HO_56 := n2_; have HO_76 := n3_; have HL169_0 := n4_; have HR162_0 := n5_; have HR169_0 := n6_; have HB := n7_; clear n0_ n1_ n2_ n3_ n4_ n5_ n6_ n7_; (try clear hb); (try clear hb2); (try clear hk); (try clear hi)))
                          go_roundg k4
                          case measure => have := HJ2.out; have := HJ15.out; have := HK3.out; have := HK4.out; omega
                          case rel => exact ⟨(false), (wrap64 (x78_4 + 1)), (by first | rfl | (simp; done) | (simp [*]; done)), (by first | rfl | (simp; done) | (simp [*]; done)), H', ⟨by have := HJ2.out; have := HJ15.out; have := HK3.out; have := HK4.out; omega⟩, ⟨by (with_reducible repeat (first | apply Kd.R_alloc | apply Kd.R_drewN | apply Kd.R_drew)); exact HO_6.out⟩, ⟨by (with_reducible repeat (first | apply Kd.R_alloc | apply Kd.R_drewN | apply Kd.R_drew)); exact HO_13.out⟩, ⟨by (with_reducible repeat (first | apply Kd.R_alloc | apply Kd.R_drewN | apply Kd.R_drew)); exact HO_56.out⟩, ⟨by (with_reducible repeat (first | apply Kd.R_alloc | apply Kd.R_drewN | apply Kd.R_drew)); exact HO_76.out⟩, ⟨by repeat (first | (with_reducible exact HR162_0.out) | (with_reducible refine Kd.C_alloc ?_ _) | (with_reducible refine Kd.C_drewN ?_ _) | (with_reducible refine Kd.C_drew ?_) | exact HR162_0.out)⟩, ⟨by repeat (first | (with_reducible first | exact HB.out | apply below_alloc | apply pw_below_drewN | apply below_drew1) | exact HB.out)⟩⟩
                       ·
                        rw [if_neg c38] at H
                        exact absurd H (by simp)
                      ·
                       rw [if_neg c37] at H
                       exact absurd H (by simp)
                     ·
                      rw [if_neg c36] at H
                      have c36b0 : decide (x78_4 < (t142.length : Int)) = false := decide_eq_false c36
                      clear c36
                      by_cases c54 : x14_4 = true
                      ·
                       subst c54
                       have H1 : (assessorlaw09_ConstraintsGrow.l0 k4 a0 l1 t142 t153 (t153.length : Int) (wrap64 (x58_3 + 1))) = some r := by rw [if_pos rfl] at H; exact H
                       clear H
                       have H := H1
                       clear H1
                       have H' := Aside0.mk H
                       clear H
                       go_wp2
                       go_roundg k4
                       case measure => have := HJ2.out; have := HJ15.out; have := HK3.out; have := HK4.out; omega
                       case rel => exact ⟨(wrap64 (x58_3 + 1)), (by first | rfl | (simp; done) | (simp [*]; done)), H', ⟨by have := HJ2.out; have := HJ15.out; have := HK3.out; have := HK4.out; omega⟩, ⟨by (with_reducible repeat (first | apply Kd.R_alloc | apply Kd.R_drewN | apply Kd.R_drew)); exact HO_6.out⟩, ⟨by (with_reducible repeat (first | apply Kd.R_alloc | apply Kd.R_drewN | apply Kd.R_drew)); exact Kd.R_mono HO_56.out (fun _ hk => hk.1)⟩, ⟨by repeat (first | (with_reducible first | exact HB.out | apply below_alloc | apply pw_below_drewN | apply below_drew1) | exact HB.out)⟩⟩
                      ·
                       replace c54 := Bool.eq_false_iff.mpr c54
                       subst c54
                       have H1 : (some false) = some r := by rw [if_neg (show ¬ (false = true) by decide)] at H; exact H
                       clear H
                       have H := H1
                       clear H1
                       obtain rfl := Option.some.inj H
                       exact absurd HTru_.out (by decide)
                  ·
                   rw [if_neg c31] at H
                   exact absurd H (by simp)
                 ·
                  rw [if_neg c30] at H
                  exact absurd H (by simp)
                ·
                 rw [if_neg c29] at H
                 exact absurd H (by simp)
               ·
                replace c28 := Bool.eq_false_iff.mpr c28
                subst c28
                have H1 : (some false) = some r := by rw [if_neg (show ¬ (false = true) by decide)] at H; exact H
                clear H
                have H := H1
                clear H1
                obtain rfl := Option.some.inj H
                exact absurd HTru_.out (by decide)
              ·
               rw [if_neg c26] at H
               exact absurd H (by simp)
             ·
              rw [if_neg c25] at H
              exact absurd H (by simp)
            ·
             rw [if_neg c24] at H
             have c24b0 : decide (x58_3 < (t153.length : Int)) = false := decide_eq_false c24
             clear c24
             replace H := Option.bind_eq_some_iff.mp H
             obtain ⟨t161, A550, H⟩ := H
             replace H : (some t161) = some r := H
             have A55 := Aside0.mk A550
             clear A550
             obtain rfl := Option.some.inj H
             go_wp2_with (first | ((with_reducible refine gate_callee (f := 10) rfl ?_); refine goesL_ (some 111) rfl rfl Try.func10 (by kernel_rfl) rfl #[] rfl (by (try simp only [List.map_toArray, List.map_cons, List.map_nil]); first | done | rfl | (simp only [List.length_drop, List.length_take]; rfl)) ?_; (with_reducible refine (assessorlaw09_awake.calls  t161 _ A55.out).mono ?_); rintro e w56 ⟨rfl, hb⟩; refine ⟨_, rfl, ?_⟩; have n0_ := Aside0.mk (Kd.R_below (by (with_reducible repeat (first | apply Kd.R_alloc | apply Kd.R_drewN | apply Kd.R_drew)); exact HO_6.out) hb); have n1_ := Aside0.mk (Kd.R_below (by (with_reducible repeat (first | apply Kd.R_alloc | apply Kd.R_drewN | apply Kd.R_drew)); exact HO_56.out) hb); have n2_ := Aside0.mk (below_step (by repeat (first | (with_reducible first | exact HB.out | apply below_alloc | apply pw_below_drewN | apply below_drew1) | exact HB.out)) hb); clear HO_6; clear HO_56; clear HB; have HO_6 := n0_; have HO_56 := n1_; have HB := n2_; clear n0_ n1_ n2_; (try clear hb); (try clear hb2); (try clear hk); (try clear hi)))
             go_ret
             exact ⟨by first | rfl | (simp [errW_none, errW_some] <;> rfl) | (simp only [← hji10]; first | rfl | (simp [errW_none, errW_some] <;> rfl)) | (simp [*, errW_none, errW_some] <;> rfl), by repeat (first | (with_reducible first | exact HB.out | apply below_alloc | apply pw_below_drewN | apply below_drew1) | exact HB.out)⟩
      ·
       replace c15 := Bool.eq_false_iff.mpr c15
       subst c15
       have H1 : ((assessorlaw09_awake.f).bind fun t160 => (some t160)) = some r := by rw [if_neg (show ¬ (false = true) by decide)] at H; exact H
       clear H
       have H := H1
       clear H1
       replace H := Option.bind_eq_some_iff.mp H
       obtain ⟨t160, A570, H⟩ := H
       replace H : (some t160) = some r := H
       have A57 := Aside0.mk A570
       clear A570
       obtain rfl := Option.some.inj H
       go_wp2_with (first | ((with_reducible refine gate_callee (f := 12) rfl ?_); refine goesL_ (some 30) rfl rfl Try.func12 (by kernel_rfl) rfl #[.int .i64 a0, .slice A1 l1.length c1] rfl (by (try simp only [List.map_toArray, List.map_cons, List.map_nil]); first | done | rfl | (simp only [List.length_drop, List.length_take]; rfl)) ?_; (with_reducible refine (constraints_Solve.calls a0 _ _ l1 t141 t142 t143 _ ?side1 ?side2 A9.out).mono ?_); (case side1 => repeat (first | exact (Kd.C_below HR1.out HB.out) | (with_reducible refine Kd.C_alloc ?_ _) | (with_reducible refine Kd.C_drewN ?_ _) | (with_reducible refine Kd.C_drew ?_))); (case side2 => exact HC1.out); rintro e w58 ⟨v144, v146, rfl, ho0, ho1, hb⟩; refine ⟨_, rfl, ?_⟩; have n0_ := Aside0.mk (Kd.R_lower ho0 (below_size (by repeat (first | (with_reducible first | exact HB.out | apply below_alloc | apply pw_below_drewN | apply below_drew1) | exact HB.out)))); have n1_ := Aside0.mk (Kd.R_lower ho1 (below_size (by repeat (first | (with_reducible first | exact HB.out | apply below_alloc | apply pw_below_drewN | apply below_drew1) | exact HB.out)))); have n2_ := Aside0.mk (below_step (by repeat (first | (with_reducible first | exact HB.out | apply below_alloc | apply pw_below_drewN | apply below_drew1) | exact HB.out)) hb); clear HB; have HO145 := n0_; have HO147 := n1_; have HB := n2_; clear n0_ n1_ n2_; (try clear hb); (try clear hb2); (try clear hk); (try clear hi); (try clear ho0); (try clear ho1); have q59 : ((ji10) : Int) ≤ ((l1.length : Int) : Int) := of_decide_eq_true (by first | (with_reducible assumption) | assumption); obtain ⟨i059, hi059, _, hsz59, _⟩ := info_parts info36; have hroom59 : l1.length ≤ c1 := HC1.out; have hC59 : Kd.C k36 _ A1 l1.length l1 := HR1.out; have hcut59 := cut_to (P := Try.prog) 26 36 .i64 Try.underlying26 hi059 A1 l1.length c1 (ji10) (of_decide_eq_true (by first | (with_reducible assumption) | assumption)) q59 hroom59; have hr59 := Kd.C_take (m := ((ji10) : Int).toNat) hC59 (by omega); have hy59 : y148.length = ((ji10) : Int).toNat := (by rw [Ny148.out, List.length_take]; omega); rw [← Ny148.out] at hr59; rw [← hy59] at hcut59; have HR151 := Aside0.mk hr59; have HC151 := Aside0.mk (show y148.length ≤ c1 from by omega); clear hr59 hC59 hroom59 hi059 hsz59; have KY59 := Aside0.mk hy59; clear hy59; replace q59 := eq_true q59) | ((with_reducible refine gate_callee (f := 12) rfl ?_); refine goesL_ (some 41) rfl rfl Try.func12 (by kernel_rfl) rfl #[.int .i64 a0, .slice A1 y148.length c1] rfl (by (try simp only [List.map_toArray, List.map_cons, List.map_nil]); first | done | rfl | (simp only [List.length_drop, List.length_take]; rfl)) ?_; (with_reducible refine (constraints_Solve.calls a0 _ _ y148 t152 t153 t154 _ ?side1 ?side2 A13.out).mono ?_); (case side1 => repeat (first | exact (Kd.C_below HR151.out HB.out) | (with_reducible refine Kd.C_alloc ?_ _) | (with_reducible refine Kd.C_drewN ?_ _) | (with_reducible refine Kd.C_drew ?_))); (case side2 => exact HC151.out); rintro e w60 ⟨v155, v157, rfl, ho0, ho1, hb⟩; refine ⟨_, rfl, ?_⟩; have n0_ := Aside0.mk (Kd.R_elder' (by (with_reducible repeat (first | apply Kd.R_alloc | apply Kd.R_drewN | apply Kd.R_drew)); exact HO145.out) (Kd.R_base ho0) hb); have n1_ := Aside0.mk (Kd.R_elder' (by (with_reducible repeat (first | apply Kd.R_alloc | apply Kd.R_drewN | apply Kd.R_drew)); exact HO147.out) (Kd.R_base ho1) hb); have n2_ := Aside0.mk (Kd.R_lower (Kd.R_new' ho0 (Kd.R_lt (by (with_reducible repeat (first | apply Kd.R_alloc | apply Kd.R_drewN | apply Kd.R_drew)); exact HO145.out))) (below_size (by repeat (first | (with_reducible first | exact HB.out | apply below_alloc | apply pw_below_drewN | apply below_drew1) | exact HB.out)))); have n3_ := Aside0.mk (Kd.R_lower (Kd.R_new' ho1 (Kd.R_lt (by (with_reducible repeat (first | apply Kd.R_alloc | apply Kd.R_drewN | apply Kd.R_drew)); exact HO147.out))) (below_size (by repeat (first | (with_reducible first | exact HB.out | apply below_alloc | apply pw_below_drewN | apply below_drew1) | exact HB.out)))); have n4_ := Aside0.mk (below_step (by repeat (first | (with_reducible first | exact HB.out | apply below_alloc | apply pw_below_drewN | apply below_drew1) | exact HB.out)) hb); clear HO145; clear HO147; clear HB; have HO145 := n0_; have HO147 := n1_; have HO156 := n2_; have HO158 := n3_; have HB := n4_; clear n0_ n1_ n2_ n3_ n4_; (try clear hb); (try clear hb2); (try clear hk); (try clear hi); (try clear ho0); (try clear ho1)) | ((with_reducible refine gate_callee (f := 13) rfl ?_); refine goesL_ (some 47) rfl rfl Try.func13 (by kernel_rfl) rfl #[.int .i64 a0, .slice A1 l1.length c1] rfl (by (try simp only [List.map_toArray, List.map_cons, List.map_nil]); first | done | rfl | (simp only [List.length_drop, List.length_take]; rfl)) ?_; (with_reducible refine (assessorref09_Fits.calls kj2 a0 _ _ l1 false _ ?side1 ?side2 A14.out).mono ?_); (case side1 => repeat (first | exact (Kd.C_below HR1.out HB.out) | (with_reducible refine Kd.C_alloc ?_ _) | (with_reducible refine Kd.C_drewN ?_ _) | (with_reducible refine Kd.C_drew ?_))); (case side2 => exact HC1.out); rintro e w61 ⟨rfl, hb⟩; refine ⟨_, rfl, ?_⟩; have n0_ := Aside0.mk (Kd.R_below (by (with_reducible repeat (first | apply Kd.R_alloc | apply Kd.R_drewN | apply Kd.R_drew)); exact HO145.out) hb); have n1_ := Aside0.mk (Kd.R_below (by (with_reducible repeat (first | apply Kd.R_alloc | apply Kd.R_drewN | apply Kd.R_drew)); exact HO147.out) hb); have n2_ := Aside0.mk (Kd.R_below (by (with_reducible repeat (first | apply Kd.R_alloc | apply Kd.R_drewN | apply Kd.R_drew)); exact HO156.out) hb); have n3_ := Aside0.mk (Kd.R_below (by (with_reducible repeat (first | apply Kd.R_alloc | apply Kd.R_drewN | apply Kd.R_drew)); exact HO158.out) hb); have n4_ := Aside0.mk (below_step (by repeat (first | (with_reducible first | exact HB.out | apply below_alloc | apply pw_below_drewN | apply below_drew1) | exact HB.out)) hb); clear HO145; clear HO147; clear HO156; clear HO158; clear HB; have HO145 := n0_; have HO147 := n1_; have HO156 := n2_; have HO158 := n3_; have HB := n4_; clear n0_ n1_ n2_ n3_ n4_; (try clear hb); (try clear hb2); (try clear hk); (try clear hi)) | ((with_reducible refine gate_callee (f := 10) rfl ?_); refine goesL_ (some 49) rfl rfl Try.func10 (by kernel_rfl) rfl #[] rfl (by (try simp only [List.map_toArray, List.map_cons, List.map_nil]); first | done | rfl | (simp only [List.length_drop, List.length_take]; rfl)) ?_; (with_reducible refine (assessorlaw09_awake.calls  t160 _ A57.out).mono ?_); rintro e w62 ⟨rfl, hb⟩; refine ⟨_, rfl, ?_⟩; have n0_ := Aside0.mk (Kd.R_below (by (with_reducible repeat (first | apply Kd.R_alloc | apply Kd.R_drewN | apply Kd.R_drew)); exact HO145.out) hb); have n1_ := Aside0.mk (Kd.R_below (by (with_reducible repeat (first | apply Kd.R_alloc | apply Kd.R_drewN | apply Kd.R_drew)); exact HO147.out) hb); have n2_ := Aside0.mk (Kd.R_below (by (with_reducible repeat (first | apply Kd.R_alloc | apply Kd.R_drewN | apply Kd.R_drew)); exact HO156.out) hb); have n3_ := Aside0.mk (Kd.R_below (by (with_reducible repeat (first | apply Kd.R_alloc | apply Kd.R_drewN | apply Kd.R_drew)); exact HO158.out) hb); have n4_ := Aside0.mk (below_step (by repeat (first | (with_reducible first | exact HB.out | apply below_alloc | apply pw_below_drewN | apply below_drew1) | exact HB.out)) hb); clear HO145; clear HO147; clear HO156; clear HO158; clear HB; have HO145 := n0_; have HO147 := n1_; have HO156 := n2_; have HO158 := n3_; have HB := n4_; clear n0_ n1_ n2_ n3_ n4_; (try clear hb); (try clear hb2); (try clear hk); (try clear hi)))
       go_ret
       exact ⟨by first | rfl | (simp [errW_none, errW_some] <;> rfl) | (simp only [← hji10]; first | rfl | (simp [errW_none, errW_some] <;> rfl)) | (simp [*, errW_none, errW_some] <;> rfl), by repeat (first | (with_reducible first | exact HB.out | apply below_alloc | apply pw_below_drewN | apply below_drew1) | exact HB.out)⟩
     ·
      rw [if_neg c12] at H
      exact absurd H (by simp)
    ·
     rw [if_neg c11] at H
     exact absurd H (by simp)

end Go.Proofs.Ytjbafigageingaa.PL
