import Derived.Test.YtjbafigageingaaKsM5
import Derived.Test.YtjbafigageingaaKsM1
import Derived.Test.YtjbafigageingaaKsPRx6
import Derived.Test.YtjbafigageingaaProg
import Derived.Test.YtjbafigageingaaKsW
import Derived.Below
import Derived.Deep.Draws
import Derived.Deep.AppendLies
import Derived.Maps.AppendAt
import Derived.OwnWalk
import Derived.Laws.BytesArg
import Derived.Laws.MakeOwn
import Derived.Laws.OwnMore
import Derived.Deep.OwnRows
import Derived.Tactics
import Derived.Lib.ConvBytes
import Derived.Laws.Slices
import Derived.WalkKit
import Derived.KernelRfl
import Derived.RowKit3
import Derived.Deep.LoopGhost
import Derived.Deep.QuietTactic
import Derived.BigQuiet
import Derived.WideLaws
import Derived.Deep.DeepCutAuto
import Derived.Deep.CutBlock
import Derived.Deep.RegionHeld3
import Derived.Laws.Rows
import Derived.Lib.AppendStr
import Derived.ArgAppend
import Derived.Laws.IdiomCopy
import Derived.OrdersHeld
import Derived.Laws.BitsLemmas
import Derived.RowKit
import Derived.Test.YtjbafigageingaaKsM4
import Derived.Test.YtjbafigageingaaKsPSx3
namespace Go.Proofs.Ytjbafigageingaa.PS
open Go.Proofs.Ytjbafigageingaa.PR Go.Proofs.Ytjbafigageingaa.PF
open Go.RowKit Go.Proofs.YtjbafigageingaaW.PrintWords Go.Proofs.YtjbafigageingaaW.PrintLast Go.Proofs.YtjbafigageingaaW.PrintMore
attribute [local go_sem] max2_int min2_int max_two min_two max_three min_three max_four min_four
set_option linter.unusedVariables false
set_option linter.unusedSimpArgs false

mutual
def assessorref09_before.j0 : Nat → List Int → List Int → Bool → Option (Bool)
 | 0, _, _, _ => none
 | k + 1, x0, x1, x15 => if x15 = true then (if (x1.length : Int) = 0 then (some true) else (some (decide ((x0.length : Int) < (x1.length : Int))))) else (assessorref09_before.l0 k x0 x1 0)
def assessorref09_before.l0 : Nat → List Int → List Int → Int → Option (Bool)
 | 0, _, _, _ => none
 | k + 1, x0, x1, x5 => if x5 < (x0.length : Int) then (if 0 ≤ x5 then (if x5 < (x1.length : Int) then (if (rd x0 x5) = (rd x1 x5) then (assessorref09_before.l0 k x0 x1 (wrap64 (x5 + 1))) else (some (decide ((rd x0 x5) < (rd x1 x5))))) else (none)) else (none)) else (some false)
end
def assessorref09_before.f (k : Nat) (l0 : List Int) (l1 : List Int) : Option (Bool) := if (l1.length : Int) = 0 then (assessorref09_before.j0 k l0 l1 true) else (assessorref09_before.j0 k l0 l1 ((l0.length : Int) != (l1.length : Int)))
set_option maxHeartbeats 8000000 in
set_option maxRecDepth 100000 in
theorem assessorref09_before.calls (k : Nat) (A0 : Option Addr) (c0 : Nat) (l0 : List Int) (A1 : Option Addr) (c1 : Nat) (l1 : List Int) (r : Bool) (w : World) (hr0 : Kd.C (Kd.int .i64) w A0 l0.length l0) (hc0 : l0.length ≤ c0) (hr1 : Kd.C (Kd.int .i64) w A1 l1.length l1) (hc1 : l1.length ≤ c1) (h : assessorref09_before.f k l0 l1 = some r) :
  Calls Try.prog 34 #[.slice A0 l0.length c0, .slice A1 l1.length c1] w fun e w' => e = .returned (.bool r) ∧ Drawn0 w w' := by
 have HR0 := Aside0.mk hr0
 have HC0 := Aside0.mk hc0
 clear hr0 hc0
 have HR1 := Aside0.mk hr1
 have HC1 := Aside0.mk hc1
 clear hr1 hc1
 have H : (if (l1.length : Int) = 0 then (assessorref09_before.j0 k l0 l1 true) else (assessorref09_before.j0 k l0 l1 ((l0.length : Int) != (l1.length : Int)))) = some r := h
 clear h
 have HC3 := Aside0.mk H
 clear H
 go_enter Try.func34, Try.ntmps34
 go_upto_region 1 with (fail)
 repeat (go_quiet (fail); go_upto_region 1 with (fail))
 go_cut [15] (fun v15 wc => ∃ (kq : Nat) (x15_2 : Bool), v15 = .bool x15_2 ∧ Aside0 (assessorref09_before.j0 kq l0 l1 x15_2 = some r) ∧ Aside0 (kq ≤ k) ∧ Drawn0 w wc)
 case first =>
  have H := HC3.out
  clear HC3
  by_cases c4 : (l1.length : Int) = 0
  ·
   rw [if_pos c4] at H
   have c4b0 : ((l1.length : Int) == 0) = true := beq_iff_eq.mpr c4
   have c4b1 : ((l1.length : Int) != 0) = false := bne_eq_false_iff_eq.mpr c4
   clear c4
   (first | rw [c4b0] | (simp only [i64_w, i32_w]; rw [c4b0]) | skip)
   have H' := Aside0.mk H; clear H
   go_wp2
   repeat (go_quiet (fail); try go_wp2)
   go_meet
   case rel => exact ⟨_, (true), (by first | rfl | (simp; done) | (simp [*]; done)), H', ⟨by first | omega | exact Nat.le_refl _⟩, by repeat (first | exact Drawn0.refl _ | apply Drawn0.step)⟩
  ·
   rw [if_neg c4] at H
   have c4b0 : ((l1.length : Int) == 0) = false := beq_eq_false_iff_ne.mpr c4
   have c4b1 : ((l1.length : Int) != 0) = true := bne_iff_ne.mpr c4
   have c4b2 : ¬ (l1 = []) := fun h_ => c4 (by rw [h_]; rfl)
   (first | rw [c4b0] | (simp only [i64_w, i32_w]; rw [c4b0]) | skip)
   have H' := Aside0.mk H; clear H
   go_wp2
   repeat (go_quiet (fail); try go_wp2)
   go_meet
   case rel => exact ⟨_, (((l0.length : Int) != (l1.length : Int))), (by first | rfl | (simp; done) | (simp [*]; done)), H', ⟨by first | omega | exact Nat.le_refl _⟩, by repeat (first | exact Drawn0.refl _ | apply Drawn0.step)⟩
 case rest =>
  clear HC3; (try clear c1); (try clear p2); (try clear c3); (try clear c4); (try clear c4b0); (try clear c4b1); (try clear c4b2)
  obtain ⟨kq, x15_2, rfl, HA, HJ2, ⟨mc2, rfl⟩⟩ := hcut
  cases kq with
  | zero => exact absurd HA.out (by simp [assessorref09_before.j0])
  | succ kj2 =>
   have H := HA.out
   clear HA
   simp only [assessorref09_before.j0] at H
   by_cases c5 : x15_2 = true
   ·
    subst c5
    have H1 : (if (l1.length : Int) = 0 then (some true) else (some (decide ((l0.length : Int) < (l1.length : Int))))) = some r := by rw [if_pos rfl] at H; exact H
    clear H; have H := H1; clear H1
    by_cases c6 : (l1.length : Int) = 0
    ·
     rw [if_pos c6] at H
     have c6b0 : ((l1.length : Int) == 0) = true := beq_iff_eq.mpr c6
     have c6b1 : ((l1.length : Int) != 0) = false := bne_eq_false_iff_eq.mpr c6
     clear c6
     obtain rfl := Option.some.inj H
     go_wp2
     repeat (go_quiet (fail); try go_wp2)
     go_ret
     exact ⟨by first | rfl | (simp; done) | (simp [*]; done), by repeat (first | exact Drawn0.refl _ | apply Drawn0.step)⟩
    ·
     rw [if_neg c6] at H
     have c6b0 : ((l1.length : Int) == 0) = false := beq_eq_false_iff_ne.mpr c6
     have c6b1 : ((l1.length : Int) != 0) = true := bne_iff_ne.mpr c6
     have c6b2 : ¬ (l1 = []) := fun h_ => c6 (by rw [h_]; rfl)
     obtain rfl := Option.some.inj H
     go_wp2
     repeat (go_quiet (fail); try go_wp2)
     go_ret
     exact ⟨by first | rfl | (simp; done) | (simp [*]; done), by repeat (first | exact Drawn0.refl _ | apply Drawn0.step)⟩
   ·
    replace c5 := Bool.eq_false_iff.mpr c5
    subst c5
    have H1 : (assessorref09_before.l0 kj2 l0 l1 0) = some r := by rw [if_neg (show ¬ (false = true) by decide)] at H; exact H
    clear H; have H := H1; clear H1; have H' := Aside0.mk H; clear H
    go_wp2
    repeat (go_quiet (fail); try go_wp2)
    go_loopg [5] kj2 (fun kq v5 w' => ∃ (x5_2 : Int), v5 = .int .i64 x5_2 ∧ Aside0 (assessorref09_before.l0 kq l0 l1 x5_2 = some r) ∧ Aside0 (kq ≤ kj2) ∧ Drawn0 w w')
    case atStart => exact ⟨(0), (by first | rfl | (simp; done) | (simp [*]; done)), H', ⟨Nat.le_refl _⟩, by repeat (first | exact Drawn0.refl _ | apply Drawn0.step)⟩
    case round =>
     clear H'; (try clear c1); (try clear c2); (try clear p2); (try clear c3); (try clear c4); (try clear c4b0); (try clear c4b1); (try clear c4b2); (try clear c5); (try clear c6); (try clear c6b0); (try clear c6b1); (try clear c6b2); (try clear p2)
     obtain ⟨x5_2, rfl, HA, HK2, ⟨m2, rfl⟩⟩ := hrel
     cases gk with
     | zero => exact absurd HA.out (by simp [assessorref09_before.l0])
     | succ k2 =>
      have H := HA.out
      clear HA
      simp only [assessorref09_before.l0] at H
      by_cases c7 : x5_2 < (l0.length : Int)
      ·
       rw [if_pos c7] at H
       have c7b0 : decide (x5_2 < (l0.length : Int)) = true := decide_eq_true c7
       clear c7
       by_cases c8 : 0 ≤ x5_2; rotate_left
       · rw [if_neg c8] at H; exact absurd H (by simp)
       rw [if_pos c8] at H
       have c8b0 : decide (0 ≤ x5_2) = true := decide_eq_true c8
       clear c8
       by_cases c9 : x5_2 < (l1.length : Int); rotate_left
       · rw [if_neg c9] at H; exact absurd H (by simp)
       rw [if_pos c9] at H
       have c9b0 : decide (x5_2 < (l1.length : Int)) = true := decide_eq_true c9
       clear c9
       by_cases c10 : (rd l0 x5_2) = (rd l1 x5_2)
       ·
        rw [if_pos c10] at H
        have c10b0 : ((rd l0 x5_2) == (rd l1 x5_2)) = true := beq_iff_eq.mpr c10
        have c10b1 : ((rd l0 x5_2) != (rd l1 x5_2)) = false := bne_eq_false_iff_eq.mpr c10
        clear c10; have H' := Aside0.mk H; clear H
        have p164 : 0 ≤ (x5_2 : Int) := of_decide_eq_true (by assumption)
        have q164 : x5_2 < (l0.length : Int) := of_decide_eq_true (by assumption)
        obtain ⟨ad164, e164, hx164_0⟩ := Kd.at_int HR0.out x5_2 p164 q164
        cases e164; replace p164 := eq_true p164; replace q164 := eq_true q164
        have p165 : 0 ≤ (x5_2 : Int) := of_decide_eq_true (by assumption)
        have q165 : x5_2 < (l1.length : Int) := of_decide_eq_true (by assumption)
        obtain ⟨ad165, e165, hx165_0⟩ := Kd.at_int HR1.out x5_2 p165 q165
        cases e165; replace p165 := eq_true p165; replace q165 := eq_true q165
        go_wp2
        repeat (go_quiet (fail); try go_wp2)
        go_roundg k2
        case measure => have := HJ2.out; have := HK2.out; omega
        case rel => exact ⟨(wrap64 (x5_2 + 1)), (by first | rfl | (simp; done) | (simp [*]; done)), H', ⟨by have := HJ2.out; have := HK2.out; omega⟩, by repeat (first | exact Drawn0.refl _ | apply Drawn0.step)⟩
       ·
        rw [if_neg c10] at H
        have c10b0 : ((rd l0 x5_2) == (rd l1 x5_2)) = false := beq_eq_false_iff_ne.mpr c10
        have c10b1 : ((rd l0 x5_2) != (rd l1 x5_2)) = true := bne_iff_ne.mpr c10
        obtain rfl := Option.some.inj H
        have p164 : 0 ≤ (x5_2 : Int) := of_decide_eq_true (by assumption)
        have q164 : x5_2 < (l0.length : Int) := of_decide_eq_true (by assumption)
        obtain ⟨ad164, e164, hx164_0⟩ := Kd.at_int HR0.out x5_2 p164 q164
        cases e164; replace p164 := eq_true p164; replace q164 := eq_true q164
        have p165 : 0 ≤ (x5_2 : Int) := of_decide_eq_true (by assumption)
        have q165 : x5_2 < (l1.length : Int) := of_decide_eq_true (by assumption)
        obtain ⟨ad165, e165, hx165_0⟩ := Kd.at_int HR1.out x5_2 p165 q165
        cases e165; replace p165 := eq_true p165; replace q165 := eq_true q165
        have p166 : 0 ≤ (x5_2 : Int) := of_decide_eq_true (by assumption)
        have q166 : x5_2 < (l0.length : Int) := of_decide_eq_true (by assumption)
        obtain ⟨ad166, e166, hx166_0⟩ := Kd.at_int HR0.out x5_2 p166 q166
        obtain rfl : ad164 = ad166 := (by injection e166)
        replace p166 := eq_true p166; replace q166 := eq_true q166
        have p167 : 0 ≤ (x5_2 : Int) := of_decide_eq_true (by assumption)
        have q167 : x5_2 < (l1.length : Int) := of_decide_eq_true (by assumption)
        obtain ⟨ad167, e167, hx167_0⟩ := Kd.at_int HR1.out x5_2 p167 q167
        obtain rfl : ad165 = ad167 := (by injection e167)
        replace p167 := eq_true p167; replace q167 := eq_true q167
        go_wp2
        repeat (go_quiet (fail); try go_wp2)
        go_ret
        exact ⟨by first | rfl | (simp; done) | (simp [*]; done), by repeat (first | exact Drawn0.refl _ | apply Drawn0.step)⟩
      ·
       rw [if_neg c7] at H
       have c7b0 : decide (x5_2 < (l0.length : Int)) = false := decide_eq_false c7
       clear c7
       obtain rfl := Option.some.inj H
       go_wp2
       repeat (go_quiet (fail); try go_wp2)
       go_ret
       exact ⟨by first | rfl | (simp; done) | (simp [*]; done), by repeat (first | exact Drawn0.refl _ | apply Drawn0.step)⟩

end Go.Proofs.Ytjbafigageingaa.PS

namespace Go.Proofs.Ytjbafigageingaa
open Go.RowKit Go.Proofs.YtjbafigageingaaW.PrintWords Go.Proofs.YtjbafigageingaaW.PrintLast Go.Proofs.YtjbafigageingaaW.PrintMore
set_option linter.unusedVariables false
set_option linter.unusedSimpArgs false
theorem before_l0 {a b : List Int} (hl : a.length = b.length) (hs : a.length ≤ 1000000) : ∀ (d i k : Nat), i + d = a.length → d < k →
    ∃ t, PS.assessorref09_before.l0 k a b i = some t ∧ (t = true ↔ ¬ lexLe (b.drop i) (a.drop i))
  | 0, i, k, h, hk => by
    obtain ⟨k, rfl⟩ : ∃ m, k = m + 1 := ⟨k - 1, by omega⟩
    rw [PS.assessorref09_before.l0, if_neg (by omega), List.drop_eq_nil_of_le (by omega)]
    exact ⟨false, rfl, by simp [lexLe]⟩
  | d + 1, i, k, h, hk => by
    obtain ⟨k, rfl⟩ : ∃ m, k = m + 1 := ⟨k - 1, by omega⟩
    have hi : i < a.length := by omega
    have hib : i < b.length := by omega
    have hx : rd a (i : Int) = a[i] := by rw [rdN, List.getD_eq_getElem?_getD, List.getElem?_eq_getElem hi]; rfl
    have hy : rd b (i : Int) = b[i] := by rw [rdN, List.getD_eq_getElem?_getD, List.getElem?_eq_getElem hib]; rfl
    have hwr : wrap64 ((i : Int) + 1) = ((i + 1 : Nat) : Int) := by rw [wrap_small _ (by omega)]; omega
    rw [PS.assessorref09_before.l0, if_pos (by omega), if_pos (by omega), if_pos (by omega), hx, hy, hwr, List.drop_eq_getElem_cons hi, List.drop_eq_getElem_cons hib]
    by_cases he : a[i] = b[i]
    · rw [if_pos he]
      obtain ⟨t, h1, h2⟩ := before_l0 hl hs d (i + 1) k (by omega) (by omega)
      refine ⟨t, h1, h2.trans (not_congr ?_)⟩
      simp only [lexLe]
      constructor
      · exact fun hh => .inr ⟨he.symm, hh⟩
      · rintro (hh | ⟨_, hh⟩)
        · omega
        · exact hh
    · rw [if_neg he]
      refine ⟨_, rfl, ?_⟩
      simp only [lexLe, decide_eq_true_eq]
      constructor
      · rintro hh (h3 | ⟨h3, _⟩) <;> omega
      · intro hh
        have : ¬ b[i] < a[i] := fun h3 => hh (.inl h3)
        omega
theorem before_ok (a b : List Int) (ha : a.length ≤ 1000000) {k : Nat} (hk : a.length + 1 < k) :
    ∃ t, PS.assessorref09_before.f k a b = some t ∧ (t = true ↔ b = [] ∨ ¬ SLe b a) := by
  obtain ⟨k, rfl⟩ : ∃ m, k = m + 1 := ⟨k - 1, by omega⟩
  unfold PS.assessorref09_before.f
  by_cases hb : (b.length : Int) = 0
  · have : b = [] := List.length_eq_zero_iff.1 (by omega)
    rw [if_pos hb, PS.assessorref09_before.j0, if_pos rfl, if_pos hb]
    exact ⟨true, rfl, by simp [this]⟩
  · have hne : b ≠ [] := fun hh => hb (by rw [hh]; rfl)
    rw [if_neg hb]
    by_cases hl : a.length = b.length
    · have : ((a.length : Int) != (b.length : Int)) = false := by simp; omega
      rw [this, PS.assessorref09_before.j0, if_neg (by decide)]
      obtain ⟨t, h1, h2⟩ := before_l0 hl ha a.length 0 k (by omega) (by omega)
      refine ⟨t, h1, h2.trans ?_⟩
      rw [List.drop_zero, List.drop_zero]
      constructor
      · intro hh
        refine .inr ?_
        rintro (h3 | ⟨_, h3⟩)
        · omega
        · exact hh h3
      · rintro (hh | hh)
        · exact absurd hh hne
        · exact fun h3 => hh (.inr ⟨hl.symm, h3⟩)
    · have : ((a.length : Int) != (b.length : Int)) = true := by simp; omega
      rw [this, PS.assessorref09_before.j0, if_pos rfl, if_neg hb]
      refine ⟨_, rfl, ?_⟩
      rw [decide_eq_true_eq]
      constructor
      · intro hh
        refine .inr ?_
        rintro (h3 | ⟨h3, _⟩) <;> omega
      · rintro (hh | hh)
        · exact absurd hh hne
        · have : ¬ b.length < a.length := fun h3 => hh (.inl h3)
          omega
/-- constraint j leads from v dt nx, one step nearer -/
def WStep (L : List S36) (dt : List Int) (v : Int) (j : Nat) (nx : Int) : Prop :=
  (cAt L j).f0 = 1 ∧ (((cAt L j).f1 = v ∧ nx = (cAt L j).f2) ∨ ((cAt L j).f1 ≠ v ∧ (cAt L j).f2 = v ∧ nx = (cAt L j).f1)) ∧ rd dt nx = rd dt v - 1
theorem way_l1 {N : Nat} {L : List S36} (hV : Valid N L) (hl : L.length ≤ 1000000) {dt : List Int} (ht : dt.length = N) {v : Int} (hv : InN N v) (hr : 0 ≤ rd dt v ∧ rd dt v ≤ 1000000) {out : List Int} (ho : out.length ≤ 1000000) :
    ∀ (c i k : Nat), i + c = L.length → c < k → (∃ j nx, i ≤ j ∧ j < L.length ∧ WStep L dt v j nx) →
    ∃ j nx k', i ≤ j ∧ j < L.length ∧ WStep L dt v j nx ∧ (∀ j' nx', i ≤ j' → j' < j → ¬ WStep L dt v j' nx') ∧ k ≤ k' + c ∧ PS.assessorref09_way.l1 k L dt out v i = PS.assessorref09_way.l0 k' L dt (out ++ [(j : Int)]) nx
  | 0, i, k, h, hk, hex => by
    obtain ⟨j, nx, h1, h2, _⟩ := hex
    omega
  | c + 1, i, k, h, hk, hex => by
    obtain ⟨k, rfl⟩ : ∃ m, k = m + 1 := ⟨k - 1, by omega⟩
    have hi : i < L.length := by omega
    have hwr : wrap64 ((i : Int) + 1) = ((i + 1 : Nat) : Int) := by rw [wrap_small _ (by omega)]; omega
    have hw1 : wrap64 (rd dt v - 1) = rd dt v - 1 := wrap_small _ (by omega)
    have next : (∀ nx, ¬ WStep L dt v i nx) → PS.assessorref09_way.l1 (k + 1) L dt out v i = PS.assessorref09_way.l1 k L dt out v ((i + 1 : Nat) : Int) →
        ∃ j nx k', i ≤ j ∧ j < L.length ∧ WStep L dt v j nx ∧ (∀ j' nx', i ≤ j' → j' < j → ¬ WStep L dt v j' nx') ∧ k + 1 ≤ k' + (c + 1) ∧ PS.assessorref09_way.l1 (k + 1) L dt out v i = PS.assessorref09_way.l0 k' L dt (out ++ [(j : Int)]) nx := fun hno he => by
      obtain ⟨j, nx, k', g1, g2, g3, g4, g5, g6⟩ := way_l1 hV hl ht hv hr ho c (i + 1) k (by omega) (by omega) (by
        obtain ⟨j, nx, h1, h2, h3⟩ := hex
        refine ⟨j, nx, ?_, h2, h3⟩
        rcases Nat.eq_or_lt_of_le h1 with rfl | h4
        · exact absurd h3 (hno nx)
        · omega)
      refine ⟨j, nx, k', by omega, g2, g3, fun j' nx' h1 h2 => ?_, by omega, he.trans g6⟩
      rcases Nat.eq_or_lt_of_le h1 with rfl | h4
      · exact hno nx'
      · exact g4 j' nx' (by omega) h2
    have found : ∀ nx, WStep L dt v i nx → PS.assessorref09_way.l1 (k + 1) L dt out v i = PS.assessorref09_way.l0 k L dt (out ++ [(i : Int)]) nx →
        ∃ j nx k', i ≤ j ∧ j < L.length ∧ WStep L dt v j nx ∧ (∀ j' nx', i ≤ j' → j' < j → ¬ WStep L dt v j' nx') ∧ k + 1 ≤ k' + (c + 1) ∧ PS.assessorref09_way.l1 (k + 1) L dt out v i = PS.assessorref09_way.l0 k' L dt (out ++ [(j : Int)]) nx := fun nx hs he =>
      ⟨i, nx, k, Nat.le_refl _, hi, hs, fun j' nx' h1 h2 => by omega, by omega, he⟩
    have hva := hV _ (at_memN hi)
    have e : PS.assessorref09_way.l1 (k + 1) L dt out v i = _ := PS.assessorref09_way.l1.eq_def _ _ _ _ _ _
    simp only at e
    rw [if_pos (by omega), if_pos (by omega), hwr, hw1] at e
    by_cases h0 : (rd_T36 L i).f0 = 1
    · have hB : InN N (cAt L i).f2 := by
        rcases hva.2 with h | h
        · have : (cAt L i).f0 = 1 := h0
          omega
        · exact h.2
      have hB' : 0 ≤ (rd_T36 L i).f2 ∧ (rd_T36 L i).f2 < (N : Int) := hB
      have hA' : 0 ≤ (rd_T36 L i).f1 ∧ (rd_T36 L i).f1 < (N : Int) := hva.1
      have hv' : 0 ≤ v ∧ v < (N : Int) := hv
      rw [if_pos h0] at e
      by_cases h1 : (rd_T36 L i).f1 = v
      · rw [if_pos h1, if_pos (by omega), if_pos (by omega), if_pos (by omega), if_pos (by omega), if_pos (by omega)] at e
        by_cases h2 : rd dt (rd_T36 L i).f2 = rd dt v - 1
        · rw [if_pos h2, if_pos (by omega)] at e
          exact found _ ⟨h0, .inl ⟨h1, rfl⟩, h2⟩ e
        · rw [if_neg h2] at e
          refine next ?_ e
          rintro nx ⟨_, ⟨_, rfl⟩ | ⟨h3, _⟩, h4⟩
          · exact h2 h4
          · exact h3 h1
      · rw [if_neg h1] at e
        by_cases h2 : (rd_T36 L i).f2 = v
        · rw [if_pos h2, if_pos (by omega), if_pos (by omega), if_pos (by omega), if_pos (by omega), if_pos (by omega)] at e
          by_cases h3 : rd dt (rd_T36 L i).f1 = rd dt v - 1
          · rw [if_pos h3, if_pos (by omega)] at e
            exact found _ ⟨h0, .inr ⟨h1, h2, rfl⟩, h3⟩ e
          · rw [if_neg h3] at e
            refine next ?_ e
            rintro nx ⟨_, ⟨h4, _⟩ | ⟨_, _, rfl⟩, h4⟩
            · exact h1 h4
            · exact h3 h4
        · rw [if_neg h2, if_neg (by omega)] at e
          refine next ?_ e
          rintro nx ⟨_, ⟨h4, _⟩ | ⟨_, h4, _⟩, _⟩
          · exact h1 h4
          · exact h2 h4
    · rw [if_neg h0] at e
      exact next (fun nx hs => h0 hs.1) e
theorem way_ok {N : Nat} {L : List S36} (hV : Valid N L) (hl : L.length ≤ 80) {dt : List Int} {f : Int} (hf : InN N f) (hT : FarL N L [f] dt) (hN : N ≤ 1000) :
    ∀ (n k : Nat) (out : List Int) (v : Int), InN N v → rd dt v = n → out.length + n ≤ 10000 → 100 * (n + 1) ≤ k →
    ∃ p, PS.assessorref09_way.l0 k L dt out v = some (out ++ p) ∧ p.length = n ∧ wayC L v p = some f ∧ (∀ i ∈ p, 0 ≤ i ∧ i < (L.length : Int)) ∧
      ∀ p', (∀ i ∈ p', 0 ≤ i ∧ i < (L.length : Int)) → wayC L v p' = some f → p'.length = n → lexLe p p'
  | 0, k, out, v, hv, hr, ho, hk => by
    obtain ⟨k, rfl⟩ : ∃ m, k = m + 1 := ⟨k - 1, by omega⟩
    have hvl : 0 ≤ v ∧ v < (dt.length : Int) := by rw [hT.len]; exact hv
    rw [PS.assessorref09_way.l0, if_pos hvl.1, if_pos hvl.2, if_neg (by omega)]
    have hvf : v = f := by
      rcases hT.far v hv with ⟨h1, _⟩ | ⟨m, h1, _, ⟨g, hg, h3⟩, _⟩
      · omega
      · have : m = 0 := by omega
        subst this
        rw [List.mem_singleton.1 hg] at h3
        generalize hz : (0 : Nat) = z at h3
        cases h3 with
        | nil => rfl
        | snoc _ _ => cases hz
    refine ⟨[], by rw [List.append_nil], rfl, by simp [wayC, hvf], (fun i hi => by cases hi), fun p' _ _ _ => trivial⟩
  | n + 1, k, out, v, hv, hr, ho, hk => by
    obtain ⟨k, rfl⟩ : ∃ m, k = m + 1 := ⟨k - 1, by omega⟩
    have hvl : 0 ≤ v ∧ v < (dt.length : Int) := by rw [hT.len]; exact hv
    have hfm : f ∈ [f] := List.mem_singleton.2 rfl
    have hnN : n + 1 < N := by
      rcases hT.far v hv with ⟨h1, _⟩ | ⟨m, h1, h2, _⟩
      · omega
      · omega
    rw [PS.assessorref09_way.l0, if_pos hvl.1, if_pos hvl.2, if_pos (by omega)]
    -- a neighbour that is nearer is a step
    have stp : ∀ u, InN N u → AdjL L v u → 0 ≤ rd dt u → rd dt u ≤ n → rd dt u = rd dt v - 1 := fun u hu ha h0 h1 => by
      have := far_adj hT hv hu ha h0
      omega
    have hex : ∃ j nx, 0 ≤ j ∧ j < L.length ∧ WStep L dt v j nx := by
      rcases hT.far v hv with ⟨h1, _⟩ | ⟨m, h1, _, ⟨g, hg, h3⟩, _⟩
      · omega
      · have : m = n + 1 := by omega
        subst this
        rw [List.mem_singleton.1 hg] at h3
        generalize hz : n + 1 = z at h3
        cases h3 with
        | nil => cases hz
        | snoc hw ha =>
          rename_i n' u
          obtain rfl : n = n' := by omega
          have hu := wkL_in hV hf hw
          have hfar := far_le hT hu hfm hw.symm
          obtain ⟨c, hc, h0, h4⟩ := ha
          obtain ⟨j, hj, _, hjc⟩ := mem_at hc
          have hst := stp u hu (AdjL.symm ⟨c, hc, h0, h4⟩) hfar.1 hfar.2
          rw [← hjc] at h0 h4
          by_cases hA : (cAt L j).f1 = v
          · refine ⟨j, (cAt L j).f2, Nat.zero_le _, hj, h0, .inl ⟨hA, rfl⟩, ?_⟩
            rcases h4 with ⟨h5, h6⟩ | ⟨h5, h6⟩
            · rw [h6, ← hA, h5]; rw [← hA, h5] at hst; exact hst
            · rw [h5]; exact hst
          · rcases h4 with ⟨h5, h6⟩ | ⟨h5, h6⟩
            · exact ⟨j, _, Nat.zero_le _, hj, h0, .inr ⟨hA, h6, rfl⟩, by rw [h5]; exact hst⟩
            · exact absurd h6 hA
    obtain ⟨j, nx, k', g1, g2, g3, g4, g5, g6⟩ := way_l1 hV (by omega) hT.len hv (by omega) (out := out) (by omega) L.length 0 k (by omega) (by omega) hex
    rw [show ((0 : Nat) : Int) = 0 from rfl] at g6
    have hva := hV _ (at_memN g2)
    have hB : InN N (cAt L j).f2 := by
      rcases hva.2 with h | h
      · have := g3.1
        omega
      · exact h.2
    have hnx : InN N nx := by
      rcases g3.2.1 with ⟨_, h⟩ | ⟨_, _, h⟩
      · rw [h]; exact hB
      · rw [h]; exact hva.1
    obtain ⟨p, w1, w2, w3, w4, w5⟩ := way_ok hV hl hf hT hN n k' (out ++ [(j : Int)]) nx hnx (by have := g3.2.2; omega) (by simp; omega) (by omega)
    have hway : ∀ q, wayC L v ((j : Int) :: q) = wayC L nx q := fun q => by
      simp only [wayC]
      rw [if_pos g3.1]
      rcases g3.2.1 with ⟨h1, h⟩ | ⟨h1, h2, h⟩
      · rw [if_pos h1, h]
      · rw [if_neg h1, if_pos h2, h]
    refine ⟨(j : Int) :: p, by rw [g6, w1]; simp, by simp [w2], by rw [hway]; exact w3, fun i hi => ?_, fun p' hr' hw' hlen => ?_⟩
    · rcases List.mem_cons.1 hi with rfl | hi
      · omega
      · exact w4 i hi
    · cases p' with
      | nil => simp at hlen
      | cons i q =>
        have hi := hr' i (List.mem_cons_self ..)
        obtain ⟨i', rfl⟩ := Int.eq_ofNat_of_zero_le hi.1
        have hi' : i' < L.length := by omega
        have hq : q.length = n := by simpa using hlen
        have hs : ∃ u, WStep L dt v i' u := by
          simp only [wayC] at hw'
          split at hw'
          case isFalse => cases hw'
          rename_i h0
          have hva' := hV _ (at_memN hi')
          have hB' : InN N (cAt L i').f2 := by
            rcases hva'.2 with h | h
            · have : (cAt L i').f0 = 1 := h0
              omega
            · exact h.2
          split at hw'
          · rename_i h1
            have hwk := wayC_wk q _ _ (fun x hx => hr' x (List.mem_cons_of_mem _ hx)) hw'
            have hfar := far_le hT hB' hfm hwk
            exact ⟨_, h0, .inl ⟨h1, rfl⟩, stp _ hB' ⟨_, at_memN hi', h0, .inl ⟨h1, rfl⟩⟩ hfar.1 (by omega)⟩
          · rename_i h1
            split at hw'
            case isFalse => cases hw'
            rename_i h2
            have hwk := wayC_wk q _ _ (fun x hx => hr' x (List.mem_cons_of_mem _ hx)) hw'
            have hfar := far_le hT hva'.1 hfm hwk
            exact ⟨_, h0, .inr ⟨h1, h2, rfl⟩, stp _ hva'.1 ⟨_, at_memN hi', h0, .inr ⟨h2, rfl⟩⟩ hfar.1 (by omega)⟩
        obtain ⟨u, hu⟩ := hs
        have hge : j ≤ i' := by
          rcases Nat.lt_or_ge i' j with h | h
          · exact absurd hu (g4 i' u (Nat.zero_le _) h)
          · exact h
        simp only [lexLe]
        rcases Nat.eq_or_lt_of_le hge with he | hlt
        · refine .inr ⟨by omega, w5 q (fun x hx => hr' x (List.mem_cons_of_mem _ hx)) ?_ hq⟩
          rw [← he, hway] at hw'
          exact hw'
        · exact .inl (by omega)
end Go.Proofs.Ytjbafigageingaa

namespace Go.Proofs.Ytjbafigageingaa.PS
open Go.Proofs.Ytjbafigageingaa.PR Go.Proofs.Ytjbafigageingaa.PF
open Go.RowKit Go.Proofs.YtjbafigageingaaW.PrintWords Go.Proofs.YtjbafigageingaaW.PrintLast Go.Proofs.YtjbafigageingaaW.PrintMore
attribute [local go_sem] max2_int min2_int max_two min_two max_three min_three max_four min_four
set_option linter.unusedVariables false
set_option linter.unusedSimpArgs false

mutual
def assessorref09_Solve.l0 : Nat → Int → List (S36) → List (S23) → List (List Int) → List Bool → Int → Option ((List (S23)) × (List (List Int)) × Int)
 | 0, _, _, _, _, _, _ => none
 | k + 1, x0, x1, x8, x9, x10, x11 => if x11 < x0 then (if 0 ≤ x11 then (if x11 < (x10.length : Int) then (if rdOf false x10 x11 = true then (assessorref09_Solve.l0 k x0 x1 x8 x9 x10 (wrap64 (x11 + 1))) else ((assessorref09_distances.f k x0 x1 x11).bind fun t179 => (assessorref09_Solve.l1 k x0 x1 x8 x9 x10 x11 t179 (([] : List Int)) 0 0 0 (⟨#[]⟩ : ByteArray)))) else (none)) else (none)) else (some (x8, x9, 0))
def assessorref09_Solve.l1 : Nat → Int → List (S36) → List (S23) → List (List Int) → List Bool → Int → List Int → List Int → Int → Int → Int → ByteArray → Option ((List (S23)) × (List (List Int)) × Int)
 | 0, _, _, _, _, _, _, _, _, _, _, _, _ => none
 | k + 1, x0, x1, x8, x9, x10, x11, x12, x13, x15, x186000, x186001, x186002 => if x15 < (x1.length : Int) then (if 0 ≤ x15 then (if ((rd_T36 x1 x15).f0) = 0 then (if 0 ≤ ((rd_T36 x1 x15).f1) then (if ((rd_T36 x1 x15).f1) < (x12.length : Int) then (assessorref09_Solve.j2 k x0 x1 x8 x9 x10 x11 x12 x13 x15 (decide ((rd x12 ((rd_T36 x1 x15).f1)) < 0)) x186000 x186001 x186002) else (none)) else (none)) else (assessorref09_Solve.j2 k x0 x1 x8 x9 x10 x11 x12 x13 x15 true x186000 x186001 x186002)) else (none)) else (if (x13.length : Int) > 0 then (if x9.length < 5864062014805 then (assessorref09_Solve.j9 k x0 x1 x8 (x9 ++ [x13]) x10 x11 x12 0 0 (⟨#[]⟩ : ByteArray)) else (none)) else (assessorref09_Solve.j9 k x0 x1 x8 x9 x10 x11 x12 x186000 x186001 x186002))
def assessorref09_Solve.j2 : Nat → Int → List (S36) → List (S23) → List (List Int) → List Bool → Int → List Int → List Int → Int → Bool → Int → Int → ByteArray → Option ((List (S23)) × (List (List Int)) × Int)
 | 0, _, _, _, _, _, _, _, _, _, _, _, _, _ => none
 | k + 1, x0, x1, x8, x9, x10, x11, x12, x13, x15, x68, x186000, x186001, x186002 => if x68 = true then (assessorref09_Solve.l1 k x0 x1 x8 x9 x10 x11 x12 x13 (wrap64 (x15 + 1)) x186000 x186001 x186002) else (if 0 ≤ x15 then (if x15 < (x1.length : Int) then (if ((rd_T36 x1 x15).f3.f0) = 5 then (assessorref09_Solve.j3 k x0 x1 x8 x9 x10 x11 x12 x13 x15 false x186000 x186001 x186002) else (assessorref09_Solve.j3 k x0 x1 x8 x9 x10 x11 x12 x13 x15 (((rd_T36 x1 x15).f3.f0) != 6) x186000 x186001 x186002)) else (none)) else (none))
def assessorref09_Solve.j3 : Nat → Int → List (S36) → List (S23) → List (List Int) → List Bool → Int → List Int → List Int → Int → Bool → Int → Int → ByteArray → Option ((List (S23)) × (List (List Int)) × Int)
 | 0, _, _, _, _, _, _, _, _, _, _, _, _, _ => none
 | k + 1, x0, x1, x8, x9, x10, x11, x12, x13, x15, x84, x186000, x186001, x186002 => if x84 = true then (if 0 ≤ x15 then (if x15 < (x1.length : Int) then (assessorref09_Solve.j4 k x0 x1 x8 x9 x10 x11 x12 x13 x15 ((rd_T36 x1 x15).f3.f0) ((rd_T36 x1 x15).f3.f1) ((rd_T36 x1 x15).f3.f2)) else (none)) else (none)) else (assessorref09_Solve.j4 k x0 x1 x8 x9 x10 x11 x12 x13 x15 x186000 x186001 x186002)
def assessorref09_Solve.j4 : Nat → Int → List (S36) → List (S23) → List (List Int) → List Bool → Int → List Int → List Int → Int → Int → Int → ByteArray → Option ((List (S23)) × (List (List Int)) × Int)
 | 0, _, _, _, _, _, _, _, _, _, _, _, _ => none
 | k + 1, x0, x1, x8, x9, x10, x11, x12, x13, x15, x186000, x186001, x186002 => assessorref09_Solve.l2 k x0 x1 x8 x9 x10 x11 x12 x13 x15 (([] : List Int)) 0 x186000 x186001 x186002
def assessorref09_Solve.l2 : Nat → Int → List (S36) → List (S23) → List (List Int) → List Bool → Int → List Int → List Int → Int → List Int → Int → Int → Int → ByteArray → Option ((List (S23)) × (List (List Int)) × Int)
 | 0, _, _, _, _, _, _, _, _, _, _, _, _, _, _ => none
 | k + 1, x0, x1, x8, x9, x10, x11, x12, x13, x15, x16, x17, x186000, x186001, x186002 => if x17 < x15 then (if 0 ≤ x17 then (if x17 < (x1.length : Int) then (if ((rd_T36 x1 x17).f0) = 0 then (if 0 ≤ ((rd_T36 x1 x17).f1) then (if ((rd_T36 x1 x17).f1) < (x12.length : Int) then (if (rd x12 ((rd_T36 x1 x17).f1)) < 0 then (assessorref09_Solve.j6 k x0 x1 x8 x9 x10 x11 x12 x13 x15 x16 x17 true x186000 x186001 x186002) else (if 0 ≤ x15 then (if x15 < (x1.length : Int) then ((assessorref09_Exclude.f k ((rd_T36 x1 x17).f3.f0) ((rd_T36 x1 x17).f3.f1) ((rd_T36 x1 x17).f3.f2) ((rd_T36 x1 x15).f3.f0) ((rd_T36 x1 x15).f3.f1) ((rd_T36 x1 x15).f3.f2)).bind fun t200 => (assessorref09_Solve.j6 k x0 x1 x8 x9 x10 x11 x12 x13 x15 x16 x17 (!t200) x186000 x186001 x186002)) else (none)) else (none))) else (none)) else (none)) else (assessorref09_Solve.j6 k x0 x1 x8 x9 x10 x11 x12 x13 x15 x16 x17 true x186000 x186001 x186002)) else (none)) else (none)) else (assessorref09_Solve.l1 k x0 x1 x8 x9 x10 x11 x12 x13 (wrap64 (x15 + 1)) x186000 x186001 x186002)
def assessorref09_Solve.j6 : Nat → Int → List (S36) → List (S23) → List (List Int) → List Bool → Int → List Int → List Int → Int → List Int → Int → Bool → Int → Int → ByteArray → Option ((List (S23)) × (List (List Int)) × Int)
 | 0, _, _, _, _, _, _, _, _, _, _, _, _, _, _, _ => none
 | k + 1, x0, x1, x8, x9, x10, x11, x12, x13, x15, x16, x17, x126, x186000, x186001, x186002 => if x126 = true then (assessorref09_Solve.l2 k x0 x1 x8 x9 x10 x11 x12 x13 x15 x16 (wrap64 (x17 + 1)) x186000 x186001 x186002) else (if (x16.length : Int) = 0 then (if 0 ≤ x15 then (if x15 < (x1.length : Int) then ((assessorref09_distances.f k x0 x1 ((rd_T36 x1 x15).f1)).bind fun t202 => (assessorref09_Solve.j7 k x0 x1 x8 x9 x10 x11 x12 x13 x15 t202 x17 x186000 x186001 x186002)) else (none)) else (none)) else (assessorref09_Solve.j7 k x0 x1 x8 x9 x10 x11 x12 x13 x15 x16 x17 x186000 x186001 x186002))
def assessorref09_Solve.j7 : Nat → Int → List (S36) → List (S23) → List (List Int) → List Bool → Int → List Int → List Int → Int → List Int → Int → Int → Int → ByteArray → Option ((List (S23)) × (List (List Int)) × Int)
 | 0, _, _, _, _, _, _, _, _, _, _, _, _, _, _ => none
 | k + 1, x0, x1, x8, x9, x10, x11, x12, x13, x15, x16, x17, x186000, x186001, x186002 => if (x13.length : Int) > 0 then (if 0 ≤ x17 then (if x17 < (x1.length : Int) then (if 0 ≤ ((rd_T36 x1 x17).f1) then (if ((rd_T36 x1 x17).f1) < (x16.length : Int) then (assessorref09_Solve.j8 k x0 x1 x8 x9 x10 x11 x12 x13 x15 x16 x17 (decide ((wrap64 ((rd x16 ((rd_T36 x1 x17).f1)) + 2)) > (x13.length : Int))) x186000 x186001 x186002) else (none)) else (none)) else (none)) else (none)) else (assessorref09_Solve.j8 k x0 x1 x8 x9 x10 x11 x12 x13 x15 x16 x17 false x186000 x186001 x186002)
def assessorref09_Solve.j8 : Nat → Int → List (S36) → List (S23) → List (List Int) → List Bool → Int → List Int → List Int → Int → List Int → Int → Bool → Int → Int → ByteArray → Option ((List (S23)) × (List (List Int)) × Int)
 | 0, _, _, _, _, _, _, _, _, _, _, _, _, _, _, _ => none
 | k + 1, x0, x1, x8, x9, x10, x11, x12, x13, x15, x16, x17, x154, x186000, x186001, x186002 => if x154 = true then (assessorref09_Solve.l2 k x0 x1 x8 x9 x10 x11 x12 x13 x15 x16 (wrap64 (x17 + 1)) x186000 x186001 x186002) else ((some (([x17] : List Int) : List Int)).bind fun y207 => (if 0 ≤ x17 then (if x17 < (x1.length : Int) then ((assessorref09_way.f k x1 ((rd_T36 x1 x17).f1) x16).bind fun t211 => (if y207.length + t211.length < 17592186044416 then ((some (y207 ++ t211 : List Int)).bind fun y214 => (if y214.length < 17592186044416 then ((some (y214 ++ [x15] : List Int)).bind fun y217 => ((assessorref09_before.f k y217 x13).bind fun t220 => (if t220 = true then (assessorref09_Solve.l2 k x0 x1 x8 x9 x10 x11 x12 y217 x15 x16 (wrap64 (x17 + 1)) x186000 x186001 x186002) else (assessorref09_Solve.l2 k x0 x1 x8 x9 x10 x11 x12 x13 x15 x16 (wrap64 (x17 + 1)) x186000 x186001 x186002)))) else (none))) else (none))) else (none)) else (none)))
def assessorref09_Solve.j9 : Nat → Int → List (S36) → List (S23) → List (List Int) → List Bool → Int → List Int → Int → Int → ByteArray → Option ((List (S23)) × (List (List Int)) × Int)
 | 0, _, _, _, _, _, _, _, _, _, _ => none
 | k + 1, x0, x1, x8, x9, x10, x11, x12, x186000, x186001, x186002 => assessorref09_Solve.l3 k x0 x1 x8 x9 x10 x11 x12 0 x186000 x186001 x186002
def assessorref09_Solve.l3 : Nat → Int → List (S36) → List (S23) → List (List Int) → List Bool → Int → List Int → Int → Int → Int → ByteArray → Option ((List (S23)) × (List (List Int)) × Int)
 | 0, _, _, _, _, _, _, _, _, _, _, _ => none
 | k + 1, x0, x1, x8, x9, x10, x11, x12, x19, x186000, x186001, x186002 => if x19 < x0 then (if 0 ≤ x19 then (if x19 < (x12.length : Int) then (if (rd x12 x19) ≥ 0 then (if x19 < (x8.length : Int) then (if x19 < (x10.length : Int) then (assessorref09_Solve.l3 k x0 x1 (x8.set (x19 : Int).toNat (⟨x186000, x186001, x186002⟩ : S23)) x9 (x10.set (x19 : Int).toNat true) x11 x12 (wrap64 (x19 + 1)) x186000 x186001 x186002) else (none)) else (none)) else (assessorref09_Solve.l3 k x0 x1 x8 x9 x10 x11 x12 (wrap64 (x19 + 1)) x186000 x186001 x186002)) else (none)) else (none)) else (assessorref09_Solve.l0 k x0 x1 x8 x9 x10 (wrap64 (x11 + 1)))
end
def assessorref09_Solve.f (k : Nat) (a0 : Int) (l1 : List (S36)) : Option ((List (S23)) × (List (List Int)) × Int) := (assessorref09_valid.f k a0 l1).bind fun t168 => (if t168 = 0 then (if 0 ≤ a0 then (if (a0 : Int).toNat ≤ 8796093022208 then (if (a0 : Int).toNat ≤ 281474976710656 then (assessorref09_Solve.l0 k a0 l1 (List.replicate (a0 : Int).toNat z23) (([] : List (List Int))) (List.replicate (a0 : Int).toNat false) 0) else (none)) else (none)) else (none)) else (some (([] : List (S23)), ([] : List (List Int)), t168)))
def assessorref09_Solve.T24 : Bool × List (List Nat × List Nat) := (true, [([], []), ([], []), ([0, 1], [0, 1]), ([2], [2]), ([3], [3]), ([4], [4]), ([5], [5]), ([6], [6]), ([6], [6]), ([6], [6]), ([8, 9, 6], [6, 8, 9]), ([10, 6], [6, 10]), ([11, 6], [6, 11]), ([7, 12, 6], [6, 7, 12]), ([13, 6], [6, 13]), ([14, 6], [6, 14]), ([6, 15], [6, 15]), ([16, 6], [16]), ([17], [17]), ([17], [17]), ([18, 19, 17], [17, 18, 19]), ([20, 17], [17, 20]), ([21, 17], [17, 21]), ([17], [17]), ([17], [17]), ([23, 24, 17], [17, 23, 24]), ([25, 17], [17, 25]), ([26, 17], [17, 26]), ([22, 27, 17, 17], [17, 22, 27]), ([28, 17], [17, 28]), ([17, 29], [17, 29])])
def assessorref09_Solve.B24 : List Nat := [0, 0, 3, 7, 15, 31, 63, 127, 127, 127, 895, 1919, 3967, 8191, 16383, 32767, 65535, 131071, 262143, 262143, 1048575, 2097151, 4194303, 262143, 262143, 25427967, 58982399, 126091263, 268435455, 536870911, 1073741823]
theorem assessorref09_Solve.tab24 : rtab .any (opsOf Try.f17 24) = assessorref09_Solve.T24 := by kernel_rfl
theorem assessorref09_Solve.bits24 : waitsOk assessorref09_Solve.T24.2 assessorref09_Solve.B24 = true := by kernel_rfl
end Go.Proofs.Ytjbafigageingaa.PS
