import Derived.Test.YtjbafigageingaaKsM1
import Derived.Test.YtjbafigageingaaKsPRx5
namespace Go.Proofs.Ytjbafigageingaa.PR
open Go.RowKit Go.Proofs.YtjbafigageingaaW.PrintWords Go.Proofs.YtjbafigageingaaW.PrintLast Go.Proofs.YtjbafigageingaaW.PrintMore
attribute [local go_sem] max2_int min2_int max_two min_two max_three min_three max_four min_four
set_option linter.unusedVariables false
set_option linter.unusedSimpArgs false

attribute [local go_sem high] eqA23 eqA65
def assessorref08_Equal.l0 : Nat → List (S23) → List (S23) → Int → Option (Bool)
 | 0, _, _, _ => none
 | k + 1, x0, x1, x5 => if x5 < (x0.length : Int) then (if 0 ≤ x5 then (if x5 < (x1.length : Int) then (if (!(((rd_T23 x0 x5).f0) == ((rd_T23 x1 x5).f0)) || (!(((rd_T23 x0 x5).f1) == ((rd_T23 x1 x5).f1)) || (!((((rd_T23 x0 x5).f2).toList) == (((rd_T23 x1 x5).f2).toList))))) = true then (some false) else (assessorref08_Equal.l0 k x0 x1 (wrap64 (x5 + 1)))) else (none)) else (none)) else (some true)
def assessorref08_Equal.f (k : Nat) (l0 : List (S23)) (l1 : List (S23)) : Option (Bool) := if (l0.length : Int) = (l1.length : Int) then (assessorref08_Equal.l0 k l0 l1 0) else (some false)
set_option maxHeartbeats 8000000 in
set_option maxRecDepth 100000 in
theorem assessorref08_Equal.calls (k : Nat) (A0 : Option Addr) (c0 : Nat) (l0 : List (S23)) (A1 : Option Addr) (c1 : Nat) (l1 : List (S23)) (r : Bool) (w : World) (hr0 : Kd.C k23 w A0 l0.length l0) (hc0 : l0.length ≤ c0) (hr1 : Kd.C k23 w A1 l1.length l1) (hc1 : l1.length ≤ c1) (h : assessorref08_Equal.f k l0 l1 = some r) :
  Calls Try.prog 16 #[.slice A0 l0.length c0, .slice A1 l1.length c1] w fun e w' => e = .returned (.bool r) ∧ Drawn0 w w' := by
 have hu23 := Try.underlying23
 have HR0 := Aside0.mk hr0
 have HC0 := Aside0.mk hc0
 clear hr0 hc0
 have HR1 := Aside0.mk hr1
 have HC1 := Aside0.mk hc1
 clear hr1 hc1
 have H : (if (l0.length : Int) = (l1.length : Int) then (assessorref08_Equal.l0 k l0 l1 0) else (some false)) = some r := h
 clear h
 by_cases c3 : (l0.length : Int) = (l1.length : Int)
 ·
  rw [if_pos c3] at H
  have c3b0 : ((l0.length : Int) == (l1.length : Int)) = true := beq_iff_eq.mpr c3
  have c3b1 : ((l0.length : Int) != (l1.length : Int)) = false := bne_eq_false_iff_eq.mpr c3
  have c3b2 : (l0.length == l1.length) = true := by first | simpa using c3 | (simp at c3 ⊢; omega)
  clear c3; have H' := Aside0.mk H; clear H
  go_enter Try.func16, Try.ntmps16
  go_wp2
  repeat (go_quiet (fail); try go_wp2)
  go_loopg [5] k (fun kq v5 w' => ∃ (x5_1 : Int), v5 = .int .i64 x5_1 ∧ Aside0 (assessorref08_Equal.l0 kq l0 l1 x5_1 = some r) ∧ Aside0 (kq ≤ k) ∧ Drawn0 w w')
  case atStart => exact ⟨(0), (by first | rfl | (simp; done) | (simp [*]; done)), H', ⟨Nat.le_refl _⟩, by repeat (first | exact Drawn0.refl _ | apply Drawn0.step)⟩
  case round =>
   clear H'; (try clear c1); (try clear p2); (try clear c3); (try clear c3b0); (try clear c3b1); (try clear c3b2)
   obtain ⟨x5_1, rfl, HA, HK1, ⟨m1, rfl⟩⟩ := hrel
   cases gk with
   | zero => exact absurd HA.out (by simp [assessorref08_Equal.l0])
   | succ k1 =>
    have H := HA.out
    clear HA
    simp only [assessorref08_Equal.l0] at H
    by_cases c4 : x5_1 < (l0.length : Int)
    ·
     rw [if_pos c4] at H
     have c4b0 : decide (x5_1 < (l0.length : Int)) = true := decide_eq_true c4
     clear c4
     by_cases c5 : 0 ≤ x5_1
     ·
      rw [if_pos c5] at H
      have c5b0 : decide (0 ≤ x5_1) = true := decide_eq_true c5
      clear c5
      by_cases c6 : x5_1 < (l1.length : Int)
      ·
       rw [if_pos c6] at H
       have c6b0 : decide (x5_1 < (l1.length : Int)) = true := decide_eq_true c6
       clear c6
       by_cases c7 : (!(((rd_T23 l0 x5_1).f0) == ((rd_T23 l1 x5_1).f0)) || (!(((rd_T23 l0 x5_1).f1) == ((rd_T23 l1 x5_1).f1)) || (!((((rd_T23 l0 x5_1).f2).toList) == (((rd_T23 l1 x5_1).f2).toList))))) = true
       ·
        rw [if_pos c7] at H
        have c7b0 : (!(((rd_T23 l0 x5_1).f0) == ((rd_T23 l1 x5_1).f0)) || (!(((rd_T23 l0 x5_1).f1) == ((rd_T23 l1 x5_1).f1)) || (!((((rd_T23 l0 x5_1).f2).toList) == (((rd_T23 l1 x5_1).f2).toList))))) = true := c7
        clear c7
        obtain rfl := Option.some.inj H
        have p147 : 0 ≤ (x5_1 : Int) := of_decide_eq_true (by assumption)
        have q147 : x5_1 < (l0.length : Int) := of_decide_eq_true (by assumption)
        obtain ⟨ad147, e147, hx147_0, hx147_1, hx147_2⟩ := at_T23 HR0.out x5_1 p147 q147
        cases e147; replace p147 := eq_true p147; replace q147 := eq_true q147
        have p148 : 0 ≤ (x5_1 : Int) := of_decide_eq_true (by assumption)
        have q148 : x5_1 < (l1.length : Int) := of_decide_eq_true (by assumption)
        obtain ⟨ad148, e148, hx148_0, hx148_1, hx148_2⟩ := at_T23 HR1.out x5_1 p148 q148
        cases e148; replace p148 := eq_true p148; replace q148 := eq_true q148
        go_wp2
        repeat (go_quiet (fail); try go_wp2)
        go_ret
        exact ⟨by first | rfl | (simp; done) | (simp [*]; done), by repeat (first | exact Drawn0.refl _ | apply Drawn0.step)⟩
       ·
        rw [if_neg c7] at H
        have c7b0 : (!(((rd_T23 l0 x5_1).f0) == ((rd_T23 l1 x5_1).f0)) || (!(((rd_T23 l0 x5_1).f1) == ((rd_T23 l1 x5_1).f1)) || (!((((rd_T23 l0 x5_1).f2).toList) == (((rd_T23 l1 x5_1).f2).toList))))) = false := by simpa using c7
        clear c7; have H' := Aside0.mk H; clear H
        have p147 : 0 ≤ (x5_1 : Int) := of_decide_eq_true (by assumption)
        have q147 : x5_1 < (l0.length : Int) := of_decide_eq_true (by assumption)
        obtain ⟨ad147, e147, hx147_0, hx147_1, hx147_2⟩ := at_T23 HR0.out x5_1 p147 q147
        cases e147; replace p147 := eq_true p147; replace q147 := eq_true q147
        have p148 : 0 ≤ (x5_1 : Int) := of_decide_eq_true (by assumption)
        have q148 : x5_1 < (l1.length : Int) := of_decide_eq_true (by assumption)
        obtain ⟨ad148, e148, hx148_0, hx148_1, hx148_2⟩ := at_T23 HR1.out x5_1 p148 q148
        cases e148; replace p148 := eq_true p148; replace q148 := eq_true q148
        go_wp2
        repeat (go_quiet (fail); try go_wp2)
        go_roundg k1
        case measure => have := HK1.out; omega
        case rel => exact ⟨(wrap64 (x5_1 + 1)), (by first | rfl | (simp; done) | (simp [*]; done)), H', ⟨by have := HK1.out; omega⟩, by repeat (first | exact Drawn0.refl _ | apply Drawn0.step)⟩
      ·
       rw [if_neg c6] at H
       exact absurd H (by simp)
     ·
      rw [if_neg c5] at H
      exact absurd H (by simp)
    ·
     rw [if_neg c4] at H
     have c4b0 : decide (x5_1 < (l0.length : Int)) = false := decide_eq_false c4
     clear c4
     obtain rfl := Option.some.inj H
     go_wp2
     repeat (go_quiet (fail); try go_wp2)
     go_ret
     exact ⟨by first | rfl | (simp; done) | (simp [*]; done), by repeat (first | exact Drawn0.refl _ | apply Drawn0.step)⟩
 ·
  rw [if_neg c3] at H
  have c3b0 : ((l0.length : Int) == (l1.length : Int)) = false := beq_eq_false_iff_ne.mpr c3
  have c3b1 : ((l0.length : Int) != (l1.length : Int)) = true := bne_iff_ne.mpr c3
  have c3b2 : (l0.length == l1.length) = false := by first | simpa using c3 | (simp at c3 ⊢; omega)
  obtain rfl := Option.some.inj H
  go_enter Try.func16, Try.ntmps16
  go_wp2
  repeat (go_quiet (fail); try go_wp2)
  go_ret
  exact ⟨by first | rfl | (simp; done) | (simp [*]; done), by repeat (first | exact Drawn0.refl _ | apply Drawn0.step)⟩

def assessorref01_Ints.l0 : Nat → List Int → List Int → Int → Option (Bool)
 | 0, _, _, _ => none
 | k + 1, x0, x1, x5 => if x5 < (x0.length : Int) then (if 0 ≤ x5 then (if x5 < (x1.length : Int) then (if (rd x0 x5) = (rd x1 x5) then (assessorref01_Ints.l0 k x0 x1 (wrap64 (x5 + 1))) else (some false)) else (none)) else (none)) else (some true)
def assessorref01_Ints.f (k : Nat) (l0 : List Int) (l1 : List Int) : Option (Bool) := if (l0.length : Int) = (l1.length : Int) then (assessorref01_Ints.l0 k l0 l1 0) else (some false)
set_option maxHeartbeats 8000000 in
set_option maxRecDepth 100000 in
theorem assessorref01_Ints.calls (k : Nat) (A0 : Option Addr) (c0 : Nat) (l0 : List Int) (A1 : Option Addr) (c1 : Nat) (l1 : List Int) (r : Bool) (w : World) (hr0 : Kd.C (Kd.int .i64) w A0 l0.length l0) (hc0 : l0.length ≤ c0) (hr1 : Kd.C (Kd.int .i64) w A1 l1.length l1) (hc1 : l1.length ≤ c1) (h : assessorref01_Ints.f k l0 l1 = some r) :
  Calls Try.prog 35 #[.slice A0 l0.length c0, .slice A1 l1.length c1] w fun e w' => e = .returned (.bool r) ∧ Drawn0 w w' := by
 have HR0 := Aside0.mk hr0
 have HC0 := Aside0.mk hc0
 clear hr0 hc0
 have HR1 := Aside0.mk hr1
 have HC1 := Aside0.mk hc1
 clear hr1 hc1
 have H : (if (l0.length : Int) = (l1.length : Int) then (assessorref01_Ints.l0 k l0 l1 0) else (some false)) = some r := h
 clear h
 by_cases c3 : (l0.length : Int) = (l1.length : Int)
 ·
  rw [if_pos c3] at H
  have c3b0 : ((l0.length : Int) == (l1.length : Int)) = true := beq_iff_eq.mpr c3
  have c3b1 : ((l0.length : Int) != (l1.length : Int)) = false := bne_eq_false_iff_eq.mpr c3
  have c3b2 : (l0.length == l1.length) = true := by first | simpa using c3 | (simp at c3 ⊢; omega)
  clear c3; have H' := Aside0.mk H; clear H
  go_enter Try.func35, Try.ntmps35
  go_wp2
  repeat (go_quiet (fail); try go_wp2)
  go_loopg [5] k (fun kq v5 w' => ∃ (x5_1 : Int), v5 = .int .i64 x5_1 ∧ Aside0 (assessorref01_Ints.l0 kq l0 l1 x5_1 = some r) ∧ Aside0 (kq ≤ k) ∧ Drawn0 w w')
  case atStart => exact ⟨(0), (by first | rfl | (simp; done) | (simp [*]; done)), H', ⟨Nat.le_refl _⟩, by repeat (first | exact Drawn0.refl _ | apply Drawn0.step)⟩
  case round =>
   clear H'; (try clear c1); (try clear p2); (try clear c3); (try clear c3b0); (try clear c3b1); (try clear c3b2)
   obtain ⟨x5_1, rfl, HA, HK1, ⟨m1, rfl⟩⟩ := hrel
   cases gk with
   | zero => exact absurd HA.out (by simp [assessorref01_Ints.l0])
   | succ k1 =>
    have H := HA.out
    clear HA
    simp only [assessorref01_Ints.l0] at H
    by_cases c4 : x5_1 < (l0.length : Int)
    ·
     rw [if_pos c4] at H
     have c4b0 : decide (x5_1 < (l0.length : Int)) = true := decide_eq_true c4
     clear c4
     by_cases c5 : 0 ≤ x5_1
     ·
      rw [if_pos c5] at H
      have c5b0 : decide (0 ≤ x5_1) = true := decide_eq_true c5
      clear c5
      by_cases c6 : x5_1 < (l1.length : Int)
      ·
       rw [if_pos c6] at H
       have c6b0 : decide (x5_1 < (l1.length : Int)) = true := decide_eq_true c6
       clear c6
       by_cases c7 : (rd l0 x5_1) = (rd l1 x5_1)
       ·
        rw [if_pos c7] at H
        have c7b0 : ((rd l0 x5_1) == (rd l1 x5_1)) = true := beq_iff_eq.mpr c7
        have c7b1 : ((rd l0 x5_1) != (rd l1 x5_1)) = false := bne_eq_false_iff_eq.mpr c7
        clear c7; have H' := Aside0.mk H; clear H
        have p149 : 0 ≤ (x5_1 : Int) := of_decide_eq_true (by assumption)
        have q149 : x5_1 < (l0.length : Int) := of_decide_eq_true (by assumption)
        obtain ⟨ad149, e149, hx149_0⟩ := Kd.at_int HR0.out x5_1 p149 q149
        cases e149; replace p149 := eq_true p149; replace q149 := eq_true q149
        have p150 : 0 ≤ (x5_1 : Int) := of_decide_eq_true (by assumption)
        have q150 : x5_1 < (l1.length : Int) := of_decide_eq_true (by assumption)
        obtain ⟨ad150, e150, hx150_0⟩ := Kd.at_int HR1.out x5_1 p150 q150
        cases e150; replace p150 := eq_true p150; replace q150 := eq_true q150
        go_wp2
        repeat (go_quiet (fail); try go_wp2)
        go_roundg k1
        case measure => have := HK1.out; omega
        case rel => exact ⟨(wrap64 (x5_1 + 1)), (by first | rfl | (simp; done) | (simp [*]; done)), H', ⟨by have := HK1.out; omega⟩, by repeat (first | exact Drawn0.refl _ | apply Drawn0.step)⟩
       ·
        rw [if_neg c7] at H
        have c7b0 : ((rd l0 x5_1) == (rd l1 x5_1)) = false := beq_eq_false_iff_ne.mpr c7
        have c7b1 : ((rd l0 x5_1) != (rd l1 x5_1)) = true := bne_iff_ne.mpr c7
        obtain rfl := Option.some.inj H
        have p149 : 0 ≤ (x5_1 : Int) := of_decide_eq_true (by assumption)
        have q149 : x5_1 < (l0.length : Int) := of_decide_eq_true (by assumption)
        obtain ⟨ad149, e149, hx149_0⟩ := Kd.at_int HR0.out x5_1 p149 q149
        cases e149; replace p149 := eq_true p149; replace q149 := eq_true q149
        have p150 : 0 ≤ (x5_1 : Int) := of_decide_eq_true (by assumption)
        have q150 : x5_1 < (l1.length : Int) := of_decide_eq_true (by assumption)
        obtain ⟨ad150, e150, hx150_0⟩ := Kd.at_int HR1.out x5_1 p150 q150
        cases e150; replace p150 := eq_true p150; replace q150 := eq_true q150
        go_wp2
        repeat (go_quiet (fail); try go_wp2)
        go_ret
        exact ⟨by first | rfl | (simp; done) | (simp [*]; done), by repeat (first | exact Drawn0.refl _ | apply Drawn0.step)⟩
      ·
       rw [if_neg c6] at H
       exact absurd H (by simp)
     ·
      rw [if_neg c5] at H
      exact absurd H (by simp)
    ·
     rw [if_neg c4] at H
     have c4b0 : decide (x5_1 < (l0.length : Int)) = false := decide_eq_false c4
     clear c4
     obtain rfl := Option.some.inj H
     go_wp2
     repeat (go_quiet (fail); try go_wp2)
     go_ret
     exact ⟨by first | rfl | (simp; done) | (simp [*]; done), by repeat (first | exact Drawn0.refl _ | apply Drawn0.step)⟩
 ·
  rw [if_neg c3] at H
  have c3b0 : ((l0.length : Int) == (l1.length : Int)) = false := beq_eq_false_iff_ne.mpr c3
  have c3b1 : ((l0.length : Int) != (l1.length : Int)) = true := bne_iff_ne.mpr c3
  have c3b2 : (l0.length == l1.length) = false := by first | simpa using c3 | (simp at c3 ⊢; omega)
  obtain rfl := Option.some.inj H
  go_enter Try.func35, Try.ntmps35
  go_wp2
  repeat (go_quiet (fail); try go_wp2)
  go_ret
  exact ⟨by first | rfl | (simp; done) | (simp [*]; done), by repeat (first | exact Drawn0.refl _ | apply Drawn0.step)⟩

def assessorref09_Lists.l0 : Nat → List (List Int) → List (List Int) → Int → Option (Bool)
 | 0, _, _, _ => none
 | k + 1, x0, x1, x5 => if x5 < (x0.length : Int) then (if 0 ≤ x5 then (if x5 < (x1.length : Int) then ((assessorref01_Ints.f k (rd_L5 x0 x5) (rd_L5 x1 x5)).bind fun t153 => (if t153 = true then (assessorref09_Lists.l0 k x0 x1 (wrap64 (x5 + 1))) else (some false))) else (none)) else (none)) else (some true)
def assessorref09_Lists.f (k : Nat) (l0 : List (List Int)) (l1 : List (List Int)) : Option (Bool) := if (l0.length : Int) = (l1.length : Int) then (assessorref09_Lists.l0 k l0 l1 0) else (some false)
set_option maxHeartbeats 8000000 in
set_option maxRecDepth 100000 in
theorem assessorref09_Lists.calls (k : Nat) (A0 : Option Addr) (c0 : Nat) (l0 : List (List Int)) (A1 : Option Addr) (c1 : Nat) (l1 : List (List Int)) (r : Bool) (w : World) (hr0 : Kd.C (Kd.slice 3 (Kd.int .i64)) w A0 l0.length l0) (hc0 : l0.length ≤ c0) (hr1 : Kd.C (Kd.slice 3 (Kd.int .i64)) w A1 l1.length l1) (hc1 : l1.length ≤ c1) (h : assessorref09_Lists.f k l0 l1 = some r) :
  Calls Try.prog 18 #[.slice A0 l0.length c0, .slice A1 l1.length c1] w fun e w' => e = .returned (.bool r) ∧ Drawn0 w w' := by
 have HR0 := Aside0.mk hr0
 have HC0 := Aside0.mk hc0
 clear hr0 hc0
 have HR1 := Aside0.mk hr1
 have HC1 := Aside0.mk hc1
 clear hr1 hc1
 have H : (if (l0.length : Int) = (l1.length : Int) then (assessorref09_Lists.l0 k l0 l1 0) else (some false)) = some r := h
 clear h
 by_cases c3 : (l0.length : Int) = (l1.length : Int)
 ·
  rw [if_pos c3] at H
  have c3b0 : ((l0.length : Int) == (l1.length : Int)) = true := beq_iff_eq.mpr c3
  have c3b1 : ((l0.length : Int) != (l1.length : Int)) = false := bne_eq_false_iff_eq.mpr c3
  have c3b2 : (l0.length == l1.length) = true := by first | simpa using c3 | (simp at c3 ⊢; omega)
  clear c3; have H' := Aside0.mk H; clear H
  go_enter Try.func18, Try.ntmps18
  go_wp2
  repeat (go_quiet (fail); try go_wp2)
  go_loopg [5] k (fun kq v5 w' => ∃ (x5_1 : Int), v5 = .int .i64 x5_1 ∧ Aside0 (assessorref09_Lists.l0 kq l0 l1 x5_1 = some r) ∧ Aside0 (kq ≤ k) ∧ Drawn0 w w')
  case atStart => exact ⟨(0), (by first | rfl | (simp; done) | (simp [*]; done)), H', ⟨Nat.le_refl _⟩, by repeat (first | exact Drawn0.refl _ | apply Drawn0.step)⟩
  case round =>
   clear H'; (try clear c1); (try clear p2); (try clear c3); (try clear c3b0); (try clear c3b1); (try clear c3b2)
   obtain ⟨x5_1, rfl, HA, HK1, ⟨m1, rfl⟩⟩ := hrel
   cases gk with
   | zero => exact absurd HA.out (by simp [assessorref09_Lists.l0])
   | succ k1 =>
    have H := HA.out
    clear HA
    simp only [assessorref09_Lists.l0] at H
    by_cases c4 : x5_1 < (l0.length : Int)
    ·
     rw [if_pos c4] at H
     have c4b0 : decide (x5_1 < (l0.length : Int)) = true := decide_eq_true c4
     clear c4
     by_cases c5 : 0 ≤ x5_1
     ·
      rw [if_pos c5] at H
      have c5b0 : decide (0 ≤ x5_1) = true := decide_eq_true c5
      clear c5
      by_cases c6 : x5_1 < (l1.length : Int)
      ·
       rw [if_pos c6] at H
       have c6b0 : decide (x5_1 < (l1.length : Int)) = true := decide_eq_true c6
       clear c6
       replace H := Option.bind_eq_some_iff.mp H
       obtain ⟨t153, A70, H⟩ := H
       replace H : (if t153 = true then (assessorref09_Lists.l0 k1 l0 l1 (wrap64 (x5_1 + 1))) else (some false)) = some r := H
       have A7 := Aside0.mk A70
       clear A70
       by_cases c8 : t153 = true
       ·
        subst c8
        have H1 : (assessorref09_Lists.l0 k1 l0 l1 (wrap64 (x5_1 + 1))) = some r := by rw [if_pos rfl] at H; exact H
        clear H; have H := H1; clear H1; have H' := Aside0.mk H; clear H
        have p151 : 0 ≤ (x5_1 : Int) := of_decide_eq_true (by assumption)
        have q151 : x5_1 < (l0.length : Int) := of_decide_eq_true (by assumption)
        obtain ⟨ad151, A151_0, c151_0, e151, hx151_0, hl151_0, hi151_0⟩ := at_L5 HR0.out x5_1 p151 q151
        cases e151
        have HR151_0 := Aside0.mk hi151_0
        have HC151_0 := Aside0.mk hl151_0
        clear hi151_0 hl151_0; replace p151 := eq_true p151; replace q151 := eq_true q151
        have p152 : 0 ≤ (x5_1 : Int) := of_decide_eq_true (by assumption)
        have q152 : x5_1 < (l1.length : Int) := of_decide_eq_true (by assumption)
        obtain ⟨ad152, A152_0, c152_0, e152, hx152_0, hl152_0, hi152_0⟩ := at_L5 HR1.out x5_1 p152 q152
        cases e152
        have HR152_0 := Aside0.mk hi152_0
        have HC152_0 := Aside0.mk hl152_0
        clear hi152_0 hl152_0; replace p152 := eq_true p152; replace q152 := eq_true q152
        go_wp2_with (first | (go_at_call 35; (with_reducible refine (assessorref01_Ints.calls k1 _ _ (rd_L5 l0 x5_1) _ _ (rd_L5 l1 x5_1) true _ ?side1 ?side2 ?side3 ?side4 A7.out).mono ?_); (case side1 => repeat (first | exact HR151_0.out | (with_reducible refine Kd.C_alloc ?_ _) | (with_reducible refine Kd.C_drewN ?_ _) | (with_reducible refine Kd.C_drew ?_))); (case side2 => exact HC151_0.out); (case side3 => repeat (first | exact HR152_0.out | (with_reducible refine Kd.C_alloc ?_ _) | (with_reducible refine Kd.C_drewN ?_ _) | (with_reducible refine Kd.C_drew ?_))); (case side4 => exact HC152_0.out); rintro e w' ⟨rfl, ⟨nd, rfl⟩⟩; (try first | exact ⟨rfl, _, World.drewN_drewN _ _ _⟩ | exact ⟨rfl, _, Eq.trans (World.drewN_drewN _ _ _) (congrArg (World.drewN _) (Nat.add_assoc _ _ _))⟩)))
        repeat (go_quiet (first | (go_at_call 35; (with_reducible refine (assessorref01_Ints.calls k1 _ _ (rd_L5 l0 x5_1) _ _ (rd_L5 l1 x5_1) true _ ?side1 ?side2 ?side3 ?side4 A7.out).mono ?_); (case side1 => repeat (first | exact HR151_0.out | (with_reducible refine Kd.C_alloc ?_ _) | (with_reducible refine Kd.C_drewN ?_ _) | (with_reducible refine Kd.C_drew ?_))); (case side2 => exact HC151_0.out); (case side3 => repeat (first | exact HR152_0.out | (with_reducible refine Kd.C_alloc ?_ _) | (with_reducible refine Kd.C_drewN ?_ _) | (with_reducible refine Kd.C_drew ?_))); (case side4 => exact HC152_0.out); rintro e w' ⟨rfl, ⟨nd, rfl⟩⟩; (try first | exact ⟨rfl, _, World.drewN_drewN _ _ _⟩ | exact ⟨rfl, _, Eq.trans (World.drewN_drewN _ _ _) (congrArg (World.drewN _) (Nat.add_assoc _ _ _))⟩))); try go_wp2_with (first | (go_at_call 35; (with_reducible refine (assessorref01_Ints.calls k1 _ _ (rd_L5 l0 x5_1) _ _ (rd_L5 l1 x5_1) true _ ?side1 ?side2 ?side3 ?side4 A7.out).mono ?_); (case side1 => repeat (first | exact HR151_0.out | (with_reducible refine Kd.C_alloc ?_ _) | (with_reducible refine Kd.C_drewN ?_ _) | (with_reducible refine Kd.C_drew ?_))); (case side2 => exact HC151_0.out); (case side3 => repeat (first | exact HR152_0.out | (with_reducible refine Kd.C_alloc ?_ _) | (with_reducible refine Kd.C_drewN ?_ _) | (with_reducible refine Kd.C_drew ?_))); (case side4 => exact HC152_0.out); rintro e w' ⟨rfl, ⟨nd, rfl⟩⟩; (try first | exact ⟨rfl, _, World.drewN_drewN _ _ _⟩ | exact ⟨rfl, _, Eq.trans (World.drewN_drewN _ _ _) (congrArg (World.drewN _) (Nat.add_assoc _ _ _))⟩))))
        go_roundg k1
        case measure => have := HK1.out; omega
        case rel => exact ⟨(wrap64 (x5_1 + 1)), (by first | rfl | (simp; done) | (simp [*]; done)), H', ⟨by have := HK1.out; omega⟩, by repeat (first | exact Drawn0.refl _ | apply Drawn0.step)⟩
       ·
        replace c8 := Bool.eq_false_iff.mpr c8
        subst c8
        have H1 : (some false) = some r := by rw [if_neg (show ¬ (false = true) by decide)] at H; exact H
        clear H; have H := H1; clear H1
        obtain rfl := Option.some.inj H
        have p151 : 0 ≤ (x5_1 : Int) := of_decide_eq_true (by assumption)
        have q151 : x5_1 < (l0.length : Int) := of_decide_eq_true (by assumption)
        obtain ⟨ad151, A151_0, c151_0, e151, hx151_0, hl151_0, hi151_0⟩ := at_L5 HR0.out x5_1 p151 q151
        cases e151
        have HR151_0 := Aside0.mk hi151_0
        have HC151_0 := Aside0.mk hl151_0
        clear hi151_0 hl151_0; replace p151 := eq_true p151; replace q151 := eq_true q151
        have p152 : 0 ≤ (x5_1 : Int) := of_decide_eq_true (by assumption)
        have q152 : x5_1 < (l1.length : Int) := of_decide_eq_true (by assumption)
        obtain ⟨ad152, A152_0, c152_0, e152, hx152_0, hl152_0, hi152_0⟩ := at_L5 HR1.out x5_1 p152 q152
        cases e152
        have HR152_0 := Aside0.mk hi152_0
        have HC152_0 := Aside0.mk hl152_0
        clear hi152_0 hl152_0; replace p152 := eq_true p152; replace q152 := eq_true q152
        go_wp2_with (first | (go_at_call 35; (with_reducible refine (assessorref01_Ints.calls k1 _ _ (rd_L5 l0 x5_1) _ _ (rd_L5 l1 x5_1) false _ ?side1 ?side2 ?side3 ?side4 A7.out).mono ?_); (case side1 => repeat (first | exact HR151_0.out | (with_reducible refine Kd.C_alloc ?_ _) | (with_reducible refine Kd.C_drewN ?_ _) | (with_reducible refine Kd.C_drew ?_))); (case side2 => exact HC151_0.out); (case side3 => repeat (first | exact HR152_0.out | (with_reducible refine Kd.C_alloc ?_ _) | (with_reducible refine Kd.C_drewN ?_ _) | (with_reducible refine Kd.C_drew ?_))); (case side4 => exact HC152_0.out); rintro e w' ⟨rfl, ⟨nd, rfl⟩⟩; (try first | exact ⟨rfl, _, World.drewN_drewN _ _ _⟩ | exact ⟨rfl, _, Eq.trans (World.drewN_drewN _ _ _) (congrArg (World.drewN _) (Nat.add_assoc _ _ _))⟩)))
        repeat (go_quiet (first | (go_at_call 35; (with_reducible refine (assessorref01_Ints.calls k1 _ _ (rd_L5 l0 x5_1) _ _ (rd_L5 l1 x5_1) false _ ?side1 ?side2 ?side3 ?side4 A7.out).mono ?_); (case side1 => repeat (first | exact HR151_0.out | (with_reducible refine Kd.C_alloc ?_ _) | (with_reducible refine Kd.C_drewN ?_ _) | (with_reducible refine Kd.C_drew ?_))); (case side2 => exact HC151_0.out); (case side3 => repeat (first | exact HR152_0.out | (with_reducible refine Kd.C_alloc ?_ _) | (with_reducible refine Kd.C_drewN ?_ _) | (with_reducible refine Kd.C_drew ?_))); (case side4 => exact HC152_0.out); rintro e w' ⟨rfl, ⟨nd, rfl⟩⟩; (try first | exact ⟨rfl, _, World.drewN_drewN _ _ _⟩ | exact ⟨rfl, _, Eq.trans (World.drewN_drewN _ _ _) (congrArg (World.drewN _) (Nat.add_assoc _ _ _))⟩))); try go_wp2_with (first | (go_at_call 35; (with_reducible refine (assessorref01_Ints.calls k1 _ _ (rd_L5 l0 x5_1) _ _ (rd_L5 l1 x5_1) false _ ?side1 ?side2 ?side3 ?side4 A7.out).mono ?_); (case side1 => repeat (first | exact HR151_0.out | (with_reducible refine Kd.C_alloc ?_ _) | (with_reducible refine Kd.C_drewN ?_ _) | (with_reducible refine Kd.C_drew ?_))); (case side2 => exact HC151_0.out); (case side3 => repeat (first | exact HR152_0.out | (with_reducible refine Kd.C_alloc ?_ _) | (with_reducible refine Kd.C_drewN ?_ _) | (with_reducible refine Kd.C_drew ?_))); (case side4 => exact HC152_0.out); rintro e w' ⟨rfl, ⟨nd, rfl⟩⟩; (try first | exact ⟨rfl, _, World.drewN_drewN _ _ _⟩ | exact ⟨rfl, _, Eq.trans (World.drewN_drewN _ _ _) (congrArg (World.drewN _) (Nat.add_assoc _ _ _))⟩))))
        go_ret
        exact ⟨by first | rfl | (simp; done) | (simp [*]; done), by repeat (first | exact Drawn0.refl _ | apply Drawn0.step)⟩
      ·
       rw [if_neg c6] at H
       exact absurd H (by simp)
     ·
      rw [if_neg c5] at H
      exact absurd H (by simp)
    ·
     rw [if_neg c4] at H
     have c4b0 : decide (x5_1 < (l0.length : Int)) = false := decide_eq_false c4
     clear c4
     obtain rfl := Option.some.inj H
     go_wp2
     repeat (go_quiet (fail); try go_wp2)
     go_ret
     exact ⟨by first | rfl | (simp; done) | (simp [*]; done), by repeat (first | exact Drawn0.refl _ | apply Drawn0.step)⟩
 ·
  rw [if_neg c3] at H
  have c3b0 : ((l0.length : Int) == (l1.length : Int)) = false := beq_eq_false_iff_ne.mpr c3
  have c3b1 : ((l0.length : Int) != (l1.length : Int)) = true := bne_iff_ne.mpr c3
  have c3b2 : (l0.length == l1.length) = false := by first | simpa using c3 | (simp at c3 ⊢; omega)
  obtain rfl := Option.some.inj H
  go_enter Try.func18, Try.ntmps18
  go_wp2
  repeat (go_quiet (fail); try go_wp2)
  go_ret
  exact ⟨by first | rfl | (simp; done) | (simp [*]; done), by repeat (first | exact Drawn0.refl _ | apply Drawn0.step)⟩

def assessorref09_Steps.l0 : Nat → List (S65) → List (S65) → Int → Option (Bool)
 | 0, _, _, _ => none
 | k + 1, x0, x1, x5 => if x5 < (x0.length : Int) then (if 0 ≤ x5 then (if x5 < (x1.length : Int) then (if (!(((rd_T65 x0 x5).f0) == ((rd_T65 x1 x5).f0)) || (!(((rd_T65 x0 x5).f1) == ((rd_T65 x1 x5).f1)) || (!(((rd_T65 x0 x5).f2) == ((rd_T65 x1 x5).f2)) || (!((((rd_T65 x0 x5).f3).toList) == (((rd_T65 x1 x5).f3).toList)))))) = true then (some false) else (assessorref09_Steps.l0 k x0 x1 (wrap64 (x5 + 1)))) else (none)) else (none)) else (some true)
def assessorref09_Steps.f (k : Nat) (l0 : List (S65)) (l1 : List (S65)) : Option (Bool) := if (l0.length : Int) = (l1.length : Int) then (assessorref09_Steps.l0 k l0 l1 0) else (some false)
set_option maxHeartbeats 8000000 in
set_option maxRecDepth 100000 in
theorem assessorref09_Steps.calls (k : Nat) (A0 : Option Addr) (c0 : Nat) (l0 : List (S65)) (A1 : Option Addr) (c1 : Nat) (l1 : List (S65)) (r : Bool) (w : World) (hr0 : Kd.C k65 w A0 l0.length l0) (hc0 : l0.length ≤ c0) (hr1 : Kd.C k65 w A1 l1.length l1) (hc1 : l1.length ≤ c1) (h : assessorref09_Steps.f k l0 l1 = some r) :
  Calls Try.prog 19 #[.slice A0 l0.length c0, .slice A1 l1.length c1] w fun e w' => e = .returned (.bool r) ∧ Drawn0 w w' := by
 have hu65 := Try.underlying65
 have HR0 := Aside0.mk hr0
 have HC0 := Aside0.mk hc0
 clear hr0 hc0
 have HR1 := Aside0.mk hr1
 have HC1 := Aside0.mk hc1
 clear hr1 hc1
 have H : (if (l0.length : Int) = (l1.length : Int) then (assessorref09_Steps.l0 k l0 l1 0) else (some false)) = some r := h
 clear h
 by_cases c3 : (l0.length : Int) = (l1.length : Int)
 ·
  rw [if_pos c3] at H
  have c3b0 : ((l0.length : Int) == (l1.length : Int)) = true := beq_iff_eq.mpr c3
  have c3b1 : ((l0.length : Int) != (l1.length : Int)) = false := bne_eq_false_iff_eq.mpr c3
  have c3b2 : (l0.length == l1.length) = true := by first | simpa using c3 | (simp at c3 ⊢; omega)
  clear c3; have H' := Aside0.mk H; clear H
  go_enter Try.func19, Try.ntmps19
  go_wp2
  repeat (go_quiet (fail); try go_wp2)
  go_loopg [5] k (fun kq v5 w' => ∃ (x5_1 : Int), v5 = .int .i64 x5_1 ∧ Aside0 (assessorref09_Steps.l0 kq l0 l1 x5_1 = some r) ∧ Aside0 (kq ≤ k) ∧ Drawn0 w w')
  case atStart => exact ⟨(0), (by first | rfl | (simp; done) | (simp [*]; done)), H', ⟨Nat.le_refl _⟩, by repeat (first | exact Drawn0.refl _ | apply Drawn0.step)⟩
  case round =>
   clear H'; (try clear c1); (try clear p2); (try clear c3); (try clear c3b0); (try clear c3b1); (try clear c3b2)
   obtain ⟨x5_1, rfl, HA, HK1, ⟨m1, rfl⟩⟩ := hrel
   cases gk with
   | zero => exact absurd HA.out (by simp [assessorref09_Steps.l0])
   | succ k1 =>
    have H := HA.out
    clear HA
    simp only [assessorref09_Steps.l0] at H
    by_cases c4 : x5_1 < (l0.length : Int)
    ·
     rw [if_pos c4] at H
     have c4b0 : decide (x5_1 < (l0.length : Int)) = true := decide_eq_true c4
     clear c4
     by_cases c5 : 0 ≤ x5_1
     ·
      rw [if_pos c5] at H
      have c5b0 : decide (0 ≤ x5_1) = true := decide_eq_true c5
      clear c5
      by_cases c6 : x5_1 < (l1.length : Int)
      ·
       rw [if_pos c6] at H
       have c6b0 : decide (x5_1 < (l1.length : Int)) = true := decide_eq_true c6
       clear c6
       by_cases c7 : (!(((rd_T65 l0 x5_1).f0) == ((rd_T65 l1 x5_1).f0)) || (!(((rd_T65 l0 x5_1).f1) == ((rd_T65 l1 x5_1).f1)) || (!(((rd_T65 l0 x5_1).f2) == ((rd_T65 l1 x5_1).f2)) || (!((((rd_T65 l0 x5_1).f3).toList) == (((rd_T65 l1 x5_1).f3).toList)))))) = true
       ·
        rw [if_pos c7] at H
        have c7b0 : (!(((rd_T65 l0 x5_1).f0) == ((rd_T65 l1 x5_1).f0)) || (!(((rd_T65 l0 x5_1).f1) == ((rd_T65 l1 x5_1).f1)) || (!(((rd_T65 l0 x5_1).f2) == ((rd_T65 l1 x5_1).f2)) || (!((((rd_T65 l0 x5_1).f3).toList) == (((rd_T65 l1 x5_1).f3).toList)))))) = true := c7
        clear c7
        obtain rfl := Option.some.inj H
        have p154 : 0 ≤ (x5_1 : Int) := of_decide_eq_true (by assumption)
        have q154 : x5_1 < (l0.length : Int) := of_decide_eq_true (by assumption)
        obtain ⟨ad154, e154, hx154_0, hx154_1, hx154_2, hx154_3⟩ := at_T65 HR0.out x5_1 p154 q154
        cases e154; replace p154 := eq_true p154; replace q154 := eq_true q154
        have p155 : 0 ≤ (x5_1 : Int) := of_decide_eq_true (by assumption)
        have q155 : x5_1 < (l1.length : Int) := of_decide_eq_true (by assumption)
        obtain ⟨ad155, e155, hx155_0, hx155_1, hx155_2, hx155_3⟩ := at_T65 HR1.out x5_1 p155 q155
        cases e155; replace p155 := eq_true p155; replace q155 := eq_true q155
        go_wp2
        repeat (go_quiet (fail); try go_wp2)
        go_ret
        exact ⟨by first | rfl | (simp; done) | (simp [*]; done), by repeat (first | exact Drawn0.refl _ | apply Drawn0.step)⟩
       ·
        rw [if_neg c7] at H
        have c7b0 : (!(((rd_T65 l0 x5_1).f0) == ((rd_T65 l1 x5_1).f0)) || (!(((rd_T65 l0 x5_1).f1) == ((rd_T65 l1 x5_1).f1)) || (!(((rd_T65 l0 x5_1).f2) == ((rd_T65 l1 x5_1).f2)) || (!((((rd_T65 l0 x5_1).f3).toList) == (((rd_T65 l1 x5_1).f3).toList)))))) = false := by simpa using c7
        clear c7; have H' := Aside0.mk H; clear H
        have p154 : 0 ≤ (x5_1 : Int) := of_decide_eq_true (by assumption)
        have q154 : x5_1 < (l0.length : Int) := of_decide_eq_true (by assumption)
        obtain ⟨ad154, e154, hx154_0, hx154_1, hx154_2, hx154_3⟩ := at_T65 HR0.out x5_1 p154 q154
        cases e154; replace p154 := eq_true p154; replace q154 := eq_true q154
        have p155 : 0 ≤ (x5_1 : Int) := of_decide_eq_true (by assumption)
        have q155 : x5_1 < (l1.length : Int) := of_decide_eq_true (by assumption)
        obtain ⟨ad155, e155, hx155_0, hx155_1, hx155_2, hx155_3⟩ := at_T65 HR1.out x5_1 p155 q155
        cases e155; replace p155 := eq_true p155; replace q155 := eq_true q155
        go_wp2
        repeat (go_quiet (fail); try go_wp2)
        go_roundg k1
        case measure => have := HK1.out; omega
        case rel => exact ⟨(wrap64 (x5_1 + 1)), (by first | rfl | (simp; done) | (simp [*]; done)), H', ⟨by have := HK1.out; omega⟩, by repeat (first | exact Drawn0.refl _ | apply Drawn0.step)⟩
      ·
       rw [if_neg c6] at H
       exact absurd H (by simp)
     ·
      rw [if_neg c5] at H
      exact absurd H (by simp)
    ·
     rw [if_neg c4] at H
     have c4b0 : decide (x5_1 < (l0.length : Int)) = false := decide_eq_false c4
     clear c4
     obtain rfl := Option.some.inj H
     go_wp2
     repeat (go_quiet (fail); try go_wp2)
     go_ret
     exact ⟨by first | rfl | (simp; done) | (simp [*]; done), by repeat (first | exact Drawn0.refl _ | apply Drawn0.step)⟩
 ·
  rw [if_neg c3] at H
  have c3b0 : ((l0.length : Int) == (l1.length : Int)) = false := beq_eq_false_iff_ne.mpr c3
  have c3b1 : ((l0.length : Int) != (l1.length : Int)) = true := bne_iff_ne.mpr c3
  have c3b2 : (l0.length == l1.length) = false := by first | simpa using c3 | (simp at c3 ⊢; omega)
  obtain rfl := Option.some.inj H
  go_enter Try.func19, Try.ntmps19
  go_wp2
  repeat (go_quiet (fail); try go_wp2)
  go_ret
  exact ⟨by first | rfl | (simp; done) | (simp [*]; done), by repeat (first | exact Drawn0.refl _ | apply Drawn0.step)⟩

def assessorlaw09_example.f  : Option ((List (S36))) := some (([(⟨0, 0, 0, (⟨1, 0, (⟨#[]⟩ : ByteArray)⟩ : S23), 0, 0⟩ : S36), (⟨1, 0, 1, (⟨0, 0, (⟨#[]⟩ : ByteArray)⟩ : S23), 0, 0⟩ : S36), (⟨1, 1, 2, (⟨0, 0, (⟨#[]⟩ : ByteArray)⟩ : S23), 0, 0⟩ : S36), (⟨0, 2, 0, (⟨2, 0, (⟨#[]⟩ : ByteArray)⟩ : S23), 0, 0⟩ : S36), (⟨1, 0, 2, (⟨0, 0, (⟨#[]⟩ : ByteArray)⟩ : S23), 0, 0⟩ : S36)] : List (S36)))
set_option maxHeartbeats 8000000 in
set_option maxRecDepth 100000 in
theorem assessorlaw09_example.calls  (r : List (S36)) (w : World) (h : assessorlaw09_example.f  = some r) :
  Calls Try.prog 26 #[] w fun e w' => ∃ v0_ : Value, e = .returned (v0_) ∧ Kd.R k36 36 w' w.heap.size (fun _ => True) v0_ r ∧ Below w.heap.size w w' := by
 have hu23 := Try.underlying23
 have hu36 := Try.underlying36
 have HB := Aside0.mk (Below.refl w.heap.size w)
 have H : (some (([(⟨0, 0, 0, (⟨1, 0, (⟨#[]⟩ : ByteArray)⟩ : S23), 0, 0⟩ : S36), (⟨1, 0, 1, (⟨0, 0, (⟨#[]⟩ : ByteArray)⟩ : S23), 0, 0⟩ : S36), (⟨1, 1, 2, (⟨0, 0, (⟨#[]⟩ : ByteArray)⟩ : S23), 0, 0⟩ : S36), (⟨0, 2, 0, (⟨2, 0, (⟨#[]⟩ : ByteArray)⟩ : S23), 0, 0⟩ : S36), (⟨1, 0, 2, (⟨0, 0, (⟨#[]⟩ : ByteArray)⟩ : S23), 0, 0⟩ : S36)] : List (S36)))) = some r := h
 clear h
 obtain ⟨y156, hy156⟩ : ∃ y_ : List (S36), y_ = (([(⟨0, 0, 0, (⟨1, 0, (⟨#[]⟩ : ByteArray)⟩ : S23), 0, 0⟩ : S36), (⟨1, 0, 1, (⟨0, 0, (⟨#[]⟩ : ByteArray)⟩ : S23), 0, 0⟩ : S36), (⟨1, 1, 2, (⟨0, 0, (⟨#[]⟩ : ByteArray)⟩ : S23), 0, 0⟩ : S36), (⟨0, 2, 0, (⟨2, 0, (⟨#[]⟩ : ByteArray)⟩ : S23), 0, 0⟩ : S36), (⟨1, 0, 2, (⟨0, 0, (⟨#[]⟩ : ByteArray)⟩ : S23), 0, 0⟩ : S36)] : List (S36))) := ⟨_, rfl⟩
 replace H : (some y156) = some r := by first | (rw [hy156]; with_reducible exact H) | (have H2_ := (Option.bind_some _ _).symm.trans H; rw [hy156]; with_reducible exact H2_) | (have H2_ := (Option.bind_some _ _).symm.trans H; with_reducible exact H2_) | with_reducible exact H | (rw [hy156]; exact H) | exact H
 have Ny156 := Aside0.mk hy156
 clear hy156
 obtain rfl := Option.some.inj H
 go_enter Try.func26, Try.ntmps26
 go_wp2_with (first | ((with_reducible refine gate_dst (N := 8) rfl ?_); refine Kd.R_lit k36 _ 36 ?hg (N := 8) ?hd (xs := ([(⟨0, 0, 0, (⟨1, 0, (⟨#[]⟩ : ByteArray)⟩ : S23), 0, 0⟩ : S36), (⟨1, 0, 1, (⟨0, 0, (⟨#[]⟩ : ByteArray)⟩ : S23), 0, 0⟩ : S36), (⟨1, 1, 2, (⟨0, 0, (⟨#[]⟩ : ByteArray)⟩ : S23), 0, 0⟩ : S36), (⟨0, 2, 0, (⟨2, 0, (⟨#[]⟩ : ByteArray)⟩ : S23), 0, 0⟩ : S36), (⟨1, 0, 2, (⟨0, 0, (⟨#[]⟩ : ByteArray)⟩ : S23), 0, 0⟩ : S36)] : List (S36))) (inner := [.int .i64 0, .int .i64 0, .int .i64 0, .int .i64 1, .int .i64 0, .string (⟨#[]⟩ : ByteArray), .int .i64 0, .int .i64 0, .int .i64 1, .int .i64 0, .int .i64 1, .int .i64 0, .int .i64 0, .string (⟨#[]⟩ : ByteArray), .int .i64 0, .int .i64 0, .int .i64 1, .int .i64 1, .int .i64 2, .int .i64 0, .int .i64 0, .string (⟨#[]⟩ : ByteArray), .int .i64 0, .int .i64 0, .int .i64 0, .int .i64 2, .int .i64 0, .int .i64 2, .int .i64 0, .string (⟨#[]⟩ : ByteArray), .int .i64 0, .int .i64 0, .int .i64 1, .int .i64 0, .int .i64 2, .int .i64 0, .int .i64 0, .string (⟨#[]⟩ : ByteArray), .int .i64 0, .int .i64 0]) (ok := fun _ => True) (okp := fun _ => True) ?hr ?hp (fun _ hk => hk) trivial (Below.refl _ _) (Nat.le_refl _) (by simp) ?_; (case hd => rfl); (case hg => rfl); (case hr => first | (go_simp; done) | (go_simp; rfl)); (case hp => exact (Reps.c8 (show Kd.M k36 _ _ _ (⟨0, 0, 0, (⟨1, 0, (⟨#[]⟩ : ByteArray)⟩ : S23), 0, 0⟩ : S36) [.int .i64 0, .int .i64 0, .int .i64 0, .int .i64 1, .int .i64 0, .string (⟨#[]⟩ : ByteArray), .int .i64 0, .int .i64 0] from (k36_mkM _ _ _ (⟨0, 0, 0, (⟨1, 0, (⟨#[]⟩ : ByteArray)⟩ : S23), 0, 0⟩ : S36) )) (Reps.c8 (show Kd.M k36 _ _ _ (⟨1, 0, 1, (⟨0, 0, (⟨#[]⟩ : ByteArray)⟩ : S23), 0, 0⟩ : S36) [.int .i64 1, .int .i64 0, .int .i64 1, .int .i64 0, .int .i64 0, .string (⟨#[]⟩ : ByteArray), .int .i64 0, .int .i64 0] from (k36_mkM _ _ _ (⟨1, 0, 1, (⟨0, 0, (⟨#[]⟩ : ByteArray)⟩ : S23), 0, 0⟩ : S36) )) (Reps.c8 (show Kd.M k36 _ _ _ (⟨1, 1, 2, (⟨0, 0, (⟨#[]⟩ : ByteArray)⟩ : S23), 0, 0⟩ : S36) [.int .i64 1, .int .i64 1, .int .i64 2, .int .i64 0, .int .i64 0, .string (⟨#[]⟩ : ByteArray), .int .i64 0, .int .i64 0] from (k36_mkM _ _ _ (⟨1, 1, 2, (⟨0, 0, (⟨#[]⟩ : ByteArray)⟩ : S23), 0, 0⟩ : S36) )) (Reps.c8 (show Kd.M k36 _ _ _ (⟨0, 2, 0, (⟨2, 0, (⟨#[]⟩ : ByteArray)⟩ : S23), 0, 0⟩ : S36) [.int .i64 0, .int .i64 2, .int .i64 0, .int .i64 2, .int .i64 0, .string (⟨#[]⟩ : ByteArray), .int .i64 0, .int .i64 0] from (k36_mkM _ _ _ (⟨0, 2, 0, (⟨2, 0, (⟨#[]⟩ : ByteArray)⟩ : S23), 0, 0⟩ : S36) )) (Reps.c8 (show Kd.M k36 _ _ _ (⟨1, 0, 2, (⟨0, 0, (⟨#[]⟩ : ByteArray)⟩ : S23), 0, 0⟩ : S36) [.int .i64 1, .int .i64 0, .int .i64 2, .int .i64 0, .int .i64 0, .string (⟨#[]⟩ : ByteArray), .int .i64 0, .int .i64 0] from (k36_mkM _ _ _ (⟨1, 0, 2, (⟨0, 0, (⟨#[]⟩ : ByteArray)⟩ : S23), 0, 0⟩ : S36) )) (Reps.none _ _))))))); intro v157 w1 ho2 hb hg_ hnew_; clear hg_ hnew_; (first | rw [← Ny156.out] at ho2 | (simp only [Int.reduceToNat] at ho2; rw [← Ny156.out] at ho2)); have n0_ := Aside0.mk (Kd.R_lower ho2 (bZ (by repeat (first | (with_reducible first | exact HB.out | apply bA | apply bN | apply bD) | exact HB.out)))); have n1_ := Aside0.mk (bT (by repeat (first | (with_reducible first | exact HB.out | apply bA | apply bN | apply bD) | exact HB.out)) hb); clear HB; have HO158 := n0_; have HB := n1_; clear n0_ n1_; clear hb ho2))
 go_ret
 exact ⟨_, by first | rfl | (simp [errW_none, errW_some] <;> rfl) | (simp [*, errW_none, errW_some] <;> rfl), by (with_reducible repeat (first | apply rA | apply rN | apply rD)); exact HO158.out, by repeat (first | (with_reducible first | exact HB.out | apply bA | apply bN | apply bD) | exact HB.out)⟩

end Go.Proofs.Ytjbafigageingaa.PR
