import Derived.Test.YtjbafigageingaaKoPRx0
import Derived.Test.YtjbafigageingaaKoPRx1
namespace Go.Proofs.Ytjbafigageingaa.PR
open Go.RowKit Go.Proofs.YtjbafigageingaaW.PrintWords Go.Proofs.YtjbafigageingaaW.PrintLast Go.Proofs.YtjbafigageingaaW.PrintMore
attribute [local go_sem] max2_int min2_int max_two min_two max_three min_three max_four min_four
set_option linter.unusedVariables false
set_option linter.unusedSimpArgs false

attribute [local go_sem high] eqA23
def assessorlaw09_few.f (a0 : Int) (l1 : List (S36)) : Option (Bool) := if (l1.length : Int) ≤ 80 then (if a0 ≤ 60 then (some true) else (some (decide (a0 > 4096)))) else (some false)
set_option maxHeartbeats 8000000 in
set_option maxRecDepth 100000 in
theorem assessorlaw09_few.calls (a0 : Int) (A1 : Option Addr) (c1 : Nat) (l1 : List (S36)) (r : Bool) (w : World) (hr1 : Kd.C k36 w A1 l1.length l1) (hc1 : l1.length ≤ c1) (h : assessorlaw09_few.f a0 l1 = some r) :
    Calls Try.prog 11 #[.int .i64 a0, .slice A1 l1.length c1] w fun e w' => e = .returned (.bool r) ∧ Drawn0 w w' := by
  have HR1 := Aside0.mk hr1
  have HC1 := Aside0.mk hc1
  clear hr1 hc1
  have H : (if (l1.length : Int) ≤ 80 then (if a0 ≤ 60 then (some true) else (some (decide (a0 > 4096)))) else (some false)) = some r := h
  clear h
  by_cases c3 : (l1.length : Int) ≤ 80
  · rw [if_pos c3] at H
    have c3b0 : decide ((l1.length : Int) ≤ 80) = true := decide_eq_true c3
    have c3b1 : decide (l1.length ≤ 80) = true := decide_eq_true (by omega)
    clear c3
    by_cases c4 : a0 ≤ 60
    · rw [if_pos c4] at H
      have c4b0 : decide (a0 ≤ 60) = true := decide_eq_true c4
      clear c4
      obtain rfl := Option.some.inj H
      go_enter Try.func11, Try.ntmps11
      go_wp2
      go_ret
      exact ⟨by first | rfl | (simp; done) | (simp [*]; done), by repeat (first | exact Drawn0.refl _ | apply Drawn0.step)⟩
    · rw [if_neg c4] at H
      have c4b0 : decide (a0 ≤ 60) = false := decide_eq_false c4
      clear c4
      obtain rfl := Option.some.inj H
      go_enter Try.func11, Try.ntmps11
      go_wp2
      go_ret
      exact ⟨by first | rfl | (simp; done) | (simp [*]; done), by repeat (first | exact Drawn0.refl _ | apply Drawn0.step)⟩
  · rw [if_neg c3] at H
    have c3b0 : decide ((l1.length : Int) ≤ 80) = false := decide_eq_false c3
    have c3b1 : decide (l1.length ≤ 80) = false := decide_eq_false (by omega)
    clear c3
    obtain rfl := Option.some.inj H
    go_enter Try.func11, Try.ntmps11
    go_wp2
    go_ret
    exact ⟨by first | rfl | (simp; done) | (simp [*]; done), by repeat (first | exact Drawn0.refl _ | apply Drawn0.step)⟩

end Go.Proofs.Ytjbafigageingaa.PR
