import Derived.Test.YtjbafigageingaaKcAwake
import Derived.Test.YtjbafigageingaaKcSolve
import Derived.Test.YtjbafigageingaaKcPNx2
namespace Go.Proofs.Ytjbafigageingaa
open Go.RowKit Go.Proofs.YtjbafigageingaaW.PrintWords Go.Proofs.YtjbafigageingaaW.PrintLast Go.Proofs.YtjbafigageingaaW.PrintMore
set_option linter.unusedVariables false
def constraints_Solve.f (a0 : Int) (l : List S36) : Option (List S23 × List (List Int) × Int) := if l.length ≤ 1000000 then solveF a0 l 10000 else none
theorem constraints_Solve.calls (a0 : Int) (A1 : Option Addr) (c1 : Nat) (l1 : List S36) (r1 : List S23) (r2 : List (List Int)) (r3 : Int) (w : World) (hr1 : Kd.C k36 w A1 l1.length l1) (hc1 : l1.length ≤ c1) (h : constraints_Solve.f a0 l1 = some (r1, r2, r3)) :
    Calls Try.prog 12 #[.int .i64 a0, .slice A1 l1.length c1] w fun e w' => ∃ v1_ v2_ : Value, e = .returned (.tuple #[v1_, v2_, .int .i64 r3]) ∧ Kd.R k23 23 w' w.heap.size (fun _ => True) v1_ r1 ∧ Kd.R (Kd.slice 3 (Kd.int .i64)) 33 w' w.heap.size (fun _ => True) v2_ r2 ∧ Below w.heap.size w w' := by
  unfold constraints_Solve.f at h
  by_cases hl : l1.length ≤ 1000000
  · rw [if_pos hl] at h
    exact (solve_calls a0 A1 c1 l1 10000 w _ hr1 hl h).mono fun e w' ⟨v1, v2, h1, h2, h3, h4⟩ => ⟨v1, v2, h1, h2, h3, h4⟩
  · rw [if_neg hl] at h
    cases h
def assessorlaw09_awake.f : Option Bool := some true
theorem assessorlaw09_awake.calls (r : Bool) (w : World) (h : assessorlaw09_awake.f = some r) :
    Calls Try.prog 10 #[] w fun e w' => e = .returned (.bool r) ∧ Below w.heap.size w w' := by
  obtain rfl : true = r := Option.some.inj h
  exact awake_calls w
def assessorlaw09_isChain.f (l0 : List S36) (l1 : List Int) : Option Bool := match PN.assessorlaw09_isChain.f 100000 l0 l1 with | some true => some true | _ => none
theorem assessorlaw09_isChain.calls (A0 : Option Addr) (c0 : Nat) (l0 : List S36) (A1 : Option Addr) (c1 : Nat) (l1 : List Int) (r : Bool) (w : World) (hr0 : Kd.C k36 w A0 l0.length l0) (hc0 : l0.length ≤ c0) (hr1 : Kd.C (Kd.int .i64) w A1 l1.length l1) (hc1 : l1.length ≤ c1) (h : assessorlaw09_isChain.f l0 l1 = some r) :
    Calls Try.prog 14 #[.slice A0 l0.length c0, .slice A1 l1.length c1] w fun e w' => e = .returned (.bool r) ∧ Below w.heap.size w w' := by
  unfold assessorlaw09_isChain.f at h
  split at h
  · rename_i hk
    obtain rfl : true = r := Option.some.inj h
    exact PN.assessorlaw09_isChain.calls 100000 A0 c0 l0 A1 c1 l1 true w hr0 hc0 hr1 hc1 hk rfl
  · cases h
end Go.Proofs.Ytjbafigageingaa
