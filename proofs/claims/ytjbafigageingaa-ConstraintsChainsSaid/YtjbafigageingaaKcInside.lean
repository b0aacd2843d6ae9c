import Derived.Test.YtjbafigageingaaKcChain
import Derived.Test.YtjbafigageingaaKcSort
import Derived.Test.YtjbafigageingaaKcPhA
namespace Go.Proofs.Ytjbafigageingaa
open Go.RowKit Go.Maps Go.Proofs.YtjbafigageingaaW.PrintWords Go.Proofs.YtjbafigageingaaW.PrintLast Go.Proofs.YtjbafigageingaaW.PrintMore
set_option linter.unusedVariables false
set_option linter.unusedSimpArgs false
set_option maxRecDepth 100000 in
theorem inside_calls (v N : Int) (vb : Nat) (w : World) (hv : w.cell? ⟨vb, 0, none⟩ = some (.int .i64 N)) :
    Calls Try.prog 27 #[.int .i64 v, .pointer (some ⟨vb, 0, none⟩)] w fun e w' => e = .returned (.bool (decide (0 ≤ v ∧ v < N))) ∧ Below w.heap.size w w' := by
  go_enter Try.func27, Try.ntmps27
  by_cases h0 : 0 ≤ v
  · by_cases h1 : v < N
    · rw [decide_eq_true (show 0 ≤ v ∧ v < N from ⟨h0, h1⟩)]
      go_wp2
      go_ret
      exact ⟨rfl, Below.refl _ _⟩
    · rw [decide_eq_false (show ¬ (0 ≤ v ∧ v < N) from fun h => h1 h.2)]
      go_wp2
      go_ret
      exact ⟨rfl, Below.refl _ _⟩
  · rw [decide_eq_false (show ¬ (0 ≤ v ∧ v < N) from fun h => h0 h.1)]
    go_wp2
    go_ret
    exact ⟨rfl, Below.refl _ _⟩
end Go.Proofs.Ytjbafigageingaa
