import Derived.Test.YtjbafigageingaaKoSpec
import Derived.Test.YtjbafigageingaaKoPRx3
namespace Go.Proofs.Ytjbafigageingaa
open Go.RowKit Go.Proofs.YtjbafigageingaaW.PrintWords Go.Proofs.YtjbafigageingaaW.PrintLast Go.Proofs.YtjbafigageingaaW.PrintMore
set_option linter.unusedVariables false
set_option linter.unusedSimpArgs false
theorem excl_symm (a b : S23) : exclB b a = exclB a b := by
  unfold exclB
  have hsym : sameT b a = sameT a b := by
    unfold sameT
    rw [Bool.beq_comm (a := b.f0), Bool.beq_comm (a := b.f1), Bool.beq_comm (a := b.f2.toList)]
  rw [hsym]
  cases isMarkB a <;> cases isMarkB b <;> cases sameT a b <;> cases coversB a b <;> cases coversB b a <;> rfl
theorem excl_irr (a : S23) : exclB a a = false := by
  have : sameT a a = true := by simp [sameT]
  unfold exclB
  rw [this]
  cases isMarkB a <;> rfl
end Go.Proofs.Ytjbafigageingaa
