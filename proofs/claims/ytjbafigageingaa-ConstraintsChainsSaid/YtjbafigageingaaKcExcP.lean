import Derived.Test.YtjbafigageingaaKcSpec
import Derived.Test.YtjbafigageingaaKcPRx3
namespace Go.Proofs.Ytjbafigageingaa
open Go.RowKit Go.Proofs.YtjbafigageingaaW.PrintWords Go.Proofs.YtjbafigageingaaW.PrintLast Go.Proofs.YtjbafigageingaaW.PrintMore
set_option linter.unusedVariables false
set_option linter.unusedSimpArgs false
theorem isEmpty_beq (l : List UInt8) : (l == ([] : List UInt8)) = l.isEmpty := by cases l <;> rfl
theorem isEmpty_bne (l : List UInt8) : (l != ([] : List UInt8)) = !l.isEmpty := by cases l <;> rfl
theorem refIsMark (k : Nat) (t : S23) : PR.assessorref09_IsMark.f (k + 1) t.f0 t.f1 t.f2 = some (isMarkB t) := by
  obtain ⟨a, b, s⟩ := t
  unfold PR.assessorref09_IsMark.f isMarkB noText
  simp only [PR.assessorref09_IsMark.j0, isEmpty_beq, isEmpty_bne]
  rcases (show a = 1 ∨ a = 2 ∨ a = 5 ∨ a = 6 ∨ a = 3 ∨ a = 4 ∨ (a ≠ 1 ∧ a ≠ 2 ∧ a ≠ 5 ∧ a ≠ 6 ∧ a ≠ 3 ∧ a ≠ 4) from by omega) with rfl | rfl | rfl | rfl | rfl | rfl | ⟨h1, h2, h3, h4, h5, h6⟩
  all_goals simp [*]
  all_goals (try (by_cases hb : b = 0 <;> simp [hb]; done))
  all_goals (try (by_cases h1 : 1 ≤ b <;> by_cases h8 : b ≤ 8 <;> simp [h1, h8]; done))
theorem refFits (a b : S23) : PR.assessorref09_fits.f a.f0 a.f1 a.f2 b.f0 b.f1 b.f2 = some (sameT a b || coversB a b) := by
  obtain ⟨a0, a1, a2⟩ := a
  obtain ⟨b0, b1, b2⟩ := b
  unfold PR.assessorref09_fits.f sameT coversB
  simp only
  by_cases hs : (a0 == b0 && (a1 == b1 && (a2.toList == b2.toList))) = true
  · rw [if_pos hs, hs]; simp
  · rw [if_neg hs, Bool.eq_false_iff.2 hs]
    by_cases h6 : a0 = 6
    · subst h6
      by_cases h1 : b0 = 1
      · simp [h1]
      · by_cases h2 : b0 = 2 <;> simp [h1, h2]
    · by_cases h5 : a0 = 5
      · subst h5
        by_cases h3 : b0 = 3 <;> simp [h3]
      · simp [h5, h6]
theorem refExcl (k : Nat) (a b : S23) : PR.assessorref09_Exclude.f (k + 1) a.f0 a.f1 a.f2 b.f0 b.f1 b.f2 = some (exclB a b) := by
  unfold PR.assessorref09_Exclude.f exclB
  rw [refIsMark, refIsMark, refFits, refFits]
  simp only [Option.bind_some]
  have hsym : sameT b a = sameT a b := by
    unfold sameT
    rw [Bool.beq_comm (a := b.f0), Bool.beq_comm (a := b.f1), Bool.beq_comm (a := b.f2.toList)]
  rw [hsym]
  cases isMarkB a <;> cases isMarkB b <;> cases sameT a b <;> cases coversB a b <;> cases coversB b a <;> rfl
theorem excl_symm (a b : S23) : exclB b a = exclB a b := by
  unfold exclB
  have hsym : sameT b a = sameT a b := by
    unfold sameT
    rw [Bool.beq_comm (a := b.f0), Bool.beq_comm (a := b.f1), Bool.beq_comm (a := b.f2.toList)]
  rw [hsym]
  cases isMarkB a <;> cases isMarkB b <;> cases sameT a b <;> cases coversB a b <;> cases coversB b a <;> rfl
theorem excl_irr (a : S23) : exclB a a = false := by
  have : sameT a a = true := by simp [sameT]
  unfold exclB
  rw [this]
  cases isMarkB a <;> rfl
end Go.Proofs.Ytjbafigageingaa
