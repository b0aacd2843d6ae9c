import Derived.Test.YtjbafigageingaaKcPu1
import Derived.Test.YtjbafigageingaaKcSurr
import Derived.Test.YtjbafigageingaaKcPFx1
import Derived.Test.YtjbafigageingaaProg
import Derived.Test.YtjbafigageingaaKcW
import Derived.Below
import Derived.Deep.Draws
import Derived.Deep.AppendLies
import Derived.Maps.AppendAt
import Derived.OwnWalk
import Derived.Laws.BytesArg
import Derived.Laws.MakeOwn
import Derived.Laws.OwnMore
import Derived.Deep.OwnRows
import Derived.Tactics
import Derived.Lib.ConvBytes
import Derived.Laws.Slices
import Derived.WalkKit
import Derived.KernelRfl
import Derived.RowKit3
import Derived.Deep.LoopGhost
import Derived.Deep.QuietTactic
import Derived.BigQuiet
import Derived.WideLaws
import Derived.Deep.DeepCutAuto
import Derived.Deep.CutBlock
import Derived.Deep.RegionHeld3
import Derived.Laws.Rows
import Derived.Lib.AppendStr
import Derived.ArgAppend
import Derived.Laws.IdiomCopy
import Derived.OrdersHeld
import Derived.Laws.BitsLemmas
import Derived.RowKit
namespace Go.Proofs.Ytjbafigageingaa
open Go.RowKit Go.Proofs.YtjbafigageingaaW.PrintWords Go.Proofs.YtjbafigageingaaW.PrintLast Go.Proofs.YtjbafigageingaaW.PrintMore
set_option linter.unusedVariables false
set_option linter.unusedSimpArgs false
theorem solve_of {a0 : Int} {l : List S36} (hl : l.length ≤ 80) : constraints_Solve.f a0 l = solveF a0 l 10000 := by
  unfold constraints_Solve.f
  rw [if_pos (by omega)]
theorem few_eq (a0 : Int) (l : List S36) : PR.assessorlaw09_few.f a0 l = some (decide (l.length ≤ 80 ∧ (a0 ≤ 60 ∨ a0 > 4096))) := by
  unfold PR.assessorlaw09_few.f
  by_cases h1 : (l.length : Int) ≤ 80
  · rw [if_pos h1]
    have h1' : l.length ≤ 80 := by omega
    by_cases h2 : a0 ≤ 60
    · rw [if_pos h2]; simp [h1', h2]
    · rw [if_neg h2]; simp [h1', h2]
  · rw [if_neg h1]
    have h1' : ¬ l.length ≤ 80 := by omega
    simp [h1']
/-- what Solve answers within the guard -/
theorem solve_cases (a0 : Int) (l : List S36) (hl : l.length ≤ 80) (hf : a0 ≤ 60 ∨ a0 > 4096) :
    (¬ (0 ≤ a0 ∧ a0 ≤ 4096) ∧ constraints_Solve.f a0 l = some ([], [], 2)) ∨ (∃ N : Nat, a0 = N ∧ N ≤ 60 ∧ ((¬ Valid N l ∧ constraints_Solve.f a0 l = some ([], [], 1)) ∨ (Valid N l ∧ ∃ out ch, constraints_Solve.f a0 l = some (out, ch, 0) ∧ Solved N l out ch))) := by
  rw [solve_of hl]
  by_cases h0 : a0 < 0 ∨ 4096 < a0
  · exact .inl ⟨by omega, solve_range h0 _⟩
  · obtain ⟨N, rfl⟩ := Int.eq_ofNat_of_zero_le (show 0 ≤ a0 by omega)
    refine .inr ⟨N, rfl, by omega, ?_⟩
    by_cases hV : Valid N l
    · exact .inr ⟨hV, solve_valid hV (by omega) hl⟩
    · exact .inl ⟨hV, solve_invalid hV (by omega) _⟩
theorem reps_len (L : List S36) (N : Nat) : (reps L N).length ≤ N := by
  unfold reps
  exact Nat.le_trans (List.length_filter_le _ _) (by simp)
end Go.Proofs.Ytjbafigageingaa
