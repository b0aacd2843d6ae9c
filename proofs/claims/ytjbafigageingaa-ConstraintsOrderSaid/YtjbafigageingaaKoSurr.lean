import Derived.Test.YtjbafigageingaaKoAwake
import Derived.Test.YtjbafigageingaaKoSolve
import Derived.Test.YtjbafigageingaaKoPRx3
import Derived.Test.YtjbafigageingaaKoBase
import Derived.Test.YtjbafigageingaaProg
import Derived.Test.YtjbafigageingaaKoW
import Derived.Below
import Derived.Deep.Draws
import Derived.Deep.AppendLies
import Derived.Maps.AppendAt
import Derived.OwnWalk
import Derived.Laws.BytesArg
import Derived.Laws.MakeOwn
import Derived.Laws.OwnMore
import Derived.Deep.OwnRows
import Derived.Tactics
import Derived.Lib.ConvBytes
import Derived.Laws.Slices
import Derived.WalkKit
import Derived.KernelRfl
import Derived.RowKit3
import Derived.Deep.LoopGhost
import Derived.Deep.QuietTactic
import Derived.BigQuiet
import Derived.WideLaws
import Derived.Deep.DeepCutAuto
import Derived.Deep.CutBlock
import Derived.Deep.RegionHeld3
import Derived.Laws.Rows
import Derived.Lib.AppendStr
import Derived.ArgAppend
import Derived.Laws.IdiomCopy
import Derived.OrdersHeld
import Derived.Laws.BitsLemmas
import Derived.RowKit
namespace Go.Proofs.Ytjbafigageingaa
open Go.RowKit Go.Proofs.YtjbafigageingaaW.PrintWords Go.Proofs.YtjbafigageingaaW.PrintLast Go.Proofs.YtjbafigageingaaW.PrintMore
set_option linter.unusedVariables false
def constraints_Solve.f (a0 : Int) (l : List S36) : Option (List S23 × List (List Int) × Int) := if l.length ≤ 1000000 then solveF a0 l 10000 else none
theorem constraints_Solve.calls (a0 : Int) (A1 : Option Addr) (c1 : Nat) (l1 : List S36) (r1 : List S23) (r2 : List (List Int)) (r3 : Int) (w : World) (hr1 : Kd.C k36 w A1 l1.length l1) (hc1 : l1.length ≤ c1) (h : constraints_Solve.f a0 l1 = some (r1, r2, r3)) :
    Calls Try.prog 12 #[.int .i64 a0, .slice A1 l1.length c1] w fun e w' => ∃ v1_ v2_ : Value, e = .returned (.tuple #[v1_, v2_, .int .i64 r3]) ∧ Kd.R k23 23 w' w.heap.size (fun _ => True) v1_ r1 ∧ Kd.R (Kd.slice 3 (Kd.int .i64)) 33 w' w.heap.size (fun _ => True) v2_ r2 ∧ Below w.heap.size w w' := by
  unfold constraints_Solve.f at h
  by_cases hl : l1.length ≤ 1000000
  · rw [if_pos hl] at h
    exact (solve_calls a0 A1 c1 l1 10000 w _ hr1 hl h).mono fun e w' ⟨v1, v2, h1, h2, h3, h4⟩ => ⟨v1, v2, h1, h2, h3, h4⟩
  · rw [if_neg hl] at h
    cases h
def assessorlaw09_awake.f : Option Bool := some true
theorem assessorlaw09_awake.calls (r : Bool) (w : World) (h : assessorlaw09_awake.f = some r) :
    Calls Try.prog 10 #[] w fun e w' => e = .returned (.bool r) ∧ Below w.heap.size w w' := by
  obtain rfl : true = r := Option.some.inj h
  exact awake_calls w
end Go.Proofs.Ytjbafigageingaa
