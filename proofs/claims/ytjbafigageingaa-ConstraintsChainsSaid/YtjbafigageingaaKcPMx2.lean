import Derived.Test.YtjbafigageingaaKcSurr
import Derived.Test.YtjbafigageingaaKcPFx1
import Derived.Test.YtjbafigageingaaProg
import Derived.Test.YtjbafigageingaaKcW
import Derived.Below
import Derived.Deep.Draws
import Derived.Deep.AppendLies
import Derived.Maps.AppendAt
import Derived.OwnWalk
import Derived.Laws.BytesArg
import Derived.Laws.MakeOwn
import Derived.Laws.OwnMore
import Derived.Deep.OwnRows
import Derived.Tactics
import Derived.Lib.ConvBytes
import Derived.Laws.Slices
import Derived.WalkKit
import Derived.KernelRfl
import Derived.RowKit3
import Derived.Deep.LoopGhost
import Derived.Deep.QuietTactic
import Derived.BigQuiet
import Derived.WideLaws
import Derived.Deep.DeepCutAuto
import Derived.Deep.CutBlock
import Derived.Deep.RegionHeld3
import Derived.Laws.Rows
import Derived.Lib.AppendStr
import Derived.ArgAppend
import Derived.Laws.IdiomCopy
import Derived.OrdersHeld
import Derived.Laws.BitsLemmas
import Derived.RowKit
import Derived.Test.YtjbafigageingaaKcPMx1
namespace Go.Proofs.Ytjbafigageingaa.PM
open Go.Proofs.Ytjbafigageingaa.PR Go.Proofs.Ytjbafigageingaa.PF
open Go.RowKit Go.Proofs.YtjbafigageingaaW.PrintWords Go.Proofs.YtjbafigageingaaW.PrintLast Go.Proofs.YtjbafigageingaaW.PrintMore
attribute [local go_sem] max2_int min2_int max_two min_two max_three min_three max_four min_four
set_option linter.unusedVariables false
set_option linter.unusedSimpArgs false

attribute [local go_sem high] eqA23
mutual
def assessorlaw09_ConstraintsChains.l0 : Nat → Int → List (S36) → List (S23) → List (List Int) → Int → Int → Option (Bool)
 | 0, _, _, _, _, _, _ => none
 | k + 1, x0, x1, x5, x51, x52, x53 => if x53 < x52 then (if 0 ≤ x53 then (if x53 < (x51.length : Int) then ((assessorlaw09_isChain.f x1 (rd_L7 x51 x53)).bind fun t127 => (if t127 = true then (if 0 < ((rd_L7 x51 x53).length : Int) then (if 0 ≤ (rd (rd_L7 x51 x53) 0) then (if (rd (rd_L7 x51 x53) 0) < (x1.length : Int) then (if 0 ≤ ((rd_T36 x1 (rd (rd_L7 x51 x53) 0)).f1) then (if ((rd_T36 x1 (rd (rd_L7 x51 x53) 0)).f1) < (x5.length : Int) then (if (!(((rd_T23 x5 ((rd_T36 x1 (rd (rd_L7 x51 x53) 0)).f1)).f0) == 0) || (!(((rd_T23 x5 ((rd_T36 x1 (rd (rd_L7 x51 x53) 0)).f1)).f1) == 0) || (!((((rd_T23 x5 ((rd_T36 x1 (rd (rd_L7 x51 x53) 0)).f1)).f2).toList) == ([] : List UInt8))))) = true then (some false) else (assessorlaw09_ConstraintsChains.l1 k x0 x1 x5 (rd_L7 x51 x53) ([] : List (S36)) x51 x52 x53 (rd_L7 x51 x53) ((rd_L7 x51 x53).length : Int) 0)) else (none)) else (none)) else (none)) else (none)) else (none)) else (some false))) else (none)) else (none)) else (assessorlaw09_ConstraintsChains.l2 k x5 x1 (x1.length : Int) 0)
def assessorlaw09_ConstraintsChains.l1 : Nat → Int → List (S36) → List (S23) → List Int → List (S36) → List (List Int) → Int → Int → List Int → Int → Int → Option (Bool)
 | 0, _, _, _, _, _, _, _, _, _, _, _ => none
 | k + 1, x0, x1, x5, x9, x10, x51, x52, x53, x75, x76, x77 => if x77 < x76 then (if 0 ≤ x77 then (if x77 < (x75.length : Int) then (if 0 ≤ (rd x75 x77) then (if (rd x75 x77) < (x1.length : Int) then (if x10.length < 1954687338268 then (assessorlaw09_ConstraintsChains.l1 k x0 x1 x5 x9 (x10 ++ [(⟨(rd_T36 x1 (rd x75 x77)).f0, (rd_T36 x1 (rd x75 x77)).f1, (rd_T36 x1 (rd x75 x77)).f2, (⟨(rd_T36 x1 (rd x75 x77)).f3.f0, (rd_T36 x1 (rd x75 x77)).f3.f1, (rd_T36 x1 (rd x75 x77)).f3.f2⟩ : S23), (rd_T36 x1 (rd x75 x77)).f4, (rd_T36 x1 (rd x75 x77)).f5⟩ : S36)]) x51 x52 x53 x75 x76 (wrap64 (x77 + 1))) else (none)) else (none)) else (none)) else (none)) else (none)) else ((constraints_Solve.f x0 x10).bind fun bt136 => (if bt136.2.2 = 0 then (if (bt136.2.1.length : Int) = 1 then (if 0 < (bt136.2.1.length : Int) then (if ((rd_L7 bt136.2.1 0).length : Int) = (x9.length : Int) then (assessorlaw09_ConstraintsChains.l0 k x0 x1 x5 x51 x52 (wrap64 (x53 + 1))) else (some false)) else (none)) else (some false)) else (some false)))
def assessorlaw09_ConstraintsChains.l2 : Nat → List (S23) → List (S36) → Int → Int → Option (Bool)
 | 0, _, _, _, _ => none
 | k + 1, x5, x113, x114, x115 => if x115 < x114 then (if 0 ≤ x115 then (if x115 < (x113.length : Int) then (if ((rd_T36 x113 x115).f0) = 1 then (if 0 ≤ ((rd_T36 x113 x115).f1) then (if ((rd_T36 x113 x115).f1) < (x5.length : Int) then (if 0 ≤ ((rd_T36 x113 x115).f2) then (if ((rd_T36 x113 x115).f2) < (x5.length : Int) then (if (!(((rd_T23 x5 ((rd_T36 x113 x115).f1)).f0) == ((rd_T23 x5 ((rd_T36 x113 x115).f2)).f0)) || (!(((rd_T23 x5 ((rd_T36 x113 x115).f1)).f1) == ((rd_T23 x5 ((rd_T36 x113 x115).f2)).f1)) || (!((((rd_T23 x5 ((rd_T36 x113 x115).f1)).f2).toList) == (((rd_T23 x5 ((rd_T36 x113 x115).f2)).f2).toList))))) = true then (some false) else (if ((rd_T36 x113 x115).f0) = 0 then (if (!(((rd_T23 x5 ((rd_T36 x113 x115).f1)).f0) == 0) || (!(((rd_T23 x5 ((rd_T36 x113 x115).f1)).f1) == 0) || (!((((rd_T23 x5 ((rd_T36 x113 x115).f1)).f2).toList) == ([] : List UInt8))))) = true then ((assessorref09_Exclude.f k ((rd_T36 x113 x115).f3.f0) ((rd_T36 x113 x115).f3.f1) ((rd_T36 x113 x115).f3.f2) ((rd_T23 x5 ((rd_T36 x113 x115).f1)).f0) ((rd_T23 x5 ((rd_T36 x113 x115).f1)).f1) ((rd_T23 x5 ((rd_T36 x113 x115).f1)).f2)).bind fun t150 => (if t150 = true then (some false) else (assessorlaw09_ConstraintsChains.l2 k x5 x113 x114 (wrap64 (x115 + 1))))) else (assessorlaw09_ConstraintsChains.l2 k x5 x113 x114 (wrap64 (x115 + 1)))) else (assessorlaw09_ConstraintsChains.l2 k x5 x113 x114 (wrap64 (x115 + 1))))) else (none)) else (none)) else (none)) else (none)) else (if ((rd_T36 x113 x115).f0) = 0 then (if 0 ≤ ((rd_T36 x113 x115).f1) then (if ((rd_T36 x113 x115).f1) < (x5.length : Int) then (if (!(((rd_T23 x5 ((rd_T36 x113 x115).f1)).f0) == 0) || (!(((rd_T23 x5 ((rd_T36 x113 x115).f1)).f1) == 0) || (!((((rd_T23 x5 ((rd_T36 x113 x115).f1)).f2).toList) == ([] : List UInt8))))) = true then ((assessorref09_Exclude.f k ((rd_T36 x113 x115).f3.f0) ((rd_T36 x113 x115).f3.f1) ((rd_T36 x113 x115).f3.f2) ((rd_T23 x5 ((rd_T36 x113 x115).f1)).f0) ((rd_T23 x5 ((rd_T36 x113 x115).f1)).f1) ((rd_T23 x5 ((rd_T36 x113 x115).f1)).f2)).bind fun t153 => (if t153 = true then (some false) else (assessorlaw09_ConstraintsChains.l2 k x5 x113 x114 (wrap64 (x115 + 1))))) else (assessorlaw09_ConstraintsChains.l2 k x5 x113 x114 (wrap64 (x115 + 1)))) else (none)) else (none)) else (assessorlaw09_ConstraintsChains.l2 k x5 x113 x114 (wrap64 (x115 + 1))))) else (none)) else (none)) else ((assessorlaw09_awake.f).bind fun t154 => (some t154))
end
def assessorlaw09_ConstraintsChains.f (k : Nat) (a0 : Int) (l1 : List (S36)) : Option (Bool) := (assessorlaw09_few.f a0 l1).bind fun t115 => (if t115 = true then ((constraints_Solve.f a0 l1).bind fun bt117 => ((assessorref09_Fits.f k a0 l1).bind fun t124 => (if ((bt117.2.2 == 0) != t124) = true then (some false) else (if bt117.2.2 = 0 then (if (bt117.1.length : Int) = a0 then (assessorlaw09_ConstraintsChains.l0 k a0 l1 bt117.1 bt117.2.1 (bt117.2.1.length : Int) 0) else (some false)) else (if (wrap64 ((bt117.1.length : Int) + (bt117.2.1.length : Int))) = 0 then ((assessorlaw09_awake.f).bind fun t125 => (some t125)) else (some false)))))) else ((assessorlaw09_awake.f).bind fun t116 => (some t116)))
def assessorlaw09_ConstraintsChains.T28 : Bool × List (List Nat × List Nat) := (true, [([], []), ([0], [0]), ([1], [1]), ([2], [2]), ([3], [3]), ([3], [3]), ([5, 3], [3, 5]), ([4, 6, 3], [3, 4, 6]), ([7, 3], [3, 7]), ([3], [3]), ([3], [3]), ([10, 3], [3, 10]), ([9, 11, 3], [3, 9, 11]), ([12, 3], [3, 12]), ([8, 13, 3], [3, 8, 13]), ([3, 14], [3, 14]), ([15, 3], [15]), ([16], [16]), ([17, 16], [16, 17]), ([18, 16], [16, 18]), ([19, 16, 16], [16, 19]), ([20], [20]), ([20], [20]), ([22, 20], [20, 22]), ([21, 23, 20], [20, 21, 23]), ([24, 20], [20, 24]), ([20], [20]), ([25, 26, 20], [20, 25, 26]), ([20, 27, 16], [16, 20, 27]), ([28, 20, 16], [16, 28]), ([29], [29]), ([30, 29], [29, 30]), ([29], [29]), ([29], [29]), ([33, 29], [29, 33]), ([32, 34, 29], [29, 32, 34]), ([35, 29], [29, 35]), ([31, 36, 29, 29], [29, 31, 36]), ([29, 37, 16], [16, 29, 37]), ([16, 38], [16, 38])])
def assessorlaw09_ConstraintsChains.B28 : List Nat := [0, 1, 3, 7, 15, 15, 47, 127, 255, 15, 15, 1039, 3599, 7695, 16383, 32767, 65535, 131071, 262143, 524287, 1048575, 2097151, 2097151, 6291455, 16777215, 33554431, 2097151, 134217727, 268435455, 536870911, 1073741823, 2147483647, 1073741823, 1073741823, 9663676415, 31138512895, 65498251263, 137438953471, 274877906943, 549755813887]
theorem assessorlaw09_ConstraintsChains.tab28 : rtab .any (opsOf Try.f4 28) = assessorlaw09_ConstraintsChains.T28 := by kernel_rfl
theorem assessorlaw09_ConstraintsChains.bits28 : waitsOk assessorlaw09_ConstraintsChains.T28.2 assessorlaw09_ConstraintsChains.B28 = true := by kernel_rfl
end Go.Proofs.Ytjbafigageingaa.PM
