import Derived.Test.YtjbafigageingaaKsM5
import Derived.Test.YtjbafigageingaaKsM1
import Derived.Test.YtjbafigageingaaKsPRx6
import Derived.Test.YtjbafigageingaaProg
import Derived.Test.YtjbafigageingaaKsW
import Derived.Below
import Derived.Deep.Draws
import Derived.Deep.AppendLies
import Derived.Maps.AppendAt
import Derived.OwnWalk
import Derived.Laws.BytesArg
import Derived.Laws.MakeOwn
import Derived.Laws.OwnMore
import Derived.Deep.OwnRows
import Derived.Tactics
import Derived.Lib.ConvBytes
import Derived.Laws.Slices
import Derived.WalkKit
import Derived.KernelRfl
import Derived.RowKit3
import Derived.Deep.LoopGhost
import Derived.Deep.QuietTactic
import Derived.BigQuiet
import Derived.WideLaws
import Derived.Deep.DeepCutAuto
import Derived.Deep.CutBlock
import Derived.Deep.RegionHeld3
import Derived.Laws.Rows
import Derived.Lib.AppendStr
import Derived.ArgAppend
import Derived.Laws.IdiomCopy
import Derived.OrdersHeld
import Derived.Laws.BitsLemmas
import Derived.RowKit
namespace Go.Proofs.Ytjbafigageingaa.PS
open Go.Proofs.Ytjbafigageingaa.PR Go.Proofs.Ytjbafigageingaa.PF
open Go.RowKit Go.Proofs.YtjbafigageingaaW.PrintWords Go.Proofs.YtjbafigageingaaW.PrintLast Go.Proofs.YtjbafigageingaaW.PrintMore
set_option linter.unusedVariables false
set_option linter.unusedSimpArgs false
def types_Format.f (a0_0 : Int) (a0_1 : Int) (a0_2 : ByteArray) : Option (ByteArray) := if a0_0 = 1 then (some (⟨#[105, 110, 116]⟩ : ByteArray)) else (if a0_0 = 2 then (some (⟨#[98, 111, 111, 108]⟩ : ByteArray)) else (if a0_0 = 3 then (if a0_1 ≥ 0 then ((types_digits.f a0_1).bind fun t235 => (if 4 + t235.size ≤ 9223372036854775807 then (if ((⟨#[105, 110, 116, 91]⟩ : ByteArray) ++ t235).size + 1 ≤ 9223372036854775807 then (some (((⟨#[105, 110, 116, 91]⟩ : ByteArray) ++ t235) ++ (⟨#[93]⟩ : ByteArray))) else (none)) else (none))) else (some (⟨#[]⟩ : ByteArray))) else (if a0_0 = 4 then (some a0_2) else (if a0_0 = 5 then (some (⟨#[97, 114, 114, 97, 121]⟩ : ByteArray)) else (if a0_0 = 6 then (some (⟨#[105, 110, 116, 32, 111, 114, 32, 98, 111, 111, 108]⟩ : ByteArray)) else (some (⟨#[]⟩ : ByteArray)))))))
set_option maxRecDepth 100000 in
set_option maxHeartbeats 1000000 in
theorem types_Format.calls (a0_0 : Int) (a0_1 : Int) (a0_2 : ByteArray) (r : ByteArray) (w : World) (h : types_Format.f a0_0 a0_1 a0_2 = some r) :
    Calls Try.prog 36 #[.agg #[.int .i64 a0_0, .int .i64 a0_1, .string a0_2]] w fun e w' => e = .returned (.string r) ∧ Below w.heap.size w w' := by
  unfold types_Format.f at h
  by_cases h3 : a0_0 = 3 ∧ 0 ≤ a0_1
  · obtain ⟨rfl, h1⟩ := h3
    rw [if_neg (by decide), if_neg (by decide), if_pos rfl, if_pos h1] at h
    obtain ⟨t, ht, h⟩ := Option.bind_eq_some_iff.1 h
    by_cases c1 : 4 + t.size ≤ 9223372036854775807; rotate_left
    · rw [if_neg c1] at h; cases h
    rw [if_pos c1] at h
    by_cases c2 : ((⟨#[105, 110, 116, 91]⟩ : ByteArray) ++ t).size + 1 ≤ 9223372036854775807; rotate_left
    · rw [if_neg c2] at h; cases h
    rw [if_pos c2] at h
    obtain rfl := Option.some.inj h
    have hs : ((⟨#[105, 110, 116, 91]⟩ : ByteArray) ++ t).size = 4 + t.size := by rw [ByteArray.size_append]; rfl
    have d1 : (9223372036854775807 < 4 + t.size) = False := eq_false (by omega)
    have d2 : (9223372036854775807 < 4 + t.size + 1) = False := eq_false (by omega)
    have d3 : (9223372036854775807 < ((⟨#[105, 110, 116, 91]⟩ : ByteArray) ++ t).size + 1) = False := eq_false (by omega)
    have hn : decide (a0_1 < 0) = false := decide_eq_false (by omega)
    have HT := Aside0.mk ht
    clear h ht c1 c2 hs
    go_enter Try.func36, Try.ntmps36
    go_wp2_with (go_at_call 42; refine (types_digits.calls _ t _ HT.out).mono ?_; rintro e w1 ⟨rfl, hd⟩; obtain ⟨n_, rfl⟩ := hd.out)
    go_ret
    exact ⟨rfl, by first | exact pw_below_drewN ((Below.refl _ _).alloc (Nat.le_refl _) _) _ | exact pw_below_drewN ((Below.refl _ _).alloc (Nat.le_refl _) _)⟩
  · rcases (show a0_0 = 1 ∨ a0_0 = 2 ∨ (a0_0 = 3 ∧ a0_1 < 0) ∨ a0_0 = 4 ∨ a0_0 = 5 ∨ a0_0 = 6 ∨ (a0_0 ≠ 1 ∧ a0_0 ≠ 2 ∧ a0_0 ≠ 3 ∧ a0_0 ≠ 4 ∧ a0_0 ≠ 5 ∧ a0_0 ≠ 6) from by omega) with rfl | rfl | ⟨rfl, h1⟩ | rfl | rfl | rfl | ⟨h1, h2, h3, h4, h5, h6⟩
    all_goals
      try have h1' := Int.not_le.2 h1
      simp [*] at h
      subst h
      go_enter Try.func36, Try.ntmps36
      go_wp2
      go_ret
      exact ⟨rfl, (Below.refl _ _).alloc (Nat.le_refl _) _⟩
end Go.Proofs.Ytjbafigageingaa.PS
