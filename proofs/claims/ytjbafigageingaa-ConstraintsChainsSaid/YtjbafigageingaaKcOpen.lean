import Derived.Test.YtjbafigageingaaRows
import Derived.Test.YtjbafigageingaaKcExcl
import Derived.WalkKit
import Derived.ProofKit
import Derived.OpenShut
import Derived.ShutString
import Derived.ChangeOld
import Derived.Below
import Derived.SizedLaws
import Derived.Deep.Slices
namespace Go.Proofs.Ytjbafigageingaa
open Go.RowKit Go.ChangeShapes Go.WideShapes Go.ChangeAt Go.Proofs.YtjbafigageingaaW.PrintWords Go.Proofs.YtjbafigageingaaW.PrintLast Go.Proofs.YtjbafigageingaaW.PrintMore
set_option linter.unusedVariables false
set_option linter.unusedSimpArgs false
theorem seat_own : ownKnob Try.prog.godebug = none := by kernel_rfl
theorem seat_laidOut : laidOutB Try.prog = true := by kernel_rfl
section
variable {H : Type} {enc : TypeId × Value → H} {w : World} {base : Nat} {spare : Nat → Bool} {held : Bool} {fuel : Nat} {x : DataW H × List MemPlace}
theorem open_23 {cs : List Value} (h : DataW.trod enc Try.prog w base spare held fuel 23 cs = some x) : ∃ t : S23, cs = [.int .i64 t.f0, .int .i64 t.f1, .string t.f2] := by
  obtain ⟨xs, n, _, _, hl, hlen, hf⟩ := DataW.trod_struct Try.underlying23 h
  have hl3 : cs.length = 3 := by rw [hl]; kernel_rfl
  match cs, hl3 with
  | [c0, c1, c2], _ =>
    have e3 : Try.prog.cellsOf 3 = 1 := by kernel_rfl
    have e9 : Try.prog.cellsOf 9 = 1 := by kernel_rfl
    have h0 : DataW.trod enc Try.prog w base spare held n 3 (([c0, c1, c2].drop 0).take (Try.prog.cellsOf 3)) = xs[0]? := hf 0 _ rfl
    have h1 : DataW.trod enc Try.prog w base spare held n 3 (([c0, c1, c2].drop 1).take (Try.prog.cellsOf 3)) = xs[1]? := hf 1 _ rfl
    have h2 : DataW.trod enc Try.prog w base spare held n 9 (([c0, c1, c2].drop 2).take (Try.prog.cellsOf 9)) = xs[2]? := hf 2 _ rfl
    rw [e3] at h0 h1
    rw [e9] at h2
    obtain ⟨y0, hy0⟩ : ∃ y, DataW.trod enc Try.prog w base spare held n 3 [c0] = some y := ⟨_, h0.trans (List.getElem?_eq_getElem (show 0 < xs.length by rw [hlen]; decide))⟩
    obtain ⟨y1, hy1⟩ : ∃ y, DataW.trod enc Try.prog w base spare held n 3 [c1] = some y := ⟨_, h1.trans (List.getElem?_eq_getElem (show 1 < xs.length by rw [hlen]; decide))⟩
    obtain ⟨y2, hy2⟩ : ∃ y, DataW.trod enc Try.prog w base spare held n 9 [c2] = some y := ⟨_, h2.trans (List.getElem?_eq_getElem (show 2 < xs.length by rw [hlen]; decide))⟩
    obtain ⟨a, ha, _, _⟩ := DataW.trod_int Try.underlying3 hy0
    obtain ⟨b, hb, _, _⟩ := DataW.trod_int Try.underlying3 hy1
    obtain ⟨s, hs, _, _⟩ := DataW.trod_string Try.underlying9 hy2
    injection ha with ha
    injection hb with hb
    injection hs with hs
    exact ⟨⟨a, b, s⟩, by rw [ha, hb, hs]⟩
end
end Go.Proofs.Ytjbafigageingaa
