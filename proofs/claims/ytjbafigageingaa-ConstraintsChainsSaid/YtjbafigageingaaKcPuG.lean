import Derived.Test.YtjbafigageingaaKcConn
import Derived.Test.YtjbafigageingaaKcPu1
import Derived.Test.YtjbafigageingaaKcPuO
import Derived.Test.YtjbafigageingaaKcSurr
import Derived.Test.YtjbafigageingaaKcPFx1
import Derived.Test.YtjbafigageingaaProg
import Derived.Test.YtjbafigageingaaKcW
import Derived.Below
import Derived.Deep.Draws
import Derived.Deep.AppendLies
import Derived.Maps.AppendAt
import Derived.OwnWalk
import Derived.Laws.BytesArg
import Derived.Laws.MakeOwn
import Derived.Laws.OwnMore
import Derived.Deep.OwnRows
import Derived.Tactics
import Derived.Lib.ConvBytes
import Derived.Laws.Slices
import Derived.WalkKit
import Derived.KernelRfl
import Derived.RowKit3
import Derived.Deep.LoopGhost
import Derived.Deep.QuietTactic
import Derived.BigQuiet
import Derived.WideLaws
import Derived.Deep.DeepCutAuto
import Derived.Deep.CutBlock
import Derived.Deep.RegionHeld3
import Derived.Laws.Rows
import Derived.Lib.AppendStr
import Derived.ArgAppend
import Derived.Laws.IdiomCopy
import Derived.OrdersHeld
import Derived.Laws.BitsLemmas
import Derived.RowKit
namespace Go.Proofs.Ytjbafigageingaa
open Go.RowKit Go.Proofs.YtjbafigageingaaW.PrintWords Go.Proofs.YtjbafigageingaaW.PrintLast Go.Proofs.YtjbafigageingaaW.PrintMore
set_option linter.unusedVariables false
set_option linter.unusedSimpArgs false
/-- a walk can be shortened -/
theorem wk_short {N : Nat} {L : List S36} (hV : Valid N L) (hN : N ≤ 4096) {f v : Int} (hf : InN N f) {n : Nat} (h : WkL L n f v) : ∃ m, m < N ∧ WkL L m f v := by
  obtain ⟨⟨E, M⟩, hbd⟩ := build_valid (N := N) L 0 (List.replicate N []) (fun _ => []) hV
  obtain ⟨hb, _⟩ := build_some L [] _ _ (built_nil N) hbd
  rw [List.nil_append] at hb
  obtain ⟨far, _, hF⟩ := hb.dist hV hN (F := [f]) (fun x hx => by rw [List.mem_singleton.1 hx]; exact hf) (by simp) (k := 10000) (by simp; omega)
  rcases hF.far v (wkL_in hV hf h) with ⟨_, g⟩ | ⟨m, _, g2, ⟨f', hf', g3⟩, _⟩
  · exact absurd h (g f (List.mem_singleton.2 rfl) n)
  · rw [List.mem_singleton.1 hf'] at g3
    exact ⟨m, g2, g3⟩
theorem chok_short {N : Nat} {L : List S36} (hV : Valid N L) (hN : N ≤ 4096) {r : Nat} {a z : Int} {p : List Int} (h : IsCh L a z p) (hc : Conn L r (cAt L a).f1) (hm : ∀ n, Cf L r n → p.length ≤ n) : p.length < N := by
  obtain ⟨m, h1, h2⟩ := wk_short hV hN (hV _ (at_mem h.ra)).1 (wayC_wk p _ _ h.rp h.way)
  have := hm m ((cf_iff _ _ _).2 ⟨_, at_mem h.ra, _, at_mem h.rz, h.ka, h.kz, hc, h.ex, h2⟩)
  omega
theorem isch_f {L : List S36} {a z : Int} {p : List Int} (h : IsCh L a z p) (hp : p.length ≤ 30000) : assessorlaw09_isChain.f L (a :: (p ++ [z])) = some true := by
  unfold assessorlaw09_isChain.f
  rw [isch_true h hp]
theorem rdL7 (xs : List (List Int)) (i : Nat) (h : i < xs.length) : rd_L7 xs (i : Int) = xs[i] := by
  unfold rd_L7
  rw [Int.toNat_natCast, List.getD_eq_getElem?_getD, List.getElem?_eq_getElem h]
  rfl
end Go.Proofs.Ytjbafigageingaa
