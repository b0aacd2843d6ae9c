import Derived.Test.YtjbafigageingaaKcBase
import Derived.Maps.OwnSet
import Derived.Maps.RangeWalk
namespace Go.Proofs.Ytjbafigageingaa
open Go.RowKit Go.Maps Go.Proofs.YtjbafigageingaaW.PrintWords Go.Proofs.YtjbafigageingaaW.PrintLast Go.Proofs.YtjbafigageingaaW.PrintMore
set_option linter.unusedVariables false
set_option linter.unusedSimpArgs false

/-- An element is read as itself. -/
def tokR (v : Value) : Option (DataW Value × List MemPlace) := some (.held v, [])
/-- Block b is a map of at most n entries that holds m. -/
def MapK {κ : Type} (P : Program) (k : TypeId) (lit : κ → Lit) (w : World) (b n : Nat) (m : κ → Option Value) : Prop :=
  ∃ D : DataW Value, w.ownsMap P k tokR b n D ∧ (∀ x, Maps.has D (lit x) = (m x).isSome) ∧ ∀ x z, D.atKey (lit x) (.held z) = .held ((m x).getD z)
section
variable {κ : Type} {P : Program} {k t e : TypeId} {lit : κ → Lit} {w w1 : World} {b n : Nat} {m : κ → Option Value} {row : Option Nat}
theorem MapK.made (P : Program) (k : TypeId) (lit : κ → Lit) (w : World) : MapK P k lit (w.alloc (.map #[] 0)) w.heap.size 0 (fun _ => none) :=
  ⟨.map [], World.ownsMap_made _ _ _ _, fun _ => rfl, fun _ _ => rfl⟩
theorem MapK.lt (h : MapK P k lit w b n m) : b < w.heap.size := by
  obtain ⟨D, h, _⟩ := h
  exact h.lt
theorem MapK.obj (h : MapK P k lit w b n m) : ∃ es c, w.heap[b]? = some (.map es c) := by
  obtain ⟨D, ⟨es, c, h, _⟩, _⟩ := h
  exact ⟨es, c, h⟩
theorem MapK.mono (h : MapK P k lit w b n m) {n' : Nat} (hn : n ≤ n') : MapK P k lit w b n' m := by
  obtain ⟨D, h, r⟩ := h
  exact ⟨D, h.mono hn, r⟩
theorem MapK.kept (h : MapK P k lit w b n m) (hg : w.grownBy w1 row) (hne : some b ≠ row) : MapK P k lit w1 b n m := by
  obtain ⟨D, h, r⟩ := h
  exact ⟨D, h.kept hg hne, r⟩
theorem MapK.move (h : MapK P k lit w b n m) (hg : w1.heap[b]? = w.heap[b]?) : MapK P k lit w1 b n m := by
  obtain ⟨D, ⟨es, clock, hb, F, hs, hD⟩, r⟩ := h
  exact ⟨D, ⟨es, clock, hg.trans hb, F, hs, hD⟩, r⟩
theorem MapK.below (h : MapK P k lit w b n m) (hb : Below w.heap.size w w1) : MapK P k lit w1 b n m := h.move (hb.block b h.lt)
theorem MapK.lookup (h : MapK P k lit w b n m) (K : Keyed P k) (ht : P.underlying t = some (.map k e)) {z : Value} (hz : (zeroValue e).run P w = .ok z w) {key : Value} (x : κ) (hkey : keyOf P k key = some (lit x)) :
    (Instr.lookup t (.map (some b)) key false).run P w = .ok ((m x).getD z) w := by
  obtain ⟨D, h, _, hat⟩ := h
  obtain ⟨v, ps, hr, hv⟩ := h.lookup (zd := .held z) (zp := []) K ht hz rfl hkey
  rw [hr]
  simp only [tokR, Option.some.injEq, Prod.mk.injEq] at hv
  have := hv.1.trans (hat x z)
  injection this with this
  rw [this]
theorem MapK.update [DecidableEq κ] (h : MapK P k lit w b n m) (K : Keyed P k) (ht : P.underlying t = some (.map k e)) (hn : n < maxLen) (hl : ∀ x y, lit x = lit y → x = y) {key : Value} (x : κ) (hkey : keyOf P k key = some (lit x)) (v : Value) :
    ∃ w', (Instr.mapUpdate t (.map (some b)) key v).run P w = .ok () w' ∧ MapK P k lit w' b (n + 1) (fun y => if y = x then some v else m y) ∧ w.grownBy w' (some b) := by
  obtain ⟨D, h, hh, hat⟩ := h
  obtain ⟨w', hr, ho, hg⟩ := h.update (d := .held v) (ps := []) K ht hn hkey rfl
  have hi := h.isMap
  have hk := K.key hkey
  refine ⟨w', hr, ⟨_, ho, fun y => ?_, fun y z => ?_⟩, hg⟩
  · by_cases hy : y = x
    · subst hy
      simp [Maps.has_put_same hi hk]
    · rw [Maps.has_put_other (fun he => hy (hl _ _ he)), hh]; simp only [if_neg hy]
  · by_cases hy : y = x
    · subst hy
      simp [Maps.atKey_put_same hi hk]
    · rw [Maps.atKey_put_other (fun he => hy (hl _ _ he)), hat]; simp only [if_neg hy]
end
def litI (x : Int) : Lit := .int .i64 x
theorem litI_inj : ∀ x y, litI x = litI y → x = y := fun x y h => by injection h
end Go.Proofs.Ytjbafigageingaa
