import Derived.Test.YtjbafigageingaaKcLem
import Derived.Test.YtjbafigageingaaKcShelf
import Derived.Sort.OwnSortedInts
namespace Go.Proofs.Ytjbafigageingaa
open Go.RowKit Go.Proofs.YtjbafigageingaaW.PrintWords Go.Proofs.YtjbafigageingaaW.PrintLast Go.Proofs.YtjbafigageingaaW.PrintMore
set_option linter.unusedVariables false
set_option linter.unusedSimpArgs false

/-- slices.Sort at a row of the call's own. -/
theorem sort_calls (v : Value) (xs : List Int) (w : World) (base : Nat) (ok : Nat → Prop) (h : Kd.R (Kd.int .i64) 3 w base ok v xs) (hl : xs.length < 4611686018427387904) :
    Calls Try.prog 29 #[v] w fun e w' => e = .returned (.tuple #[]) ∧ Kd.R (Kd.int .i64) 3 w' base ok v (xs.mergeSort fun x y => decide (x ≤ y)) ∧ w.grownBy w' v.ownBlock := by
  obtain ⟨A, c, rfl⟩ := R_shape h
  rcases Nat.eq_zero_or_pos xs.length with h0 | hp
  · have hx : xs = [] := List.length_eq_zero_iff.1 h0
    subst hx
    refine (Try.slices_Sort_int_none A c w).mono ?_
    rintro e w' ⟨rfl, rfl⟩
    exact ⟨rfl, by simpa using h, ⟨rfl, rfl, rfl, Nat.le_refl _, fun _ _ _ => rfl⟩⟩
  · obtain ⟨g, rfl, hb, hlt⟩ := R_head h hp
    obtain ⟨hok, inner, ho, hr⟩ := h
    have hi : inner = xs.map (Value.int .i64) := by
      apply List.ext_getElem?
      intro j
      by_cases hj : j < xs.length
      · have := hr.2 j _ (List.getElem?_eq_getElem hj)
        have h2 : ((inner.drop (j * 1)).take 1) = [Value.int .i64 xs[j]] := this
        rw [List.getElem?_map, List.getElem?_eq_getElem hj]
        have h3 := congrArg (fun l => l[0]?) h2
        simpa [List.getElem?_take, List.getElem?_drop] using h3
      · have hl : inner.length = xs.length * 1 := hr.1
        rw [List.getElem?_eq_none (by omega), List.getElem?_eq_none (by simp; omega)]
    subst hi
    rcases ho.2 with ⟨e0, _⟩ | ⟨g', cap', cur, e0, hb', hg, hn, hm, hs, ht⟩
    · cases e0
    · injection e0 with e1 _ e3
      injection e1 with e1
      injection e1 with e1
      subst e1; subst e3
      have hs' : cur.size = c * 1 := hs
      have ht' : cur.toList.take xs.length = xs.map (Value.int .i64) := by
        have : cur.toList.take (xs.length * 1) = xs.map (Value.int .i64) := ht
        rwa [Nat.mul_one] at this
      refine (Try.slices_Sort_int g 0 c xs w (holds_of_blockI hg ht') hlt hl).mono ?_
      rintro e w' ⟨rfl, n, os, rfl⟩
      have hlen : (xs.mergeSort fun x y => decide (x ≤ y)).length = xs.length := List.length_mergeSort ..
      refine ⟨rfl, ?_, ?_⟩
      · have hown := ownsRow_sortedI (n := n) (os := os) (ts := xs.mergeSort fun x y => decide (x ≤ y)) hlen hb hg hn hm hs'
        have := Kd.R_of_own (enc := Value.int .i64) (h1 := fun _ => rfl) (e := 3) (base := base) (ok := ok) (v := .slice (some ⟨g, 0, none⟩) xs.length c) (xs := xs.mergeSort fun x y => decide (x ≤ y)) (by rw [hlen]; exact hown) hok
        exact this
      · have := grownBy_sortedI (w := w) (g := g) (n := n) (os := os) (xs.mergeSort fun x y => decide (x ≤ y)).toArray
        simpa [Value.ownBlock] using this
end Go.Proofs.Ytjbafigageingaa
