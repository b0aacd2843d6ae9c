import Derived.Test.YtjbafigageingaaKcOpen
namespace Go.Proofs.Ytjbafigageingaa
open Go.RowKit Go.ChangeShapes Go.WideShapes Go.ChangeAt Go.Deep Go.Proofs.YtjbafigageingaaW.PrintWords Go.Proofs.YtjbafigageingaaW.PrintLast Go.Proofs.YtjbafigageingaaW.PrintMore
set_option linter.unusedVariables false
set_option linter.unusedSimpArgs false
section
variable {H : Type} {enc : TypeId × Value → H} {w : World} {base : Nat} {spare : Nat → Bool} {held : Bool} {fuel : Nat} {x : DataW H × List MemPlace}
theorem open_36 {cs : List Value} (h : DataW.trod enc Try.prog w base spare held fuel 36 cs = some x) : ∃ t : S36, k36.K w t cs := by
  obtain ⟨xs, n, _, _, hl, hlen, hf⟩ := DataW.trod_struct Try.underlying36 h
  have hl8 : cs.length = 8 := by rw [hl]; kernel_rfl
  match cs, hl8 with
  | [c0, c1, c2, c3, c4, c5, c6, c7], _ =>
    have e3 : Try.prog.cellsOf 3 = 1 := by kernel_rfl
    have e23 : Try.prog.cellsOf 23 = 3 := by kernel_rfl
    have h0 : DataW.trod enc Try.prog w base spare held n 3 (([c0, c1, c2, c3, c4, c5, c6, c7].drop 0).take (Try.prog.cellsOf 3)) = xs[0]? := hf 0 _ rfl
    have h1 : DataW.trod enc Try.prog w base spare held n 3 (([c0, c1, c2, c3, c4, c5, c6, c7].drop 1).take (Try.prog.cellsOf 3)) = xs[1]? := hf 1 _ rfl
    have h2 : DataW.trod enc Try.prog w base spare held n 3 (([c0, c1, c2, c3, c4, c5, c6, c7].drop 2).take (Try.prog.cellsOf 3)) = xs[2]? := hf 2 _ rfl
    have h3 : DataW.trod enc Try.prog w base spare held n 23 (([c0, c1, c2, c3, c4, c5, c6, c7].drop 3).take (Try.prog.cellsOf 23)) = xs[3]? := hf 3 _ rfl
    have h4 : DataW.trod enc Try.prog w base spare held n 3 (([c0, c1, c2, c3, c4, c5, c6, c7].drop 6).take (Try.prog.cellsOf 3)) = xs[4]? := hf 4 _ rfl
    have h5 : DataW.trod enc Try.prog w base spare held n 3 (([c0, c1, c2, c3, c4, c5, c6, c7].drop 7).take (Try.prog.cellsOf 3)) = xs[5]? := hf 5 _ rfl
    rw [e3] at h0 h1 h2 h4 h5
    rw [e23] at h3
    have get : ∀ j, j < 6 → ∃ y, xs[j]? = some y := fun j hj => ⟨_, List.getElem?_eq_getElem (show j < xs.length by rw [hlen]; exact hj)⟩
    obtain ⟨y0, hy0⟩ := get 0 (by decide)
    obtain ⟨y1, hy1⟩ := get 1 (by decide)
    obtain ⟨y2, hy2⟩ := get 2 (by decide)
    obtain ⟨y3, hy3⟩ := get 3 (by decide)
    obtain ⟨y4, hy4⟩ := get 4 (by decide)
    obtain ⟨y5, hy5⟩ := get 5 (by decide)
    have g0 : DataW.trod enc Try.prog w base spare held n 3 [c0] = some y0 := h0.trans hy0
    have g1 : DataW.trod enc Try.prog w base spare held n 3 [c1] = some y1 := h1.trans hy1
    have g2 : DataW.trod enc Try.prog w base spare held n 3 [c2] = some y2 := h2.trans hy2
    have g3 : DataW.trod enc Try.prog w base spare held n 23 [c3, c4, c5] = some y3 := h3.trans hy3
    have g4 : DataW.trod enc Try.prog w base spare held n 3 [c6] = some y4 := h4.trans hy4
    have g5 : DataW.trod enc Try.prog w base spare held n 3 [c7] = some y5 := h5.trans hy5
    obtain ⟨a0, ha0, _, _⟩ := DataW.trod_int Try.underlying3 g0
    obtain ⟨a1, ha1, _, _⟩ := DataW.trod_int Try.underlying3 g1
    obtain ⟨a2, ha2, _, _⟩ := DataW.trod_int Try.underlying3 g2
    obtain ⟨t, ht⟩ := open_23 g3
    obtain ⟨a4, ha4, _, _⟩ := DataW.trod_int Try.underlying3 g4
    obtain ⟨a5, ha5, _, _⟩ := DataW.trod_int Try.underlying3 g5
    injection ha0 with ha0
    injection ha1 with ha1
    injection ha2 with ha2
    injection ht with ht0 ht
    injection ht with ht1 ht
    injection ht with ht2 ht
    injection ha4 with ha4
    injection ha5 with ha5
    refine ⟨⟨a0, a1, a2, t, a4, a5⟩, ?_⟩
    rw [ha0, ha1, ha2, ht0, ht1, ht2, ha4, ha5]
    exact k36_mk w ⟨a0, a1, a2, t, a4, a5⟩
/-- A slice's rows, read by a kind. -/
theorem open_rows {α : Type} {d : Kd α} {t e : TypeId} {v : Value} {dd : DataW H} {p : List MemPlace} {r : Reach} {b0 : Nat} (ht : Try.prog.underlying t = some (.slice e)) (hc : Try.prog.cellsOf e = d.sz)
    (hop : ∀ {fuel : Nat} {cs : List Value} {x : DataW H × List MemPlace}, DataW.trod enc Try.prog w base spare held fuel e cs = some x → ∃ y : α, d.K w y cs)
    (hv : Value.okWide Try.prog w r b0 t v) (h : DataW.Trod enc Try.prog w base spare held t v dd p) : ∃ A c L, v = .slice A L.length c ∧ L.length ≤ c ∧ d.C w A L.length L := by
  obtain ⟨a, len, cap, rfl⟩ := okWide_slice ht hv
  obtain ⟨fuel, hf⟩ := h
  rcases open_slice ht hf with ⟨hcs, _⟩ | ⟨ad, l, c, m, n, D, Pl, hcs, _, hl, hm, hmm, _, hi⟩
  · have : Value.slice a len cap = .slice none 0 0 := by simpa [Value.cells] using hcs
    injection this with h1 h2 h3
    subst h1 h2 h3
    exact ⟨none, 0, [], rfl, Nat.le_refl _, rfl, by simp, fun h => by simp at h⟩
  · have : Value.slice a len cap = .slice (some ad) l c := by simpa [Value.cells] using hcs
    injection this with h1 h2 h3
    subst h1 h2 h3
    have hlm : len ≤ m := by rw [hmm]; split <;> omega
    have key : ∀ i, i < len → ∃ y : α, ∃ cs', cs'.length = d.sz ∧ d.K w y cs' ∧ ∀ j u, cs'[j]? = some u → w.cell? (ad.add (i * d.sz + j)) = some u := by
      intro i hlt
      obtain ⟨cs', hcells, htr⟩ := hi i (by omega)
      obtain ⟨y, hy⟩ := hop htr
      rw [hc] at hcells
      obtain ⟨_, hcl, hat⟩ := World.cells?_some hcells
      refine ⟨y, cs', d.K_len hy, hy, fun j u hu => ?_⟩
      have hj : j < d.sz := by
        have := (List.getElem?_eq_some_iff.1 hu).1
        have := d.K_len hy
        omega
      rw [← Go.Deep.add_add, hat j hj, hu]
    -- the rows, as a list
    have key2 : ∀ k, k ≤ len → ∃ L : List α, L.length = k ∧ ∀ i y, L[i]? = some y → ∃ cs', cs'.length = d.sz ∧ d.K w y cs' ∧ ∀ j u, cs'[j]? = some u → w.cell? (ad.add (i * d.sz + j)) = some u := by
      intro k
      induction k with
      | zero => exact fun _ => ⟨[], rfl, fun i y hy => by simp at hy⟩
      | succ k ih =>
        intro hk
        obtain ⟨L, hL, hr⟩ := ih (by omega)
        obtain ⟨y, cs', h1, h2, h3⟩ := key k (by omega)
        refine ⟨L ++ [y], by simp [hL], fun i z hz => ?_⟩
        rcases Nat.lt_or_ge i L.length with hlt | hge
        · rw [List.getElem?_append_left hlt] at hz
          exact hr i z hz
        · rw [List.getElem?_append_right hge] at hz
          have hi0 : i = k := by
            rcases Nat.eq_zero_or_pos (i - L.length) with h0 | h0
            · omega
            · rw [List.getElem?_eq_none (by simp; omega)] at hz
              cases hz
          subst hi0
          rw [hL, Nat.sub_self] at hz
          injection hz with hz
          subst hz
          exact ⟨cs', h1, h2, h3⟩
    obtain ⟨L, hL, hr⟩ := key2 len (Nat.le_refl _)
    subst hL
    exact ⟨some ad, cap, L, rfl, hl, rfl, by unfold maxLen at hm; omega, fun _ => ⟨ad, rfl, fun j y hy => hr j y hy⟩⟩
end
theorem open_cons {H : Type} {enc : TypeId × Value → H} {w : World} {base b0 : Nat} {r : Reach} {spare : Nat → Bool} {held : Bool} {v : Value} {d : DataW H} {p : List MemPlace} (hv : Value.okWide Try.prog w r b0 26 v) (h : DataW.Trod enc Try.prog w base spare held 26 v d p) :
    ∃ A c L, v = .slice A L.length c ∧ L.length ≤ c ∧ k36.C w A L.length L :=
  open_rows Try.underlying26 (by kernel_rfl) (fun h => open_36 h) hv h
end Go.Proofs.Ytjbafigageingaa
