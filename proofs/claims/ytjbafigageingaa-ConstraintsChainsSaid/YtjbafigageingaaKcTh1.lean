import Derived.Test.YtjbafigageingaaKcSpecS
namespace Go.Proofs.Ytjbafigageingaa
open Go.RowKit Go.Proofs.YtjbafigageingaaW.PrintWords Go.Proofs.YtjbafigageingaaW.PrintLast Go.Proofs.YtjbafigageingaaW.PrintMore
set_option linter.unusedVariables false
set_option linter.unusedSimpArgs false
def Adj (E : EE) (u v : Int) : Prop := ∃ e ∈ rdE E u, e.f1 = v
inductive Wk (E : EE) : Nat → Int → Int → Prop
  | nil (u : Int) : Wk E 0 u u
  | snoc {n : Nat} {u v w : Int} : Wk E n u v → Adj E v w → Wk E (n + 1) u w
/-- vertices in range; edges lead into it -/
def InR (E : EE) (v : Int) : Prop := 0 ≤ v ∧ v < (E.length : Int)
def EOk (E : EE) : Prop := ∀ v, InR E v → ∀ e ∈ rdE E v, InR E e.f1
structure FarSpec (E : EE) (F : List Int) (far : List Int) : Prop where
  len : far.length = E.length
  far : ∀ v, InR E v → (rd far v = -1 ∧ ∀ f ∈ F, ∀ n, ¬ Wk E n f v) ∨ (∃ n : Nat, rd far v = n ∧ n < E.length ∧ (∃ f ∈ F, Wk E n f v) ∧ ∀ f ∈ F, ∀ m, Wk E m f v → n ≤ m)
def neg (out : List Int) : Nat := out.countP (fun x => decide (x < 0))
theorem rd_set (out : List Int) (i j : Int) (x : Int) (hi : 0 ≤ i ∧ i < (out.length : Int)) (hj : 0 ≤ j) : rd (out.set i.toNat x) j = if j = i then x else rd out j := by
  unfold rd
  simp only [List.getD_eq_getElem?_getD, List.getElem?_set]
  by_cases h : j = i
  · subst h
    have : j.toNat < out.length := by omega
    simp [this]
  · have : ¬ i.toNat = j.toNat := by omega
    simp [this, h]
theorem neg_set (out : List Int) (i : Int) (x : Int) (hi : 0 ≤ i ∧ i < (out.length : Int)) (hx : 0 ≤ x) (hn : rd out i < 0) : neg (out.set i.toNat x) + 1 = neg out := by
  unfold neg
  have hlt : i.toNat < out.length := by omega
  have hgi : out[i.toNat] < 0 := by
    unfold rd at hn
    rw [List.getD_eq_getElem?_getD, List.getElem?_eq_getElem hlt] at hn
    exact hn
  generalize i.toNat = k at hlt hgi ⊢
  clear hn hi
  induction out generalizing k with
  | nil => simp at hlt
  | cons a tl ih =>
    cases k with
    | zero =>
      simp only [List.getElem_cons_zero] at hgi
      simp only [List.set_cons_zero, List.countP_cons]
      have : ¬ x < 0 := by omega
      simp [hgi, this]
    | succ k =>
      simp only [List.getElem_cons_succ] at hgi
      simp only [List.set_cons_succ, List.countP_cons]
      have := ih k (by simpa using hlt) hgi
      omega
/-- The state within the rounds over the edges of v. -/
structure InI (E : EE) (F : List Int) (v dv : Int) (out todo : List Int) : Prop where
  len : out.length = E.length
  a : ∀ w, InR E w → rd out w = -1 ∨ ∃ n : Nat, rd out w = n ∧ ∃ f ∈ F, Wk E n f w
  b : ∀ f ∈ F, rd out f = 0
  c : ∀ w, InR E w → 0 ≤ rd out w → w ∉ todo → w ≠ v → ∀ e ∈ rdE E w, 0 ≤ rd out e.f1 ∧ rd out e.f1 ≤ rd out w + 1
  d : todo.Pairwise (fun x y => rd out x ≤ rd out y)
  d2 : ∀ x ∈ todo, InR E x ∧ dv ≤ rd out x
  e : ∀ w, InR E w → rd out w ≤ dv + 1
  v : InR E v ∧ rd out v = dv ∧ 0 ≤ dv
  n : ∀ w, InR E w → 0 ≤ rd out w → rd out w + (neg out : Int) + 1 ≤ (E.length : Int)
theorem wrap_small (x : Int) (h : -9223372036854775808 ≤ x ∧ x < 9223372036854775808) : wrap64 x = x := by
  unfold wrap64
  omega
theorem InI.step {E : EE} {F : List Int} {v dv : Int} {out todo : List Int} (h : InI E F v dv out todo) (hF : ∀ f ∈ F, InR E f) (hE : EOk E) (hN : E.length ≤ 4096) {e : S55} (he : e ∈ rdE E v) (hneg : rd out e.f1 < 0) :
    wrap64 (rd out v + 1) = dv + 1 ∧ InI E F v dv (out.set e.f1.toNat (dv + 1)) (todo ++ [e.f1]) ∧ neg (out.set e.f1.toNat (dv + 1)) + 1 = neg out := by
  obtain ⟨hv, hdv, hd0⟩ := h.v
  have hr := hE v hv e he
  have hro : 0 ≤ e.f1 ∧ e.f1 < (out.length : Int) := by rw [h.len]; exact hr
  have hn := h.n v hv (by omega)
  have hset : ∀ w, InR E w → rd (out.set e.f1.toNat (dv + 1)) w = if w = e.f1 then dv + 1 else rd out w := fun w hw => rd_set out e.f1 w (dv + 1) hro hw.1
  have hng := neg_set out e.f1 (dv + 1) hro (by omega) hneg
  have hvne : v ≠ e.f1 := fun hh => by rw [← hh] at hneg; omega
  obtain ⟨n0, hn0, f0, hf0, hw0⟩ : ∃ n : Nat, dv = n ∧ ∃ f ∈ F, Wk E n f v := by
    rcases h.a v hv with h1 | ⟨n, h1, h2⟩
    · omega
    · exact ⟨n, by omega, h2⟩
  refine ⟨by rw [hdv]; exact wrap_small _ (by omega), ⟨by rw [List.length_set]; exact h.len, fun w hw => ?_, fun f hf => ?_, fun w hw h0 hnt hwv e' he' => ?_, ?_, fun x hx => ?_, fun w hw => ?_, ⟨hv, ?_, hd0⟩, fun w hw h0 => ?_⟩, hng⟩
  · rw [hset w hw]
    split
    · rename_i hwe
      exact .inr ⟨n0 + 1, by omega, f0, hf0, hw0.snoc ⟨e, he, hwe.symm⟩⟩
    · exact h.a w hw
  · have hf0 := h.b f hf
    rw [hset f (hF f hf), if_neg (fun hh => by rw [← hh] at hneg; omega)]
    exact hf0
  · have hwe : w ≠ e.f1 := fun hh => hnt (by rw [hh]; simp)
    have hrw : rd (out.set e.f1.toNat (dv + 1)) w = rd out w := by rw [hset w hw, if_neg hwe]
    rw [hrw] at h0 ⊢
    have hc := h.c w hw h0 (fun hh => hnt (List.mem_append_left _ hh)) hwv e' he'
    rw [hset e'.f1 (hE w hw e' he'), if_neg (fun hh => by rw [hh] at hc; omega)]
    exact hc
  · rw [List.pairwise_append]
    refine ⟨?_, List.pairwise_singleton _ _, fun x hx y hy => ?_⟩
    · refine List.Pairwise.imp_of_mem (fun {x y} hx hy hxy => ?_) h.d
      have hx2 := h.d2 x hx
      have hy2 := h.d2 y hy
      rw [hset x hx2.1, hset y hy2.1, if_neg (fun hh => by rw [hh] at hx2; omega), if_neg (fun hh => by rw [hh] at hy2; omega)]
      exact hxy
    · rw [List.mem_singleton.1 hy, hset e.f1 hr, if_pos rfl]
      have hx2 := h.d2 x hx
      rw [hset x hx2.1]
      split
      · omega
      · exact h.e x hx2.1
  · rcases List.mem_append.1 hx with hx | hx
    · have hx2 := h.d2 x hx
      refine ⟨hx2.1, ?_⟩
      rw [hset x hx2.1, if_neg (fun hh => by rw [hh] at hx2; omega)]
      exact hx2.2
    · rw [List.mem_singleton.1 hx]
      refine ⟨hr, ?_⟩
      rw [hset e.f1 hr, if_pos rfl]
      omega
  · rw [hset w hw]
    split
    · omega
    · exact h.e w hw
  · rw [hset v hv, if_neg hvne]
    exact hdv
  · rw [hset w hw] at h0 ⊢
    split
    · omega
    · rename_i hwe
      rw [if_neg hwe] at h0
      have := h.n w hw h0
      omega
theorem inner_ok {E : EE} {F : List Int} {v dv : Int} (hF : ∀ f ∈ F, InR E f) (hE : EOk E) (hN : E.length ≤ 4096) : ∀ (es : List S55), (∀ e ∈ es, e ∈ rdE E v) → ∀ (out todo : List Int), InI E F v dv out todo → todo.length + neg out ≤ 900000 →
    ∃ out' todo', dInner v es out todo = some (out', todo') ∧ InI E F v dv out' todo' ∧ todo'.length + neg out' = todo.length + neg out ∧ (∀ w, InR E w → 0 ≤ rd out w → rd out' w = rd out w) ∧ ∀ e ∈ es, 0 ≤ rd out' e.f1
  | [], _, out, todo, h, _ => ⟨out, todo, rfl, h, rfl, fun _ _ _ => rfl, fun e he => by cases he⟩
  | e :: es, hes, out, todo, h, hm => by
    have he := hes e (List.mem_cons_self ..)
    obtain ⟨hv, hdv, hd0⟩ := h.v
    have hr := hE v hv e he
    have hro : 0 ≤ e.f1 ∧ e.f1 < (out.length : Int) := by rw [h.len]; exact hr
    have hvo : 0 ≤ v ∧ v < (out.length : Int) := by rw [h.len]; exact hv
    simp only [dInner, if_pos hro]
    by_cases hneg : rd out e.f1 < 0
    · obtain ⟨h1, h2, h3⟩ := h.step hF hE hN he hneg
      rw [if_pos hneg, if_pos ⟨hvo.1, hvo.2, by omega⟩, h1]
      obtain ⟨o', t', g1, g2, g3, g4, g5⟩ := inner_ok hF hE hN es (fun x hx => hes x (List.mem_cons_of_mem _ hx)) _ _ h2 (by rw [List.length_append, List.length_singleton]; omega)
      have hset : ∀ w, InR E w → rd (out.set e.f1.toNat (dv + 1)) w = if w = e.f1 then dv + 1 else rd out w := fun w hw => rd_set out e.f1 w (dv + 1) hro hw.1
      refine ⟨o', t', g1, g2, by rw [g3, List.length_append, List.length_singleton]; omega, fun w hw h0 => ?_, fun x hx => ?_⟩
      · have hwe : w ≠ e.f1 := fun hh => by rw [hh] at h0; omega
        have hs := hset w hw
        rw [if_neg hwe] at hs
        rw [g4 w hw (by rw [hs]; exact h0), hs]
      · rcases List.mem_cons.1 hx with rfl | hx
        · have hs := hset x.f1 hr
          rw [if_pos rfl] at hs
          rw [g4 x.f1 hr (by rw [hs]; omega), hs]
          omega
        · exact g5 x hx
    · rw [if_neg hneg]
      obtain ⟨o', t', g1, g2, g3, g4, g5⟩ := inner_ok hF hE hN es (fun x hx => hes x (List.mem_cons_of_mem _ hx)) out todo h hm
      refine ⟨o', t', g1, g2, g3, g4, fun x hx => ?_⟩
      rcases List.mem_cons.1 hx with rfl | hx
      · rw [g4 x.f1 hr (by omega)]
        omega
      · exact g5 x hx
/-- The state between two rounds of the queue. -/
structure BfI (E : EE) (F : List Int) (out todo : List Int) : Prop where
  len : out.length = E.length
  a : ∀ w, InR E w → rd out w = -1 ∨ ∃ n : Nat, rd out w = n ∧ ∃ f ∈ F, Wk E n f w
  b : ∀ f ∈ F, rd out f = 0
  c : ∀ w, InR E w → 0 ≤ rd out w → w ∉ todo → ∀ e ∈ rdE E w, 0 ≤ rd out e.f1 ∧ rd out e.f1 ≤ rd out w + 1
  d : todo.Pairwise (fun x y => rd out x ≤ rd out y)
  d2 : ∀ x ∈ todo, InR E x ∧ 0 ≤ rd out x
  e : ∀ h rest, todo = h :: rest → ∀ w, InR E w → rd out w ≤ rd out h + 1
  n : ∀ w, InR E w → 0 ≤ rd out w → rd out w + (neg out : Int) + 1 ≤ (E.length : Int)
theorem bfs_ok {E : EE} {F : List Int} (hF : ∀ f ∈ F, InR E f) (hE : EOk E) (hN : E.length ≤ 4096) : ∀ (k : Nat) (out todo : List Int), BfI E F out todo → todo.length + neg out ≤ 900000 → todo.length + neg out < k →
    ∃ r, dBfs E k out todo = some r ∧ BfI E F r []
  | 0, _, _, _, _, hk => by omega
  | k + 1, out, [], h, _, _ => ⟨out, rfl, h⟩
  | k + 1, out, v :: rest, h, hm, hk => by
    obtain ⟨hv, hv0⟩ := h.d2 v (List.mem_cons_self ..)
    have hd := List.pairwise_cons.1 h.d
    have hi : InI E F v (rd out v) out rest := ⟨h.len, h.a, h.b, fun w hw h0 hnt hwv => h.c w hw h0 (fun hh => by
      rcases List.mem_cons.1 hh with hh | hh
      · exact hwv hh
      · exact hnt hh), hd.2, fun x hx => ⟨(h.d2 x (List.mem_cons_of_mem _ hx)).1, hd.1 x hx⟩, h.e v rest rfl, ⟨hv, rfl, hv0⟩, h.n⟩
    simp only [List.length_cons] at hm hk
    obtain ⟨o', t', g1, g2, g3, g4, g5⟩ := inner_ok hF hE hN (rdE E v) (fun _ he => he) out rest hi (by omega)
    have hb : BfI E F o' t' := by
      obtain ⟨_, gv, _⟩ := g2.v
      refine ⟨g2.len, g2.a, g2.b, fun w hw h0 hnt e he => ?_, g2.d, fun x hx => ⟨(g2.d2 x hx).1, by have := (g2.d2 x hx).2; omega⟩, fun hh tt ht w hw => ?_, g2.n⟩
      · by_cases hwv : w = v
        · subst hwv
          have := g5 e he
          have := g2.e e.f1 (hE w hw e he)
          omega
        · exact g2.c w hw h0 hnt hwv e he
      · have h1 := g2.e w hw
        have h2 := (g2.d2 hh (by rw [ht]; exact List.mem_cons_self ..)).2
        omega
    simp only [dBfs]
    rw [if_pos (show 0 ≤ v ∧ v < (E.length : Int) from hv), g1]
    exact bfs_ok hF hE hN k o' t' hb (by omega) (by omega)
theorem from_ok {E : EE} : ∀ (F out : List Int), out.length = E.length → (∀ f ∈ F, InR E f) → ∃ r, dFrom out F = some r ∧ r.length = E.length ∧ ∀ w, InR E w → rd r w = if w ∈ F then 0 else rd out w
  | [], out, hl, _ => ⟨out, rfl, hl, fun w _ => by simp⟩
  | f :: F, out, hl, hF => by
    have hf := hF f (List.mem_cons_self ..)
    have hfo : 0 ≤ f ∧ f < (out.length : Int) := by rw [hl]; exact hf
    obtain ⟨r, h1, h2, h3⟩ := from_ok F (out.set f.toNat 0) (by rw [List.length_set]; exact hl) (fun x hx => hF x (List.mem_cons_of_mem _ hx))
    refine ⟨r, by simp only [dFrom, if_pos hfo]; exact h1, h2, fun w hw => ?_⟩
    rw [h3 w hw, rd_set out f w 0 hfo hw.1]
    by_cases hwF : w ∈ F
    · simp [hwF]
    · by_cases hwf : w = f
      · simp [hwf]
      · simp [hwF, hwf]
theorem neg_le (out : List Int) : neg out ≤ out.length := List.countP_le_length
/-- a vertex that is not told is a vertex less -/
theorem neg_lt (out : List Int) (i : Int) (hi : 0 ≤ i ∧ i < (out.length : Int)) (h : 0 ≤ rd out i) : neg out + 1 ≤ out.length := by
  unfold neg
  have hlt : i.toNat < out.length := by omega
  have hgi : 0 ≤ out[i.toNat] := by
    unfold rd at h
    rw [List.getD_eq_getElem?_getD, List.getElem?_eq_getElem hlt] at h
    exact h
  have hne : out.countP (fun x => decide (x < 0)) ≠ out.length := fun hh => by
    have := List.countP_eq_length.1 hh _ (List.getElem_mem hlt)
    simp only [decide_eq_true_eq] at this
    omega
  have := List.countP_le_length (p := fun x => decide (x < 0)) (l := out)
  omega
theorem dist_ok {E : EE} {F : List Int} (hF : ∀ f ∈ F, InR E f) (hE : EOk E) (hN : E.length ≤ 4096) (hl : F.length ≤ 4096) {k : Nat} (hk : F.length + E.length < k) : ∃ far, dist E F k = some far ∧ FarSpec E F far := by
  obtain ⟨o, h1, h2, h3⟩ := from_ok (E := E) F (List.replicate E.length (-1)) (by simp) hF
  have hrep : ∀ w, InR E w → rd (List.replicate E.length (-1)) w = -1 := fun w hw => by
    unfold rd
    rw [List.getD_eq_getElem?_getD, List.getElem?_replicate]
    have : w.toNat < E.length := by have := hw.1; have := hw.2; omega
    simp [this]
  have hb : BfI E F o F := by
    have hval : ∀ w, InR E w → rd o w = if w ∈ F then 0 else -1 := fun w hw => by rw [h3 w hw, hrep w hw]
    refine ⟨h2, fun w hw => ?_, fun f hf => by rw [hval f (hF f hf), if_pos hf], fun w hw h0 hnt => ?_, ?_, fun x hx => ⟨hF x hx, by rw [hval x (hF x hx), if_pos hx]; exact Int.le_refl 0⟩, fun hh rest ht w hw => ?_, fun w hw h0 => ?_⟩
    · rw [hval w hw]
      split
      · rename_i hwF
        exact .inr ⟨0, rfl, w, hwF, .nil w⟩
      · exact .inl rfl
    · rw [hval w hw, if_neg hnt] at h0
      omega
    · refine List.Pairwise.imp_of_mem (R := fun _ _ => True) (fun {x y} hx hy _ => ?_) (List.pairwise_of_forall (fun _ _ => trivial))
      rw [hval x (hF x hx), hval y (hF y hy), if_pos hx, if_pos hy]
      exact Int.le_refl 0
    · have hhF : hh ∈ F := by rw [ht]; exact List.mem_cons_self ..
      rw [hval hh (hF hh hhF), if_pos hhF, hval w hw]
      split <;> omega
    · have hn := neg_lt o w (by rw [h2]; exact hw) h0
      rw [hval w hw]
      rw [h2] at hn
      split <;> omega
  have hno := neg_le o
  rw [h2] at hno
  obtain ⟨r, g1, g2⟩ := bfs_ok hF hE hN k o F hb (by omega) (by omega)
  refine ⟨r, by unfold dist; rw [h1]; exact g1, g2.len, fun v hv => ?_⟩
  have key : ∀ (m : Nat) (f w : Int), f ∈ F → Wk E m f w → InR E w ∧ 0 ≤ rd r w ∧ rd r w ≤ m := by
    intro m f w hf hw
    induction hw with
    | nil => exact ⟨hF _ hf, by rw [g2.b _ hf]; exact Int.le_refl 0, by rw [g2.b _ hf]; exact Int.le_refl 0⟩
    | snoc hw' ha ih =>
      obtain ⟨i1, i2, i3⟩ := ih hf
      obtain ⟨e, he, rfl⟩ := ha
      have := g2.c _ i1 i2 (by simp) e he
      exact ⟨hE _ i1 e he, this.1, by omega⟩
  rcases g2.a v hv with h0 | ⟨n, hn, f, hf, hw⟩
  · exact .inl ⟨h0, fun f hf m hm => by have := (key m f v hf hm).2.1; omega⟩
  · refine .inr ⟨n, hn, ?_, ⟨f, hf, hw⟩, fun f' hf' m hm => by have := (key m f' v hf' hm).2.2; omega⟩
    have := g2.n v hv (by omega)
    omega
end Go.Proofs.Ytjbafigageingaa
