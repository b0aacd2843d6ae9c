import Derived.Test.YtjbafigageingaaKcTh1
namespace Go.Proofs.Ytjbafigageingaa
open Go.RowKit Go.Proofs.YtjbafigageingaaW.PrintWords Go.Proofs.YtjbafigageingaaW.PrintLast Go.Proofs.YtjbafigageingaaW.PrintMore
set_option linter.unusedVariables false
set_option linter.unusedSimpArgs false
def InN (N : Nat) (v : Int) : Prop := 0 ≤ v ∧ v < (N : Int)
def ValidC (N : Nat) (c : S36) : Prop := InN N c.f1 ∧ ((c.f0 = 0 ∧ isMarkB c.f3 = true) ∨ (c.f0 = 1 ∧ InN N c.f2))
def Valid (N : Nat) (L : List S36) : Prop := ∀ c ∈ L, ValidC N c
/-- constraint j is a mark of v -/
def MarkAt (L : List S36) (j : Nat) (v : Int) : Prop := ∃ c, L[j]? = some c ∧ c.f0 = 0 ∧ c.f1 = v
def EdgeAt (L : List S36) (v : Int) (e : S55) : Prop := ∃ (j : Nat) (c : S36), L[j]? = some c ∧ c.f0 = 1 ∧ ((c.f1 = v ∧ e = ⟨(j : Int), c.f2⟩) ∨ (c.f2 = v ∧ e = ⟨(j : Int), c.f1⟩))
structure Built (N : Nat) (P : List S36) (E : EE) (M : MM) : Prop where
  len : E.length = N
  edge : ∀ v, InN N v → ∀ e, e ∈ rdE E v ↔ EdgeAt P v e
  mark : ∀ v j, j ∈ M v ↔ ∃ n : Nat, j = n ∧ MarkAt P n v
  sorted : ∀ v, (M v).Pairwise (· < ·)
  mlen : ∀ v, (M v).length ≤ P.length
theorem rdE_set2 (E : EE) (a b : Int) (r : List S55) (ha : InN E.length a) (hb : InN E.length b) : rdE (E.set a.toNat r) b = if b = a then r else rdE E b := by
  obtain ⟨ha0, ha1⟩ := ha
  obtain ⟨hb0, hb1⟩ := hb
  unfold rdE
  simp only [List.getD_eq_getElem?_getD, List.getElem?_set]
  by_cases h : b = a
  · subst h
    have : b.toNat < E.length := by omega
    simp [this]
  · have : ¬ a.toNat = b.toNat := by omega
    simp [this, h]
theorem get_snoc (P : List S36) (c c' : S36) (j : Nat) : (P ++ [c])[j]? = some c' ↔ P[j]? = some c' ∨ (j = P.length ∧ c' = c) := by
  rcases Nat.lt_trichotomy j P.length with h | h | h
  · rw [List.getElem?_append_left h]
    constructor
    · exact .inl
    · rintro (h1 | ⟨h1, _⟩)
      · exact h1
      · omega
  · subst h
    rw [List.getElem?_append_right (Nat.le_refl _), Nat.sub_self, List.getElem?_eq_none (Nat.le_refl _)]
    simp [eq_comm]
  · rw [List.getElem?_eq_none (by simp; omega), List.getElem?_eq_none (by omega)]
    constructor
    · intro h1; cases h1
    · rintro (h1 | ⟨h1, _⟩)
      · cases h1
      · omega
theorem edgeAt_snoc (P : List S36) (c : S36) (v : Int) (e : S55) : EdgeAt (P ++ [c]) v e ↔ EdgeAt P v e ∨ (c.f0 = 1 ∧ ((c.f1 = v ∧ e = ⟨(P.length : Int), c.f2⟩) ∨ (c.f2 = v ∧ e = ⟨(P.length : Int), c.f1⟩))) := by
  constructor
  · rintro ⟨j, c', hg, h1, h2⟩
    rcases (get_snoc P c c' j).1 hg with hg | ⟨rfl, rfl⟩
    · exact .inl ⟨j, c', hg, h1, h2⟩
    · exact .inr ⟨h1, h2⟩
  · rintro (⟨j, c', hg, h1, h2⟩ | ⟨h1, h2⟩)
    · exact ⟨j, c', (get_snoc P c c' j).2 (.inl hg), h1, h2⟩
    · exact ⟨P.length, c, (get_snoc P c c _).2 (.inr ⟨rfl, rfl⟩), h1, h2⟩
theorem markAt_snoc (P : List S36) (c : S36) (j : Nat) (v : Int) : MarkAt (P ++ [c]) j v ↔ MarkAt P j v ∨ (j = P.length ∧ c.f0 = 0 ∧ c.f1 = v) := by
  constructor
  · rintro ⟨c', hg, h1, h2⟩
    rcases (get_snoc P c c' j).1 hg with hg | ⟨rfl, rfl⟩
    · exact .inl ⟨c', hg, h1, h2⟩
    · exact .inr ⟨rfl, h1, h2⟩
  · rintro (⟨c', hg, h1, h2⟩ | ⟨rfl, h1, h2⟩)
    · exact ⟨c', (get_snoc P c c' j).2 (.inl hg), h1, h2⟩
    · exact ⟨c, (get_snoc P c c _).2 (.inr ⟨rfl, rfl⟩), h1, h2⟩
theorem markAt_lt {P : List S36} {j : Nat} {v : Int} (h : MarkAt P j v) : j < P.length := by
  obtain ⟨c, hg, _⟩ := h
  exact (List.getElem?_eq_some_iff.1 hg).1
theorem built_nil (N : Nat) : Built N [] (List.replicate N []) (fun _ => []) := by
  refine ⟨by simp, fun v hv e => ?_, fun v j => ?_, fun v => List.Pairwise.nil, fun v => Nat.le_refl _⟩
  · have : rdE (List.replicate N []) v = [] := by
      unfold rdE
      rw [List.getD_eq_getElem?_getD, List.getElem?_replicate]
      split <;> rfl
    rw [this]
    constructor
    · intro h; cases h
    · rintro ⟨j, c, hg, _⟩
      simp at hg
  · constructor
    · intro h; cases h
    · rintro ⟨n, _, c, hg, _⟩
      simp at hg
theorem Built.step {N : Nat} {P : List S36} {E : EE} {M : MM} (h : Built N P E M) (c : S36) {E' : EE} {M' : MM} (hs : stepF N (P.length : Int) c E M = some (E', M')) : Built N (P ++ [c]) E' M' ∧ ValidC N c := by
  unfold stepF at hs
  split at hs
  case isFalse => cases hs
  rename_i hA
  split at hs
  · rename_i hm
    injection hs with hs
    injection hs with h1 h2
    subst h1 h2
    refine ⟨⟨h.len, fun v hv e => ?_, fun v j => ?_, fun v => ?_, fun v => ?_⟩, hA, .inl hm⟩
    · rw [h.edge v hv e, edgeAt_snoc]
      constructor
      · exact .inl
      · rintro (h1 | ⟨h1, _⟩)
        · exact h1
        · rw [hm.1] at h1; cases h1
    · have key : (∃ n : Nat, j = n ∧ MarkAt (P ++ [c]) n v) ↔ (j ∈ M v ∨ (j = (P.length : Int) ∧ c.f1 = v)) := by
        rw [h.mark v j]
        constructor
        · rintro ⟨n, rfl, hn⟩
          rcases (markAt_snoc P c n v).1 hn with hn | ⟨rfl, _, h2⟩
          · exact .inl ⟨n, rfl, hn⟩
          · exact .inr ⟨rfl, h2⟩
        · rintro (⟨n, rfl, hn⟩ | ⟨rfl, h2⟩)
          · exact ⟨n, rfl, (markAt_snoc P c n v).2 (.inl hn)⟩
          · exact ⟨P.length, rfl, (markAt_snoc P c _ v).2 (.inr ⟨rfl, hm.1, h2⟩)⟩
      rw [key]
      split
      · rename_i hv
        rw [List.mem_append, List.mem_singleton]
        constructor
        · rintro (h1 | h1)
          · exact .inl h1
          · exact .inr ⟨h1, hv.symm⟩
        · rintro (h1 | ⟨h1, _⟩)
          · exact .inl h1
          · exact .inr h1
      · rename_i hv
        constructor
        · exact .inl
        · rintro (h1 | ⟨_, h1⟩)
          · exact h1
          · exact absurd h1.symm hv
    · skip
      split
      · rw [List.pairwise_append]
        refine ⟨h.sorted v, List.pairwise_singleton _ _, fun x hx y hy => ?_⟩
        rw [List.mem_singleton.1 hy]
        obtain ⟨n, rfl, hn⟩ := (h.mark v x).1 hx
        have := markAt_lt hn
        omega
      · exact h.sorted v
    · have := h.mlen v
      rw [List.length_append, List.length_singleton]
      split
      · rw [List.length_append, List.length_singleton]; omega
      · omega
  · rename_i hnm
    split at hs
    case isFalse => cases hs
    rename_i hq
    injection hs with hs
    injection hs with h1 h2
    subst h1 h2
    obtain ⟨hq1, hB⟩ := hq
    have hAE : InN E.length c.f1 := by rw [h.len]; exact hA
    have hBE : InN E.length c.f2 := by rw [h.len]; exact hB
    refine ⟨⟨by simp [h.len], fun v hv e => ?_, fun v j => ?_, h.sorted, fun v => by have := h.mlen v; rw [List.length_append]; omega⟩, hA, .inr ⟨hq1, hB⟩⟩
    · have hvE : InN E.length v := by rw [h.len]; exact hv
      have hl1 : (E.set c.f1.toNat (rdE E c.f1 ++ [⟨(P.length : Int), c.f2⟩])).length = E.length := List.length_set ..
      have e1 : ∀ u, InN E.length u → rdE (E.set c.f1.toNat (rdE E c.f1 ++ [⟨(P.length : Int), c.f2⟩])) u = if u = c.f1 then rdE E c.f1 ++ [⟨(P.length : Int), c.f2⟩] else rdE E u := fun u hu => rdE_set2 E c.f1 u _ hAE hu
      rw [rdE_set2 _ c.f2 v _ (by rw [hl1]; exact hBE) (by rw [hl1]; exact hvE), edgeAt_snoc, ← h.edge v hv e, e1 c.f2 hBE, e1 v hvE]
      by_cases hvb : v = c.f2 <;> by_cases hva : v = c.f1
      · subst hvb
        rw [← hva]
        simp only [if_true, List.mem_append, List.mem_singleton]
        constructor
        · rintro ((h1 | h1) | h1)
          · exact .inl h1
          · exact .inr ⟨hq1, .inl ⟨trivial, h1⟩⟩
          · exact .inr ⟨hq1, .inr ⟨trivial, h1⟩⟩
        · rintro (h1 | ⟨_, ⟨_, h1⟩ | ⟨_, h1⟩⟩)
          · exact .inl (.inl h1)
          · exact .inl (.inr h1)
          · exact .inr h1
      · subst hvb
        rw [if_pos rfl, if_neg hva]
        simp only [List.mem_append, List.mem_singleton]
        constructor
        · rintro (h1 | h1)
          · exact .inl h1
          · exact .inr ⟨hq1, .inr ⟨trivial, h1⟩⟩
        · rintro (h1 | ⟨_, ⟨h0, _⟩ | ⟨_, h1⟩⟩)
          · exact .inl h1
          · exact absurd h0.symm hva
          · exact .inr h1
      · subst hva
        rw [if_neg hvb, if_pos rfl]
        simp only [List.mem_append, List.mem_singleton]
        constructor
        · rintro (h1 | h1)
          · exact .inl h1
          · exact .inr ⟨hq1, .inl ⟨trivial, h1⟩⟩
        · rintro (h1 | ⟨_, ⟨_, h1⟩ | ⟨h0, _⟩⟩)
          · exact .inl h1
          · exact .inr h1
          · exact absurd h0.symm hvb
      · rw [if_neg hvb, if_neg hva]
        constructor
        · exact .inl
        · rintro (h1 | ⟨_, ⟨h0, _⟩ | ⟨h0, _⟩⟩)
          · exact h1
          · exact absurd h0.symm hva
          · exact absurd h0.symm hvb
    · rw [h.mark v j]
      constructor
      · rintro ⟨n, hj, hn⟩
        exact ⟨n, hj, (markAt_snoc P c n v).2 (.inl hn)⟩
      · rintro ⟨n, hj, hn⟩
        rcases (markAt_snoc P c n v).1 hn with hn | ⟨_, h1, _⟩
        · exact ⟨n, hj, hn⟩
        · rw [hq1] at h1; cases h1
theorem build_some {N : Nat} : ∀ (cs P : List S36) (E : EE) (M : MM) {E' : EE} {M' : MM}, Built N P E M → buildF N cs P.length E M = some (E', M') → Built N (P ++ cs) E' M' ∧ Valid N cs
  | [], P, E, M, E', M', h, hb => by
    simp only [buildF, Option.some.injEq, Prod.mk.injEq] at hb
    obtain ⟨rfl, rfl⟩ := hb
    exact ⟨by rw [List.append_nil]; exact h, fun c hc => by cases hc⟩
  | c :: cs, P, E, M, E', M', h, hb => by
    simp only [buildF] at hb
    obtain ⟨⟨E1, M1⟩, h1, h2⟩ := Option.bind_eq_some_iff.1 hb
    obtain ⟨g1, g2⟩ := h.step c h1
    have hl : P.length + 1 = (P ++ [c]).length := by simp
    simp only [hl] at h2
    obtain ⟨g3, g4⟩ := build_some cs (P ++ [c]) E1 M1 g1 h2
    refine ⟨by rw [← List.append_cons] at g3; exact g3, fun x hx => ?_⟩
    rcases List.mem_cons.1 hx with rfl | hx
    · exact g2
    · exact g4 x hx
theorem build_valid {N : Nat} : ∀ (cs : List S36) (i : Nat) (E : EE) (M : MM), Valid N cs → ∃ r, buildF N cs i E M = some r
  | [], i, E, M, _ => ⟨_, rfl⟩
  | c :: cs, i, E, M, h => by
    have hc := h c (List.mem_cons_self ..)
    obtain ⟨hA, hk⟩ := hc
    have hs : ∃ p, stepF N (i : Int) c E M = some p := by
      unfold stepF
      rw [if_pos (show 0 ≤ c.f1 ∧ c.f1 < (N : Int) from hA)]
      rcases hk with hk | hk
      · rw [if_pos hk]; exact ⟨_, rfl⟩
      · rw [if_neg (fun hh => by rw [hk.1] at hh; cases hh.1), if_pos (show c.f0 = 1 ∧ 0 ≤ c.f2 ∧ c.f2 < (N : Int) from hk)]; exact ⟨_, rfl⟩
    obtain ⟨p, hp⟩ := hs
    obtain ⟨r, hr⟩ := build_valid cs (i + 1) p.1 p.2 (fun x hx => h x (List.mem_cons_of_mem _ hx))
    exact ⟨r, by simp only [buildF]; rw [hp]; exact hr⟩
def AdjL (L : List S36) (u v : Int) : Prop := ∃ c ∈ L, c.f0 = 1 ∧ ((c.f1 = u ∧ c.f2 = v) ∨ (c.f2 = u ∧ c.f1 = v))
inductive WkL (L : List S36) : Nat → Int → Int → Prop
  | nil (u : Int) : WkL L 0 u u
  | snoc {n : Nat} {u v w : Int} : WkL L n u v → AdjL L v w → WkL L (n + 1) u w
theorem AdjL.symm {L : List S36} {u v : Int} (h : AdjL L u v) : AdjL L v u := by
  obtain ⟨c, hc, h0, h1⟩ := h
  exact ⟨c, hc, h0, h1.symm.imp (fun h => ⟨h.2, h.1⟩) (fun h => ⟨h.2, h.1⟩)⟩
theorem WkL.cons {L : List S36} {n : Nat} {u v w : Int} (ha : AdjL L u v) (h : WkL L n v w) : WkL L (n + 1) u w := by
  induction h with
  | nil => exact (WkL.nil u).snoc ha
  | snoc _ h2 ih => exact (ih ha).snoc h2
theorem WkL.symm {L : List S36} {n : Nat} {u v : Int} (h : WkL L n u v) : WkL L n v u := by
  induction h with
  | nil => exact .nil _
  | snoc _ h2 ih => exact ih.cons h2.symm
theorem WkL.trans {L : List S36} {n m : Nat} {u v w : Int} (h : WkL L n u v) (h2 : WkL L m v w) : WkL L (n + m) u w := by
  induction h2 with
  | nil => exact h
  | snoc _ ha ih => exact (ih h).snoc ha
theorem WkL.mono {L L' : List S36} (hs : ∀ c ∈ L, c.f0 = 1 → c ∈ L') {n : Nat} {u v : Int} (h : WkL L n u v) : WkL L' n u v := by
  induction h with
  | nil => exact .nil _
  | snoc _ ha ih =>
    obtain ⟨c, hc, h0, h1⟩ := ha
    exact ih.snoc ⟨c, hs c hc h0, h0, h1⟩
theorem adjL_in {N : Nat} {L : List S36} (hV : Valid N L) {u v : Int} (h : AdjL L u v) : InN N u ∧ InN N v := by
  obtain ⟨c, hc, h0, h1⟩ := h
  obtain ⟨hA, hk⟩ := hV c hc
  have hB : InN N c.f2 := by
    rcases hk with hk | hk
    · rw [h0] at hk; cases hk.1
    · exact hk.2
  rcases h1 with ⟨rfl, rfl⟩ | ⟨rfl, rfl⟩
  · exact ⟨hA, hB⟩
  · exact ⟨hB, hA⟩
theorem Built.adj {N : Nat} {L : List S36} {E : EE} {M : MM} (h : Built N L E M) {u v : Int} (hu : InN N u) : Adj E u v ↔ AdjL L u v := by
  constructor
  · rintro ⟨e, he, rfl⟩
    obtain ⟨j, c, hg, h0, h1⟩ := (h.edge u hu e).1 he
    refine ⟨c, List.mem_of_getElem? hg, h0, ?_⟩
    rcases h1 with ⟨h1, rfl⟩ | ⟨h1, rfl⟩
    · exact .inl ⟨h1, rfl⟩
    · exact .inr ⟨h1, rfl⟩
  · rintro ⟨c, hc, h0, h1⟩
    obtain ⟨j, hj⟩ := List.getElem?_of_mem hc
    rcases h1 with ⟨h1, h2⟩ | ⟨h1, h2⟩
    · exact ⟨⟨(j : Int), c.f2⟩, (h.edge u hu _).2 ⟨j, c, hj, h0, .inl ⟨h1, rfl⟩⟩, h2⟩
    · exact ⟨⟨(j : Int), c.f1⟩, (h.edge u hu _).2 ⟨j, c, hj, h0, .inr ⟨h1, rfl⟩⟩, h2⟩
theorem Built.wk {N : Nat} {L : List S36} {E : EE} {M : MM} (h : Built N L E M) (hV : Valid N L) {n : Nat} {u v : Int} (hu : InN N u) : Wk E n u v ↔ WkL L n u v := by
  constructor
  · intro hw
    induction hw with
    | nil => exact .nil _
    | snoc hw' ha ih =>
      have hi := ih hu
      have hin : ∀ {n : Nat} {u v : Int}, InN N u → WkL L n u v → InN N v := by
        intro n u v hu hw
        cases hw with
        | nil => exact hu
        | snoc _ ha => exact (adjL_in hV ha).2
      exact hi.snoc ((h.adj (hin hu hi)).1 ha)
  · intro hw
    induction hw with
    | nil => exact .nil _
    | snoc hw' ha ih => exact (ih hu).snoc ((h.adj (adjL_in hV ha).1).2 ha)
theorem wkL_in {N : Nat} {L : List S36} (hV : Valid N L) {n : Nat} {u v : Int} (hu : InN N u) (hw : WkL L n u v) : InN N v := by
  cases hw with
  | nil => exact hu
  | snoc _ ha => exact (adjL_in hV ha).2
theorem Built.eok {N : Nat} {L : List S36} {E : EE} {M : MM} (h : Built N L E M) (hV : Valid N L) : EOk E := by
  intro v hv e he
  have hv' : InN N v := by rw [← h.len]; exact hv
  have := (adjL_in hV ((h.adj hv').1 ⟨e, he, rfl⟩)).2
  rw [← h.len] at this
  exact this
/-- The distances, told of the constraints. -/
structure FarL (N : Nat) (L : List S36) (F : List Int) (far : List Int) : Prop where
  len : far.length = N
  far : ∀ v, InN N v → (rd far v = -1 ∧ ∀ f ∈ F, ∀ n, ¬ WkL L n f v) ∨ (∃ n : Nat, rd far v = n ∧ n < N ∧ (∃ f ∈ F, WkL L n f v) ∧ ∀ f ∈ F, ∀ m, WkL L m f v → n ≤ m)
theorem Built.dist {N : Nat} {L : List S36} {E : EE} {M : MM} (h : Built N L E M) (hV : Valid N L) (hN : N ≤ 4096) {F : List Int} (hF : ∀ f ∈ F, InN N f) (hl : F.length ≤ 4096) {k : Nat} (hk : F.length + N < k) : ∃ far, dist E F k = some far ∧ FarL N L F far := by
  have hFE : ∀ f ∈ F, InR E f := fun f hf => by have := hF f hf; unfold InR; rw [h.len]; exact this
  obtain ⟨far, h1, h2⟩ := dist_ok hFE (h.eok hV) (by rw [h.len]; exact hN) hl (by rw [h.len]; exact hk)
  refine ⟨far, h1, by rw [h2.len, h.len], fun v hv => ?_⟩
  rcases h2.far v (by unfold InR; rw [h.len]; exact hv) with ⟨g1, g2⟩ | ⟨n, g1, g2, ⟨f, hf, g3⟩, g4⟩
  · exact .inl ⟨g1, fun f hf n hw => g2 f hf n ((h.wk hV (hF f hf)).2 hw)⟩
  · exact .inr ⟨n, g1, by rw [← h.len]; exact g2, ⟨f, hf, (h.wk hV (hF f hf)).1 g3⟩, fun f' hf' m hw => g4 f' hf' m ((h.wk hV (hF f' hf')).2 hw)⟩
end Go.Proofs.Ytjbafigageingaa
