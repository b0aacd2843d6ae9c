import Derived.Test.YtjbafigageingaaKoTh4
import Derived.Test.YtjbafigageingaaKoExcP
namespace Go.Proofs.Ytjbafigageingaa
open Go.RowKit Go.Proofs.YtjbafigageingaaW.PrintWords Go.Proofs.YtjbafigageingaaW.PrintLast Go.Proofs.YtjbafigageingaaW.PrintMore
set_option linter.unusedVariables false
set_option linter.unusedSimpArgs false
theorem mem_at {L : List S36} {c : S36} (h : c ∈ L) : ∃ i : Nat, i < L.length ∧ L[i]? = some c ∧ cAt L (i : Int) = c := by
  obtain ⟨i, hi, he⟩ := List.getElem_of_mem h
  have h1 : L[i]? = some c := by rw [List.getElem?_eq_getElem hi, he]
  exact ⟨i, hi, h1, cAt_of h1⟩
theorem at_mem {L : List S36} {i : Int} (h : 0 ≤ i ∧ i < (L.length : Int)) : cAt L i ∈ L := by
  unfold cAt rd_T36
  have : i.toNat < L.length := by omega
  rw [List.getD_eq_getElem?_getD, List.getElem?_eq_getElem this]
  exact List.getElem_mem this
theorem at_memN {L : List S36} {i : Nat} (h : i < L.length) : cAt L (i : Int) ∈ L := at_mem (by omega)
/-- a conflict of the class of v, n equalities long -/
def CfM (L : List S36) (v : Int) (n : Nat) : Prop := ∃ c ∈ L, ∃ d ∈ L, c.f0 = 0 ∧ d.f0 = 0 ∧ Conn L v c.f1 ∧ exclB c.f3 d.f3 = true ∧ WkL L n c.f1 d.f1
theorem cf_iff (L : List S36) (v : Int) (n : Nat) : Cf L v n ↔ CfM L v n := by
  constructor
  · rintro ⟨i, hi, h0, hc, j, hij, hj, hj0, he, hw⟩
    exact ⟨_, at_memN hi, _, at_memN hj, h0, hj0, hc, he, hw⟩
  · rintro ⟨c, hc, d, hd, h0, h1, hv, he, hw⟩
    obtain ⟨i, hi, _, rfl⟩ := mem_at hc
    obtain ⟨j, hj, _, rfl⟩ := mem_at hd
    rcases Nat.lt_trichotomy i j with hlt | heq | hgt
    · exact ⟨i, hi, h0, hv, j, by omega, hj, h1, he, hw⟩
    · subst heq
      rw [excl_irr] at he
      cases he
    · exact ⟨j, hj, h1, hv.trans ⟨n, hw⟩, i, by omega, hi, h0, by rw [excl_symm]; exact he, hw.symm⟩
theorem Conn.mono {L L' : List S36} (hs : ∀ c ∈ L, c ∈ L') {u v : Int} (h : Conn L u v) : Conn L' u v := h.imp fun n hw => hw.mono (fun c hc _ => hs c hc)
theorem cf_mono {L L' : List S36} (hs : ∀ c ∈ L, c ∈ L') {v : Int} {n : Nat} (h : Cf L v n) : Cf L' v n := by
  rw [cf_iff] at h ⊢
  obtain ⟨c, hc, d, hd, h0, h1, hv, he, hw⟩ := h
  exact ⟨c, hs c hc, d, hs d hd, h0, h1, hv.mono hs, he, hw.mono (fun c hc _ => hs c hc)⟩
/-- a chain is a conflict -/
theorem IsCh.cf {L : List S36} {a z : Int} {p : List Int} (h : IsCh L a z p) {v : Int} (hv : Conn L v (cAt L a).f1) : Cf L v p.length := by
  rw [cf_iff]
  exact ⟨_, at_mem h.ra, _, at_mem h.rz, h.ka, h.kz, hv, h.ex, wayC_wk p _ _ h.rp h.way⟩
theorem mem_reps {L : List S36} {N r : Nat} : r ∈ reps L N ↔ r < N ∧ IsRep L r ∧ HasCf L r := by
  unfold reps
  simp [List.mem_filter, List.mem_range]
/-- each chain is one of its class -/
theorem Solved.chain_at {N : Nat} {L : List S36} {out : List S23} {ch : List (List Int)} (h : Solved N L out ch) {j : Nat} (hj : j < ch.length) :
    ∃ r : Nat, r < N ∧ r ∈ reps L N ∧ (reps L N)[j]? = some r ∧ ChOK L r ch[j] := by
  have hj2 : j < (reps L N).length := by rw [← h.cl]; exact hj
  have e1 : (reps L N)[j]? = some (reps L N)[j] := List.getElem?_eq_getElem hj2
  have hm : (reps L N)[j] ∈ reps L N := List.getElem_mem hj2
  exact ⟨_, (mem_reps.1 hm).1, hm, e1, h.ck j _ _ e1 (List.getElem?_eq_getElem hj)⟩
theorem reps_congr {L L' : List S36} (N : Nat) (h1 : ∀ u v, Conn L u v ↔ Conn L' u v) (h2 : ∀ v, HasCf L v ↔ HasCf L' v) : reps L N = reps L' N := by
  unfold reps
  apply List.filter_congr
  intro r _
  have : (IsRep L r ∧ HasCf L r) ↔ (IsRep L' r ∧ HasCf L' r) := by
    unfold IsRep
    simp only [h1, h2]
  exact decide_eq_decide.2 this
theorem sameT_of {a b : S23} (ha : isMarkB a = true) (hb : isMarkB b = true) (wa : Whole a) (wb : Whole b) (he : ¬ exclB a b = true) : sameT a b = true := by
  have h1 : coversB a b = false := by
    unfold coversB
    have e1 : (a.f0 == 6) = false := beq_eq_false_iff_ne.2 wa.2
    have e2 : (a.f0 == 5) = false := beq_eq_false_iff_ne.2 wa.1
    rw [e1, e2]; rfl
  have h2 : coversB b a = false := by
    unfold coversB
    have e1 : (b.f0 == 6) = false := beq_eq_false_iff_ne.2 wb.2
    have e2 : (b.f0 == 5) = false := beq_eq_false_iff_ne.2 wb.1
    rw [e1, e2]; rfl
  unfold exclB at he
  rw [ha, hb, h1, h2] at he
  cases hs : sameT a b with
  | true => rfl
  | false => rw [hs] at he; exact absurd rfl he
theorem sameT_refl (a : S23) : sameT a a = true := by simp [sameT]
theorem valid_mono {N : Nat} {L L' : List S36} (hs : ∀ c ∈ L, c ∈ L') (h : Valid N L') : Valid N L := fun c hc => h c (hs c hc)
theorem valid_mark {N : Nat} {L : List S36} (hV : Valid N L) {c : S36} (hc : c ∈ L) (h0 : c.f0 = 0) : isMarkB c.f3 = true := by
  rcases (hV c hc).2 with h | h
  · exact h.2
  · omega
theorem out_same {N : Nat} {L L' : List S36} (hV : Valid N L) (hs : ∀ c, c ∈ L ↔ c ∈ L') {u : Int} {t t' : S23} (h : OutOK L u t) (h' : OutOK L' u t') : sameT t t' = true := by
  have h1 : ∀ u v, Conn L u v ↔ Conn L' u v := fun u v => ⟨fun h => h.mono (fun c hc => (hs c).1 hc), fun h => h.mono (fun c hc => (hs c).2 hc)⟩
  have h2 : ∀ v, HasCf L v ↔ HasCf L' v := fun v => ⟨fun ⟨n, h⟩ => ⟨n, cf_mono (fun c hc => (hs c).1 hc) h⟩, fun ⟨n, h⟩ => ⟨n, cf_mono (fun c hc => (hs c).2 hc) h⟩⟩
  by_cases hc : HasCf L u
  · rw [h.1 hc, h'.1 ((h2 u).1 hc)]
    exact sameT_refl _
  · have hc' : ¬ HasCf L' u := fun hx => hc ((h2 u).2 hx)
    rcases h.2 hc with ⟨rfl, hz⟩ | ⟨i, hi, i0, ic, iw, rfl⟩
    · rcases h'.2 hc' with ⟨rfl, _⟩ | ⟨j, hj, j0, jc, jw, rfl⟩
      · exact sameT_refl _
      · obtain ⟨i, hi, _, he⟩ := mem_at ((hs _).2 (at_memN hj))
        rw [← he] at jw j0 jc
        exact absurd jw (hz i hi j0 ((h1 _ _).2 jc))
    · rcases h'.2 hc' with ⟨rfl, hz⟩ | ⟨j, hj, j0, jc, jw, rfl⟩
      · obtain ⟨j, hj, _, he⟩ := mem_at ((hs _).1 (at_memN hi))
        rw [← he] at iw i0 ic
        exact absurd iw (hz j hj i0 ((h1 _ _).1 ic))
      · have mi := at_memN hi
        have mj := (hs _).2 (at_memN hj)
        refine sameT_of (valid_mark hV mi i0) (valid_mark hV mj j0) iw jw fun he => hc ?_
        obtain ⟨n, hn⟩ := ic.symm.trans ((h1 _ _).2 jc)
        exact ⟨n, (cf_iff _ _ _).2 ⟨_, mi, _, mj, i0, j0, ic, he, hn⟩⟩
theorem chok_len {L L' : List S36} (hs : ∀ c, c ∈ L ↔ c ∈ L') {r : Nat} {c c' : List Int} (h : ChOK L r c) (h' : ChOK L' r c') : c.length = c'.length := by
  obtain ⟨a, z, p, rfl, h1, h2, h3⟩ := h
  obtain ⟨a', z', p', rfl, h1', h2', h3'⟩ := h'
  have e1 := h3 _ (cf_mono (fun c hc => (hs c).2 hc) (h1'.cf h2'))
  have e2 := h3' _ (cf_mono (fun c hc => (hs c).1 hc) (h1.cf h2))
  simp
  omega
theorem solved_order {N : Nat} {L L' : List S36} (hV : Valid N L) (hs : ∀ c, c ∈ L ↔ c ∈ L') {out out' : List S23} {ch ch' : List (List Int)} (h : Solved N L out ch) (h' : Solved N L' out' ch') :
    out.length = out'.length ∧ (∀ u, u < N → sameT (out.getD u z23) (out'.getD u z23) = true) ∧ ch.length = ch'.length ∧ (∀ j, j < ch.length → (ch.getD j []).length = (ch'.getD j []).length) := by
  have h1 : ∀ u v, Conn L u v ↔ Conn L' u v := fun u v => ⟨fun h => h.mono (fun c hc => (hs c).1 hc), fun h => h.mono (fun c hc => (hs c).2 hc)⟩
  have h2 : ∀ v, HasCf L v ↔ HasCf L' v := fun v => ⟨fun ⟨n, h⟩ => ⟨n, cf_mono (fun c hc => (hs c).1 hc) h⟩, fun ⟨n, h⟩ => ⟨n, cf_mono (fun c hc => (hs c).2 hc) h⟩⟩
  have hr := reps_congr N h1 h2
  have hl : ch.length = ch'.length := by rw [h.cl, h'.cl, hr]
  refine ⟨by rw [h.ol, h'.ol], fun u hu => out_same hV hs (h.ok u hu) (h'.ok u hu), hl, fun j hj => ?_⟩
  obtain ⟨r, _, _, e1, k1⟩ := h.chain_at hj
  have hj' : j < ch'.length := by omega
  have k2 := h'.ck j r ch'[j] (by rw [← hr]; exact e1) (List.getElem?_eq_getElem hj')
  rw [List.getD_eq_getElem?_getD, List.getD_eq_getElem?_getD, List.getElem?_eq_getElem hj, List.getElem?_eq_getElem hj']
  exact chok_len hs k1 k2
end Go.Proofs.Ytjbafigageingaa
