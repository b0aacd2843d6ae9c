import Derived.Test.YtjbafigageingaaKcTh4
import Derived.Test.YtjbafigageingaaKcExcP
namespace Go.Proofs.Ytjbafigageingaa
open Go.RowKit Go.Proofs.YtjbafigageingaaW.PrintWords Go.Proofs.YtjbafigageingaaW.PrintLast Go.Proofs.YtjbafigageingaaW.PrintMore
set_option linter.unusedVariables false
set_option linter.unusedSimpArgs false
theorem mem_at {L : List S36} {c : S36} (h : c ∈ L) : ∃ i : Nat, i < L.length ∧ L[i]? = some c ∧ cAt L (i : Int) = c := by
  obtain ⟨i, hi, he⟩ := List.getElem_of_mem h
  have h1 : L[i]? = some c := by rw [List.getElem?_eq_getElem hi, he]
  exact ⟨i, hi, h1, cAt_of h1⟩
theorem at_mem {L : List S36} {i : Int} (h : 0 ≤ i ∧ i < (L.length : Int)) : cAt L i ∈ L := by
  unfold cAt rd_T36
  have : i.toNat < L.length := by omega
  rw [List.getD_eq_getElem?_getD, List.getElem?_eq_getElem this]
  exact List.getElem_mem this
theorem at_memN {L : List S36} {i : Nat} (h : i < L.length) : cAt L (i : Int) ∈ L := at_mem (by omega)
/-- a conflict of the class of v, n equalities long -/
def CfM (L : List S36) (v : Int) (n : Nat) : Prop := ∃ c ∈ L, ∃ d ∈ L, c.f0 = 0 ∧ d.f0 = 0 ∧ Conn L v c.f1 ∧ exclB c.f3 d.f3 = true ∧ WkL L n c.f1 d.f1
theorem cf_iff (L : List S36) (v : Int) (n : Nat) : Cf L v n ↔ CfM L v n := by
  constructor
  · rintro ⟨i, hi, h0, hc, j, hij, hj, hj0, he, hw⟩
    exact ⟨_, at_memN hi, _, at_memN hj, h0, hj0, hc, he, hw⟩
  · rintro ⟨c, hc, d, hd, h0, h1, hv, he, hw⟩
    obtain ⟨i, hi, _, rfl⟩ := mem_at hc
    obtain ⟨j, hj, _, rfl⟩ := mem_at hd
    rcases Nat.lt_trichotomy i j with hlt | heq | hgt
    · exact ⟨i, hi, h0, hv, j, by omega, hj, h1, he, hw⟩
    · subst heq
      rw [excl_irr] at he
      cases he
    · exact ⟨j, hj, h1, hv.trans ⟨n, hw⟩, i, by omega, hi, h0, by rw [excl_symm]; exact he, hw.symm⟩
theorem Conn.mono {L L' : List S36} (hs : ∀ c ∈ L, c ∈ L') {u v : Int} (h : Conn L u v) : Conn L' u v := h.imp fun n hw => hw.mono (fun c hc _ => hs c hc)
/-- a chain is a conflict -/
theorem IsCh.cf {L : List S36} {a z : Int} {p : List Int} (h : IsCh L a z p) {v : Int} (hv : Conn L v (cAt L a).f1) : Cf L v p.length := by
  rw [cf_iff]
  exact ⟨_, at_mem h.ra, _, at_mem h.rz, h.ka, h.kz, hv, h.ex, wayC_wk p _ _ h.rp h.way⟩
theorem mem_reps {L : List S36} {N r : Nat} : r ∈ reps L N ↔ r < N ∧ IsRep L r ∧ HasCf L r := by
  unfold reps
  simp [List.mem_filter, List.mem_range]
/-- the least vertex of a class -/
theorem rep_of (L : List S36) : ∀ v : Nat, ∃ r : Nat, r ≤ v ∧ IsRep L r ∧ Conn L r v := by
  intro v
  induction v using Nat.strongRecOn with
  | _ v ih =>
    by_cases h : IsRep L v
    · exact ⟨v, Nat.le_refl _, h, Conn.refl L v⟩
    · have : ∃ u : Nat, u < v ∧ Conn L u v := by
        by_cases hx : ∃ u : Nat, u < v ∧ Conn L u v
        · exact hx
        · exact absurd (fun u hu hc => hx ⟨u, hu, hc⟩) h
      obtain ⟨u, hu, hc⟩ := this
      obtain ⟨r, hr, h1, h2⟩ := ih u hu
      exact ⟨r, by omega, h1, h2.trans hc⟩
theorem rep_eq {L : List S36} {r s : Nat} (hr : IsRep L r) (hs : IsRep L s) (h : Conn L r s) : r = s := by
  rcases Nat.lt_trichotomy r s with h1 | h1 | h1
  · exact absurd h (hs r h1)
  · exact h1
  · exact absurd h.symm (hr s h1)
/-- each chain is one of its class -/
theorem Solved.chain_at {N : Nat} {L : List S36} {out : List S23} {ch : List (List Int)} (h : Solved N L out ch) {j : Nat} (hj : j < ch.length) :
    ∃ r : Nat, r < N ∧ r ∈ reps L N ∧ (reps L N)[j]? = some r ∧ ChOK L r ch[j] := by
  have hj2 : j < (reps L N).length := by rw [← h.cl]; exact hj
  have e1 : (reps L N)[j]? = some (reps L N)[j] := List.getElem?_eq_getElem hj2
  have hm : (reps L N)[j] ∈ reps L N := List.getElem_mem hj2
  exact ⟨_, (mem_reps.1 hm).1, hm, e1, h.ck j _ _ e1 (List.getElem?_eq_getElem hj)⟩
theorem valid_mono {N : Nat} {L L' : List S36} (hs : ∀ c ∈ L, c ∈ L') (h : Valid N L') : Valid N L := fun c hc => h c (hs c hc)
end Go.Proofs.Ytjbafigageingaa
