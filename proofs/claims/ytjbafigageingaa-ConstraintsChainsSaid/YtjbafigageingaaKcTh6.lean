import Derived.Test.YtjbafigageingaaKcTh5
namespace Go.Proofs.Ytjbafigageingaa
open Go.RowKit Go.Proofs.YtjbafigageingaaW.PrintWords Go.Proofs.YtjbafigageingaaW.PrintLast Go.Proofs.YtjbafigageingaaW.PrintMore
set_option linter.unusedVariables false
set_option linter.unusedSimpArgs false
theorem wayC_in {L B : List S36} : ∀ (p : List Int) (v u : Int), (∀ i ∈ p, cAt L i ∈ B) → wayC L v p = some u → WkL B p.length v u
  | [], v, u, _, h => by
    simp only [wayC, Option.some.injEq] at h
    subst h
    exact .nil _
  | i :: p, v, u, hr, h => by
    have hmem := hr i (List.mem_cons_self ..)
    simp only [wayC] at h
    split at h
    case isFalse => cases h
    rename_i h0
    split at h
    · rename_i h1
      exact WkL.cons ⟨_, hmem, h0, .inl ⟨h1, rfl⟩⟩ (wayC_in p _ u (fun x hx => hr x (List.mem_cons_of_mem _ hx)) h)
    · split at h
      case isFalse => cases h
      rename_i h2
      exact WkL.cons ⟨_, hmem, h0, .inr ⟨h2, rfl⟩⟩ (wayC_in p _ u (fun x hx => hr x (List.mem_cons_of_mem _ hx)) h)
theorem wayC_eqs {L : List S36} : ∀ (p : List Int) (v u : Int), wayC L v p = some u → ∀ i ∈ p, (cAt L i).f0 = 1
  | [], _, _, _, i, hi => by cases hi
  | j :: p, v, u, h, i, hi => by
    simp only [wayC] at h
    split at h
    case isFalse => cases h
    rename_i h0
    rcases List.mem_cons.1 hi with rfl | hi
    · exact h0
    · split at h
      · exact wayC_eqs p _ u h i hi
      · split at h
        case isFalse => cases h
        exact wayC_eqs p _ u h i hi
theorem one_of_all {l : List Nat} {r : Nat} (hn : l.Nodup) (hm : r ∈ l) (ha : ∀ x ∈ l, x = r) : l.length = 1 := by
  match l, hn, hm, ha with
  | [x], _, _, _ => rfl
  | x :: y :: t, hn, _, ha =>
    have h1 := ha x (List.mem_cons_self ..)
    have h2 := ha y (List.mem_cons_of_mem _ (List.mem_cons_self ..))
    have := List.nodup_cons.1 hn
    exact absurd (by rw [h1, h2]; exact List.mem_cons_self ..) this.1
theorem alone_ok {N : Nat} {L : List S36} (hV : Valid N L) (hN : N ≤ 60) {r : Nat} {a z : Int} {p : List Int} (h : IsCh L a z p) (hc : Conn L r (cAt L a).f1) (hm : ∀ n, Cf L r n → p.length ≤ n)
    {B : List S36} (hB : B = (a :: (p ++ [z])).map (cAt L)) : Valid N B ∧ ∀ {out : List S23} {ch : List (List Int)}, Solved N B out ch → ch.length = 1 ∧ (ch.getD 0 []).length = (a :: (p ++ [z])).length := by
  have hsub : ∀ c ∈ B, c ∈ L := by
    rw [hB]
    intro c hc
    obtain ⟨i, hi, rfl⟩ := List.mem_map.1 hc
    rcases List.mem_cons.1 hi with rfl | hi
    · exact at_mem h.ra
    · rcases List.mem_append.1 hi with hi | hi
      · exact at_mem (h.rp i hi)
      · rw [List.mem_singleton.1 hi]; exact at_mem h.rz
  have ma : cAt L a ∈ B := by rw [hB]; exact List.mem_map.2 ⟨a, List.mem_cons_self .., rfl⟩
  have mz : cAt L z ∈ B := by rw [hB]; exact List.mem_map.2 ⟨z, List.mem_cons_of_mem _ (List.mem_append_right _ (List.mem_singleton.2 rfl)), rfl⟩
  have mp : ∀ i ∈ p, cAt L i ∈ B := fun i hi => by rw [hB]; exact List.mem_map.2 ⟨i, List.mem_cons_of_mem _ (List.mem_append_left _ hi), rfl⟩
  have hVB : Valid N B := valid_mono hsub hV
  refine ⟨hVB, fun {out ch} hs => ?_⟩
  have hw : WkL B p.length (cAt L a).f1 (cAt L z).f1 := wayC_in p _ _ mp h.way
  have heq := wayC_eqs p _ _ h.way
  have hmark : ∀ c ∈ B, c.f0 = 0 → c = cAt L a ∨ c = cAt L z := by
    intro c hc h0
    rw [hB] at hc
    obtain ⟨i, hi, rfl⟩ := List.mem_map.1 hc
    rcases List.mem_cons.1 hi with rfl | hi
    · exact .inl rfl
    · rcases List.mem_append.1 hi with hi | hi
      · have := heq i hi
        omega
      · rw [List.mem_singleton.1 hi]; exact .inr rfl
  have hcf : ∀ {v : Int} {n : Nat}, Cf B v n → Conn B v (cAt L a).f1 ∧ WkL B n (cAt L a).f1 (cAt L z).f1 := by
    intro v n hh
    obtain ⟨c, hc, d, hd, h0, h1, h2, h3, h4⟩ := (cf_iff _ _ _).1 hh
    rcases hmark c hc h0 with rfl | rfl
    · rcases hmark d hd h1 with rfl | rfl
      · rw [excl_irr] at h3; cases h3
      · exact ⟨h2, h4⟩
    · rcases hmark d hd h1 with rfl | rfl
      · exact ⟨h2.trans ⟨_, hw.symm⟩, h4.symm⟩
      · rw [excl_irr] at h3; cases h3
  have hfc : ∀ {v : Int} {n : Nat}, Conn B v (cAt L a).f1 → WkL B n (cAt L a).f1 (cAt L z).f1 → Cf B v n := fun hv hn =>
    (cf_iff _ _ _).2 ⟨_, ma, _, mz, h.ka, h.kz, hv, h.ex, hn⟩
  have hA := (hV _ (at_mem h.ra)).1
  obtain ⟨w, hwA⟩ : ∃ w : Nat, (w : Int) = (cAt L a).f1 := ⟨(cAt L a).f1.toNat, by have := hA.1; omega⟩
  have hwN : w < N := by have := hA.2; omega
  obtain ⟨r0, hr0, hrep, hrc⟩ := rep_of B w
  rw [hwA] at hrc
  have hm0 : r0 ∈ reps B N := mem_reps.2 ⟨by omega, hrep, p.length, hfc hrc hw⟩
  have hlen : (reps B N).length = 1 := by
    refine one_of_all ?_ hm0 (fun x hx => ?_)
    · unfold reps
      exact List.Pairwise.filter _ List.nodup_range
    · obtain ⟨_, g1, n, g2⟩ := mem_reps.1 hx
      exact rep_eq g1 hrep ((hcf g2).1.trans hrc.symm)
  have hcl : ch.length = 1 := by rw [hs.cl]; exact hlen
  refine ⟨hcl, ?_⟩
  obtain ⟨r', hr', hmem', _, a', z', p', e, k1, k2, k3⟩ := hs.chain_at (j := 0) (by omega)
  have e1 : p'.length ≤ p.length := by
    obtain ⟨_, g1, n, g2⟩ := mem_reps.1 hmem'
    exact k3 _ (hfc (hcf g2).1 hw)
  have e2 : p.length ≤ p'.length := by
    have := (hcf (k1.cf k2)).2
    exact hm _ ((cf_iff _ _ _).2 ⟨_, at_mem h.ra, _, at_mem h.rz, h.ka, h.kz, hc, h.ex, this.mono (fun c hc _ => hsub c hc)⟩)
  rw [List.getD_eq_getElem?_getD, List.getElem?_eq_getElem (by omega), Option.getD_some, e]
  simp
  omega
/-- a mark at a vertex does not exclude the vertex' type -/
theorem out_mark {N : Nat} {L : List S36} (hV : Valid N L) {c : S36} (hc : c ∈ L) (h0 : c.f0 = 0) {t : S23} (h : OutOK L c.f1 t) : t = z23 ∨ exclB c.f3 t = false := by
  by_cases hcf : HasCf L c.f1
  · exact .inl (h.1 hcf)
  · rcases h.2 hcf with ⟨h1, _⟩ | ⟨i, hi, i0, ic, iw, rfl⟩
    · exact .inl h1
    · refine .inr ?_
      cases he : exclB c.f3 (cAt L i).f3 with
      | false => rfl
      | true =>
        obtain ⟨n, hn⟩ := ic
        exact absurd ⟨n, (cf_iff _ _ _).2 ⟨c, hc, _, at_memN hi, h0, i0, Conn.refl _ _, he, hn⟩⟩ hcf
end Go.Proofs.Ytjbafigageingaa
