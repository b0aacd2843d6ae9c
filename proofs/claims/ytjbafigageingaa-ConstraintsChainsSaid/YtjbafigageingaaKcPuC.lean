import Derived.Test.YtjbafigageingaaKcTh6
import Derived.Test.YtjbafigageingaaKcPuG
import Derived.Test.YtjbafigageingaaKcPMx3
namespace Go.Proofs.Ytjbafigageingaa
open Go.RowKit Go.Proofs.YtjbafigageingaaW.PrintWords Go.Proofs.YtjbafigageingaaW.PrintLast Go.Proofs.YtjbafigageingaaW.PrintMore
set_option linter.unusedVariables false
set_option linter.unusedSimpArgs false
theorem zt_z23 : (!(z23.f0 == 0) || (!(z23.f1 == 0) || (!(z23.f2.toList == ([] : List UInt8))))) = false := by kernel_rfl
theorem chains_l2 {N : Nat} {L : List S36} {out : List S23} {ch : List (List Int)} (hV : Valid N L) (so : Solved N L out ch) (hl : L.length ≤ 1000000) : ∀ (c i k : Nat), i + c = L.length → c + 2 ≤ k → PM.assessorlaw09_ConstraintsChains.l2 k out L (L.length : Int) i = some true
  | 0, i, k, hc, hk => by
    obtain ⟨k, rfl⟩ : ∃ m, k = m + 1 := ⟨k - 1, by omega⟩
    rw [PM.assessorlaw09_ConstraintsChains.l2, if_neg (by omega)]
    rfl
  | c + 1, i, k, hc, hk => by
    obtain ⟨k, rfl⟩ : ∃ m, k = m + 1 + 1 := ⟨k - 2, by omega⟩
    have hi : i < L.length := by omega
    have hw : wrap64 ((i : Int) + 1) = ((i + 1 : Nat) : Int) := by rw [wrap_small _ (by omega)]; omega
    have ih := chains_l2 hV so hl c (i + 1) (k + 1) (by omega) (by omega)
    obtain ⟨x, hx⟩ : ∃ x, x = rd_T36 L i := ⟨_, rfl⟩
    have hm : x ∈ L := by rw [hx]; exact at_memN hi
    obtain ⟨hA, hB⟩ := hV _ hm
    have oA : x.f1 < (out.length : Int) := by rw [so.ol]; exact hA.2
    rw [PM.assessorlaw09_ConstraintsChains.l2, if_pos (by omega), if_pos (by omega), if_pos (by omega), hw, ← hx, ih]
    rcases hB with ⟨h0, hmk⟩ | ⟨h1, hB⟩
    · rw [if_neg (by omega), if_pos h0, if_pos hA.1, if_pos oA]
      have hO : OutOK L x.f1 (rd_T23 out x.f1) := by
        have := so.ok x.f1.toNat (by have := hA.1; have := hA.2; omega)
        rw [Int.toNat_of_nonneg hA.1] at this
        exact this
      split
      · rename_i hz
        rw [refExcl]
        rcases out_mark hV hm h0 hO with ht | ht
        · rw [ht, zt_z23] at hz
          cases hz
        · rw [ht]
          rfl
      · rfl
    · have oB : x.f2 < (out.length : Int) := by rw [so.ol]; exact hB.2
      have he : rd_T23 out x.f1 = rd_T23 out x.f2 := by
        unfold rd_T23
        refine so.oc _ _ (by have := hA.1; have := hA.2; omega) (by have := hB.1; have := hB.2; omega) ?_
        rw [Int.toNat_of_nonneg hA.1, Int.toNat_of_nonneg hB.1]
        exact ⟨1, WkL.cons ⟨x, hm, h1, .inl ⟨rfl, rfl⟩⟩ (.nil _)⟩
      rw [if_pos h1, if_pos hA.1, if_pos oA, if_pos hB.1, if_pos oB, he]
      rw [if_neg (by simp), if_neg (by omega)]
theorem chains_l1 {N : Nat} {L : List S36} {out : List S23} {ch : List (List Int)} {chain : List Int} (hcl : chain.length ≤ 100000) (hr : ∀ i ∈ chain, 0 ≤ i ∧ i < (L.length : Int)) {o : List S23} {c2 : List (List Int)}
    (hS : constraints_Solve.f N (chain.map (cAt L)) = some (o, c2, 0)) (h1 : c2.length = 1) (h2 : (c2.getD 0 []).length = chain.length) (x52 x53 : Int) : ∀ (c i k : Nat) (x10 : List S36), i + c = chain.length → c < k → x10 = (chain.take i).map (cAt L) →
    ∃ k', k ≤ k' + c + 1 ∧ PM.assessorlaw09_ConstraintsChains.l1 k N L out chain x10 ch x52 x53 chain (chain.length : Int) i = PM.assessorlaw09_ConstraintsChains.l0 k' N L out ch x52 (wrap64 (x53 + 1))
  | 0, i, k, x10, hc, hk, hx => by
    obtain ⟨k, rfl⟩ : ∃ m, k = m + 1 := ⟨k - 1, by omega⟩
    refine ⟨k, by omega, ?_⟩
    have : x10 = chain.map (cAt L) := by rw [hx, List.take_of_length_le (by omega)]
    rw [PM.assessorlaw09_ConstraintsChains.l1, if_neg (by omega), this, hS]
    simp only [Option.bind_some]
    have e7 : (rd_L7 c2 0).length = chain.length := h2
    rw [if_pos trivial, if_pos (by omega), if_pos (by omega), if_pos (by omega)]
  | c + 1, i, k, x10, hc, hk, hx => by
    obtain ⟨k, rfl⟩ : ∃ m, k = m + 1 := ⟨k - 1, by omega⟩
    have hi : i < chain.length := by omega
    have hw : wrap64 ((i : Int) + 1) = ((i + 1 : Nat) : Int) := by rw [wrap_small _ (by omega)]; omega
    have hx' : rd chain (i : Int) = chain[i] := by rw [rdN, List.getD_eq_getElem?_getD, List.getElem?_eq_getElem hi]; rfl
    have hrx := hr chain[i] (List.getElem_mem hi)
    have hlen : x10.length = i := by rw [hx, List.length_map, List.length_take]; omega
    obtain ⟨k', g1, g2⟩ := chains_l1 hcl hr hS h1 h2 x52 x53 c (i + 1) k (x10 ++ [cAt L chain[i]]) (by omega) (by omega) (by
      rw [List.take_succ_eq_append_getElem hi, List.map_append, ← hx]
      rfl)
    refine ⟨k', by omega, ?_⟩
    rw [PM.assessorlaw09_ConstraintsChains.l1, if_pos (by omega), if_pos (by omega), if_pos (by omega), hx', if_pos hrx.1, if_pos hrx.2, if_pos (by omega), hw]
    exact g2
theorem chains_l0 {N : Nat} {L : List S36} {out : List S23} {ch : List (List Int)} (hV : Valid N L) (hN : N ≤ 60) (hl : L.length ≤ 80) (so : Solved N L out ch) (hcl : ch.length ≤ 60) : ∀ (c i k : Nat), i + c = ch.length → 1000 + c * 100 ≤ k → PM.assessorlaw09_ConstraintsChains.l0 k N L out ch (ch.length : Int) i = some true
  | 0, i, k, hc, hk => by
    obtain ⟨k, rfl⟩ : ∃ m, k = m + 1 := ⟨k - 1, by omega⟩
    rw [PM.assessorlaw09_ConstraintsChains.l0, if_neg (by omega)]
    exact chains_l2 hV so (by omega) L.length 0 k (by omega) (by omega)
  | c + 1, i, k, hc, hk => by
    obtain ⟨k, rfl⟩ : ∃ m, k = m + 1 := ⟨k - 1, by omega⟩
    have hi : i < ch.length := by omega
    have hw : wrap64 ((i : Int) + 1) = ((i + 1 : Nat) : Int) := by rw [wrap_small _ (by omega)]; omega
    obtain ⟨r, _, _, _, a, z, p, e, g1, g2, g3⟩ := so.chain_at hi
    have hps := chok_short hV (by omega) g1 g2 g3
    have hA := (hV _ (at_mem g1.ra)).1
    obtain ⟨chain, hch⟩ : ∃ c, c = a :: (p ++ [z]) := ⟨_, rfl⟩
    have hlen : chain.length = p.length + 2 := by rw [hch]; simp
    obtain ⟨hVB, hB⟩ := alone_ok hV hN g1 g2 g3 (B := chain.map (cAt L)) (by rw [hch])
    obtain ⟨o, c2, s1, s2⟩ := solve_valid hVB hN (by rw [List.length_map]; omega)
    obtain ⟨b1, b2⟩ := hB s2
    have hS : constraints_Solve.f N (chain.map (cAt L)) = some (o, c2, 0) := by
      rw [solve_of (by rw [List.length_map]; omega)]
      exact s1
    have hr : ∀ i ∈ chain, 0 ≤ i ∧ i < (L.length : Int) := by
      rw [hch]
      intro x hx
      rcases List.mem_cons.1 hx with rfl | hx
      · exact g1.ra
      · rcases List.mem_append.1 hx with hx | hx
        · exact g1.rp x hx
        · rw [List.mem_singleton.1 hx]; exact g1.rz
    have hz : rd_T23 out (rd_T36 L a).f1 = z23 := by
      have := (so.ok (cAt L a).f1.toNat (by have := hA.1; have := hA.2; omega)).1
      rw [Int.toNat_of_nonneg hA.1] at this
      exact this ⟨_, g1.cf (Conn.refl _ _)⟩
    have hr0 : rd chain 0 = a := by rw [hch]; rfl
    rw [PM.assessorlaw09_ConstraintsChains.l0, if_pos (by omega), if_pos (by omega), if_pos (by omega), rdL7 ch i hi, e, isch_f g1 (by omega), ← hch]
    simp only [Option.bind_some]
    rw [if_pos trivial, if_pos (by omega), hr0, if_pos g1.ra.1, if_pos g1.ra.2, if_pos (show 0 ≤ (rd_T36 L a).f1 from hA.1), if_pos (show (rd_T36 L a).f1 < (out.length : Int) by rw [so.ol]; exact hA.2), hz, zt_z23, if_neg (by decide)]
    obtain ⟨k', m1, m2⟩ := chains_l1 (N := N) (out := out) (ch := ch) (by omega) hr hS b1 (by rw [b2, hlen]; simp) (ch.length : Int) i chain.length 0 k [] (by omega) (by omega) rfl
    rw [show ((0 : Nat) : Int) = 0 from rfl] at m2
    rw [m2, hw]
    exact chains_l0 hV hN hl so hcl c (i + 1) k' (by omega) (by omega)
theorem chains_pure (a0 : Int) (l : List S36) : PM.assessorlaw09_ConstraintsChains.f 100000 a0 l = some true := by
  unfold PM.assessorlaw09_ConstraintsChains.f
  rw [few_eq]
  simp only [Option.bind_some]
  by_cases hf : l.length ≤ 80 ∧ (a0 ≤ 60 ∨ a0 > 4096)
  · rw [decide_eq_true hf, if_pos rfl]
    obtain ⟨hl, hf⟩ := hf
    have hsum : wrap64 ((([] : List S23).length : Int) + (([] : List (List Int)).length : Int)) = 0 := by kernel_rfl
    rcases solve_cases a0 l hl hf with ⟨g, s1⟩ | ⟨N, rfl, hN, ⟨hV, s1⟩ | ⟨hV, out, ch, s1, so⟩⟩
    · rw [s1]
      simp only [Option.bind_some]
      rw [fits_no (by omega) (fun hh => g ⟨hh.1, hh.2.1⟩) (by omega)]
      simp only [Option.bind_some]
      rw [if_neg (by decide), if_neg (by decide), hsum, if_pos rfl]
      rfl
    · rw [s1]
      simp only [Option.bind_some]
      rw [fits_no (by omega) (fun hh => hV (by have := hh.2.2; rwa [Int.toNat_natCast] at this)) (by omega)]
      simp only [Option.bind_some]
      rw [if_neg (by decide), if_neg (by decide), hsum, if_pos rfl]
      rfl
    · rw [s1]
      simp only [Option.bind_some]
      rw [fits_yes (by omega) (by omega) hV (by omega)]
      simp only [Option.bind_some]
      rw [if_neg (by decide), if_pos trivial, if_pos (by rw [so.ol])]
      have m1 : ch.length ≤ 60 := by rw [so.cl]; exact Nat.le_trans (reps_len l N) hN
      exact chains_l0 hV hN hl so m1 ch.length 0 100000 (by omega) (by omega)
  · rw [decide_eq_false hf, if_neg (by decide)]
    rfl
end Go.Proofs.Ytjbafigageingaa
