import Derived.Test.YtjbafigageingaaKgConn
import Derived.Test.YtjbafigageingaaKgPu1
import Derived.Test.YtjbafigageingaaKgPuO
import Derived.Test.YtjbafigageingaaKgPLx2
namespace Go.Proofs.Ytjbafigageingaa
open Go.RowKit Go.Proofs.YtjbafigageingaaW.PrintWords Go.Proofs.YtjbafigageingaaW.PrintLast Go.Proofs.YtjbafigageingaaW.PrintMore
set_option linter.unusedVariables false
set_option linter.unusedSimpArgs false
/-- a walk can be shortened -/
theorem wk_short {N : Nat} {L : List S36} (hV : Valid N L) (hN : N ≤ 4096) {f v : Int} (hf : InN N f) {n : Nat} (h : WkL L n f v) : ∃ m, m < N ∧ WkL L m f v := by
  obtain ⟨⟨E, M⟩, hbd⟩ := build_valid (N := N) L 0 (List.replicate N []) (fun _ => []) hV
  obtain ⟨hb, _⟩ := build_some L [] _ _ (built_nil N) hbd
  rw [List.nil_append] at hb
  obtain ⟨far, _, hF⟩ := hb.dist hV hN (F := [f]) (fun x hx => by rw [List.mem_singleton.1 hx]; exact hf) (by simp) (k := 10000) (by simp; omega)
  rcases hF.far v (wkL_in hV hf h) with ⟨_, g⟩ | ⟨m, _, g2, ⟨f', hf', g3⟩, _⟩
  · exact absurd h (g f (List.mem_singleton.2 rfl) n)
  · rw [List.mem_singleton.1 hf'] at g3
    exact ⟨m, g2, g3⟩
theorem chok_short {N : Nat} {L : List S36} (hV : Valid N L) (hN : N ≤ 4096) {r : Nat} {a z : Int} {p : List Int} (h : IsCh L a z p) (hc : Conn L r (cAt L a).f1) (hm : ∀ n, Cf L r n → p.length ≤ n) : p.length < N := by
  obtain ⟨m, h1, h2⟩ := wk_short hV hN (hV _ (at_mem h.ra)).1 (wayC_wk p _ _ h.rp h.way)
  have := hm m ((cf_iff _ _ _).2 ⟨_, at_mem h.ra, _, at_mem h.rz, h.ka, h.kz, hc, h.ex, h2⟩)
  omega
theorem isch_f {L : List S36} {a z : Int} {p : List Int} (h : IsCh L a z p) (hp : p.length ≤ 30000) : assessorlaw09_isChain.f L (a :: (p ++ [z])) = some true := by
  unfold assessorlaw09_isChain.f
  rw [isch_true h hp]
theorem rdL7 (xs : List (List Int)) (i : Nat) (h : i < xs.length) : rd_L7 xs (i : Int) = xs[i] := by
  unfold rd_L7
  rw [Int.toNat_natCast, List.getD_eq_getElem?_getD, List.getElem?_eq_getElem h]
  rfl
theorem grow_l1 {N : Nat} {l : List S36} {all : List (List Int)} {chain : List Int} {cls : List Bool} (hV : Valid N l) (hcl : cls.length = N) (hal : all.length ≤ 1000)
    (hall : ∀ j (h : j < all.length), ∃ a z p, all[j] = a :: (p ++ [z]) ∧ IsCh l a z p ∧ p.length ≤ 30000) (part : List (List Int)) (x57 x58 : Int) :
    ∀ (c i k : Nat) (found : Bool), i + c = all.length → c < k → (found = true ∨ ∃ j, i ≤ j ∧ ∃ h : j < all.length, ∃ a z p, all[j] = a :: (p ++ [z]) ∧ rdOf false cls (cAt l a).f1 = true ∧ all[j].length ≤ chain.length) →
    ∃ k', k ≤ k' + c + 1 ∧ PL.assessorlaw09_ConstraintsGrow.l1 k N l all chain cls found part x57 x58 all (all.length : Int) i = PL.assessorlaw09_ConstraintsGrow.l0 k' N l all part x57 (wrap64 (x58 + 1))
  | 0, i, k, found, hc, hk, hx => by
    obtain ⟨k, rfl⟩ : ∃ m, k = m + 1 := ⟨k - 1, by omega⟩
    refine ⟨k, by omega, ?_⟩
    have hf : found = true := by
      rcases hx with h | ⟨j, h1, h2, _⟩
      · exact h
      · omega
    rw [PL.assessorlaw09_ConstraintsGrow.l1, if_neg (by omega), if_pos hf]
  | c + 1, i, k, found, hc, hk, hx => by
    obtain ⟨k, rfl⟩ : ∃ m, k = m + 1 := ⟨k - 1, by omega⟩
    have hi : i < all.length := by omega
    have hw : wrap64 ((i : Int) + 1) = ((i + 1 : Nat) : Int) := by rw [wrap_small _ (by omega)]; omega
    obtain ⟨a, z, p, e, hch, hp⟩ := hall i hi
    have hA := (hV _ (at_mem hch.ra)).1
    have key : ∃ found', PL.assessorlaw09_ConstraintsGrow.l1 (k + 1) N l all chain cls found part x57 x58 all (all.length : Int) i = PL.assessorlaw09_ConstraintsGrow.l1 k N l all chain cls found' part x57 x58 all (all.length : Int) ((i + 1 : Nat) : Int) ∧
        (found' = true ∨ ∃ j, i + 1 ≤ j ∧ ∃ h : j < all.length, ∃ a z p, all[j] = a :: (p ++ [z]) ∧ rdOf false cls (cAt l a).f1 = true ∧ all[j].length ≤ chain.length) := by
      rw [PL.assessorlaw09_ConstraintsGrow.l1, if_pos (by omega), if_pos (by omega), if_pos (by omega), hw]
      cases found with
      | true => exact ⟨true, by rw [if_pos rfl], .inl rfl⟩
      | false =>
        rw [if_neg (by decide), rdL7 all i hi, e, isch_f hch hp]
        simp only [Option.bind_some]
        have h0 : rd (a :: (p ++ [z])) 0 = a := rfl
        rw [if_pos trivial, if_pos (by simp only [List.length_cons]; omega), h0, if_pos hch.ra.1, if_pos hch.ra.2]
        rw [if_pos (show 0 ≤ (rd_T36 l a).f1 from hA.1), if_pos (show (rd_T36 l a).f1 < (cls.length : Int) by rw [hcl]; exact hA.2)]
        have hrest : ∀ b : Bool, (rdOf false cls (rd_T36 l a).f1 = true ∧ (a :: (p ++ [z])).length ≤ chain.length → b = true) → (b = true ∨ ∃ j, i + 1 ≤ j ∧ ∃ h : j < all.length, ∃ a z p, all[j] = a :: (p ++ [z]) ∧ rdOf false cls (cAt l a).f1 = true ∧ all[j].length ≤ chain.length) := by
          intro b hb
          rcases hx with h | ⟨j, h1, h2, a', z', p', g1, g2, g3⟩
          · cases h
          · by_cases hj : j = i
            · subst hj
              rw [e] at g1 g3
              injection g1 with g1 _
              subst g1
              exact .inl (hb ⟨g2, g3⟩)
            · exact .inr ⟨j, by omega, h2, a', z', p', g1, g2, g3⟩
        by_cases hc1 : rdOf false cls (rd_T36 l a).f1 = true
        · rw [if_pos hc1]
          exact ⟨_, rfl, hrest _ (fun hh => decide_eq_true (by have := hh.2; omega))⟩
        · rw [if_neg hc1]
          exact ⟨_, rfl, hrest _ (fun hh => absurd hh.1 hc1)⟩
    obtain ⟨f', g1, g2⟩ := key
    obtain ⟨k', q1, q2⟩ := grow_l1 hV hcl hal hall part x57 x58 c (i + 1) k f' (by omega) (by omega) g2
    exact ⟨k', by omega, g1.trans q2⟩
theorem grow_l0 {N : Nat} {l l0 : List S36} {out out0 : List S23} {all part : List (List Int)} (hV : Valid N l) (hN : N ≤ 60) (hl : l.length ≤ 80) (hp : ∀ i : Nat, i < l0.length → l[i]? = l0[i]?) (hll : l0.length ≤ l.length)
    (h0 : Solved N l0 out0 part) (h1 : Solved N l out all) (hal : all.length ≤ 60) (hpl : part.length ≤ 60) : ∀ (c i k : Nat), i + c = part.length → 30000 + c * 100 ≤ k → PL.assessorlaw09_ConstraintsGrow.l0 k N l all part (part.length : Int) i = some true
  | 0, i, k, hc, hk => by
    obtain ⟨k, rfl⟩ : ∃ m, k = m + 1 := ⟨k - 1, by omega⟩
    rw [PL.assessorlaw09_ConstraintsGrow.l0, if_neg (by omega)]
    rfl
  | c + 1, i, k, hc, hk => by
    obtain ⟨k, rfl⟩ : ∃ m, k = m + 1 := ⟨k - 1, by omega⟩
    have hi : i < part.length := by omega
    have hw : wrap64 ((i : Int) + 1) = ((i + 1 : Nat) : Int) := by rw [wrap_small _ (by omega)]; omega
    have hall : ∀ j (h : j < all.length), ∃ a z p, all[j] = a :: (p ++ [z]) ∧ IsCh l a z p ∧ p.length ≤ 30000 := fun j hj => by
      obtain ⟨r, _, _, _, a, z, p, e, g1, g2, g3⟩ := h1.chain_at hj
      exact ⟨a, z, p, e, g1, by have := chok_short hV (by omega) g1 g2 g3; omega⟩
    obtain ⟨r, _, _, _, a, z, p, e, g1, g2, g3⟩ := h0.chain_at hi
    have hV0 : Valid N l0 := valid_mono (fun c hc => by
      obtain ⟨j, hj, hj2, _⟩ := mem_at hc
      rw [← hp j hj] at hj2
      exact List.mem_of_getElem? hj2) hV
    have hps := chok_short hV0 (by omega) g1 g2 g3
    obtain ⟨a2, z2, p2, e2, hch, j', hj', a', z', p', q1, q2, q3, q4⟩ := solved_grow hV hp hll h0 h1 hi
    have hs : a2 = a ∧ p2 ++ [z2] = p ++ [z] := by
      rw [e] at e2
      injection e2 with u1 u2
      exact ⟨u1.symm, u2.symm⟩
    have hp2 : p2.length = p.length := by have := congrArg List.length hs.2; simpa using this
    have hA := (hV _ (at_mem hch.ra)).1
    have hA' := (hV _ (at_mem q2.ra)).1
    obtain ⟨cls, b1, b2, b3⟩ := connected_ok hV hN hA hl (k := k) (by omega)
    rw [PL.assessorlaw09_ConstraintsGrow.l0, if_pos (by omega), if_pos (by omega), if_pos (by omega), rdL7 part i hi, e2, isch_f hch (by omega)]
    simp only [Option.bind_some]
    have hr0 : rd (a2 :: (p2 ++ [z2])) 0 = a2 := rfl
    rw [if_pos trivial, if_pos (by simp only [List.length_cons]; omega), hr0, if_pos hch.ra.1, if_pos hch.ra.2]
    rw [show (rd_T36 l a2).f1 = (cAt l a2).f1 from rfl, b1]
    simp only [Option.bind_some]
    obtain ⟨k', m1, m2⟩ := grow_l1 (chain := a2 :: (p2 ++ [z2])) hV b2 (by omega) hall part (part.length : Int) i all.length 0 k false (by omega) (by omega)
      (.inr ⟨j', Nat.zero_le _, hj', a', z', p', q1, (b3 _ hA').2 q3, by rw [q1]; simp; omega⟩)
    rw [show ((0 : Nat) : Int) = 0 from rfl] at m2
    rw [m2, hw]
    exact grow_l0 hV hN hl hp hll h0 h1 hal hpl c (i + 1) k' (by omega) (by omega)
theorem grow_pure (a0 : Int) (l : List S36) : PL.assessorlaw09_ConstraintsGrow.f 100000 a0 l = some true := by
  unfold PL.assessorlaw09_ConstraintsGrow.f
  rw [few_eq]
  simp only [Option.bind_some]
  have haw : ∀ k, PL.assessorlaw09_ConstraintsGrow.j0 (k + 1) a0 l true = some true := fun k => by
    rw [PL.assessorlaw09_ConstraintsGrow.j0, if_pos rfl]
    rfl
  by_cases hf : l.length ≤ 80 ∧ (a0 ≤ 60 ∨ a0 > 4096)
  · rw [decide_eq_true hf, if_pos rfl]
    obtain ⟨hl, hf⟩ := hf
    by_cases hz : l.length = 0
    · rw [show ((l.length : Int) == 0) = true by simp [hz]]
      exact haw 99999
    · rw [show ((l.length : Int) == 0) = false by simp; intro h; rw [h] at hz; exact hz rfl]
      rw [show (100000 : Nat) = 99999 + 1 from rfl, PL.assessorlaw09_ConstraintsGrow.j0, if_neg (by decide)]
      have hw : wrap64 ((l.length : Int) - 1) = ((l.length - 1 : Nat) : Int) := by rw [wrap_small _ (by omega)]; omega
      rw [hw]
      have hl' : (l.take (l.length - 1)).length ≤ 80 := by rw [List.length_take]; omega
      have hsub : ∀ c, c ∈ l.take (l.length - 1) → c ∈ l := fun c hc => List.mem_of_mem_take hc
      have hpre : ∀ i : Nat, i < (l.take (l.length - 1)).length → l[i]? = (l.take (l.length - 1))[i]? := fun i hi => by
        rw [List.getElem?_take_of_lt]
        rw [List.length_take] at hi
        omega
      rcases solve_cases a0 l hl hf with ⟨g, s1⟩ | ⟨N, rfl, hN, ⟨hV, s1⟩ | ⟨hV, out, ch, s1, so⟩⟩
      · rcases solve_cases a0 (l.take (l.length - 1)) hl' hf with ⟨g', s2⟩ | ⟨N', e, hN', _⟩
        · rw [s1]
          simp only [Option.bind_some]
          rw [if_pos (by omega), if_pos (by omega), Int.toNat_natCast, s2]
          simp only [Option.bind_some]
          rw [fits_no (by omega) (fun hh => g ⟨hh.1, hh.2.1⟩) (by omega)]
          rfl
        · omega
      · have hno : PF.assessorref09_Fits.f 99999 N l = some false := fits_no (by omega) (fun hh => hV (by have := hh.2.2; rwa [Int.toNat_natCast] at this)) (by omega)
        rcases solve_cases N (l.take (l.length - 1)) hl' hf with ⟨g', s2⟩ | ⟨N', e, hN', ⟨hV', s2⟩ | ⟨hV', o2, c2, s2, _⟩⟩
        · rw [s1]
          simp only [Option.bind_some]
          rw [if_pos (by omega), if_pos (by omega), Int.toNat_natCast, s2]
          simp only [Option.bind_some]
          rw [hno]
          rfl
        · rw [s1]
          simp only [Option.bind_some]
          rw [if_pos (by omega), if_pos (by omega), Int.toNat_natCast, s2]
          simp only [Option.bind_some]
          rw [hno]
          rfl
        · rw [s1]
          simp only [Option.bind_some]
          rw [if_pos (by omega), if_pos (by omega), Int.toNat_natCast, s2]
          simp only [Option.bind_some]
          rw [hno]
          rfl
      · rcases solve_cases N (l.take (l.length - 1)) hl' hf with ⟨g', s2⟩ | ⟨N', e, hN', ⟨hV', s2⟩ | ⟨hV', o2, c2, s2, so2⟩⟩
        · omega
        · obtain rfl : N = N' := by omega
          exact absurd (valid_mono hsub hV) hV'
        · obtain rfl : N = N' := by omega
          rw [s1]
          simp only [Option.bind_some]
          rw [if_pos (by omega), if_pos (by omega), Int.toNat_natCast, s2]
          simp only [Option.bind_some]
          rw [fits_yes (by omega) (by omega) hV (by omega)]
          simp only [Option.bind_some]
          rw [if_pos trivial, if_pos trivial]
          have : ((0 : Int) != 0) = false := rfl
          rw [this, show (99999 : Nat) = 99998 + 1 from rfl, PL.assessorlaw09_ConstraintsGrow.j1, if_neg (by decide)]
          have m1 : ch.length ≤ 60 := by rw [so.cl]; exact Nat.le_trans (reps_len l N) hN
          have m2 : c2.length ≤ 60 := by rw [so2.cl]; exact Nat.le_trans (reps_len _ N) hN
          exact grow_l0 hV hN hl hpre (by rw [List.length_take]; omega) so2 so m1 m2 c2.length 0 99998 (by omega) (by omega)
  · rw [decide_eq_false hf, if_neg (by decide)]
    exact haw 99999
end Go.Proofs.Ytjbafigageingaa
