import Derived.Test.YtjbafigageingaaKcTh5
import Derived.Test.YtjbafigageingaaKcPFx1
import Derived.Test.YtjbafigageingaaKcPNx2
namespace Go.Proofs.Ytjbafigageingaa
open Go.RowKit Go.Proofs.YtjbafigageingaaW.PrintWords Go.Proofs.YtjbafigageingaaW.PrintLast Go.Proofs.YtjbafigageingaaW.PrintMore
set_option linter.unusedVariables false
set_option linter.unusedSimpArgs false
theorem valid_step {N : Nat} {l : List S36} {i : Nat} (hi : i < l.length) (hl : l.length ≤ 1000000) (k : Nat) :
    (ValidC N (rd_T36 l i) → PF.assessorref09_valid.l0 (k + 3) N l i = PF.assessorref09_valid.l0 (k + 1) N l ((i + 1 : Nat) : Int)) ∧
    (¬ ValidC N (rd_T36 l i) → PF.assessorref09_valid.l0 (k + 3) N l i = some 1) := by
  have hw : wrap64 ((i : Int) + 1) = ((i + 1 : Nat) : Int) := by rw [wrap_small _ (by omega)]; omega
  generalize hR : PF.assessorref09_valid.l0 (k + 1) N l ((i + 1 : Nat) : Int) = R
  simp only [PF.assessorref09_valid.l0]
  rw [if_pos (by omega : (i : Int) < (l.length : Int)), if_pos (by omega : (0 : Int) ≤ (i : Int))]
  simp only [PF.assessorref09_valid.j2, hw, refIsMark, Option.bind_some, hR]
  generalize rd_T36 l i = c
  unfold ValidC InN
  constructor
  · rintro ⟨⟨h1, h2⟩, h3⟩
    rw [if_neg (by omega), if_neg (by omega)]
    rcases h3 with ⟨h3, h4⟩ | ⟨h3, h4, h5⟩
    · simp [h3, h4]
    · rw [if_neg (by omega)]
      have : ¬ c.f2 < 0 := by omega
      have : ¬ (N : Int) ≤ c.f2 := by omega
      simp [h3, *]
  · intro h
    by_cases h1 : c.f1 < 0
    · simp [h1]
    · by_cases h2 : c.f1 ≥ (N : Int)
      · simp [h1, h2]
      · rw [if_neg h1, if_neg h2]
        by_cases h3 : c.f0 = 0
        · have : ¬ isMarkB c.f3 = true := fun hm => h ⟨by omega, .inl ⟨h3, hm⟩⟩
          simp [h3, this]
        · rw [if_neg h3]
          by_cases h4 : c.f0 = 1
          · by_cases h5 : c.f2 < 0
            · simp [h4, h5]
            · by_cases h6 : (N : Int) ≤ c.f2
              · simp [h4, h5, h6]
              · exact absurd ⟨by omega, .inr ⟨h4, by omega⟩⟩ h
          · simp [h4]
theorem valid_yes {N : Nat} {l : List S36} (hl : l.length ≤ 1000000) (hV : Valid N l) : ∀ (d i k : Nat), i + d = l.length → 2 * d + 3 ≤ k → PF.assessorref09_valid.l0 k N l i = some 0
  | 0, i, k, h, hk => by
    obtain ⟨k, rfl⟩ : ∃ m, k = m + 1 := ⟨k - 1, by omega⟩
    simp only [PF.assessorref09_valid.l0]
    rw [if_neg (by omega)]
  | d + 1, i, k, h, hk => by
    obtain ⟨k, rfl⟩ : ∃ m, k = m + 3 := ⟨k - 3, by omega⟩
    rw [(valid_step (by omega) hl k).1 (hV _ (at_mem (i := (i : Int)) (by omega)))]
    exact valid_yes hl hV d (i + 1) (k + 1) (by omega) (by omega)
theorem valid_no {N : Nat} {l : List S36} (hl : l.length ≤ 1000000) : ∀ (d i k : Nat), i + d = l.length → 2 * d + 3 ≤ k → (∃ j : Nat, i ≤ j ∧ j < l.length ∧ ¬ ValidC N (rd_T36 l j)) → PF.assessorref09_valid.l0 k N l i = some 1
  | 0, i, k, h, hk, hx => by
    obtain ⟨j, h1, h2, _⟩ := hx
    omega
  | d + 1, i, k, h, hk, hx => by
    obtain ⟨k, rfl⟩ : ∃ m, k = m + 3 := ⟨k - 3, by omega⟩
    obtain ⟨j, h1, h2, h3⟩ := hx
    by_cases hc : ValidC N (rd_T36 l i)
    · rw [(valid_step (by omega) hl k).1 hc]
      refine valid_no hl d (i + 1) (k + 1) (by omega) (by omega) ⟨j, ?_, h2, h3⟩
      rcases Nat.lt_or_ge i j with hlt | hge
      · exact hlt
      · have : j = i := by omega
        subst this
        exact absurd hc h3
    · exact (valid_step (by omega) hl k).2 hc
theorem fits_yes {N : Nat} {l : List S36} (hN : N ≤ 4096) (hl : l.length ≤ 1000000) (hV : Valid N l) {k : Nat} (hk : 2 * l.length + 4 ≤ k) : PF.assessorref09_Fits.f k N l = some true := by
  obtain ⟨k, rfl⟩ : ∃ m, k = m + 1 := ⟨k - 1, by omega⟩
  unfold PF.assessorref09_Fits.f PF.assessorref09_valid.f
  rw [if_neg (by omega)]
  have : decide ((N : Int) > 4096) = false := decide_eq_false (by omega)
  rw [this]
  simp only [PF.assessorref09_valid.j0]
  have := valid_yes hl hV l.length 0 k (by omega) (by omega)
  rw [show ((0 : Nat) : Int) = 0 from rfl] at this
  rw [this]
  simp
theorem fits_no {N : Int} {l : List S36} (hl : l.length ≤ 1000000) (hV : ¬ (0 ≤ N ∧ N ≤ 4096 ∧ Valid N.toNat l)) {k : Nat} (hk : 2 * l.length + 4 ≤ k) : PF.assessorref09_Fits.f k N l = some false := by
  obtain ⟨k, rfl⟩ : ∃ m, k = m + 1 := ⟨k - 1, by omega⟩
  unfold PF.assessorref09_Fits.f PF.assessorref09_valid.f
  by_cases h0 : N < 0
  · rw [if_pos h0]
    simp [PF.assessorref09_valid.j0]
  · rw [if_neg h0]
    by_cases h1 : N > 4096
    · simp [PF.assessorref09_valid.j0, h1]
    · have : decide (N > 4096) = false := decide_eq_false h1
      rw [this]
      simp only [PF.assessorref09_valid.j0]
      obtain ⟨n, rfl⟩ := Int.eq_ofNat_of_zero_le (show 0 ≤ N by omega)
      have hx : ∃ j : Nat, 0 ≤ j ∧ j < l.length ∧ ¬ ValidC n (rd_T36 l j) := by
        by_cases hx : ∃ j : Nat, 0 ≤ j ∧ j < l.length ∧ ¬ ValidC n (rd_T36 l j)
        · exact hx
        · refine absurd ⟨by omega, by omega, fun c hc => ?_⟩ hV
          obtain ⟨i, hi, _, he⟩ := mem_at hc
          rw [Int.toNat_natCast]
          by_cases hv : ValidC n c
          · exact hv
          · exact absurd ⟨i, Nat.zero_le _, hi, by rw [show rd_T36 l i = c from he]; exact hv⟩ hx
      have := valid_no hl l.length 0 k (by omega) (by omega) hx
      rw [show ((0 : Nat) : Int) = 0 from rfl] at this
      rw [this]
      simp
theorem rdN (xs : List Int) (i : Nat) : rd xs (i : Int) = xs.getD i 0 := by
  unfold rd
  rw [Int.toNat_natCast]
theorem isch_l1 {L : List S36} {p : List Int} (hp : p.length ≤ 1000000) (b0 b2 b3 b4 : Int) (b1 : Int) (b5 : ByteArray) (b6 b7 : Int) (hr : ∀ i ∈ p, 0 ≤ i ∧ i < (L.length : Int)) : ∀ (d i k : Nat) (v : Int), i + d = p.length → d < k → wayC L v (p.drop i) = some b1 →
    PN.assessorlaw09_isChain.l1 k L v p (p.length : Int) i b0 b1 b2 b3 b4 b5 b6 b7 = some true
  | 0, i, k, v, h, hk, hw => by
    obtain ⟨k, rfl⟩ : ∃ m, k = m + 1 := ⟨k - 1, by omega⟩
    simp only [PN.assessorlaw09_isChain.l1]
    rw [if_neg (by omega)]
    rw [List.drop_eq_nil_of_le (by omega)] at hw
    simp only [wayC, Option.some.injEq] at hw
    rw [hw]
    simp
  | d + 1, i, k, v, h, hk, hw => by
    obtain ⟨k, rfl⟩ : ∃ m, k = m + 1 := ⟨k - 1, by omega⟩
    have hi : i < p.length := by omega
    have hx : rd p (i : Int) = p[i] := by rw [rdN, List.getD_eq_getElem?_getD, List.getElem?_eq_getElem hi]; rfl
    have hrx := hr p[i] (List.getElem_mem hi)
    rw [List.drop_eq_getElem_cons hi] at hw
    have hwr : wrap64 ((i : Int) + 1) = ((i + 1 : Nat) : Int) := by rw [wrap_small _ (by omega)]; omega
    simp only [PN.assessorlaw09_isChain.l1]
    rw [if_pos (by omega), if_pos (by omega), if_pos (by omega), hx, if_pos hrx.1, if_pos hrx.2, hwr]
    simp only [wayC] at hw
    split at hw
    case isFalse => cases hw
    rename_i h0
    rw [if_pos h0]
    split at hw
    · rename_i h1
      rw [if_pos h1]
      exact isch_l1 hp b0 b2 b3 b4 b1 b5 b6 b7 hr d (i + 1) k _ (by omega) (by omega) hw
    · rename_i h1
      rw [if_neg h1]
      split at hw
      case isFalse => cases hw
      rename_i h2
      rw [if_pos h2]
      exact isch_l1 hp b0 b2 b3 b4 b1 b5 b6 b7 hr d (i + 1) k _ (by omega) (by omega) hw
theorem isch_l0 {L : List S36} {ch : List Int} (hp : ch.length ≤ 1000000) {k0 : Nat} (hr : ∀ i ∈ ch, 0 ≤ i ∧ i < (L.length : Int)) : ∀ (d i k : Nat), i + d = ch.length → d + k0 ≤ k →
    (∀ k, k0 ≤ k → PN.assessorlaw09_isChain.l0 k L ch ch (ch.length : Int) ch.length = some true) → PN.assessorlaw09_isChain.l0 k L ch ch (ch.length : Int) i = some true
  | 0, i, k, h, hk, hz => by
    have : i = ch.length := by omega
    subst this
    exact hz k (by omega)
  | d + 1, i, k, h, hk, hz => by
    obtain ⟨k, rfl⟩ : ∃ m, k = m + 1 := ⟨k - 1, by omega⟩
    have hi : i < ch.length := by omega
    have hx : rd ch (i : Int) = ch[i] := by rw [rdN, List.getD_eq_getElem?_getD, List.getElem?_eq_getElem hi]; rfl
    have hrx := hr ch[i] (List.getElem_mem hi)
    have hwr : wrap64 ((i : Int) + 1) = ((i + 1 : Nat) : Int) := by rw [wrap_small _ (by omega)]; omega
    simp only [PN.assessorlaw09_isChain.l0]
    rw [if_pos (by omega), if_pos (by omega), if_pos (by omega), hx, if_neg (by omega), if_neg (by omega), hwr]
    exact isch_l0 hp hr d (i + 1) k (by omega) (by omega) hz
theorem isch_true {L : List S36} {a z : Int} {p : List Int} (h : IsCh L a z p) (hp : p.length ≤ 30000) : PN.assessorlaw09_isChain.f 100000 L (a :: (p ++ [z])) = some true := by
  obtain ⟨hlt, ⟨hra0, hra1⟩, ⟨hrz0, hrz1⟩, hrp, hka, hkz, hex, hway⟩ := h
  obtain ⟨ch, hch⟩ : ∃ c, c = a :: (p ++ [z]) := ⟨_, rfl⟩
  rw [← hch]
  have hm : ch.length = p.length + 2 := by rw [hch]; simp
  have hr : ∀ i ∈ ch, 0 ≤ i ∧ i < (L.length : Int) := by
    rw [hch]
    intro x hx
    rcases List.mem_cons.1 hx with rfl | hx
    · exact ⟨hra0, hra1⟩
    · rcases List.mem_append.1 hx with hx | hx
      · exact hrp x hx
      · rw [List.mem_singleton.1 hx]; exact ⟨hrz0, hrz1⟩
  have hf : rd ch 0 = a := by rw [hch]; rfl
  have hw : wrap64 ((ch.length : Int) - 1) = ((p.length + 1 : Nat) : Int) := by rw [wrap_small _ (by omega)]; omega
  have hl : rd ch ((p.length + 1 : Nat) : Int) = z := by rw [rdN, hch]; simp [List.getD_eq_getElem?_getD]
  have hmid : (ch.take (p.length + 1)).drop 1 = p := by rw [hch]; simp
  unfold PN.assessorlaw09_isChain.f
  rw [if_neg (by omega), if_pos (by omega), hw, if_pos (by omega), if_pos (by omega), hf, hl, decide_eq_false (by omega)]
  show PN.assessorlaw09_isChain.j0 (99999 + 1) L ch false = some true
  simp only [PN.assessorlaw09_isChain.j0]
  rw [if_neg (by decide)]
  have := isch_l0 (L := L) (ch := ch) (by omega) (k0 := p.length + 10) hr ch.length 0 99999 (by omega) (by omega) (fun k hk => ?_)
  · exact this
  · obtain ⟨k, rfl⟩ : ∃ m, k = m + 3 := ⟨k - 3, by omega⟩
    simp only [PN.assessorlaw09_isChain.l0]
    rw [if_neg (by omega), if_pos (by omega), hf, if_pos hra0, if_pos hra1, hw, if_pos (by omega), if_pos (by omega), hl, if_pos hrz0, if_pos hrz1]
    rw [if_pos (show (rd_T36 L a).f0 = 0 from hka), if_pos (show (rd_T36 L z).f0 = 0 from hkz), refExcl, show exclB (rd_T36 L a).f3 (rd_T36 L z).f3 = true from hex]
    simp only [Option.bind_some, PN.assessorlaw09_isChain.j2, Bool.not_true]
    rw [if_neg (by decide), if_pos (by omega), if_pos (by omega), hw, Int.toNat_natCast, hmid]
    exact isch_l1 (by omega) _ _ _ _ _ _ _ _ hrp p.length 0 _ _ (by omega) (by omega) (by rw [List.drop_zero]; exact hway)
end Go.Proofs.Ytjbafigageingaa
