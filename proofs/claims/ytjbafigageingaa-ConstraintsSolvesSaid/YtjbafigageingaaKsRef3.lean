import Derived.Test.YtjbafigageingaaKsRef2
import Derived.Test.YtjbafigageingaaKsM4
import Derived.Test.YtjbafigageingaaKsPSx8
namespace Go.Proofs.Ytjbafigageingaa
open Go.RowKit Go.Proofs.YtjbafigageingaaW.PrintWords Go.Proofs.YtjbafigageingaaW.PrintLast Go.Proofs.YtjbafigageingaaW.PrintMore
set_option linter.unusedVariables false
set_option linter.unusedSimpArgs false
theorem dec_ok : ∀ (k n : Nat), n < 10 ^ (k + 1) → k ≤ 18 → PS.assessorref08_decimal.f (k + 1) (n : Int) = some (digB n) := by
  intro k
  induction k with
  | zero =>
    intro n hn _
    have hn : n < 10 := by simpa using hn
    have hm : wrap64 (48 + Int.tmod (n : Int) 10) % 256 = ((48 + n % 10 : Nat) : Int) := by
      rw [Int.tmod_eq_emod_of_nonneg (by omega), wrap_small _ (by omega)]
      omega
    rw [PS.assessorref08_decimal.f, hm]
    simp only [Option.bind_some]
    rw [if_neg (by omega)]
    unfold digB
    rw [digL, dif_pos hn, Nat.mod_eq_of_lt hn]
    rfl
  | succ k ih =>
    intro n hn hk
    have h10 : 10 ^ (k + 1) ≤ 10 ^ 18 := Nat.pow_le_pow_right (by omega) (by omega)
    have hd : n / 10 < 10 ^ (k + 1) := by
      rw [Nat.pow_succ] at hn
      omega
    have hm : wrap64 (48 + Int.tmod (n : Int) 10) % 256 = ((48 + n % 10 : Nat) : Int) := by
      rw [Int.tmod_eq_emod_of_nonneg (by omega), wrap_small _ (by omega)]
      omega
    have hw : wrap64 (Int.tdiv (n : Int) 10) = ((n / 10 : Nat) : Int) := by
      rw [Int.tdiv_eq_ediv_of_nonneg (by omega), wrap_small _ (by omega)]
      omega
    rw [PS.assessorref08_decimal.f, hm, hw]
    simp only [Option.bind_some]
    by_cases h : n < 10
    · rw [if_neg (by omega)]
      unfold digB
      rw [digL, dif_pos h, Nat.mod_eq_of_lt h]
      rfl
    · rw [if_pos (by omega), ih (n / 10) hd (by omega)]
      simp only [Option.bind_some]
      have hl := digL_len k (n / 10) hd
      have hs : (digB (n / 10)).size ≤ k + 1 := hl
      have h1 : (strOfNums [((48 + n % 10 : Nat) : Int)]).size = 1 := rfl
      rw [if_pos (by rw [h1]; omega)]
      unfold digB
      rw [digL.eq_def n, dif_neg h]
      congr 1
theorem dec_all {n : Nat} (hn : n ≤ 9223372036854775807) {k : Nat} (hk : 20 ≤ k) : PS.assessorref08_decimal.f k (n : Int) = some (digB n) := by
  obtain ⟨d, rfl⟩ : ∃ d, k = 19 + d := ⟨k - 19, by omega⟩
  clear hk
  induction d with
  | zero => exact dec_ok 18 n (by have : (10 : Nat) ^ (18 + 1) = 10000000000000000000 := by decide
                                  omega) (by omega)
  | succ d ih => exact PS.assessorref08_decimal.mono (n : Int) (19 + d) _ ih
theorem fmt_ok {t : S23} (ht : t.f1 ≤ 9223372036854775807) {k : Nat} (hk : 20 ≤ k) : ∃ r, PS.types_Format.f t.f0 t.f1 t.f2 = some r ∧ PS.assessorref08_Format.f k t.f0 t.f1 t.f2 = some r := by
  unfold PS.types_Format.f PS.assessorref08_Format.f
  by_cases h1 : t.f0 = 1
  · rw [if_pos h1, if_pos h1]; exact ⟨_, rfl, rfl⟩
  rw [if_neg h1, if_neg h1]
  by_cases h2 : t.f0 = 2
  · rw [if_pos h2, if_pos h2]; exact ⟨_, rfl, rfl⟩
  rw [if_neg h2, if_neg h2]
  by_cases h3 : t.f0 = 3
  · rw [if_pos h3, if_pos h3]
    by_cases h0 : t.f1 < 0
    · rw [if_neg (by omega), if_pos h0]; exact ⟨_, rfl, rfl⟩
    · obtain ⟨n, hn⟩ := Int.eq_ofNat_of_zero_le (show 0 ≤ t.f1 by omega)
      have hn' : n ≤ 9223372036854775807 := by omega
      have hs : (digB n).size ≤ 19 := digL_len 18 n (by have : (10 : Nat) ^ (18 + 1) = 10000000000000000000 := by decide
                                                        omega)
      have hs2 : ((⟨#[105, 110, 116, 91]⟩ : ByteArray) ++ digB n).size = 4 + (digB n).size := by
        rw [ByteArray.size_append]; rfl
      rw [if_pos (by omega), if_neg h0, hn, dec_all hn' hk]
      unfold types_digits.f
      rw [if_pos (by omega), Int.toNat_natCast]
      simp only [Option.bind_some]
      rw [if_pos (by omega), if_pos (by rw [hs2]; omega)]
      exact ⟨_, rfl, rfl⟩
  rw [if_neg h3, if_neg h3]
  by_cases h4 : t.f0 = 4
  · rw [if_pos h4]; exact ⟨_, rfl, rfl⟩
  rw [if_neg h4]
  by_cases h5 : t.f0 = 5
  · rw [if_pos h5]; exact ⟨_, rfl, rfl⟩
  rw [if_neg h5]
  by_cases h6 : t.f0 = 6
  · rw [if_pos h6]; exact ⟨_, rfl, rfl⟩
  rw [if_neg h6]
  exact ⟨_, rfl, rfl⟩
theorem explain_l0 {L : List S36} {ch : List Int} (hL : ∀ y ∈ L, y.f3.f1 ≤ 9223372036854775807) (hc : ch.length ≤ 1000000) : ∀ (c i k k2 : Nat) (out : List S65), i + c = ch.length → out.length ≤ i → 2 * c + 30 ≤ k → 2 * c + 30 ≤ k2 →
    ∃ r, PS.constraints_Explain.l0 k L out ch (ch.length : Int) i = some r ∧ PS.assessorref09_Explain.l0 k2 L ch out i = some r ∧ r.length ≤ ch.length
  | 0, i, k, k2, out, hi, ho, hk, hk2 => by
    obtain ⟨k, rfl⟩ : ∃ m, k = m + 1 := ⟨k - 1, by omega⟩
    obtain ⟨k2, rfl⟩ : ∃ m, k2 = m + 1 := ⟨k2 - 1, by omega⟩
    rw [PS.constraints_Explain.l0, PS.assessorref09_Explain.l0, if_neg (by omega), if_neg (by omega)]
    exact ⟨out, rfl, rfl, by omega⟩
  | c + 1, i, k, k2, out, hi, ho, hk, hk2 => by
    obtain ⟨k, rfl⟩ : ∃ m, k = m + 2 := ⟨k - 2, by omega⟩
    obtain ⟨k2, rfl⟩ : ∃ m, k2 = m + 2 := ⟨k2 - 2, by omega⟩
    have hwr : wrap64 ((i : Int) + 1) = ((i + 1 : Nat) : Int) := by rw [wrap_small _ (by omega)]; omega
    have e1 : PS.constraints_Explain.l0 (k + 1 + 1) L out ch (ch.length : Int) i = PS.constraints_Explain.j1 (k + 1) L out (rd ch i) ch (ch.length : Int) i (decide (rd ch i < 0 ∨ rd ch i ≥ (L.length : Int))) := by
      rw [PS.constraints_Explain.l0, if_pos (by omega), if_pos (by omega), if_pos (by omega)]
      by_cases h : rd ch i < 0
      · rw [if_pos h]; simp [h]
      · rw [if_neg h]; simp [h]
    have e2 : PS.assessorref09_Explain.l0 (k2 + 1 + 1) L ch out i = PS.assessorref09_Explain.j1 (k2 + 1) L ch out i (decide (rd ch i < 0 ∨ rd ch i ≥ (L.length : Int))) := by
      rw [PS.assessorref09_Explain.l0, if_pos (by omega), if_pos (by omega)]
      by_cases h : rd ch i < 0
      · rw [if_pos h]; simp [h]
      · rw [if_neg h]; simp [h]
    rw [e1, e2]
    by_cases hb : rd ch i < 0 ∨ rd ch i ≥ (L.length : Int)
    · rw [decide_eq_true hb, PS.constraints_Explain.j1, PS.assessorref09_Explain.j1, if_pos rfl, if_pos rfl]
      exact ⟨[], rfl, rfl, by simp⟩
    · have hin : 0 ≤ rd ch i ∧ rd ch i < (L.length : Int) := by omega
      have hi0 : 0 ≤ (i : Int) := by omega
      have hi1 : (i : Int) < (ch.length : Int) := by omega
      rw [decide_eq_false hb]
      simp only [PS.constraints_Explain.j1, PS.assessorref09_Explain.j1, hin.1, hin.2, hi0, hi1, if_true, Bool.false_eq_true, if_false, hwr]
      by_cases h0 : (rd_T36 L (rd ch i)).f0 = 0
      · rw [if_pos h0, if_pos h0]
        obtain ⟨r, f1, f2⟩ := fmt_ok (t := (rd_T36 L (rd ch i)).f3) (hL _ (at_mem hin)) (k := k2) (by omega)
        rw [f1, f2]
        simp only [Option.bind_some]
        rw [if_pos (by omega), if_pos (by omega)]
        exact explain_l0 hL hc c (i + 1) k k2 _ (by omega) (by simp; omega) (by omega) (by omega)
      · rw [if_neg h0, if_neg h0, if_pos (by omega), if_pos (by omega)]
        exact explain_l0 hL hc c (i + 1) k k2 _ (by omega) (by simp; omega) (by omega) (by omega)
theorem steps_l0 {a : List S65} (ha : a.length ≤ 1000000) : ∀ (c i k : Nat), i + c = a.length → c < k → PR.assessorref09_Steps.l0 k a a i = some true
  | 0, i, k, hi, hk => by
    obtain ⟨k, rfl⟩ : ∃ m, k = m + 1 := ⟨k - 1, by omega⟩
    rw [PR.assessorref09_Steps.l0, if_neg (by omega)]
  | c + 1, i, k, hi, hk => by
    obtain ⟨k, rfl⟩ : ∃ m, k = m + 1 := ⟨k - 1, by omega⟩
    have hwr : wrap64 ((i : Int) + 1) = ((i + 1 : Nat) : Int) := by rw [wrap_small _ (by omega)]; omega
    rw [PR.assessorref09_Steps.l0, if_pos (by omega), if_pos (by omega), if_pos (by omega), hwr, if_neg (by simp)]
    exact steps_l0 ha c (i + 1) k (by omega) (by omega)
theorem steps_true {a : List S65} (ha : a.length ≤ 1000000) {k : Nat} (hk : a.length < k) : PR.assessorref09_Steps.f k a a = some true := by
  unfold PR.assessorref09_Steps.f
  rw [if_pos rfl]
  exact steps_l0 ha a.length 0 k (by omega) hk
theorem ints_l0 {a : List Int} (ha : a.length ≤ 1000000) : ∀ (c i k : Nat), i + c = a.length → c < k → PR.assessorref01_Ints.l0 k a a i = some true
  | 0, i, k, hi, hk => by
    obtain ⟨k, rfl⟩ : ∃ m, k = m + 1 := ⟨k - 1, by omega⟩
    rw [PR.assessorref01_Ints.l0, if_neg (by omega)]
  | c + 1, i, k, hi, hk => by
    obtain ⟨k, rfl⟩ : ∃ m, k = m + 1 := ⟨k - 1, by omega⟩
    have hwr : wrap64 ((i : Int) + 1) = ((i + 1 : Nat) : Int) := by rw [wrap_small _ (by omega)]; omega
    rw [PR.assessorref01_Ints.l0, if_pos (by omega), if_pos (by omega), if_pos (by omega), hwr, if_pos rfl]
    exact ints_l0 ha c (i + 1) k (by omega) (by omega)
theorem ints_true {a : List Int} (ha : a.length ≤ 1000000) {k : Nat} (hk : a.length < k) : PR.assessorref01_Ints.f k a a = some true := by
  unfold PR.assessorref01_Ints.f
  rw [if_pos rfl]
  exact ints_l0 ha a.length 0 k (by omega) hk
theorem lists_l0 {a : List (List Int)} (ha : a.length ≤ 1000000) (hb : ∀ x ∈ a, x.length ≤ 1000) : ∀ (c i k : Nat), i + c = a.length → c + 1010 < k → PR.assessorref09_Lists.l0 k a a i = some true
  | 0, i, k, hi, hk => by
    obtain ⟨k, rfl⟩ : ∃ m, k = m + 1 := ⟨k - 1, by omega⟩
    rw [PR.assessorref09_Lists.l0, if_neg (by omega)]
  | c + 1, i, k, hi, hk => by
    obtain ⟨k, rfl⟩ : ∃ m, k = m + 1 := ⟨k - 1, by omega⟩
    have hwr : wrap64 ((i : Int) + 1) = ((i + 1 : Nat) : Int) := by rw [wrap_small _ (by omega)]; omega
    have hx : (PR.rd_L5 a i).length ≤ 1000 := by
      unfold PR.rd_L5
      rw [Int.toNat_natCast, List.getD_eq_getElem?_getD, List.getElem?_eq_getElem (by omega)]
      exact hb _ (List.getElem_mem _)
    rw [PR.assessorref09_Lists.l0, if_pos (by omega), if_pos (by omega), if_pos (by omega), hwr, ints_true (by omega) (by omega)]
    simp only [Option.bind_some]
    rw [if_pos trivial]
    exact lists_l0 ha hb c (i + 1) k (by omega) (by omega)
theorem lists_true {a : List (List Int)} (ha : a.length ≤ 1000000) (hb : ∀ x ∈ a, x.length ≤ 1000) {k : Nat} (hk : a.length + 1010 < k) : PR.assessorref09_Lists.f k a a = some true := by
  unfold PR.assessorref09_Lists.f
  rw [if_pos rfl]
  exact lists_l0 ha hb a.length 0 k (by omega) hk
/-- the answer of the reference's check -/
theorem valid_range {a0 : Int} {l : List S36} (h : ¬ (0 ≤ a0 ∧ a0 ≤ 4096)) {k : Nat} (hk : 0 < k) : PF.assessorref09_valid.f k a0 l = some 2 := by
  obtain ⟨k, rfl⟩ : ∃ m, k = m + 1 := ⟨k - 1, by omega⟩
  unfold PF.assessorref09_valid.f
  by_cases h0 : a0 < 0
  · rw [if_pos h0]; simp [PF.assessorref09_valid.j0]
  · have h1 : a0 > 4096 := by omega
    rw [if_neg h0]; simp [PF.assessorref09_valid.j0, h1]
theorem valid_out {N : Nat} {l : List S36} (hN : N ≤ 4096) (hl : l.length ≤ 1000000) (hV : ¬ Valid N l) {k : Nat} (hk : 2 * l.length + 4 ≤ k) : PF.assessorref09_valid.f k N l = some 1 := by
  obtain ⟨k, rfl⟩ : ∃ m, k = m + 1 := ⟨k - 1, by omega⟩
  unfold PF.assessorref09_valid.f
  rw [if_neg (by omega), decide_eq_false (by omega)]
  simp only [PF.assessorref09_valid.j0]
  have hx : ∃ j : Nat, 0 ≤ j ∧ j < l.length ∧ ¬ ValidC N (rd_T36 l j) := by
    by_cases hx : ∃ j : Nat, 0 ≤ j ∧ j < l.length ∧ ¬ ValidC N (rd_T36 l j)
    · exact hx
    · refine absurd (fun c hc => ?_) hV
      obtain ⟨i, hi, _, he⟩ := mem_at hc
      by_cases hv : ValidC N c
      · exact hv
      · exact absurd ⟨i, Nat.zero_le _, hi, by rw [show rd_T36 l i = c from he]; exact hv⟩ hx
  have := valid_no hl l.length 0 k (by omega) (by omega) hx
  rw [show ((0 : Nat) : Int) = 0 from rfl] at this
  rw [this]
  simp
theorem ref_bad {a0 : Int} {l : List S36} {k : Nat} {e : Int} (h : PF.assessorref09_valid.f k a0 l = some e) (he : e ≠ 0) : PS.assessorref09_Solve.f k a0 l = some ([], [], e) := by
  unfold PS.assessorref09_Solve.f
  rw [h]
  simp only [Option.bind_some]
  rw [if_neg he]
/-- two answers that are both told by Solved2 -/
theorem solved_eq {N : Nat} {L : List S36} {o1 o2 : List S23} {c1 c2 : List (List Int)} (h1 : Solved2 N L o1 c1) (h2 : Solved2 N L o2 c2) : c1 = c2 := by
  apply List.ext_getElem?
  intro j
  rcases Nat.lt_or_ge j (reps L N).length with hj | hj
  · have g1 := List.getElem?_eq_getElem (l := c1) (i := j) (by rw [h1.cl]; exact hj)
    have g2 := List.getElem?_eq_getElem (l := c2) (i := j) (by rw [h2.cl]; exact hj)
    have gr := List.getElem?_eq_getElem hj
    obtain ⟨a, z, p, e, hI, hc, _, hm⟩ := h1.ck j _ _ gr g1
    obtain ⟨a', z', p', e', hI', hc', _, hm'⟩ := h2.ck j _ _ gr g2
    rw [g1, g2]
    congr 1
    refine SLe_anti ?_ ?_
    · have := hm a' z' p' hI' hc'
      rw [← e'] at this
      exact this
    · have := hm' a z p hI hc
      rw [← e] at this
      exact this
  · rw [List.getElem?_eq_none (by rw [h1.cl]; exact hj), List.getElem?_eq_none (by rw [h2.cl]; exact hj)]
theorem solved_len {N : Nat} {L : List S36} (hV : Valid N L) (hN : N ≤ 60) {o : List S23} {c : List (List Int)} (h : Solved2 N L o c) : ∀ x ∈ c, x.length ≤ 1000 := by
  intro x hx
  obtain ⟨j, hj, rfl⟩ := List.getElem_of_mem hx
  obtain ⟨a, z, p, e, hI, hc, hm, _⟩ := h.ck j _ _ (List.getElem?_eq_getElem (by rw [← h.cl]; exact hj)) (List.getElem?_eq_getElem hj)
  obtain ⟨i, hi⟩ := Int.eq_ofNat_of_zero_le hI.ra.1
  subst hi
  obtain ⟨j', hl', hj', hk', hx', hw'⟩ := hI.opp
  have hin := (hV _ (at_memN (show i < L.length by have := hI.ra.2; omega))).1
  obtain ⟨m, m1, m2⟩ := wk_short hV (by omega) hin hw'
  have := hm m ⟨i, by have := hI.ra.2; omega, hI.ka, hc, j', hl', hj', hk', hx', m2⟩
  rw [e]
  simp
  omega
theorem solves_pure (a0 : Int) (l : List S36) (chain : List Int) (hL : ∀ y ∈ l, y.f3.f1 ≤ 9223372036854775807) : PS.assessorlaw09_ConstraintsSolves.f 3000100 a0 l chain = some true := by
  obtain ⟨k, hk⟩ : ∃ k, k = 3000099 := ⟨_, rfl⟩
  have e : PS.assessorlaw09_ConstraintsSolves.f 3000100 a0 l chain = PS.assessorlaw09_ConstraintsSolves.f (k + 1) a0 l chain := by rw [hk]
  rw [e]
  unfold PS.assessorlaw09_ConstraintsSolves.f
  rw [few_eq]
  simp only [Option.bind_some]
  have hj : ∀ b, PS.assessorlaw09_ConstraintsSolves.j0 (k + 1) a0 l chain b = _ := fun b => PS.assessorlaw09_ConstraintsSolves.j0.eq_def _ _ _ _ _
  simp only at hj
  by_cases hf : l.length ≤ 80 ∧ (a0 ≤ 60 ∨ a0 > 4096)
  case neg =>
    rw [decide_eq_false hf, if_neg (by decide), hj, if_pos rfl]
    rfl
  rw [decide_eq_true hf, if_pos rfl, hj]
  by_cases hc : (chain.length : Int) > 40
  · rw [decide_eq_true hc, if_pos rfl]
    rfl
  rw [decide_eq_false hc, if_neg (by decide)]
  obtain ⟨hl, hfa⟩ := hf
  obtain ⟨st, s1, s2, s3⟩ := explain_l0 hL (ch := chain) (by omega) chain.length 0 k k [] (by omega) (by simp) (by omega) (by omega)
  rw [show ((0 : Nat) : Int) = 0 from rfl] at s1 s2
  have s1' : PS.constraints_Explain.f k l chain = some st := s1
  have s2' : PS.assessorref09_Explain.f k l chain = some st := s2
  -- what follows the two answers
  have tail : ∀ (o1 o2 : List S23) (c : List (List Int)) (e : Int), constraints_Solve.f a0 l = some (o1, c, e) → PS.assessorref09_Solve.f k a0 l = some (o2, c, e) → PR.assessorref08_Equal.f k o1 o2 = some true → PR.assessorref09_Lists.f k c c = some true →
      ((constraints_Solve.f a0 l).bind fun bt273 => ((PS.assessorref09_Solve.f k a0 l).bind fun bt280 => ((PR.assessorref08_Equal.f k bt273.1 bt280.1).bind fun t287 => (if t287 = true then ((PR.assessorref09_Lists.f k bt273.2.1 bt280.2.1).bind fun t288 => (if t288 = true then (if bt273.2.2 = bt280.2.2 then ((PS.constraints_Explain.f k l chain).bind fun t289 => ((PS.assessorref09_Explain.f k l chain).bind fun t292 => ((PR.assessorref09_Steps.f k t289 t292).bind fun t295 => (if t295 = true then ((assessorlaw09_awake.f).bind fun t296 => (some t296)) else (some false))))) else (some false)) else (some false))) else (some false))))) = some true := by
    intro o1 o2 c e h1 h2 h3 h4
    rw [h1, h2]
    simp only [Option.bind_some]
    rw [h3]
    simp only [Option.bind_some]
    rw [if_pos trivial, h4]
    simp only [Option.bind_some]
    rw [if_pos trivial, if_pos trivial, s1', s2']
    simp only [Option.bind_some]
    rw [steps_true (by omega) (by omega)]
    rfl
  have eqn : PR.assessorref08_Equal.f k [] [] = some true := equal_true rfl (by simp) (fun u hu => absurd hu (Nat.not_lt_zero _)) (by simp; omega)
  have lsn : PR.assessorref09_Lists.f k [] [] = some true := lists_true (by simp) (fun x hx => by cases hx) (by simp; omega)
  by_cases h0 : a0 < 0 ∨ 4096 < a0
  · exact tail [] [] [] 2 (by rw [solve_of hl]; exact solve_range h0 _) (ref_bad (valid_range (by omega) (by omega)) (by decide)) eqn lsn
  · obtain ⟨N, rfl⟩ := Int.eq_ofNat_of_zero_le (show 0 ≤ a0 by omega)
    by_cases hV : Valid N l
    · obtain ⟨o1, c1, g1, g2⟩ := solve_valid2 hV (by omega) hl
      obtain ⟨o2, c2, g3, g4⟩ := ref_solve hV (by omega) hl (k := k) (by omega)
      obtain rfl := solved_eq g2 g4
      have hcl : c1.length ≤ 60 := by rw [g2.cl]; have := reps_len l N; omega
      have hol := g2.ol
      refine tail o1 o2 c1 0 (by rw [solve_of hl]; exact g1) g3 (equal_true (by rw [g2.ol, g4.ol]) (by omega) (fun u hu => out_same hV (fun c => Iff.rfl) (g2.ok u (by omega)) (g4.ok u (by omega))) (by omega)) (lists_true (by omega) (solved_len hV (by omega) g2) (by omega))
    · exact tail [] [] [] 1 (by rw [solve_of hl]; exact solve_invalid hV (by omega) _) (ref_bad (valid_out (by omega) (by omega) hV (by omega)) (by decide)) eqn lsn
end Go.Proofs.Ytjbafigageingaa
