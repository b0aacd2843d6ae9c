import Derived.Test.YtjbafigageingaaKgTh5
import Derived.Test.YtjbafigageingaaKgPRx6
namespace Go.Proofs.Ytjbafigageingaa
open Go.RowKit Go.Proofs.YtjbafigageingaaW.PrintWords Go.Proofs.YtjbafigageingaaW.PrintLast Go.Proofs.YtjbafigageingaaW.PrintMore
set_option linter.unusedVariables false
set_option linter.unusedSimpArgs false
structure DI (N : Nat) (L : List S36) (f d : Int) (out : List Int) : Prop where
  len : out.length = N
  rg : ∀ v, InN N v → rd out v ≤ d
  sd : ∀ v, InN N v → 0 ≤ rd out v → Conn L f v
  fr : 0 ≤ rd out f
  cl : ∀ u v, InN N u → AdjL L u v → 0 ≤ rd out u → rd out u < d → 0 ≤ rd out v
structure PI (N : Nat) (L : List S36) (f d : Int) (m : Nat) (i : Nat) (out : List Int) (ch : Bool) : Prop where
  len : out.length = N
  rg : ∀ v, InN N v → rd out v ≤ d + 1
  sd : ∀ v, InN N v → 0 ≤ rd out v → Conn L f v
  fr : 0 ≤ rd out f
  cl : ∀ u v, InN N u → AdjL L u v → 0 ≤ rd out u → rd out u < d → 0 ≤ rd out v
  pr : ∀ j : Nat, j < i → (cAt L j).f0 = 1 → (rd out (cAt L j).f1 = d → 0 ≤ rd out (cAt L j).f2) ∧ (rd out (cAt L j).f2 = d → 0 ≤ rd out (cAt L j).f1)
  nc : ch = false → ∀ v, InN N v → rd out v ≤ d
  ng : neg out ≤ m
  nd : ch = true → neg out < m
theorem PI.put {N : Nat} {L : List S36} {f d : Int} {m i : Nat} {out : List Int} {ch : Bool} (h : PI N L f d m i out ch) (hV : Valid N L) (hd : 0 ≤ d) (hf : InN N f) {a b : Int} (ha : InN N a) (hb : InN N b) (hab : AdjL L a b) (h1 : rd out a = d) (h2 : rd out b < 0) : PI N L f d m i (out.set b.toNat (d + 1)) true := by
  have hbo : 0 ≤ b ∧ b < (out.length : Int) := by rw [h.len]; exact hb
  have hs : ∀ v, 0 ≤ v → rd (out.set b.toNat (d + 1)) v = if v = b then d + 1 else rd out v := fun v hv => rd_set out b v (d + 1) hbo hv
  have hn := neg_set out b (d + 1) hbo (by omega) h2
  have up : ∀ v, InN N v → 0 ≤ rd out v → 0 ≤ rd (out.set b.toNat (d + 1)) v := fun v hv h0 => by
    rw [hs v hv.1]; split <;> omega
  have hj : ∀ j : Nat, j < L.length → (cAt L j).f0 = 1 → InN N (cAt L j).f1 ∧ InN N (cAt L j).f2 := fun j hj h0 => by
    have := hV _ (at_memN hj)
    rcases this.2 with h | h
    · omega
    · exact ⟨this.1, h.2⟩
  refine ⟨by rw [List.length_set]; exact h.len, fun v hv => ?_, fun v hv h0 => ?_, up f hf h.fr, fun u v hu huv h0 h3 => ?_, fun j hji h0 => ?_, (fun hc => by cases hc), (by have := h.ng; omega), fun _ => ?_⟩
  · rw [hs v hv.1]
    split
    · omega
    · exact h.rg v hv
  · rw [hs v hv.1] at h0
    split at h0
    · rename_i he
      subst he
      exact (h.sd a ha (by omega)).trans ⟨1, WkL.cons hab (.nil _)⟩
    · exact h.sd v hv h0
  · rw [hs u hu.1] at h0 h3
    split at h0
    · rename_i he
      rw [if_pos he] at h3
      omega
    · rename_i he
      rw [if_neg he] at h3
      exact up v (adjL_in hV huv).2 (h.cl u v hu huv h0 h3)
  · by_cases hjl : j < L.length
    · obtain ⟨g1, g2⟩ := hj j hjl h0
      obtain ⟨p1, p2⟩ := h.pr j hji h0
      constructor
      · intro he
        rw [hs _ g1.1] at he
        split at he
        · omega
        · exact up _ g2 (p1 he)
      · intro he
        rw [hs _ g2.1] at he
        split at he
        · omega
        · exact up _ g1 (p2 he)
    · have : cAt L (j : Int) = z36 := by
        unfold cAt rd_T36
        rw [Int.toNat_natCast, List.getD_eq_getElem?_getD, List.getElem?_eq_none (by omega)]
        rfl
      rw [this] at h0
      exact absurd h0 (by decide)
  · have := h.ng
    omega
theorem PI.next {N : Nat} {L : List S36} {f d : Int} {m i : Nat} {out : List Int} {ch : Bool} (h : PI N L f d m i out ch) (hp : (cAt L i).f0 = 1 → (rd out (cAt L i).f1 = d → 0 ≤ rd out (cAt L i).f2) ∧ (rd out (cAt L i).f2 = d → 0 ≤ rd out (cAt L i).f1)) : PI N L f d m (i + 1) out ch :=
  ⟨h.len, h.rg, h.sd, h.fr, h.cl, fun j hj h0 => by
    rcases Nat.lt_or_ge j i with h1 | h1
    · exact h.pr j h1 h0
    · have : j = i := by omega
      subst this
      exact hp h0, h.nc, h.ng, h.nd⟩
theorem dist_step {N : Nat} {L : List S36} {f d : Int} {m i : Nat} {out : List Int} {ch : Bool} (h : PI N L f d m i out ch) (hV : Valid N L) (hd : 0 ≤ d ∧ d ≤ 1000000) (hf : InN N f) (hi : i < L.length) (hl : L.length ≤ 1000000) (k : Nat) :
    ∃ out' ch' k', k ≤ k' ∧ PR.assessorref09_distances.l2 (k + 2) L out ch d i = PR.assessorref09_distances.l2 k' L out' ch' d ((i + 1 : Nat) : Int) ∧ PI N L f d m (i + 1) out' ch' := by
  have hw : wrap64 ((i : Int) + 1) = ((i + 1 : Nat) : Int) := by rw [wrap_small _ (by omega)]; omega
  have hwd : wrap64 (d + 1) = d + 1 := wrap_small _ (by omega)
  have hlen := h.len
  have e2 : ∀ k, PR.assessorref09_distances.l2 (k + 1) L out ch d i = _ := fun k => by rw [PR.assessorref09_distances.l2]
  by_cases h0 : (rd_T36 L i).f0 = 1
  · obtain ⟨hA, hB0⟩ := hV _ (at_memN hi)
    have hB : InN N (cAt L i).f2 := by
      rcases hB0 with h | h
      · have : (cAt L i).f0 = 1 := h0
        omega
      · exact h.2
    have hab : AdjL L (cAt L i).f1 (cAt L i).f2 := ⟨_, at_memN hi, h0, .inl ⟨rfl, rfl⟩⟩
    obtain ⟨A, hAe⟩ : ∃ A, A = (rd_T36 L i).f1 := ⟨_, rfl⟩
    obtain ⟨B, hBe⟩ : ∃ B, B = (rd_T36 L i).f2 := ⟨_, rfl⟩
    have qA : InN N A := by rw [hAe]; exact hA
    have qB : InN N B := by rw [hBe]; exact hB
    have qab : AdjL L A B := by rw [hAe, hBe]; exact hab
    have oA : A < (out.length : Int) := by rw [hlen]; exact qA.2
    have oB : B < (out.length : Int) := by rw [hlen]; exact qB.2
    have fin : ∀ {out' : List Int} {ch' : Bool}, PI N L f d m i out' ch' → ((rd out' A = d → 0 ≤ rd out' B) ∧ (rd out' B = d → 0 ≤ rd out' A)) → PI N L f d m (i + 1) out' ch' := fun hh hp => hh.next (fun _ => by
      show (rd _ (rd_T36 L i).f1 = d → 0 ≤ rd _ (rd_T36 L i).f2) ∧ (rd _ (rd_T36 L i).f2 = d → 0 ≤ rd _ (rd_T36 L i).f1)
      rw [← hAe, ← hBe]; exact hp)
    rw [e2 (k + 1)]
    rw [if_pos (by omega), if_pos (by omega), if_pos h0, ← hAe, ← hBe, if_pos qA.1, if_pos oA]
    have j3 : ∀ b : Bool, (b = true → rd out A = d ∧ rd out B < 0) → (b = false → rd out A = d → 0 ≤ rd out B) →
        ∃ out' ch', PR.assessorref09_distances.j3 (k + 1) L out ch d i b = PR.assessorref09_distances.l2 k L out' ch' d ((i + 1 : Nat) : Int) ∧ PI N L f d m (i + 1) out' ch' := by
      intro b hb1 hb2
      simp only [PR.assessorref09_distances.j3]
      rw [← hAe, ← hBe, hw, hwd]
      cases b with
      | true =>
        obtain ⟨g1, g2⟩ := hb1 rfl
        have hp := h.put hV hd.1 hf qA qB qab g1 g2
        have hs : ∀ v, 0 ≤ v → rd (out.set B.toNat (d + 1)) v = if v = B then d + 1 else rd out v := fun v hv => rd_set out B v (d + 1) ⟨qB.1, oB⟩ hv
        rw [if_pos rfl, if_pos (by omega), if_pos (by omega), if_pos qB.1, if_pos oB]
        simp only [Option.bind_some]
        rw [if_neg (by rw [hs B qB.1, if_pos rfl]; omega)]
        refine ⟨_, _, rfl, fin hp ⟨fun _ => ?_, fun he => ?_⟩⟩
        · rw [hs B qB.1, if_pos rfl]; omega
        · rw [hs B qB.1, if_pos rfl] at he; omega
      | false =>
        rw [if_neg (by decide), if_pos (by omega), if_pos (by omega), if_pos qB.1, if_pos oB]
        by_cases hbd : rd out B = d
        · rw [if_pos hbd, if_pos qA.1, if_pos oA]
          by_cases han : rd out A < 0
          · rw [if_pos han]
            have hp := h.put hV hd.1 hf qB qA qab.symm hbd han
            have hs : ∀ v, 0 ≤ v → rd (out.set A.toNat (d + 1)) v = if v = A then d + 1 else rd out v := fun v hv => rd_set out A v (d + 1) ⟨qA.1, oA⟩ hv
            refine ⟨_, _, rfl, fin hp ⟨fun he => ?_, fun _ => ?_⟩⟩
            · rw [hs A qA.1, if_pos rfl] at he; omega
            · rw [hs A qA.1, if_pos rfl]; omega
          · rw [if_neg han]
            exact ⟨_, _, rfl, fin h ⟨fun he => hb2 rfl he, fun _ => by omega⟩⟩
        · rw [if_neg hbd]
          exact ⟨_, _, rfl, fin h ⟨fun he => hb2 rfl he, fun he => absurd he hbd⟩⟩
    by_cases had : rd out A = d
    · rw [if_pos had, if_pos qB.1, if_pos oB]
      obtain ⟨o, c, g1, g2⟩ := j3 (decide (rd out B < 0)) (fun hb => ⟨had, of_decide_eq_true hb⟩) (fun hb _ => by have := of_decide_eq_false hb; omega)
      exact ⟨o, c, k, Nat.le_refl _, g1, g2⟩
    · rw [if_neg had]
      obtain ⟨o, c, g1, g2⟩ := j3 false (fun hb => by cases hb) (fun _ he => absurd he had)
      exact ⟨o, c, k, Nat.le_refl _, g1, g2⟩
  · rw [e2 (k + 1), if_pos (by omega), if_pos (by omega), if_neg h0, hw]
    exact ⟨out, ch, k + 1, by omega, rfl, h.next (fun h1 => absurd h1 h0)⟩
theorem dist_pass {N : Nat} {L : List S36} {f d : Int} {m : Nat} (hV : Valid N L) (hd : 0 ≤ d ∧ d ≤ 1000000) (hf : InN N f) (hl : L.length ≤ 1000000) : ∀ (c i k : Nat) (out : List Int) (ch : Bool), i + c = L.length → PI N L f d m i out ch → 2 * c + 1 ≤ k →
    ∃ out' ch' k', k ≤ k' + 2 * c + 1 ∧ PR.assessorref09_distances.l2 k L out ch d i = PR.assessorref09_distances.l1 k' L out' ch' (d + 1) ∧ PI N L f d m L.length out' ch'
  | 0, i, k, out, ch, hc, h, hk => by
    obtain ⟨k, rfl⟩ : ∃ m, k = m + 1 := ⟨k - 1, by omega⟩
    have : i = L.length := by omega
    subst this
    refine ⟨out, ch, k, by omega, ?_, h⟩
    rw [PR.assessorref09_distances.l2, if_neg (by omega), wrap_small _ (by omega)]
  | c + 1, i, k, out, ch, hc, h, hk => by
    obtain ⟨k, rfl⟩ : ∃ m, k = m + 2 := ⟨k - 2, by omega⟩
    obtain ⟨o, b, k', g1, g2, g3⟩ := dist_step h hV hd hf (by omega) hl k
    obtain ⟨o2, b2, k2, q1, q2, q3⟩ := dist_pass hV hd hf hl c (i + 1) k' o b (by omega) g3 (by omega)
    exact ⟨o2, b2, k2, by omega, g2.trans q2, q3⟩
theorem PI.of {N : Nat} {L : List S36} {f d : Int} {out : List Int} (h : DI N L f d out) (hd : 0 ≤ d) : PI N L f d (neg out) 0 out false :=
  ⟨h.len, fun v hv => by have := h.rg v hv; omega, h.sd, h.fr, h.cl, fun j hj => absurd hj (Nat.not_lt_zero _), fun _ => h.rg, Nat.le_refl _, fun hc => by cases hc⟩
theorem PI.done {N : Nat} {L : List S36} {f d : Int} {m : Nat} {out : List Int} {ch : Bool} (h : PI N L f d m L.length out ch) (hV : Valid N L) : DI N L f (d + 1) out :=
  ⟨h.len, h.rg, h.sd, h.fr, fun u v hu huv h0 h1 => by
    rcases Int.lt_or_le (rd out u) d with h2 | h2
    · exact h.cl u v hu huv h0 h2
    · have he : rd out u = d := by omega
      obtain ⟨c, hc, hk, hh⟩ := huv
      obtain ⟨j, hj, _, rfl⟩ := mem_at hc
      obtain ⟨p1, p2⟩ := h.pr j hj hk
      rcases hh with ⟨rfl, rfl⟩ | ⟨rfl, rfl⟩
      · exact p1 he
      · exact p2 he⟩
theorem reach_all {N : Nat} {L : List S36} {o : List Int} (hV : Valid N L) (hcl : ∀ u v, InN N u → AdjL L u v → 0 ≤ rd o u → 0 ≤ rd o v) {n : Nat} {u v : Int} (hw : WkL L n u v) : InN N u → 0 ≤ rd o u → 0 ≤ rd o v := by
  induction hw with
  | nil u => intro _ h; exact h
  | snoc hw ha ih => intro h1 h2; exact hcl _ _ (wkL_in hV h1 hw) ha (ih h1 h2)
theorem dist_all {N : Nat} {L : List S36} {f : Int} (hV : Valid N L) (hN : N ≤ 100000) (hf : InN N f) (hl : L.length ≤ 1000000) : ∀ (m k : Nat) (d : Int) (out : List Int), 0 ≤ d → DI N L f d out → neg out ≤ m → d + neg out ≤ N → (m + 1) * (2 * L.length + 2) + 1 ≤ k →
    ∃ r, PR.assessorref09_distances.l1 k L out true d = some r ∧ r.length = N ∧ (∀ v, InN N v → (0 ≤ rd r v ↔ Conn L f v)) := by
  intro m
  induction m with
  | zero =>
    intro k d out hd h hm hdn hk
    obtain ⟨k, rfl⟩ : ∃ m, k = m + 1 := ⟨k - 1, by omega⟩
    rw [PR.assessorref09_distances.l1, if_pos rfl]
    obtain ⟨o, b, k', g1, g2, g3⟩ := dist_pass (m := neg out) hV (by omega) hf hl L.length 0 k out false (by omega) (PI.of h hd) (by omega)
    rw [show ((0 : Nat) : Int) = 0 from rfl] at g2
    rw [g2]
    have hb : b = false := by
      cases b with
      | false => rfl
      | true => have := g3.nd rfl; omega
    subst hb
    obtain ⟨k', rfl⟩ : ∃ m, k' = m + 1 := ⟨k' - 1, by omega⟩
    rw [PR.assessorref09_distances.l1, if_neg (by decide)]
    refine ⟨o, rfl, g3.len, fun v hv => ⟨g3.sd v hv, fun hc => ?_⟩⟩
    obtain ⟨n, hw⟩ := hc
    have hD := g3.done hV
    exact reach_all hV (fun u v hu ha h0 => hD.cl u v hu ha h0 (by have := g3.nc rfl _ hu; omega)) hw hf g3.fr
  | succ m ih =>
    intro k d out hd h hm hdn hk
    obtain ⟨k, rfl⟩ : ∃ m, k = m + 1 := ⟨k - 1, by omega⟩
    have e : (m + 1 + 1) * (2 * L.length + 2) = (m + 1) * (2 * L.length + 2) + (2 * L.length + 2) := by rw [Nat.add_mul (m + 1) 1, Nat.one_mul]
    rw [PR.assessorref09_distances.l1, if_pos rfl]
    obtain ⟨o, b, k', g1, g2, g3⟩ := dist_pass (m := neg out) hV (by omega) hf hl L.length 0 k out false (by omega) (PI.of h hd) (by omega)
    rw [show ((0 : Nat) : Int) = 0 from rfl] at g2
    rw [g2]
    cases b with
    | true =>
      have := g3.nd rfl
      exact ih k' (d + 1) o (by omega) (g3.done hV) (by omega) (by omega) (by omega)
    | false =>
      obtain ⟨k', rfl⟩ : ∃ m, k' = m + 1 := ⟨k' - 1, by omega⟩
      rw [PR.assessorref09_distances.l1, if_neg (by decide)]
      refine ⟨o, rfl, g3.len, fun v hv => ⟨g3.sd v hv, fun hc => ?_⟩⟩
      obtain ⟨n, hw⟩ := hc
      have hD := g3.done hV
      exact reach_all hV (fun u v hu ha h0 => hD.cl u v hu ha h0 (by have := g3.nc rfl _ hu; omega)) hw hf g3.fr
theorem dist_l0 {N : Nat} {L : List S36} {f : Int} (hN : N ≤ 100000) (hf : InN N f) : ∀ (c i k : Nat) (out : List Int), i + c = N → out.length = N → (∀ v : Nat, v < i → rd out v = -1) → c + 2 ≤ k →
    ∃ out' k', k ≤ k' + c + 1 ∧ PR.assessorref09_distances.l0 k N L f out i = PR.assessorref09_distances.l1 k' L (out'.set f.toNat 0) true 0 ∧ out'.length = N ∧ ∀ v : Nat, v < N → rd out' v = -1
  | 0, i, k, out, hc, hl, ho, hk => by
    obtain ⟨k, rfl⟩ : ∃ m, k = m + 1 := ⟨k - 1, by omega⟩
    have : i = N := by omega
    subst this
    refine ⟨out, k, by omega, ?_, hl, ho⟩
    rw [PR.assessorref09_distances.l0, if_neg (by omega), if_pos hf.1, if_pos (by rw [hl]; exact hf.2)]
  | c + 1, i, k, out, hc, hl, ho, hk => by
    obtain ⟨k, rfl⟩ : ∃ m, k = m + 1 := ⟨k - 1, by omega⟩
    have hw : wrap64 ((i : Int) + 1) = ((i + 1 : Nat) : Int) := by rw [wrap_small _ (by omega)]; omega
    obtain ⟨o, k', g1, g2, g3, g4⟩ := dist_l0 hN hf (L := L) c (i + 1) k (out.set (i : Int).toNat (-1)) (by omega) (by rw [List.length_set]; exact hl) (fun v hv => by
      rw [rd_set out i v (-1) (by omega) (by omega)]
      split
      · rfl
      · exact ho v (by omega)) (by omega)
    refine ⟨o, k', by omega, ?_, g3, g4⟩
    rw [PR.assessorref09_distances.l0, if_pos (by omega), if_pos (by omega), if_pos (by omega), hw]
    exact g2
theorem distances_ok {N : Nat} {L : List S36} {f : Int} (hV : Valid N L) (hN : N ≤ 60) (hf : InN N f) (hl : L.length ≤ 80) {k : Nat} (hk : 20000 ≤ k) :
    ∃ r, PR.assessorref09_distances.f k N L f = some r ∧ r.length = N ∧ (∀ v, InN N v → (0 ≤ rd r v ↔ Conn L f v)) := by
  unfold PR.assessorref09_distances.f
  rw [if_pos (by omega), if_pos (by omega), Int.toNat_natCast]
  obtain ⟨o, k', g1, g2, g3, g4⟩ := dist_l0 (L := L) (by omega) hf N 0 k (List.replicate N 0) (by omega) (by simp) (fun v hv => absurd hv (Nat.not_lt_zero _)) (by omega)
  rw [show ((0 : Nat) : Int) = 0 from rfl] at g2
  rw [g2]
  have hfo : 0 ≤ f ∧ f < (o.length : Int) := by rw [g3]; exact hf
  have hs : ∀ v, 0 ≤ v → rd (o.set f.toNat 0) v = if v = f then 0 else rd o v := fun v hv => rd_set o f v 0 hfo hv
  have hm : ∀ v, InN N v → v ≠ f → rd (o.set f.toNat 0) v = -1 := fun v hv hne => by
    rw [hs v hv.1, if_neg hne]
    obtain ⟨n, rfl⟩ := Int.eq_ofNat_of_zero_le hv.1
    exact g4 n (by have := hv.2; omega)
  have hff : rd (o.set f.toNat 0) f = 0 := by rw [hs f hf.1, if_pos rfl]
  have hn : neg (o.set f.toNat 0) + 1 ≤ N := by
    have := neg_lt (o.set f.toNat 0) f (by rw [List.length_set]; exact hfo) (by omega)
    rw [List.length_set, g3] at this
    exact this
  have hD : DI N L f 0 (o.set f.toNat 0) := by
    refine ⟨by rw [List.length_set]; exact g3, fun v hv => ?_, fun v hv h0 => ?_, by omega, fun u v hu huv h0 h1 => by omega⟩
    · by_cases he : v = f
      · rw [he]; omega
      · rw [hm v hv he]; omega
    · by_cases he : v = f
      · rw [he]; exact Conn.refl _ _
      · rw [hm v hv he] at h0; omega
  have e1 : (60 + 1) * (2 * L.length + 2) + 1 ≤ (60 + 1) * (2 * 80 + 2) + 1 := by omega
  exact dist_all hV (by omega) hf (by omega) 60 k' 0 _ (by omega) hD (by omega) (by omega) (by omega)
theorem rdB (xs : List Bool) (i : Nat) : rdOf false xs (i : Int) = xs.getD i false := by
  unfold rdOf
  rw [Int.toNat_natCast]
theorem conn_l0 {N : Nat} {r : List Int} (hN : N ≤ 100000) (hr : r.length = N) : ∀ (c i k : Nat) (out : List Bool), i + c = N → out.length = N → (∀ v : Nat, v < i → (out.getD v false = true ↔ 0 ≤ rd r v)) → c < k →
    ∃ b, PR.assessorref09_Connected.l0 k N out r i = some b ∧ b.length = N ∧ ∀ v : Nat, v < N → (b.getD v false = true ↔ 0 ≤ rd r v)
  | 0, i, k, out, hc, hl, ho, hk => by
    obtain ⟨k, rfl⟩ : ∃ m, k = m + 1 := ⟨k - 1, by omega⟩
    have : i = N := by omega
    subst this
    exact ⟨out, by rw [PR.assessorref09_Connected.l0, if_neg (by omega)], hl, ho⟩
  | c + 1, i, k, out, hc, hl, ho, hk => by
    obtain ⟨k, rfl⟩ : ∃ m, k = m + 1 := ⟨k - 1, by omega⟩
    have hw : wrap64 ((i : Int) + 1) = ((i + 1 : Nat) : Int) := by rw [wrap_small _ (by omega)]; omega
    have := conn_l0 hN hr c (i + 1) k (out.set (i : Int).toNat (decide (rd r i ≥ 0))) (by omega) (by rw [List.length_set]; exact hl) (fun v hv => by
      rw [Int.toNat_natCast]
      by_cases he : v = i
      · subst he
        rw [List.getD_eq_getElem?_getD, List.getElem?_set_self (by omega)]
        simp
      · rw [List.getD_eq_getElem?_getD, List.getElem?_set_ne (by omega), ← List.getD_eq_getElem?_getD]
        exact ho v (by omega)) (by omega)
    rw [PR.assessorref09_Connected.l0, if_pos (by omega), if_pos (by omega), if_pos (by omega), if_pos (by omega), hw]
    exact this
/-- Connected's answer -/
theorem connected_ok {N : Nat} {L : List S36} {f : Int} (hV : Valid N L) (hN : N ≤ 60) (hf : InN N f) (hl : L.length ≤ 80) {k : Nat} (hk : 20000 ≤ k) :
    ∃ b, PR.assessorref09_Connected.f k N L f = some b ∧ b.length = N ∧ ∀ v, InN N v → (rdOf false b v = true ↔ Conn L f v) := by
  obtain ⟨r, h1, h2, h3⟩ := distances_ok hV hN hf hl hk
  unfold PR.assessorref09_Connected.f
  rw [if_pos (by omega), if_pos (by omega), h1]
  simp only [Option.bind_some, Int.toNat_natCast]
  obtain ⟨b, g1, g2, g3⟩ := conn_l0 (N := N) (r := r) (by omega) h2 N 0 k (List.replicate N false) (by omega) (by simp) (fun v hv => absurd hv (Nat.not_lt_zero _)) (by omega)
  rw [show ((0 : Nat) : Int) = 0 from rfl] at g1
  refine ⟨b, g1, g2, fun v hv => ?_⟩
  obtain ⟨n, rfl⟩ := Int.eq_ofNat_of_zero_le hv.1
  rw [rdB, g3 n (by have := hv.2; omega)]
  exact h3 n hv
end Go.Proofs.Ytjbafigageingaa
