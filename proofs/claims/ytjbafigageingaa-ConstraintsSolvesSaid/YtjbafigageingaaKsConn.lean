import Derived.Test.YtjbafigageingaaKsM1
import Derived.Test.YtjbafigageingaaKsPRx6
namespace Go.Proofs.Ytjbafigageingaa
open Go.RowKit Go.Proofs.YtjbafigageingaaW.PrintWords Go.Proofs.YtjbafigageingaaW.PrintLast Go.Proofs.YtjbafigageingaaW.PrintMore
set_option linter.unusedVariables false
set_option linter.unusedSimpArgs false
structure DI (N : Nat) (L : List S36) (f d : Int) (out : List Int) : Prop where
  len : out.length = N
  rg : ∀ v, InN N v → rd out v ≤ d
  sd : ∀ v, InN N v → 0 ≤ rd out v → Conn L f v
  fr : 0 ≤ rd out f
  cl : ∀ u v, InN N u → AdjL L u v → 0 ≤ rd out u → rd out u < d → 0 ≤ rd out v
structure PI (N : Nat) (L : List S36) (f d : Int) (m : Nat) (i : Nat) (out : List Int) (ch : Bool) : Prop where
  len : out.length = N
  rg : ∀ v, InN N v → rd out v ≤ d + 1
  sd : ∀ v, InN N v → 0 ≤ rd out v → Conn L f v
  fr : 0 ≤ rd out f
  cl : ∀ u v, InN N u → AdjL L u v → 0 ≤ rd out u → rd out u < d → 0 ≤ rd out v
  pr : ∀ j : Nat, j < i → (cAt L j).f0 = 1 → (rd out (cAt L j).f1 = d → 0 ≤ rd out (cAt L j).f2) ∧ (rd out (cAt L j).f2 = d → 0 ≤ rd out (cAt L j).f1)
  nc : ch = false → ∀ v, InN N v → rd out v ≤ d
  ng : neg out ≤ m
  nd : ch = true → neg out < m
theorem PI.put {N : Nat} {L : List S36} {f d : Int} {m i : Nat} {out : List Int} {ch : Bool} (h : PI N L f d m i out ch) (hV : Valid N L) (hd : 0 ≤ d) (hf : InN N f) {a b : Int} (ha : InN N a) (hb : InN N b) (hab : AdjL L a b) (h1 : rd out a = d) (h2 : rd out b < 0) : PI N L f d m i (out.set b.toNat (d + 1)) true := by
  have hbo : 0 ≤ b ∧ b < (out.length : Int) := by rw [h.len]; exact hb
  have hs : ∀ v, 0 ≤ v → rd (out.set b.toNat (d + 1)) v = if v = b then d + 1 else rd out v := fun v hv => rd_set out b v (d + 1) hbo hv
  have hn := neg_set out b (d + 1) hbo (by omega) h2
  have up : ∀ v, InN N v → 0 ≤ rd out v → 0 ≤ rd (out.set b.toNat (d + 1)) v := fun v hv h0 => by
    rw [hs v hv.1]; split <;> omega
  have hj : ∀ j : Nat, j < L.length → (cAt L j).f0 = 1 → InN N (cAt L j).f1 ∧ InN N (cAt L j).f2 := fun j hj h0 => by
    have := hV _ (at_memN hj)
    rcases this.2 with h | h
    · omega
    · exact ⟨this.1, h.2⟩
  refine ⟨by rw [List.length_set]; exact h.len, fun v hv => ?_, fun v hv h0 => ?_, up f hf h.fr, fun u v hu huv h0 h3 => ?_, fun j hji h0 => ?_, (fun hc => by cases hc), (by have := h.ng; omega), fun _ => ?_⟩
  · rw [hs v hv.1]
    split
    · omega
    · exact h.rg v hv
  · rw [hs v hv.1] at h0
    split at h0
    · rename_i he
      subst he
      exact (h.sd a ha (by omega)).trans ⟨1, WkL.cons hab (.nil _)⟩
    · exact h.sd v hv h0
  · rw [hs u hu.1] at h0 h3
    split at h0
    · rename_i he
      rw [if_pos he] at h3
      omega
    · rename_i he
      rw [if_neg he] at h3
      exact up v (adjL_in hV huv).2 (h.cl u v hu huv h0 h3)
  · by_cases hjl : j < L.length
    · obtain ⟨g1, g2⟩ := hj j hjl h0
      obtain ⟨p1, p2⟩ := h.pr j hji h0
      constructor
      · intro he
        rw [hs _ g1.1] at he
        split at he
        · omega
        · exact up _ g2 (p1 he)
      · intro he
        rw [hs _ g2.1] at he
        split at he
        · omega
        · exact up _ g1 (p2 he)
    · have : cAt L (j : Int) = z36 := by
        unfold cAt rd_T36
        rw [Int.toNat_natCast, List.getD_eq_getElem?_getD, List.getElem?_eq_none (by omega)]
        rfl
      rw [this] at h0
      exact absurd h0 (by decide)
  · have := h.ng
    omega
theorem PI.next {N : Nat} {L : List S36} {f d : Int} {m i : Nat} {out : List Int} {ch : Bool} (h : PI N L f d m i out ch) (hp : (cAt L i).f0 = 1 → (rd out (cAt L i).f1 = d → 0 ≤ rd out (cAt L i).f2) ∧ (rd out (cAt L i).f2 = d → 0 ≤ rd out (cAt L i).f1)) : PI N L f d m (i + 1) out ch :=
  ⟨h.len, h.rg, h.sd, h.fr, h.cl, fun j hj h0 => by
    rcases Nat.lt_or_ge j i with h1 | h1
    · exact h.pr j h1 h0
    · have : j = i := by omega
      subst this
      exact hp h0, h.nc, h.ng, h.nd⟩
theorem PI.of {N : Nat} {L : List S36} {f d : Int} {out : List Int} (h : DI N L f d out) (hd : 0 ≤ d) : PI N L f d (neg out) 0 out false :=
  ⟨h.len, fun v hv => by have := h.rg v hv; omega, h.sd, h.fr, h.cl, fun j hj => absurd hj (Nat.not_lt_zero _), fun _ => h.rg, Nat.le_refl _, fun hc => by cases hc⟩
theorem PI.done {N : Nat} {L : List S36} {f d : Int} {m : Nat} {out : List Int} {ch : Bool} (h : PI N L f d m L.length out ch) (hV : Valid N L) : DI N L f (d + 1) out :=
  ⟨h.len, h.rg, h.sd, h.fr, fun u v hu huv h0 h1 => by
    rcases Int.lt_or_le (rd out u) d with h2 | h2
    · exact h.cl u v hu huv h0 h2
    · have he : rd out u = d := by omega
      obtain ⟨c, hc, hk, hh⟩ := huv
      obtain ⟨j, hj, _, rfl⟩ := mem_at hc
      obtain ⟨p1, p2⟩ := h.pr j hj hk
      rcases hh with ⟨rfl, rfl⟩ | ⟨rfl, rfl⟩
      · exact p1 he
      · exact p2 he⟩
theorem dist_l0 {N : Nat} {L : List S36} {f : Int} (hN : N ≤ 100000) (hf : InN N f) : ∀ (c i k : Nat) (out : List Int), i + c = N → out.length = N → (∀ v : Nat, v < i → rd out v = -1) → c + 2 ≤ k →
    ∃ out' k', k ≤ k' + c + 1 ∧ PR.assessorref09_distances.l0 k N L f out i = PR.assessorref09_distances.l1 k' L (out'.set f.toNat 0) true 0 ∧ out'.length = N ∧ ∀ v : Nat, v < N → rd out' v = -1
  | 0, i, k, out, hc, hl, ho, hk => by
    obtain ⟨k, rfl⟩ : ∃ m, k = m + 1 := ⟨k - 1, by omega⟩
    have : i = N := by omega
    subst this
    refine ⟨out, k, by omega, ?_, hl, ho⟩
    rw [PR.assessorref09_distances.l0, if_neg (by omega), if_pos hf.1, if_pos (by rw [hl]; exact hf.2)]
  | c + 1, i, k, out, hc, hl, ho, hk => by
    obtain ⟨k, rfl⟩ : ∃ m, k = m + 1 := ⟨k - 1, by omega⟩
    have hw : wrap64 ((i : Int) + 1) = ((i + 1 : Nat) : Int) := by rw [wrap_small _ (by omega)]; omega
    obtain ⟨o, k', g1, g2, g3, g4⟩ := dist_l0 hN hf (L := L) c (i + 1) k (out.set (i : Int).toNat (-1)) (by omega) (by rw [List.length_set]; exact hl) (fun v hv => by
      rw [rd_set out i v (-1) (by omega) (by omega)]
      split
      · rfl
      · exact ho v (by omega)) (by omega)
    refine ⟨o, k', by omega, ?_, g3, g4⟩
    rw [PR.assessorref09_distances.l0, if_pos (by omega), if_pos (by omega), if_pos (by omega), hw]
    exact g2
theorem rdB (xs : List Bool) (i : Nat) : rdOf false xs (i : Int) = xs.getD i false := by
  unfold rdOf
  rw [Int.toNat_natCast]
end Go.Proofs.Ytjbafigageingaa
