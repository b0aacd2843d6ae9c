import Derived.Test.YtjbafigageingaaKcBase
namespace Go.Proofs.Ytjbafigageingaa
open Go.RowKit Go.Proofs.YtjbafigageingaaW.PrintWords Go.Proofs.YtjbafigageingaaW.PrintLast Go.Proofs.YtjbafigageingaaW.PrintMore
set_option linter.unusedVariables false
set_option linter.unusedSimpArgs false

theorem fill_step (n j : Nat) (a b : Int) (h : j < n) : (List.replicate j a ++ List.replicate (n - j) b).set j a = List.replicate (j + 1) a ++ List.replicate (n - (j + 1)) b := by
  rw [List.set_append_right _ _ (by simp)]
  simp only [List.length_replicate, Nat.sub_self]
  obtain ⟨d, hd⟩ : ∃ d, n - j = d + 1 := ⟨n - j - 1, by omega⟩
  have hd2 : n - (j + 1) = d := by omega
  rw [hd, hd2, List.replicate_succ, List.set_cons_zero, List.replicate_succ', List.append_assoc, List.singleton_append]

section
variable {α : Type} {d : Kd α} {e : Nat} {w : World} {base : Nat} {ok : Nat → Prop} {A : Option Addr} {n c : Nat} {xs : List α}
theorem R_len (h : d.R e w base ok (.slice A n c) xs) : n = xs.length := by
  obtain ⟨A', c', he, _⟩ := Kd.R_reads h
  injection he
theorem R_head (h : d.R e w base ok (.slice A n c) xs) (hp : 0 < n) : ∃ g, A = some ⟨g, 0, none⟩ ∧ base ≤ g ∧ g < w.heap.size := by
  obtain ⟨g, cap, he, h1, h2, _⟩ := Kd.R_form h (by rw [← R_len h]; exact hp)
  injection he with he
  exact ⟨g, he, h1, h2⟩
theorem R_shape {v : Value} (h : d.R e w base ok v xs) : ∃ A c, v = .slice A xs.length c := by
  obtain ⟨A, c, e, _⟩ := Kd.R_reads h
  exact ⟨A, c, e⟩
end
section
variable {α : Type} {enc : α → Value} {h1 : ∀ x, (enc x).oneCell' = true} {e base g n cap : Nat} {ok : Nat → Prop} {W : World} {xs : List α}
theorem R_cellN (d : α) (h : (Kd.scalar enc h1).R e W base ok (.slice (some ⟨g, 0, none⟩) n cap) xs) (j : Nat) (hj : j < n) : W.cell? ⟨g, j, none⟩ = some (enc (xs.getD j d)) ∧ W.frozen? ⟨g, j, none⟩ = false := by
  have := Kd.R_celln d h (j : Int) (by omega) (by omega)
  simpa [rdOf] using this
theorem R_putN (h : (Kd.scalar enc h1).R e W base ok (.slice (some ⟨g, 0, none⟩) n cap) xs) (j : Nat) (x : α) : (Kd.scalar enc h1).R e (W.setCell ⟨g, j, none⟩ (enc x)) base ok (.slice (some ⟨g, 0, none⟩) n cap) (xs.set j x) ∧ W.grownBy (W.setCell ⟨g, j, none⟩ (enc x)) (some g) := by
  have := Kd.R_putg h (j : Int) x
  simpa using this
end
section
variable {α : Type} {d : Kd α} {e base : Nat} {ok : Nat → Prop} {w w1 : World} {v : Value} {xs : List α} {row : Option Nat}
/-- A row without rows inside: what is written is another one. -/
theorem R_flat (hd : d.E = []) (h : d.R e w base ok v xs) (hg : w.grownBy w1 row) (hne : ∀ k, v.ownBlock = some k → some k ≠ row) : d.R e w1 base ok v xs := by
  obtain ⟨h0, inner, ho, hr⟩ := h
  refine ⟨h0, inner, own_move ho (fun k hk => hg.block k (own_lt ho k hk) (hne k hk)), hr.imp_ (fun _ _ hp => ?_)⟩
  have hb := d.M_bound hp
  refine d.M_mono (fun k hk => hk.1) (d.M_move (fun k hk => ?_) hb)
  obtain ⟨_, _, _, q, hq, _⟩ := hk
  rw [hd] at hq
  cases hq
theorem R_ok (h : d.R e w base ok v xs) (P : Nat → Prop) (hd : d.E = []) (hP : ∀ k, v.ownBlock = some k → P k) : d.R e w base P v xs := by
  obtain ⟨h0, inner, ho, hr⟩ := h
  refine ⟨hP, inner, ho, hr.imp_ (fun _ _ hp => ?_)⟩
  have hb := d.M_bound hp
  refine d.M_mono (fun k hk => ?_) hb
  obtain ⟨_, _, _, q, hq, _⟩ := hk
  rw [hd] at hq
  cases hq
end
section
variable {α : Type} {enc : α → Value} {h1 : ∀ x, (enc x).oneCell' = true} {n : Nat} {A : Option Addr} {W : World} {xs : List α}
theorem C_cellN (d : α) (h : (Kd.scalar enc h1).C W A n xs) (j : Nat) (hj : j < n) : ∃ ad, A = some ad ∧ W.cell? (ad.add j) = some (enc (xs.getD j d)) := by
  obtain ⟨ad, c, e, hl, hK, hc⟩ := h.get_ d (j : Int) (by omega) (by omega)
  refine ⟨ad, e, ?_⟩
  have hc0 := hc 0
  rw [hK] at hc0
  simpa [Kd.scalar] using hc0 _ rfl
end
theorem C_55N {n : Nat} {A : Option Addr} {W : World} {xs : List S55} (h : k55.C W A n xs) (j : Nat) (hj : j < n) : ∃ ad, A = some ad ∧ W.cell? (ad.add (j * 2)) = some (.int .i64 (xs.getD j z55).f0) ∧ W.cell? ⟨(ad.add (j * 2)).block, (ad.add (j * 2)).off + 1, none⟩ = some (.int .i64 (xs.getD j z55).f1) := by
  have := at_T55 h (j : Int) (by omega) (by omega)
  simpa [rd_T55] using this
theorem Q_head0 {α : Type} {enc : α → Value} {h1 : ∀ x, (enc x).oneCell' = true} {e base n c : Nat} {ok : Nat → Prop} {A : Option Addr} {W : World} {x : α} {xs : List α} (h : (Kd.scalar enc h1).Q e W base ok (.slice A n c) (x :: xs)) :
    ∃ b o, A = some ⟨b, o, none⟩ ∧ W.cell? ⟨b, o, none⟩ = some (enc x) := by
  obtain ⟨hn, _, hC⟩ := Kd.Q_reads' h
  obtain ⟨ad, rfl, hc⟩ := C_cellN x hC 0 (by simp)
  obtain ⟨_, inner, hq, _⟩ := h
  rcases hq.2 with ⟨h0, _⟩ | ⟨g, off, cap, cur, he, _⟩
  · simp at h0
  · injection he with he
    injection he with he
    subst he
    refine ⟨_, _, rfl, ?_⟩
    simpa [Addr.add] using hc
theorem Q_tail {α : Type} {d : Kd α} {P : Program} (t e : TypeId) {i : TypeInfo} (ht : P.underlying t = some (.slice e)) (hi : P.info? e = some i) (hsz : i.size = d.sz) {base n c : Nat} {ok : Nat → Prop} {A : Option Addr} {W : World} {x : α} {xs : List α} (h : d.Q e W base ok (.slice A n c) (x :: xs)) :
    ∃ A' c', (∀ W : World, (Instr.slice t (.slice A n c) (some (.int .i64 1)) none none).run P W = .ok (.slice A' xs.length c') W) ∧ d.Q e W base ok (.slice A' xs.length c') xs := by
  obtain ⟨hn, _, hC⟩ := Kd.Q_reads' h
  have hl : n - 1 = xs.length := by simp at hn; omega
  refine ⟨if c = 1 then A else A.map (·.add (1 * d.sz)), c - 1, fun W => ?_, ?_⟩
  · have := cut_from (P := P) t e .i64 ht hi d.sz hsz A n c 1 (by omega) (by simp at hn; omega) W
    simpa [hl] using this
  · have := Kd.Q_drop (k := 1) h (by simp)
    simpa [hl] using this
theorem drop_cons {α : Type} (d : α) (l : List α) (j : Nat) (h : j < l.length) : l.drop j = l.getD j d :: l.drop (j + 1) := by
  rw [List.getD_eq_getElem?_getD, List.getElem?_eq_getElem h, Option.getD_some, List.drop_eq_getElem_cons h]
end Go.Proofs.Ytjbafigageingaa
