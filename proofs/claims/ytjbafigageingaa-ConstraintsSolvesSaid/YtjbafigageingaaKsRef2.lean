import Derived.Test.YtjbafigageingaaKsM6
namespace Go.Proofs.Ytjbafigageingaa
open Go.RowKit Go.Proofs.YtjbafigageingaaW.PrintWords Go.Proofs.YtjbafigageingaaW.PrintLast Go.Proofs.YtjbafigageingaaW.PrintMore
set_option linter.unusedVariables false
set_option linter.unusedSimpArgs false
/-- i and j are marks of the class of v that exclude each other -/
structure PairM (L : List S36) (v : Int) (i j : Nat) : Prop where
  lt : i < j
  jl : j < L.length
  ki : (cAt L i).f0 = 0
  kj : (cAt L j).f0 = 0
  ci : Conn L v (cAt L i).f1
  cj : Conn L v (cAt L j).f1
  ex : exclB (cAt L i).f3 (cAt L j).f3 = true
/-- b is not behind any chain from i dt j -/
structure Cov (L : List S36) (b : List Int) (i j : Nat) : Prop where
  ne : b ≠ []
  wk : ∀ n, WkL L n (cAt L i).f1 (cAt L j).f1 → b.length ≤ n + 2
  le : ∀ p, IsCh L i j p → SLe b ((i : Int) :: (p ++ [(j : Int)]))
def Bst (L : List S36) (v : Int) (b : List Int) : Prop := b = [] ∨ ∃ a z p, b = a :: (p ++ [z]) ∧ IsCh L a z p ∧ Conn L v (cAt L a).f1
def Cvd (L : List S36) (v : Int) (k i0 : Nat) (b : List Int) : Prop := ∀ i j, PairM L v i j → (j < k ∨ (j = k ∧ i < i0)) → Cov L b i j
theorem SLe_len {c d : List Int} (h : SLe c d) : c.length ≤ d.length := by
  rcases h with h | ⟨h, _⟩ <;> omega
theorem Cov.mono {L : List S36} {b b' : List Int} {i j : Nat} (h : Cov L b i j) (hn : b' ≠ []) (hs : SLe b' b) : Cov L b' i j :=
  ⟨hn, fun n hw => by have := h.wk n hw; have := SLe_len hs; omega, fun p hp => SLe_trans hs (h.le p hp)⟩
theorem FarL.conn {N : Nat} {L : List S36} {v : Int} {cls : List Int} (h : FarL N L [v] cls) {u : Int} (hu : InN N u) : 0 ≤ rd cls u ↔ Conn L v u := by
  rcases h.far u hu with ⟨g1, g2⟩ | ⟨n, g1, _, ⟨f, hf, g3⟩, _⟩
  · constructor
    · intro h0; omega
    · rintro ⟨n, hn⟩
      exact absurd hn (g2 _ (List.mem_singleton.2 rfl) n)
  · rw [List.mem_singleton.1 hf] at g3
    exact ⟨fun _ => ⟨n, g3⟩, fun _ => by omega⟩
section
variable {N : Nat} {L : List S36} {v : Int} {cls : List Int}
open PS
set_option maxHeartbeats 2000000 in
theorem ref_step (hV : Valid N L) (hN : N ≤ 60) (hl : L.length ≤ 80) (hv : InN N v) (hcls : FarL N L [v] cls) {kk : Nat} (hkk : kk < L.length) (hkm : (cAt L kk).f0 = 0) (hkc : Conn L v (cAt L kk).f1)
    (ty : List S23) (ch : List (List Int)) (dn : List Bool) (t0 t1 : Int) (t2 : ByteArray) {i : Nat} (hi : i < kk) {b dt : List Int} (hto : dt = [] ∨ FarL N L [(cAt L kk).f1] dt) (hb : Bst L v b) (hbl : b.length ≤ 10000) (hc : Cvd L v kk i b) {k : Nat} (hk : 30000 ≤ k) :
    ∃ b' dt' k', assessorref09_Solve.l2 k N L ty ch dn v cls b kk dt i t0 t1 t2 = assessorref09_Solve.l2 k' N L ty ch dn v cls b' kk dt' ((i + 1 : Nat) : Int) t0 t1 t2 ∧ (dt' = [] ∨ FarL N L [(cAt L kk).f1] dt') ∧ Bst L v b' ∧ b'.length ≤ 10000 ∧ Cvd L v kk (i + 1) b' ∧ k ≤ k' + 4 := by
  obtain ⟨k, rfl⟩ : ∃ m, k = m + 1 + 1 + 1 + 1 := ⟨k - 4, by omega⟩
  have HW : Aside0 (wrap64 ((i : Int) + 1) = ((i + 1 : Nat) : Int)) := ⟨by rw [wrap_small _ (by omega)]; omega⟩
  have hiL : i < L.length := by omega
  have hAi := (hV _ (at_memN hiL)).1
  have hAk := (hV _ (at_memN hkk)).1
  have hAi' : 0 ≤ (rd_T36 L i).f1 ∧ (rd_T36 L i).f1 < (N : Int) := hAi
  have hAk' : 0 ≤ (rd_T36 L kk).f1 ∧ (rd_T36 L kk).f1 < (N : Int) := hAk
  have hcl := hcls.len
  -- nothing dt do here
  have skip : (¬ PairM L v i kk ∨ Cov L b i kk) → Cvd L v kk (i + 1) b := fun hno i' j' hp hlt => by
    rcases hlt with hlt | ⟨hj, hlt⟩
    · exact hc i' j' hp (.inl hlt)
    · rcases Nat.lt_or_ge i' i with h1 | h1
      · exact hc i' j' hp (.inr ⟨hj, h1⟩)
      · obtain rfl : i' = i := by omega
        subst hj
        rcases hno with hno | hno
        · exact absurd hp hno
        · exact hno
  have e : assessorref09_Solve.l2 (k + 1 + 1 + 1 + 1) N L ty ch dn v cls b kk dt i t0 t1 t2 = _ := assessorref09_Solve.l2.eq_def _ _ _ _ _ _ _ _ _ _ _ _ _ _ _
  simp only at e
  rw [if_pos (by omega), if_pos (by omega), if_pos (by omega)] at e
  -- the test's answer
  have j6t : ∀ {dt : List Int} (k : Nat), assessorref09_Solve.j6 (k + 1) N L ty ch dn v cls b kk dt i true t0 t1 t2 = assessorref09_Solve.l2 k N L ty ch dn v cls b kk dt ((i + 1 : Nat) : Int) t0 t1 t2 := fun {dt} k => by
    have e : assessorref09_Solve.j6 (k + 1) N L ty ch dn v cls b kk dt i true t0 t1 t2 = _ := assessorref09_Solve.j6.eq_def _ _ _ _ _ _ _ _ _ _ _ _ _ _ _ _
    simp only at e
    rw [if_pos (by trivial), HW.out] at e
    exact e
  have done : ¬ PairM L v i kk → assessorref09_Solve.l2 (k + 1 + 1 + 1 + 1) N L ty ch dn v cls b kk dt i t0 t1 t2 = assessorref09_Solve.j6 (k + 1 + 1 + 1) N L ty ch dn v cls b kk dt i true t0 t1 t2 →
      ∃ b' dt' k', assessorref09_Solve.l2 (k + 1 + 1 + 1 + 1) N L ty ch dn v cls b kk dt i t0 t1 t2 = assessorref09_Solve.l2 k' N L ty ch dn v cls b' kk dt' ((i + 1 : Nat) : Int) t0 t1 t2 ∧ (dt' = [] ∨ FarL N L [(cAt L kk).f1] dt') ∧ Bst L v b' ∧ b'.length ≤ 10000 ∧ Cvd L v kk (i + 1) b' ∧ k + 1 + 1 + 1 + 1 ≤ k' + 4 := fun hno he =>
    ⟨b, dt, k + 1 + 1, he.trans (j6t (k + 1 + 1)), hto, hb, hbl, skip (.inl hno), by omega⟩
  by_cases h0 : (rd_T36 L i).f0 = 0
  case neg =>
    rw [if_neg h0] at e
    exact done (fun hp => h0 hp.ki) e
  rw [if_pos h0, if_pos hAi'.1, if_pos (by omega)] at e
  by_cases h1 : rd cls (rd_T36 L i).f1 < 0
  · rw [if_pos h1] at e
    refine done (fun hp => ?_) e
    have : 0 ≤ rd cls (rd_T36 L i).f1 := (hcls.conn hAi).2 hp.ci
    omega
  have hci : Conn L v (cAt L i).f1 := (hcls.conn hAi).1 (by show 0 ≤ rd cls (rd_T36 L i).f1; omega)
  rw [if_neg h1, if_pos (by omega), if_pos (by omega), refExcl] at e
  simp only [Option.bind_some] at e
  by_cases hx : exclB (rd_T36 L i).f3 (rd_T36 L kk).f3 = true
  case neg =>
    rw [Bool.eq_false_iff.2 hx] at e
    exact done (fun hp => hx hp.ex) e
  rw [hx] at e
  have hP : PairM L v i kk := ⟨hi, hkk, h0, hkm, hci, hkc, hx⟩
  -- the distances
  have hto1 : ∃ to1, FarL N L [(cAt L kk).f1] to1 ∧ assessorref09_Solve.l2 (k + 1 + 1 + 1 + 1) N L ty ch dn v cls b kk dt i t0 t1 t2 = assessorref09_Solve.j7 (k + 1 + 1) N L ty ch dn v cls b kk to1 i t0 t1 t2 := by
    have e6 : assessorref09_Solve.j6 (k + 1 + 1 + 1) N L ty ch dn v cls b kk dt i false t0 t1 t2 = _ := assessorref09_Solve.j6.eq_def _ _ _ _ _ _ _ _ _ _ _ _ _ _ _ _
    simp only at e6
    rw [if_neg (by decide)] at e6
    have e' : assessorref09_Solve.l2 (k + 1 + 1 + 1 + 1) N L ty ch dn v cls b kk dt i t0 t1 t2 = assessorref09_Solve.j6 (k + 1 + 1 + 1) N L ty ch dn v cls b kk dt i false t0 t1 t2 := e
    rcases hto with rfl | hto
    · rw [if_pos (by rfl), if_pos (by omega), if_pos (by omega)] at e6
      obtain ⟨r, d1, d2⟩ := distances_X hV hN hAk hl (k := k + 1 + 1) (by omega)
      rw [show PR.assessorref09_distances.f (k + 1 + 1) N L (rd_T36 L kk).f1 = some r from d1] at e6
      exact ⟨r, d2, e'.trans e6⟩
    · have : ¬ (dt.length : Int) = 0 := by
        rw [hto.len]
        have := hAk.1
        have := hAk.2
        omega
      rw [if_neg this] at e6
      exact ⟨dt, hto, e'.trans e6⟩
  obtain ⟨to1, hF, e7⟩ := hto1
  have htl := hF.len
  -- how far
  have hkm1 : (cAt L kk).f1 ∈ [(cAt L kk).f1] := List.mem_singleton.2 rfl
  obtain ⟨n, hn, hnN, hnw, hnm⟩ : ∃ n : Nat, rd to1 (cAt L i).f1 = n ∧ n < N ∧ WkL L n (cAt L i).f1 (cAt L kk).f1 ∧ ∀ m, WkL L m (cAt L i).f1 (cAt L kk).f1 → n ≤ m := by
    rcases hF.far _ hAi with ⟨_, g2⟩ | ⟨n, g1, g2, ⟨f, hf, g3⟩, g4⟩
    · obtain ⟨m, hm⟩ := hkc.symm.trans hci
      exact absurd hm (g2 _ hkm1 m)
    · rw [List.mem_singleton.1 hf] at g3
      exact ⟨n, g1, g2, g3.symm, fun m hm => g4 _ hkm1 m hm.symm⟩
  have hn' : rd to1 (rd_T36 L i).f1 = n := hn
  have hpl : ∀ p, IsCh L i kk p → n ≤ p.length := fun p hp => hnm _ (wayC_wk p _ _ hp.rp hp.way)
  have e7' : assessorref09_Solve.j7 (k + 1 + 1) N L ty ch dn v cls b kk to1 i t0 t1 t2 = _ := assessorref09_Solve.j7.eq_def _ _ _ _ _ _ _ _ _ _ _ _ _ _ _
  simp only at e7'
  have HW2 : Aside0 (wrap64 ((n : Int) + 2) = (n : Int) + 2) := ⟨wrap_small _ (by omega)⟩
  have e8 : assessorref09_Solve.l2 (k + 1 + 1 + 1 + 1) N L ty ch dn v cls b kk dt i t0 t1 t2 = assessorref09_Solve.j8 (k + 1) N L ty ch dn v cls b kk to1 i (decide (b ≠ [] ∧ b.length < n + 2)) t0 t1 t2 := by
    rw [e7]
    refine e7'.trans ?_
    by_cases hb0 : (b.length : Int) > 0
    · have : b ≠ [] := fun hh => by rw [hh] at hb0; simp at hb0
      have hdec : decide ((n : Int) + 2 > (b.length : Int)) = decide (b ≠ [] ∧ b.length < n + 2) := decide_eq_decide.2 ⟨fun hh => ⟨this, by omega⟩, fun hh => by have := hh.2; omega⟩
      rw [if_pos hb0, if_pos (by omega), if_pos (by omega), if_pos hAi'.1, if_pos (by omega), hn', HW2.out, hdec]
    · have hb1 : b = [] := List.length_eq_zero_iff.1 (by omega)
      rw [if_neg hb0, decide_eq_false (fun hh : b ≠ [] ∧ b.length < n + 2 => hh.1 hb1)]
  have e8' : ∀ x, assessorref09_Solve.j8 (k + 1) N L ty ch dn v cls b kk to1 i x t0 t1 t2 = _ := fun x => assessorref09_Solve.j8.eq_def _ _ _ _ _ _ _ _ _ _ _ _ _ _ _ _
  simp only at e8'
  rw [e8'] at e8
  by_cases hlong : b ≠ [] ∧ b.length < n + 2
  · rw [decide_eq_true hlong, if_pos (by trivial), HW.out] at e8
    exact ⟨b, to1, k, e8, .inr hF, hb, hbl, skip (.inr ⟨hlong.1, fun m hm => by have := hnm m hm; omega, fun p hp => .inl (by have := hpl p hp; simp; omega)⟩), by omega⟩
  rw [decide_eq_false hlong, if_neg (by decide)] at e8
  simp only [Option.bind_some] at e8
  obtain ⟨p, w1, w2, w3, w4, w5⟩ := way_ok hV hl hAk hF (by omega) n k [] (cAt L i).f1 hAi hn (by simp; omega) (by omega)
  have w1' : assessorref09_way.f k L (rd_T36 L i).f1 to1 = some p := by
    unfold assessorref09_way.f
    rw [List.nil_append] at w1
    exact w1
  obtain ⟨c, hcd⟩ : ∃ c, c = (i : Int) :: (p ++ [(kk : Int)]) := ⟨_, rfl⟩
  have hc1 : [(i : Int)] ++ p ++ [(kk : Int)] = c := by rw [hcd]; simp
  have hcl2 : c.length = n + 2 := by rw [hcd]; simp [w2]
  obtain ⟨t, b1, b2⟩ := before_ok c b (by omega) (k := k) (by omega)
  rw [if_pos (by omega), if_pos (by omega), w1'] at e8
  simp only [Option.bind_some] at e8
  rw [if_pos (by simp; omega), if_pos (by simp; omega), hc1, b1] at e8
  simp only [Option.bind_some] at e8
  rw [HW.out] at e8
  have hI : IsCh L i kk p := ⟨by omega, by omega, by omega, w4, h0, hkm, hx, w3⟩
  have hcne : c ≠ [] := by rw [hcd]; simp
  have hcov : Cov L c i kk := ⟨hcne, fun m hm => by have := hnm m hm; omega, fun p' hp' => by
    have h1 := hpl p' hp'
    rcases Nat.eq_or_lt_of_le h1 with h2 | h2
    · refine .inr ⟨by rw [hcd]; simp [w2]; omega, ?_⟩
      rw [hcd]
      exact .inr ⟨rfl, lexLe_append p p' _ _ (by omega) (w5 p' hp'.rp hp'.way h2.symm) (fun _ => lexLe_refl _)⟩
    · exact .inl (by simp; omega)⟩
  by_cases ht : t = true
  · rw [if_pos ht] at e8
    refine ⟨c, to1, k, e8, .inr hF, .inr ⟨i, kk, p, hcd, hI, hci⟩, by omega, fun i' j' hp hlt => ?_, by omega⟩
    have hold : ∀ i' j', Cov L b i' j' → Cov L c i' j' := fun i' j' h => h.mono hcne (by
      rcases b2.1 ht with h3 | h3
      · exact absurd h3 h.ne
      · exact (SLe_total c b).resolve_right h3)
    rcases hlt with hlt | ⟨hj, hlt⟩
    · exact hold _ _ (hc i' j' hp (.inl hlt))
    · rcases Nat.lt_or_ge i' i with h1 | h1
      · exact hold _ _ (hc i' j' hp (.inr ⟨hj, h1⟩))
      · obtain rfl : i' = i := by omega
        subst hj
        exact hcov
  · rw [if_neg ht] at e8
    have hs : b ≠ [] ∧ SLe b c := by
      constructor
      · exact fun hh => ht (b2.2 (.inl hh))
      · exact Classical.byContradiction fun hh => ht (b2.2 (.inr hh))
    exact ⟨b, to1, k, e8, .inr hF, hb, hbl, skip (.inr (hcov.mono hs.1 hs.2)), by omega⟩
theorem ref_l2 (hV : Valid N L) (hN : N ≤ 60) (hl : L.length ≤ 80) (hv : InN N v) (hcls : FarL N L [v] cls) {kk : Nat} (hkk : kk < L.length) (hkm : (cAt L kk).f0 = 0) (hkc : Conn L v (cAt L kk).f1)
    (ty : List S23) (ch : List (List Int)) (dn : List Bool) (t0 t1 : Int) (t2 : ByteArray) : ∀ (c i k : Nat) (b dt : List Int), i + c = kk → (dt = [] ∨ FarL N L [(cAt L kk).f1] dt) → Bst L v b → b.length ≤ 10000 → Cvd L v kk i b → 30000 + 4 * c + 1 ≤ k →
    ∃ b' k', assessorref09_Solve.l2 k N L ty ch dn v cls b kk dt i t0 t1 t2 = assessorref09_Solve.l1 k' N L ty ch dn v cls b' ((kk + 1 : Nat) : Int) t0 t1 t2 ∧ Bst L v b' ∧ b'.length ≤ 10000 ∧ Cvd L v (kk + 1) 0 b' ∧ k ≤ k' + (4 * c + 1)
  | 0, i, k, b, dt, hic, hto, hb, hbl, hc, hk => by
    obtain ⟨k, rfl⟩ : ∃ m, k = m + 1 := ⟨k - 1, by omega⟩
    have hwr : wrap64 ((kk : Int) + 1) = ((kk + 1 : Nat) : Int) := by rw [wrap_small _ (by omega)]; omega
    have e : assessorref09_Solve.l2 (k + 1) N L ty ch dn v cls b kk dt i t0 t1 t2 = _ := assessorref09_Solve.l2.eq_def _ _ _ _ _ _ _ _ _ _ _ _ _ _ _
    simp only at e
    rw [if_neg (by omega), hwr] at e
    refine ⟨b, k, e, hb, hbl, fun i' j' hp hlt => ?_, by omega⟩
    refine hc i' j' hp ?_
    have := hp.lt
    omega
  | c + 1, i, k, b, dt, hic, hto, hb, hbl, hc, hk => by
    obtain ⟨b1, to1, k1, e1, a1, a2, a3, a4, a5⟩ := ref_step hV hN hl hv hcls hkk hkm hkc ty ch dn t0 t1 t2 (i := i) (by omega) hto hb hbl hc (k := k) (by omega)
    obtain ⟨b2, k2, e2, c1, c2, c3, c4⟩ := ref_l2 hV hN hl hv hcls hkk hkm hkc ty ch dn t0 t1 t2 c (i + 1) k1 b1 to1 (by omega) a1 a2 a3 a4 (by omega)
    exact ⟨b2, k2, e1.trans e2, c1, c2, c3, by omega⟩
def TyK (L : List S36) (v : Int) (k : Nat) (t : S23) : Prop :=
  (t = z23 ∧ ∀ i : Nat, i < k → (cAt L i).f0 = 0 → Conn L v (cAt L i).f1 → ¬ Whole (cAt L i).f3) ∨ ∃ i : Nat, i < k ∧ (cAt L i).f0 = 0 ∧ Conn L v (cAt L i).f1 ∧ Whole (cAt L i).f3 ∧ t = (cAt L i).f3
theorem ref_l1 (hV : Valid N L) (hN : N ≤ 60) (hl : L.length ≤ 80) (hv : InN N v) (hcls : FarL N L [v] cls)
    (ty : List S23) (ch : List (List Int)) (dn : List Bool) : ∀ (c kk k : Nat) (b : List Int) (t0 t1 : Int) (t2 : ByteArray), kk + c = L.length → Bst L v b → b.length ≤ 10000 → Cvd L v kk 0 b → TyK L v kk ⟨t0, t1, t2⟩ → 31000 + 400 * c ≤ k →
    ∃ b' t0' t1' t2' k', assessorref09_Solve.l1 k N L ty ch dn v cls b kk t0 t1 t2 = assessorref09_Solve.l1 k' N L ty ch dn v cls b' (L.length : Int) t0' t1' t2' ∧ Bst L v b' ∧ b'.length ≤ 10000 ∧ Cvd L v L.length 0 b' ∧ TyK L v L.length ⟨t0', t1', t2'⟩ ∧ k ≤ k' + 400 * c
  | 0, kk, k, b, t0, t1, t2, hkc, hb, hbl, hc, ht, hk => by
    obtain rfl : kk = L.length := by omega
    exact ⟨b, t0, t1, t2, k, rfl, hb, hbl, hc, ht, by omega⟩
  | c + 1, kk, k, b, t0, t1, t2, hkc, hb, hbl, hc, ht, hk => by
    obtain ⟨k, rfl⟩ : ∃ m, k = m + 4 := ⟨k - 4, by omega⟩
    have hwr : wrap64 ((kk : Int) + 1) = ((kk + 1 : Nat) : Int) := by rw [wrap_small _ (by omega)]; omega
    have hkL : kk < L.length := by omega
    have hAk := (hV _ (at_memN hkL)).1
    have hAk' : 0 ≤ (rd_T36 L kk).f1 ∧ (rd_T36 L kk).f1 < (N : Int) := hAk
    have hcl := hcls.len
    have e : assessorref09_Solve.l1 (k + 3 + 1) N L ty ch dn v cls b kk t0 t1 t2 = _ := assessorref09_Solve.l1.eq_def _ _ _ _ _ _ _ _ _ _ _ _ _
    simp only at e
    rw [if_pos (by omega), if_pos (by omega)] at e
    -- not a mark of the class
    have done : (¬ ((cAt L kk).f0 = 0 ∧ Conn L v (cAt L kk).f1)) → assessorref09_Solve.l1 (k + 3 + 1) N L ty ch dn v cls b kk t0 t1 t2 = assessorref09_Solve.j2 (k + 2 + 1) N L ty ch dn v cls b kk true t0 t1 t2 →
        ∃ b' t0' t1' t2' k', assessorref09_Solve.l1 (k + 4) N L ty ch dn v cls b kk t0 t1 t2 = assessorref09_Solve.l1 k' N L ty ch dn v cls b' (L.length : Int) t0' t1' t2' ∧ Bst L v b' ∧ b'.length ≤ 10000 ∧ Cvd L v L.length 0 b' ∧ TyK L v L.length ⟨t0', t1', t2'⟩ ∧ k + 4 ≤ k' + 400 * (c + 1) := fun hno he => by
      have e2 : assessorref09_Solve.j2 (k + 2 + 1) N L ty ch dn v cls b kk true t0 t1 t2 = _ := assessorref09_Solve.j2.eq_def _ _ _ _ _ _ _ _ _ _ _ _ _ _
      simp only at e2
      rw [if_pos (by trivial), hwr] at e2
      obtain ⟨b', t0', t1', t2', k', g1, g2, g3, g4, g5, g6⟩ := ref_l1 hV hN hl hv hcls ty ch dn c (kk + 1) (k + 2) b t0 t1 t2 (by omega) hb hbl (fun i j hp hlt => by
        rcases hlt with hlt | ⟨_, hlt⟩
        · rcases Nat.lt_or_ge j kk with h1 | h1
          · exact hc i j hp (.inl h1)
          · obtain rfl : j = kk := by omega
            exact absurd ⟨hp.kj, hp.cj⟩ hno
        · omega) (by
        rcases ht with ⟨h1, h2⟩ | ⟨i, h1, h2⟩
        · refine .inl ⟨h1, fun i hi h3 h4 => ?_⟩
          rcases Nat.lt_or_ge i kk with h5 | h5
          · exact h2 i h5 h3 h4
          · obtain rfl : i = kk := by omega
            exact absurd ⟨h3, h4⟩ hno
        · exact .inr ⟨i, by omega, h2⟩) (by omega)
      exact ⟨b', t0', t1', t2', k', (he.trans e2).trans g1, g2, g3, g4, g5, by omega⟩
    by_cases h0 : (rd_T36 L kk).f0 = 0
    case neg =>
      rw [if_neg h0] at e
      exact done (fun hh => h0 hh.1) e
    rw [if_pos h0, if_pos hAk'.1, if_pos (by omega)] at e
    by_cases h1 : rd cls (rd_T36 L kk).f1 < 0
    · rw [decide_eq_true h1] at e
      refine done (fun hh => ?_) e
      have : 0 ≤ rd cls (rd_T36 L kk).f1 := (hcls.conn hAk).2 hh.2
      omega
    have hkc' : Conn L v (cAt L kk).f1 := (hcls.conn hAk).1 (by show 0 ≤ rd cls (rd_T36 L kk).f1; omega)
    rw [decide_eq_false h1] at e
    have e2 : assessorref09_Solve.j2 (k + 2 + 1) N L ty ch dn v cls b kk false t0 t1 t2 = _ := assessorref09_Solve.j2.eq_def _ _ _ _ _ _ _ _ _ _ _ _ _ _
    simp only at e2
    rw [if_neg (by decide), if_pos (by omega), if_pos (by omega)] at e2
    have e3 : ∀ x, assessorref09_Solve.j3 (k + 1 + 1) N L ty ch dn v cls b kk x t0 t1 t2 = _ := fun x => assessorref09_Solve.j3.eq_def _ _ _ _ _ _ _ _ _ _ _ _ _ _
    simp only at e3
    have e4 : ∀ x y z, assessorref09_Solve.j4 (k + 1) N L ty ch dn v cls b kk x y z = assessorref09_Solve.l2 k N L ty ch dn v cls b kk [] 0 x y z := fun x y z => assessorref09_Solve.j4.eq_def _ _ _ _ _ _ _ _ _ _ _ _ _
    have fin : ∀ (u0 u1 : Int) (u2 : ByteArray), TyK L v (kk + 1) ⟨u0, u1, u2⟩ → assessorref09_Solve.l1 (k + 4) N L ty ch dn v cls b kk t0 t1 t2 = assessorref09_Solve.l2 k N L ty ch dn v cls b kk [] 0 u0 u1 u2 →
        ∃ b' t0' t1' t2' k', assessorref09_Solve.l1 (k + 4) N L ty ch dn v cls b kk t0 t1 t2 = assessorref09_Solve.l1 k' N L ty ch dn v cls b' (L.length : Int) t0' t1' t2' ∧ Bst L v b' ∧ b'.length ≤ 10000 ∧ Cvd L v L.length 0 b' ∧ TyK L v L.length ⟨t0', t1', t2'⟩ ∧ k + 4 ≤ k' + 400 * (c + 1) := fun u0 u1 u2 hty he => by
      obtain ⟨b1, k1, m1, m2, m3, m4, m5⟩ := ref_l2 hV hN hl hv hcls hkL h0 hkc' ty ch dn u0 u1 u2 kk 0 k b [] (by omega) (.inl rfl) hb hbl hc (by omega)
      rw [show ((0 : Nat) : Int) = 0 from rfl] at m1
      obtain ⟨b', t0', t1', t2', k', g1, g2, g3, g4, g5, g6⟩ := ref_l1 hV hN hl hv hcls ty ch dn c (kk + 1) k1 b1 u0 u1 u2 (by omega) m2 m3 m4 hty (by omega)
      exact ⟨b', t0', t1', t2', k', (he.trans m1).trans g1, g2, g3, g4, g5, by omega⟩
    have e' : assessorref09_Solve.l1 (k + 4) N L ty ch dn v cls b kk t0 t1 t2 = assessorref09_Solve.j2 (k + 2 + 1) N L ty ch dn v cls b kk false t0 t1 t2 := e
    by_cases hw : Whole (cAt L kk).f3
    · have e5 : assessorref09_Solve.j2 (k + 2 + 1) N L ty ch dn v cls b kk false t0 t1 t2 = assessorref09_Solve.j3 (k + 1 + 1) N L ty ch dn v cls b kk true t0 t1 t2 := by
        refine e2.trans ?_
        have h5 : ¬ (rd_T36 L kk).f3.f0 = 5 := hw.1
        have h6 : (((rd_T36 L kk).f3.f0) != 6) = true := bne_iff_ne.2 hw.2
        rw [if_neg h5, h6]
      rw [e3, if_pos (by trivial), if_pos (by omega), if_pos (by omega), e4] at e5
      exact fin _ _ _ (.inr ⟨kk, by omega, h0, hkc', hw, rfl⟩) (e'.trans e5)
    · have e5 : assessorref09_Solve.j2 (k + 2 + 1) N L ty ch dn v cls b kk false t0 t1 t2 = assessorref09_Solve.j3 (k + 1 + 1) N L ty ch dn v cls b kk false t0 t1 t2 := by
        refine e2.trans ?_
        by_cases h5 : (rd_T36 L kk).f3.f0 = 5
        · rw [if_pos h5]
        · have h6 : (((rd_T36 L kk).f3.f0) != 6) = false := by
            rw [bne_eq_false_iff_eq]
            exact Classical.byContradiction fun h6 => hw ⟨h5, h6⟩
          rw [if_neg h5, h6]
      rw [e3, if_neg (by decide), e4] at e5
      refine fin _ _ _ ?_ (e'.trans e5)
      rcases ht with ⟨h3, h4⟩ | ⟨i, h3, h4⟩
      · refine .inl ⟨h3, fun i hi h5 h6 => ?_⟩
        rcases Nat.lt_or_ge i kk with h7 | h7
        · exact h4 i h7 h5 h6
        · obtain rfl : i = kk := by omega
          exact hw
      · exact .inr ⟨i, by omega, h4⟩
theorem setG {α : Type} (xs : List α) (u w : Nat) (t z : α) (hu : u < xs.length) : (xs.set u t).getD w z = if w = u then t else xs.getD w z := by
  rw [List.getD_eq_getElem?_getD, List.getElem?_set]
  by_cases h : w = u
  · rw [if_pos h.symm, if_pos hu, if_pos h]; rfl
  · rw [if_neg (fun hh => h hh.symm), if_neg h, ← List.getD_eq_getElem?_getD]
theorem ref_l3 (hN : N ≤ 60) (hcl : cls.length = N) (ch : List (List Int)) (t0 t1 : Int) (t2 : ByteArray) : ∀ (c u k : Nat) (ty : List S23) (dn : List Bool), u + c = N → ty.length = N → dn.length = N → c < k →
    ∃ ty' dn' k', assessorref09_Solve.l3 k N L ty ch dn v cls u t0 t1 t2 = assessorref09_Solve.l0 k' N L ty' ch dn' (wrap64 (v + 1)) ∧ ty'.length = N ∧ dn'.length = N ∧
      (∀ w : Nat, w < N → ty'.getD w z23 = if u ≤ w ∧ 0 ≤ rd cls w then ⟨t0, t1, t2⟩ else ty.getD w z23) ∧ (∀ w : Nat, w < N → dn'.getD w false = if u ≤ w ∧ 0 ≤ rd cls w then true else dn.getD w false) ∧ k ≤ k' + c + 1
  | 0, u, k, ty, dn, hu, h1, h2, hk => by
    obtain ⟨k, rfl⟩ : ∃ m, k = m + 1 := ⟨k - 1, by omega⟩
    have e : assessorref09_Solve.l3 (k + 1) N L ty ch dn v cls u t0 t1 t2 = _ := assessorref09_Solve.l3.eq_def _ _ _ _ _ _ _ _ _ _ _ _
    simp only at e
    rw [if_neg (by omega)] at e
    exact ⟨ty, dn, k, e, h1, h2, fun w hw => (if_neg (fun hh => by omega)).symm, fun w hw => (if_neg (fun hh => by omega)).symm, by omega⟩
  | c + 1, u, k, ty, dn, hu, h1, h2, hk => by
    obtain ⟨k, rfl⟩ : ∃ m, k = m + 1 := ⟨k - 1, by omega⟩
    have hwr : wrap64 ((u : Int) + 1) = ((u + 1 : Nat) : Int) := by rw [wrap_small _ (by omega)]; omega
    have e : assessorref09_Solve.l3 (k + 1) N L ty ch dn v cls u t0 t1 t2 = _ := assessorref09_Solve.l3.eq_def _ _ _ _ _ _ _ _ _ _ _ _
    simp only at e
    rw [if_pos (by omega), if_pos (by omega), if_pos (by omega), hwr] at e
    by_cases h0 : rd cls u ≥ 0
    · rw [if_pos h0, if_pos (by omega), if_pos (by omega), Int.toNat_natCast] at e
      obtain ⟨ty', dn', k', g1, g2, g3, g4, g5, g6⟩ := ref_l3 hN hcl ch t0 t1 t2 c (u + 1) k (ty.set u ⟨t0, t1, t2⟩) (dn.set u true) (by omega) (by rw [List.length_set]; exact h1) (by rw [List.length_set]; exact h2) (by omega)
      refine ⟨ty', dn', k', e.trans g1, g2, g3, fun w hw => ?_, fun w hw => ?_, by omega⟩
      · rw [g4 w hw]
        rw [setG _ _ _ _ _ (by omega)]
        by_cases he : w = u
        · subst he
          rw [if_neg (by omega), if_pos rfl, if_pos ⟨Nat.le_refl _, h0⟩]
        · rw [if_neg he]
          by_cases hc : u + 1 ≤ w ∧ 0 ≤ rd cls w
          · rw [if_pos hc, if_pos ⟨by omega, hc.2⟩]
          · rw [if_neg hc, if_neg (fun hh => hc ⟨by omega, hh.2⟩)]
      · rw [g5 w hw]
        rw [setG _ _ _ _ _ (by omega)]
        by_cases he : w = u
        · subst he
          rw [if_neg (by omega), if_pos rfl, if_pos ⟨Nat.le_refl _, h0⟩]
        · rw [if_neg he]
          by_cases hc : u + 1 ≤ w ∧ 0 ≤ rd cls w
          · rw [if_pos hc, if_pos ⟨by omega, hc.2⟩]
          · rw [if_neg hc, if_neg (fun hh => hc ⟨by omega, hh.2⟩)]
    · rw [if_neg h0] at e
      obtain ⟨ty', dn', k', g1, g2, g3, g4, g5, g6⟩ := ref_l3 hN hcl ch t0 t1 t2 c (u + 1) k _ _ (by omega) h1 h2 (by omega)
      refine ⟨ty', dn', k', e.trans g1, g2, g3, fun w hw => ?_, fun w hw => ?_, by omega⟩
      · rw [g4 w hw]
        by_cases hc : u + 1 ≤ w ∧ 0 ≤ rd cls w
        · rw [if_pos hc, if_pos ⟨by omega, hc.2⟩]
        · rw [if_neg hc, if_neg (fun hh => hc ⟨by
            rcases Nat.eq_or_lt_of_le hh.1 with h3 | h3
            · rw [← h3] at hh; omega
            · omega, hh.2⟩)]
      · rw [g5 w hw]
        by_cases hc : u + 1 ≤ w ∧ 0 ≤ rd cls w
        · rw [if_pos hc, if_pos ⟨by omega, hc.2⟩]
        · rw [if_neg hc, if_neg (fun hh => hc ⟨by
            rcases Nat.eq_or_lt_of_le hh.1 with h3 | h3
            · rw [← h3] at hh; omega
            · omega, hh.2⟩)]
end
theorem ref_outer {N : Nat} {L : List S36} (hV : Valid N L) (hN : N ≤ 60) (hLl : L.length ≤ 80) : ∀ (d v k : Nat) (out : List S23) (ch : List (List Int)) (seen : List Bool), v + d = N → OuI2 N L v out ch seen → 31000 + 32200 * ((d : Int) + 1) ≤ k →
    ∃ r1 r2 seen', PS.assessorref09_Solve.l0 k N L out ch seen v = some (r1, r2, 0) ∧ OuI2 N L N r1 r2 seen' := by
  intro d
  induction d with
  | zero =>
    intro v k out ch seen hv h hk
    obtain ⟨k, rfl⟩ : ∃ m, k = m + 1 := ⟨k - 1, by omega⟩
    obtain rfl : v = N := by omega
    have e : PS.assessorref09_Solve.l0 (k + 1) v L out ch seen v = _ := PS.assessorref09_Solve.l0.eq_def _ _ _ _ _ _ _
    simp only at e
    rw [if_neg (by omega)] at e
    exact ⟨out, ch, seen, e, h⟩
  | succ d ih =>
    intro v k out ch seen hv h hk
    obtain ⟨k, rfl⟩ : ∃ m, k = m + 1 := ⟨k - 1, by omega⟩
    have hvN : v < N := by omega
    have hwr : wrap64 ((v : Int) + 1) = ((v + 1 : Nat) : Int) := by rw [wrap_small _ (by omega)]; omega
    have e : PS.assessorref09_Solve.l0 (k + 1) N L out ch seen v = _ := PS.assessorref09_Solve.l0.eq_def _ _ _ _ _ _ _
    simp only at e
    rw [if_pos (by omega), if_pos (by omega), if_pos (by rw [h.sl]; omega), rdB, hwr] at e
    by_cases hs : seen.getD v false = true
    · rw [if_pos hs] at e
      obtain ⟨u0, hu0, hc0⟩ := (h.sn v hvN).1 hs
      have hnr : ¬ IsRep L v := fun hh => hh u0 hu0 hc0
      obtain ⟨r1, r2, sn', g1, g2⟩ := ih (v + 1) k out ch seen (by omega) ⟨h.ol, h.sl, fun u hu => by
        rw [h.sn u hu]
        constructor
        · rintro ⟨u', h1, h2⟩
          exact ⟨u', by omega, h2⟩
        · rintro ⟨u', h1, h2⟩
          rcases Nat.lt_or_ge u' v with hlt | hge
          · exact ⟨u', hlt, h2⟩
          · obtain rfl : u' = v := by omega
            exact ⟨u0, hu0, hc0.trans h2⟩, h.un, h.oc, h.ok, by rw [reps_succ, if_neg (fun hh => hnr hh.1)]; exact h.cl, by rw [reps_succ, if_neg (fun hh => hnr hh.1)]; exact h.ck⟩ (by omega)
      exact ⟨r1, r2, sn', e.trans g1, g2⟩
    · rw [if_neg hs] at e
      have hrep : IsRep L v := fun u hu hc => hs ((h.sn v hvN).2 ⟨u, hu, hc⟩)
      have hvin : InN N v := ⟨by omega, by omega⟩
      obtain ⟨cls, d1, hF⟩ := distances_X hV hN hvin hLl (k := k) (by omega)
      have hcn : ∀ u : Nat, u < N → (0 ≤ rd cls u ↔ Conn L v u) := fun u hu => hF.conn ⟨by omega, by omega⟩
      rw [d1] at e
      simp only [Option.bind_some] at e
      obtain ⟨b, t0, t1, t2, k1, e1, hb, hbl, hcv, hty, hk1⟩ := ref_l1 (v := (v : Int)) hV hN hLl hvin hF out ch seen L.length 0 k [] 0 0 ⟨#[]⟩ (by omega) (.inl rfl) (by simp) (fun i j hp hlt => by omega) (.inl ⟨rfl, fun i hi => by omega⟩) (by omega)
      rw [show ((0 : Nat) : Int) = 0 from rfl] at e1
      obtain ⟨k1, rfl⟩ : ∃ m, k1 = m + 2 := ⟨k1 - 2, by omega⟩
      have e2 : PS.assessorref09_Solve.l1 (k1 + 1 + 1) N L out ch seen v cls b (L.length : Int) t0 t1 t2 = _ := PS.assessorref09_Solve.l1.eq_def _ _ _ _ _ _ _ _ _ _ _ _ _
      simp only at e2
      rw [if_neg (by omega)] at e2
      have hall : ∀ i j, PairM L v i j → Cov L b i j := fun i j hp => hcv i j hp (.inl hp.jl)
      have j9 : ∀ (ch : List (List Int)) (x y : Int) (z : ByteArray), PS.assessorref09_Solve.j9 (k1 + 1) N L out ch seen v cls x y z = PS.assessorref09_Solve.l3 k1 N L out ch seen v cls 0 x y z := fun ch x y z => PS.assessorref09_Solve.j9.eq_def _ _ _ _ _ _ _ _ _ _ _
      -- what follows the fill
      have sn2 : ∀ (dn' : List Bool), (∀ w : Nat, w < N → dn'.getD w false = if 0 ≤ w ∧ 0 ≤ rd cls w then true else seen.getD w false) → ∀ u : Nat, u < N → (dn'.getD u false = true ↔ seen.getD u false = true ∨ Conn L v u) := fun dn' hd u hu => by
        rw [hd u hu]
        by_cases hc : 0 ≤ rd cls u
        · rw [if_pos ⟨Nat.zero_le _, hc⟩]
          exact ⟨fun _ => .inr ((hcn u hu).1 hc), fun _ => rfl⟩
        · rw [if_neg (fun hh => hc hh.2)]
          exact ⟨fun hh => .inl hh, fun hh => hh.resolve_right (fun h3 => hc ((hcn u hu).2 h3))⟩
      have sn3 : ∀ (dn' : List Bool), (∀ u : Nat, u < N → (dn'.getD u false = true ↔ seen.getD u false = true ∨ Conn L v u)) → ∀ u : Nat, u < N → (dn'.getD u false = true ↔ ∃ u' : Nat, u' < v + 1 ∧ Conn L u' u) := fun dn' hd u hu => by
        rw [hd u hu, h.sn u hu]
        constructor
        · rintro (⟨u', h1, h2⟩ | h0)
          · exact ⟨u', by omega, h2⟩
          · exact ⟨v, by omega, h0⟩
        · rintro ⟨u', h1, h2⟩
          rcases Nat.lt_or_ge u' v with hlt | hge
          · exact .inl ⟨u', hlt, h2⟩
          · obtain rfl : u' = v := by omega
            exact .inr h2
      have apart : ∀ u : Nat, u < N → seen.getD u false = true → ¬ Conn L v u := fun u hu h1 hc => by
        obtain ⟨u', h2, h3⟩ := (h.sn u hu).1 h1
        exact hrep u' h2 (h3.trans hc.symm)
      -- the rest, for the type that is filled in
      have rest : ∀ (ch' : List (List Int)) (x y : Int) (z : ByteArray), PS.assessorref09_Solve.l0 (k + 1) N L out ch seen v = PS.assessorref09_Solve.l3 k1 N L out ch' seen v cls 0 x y z →
          (∀ u : Nat, u < N → Conn L v u → OutOK L u ⟨x, y, z⟩) → ch'.length = (reps L (v + 1)).length → (∀ (j r : Nat) c, (reps L (v + 1))[j]? = some r → ch'[j]? = some c → ChOK2 L r c) →
          ∃ r1 r2 seen', PS.assessorref09_Solve.l0 (k + 1) N L out ch seen v = some (r1, r2, 0) ∧ OuI2 N L N r1 r2 seen' := fun ch' x y z he hok hcl' hck' => by
        obtain ⟨ty', dn', k2, f1, f2, f3, f4, f5, f6⟩ := ref_l3 (L := L) (v := (v : Int)) hN hF.len ch' x y z N 0 k1 out seen (by omega) h.ol h.sl (by omega)
        rw [show ((0 : Nat) : Int) = 0 from rfl, hwr] at f1
        have s2 := sn2 dn' f5
        have ty1 : ∀ u : Nat, u < N → (Conn L v u → ty'.getD u z23 = ⟨x, y, z⟩) ∧ (¬ Conn L v u → ty'.getD u z23 = out.getD u z23) := fun u hu => by
          rw [f4 u hu]
          constructor
          · intro hc
            rw [if_pos ⟨Nat.zero_le _, (hcn u hu).2 hc⟩]
          · intro hc
            rw [if_neg (fun hh => hc ((hcn u hu).1 hh.2))]
        obtain ⟨r1, r2, sn', g1, g2⟩ := ih (v + 1) k2 ty' ch' dn' (by omega) ⟨f2, f3, sn3 dn' s2, fun u hu hns => by
            have hnc : ¬ Conn L v u := fun hc => hns ((s2 u hu).2 (.inr hc))
            rw [(ty1 u hu).2 hnc]
            exact h.un u hu (fun hh => hns ((s2 u hu).2 (.inl hh))), fun u u' hu hu' h1 hcu => by
            rcases (s2 u hu).1 h1 with h1 | h1
            · have hn1 := apart u hu h1
              have hn2 : ¬ Conn L v u' := fun hc => hn1 (hc.trans hcu.symm)
              rw [(ty1 u hu).2 hn1, (ty1 u' hu').2 hn2]
              exact h.oc u u' hu hu' h1 hcu
            · rw [(ty1 u hu).1 h1, (ty1 u' hu').1 (h1.trans hcu)], fun u hu h1 => by
            rcases (s2 u hu).1 h1 with h1 | h1
            · rw [(ty1 u hu).2 (apart u hu h1)]
              exact h.ok u hu h1
            · rw [(ty1 u hu).1 h1]
              exact hok u hu h1, hcl', hck'⟩ (by omega)
        exact ⟨r1, r2, sn', (he.trans f1).trans g1, g2⟩
      have ee : PS.assessorref09_Solve.l0 (k + 1) N L out ch seen v = PS.assessorref09_Solve.l1 (k1 + 1 + 1) N L out ch seen v cls b (L.length : Int) t0 t1 t2 := e.trans e1
      rcases hb with rfl | ⟨a, z, p, hbc, hI, hca⟩
      · -- no chain
        rw [if_neg (by decide), j9] at e2
        have hno : ¬ HasCf L v := by
          rintro ⟨n, i, h1, h2, h3, j, h4, h5, h6, h7, h8⟩
          exact (hall i j ⟨by omega, h5, h2, h6, h3, h3.trans ⟨n, h8⟩, h7⟩).ne rfl
        refine rest ch t0 t1 t2 (ee.trans e2) (fun u hu hcu => ⟨fun hh => absurd (hh.imp fun n hn => hn.conn hcu) hno, fun _ => ?_⟩) (by rw [reps_succ, if_neg (fun hh => hno hh.2)]; exact h.cl) (by rw [reps_succ, if_neg (fun hh => hno hh.2)]; exact h.ck)
        rcases hty with ⟨h1, h2⟩ | ⟨i, h1, h2, h3, h4, h5⟩
        · exact .inl ⟨h1, fun i hi h0 hc => h2 i hi h0 (hcu.trans hc)⟩
        · exact .inr ⟨i, h1, h2, hcu.symm.trans h3, h4, h5⟩
      · have hbn : b ≠ [] := by rw [hbc]; simp
        have hb0 : (b.length : Int) > 0 := by rw [hbc]; simp; omega
        have hhas : HasCf L v := ⟨_, hI.cf hca⟩
        have hrl : (reps L v).length ≤ v := by
          unfold reps
          exact Nat.le_trans (List.length_filter_le _ _) (by simp)
        rw [if_pos hb0, if_pos (by rw [h.cl]; omega), j9] at e2
        have hch : ChOK2 L v b := ⟨a, z, p, hbc, hI, hca, fun n hn => by
            obtain ⟨i, h1, h2, h3, j, h4, h5, h6, h7, h8⟩ := hn
            have := (hall i j ⟨by omega, h5, h2, h6, h3, h3.trans ⟨n, h8⟩, h7⟩).wk n h8
            rw [hbc] at this
            simp at this
            omega, fun a' z' p' hI' hc' => by
            obtain ⟨i, hi⟩ := Int.eq_ofNat_of_zero_le hI'.ra.1
            obtain ⟨j, hj⟩ := Int.eq_ofNat_of_zero_le hI'.rz.1
            subst hi hj
            have hlt := hI'.lt
            have hrz := hI'.rz.2
            exact (hall i j ⟨by omega, by omega, hI'.ka, hI'.kz, hc', hc'.trans ⟨_, wayC_wk p' _ _ hI'.rp hI'.way⟩, hI'.ex⟩).le p' hI'⟩
        refine rest (ch ++ [b]) 0 0 ⟨#[]⟩ (ee.trans e2) (fun u hu hcu => ⟨fun _ => rfl, fun hno => absurd (hhas.imp (fun n hn => hn.conn hcu.symm)) hno⟩) ?_ ?_
        · rw [reps_succ, if_pos ⟨hrep, hhas⟩, List.length_append, List.length_append, h.cl]; rfl
        · rw [reps_succ, if_pos ⟨hrep, hhas⟩]
          intro j r c' hj hc'
          rcases Nat.lt_or_ge j (reps L v).length with hlt | hge
          · rw [List.getElem?_append_left hlt] at hj
            rw [List.getElem?_append_left (by rw [h.cl]; exact hlt)] at hc'
            exact h.ck j r c' hj hc'
          · rw [List.getElem?_append_right hge] at hj
            rw [List.getElem?_append_right (by rw [h.cl]; exact hge)] at hc'
            have h0 : j - (reps L v).length = 0 := by
              rcases Nat.eq_zero_or_pos (j - (reps L v).length) with h0 | h0
              · exact h0
              · rw [List.getElem?_eq_none (by simp; omega)] at hj; cases hj
            rw [h0] at hj
            rw [h.cl, h0] at hc'
            injection hj with hj
            injection hc' with hc'
            subst hj hc'
            exact hch
theorem ref_solve {N : Nat} {L : List S36} (hV : Valid N L) (hN : N ≤ 60) (hLl : L.length ≤ 80) {k : Nat} (hk : 3000000 ≤ k) : ∃ out ch, PS.assessorref09_Solve.f k N L = some (out, ch, 0) ∧ Solved2 N L out ch := by
  have h0 : OuI2 N L 0 (List.replicate N z23) [] (List.replicate N false) := by
    have hf : ∀ u, (List.replicate N false).getD u false = false := fun u => by
      rw [List.getD_eq_getElem?_getD, List.getElem?_replicate]
      split <;> rfl
    have hz : ∀ u, (List.replicate N z23).getD u z23 = z23 := fun u => by
      rw [List.getD_eq_getElem?_getD, List.getElem?_replicate]
      split <;> rfl
    refine ⟨by simp, by simp, fun u hu => ?_, fun u hu _ => hz u, fun u u' _ _ hs => ?_, fun u _ hs => ?_, rfl, fun j r c hj => ?_⟩
    · rw [hf u]
      constructor
      · intro hh; cases hh
      · rintro ⟨u', h1, _⟩; omega
    · rw [hf u] at hs; cases hs
    · rw [hf u] at hs; cases hs
    · simp [reps] at hj
  obtain ⟨r1, r2, sn, h1, h2⟩ := ref_outer hV hN hLl N 0 k _ _ _ (by omega) h0 (by omega)
  have hall : ∀ u : Nat, u < N → sn.getD u false = true := fun u hu => (h2.sn u hu).2 ⟨u, hu, Conn.refl L u⟩
  refine ⟨r1, r2, ?_, h2.ol, fun u u' hu hu' hc => h2.oc u u' hu hu' (hall u hu) hc, fun u hu => h2.ok u hu (hall u hu), h2.cl, h2.ck⟩
  have hval : PF.assessorref09_valid.f k N L = some 0 := by
    obtain ⟨k, rfl⟩ : ∃ m, k = m + 1 := ⟨k - 1, by omega⟩
    unfold PF.assessorref09_valid.f
    rw [if_neg (by omega), decide_eq_false (by omega)]
    simp only [PF.assessorref09_valid.j0]
    have := valid_yes (by omega) hV L.length 0 k (by omega) (by omega)
    rw [show ((0 : Nat) : Int) = 0 from rfl] at this
    rw [this]
    simp
  unfold PS.assessorref09_Solve.f
  rw [hval]
  simp only [Option.bind_some]
  rw [if_pos trivial, if_pos (by omega), if_pos (by omega), if_pos (by omega), Int.toNat_natCast]
  exact h1
end Go.Proofs.Ytjbafigageingaa
