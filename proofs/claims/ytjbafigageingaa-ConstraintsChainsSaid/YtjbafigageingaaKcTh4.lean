import Derived.Test.YtjbafigageingaaKcTh3
namespace Go.Proofs.Ytjbafigageingaa
open Go.RowKit Go.Proofs.YtjbafigageingaaW.PrintWords Go.Proofs.YtjbafigageingaaW.PrintLast Go.Proofs.YtjbafigageingaaW.PrintMore
set_option linter.unusedVariables false
set_option linter.unusedSimpArgs false
def Conn (L : List S36) (u v : Int) : Prop := ∃ n, WkL L n u v
theorem Conn.refl (L : List S36) (u : Int) : Conn L u u := ⟨0, .nil u⟩
theorem Conn.symm {L : List S36} {u v : Int} (h : Conn L u v) : Conn L v u := h.imp (fun _ h => h.symm)
theorem Conn.trans {L : List S36} {u v w : Int} (h : Conn L u v) (h2 : Conn L v w) : Conn L u w := by
  obtain ⟨n, h⟩ := h
  obtain ⟨m, h2⟩ := h2
  exact ⟨n + m, h.trans h2⟩
/-- a mark of the class of v, with an opponent n equalities away -/
def Cf (L : List S36) (v : Int) (n : Nat) : Prop := ∃ i : Nat, i < L.length ∧ (cAt L i).f0 = 0 ∧ Conn L v (cAt L i).f1 ∧ Opp L i n
def HasCf (L : List S36) (v : Int) : Prop := ∃ n, Cf L v n
theorem Cf.conn {L : List S36} {u v : Int} {n : Nat} (h : Cf L v n) (hc : Conn L u v) : Cf L u n := by
  obtain ⟨i, h1, h2, h3, h4⟩ := h
  exact ⟨i, h1, h2, hc.trans h3, h4⟩
/-- a mark that is a whole type -/
def Whole (t : S23) : Prop := t.f0 ≠ 5 ∧ t.f0 ≠ 6
/-- t is the type that the marks of ps give -/
def TyOf (L : List S36) (ps : List Int) (t : S23) : Prop := (t = z23 ∧ ∀ i ∈ ps, ¬ Whole (cAt L i).f3) ∨ ∃ i ∈ ps, Whole (cAt L i).f3 ∧ t = (cAt L i).f3
def BG (L : List S36) (ps : List Int) : Option (List Int) → Prop
  | none => ∀ i ∈ ps, ∀ n, ¬ Opp L i n
  | some c => ∃ i ∈ ps, ∃ p z, c = i :: (p ++ [z]) ∧ IsCh L i z p ∧ ∀ i' ∈ ps, ∀ n, Opp L i' n → p.length ≤ n
theorem best_ok {N : Nat} {L : List S36} {E : EE} {M : MM} (hb : Built N L E M) (hV : Valid N L) (hN : N ≤ 4096) {k : Nat} (hk : 10000 ≤ k) : ∀ (zs ps : List Int) (b : Option (List Int)) (t : S23), (∀ i ∈ zs, ∃ n : Nat, i = n ∧ n < L.length ∧ (cAt L n).f0 = 0) → BG L ps b → TyOf L ps t →
    ∃ r, bestF E L M k zs b t = some r ∧ BG L (ps ++ zs) r.1 ∧ TyOf L (ps ++ zs) r.2
  | [], ps, b, t, _, h1, h2 => ⟨(b, t), rfl, by rw [List.append_nil]; exact h1, by rw [List.append_nil]; exact h2⟩
  | i :: zs, ps, b, t, hz, h1, h2 => by
    obtain ⟨n, rfl, hn, hn0⟩ := hz i (List.mem_cons_self ..)
    obtain ⟨r, c1, c2, c3⟩ := chain_ok hb hV hN hn hn0 hk
    have hb' : BG L (ps ++ [(n : Int)]) (pickB b r) := by
      cases r with
      | none =>
        have hno := c2 rfl
        cases b with
        | none =>
          intro x hx m
          rcases List.mem_append.1 hx with hx | hx
          · exact h1 x hx m
          · rw [List.mem_singleton.1 hx]; exact hno m
        | some d =>
          obtain ⟨i0, hi0, p, z, hd, hc, hm⟩ := h1
          refine ⟨i0, List.mem_append_left _ hi0, p, z, hd, hc, fun x hx m hO => ?_⟩
          rcases List.mem_append.1 hx with hx | hx
          · exact hm x hx m hO
          · rw [List.mem_singleton.1 hx] at hO; exact absurd hO (hno m)
      | some c =>
        obtain ⟨p, z, hc, hIs, hm⟩ := c3 c rfl
        have new : (∀ x ∈ ps, ∀ m, Opp L x m → p.length ≤ m) → BG L (ps ++ [(n : Int)]) (some c) := fun hold => by
          refine ⟨(n : Int), by simp, p, z, hc, hIs, fun x hx m hO => ?_⟩
          rcases List.mem_append.1 hx with hx | hx
          · exact hold x hx m hO
          · rw [List.mem_singleton.1 hx] at hO; exact hm m hO
        cases b with
        | none => exact new (fun x hx m hO => absurd hO (h1 x hx m))
        | some d =>
          obtain ⟨i0, hi0, p0, z0, hd, hc0, hm0⟩ := h1
          have lc : c.length = p.length + 2 := by rw [hc]; simp
          have ld : d.length = p0.length + 2 := by rw [hd]; simp
          simp only [pickB]
          by_cases hlt : c.length < d.length
          · rw [if_pos hlt]
            exact new (fun x hx m hO => by have := hm0 x hx m hO; omega)
          · rw [if_neg hlt]
            refine ⟨i0, List.mem_append_left _ hi0, p0, z0, hd, hc0, fun x hx m hO => ?_⟩
            rcases List.mem_append.1 hx with hx | hx
            · exact hm0 x hx m hO
            · rw [List.mem_singleton.1 hx] at hO
              have := hm m hO
              omega
    have ht' : TyOf L (ps ++ [(n : Int)]) (pickT (cAt L n).f3 t) := by
      unfold pickT
      split
      · rename_i hw
        exact .inr ⟨n, by simp, hw, rfl⟩
      · rename_i hw
        rcases h2 with ⟨h2, h3⟩ | ⟨j, hj, h3⟩
        · refine .inl ⟨h2, fun x hx => ?_⟩
          rcases List.mem_append.1 hx with hx | hx
          · exact h3 x hx
          · rw [List.mem_singleton.1 hx]; exact hw
        · exact .inr ⟨j, List.mem_append_left _ hj, h3⟩
    obtain ⟨r', g1, g2, g3⟩ := best_ok hb hV hN hk zs (ps ++ [(n : Int)]) _ _ (fun x hx => hz x (List.mem_cons_of_mem _ hx)) hb' ht'
    rw [List.append_assoc] at g2 g3
    refine ⟨r', ?_, g2, g3⟩
    simp only [bestF]
    rw [if_pos (show 0 ≤ (n : Int) ∧ (n : Int) < (L.length : Int) by omega), c1]
    exact g1
theorem getD_set (s : List Bool) (w u : Nat) (hw : w < s.length) : (s.set w true).getD u false = true ↔ u = w ∨ s.getD u false = true := by
  simp only [List.getD_eq_getElem?_getD, List.getElem?_set]
  by_cases h : w = u
  · subst h; simp [hw]
  · have : u ≠ w := fun hh => h hh.symm
    simp [h, this]
theorem coll_ok {M : MM} {far : List Int} {B : Nat} (hM : ∀ v, (M v).length ≤ B) : ∀ (d w : Nat) (c m : List Int) (s : List Bool), w + d ≤ s.length → m.length + d * B ≤ 1000000 →
    ∃ r, collF M far d w c m s = some r ∧ (∀ x, x ∈ r.1 ↔ x ∈ c ∨ ∃ u : Nat, w ≤ u ∧ u < w + d ∧ x = u ∧ 0 ≤ rd far u) ∧ (∀ x, x ∈ r.2.1 ↔ x ∈ m ∨ ∃ u : Nat, w ≤ u ∧ u < w + d ∧ x ∈ M u ∧ 0 ≤ rd far u) ∧ r.2.2.length = s.length ∧
      ∀ u, r.2.2.getD u false = true ↔ s.getD u false = true ∨ (w ≤ u ∧ u < w + d ∧ 0 ≤ rd far u)
  | 0, w, c, m, s, _, _ => ⟨(c, m, s), rfl, (fun x => ⟨.inl, fun h => h.elim id (fun ⟨u, h1, h2, _⟩ => by omega)⟩), (fun x => ⟨.inl, fun h => h.elim id (fun ⟨u, h1, h2, _⟩ => by omega)⟩), rfl, (fun u => ⟨.inl, fun h => h.elim id (fun ⟨h1, h2, _⟩ => by omega)⟩)⟩
  | d + 1, w, c, m, s, hs, hm => by
    have hMw := hM w
    rw [Nat.add_mul, Nat.one_mul] at hm
    simp only [collF]
    by_cases h0 : 0 ≤ rd far w
    · rw [if_pos h0, if_pos (show m.length + (M w).length ≤ 1000000 by omega)]
      obtain ⟨r, r1, r2, r3, r4, r5⟩ := coll_ok hM d (w + 1) (c ++ [(w : Int)]) (m ++ M w) (s.set w true) (by rw [List.length_set]; omega) (by rw [List.length_append]; omega)
      refine ⟨r, r1, fun x => ?_, fun x => ?_, by rw [r4, List.length_set], fun u => ?_⟩
      · rw [r2 x, List.mem_append, List.mem_singleton]
        constructor
        · rintro ((h | h) | ⟨u, h1, h2, h3⟩)
          · exact .inl h
          · exact .inr ⟨w, Nat.le_refl _, by omega, h, h0⟩
          · exact .inr ⟨u, by omega, by omega, h3⟩
        · rintro (h | ⟨u, h1, h2, h3, h4⟩)
          · exact .inl (.inl h)
          · rcases Nat.eq_or_lt_of_le h1 with rfl | h1
            · exact .inl (.inr h3)
            · exact .inr ⟨u, h1, by omega, h3, h4⟩
      · rw [r3 x, List.mem_append]
        constructor
        · rintro ((h | h) | ⟨u, h1, h2, h3⟩)
          · exact .inl h
          · exact .inr ⟨w, Nat.le_refl _, by omega, h, h0⟩
          · exact .inr ⟨u, by omega, by omega, h3⟩
        · rintro (h | ⟨u, h1, h2, h3, h4⟩)
          · exact .inl (.inl h)
          · rcases Nat.eq_or_lt_of_le h1 with rfl | h1
            · exact .inl (.inr h3)
            · exact .inr ⟨u, h1, by omega, h3, h4⟩
      · rw [r5 u, getD_set s w u (by omega)]
        constructor
        · rintro ((h | h) | ⟨h1, h2, h3⟩)
          · subst h; exact .inr ⟨Nat.le_refl _, by omega, h0⟩
          · exact .inl h
          · exact .inr ⟨by omega, by omega, h3⟩
        · rintro (h | ⟨h1, h2, h3⟩)
          · exact .inl (.inr h)
          · rcases Nat.eq_or_lt_of_le h1 with rfl | h1
            · exact .inl (.inl rfl)
            · exact .inr ⟨h1, by omega, h3⟩
    · rw [if_neg h0]
      obtain ⟨r, r1, r2, r3, r4, r5⟩ := coll_ok hM d (w + 1) c m s (by omega) (by omega)
      have ne : ∀ {u : Nat}, 0 ≤ rd far u → w ≤ u → w + 1 ≤ u := fun {u} hu h1 => by
        rcases Nat.eq_or_lt_of_le h1 with rfl | h1
        · exact absurd hu h0
        · exact h1
      refine ⟨r, r1, fun x => ?_, fun x => ?_, r4, fun u => ?_⟩
      · rw [r2 x]
        exact ⟨fun h => h.imp id (fun ⟨u, h1, h2, h3⟩ => ⟨u, by omega, by omega, h3⟩), fun h => h.imp id (fun ⟨u, h1, h2, h3, h4⟩ => ⟨u, ne h4 h1, by omega, h3, h4⟩)⟩
      · rw [r3 x]
        exact ⟨fun h => h.imp id (fun ⟨u, h1, h2, h3⟩ => ⟨u, by omega, by omega, h3⟩), fun h => h.imp id (fun ⟨u, h1, h2, h3, h4⟩ => ⟨u, ne h4 h1, by omega, h3, h4⟩)⟩
      · rw [r5 u]
        exact ⟨fun h => h.imp id (fun ⟨h1, h2, h3⟩ => ⟨by omega, by omega, h3⟩), fun h => h.imp id (fun ⟨h1, h2, h3⟩ => ⟨ne h3 h1, by omega, h3⟩)⟩
theorem fill_get (t : S23) : ∀ (ws : List Int) (out : List S23), (∀ x ∈ ws, 0 ≤ x ∧ x < (out.length : Int)) → (fillF t ws out).length = out.length ∧ ∀ u : Nat, (fillF t ws out).getD u z23 = if (u : Int) ∈ ws then t else out.getD u z23
  | [], out, _ => ⟨rfl, fun u => by simp [fillF]⟩
  | x :: ws, out, h => by
    have hx := h x (List.mem_cons_self ..)
    obtain ⟨h1, h2⟩ := fill_get t ws (out.set x.toNat t) (fun y hy => by rw [List.length_set]; exact h y (List.mem_cons_of_mem _ hy))
    simp only [fillF]
    refine ⟨by rw [h1, List.length_set], fun u => ?_⟩
    rw [h2 u]
    by_cases hu : (u : Int) ∈ ws
    · simp [hu]
    · rw [if_neg hu]
      simp only [List.getD_eq_getElem?_getD, List.getElem?_set, List.mem_cons]
      by_cases he : (u : Int) = x
      · have : x.toNat = u := by omega
        have h3 : u < out.length := by omega
        simp [he, this, h3]
      · have : ¬ x.toNat = u := by omega
        simp [he, hu, this]
def IsRep (L : List S36) (r : Nat) : Prop := ∀ u : Nat, u < r → ¬ Conn L u r
/-- what is told of a vertex's type -/
def OutOK (L : List S36) (u : Int) (t : S23) : Prop :=
  (HasCf L u → t = z23) ∧ (¬ HasCf L u → (t = z23 ∧ ∀ i : Nat, i < L.length → (cAt L i).f0 = 0 → Conn L u (cAt L i).f1 → ¬ Whole (cAt L i).f3) ∨ ∃ i : Nat, i < L.length ∧ (cAt L i).f0 = 0 ∧ Conn L u (cAt L i).f1 ∧ Whole (cAt L i).f3 ∧ t = (cAt L i).f3)
/-- c is a chain of the class of r, and none is shorter -/
def ChOK (L : List S36) (r : Nat) (c : List Int) : Prop := ∃ a z p, c = a :: (p ++ [z]) ∧ IsCh L a z p ∧ Conn L r (cAt L a).f1 ∧ ∀ n, Cf L r n → p.length ≤ n
open Classical in
noncomputable def reps (L : List S36) (v : Nat) : List Nat := (List.range v).filter (fun r => decide (IsRep L r ∧ HasCf L r))
open Classical in
theorem reps_succ (L : List S36) (v : Nat) : reps L (v + 1) = if IsRep L v ∧ HasCf L v then reps L v ++ [v] else reps L v := by
  unfold reps
  rw [List.range_succ, List.filter_append]
  by_cases h : IsRep L v ∧ HasCf L v
  · rw [if_pos h]; simp [h]
  · rw [if_neg h]; simp [h]
structure OuI (N : Nat) (L : List S36) (v : Nat) (out : List S23) (ch : List (List Int)) (seen : List Bool) : Prop where
  ol : out.length = N
  sl : seen.length = N
  sn : ∀ u : Nat, u < N → (seen.getD u false = true ↔ ∃ u' : Nat, u' < v ∧ Conn L u' u)
  un : ∀ u : Nat, u < N → ¬ seen.getD u false = true → out.getD u z23 = z23
  oc : ∀ u u' : Nat, u < N → u' < N → seen.getD u false = true → Conn L u u' → out.getD u z23 = out.getD u' z23
  ok : ∀ u : Nat, u < N → seen.getD u false = true → OutOK L u (out.getD u z23)
  cl : ch.length = (reps L v).length
  ck : ∀ (j r : Nat) c, (reps L v)[j]? = some r → ch[j]? = some c → ChOK L r c
theorem outer_ok {N : Nat} {L : List S36} {E : EE} {M : MM} (hb : Built N L E M) (hV : Valid N L) (hN : N ≤ 60) (hLl : L.length ≤ 80) {k : Nat} (hk : 10000 ≤ k) : ∀ (d v : Nat) (out : List S23) (ch : List (List Int)) (seen : List Bool), v + d = N → OuI N L v out ch seen →
    ∃ r seen', outerF E L M k d v out ch seen = some r ∧ OuI N L N r.1 r.2 seen'
  | 0, v, out, ch, seen, hv, h => ⟨(out, ch), seen, rfl, by rw [Nat.add_zero] at hv; rw [← hv]; rw [← hv] at h; exact h⟩
  | d + 1, v, out, ch, seen, hv, h => by
    have hvN : v < N := by omega
    simp only [outerF]
    by_cases hs : seen.getD v false = true
    · rw [if_pos hs]
      obtain ⟨u0, hu0, hc0⟩ := (h.sn v hvN).1 hs
      have hnr : ¬ IsRep L v := fun hh => hh u0 hu0 hc0
      refine outer_ok hb hV hN hLl hk d (v + 1) out ch seen (by omega) ⟨h.ol, h.sl, fun u hu => ?_, h.un, h.oc, h.ok, ?_, ?_⟩
      · rw [h.sn u hu]
        constructor
        · rintro ⟨u', h1, h2⟩
          exact ⟨u', by omega, h2⟩
        · rintro ⟨u', h1, h2⟩
          rcases Nat.lt_or_ge u' v with hlt | hge
          · exact ⟨u', hlt, h2⟩
          · obtain rfl : u' = v := by omega
            exact ⟨u0, hu0, hc0.trans h2⟩
      · rw [reps_succ, if_neg (fun hh => hnr hh.1)]; exact h.cl
      · rw [reps_succ, if_neg (fun hh => hnr hh.1)]; exact h.ck
    · rw [if_neg hs]
      have hrep : IsRep L v := fun u hu hc => hs ((h.sn v hvN).2 ⟨u, hu, hc⟩)
      have hvin : InN N v := ⟨by omega, by omega⟩
      obtain ⟨far, hfar, hF⟩ := hb.dist hV (by omega) (F := [(v : Int)]) (fun f hf => by rw [List.mem_singleton.1 hf]; exact hvin) (by simp) (k := k) (by simp; omega)
      have hcn : ∀ u : Nat, u < N → (0 ≤ rd far u ↔ Conn L v u) := fun u hu => by
        rcases hF.far u ⟨by omega, by omega⟩ with ⟨g1, g2⟩ | ⟨n, g1, _, ⟨f, hf, g3⟩, _⟩
        · constructor
          · intro h0; omega
          · rintro ⟨n, hn⟩
            exact absurd hn (g2 _ (List.mem_singleton.2 rfl) n)
        · rw [List.mem_singleton.1 hf] at g3
          exact ⟨fun _ => ⟨n, g3⟩, fun _ => by omega⟩
      have hElen := hb.len
      obtain ⟨⟨kl, ml, sn'⟩, r1, r2, r3, r4, r5⟩ := coll_ok (far := far) hb.mlen E.length 0 [] [] seen (by rw [hElen, h.sl]; omega) (by rw [hElen]; have : N * L.length ≤ 60 * 80 := Nat.mul_le_mul hN hLl; simp; omega)
      simp only [Nat.zero_add, Nat.zero_le, true_and, List.not_mem_nil, false_or] at r2 r3 r4 r5
      rw [hElen] at r2 r3 r5
      -- the marks of the class
      have hml : ∀ x, x ∈ sortI ml ↔ ∃ n : Nat, x = n ∧ n < L.length ∧ (cAt L n).f0 = 0 ∧ Conn L v (cAt L n).f1 := fun x => by
        rw [(sortI_perm ml).mem_iff, r3 x]
        constructor
        · rintro ⟨u, hu, hx, h0⟩
          obtain ⟨n, rfl, hn⟩ := (hb.mark u x).1 hx
          obtain ⟨c0, c1, _⟩ := markAt_c hn
          exact ⟨n, rfl, markAt_lt hn, c0, by rw [c1]; exact (hcn u hu).1 h0⟩
        · rintro ⟨n, rfl, hn, h0, hc⟩
          have hin : InN N (cAt L n).f1 := by
            obtain ⟨m, hm⟩ := hc
            exact wkL_in hV hvin hm
          obtain ⟨u, hu⟩ := Int.eq_ofNat_of_zero_le hin.1
          rw [hu] at hin hc
          have huN : u < N := by have := hin.2; omega
          refine ⟨u, huN, ?_, (hcn u huN).2 hc⟩
          refine (hb.mark _ _).2 ⟨n, rfl, L[n], List.getElem?_eq_getElem hn, ?_⟩
          have := cAt_of (List.getElem?_eq_getElem hn)
          rw [this] at h0 hu
          exact ⟨h0, hu⟩
      obtain ⟨⟨bb, tt⟩, b1, b2, b3⟩ := best_ok hb hV (by omega) hk (sortI ml) [] none z23 (fun i hi => by
        obtain ⟨n, h1, h2, h3, _⟩ := (hml i).1 hi
        exact ⟨n, h1, h2, h3⟩) (fun i hi => by cases hi) (.inl ⟨rfl, fun i hi => by cases hi⟩)
      rw [List.nil_append] at b2 b3
      have hcf : ∀ n, Cf L v n ↔ ∃ x ∈ sortI ml, Opp L x n := fun n => by
        constructor
        · rintro ⟨i, h1, h2, h3, h4⟩
          exact ⟨i, (hml i).2 ⟨i, rfl, h1, h2, h3⟩, h4⟩
        · rintro ⟨x, hx, hO⟩
          obtain ⟨i, rfl, h1, h2, h3⟩ := (hml x).1 hx
          exact ⟨i, h1, h2, h3, hO⟩
      rw [hfar]
      simp only [Option.bind_some]
      rw [r1]
      simp only [Option.bind_some]
      rw [b1]
      simp only [Option.bind_some]
      have sn2 : ∀ u : Nat, u < N → (sn'.getD u false = true ↔ ∃ u' : Nat, u' < v + 1 ∧ Conn L u' u) := fun u hu => by
        rw [r5 u, h.sn u hu]
        constructor
        · rintro (⟨u', h1, h2⟩ | ⟨_, h0⟩)
          · exact ⟨u', by omega, h2⟩
          · exact ⟨v, by omega, (hcn u hu).1 h0⟩
        · rintro ⟨u', h1, h2⟩
          rcases Nat.lt_or_ge u' v with hlt | hge
          · exact .inl ⟨u', hlt, h2⟩
          · obtain rfl : u' = v := by omega
            exact .inr ⟨hu, (hcn u hu).2 h2⟩
      have old : ∀ u : Nat, u < N → sn'.getD u false = true → seen.getD u false = true ∨ Conn L v u := fun u hu h1 => by
        rcases (r5 u).1 h1 with h1 | ⟨_, h1⟩
        · exact .inl h1
        · exact .inr ((hcn u hu).1 h1)
      have apart : ∀ u : Nat, u < N → seen.getD u false = true → ¬ Conn L v u := fun u hu h1 hc => by
        obtain ⟨u', h2, h3⟩ := (h.sn u hu).1 h1
        exact hrep u' h2 (h3.trans hc.symm)
      cases bb with
      | some c =>
        obtain ⟨i0, hi0, p, z, hc, hIs, hmin⟩ := b2
        obtain ⟨n0, hn0, hn0l, hn00, hn0c⟩ := (hml i0).1 hi0
        have hhas : HasCf L v := by
          refine ⟨p.length, (hcf _).2 ⟨i0, hi0, ?_⟩⟩
          obtain ⟨zn, hzn⟩ := Int.eq_ofNat_of_zero_le hIs.rz.1
          have hw := wayC_wk p _ _ hIs.rp hIs.way
          have hlt := hIs.lt
          have hrz := hIs.rz.2
          have hkz := hIs.kz
          have hex := hIs.ex
          rw [hzn] at hlt hrz hkz hex hw
          exact ⟨zn, hlt, by omega, hkz, hex, hw⟩
        have hch : ChOK L v c := ⟨i0, z, p, hc, hIs, by rw [hn0]; exact hn0c, fun n hn => by
          obtain ⟨x, hx, hO⟩ := (hcf n).1 hn
          exact hmin x hx n hO⟩
        refine outer_ok hb hV hN hLl hk d (v + 1) out (ch ++ [c]) sn' (by omega) ⟨h.ol, by rw [r4, h.sl], sn2, fun u hu hns => h.un u hu (fun hh => hns ((r5 u).2 (.inl hh))), fun u u' hu hu' h1 hcu => ?_, fun u hu h1 => ?_, ?_, ?_⟩
        · rcases old u hu h1 with h1 | h1
          · exact h.oc u u' hu hu' h1 hcu
          · rw [h.un u hu (fun hh => apart u hu hh h1), h.un u' hu' (fun hh => apart u' hu' hh (h1.trans hcu))]
        · rcases old u hu h1 with h1 | h1
          · exact h.ok u hu h1
          · rw [h.un u hu (fun hh => apart u hu hh h1)]
            exact ⟨fun _ => rfl, fun hno => absurd (hhas.imp (fun n hn => hn.conn h1.symm)) hno⟩
        · rw [reps_succ, if_pos ⟨hrep, hhas⟩, List.length_append, List.length_append, h.cl]; rfl
        · rw [reps_succ, if_pos ⟨hrep, hhas⟩]
          intro j r c' hj hc'
          rcases Nat.lt_or_ge j (reps L v).length with hlt | hge
          · rw [List.getElem?_append_left hlt] at hj
            rw [List.getElem?_append_left (by rw [h.cl]; exact hlt)] at hc'
            exact h.ck j r c' hj hc'
          · rw [List.getElem?_append_right hge] at hj
            rw [List.getElem?_append_right (by rw [h.cl]; exact hge)] at hc'
            have h0 : j - (reps L v).length = 0 := by
              rcases Nat.eq_zero_or_pos (j - (reps L v).length) with h0 | h0
              · exact h0
              · rw [List.getElem?_eq_none (by simp; omega)] at hj; cases hj
            rw [h0] at hj
            rw [h.cl, h0] at hc'
            injection hj with hj
            injection hc' with hc'
            subst hj hc'
            exact hch
      | none =>
        have hno : ¬ HasCf L v := fun ⟨n, hn⟩ => by
          obtain ⟨x, hx, hO⟩ := (hcf n).1 hn
          exact b2 x hx n hO
        have hkl : ∀ u : Nat, (u : Int) ∈ kl ↔ u < N ∧ 0 ≤ rd far u := fun u => by
          rw [r2]
          constructor
          · rintro ⟨u', h1, h2, h3⟩
            obtain rfl : u = u' := by omega
            exact ⟨h1, h3⟩
          · rintro ⟨h1, h2⟩
            exact ⟨u, h1, rfl, h2⟩
        obtain ⟨f1, f2⟩ := fill_get tt kl out (fun x hx => by
          obtain ⟨u, h1, rfl, _⟩ := (r2 x).1 hx
          rw [h.ol]
          omega)
        have hv : ∀ u : Nat, u < N → (Conn L v u → (fillF tt kl out).getD u z23 = tt) ∧ (¬ Conn L v u → (fillF tt kl out).getD u z23 = out.getD u z23) := fun u hu => by
          rw [f2 u]
          constructor
          · intro hc
            rw [if_pos ((hkl u).2 ⟨hu, (hcn u hu).2 hc⟩)]
          · intro hc
            rw [if_neg (fun hh => hc ((hcn u hu).1 ((hkl u).1 hh).2))]
        refine outer_ok hb hV hN hLl hk d (v + 1) (fillF tt kl out) ch sn' (by omega) ⟨by rw [f1, h.ol], by rw [r4, h.sl], sn2, fun u hu hns => ?_, fun u u' hu hu' h1 hcu => ?_, fun u hu h1 => ?_, ?_, ?_⟩
        · have hnc : ¬ Conn L v u := fun hc => hns ((sn2 u hu).2 ⟨v, by omega, hc⟩)
          rw [(hv u hu).2 hnc]
          exact h.un u hu (fun hh => hns ((r5 u).2 (.inl hh)))
        · rcases old u hu h1 with h1 | h1
          · have hn1 := apart u hu h1
            have hn2 : ¬ Conn L v u' := fun hc => hn1 (hc.trans hcu.symm)
            rw [(hv u hu).2 hn1, (hv u' hu').2 hn2]
            exact h.oc u u' hu hu' h1 hcu
          · rw [(hv u hu).1 h1, (hv u' hu').1 (h1.trans hcu)]
        · rcases old u hu h1 with h1 | h1
          · rw [(hv u hu).2 (apart u hu h1)]
            exact h.ok u hu h1
          · rw [(hv u hu).1 h1]
            refine ⟨fun hh => absurd (hh.imp (fun n hn => hn.conn h1)) hno, fun _ => ?_⟩
            rcases b3 with ⟨b3, b4⟩ | ⟨x, hx, b4, b5⟩
            · exact .inl ⟨b3, fun i hi h0 hc => b4 i ((hml i).2 ⟨i, rfl, hi, h0, h1.trans hc⟩)⟩
            · obtain ⟨i, rfl, hi, h0, hc⟩ := (hml x).1 hx
              exact .inr ⟨i, hi, h0, h1.symm.trans hc, b4, b5⟩
        · rw [reps_succ, if_neg (fun hh => hno hh.2)]; exact h.cl
        · rw [reps_succ, if_neg (fun hh => hno hh.2)]; exact h.ck
/-- Solve's answer at valid constraints. -/
structure Solved (N : Nat) (L : List S36) (out : List S23) (ch : List (List Int)) : Prop where
  ol : out.length = N
  oc : ∀ u u' : Nat, u < N → u' < N → Conn L u u' → out.getD u z23 = out.getD u' z23
  ok : ∀ u : Nat, u < N → OutOK L u (out.getD u z23)
  cl : ch.length = (reps L N).length
  ck : ∀ (j r : Nat) c, (reps L N)[j]? = some r → ch[j]? = some c → ChOK L r c
theorem solve_valid {N : Nat} {L : List S36} (hV : Valid N L) (hN : N ≤ 60) (hLl : L.length ≤ 80) : ∃ out ch, solveF N L 10000 = some (out, ch, 0) ∧ Solved N L out ch := by
  obtain ⟨⟨E, M⟩, hbd⟩ := build_valid (N := N) L 0 (List.replicate N []) (fun _ => []) hV
  obtain ⟨hb, _⟩ := build_some L [] _ _ (built_nil N) hbd
  rw [List.nil_append] at hb
  have h0 : OuI N L 0 (List.replicate N z23) [] (List.replicate N false) := by
    have hf : ∀ u, (List.replicate N false).getD u false = false := fun u => by
      rw [List.getD_eq_getElem?_getD, List.getElem?_replicate]
      split <;> rfl
    have hz : ∀ u, (List.replicate N z23).getD u z23 = z23 := fun u => by
      rw [List.getD_eq_getElem?_getD, List.getElem?_replicate]
      split <;> rfl
    refine ⟨by simp, by simp, fun u hu => ?_, fun u _ _ => hz u, fun u u' _ _ hs => ?_, fun u _ hs => ?_, rfl, fun j r c hj => ?_⟩
    · rw [hf u]
      constructor
      · intro hh; cases hh
      · rintro ⟨u', h1, _⟩; omega
    · rw [hf u] at hs; cases hs
    · rw [hf u] at hs; cases hs
    · simp [reps] at hj
  obtain ⟨r, sn, h1, h2⟩ := outer_ok hb hV hN hLl (Nat.le_refl 10000) N 0 _ _ _ (by omega) h0
  refine ⟨r.1, r.2, ?_, ?_⟩
  · unfold solveF
    rw [if_neg (by omega), Int.toNat_natCast, hbd]
    simp only
    rw [h1]
    rfl
  · have hall : ∀ u : Nat, u < N → sn.getD u false = true := fun u hu => (h2.sn u hu).2 ⟨u, hu, Conn.refl L u⟩
    exact ⟨h2.ol, fun u u' hu hu' hc => h2.oc u u' hu hu' (hall u hu) hc, fun u hu => h2.ok u hu (hall u hu), h2.cl, h2.ck⟩
theorem solve_invalid {N : Nat} {L : List S36} (hV : ¬ Valid N L) (hN : N ≤ 4096) (k : Nat) : solveF N L k = some ([], [], 1) := by
  unfold solveF
  rw [if_neg (by omega), Int.toNat_natCast]
  cases hb : buildF N L 0 (List.replicate N []) (fun _ => []) with
  | none => rfl
  | some p => exact absurd (build_some L [] _ _ (built_nil N) hb).2 hV
theorem solve_range {N : Int} {L : List S36} (hN : N < 0 ∨ 4096 < N) (k : Nat) : solveF N L k = some ([], [], 2) := by
  unfold solveF
  rw [if_pos hN]
end Go.Proofs.Ytjbafigageingaa
