import Derived.Test.YtjbafigageingaaKsM4
import Derived.Test.YtjbafigageingaaKsM0
import Derived.Lib.Hide
import Derived.Test.YtjbafigageingaaKsPFx1
namespace Go.Proofs.Ytjbafigageingaa
open Go.RowKit Go.Proofs.YtjbafigageingaaW.PrintWords Go.Proofs.YtjbafigageingaaW.PrintLast Go.Proofs.YtjbafigageingaaW.PrintMore
set_option linter.unusedVariables false
set_option linter.unusedSimpArgs false
theorem IsCh.opp {L : List S36} {i z : Int} {p : List Int} (h : IsCh L i z p) : Opp L i p.length := by
  obtain ⟨zn, hzn⟩ := Int.eq_ofNat_of_zero_le h.rz.1
  have hw := wayC_wk p _ _ h.rp h.way
  have h1 := h.lt
  have h2 := h.rz.2
  have h3 := h.kz
  have h4 := h.ex
  rw [hzn] at h1 h2 h3 h4 hw
  exact ⟨zn, h1, by omega, h3, h4, hw⟩
def BG2 (L : List S36) (ps : List Int) : Option (List Int) → Prop
  | none => ∀ i ∈ ps, ∀ n, ¬ Opp L i n
  | some c => ∃ i ∈ ps, ∃ p z, c = i :: (p ++ [z]) ∧ IsCh L i z p ∧ (∀ i' ∈ ps, ∀ n, Opp L i' n → p.length ≤ n) ∧ ∀ i' ∈ ps, ∀ p' z', IsCh L i' z' p' → SLe c (i' :: (p' ++ [z']))
theorem best_ok2 {N : Nat} {L : List S36} {E : EE} {M : MM} (hb : Built N L E M) (hV : Valid N L) (hN : N ≤ 4096) {k : Nat} (hk : 10000 ≤ k) : ∀ (zs ps : List Int) (b : Option (List Int)) (t : S23), (∀ i ∈ zs, ∃ n : Nat, i = n ∧ n < L.length ∧ (cAt L n).f0 = 0) → zs.Pairwise (· ≤ ·) → (∀ x ∈ ps, ∀ y ∈ zs, x ≤ y) → BG2 L ps b → TyOf L ps t →
    ∃ r, bestF E L M k zs b t = some r ∧ BG2 L (ps ++ zs) r.1 ∧ TyOf L (ps ++ zs) r.2
  | [], ps, b, t, _, _, _, h1, h2 => ⟨(b, t), rfl, by rw [List.append_nil]; exact h1, by rw [List.append_nil]; exact h2⟩
  | i :: zs, ps, b, t, hz, hs, hps, h1, h2 => by
    obtain ⟨n, rfl, hn, hn0⟩ := hz i (List.mem_cons_self ..)
    obtain ⟨hs1, hs2⟩ := List.pairwise_cons.1 hs
    obtain ⟨r, c1, c2, c3⟩ := chain_ok2 hb hV hN hn hn0 hk
    have hb' : BG2 L (ps ++ [(n : Int)]) (pickB b r) := by
      cases r with
      | none =>
        have hno := c2 rfl
        cases b with
        | none =>
          intro x hx m
          rcases List.mem_append.1 hx with hx | hx
          · exact h1 x hx m
          · rw [List.mem_singleton.1 hx]; exact hno m
        | some d =>
          obtain ⟨i0, hi0, p, z, hd, hc, hm, hm2⟩ := h1
          refine ⟨i0, List.mem_append_left _ hi0, p, z, hd, hc, fun x hx m hO => ?_, fun x hx p' z' hI => ?_⟩
          · rcases List.mem_append.1 hx with hx | hx
            · exact hm x hx m hO
            · rw [List.mem_singleton.1 hx] at hO; exact absurd hO (hno m)
          · rcases List.mem_append.1 hx with hx | hx
            · exact hm2 x hx p' z' hI
            · rw [List.mem_singleton.1 hx] at hI; exact absurd hI.opp (hno _)
      | some c =>
        obtain ⟨p, z, hc, hIs, hm, hleast⟩ := c3 c rfl
        have new : (∀ x ∈ ps, ∀ m, Opp L x m → p.length ≤ m) → (∀ x ∈ ps, ∀ p' z', IsCh L x z' p' → SLe c (x :: (p' ++ [z']))) → BG2 L (ps ++ [(n : Int)]) (some c) := fun hold hold2 => by
          refine ⟨(n : Int), by simp, p, z, hc, hIs, fun x hx m hO => ?_, fun x hx p' z' hI => ?_⟩
          · rcases List.mem_append.1 hx with hx | hx
            · exact hold x hx m hO
            · rw [List.mem_singleton.1 hx] at hO; exact hm m hO
          · rcases List.mem_append.1 hx with hx | hx
            · exact hold2 x hx p' z' hI
            · rw [List.mem_singleton.1 hx] at hI ⊢
              have hle := hm _ hI.opp
              rw [hc]
              by_cases he : p'.length = p.length
              · exact .inr ⟨by simp; omega, .inr ⟨rfl, hleast z' p' hI he⟩⟩
              · exact .inl (by simp; omega)
        cases b with
        | none => exact new (fun x hx m hO => absurd hO (h1 x hx m)) (fun x hx p' z' hI => absurd hI.opp (h1 x hx _))
        | some d =>
          obtain ⟨i0, hi0, p0, z0, hd, hc0, hm0, hm2⟩ := h1
          have lc : c.length = p.length + 2 := by rw [hc]; simp
          have ld : d.length = p0.length + 2 := by rw [hd]; simp
          simp only [pickB]
          by_cases hlt : c.length < d.length
          · rw [if_pos hlt]
            refine new (fun x hx m hO => by have := hm0 x hx m hO; omega) (fun x hx p' z' hI => ?_)
            have := hm0 x hx _ hI.opp
            exact .inl (by simp; omega)
          · rw [if_neg hlt]
            refine ⟨i0, List.mem_append_left _ hi0, p0, z0, hd, hc0, fun x hx m hO => ?_, fun x hx p' z' hI => ?_⟩
            · rcases List.mem_append.1 hx with hx | hx
              · exact hm0 x hx m hO
              · rw [List.mem_singleton.1 hx] at hO
                have := hm m hO
                omega
            · rcases List.mem_append.1 hx with hx | hx
              · exact hm2 x hx p' z' hI
              · rw [List.mem_singleton.1 hx] at hI ⊢
                have hle := hm _ hI.opp
                have hin := hps i0 hi0 (n : Int) (List.mem_cons_self ..)
                by_cases hi : i0 = (n : Int)
                · rw [← hi] at hI ⊢
                  exact hm2 i0 hi0 p' z' hI
                · by_cases hl : d.length < ((n : Int) :: (p' ++ [z'])).length
                  · exact .inl hl
                  · refine .inr ⟨by simp at hl ⊢; omega, ?_⟩
                    rw [hd]
                    exact .inl (by omega)
    have ht' : TyOf L (ps ++ [(n : Int)]) (pickT (cAt L n).f3 t) := by
      unfold pickT
      split
      · rename_i hw
        exact .inr ⟨n, by simp, hw, rfl⟩
      · rename_i hw
        rcases h2 with ⟨h2, h3⟩ | ⟨j, hj, h3⟩
        · refine .inl ⟨h2, fun x hx => ?_⟩
          rcases List.mem_append.1 hx with hx | hx
          · exact h3 x hx
          · rw [List.mem_singleton.1 hx]; exact hw
        · exact .inr ⟨j, List.mem_append_left _ hj, h3⟩
    obtain ⟨r', g1, g2, g3⟩ := best_ok2 hb hV hN hk zs (ps ++ [(n : Int)]) _ _ (fun x hx => hz x (List.mem_cons_of_mem _ hx)) hs2 (fun x hx y hy => by
      rcases List.mem_append.1 hx with hx | hx
      · exact hps x hx y (List.mem_cons_of_mem _ hy)
      · rw [List.mem_singleton.1 hx]; exact hs1 y hy) hb' ht'
    rw [List.append_assoc] at g2 g3
    refine ⟨r', ?_, g2, g3⟩
    simp only [bestF]
    rw [if_pos (show 0 ≤ (n : Int) ∧ (n : Int) < (L.length : Int) by omega), c1]
    exact g1
/-- c is the least chain of the class of r -/
def ChOK2 (L : List S36) (r : Nat) (c : List Int) : Prop := ∃ a z p, c = a :: (p ++ [z]) ∧ IsCh L a z p ∧ Conn L r (cAt L a).f1 ∧ (∀ n, Cf L r n → p.length ≤ n) ∧ ∀ a' z' p', IsCh L a' z' p' → Conn L r (cAt L a').f1 → SLe c (a' :: (p' ++ [z']))
structure OuI2 (N : Nat) (L : List S36) (v : Nat) (out : List S23) (ch : List (List Int)) (seen : List Bool) : Prop where
  ol : out.length = N
  sl : seen.length = N
  sn : ∀ u : Nat, u < N → (seen.getD u false = true ↔ ∃ u' : Nat, u' < v ∧ Conn L u' u)
  un : ∀ u : Nat, u < N → ¬ seen.getD u false = true → out.getD u z23 = z23
  oc : ∀ u u' : Nat, u < N → u' < N → seen.getD u false = true → Conn L u u' → out.getD u z23 = out.getD u' z23
  ok : ∀ u : Nat, u < N → seen.getD u false = true → OutOK L u (out.getD u z23)
  cl : ch.length = (reps L v).length
  ck : ∀ (j r : Nat) c, (reps L v)[j]? = some r → ch[j]? = some c → ChOK2 L r c
theorem outer_ok2 {N : Nat} {L : List S36} {E : EE} {M : MM} (hb : Built N L E M) (hV : Valid N L) (hN : N ≤ 60) (hLl : L.length ≤ 80) {k : Nat} (hk : 10000 ≤ k) : ∀ (d v : Nat) (out : List S23) (ch : List (List Int)) (seen : List Bool), v + d = N → OuI2 N L v out ch seen →
    ∃ r seen', outerF E L M k d v out ch seen = some r ∧ OuI2 N L N r.1 r.2 seen'
  | 0, v, out, ch, seen, hv, h => ⟨(out, ch), seen, rfl, by rw [Nat.add_zero] at hv; rw [← hv]; rw [← hv] at h; exact h⟩
  | d + 1, v, out, ch, seen, hv, h => by
    have hvN : v < N := by omega
    simp only [outerF]
    by_cases hs : seen.getD v false = true
    · rw [if_pos hs]
      obtain ⟨u0, hu0, hc0⟩ := (h.sn v hvN).1 hs
      have hnr : ¬ IsRep L v := fun hh => hh u0 hu0 hc0
      refine outer_ok2 hb hV hN hLl hk d (v + 1) out ch seen (by omega) ⟨h.ol, h.sl, fun u hu => ?_, h.un, h.oc, h.ok, ?_, ?_⟩
      · rw [h.sn u hu]
        constructor
        · rintro ⟨u', h1, h2⟩
          exact ⟨u', by omega, h2⟩
        · rintro ⟨u', h1, h2⟩
          rcases Nat.lt_or_ge u' v with hlt | hge
          · exact ⟨u', hlt, h2⟩
          · obtain rfl : u' = v := by omega
            exact ⟨u0, hu0, hc0.trans h2⟩
      · rw [reps_succ, if_neg (fun hh => hnr hh.1)]; exact h.cl
      · rw [reps_succ, if_neg (fun hh => hnr hh.1)]; exact h.ck
    · rw [if_neg hs]
      have hrep : IsRep L v := fun u hu hc => hs ((h.sn v hvN).2 ⟨u, hu, hc⟩)
      have hvin : InN N v := ⟨by omega, by omega⟩
      obtain ⟨far, hfar, hF⟩ := hb.dist hV (by omega) (F := [(v : Int)]) (fun f hf => by rw [List.mem_singleton.1 hf]; exact hvin) (by simp) (k := k) (by simp; omega)
      have hcn : ∀ u : Nat, u < N → (0 ≤ rd far u ↔ Conn L v u) := fun u hu => by
        rcases hF.far u ⟨by omega, by omega⟩ with ⟨g1, g2⟩ | ⟨n, g1, _, ⟨f, hf, g3⟩, _⟩
        · constructor
          · intro h0; omega
          · rintro ⟨n, hn⟩
            exact absurd hn (g2 _ (List.mem_singleton.2 rfl) n)
        · rw [List.mem_singleton.1 hf] at g3
          exact ⟨fun _ => ⟨n, g3⟩, fun _ => by omega⟩
      have hElen := hb.len
      obtain ⟨⟨kl, ml, sn'⟩, r1, r2, r3, r4, r5⟩ := coll_ok (far := far) hb.mlen E.length 0 [] [] seen (by rw [hElen, h.sl]; omega) (by rw [hElen]; have : N * L.length ≤ 60 * 80 := Nat.mul_le_mul hN hLl; simp; omega)
      simp only [Nat.zero_add, Nat.zero_le, true_and, List.not_mem_nil, false_or] at r2 r3 r4 r5
      rw [hElen] at r2 r3 r5
      -- the marks of the class
      have hml : ∀ x, x ∈ sortI ml ↔ ∃ n : Nat, x = n ∧ n < L.length ∧ (cAt L n).f0 = 0 ∧ Conn L v (cAt L n).f1 := fun x => by
        rw [(sortI_perm ml).mem_iff, r3 x]
        constructor
        · rintro ⟨u, hu, hx, h0⟩
          obtain ⟨n, rfl, hn⟩ := (hb.mark u x).1 hx
          obtain ⟨c0, c1, _⟩ := markAt_c hn
          exact ⟨n, rfl, markAt_lt hn, c0, by rw [c1]; exact (hcn u hu).1 h0⟩
        · rintro ⟨n, rfl, hn, h0, hc⟩
          have hin : InN N (cAt L n).f1 := by
            obtain ⟨m, hm⟩ := hc
            exact wkL_in hV hvin hm
          obtain ⟨u, hu⟩ := Int.eq_ofNat_of_zero_le hin.1
          rw [hu] at hin hc
          have huN : u < N := by have := hin.2; omega
          refine ⟨u, huN, ?_, (hcn u huN).2 hc⟩
          refine (hb.mark _ _).2 ⟨n, rfl, L[n], List.getElem?_eq_getElem hn, ?_⟩
          have := cAt_of (List.getElem?_eq_getElem hn)
          rw [this] at h0 hu
          exact ⟨h0, hu⟩
      obtain ⟨⟨bb, tt⟩, b1, b2, b3⟩ := best_ok2 hb hV (by omega) hk (sortI ml) [] none z23 (fun i hi => by
        obtain ⟨n, h1, h2, h3, _⟩ := (hml i).1 hi
        exact ⟨n, h1, h2, h3⟩) (sortI_sorted ml) (fun x hx => by cases hx) (fun i hi => by cases hi) (.inl ⟨rfl, fun i hi => by cases hi⟩)
      rw [List.nil_append] at b2 b3
      have hcf : ∀ n, Cf L v n ↔ ∃ x ∈ sortI ml, Opp L x n := fun n => by
        constructor
        · rintro ⟨i, h1, h2, h3, h4⟩
          exact ⟨i, (hml i).2 ⟨i, rfl, h1, h2, h3⟩, h4⟩
        · rintro ⟨x, hx, hO⟩
          obtain ⟨i, rfl, h1, h2, h3⟩ := (hml x).1 hx
          exact ⟨i, h1, h2, h3, hO⟩
      rw [hfar]
      simp only [Option.bind_some]
      rw [r1]
      simp only [Option.bind_some]
      rw [b1]
      simp only [Option.bind_some]
      have sn2 : ∀ u : Nat, u < N → (sn'.getD u false = true ↔ ∃ u' : Nat, u' < v + 1 ∧ Conn L u' u) := fun u hu => by
        rw [r5 u, h.sn u hu]
        constructor
        · rintro (⟨u', h1, h2⟩ | ⟨_, h0⟩)
          · exact ⟨u', by omega, h2⟩
          · exact ⟨v, by omega, (hcn u hu).1 h0⟩
        · rintro ⟨u', h1, h2⟩
          rcases Nat.lt_or_ge u' v with hlt | hge
          · exact .inl ⟨u', hlt, h2⟩
          · obtain rfl : u' = v := by omega
            exact .inr ⟨hu, (hcn u hu).2 h2⟩
      have old : ∀ u : Nat, u < N → sn'.getD u false = true → seen.getD u false = true ∨ Conn L v u := fun u hu h1 => by
        rcases (r5 u).1 h1 with h1 | ⟨_, h1⟩
        · exact .inl h1
        · exact .inr ((hcn u hu).1 h1)
      have apart : ∀ u : Nat, u < N → seen.getD u false = true → ¬ Conn L v u := fun u hu h1 hc => by
        obtain ⟨u', h2, h3⟩ := (h.sn u hu).1 h1
        exact hrep u' h2 (h3.trans hc.symm)
      cases bb with
      | some c =>
        obtain ⟨i0, hi0, p, z, hc, hIs, hmin, hmin2⟩ := b2
        obtain ⟨n0, hn0, hn0l, hn00, hn0c⟩ := (hml i0).1 hi0
        have hhas : HasCf L v := by
          refine ⟨p.length, (hcf _).2 ⟨i0, hi0, ?_⟩⟩
          obtain ⟨zn, hzn⟩ := Int.eq_ofNat_of_zero_le hIs.rz.1
          have hw := wayC_wk p _ _ hIs.rp hIs.way
          have hlt := hIs.lt
          have hrz := hIs.rz.2
          have hkz := hIs.kz
          have hex := hIs.ex
          rw [hzn] at hlt hrz hkz hex hw
          exact ⟨zn, hlt, by omega, hkz, hex, hw⟩
        have hch : ChOK2 L v c := ⟨i0, z, p, hc, hIs, by rw [hn0]; exact hn0c, (fun n hn => by
          obtain ⟨x, hx, hO⟩ := (hcf n).1 hn
          exact hmin x hx n hO), fun a' z' p' hI hco => hmin2 a' ((hml a').2 (by
          obtain ⟨q, hq⟩ := Int.eq_ofNat_of_zero_le hI.ra.1
          exact ⟨q, hq, by have := hI.ra.2; omega, by rw [← hq]; exact hI.ka, by rw [← hq]; exact hco⟩)) p' z' hI⟩
        refine outer_ok2 hb hV hN hLl hk d (v + 1) out (ch ++ [c]) sn' (by omega) ⟨h.ol, by rw [r4, h.sl], sn2, fun u hu hns => h.un u hu (fun hh => hns ((r5 u).2 (.inl hh))), fun u u' hu hu' h1 hcu => ?_, fun u hu h1 => ?_, ?_, ?_⟩
        · rcases old u hu h1 with h1 | h1
          · exact h.oc u u' hu hu' h1 hcu
          · rw [h.un u hu (fun hh => apart u hu hh h1), h.un u' hu' (fun hh => apart u' hu' hh (h1.trans hcu))]
        · rcases old u hu h1 with h1 | h1
          · exact h.ok u hu h1
          · rw [h.un u hu (fun hh => apart u hu hh h1)]
            exact ⟨fun _ => rfl, fun hno => absurd (hhas.imp (fun n hn => hn.conn h1.symm)) hno⟩
        · rw [reps_succ, if_pos ⟨hrep, hhas⟩, List.length_append, List.length_append, h.cl]; rfl
        · rw [reps_succ, if_pos ⟨hrep, hhas⟩]
          intro j r c' hj hc'
          rcases Nat.lt_or_ge j (reps L v).length with hlt | hge
          · rw [List.getElem?_append_left hlt] at hj
            rw [List.getElem?_append_left (by rw [h.cl]; exact hlt)] at hc'
            exact h.ck j r c' hj hc'
          · rw [List.getElem?_append_right hge] at hj
            rw [List.getElem?_append_right (by rw [h.cl]; exact hge)] at hc'
            have h0 : j - (reps L v).length = 0 := by
              rcases Nat.eq_zero_or_pos (j - (reps L v).length) with h0 | h0
              · exact h0
              · rw [List.getElem?_eq_none (by simp; omega)] at hj; cases hj
            rw [h0] at hj
            rw [h.cl, h0] at hc'
            injection hj with hj
            injection hc' with hc'
            subst hj hc'
            exact hch
      | none =>
        have hno : ¬ HasCf L v := fun ⟨n, hn⟩ => by
          obtain ⟨x, hx, hO⟩ := (hcf n).1 hn
          exact b2 x hx n hO
        have hkl : ∀ u : Nat, (u : Int) ∈ kl ↔ u < N ∧ 0 ≤ rd far u := fun u => by
          rw [r2]
          constructor
          · rintro ⟨u', h1, h2, h3⟩
            obtain rfl : u = u' := by omega
            exact ⟨h1, h3⟩
          · rintro ⟨h1, h2⟩
            exact ⟨u, h1, rfl, h2⟩
        obtain ⟨f1, f2⟩ := fill_get tt kl out (fun x hx => by
          obtain ⟨u, h1, rfl, _⟩ := (r2 x).1 hx
          rw [h.ol]
          omega)
        have hv : ∀ u : Nat, u < N → (Conn L v u → (fillF tt kl out).getD u z23 = tt) ∧ (¬ Conn L v u → (fillF tt kl out).getD u z23 = out.getD u z23) := fun u hu => by
          rw [f2 u]
          constructor
          · intro hc
            rw [if_pos ((hkl u).2 ⟨hu, (hcn u hu).2 hc⟩)]
          · intro hc
            rw [if_neg (fun hh => hc ((hcn u hu).1 ((hkl u).1 hh).2))]
        refine outer_ok2 hb hV hN hLl hk d (v + 1) (fillF tt kl out) ch sn' (by omega) ⟨by rw [f1, h.ol], by rw [r4, h.sl], sn2, fun u hu hns => ?_, fun u u' hu hu' h1 hcu => ?_, fun u hu h1 => ?_, ?_, ?_⟩
        · have hnc : ¬ Conn L v u := fun hc => hns ((sn2 u hu).2 ⟨v, by omega, hc⟩)
          rw [(hv u hu).2 hnc]
          exact h.un u hu (fun hh => hns ((r5 u).2 (.inl hh)))
        · rcases old u hu h1 with h1 | h1
          · have hn1 := apart u hu h1
            have hn2 : ¬ Conn L v u' := fun hc => hn1 (hc.trans hcu.symm)
            rw [(hv u hu).2 hn1, (hv u' hu').2 hn2]
            exact h.oc u u' hu hu' h1 hcu
          · rw [(hv u hu).1 h1, (hv u' hu').1 (h1.trans hcu)]
        · rcases old u hu h1 with h1 | h1
          · rw [(hv u hu).2 (apart u hu h1)]
            exact h.ok u hu h1
          · rw [(hv u hu).1 h1]
            refine ⟨fun hh => absurd (hh.imp (fun n hn => hn.conn h1)) hno, fun _ => ?_⟩
            rcases b3 with ⟨b3, b4⟩ | ⟨x, hx, b4, b5⟩
            · exact .inl ⟨b3, fun i hi h0 hc => b4 i ((hml i).2 ⟨i, rfl, hi, h0, h1.trans hc⟩)⟩
            · obtain ⟨i, rfl, hi, h0, hc⟩ := (hml x).1 hx
              exact .inr ⟨i, hi, h0, h1.symm.trans hc, b4, b5⟩
        · rw [reps_succ, if_neg (fun hh => hno hh.2)]; exact h.cl
        · rw [reps_succ, if_neg (fun hh => hno hh.2)]; exact h.ck
/-- Solve's answer at valid constraints. -/
structure Solved2 (N : Nat) (L : List S36) (out : List S23) (ch : List (List Int)) : Prop where
  ol : out.length = N
  oc : ∀ u u' : Nat, u < N → u' < N → Conn L u u' → out.getD u z23 = out.getD u' z23
  ok : ∀ u : Nat, u < N → OutOK L u (out.getD u z23)
  cl : ch.length = (reps L N).length
  ck : ∀ (j r : Nat) c, (reps L N)[j]? = some r → ch[j]? = some c → ChOK2 L r c
theorem solve_valid2 {N : Nat} {L : List S36} (hV : Valid N L) (hN : N ≤ 60) (hLl : L.length ≤ 80) : ∃ out ch, solveF N L 10000 = some (out, ch, 0) ∧ Solved2 N L out ch := by
  obtain ⟨⟨E, M⟩, hbd⟩ := build_valid (N := N) L 0 (List.replicate N []) (fun _ => []) hV
  obtain ⟨hb, _⟩ := build_some L [] _ _ (built_nil N) hbd
  rw [List.nil_append] at hb
  have h0 : OuI2 N L 0 (List.replicate N z23) [] (List.replicate N false) := by
    have hf : ∀ u, (List.replicate N false).getD u false = false := fun u => by
      rw [List.getD_eq_getElem?_getD, List.getElem?_replicate]
      split <;> rfl
    have hz : ∀ u, (List.replicate N z23).getD u z23 = z23 := fun u => by
      rw [List.getD_eq_getElem?_getD, List.getElem?_replicate]
      split <;> rfl
    refine ⟨by simp, by simp, fun u hu => ?_, fun u _ _ => hz u, fun u u' _ _ hs => ?_, fun u _ hs => ?_, rfl, fun j r c hj => ?_⟩
    · rw [hf u]
      constructor
      · intro hh; cases hh
      · rintro ⟨u', h1, _⟩; omega
    · rw [hf u] at hs; cases hs
    · rw [hf u] at hs; cases hs
    · simp [reps] at hj
  obtain ⟨r, sn, h1, h2⟩ := outer_ok2 hb hV hN hLl (Nat.le_refl 10000) N 0 _ _ _ (by omega) h0
  refine ⟨r.1, r.2, ?_, ?_⟩
  · unfold solveF
    rw [if_neg (by omega), Int.toNat_natCast, hbd]
    simp only
    rw [h1]
    rfl
  · have hall : ∀ u : Nat, u < N → sn.getD u false = true := fun u hu => (h2.sn u hu).2 ⟨u, hu, Conn.refl L u⟩
    exact ⟨h2.ol, fun u u' hu hu' hc => h2.oc u u' hu hu' (hall u hu) hc, fun u hu => h2.ok u hu (hall u hu), h2.cl, h2.ck⟩
end Go.Proofs.Ytjbafigageingaa

namespace Go.Proofs.Ytjbafigageingaa
open Go.RowKit Go.Proofs.YtjbafigageingaaW.PrintWords Go.Proofs.YtjbafigageingaaW.PrintLast Go.Proofs.YtjbafigageingaaW.PrintMore
set_option linter.unusedVariables false
set_option linter.unusedSimpArgs false
def digL (n : Nat) : List UInt8 := if h : n < 10 then [UInt8.ofNat (48 + n)] else digL (n / 10) ++ [UInt8.ofNat (48 + n % 10)]
termination_by n
def digB (n : Nat) : ByteArray := ⟨(digL n).toArray⟩
set_option maxHeartbeats 2000000 in
theorem digits_small (n : Int) (h0 : 0 ≤ n) (h1 : n < 10) (w : World) : Calls Try.prog 42 #[.int .i64 n] w fun e w' => e = .returned (.string (digB n.toNat)) ∧ w' = w := by
  rcases (show n = 0 ∨ n = 1 ∨ n = 2 ∨ n = 3 ∨ n = 4 ∨ n = 5 ∨ n = 6 ∨ n = 7 ∨ n = 8 ∨ n = 9 from by omega) with rfl | rfl | rfl | rfl | rfl | rfl | rfl | rfl | rfl | rfl
  all_goals
    clear h0 h1
    go_enter Try.func42, Try.ntmps42
    go_wp2
    go_ret
    exact ⟨by unfold digB; rw [digL]; rfl, rfl⟩
theorem digL_len : ∀ (k n : Nat), n < 10 ^ (k + 1) → (digL n).length ≤ k + 1
  | 0, n, h => by
    rw [digL, dif_pos (by simpa using h)]
    simp
  | k + 1, n, h => by
    rw [digL]
    split
    · simp
    · have := digL_len k (n / 10) (by rw [Nat.pow_succ] at h; omega)
      rw [List.length_append]
      simp
      omega
theorem digB_step (n : Nat) (h : ¬ n < 10) : digB (n / 10) ++ digB (n % 10) = digB n := by
  refine ByteArray.ext ?_
  rw [ByteArray.data_append]
  have e1 : digL n = digL (n / 10) ++ [UInt8.ofNat (48 + n % 10)] := by
    conv => lhs; rw [digL]
    rw [dif_neg h]
  have e2 : digL (n % 10) = [UInt8.ofNat (48 + n % 10)] := by
    rw [digL, dif_pos (by omega)]
  unfold digB
  rw [e1, e2]
  simp
set_option maxHeartbeats 2000000 in
theorem digits_calls : ∀ (m : Nat) (n : Int), n.toNat ≤ m → 0 ≤ n → n ≤ 9223372036854775807 → ∀ w : World, Calls Try.prog 42 #[.int .i64 n] w fun e w' => e = .returned (.string (digB n.toNat)) ∧ w' = w := by
  intro m
  induction m with
  | zero => intro n hm h0 h1 w; exact digits_small n h0 (by omega) w
  | succ m ih =>
    intro n hm h0 h1 w
    by_cases hs : n < 10
    · exact digits_small n h0 hs w
    · have c1 := ih (n / 10) (by omega) (by omega) (by omega)
      have c2 := digits_small (n % 10) (by omega) (by omega)
      have H1 := Aside0.mk c1
      have H2 := Aside0.mk c2
      have HI := Aside0.mk hm
      have hst := digB_step n.toNat (by omega)
      have HS := Aside0.mk hst
      have z1 : (digB (n / 10).toNat).size ≤ 19 := by
        have := digL_len 18 (n / 10).toNat (by omega)
        unfold digB
        exact this
      have z2 : (digB (n % 10).toNat).size ≤ 19 := by
        have := digL_len 18 (n % 10).toNat (by omega)
        unfold digB
        exact this
      have z3 : (9223372036854775807 < (digB (n / 10).toNat).size + (digB (n % 10).toNat).size) = False := eq_false (by omega)
      have e3 : (n / 10).toNat = n.toNat / 10 := by omega
      have e4 : (n % 10).toNat = n.toNat % 10 := by omega
      have E3 := Aside0.mk e3
      have E4 := Aside0.mk e4
      clear c1 c2 ih hm hst z1 z2 e3 e4
      have hn : decide (n < 10) = false := decide_eq_false hs
      have hd : n.tdiv 10 = n / 10 := Int.tdiv_eq_ediv_of_nonneg h0
      have hr : n.tmod 10 = n % 10 := Int.tmod_eq_emod_of_nonneg h0
      have HD := Aside0.mk hd
      have HR := Aside0.mk hr
      clear hd hr
      go_enter Try.func42, Try.ntmps42
      go_wp2_with fail
      refine (H1.out _).mono ?_
      rintro e w' ⟨rfl, rfl⟩
      go_wp2_with fail
      refine (H2.out _).mono ?_
      rintro e w' ⟨rfl, rfl⟩
      go_wp2
      go_ret
      refine ⟨?_, rfl⟩
      show Ending.returned (Value.string (digB (n / 10).toNat ++ digB (n % 10).toNat)) = _
      rw [E3.out, E4.out, HS.out]
end Go.Proofs.Ytjbafigageingaa

namespace Go.Proofs.Ytjbafigageingaa
open Go.RowKit Go.Proofs.YtjbafigageingaaW.PrintWords Go.Proofs.YtjbafigageingaaW.PrintLast Go.Proofs.YtjbafigageingaaW.PrintMore
set_option linter.unusedVariables false
def types_digits.f (a0 : Int) : Option ByteArray := if 0 ≤ a0 ∧ a0 ≤ 9223372036854775807 then some (digB a0.toNat) else none
theorem types_digits.calls (a0 : Int) (r : ByteArray) (w : World) (h : types_digits.f a0 = some r) :
    Calls Try.prog 42 #[.int .i64 a0] w fun e w' => e = .returned (.string r) ∧ Drawn0 w w' := by
  unfold types_digits.f at h
  by_cases hl : 0 ≤ a0 ∧ a0 ≤ 9223372036854775807
  · rw [if_pos hl] at h
    obtain rfl := Option.some.inj h
    exact (digits_calls a0.toNat a0 (Nat.le_refl _) hl.1 hl.2 w).mono fun e w' ⟨h1, h2⟩ => ⟨h1, by rw [h2]; exact Drawn0.refl _⟩
  · rw [if_neg hl] at h
    cases h
end Go.Proofs.Ytjbafigageingaa
