import Derived.Test.YtjbafigageingaaKcTh2
namespace Go.Proofs.Ytjbafigageingaa
open Go.RowKit Go.Proofs.YtjbafigageingaaW.PrintWords Go.Proofs.YtjbafigageingaaW.PrintLast Go.Proofs.YtjbafigageingaaW.PrintMore
set_option linter.unusedVariables false
set_option linter.unusedSimpArgs false
/-- the constraint with an index -/
abbrev cAt (L : List S36) (i : Int) : S36 := rd_T36 L i
theorem cAt_of {L : List S36} {n : Nat} {c : S36} (h : L[n]? = some c) : cAt L (n : Int) = c := by
  unfold cAt rd_T36
  rw [Int.toNat_natCast, List.getD_eq_getElem?_getD, h]
  rfl
theorem markAt_c {L : List S36} {n : Nat} {v : Int} (h : MarkAt L n v) : (cAt L n).f0 = 0 ∧ (cAt L n).f1 = v ∧ cAt L n ∈ L := by
  obtain ⟨c, hg, h0, h1⟩ := h
  rw [cAt_of hg]
  exact ⟨h0, h1, List.mem_of_getElem? hg⟩
theorem otherF_ok {L : List S36} {i : Int} (hi : 0 ≤ i ∧ i < (L.length : Int)) : ∀ (js : List Int), (∀ j ∈ js, 0 ≤ j ∧ j < (L.length : Int)) →
    ∃ r, otherF L i js = some r ∧ (r.2 = true → r.1 ∈ js ∧ i < r.1 ∧ exclB (cAt L i).f3 (cAt L r.1).f3 = true) ∧ (r.2 = false → ∀ j ∈ js, i < j → exclB (cAt L i).f3 (cAt L j).f3 = false)
  | [], _ => ⟨(0, false), rfl, (fun h => by cases h), (fun _ j hj => by cases hj)⟩
  | j :: js, h => by
    have hj := h j (List.mem_cons_self ..)
    obtain ⟨r, h1, h2, h3⟩ := otherF_ok hi js (fun x hx => h x (List.mem_cons_of_mem _ hx))
    simp only [otherF]
    by_cases hij : i < j
    · rw [if_pos hij, if_pos ⟨hi, hj⟩]
      by_cases hx : exclB (rd_T36 L i).f3 (rd_T36 L j).f3 = true
      · rw [if_pos hx]
        exact ⟨(j, true), rfl, (fun _ => ⟨List.mem_cons_self .., hij, hx⟩), (fun h => by cases h)⟩
      · rw [if_neg hx]
        refine ⟨r, h1, fun h => ⟨List.mem_cons_of_mem _ (h2 h).1, (h2 h).2⟩, fun h x hxm hlt => ?_⟩
        rcases List.mem_cons.1 hxm with rfl | hxm
        · exact Bool.eq_false_iff.2 hx
        · exact h3 h x hxm hlt
    · rw [if_neg hij]
      refine ⟨r, h1, fun h => ⟨List.mem_cons_of_mem _ (h2 h).1, (h2 h).2⟩, fun h x hxm hlt => ?_⟩
      rcases List.mem_cons.1 hxm with rfl | hxm
      · exact absurd hlt hij
      · exact h3 h x hxm hlt
/-- v bears a mark behind i that excludes it. -/
def Tgt (L : List S36) (M : MM) (i v : Int) : Prop := ∃ j ∈ M v, i < j ∧ exclB (cAt L i).f3 (cAt L j).f3 = true
structure TgI (L : List S36) (M : MM) (far : List Int) (i : Int) (v : Nat) (best : Int) (ts : List Int) : Prop where
  none : best < 0 → best = -1 ∧ ts = [] ∧ ∀ u : Nat, u < v → ¬ (0 ≤ rd far u ∧ Tgt L M i u)
  some : 0 ≤ best → ts ≠ [] ∧ (∀ t ∈ ts, 0 ≤ t ∧ t < (v : Int) ∧ rd far t = best ∧ Tgt L M i t) ∧ ∀ u : Nat, u < v → 0 ≤ rd far u → Tgt L M i u → best ≤ rd far u
  len : ts.length ≤ v
theorem tgtF_ok {L : List S36} {M : MM} {far : List Int} {i : Int} (hi : 0 ≤ i ∧ i < (L.length : Int)) (hM : ∀ v, ∀ j ∈ M v, 0 ≤ j ∧ j < (L.length : Int)) : ∀ (d v : Nat) (best : Int) (ts : List Int), TgI L M far i v best ts →
    ∃ r, tgtF L M far i d v best ts = some r ∧ TgI L M far i (v + d) r.1 r.2
  | 0, v, best, ts, h => ⟨(best, ts), rfl, h⟩
  | d + 1, v, best, ts, h => by
    have next : ∀ {best' : Int} {ts' : List Int}, TgI L M far i (v + 1) best' ts' → ∃ r, tgtF L M far i d (v + 1) best' ts' = some r ∧ TgI L M far i (v + (d + 1)) r.1 r.2 := fun h' => by
      have := tgtF_ok hi hM d (v + 1) _ _ h'
      rw [show v + 1 + d = v + (d + 1) from by omega] at this
      exact this
    have hl := h.len
    -- the same, v being none
    have same : ¬ (0 ≤ rd far v ∧ Tgt L M i v ∧ (best < 0 ∨ rd far v < best ∨ rd far v = best)) → TgI L M far i (v + 1) best ts := fun hno => by
      refine ⟨fun hb => ?_, fun hb => ?_, by omega⟩
      · obtain ⟨h1, h2, h3⟩ := h.none hb
        refine ⟨h1, h2, fun u hu hh => ?_⟩
        rcases Nat.lt_or_ge u v with hlt | hge
        · exact h3 u hlt hh
        · obtain rfl : u = v := by omega
          exact hno ⟨hh.1, hh.2, .inl hb⟩
      · obtain ⟨h1, h2, h3⟩ := h.some hb
        refine ⟨h1, fun t ht => ?_, fun u hu h0 hT => ?_⟩
        · obtain ⟨a, b, c⟩ := h2 t ht
          exact ⟨a, by omega, c⟩
        · rcases Nat.lt_or_ge u v with hlt | hge
          · exact h3 u hlt h0 hT
          · obtain rfl : u = v := by omega
            rcases (show rd far u < best ∨ best ≤ rd far u from by omega) with hlt | hge
            · exact absurd ⟨h0, hT, .inr (.inl hlt)⟩ hno
            · exact hge
    simp only [tgtF]
    by_cases h1 : rd far v < 0
    · rw [if_pos h1]
      exact next (same (fun hh => by omega))
    · rw [if_neg h1]
      by_cases h2 : 0 ≤ best ∧ best < rd far v
      · rw [if_pos h2]
        exact next (same (fun hh => by omega))
      · rw [if_neg h2]
        obtain ⟨p, hp, hp1, hp2⟩ := otherF_ok hi (M v) (hM v)
        rw [hp]
        simp only [Option.bind_some]
        cases hpt : p.2 with
        | false =>
          rw [if_neg (by decide)]
          refine next (same (fun hh => ?_))
          obtain ⟨_, ⟨j, hj, hij, hx⟩, _⟩ := hh
          rw [hp2 hpt j hj hij] at hx
          cases hx
        | true =>
          rw [if_pos rfl]
          have hT : Tgt L M i v := ⟨p.1, hp1 hpt⟩
          by_cases h3 : best < 0 ∨ rd far v < best
          · rw [if_pos h3]
            refine next ⟨fun hb => by omega, fun hb => ⟨by simp, fun t ht => ?_, fun u hu h0 hTu => ?_⟩, by simp⟩
            · rw [List.mem_singleton.1 ht]
              exact ⟨by omega, by omega, rfl, hT⟩
            · rcases Nat.lt_or_ge u v with hlt | hge
              · rcases (show best < 0 ∨ 0 ≤ best from by omega) with hb0 | hb0
                · exact absurd ⟨h0, hTu⟩ ((h.none hb0).2.2 u hlt)
                · have := (h.some hb0).2.2 u hlt h0 hTu
                  omega
              · obtain rfl : u = v := by omega
                exact Int.le_refl _
          · rw [if_neg h3]
            have hbe : rd far v = best := by omega
            refine next ⟨fun hb => by omega, fun hb => ?_, by rw [List.length_append, List.length_singleton]; omega⟩
            obtain ⟨g1, g2, g3⟩ := h.some hb
            refine ⟨by simp, fun t ht => ?_, fun u hu h0 hTu => ?_⟩
            · rcases List.mem_append.1 ht with ht | ht
              · obtain ⟨a, b, c⟩ := g2 t ht
                exact ⟨a, by omega, c⟩
              · rw [List.mem_singleton.1 ht]
                exact ⟨by omega, by omega, hbe, hT⟩
            · rcases Nat.lt_or_ge u v with hlt | hge
              · exact g3 u hlt h0 hTu
              · obtain rfl : u = v := by omega
                omega
theorem nextE_ok {left : List Int} {lv : Int} (hw : wrap64 (lv - 1) = lv - 1) : ∀ (es : List S55), (∀ e ∈ es, 0 ≤ e.f1 ∧ e.f1 < (left.length : Int)) → (∀ e ∈ es, 0 ≤ e.f0) → ∀ nx : S55,
    ∃ r, nextE left lv es nx = some r ∧ (r = nx ∨ (r ∈ es ∧ rd left r.f1 = lv - 1)) ∧ ((0 ≤ nx.f0 ∨ ∃ e ∈ es, rd left e.f1 = lv - 1) → 0 ≤ r.f0)
  | [], _, _, nx => ⟨nx, rfl, .inl rfl, fun h => h.elim id (fun ⟨e, he, _⟩ => by cases he)⟩
  | e :: es, h, h0, nx => by
    have he := h e (List.mem_cons_self ..)
    have he0 := h0 e (List.mem_cons_self ..)
    have ih := nextE_ok hw es (fun x hx => h x (List.mem_cons_of_mem _ hx)) (fun x hx => h0 x (List.mem_cons_of_mem _ hx))
    simp only [nextE, if_pos he]
    rw [hw]
    by_cases hr : rd left e.f1 = lv - 1
    · rw [if_pos hr]
      have take : ∃ r, nextE left lv es e = some r ∧ (r = nx ∨ (r ∈ e :: es ∧ rd left r.f1 = lv - 1)) ∧ ((0 ≤ nx.f0 ∨ ∃ x ∈ e :: es, rd left x.f1 = lv - 1) → 0 ≤ r.f0) := by
        obtain ⟨r, h1, h2, h3⟩ := ih e
        refine ⟨r, h1, .inr ?_, fun _ => h3 (.inl he0)⟩
        rcases h2 with rfl | ⟨h2, h4⟩
        · exact ⟨List.mem_cons_self .., hr⟩
        · exact ⟨List.mem_cons_of_mem _ h2, h4⟩
      by_cases hn : nx.f0 < 0
      · rw [if_pos hn]; exact take
      · rw [if_neg hn]
        by_cases hlt : e.f0 < nx.f0
        · rw [if_pos hlt]; exact take
        · rw [if_neg hlt]
          obtain ⟨r, h1, h2, h3⟩ := ih nx
          exact ⟨r, h1, h2.imp id (fun h => ⟨List.mem_cons_of_mem _ h.1, h.2⟩), fun _ => h3 (.inl (by omega))⟩
    · rw [if_neg hr]
      obtain ⟨r, h1, h2, h3⟩ := ih nx
      refine ⟨r, h1, h2.imp id (fun h => ⟨List.mem_cons_of_mem _ h.1, h.2⟩), fun hh => h3 (hh.imp id (fun ⟨x, hx, hxr⟩ => ?_))⟩
      rcases List.mem_cons.1 hx with rfl | hx
      · exact absurd hxr hr
      · exact ⟨x, hx, hxr⟩
/-- where a list of equalities leads -/
def wayC (L : List S36) : Int → List Int → Option Int
  | v, [] => some v
  | v, i :: is => if (cAt L i).f0 = 1 then (if (cAt L i).f1 = v then wayC L (cAt L i).f2 is else if (cAt L i).f2 = v then wayC L (cAt L i).f1 is else none) else none
theorem wayC_wk {L : List S36} : ∀ (p : List Int) (v u : Int), (∀ i ∈ p, 0 ≤ i ∧ i < (L.length : Int)) → wayC L v p = some u → WkL L p.length v u
  | [], v, u, _, h => by
    simp only [wayC, Option.some.injEq] at h
    subst h
    exact .nil _
  | i :: p, v, u, hr, h => by
    have hi := hr i (List.mem_cons_self ..)
    have hmem : cAt L i ∈ L := by
      unfold cAt rd_T36
      have : i.toNat < L.length := by omega
      rw [List.getD_eq_getElem?_getD, List.getElem?_eq_getElem this]
      exact List.getElem_mem this
    simp only [wayC] at h
    split at h
    case isFalse => cases h
    rename_i h0
    split at h
    · rename_i h1
      exact WkL.cons ⟨_, hmem, h0, .inl ⟨h1, rfl⟩⟩ (wayC_wk p _ u (fun x hx => hr x (List.mem_cons_of_mem _ hx)) h)
    · split at h
      case isFalse => cases h
      rename_i h2
      exact WkL.cons ⟨_, hmem, h0, .inr ⟨h2, rfl⟩⟩ (wayC_wk p _ u (fun x hx => hr x (List.mem_cons_of_mem _ hx)) h)
theorem wayF_ok {N : Nat} {L : List S36} {E : EE} {M : MM} (hb : Built N L E M) (hV : Valid N L) (hN : N ≤ 4096) {ts left : List Int} (hts : ∀ t ∈ ts, InN N t) (hl : FarL N L ts left) : ∀ (n k : Nat) (out : List Int) (v : Int), InN N v → rd left v = n → n < k → out.length + n ≤ 900000 →
    ∃ p u, wayF E left k out v = some (out ++ p, u) ∧ p.length = n ∧ u ∈ ts ∧ InN N u ∧ wayC L v p = some u ∧ ∀ i ∈ p, 0 ≤ i ∧ i < (L.length : Int)
  | n, 0, _, _, _, _, hk, _ => by omega
  | 0, k + 1, out, v, hv, hn, _, _ => by
    have hvl : 0 ≤ v ∧ v < (left.length : Int) := by rw [hl.len]; exact hv
    refine ⟨[], v, ?_, rfl, ?_, hv, rfl, fun i hi => by cases hi⟩
    · simp only [wayF]
      rw [if_pos hvl, if_neg (by omega), List.append_nil]
    · rcases hl.far v hv with ⟨h1, _⟩ | ⟨m, h1, _, ⟨f, hf, hw⟩, hmin⟩
      · omega
      · obtain rfl : m = 0 := by omega
        cases hw
        exact hf
  | n + 1, k + 1, out, v, hv, hn, hk, hol => by
    have hvl : 0 ≤ v ∧ v < (left.length : Int) := by rw [hl.len]; exact hv
    have hvE : v < (E.length : Int) := by rw [hb.len]; exact hv.2
    have hEok := hb.eok hV
    have hedge : ∀ e ∈ rdE E v, InN N e.f1 ∧ (0 ≤ e.f0 ∧ e.f0 < (L.length : Int)) ∧ (cAt L e.f0).f0 = 1 ∧ (((cAt L e.f0).f1 = v ∧ e.f1 = (cAt L e.f0).f2) ∨ ((cAt L e.f0).f2 = v ∧ e.f1 = (cAt L e.f0).f1)) := fun e he => by
      have h1 := hEok v (by unfold InR; rw [hb.len]; exact hv) e he
      unfold InR at h1
      rw [hb.len] at h1
      obtain ⟨j, c, hg, h0, h2⟩ := (hb.edge v hv e).1 he
      have hjl := (List.getElem?_eq_some_iff.1 hg).1
      rcases h2 with ⟨h2, rfl⟩ | ⟨h2, rfl⟩
      · exact ⟨h1, ⟨by simp, by simp; omega⟩, by rw [cAt_of hg]; exact h0, .inl ⟨by rw [cAt_of hg]; exact h2, by rw [cAt_of hg]⟩⟩
      · exact ⟨h1, ⟨by simp, by simp; omega⟩, by rw [cAt_of hg]; exact h0, .inr ⟨by rw [cAt_of hg]; exact h2, by rw [cAt_of hg]⟩⟩
    -- an edge leads on
    have hex : ∃ e ∈ rdE E v, rd left e.f1 = ((n + 1 : Nat) : Int) - 1 := by
      rcases hl.far v hv with ⟨h1, _⟩ | ⟨m, h1, _, ⟨f, hf, hw⟩, hmin⟩
      · omega
      · obtain rfl : m = n + 1 := by omega
        cases hw with
        | snoc hw' ha =>
          rename_i u
          have hu := wkL_in hV (hts f hf) hw'
          obtain ⟨e, he, heu⟩ := (hb.adj hv).2 ha.symm
          refine ⟨e, he, ?_⟩
          rw [heu]
          rcases hl.far u hu with ⟨_, h2⟩ | ⟨q, h2, _, ⟨g, hg, hwg⟩, hq⟩
          · exact absurd hw' (h2 f hf n)
          · have h3 := hq f hf n hw'
            have h4 := hmin g hg (q + 1) (hwg.snoc ha)
            omega
    have hn4 : n + 1 < N := by
      rcases hl.far v hv with ⟨h1, _⟩ | ⟨m, h1, h2, _⟩
      · omega
      · omega
    obtain ⟨r, h1, h2, h3⟩ := nextE_ok (left := left) (lv := ((n + 1 : Nat) : Int)) (wrap_small _ (by omega)) (rdE E v) (fun e he => by rw [hl.len]; exact (hedge e he).1) (fun e he => (hedge e he).2.1.1) ⟨-1, 0⟩
    have hr0 := h3 (.inr hex)
    have hre : r ∈ rdE E v ∧ rd left r.f1 = ((n + 1 : Nat) : Int) - 1 := by
      rcases h2 with rfl | h2
      · exact absurd hr0 (by decide)
      · exact h2
    obtain ⟨g1, g2, g3, g4⟩ := hedge r hre.1
    obtain ⟨p, u, f1, f2, f3, f4, f5, f6⟩ := wayF_ok hb hV hN hts hl n k (out ++ [r.f0]) r.f1 g1 (by rw [hre.2]; omega) (by omega) (by rw [List.length_append, List.length_singleton]; omega)
    refine ⟨r.f0 :: p, u, ?_, by rw [List.length_cons, f2], f3, f4, ?_, fun i hi => ?_⟩
    · simp only [wayF]
      rw [if_pos hvl, hn, if_pos (by omega), if_pos ⟨hvE, by omega⟩, h1]
      simp only [Option.bind_some]
      rw [f1, List.append_assoc]
      rfl
    · simp only [wayC]
      rw [if_pos g3]
      rcases g4 with ⟨g4, g5⟩ | ⟨g4, g5⟩
      · rw [if_pos g4, ← g5]
        exact f5
      · by_cases hself : (cAt L r.f0).f1 = v
        · rw [if_pos hself, g4, ← hself, ← g5]
          exact f5
        · rw [if_neg hself, if_pos g4, ← g5]
          exact f5
    · rcases List.mem_cons.1 hi with rfl | hi
      · exact g2
      · exact f6 i hi
/-- A chain: first mark, equalities, last mark. -/
structure IsCh (L : List S36) (a z : Int) (p : List Int) : Prop where
  lt : a < z
  ra : 0 ≤ a ∧ a < (L.length : Int)
  rz : 0 ≤ z ∧ z < (L.length : Int)
  rp : ∀ i ∈ p, 0 ≤ i ∧ i < (L.length : Int)
  ka : (cAt L a).f0 = 0
  kz : (cAt L z).f0 = 0
  ex : exclB (cAt L a).f3 (cAt L z).f3 = true
  way : wayC L (cAt L a).f1 p = some (cAt L z).f1
/-- mark j stands behind mark i, excludes it, and n equalities lead to it -/
def Opp (L : List S36) (i : Int) (n : Nat) : Prop := ∃ j : Nat, i < (j : Int) ∧ j < L.length ∧ (cAt L j).f0 = 0 ∧ exclB (cAt L i).f3 (cAt L j).f3 = true ∧ WkL L n (cAt L i).f1 (cAt L j).f1
theorem chain_ok {N : Nat} {L : List S36} {E : EE} {M : MM} (hb : Built N L E M) (hV : Valid N L) (hN : N ≤ 4096) {i : Nat} (hi : i < L.length) (hk0 : (cAt L i).f0 = 0) {k : Nat} (hk : 10000 ≤ k) :
    ∃ r, chainF E L M k i = some r ∧ (r = none → ∀ n, ¬ Opp L i n) ∧ (∀ c, r = some c → ∃ p z, c = (i : Int) :: (p ++ [z]) ∧ IsCh L i z p ∧ ∀ n, Opp L i n → p.length ≤ n) := by
  have hiL : 0 ≤ (i : Int) ∧ (i : Int) < (L.length : Int) := by omega
  have hci : cAt L i ∈ L := by
    unfold cAt rd_T36
    rw [Int.toNat_natCast, List.getD_eq_getElem?_getD, List.getElem?_eq_getElem hi]
    exact List.getElem_mem hi
  have hA := (hV _ hci).1
  have hMr : ∀ v, ∀ j ∈ M v, 0 ≤ j ∧ j < (L.length : Int) := fun v j hj => by
    obtain ⟨n, rfl, hn⟩ := (hb.mark v j).1 hj
    have := markAt_lt hn
    omega
  have hMo : ∀ {v : Int} {j : Int}, j ∈ M v → ∃ n : Nat, j = n ∧ n < L.length ∧ (cAt L n).f0 = 0 ∧ (cAt L n).f1 = v := fun {v j} hj => by
    obtain ⟨n, rfl, hn⟩ := (hb.mark v j).1 hj
    exact ⟨n, rfl, markAt_lt hn, (markAt_c hn).1, (markAt_c hn).2.1⟩
  have hoM : ∀ {n : Nat}, n < L.length → (cAt L n).f0 = 0 → (n : Int) ∈ M (cAt L n).f1 := fun {n} hn h0 => by
    refine (hb.mark _ _).2 ⟨n, rfl, L[n], List.getElem?_eq_getElem hn, ?_⟩
    have := cAt_of (List.getElem?_eq_getElem hn)
    rw [this] at h0 ⊢
    exact ⟨h0, rfl⟩
  obtain ⟨far, hfar, hF⟩ := hb.dist hV hN (F := [(cAt L i).f1]) (fun f hf => by rw [List.mem_singleton.1 hf]; exact hA) (by simp) (k := k) (by simp; omega)
  have hElen := hb.len
  obtain ⟨⟨best, ts⟩, htg, hT⟩ := tgtF_ok (far := far) hiL hMr E.length 0 (-1) [] ⟨fun _ => ⟨rfl, rfl, fun u hu => by omega⟩, fun h => by omega, Nat.le_refl 0⟩
  rw [Nat.zero_add, hElen] at hT
  unfold chainF
  rw [if_pos hiL, hfar]
  simp only [Option.bind_some]
  rw [htg]
  simp only [Option.bind_some]
  -- an opponent is a target
  have hopp : ∀ n, Opp L i n → ∃ u : Nat, u < N ∧ 0 ≤ rd far u ∧ Tgt L M i u ∧ rd far u ≤ n := fun n hO => by
    obtain ⟨j, h1, h2, h3, h4, h5⟩ := hO
    have hin := wkL_in hV hA h5
    obtain ⟨u, hu⟩ := Int.eq_ofNat_of_zero_le hin.1
    rw [hu] at hin h5
    refine ⟨u, by have := hin.2; omega, ?_⟩
    have hTg : Tgt L M i u := ⟨j, by have := hoM h2 h3; rw [hu] at this; exact this, h1, h4⟩
    rcases hF.far u hin with ⟨_, g⟩ | ⟨q, g1, _, _, g4⟩
    · exact absurd h5 (g _ (List.mem_singleton.2 rfl) n)
    · have := g4 _ (List.mem_singleton.2 rfl) n h5
      exact ⟨by omega, hTg, by omega⟩
  by_cases hbn : best < 0
  · rw [if_pos hbn]
    obtain ⟨_, _, h3⟩ := hT.none hbn
    refine ⟨none, rfl, fun _ n hO => ?_, fun c hc => by cases hc⟩
    obtain ⟨u, hu, h0, hTg, _⟩ := hopp n hO
    exact h3 u hu ⟨h0, hTg⟩
  · rw [if_neg hbn]
    obtain ⟨h1, h2, h3⟩ := hT.some (by omega)
    have hts : ∀ t ∈ ts, InN N t := fun t ht => ⟨(h2 t ht).1, (h2 t ht).2.1⟩
    have htl : ts.length ≤ N := hT.len
    obtain ⟨left, hleft, hL⟩ := hb.dist hV hN hts (by omega) (k := k) (by omega)
    rw [hleft]
    simp only [Option.bind_some]
    obtain ⟨b, hbb⟩ := Int.eq_ofNat_of_zero_le (show 0 ≤ best by omega)
    -- the distance from the targets is the best
    have hlv : rd left (cAt L i).f1 = b := by
      obtain ⟨t, ht⟩ := List.exists_mem_of_ne_nil ts h1
      have ht2 := h2 t ht
      have hft : WkL L b (cAt L i).f1 t := by
        rcases hF.far t (hts t ht) with ⟨g, _⟩ | ⟨q, g1, _, ⟨f, hf, g3⟩, _⟩
        · omega
        · rw [List.mem_singleton.1 hf] at g3
          obtain rfl : q = b := by omega
          exact g3
      rcases hL.far _ hA with ⟨_, g⟩ | ⟨q, g1, _, ⟨f, hf, g3⟩, g4⟩
      · exact absurd hft.symm (g t ht b)
      · have h5 := g4 t ht b hft.symm
        have h6 : b ≤ q := by
          have hf2 := h2 f hf
          rcases hF.far f (hts f hf) with ⟨g, _⟩ | ⟨q', g1', _, _, g4'⟩
          · omega
          · have := g4' _ (List.mem_singleton.2 rfl) q g3.symm
            omega
        omega
    have hbN : b < N := by
      rcases hL.far _ hA with ⟨g, _⟩ | ⟨q, g1, g2, _⟩
      · omega
      · omega
    obtain ⟨p, u, g1, g2, g3, g4, g5, g6⟩ := wayF_ok hb hV hN hts hL b k [(i : Int)] (cAt L i).f1 hA hlv (by omega) (by simp; omega)
    rw [show rd_T36 L (i : Int) = cAt L i from rfl, g1]
    simp only [Option.bind_some]
    rw [if_pos (show 0 ≤ u ∧ u < (E.length : Int) by rw [hElen]; exact g4)]
    obtain ⟨jb, o1, o2, o3⟩ := otherF_ok hiL (M u) (hMr u)
    rw [o1]
    simp only [Option.bind_some]
    have hjb : jb.2 = true := by
      cases hh : jb.2 with
      | true => rfl
      | false =>
        obtain ⟨j, hj, hij, hx⟩ := (h2 u g3).2.2.2
        rw [o3 hh j hj hij] at hx
        cases hx
    obtain ⟨q1, q2, q3⟩ := o2 hjb
    obtain ⟨nz, hz, hzl, hz0, hz1⟩ := hMo q1
    refine ⟨_, rfl, (fun h => by cases h), fun c hc => ?_⟩
    injection hc with hc
    refine ⟨p, jb.1, by rw [← hc]; rfl, ⟨q2, hiL, by omega, g6, hk0, by rw [hz]; exact hz0, q3, by rw [hz, hz1]; exact g5⟩, fun n hO => ?_⟩
    obtain ⟨w, hw, h0, hTg, hle⟩ := hopp n hO
    have := h3 w hw h0 hTg
    omega
end Go.Proofs.Ytjbafigageingaa
