import Derived.Test.YtjbafigageingaaKsM0
import Derived.Test.YtjbafigageingaaProg
import Derived.Test.YtjbafigageingaaKsW
import Derived.Below
import Derived.Deep.Draws
import Derived.Deep.AppendLies
import Derived.Maps.AppendAt
import Derived.OwnWalk
import Derived.Laws.BytesArg
import Derived.Laws.MakeOwn
import Derived.Laws.OwnMore
import Derived.Deep.OwnRows
import Derived.Tactics
import Derived.Lib.ConvBytes
import Derived.Laws.Slices
import Derived.WalkKit
import Derived.KernelRfl
import Derived.RowKit3
import Derived.Deep.LoopGhost
import Derived.Deep.QuietTactic
import Derived.BigQuiet
import Derived.WideLaws
import Derived.Deep.DeepCutAuto
import Derived.Deep.CutBlock
import Derived.Deep.RegionHeld3
import Derived.Laws.Rows
import Derived.Lib.AppendStr
import Derived.ArgAppend
import Derived.Laws.IdiomCopy
import Derived.OrdersHeld
import Derived.Laws.BitsLemmas
import Derived.RowKit
namespace Go.Proofs.Ytjbafigageingaa
open Go.RowKit Go.Proofs.YtjbafigageingaaW.PrintWords Go.Proofs.YtjbafigageingaaW.PrintLast Go.Proofs.YtjbafigageingaaW.PrintMore
set_option linter.unusedVariables false
set_option linter.unusedSimpArgs false
/-- the constraint with an index -/
abbrev cAt (L : List S36) (i : Int) : S36 := rd_T36 L i
theorem cAt_of {L : List S36} {n : Nat} {c : S36} (h : L[n]? = some c) : cAt L (n : Int) = c := by
  unfold cAt rd_T36
  rw [Int.toNat_natCast, List.getD_eq_getElem?_getD, h]
  rfl
theorem markAt_c {L : List S36} {n : Nat} {v : Int} (h : MarkAt L n v) : (cAt L n).f0 = 0 ∧ (cAt L n).f1 = v ∧ cAt L n ∈ L := by
  obtain ⟨c, hg, h0, h1⟩ := h
  rw [cAt_of hg]
  exact ⟨h0, h1, List.mem_of_getElem? hg⟩
theorem otherF_ok {L : List S36} {i : Int} (hi : 0 ≤ i ∧ i < (L.length : Int)) : ∀ (js : List Int), (∀ j ∈ js, 0 ≤ j ∧ j < (L.length : Int)) →
    ∃ r, otherF L i js = some r ∧ (r.2 = true → r.1 ∈ js ∧ i < r.1 ∧ exclB (cAt L i).f3 (cAt L r.1).f3 = true) ∧ (r.2 = false → ∀ j ∈ js, i < j → exclB (cAt L i).f3 (cAt L j).f3 = false)
  | [], _ => ⟨(0, false), rfl, (fun h => by cases h), (fun _ j hj => by cases hj)⟩
  | j :: js, h => by
    have hj := h j (List.mem_cons_self ..)
    obtain ⟨r, h1, h2, h3⟩ := otherF_ok hi js (fun x hx => h x (List.mem_cons_of_mem _ hx))
    simp only [otherF]
    by_cases hij : i < j
    · rw [if_pos hij, if_pos ⟨hi, hj⟩]
      by_cases hx : exclB (rd_T36 L i).f3 (rd_T36 L j).f3 = true
      · rw [if_pos hx]
        exact ⟨(j, true), rfl, (fun _ => ⟨List.mem_cons_self .., hij, hx⟩), (fun h => by cases h)⟩
      · rw [if_neg hx]
        refine ⟨r, h1, fun h => ⟨List.mem_cons_of_mem _ (h2 h).1, (h2 h).2⟩, fun h x hxm hlt => ?_⟩
        rcases List.mem_cons.1 hxm with rfl | hxm
        · exact Bool.eq_false_iff.2 hx
        · exact h3 h x hxm hlt
    · rw [if_neg hij]
      refine ⟨r, h1, fun h => ⟨List.mem_cons_of_mem _ (h2 h).1, (h2 h).2⟩, fun h x hxm hlt => ?_⟩
      rcases List.mem_cons.1 hxm with rfl | hxm
      · exact absurd hlt hij
      · exact h3 h x hxm hlt
/-- v bears a mark behind i that excludes it. -/
def Tgt (L : List S36) (M : MM) (i v : Int) : Prop := ∃ j ∈ M v, i < j ∧ exclB (cAt L i).f3 (cAt L j).f3 = true
structure TgI (L : List S36) (M : MM) (far : List Int) (i : Int) (v : Nat) (best : Int) (ts : List Int) : Prop where
  none : best < 0 → best = -1 ∧ ts = [] ∧ ∀ u : Nat, u < v → ¬ (0 ≤ rd far u ∧ Tgt L M i u)
  some : 0 ≤ best → ts ≠ [] ∧ (∀ t ∈ ts, 0 ≤ t ∧ t < (v : Int) ∧ rd far t = best ∧ Tgt L M i t) ∧ ∀ u : Nat, u < v → 0 ≤ rd far u → Tgt L M i u → best ≤ rd far u
  len : ts.length ≤ v
theorem tgtF_ok {L : List S36} {M : MM} {far : List Int} {i : Int} (hi : 0 ≤ i ∧ i < (L.length : Int)) (hM : ∀ v, ∀ j ∈ M v, 0 ≤ j ∧ j < (L.length : Int)) : ∀ (d v : Nat) (best : Int) (ts : List Int), TgI L M far i v best ts →
    ∃ r, tgtF L M far i d v best ts = some r ∧ TgI L M far i (v + d) r.1 r.2
  | 0, v, best, ts, h => ⟨(best, ts), rfl, h⟩
  | d + 1, v, best, ts, h => by
    have next : ∀ {best' : Int} {ts' : List Int}, TgI L M far i (v + 1) best' ts' → ∃ r, tgtF L M far i d (v + 1) best' ts' = some r ∧ TgI L M far i (v + (d + 1)) r.1 r.2 := fun h' => by
      have := tgtF_ok hi hM d (v + 1) _ _ h'
      rw [show v + 1 + d = v + (d + 1) from by omega] at this
      exact this
    have hl := h.len
    -- the same, v being none
    have same : ¬ (0 ≤ rd far v ∧ Tgt L M i v ∧ (best < 0 ∨ rd far v < best ∨ rd far v = best)) → TgI L M far i (v + 1) best ts := fun hno => by
      refine ⟨fun hb => ?_, fun hb => ?_, by omega⟩
      · obtain ⟨h1, h2, h3⟩ := h.none hb
        refine ⟨h1, h2, fun u hu hh => ?_⟩
        rcases Nat.lt_or_ge u v with hlt | hge
        · exact h3 u hlt hh
        · obtain rfl : u = v := by omega
          exact hno ⟨hh.1, hh.2, .inl hb⟩
      · obtain ⟨h1, h2, h3⟩ := h.some hb
        refine ⟨h1, fun t ht => ?_, fun u hu h0 hT => ?_⟩
        · obtain ⟨a, b, c⟩ := h2 t ht
          exact ⟨a, by omega, c⟩
        · rcases Nat.lt_or_ge u v with hlt | hge
          · exact h3 u hlt h0 hT
          · obtain rfl : u = v := by omega
            rcases (show rd far u < best ∨ best ≤ rd far u from by omega) with hlt | hge
            · exact absurd ⟨h0, hT, .inr (.inl hlt)⟩ hno
            · exact hge
    simp only [tgtF]
    by_cases h1 : rd far v < 0
    · rw [if_pos h1]
      exact next (same (fun hh => by omega))
    · rw [if_neg h1]
      by_cases h2 : 0 ≤ best ∧ best < rd far v
      · rw [if_pos h2]
        exact next (same (fun hh => by omega))
      · rw [if_neg h2]
        obtain ⟨p, hp, hp1, hp2⟩ := otherF_ok hi (M v) (hM v)
        rw [hp]
        simp only [Option.bind_some]
        cases hpt : p.2 with
        | false =>
          rw [if_neg (by decide)]
          refine next (same (fun hh => ?_))
          obtain ⟨_, ⟨j, hj, hij, hx⟩, _⟩ := hh
          rw [hp2 hpt j hj hij] at hx
          cases hx
        | true =>
          rw [if_pos rfl]
          have hT : Tgt L M i v := ⟨p.1, hp1 hpt⟩
          by_cases h3 : best < 0 ∨ rd far v < best
          · rw [if_pos h3]
            refine next ⟨fun hb => by omega, fun hb => ⟨by simp, fun t ht => ?_, fun u hu h0 hTu => ?_⟩, by simp⟩
            · rw [List.mem_singleton.1 ht]
              exact ⟨by omega, by omega, rfl, hT⟩
            · rcases Nat.lt_or_ge u v with hlt | hge
              · rcases (show best < 0 ∨ 0 ≤ best from by omega) with hb0 | hb0
                · exact absurd ⟨h0, hTu⟩ ((h.none hb0).2.2 u hlt)
                · have := (h.some hb0).2.2 u hlt h0 hTu
                  omega
              · obtain rfl : u = v := by omega
                exact Int.le_refl _
          · rw [if_neg h3]
            have hbe : rd far v = best := by omega
            refine next ⟨fun hb => by omega, fun hb => ?_, by rw [List.length_append, List.length_singleton]; omega⟩
            obtain ⟨g1, g2, g3⟩ := h.some hb
            refine ⟨by simp, fun t ht => ?_, fun u hu h0 hTu => ?_⟩
            · rcases List.mem_append.1 ht with ht | ht
              · obtain ⟨a, b, c⟩ := g2 t ht
                exact ⟨a, by omega, c⟩
              · rw [List.mem_singleton.1 ht]
                exact ⟨by omega, by omega, hbe, hT⟩
            · rcases Nat.lt_or_ge u v with hlt | hge
              · exact g3 u hlt h0 hTu
              · obtain rfl : u = v := by omega
                omega
theorem nextE_ok {left : List Int} {lv : Int} (hw : wrap64 (lv - 1) = lv - 1) : ∀ (es : List S55), (∀ e ∈ es, 0 ≤ e.f1 ∧ e.f1 < (left.length : Int)) → (∀ e ∈ es, 0 ≤ e.f0) → ∀ nx : S55,
    ∃ r, nextE left lv es nx = some r ∧ (r = nx ∨ (r ∈ es ∧ rd left r.f1 = lv - 1)) ∧ ((0 ≤ nx.f0 ∨ ∃ e ∈ es, rd left e.f1 = lv - 1) → 0 ≤ r.f0)
  | [], _, _, nx => ⟨nx, rfl, .inl rfl, fun h => h.elim id (fun ⟨e, he, _⟩ => by cases he)⟩
  | e :: es, h, h0, nx => by
    have he := h e (List.mem_cons_self ..)
    have he0 := h0 e (List.mem_cons_self ..)
    have ih := nextE_ok hw es (fun x hx => h x (List.mem_cons_of_mem _ hx)) (fun x hx => h0 x (List.mem_cons_of_mem _ hx))
    simp only [nextE, if_pos he]
    rw [hw]
    by_cases hr : rd left e.f1 = lv - 1
    · rw [if_pos hr]
      have take : ∃ r, nextE left lv es e = some r ∧ (r = nx ∨ (r ∈ e :: es ∧ rd left r.f1 = lv - 1)) ∧ ((0 ≤ nx.f0 ∨ ∃ x ∈ e :: es, rd left x.f1 = lv - 1) → 0 ≤ r.f0) := by
        obtain ⟨r, h1, h2, h3⟩ := ih e
        refine ⟨r, h1, .inr ?_, fun _ => h3 (.inl he0)⟩
        rcases h2 with rfl | ⟨h2, h4⟩
        · exact ⟨List.mem_cons_self .., hr⟩
        · exact ⟨List.mem_cons_of_mem _ h2, h4⟩
      by_cases hn : nx.f0 < 0
      · rw [if_pos hn]; exact take
      · rw [if_neg hn]
        by_cases hlt : e.f0 < nx.f0
        · rw [if_pos hlt]; exact take
        · rw [if_neg hlt]
          obtain ⟨r, h1, h2, h3⟩ := ih nx
          exact ⟨r, h1, h2.imp id (fun h => ⟨List.mem_cons_of_mem _ h.1, h.2⟩), fun _ => h3 (.inl (by omega))⟩
    · rw [if_neg hr]
      obtain ⟨r, h1, h2, h3⟩ := ih nx
      refine ⟨r, h1, h2.imp id (fun h => ⟨List.mem_cons_of_mem _ h.1, h.2⟩), fun hh => h3 (hh.imp id (fun ⟨x, hx, hxr⟩ => ?_))⟩
      rcases List.mem_cons.1 hx with rfl | hx
      · exact absurd hxr hr
      · exact ⟨x, hx, hxr⟩
/-- where a list of equalities leads -/
def wayC (L : List S36) : Int → List Int → Option Int
  | v, [] => some v
  | v, i :: is => if (cAt L i).f0 = 1 then (if (cAt L i).f1 = v then wayC L (cAt L i).f2 is else if (cAt L i).f2 = v then wayC L (cAt L i).f1 is else none) else none
theorem wayC_wk {L : List S36} : ∀ (p : List Int) (v u : Int), (∀ i ∈ p, 0 ≤ i ∧ i < (L.length : Int)) → wayC L v p = some u → WkL L p.length v u
  | [], v, u, _, h => by
    simp only [wayC, Option.some.injEq] at h
    subst h
    exact .nil _
  | i :: p, v, u, hr, h => by
    have hi := hr i (List.mem_cons_self ..)
    have hmem : cAt L i ∈ L := by
      unfold cAt rd_T36
      have : i.toNat < L.length := by omega
      rw [List.getD_eq_getElem?_getD, List.getElem?_eq_getElem this]
      exact List.getElem_mem this
    simp only [wayC] at h
    split at h
    case isFalse => cases h
    rename_i h0
    split at h
    · rename_i h1
      exact WkL.cons ⟨_, hmem, h0, .inl ⟨h1, rfl⟩⟩ (wayC_wk p _ u (fun x hx => hr x (List.mem_cons_of_mem _ hx)) h)
    · split at h
      case isFalse => cases h
      rename_i h2
      exact WkL.cons ⟨_, hmem, h0, .inr ⟨h2, rfl⟩⟩ (wayC_wk p _ u (fun x hx => hr x (List.mem_cons_of_mem _ hx)) h)
theorem wayF_ok {N : Nat} {L : List S36} {E : EE} {M : MM} (hb : Built N L E M) (hV : Valid N L) (hN : N ≤ 4096) {ts left : List Int} (hts : ∀ t ∈ ts, InN N t) (hl : FarL N L ts left) : ∀ (n k : Nat) (out : List Int) (v : Int), InN N v → rd left v = n → n < k → out.length + n ≤ 900000 →
    ∃ p u, wayF E left k out v = some (out ++ p, u) ∧ p.length = n ∧ u ∈ ts ∧ InN N u ∧ wayC L v p = some u ∧ ∀ i ∈ p, 0 ≤ i ∧ i < (L.length : Int)
  | n, 0, _, _, _, _, hk, _ => by omega
  | 0, k + 1, out, v, hv, hn, _, _ => by
    have hvl : 0 ≤ v ∧ v < (left.length : Int) := by rw [hl.len]; exact hv
    refine ⟨[], v, ?_, rfl, ?_, hv, rfl, fun i hi => by cases hi⟩
    · simp only [wayF]
      rw [if_pos hvl, if_neg (by omega), List.append_nil]
    · rcases hl.far v hv with ⟨h1, _⟩ | ⟨m, h1, _, ⟨f, hf, hw⟩, hmin⟩
      · omega
      · obtain rfl : m = 0 := by omega
        cases hw
        exact hf
  | n + 1, k + 1, out, v, hv, hn, hk, hol => by
    have hvl : 0 ≤ v ∧ v < (left.length : Int) := by rw [hl.len]; exact hv
    have hvE : v < (E.length : Int) := by rw [hb.len]; exact hv.2
    have hEok := hb.eok hV
    have hedge : ∀ e ∈ rdE E v, InN N e.f1 ∧ (0 ≤ e.f0 ∧ e.f0 < (L.length : Int)) ∧ (cAt L e.f0).f0 = 1 ∧ (((cAt L e.f0).f1 = v ∧ e.f1 = (cAt L e.f0).f2) ∨ ((cAt L e.f0).f2 = v ∧ e.f1 = (cAt L e.f0).f1)) := fun e he => by
      have h1 := hEok v (by unfold InR; rw [hb.len]; exact hv) e he
      unfold InR at h1
      rw [hb.len] at h1
      obtain ⟨j, c, hg, h0, h2⟩ := (hb.edge v hv e).1 he
      have hjl := (List.getElem?_eq_some_iff.1 hg).1
      rcases h2 with ⟨h2, rfl⟩ | ⟨h2, rfl⟩
      · exact ⟨h1, ⟨by simp, by simp; omega⟩, by rw [cAt_of hg]; exact h0, .inl ⟨by rw [cAt_of hg]; exact h2, by rw [cAt_of hg]⟩⟩
      · exact ⟨h1, ⟨by simp, by simp; omega⟩, by rw [cAt_of hg]; exact h0, .inr ⟨by rw [cAt_of hg]; exact h2, by rw [cAt_of hg]⟩⟩
    -- an edge leads on
    have hex : ∃ e ∈ rdE E v, rd left e.f1 = ((n + 1 : Nat) : Int) - 1 := by
      rcases hl.far v hv with ⟨h1, _⟩ | ⟨m, h1, _, ⟨f, hf, hw⟩, hmin⟩
      · omega
      · obtain rfl : m = n + 1 := by omega
        cases hw with
        | snoc hw' ha =>
          rename_i u
          have hu := wkL_in hV (hts f hf) hw'
          obtain ⟨e, he, heu⟩ := (hb.adj hv).2 ha.symm
          refine ⟨e, he, ?_⟩
          rw [heu]
          rcases hl.far u hu with ⟨_, h2⟩ | ⟨q, h2, _, ⟨g, hg, hwg⟩, hq⟩
          · exact absurd hw' (h2 f hf n)
          · have h3 := hq f hf n hw'
            have h4 := hmin g hg (q + 1) (hwg.snoc ha)
            omega
    have hn4 : n + 1 < N := by
      rcases hl.far v hv with ⟨h1, _⟩ | ⟨m, h1, h2, _⟩
      · omega
      · omega
    obtain ⟨r, h1, h2, h3⟩ := nextE_ok (left := left) (lv := ((n + 1 : Nat) : Int)) (wrap_small _ (by omega)) (rdE E v) (fun e he => by rw [hl.len]; exact (hedge e he).1) (fun e he => (hedge e he).2.1.1) ⟨-1, 0⟩
    have hr0 := h3 (.inr hex)
    have hre : r ∈ rdE E v ∧ rd left r.f1 = ((n + 1 : Nat) : Int) - 1 := by
      rcases h2 with rfl | h2
      · exact absurd hr0 (by decide)
      · exact h2
    obtain ⟨g1, g2, g3, g4⟩ := hedge r hre.1
    obtain ⟨p, u, f1, f2, f3, f4, f5, f6⟩ := wayF_ok hb hV hN hts hl n k (out ++ [r.f0]) r.f1 g1 (by rw [hre.2]; omega) (by omega) (by rw [List.length_append, List.length_singleton]; omega)
    refine ⟨r.f0 :: p, u, ?_, by rw [List.length_cons, f2], f3, f4, ?_, fun i hi => ?_⟩
    · simp only [wayF]
      rw [if_pos hvl, hn, if_pos (by omega), if_pos ⟨hvE, by omega⟩, h1]
      simp only [Option.bind_some]
      rw [f1, List.append_assoc]
      rfl
    · simp only [wayC]
      rw [if_pos g3]
      rcases g4 with ⟨g4, g5⟩ | ⟨g4, g5⟩
      · rw [if_pos g4, ← g5]
        exact f5
      · by_cases hself : (cAt L r.f0).f1 = v
        · rw [if_pos hself, g4, ← hself, ← g5]
          exact f5
        · rw [if_neg hself, if_pos g4, ← g5]
          exact f5
    · rcases List.mem_cons.1 hi with rfl | hi
      · exact g2
      · exact f6 i hi
/-- A chain: first mark, equalities, last mark. -/
structure IsCh (L : List S36) (a z : Int) (p : List Int) : Prop where
  lt : a < z
  ra : 0 ≤ a ∧ a < (L.length : Int)
  rz : 0 ≤ z ∧ z < (L.length : Int)
  rp : ∀ i ∈ p, 0 ≤ i ∧ i < (L.length : Int)
  ka : (cAt L a).f0 = 0
  kz : (cAt L z).f0 = 0
  ex : exclB (cAt L a).f3 (cAt L z).f3 = true
  way : wayC L (cAt L a).f1 p = some (cAt L z).f1
/-- mark j stands behind mark i, excludes it, and n equalities lead to it -/
def Opp (L : List S36) (i : Int) (n : Nat) : Prop := ∃ j : Nat, i < (j : Int) ∧ j < L.length ∧ (cAt L j).f0 = 0 ∧ exclB (cAt L i).f3 (cAt L j).f3 = true ∧ WkL L n (cAt L i).f1 (cAt L j).f1
end Go.Proofs.Ytjbafigageingaa

namespace Go.Proofs.Ytjbafigageingaa
open Go.RowKit Go.Proofs.YtjbafigageingaaW.PrintWords Go.Proofs.YtjbafigageingaaW.PrintLast Go.Proofs.YtjbafigageingaaW.PrintMore
set_option linter.unusedVariables false
set_option linter.unusedSimpArgs false
def Conn (L : List S36) (u v : Int) : Prop := ∃ n, WkL L n u v
theorem Conn.refl (L : List S36) (u : Int) : Conn L u u := ⟨0, .nil u⟩
theorem Conn.symm {L : List S36} {u v : Int} (h : Conn L u v) : Conn L v u := h.imp (fun _ h => h.symm)
theorem Conn.trans {L : List S36} {u v w : Int} (h : Conn L u v) (h2 : Conn L v w) : Conn L u w := by
  obtain ⟨n, h⟩ := h
  obtain ⟨m, h2⟩ := h2
  exact ⟨n + m, h.trans h2⟩
/-- a mark of the class of v, with an opponent n equalities away -/
def Cf (L : List S36) (v : Int) (n : Nat) : Prop := ∃ i : Nat, i < L.length ∧ (cAt L i).f0 = 0 ∧ Conn L v (cAt L i).f1 ∧ Opp L i n
def HasCf (L : List S36) (v : Int) : Prop := ∃ n, Cf L v n
theorem Cf.conn {L : List S36} {u v : Int} {n : Nat} (h : Cf L v n) (hc : Conn L u v) : Cf L u n := by
  obtain ⟨i, h1, h2, h3, h4⟩ := h
  exact ⟨i, h1, h2, hc.trans h3, h4⟩
/-- a mark that is a whole type -/
def Whole (t : S23) : Prop := t.f0 ≠ 5 ∧ t.f0 ≠ 6
/-- t is the type that the marks of ps give -/
def TyOf (L : List S36) (ps : List Int) (t : S23) : Prop := (t = z23 ∧ ∀ i ∈ ps, ¬ Whole (cAt L i).f3) ∨ ∃ i ∈ ps, Whole (cAt L i).f3 ∧ t = (cAt L i).f3
theorem getD_set (s : List Bool) (w u : Nat) (hw : w < s.length) : (s.set w true).getD u false = true ↔ u = w ∨ s.getD u false = true := by
  simp only [List.getD_eq_getElem?_getD, List.getElem?_set]
  by_cases h : w = u
  · subst h; simp [hw]
  · have : u ≠ w := fun hh => h hh.symm
    simp [h, this]
theorem coll_ok {M : MM} {far : List Int} {B : Nat} (hM : ∀ v, (M v).length ≤ B) : ∀ (d w : Nat) (c m : List Int) (s : List Bool), w + d ≤ s.length → m.length + d * B ≤ 1000000 →
    ∃ r, collF M far d w c m s = some r ∧ (∀ x, x ∈ r.1 ↔ x ∈ c ∨ ∃ u : Nat, w ≤ u ∧ u < w + d ∧ x = u ∧ 0 ≤ rd far u) ∧ (∀ x, x ∈ r.2.1 ↔ x ∈ m ∨ ∃ u : Nat, w ≤ u ∧ u < w + d ∧ x ∈ M u ∧ 0 ≤ rd far u) ∧ r.2.2.length = s.length ∧
      ∀ u, r.2.2.getD u false = true ↔ s.getD u false = true ∨ (w ≤ u ∧ u < w + d ∧ 0 ≤ rd far u)
  | 0, w, c, m, s, _, _ => ⟨(c, m, s), rfl, (fun x => ⟨.inl, fun h => h.elim id (fun ⟨u, h1, h2, _⟩ => by omega)⟩), (fun x => ⟨.inl, fun h => h.elim id (fun ⟨u, h1, h2, _⟩ => by omega)⟩), rfl, (fun u => ⟨.inl, fun h => h.elim id (fun ⟨h1, h2, _⟩ => by omega)⟩)⟩
  | d + 1, w, c, m, s, hs, hm => by
    have hMw := hM w
    rw [Nat.add_mul, Nat.one_mul] at hm
    simp only [collF]
    by_cases h0 : 0 ≤ rd far w
    · rw [if_pos h0, if_pos (show m.length + (M w).length ≤ 1000000 by omega)]
      obtain ⟨r, r1, r2, r3, r4, r5⟩ := coll_ok hM d (w + 1) (c ++ [(w : Int)]) (m ++ M w) (s.set w true) (by rw [List.length_set]; omega) (by rw [List.length_append]; omega)
      refine ⟨r, r1, fun x => ?_, fun x => ?_, by rw [r4, List.length_set], fun u => ?_⟩
      · rw [r2 x, List.mem_append, List.mem_singleton]
        constructor
        · rintro ((h | h) | ⟨u, h1, h2, h3⟩)
          · exact .inl h
          · exact .inr ⟨w, Nat.le_refl _, by omega, h, h0⟩
          · exact .inr ⟨u, by omega, by omega, h3⟩
        · rintro (h | ⟨u, h1, h2, h3, h4⟩)
          · exact .inl (.inl h)
          · rcases Nat.eq_or_lt_of_le h1 with rfl | h1
            · exact .inl (.inr h3)
            · exact .inr ⟨u, h1, by omega, h3, h4⟩
      · rw [r3 x, List.mem_append]
        constructor
        · rintro ((h | h) | ⟨u, h1, h2, h3⟩)
          · exact .inl h
          · exact .inr ⟨w, Nat.le_refl _, by omega, h, h0⟩
          · exact .inr ⟨u, by omega, by omega, h3⟩
        · rintro (h | ⟨u, h1, h2, h3, h4⟩)
          · exact .inl (.inl h)
          · rcases Nat.eq_or_lt_of_le h1 with rfl | h1
            · exact .inl (.inr h3)
            · exact .inr ⟨u, h1, by omega, h3, h4⟩
      · rw [r5 u, getD_set s w u (by omega)]
        constructor
        · rintro ((h | h) | ⟨h1, h2, h3⟩)
          · subst h; exact .inr ⟨Nat.le_refl _, by omega, h0⟩
          · exact .inl h
          · exact .inr ⟨by omega, by omega, h3⟩
        · rintro (h | ⟨h1, h2, h3⟩)
          · exact .inl (.inr h)
          · rcases Nat.eq_or_lt_of_le h1 with rfl | h1
            · exact .inl (.inl rfl)
            · exact .inr ⟨h1, by omega, h3⟩
    · rw [if_neg h0]
      obtain ⟨r, r1, r2, r3, r4, r5⟩ := coll_ok hM d (w + 1) c m s (by omega) (by omega)
      have ne : ∀ {u : Nat}, 0 ≤ rd far u → w ≤ u → w + 1 ≤ u := fun {u} hu h1 => by
        rcases Nat.eq_or_lt_of_le h1 with rfl | h1
        · exact absurd hu h0
        · exact h1
      refine ⟨r, r1, fun x => ?_, fun x => ?_, r4, fun u => ?_⟩
      · rw [r2 x]
        exact ⟨fun h => h.imp id (fun ⟨u, h1, h2, h3⟩ => ⟨u, by omega, by omega, h3⟩), fun h => h.imp id (fun ⟨u, h1, h2, h3, h4⟩ => ⟨u, ne h4 h1, by omega, h3, h4⟩)⟩
      · rw [r3 x]
        exact ⟨fun h => h.imp id (fun ⟨u, h1, h2, h3⟩ => ⟨u, by omega, by omega, h3⟩), fun h => h.imp id (fun ⟨u, h1, h2, h3, h4⟩ => ⟨u, ne h4 h1, by omega, h3, h4⟩)⟩
      · rw [r5 u]
        exact ⟨fun h => h.imp id (fun ⟨h1, h2, h3⟩ => ⟨by omega, by omega, h3⟩), fun h => h.imp id (fun ⟨h1, h2, h3⟩ => ⟨ne h3 h1, by omega, h3⟩)⟩
theorem fill_get (t : S23) : ∀ (ws : List Int) (out : List S23), (∀ x ∈ ws, 0 ≤ x ∧ x < (out.length : Int)) → (fillF t ws out).length = out.length ∧ ∀ u : Nat, (fillF t ws out).getD u z23 = if (u : Int) ∈ ws then t else out.getD u z23
  | [], out, _ => ⟨rfl, fun u => by simp [fillF]⟩
  | x :: ws, out, h => by
    have hx := h x (List.mem_cons_self ..)
    obtain ⟨h1, h2⟩ := fill_get t ws (out.set x.toNat t) (fun y hy => by rw [List.length_set]; exact h y (List.mem_cons_of_mem _ hy))
    simp only [fillF]
    refine ⟨by rw [h1, List.length_set], fun u => ?_⟩
    rw [h2 u]
    by_cases hu : (u : Int) ∈ ws
    · simp [hu]
    · rw [if_neg hu]
      simp only [List.getD_eq_getElem?_getD, List.getElem?_set, List.mem_cons]
      by_cases he : (u : Int) = x
      · have : x.toNat = u := by omega
        have h3 : u < out.length := by omega
        simp [he, this, h3]
      · have : ¬ x.toNat = u := by omega
        simp [he, hu, this]
def IsRep (L : List S36) (r : Nat) : Prop := ∀ u : Nat, u < r → ¬ Conn L u r
/-- what is told of a vertex's type -/
def OutOK (L : List S36) (u : Int) (t : S23) : Prop :=
  (HasCf L u → t = z23) ∧ (¬ HasCf L u → (t = z23 ∧ ∀ i : Nat, i < L.length → (cAt L i).f0 = 0 → Conn L u (cAt L i).f1 → ¬ Whole (cAt L i).f3) ∨ ∃ i : Nat, i < L.length ∧ (cAt L i).f0 = 0 ∧ Conn L u (cAt L i).f1 ∧ Whole (cAt L i).f3 ∧ t = (cAt L i).f3)
open Classical in
noncomputable def reps (L : List S36) (v : Nat) : List Nat := (List.range v).filter (fun r => decide (IsRep L r ∧ HasCf L r))
open Classical in
theorem reps_succ (L : List S36) (v : Nat) : reps L (v + 1) = if IsRep L v ∧ HasCf L v then reps L v ++ [v] else reps L v := by
  unfold reps
  rw [List.range_succ, List.filter_append]
  by_cases h : IsRep L v ∧ HasCf L v
  · rw [if_pos h]; simp [h]
  · rw [if_neg h]; simp [h]
theorem solve_invalid {N : Nat} {L : List S36} (hV : ¬ Valid N L) (hN : N ≤ 4096) (k : Nat) : solveF N L k = some ([], [], 1) := by
  unfold solveF
  rw [if_neg (by omega), Int.toNat_natCast]
  cases hb : buildF N L 0 (List.replicate N []) (fun _ => []) with
  | none => rfl
  | some p => exact absurd (build_some L [] _ _ (built_nil N) hb).2 hV
theorem solve_range {N : Int} {L : List S36} (hN : N < 0 ∨ 4096 < N) (k : Nat) : solveF N L k = some ([], [], 2) := by
  unfold solveF
  rw [if_pos hN]
end Go.Proofs.Ytjbafigageingaa

namespace Go.Proofs.Ytjbafigageingaa
open Go.RowKit Go.Proofs.YtjbafigageingaaW.PrintWords Go.Proofs.YtjbafigageingaaW.PrintLast Go.Proofs.YtjbafigageingaaW.PrintMore
theorem neB {W : World} {q : Addr} {v : Value} {g : Nat} (hw : W.cell? q = some v) (hg : W.heap.size ≤ g) : q.block ≠ g :=
  Nat.ne_of_lt (Nat.lt_of_lt_of_le (World.block_lt_of_cell? _ _ hw) hg)
theorem upc {w w' : World} {a : Addr} {v : Value} (h : Below w.heap.size w w') (hx : w.cell? a = some v) : w'.cell? a = some v :=
  (h.cell (World.block_lt_of_cell? w _ hx)).trans hx
theorem cf_ {W0 W : World} {q : Addr} {v u : Value} {g o : Nat} (hw : W0.cell? q = some v) (hg : W0.heap.size ≤ g) : (W.setCell ⟨g, o, none⟩ u).cell? q = W.cell? q :=
  cell_far (p := ⟨g, o, none⟩) (neB hw hg) u
abbrev yy : Bool := true
abbrev nn : Bool := false
abbrev rA := @Kd.R_alloc
abbrev rN := @Kd.R_drewN
abbrev rD := @Kd.R_drew
abbrev bA := @below_alloc
abbrev bN := @pw_below_drewN
abbrev bD := @below_drew1
abbrev bS := @below_set
abbrev bZ := @below_size
abbrev bT := @below_step
abbrev kN := @blk_drewN
abbrev kD := @blk_drew
abbrev kA := @blk_alloc
end Go.Proofs.Ytjbafigageingaa

namespace Go.Proofs.Ytjbafigageingaa.PR
open Go.RowKit Go.Proofs.YtjbafigageingaaW.PrintWords Go.Proofs.YtjbafigageingaaW.PrintLast Go.Proofs.YtjbafigageingaaW.PrintMore
attribute [local go_sem] max2_int min2_int max_two min_two max_three min_three max_four min_four
set_option linter.unusedVariables false
set_option linter.unusedSimpArgs false



def errW : Option Int → Value
  | none => .nilIface
  | some c => .iface 0 (.int .i64 c)
theorem errW_none : errW none = .nilIface := rfl
theorem errW_some (c : Int) : errW (some c) = .iface 0 (.int .i64 c) := rfl

def rd_L5 (xs : List (List Int)) (i : Int) : (List Int) := xs.getD i.toNat ([] : List Int)
theorem at_L5 {w : World} {A : Option Addr} {n : Nat} {xs : List (List Int)} (h : Kd.C (Kd.slice 3 (Kd.int .i64)) w A n xs) (i : Int) (h0 : 0 ≤ i) (h1 : i < n) : ∃ ad A0 c0, A = some ad ∧ w.cell? (ad.add i.toNat) = some (.slice A0 (rd_L5 xs i).length c0) ∧ (rd_L5 xs i).length ≤ c0 ∧ (Kd.int .i64).C w A0 (rd_L5 xs i).length (rd_L5 xs i) := by
  obtain ⟨ad, c, e, _, hK, hc0⟩ := Kd.C_get h ([] : List Int) i h0 h1
  have hc : ∀ j u, c[j]? = some u → w.cell? (ad.add (i.toNat * 1 + j)) = some u := hc0
  obtain ⟨A0, c0, rfl, l0, g0⟩ := hK
  exact ⟨ad, A0, c0, e, by have hq := hc 0 _ rfl; rwa [Nat.mul_one, Nat.add_zero] at hq, l0, g0⟩

end Go.Proofs.Ytjbafigageingaa.PR

namespace Go.Proofs.Ytjbafigageingaa.PR
open Go.RowKit Go.Proofs.YtjbafigageingaaW.PrintWords Go.Proofs.YtjbafigageingaaW.PrintLast Go.Proofs.YtjbafigageingaaW.PrintMore
attribute [local go_sem] max2_int min2_int max_two min_two max_three min_three max_four min_four
set_option linter.unusedVariables false
set_option linter.unusedSimpArgs false

theorem eqA23 (d : Nat) (w : World) (x0 y0 : Int) (x1 y1 : Int) (x2 y2 : ByteArray) :
    (Op.equalIn (d + 2) 23 (.agg #[.int .i64 x0, .int .i64 x1, .string x2]) (.agg #[.int .i64 y0, .int .i64 y1, .string y2])).run Try.prog w = .ok (x0 == y0 && (x1 == y1 && (x2.toList == y2.toList))) w := by
  refine eqA_of Try.underlying23 (by kernel_rfl) ?_
  refine eqf_cons (by rfl) (by go_simp; rfl) (by go_simp; rfl) (by go_simp) ?_
  refine eqf_cons (by rfl) (by go_simp; rfl) (by go_simp; rfl) (by go_simp) ?_
  exact eqf_last (by rfl) (by go_simp; rfl) (by go_simp; rfl) (by go_simp)
end Go.Proofs.Ytjbafigageingaa.PR

namespace Go.Proofs.Ytjbafigageingaa.PR
open Go.RowKit Go.Proofs.YtjbafigageingaaW.PrintWords Go.Proofs.YtjbafigageingaaW.PrintLast Go.Proofs.YtjbafigageingaaW.PrintMore
attribute [local go_sem] max2_int min2_int max_two min_two max_three min_three max_four min_four
set_option linter.unusedVariables false
set_option linter.unusedSimpArgs false

attribute [local go_sem high] eqA23
def assessorref09_IsMark.j0 : Nat → Int → Bool → Int → Int → ByteArray → Option (Bool)
  | 0, _, _, _, _, _ => none
  | k + 1, x4, x5, x102000, x102001, x102002 => if x5 = true then (if x102001 = 0 then (some (x102002.toList == ([] : List UInt8))) else (some false)) else (if x4 = 3 then (if x102001 ≥ 1 then (if x102001 ≤ 8 then (some (x102002.toList == ([] : List UInt8))) else (some false)) else (some false)) else (if x4 = 4 then (if x102001 = 0 then (some (x102002.toList != ([] : List UInt8))) else (some false)) else (some false)))
def assessorref09_IsMark.f (k : Nat) (a0_0 : Int) (a0_1 : Int) (a0_2 : ByteArray) : Option (Bool) := if a0_0 = 1 then (assessorref09_IsMark.j0 k a0_0 (a0_0 == 1) a0_0 a0_1 a0_2) else (if a0_0 = 2 then (assessorref09_IsMark.j0 k a0_0 (a0_0 == 2) a0_0 a0_1 a0_2) else (if a0_0 = 5 then (assessorref09_IsMark.j0 k a0_0 (a0_0 == 5) a0_0 a0_1 a0_2) else (assessorref09_IsMark.j0 k a0_0 (a0_0 == 6) a0_0 a0_1 a0_2)))
theorem assessorref09_IsMark.mono_l : ∀ k, (∀ y0 y1 y2 y3 y4, LeO (assessorref09_IsMark.j0 k y0 y1 y2 y3 y4) (assessorref09_IsMark.j0 (k + 1) y0 y1 y2 y3 y4))
  | 0 => fun _ _ _ _ _ r h => by simp [assessorref09_IsMark.j0] at h
  | k + 1 => by
    have ih0 := assessorref09_IsMark.mono_l k
    · intro y0 y1 y2 y3 y4
      unfold assessorref09_IsMark.j0
      repeat' first
      | (with_reducible exact ih0 _ _ _ _ _)
      | (with_reducible exact LeO.refl _)
      | (with_reducible exact LeO.none _)
      | (with_reducible refine LeO.ite ?_ ?_)
      | (with_reducible refine LeO.bind ?_ (fun _ => ?_))
      | exact ih0 _ _ _ _ _
      | exact LeO.none _
      | refine LeO.ite ?_ ?_
      | refine LeO.bind ?_ (fun _ => ?_)
theorem assessorref09_IsMark.mono : ∀ a0 a1 a2 k, LeO (assessorref09_IsMark.f k a0 a1 a2) (assessorref09_IsMark.f (k + 1) a0 a1 a2) := by
  intro a0 a1 a2 k
  have ih0 := assessorref09_IsMark.mono_l k
  unfold assessorref09_IsMark.f
  repeat' first
      | (with_reducible exact ih0 _ _ _ _ _)
      | (with_reducible exact LeO.refl _)
      | (with_reducible exact LeO.none _)
      | (with_reducible refine LeO.ite ?_ ?_)
      | (with_reducible refine LeO.bind ?_ (fun _ => ?_))
      | exact ih0 _ _ _ _ _
      | exact LeO.none _
      | refine LeO.ite ?_ ?_
      | refine LeO.bind ?_ (fun _ => ?_)
def assessorref09_fits.f (a0_0 : Int) (a0_1 : Int) (a0_2 : ByteArray) (a1_0 : Int) (a1_1 : Int) (a1_2 : ByteArray) : Option (Bool) := if (a0_0 == a1_0 && (a0_1 == a1_1 && (a0_2.toList == a1_2.toList))) = true then (some true) else (if a0_0 = 6 then (if a1_0 = 1 then (some true) else (if a1_0 = 2 then (some true) else (if a0_0 = 5 then (some (a1_0 == 3)) else (some false)))) else (if a0_0 = 5 then (some (a1_0 == 3)) else (some false)))
def assessorref09_Exclude.f (k : Nat) (a0_0 : Int) (a0_1 : Int) (a0_2 : ByteArray) (a1_0 : Int) (a1_1 : Int) (a1_2 : ByteArray) : Option (Bool) := (assessorref09_IsMark.f k a0_0 a0_1 a0_2).bind fun t106 => (if t106 = true then ((assessorref09_IsMark.f k a1_0 a1_1 a1_2).bind fun t107 => (if t107 = true then ((assessorref09_fits.f a0_0 a0_1 a0_2 a1_0 a1_1 a1_2).bind fun t108 => (if t108 = true then (some false) else ((assessorref09_fits.f a1_0 a1_1 a1_2 a0_0 a0_1 a0_2).bind fun t109 => (some (!t109))))) else (some false))) else (some false))
theorem assessorref09_Exclude.mono : ∀ a0 a1 a2 a3 a4 a5 k, LeO (assessorref09_Exclude.f k a0 a1 a2 a3 a4 a5) (assessorref09_Exclude.f (k + 1) a0 a1 a2 a3 a4 a5) := by
  intro a0 a1 a2 a3 a4 a5 k
  unfold assessorref09_Exclude.f
  repeat' first
      | (with_reducible exact assessorref09_IsMark.mono _ _ _ _)
      | (with_reducible exact LeO.refl _)
      | (with_reducible exact LeO.none _)
      | (with_reducible refine LeO.ite ?_ ?_)
      | (with_reducible refine LeO.bind ?_ (fun _ => ?_))
      | exact assessorref09_IsMark.mono _ _ _ _
      | exact LeO.none _
      | refine LeO.ite ?_ ?_
      | refine LeO.bind ?_ (fun _ => ?_)
def assessorlaw09_few.f (a0 : Int) (l1 : List (S36)) : Option (Bool) := if (l1.length : Int) ≤ 80 then (if a0 ≤ 60 then (some true) else (some (decide (a0 > 4096)))) else (some false)
set_option maxHeartbeats 8000000 in
set_option maxRecDepth 100000 in
theorem assessorlaw09_few.calls (a0 : Int) (A1 : Option Addr) (c1 : Nat) (l1 : List (S36)) (r : Bool) (w : World) (hr1 : Kd.C k36 w A1 l1.length l1) (hc1 : l1.length ≤ c1) (h : assessorlaw09_few.f a0 l1 = some r) :
    Calls Try.prog 11 #[.int .i64 a0, .slice A1 l1.length c1] w fun e w' => e = .returned (.bool r) ∧ Drawn0 w w' := by
  have HR1 := Aside0.mk hr1
  have HC1 := Aside0.mk hc1
  clear hr1 hc1
  have H : (if (l1.length : Int) ≤ 80 then (if a0 ≤ 60 then (some true) else (some (decide (a0 > 4096)))) else (some false)) = some r := h
  clear h
  by_cases c3 : (l1.length : Int) ≤ 80
  · rw [if_pos c3] at H
    have c3b0 : decide ((l1.length : Int) ≤ 80) = true := decide_eq_true c3
    have c3b1 : decide (l1.length ≤ 80) = true := decide_eq_true (by omega)
    clear c3
    by_cases c4 : a0 ≤ 60
    · rw [if_pos c4] at H
      have c4b0 : decide (a0 ≤ 60) = true := decide_eq_true c4
      clear c4
      obtain rfl := Option.some.inj H
      go_enter Try.func11, Try.ntmps11
      go_wp2
      go_ret
      exact ⟨by first | rfl | (simp; done) | (simp [*]; done), by repeat (first | exact Drawn0.refl _ | apply Drawn0.step)⟩
    · rw [if_neg c4] at H
      have c4b0 : decide (a0 ≤ 60) = false := decide_eq_false c4
      clear c4
      obtain rfl := Option.some.inj H
      go_enter Try.func11, Try.ntmps11
      go_wp2
      go_ret
      exact ⟨by first | rfl | (simp; done) | (simp [*]; done), by repeat (first | exact Drawn0.refl _ | apply Drawn0.step)⟩
  · rw [if_neg c3] at H
    have c3b0 : decide ((l1.length : Int) ≤ 80) = false := decide_eq_false c3
    have c3b1 : decide (l1.length ≤ 80) = false := decide_eq_false (by omega)
    clear c3
    obtain rfl := Option.some.inj H
    go_enter Try.func11, Try.ntmps11
    go_wp2
    go_ret
    exact ⟨by first | rfl | (simp; done) | (simp [*]; done), by repeat (first | exact Drawn0.refl _ | apply Drawn0.step)⟩

end Go.Proofs.Ytjbafigageingaa.PR

namespace Go.Proofs.Ytjbafigageingaa
open Go.RowKit Go.Proofs.YtjbafigageingaaW.PrintWords Go.Proofs.YtjbafigageingaaW.PrintLast Go.Proofs.YtjbafigageingaaW.PrintMore
set_option linter.unusedVariables false
set_option linter.unusedSimpArgs false
theorem isEmpty_beq (l : List UInt8) : (l == ([] : List UInt8)) = l.isEmpty := by cases l <;> rfl
theorem isEmpty_bne (l : List UInt8) : (l != ([] : List UInt8)) = !l.isEmpty := by cases l <;> rfl
theorem refIsMark (k : Nat) (t : S23) : PR.assessorref09_IsMark.f (k + 1) t.f0 t.f1 t.f2 = some (isMarkB t) := by
  obtain ⟨a, b, s⟩ := t
  unfold PR.assessorref09_IsMark.f isMarkB noText
  simp only [PR.assessorref09_IsMark.j0, isEmpty_beq, isEmpty_bne]
  rcases (show a = 1 ∨ a = 2 ∨ a = 5 ∨ a = 6 ∨ a = 3 ∨ a = 4 ∨ (a ≠ 1 ∧ a ≠ 2 ∧ a ≠ 5 ∧ a ≠ 6 ∧ a ≠ 3 ∧ a ≠ 4) from by omega) with rfl | rfl | rfl | rfl | rfl | rfl | ⟨h1, h2, h3, h4, h5, h6⟩
  all_goals simp [*]
  all_goals (try (by_cases hb : b = 0 <;> simp [hb]; done))
  all_goals (try (by_cases h1 : 1 ≤ b <;> by_cases h8 : b ≤ 8 <;> simp [h1, h8]; done))
theorem refFits (a b : S23) : PR.assessorref09_fits.f a.f0 a.f1 a.f2 b.f0 b.f1 b.f2 = some (sameT a b || coversB a b) := by
  obtain ⟨a0, a1, a2⟩ := a
  obtain ⟨b0, b1, b2⟩ := b
  unfold PR.assessorref09_fits.f sameT coversB
  simp only
  by_cases hs : (a0 == b0 && (a1 == b1 && (a2.toList == b2.toList))) = true
  · rw [if_pos hs, hs]; simp
  · rw [if_neg hs, Bool.eq_false_iff.2 hs]
    by_cases h6 : a0 = 6
    · subst h6
      by_cases h1 : b0 = 1
      · simp [h1]
      · by_cases h2 : b0 = 2 <;> simp [h1, h2]
    · by_cases h5 : a0 = 5
      · subst h5
        by_cases h3 : b0 = 3 <;> simp [h3]
      · simp [h5, h6]
theorem refExcl (k : Nat) (a b : S23) : PR.assessorref09_Exclude.f (k + 1) a.f0 a.f1 a.f2 b.f0 b.f1 b.f2 = some (exclB a b) := by
  unfold PR.assessorref09_Exclude.f exclB
  rw [refIsMark, refIsMark, refFits, refFits]
  simp only [Option.bind_some]
  have hsym : sameT b a = sameT a b := by
    unfold sameT
    rw [Bool.beq_comm (a := b.f0), Bool.beq_comm (a := b.f1), Bool.beq_comm (a := b.f2.toList)]
  rw [hsym]
  cases isMarkB a <;> cases isMarkB b <;> cases sameT a b <;> cases coversB a b <;> cases coversB b a <;> rfl
theorem excl_symm (a b : S23) : exclB b a = exclB a b := by
  unfold exclB
  have hsym : sameT b a = sameT a b := by
    unfold sameT
    rw [Bool.beq_comm (a := b.f0), Bool.beq_comm (a := b.f1), Bool.beq_comm (a := b.f2.toList)]
  rw [hsym]
  cases isMarkB a <;> cases isMarkB b <;> cases sameT a b <;> cases coversB a b <;> cases coversB b a <;> rfl
theorem excl_irr (a : S23) : exclB a a = false := by
  have : sameT a a = true := by simp [sameT]
  unfold exclB
  rw [this]
  cases isMarkB a <;> rfl
end Go.Proofs.Ytjbafigageingaa

namespace Go.Proofs.Ytjbafigageingaa
open Go.RowKit Go.Proofs.YtjbafigageingaaW.PrintWords Go.Proofs.YtjbafigageingaaW.PrintLast Go.Proofs.YtjbafigageingaaW.PrintMore
set_option linter.unusedVariables false
set_option linter.unusedSimpArgs false
theorem mem_at {L : List S36} {c : S36} (h : c ∈ L) : ∃ i : Nat, i < L.length ∧ L[i]? = some c ∧ cAt L (i : Int) = c := by
  obtain ⟨i, hi, he⟩ := List.getElem_of_mem h
  have h1 : L[i]? = some c := by rw [List.getElem?_eq_getElem hi, he]
  exact ⟨i, hi, h1, cAt_of h1⟩
theorem at_mem {L : List S36} {i : Int} (h : 0 ≤ i ∧ i < (L.length : Int)) : cAt L i ∈ L := by
  unfold cAt rd_T36
  have : i.toNat < L.length := by omega
  rw [List.getD_eq_getElem?_getD, List.getElem?_eq_getElem this]
  exact List.getElem_mem this
theorem at_memN {L : List S36} {i : Nat} (h : i < L.length) : cAt L (i : Int) ∈ L := at_mem (by omega)
/-- a conflict of the class of v, n equalities long -/
def CfM (L : List S36) (v : Int) (n : Nat) : Prop := ∃ c ∈ L, ∃ d ∈ L, c.f0 = 0 ∧ d.f0 = 0 ∧ Conn L v c.f1 ∧ exclB c.f3 d.f3 = true ∧ WkL L n c.f1 d.f1
theorem cf_iff (L : List S36) (v : Int) (n : Nat) : Cf L v n ↔ CfM L v n := by
  constructor
  · rintro ⟨i, hi, h0, hc, j, hij, hj, hj0, he, hw⟩
    exact ⟨_, at_memN hi, _, at_memN hj, h0, hj0, hc, he, hw⟩
  · rintro ⟨c, hc, d, hd, h0, h1, hv, he, hw⟩
    obtain ⟨i, hi, _, rfl⟩ := mem_at hc
    obtain ⟨j, hj, _, rfl⟩ := mem_at hd
    rcases Nat.lt_trichotomy i j with hlt | heq | hgt
    · exact ⟨i, hi, h0, hv, j, by omega, hj, h1, he, hw⟩
    · subst heq
      rw [excl_irr] at he
      cases he
    · exact ⟨j, hj, h1, hv.trans ⟨n, hw⟩, i, by omega, hi, h0, by rw [excl_symm]; exact he, hw.symm⟩
theorem Conn.mono {L L' : List S36} (hs : ∀ c ∈ L, c ∈ L') {u v : Int} (h : Conn L u v) : Conn L' u v := h.imp fun n hw => hw.mono (fun c hc _ => hs c hc)
theorem cf_mono {L L' : List S36} (hs : ∀ c ∈ L, c ∈ L') {v : Int} {n : Nat} (h : Cf L v n) : Cf L' v n := by
  rw [cf_iff] at h ⊢
  obtain ⟨c, hc, d, hd, h0, h1, hv, he, hw⟩ := h
  exact ⟨c, hs c hc, d, hs d hd, h0, h1, hv.mono hs, he, hw.mono (fun c hc _ => hs c hc)⟩
/-- a chain is a conflict -/
theorem IsCh.cf {L : List S36} {a z : Int} {p : List Int} (h : IsCh L a z p) {v : Int} (hv : Conn L v (cAt L a).f1) : Cf L v p.length := by
  rw [cf_iff]
  exact ⟨_, at_mem h.ra, _, at_mem h.rz, h.ka, h.kz, hv, h.ex, wayC_wk p _ _ h.rp h.way⟩
theorem sameT_of {a b : S23} (ha : isMarkB a = true) (hb : isMarkB b = true) (wa : Whole a) (wb : Whole b) (he : ¬ exclB a b = true) : sameT a b = true := by
  have h1 : coversB a b = false := by
    unfold coversB
    have e1 : (a.f0 == 6) = false := beq_eq_false_iff_ne.2 wa.2
    have e2 : (a.f0 == 5) = false := beq_eq_false_iff_ne.2 wa.1
    rw [e1, e2]; rfl
  have h2 : coversB b a = false := by
    unfold coversB
    have e1 : (b.f0 == 6) = false := beq_eq_false_iff_ne.2 wb.2
    have e2 : (b.f0 == 5) = false := beq_eq_false_iff_ne.2 wb.1
    rw [e1, e2]; rfl
  unfold exclB at he
  rw [ha, hb, h1, h2] at he
  cases hs : sameT a b with
  | true => rfl
  | false => rw [hs] at he; exact absurd rfl he
theorem sameT_refl (a : S23) : sameT a a = true := by simp [sameT]
theorem valid_mark {N : Nat} {L : List S36} (hV : Valid N L) {c : S36} (hc : c ∈ L) (h0 : c.f0 = 0) : isMarkB c.f3 = true := by
  rcases (hV c hc).2 with h | h
  · exact h.2
  · omega
theorem out_same {N : Nat} {L L' : List S36} (hV : Valid N L) (hs : ∀ c, c ∈ L ↔ c ∈ L') {u : Int} {t t' : S23} (h : OutOK L u t) (h' : OutOK L' u t') : sameT t t' = true := by
  have h1 : ∀ u v, Conn L u v ↔ Conn L' u v := fun u v => ⟨fun h => h.mono (fun c hc => (hs c).1 hc), fun h => h.mono (fun c hc => (hs c).2 hc)⟩
  have h2 : ∀ v, HasCf L v ↔ HasCf L' v := fun v => ⟨fun ⟨n, h⟩ => ⟨n, cf_mono (fun c hc => (hs c).1 hc) h⟩, fun ⟨n, h⟩ => ⟨n, cf_mono (fun c hc => (hs c).2 hc) h⟩⟩
  by_cases hc : HasCf L u
  · rw [h.1 hc, h'.1 ((h2 u).1 hc)]
    exact sameT_refl _
  · have hc' : ¬ HasCf L' u := fun hx => hc ((h2 u).2 hx)
    rcases h.2 hc with ⟨rfl, hz⟩ | ⟨i, hi, i0, ic, iw, rfl⟩
    · rcases h'.2 hc' with ⟨rfl, _⟩ | ⟨j, hj, j0, jc, jw, rfl⟩
      · exact sameT_refl _
      · obtain ⟨i, hi, _, he⟩ := mem_at ((hs _).2 (at_memN hj))
        rw [← he] at jw j0 jc
        exact absurd jw (hz i hi j0 ((h1 _ _).2 jc))
    · rcases h'.2 hc' with ⟨rfl, hz⟩ | ⟨j, hj, j0, jc, jw, rfl⟩
      · obtain ⟨j, hj, _, he⟩ := mem_at ((hs _).1 (at_memN hi))
        rw [← he] at iw i0 ic
        exact absurd iw (hz j hj i0 ((h1 _ _).1 ic))
      · have mi := at_memN hi
        have mj := (hs _).2 (at_memN hj)
        refine sameT_of (valid_mark hV mi i0) (valid_mark hV mj j0) iw jw fun he => hc ?_
        obtain ⟨n, hn⟩ := ic.symm.trans ((h1 _ _).2 jc)
        exact ⟨n, (cf_iff _ _ _).2 ⟨_, mi, _, mj, i0, j0, ic, he, hn⟩⟩
end Go.Proofs.Ytjbafigageingaa

namespace Go.Proofs.Ytjbafigageingaa
open Go.RowKit Go.Proofs.YtjbafigageingaaW.PrintWords Go.Proofs.YtjbafigageingaaW.PrintLast Go.Proofs.YtjbafigageingaaW.PrintMore
set_option linter.unusedVariables false
set_option linter.unusedSimpArgs false
attribute [local go_sem high] eqA23
set_option maxRecDepth 100000 in
theorem refMark_calls (a b : Int) (s : ByteArray) (w : World) :
    Calls Try.prog 24 #[.agg #[.int .i64 a, .int .i64 b, .string s]] w fun e w' => e = .returned (.bool (isMarkB ⟨a, b, s⟩)) ∧ Below w.heap.size w w' := by
  rcases (show (a = 1 ∧ b = 0) ∨ (a = 2 ∧ b = 0) ∨ (a = 5 ∧ b = 0) ∨ (a = 6 ∧ b = 0) ∨ (a = 4 ∧ b = 0) ∨ (a = 1 ∧ b ≠ 0) ∨ (a = 2 ∧ b ≠ 0) ∨ (a = 5 ∧ b ≠ 0) ∨ (a = 6 ∧ b ≠ 0) ∨ (a = 4 ∧ b ≠ 0) ∨ (a = 3 ∧ 1 ≤ b ∧ b ≤ 8) ∨ (a = 3 ∧ b < 1) ∨ (a = 3 ∧ 8 < b) ∨ (a ≠ 1 ∧ a ≠ 2 ∧ a ≠ 5 ∧ a ≠ 6 ∧ a ≠ 3 ∧ a ≠ 4) from by omega) with ⟨rfl, rfl⟩ | ⟨rfl, rfl⟩ | ⟨rfl, rfl⟩ | ⟨rfl, rfl⟩ | ⟨rfl, rfl⟩ | ⟨rfl, h1⟩ | ⟨rfl, h1⟩ | ⟨rfl, h1⟩ | ⟨rfl, h1⟩ | ⟨rfl, h1⟩ | ⟨rfl, h1, h2⟩ | ⟨rfl, h1⟩ | ⟨rfl, h1⟩ | ⟨h1, h2, h3, h4, h5, h6⟩
  all_goals
    go_enter Try.func24, Try.ntmps24
    go_wp2
    go_ret
    refine ⟨ret_bool ?_, (Below.refl _ _).alloc (Nat.le_refl _) _⟩
    simp [isMarkB, noText, *]
    try (intros; omega)
set_option maxRecDepth 100000 in
theorem refFits_calls (a b : Int) (s : ByteArray) (a' b' : Int) (s' : ByteArray) (w : World) :
    Calls Try.prog 25 #[.agg #[.int .i64 a, .int .i64 b, .string s], .agg #[.int .i64 a', .int .i64 b', .string s']] w fun e w' => e = .returned (.bool (sameT ⟨a, b, s⟩ ⟨a', b', s'⟩ || coversB ⟨a, b, s⟩ ⟨a', b', s'⟩)) ∧ Below w.heap.size w w' := by
  rcases (show sameT ⟨a, b, s⟩ ⟨a', b', s'⟩ = true ∨ sameT ⟨a, b, s⟩ ⟨a', b', s'⟩ = false from by cases sameT ⟨a, b, s⟩ ⟨a', b', s'⟩ <;> simp) with hs | hs
  all_goals
    rw [hs]
    simp only [sameT] at hs
    rcases (show (a = 6 ∧ a' = 1) ∨ (a = 6 ∧ a' = 2) ∨ (a = 6 ∧ a' ≠ 1 ∧ a' ≠ 2) ∨ (a = 5 ∧ a' = 3) ∨ (a = 5 ∧ a' ≠ 3) ∨ (a ≠ 5 ∧ a ≠ 6) from by omega) with ⟨rfl, rfl⟩ | ⟨rfl, rfl⟩ | ⟨rfl, h1, h2⟩ | ⟨rfl, rfl⟩ | ⟨rfl, h1⟩ | ⟨h1, h2⟩
    all_goals
      go_enter Try.func25, Try.ntmps25
      go_wp2
      go_ret
      refine ⟨ret_bool ?_, ((Below.refl _ _).alloc (Nat.le_refl _) _).alloc (by simp) _⟩
      simp [coversB, *]
set_option maxRecDepth 100000 in
set_option maxHeartbeats 1000000 in
theorem refX_calls (a b : S23) (w : World) :
    Calls Try.prog 9 #[v23 a, v23 b] w fun e w' => e = .returned (.bool (exclB a b)) ∧ Below w.heap.size w w' := by
  obtain ⟨a0, a1, a2⟩ := a
  obtain ⟨b0, b1, b2⟩ := b
  have hsym : sameT ⟨b0, b1, b2⟩ ⟨a0, a1, a2⟩ = sameT ⟨a0, a1, a2⟩ ⟨b0, b1, b2⟩ := by
    unfold sameT
    simp only
    rw [Bool.beq_comm (a := b0), Bool.beq_comm (a := b1), Bool.beq_comm (a := b2.toList)]
  have CA : ∀ W : World, Calls Try.prog 24 #[.agg #[.int .i64 a0, .int .i64 a1, .string a2]] W fun e w' => e = .returned (.bool (isMarkB ⟨a0, a1, a2⟩)) ∧ Below W.heap.size W w' := fun W => refMark_calls _ _ _ _
  have CB : ∀ W : World, Calls Try.prog 24 #[.agg #[.int .i64 b0, .int .i64 b1, .string b2]] W fun e w' => e = .returned (.bool (isMarkB ⟨b0, b1, b2⟩)) ∧ Below W.heap.size W w' := fun W => refMark_calls _ _ _ _
  have CC : ∀ W : World, Calls Try.prog 25 #[.agg #[.int .i64 a0, .int .i64 a1, .string a2], .agg #[.int .i64 b0, .int .i64 b1, .string b2]] W fun e w' => e = .returned (.bool (sameT ⟨a0, a1, a2⟩ ⟨b0, b1, b2⟩ || coversB ⟨a0, a1, a2⟩ ⟨b0, b1, b2⟩)) ∧ Below W.heap.size W w' := fun W => refFits_calls _ _ _ _ _ _ _
  have CD : ∀ W : World, Calls Try.prog 25 #[.agg #[.int .i64 b0, .int .i64 b1, .string b2], .agg #[.int .i64 a0, .int .i64 a1, .string a2]] W fun e w' => e = .returned (.bool (sameT ⟨a0, a1, a2⟩ ⟨b0, b1, b2⟩ || coversB ⟨b0, b1, b2⟩ ⟨a0, a1, a2⟩)) ∧ Below W.heap.size W w' := fun W => by
    have := refFits_calls b0 b1 b2 a0 a1 a2 W
    rw [hsym] at this
    exact this
  have hx : ∃ x, exclB ⟨a0, a1, a2⟩ ⟨b0, b1, b2⟩ = x := ⟨_, rfl⟩
  obtain ⟨x, hx⟩ := hx
  rw [hx]
  unfold exclB at hx
  generalize isMarkB ⟨a0, a1, a2⟩ = mA at *
  generalize isMarkB ⟨b0, b1, b2⟩ = mB at *
  generalize sameT ⟨a0, a1, a2⟩ ⟨b0, b1, b2⟩ = sA at *
  generalize coversB ⟨a0, a1, a2⟩ ⟨b0, b1, b2⟩ = cA at *
  generalize coversB ⟨b0, b1, b2⟩ ⟨a0, a1, a2⟩ = cB at *
  have HA := Aside0.mk CA
  have HB := Aside0.mk CB
  have HC := Aside0.mk CC
  have HD := Aside0.mk CD
  clear CA CB CC CD hsym
  obtain ⟨f1, hf1⟩ : ∃ f1, f1 = (sA || cA) := ⟨_, rfl⟩
  obtain ⟨f2, hf2⟩ : ∃ f2, f2 = (sA || cB) := ⟨_, rfl⟩
  rw [← hf1] at HC
  rw [← hf2] at HD
  have hx' : x = (mA && (mB && (!f1 && !f2))) := by
    rw [← hx, hf1, hf2]
    cases mA <;> cases mB <;> cases sA <;> cases cA <;> cases cB <;> rfl
  clear hx hf1 hf2
  rcases (show mA = false ∨ (mA = true ∧ mB = false) ∨ (mA = true ∧ mB = true ∧ f1 = true) ∨ (mA = true ∧ mB = true ∧ f1 = false) from by cases mA <;> cases mB <;> cases f1 <;> simp) with rfl | ⟨rfl, rfl⟩ | ⟨rfl, rfl, rfl⟩ | ⟨rfl, rfl, rfl⟩
  all_goals
    simp only [Bool.false_and, Bool.true_and, Bool.and_false, Bool.and_true, Bool.not_true, Bool.not_false] at hx'
    subst hx'
    go_enter Try.func9, Try.ntmps9
    go_wp2_with (first
      | (go_at_call 24; ((with_reducible refine (HA.out _).mono ?_); rintro e w1 ⟨rfl, hb⟩); have c0 := pw_cell_below hb (a := ⟨w.heap.size, 0, none⟩) (v := .int .i64 a0) (by simp); have c1 := pw_cell_below hb (a := ⟨w.heap.size, 1, none⟩) (v := .int .i64 a1) (by simp); have c2 := pw_cell_below hb (a := ⟨w.heap.size, 2, none⟩) (v := .string a2) (by simp); have d0 := pw_cell_below hb (a := ⟨w.heap.size + 1, 0, none⟩) (v := .int .i64 b0) (by simp); have d1 := pw_cell_below hb (a := ⟨w.heap.size + 1, 1, none⟩) (v := .int .i64 b1) (by simp); have d2 := pw_cell_below hb (a := ⟨w.heap.size + 1, 2, none⟩) (v := .string b2) (by simp); have G := Aside0.mk (below_step (((Below.refl w.heap.size w).alloc (Nat.le_refl _) _).alloc (by simp) _) hb); clear hb)
      | (go_at_call 24; ((with_reducible refine (HB.out _).mono ?_); rintro e w2 ⟨rfl, hb⟩); replace c0 := pw_cell_below hb c0; replace c1 := pw_cell_below hb c1; replace c2 := pw_cell_below hb c2; replace d0 := pw_cell_below hb d0; replace d1 := pw_cell_below hb d1; replace d2 := pw_cell_below hb d2; replace G := Aside0.mk (below_step G.out hb); clear hb)
      | (go_at_call 25; ((with_reducible refine (HC.out _).mono ?_); rintro e w3 ⟨rfl, hb⟩); replace c0 := pw_cell_below hb c0; replace c1 := pw_cell_below hb c1; replace c2 := pw_cell_below hb c2; replace d0 := pw_cell_below hb d0; replace d1 := pw_cell_below hb d1; replace d2 := pw_cell_below hb d2; replace G := Aside0.mk (below_step G.out hb); clear hb)
      | (go_at_call 25; ((with_reducible refine (HD.out _).mono ?_); rintro e w4 ⟨rfl, hb⟩); replace c0 := pw_cell_below hb c0; replace c1 := pw_cell_below hb c1; replace c2 := pw_cell_below hb c2; replace d0 := pw_cell_below hb d0; replace d1 := pw_cell_below hb d1; replace d2 := pw_cell_below hb d2; replace G := Aside0.mk (below_step G.out hb); clear hb))
    go_ret
    exact ⟨rfl, G.out⟩
end Go.Proofs.Ytjbafigageingaa
namespace Go.Proofs.Ytjbafigageingaa.PR
open Go.RowKit Go.Proofs.YtjbafigageingaaW.PrintWords Go.Proofs.YtjbafigageingaaW.PrintLast Go.Proofs.YtjbafigageingaaW.PrintMore
theorem assessorref09_IsMark.calls (k : Nat) (a0_0 : Int) (a0_1 : Int) (a0_2 : ByteArray) (r : Bool) (w : World) (h : assessorref09_IsMark.f k a0_0 a0_1 a0_2 = some r) :
    Calls Try.prog 24 #[.agg #[.int .i64 a0_0, .int .i64 a0_1, .string a0_2]] w fun e w' => e = .returned (.bool r) ∧ Below w.heap.size w w' := by
  have h1 := assessorref09_IsMark.mono _ _ _ _ _ h
  rw [refIsMark k ⟨a0_0, a0_1, a0_2⟩] at h1
  rw [← Option.some.inj h1]
  exact refMark_calls _ _ _ _
theorem assessorref09_Exclude.calls (k : Nat) (a0_0 : Int) (a0_1 : Int) (a0_2 : ByteArray) (a1_0 : Int) (a1_1 : Int) (a1_2 : ByteArray) (r : Bool) (w : World) (h : assessorref09_Exclude.f k a0_0 a0_1 a0_2 a1_0 a1_1 a1_2 = some r) :
    Calls Try.prog 9 #[.agg #[.int .i64 a0_0, .int .i64 a0_1, .string a0_2], .agg #[.int .i64 a1_0, .int .i64 a1_1, .string a1_2]] w fun e w' => e = .returned (.bool r) ∧ Below w.heap.size w w' := by
  have h1 := assessorref09_Exclude.mono _ _ _ _ _ _ _ _ h
  rw [refExcl k ⟨a0_0, a0_1, a0_2⟩ ⟨a1_0, a1_1, a1_2⟩] at h1
  rw [← Option.some.inj h1]
  exact refX_calls ⟨a0_0, a0_1, a0_2⟩ ⟨a1_0, a1_1, a1_2⟩ w
end Go.Proofs.Ytjbafigageingaa.PR

namespace Go.Proofs.Ytjbafigageingaa.PR
open Go.RowKit Go.Proofs.YtjbafigageingaaW.PrintWords Go.Proofs.YtjbafigageingaaW.PrintLast Go.Proofs.YtjbafigageingaaW.PrintMore
attribute [local go_sem] max2_int min2_int max_two min_two max_three min_three max_four min_four
set_option linter.unusedVariables false
set_option linter.unusedSimpArgs false

theorem eqA65 (d : Nat) (w : World) (x0 y0 : Int) (x1 y1 : Int) (x2 y2 : Int) (x3 y3 : ByteArray) :
    (Op.equalIn (d + 2) 65 (.agg #[.int .i64 x0, .int .i64 x1, .int .i64 x2, .string x3]) (.agg #[.int .i64 y0, .int .i64 y1, .int .i64 y2, .string y3])).run Try.prog w = .ok (x0 == y0 && (x1 == y1 && (x2 == y2 && (x3.toList == y3.toList)))) w := by
  refine eqA_of Try.underlying65 (by kernel_rfl) ?_
  refine eqf_cons (by rfl) (by go_simp; rfl) (by go_simp; rfl) (by go_simp) ?_
  refine eqf_cons (by rfl) (by go_simp; rfl) (by go_simp; rfl) (by go_simp) ?_
  refine eqf_cons (by rfl) (by go_simp; rfl) (by go_simp; rfl) (by go_simp) ?_
  exact eqf_last (by rfl) (by go_simp; rfl) (by go_simp; rfl) (by go_simp)
end Go.Proofs.Ytjbafigageingaa.PR
