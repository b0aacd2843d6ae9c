import Derived.Test.YtjbafigageingaaKcLem
import Derived.Test.YtjbafigageingaaKcMap
import Derived.Test.YtjbafigageingaaKcOther
import Derived.Test.YtjbafigageingaaKcSpecS
import Derived.Test.YtjbafigageingaaKcW
namespace Go.Proofs.Ytjbafigageingaa
open Go.RowKit Go.Maps Go.Proofs.YtjbafigageingaaW.PrintWords Go.Proofs.YtjbafigageingaaW.PrintLast Go.Proofs.YtjbafigageingaaW.PrintMore
set_option linter.unusedVariables false
set_option linter.unusedSimpArgs false
abbrev nilV : Value := .slice none 0 0
abbrev T1 : Nat → Prop := fun _ => True
/-- A map of rows of the call's own, no two of which lie in one block. -/
def Groups (w : World) (b1 mb cnt : Nat) (M : MM) (m : Int → Option Value) : Prop :=
  MapK Try.prog 3 litI w mb cnt m ∧ (∀ v, Kd.R (Kd.int .i64) 3 w b1 T1 ((m v).getD nilV) (M v)) ∧ ∀ u v k, u ≠ v → ((m u).getD nilV).ownBlock = some k → ((m v).getD nilV).ownBlock ≠ some k
theorem Groups.move {w w1 : World} {b1 mb cnt : Nat} {M : MM} {m : Int → Option Value} (h : Groups w b1 mb cnt M m) {row : Option Nat} (hg : w.grownBy w1 row) (hne : some mb ≠ row) (hr : ∀ v k, ((m v).getD nilV).ownBlock = some k → some k ≠ row) : Groups w1 b1 mb cnt M m := by
  obtain ⟨hm, hR, hd⟩ := h
  exact ⟨hm.kept hg hne, fun v => R_flat rfl (hR v) hg (hr v), hd⟩
theorem Groups.below {w w1 : World} {b1 mb cnt : Nat} {M : MM} {m : Int → Option Value} (h : Groups w b1 mb cnt M m) (hb : Below w.heap.size w w1) : Groups w1 b1 mb cnt M m := by
  obtain ⟨hm, hR, hd⟩ := h
  exact ⟨hm.below hb, fun v => Kd.R_below (hR v) hb, hd⟩
theorem ne_map {w : World} {g b t : Nat} {P : Program} {k : TypeId} {κ : Type} {lit : κ → Lit} {n : Nat} {m : κ → Option Value} {cells : Array Value} {f : Nat × Nat} (h : MapK P k lit w b n m) (hg : w.heap[g]? = some (.cells cells t f)) : b ≠ g := by
  rintro rfl
  obtain ⟨es, c, hb⟩ := h.obj
  rw [hb] at hg
  cases hg
/-- The state of the build behind n constraints. -/
structure PhA (w : World) (vb gb b1 mb : Nat) (lv : Value) (Ae : Option Addr) (ce n N : Nat) (E : EE) (M : MM) (m : Int → Option Value) (wr : World) : Prop where
  hB : Below w.heap.size w wr
  hv : wr.heap[vb]? = some (.cells #[.int .i64 N] 3 (0, 0))
  hg : wr.heap[gb]? = some (.cells #[lv, .slice Ae N ce, .map (some mb)] 52 (0, 0))
  hS : Kd.S (Kd.slice 55 k55) 53 wr w.heap.size T1 (.slice Ae N ce) E
  hG : Groups wr b1 mb n M m
  hE : E.length = N
  hEl : ∀ j, (E.getD j []).length ≤ 2 * n
  hMl : ∀ v, (M v).length ≤ n
  hvb : w.heap.size ≤ vb ∧ vb < b1 ∧ w.heap.size ≤ gb ∧ w.heap.size ≤ mb ∧ w.heap.size ≤ b1 ∧ b1 ≤ wr.heap.size
section
variable {w wr w1 : World} {vb gb b1 mb ce n N : Nat} {lv : Value} {Ae : Option Addr} {E : EE} {M : MM} {m : Int → Option Value}
theorem PhA.below (h : PhA w vb gb b1 mb lv Ae ce n N E M m wr) (hb : Below wr.heap.size wr w1) : PhA w vb gb b1 mb lv Ae ce n N E M m w1 :=
  ⟨below_step h.hB hb, blk_below h.hv hb, blk_below h.hg hb, Kd.S_below h.hS hb, h.hG.below hb, h.hE, h.hEl, h.hMl, by have := h.hvb; have := hb.size; omega⟩
theorem PhA.vcell (h : PhA w vb gb b1 mb lv Ae ce n N E M m wr) : wr.cell? ⟨vb, 0, none⟩ = some (.int .i64 N) := by rw [blk_cell h.hv]; rfl
theorem PhA.gcell0 (h : PhA w vb gb b1 mb lv Ae ce n N E M m wr) : wr.cell? ⟨gb, 0, none⟩ = some lv := by rw [blk_cell h.hg]; rfl
theorem PhA.gcell1 (h : PhA w vb gb b1 mb lv Ae ce n N E M m wr) : wr.cell? ⟨gb, 1, none⟩ = some (.slice Ae N ce) := by rw [blk_cell h.hg]; rfl
theorem PhA.gcell2 (h : PhA w vb gb b1 mb lv Ae ce n N E M m wr) : wr.cell? ⟨gb, 2, none⟩ = some (.map (some mb)) := by rw [blk_cell h.hg]; rfl
theorem PhA.look (h : PhA w vb gb b1 mb lv Ae ce n N E M m wr) (hN : N ≤ 4096) {v : Int} (h0 : 0 ≤ v) (h1 : v < N) : (Instr.lookup 50 (.map (some mb)) (.int .i64 v) false).run Try.prog wr = .ok ((m v).getD nilV) wr :=
  h.hG.1.lookup law3 Try.underlying50 (zero33 wr) v (key3 hN h0 h1)
/-- the row of marks of a vertex has grown -/
theorem PhA.grew (h : PhA w vb gb b1 mb lv Ae ce n N E M m wr) {a : Int} (hg : wr.grownBy w1 ((m a).getD nilV).ownBlock) (hb : Below w.heap.size w w1) :
    w1.heap[vb]? = some (.cells #[.int .i64 N] 3 (0, 0)) ∧ w1.heap[gb]? = some (.cells #[lv, .slice Ae N ce, .map (some mb)] 52 (0, 0)) ∧ Kd.S (Kd.slice 55 k55) 53 w1 w.heap.size T1 (.slice Ae N ce) E ∧ MapK Try.prog 3 litI w1 mb n m ∧
      ∀ v, v ≠ a → Kd.R (Kd.int .i64) 3 w1 b1 T1 ((m v).getD nilV) (M v) := by
  obtain ⟨hm, hR, hd⟩ := h.hG
  have ht := Kd.R_typed (hR a)
  refine ⟨blk_grown h.hv hg (fun he => ?_), blk_grown h.hg hg (Kd.R_ne (hR a) h.hg (by decide)), Kd.S_over' h.hS ht (by decide) hg, hm.kept hg (fun he => ?_), fun v hv => R_flat rfl (hR v) hg (fun k hk he => ?_)⟩
  · have := Kd.R_base (hR a) _ he.symm
    have := h.hvb
    omega
  · obtain ⟨cells, hc⟩ := ht _ he.symm
    exact ne_map hm hc rfl
  · exact hd a v k hv.symm he.symm hk
theorem PhA.look2 (h : PhA w vb gb b1 mb lv Ae ce n N E M m wr) {a : Int} (hg : wr.grownBy w1 ((m a).getD nilV).ownBlock) (hb : Below w.heap.size w w1) (hN : N ≤ 4096) {v : Int} (h0 : 0 ≤ v) (h1 : v < N) : (Instr.lookup 50 (.map (some mb)) (.int .i64 v) false).run Try.prog w1 = .ok ((m v).getD nilV) w1 :=
  (h.grew hg hb).2.2.2.1.lookup law3 Try.underlying50 (zero33 w1) v (key3 hN h0 h1)
/-- .. and the map has been told. -/
theorem PhA.mark (h : PhA w vb gb b1 mb lv Ae ce n N E M m wr) {a i : Int} {v1 : Value} {w2 : World} (hg : wr.grownBy w1 ((m a).getD nilV).ownBlock) (hb : Below w.heap.size w w1) (hr : Kd.R (Kd.int .i64) 3 w1 b1 T1 v1 (M a ++ [i]))
    (hat : v1.ownBlock = ((m a).getD nilV).ownBlock ∨ ∃ b, v1.ownBlock = some b ∧ wr.heap.size ≤ b) (hm2 : MapK Try.prog 3 litI w2 mb (n + 1) (fun y => if y = a then some v1 else m y)) (hg2 : w1.grownBy w2 (some mb)) :
    PhA w vb gb b1 mb lv Ae ce (n + 1) N E (fun v => if v = a then M v ++ [i] else M v) (fun y => if y = a then some v1 else m y) w2 := by
  obtain ⟨gv, gg, gS, gm, gR⟩ := h.grew hg hb
  obtain ⟨hm, hR, hd⟩ := h.hG
  have hvb := h.hvb
  have hmb : ∀ {g t : Nat} {cells : Array Value} {f : Nat × Nat}, w1.heap[g]? = some (.cells cells t f) → some g ≠ some mb := fun hc he => ne_map gm hc (by injection he with he; exact he.symm)
  have hR2 : ∀ {v : Value} {xs : List Int}, Kd.R (Kd.int .i64) 3 w1 b1 T1 v xs → Kd.R (Kd.int .i64) 3 w2 b1 T1 v xs := fun hx => R_flat rfl hx hg2 (fun k hk => by
    obtain ⟨cells, hc⟩ := Kd.R_typed hx k hk
    exact hmb hc)
  have hlt : ∀ v k, ((m v).getD nilV).ownBlock = some k → k < wr.heap.size := fun v k hk => Kd.R_lt (hR v) k hk
  refine ⟨pw_below_grown hb _ (by have := hb.size; omega) hg2 (fun k hk => by injection hk with hk; omega), blk_grown gv hg2 (hmb gv), blk_grown gg hg2 (hmb gg), ?_, ⟨hm2, fun v => ?_, fun u v k huv hk hk2 => ?_⟩, h.hE, fun j => by have := h.hEl j; omega, fun v => ?_, ?_⟩
  · refine Kd.S_mono (Kd.S_step (Kd.S_bound gS) (fun k hk hl => hg2.block k hl ?_)) (fun _ hk => hk.1)
    obtain ⟨_, _, _, q, _, cells, hc⟩ := hk
    exact hmb hc
  · by_cases hv : v = a
    · subst hv
      simp only [if_pos]
      exact hR2 hr
    · simp only [if_neg hv]
      exact hR2 (gR v hv)
  · by_cases hu : u = a
    · subst hu
      have hv : v ≠ u := Ne.symm huv
      simp only [if_true, if_neg hv, Option.getD_some] at hk hk2
      rcases hat with hat | ⟨b, hb', hbl⟩
      · rw [hat] at hk
        exact hd _ _ k huv hk hk2
      · rw [hb'] at hk
        injection hk with hk
        have := hlt v k hk2
        omega
    · by_cases hv : v = a
      · subst hv
        simp only [if_true, if_neg hu, Option.getD_some] at hk hk2
        rcases hat with hat | ⟨b, hb', hbl⟩
        · rw [hat] at hk2
          exact hd _ _ k huv hk hk2
        · rw [hb'] at hk2
          injection hk2 with hk2
          have := hlt u k hk
          omega
      · simp only [if_neg hu, if_neg hv] at hk hk2
        exact hd _ _ k huv hk hk2
  · have := h.hMl v
    by_cases hv : v = a
    · subst hv
      simp only [if_true, List.length_append, List.length_cons, List.length_nil]
      omega
    · simp only [if_neg hv]
      omega
  · have := hg.size
    have := hg2.size
    omega
/-- A row of edges, lent. -/
theorem PhA.lend (h : PhA w vb gb b1 mb lv Ae ce n N E M m wr) {a : Int} (h0 : 0 ≤ a) (h1 : a < N) :
    ∃ (eb : Nat) (oki : Nat → Prop) (vo : Value) (cur : Array Value), Ae = some ⟨eb, 0, none⟩ ∧ Kd.R k55 55 wr w.heap.size (fun k => oki k ∨ wr.heap.size ≤ k) vo (rdE E a) ∧ wr.cell? ⟨eb, a.toNat, none⟩ = some vo ∧ wr.heap[eb]? = some (.cells cur 53 (0, 0)) ∧ (∀ k, oki k → k ≠ eb) ∧
      Kd.H (Kd.slice 55 k55) 53 wr w.heap.size T1 (.slice Ae N ce) E a (fun k => oki k ∨ wr.heap.size ≤ k) [vo] := by
  have hlen : (0 : Nat) < E.length := by have := h.hE; omega
  obtain ⟨g, cap, e, hb, hl, cells, hc⟩ := Kd.S_form h.hS hlen
  injection e with e1 e2 e3
  subst e1; subst e3
  obtain ⟨oki, c, hcl, hM, hcc, hoki, hH⟩ := Kd.S_lend h.hS [] a h0 h1
  obtain ⟨vo, rfl, hR⟩ := hM
  refine ⟨g, oki, vo, cells, rfl, Kd.R_mono hR (fun _ hk => .inl hk), ?_, hc, fun k hk => (hoki k hk).2, ?_⟩
  · have := hcc 0 vo rfl
    have h2 : a.toNat * (Kd.slice 55 k55).sz + 0 = a.toNat := Nat.mul_one _
    rwa [h2] at this
  · obtain ⟨ho, f, h⟩ := Kd.H_widen hH
    exact ⟨fun _ _ => trivial, f, Kd.R_mono h (fun k hk => ⟨trivial, fun h2 => hk.2 (h2.imp id (fun h3 => ⟨trivial, h3⟩))⟩)⟩
/-- .. grown, and put back: the state is the next but for the edges' row. -/
theorem PhA.back (h : PhA w vb gb b1 mb lv Ae ce n N E M m wr) {a : Int} (h0 : 0 ≤ a) (h1 : a < N) {eb : Nat} {oki : Nat → Prop} {vo v1 : Value} {x : S55} (hA : Ae = some ⟨eb, 0, none⟩) (hvo : Kd.R k55 55 wr w.heap.size (fun k => oki k ∨ wr.heap.size ≤ k) vo (rdE E a))
    (hoki : ∀ k, oki k → k ≠ eb) (hH : Kd.H (Kd.slice 55 k55) 53 wr w.heap.size T1 (.slice Ae N ce) E a (fun k => oki k ∨ wr.heap.size ≤ k) [vo]) (hg : wr.grownBy w1 vo.ownBlock) (hb : Below w.heap.size w w1)
    (hr : Kd.R k55 55 w1 w.heap.size (fun k => oki k ∨ wr.heap.size ≤ k) v1 (rdE E a ++ [x])) (n' : Nat) (hn : n ≤ n') (hEl : ∀ j, ((E.set a.toNat (rdE E a ++ [x])).getD j []).length ≤ 2 * n') :
    PhA w vb gb b1 mb lv Ae ce n' N (E.set a.toNat (rdE E a ++ [x])) M m (w1.setCell ⟨eb, a.toNat, none⟩ v1) := by
  subst hA
  obtain ⟨hm, hR, hd⟩ := h.hG
  have hvb := h.hvb
  have ht := Kd.R_typed hvo
  have hH1 := Kd.H_grown hH hg (fun k hk => hvo.1 k hk)
  have hlen : (0 : Nat) < E.length := by have := h.hE; omega
  obtain ⟨g', cap, e, hbe, hle, cells, hc⟩ := Kd.S_form h.hS hlen
  injection e with e1 e2 e3
  injection e1 with e1
  injection e1 with e1
  subst e1
  have hc1 : w1.heap[eb]? = some (.cells cells 53 (0, 0)) := blk_grown hc hg (Kd.R_ne hvo hc (by decide))
  have hmap1 : MapK Try.prog 3 litI w1 mb n m := hm.kept hg (fun he => by
    obtain ⟨cells, hx⟩ := ht _ he.symm
    exact ne_map hm hx rfl)
  have hset : (w1.setCells eb (a.toNat * (Kd.slice 55 k55).sz + 0) [v1]) = w1.setCell ⟨eb, a.toNat, none⟩ v1 := by
    have h2 : a.toNat * (Kd.slice 55 k55).sz + 0 = a.toNat := Nat.mul_one _
    rw [h2]; rfl
  have hseg := Kd.S_seg (okg := fun _ => False) (d := Kd.slice 55 k55) (okp := fun k => oki k ∨ wr.heap.size ≤ k) (seg := [v1]) (j := 0) (x' := rdE E a ++ [x]) (Kd.H_mono hH1 (fun k hk => ⟨hk, fun h => h⟩)) h0 h1 (by exact Nat.le_refl 1) ⟨v1, rfl, hr⟩ (fun k hk => .inl hk) (fun _ hk => hk.elim)
  rw [hset] at hseg
  obtain ⟨hS2, hg2⟩ := hseg
  have hbase : w.heap.size ≤ eb := hbe
  have hvw : w1.heap[vb]? = some (.cells #[.int .i64 N] 3 (0, 0)) := blk_grown h.hv hg (Kd.R_ne hvo h.hv (by decide))
  have hgw : w1.heap[gb]? = some (.cells #[lv, .slice (some ⟨eb, 0, none⟩) N ce, .map (some mb)] 52 (0, 0)) := blk_grown h.hg hg (Kd.R_ne hvo h.hg (by decide))
  have hRw : ∀ v, Kd.R (Kd.int .i64) 3 w1 b1 T1 ((m v).getD nilV) (M v) := fun v => R_flat rfl (hR v) hg (fun k hk he => by
    obtain ⟨c1, h1⟩ := ht k he.symm
    obtain ⟨c2, h2⟩ := Kd.R_typed (hR v) k hk
    exact blk_ne h1 h2 (by decide) rfl)
  refine ⟨pw_below_grown hb _ (by have := hb.size; omega) hg2 (fun k hk => by injection hk with hk; omega), blk_far hvw (blk_ne hvw hc1 (by decide)) _, blk_far hgw (blk_ne hgw hc1 (by decide)) _, hS2, ⟨(hmap1.kept hg2 (fun he => ne_map hmap1 hc1 (by injection he))).mono hn, fun v => R_flat rfl (hRw v) hg2 (fun k hk he => ?_), hd⟩, by rw [List.length_set]; exact h.hE, hEl, fun v => by have := h.hMl v; omega, ?_⟩
  · injection he with he
    subst he
    obtain ⟨c2, h2⟩ := Kd.R_typed (hRw v) k hk
    exact blk_ne hc1 h2 (by decide) rfl
  · have := hg.size
    have := hg2.size
    omega
theorem PhA.next (h : PhA w vb gb b1 mb lv Ae ce n N E M m wr) {n' : Nat} (hn : n ≤ n') : PhA w vb gb b1 mb lv Ae ce n' N E M m wr :=
  ⟨h.hB, h.hv, h.hg, h.hS, ⟨h.hG.1.mono hn, h.hG.2⟩, h.hE, fun j => by have := h.hEl j; omega, fun v => by have := h.hMl v; omega, h.hvb⟩
theorem set_len (E : EE) (a : Nat) (r : List S55) (n : Nat) (h : ∀ j, (E.getD j []).length ≤ n) (hr : r.length ≤ n) : ∀ j, ((E.set a r).getD j []).length ≤ n := by
  intro j
  simp only [List.getD_eq_getElem?_getD, List.getElem?_set]
  have := h j
  simp only [List.getD_eq_getElem?_getD] at this
  split
  · split <;> simp <;> omega
  · exact this
end
end Go.Proofs.Ytjbafigageingaa
