import Derived.Test.YtjbafigageingaaProg
import Derived.Shelf.Sort.Plain
import Derived.Shelf.Slices.In.SortNone
import Derived.Test.YtjbafigageingaaKsM2
import Derived.Sort.OwnSortedInts
import Derived.Test.YtjbafigageingaaKsM0
import Derived.Test.YtjbafigageingaaKsW
import Derived.Test.YtjbafigageingaaKsChain
import Derived.Lib.SliceRun
import Derived.Laws.Cover3
namespace Go.Proofs
open Go.Shelf
def Try.lays189_ren : Go.Shelf.Ren := ⟨fun | 189 => 29 | 125 => 40 | 257 => 39 | 128 => 53 | 129 => 54 | 294 => 44 | 295 => 45 | 296 => 46 | 297 => 47 | 298 => 48 | 299 => 49 | 216 => 50 | 300 => 51 | 301 => 52 | 328 => 55 | 329 => 56 | 330 => 57 | 331 => 58 | 332 => 59 | 215 => 60 | 343 => 61 | n => n, fun | 28 => 33 | 3 => 3 | 46 => 70 | 0 => 0 | 51 => 83 | 53 => 85 | 4 => 4 | 183 => 76 | 182 => 75 | 131 => 71 | 5 => 5 | 9 => 9 | 218 => 87 | 222 => 91 | 228 => 93 | 229 => 94 | n => n, fun | n => n⟩
theorem Try.lays189 : Go.Proofs.Lays.n189 Try.prog Try.lays189_ren := {
  mixed := by kernel_rfl
  f125 := Try.func40.trans (congrArg some (by kernel_rfl))
  f128 := Try.func53.trans (congrArg some (by kernel_rfl))
  f129 := Try.func54.trans (congrArg some (by kernel_rfl))
  f189 := Try.func29.trans (congrArg some (by kernel_rfl))
  f215 := Try.func60.trans (congrArg some (by kernel_rfl))
  f216 := Try.func50.trans (congrArg some (by kernel_rfl))
  f257 := Try.func39.trans (congrArg some (by kernel_rfl))
  f294 := Try.func44.trans (congrArg some (by kernel_rfl))
  f295 := Try.func45.trans (congrArg some (by kernel_rfl))
  f296 := Try.func46.trans (congrArg some (by kernel_rfl))
  f297 := Try.func47.trans (congrArg some (by kernel_rfl))
  f298 := Try.func48.trans (congrArg some (by kernel_rfl))
  f299 := Try.func49.trans (congrArg some (by kernel_rfl))
  f300 := Try.func51.trans (congrArg some (by kernel_rfl))
  f301 := Try.func52.trans (congrArg some (by kernel_rfl))
  f328 := Try.func55.trans (congrArg some (by kernel_rfl))
  f329 := Try.func56.trans (congrArg some (by kernel_rfl))
  f330 := Try.func57.trans (congrArg some (by kernel_rfl))
  f331 := Try.func58.trans (congrArg some (by kernel_rfl))
  f332 := Try.func59.trans (congrArg some (by kernel_rfl))
  f343 := Try.func61.trans (congrArg some (by kernel_rfl))
  t0 := Try.underlying0
  a0 := Try.isAgg0
  z0 := Try.sizeOf0
  v0 := Try.zeroValue0
  t3 := Try.underlying3
  a3 := Try.isAgg3
  z3 := Try.sizeOf3
  v3 := Try.zeroValue3
  t4 := Try.underlying4
  a4 := Try.isAgg4
  z4 := Try.sizeOf4
  v4 := Try.zeroValue4
  t5 := Try.underlying5
  a5 := Try.isAgg5
  z5 := Try.sizeOf5
  v5 := Try.zeroValue5
  t9 := Try.underlying9
  a9 := Try.isAgg9
  z9 := Try.sizeOf9
  v9 := Try.zeroValue9
  t28 := Try.underlying33
  a28 := Try.isAgg33
  z28 := Try.sizeOf33
  v28 := Try.zeroValue33
  t46 := Try.underlying70
  a46 := Try.isAgg70
  z46 := Try.sizeOf70
  v46 := Try.zeroValue70
  t51 := Try.underlying83
  a51 := Try.isAgg83
  z51 := Try.sizeOf83
  v51 := Try.zeroValue83
  t53 := Try.underlying85
  a53 := Try.isAgg85
  z53 := Try.sizeOf85
  v53 := Try.zeroValue85
  t131 := Try.underlying71
  a131 := Try.isAgg71
  z131 := Try.sizeOf71
  v131 := Try.zeroValue71
  t182 := Try.underlying75
  a182 := Try.isAgg75
  z182 := Try.sizeOf75
  v182 := Try.zeroValue75
  t183 := Try.underlying76
  a183 := Try.isAgg76
  z183 := Try.sizeOf76
  v183 := Try.zeroValue76
  t218 := Try.underlying87
  a218 := Try.isAgg87
  z218 := Try.sizeOf87
  v218 := Try.zeroValue87
  t222 := Try.underlying91
  a222 := Try.isAgg91
  z222 := Try.sizeOf91
  v222 := Try.zeroValue91
  t228 := Try.underlying93
  a228 := Try.isAgg93
  z228 := Try.sizeOf93
  v228 := Try.zeroValue93
  t229 := Try.underlying94
  a229 := Try.isAgg94
  z229 := Try.sizeOf94
  v229 := Try.zeroValue94 }
open Go.Sort Go.RowKit in
theorem Try.slices_Sort_int (blk off cap : Nat) (zs : List Int) (w : World) (hH : Holds (Value.int .i64) w blk off zs.toArray) (hblk : blk < w.heap.size) (hsz : zs.length < 4611686018427387904) :
    Calls Try.prog 29 #[.slice (some ⟨blk, off, none⟩) zs.length cap] w fun e w' =>
      e = .returned (.tuple #[]) ∧ ∃ n os, w' = grow (putRow (Value.int .i64) (Sort.ahead w n) blk off (zs.mergeSort fun x y => decide (x ≤ y)).toArray) os := Any.slices_Sort_int Try.lays189 blk off cap zs w hH hblk hsz
open Go.RowKit Go.Sort in
/-- .. and plain. (LAID: no walk: one application.) -/
theorem Try.slices_Sort_int_none (p : Option Addr) (cap : Nat) (w : World) :
    Calls Try.prog 29 #[.slice p 0 cap] w fun e w' => e = .returned (.tuple #[]) ∧ w' = w := Any.slices_Sort_int_none Try.lays189 p cap w
end Go.Proofs

namespace Go.Proofs.Ytjbafigageingaa
open Go.RowKit Go.Proofs.YtjbafigageingaaW.PrintWords Go.Proofs.YtjbafigageingaaW.PrintLast Go.Proofs.YtjbafigageingaaW.PrintMore
set_option linter.unusedVariables false
set_option linter.unusedSimpArgs false

/-- slices.Sort at a row of the call's own. -/
theorem sort_calls (v : Value) (xs : List Int) (w : World) (base : Nat) (ok : Nat → Prop) (h : Kd.R (Kd.int .i64) 3 w base ok v xs) (hl : xs.length < 4611686018427387904) :
    Calls Try.prog 29 #[v] w fun e w' => e = .returned (.tuple #[]) ∧ Kd.R (Kd.int .i64) 3 w' base ok v (xs.mergeSort fun x y => decide (x ≤ y)) ∧ w.grownBy w' v.ownBlock := by
  obtain ⟨A, c, rfl⟩ := R_shape h
  rcases Nat.eq_zero_or_pos xs.length with h0 | hp
  · have hx : xs = [] := List.length_eq_zero_iff.1 h0
    subst hx
    refine (Try.slices_Sort_int_none A c w).mono ?_
    rintro e w' ⟨rfl, rfl⟩
    exact ⟨rfl, by simpa using h, ⟨rfl, rfl, rfl, Nat.le_refl _, fun _ _ _ => rfl⟩⟩
  · obtain ⟨g, rfl, hb, hlt⟩ := R_head h hp
    obtain ⟨hok, inner, ho, hr⟩ := h
    have hi : inner = xs.map (Value.int .i64) := by
      apply List.ext_getElem?
      intro j
      by_cases hj : j < xs.length
      · have := hr.2 j _ (List.getElem?_eq_getElem hj)
        have h2 : ((inner.drop (j * 1)).take 1) = [Value.int .i64 xs[j]] := this
        rw [List.getElem?_map, List.getElem?_eq_getElem hj]
        have h3 := congrArg (fun l => l[0]?) h2
        simpa [List.getElem?_take, List.getElem?_drop] using h3
      · have hl : inner.length = xs.length * 1 := hr.1
        rw [List.getElem?_eq_none (by omega), List.getElem?_eq_none (by simp; omega)]
    subst hi
    rcases ho.2 with ⟨e0, _⟩ | ⟨g', cap', cur, e0, hb', hg, hn, hm, hs, ht⟩
    · cases e0
    · injection e0 with e1 _ e3
      injection e1 with e1
      injection e1 with e1
      subst e1; subst e3
      have hs' : cur.size = c * 1 := hs
      have ht' : cur.toList.take xs.length = xs.map (Value.int .i64) := by
        have : cur.toList.take (xs.length * 1) = xs.map (Value.int .i64) := ht
        rwa [Nat.mul_one] at this
      refine (Try.slices_Sort_int g 0 c xs w (holds_of_blockI hg ht') hlt hl).mono ?_
      rintro e w' ⟨rfl, n, os, rfl⟩
      have hlen : (xs.mergeSort fun x y => decide (x ≤ y)).length = xs.length := List.length_mergeSort ..
      refine ⟨rfl, ?_, ?_⟩
      · have hown := ownsRow_sortedI (n := n) (os := os) (ts := xs.mergeSort fun x y => decide (x ≤ y)) hlen hb hg hn hm hs'
        have := Kd.R_of_own (enc := Value.int .i64) (h1 := fun _ => rfl) (e := 3) (base := base) (ok := ok) (v := .slice (some ⟨g, 0, none⟩) xs.length c) (xs := xs.mergeSort fun x y => decide (x ≤ y)) (by rw [hlen]; exact hown) hok
        exact this
      · have := grownBy_sortedI (w := w) (g := g) (n := n) (os := os) (xs.mergeSort fun x y => decide (x ≤ y)).toArray
        simpa [Value.ownBlock] using this
end Go.Proofs.Ytjbafigageingaa

namespace Go.Proofs.Ytjbafigageingaa
open Go.RowKit Go.Maps Go.Proofs.YtjbafigageingaaW.PrintWords Go.Proofs.YtjbafigageingaaW.PrintLast Go.Proofs.YtjbafigageingaaW.PrintMore
set_option linter.unusedVariables false
set_option linter.unusedSimpArgs false
abbrev nilV : Value := .slice none 0 0
abbrev T1 : Nat → Prop := fun _ => True
/-- A map of rows of the call's own, no two of which lie in one block. -/
def Groups (w : World) (b1 mb cnt : Nat) (M : MM) (m : Int → Option Value) : Prop :=
  MapK Try.prog 3 litI w mb cnt m ∧ (∀ v, Kd.R (Kd.int .i64) 3 w b1 T1 ((m v).getD nilV) (M v)) ∧ ∀ u v k, u ≠ v → ((m u).getD nilV).ownBlock = some k → ((m v).getD nilV).ownBlock ≠ some k
theorem Groups.move {w w1 : World} {b1 mb cnt : Nat} {M : MM} {m : Int → Option Value} (h : Groups w b1 mb cnt M m) {row : Option Nat} (hg : w.grownBy w1 row) (hne : some mb ≠ row) (hr : ∀ v k, ((m v).getD nilV).ownBlock = some k → some k ≠ row) : Groups w1 b1 mb cnt M m := by
  obtain ⟨hm, hR, hd⟩ := h
  exact ⟨hm.kept hg hne, fun v => R_flat rfl (hR v) hg (hr v), hd⟩
theorem Groups.below {w w1 : World} {b1 mb cnt : Nat} {M : MM} {m : Int → Option Value} (h : Groups w b1 mb cnt M m) (hb : Below w.heap.size w w1) : Groups w1 b1 mb cnt M m := by
  obtain ⟨hm, hR, hd⟩ := h
  exact ⟨hm.below hb, fun v => Kd.R_below (hR v) hb, hd⟩
theorem ne_map {w : World} {g b t : Nat} {P : Program} {k : TypeId} {κ : Type} {lit : κ → Lit} {n : Nat} {m : κ → Option Value} {cells : Array Value} {f : Nat × Nat} (h : MapK P k lit w b n m) (hg : w.heap[g]? = some (.cells cells t f)) : b ≠ g := by
  rintro rfl
  obtain ⟨es, c, hb⟩ := h.obj
  rw [hb] at hg
  cases hg
/-- The state of the build behind n constraints. -/
structure PhA (w : World) (vb gb b1 mb : Nat) (lv : Value) (Ae : Option Addr) (ce n N : Nat) (E : EE) (M : MM) (m : Int → Option Value) (wr : World) : Prop where
  hB : Below w.heap.size w wr
  hv : wr.heap[vb]? = some (.cells #[.int .i64 N] 3 (0, 0))
  hg : wr.heap[gb]? = some (.cells #[lv, .slice Ae N ce, .map (some mb)] 52 (0, 0))
  hS : Kd.S (Kd.slice 55 k55) 53 wr w.heap.size T1 (.slice Ae N ce) E
  hG : Groups wr b1 mb n M m
  hE : E.length = N
  hEl : ∀ j, (E.getD j []).length ≤ 2 * n
  hMl : ∀ v, (M v).length ≤ n
  hvb : w.heap.size ≤ vb ∧ vb < b1 ∧ w.heap.size ≤ gb ∧ w.heap.size ≤ mb ∧ w.heap.size ≤ b1 ∧ b1 ≤ wr.heap.size
section
variable {w wr w1 : World} {vb gb b1 mb ce n N : Nat} {lv : Value} {Ae : Option Addr} {E : EE} {M : MM} {m : Int → Option Value}
theorem PhA.below (h : PhA w vb gb b1 mb lv Ae ce n N E M m wr) (hb : Below wr.heap.size wr w1) : PhA w vb gb b1 mb lv Ae ce n N E M m w1 :=
  ⟨below_step h.hB hb, blk_below h.hv hb, blk_below h.hg hb, Kd.S_below h.hS hb, h.hG.below hb, h.hE, h.hEl, h.hMl, by have := h.hvb; have := hb.size; omega⟩
theorem PhA.vcell (h : PhA w vb gb b1 mb lv Ae ce n N E M m wr) : wr.cell? ⟨vb, 0, none⟩ = some (.int .i64 N) := by rw [blk_cell h.hv]; rfl
theorem PhA.gcell0 (h : PhA w vb gb b1 mb lv Ae ce n N E M m wr) : wr.cell? ⟨gb, 0, none⟩ = some lv := by rw [blk_cell h.hg]; rfl
theorem PhA.gcell1 (h : PhA w vb gb b1 mb lv Ae ce n N E M m wr) : wr.cell? ⟨gb, 1, none⟩ = some (.slice Ae N ce) := by rw [blk_cell h.hg]; rfl
theorem PhA.gcell2 (h : PhA w vb gb b1 mb lv Ae ce n N E M m wr) : wr.cell? ⟨gb, 2, none⟩ = some (.map (some mb)) := by rw [blk_cell h.hg]; rfl
theorem PhA.look (h : PhA w vb gb b1 mb lv Ae ce n N E M m wr) (hN : N ≤ 4096) {v : Int} (h0 : 0 ≤ v) (h1 : v < N) : (Instr.lookup 50 (.map (some mb)) (.int .i64 v) false).run Try.prog wr = .ok ((m v).getD nilV) wr :=
  h.hG.1.lookup law3 Try.underlying50 (zero33 wr) v (key3 hN h0 h1)
/-- the row of marks of a vertex has grown -/
theorem PhA.grew (h : PhA w vb gb b1 mb lv Ae ce n N E M m wr) {a : Int} (hg : wr.grownBy w1 ((m a).getD nilV).ownBlock) (hb : Below w.heap.size w w1) :
    w1.heap[vb]? = some (.cells #[.int .i64 N] 3 (0, 0)) ∧ w1.heap[gb]? = some (.cells #[lv, .slice Ae N ce, .map (some mb)] 52 (0, 0)) ∧ Kd.S (Kd.slice 55 k55) 53 w1 w.heap.size T1 (.slice Ae N ce) E ∧ MapK Try.prog 3 litI w1 mb n m ∧
      ∀ v, v ≠ a → Kd.R (Kd.int .i64) 3 w1 b1 T1 ((m v).getD nilV) (M v) := by
  obtain ⟨hm, hR, hd⟩ := h.hG
  have ht := Kd.R_typed (hR a)
  refine ⟨blk_grown h.hv hg (fun he => ?_), blk_grown h.hg hg (Kd.R_ne (hR a) h.hg (by decide)), Kd.S_over' h.hS ht (by decide) hg, hm.kept hg (fun he => ?_), fun v hv => R_flat rfl (hR v) hg (fun k hk he => ?_)⟩
  · have := Kd.R_base (hR a) _ he.symm
    have := h.hvb
    omega
  · obtain ⟨cells, hc⟩ := ht _ he.symm
    exact ne_map hm hc rfl
  · exact hd a v k hv.symm he.symm hk
theorem PhA.look2 (h : PhA w vb gb b1 mb lv Ae ce n N E M m wr) {a : Int} (hg : wr.grownBy w1 ((m a).getD nilV).ownBlock) (hb : Below w.heap.size w w1) (hN : N ≤ 4096) {v : Int} (h0 : 0 ≤ v) (h1 : v < N) : (Instr.lookup 50 (.map (some mb)) (.int .i64 v) false).run Try.prog w1 = .ok ((m v).getD nilV) w1 :=
  (h.grew hg hb).2.2.2.1.lookup law3 Try.underlying50 (zero33 w1) v (key3 hN h0 h1)
/-- .. and the map has been told. -/
theorem PhA.mark (h : PhA w vb gb b1 mb lv Ae ce n N E M m wr) {a i : Int} {v1 : Value} {w2 : World} (hg : wr.grownBy w1 ((m a).getD nilV).ownBlock) (hb : Below w.heap.size w w1) (hr : Kd.R (Kd.int .i64) 3 w1 b1 T1 v1 (M a ++ [i]))
    (hat : v1.ownBlock = ((m a).getD nilV).ownBlock ∨ ∃ b, v1.ownBlock = some b ∧ wr.heap.size ≤ b) (hm2 : MapK Try.prog 3 litI w2 mb (n + 1) (fun y => if y = a then some v1 else m y)) (hg2 : w1.grownBy w2 (some mb)) :
    PhA w vb gb b1 mb lv Ae ce (n + 1) N E (fun v => if v = a then M v ++ [i] else M v) (fun y => if y = a then some v1 else m y) w2 := by
  obtain ⟨gv, gg, gS, gm, gR⟩ := h.grew hg hb
  obtain ⟨hm, hR, hd⟩ := h.hG
  have hvb := h.hvb
  have hmb : ∀ {g t : Nat} {cells : Array Value} {f : Nat × Nat}, w1.heap[g]? = some (.cells cells t f) → some g ≠ some mb := fun hc he => ne_map gm hc (by injection he with he; exact he.symm)
  have hR2 : ∀ {v : Value} {xs : List Int}, Kd.R (Kd.int .i64) 3 w1 b1 T1 v xs → Kd.R (Kd.int .i64) 3 w2 b1 T1 v xs := fun hx => R_flat rfl hx hg2 (fun k hk => by
    obtain ⟨cells, hc⟩ := Kd.R_typed hx k hk
    exact hmb hc)
  have hlt : ∀ v k, ((m v).getD nilV).ownBlock = some k → k < wr.heap.size := fun v k hk => Kd.R_lt (hR v) k hk
  refine ⟨pw_below_grown hb _ (by have := hb.size; omega) hg2 (fun k hk => by injection hk with hk; omega), blk_grown gv hg2 (hmb gv), blk_grown gg hg2 (hmb gg), ?_, ⟨hm2, fun v => ?_, fun u v k huv hk hk2 => ?_⟩, h.hE, fun j => by have := h.hEl j; omega, fun v => ?_, ?_⟩
  · refine Kd.S_mono (Kd.S_step (Kd.S_bound gS) (fun k hk hl => hg2.block k hl ?_)) (fun _ hk => hk.1)
    obtain ⟨_, _, _, q, _, cells, hc⟩ := hk
    exact hmb hc
  · by_cases hv : v = a
    · subst hv
      simp only [if_pos]
      exact hR2 hr
    · simp only [if_neg hv]
      exact hR2 (gR v hv)
  · by_cases hu : u = a
    · subst hu
      have hv : v ≠ u := Ne.symm huv
      simp only [if_true, if_neg hv, Option.getD_some] at hk hk2
      rcases hat with hat | ⟨b, hb', hbl⟩
      · rw [hat] at hk
        exact hd _ _ k huv hk hk2
      · rw [hb'] at hk
        injection hk with hk
        have := hlt v k hk2
        omega
    · by_cases hv : v = a
      · subst hv
        simp only [if_true, if_neg hu, Option.getD_some] at hk hk2
        rcases hat with hat | ⟨b, hb', hbl⟩
        · rw [hat] at hk2
          exact hd _ _ k huv hk hk2
        · rw [hb'] at hk2
          injection hk2 with hk2
          have := hlt u k hk
          omega
      · simp only [if_neg hu, if_neg hv] at hk hk2
        exact hd _ _ k huv hk hk2
  · have := h.hMl v
    by_cases hv : v = a
    · subst hv
      simp only [if_true, List.length_append, List.length_cons, List.length_nil]
      omega
    · simp only [if_neg hv]
      omega
  · have := hg.size
    have := hg2.size
    omega
/-- A row of edges, lent. -/
theorem PhA.lend (h : PhA w vb gb b1 mb lv Ae ce n N E M m wr) {a : Int} (h0 : 0 ≤ a) (h1 : a < N) :
    ∃ (eb : Nat) (oki : Nat → Prop) (vo : Value) (cur : Array Value), Ae = some ⟨eb, 0, none⟩ ∧ Kd.R k55 55 wr w.heap.size (fun k => oki k ∨ wr.heap.size ≤ k) vo (rdE E a) ∧ wr.cell? ⟨eb, a.toNat, none⟩ = some vo ∧ wr.heap[eb]? = some (.cells cur 53 (0, 0)) ∧ (∀ k, oki k → k ≠ eb) ∧
      Kd.H (Kd.slice 55 k55) 53 wr w.heap.size T1 (.slice Ae N ce) E a (fun k => oki k ∨ wr.heap.size ≤ k) [vo] := by
  have hlen : (0 : Nat) < E.length := by have := h.hE; omega
  obtain ⟨g, cap, e, hb, hl, cells, hc⟩ := Kd.S_form h.hS hlen
  injection e with e1 e2 e3
  subst e1; subst e3
  obtain ⟨oki, c, hcl, hM, hcc, hoki, hH⟩ := Kd.S_lend h.hS [] a h0 h1
  obtain ⟨vo, rfl, hR⟩ := hM
  refine ⟨g, oki, vo, cells, rfl, Kd.R_mono hR (fun _ hk => .inl hk), ?_, hc, fun k hk => (hoki k hk).2, ?_⟩
  · have := hcc 0 vo rfl
    have h2 : a.toNat * (Kd.slice 55 k55).sz + 0 = a.toNat := Nat.mul_one _
    rwa [h2] at this
  · obtain ⟨ho, f, h⟩ := Kd.H_widen hH
    exact ⟨fun _ _ => trivial, f, Kd.R_mono h (fun k hk => ⟨trivial, fun h2 => hk.2 (h2.imp id (fun h3 => ⟨trivial, h3⟩))⟩)⟩
/-- .. grown, and put back: the state is the next but for the edges' row. -/
theorem PhA.back (h : PhA w vb gb b1 mb lv Ae ce n N E M m wr) {a : Int} (h0 : 0 ≤ a) (h1 : a < N) {eb : Nat} {oki : Nat → Prop} {vo v1 : Value} {x : S55} (hA : Ae = some ⟨eb, 0, none⟩) (hvo : Kd.R k55 55 wr w.heap.size (fun k => oki k ∨ wr.heap.size ≤ k) vo (rdE E a))
    (hoki : ∀ k, oki k → k ≠ eb) (hH : Kd.H (Kd.slice 55 k55) 53 wr w.heap.size T1 (.slice Ae N ce) E a (fun k => oki k ∨ wr.heap.size ≤ k) [vo]) (hg : wr.grownBy w1 vo.ownBlock) (hb : Below w.heap.size w w1)
    (hr : Kd.R k55 55 w1 w.heap.size (fun k => oki k ∨ wr.heap.size ≤ k) v1 (rdE E a ++ [x])) (n' : Nat) (hn : n ≤ n') (hEl : ∀ j, ((E.set a.toNat (rdE E a ++ [x])).getD j []).length ≤ 2 * n') :
    PhA w vb gb b1 mb lv Ae ce n' N (E.set a.toNat (rdE E a ++ [x])) M m (w1.setCell ⟨eb, a.toNat, none⟩ v1) := by
  subst hA
  obtain ⟨hm, hR, hd⟩ := h.hG
  have hvb := h.hvb
  have ht := Kd.R_typed hvo
  have hH1 := Kd.H_grown hH hg (fun k hk => hvo.1 k hk)
  have hlen : (0 : Nat) < E.length := by have := h.hE; omega
  obtain ⟨g', cap, e, hbe, hle, cells, hc⟩ := Kd.S_form h.hS hlen
  injection e with e1 e2 e3
  injection e1 with e1
  injection e1 with e1
  subst e1
  have hc1 : w1.heap[eb]? = some (.cells cells 53 (0, 0)) := blk_grown hc hg (Kd.R_ne hvo hc (by decide))
  have hmap1 : MapK Try.prog 3 litI w1 mb n m := hm.kept hg (fun he => by
    obtain ⟨cells, hx⟩ := ht _ he.symm
    exact ne_map hm hx rfl)
  have hset : (w1.setCells eb (a.toNat * (Kd.slice 55 k55).sz + 0) [v1]) = w1.setCell ⟨eb, a.toNat, none⟩ v1 := by
    have h2 : a.toNat * (Kd.slice 55 k55).sz + 0 = a.toNat := Nat.mul_one _
    rw [h2]; rfl
  have hseg := Kd.S_seg (okg := fun _ => False) (d := Kd.slice 55 k55) (okp := fun k => oki k ∨ wr.heap.size ≤ k) (seg := [v1]) (j := 0) (x' := rdE E a ++ [x]) (Kd.H_mono hH1 (fun k hk => ⟨hk, fun h => h⟩)) h0 h1 (by exact Nat.le_refl 1) ⟨v1, rfl, hr⟩ (fun k hk => .inl hk) (fun _ hk => hk.elim)
  rw [hset] at hseg
  obtain ⟨hS2, hg2⟩ := hseg
  have hbase : w.heap.size ≤ eb := hbe
  have hvw : w1.heap[vb]? = some (.cells #[.int .i64 N] 3 (0, 0)) := blk_grown h.hv hg (Kd.R_ne hvo h.hv (by decide))
  have hgw : w1.heap[gb]? = some (.cells #[lv, .slice (some ⟨eb, 0, none⟩) N ce, .map (some mb)] 52 (0, 0)) := blk_grown h.hg hg (Kd.R_ne hvo h.hg (by decide))
  have hRw : ∀ v, Kd.R (Kd.int .i64) 3 w1 b1 T1 ((m v).getD nilV) (M v) := fun v => R_flat rfl (hR v) hg (fun k hk he => by
    obtain ⟨c1, h1⟩ := ht k he.symm
    obtain ⟨c2, h2⟩ := Kd.R_typed (hR v) k hk
    exact blk_ne h1 h2 (by decide) rfl)
  refine ⟨pw_below_grown hb _ (by have := hb.size; omega) hg2 (fun k hk => by injection hk with hk; omega), blk_far hvw (blk_ne hvw hc1 (by decide)) _, blk_far hgw (blk_ne hgw hc1 (by decide)) _, hS2, ⟨(hmap1.kept hg2 (fun he => ne_map hmap1 hc1 (by injection he))).mono hn, fun v => R_flat rfl (hRw v) hg2 (fun k hk he => ?_), hd⟩, by rw [List.length_set]; exact h.hE, hEl, fun v => by have := h.hMl v; omega, ?_⟩
  · injection he with he
    subst he
    obtain ⟨c2, h2⟩ := Kd.R_typed (hRw v) k hk
    exact blk_ne hc1 h2 (by decide) rfl
  · have := hg.size
    have := hg2.size
    omega
theorem PhA.next (h : PhA w vb gb b1 mb lv Ae ce n N E M m wr) {n' : Nat} (hn : n ≤ n') : PhA w vb gb b1 mb lv Ae ce n' N E M m wr :=
  ⟨h.hB, h.hv, h.hg, h.hS, ⟨h.hG.1.mono hn, h.hG.2⟩, h.hE, fun j => by have := h.hEl j; omega, fun v => by have := h.hMl v; omega, h.hvb⟩
theorem set_len (E : EE) (a : Nat) (r : List S55) (n : Nat) (h : ∀ j, (E.getD j []).length ≤ n) (hr : r.length ≤ n) : ∀ j, ((E.set a r).getD j []).length ≤ n := by
  intro j
  simp only [List.getD_eq_getElem?_getD, List.getElem?_set]
  have := h j
  simp only [List.getD_eq_getElem?_getD] at this
  split
  · split <;> simp <;> omega
  · exact this
end
end Go.Proofs.Ytjbafigageingaa

namespace Go.Proofs.Ytjbafigageingaa
open Go.RowKit Go.Maps Go.Proofs.YtjbafigageingaaW.PrintWords Go.Proofs.YtjbafigageingaaW.PrintLast Go.Proofs.YtjbafigageingaaW.PrintMore
set_option linter.unusedVariables false
set_option linter.unusedSimpArgs false
set_option maxRecDepth 100000 in
theorem inside_calls (v N : Int) (vb : Nat) (w : World) (hv : w.cell? ⟨vb, 0, none⟩ = some (.int .i64 N)) :
    Calls Try.prog 27 #[.int .i64 v, .pointer (some ⟨vb, 0, none⟩)] w fun e w' => e = .returned (.bool (decide (0 ≤ v ∧ v < N))) ∧ Below w.heap.size w w' := by
  go_enter Try.func27, Try.ntmps27
  by_cases h0 : 0 ≤ v
  · by_cases h1 : v < N
    · rw [decide_eq_true (show 0 ≤ v ∧ v < N from ⟨h0, h1⟩)]
      go_wp2
      go_ret
      exact ⟨rfl, Below.refl _ _⟩
    · rw [decide_eq_false (show ¬ (0 ≤ v ∧ v < N) from fun h => h1 h.2)]
      go_wp2
      go_ret
      exact ⟨rfl, Below.refl _ _⟩
  · rw [decide_eq_false (show ¬ (0 ≤ v ∧ v < N) from fun h => h0 h.1)]
    go_wp2
    go_ret
    exact ⟨rfl, Below.refl _ _⟩
end Go.Proofs.Ytjbafigageingaa

namespace Go.Proofs.Ytjbafigageingaa
open Go.RowKit Go.Maps Go.Proofs.YtjbafigageingaaW.PrintWords Go.Proofs.YtjbafigageingaaW.PrintLast Go.Proofs.YtjbafigageingaaW.PrintMore
set_option linter.unusedVariables false
set_option linter.unusedSimpArgs false
abbrev kI : Kd Int := Kd.int .i64
abbrev kII : Kd (List Int) := Kd.slice 3 (Kd.int .i64)
/-- Between two rounds. -/
structure Ph2 (W0 : World) (n : Nat) (vo vs vc : Value) (out : List S23) (ch : List (List Int)) (seen : List Bool) (wr : World) : Prop where
  hB : Below W0.heap.size W0 wr
  hO : Kd.R k23 23 wr W0.heap.size T1 vo out
  hS : Kd.R Kd.bool 4 wr W0.heap.size T1 vs seen
  hC : Kd.R kII 33 wr W0.heap.size T1 vc ch
  hol : out.length = n
  hsl : seen.length = n
/-- In a round: the class and its marks, too. -/
structure Ph3 (W0 : World) (B n : Nat) (vf : Value) (far : List Int) (vo vs vc vcl vmk : Value) (out : List S23) (ch : List (List Int)) (seen : List Bool) (cl mk : List Int) (wr : World) : Prop where
  hB : Below W0.heap.size W0 wr
  hO : Kd.R k23 23 wr W0.heap.size T1 vo out
  hS : Kd.R Kd.bool 4 wr W0.heap.size T1 vs seen
  hC : Kd.R kII 33 wr W0.heap.size (fun k => k < B) vc ch
  hF : Kd.R kI 3 wr W0.heap.size (fun k => k < B) vf far
  hCl : Kd.R kI 3 wr B (fun k => some k ≠ vmk.ownBlock) vcl cl
  hMk : Kd.R kI 3 wr B T1 vmk mk
  hBs : W0.heap.size ≤ B ∧ B ≤ wr.heap.size
  hol : out.length = n
  hsl : seen.length = n
  hcr : ∀ x ∈ cl, 0 ≤ x ∧ x < (n : Int)
section
variable {W0 wr w1 : World} {B n : Nat} {vf vo vs vc vcl vmk : Value} {far : List Int} {out : List S23} {ch : List (List Int)} {seen : List Bool} {cl mk : List Int}
theorem Ph2.below (h : Ph2 W0 n vo vs vc out ch seen wr) (hb : Below wr.heap.size wr w1) : Ph2 W0 n vo vs vc out ch seen w1 :=
  ⟨below_step h.hB hb, Kd.R_below h.hO hb, Kd.R_below h.hS hb, Kd.R_below h.hC hb, h.hol, h.hsl⟩
theorem Ph3.below (h : Ph3 W0 B n vf far vo vs vc vcl vmk out ch seen cl mk wr) (hb : Below wr.heap.size wr w1) : Ph3 W0 B n vf far vo vs vc vcl vmk out ch seen cl mk w1 :=
  ⟨below_step h.hB hb, Kd.R_below h.hO hb, Kd.R_below h.hS hb, Kd.R_below h.hC hb, Kd.R_below h.hF hb, Kd.R_below h.hCl hb, Kd.R_below h.hMk hb, ⟨h.hBs.1, Nat.le_trans h.hBs.2 hb.size⟩, h.hol, h.hsl, h.hcr⟩
theorem Ph2.round (h : Ph2 W0 n vo vs vc out ch seen wr) (hf : Kd.R kI 3 wr W0.heap.size T1 vf far) : Ph3 W0 wr.heap.size n vf far vo vs vc nilV nilV out ch seen [] [] wr :=
  ⟨h.hB, h.hO, h.hS, Kd.R_mono (Kd.R_bound h.hC) (fun k hk => hk.2.2.1), Kd.R_mono (Kd.R_bound hf) (fun k hk => hk.2.2.1), Kd.R_nil _ _ _ _ _, Kd.R_nil _ _ _ _ _, ⟨h.hB.size, Nat.le_refl _⟩, h.hol, h.hsl, fun x hx => by cases hx⟩
theorem Ph3.close (h : Ph3 W0 B n vf far vo vs vc vcl vmk out ch seen cl mk wr) : Ph2 W0 n vo vs vc out ch seen wr := ⟨h.hB, h.hO, h.hS, Kd.R_mono h.hC (fun _ _ => trivial), h.hol, h.hsl⟩
theorem below_row {row : Option Nat} (h : Below W0.heap.size W0 wr) (hg : wr.grownBy w1 row) (hr : ∀ k, row = some k → W0.heap.size ≤ k) : Below W0.heap.size W0 w1 := pw_below_grown h row h.size hg hr
/-- seen[x] = true -/
theorem Ph3.see {gs cs : Nat} (h : Ph3 W0 B n vf far vo (.slice (some ⟨gs, 0, none⟩) n cs) vc vcl vmk out ch seen cl mk wr) (x : Nat) :
    Ph3 W0 B n vf far vo (.slice (some ⟨gs, 0, none⟩) n cs) vc vcl vmk out ch (seen.set x true) cl mk (wr.setCell ⟨gs, x, none⟩ (.bool true)) := by
  obtain ⟨h1, hg⟩ := R_putN h.hS x true
  have ht := Kd.R_typed h.hS
  have hg' : wr.grownBy (wr.setCell ⟨gs, x, none⟩ (.bool true)) (Value.slice (some ⟨gs, 0, none⟩) n cs).ownBlock := hg
  exact ⟨below_row h.hB hg' (Kd.R_base h.hS), Kd.R_over' h.hO ht (by decide) hg', h1, Kd.R_over' h.hC ht (by decide) hg', Kd.R_over' h.hF ht (by decide) hg', Kd.R_over' h.hCl ht (by decide) hg', Kd.R_over' h.hMk ht (by decide) hg',
    ⟨h.hBs.1, Nat.le_trans h.hBs.2 hg.size⟩, h.hol, by rw [List.length_set]; exact h.hsl, h.hcr⟩
theorem ne_of_new {v1 v2 u : Value} {W : World} (hne : ∀ k, u.ownBlock = some k → some k ≠ v1.ownBlock) (hlt : ∀ k, u.ownBlock = some k → k < W.heap.size) (hat : v2.ownBlock = v1.ownBlock ∨ ∃ b, v2.ownBlock = some b ∧ W.heap.size ≤ b) : ∀ k, u.ownBlock = some k → some k ≠ v2.ownBlock := by
  intro k hk
  rcases hat with hat | ⟨b, hb, hl⟩
  · rw [hat]; exact hne k hk
  · rw [hb]
    intro he
    injection he with he
    have := hlt k hk
    omega
/-- class = append(class, x): what stands behind it. -/
theorem Ph3.app1 (h : Ph3 W0 B n vf far vo vs vc vcl vmk out ch seen cl mk wr) {v9 : Value} {x : Int} (hg : wr.grownBy w1 vcl.ownBlock) (hat : v9.ownBlock = vcl.ownBlock ∨ ∃ b, v9.ownBlock = some b ∧ wr.heap.size ≤ b)
    (hr : Kd.R kI 3 w1 B (fun k => some k ≠ vmk.ownBlock) v9 (cl ++ [x])) (hx : 0 ≤ x ∧ x < (n : Int)) :
    Ph3 W0 B n vf far vo vs vc v9 vmk out ch seen (cl ++ [x]) mk w1 := by
  have ht := Kd.R_typed h.hCl
  have hb := Kd.R_base h.hCl
  refine ⟨below_row h.hB hg (fun k hk => Nat.le_trans h.hBs.1 (hb k hk)), Kd.R_over' h.hO ht (by decide) hg, Kd.R_over' h.hS ht (by decide) hg, Kd.R_grown h.hC hg (fun k hk he => ?_), Kd.R_grown h.hF hg (fun k hk he => ?_), hr, R_flat rfl h.hMk hg (fun k hk he => h.hCl.1 k he.symm hk.symm), ⟨h.hBs.1, Nat.le_trans h.hBs.2 hg.size⟩, h.hol, h.hsl, fun y hy => ?_⟩
  · have := hb k he.symm
    omega
  · have := hb k he.symm
    omega
  · rcases List.mem_append.1 hy with hy | hy
    · exact h.hcr y hy
    · rw [List.mem_singleton.1 hy]; exact hx
/-- marks = append(marks, ..) -/
theorem Ph3.app2 (h : Ph3 W0 B n vf far vo vs vc vcl vmk out ch seen cl mk wr) {v9 : Value} {ys : List Int} (hg : wr.grownBy w1 vmk.ownBlock) (hat : v9.ownBlock = vmk.ownBlock ∨ ∃ b, v9.ownBlock = some b ∧ wr.heap.size ≤ b)
    (hr : Kd.R kI 3 w1 B T1 v9 ys) : Ph3 W0 B n vf far vo vs vc vcl v9 out ch seen cl ys w1 := by
  have ht := Kd.R_typed h.hMk
  have hb := Kd.R_base h.hMk
  have hcl2 : Kd.R kI 3 w1 B (fun k => some k ≠ vmk.ownBlock) vcl cl := R_flat rfl h.hCl hg (fun k hk => h.hCl.1 k hk)
  refine ⟨below_row h.hB hg (fun k hk => Nat.le_trans h.hBs.1 (hb k hk)), Kd.R_over' h.hO ht (by decide) hg, Kd.R_over' h.hS ht (by decide) hg, Kd.R_grown h.hC hg (fun k hk he => ?_), Kd.R_grown h.hF hg (fun k hk he => ?_), R_ok hcl2 _ rfl (ne_of_new (fun k hk => h.hCl.1 k hk) (Kd.R_lt h.hCl) hat), hr, ⟨h.hBs.1, Nat.le_trans h.hBs.2 hg.size⟩, h.hol, h.hsl, h.hcr⟩ <;>
  · have := hb k he.symm
    omega
theorem Ph3.apart (h : Ph3 W0 B n vf far vo vs vc vcl vmk out ch seen cl mk wr) : ∀ k, wr.heap.size ≤ k → some k ≠ vmk.ownBlock := fun k hk he => by
  have := Kd.R_lt h.hMk k he.symm
  omega
/-- chains = append(chains, best) -/
theorem Ph2.chain (h : Ph2 W0 n vo vs vc out ch seen wr) {v9 : Value} {ys : List (List Int)} (hg : wr.grownBy w1 vc.ownBlock) (hr : Kd.R kII 33 w1 W0.heap.size T1 v9 ys) : Ph2 W0 n vo vs v9 out ys seen w1 := by
  have ht := Kd.R_typed h.hC
  exact ⟨below_row h.hB hg (Kd.R_base h.hC), Kd.R_over' h.hO ht (by decide) hg, Kd.R_over' h.hS ht (by decide) hg, hr, h.hol, h.hsl⟩
/-- out[i] = t -/
theorem Ph3.fill (h : Ph3 W0 B n vf far vo vs vc vcl vmk out ch seen cl mk wr) {i : Nat} {t : S23} (hg : wr.grownBy w1 vo.ownBlock) (hr : Kd.R k23 23 w1 W0.heap.size T1 vo (out.set i t)) : Ph3 W0 B n vf far vo vs vc vcl vmk (out.set i t) ch seen cl mk w1 := by
  have ht := Kd.R_typed h.hO
  exact ⟨below_row h.hB hg (Kd.R_base h.hO), hr, Kd.R_over' h.hS ht (by decide) hg, Kd.R_over' h.hC ht (by decide) hg, Kd.R_over' h.hF ht (by decide) hg, Kd.R_over' h.hCl ht (by decide) hg, Kd.R_over' h.hMk ht (by decide) hg,
    ⟨h.hBs.1, Nat.le_trans h.hBs.2 hg.size⟩, by rw [List.length_set]; exact h.hol, h.hsl, h.hcr⟩
end
/-- The best chain so far. -/
def BestAt (b0 : Nat) (w : World) : Option (List Int) → Value → Prop
  | none, v => v = nilV
  | some c, v => ∃ A cap, v = .slice (some A) c.length cap ∧ Kd.R kI 3 w b0 T1 v c
theorem BestAt.below {b0 : Nat} {w w1 : World} {b : Option (List Int)} {v : Value} (h : BestAt b0 w b v) (hb : Below w.heap.size w w1) : BestAt b0 w1 b v := by
  cases b with
  | none => exact h
  | some c =>
    obtain ⟨A, cap, rfl, hr⟩ := h
    exact ⟨A, cap, rfl, Kd.R_below hr hb⟩
theorem BestAt.set {b0 : Nat} {w : World} {b : Option (List Int)} {v : Value} (h : BestAt b0 w b v) {g : Nat} {cells : Array Value} (hb : w.heap[g]? = some (.cells cells 23 (0, 0))) (j : Nat) (u : Value) : BestAt b0 (w.setCell ⟨g, j, none⟩ u) b v := by
  cases b with
  | none => exact h
  | some c =>
    obtain ⟨A, cap, rfl, hr⟩ := h
    exact ⟨A, cap, rfl, Kd.R_set hr hb (by decide) j u⟩
theorem chainpost_none {w : World} {e : Ending} {w' : World} (h : ChainPost w none e w') : e = .returned (.tuple #[.slice none 0 0, .bool false]) := by
  rcases h with ⟨_, h⟩ | ⟨c, A, cap, hc, _, _⟩
  · exact h
  · cases hc
theorem chainpost_some {w : World} {c : List Int} {e : Ending} {w' : World} (h : ChainPost w (some c) e w') {b0 : Nat} (hb : b0 ≤ w.heap.size) : ∃ A cap, e = .returned (.tuple #[.slice (some A) c.length cap, .bool true]) ∧ BestAt b0 w' (some c) (.slice (some A) c.length cap) := by
  rcases h with ⟨h, _⟩ | ⟨c', A, cap, hc, he, hr⟩
  · cases h
  · injection hc with hc
    subst hc
    exact ⟨A, cap, he, A, cap, rfl, Kd.R_lower hr hb⟩
theorem eqlnil1 (w : World) (A : Addr) (n c : Nat) : (binOp .eql 33 (.slice (some A) n c) (.slice none 0 0)).run Try.prog w = .ok (.bool false) w := Lib.run_eql_slice_nil w 33 3 (some A) n c 0 0 Try.underlying33
theorem eqlnil0 (w : World) : (binOp .eql 33 (.slice none 0 0) (.slice none 0 0)).run Try.prog w = .ok (.bool true) w := Lib.run_eql_slice_nil w 33 3 none 0 0 0 0 Try.underlying33
theorem neqnil1 (w : World) (A : Addr) (n c : Nat) : (binOp .neq 33 (.slice (some A) n c) (.slice none 0 0)).run Try.prog w = .ok (.bool true) w := run_neq_slice_nil w 33 3 (some A) n c Try.underlying33
theorem neqnil0 (w : World) : (binOp .neq 33 (.slice none 0 0) (.slice none 0 0)).run Try.prog w = .ok (.bool false) w := run_neq_slice_nil w 33 3 none 0 0 Try.underlying33
end Go.Proofs.Ytjbafigageingaa
