import Derived.Test.YtjbafigageingaaKcLem
import Derived.Test.YtjbafigageingaaKcMap
import Derived.Test.YtjbafigageingaaKcExcl
import Derived.StillTailTactics
import Derived.Outline
namespace Go.Proofs.Ytjbafigageingaa
open Go.RowKit Go.Maps Go.Proofs.YtjbafigageingaaW.PrintWords Go.Proofs.YtjbafigageingaaW.PrintLast Go.Proofs.YtjbafigageingaaW.PrintMore
set_option linter.unusedVariables false
set_option linter.unusedSimpArgs false

theorem law3 : Keyed Try.prog 3 := int_keyed Try.underlying3
theorem zero33 (w : World) : (zeroValue 33).run Try.prog w = .ok (.slice none 0 0) w := by kernel_rfl
/-- The map of the marks, read. -/
def MarksAt (w : World) (mb : Nat) (N : Nat) (M : Int → List Int) : Prop :=
  ∃ cnt m, MapK Try.prog 3 litI w mb cnt m ∧ ∀ v : Int, 0 ≤ v → v < N → ∃ A c, (m v).getD (.slice none 0 0) = .slice A (M v).length c ∧ (M v).length ≤ c ∧ Kd.C (Kd.int .i64) w A (M v).length (M v)
theorem MarksAt.below {w w1 : World} {mb N : Nat} {M : Int → List Int} (h : MarksAt w mb N M) (hb : Below w.heap.size w w1) : MarksAt w1 mb N M := by
  obtain ⟨cnt, m, hm, hr⟩ := h
  refine ⟨cnt, m, hm.below hb, fun v h0 h1 => ?_⟩
  obtain ⟨A, c, he, hl, hC⟩ := hr v h0 h1
  exact ⟨A, c, he, hl, Kd.C_below hC hb⟩
theorem key3 {v : Int} {N : Nat} (hN : N ≤ 4096) (h0 : 0 ≤ v) (h1 : v < N) : keyOf Try.prog 3 (.int .i64 v) = some (litI v) :=
  keyOf_int_mk Try.underlying3 (WalkArith.wf_i64 (by omega))
theorem MarksAt.look {w : World} {mb N : Nat} {M : Int → List Int} (h : MarksAt w mb N M) (hN : N ≤ 4096) {v : Int} (h0 : 0 ≤ v) (h1 : v < N) :
    ∃ A c, (∀ w1 : World, Below w.heap.size w w1 → (Instr.lookup 50 (.map (some mb)) (.int .i64 v) false).run Try.prog w1 = .ok (.slice A (M v).length c) w1) ∧ (M v).length ≤ c ∧ Kd.C (Kd.int .i64) w A (M v).length (M v) := by
  obtain ⟨cnt, m, hm, hr⟩ := h
  obtain ⟨A, c, he, hl, hC⟩ := hr v h0 h1
  refine ⟨A, c, fun w1 hb => ?_, hl, hC⟩
  have := (hm.below hb).lookup law3 Try.underlying50 (zero33 w1) v (key3 hN h0 h1)
  rw [this, he]
theorem C_36N {n : Nat} {A : Option Addr} {W : World} {xs : List S36} (h : k36.C W A n xs) (i : Int) (h0 : 0 ≤ i) (h1 : i < n) : ∃ ad, A = some ad ∧
    W.cell? ⟨(ad.add (i.toNat * 8)).block, (ad.add (i.toNat * 8)).off + 3, none⟩ = some (.int .i64 (rd_T36 xs i).f3.f0) ∧ W.cell? ⟨(ad.add (i.toNat * 8)).block, (ad.add (i.toNat * 8)).off + 4, none⟩ = some (.int .i64 (rd_T36 xs i).f3.f1) ∧
    W.cell? ⟨(ad.add (i.toNat * 8)).block, (ad.add (i.toNat * 8)).off + 5, none⟩ = some (.string (rd_T36 xs i).f3.f2) := by
  obtain ⟨ad, hA, _, _, _, c3, c4, c5, _⟩ := at_T36 h i h0 h1
  exact ⟨ad, hA, c3, c4, c5⟩

set_option maxRecDepth 100000 in
theorem other_calls (Al : Option Addr) (cl : Nat) (L : List S36) (ev : Value) (mb N : Nat) (M : Int → List Int) (i v j : Int) (b : Bool) (w : World)
    (he : ∃ A n c, ev = .slice A n c) (hL : Kd.C k36 w Al L.length L) (hM : MarksAt w mb N M) (hN : N ≤ 4096) (hv0 : 0 ≤ v) (hv1 : v < N) (h : otherF L i (M v) = some (j, b)) :
    Calls Try.prog 41 #[.agg #[.slice Al L.length cl, ev, .map (some mb)], .int .i64 i, .int .i64 v] w fun e w' => e = .returned (.tuple #[.int .i64 j, .bool b]) ∧ Below w.heap.size w w' := by
  obtain ⟨ea, en, ec, rfl⟩ := he
  obtain ⟨A, c, hlook, hlc, hC⟩ := hM.look hN hv0 hv1
  have hlook1 := hlook _ (below_alloc (Below.refl _ _) (.cells #[.slice Al L.length cl, .slice ea en ec, .map (some mb)] 52))
  obtain ⟨xs, hxs⟩ : ∃ xs, xs = M v := ⟨_, rfl⟩
  rw [← hxs] at h hlook1 hC
  have hxl : xs.length ≤ 9223372036854775807 := hC.2.1
  have HL := Aside0.mk hL
  have HC := Aside0.mk hC
  have H := Aside0.mk h
  clear hL hC h hlook hM hxs hlc hN hv0 hv1
  go_enter Try.func41, Try.ntmps41
  go_wp2_with fail
  obtain ⟨w1, hW, hb1, hbx, hC1, hL1⟩ : ∃ w1 : World, w.alloc (.cells #[.slice Al L.length cl, .slice ea en ec, .map (some mb)] 52) = w1 ∧ Below w.heap.size w w1 ∧ w1.cell? ⟨w.heap.size, 0, none⟩ = some (.slice Al L.length cl) ∧
      Kd.C (Kd.int .i64) w1 A xs.length xs ∧ Kd.C k36 w1 Al L.length L := by
    have hb := below_alloc (Below.refl w.heap.size w) (.cells #[.slice Al L.length cl, .slice ea en ec, .map (some mb)] 52)
    exact ⟨_, rfl, hb, by simp, Kd.C_below HC.out hb, Kd.C_below HL.out hb⟩
  rw [hW]
  have HB1 := Aside0.mk hb1
  have HX1 := Aside0.mk hbx
  have HC1 := Aside0.mk hC1
  have HL1 := Aside0.mk hL1
  clear hW hb1 hbx hC1 hL1 HC HL hlook1
  go_loopw [9, 15] (fun _ v15 wr => ∃ n : Nat, n ≤ xs.length ∧ v15 = .int .i64 n ∧ Aside0 (otherF L i (xs.drop n) = some (j, b)) ∧ Aside0 (Below w1.heap.size w1 wr)) (fun _ i _ => xs.length - (intOf i).toNat)
  case atStart => exact ⟨0, Nat.zero_le _, rfl, H, ⟨Below.refl _ _⟩⟩
  case round =>
    obtain ⟨n, hn, rfl, HD, HB⟩ := hrel
    clear H
    by_cases hlt : n < xs.length
    · have hd := HD.out
      rw [drop_cons 0 _ _ hlt] at hd
      simp only [otherF] at hd
      obtain ⟨x, hx⟩ : ∃ x, x = xs.getD n 0 := ⟨_, rfl⟩
      obtain ⟨ad, rfl, hc⟩ := C_cellN 0 HC1.out n hlt
      have hcr := (HB.out.cell (World.block_lt_of_cell? w1 _ hc)).trans hc
      rw [← hx] at hd hcr
      have hbx := HX1.out
      have hbr := (HB.out.cell (World.block_lt_of_cell? w1 _ hbx)).trans hbx
      clear hx hc HD hbx
      by_cases hix : i < x
      · rw [if_pos hix] at hd
        by_cases hr : (0 ≤ i ∧ i < (L.length : Int)) ∧ (0 ≤ x ∧ x < (L.length : Int))
        · rw [if_pos hr] at hd
          obtain ⟨⟨hi0, hi1⟩, hx0, hx1⟩ := hr
          obtain ⟨al, rfl, a0, a1, a2⟩ := C_36N HL1.out i hi0 hi1
          obtain ⟨al', hal, b0, b1, b2⟩ := C_36N HL1.out x hx0 hx1
          injection hal with hal
          subst hal
          replace a0 := (HB.out.cell (World.block_lt_of_cell? w1 _ a0)).trans a0
          replace a1 := (HB.out.cell (World.block_lt_of_cell? w1 _ a1)).trans a1
          replace a2 := (HB.out.cell (World.block_lt_of_cell? w1 _ a2)).trans a2
          replace b0 := (HB.out.cell (World.block_lt_of_cell? w1 _ b0)).trans b0
          replace b1 := (HB.out.cell (World.block_lt_of_cell? w1 _ b1)).trans b1
          replace b2 := (HB.out.cell (World.block_lt_of_cell? w1 _ b2)).trans b2
          obtain ⟨ma, hma⟩ : ∃ m, m = (rd_T36 L i).f3 := ⟨_, rfl⟩
          obtain ⟨mx, hmx⟩ : ∃ m, m = (rd_T36 L x).f3 := ⟨_, rfl⟩
          rw [← hma] at a0 a1 a2
          rw [← hmx] at b0 b1 b2
          rw [← hma, ← hmx] at hd
          clear hma hmx
          obtain ⟨ma0, ma1, ma2⟩ := ma
          obtain ⟨mx0, mx1, mx2⟩ := mx
          simp only at a0 a1 a2 b0 b1 b2
          go_wp2_with fail
          go_still_tail 16, (by kernel_rfl)
          change wpList _ _ _ _ _ wr.drew
          have HBd : Aside0 (Below w1.heap.size w1 wr.drew) := ⟨HB.out.drew⟩
          generalize wr.drew = wd at HBd ⊢
          clear hcr hbr HB
          cases hex : exclB ⟨ma0, ma1, ma2⟩ ⟨mx0, mx1, mx2⟩ with
          | true =>
            rw [hex] at hd
            simp only [if_true, Option.some.injEq, Prod.mk.injEq] at hd
            obtain ⟨rfl, rfl⟩ := hd
            have CE := Aside0.mk (exclude_calls ⟨ma0, ma1, ma2⟩ ⟨mx0, mx1, mx2⟩ wd)
            rw [hex] at CE
            clear hex
            go_wp2_with (go_at_call 8; refine CE.out.mono ?_; rintro e w2 ⟨rfl, hb⟩; have HB2 := Aside0.mk (below_step HBd.out hb); clear hb)
            go_ret2
            exact ⟨rfl, below_step HB1.out HB2.out⟩
          | false =>
            rw [hex] at hd
            simp only [Bool.false_eq_true, if_false] at hd
            have HD := Aside0.mk hd
            have CE := Aside0.mk (exclude_calls ⟨ma0, ma1, ma2⟩ ⟨mx0, mx1, mx2⟩ wd)
            rw [hex] at CE
            clear hex hd
            go_wp2_with (go_at_call 8; refine CE.out.mono ?_; rintro e w2 ⟨rfl, hb⟩; have HB2 := Aside0.mk (below_step HBd.out hb); clear hb)
            go_roundw
            case rel => exact ⟨n + 1, hlt, by go_num, HD, HB2⟩
            case measure => simp [intOf]; omega
        · rw [if_neg hr] at hd
          cases hd
      · rw [if_neg hix] at hd
        have HD := Aside0.mk hd
        clear hd
        have hixd : decide (i < x) = false := by simpa using hix
        clear hix
        go_wp2_with fail
        go_quiet (fail)
        have HBd : Aside0 (Below w1.heap.size w1 (wr.drewN nq)) := ⟨pw_below_drewN HB.out _⟩
        go_wp2
        go_roundw
        case rel => exact ⟨n + 1, hlt, by go_num, HD, HBd⟩
        case measure => simp [intOf]; omega
    · obtain rfl : xs.length = n := by omega
      have hd := HD.out
      rw [List.drop_length] at hd
      simp only [otherF, Option.some.injEq, Prod.mk.injEq] at hd
      obtain ⟨rfl, rfl⟩ := hd
      go_wp2
      go_ret2
      exact ⟨rfl, below_step HB1.out HB.out⟩
end Go.Proofs.Ytjbafigageingaa
