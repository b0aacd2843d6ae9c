import Derived.Test.YtjbafigageingaaKcSpec
import Derived.Test.YtjbafigageingaaKcClone
import Derived.Test.YtjbafigageingaaKcLem
import Derived.Outline
namespace Go.Proofs.Ytjbafigageingaa
open Go.RowKit Go.Proofs.YtjbafigageingaaW.PrintWords Go.Proofs.YtjbafigageingaaW.PrintLast Go.Proofs.YtjbafigageingaaW.PrintMore
set_option linter.unusedVariables false
set_option linter.unusedSimpArgs false

set_option maxRecDepth 100000 in
theorem dist_calls (k : Nat) (l : Value) (Ae : Option Addr) (ce : Nat) (E : List (List S55)) (m : Value) (Af : Option Addr) (cf : Nat) (F : List Int) (r : List Int) (w : World)
    (hl : ∃ A n c, l = .slice A n c) (hm : ∃ b, m = .map b)
    (hE : Kd.C (Kd.slice 55 k55) w Ae E.length E) (hF : Kd.C (Kd.int .i64) w Af F.length F) (hn : E.length ≤ 4096) (hf : F.length ≤ 4096) (h : dist E F k = some r) :
    Calls Try.prog 28 #[.agg #[l, .slice Ae E.length ce, m], .slice Af F.length cf] w fun e w' => ∃ v : Value, e = .returned v ∧ Kd.R (Kd.int .i64) 3 w' w.heap.size (fun _ => True) v r ∧ Below w.heap.size w w' := by
  obtain ⟨la, ln, lc, rfl⟩ := hl
  obtain ⟨mb, rfl⟩ := hm
  have HE := Aside0.mk hE
  have HF := Aside0.mk hF
  have H := Aside0.mk h
  clear hE hF h
  go_enter Try.func28, Try.ntmps28
  go_wp2_with ((with_reducible refine gate_dst (N := 16) rfl ?_); refine Kd.R_make (Kd.int .i64) _ 3 rfl (N := 16) rfl 33 _ _ rfl (E.length : Int) rfl rfl Try.underlying33 (.int .i64 0) 8 info3 rfl (by decide) (by omega) 0 (ok := fun _ => True) (okp := fun _ => True) rfl (fun _ hk => hk) trivial (by omega) (by simp; omega) (Below.refl _ _) (Nat.le_refl _) ?_; intro v6 w6 ho6 hb6 hz1 hz2; clear hz1 hz2; have e6 : ∃ A c, v6 = .slice A E.length c := (by obtain ⟨A, c, e, _⟩ := Kd.R_reads ho6; exact ⟨A, c, by simpa using e⟩); obtain ⟨A6, c6, rfl⟩ := e6; have HO6 := Aside0.mk ho6; have HB6 := Aside0.mk hb6; clear ho6 hb6)
  have X : ∃ w1 : World, Below w.heap.size w w1 ∧ w1.heap[w.heap.size]? = some (.cells #[.slice la ln lc, .slice Ae E.length ce, .map mb] 52 (0, 0)) ∧ Kd.R (Kd.int .i64) 3 w6 w1.heap.size (fun _ => True) (.slice A6 E.length c6) (List.replicate E.length 0) ∧ Below w1.heap.size w1 w6 := ⟨_, below_alloc (Below.refl _ _) _, heap_alloc_new _ _, by simpa using HO6.out, HB6.out⟩
  clear HO6 HB6
  obtain ⟨w1, hb1, hbox, ho6, hb6⟩ := X
  have HB1 := Aside0.mk hb1
  have HX1 := Aside0.mk hbox
  have HO6 := Aside0.mk ho6
  have HB6 := Aside0.mk hb6
  have HE1 := Aside0.mk (Kd.C_below HE.out hb1)
  have HF1 := Aside0.mk (Kd.C_below HF.out hb1)
  clear hb1 hbox ho6 hb6 HE HF
  go_loopw [19] (fun v19 wr => ∃ j : Nat, j ≤ E.length ∧ v19 = .int .i64 j ∧ Aside0 (Kd.R (Kd.int .i64) 3 wr w1.heap.size (fun _ => True) (.slice A6 E.length c6) (List.replicate j (-1) ++ List.replicate (E.length - j) 0)) ∧ Aside0 (Below w1.heap.size w1 wr)) (fun i _ => E.length - (intOf i).toNat)
  case atStart => exact ⟨0, Nat.zero_le _, rfl, ⟨by simpa using HO6.out⟩, HB6⟩
  case round =>
    obtain ⟨j, hj, rfl, HO, HB⟩ := hrel
    clear HO6 HB6
    by_cases hlt : j < E.length
    · obtain ⟨g, rfl, hg1, hg2⟩ := R_head HO.out (by omega)
      obtain ⟨hx, hf⟩ := R_cellN 0 HO.out j hlt
      have HS := Aside0.mk (R_putN HO.out j (-1)).1
      have HG := Aside0.mk hg1
      clear hg1 hg2
      go_wp2
      go_roundw
      case rel =>
        refine ⟨j + 1, hlt, by go_num, ⟨?_⟩, ⟨HB.out.setCell HG.out _⟩⟩
        rw [← fill_step _ _ _ _ hlt]
        exact HS.out
      case measure => simp [intOf]; omega
    · obtain rfl : E.length = j := by omega
      obtain ⟨out1, hd1, hd2⟩ : ∃ out1, dFrom (List.replicate E.length (-1)) F = some out1 ∧ dBfs E k out1 F = some r := by
        have h := H.out
        unfold dist at h
        cases hx : dFrom (List.replicate E.length (-1)) F with
        | none => rw [hx] at h; cases h
        | some o => rw [hx] at h; exact ⟨o, rfl, h⟩
      have HD1 := Aside0.mk hd1
      have HD2 := Aside0.mk hd2
      clear hd1 hd2 H
      have HFr := Aside0.mk (Kd.C_below HF1.out HB.out)
      have HFb : Aside0 (F.length * 8 ≤ 140737488355328) := ⟨by omega⟩
      have HO' : Aside0 (Kd.R (Kd.int .i64) 3 wr w1.heap.size (fun _ => True) (.slice A6 E.length c6) (List.replicate E.length (-1))) := ⟨by simpa using HO.out⟩
      clear HO
      go_wp2_with (go_at_call 38; refine (clone_int _ _ _ _ HFr.out HFb.out).mono ?_; rintro e w7 ⟨v7, rfl, ho7, hb7⟩; have e7 := R_shape ho7; obtain ⟨A7, c7, rfl⟩ := e7; have HQ := Aside0.mk (Kd.Q_of_R ho7); have HB7 := Aside0.mk hb7; clear ho7 hb7)
      obtain ⟨B6, hB6⟩ : ∃ B6, B6 = (Value.slice A6 E.length c6).ownBlock := ⟨_, rfl⟩
      have NB6 := Aside0.mk hB6
      clear hB6
      have HO7 : Aside0 (Kd.R (Kd.int .i64) 3 w7 w1.heap.size (fun _ => True) (.slice A6 E.length c6) (List.replicate E.length (-1))) := ⟨Kd.R_below HO'.out HB7.out⟩
      have HQ7 : Aside0 (Kd.Q (Kd.int .i64) 3 w7 w1.heap.size (fun k => some k ≠ B6) (.slice A7 F.length c7) F) := ⟨by
        refine Kd.Q_lower (Kd.Q_mono (Kd.Q_bound HQ.out) (fun k hk he => ?_)) HB.out.size
        obtain ⟨inner, ho⟩ := Kd.R_own HO'.out
        have := own_lt ho k (by rw [← NB6.out]; exact he.symm)
        have := hk.2.1
        omega⟩
      have HB17 : Aside0 (Below w1.heap.size w1 w7) := ⟨below_step HB.out HB7.out⟩
      clear HO' HQ HB HB7 HFr HFb
      go_loopw [9, 30] (fun _ v30 wr => ∃ (j : Nat) (xs : List Int), j ≤ F.length ∧ v30 = .int .i64 j ∧ Aside0 (dFrom xs (F.drop j) = some out1) ∧ Aside0 (Kd.R (Kd.int .i64) 3 wr w1.heap.size (fun _ => True) (.slice A6 E.length c6) xs) ∧ Aside0 (Kd.Q (Kd.int .i64) 3 wr w1.heap.size (fun k => some k ≠ B6) (.slice A7 F.length c7) F) ∧ Aside0 (Below w1.heap.size w1 wr)) (fun _ i _ => F.length - (intOf i).toNat)
      case atStart => exact ⟨0, _, Nat.zero_le _, rfl, HD1, HO7, HQ7, HB17⟩
      case round =>
        obtain ⟨j, xs, hj, rfl, HD, HO, HQ, HB⟩ := hrel
        clear HO7 HQ7 HB17 HD1
        by_cases hlt : j < F.length
        · have hd := HD.out
          rw [drop_cons 0 _ _ hlt] at hd
          simp only [dFrom] at hd
          obtain ⟨x, hx⟩ : ∃ x, x = F.getD j 0 := ⟨_, rfl⟩
          obtain ⟨ad, rfl, hc⟩ := C_cellN 0 HF1.out j hlt
          have hcr := (HB.out.cell (World.block_lt_of_cell? w1 _ hc)).trans hc
          rw [← hx] at hd hcr
          clear hx hc
          by_cases hr : 0 ≤ x ∧ x < (xs.length : Int)
          · rw [if_pos hr] at hd
            have hn : E.length = xs.length := R_len HO.out
            obtain ⟨hr0, hr1⟩ := hr
            rw [← hn] at hr1
            have HN := Aside0.mk hn
            clear hn
            obtain ⟨g, rfl, hg1, hg2⟩ := R_head HO.out (by omega)
            obtain ⟨hx, hf⟩ := Kd.R_celln 0 HO.out x hr0 hr1
            have HS := Aside0.mk (Kd.R_putg HO.out x 0)
            have HG := Aside0.mk hg1
            have HD' := Aside0.mk hd
            clear hg1 hg2 hd
            go_wp2
            go_roundw
            case rel => exact ⟨j + 1, _, hlt, by go_num, HD', ⟨HS.out.1⟩, ⟨Kd.Q_grown HQ.out HS.out.2 (fun k hk => by rw [NB6.out] at hk; exact hk)⟩, ⟨HB.out.setCell HG.out _⟩⟩
            case measure => simp [intOf]; omega
          · rw [if_neg hr] at hd
            cases hd
        · obtain rfl : F.length = j := by omega
          obtain rfl : xs = out1 := by
            have := HD.out
            rw [List.drop_length] at this
            simpa [dFrom] using this
          clear HD
          go_wp2_with fail
          go_loopg [7, 10] k (fun gk v7 _ wr => ∃ (todo out : List Int) (At : Option Addr) (ct : Nat), v7 = .slice At todo.length ct ∧ Aside0 (dBfs E gk out todo = some r) ∧ Aside0 (Kd.R (Kd.int .i64) 3 wr w1.heap.size (fun _ => True) (.slice A6 E.length c6) out) ∧ Aside0 (Kd.Q (Kd.int .i64) 3 wr w1.heap.size (fun k => some k ≠ B6) (.slice At todo.length ct) todo) ∧ Aside0 (Below w1.heap.size w1 wr))
          case atStart => exact ⟨F, xs, A7, c7, rfl, HD2, HO, HQ, HB⟩
          case round =>
            clear HD2 HO HQ HB
            obtain ⟨todo, out, At, ct, rfl, HD, HO, HQ, HB⟩ := hrel
            cases gk with
            | zero => exact absurd HD.out (by simp [dBfs])
            | succ k1 =>
              cases todo with
              | nil =>
                have hr : out = r := by simpa [dBfs] using HD.out
                subst hr
                clear HD HQ
                go_wp2
                go_ret
                exact ⟨_, rfl, Kd.R_lower HO.out HB1.out.size, below_step HB1.out HB.out⟩
              | cons v rest =>
                have hd := HD.out
                clear HD
                simp only [dBfs] at hd
                by_cases hv : 0 ≤ v ∧ v < (E.length : Int)
                · rw [if_pos hv] at hd
                  obtain ⟨hv0, hv1⟩ := hv
                  obtain ⟨p2, hp1, hp2⟩ := Option.bind_eq_some_iff.1 hd
                  obtain ⟨o2, t2⟩ := p2
                  have HP1 := Aside0.mk hp1
                  have HP2 := Aside0.mk hp2
                  clear hd hp1 hp2
                  obtain ⟨tb, tof, rfl, ht0⟩ := Q_head0 HQ.out
                  obtain ⟨i3, hi3, hi3z⟩ := Option.map_eq_some_iff.1 info3
                  simp only [Prod.mk.injEq] at hi3z
                  obtain ⟨A2, c2, hcut, hq2⟩ := Q_tail (P := Try.prog) 33 3 Try.underlying33 hi3 hi3z.2.1 HQ.out
                  have HQ2 := Aside0.mk hq2
                  simp only [List.length_cons] at hcut
                  have hgb := HB1.out.size
                  have hbx : wr.cell? ⟨w.heap.size, 1, none⟩ = some (.slice Ae E.length ce) := by
                    have h0 : w1.cell? ⟨w.heap.size, 1, none⟩ = some (.slice Ae E.length ce) := by rw [blk_cell HX1.out]; rfl
                    exact (HB.out.cell (World.block_lt_of_cell? w1 _ h0)).trans h0
                  obtain ⟨ae, A0, c0, rfl, hc0, hlc0, hC0⟩ := at_L8 HE1.out v hv0 hv1
                  have hcr := (HB.out.cell (World.block_lt_of_cell? w1 _ hc0)).trans hc0
                  obtain ⟨es, hes⟩ : ∃ es, es = rdE E v := ⟨_, rfl⟩
                  have hes' : rd_L8 E v = es := hes.symm
                  have HP1' : Aside0 (dInner v es out rest = some (o2, t2)) := ⟨by rw [hes]; exact HP1.out⟩
                  rw [hes'] at hcr hC0
                  have HES := Aside0.mk hC0
                  have hesl : es.length ≤ 9223372036854775807 := hC0.2.1
                  clear hq2 hi3z hi3 HQ HP1 hc0 hlc0 hC0 hes hes' hgb
                  go_wp2_with fail
                  obtain ⟨wo, rfl⟩ : ∃ wo : World, wo = wr := ⟨_, rfl⟩
                  clear ht0 hbx hcr hcut
                  go_loopw [7, 12, 52] (fun v7 _ v52 wr => ∃ (j : Nat) (xs todo : List Int) (At : Option Addr) (ct : Nat), j ≤ es.length ∧ v52 = .int .i64 j ∧ v7 = .slice At todo.length ct ∧ Aside0 (dInner v (es.drop j) xs todo = some (o2, t2)) ∧ Aside0 (Kd.R (Kd.int .i64) 3 wr w1.heap.size (fun _ => True) (.slice A6 E.length c6) xs) ∧ Aside0 (Kd.Q (Kd.int .i64) 3 wr w1.heap.size (fun k => some k ≠ B6) (.slice At todo.length ct) todo) ∧ Aside0 (Below w1.heap.size w1 wr)) (fun _ _ i _ => es.length - (intOf i).toNat)
                  case atStart => exact ⟨0, out, rest, A2, c2, Nat.zero_le _, rfl, rfl, HP1', HO, HQ2, HB⟩
                  case round =>
                    clear HO HB HQ2 HP1'
                    obtain ⟨j, xs, todo, At, ct, hj, rfl, rfl, HD, HO, HQ, HB⟩ := hrel
                    by_cases hlt : j < es.length
                    · have hd := HD.out
                      clear HD
                      rw [drop_cons z55 _ _ hlt] at hd
                      simp only [dInner] at hd
                      obtain ⟨x, hx⟩ : ∃ x, x = es.getD j z55 := ⟨_, rfl⟩
                      obtain ⟨ad, rfl, hc0, hc1⟩ := C_55N HES.out j hlt
                      have hcr0 := (HB.out.cell (World.block_lt_of_cell? w1 _ hc0)).trans hc0
                      have hcr1 := (HB.out.cell (World.block_lt_of_cell? w1 _ hc1)).trans hc1
                      rw [← hx] at hd hcr0 hcr1
                      clear hx hc0 hc1
                      obtain ⟨x0, x1⟩ := x
                      simp only at hd hcr0 hcr1
                      by_cases hr : 0 ≤ x1 ∧ x1 < (xs.length : Int)
                      · rw [if_pos hr] at hd
                        have hn : E.length = xs.length := R_len HO.out
                        obtain ⟨hr0, hr1⟩ := hr
                        rw [← hn] at hr1
                        have HN := Aside0.mk hn
                        clear hn
                        obtain ⟨g, rfl, hg1, hg2⟩ := R_head HO.out (by omega)
                        obtain ⟨hx, hf⟩ := Kd.R_celln 0 HO.out x1 hr0 hr1
                        obtain ⟨y, hy⟩ : ∃ y, y = rdOf 0 xs x1 := ⟨_, rfl⟩
                        rw [← hy] at hx
                        rw [show rd xs x1 = y from hy.symm] at hd
                        have HG := Aside0.mk hg1
                        have HY := Aside0.mk hy
                        clear hg1 hy
                        by_cases hy0 : y < 0
                        · rw [if_pos hy0] at hd
                          by_cases hz : 0 ≤ v ∧ v < (xs.length : Int) ∧ todo.length < 1000000
                          · rw [if_pos hz] at hd
                            have hzl := hz.2.2
                            obtain ⟨hxv, hfv⟩ := Kd.R_celln 0 HO.out v hv0 hv1
                            obtain ⟨z, hz0⟩ : ∃ z, z = rdOf 0 xs v := ⟨_, rfl⟩
                            rw [← hz0] at hxv
                            rw [show rd xs v = z from hz0.symm] at hd
                            have HD := Aside0.mk hd
                            clear hd hz hz0 hfv
                            go_wp2
                            go_region
                            obtain ⟨W, hW, hO, hQ, hB, hc, hsz⟩ : ∃ W : World, ((wr.setCell ⟨g, x1.toNat, none⟩ (.int .i64 (wrap64 (z + 1)))).alloc (.cells #[.int .i64 x0, .int .i64 x1] 55)).drew = W ∧
                                Kd.R (Kd.int .i64) 3 W w1.heap.size (fun _ => True) (.slice (some ⟨g, 0, none⟩) E.length c6) (xs.set x1.toNat (wrap64 (z + 1))) ∧
                                Kd.Q (Kd.int .i64) 3 W w1.heap.size (fun k => some k ≠ B6) (.slice At todo.length ct) todo ∧ Below w1.heap.size w1 W ∧ W.cell? ⟨wr.heap.size, 1, none⟩ = some (.int .i64 x1) ∧ g < W.heap.size := by
                              have hp := Kd.R_putg HO.out x1 (wrap64 (z + 1))
                              refine ⟨_, rfl, Kd.R_drew (Kd.R_alloc hp.1 _), Kd.Q_drew (Kd.Q_alloc (Kd.Q_grown HQ.out hp.2 (fun k hk => by rw [NB6.out] at hk; exact hk)) _), ((HB.out.setCell HG.out _).alloc (by have := HB.out.size; simp; omega) _).drew, ?_, by simp; omega⟩
                              have h0 : (wr.setCell ⟨g, x1.toNat, none⟩ (.int .i64 (wrap64 (z + 1)))).heap.size = wr.heap.size := by simp
                              have h1 := World.cell?_alloc_new (wr.setCell ⟨g, x1.toNat, none⟩ (.int .i64 (wrap64 (z + 1)))) #[.int .i64 x0, .int .i64 x1] 55 1
                              rw [h0] at h1
                              exact h1
                            rw [hW]
                            have XO := Aside0.mk hO
                            have XQ := Aside0.mk hQ
                            have XB := Aside0.mk hB
                            clear hW hO hQ hB HO HQ HB hx hf hxv hcr0 hcr1
                            go_wp2_with (at_builtin; refine Kd.Q_append (Kd.int .i64) w1.heap.size rfl (.tmp 71) (.tmp 74) 33 3 (.int .i64 0) 8 rfl Try.underlying33 info3 rfl (by decide) (by decide) _ todo x1 [.int .i64 x1] (fun k => some k ≠ B6) (fun _ => False) rfl rfl rfl (fun _ h => h.elim) (fun k hk => by rw [NB6.out]; simp [Value.ownBlock]; omega) XQ.out XB.out XB.out.size (by omega) ?_; intro v1 w2 hq hb hg hz; have hO2 := R_flat rfl XO.out hg (fun k hk => (fun he => XQ.out.1 k he.symm (by rw [NB6.out]; exact hk.symm))); obtain ⟨A1, c1, rfl, _⟩ := Kd.Q_slice hq; have YQ := Aside0.mk hq; have YB := Aside0.mk hb; have YO := Aside0.mk hO2; clear hq hb hO2 hg hz XO XQ XB hc)
            
                            go_roundw
                            case rel => exact ⟨j + 1, _, todo ++ [x1], A1, c1, hlt, by go_num, by simp, HD, YO, YQ, YB⟩
                            case measure => simp [intOf]; omega
                          · rw [if_neg hz] at hd
                            cases hd
                        · rw [if_neg hy0] at hd
                          have HD := Aside0.mk hd
                          clear hd
                          have hO := Kd.R_alloc HO.out (.cells #[.int .i64 x0, .int .i64 x1] 55)
                          have hQ := Kd.Q_alloc HQ.out (.cells #[.int .i64 x0, .int .i64 x1] 55)
                          have hB := HB.out.alloc HB.out.size (.cells #[.int .i64 x0, .int .i64 x1] 55)
                          have XO := Aside0.mk hO
                          have XQ := Aside0.mk hQ
                          have XB := Aside0.mk hB
                          clear hO hQ hB HO HQ HB
                          go_wp2
                          go_roundw
                          case rel => exact ⟨j + 1, _, todo, At, ct, hlt, by go_num, rfl, HD, XO, XQ, XB⟩
                          case measure => simp [intOf]; omega
                      · rw [if_neg hr] at hd
                        cases hd
                    · obtain rfl : es.length = j := by omega
                      have hd := HD.out
                      rw [List.drop_length] at hd
                      simp only [dInner, Option.some.injEq, Prod.mk.injEq] at hd
                      obtain ⟨rfl, rfl⟩ := hd
                      clear HD
                      go_wp2_with fail
                      go_roundg k1
                      case rel => exact ⟨todo, xs, At, ct, rfl, HP2, HO, HQ, HB⟩
                      case measure => omega
                · rw [if_neg hv] at hd
                  cases hd
end Go.Proofs.Ytjbafigageingaa
