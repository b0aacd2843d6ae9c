import Derived.Test.YtjbafigageingaaKsM2
import Derived.Outline
namespace Go.Proofs.Ytjbafigageingaa
open Go.RowKit Go.Maps Go.Proofs.YtjbafigageingaaW.PrintWords Go.Proofs.YtjbafigageingaaW.PrintLast Go.Proofs.YtjbafigageingaaW.PrintMore
set_option linter.unusedVariables false
set_option linter.unusedSimpArgs false

theorem dFrom_length : ∀ (F out r : List Int), dFrom out F = some r → r.length = out.length
 | [], out, r, h => by simp only [dFrom, Option.some.injEq] at h; rw [h]
 | v :: vs, out, r, h => by
  simp only [dFrom] at h
  split at h
  · rw [dFrom_length vs _ r h, List.length_set]
  · cases h
theorem dInner_length (v : Int) : ∀ (es : List S55) (out todo o2 t2 : List Int), dInner v es out todo = some (o2, t2) → o2.length = out.length
 | [], out, todo, o2, t2, h => by simp only [dInner, Option.some.injEq, Prod.mk.injEq] at h; rw [h.1]
 | e :: es, out, todo, o2, t2, h => by
  simp only [dInner] at h
  split at h
  ·
   split at h
   ·
    split at h
    · rw [dInner_length v es _ _ o2 t2 h, List.length_set]
    · cases h
   · exact dInner_length v es _ _ o2 t2 h
  · cases h
theorem dBfs_length (E : List (List S55)) : ∀ (k : Nat) (out todo r : List Int), dBfs E k out todo = some r → r.length = out.length
 | 0, _, _, _, h => by simp [dBfs] at h
 | k + 1, out, [], r, h => by simp only [dBfs, Option.some.injEq] at h; rw [h]
 | k + 1, out, v :: rest, r, h => by
  simp only [dBfs] at h
  split at h
  ·
   obtain ⟨p, hp, h⟩ := Option.bind_eq_some_iff.1 h
   rw [dBfs_length E k _ _ r h, dInner_length v _ _ _ p.1 p.2 hp]
  · cases h
theorem dist_length {E : List (List S55)} {F : List Int} {k : Nat} {r : List Int} (h : dist E F k = some r) : r.length = E.length := by
 unfold dist at h
 obtain ⟨out, h1, h2⟩ := Option.bind_eq_some_iff.1 h
 rw [dBfs_length E k out F r h2, dFrom_length F _ out h1, List.length_replicate]
theorem C_one (W : World) (x : Int) : Kd.C (Kd.int .i64) (W.alloc (.cells #[.int .i64 x] 3)) (some ⟨W.heap.size, 0, none⟩) 1 [x] := by
 refine ⟨rfl, by omega, fun _ => ⟨_, rfl, fun j p hj => ?_⟩⟩
 match j, hj with
 | 0, hj =>
  simp at hj
  subst hj
  refine ⟨[.int .i64 x], rfl, rfl, fun i u hu => ?_⟩
  match i, hu with
  | 0, hu =>
   simp at hu
   subst hu
   simp [Kd.int, Kd.scalar, Addr.add]

theorem R_one (W : World) (x : Int) : Kd.R (Kd.int .i64) 3 (W.alloc (.cells #[.int .i64 x] 3)) W.heap.size (fun _ => True) (.slice (some ⟨W.heap.size, 0, none⟩) 1 1) [x] :=
 ⟨fun _ _ => trivial, [.int .i64 x], (by have h := World.ownsRow_lit (base := W.heap.size) (e := 3) (size := 1) W #[.int .i64 x] 1 (Nat.le_refl _) (by simp [maxLen]) (by simp); exact h), (Reps.none _ _).snoc (ps := []) (cs := []) rfl rfl⟩
theorem chain_open {E : List (List S55)} {L : List S36} {M : Int → List Int} {k : Nat} {i : Int} {r : Option (List Int)} (h : chainF E L M k i = some r) :
  0 ≤ i ∧ i < (L.length : Int) ∧ ∃ far best ts, dist E [(rd_T36 L i).f1] k = some far ∧ tgtF L M far i E.length 0 (-1) [] = some (best, ts) ∧
   (if best < 0 then some none
   else (dist E ts k).bind fun left => (wayF E left k [i] (rd_T36 L i).f1).bind fun ov =>
    if 0 ≤ ov.2 ∧ ov.2 < (E.length : Int) then (otherF L i (M ov.2)).bind fun jb => some (some (ov.1 ++ [jb.1])) else none) = some r := by
 unfold chainF at h
 by_cases hi : 0 ≤ i ∧ i < (L.length : Int)
 case neg => rw [if_neg hi] at h; cases h
 rw [if_pos hi] at h
 obtain ⟨far, hfar, h⟩ := Option.bind_eq_some_iff.1 h
 obtain ⟨⟨best, ts⟩, htgt, h⟩ := Option.bind_eq_some_iff.1 h
 exact ⟨hi.1, hi.2, far, best, ts, hfar, htgt, h⟩

def ChainPost (w : World) (r : Option (List Int)) (e : Ending) (w' : World) : Prop :=
 (r = none ∧ e = .returned (.tuple #[.slice none 0 0, .bool false])) ∨
 ∃ c A cap, r = some c ∧ e = .returned (.tuple #[.slice (some A) c.length cap, .bool true]) ∧ Kd.R (Kd.int .i64) 3 w' w.heap.size (fun _ => True) (.slice (some A) c.length cap) c
set_option maxRecDepth 100000 in
set_option maxHeartbeats 1000000 in
theorem chain_calls (k : Nat) (Al : Option Addr) (cl : Nat) (L : List S36) (Ae : Option Addr) (ce : Nat) (E : List (List S55)) (mb : Nat) (M : Int → List Int) (i : Int) (r : Option (List Int)) (w : World)
  (hL : Kd.C k36 w Al L.length L) (hE : Kd.C (Kd.slice 55 k55) w Ae E.length E) (hM : MarksAt w mb E.length M) (hN : E.length ≤ 4096) (h : chainF E L M k i = some r) :
  Calls Try.prog 30 #[.agg #[.slice Al L.length cl, .slice Ae E.length ce, .map (some mb)], .int .i64 i] w fun e w' => ChainPost w r e w' ∧ Below w.heap.size w w' := by
 obtain ⟨hi0, hi1, far, best, ts, hfar, htgt, hrest⟩ := chain_open h
 clear h
 have hfl := dist_length hfar
 have HL := Aside0.mk hL
 have HE := Aside0.mk hE
 have HM := Aside0.mk hM
 have HF := Aside0.mk hfar
 have HT := Aside0.mk htgt
 have HFL := Aside0.mk hfl
 have H := Aside0.mk hrest
 clear hL hE hM hfar htgt hrest hfl
 obtain ⟨st, hst⟩ : ∃ st, st = (rd_T36 L i).f1 := ⟨_, rfl⟩
 obtain ⟨al, rfl, _, hl1, _⟩ := at_T36 HL.out i hi0 hi1
 rw [← hst] at hl1
 have HST := Aside0.mk hst
 clear hst
 go_enter Try.func30, Try.ntmps30
 go_upto_region 1 with (fail)
 obtain ⟨w1, hW, hb1, x0, x1, x2⟩ : ∃ w1 : World, w.alloc (.cells #[.slice (some al) L.length cl, .slice Ae E.length ce, .map (some mb)] 52) = w1 ∧ Below w.heap.size w w1 ∧ w1.cell? ⟨w.heap.size, 0, none⟩ = some (.slice (some al) L.length cl) ∧ w1.cell? ⟨w.heap.size, 1, none⟩ = some (.slice Ae E.length ce) ∧ w1.cell? ⟨w.heap.size, 2, none⟩ = some (.map (some mb)) :=
  ⟨_, rfl, below_alloc (Below.refl w.heap.size w) _, by simp, by simp, by simp⟩
 rw [hW]
 have HB1 := Aside0.mk hb1
 have HL1 := Aside0.mk (Kd.C_below HL.out hb1)
 have HE1 := Aside0.mk (Kd.C_below HE.out hb1)
 have HM1 := Aside0.mk (HM.out.below hb1)
 replace hl1 := pw_cell_below hb1 hl1
 clear hW hb1 HL HE HM
 have hx0 := x0
 have hx1 := x1
 have hx2 := x2
 have X0 := Aside0.mk hx0
 have X1 := Aside0.mk hx1
 have X2 := Aside0.mk hx2
 clear hx0 hx1 hx2
 have HF' : Aside0 (dist E [st] k = some far) := ⟨by rw [HST.out]; exact HF.out⟩
 clear HF
 go_wp2_with (go_at_call 28; refine (dist_calls k _ _ _ _ _ _ _ _ far _ ⟨_, _, _, rfl⟩ ⟨_, rfl⟩ (Kd.C_below HE1.out (below_alloc (Below.refl _ _) _)) (C_one _ _) hN (by simp) HF'.out).mono ?_; rintro e w2 ⟨v2, rfl, hr2, hb2⟩; obtain ⟨A2, c2, rfl, _, hC2⟩ := Kd.R_reads hr2; have HC2 := Aside0.mk hC2; have hb12 := below_step (below_alloc (Below.refl _ _) _) hb2; replace x0 := pw_cell_below hb12 x0; replace x1 := pw_cell_below hb12 x1; replace x2 := pw_cell_below hb12 x2; have HB12 := Aside0.mk hb12; clear hr2 hb2 hC2 hb12 hl1)
 have HL2 := Aside0.mk (Kd.C_below HL1.out HB12.out)
 have HE2 := Aside0.mk (Kd.C_below HE1.out HB12.out)
 have HM2 := Aside0.mk (HM1.out.below HB12.out)
 have HB2 := Aside0.mk (below_step HB1.out HB12.out)
 have X0 := Aside0.mk x0
 have X1 := Aside0.mk x1
 have X2 := Aside0.mk x2
 clear HL1 HE1 HM1 HB1 HB12 HF'
 go_loopw [8, 9, 34] (fun v8 v9 v34 wr => ∃ (n : Nat) (bn : Int) (tn : List Int), n ≤ E.length ∧ v34 = .int .i64 n ∧ v9 = .int .i64 bn ∧ Aside0 (tgtF L M far i (E.length - n) n bn tn = some (best, ts)) ∧ Aside0 (tn.length ≤ n) ∧ Aside0 (Kd.R (Kd.int .i64) 3 wr w2.heap.size (fun _ => True) v8 tn) ∧ Aside0 (Below w2.heap.size w2 wr)) (fun _ _ i _ => E.length - (intOf i).toNat)
 case atStart => exact ⟨0, -1, [], Nat.zero_le _, rfl, rfl, by simpa using HT, ⟨Nat.le_refl _⟩, ⟨Kd.R_nil _ _ _ _ _⟩, ⟨Below.refl _ _⟩⟩
 case round =>
  obtain ⟨n, bn, tn, hn, rfl, rfl, HD, HTL, HO, HB⟩ := hrel
  obtain ⟨At, ct, rfl⟩ := R_shape HO.out
  clear HT
  by_cases hlt : n < E.length
  ·
   have hd := HD.out
   clear HD
   obtain ⟨d, hdd⟩ : ∃ d, E.length - n = d + 1 := ⟨E.length - n - 1, by omega⟩
   have hdn : E.length - (n + 1) = d := by omega
   rw [hdd] at hd
   simp only [tgtF] at hd
   rw [← hdn] at hd
   clear hdd hdn
   have hnf : n < far.length := by rw [HFL.out]; exact hlt
   obtain ⟨af, rfl, hcf⟩ := C_cellN 0 HC2.out n hnf
   obtain ⟨y, hy⟩ : ∃ y, y = far.getD n 0 := ⟨_, rfl⟩
   have hcr := pw_cell_below HB.out hcf
   rw [← hy] at hcr
   rw [show rd far (n : Int) = y from by rw [hy]; rfl] at hd
   have bx0 := pw_cell_below HB.out X0.out
   have bx1 := pw_cell_below HB.out X1.out
   have bx2 := pw_cell_below HB.out X2.out
   clear hcf hy x0 x1 x2
   by_cases h1 : y < 0
   ·
    rw [if_pos h1] at hd
    have HD := Aside0.mk hd
    clear hd
    go_wp2
    go_roundw
    case rel => exact ⟨n + 1, bn, tn, hlt, by go_num, rfl, HD, ⟨Nat.le_succ_of_le HTL.out⟩, HO, HB⟩
    case measure => (simp [intOf] <;> omega)
   ·
    rw [if_neg h1] at hd
    by_cases h2 : 0 ≤ bn ∧ bn < y
    ·
     rw [if_pos h2] at hd
     obtain ⟨h2a, h2b⟩ := h2
     have HD := Aside0.mk hd
     clear hd
     go_wp2
     go_roundw
     case rel => exact ⟨n + 1, bn, tn, hlt, by go_num, rfl, HD, ⟨Nat.le_succ_of_le HTL.out⟩, HO, HB⟩
     case measure => (simp [intOf] <;> omega)
    ·
     rw [if_neg h2] at hd
     obtain ⟨⟨j, ok⟩, ho, hd2⟩ := Option.bind_eq_some_iff.1 hd
     have HOT := Aside0.mk ho
     have HD := Aside0.mk hd2
     have hc2 : bn < 0 ∨ y ≤ bn := by omega
     clear hd ho hd2 h2
     cases ok with
     | false =>
      have hd := HD.out
      simp only [Bool.false_eq_true, if_false] at hd
      replace HD := Aside0.mk hd
      clear hd
      rcases hc2 with hc2 | hc2
      ·
       go_wp2_with (go_at_call 41; refine (other_calls _ _ _ _ _ _ M i (n : Int) j false _ ⟨_, _, _, rfl⟩ (Kd.C_below HL2.out HB.out) (HM2.out.below HB.out) hN (by omega) (by omega) HOT.out).mono ?_; rintro e w3 ⟨rfl, hb3⟩; replace bx0 := pw_cell_below hb3 bx0; replace bx1 := pw_cell_below hb3 bx1; replace bx2 := pw_cell_below hb3 bx2; replace hcr := pw_cell_below hb3 hcr; have HO3 := Aside0.mk (Kd.R_below HO.out hb3); have HB3 := Aside0.mk (below_step HB.out hb3); clear hb3 HO HB)
       go_roundw
       case rel => exact ⟨n + 1, bn, tn, hlt, by go_num, rfl, HD, ⟨Nat.le_succ_of_le HTL.out⟩, HO3, HB3⟩
       case measure => (simp [intOf] <;> omega)
      ·
       by_cases hc3 : bn < 0
       · exact absurd hc3 (by omega)
       ·
        go_wp2_with (go_at_call 41; refine (other_calls _ _ _ _ _ _ M i (n : Int) j false _ ⟨_, _, _, rfl⟩ (Kd.C_below HL2.out HB.out) (HM2.out.below HB.out) hN (by omega) (by omega) HOT.out).mono ?_; rintro e w3 ⟨rfl, hb3⟩; replace bx0 := pw_cell_below hb3 bx0; replace bx1 := pw_cell_below hb3 bx1; replace bx2 := pw_cell_below hb3 bx2; replace hcr := pw_cell_below hb3 hcr; have HO3 := Aside0.mk (Kd.R_below HO.out hb3); have HB3 := Aside0.mk (below_step HB.out hb3); clear hb3 HO HB)
        go_roundw
        case rel => exact ⟨n + 1, bn, tn, hlt, by go_num, rfl, HD, ⟨Nat.le_succ_of_le HTL.out⟩, HO3, HB3⟩
        case measure => (simp [intOf] <;> omega)
     | true =>
      have hd := HD.out
      simp only [if_true] at hd
      clear HD
      by_cases hc3 : bn < 0
      ·
       rw [if_pos (Or.inl hc3)] at hd
       have HD := Aside0.mk hd
       clear hd hc2
       go_wp2_with (first | (go_at_call 41; refine (other_calls _ _ _ _ _ _ M i (n : Int) j true _ ⟨_, _, _, rfl⟩ (Kd.C_below HL2.out HB.out) (HM2.out.below HB.out) hN (by omega) (by omega) HOT.out).mono ?_; rintro e w3 ⟨rfl, hb3⟩; replace bx0 := pw_cell_below hb3 bx0; replace bx1 := pw_cell_below hb3 bx1; replace bx2 := pw_cell_below hb3 bx2; replace hcr := pw_cell_below hb3 hcr; have HO3 := Aside0.mk (Kd.R_below HO.out hb3); have HB3 := Aside0.mk (below_step HB.out hb3); clear hb3 HO HB) | (at_builtin; refine Kd.R_append (Kd.int .i64) w2.heap.size rfl (.tmp 77) (.tmp 79) 33 3 (.int .i64 0) 8 rfl Try.underlying33 info3 rfl (by decide) (by decide) _ [] (n : Int) [.int .i64 n] (fun _ => True) (fun _ => False) rfl rfl rfl (fun _ h => h.elim) (fun _ _ => trivial) (Kd.R_nil _ _ _ _ _) HB3.out HB3.out.size (by first | omega | (simp; omega) | simp) ?_; intro v4 w4 ho4 hb4 hz1 hz2; clear hz1 hz2; have HO4 := Aside0.mk ho4; have HB4 := Aside0.mk hb4; clear ho4 hb4 HO3 HB3))
       go_roundw
       case rel => exact ⟨n + 1, y, [(n : Int)], hlt, by go_num, rfl, HD, ⟨by simp⟩, HO4, HB4⟩
       case measure => (simp [intOf] <;> omega)
      ·
       have hc4 : y ≤ bn := by omega
       clear hc2
       by_cases hc5 : y < bn
       ·
        rw [if_pos (Or.inr hc5)] at hd
        have HD := Aside0.mk hd
        clear hd
        go_wp2_with (first | (go_at_call 41; refine (other_calls _ _ _ _ _ _ M i (n : Int) j true _ ⟨_, _, _, rfl⟩ (Kd.C_below HL2.out HB.out) (HM2.out.below HB.out) hN (by omega) (by omega) HOT.out).mono ?_; rintro e w3 ⟨rfl, hb3⟩; replace bx0 := pw_cell_below hb3 bx0; replace bx1 := pw_cell_below hb3 bx1; replace bx2 := pw_cell_below hb3 bx2; replace hcr := pw_cell_below hb3 hcr; have HO3 := Aside0.mk (Kd.R_below HO.out hb3); have HB3 := Aside0.mk (below_step HB.out hb3); clear hb3 HO HB) | (at_builtin; refine Kd.R_append (Kd.int .i64) w2.heap.size rfl (.tmp 77) (.tmp 79) 33 3 (.int .i64 0) 8 rfl Try.underlying33 info3 rfl (by decide) (by decide) _ [] (n : Int) [.int .i64 n] (fun _ => True) (fun _ => False) rfl rfl rfl (fun _ h => h.elim) (fun _ _ => trivial) (Kd.R_nil _ _ _ _ _) HB3.out HB3.out.size (by first | omega | (simp; omega) | simp) ?_; intro v4 w4 ho4 hb4 hz1 hz2; clear hz1 hz2; have HO4 := Aside0.mk ho4; have HB4 := Aside0.mk hb4; clear ho4 hb4 HO3 HB3))
        go_roundw
        case rel => exact ⟨n + 1, y, [(n : Int)], hlt, by go_num, rfl, HD, ⟨by simp⟩, HO4, HB4⟩
        case measure => (simp [intOf] <;> omega)
       ·
        rw [if_neg (by omega)] at hd
        have HD := Aside0.mk hd
        clear hd
        have htl := HTL.out
        go_wp2_with (first | (go_at_call 41; refine (other_calls _ _ _ _ _ _ M i (n : Int) j true _ ⟨_, _, _, rfl⟩ (Kd.C_below HL2.out HB.out) (HM2.out.below HB.out) hN (by omega) (by omega) HOT.out).mono ?_; rintro e w3 ⟨rfl, hb3⟩; replace bx0 := pw_cell_below hb3 bx0; replace bx1 := pw_cell_below hb3 bx1; replace bx2 := pw_cell_below hb3 bx2; replace hcr := pw_cell_below hb3 hcr; have HO3 := Aside0.mk (Kd.R_below HO.out hb3); have HB3 := Aside0.mk (below_step HB.out hb3); clear hb3 HO HB) | (at_builtin; refine Kd.R_append (Kd.int .i64) w2.heap.size rfl (.tmp 77) (.tmp 79) 33 3 (.int .i64 0) 8 rfl Try.underlying33 info3 rfl (by decide) (by decide) _ tn (n : Int) [.int .i64 n] (fun _ => True) (fun _ => False) rfl rfl rfl (fun _ h => h.elim) (fun _ _ => trivial) HO3.out HB3.out HB3.out.size (by first | omega | (simp; omega) | simp) ?_; intro v4 w4 ho4 hb4 hz1 hz2; clear hz1 hz2; have HO4 := Aside0.mk ho4; have HB4 := Aside0.mk hb4; clear ho4 hb4 HO3 HB3))
        go_roundw
        case rel => exact ⟨n + 1, bn, tn ++ [(n : Int)], hlt, by go_num, rfl, HD, ⟨by simp; omega⟩, HO4, HB4⟩
        case measure => (simp [intOf] <;> omega)
  ·
   obtain rfl : E.length = n := by omega
   have hd := HD.out
   simp only [Nat.sub_self, tgtF, Option.some.injEq, Prod.mk.injEq] at hd
   obtain ⟨rfl, rfl⟩ := hd
   have bx0 := pw_cell_below HB.out X0.out
   have bx1 := pw_cell_below HB.out X1.out
   have bx2 := pw_cell_below HB.out X2.out
   clear HD HFL x0 x1 x2
   by_cases hbest : bn < 0
   ·
    have h := H.out
    rw [if_pos hbest] at h
    injection h with h
    subst h
    go_wp2
    go_ret2
    exact ⟨.inl ⟨rfl, rfl⟩, below_step HB2.out HB.out⟩
   ·
    have h := H.out
    rw [if_neg hbest] at h
    obtain ⟨left, hleft, h1⟩ := Option.bind_eq_some_iff.1 h
    obtain ⟨⟨out, vv⟩, hway, h2⟩ := Option.bind_eq_some_iff.1 h1
    have HLF := Aside0.mk hleft
    have HWY := Aside0.mk hway
    have H2 := Aside0.mk h2
    have HLL := Aside0.mk (dist_length hleft)
    obtain ⟨At', ct', e1, _, hCt⟩ := Kd.R_reads HO.out
    have HCT : Aside0 (Kd.C (Kd.int .i64) wr At tn.length tn) := ⟨by injection e1 with e1 _ _; rw [e1]; exact hCt⟩
    have hbest' : 0 ≤ bn := by omega
    clear h h1 h2 hleft hway H e1 hCt
    go_wp2_with (go_at_call 28; refine (dist_calls k _ _ _ E _ _ _ tn left _ ⟨_, _, _, rfl⟩ ⟨_, rfl⟩ (Kd.C_below HE2.out HB.out) HCT.out hN (by have := HTL.out; omega) HLF.out).mono ?_; rintro e w5 ⟨v5, rfl, hr5, hb5⟩; obtain ⟨A5, c5, rfl, _, hC5⟩ := Kd.R_reads hr5; have HC5 := Aside0.mk hC5; replace bx0 := pw_cell_below hb5 bx0; replace bx1 := pw_cell_below hb5 bx1; replace bx2 := pw_cell_below hb5 bx2; have HB25 := Aside0.mk (below_step HB.out hb5); clear hr5 hb5 hC5)
    have HE5 := Aside0.mk (Kd.C_below HE2.out HB25.out)
    have HL5 := Aside0.mk (Kd.C_below HL2.out HB25.out)
    have HM5 := Aside0.mk (HM2.out.below HB25.out)
    have HB5 := Aside0.mk (below_step HB2.out HB25.out)
    have HO5 : Aside0 (Kd.R (Kd.int .i64) 3 (w5.alloc (.cells #[.int .i64 i] 3)) w5.heap.size (fun _ => True) (.slice (some ⟨w5.heap.size, 0, none⟩) 1 1) [i]) :=
     ⟨R_one w5 i⟩
    have Y0 := Aside0.mk bx0
    have Y1 := Aside0.mk bx1
    have Y2 := Aside0.mk bx2
    clear HE2 HL2 HM2 HB2 HB25 HO HB HCT HLF X0 X1 X2 bx0 bx1 bx2
    have HWY' : Aside0 (wayF E left k [i] st = some (out, vv)) := ⟨by rw [HST.out]; exact HWY.out⟩
    clear HWY
    go_loopg [14, 15] k (fun gk v14 v15 wr => ∃ (o1 : List Int) (v1 : Int) (A1 : Option Addr) (c1 : Nat), v14 = .slice A1 o1.length c1 ∧ v15 = .int .i64 v1 ∧ Aside0 (wayF E left gk o1 v1 = some (out, vv)) ∧ Aside0 (0 < o1.length ∧ o1.length ≤ 1000000) ∧ Aside0 (Kd.R (Kd.int .i64) 3 wr w5.heap.size (fun _ => True) (.slice A1 o1.length c1) o1) ∧ Aside0 (Below w5.heap.size w5 wr))
    case atStart => exact ⟨[i], st, _, _, rfl, rfl, HWY', ⟨by simp⟩, HO5, ⟨below_alloc (Below.refl _ _) _⟩⟩
    case round =>
     obtain ⟨o1, v1, A1, c1, rfl, rfl, HD, HP, HO, HB⟩ := hrel
     clear HO5 HWY'
     have by0 := pw_cell_below HB.out Y0.out
     have by1 := pw_cell_below HB.out Y1.out
     have by2 := pw_cell_below HB.out Y2.out
     cases gk with
     | zero => exact absurd HD.out (by simp [wayF])
     | succ k1 =>
      have hd := HD.out
      clear HD
      simp only [wayF] at hd
      by_cases hv : 0 ≤ v1 ∧ v1 < (left.length : Int)
      ·
       rw [if_pos hv] at hd
       obtain ⟨hv0, hv1⟩ := hv
       obtain ⟨al5, c, rfl, hK5, hc5⟩ : ∃ ad c, A5 = some ad ∧ c = rd left v1 ∧ w5.cell? (ad.add v1.toNat) = some (.int .i64 c) := by
        obtain ⟨ad, e, hc⟩ := C_cellN 0 HC5.out v1.toNat (by omega)
        exact ⟨ad, _, e, rfl, hc⟩
       have Y5 := Aside0.mk hc5
       replace hc5 := pw_cell_below HB.out hc5
       rw [← hK5] at hd
       clear hK5
       by_cases hpos : 0 < c
       ·
        rw [if_pos hpos] at hd
        by_cases hE : v1 < (E.length : Int) ∧ o1.length < 1000000
        case neg => rw [if_neg hE] at hd; cases hd
        rw [if_pos hE] at hd
        obtain ⟨hE1, hE2⟩ := hE
        obtain ⟨⟨n0, n1⟩, hnx, hwy⟩ := Option.bind_eq_some_iff.1 hd
        clear hd
        have HWY := Aside0.mk hwy
        obtain ⟨ae, A6, c6, rfl, hc6, _, hC6⟩ := at_L8 HE5.out v1 hv0 hE1
        obtain ⟨es, hes⟩ : ∃ es, es = rdE E v1 := ⟨_, rfl⟩
        rw [show rd_L8 E v1 = es from hes.symm] at hc6 hC6
        rw [← hes] at hnx
        have hesl : es.length ≤ 9223372036854775807 := hC6.2.1
        have HES := Aside0.mk hC6
        have HNX := Aside0.mk hnx
        replace hc6 := pw_cell_below HB.out hc6
        clear hC6 hnx hwy hes
        go_upto_region 22 with (fail)
        obtain ⟨W, hW, hbW⟩ : ∃ W : World, wr.alloc (.cells #[.int .i64 (-1), .int .i64 0] 55) = W ∧ Below wr.heap.size wr W := ⟨_, rfl, below_alloc (Below.refl _ _) _⟩
        have hNB : W.heap[wr.heap.size]? = some (.cells #[.int .i64 (-1), .int .i64 0] 55 (0, 0)) := by rw [← hW]; exact heap_alloc_new _ _
        rw [hW]
        clear hW
        replace by0 := pw_cell_below hbW by0
        replace by1 := pw_cell_below hbW by1
        replace by2 := pw_cell_below hbW by2
        replace hc5 := pw_cell_below hbW hc5
        replace hc6 := pw_cell_below hbW hc6
        have HOW := Aside0.mk (Kd.R_below HO.out hbW)
        have HBW := Aside0.mk (below_step HB.out hbW)
        have hnb5 : w5.heap.size ≤ wr.heap.size := HB.out.size
        obtain ⟨nb, hnb⟩ : ∃ nb, nb = wr.heap.size := ⟨_, rfl⟩
        rw [← hnb] at hNB hnb5 ⊢
        have HNB := Aside0.mk hNB
        have HN5 := Aside0.mk hnb5
        clear hbW HO HB hNB hnb5
        clear hnb
        go_wp2_with fail
        clear by0 by1 by2 hc6
        obtain ⟨wo, hwo⟩ : ∃ wo : World, wo = W := ⟨_, rfl⟩
        subst hwo
        go_loopw [18, 102] (fun _ v102 wr => ∃ (j : Nat) (m0 m1 : Int), j ≤ es.length ∧ v102 = .int .i64 j ∧ Aside0 (nextE left c (es.drop j) ⟨m0, m1⟩ = some ⟨n0, n1⟩) ∧ Aside0 (wr.heap[nb]? = some (.cells #[.int .i64 m0, .int .i64 m1] 55 (0, 0))) ∧ Aside0 (Kd.R (Kd.int .i64) 3 wr w5.heap.size (fun _ => True) (.slice A1 o1.length c1) o1) ∧ Aside0 (Below w5.heap.size w5 wr)) (fun _ i _ => es.length - (intOf i).toNat)
        case atStart => exact ⟨0, -1, 0, Nat.zero_le _, rfl, HNX, HNB, HOW, HBW⟩
        case round =>
         obtain ⟨j, m0, m1, hj, rfl, HD, HN, HO, HB⟩ := hrel
         clear HNX HNB HOW HBW
         by_cases hlt : j < es.length
         ·
          have hd := HD.out
          clear HD
          rw [drop_cons z55 _ _ hlt] at hd
          simp only [nextE] at hd
          obtain ⟨x, hx⟩ : ∃ x, x = es.getD j z55 := ⟨_, rfl⟩
          obtain ⟨ad, rfl, hc0, hc1⟩ := C_55N HES.out j hlt
          replace hc0 := pw_cell_below HB.out hc0
          replace hc1 := pw_cell_below HB.out hc1
          rw [← hx] at hd hc0 hc1
          clear hx
          obtain ⟨x0, x1⟩ := x
          simp only at hd hc0 hc1
          by_cases hr : 0 ≤ x1 ∧ x1 < (left.length : Int)
          case neg => rw [if_neg hr] at hd; cases hd
          rw [if_pos hr] at hd
          obtain ⟨hr0, hr1⟩ := hr
          obtain ⟨y, hK, hcy⟩ : ∃ y, y = rd left x1 ∧ w5.cell? (al5.add x1.toNat) = some (.int .i64 y) := by
           obtain ⟨ad, e, hc⟩ := C_cellN 0 HC5.out x1.toNat (by omega)
           injection e with e
           subst e
           exact ⟨_, rfl, hc⟩
          rw [← hK] at hd
          obtain ⟨c5v, hc5v⟩ : ∃ u : World, u = wr := ⟨_, rfl⟩
          replace hcy := pw_cell_below HB.out hcy
          have hcv := pw_cell_below HB.out Y5.out
          clear hK hc5v
          go_upto_region 25 with (fail)
          obtain ⟨W, hW, hbW⟩ : ∃ W : World, wr.alloc (.cells #[.int .i64 x0, .int .i64 x1] 55) = W ∧ Below wr.heap.size wr W := ⟨_, rfl, below_alloc (Below.refl _ _) _⟩
          have hEB : W.heap[wr.heap.size]? = some (.cells #[.int .i64 x0, .int .i64 x1] 55 (0, 0)) := by rw [← hW]; exact heap_alloc_new _ _
          rw [hW]
          clear hW hc0 hc1
          replace hcy := pw_cell_below hbW hcy
          replace hcv := pw_cell_below hbW hcv
          have hHN : W.heap[nb]? = some (.cells #[.int .i64 m0, .int .i64 m1] 55 (0, 0)) := (hbW.block nb (blk_lt HN.out)).trans HN.out
          have HOW := Aside0.mk (Kd.R_below HO.out hbW)
          have HBW := Aside0.mk (below_step HB.out hbW)
          obtain ⟨eb, heb⟩ : ∃ eb, eb = wr.heap.size := ⟨_, rfl⟩
          rw [← heb] at hEB ⊢
          have he0 : W.cell? ⟨eb, 0, none⟩ = some (.int .i64 x0) := by rw [blk_cell hEB]; rfl
          have he1 : W.cell? ⟨eb, 1, none⟩ = some (.int .i64 x1) := by rw [blk_cell hEB]; rfl
          have hn0 : W.cell? ⟨nb, 0, none⟩ = some (.int .i64 m0) := by rw [blk_cell hHN]; rfl
          have HHN := Aside0.mk hHN
          clear heb hEB hHN HO HB HN hbW
          by_cases ht : y = wrap64 (c - 1)
          ·
           rw [if_pos ht] at hd
           have htb : (y == wrap64 (c - 1)) = true := beq_iff_eq.mpr ht
           clear ht
           by_cases hm : m0 < 0
           ·
            rw [if_pos hm] at hd
            have hmb : decide (m0 < 0) = true := decide_eq_true hm
            have HD := Aside0.mk hd
            clear hd
            refine start_ (n := 23) (S := fun w' => w'.cell? (al5.add x1.toNat) = some (.int .i64 y) ∧ w'.cell? (al5.add v1.toNat) = some (.int .i64 c) ∧ w'.cell? ⟨eb, 0, none⟩ = some (.int .i64 x0) ∧ w'.cell? ⟨eb, 1, none⟩ = some (.int .i64 x1) ∧ w'.cell? ⟨nb, 0, none⟩ = some (.int .i64 m0)) (ds := []) #[false, false, false, false, false, false, false, false, false, false, false, false, false, false, false, false, false, false, false, false, false, false, false] (by kernel_rfl) rfl rfl ⟨hcy, hcv, he0, he1, hn0⟩ (fun hHeld => ?_)
            have HOd := Aside0.mk (Kd.R_drew HOW.out)
            have HBd := Aside0.mk (below_drew1 HBW.out)
            have HNd : Aside0 (W.drew.heap[nb]? = some (.cells #[.int .i64 m0, .int .i64 m1] 55 (0, 0))) := ⟨HHN.out⟩
            have he0' : W.drew.cell? ⟨eb, 0, none⟩ = some (.int .i64 x0) := he0
            have he1' : W.drew.cell? ⟨eb, 1, none⟩ = some (.int .i64 x1) := he1
            clear HOW HBW HHN he0 he1
            generalize W.drew = Wd at HOd HBd HNd hHeld he0' he1' ⊢
            have he0 := he0'
            have he1 := he1'
            clear he0' he1'
            refine pure_ (i := 0) (N := some 106) (v := ?_) (a' := ?_) #[true, false, false, false, false, false, false, false, false, false, false, false, false, false, false, false, false, false, false, false, false, false, false] rfl rfl (by kernel_rfl) (fun _ _ _ h => h) (Or.inl ⟨by rfl, ?_⟩) ?_ ?_
            rotate_left; (· intro w'; go_simp; with_reducible rfl)
            rotate_left; (· simp only [Act.put, List.setIfInBounds_toArray, List.set_cons_zero, List.set_cons_succ, i64_w, i32_w]; rfl)
            refine pure_ (i := 1) (N := some 107) (v := ?_) (a' := ?_) #[true, true, false, false, false, false, false, false, false, false, false, false, false, false, false, false, false, false, false, false, false, false, false] rfl rfl (by kernel_rfl) (fun _ _ _ h => h) (Or.inl ⟨by rfl, ?_⟩) ?_ ?_
            rotate_left; (· intro w'; go_simp; with_reducible rfl)
            rotate_left; (· simp only [Act.put, List.setIfInBounds_toArray, List.set_cons_zero, List.set_cons_succ, i64_w, i32_w]; rfl)
            refine pure_ (i := 5) (N := some 111) (v := ?_) (a' := ?_) #[true, true, false, false, false, true, false, false, false, false, false, false, false, false, false, false, false, false, false, false, false, false, false] rfl rfl (by kernel_rfl) (fun _ _ _ h => h) (Or.inl ⟨by rfl, ?_⟩) ?_ ?_
            rotate_left; (· intro w'; go_simp; with_reducible rfl)
            rotate_left; (· simp only [Act.put, List.setIfInBounds_toArray, List.set_cons_zero, List.set_cons_succ, i64_w, i32_w]; rfl)
            refine pure_ (i := 6) (N := some 112) (v := ?_) (a' := ?_) #[true, true, false, false, false, true, true, false, false, false, false, false, false, false, false, false, false, false, false, false, false, false, false] rfl rfl (by kernel_rfl) (fun _ _ _ h => h) (Or.inl ⟨by rfl, ?_⟩) ?_ ?_
            rotate_left; (· intro w'; go_simp; with_reducible rfl)
            rotate_left; (· simp only [Act.put, List.setIfInBounds_toArray, List.set_cons_zero, List.set_cons_succ, i64_w, i32_w]; rfl)
            refine pure_ (i := 7) (N := some 113) (v := ?_) (a' := ?_) #[true, true, false, false, false, true, true, true, false, false, false, false, false, false, false, false, false, false, false, false, false, false, false] rfl rfl (by kernel_rfl) (fun _ _ _ h => h) (Or.inl ⟨by rfl, ?_⟩) ?_ ?_
            rotate_left; (· intro w'; go_simp; with_reducible rfl)
            rotate_left; (· simp only [Act.put, List.setIfInBounds_toArray, List.set_cons_zero, List.set_cons_succ, i64_w, i32_w]; rfl)
            refine take_ (i := 2) (N := some 108) (v := ?_) (a' := ?_) #[true, true, true, false, false, true, true, true, false, false, false, false, false, false, false, false, false, false, false, false, false, false, false] rfl rfl (by kernel_rfl) (fun _ _ _ h => h) (Or.inl ⟨by rfl, ?_⟩) hHeld ?_ ?_
            rotate_left; (· rintro w' ⟨s0, s1, s2, s3, s4⟩; go_simp; with_reducible rfl)
            rotate_left; (· simp only [Act.put, List.setIfInBounds_toArray, List.set_cons_zero, List.set_cons_succ, i64_w, i32_w]; rfl)
            refine pure_ (i := 3) (N := some 109) (v := ?_) (a' := ?_) #[true, true, true, true, false, true, true, true, false, false, false, false, false, false, false, false, false, false, false, false, false, false, false] rfl rfl (by kernel_rfl) (fun _ _ _ h => h) (Or.inl ⟨by rfl, ?_⟩) ?_ ?_
            rotate_left; (· intro w'; go_simp; with_reducible rfl)
            rotate_left; (· simp only [Act.put, List.setIfInBounds_toArray, List.set_cons_zero, List.set_cons_succ, i64_w, i32_w]; rfl)
            refine take_ (i := 4) (N := some 110) (v := ?_) (a' := ?_) #[true, true, true, true, true, true, true, true, false, false, false, false, false, false, false, false, false, false, false, false, false, false, false] rfl rfl (by kernel_rfl) (fun _ _ _ h => h) (Or.inl ⟨by rfl, ?_⟩) hHeld ?_ ?_
            rotate_left; (· rintro w' ⟨s0, s1, s2, s3, s4⟩; go_simp; with_reducible rfl)
            rotate_left; (· simp only [Act.put, List.setIfInBounds_toArray, List.set_cons_zero, List.set_cons_succ, i64_w, i32_w]; rfl)
            refine take_ (i := 8) (N := some 114) (v := ?_) (a' := ?_) #[true, true, true, true, true, true, true, true, true, false, false, false, false, false, false, false, false, false, false, false, false, false, false] rfl rfl (by kernel_rfl) (fun _ _ _ h => h) (Or.inl ⟨by rfl, ?_⟩) hHeld ?_ ?_
            rotate_left; (· rintro w' ⟨s0, s1, s2, s3, s4⟩; go_simp; with_reducible rfl)
            rotate_left; (· simp only [Act.put, List.setIfInBounds_toArray, List.set_cons_zero, List.set_cons_succ, i64_w, i32_w]; rfl)
            refine pure_ (i := 9) (N := some 115) (v := ?_) (a' := ?_) #[true, true, true, true, true, true, true, true, true, true, false, false, false, false, false, false, false, false, false, false, false, false, false] rfl rfl (by kernel_rfl) (fun _ _ _ h => h) (Or.inl ⟨by rfl, ?_⟩) ?_ ?_
            rotate_left; (· intro w'; go_simp; with_reducible rfl)
            rotate_left; (· simp only [Act.put, List.setIfInBounds_toArray, List.set_cons_zero, List.set_cons_succ, i64_w, i32_w]; rfl)
            refine pure_ (i := 10) (N := some 116) (v := ?_) (a' := ?_) #[true, true, true, true, true, true, true, true, true, true, true, false, false, false, false, false, false, false, false, false, false, false, false] rfl rfl (by kernel_rfl) (fun _ _ _ h => h) (Or.inl ⟨by rfl, ?_⟩) ?_ ?_
            rotate_left; (· intro w'; go_simp; with_reducible rfl)
            rotate_left; (· simp only [Act.put, List.setIfInBounds_toArray, List.set_cons_zero, List.set_cons_succ, i64_w, i32_w]; rfl)
            refine pure_ (i := 11) (N := some 117) (v := ?_) (a' := ?_) #[true, true, true, true, true, true, true, true, true, true, true, true, false, false, false, false, false, false, false, false, false, false, false] rfl rfl (by kernel_rfl) (fun _ _ _ h => h) (Or.inl ⟨by rfl, ?_⟩) ?_ ?_
            rotate_left; (· intro w'; go_simp; with_reducible rfl)
            rotate_left; (· simp only [Act.put, List.setIfInBounds_toArray, List.set_cons_zero, List.set_cons_succ, i64_w, i32_w]; rfl)
            refine pure_ (i := 12) (N := some 118) (v := ?_) (a' := ?_) #[true, true, true, true, true, true, true, true, true, true, true, true, true, false, false, false, false, false, false, false, false, false, false] rfl rfl (by kernel_rfl) (fun _ _ _ h => h) (Or.inl ⟨by rfl, ?_⟩) ?_ ?_
            rotate_left; (· intro w'; go_simp; with_reducible rfl)
            rotate_left; (· simp only [Act.put, List.setIfInBounds_toArray, List.set_cons_zero, List.set_cons_succ, i64_w, i32_w]; rfl)
            refine take_ (i := 13) (N := some 119) (v := ?_) (a' := ?_) #[true, true, true, true, true, true, true, true, true, true, true, true, true, true, false, false, false, false, false, false, false, false, false] rfl rfl (by kernel_rfl) (fun _ _ _ h => h) (Or.inl ⟨by rfl, ?_⟩) hHeld ?_ ?_
            rotate_left; (· rintro w' ⟨s0, s1, s2, s3, s4⟩; go_simp; with_reducible rfl)
            rotate_left; (· simp only [Act.put, List.setIfInBounds_toArray, List.set_cons_zero, List.set_cons_succ, i64_w, i32_w]; rfl)
            refine pure_ (i := 14) (N := some 120) (v := ?_) (a' := ?_) #[true, true, true, true, true, true, true, true, true, true, true, true, true, true, true, false, false, false, false, false, false, false, false] rfl rfl (by kernel_rfl) (fun _ _ _ h => h) (Or.inl ⟨by rfl, ?_⟩) ?_ ?_
            rotate_left; (· intro w'; go_simp; with_reducible rfl)
            rotate_left; (· simp only [Act.put, List.setIfInBounds_toArray, List.set_cons_zero, List.set_cons_succ, i64_w, i32_w]; rfl)
            refine pure_ (i := 15) (N := some 121) (v := ?_) (a' := ?_) #[true, true, true, true, true, true, true, true, true, true, true, true, true, true, true, true, false, false, false, false, false, false, false] rfl rfl (by kernel_rfl) (fun _ _ _ h => h) (Or.inl ⟨by rfl, ?_⟩) ?_ ?_
            rotate_left; (· intro w'; go_simp; with_reducible rfl)
            rotate_left; (· simp only [Act.put, List.setIfInBounds_toArray, List.set_cons_zero, List.set_cons_succ, i64_w, i32_w]; rfl)
            refine pure_ (i := 16) (N := some 122) (v := undef) (a' := ?_) #[true, true, true, true, true, true, true, true, true, true, true, true, true, true, true, true, true, false, false, false, false, false, false] rfl rfl (by kernel_rfl) (fun _ _ _ h => h) (Or.inr ⟨by rfl, rfl⟩) ?_ ?_
            rotate_left; (· simp only [Act.put, List.setIfInBounds_toArray, List.set_cons_zero, List.set_cons_succ, i64_w, i32_w]; rfl)
            refine pure_ (i := 17) (N := some 123) (v := undef) (a' := ?_) #[true, true, true, true, true, true, true, true, true, true, true, true, true, true, true, true, true, true, false, false, false, false, false] rfl rfl (by kernel_rfl) (fun _ _ _ h => h) (Or.inr ⟨by rfl, rfl⟩) ?_ ?_
            rotate_left; (· simp only [Act.put, List.setIfInBounds_toArray, List.set_cons_zero, List.set_cons_succ, i64_w, i32_w]; rfl)
            refine pure_ (i := 18) (N := some 124) (v := undef) (a' := ?_) #[true, true, true, true, true, true, true, true, true, true, true, true, true, true, true, true, true, true, true, false, false, false, false] rfl rfl (by kernel_rfl) (fun _ _ _ h => h) (Or.inr ⟨by rfl, rfl⟩) ?_ ?_
            rotate_left; (· simp only [Act.put, List.setIfInBounds_toArray, List.set_cons_zero, List.set_cons_succ, i64_w, i32_w]; rfl)
            refine pure_ (i := 19) (N := some 125) (v := undef) (a' := ?_) #[true, true, true, true, true, true, true, true, true, true, true, true, true, true, true, true, true, true, true, true, false, false, false] rfl rfl (by kernel_rfl) (fun _ _ _ h => h) (Or.inr ⟨by rfl, rfl⟩) ?_ ?_
            rotate_left; (· simp only [Act.put, List.setIfInBounds_toArray, List.set_cons_zero, List.set_cons_succ, i64_w, i32_w]; rfl)
            refine pure_ (i := 20) (N := some 126) (v := undef) (a' := ?_) #[true, true, true, true, true, true, true, true, true, true, true, true, true, true, true, true, true, true, true, true, true, false, false] rfl rfl (by kernel_rfl) (fun _ _ _ h => h) (Or.inr ⟨by rfl, rfl⟩) ?_ ?_
            rotate_left; (· simp only [Act.put, List.setIfInBounds_toArray, List.set_cons_zero, List.set_cons_succ, i64_w, i32_w]; rfl)
            refine pure_ (i := 21) (N := some 127) (v := ?_) (a' := ?_) #[true, true, true, true, true, true, true, true, true, true, true, true, true, true, true, true, true, true, true, true, true, true, false] rfl rfl (by kernel_rfl) (fun _ _ _ h => h) (Or.inl ⟨by rfl, ?_⟩) ?_ ?_
            rotate_left; (· intro w'; go_simp; with_reducible rfl)
            rotate_left; (· simp only [Act.put, List.setIfInBounds_toArray, List.set_cons_zero, List.set_cons_succ, i64_w, i32_w]; rfl)
            refine pure_ (i := 22) (N := some 128) (v := ?_) (a' := ?_) #[true, true, true, true, true, true, true, true, true, true, true, true, true, true, true, true, true, true, true, true, true, true, true] rfl rfl (by kernel_rfl) (fun _ _ _ h => h) (Or.inl ⟨by rfl, ?_⟩) ?_ ?_
            rotate_left; (· intro w'; go_simp; with_reducible rfl)
            rotate_left; (· simp only [Act.put, List.setIfInBounds_toArray, List.set_cons_zero, List.set_cons_succ, i64_w, i32_w]; rfl)
            refine done_ (by kernel_rfl) ?_
            clear hHeld hcy hcv hn0 htb hmb
            have hn0 : Wd.cell? ⟨nb, 0, none⟩ = some (.int .i64 m0) := by rw [blk_cell HNd.out]; rfl
            have hn1 : Wd.cell? ⟨nb, 1, none⟩ = some (.int .i64 m1) := by rw [blk_cell HNd.out]; rfl
            have hf0 : Wd.frozen? ⟨nb, 0, none⟩ = false := blk_frozen HNd.out 0
            have hf1 : Wd.frozen? ⟨nb, 1, none⟩ = false := blk_frozen HNd.out 1
            have hS := blk_set (blk_set HNd.out 0 (.int .i64 x0)) 1 (.int .i64 x1)
            have hRS := Kd.R_set (Kd.R_set HOd.out HNd.out (by decide) 0 (.int .i64 x0)) (blk_set HNd.out 0 (.int .i64 x0)) (by decide) 1 (.int .i64 x1)
            have HS := Aside0.mk hS
            have HRS := Aside0.mk hRS
            have HBS := Aside0.mk ((HBd.out.setCell (p := ⟨nb, 0, none⟩) HN5.out (.int .i64 x0)).setCell (p := ⟨nb, 1, none⟩) HN5.out (.int .i64 x1))
            clear hS hRS
            go_wp2
            go_roundw
            case rel => exact ⟨j + 1, x0, x1, hlt, by go_num, HD, HS, HRS, HBS⟩
            case measure => (simp [intOf] <;> omega)
           ·
            rw [if_neg hm] at hd
            have hmb : decide (m0 < 0) = false := decide_eq_false hm
            by_cases hx : x0 < m0
            ·
             rw [if_pos hx] at hd
             have hxb : decide (x0 < m0) = true := decide_eq_true hx
             have HD := Aside0.mk hd
             clear hd
             refine start_ (n := 23) (S := fun w' => w'.cell? (al5.add x1.toNat) = some (.int .i64 y) ∧ w'.cell? (al5.add v1.toNat) = some (.int .i64 c) ∧ w'.cell? ⟨eb, 0, none⟩ = some (.int .i64 x0) ∧ w'.cell? ⟨eb, 1, none⟩ = some (.int .i64 x1) ∧ w'.cell? ⟨nb, 0, none⟩ = some (.int .i64 m0)) (ds := []) #[false, false, false, false, false, false, false, false, false, false, false, false, false, false, false, false, false, false, false, false, false, false, false] (by kernel_rfl) rfl rfl ⟨hcy, hcv, he0, he1, hn0⟩ (fun hHeld => ?_)
             have HOd := Aside0.mk (Kd.R_drew HOW.out)
             have HBd := Aside0.mk (below_drew1 HBW.out)
             have HNd : Aside0 (W.drew.heap[nb]? = some (.cells #[.int .i64 m0, .int .i64 m1] 55 (0, 0))) := ⟨HHN.out⟩
             have he0' : W.drew.cell? ⟨eb, 0, none⟩ = some (.int .i64 x0) := he0
             have he1' : W.drew.cell? ⟨eb, 1, none⟩ = some (.int .i64 x1) := he1
             clear HOW HBW HHN he0 he1
             generalize W.drew = Wd at HOd HBd HNd hHeld he0' he1' ⊢
             have he0 := he0'
             have he1 := he1'
             clear he0' he1'
             refine pure_ (i := 0) (N := some 106) (v := ?_) (a' := ?_) #[true, false, false, false, false, false, false, false, false, false, false, false, false, false, false, false, false, false, false, false, false, false, false] rfl rfl (by kernel_rfl) (fun _ _ _ h => h) (Or.inl ⟨by rfl, ?_⟩) ?_ ?_
             rotate_left; (· intro w'; go_simp; with_reducible rfl)
             rotate_left; (· simp only [Act.put, List.setIfInBounds_toArray, List.set_cons_zero, List.set_cons_succ, i64_w, i32_w]; rfl)
             refine pure_ (i := 1) (N := some 107) (v := ?_) (a' := ?_) #[true, true, false, false, false, false, false, false, false, false, false, false, false, false, false, false, false, false, false, false, false, false, false] rfl rfl (by kernel_rfl) (fun _ _ _ h => h) (Or.inl ⟨by rfl, ?_⟩) ?_ ?_
             rotate_left; (· intro w'; go_simp; with_reducible rfl)
             rotate_left; (· simp only [Act.put, List.setIfInBounds_toArray, List.set_cons_zero, List.set_cons_succ, i64_w, i32_w]; rfl)
             refine pure_ (i := 5) (N := some 111) (v := ?_) (a' := ?_) #[true, true, false, false, false, true, false, false, false, false, false, false, false, false, false, false, false, false, false, false, false, false, false] rfl rfl (by kernel_rfl) (fun _ _ _ h => h) (Or.inl ⟨by rfl, ?_⟩) ?_ ?_
             rotate_left; (· intro w'; go_simp; with_reducible rfl)
             rotate_left; (· simp only [Act.put, List.setIfInBounds_toArray, List.set_cons_zero, List.set_cons_succ, i64_w, i32_w]; rfl)
             refine pure_ (i := 6) (N := some 112) (v := ?_) (a' := ?_) #[true, true, false, false, false, true, true, false, false, false, false, false, false, false, false, false, false, false, false, false, false, false, false] rfl rfl (by kernel_rfl) (fun _ _ _ h => h) (Or.inl ⟨by rfl, ?_⟩) ?_ ?_
             rotate_left; (· intro w'; go_simp; with_reducible rfl)
             rotate_left; (· simp only [Act.put, List.setIfInBounds_toArray, List.set_cons_zero, List.set_cons_succ, i64_w, i32_w]; rfl)
             refine pure_ (i := 7) (N := some 113) (v := ?_) (a' := ?_) #[true, true, false, false, false, true, true, true, false, false, false, false, false, false, false, false, false, false, false, false, false, false, false] rfl rfl (by kernel_rfl) (fun _ _ _ h => h) (Or.inl ⟨by rfl, ?_⟩) ?_ ?_
             rotate_left; (· intro w'; go_simp; with_reducible rfl)
             rotate_left; (· simp only [Act.put, List.setIfInBounds_toArray, List.set_cons_zero, List.set_cons_succ, i64_w, i32_w]; rfl)
             refine take_ (i := 2) (N := some 108) (v := ?_) (a' := ?_) #[true, true, true, false, false, true, true, true, false, false, false, false, false, false, false, false, false, false, false, false, false, false, false] rfl rfl (by kernel_rfl) (fun _ _ _ h => h) (Or.inl ⟨by rfl, ?_⟩) hHeld ?_ ?_
             rotate_left; (· rintro w' ⟨s0, s1, s2, s3, s4⟩; go_simp; with_reducible rfl)
             rotate_left; (· simp only [Act.put, List.setIfInBounds_toArray, List.set_cons_zero, List.set_cons_succ, i64_w, i32_w]; rfl)
             refine pure_ (i := 3) (N := some 109) (v := ?_) (a' := ?_) #[true, true, true, true, false, true, true, true, false, false, false, false, false, false, false, false, false, false, false, false, false, false, false] rfl rfl (by kernel_rfl) (fun _ _ _ h => h) (Or.inl ⟨by rfl, ?_⟩) ?_ ?_
             rotate_left; (· intro w'; go_simp; with_reducible rfl)
             rotate_left; (· simp only [Act.put, List.setIfInBounds_toArray, List.set_cons_zero, List.set_cons_succ, i64_w, i32_w]; rfl)
             refine take_ (i := 4) (N := some 110) (v := ?_) (a' := ?_) #[true, true, true, true, true, true, true, true, false, false, false, false, false, false, false, false, false, false, false, false, false, false, false] rfl rfl (by kernel_rfl) (fun _ _ _ h => h) (Or.inl ⟨by rfl, ?_⟩) hHeld ?_ ?_
             rotate_left; (· rintro w' ⟨s0, s1, s2, s3, s4⟩; go_simp; with_reducible rfl)
             rotate_left; (· simp only [Act.put, List.setIfInBounds_toArray, List.set_cons_zero, List.set_cons_succ, i64_w, i32_w]; rfl)
             refine take_ (i := 8) (N := some 114) (v := ?_) (a' := ?_) #[true, true, true, true, true, true, true, true, true, false, false, false, false, false, false, false, false, false, false, false, false, false, false] rfl rfl (by kernel_rfl) (fun _ _ _ h => h) (Or.inl ⟨by rfl, ?_⟩) hHeld ?_ ?_
             rotate_left; (· rintro w' ⟨s0, s1, s2, s3, s4⟩; go_simp; with_reducible rfl)
             rotate_left; (· simp only [Act.put, List.setIfInBounds_toArray, List.set_cons_zero, List.set_cons_succ, i64_w, i32_w]; rfl)
             refine pure_ (i := 9) (N := some 115) (v := ?_) (a' := ?_) #[true, true, true, true, true, true, true, true, true, true, false, false, false, false, false, false, false, false, false, false, false, false, false] rfl rfl (by kernel_rfl) (fun _ _ _ h => h) (Or.inl ⟨by rfl, ?_⟩) ?_ ?_
             rotate_left; (· intro w'; go_simp; with_reducible rfl)
             rotate_left; (· simp only [Act.put, List.setIfInBounds_toArray, List.set_cons_zero, List.set_cons_succ, i64_w, i32_w]; rfl)
             refine pure_ (i := 10) (N := some 116) (v := ?_) (a' := ?_) #[true, true, true, true, true, true, true, true, true, true, true, false, false, false, false, false, false, false, false, false, false, false, false] rfl rfl (by kernel_rfl) (fun _ _ _ h => h) (Or.inl ⟨by rfl, ?_⟩) ?_ ?_
             rotate_left; (· intro w'; go_simp; with_reducible rfl)
             rotate_left; (· simp only [Act.put, List.setIfInBounds_toArray, List.set_cons_zero, List.set_cons_succ, i64_w, i32_w]; rfl)
             refine pure_ (i := 11) (N := some 117) (v := ?_) (a' := ?_) #[true, true, true, true, true, true, true, true, true, true, true, true, false, false, false, false, false, false, false, false, false, false, false] rfl rfl (by kernel_rfl) (fun _ _ _ h => h) (Or.inl ⟨by rfl, ?_⟩) ?_ ?_
             rotate_left; (· intro w'; go_simp; with_reducible rfl)
             rotate_left; (· simp only [Act.put, List.setIfInBounds_toArray, List.set_cons_zero, List.set_cons_succ, i64_w, i32_w]; rfl)
             refine pure_ (i := 12) (N := some 118) (v := ?_) (a' := ?_) #[true, true, true, true, true, true, true, true, true, true, true, true, true, false, false, false, false, false, false, false, false, false, false] rfl rfl (by kernel_rfl) (fun _ _ _ h => h) (Or.inl ⟨by rfl, ?_⟩) ?_ ?_
             rotate_left; (· intro w'; go_simp; with_reducible rfl)
             rotate_left; (· simp only [Act.put, List.setIfInBounds_toArray, List.set_cons_zero, List.set_cons_succ, i64_w, i32_w]; rfl)
             refine take_ (i := 13) (N := some 119) (v := ?_) (a' := ?_) #[true, true, true, true, true, true, true, true, true, true, true, true, true, true, false, false, false, false, false, false, false, false, false] rfl rfl (by kernel_rfl) (fun _ _ _ h => h) (Or.inl ⟨by rfl, ?_⟩) hHeld ?_ ?_
             rotate_left; (· rintro w' ⟨s0, s1, s2, s3, s4⟩; go_simp; with_reducible rfl)
             rotate_left; (· simp only [Act.put, List.setIfInBounds_toArray, List.set_cons_zero, List.set_cons_succ, i64_w, i32_w]; rfl)
             refine pure_ (i := 14) (N := some 120) (v := ?_) (a' := ?_) #[true, true, true, true, true, true, true, true, true, true, true, true, true, true, true, false, false, false, false, false, false, false, false] rfl rfl (by kernel_rfl) (fun _ _ _ h => h) (Or.inl ⟨by rfl, ?_⟩) ?_ ?_
             rotate_left; (· intro w'; go_simp; with_reducible rfl)
             rotate_left; (· simp only [Act.put, List.setIfInBounds_toArray, List.set_cons_zero, List.set_cons_succ, i64_w, i32_w]; rfl)
             refine pure_ (i := 15) (N := some 121) (v := ?_) (a' := ?_) #[true, true, true, true, true, true, true, true, true, true, true, true, true, true, true, true, false, false, false, false, false, false, false] rfl rfl (by kernel_rfl) (fun _ _ _ h => h) (Or.inl ⟨by rfl, ?_⟩) ?_ ?_
             rotate_left; (· intro w'; go_simp; with_reducible rfl)
             rotate_left; (· simp only [Act.put, List.setIfInBounds_toArray, List.set_cons_zero, List.set_cons_succ, i64_w, i32_w]; rfl)
             refine pure_ (i := 16) (N := some 122) (v := ?_) (a' := ?_) #[true, true, true, true, true, true, true, true, true, true, true, true, true, true, true, true, true, false, false, false, false, false, false] rfl rfl (by kernel_rfl) (fun _ _ _ h => h) (Or.inl ⟨by rfl, ?_⟩) ?_ ?_
             rotate_left; (· intro w'; go_simp; with_reducible rfl)
             rotate_left; (· simp only [Act.put, List.setIfInBounds_toArray, List.set_cons_zero, List.set_cons_succ, i64_w, i32_w]; rfl)
             refine pure_ (i := 18) (N := some 124) (v := ?_) (a' := ?_) #[true, true, true, true, true, true, true, true, true, true, true, true, true, true, true, true, true, false, true, false, false, false, false] rfl rfl (by kernel_rfl) (fun _ _ _ h => h) (Or.inl ⟨by rfl, ?_⟩) ?_ ?_
             rotate_left; (· intro w'; go_simp; with_reducible rfl)
             rotate_left; (· simp only [Act.put, List.setIfInBounds_toArray, List.set_cons_zero, List.set_cons_succ, i64_w, i32_w]; rfl)
             refine take_ (i := 17) (N := some 123) (v := ?_) (a' := ?_) #[true, true, true, true, true, true, true, true, true, true, true, true, true, true, true, true, true, true, true, false, false, false, false] rfl rfl (by kernel_rfl) (fun _ _ _ h => h) (Or.inl ⟨by rfl, ?_⟩) hHeld ?_ ?_
             rotate_left; (· rintro w' ⟨s0, s1, s2, s3, s4⟩; go_simp; with_reducible rfl)
             rotate_left; (· simp only [Act.put, List.setIfInBounds_toArray, List.set_cons_zero, List.set_cons_succ, i64_w, i32_w]; rfl)
             refine take_ (i := 19) (N := some 125) (v := ?_) (a' := ?_) #[true, true, true, true, true, true, true, true, true, true, true, true, true, true, true, true, true, true, true, true, false, false, false] rfl rfl (by kernel_rfl) (fun _ _ _ h => h) (Or.inl ⟨by rfl, ?_⟩) hHeld ?_ ?_
             rotate_left; (· rintro w' ⟨s0, s1, s2, s3, s4⟩; go_simp; with_reducible rfl)
             rotate_left; (· simp only [Act.put, List.setIfInBounds_toArray, List.set_cons_zero, List.set_cons_succ, i64_w, i32_w]; rfl)
             refine pure_ (i := 20) (N := some 126) (v := ?_) (a' := ?_) #[true, true, true, true, true, true, true, true, true, true, true, true, true, true, true, true, true, true, true, true, true, false, false] rfl rfl (by kernel_rfl) (fun _ _ _ h => h) (Or.inl ⟨by rfl, ?_⟩) ?_ ?_
             rotate_left; (· intro w'; go_simp; with_reducible rfl)
             rotate_left; (· simp only [Act.put, List.setIfInBounds_toArray, List.set_cons_zero, List.set_cons_succ, i64_w, i32_w]; rfl)
             refine pure_ (i := 21) (N := some 127) (v := ?_) (a' := ?_) #[true, true, true, true, true, true, true, true, true, true, true, true, true, true, true, true, true, true, true, true, true, true, false] rfl rfl (by kernel_rfl) (fun _ _ _ h => h) (Or.inl ⟨by rfl, ?_⟩) ?_ ?_
             rotate_left; (· intro w'; go_simp; with_reducible rfl)
             rotate_left; (· simp only [Act.put, List.setIfInBounds_toArray, List.set_cons_zero, List.set_cons_succ, i64_w, i32_w]; rfl)
             refine pure_ (i := 22) (N := some 128) (v := ?_) (a' := ?_) #[true, true, true, true, true, true, true, true, true, true, true, true, true, true, true, true, true, true, true, true, true, true, true] rfl rfl (by kernel_rfl) (fun _ _ _ h => h) (Or.inl ⟨by rfl, ?_⟩) ?_ ?_
             rotate_left; (· intro w'; go_simp; with_reducible rfl)
             rotate_left; (· simp only [Act.put, List.setIfInBounds_toArray, List.set_cons_zero, List.set_cons_succ, i64_w, i32_w]; rfl)
             refine done_ (by kernel_rfl) ?_
             clear hHeld hcy hcv hn0 htb hmb hxb
             have hn0 : Wd.cell? ⟨nb, 0, none⟩ = some (.int .i64 m0) := by rw [blk_cell HNd.out]; rfl
             have hn1 : Wd.cell? ⟨nb, 1, none⟩ = some (.int .i64 m1) := by rw [blk_cell HNd.out]; rfl
             have hf0 : Wd.frozen? ⟨nb, 0, none⟩ = false := blk_frozen HNd.out 0
             have hf1 : Wd.frozen? ⟨nb, 1, none⟩ = false := blk_frozen HNd.out 1
             have hS := blk_set (blk_set HNd.out 0 (.int .i64 x0)) 1 (.int .i64 x1)
             have hRS := Kd.R_set (Kd.R_set HOd.out HNd.out (by decide) 0 (.int .i64 x0)) (blk_set HNd.out 0 (.int .i64 x0)) (by decide) 1 (.int .i64 x1)
             have HS := Aside0.mk hS
             have HRS := Aside0.mk hRS
             have HBS := Aside0.mk ((HBd.out.setCell (p := ⟨nb, 0, none⟩) HN5.out (.int .i64 x0)).setCell (p := ⟨nb, 1, none⟩) HN5.out (.int .i64 x1))
             clear hS hRS
             go_wp2
             go_roundw
             case rel => exact ⟨j + 1, x0, x1, hlt, by go_num, HD, HS, HRS, HBS⟩
             case measure => (simp [intOf] <;> omega)
            ·
             rw [if_neg hx] at hd
             have hxb : decide (x0 < m0) = false := decide_eq_false hx
             have HD := Aside0.mk hd
             clear hd
             refine start_ (n := 23) (S := fun w' => w'.cell? (al5.add x1.toNat) = some (.int .i64 y) ∧ w'.cell? (al5.add v1.toNat) = some (.int .i64 c) ∧ w'.cell? ⟨eb, 0, none⟩ = some (.int .i64 x0) ∧ w'.cell? ⟨eb, 1, none⟩ = some (.int .i64 x1) ∧ w'.cell? ⟨nb, 0, none⟩ = some (.int .i64 m0)) (ds := []) #[false, false, false, false, false, false, false, false, false, false, false, false, false, false, false, false, false, false, false, false, false, false, false] (by kernel_rfl) rfl rfl ⟨hcy, hcv, he0, he1, hn0⟩ (fun hHeld => ?_)
             have HOd := Aside0.mk (Kd.R_drew HOW.out)
             have HBd := Aside0.mk (below_drew1 HBW.out)
             have HNd : Aside0 (W.drew.heap[nb]? = some (.cells #[.int .i64 m0, .int .i64 m1] 55 (0, 0))) := ⟨HHN.out⟩
             have he0' : W.drew.cell? ⟨eb, 0, none⟩ = some (.int .i64 x0) := he0
             have he1' : W.drew.cell? ⟨eb, 1, none⟩ = some (.int .i64 x1) := he1
             clear HOW HBW HHN he0 he1
             generalize W.drew = Wd at HOd HBd HNd hHeld he0' he1' ⊢
             have he0 := he0'
             have he1 := he1'
             clear he0' he1'
             refine pure_ (i := 0) (N := some 106) (v := ?_) (a' := ?_) #[true, false, false, false, false, false, false, false, false, false, false, false, false, false, false, false, false, false, false, false, false, false, false] rfl rfl (by kernel_rfl) (fun _ _ _ h => h) (Or.inl ⟨by rfl, ?_⟩) ?_ ?_
             rotate_left; (· intro w'; go_simp; with_reducible rfl)
             rotate_left; (· simp only [Act.put, List.setIfInBounds_toArray, List.set_cons_zero, List.set_cons_succ, i64_w, i32_w]; rfl)
             refine pure_ (i := 1) (N := some 107) (v := ?_) (a' := ?_) #[true, true, false, false, false, false, false, false, false, false, false, false, false, false, false, false, false, false, false, false, false, false, false] rfl rfl (by kernel_rfl) (fun _ _ _ h => h) (Or.inl ⟨by rfl, ?_⟩) ?_ ?_
             rotate_left; (· intro w'; go_simp; with_reducible rfl)
             rotate_left; (· simp only [Act.put, List.setIfInBounds_toArray, List.set_cons_zero, List.set_cons_succ, i64_w, i32_w]; rfl)
             refine pure_ (i := 5) (N := some 111) (v := ?_) (a' := ?_) #[true, true, false, false, false, true, false, false, false, false, false, false, false, false, false, false, false, false, false, false, false, false, false] rfl rfl (by kernel_rfl) (fun _ _ _ h => h) (Or.inl ⟨by rfl, ?_⟩) ?_ ?_
             rotate_left; (· intro w'; go_simp; with_reducible rfl)
             rotate_left; (· simp only [Act.put, List.setIfInBounds_toArray, List.set_cons_zero, List.set_cons_succ, i64_w, i32_w]; rfl)
             refine pure_ (i := 6) (N := some 112) (v := ?_) (a' := ?_) #[true, true, false, false, false, true, true, false, false, false, false, false, false, false, false, false, false, false, false, false, false, false, false] rfl rfl (by kernel_rfl) (fun _ _ _ h => h) (Or.inl ⟨by rfl, ?_⟩) ?_ ?_
             rotate_left; (· intro w'; go_simp; with_reducible rfl)
             rotate_left; (· simp only [Act.put, List.setIfInBounds_toArray, List.set_cons_zero, List.set_cons_succ, i64_w, i32_w]; rfl)
             refine pure_ (i := 7) (N := some 113) (v := ?_) (a' := ?_) #[true, true, false, false, false, true, true, true, false, false, false, false, false, false, false, false, false, false, false, false, false, false, false] rfl rfl (by kernel_rfl) (fun _ _ _ h => h) (Or.inl ⟨by rfl, ?_⟩) ?_ ?_
             rotate_left; (· intro w'; go_simp; with_reducible rfl)
             rotate_left; (· simp only [Act.put, List.setIfInBounds_toArray, List.set_cons_zero, List.set_cons_succ, i64_w, i32_w]; rfl)
             refine take_ (i := 2) (N := some 108) (v := ?_) (a' := ?_) #[true, true, true, false, false, true, true, true, false, false, false, false, false, false, false, false, false, false, false, false, false, false, false] rfl rfl (by kernel_rfl) (fun _ _ _ h => h) (Or.inl ⟨by rfl, ?_⟩) hHeld ?_ ?_
             rotate_left; (· rintro w' ⟨s0, s1, s2, s3, s4⟩; go_simp; with_reducible rfl)
             rotate_left; (· simp only [Act.put, List.setIfInBounds_toArray, List.set_cons_zero, List.set_cons_succ, i64_w, i32_w]; rfl)
             refine pure_ (i := 3) (N := some 109) (v := ?_) (a' := ?_) #[true, true, true, true, false, true, true, true, false, false, false, false, false, false, false, false, false, false, false, false, false, false, false] rfl rfl (by kernel_rfl) (fun _ _ _ h => h) (Or.inl ⟨by rfl, ?_⟩) ?_ ?_
             rotate_left; (· intro w'; go_simp; with_reducible rfl)
             rotate_left; (· simp only [Act.put, List.setIfInBounds_toArray, List.set_cons_zero, List.set_cons_succ, i64_w, i32_w]; rfl)
             refine take_ (i := 4) (N := some 110) (v := ?_) (a' := ?_) #[true, true, true, true, true, true, true, true, false, false, false, false, false, false, false, false, false, false, false, false, false, false, false] rfl rfl (by kernel_rfl) (fun _ _ _ h => h) (Or.inl ⟨by rfl, ?_⟩) hHeld ?_ ?_
             rotate_left; (· rintro w' ⟨s0, s1, s2, s3, s4⟩; go_simp; with_reducible rfl)
             rotate_left; (· simp only [Act.put, List.setIfInBounds_toArray, List.set_cons_zero, List.set_cons_succ, i64_w, i32_w]; rfl)
             refine take_ (i := 8) (N := some 114) (v := ?_) (a' := ?_) #[true, true, true, true, true, true, true, true, true, false, false, false, false, false, false, false, false, false, false, false, false, false, false] rfl rfl (by kernel_rfl) (fun _ _ _ h => h) (Or.inl ⟨by rfl, ?_⟩) hHeld ?_ ?_
             rotate_left; (· rintro w' ⟨s0, s1, s2, s3, s4⟩; go_simp; with_reducible rfl)
             rotate_left; (· simp only [Act.put, List.setIfInBounds_toArray, List.set_cons_zero, List.set_cons_succ, i64_w, i32_w]; rfl)
             refine pure_ (i := 9) (N := some 115) (v := ?_) (a' := ?_) #[true, true, true, true, true, true, true, true, true, true, false, false, false, false, false, false, false, false, false, false, false, false, false] rfl rfl (by kernel_rfl) (fun _ _ _ h => h) (Or.inl ⟨by rfl, ?_⟩) ?_ ?_
             rotate_left; (· intro w'; go_simp; with_reducible rfl)
             rotate_left; (· simp only [Act.put, List.setIfInBounds_toArray, List.set_cons_zero, List.set_cons_succ, i64_w, i32_w]; rfl)
             refine pure_ (i := 10) (N := some 116) (v := ?_) (a' := ?_) #[true, true, true, true, true, true, true, true, true, true, true, false, false, false, false, false, false, false, false, false, false, false, false] rfl rfl (by kernel_rfl) (fun _ _ _ h => h) (Or.inl ⟨by rfl, ?_⟩) ?_ ?_
             rotate_left; (· intro w'; go_simp; with_reducible rfl)
             rotate_left; (· simp only [Act.put, List.setIfInBounds_toArray, List.set_cons_zero, List.set_cons_succ, i64_w, i32_w]; rfl)
             refine pure_ (i := 11) (N := some 117) (v := ?_) (a' := ?_) #[true, true, true, true, true, true, true, true, true, true, true, true, false, false, false, false, false, false, false, false, false, false, false] rfl rfl (by kernel_rfl) (fun _ _ _ h => h) (Or.inl ⟨by rfl, ?_⟩) ?_ ?_
             rotate_left; (· intro w'; go_simp; with_reducible rfl)
             rotate_left; (· simp only [Act.put, List.setIfInBounds_toArray, List.set_cons_zero, List.set_cons_succ, i64_w, i32_w]; rfl)
             refine pure_ (i := 12) (N := some 118) (v := ?_) (a' := ?_) #[true, true, true, true, true, true, true, true, true, true, true, true, true, false, false, false, false, false, false, false, false, false, false] rfl rfl (by kernel_rfl) (fun _ _ _ h => h) (Or.inl ⟨by rfl, ?_⟩) ?_ ?_
             rotate_left; (· intro w'; go_simp; with_reducible rfl)
             rotate_left; (· simp only [Act.put, List.setIfInBounds_toArray, List.set_cons_zero, List.set_cons_succ, i64_w, i32_w]; rfl)
             refine take_ (i := 13) (N := some 119) (v := ?_) (a' := ?_) #[true, true, true, true, true, true, true, true, true, true, true, true, true, true, false, false, false, false, false, false, false, false, false] rfl rfl (by kernel_rfl) (fun _ _ _ h => h) (Or.inl ⟨by rfl, ?_⟩) hHeld ?_ ?_
             rotate_left; (· rintro w' ⟨s0, s1, s2, s3, s4⟩; go_simp; with_reducible rfl)
             rotate_left; (· simp only [Act.put, List.setIfInBounds_toArray, List.set_cons_zero, List.set_cons_succ, i64_w, i32_w]; rfl)
             refine pure_ (i := 14) (N := some 120) (v := ?_) (a' := ?_) #[true, true, true, true, true, true, true, true, true, true, true, true, true, true, true, false, false, false, false, false, false, false, false] rfl rfl (by kernel_rfl) (fun _ _ _ h => h) (Or.inl ⟨by rfl, ?_⟩) ?_ ?_
             rotate_left; (· intro w'; go_simp; with_reducible rfl)
             rotate_left; (· simp only [Act.put, List.setIfInBounds_toArray, List.set_cons_zero, List.set_cons_succ, i64_w, i32_w]; rfl)
             refine pure_ (i := 15) (N := some 121) (v := ?_) (a' := ?_) #[true, true, true, true, true, true, true, true, true, true, true, true, true, true, true, true, false, false, false, false, false, false, false] rfl rfl (by kernel_rfl) (fun _ _ _ h => h) (Or.inl ⟨by rfl, ?_⟩) ?_ ?_
             rotate_left; (· intro w'; go_simp; with_reducible rfl)
             rotate_left; (· simp only [Act.put, List.setIfInBounds_toArray, List.set_cons_zero, List.set_cons_succ, i64_w, i32_w]; rfl)
             refine pure_ (i := 16) (N := some 122) (v := ?_) (a' := ?_) #[true, true, true, true, true, true, true, true, true, true, true, true, true, true, true, true, true, false, false, false, false, false, false] rfl rfl (by kernel_rfl) (fun _ _ _ h => h) (Or.inl ⟨by rfl, ?_⟩) ?_ ?_
             rotate_left; (· intro w'; go_simp; with_reducible rfl)
             rotate_left; (· simp only [Act.put, List.setIfInBounds_toArray, List.set_cons_zero, List.set_cons_succ, i64_w, i32_w]; rfl)
             refine pure_ (i := 18) (N := some 124) (v := ?_) (a' := ?_) #[true, true, true, true, true, true, true, true, true, true, true, true, true, true, true, true, true, false, true, false, false, false, false] rfl rfl (by kernel_rfl) (fun _ _ _ h => h) (Or.inl ⟨by rfl, ?_⟩) ?_ ?_
             rotate_left; (· intro w'; go_simp; with_reducible rfl)
             rotate_left; (· simp only [Act.put, List.setIfInBounds_toArray, List.set_cons_zero, List.set_cons_succ, i64_w, i32_w]; rfl)
             refine take_ (i := 17) (N := some 123) (v := ?_) (a' := ?_) #[true, true, true, true, true, true, true, true, true, true, true, true, true, true, true, true, true, true, true, false, false, false, false] rfl rfl (by kernel_rfl) (fun _ _ _ h => h) (Or.inl ⟨by rfl, ?_⟩) hHeld ?_ ?_
             rotate_left; (· rintro w' ⟨s0, s1, s2, s3, s4⟩; go_simp; with_reducible rfl)
             rotate_left; (· simp only [Act.put, List.setIfInBounds_toArray, List.set_cons_zero, List.set_cons_succ, i64_w, i32_w]; rfl)
             refine take_ (i := 19) (N := some 125) (v := ?_) (a' := ?_) #[true, true, true, true, true, true, true, true, true, true, true, true, true, true, true, true, true, true, true, true, false, false, false] rfl rfl (by kernel_rfl) (fun _ _ _ h => h) (Or.inl ⟨by rfl, ?_⟩) hHeld ?_ ?_
             rotate_left; (· rintro w' ⟨s0, s1, s2, s3, s4⟩; go_simp; with_reducible rfl)
             rotate_left; (· simp only [Act.put, List.setIfInBounds_toArray, List.set_cons_zero, List.set_cons_succ, i64_w, i32_w]; rfl)
             refine pure_ (i := 20) (N := some 126) (v := ?_) (a' := ?_) #[true, true, true, true, true, true, true, true, true, true, true, true, true, true, true, true, true, true, true, true, true, false, false] rfl rfl (by kernel_rfl) (fun _ _ _ h => h) (Or.inl ⟨by rfl, ?_⟩) ?_ ?_
             rotate_left; (· intro w'; go_simp; with_reducible rfl)
             rotate_left; (· simp only [Act.put, List.setIfInBounds_toArray, List.set_cons_zero, List.set_cons_succ, i64_w, i32_w]; rfl)
             refine pure_ (i := 21) (N := some 127) (v := ?_) (a' := ?_) #[true, true, true, true, true, true, true, true, true, true, true, true, true, true, true, true, true, true, true, true, true, true, false] rfl rfl (by kernel_rfl) (fun _ _ _ h => h) (Or.inl ⟨by rfl, ?_⟩) ?_ ?_
             rotate_left; (· intro w'; go_simp; with_reducible rfl)
             rotate_left; (· simp only [Act.put, List.setIfInBounds_toArray, List.set_cons_zero, List.set_cons_succ, i64_w, i32_w]; rfl)
             refine pure_ (i := 22) (N := some 128) (v := ?_) (a' := ?_) #[true, true, true, true, true, true, true, true, true, true, true, true, true, true, true, true, true, true, true, true, true, true, true] rfl rfl (by kernel_rfl) (fun _ _ _ h => h) (Or.inl ⟨by rfl, ?_⟩) ?_ ?_
             rotate_left; (· intro w'; go_simp; with_reducible rfl)
             rotate_left; (· simp only [Act.put, List.setIfInBounds_toArray, List.set_cons_zero, List.set_cons_succ, i64_w, i32_w]; rfl)
             refine done_ (by kernel_rfl) ?_
             clear hHeld hcy hcv hn0 htb hmb hxb
             go_wp2
             go_roundw
             case rel => exact ⟨j + 1, m0, m1, hlt, by go_num, HD, HNd, HOd, HBd⟩
             case measure => (simp [intOf] <;> omega)
          ·
           rw [if_neg ht] at hd
           have htb : (y == wrap64 (c - 1)) = false := beq_eq_false_iff_ne.mpr ht
           clear ht
           have HD := Aside0.mk hd
           clear hd
           refine start_ (n := 23) (S := fun w' => w'.cell? (al5.add x1.toNat) = some (.int .i64 y) ∧ w'.cell? (al5.add v1.toNat) = some (.int .i64 c) ∧ w'.cell? ⟨eb, 0, none⟩ = some (.int .i64 x0) ∧ w'.cell? ⟨eb, 1, none⟩ = some (.int .i64 x1) ∧ w'.cell? ⟨nb, 0, none⟩ = some (.int .i64 m0)) (ds := []) #[false, false, false, false, false, false, false, false, false, false, false, false, false, false, false, false, false, false, false, false, false, false, false] (by kernel_rfl) rfl rfl ⟨hcy, hcv, he0, he1, hn0⟩ (fun hHeld => ?_)
           have HOd := Aside0.mk (Kd.R_drew HOW.out)
           have HBd := Aside0.mk (below_drew1 HBW.out)
           have HNd : Aside0 (W.drew.heap[nb]? = some (.cells #[.int .i64 m0, .int .i64 m1] 55 (0, 0))) := ⟨HHN.out⟩
           have he0' : W.drew.cell? ⟨eb, 0, none⟩ = some (.int .i64 x0) := he0
           have he1' : W.drew.cell? ⟨eb, 1, none⟩ = some (.int .i64 x1) := he1
           clear HOW HBW HHN he0 he1
           generalize W.drew = Wd at HOd HBd HNd hHeld he0' he1' ⊢
           have he0 := he0'
           have he1 := he1'
           clear he0' he1'
           refine pure_ (i := 0) (N := some 106) (v := ?_) (a' := ?_) #[true, false, false, false, false, false, false, false, false, false, false, false, false, false, false, false, false, false, false, false, false, false, false] rfl rfl (by kernel_rfl) (fun _ _ _ h => h) (Or.inl ⟨by rfl, ?_⟩) ?_ ?_
           rotate_left; (· intro w'; go_simp; with_reducible rfl)
           rotate_left; (· simp only [Act.put, List.setIfInBounds_toArray, List.set_cons_zero, List.set_cons_succ, i64_w, i32_w]; rfl)
           refine pure_ (i := 1) (N := some 107) (v := ?_) (a' := ?_) #[true, true, false, false, false, false, false, false, false, false, false, false, false, false, false, false, false, false, false, false, false, false, false] rfl rfl (by kernel_rfl) (fun _ _ _ h => h) (Or.inl ⟨by rfl, ?_⟩) ?_ ?_
           rotate_left; (· intro w'; go_simp; with_reducible rfl)
           rotate_left; (· simp only [Act.put, List.setIfInBounds_toArray, List.set_cons_zero, List.set_cons_succ, i64_w, i32_w]; rfl)
           refine pure_ (i := 5) (N := some 111) (v := ?_) (a' := ?_) #[true, true, false, false, false, true, false, false, false, false, false, false, false, false, false, false, false, false, false, false, false, false, false] rfl rfl (by kernel_rfl) (fun _ _ _ h => h) (Or.inl ⟨by rfl, ?_⟩) ?_ ?_
           rotate_left; (· intro w'; go_simp; with_reducible rfl)
           rotate_left; (· simp only [Act.put, List.setIfInBounds_toArray, List.set_cons_zero, List.set_cons_succ, i64_w, i32_w]; rfl)
           refine pure_ (i := 6) (N := some 112) (v := ?_) (a' := ?_) #[true, true, false, false, false, true, true, false, false, false, false, false, false, false, false, false, false, false, false, false, false, false, false] rfl rfl (by kernel_rfl) (fun _ _ _ h => h) (Or.inl ⟨by rfl, ?_⟩) ?_ ?_
           rotate_left; (· intro w'; go_simp; with_reducible rfl)
           rotate_left; (· simp only [Act.put, List.setIfInBounds_toArray, List.set_cons_zero, List.set_cons_succ, i64_w, i32_w]; rfl)
           refine pure_ (i := 7) (N := some 113) (v := ?_) (a' := ?_) #[true, true, false, false, false, true, true, true, false, false, false, false, false, false, false, false, false, false, false, false, false, false, false] rfl rfl (by kernel_rfl) (fun _ _ _ h => h) (Or.inl ⟨by rfl, ?_⟩) ?_ ?_
           rotate_left; (· intro w'; go_simp; with_reducible rfl)
           rotate_left; (· simp only [Act.put, List.setIfInBounds_toArray, List.set_cons_zero, List.set_cons_succ, i64_w, i32_w]; rfl)
           refine take_ (i := 2) (N := some 108) (v := ?_) (a' := ?_) #[true, true, true, false, false, true, true, true, false, false, false, false, false, false, false, false, false, false, false, false, false, false, false] rfl rfl (by kernel_rfl) (fun _ _ _ h => h) (Or.inl ⟨by rfl, ?_⟩) hHeld ?_ ?_
           rotate_left; (· rintro w' ⟨s0, s1, s2, s3, s4⟩; go_simp; with_reducible rfl)
           rotate_left; (· simp only [Act.put, List.setIfInBounds_toArray, List.set_cons_zero, List.set_cons_succ, i64_w, i32_w]; rfl)
           refine pure_ (i := 3) (N := some 109) (v := ?_) (a' := ?_) #[true, true, true, true, false, true, true, true, false, false, false, false, false, false, false, false, false, false, false, false, false, false, false] rfl rfl (by kernel_rfl) (fun _ _ _ h => h) (Or.inl ⟨by rfl, ?_⟩) ?_ ?_
           rotate_left; (· intro w'; go_simp; with_reducible rfl)
           rotate_left; (· simp only [Act.put, List.setIfInBounds_toArray, List.set_cons_zero, List.set_cons_succ, i64_w, i32_w]; rfl)
           refine take_ (i := 4) (N := some 110) (v := ?_) (a' := ?_) #[true, true, true, true, true, true, true, true, false, false, false, false, false, false, false, false, false, false, false, false, false, false, false] rfl rfl (by kernel_rfl) (fun _ _ _ h => h) (Or.inl ⟨by rfl, ?_⟩) hHeld ?_ ?_
           rotate_left; (· rintro w' ⟨s0, s1, s2, s3, s4⟩; go_simp; with_reducible rfl)
           rotate_left; (· simp only [Act.put, List.setIfInBounds_toArray, List.set_cons_zero, List.set_cons_succ, i64_w, i32_w]; rfl)
           refine take_ (i := 8) (N := some 114) (v := ?_) (a' := ?_) #[true, true, true, true, true, true, true, true, true, false, false, false, false, false, false, false, false, false, false, false, false, false, false] rfl rfl (by kernel_rfl) (fun _ _ _ h => h) (Or.inl ⟨by rfl, ?_⟩) hHeld ?_ ?_
           rotate_left; (· rintro w' ⟨s0, s1, s2, s3, s4⟩; go_simp; with_reducible rfl)
           rotate_left; (· simp only [Act.put, List.setIfInBounds_toArray, List.set_cons_zero, List.set_cons_succ, i64_w, i32_w]; rfl)
           refine pure_ (i := 9) (N := some 115) (v := ?_) (a' := ?_) #[true, true, true, true, true, true, true, true, true, true, false, false, false, false, false, false, false, false, false, false, false, false, false] rfl rfl (by kernel_rfl) (fun _ _ _ h => h) (Or.inl ⟨by rfl, ?_⟩) ?_ ?_
           rotate_left; (· intro w'; go_simp; with_reducible rfl)
           rotate_left; (· simp only [Act.put, List.setIfInBounds_toArray, List.set_cons_zero, List.set_cons_succ, i64_w, i32_w]; rfl)
           refine pure_ (i := 10) (N := some 116) (v := ?_) (a' := ?_) #[true, true, true, true, true, true, true, true, true, true, true, false, false, false, false, false, false, false, false, false, false, false, false] rfl rfl (by kernel_rfl) (fun _ _ _ h => h) (Or.inl ⟨by rfl, ?_⟩) ?_ ?_
           rotate_left; (· intro w'; go_simp; with_reducible rfl)
           rotate_left; (· simp only [Act.put, List.setIfInBounds_toArray, List.set_cons_zero, List.set_cons_succ, i64_w, i32_w]; rfl)
           refine pure_ (i := 11) (N := some 117) (v := ?_) (a' := ?_) #[true, true, true, true, true, true, true, true, true, true, true, true, false, false, false, false, false, false, false, false, false, false, false] rfl rfl (by kernel_rfl) (fun _ _ _ h => h) (Or.inl ⟨by rfl, ?_⟩) ?_ ?_
           rotate_left; (· intro w'; go_simp; with_reducible rfl)
           rotate_left; (· simp only [Act.put, List.setIfInBounds_toArray, List.set_cons_zero, List.set_cons_succ, i64_w, i32_w]; rfl)
           refine pure_ (i := 12) (N := some 118) (v := undef) (a' := ?_) #[true, true, true, true, true, true, true, true, true, true, true, true, true, false, false, false, false, false, false, false, false, false, false] rfl rfl (by kernel_rfl) (fun _ _ _ h => h) (Or.inr ⟨by rfl, rfl⟩) ?_ ?_
           rotate_left; (· simp only [Act.put, List.setIfInBounds_toArray, List.set_cons_zero, List.set_cons_succ, i64_w, i32_w]; rfl)
           refine pure_ (i := 13) (N := some 119) (v := undef) (a' := ?_) #[true, true, true, true, true, true, true, true, true, true, true, true, true, true, false, false, false, false, false, false, false, false, false] rfl rfl (by kernel_rfl) (fun _ _ _ h => h) (Or.inr ⟨by rfl, rfl⟩) ?_ ?_
           rotate_left; (· simp only [Act.put, List.setIfInBounds_toArray, List.set_cons_zero, List.set_cons_succ, i64_w, i32_w]; rfl)
           refine pure_ (i := 14) (N := some 120) (v := undef) (a' := ?_) #[true, true, true, true, true, true, true, true, true, true, true, true, true, true, true, false, false, false, false, false, false, false, false] rfl rfl (by kernel_rfl) (fun _ _ _ h => h) (Or.inr ⟨by rfl, rfl⟩) ?_ ?_
           rotate_left; (· simp only [Act.put, List.setIfInBounds_toArray, List.set_cons_zero, List.set_cons_succ, i64_w, i32_w]; rfl)
           refine pure_ (i := 15) (N := some 121) (v := undef) (a' := ?_) #[true, true, true, true, true, true, true, true, true, true, true, true, true, true, true, true, false, false, false, false, false, false, false] rfl rfl (by kernel_rfl) (fun _ _ _ h => h) (Or.inr ⟨by rfl, rfl⟩) ?_ ?_
           rotate_left; (· simp only [Act.put, List.setIfInBounds_toArray, List.set_cons_zero, List.set_cons_succ, i64_w, i32_w]; rfl)
           refine pure_ (i := 16) (N := some 122) (v := undef) (a' := ?_) #[true, true, true, true, true, true, true, true, true, true, true, true, true, true, true, true, true, false, false, false, false, false, false] rfl rfl (by kernel_rfl) (fun _ _ _ h => h) (Or.inr ⟨by rfl, rfl⟩) ?_ ?_
           rotate_left; (· simp only [Act.put, List.setIfInBounds_toArray, List.set_cons_zero, List.set_cons_succ, i64_w, i32_w]; rfl)
           refine pure_ (i := 17) (N := some 123) (v := undef) (a' := ?_) #[true, true, true, true, true, true, true, true, true, true, true, true, true, true, true, true, true, true, false, false, false, false, false] rfl rfl (by kernel_rfl) (fun _ _ _ h => h) (Or.inr ⟨by rfl, rfl⟩) ?_ ?_
           rotate_left; (· simp only [Act.put, List.setIfInBounds_toArray, List.set_cons_zero, List.set_cons_succ, i64_w, i32_w]; rfl)
           refine pure_ (i := 18) (N := some 124) (v := undef) (a' := ?_) #[true, true, true, true, true, true, true, true, true, true, true, true, true, true, true, true, true, true, true, false, false, false, false] rfl rfl (by kernel_rfl) (fun _ _ _ h => h) (Or.inr ⟨by rfl, rfl⟩) ?_ ?_
           rotate_left; (· simp only [Act.put, List.setIfInBounds_toArray, List.set_cons_zero, List.set_cons_succ, i64_w, i32_w]; rfl)
           refine pure_ (i := 19) (N := some 125) (v := undef) (a' := ?_) #[true, true, true, true, true, true, true, true, true, true, true, true, true, true, true, true, true, true, true, true, false, false, false] rfl rfl (by kernel_rfl) (fun _ _ _ h => h) (Or.inr ⟨by rfl, rfl⟩) ?_ ?_
           rotate_left; (· simp only [Act.put, List.setIfInBounds_toArray, List.set_cons_zero, List.set_cons_succ, i64_w, i32_w]; rfl)
           refine pure_ (i := 20) (N := some 126) (v := undef) (a' := ?_) #[true, true, true, true, true, true, true, true, true, true, true, true, true, true, true, true, true, true, true, true, true, false, false] rfl rfl (by kernel_rfl) (fun _ _ _ h => h) (Or.inr ⟨by rfl, rfl⟩) ?_ ?_
           rotate_left; (· simp only [Act.put, List.setIfInBounds_toArray, List.set_cons_zero, List.set_cons_succ, i64_w, i32_w]; rfl)
           refine pure_ (i := 21) (N := some 127) (v := undef) (a' := ?_) #[true, true, true, true, true, true, true, true, true, true, true, true, true, true, true, true, true, true, true, true, true, true, false] rfl rfl (by kernel_rfl) (fun _ _ _ h => h) (Or.inr ⟨by rfl, rfl⟩) ?_ ?_
           rotate_left; (· simp only [Act.put, List.setIfInBounds_toArray, List.set_cons_zero, List.set_cons_succ, i64_w, i32_w]; rfl)
           refine pure_ (i := 22) (N := some 128) (v := ?_) (a' := ?_) #[true, true, true, true, true, true, true, true, true, true, true, true, true, true, true, true, true, true, true, true, true, true, true] rfl rfl (by kernel_rfl) (fun _ _ _ h => h) (Or.inl ⟨by rfl, ?_⟩) ?_ ?_
           rotate_left; (· intro w'; go_simp; with_reducible rfl)
           rotate_left; (· simp only [Act.put, List.setIfInBounds_toArray, List.set_cons_zero, List.set_cons_succ, i64_w, i32_w]; rfl)
           refine done_ (by kernel_rfl) ?_
           clear hHeld hcy hcv hn0 htb
           go_wp2
           go_roundw
           case rel => exact ⟨j + 1, m0, m1, hlt, by go_num, HD, HNd, HOd, HBd⟩
           case measure => (simp [intOf] <;> omega)
         ·
          obtain rfl : es.length = j := by omega
          have hd := HD.out
          simp only [List.drop_length, nextE, Option.some.injEq, S55.mk.injEq] at hd
          obtain ⟨rfl, rfl⟩ := hd
          clear HD
          go_wp2_with fail
          refine start_ (n := 9) (S := fun w' => w'.cell? ⟨nb, 0, none⟩ = some (.int .i64 m0) ∧ w'.cell? ⟨nb, 1, none⟩ = some (.int .i64 m1)) (ds := []) #[false, false, false, false, false, false, false, false, false] (by kernel_rfl) rfl rfl ⟨(by rw [blk_cell (show wr.drew.heap[nb]? = _ from HN.out)]; rfl), (by rw [blk_cell (show wr.drew.heap[nb]? = _ from HN.out)]; rfl)⟩ (fun hHeld => ?_)
          have HOd := Aside0.mk (Kd.R_drew HO.out)
          have HBd := Aside0.mk (below_drew1 HB.out)
          have HNd : Aside0 (wr.drew.heap[nb]? = some (.cells #[.int .i64 m0, .int .i64 m1] 55 (0, 0))) := ⟨HN.out⟩
          clear HO HB HN
          generalize wr.drew = wd at HOd HBd HNd hHeld ⊢
          refine pure_ (i := 0) (N := some 131) (v := ?_) (a' := ?_) #[true, false, false, false, false, false, false, false, false] rfl rfl (by kernel_rfl) (fun _ _ _ h => h) (Or.inl ⟨by rfl, ?_⟩) ?_ ?_
          rotate_left; (· intro w'; go_simp; with_reducible rfl)
          rotate_left; (· simp only [Act.put, List.setIfInBounds_toArray, List.set_cons_zero, List.set_cons_succ, i64_w, i32_w]; rfl)
          refine pure_ (i := 1) (N := some 132) (v := ?_) (a' := ?_) #[true, true, false, false, false, false, false, false, false] rfl rfl (by kernel_rfl) (fun _ _ _ h => h) (Or.inl ⟨by rfl, ?_⟩) ?_ ?_
          rotate_left; (· intro w'; go_simp; with_reducible rfl)
          rotate_left; (· simp only [Act.put, List.setIfInBounds_toArray, List.set_cons_zero, List.set_cons_succ, i64_w, i32_w]; rfl)
          refine pure_ (i := 5) (N := some 136) (v := ?_) (a' := ?_) #[true, true, false, false, false, true, false, false, false] rfl rfl (by kernel_rfl) (fun _ _ _ h => h) (Or.inl ⟨by rfl, ?_⟩) ?_ ?_
          rotate_left; (· intro w'; go_simp; with_reducible rfl)
          rotate_left; (· simp only [Act.put, List.setIfInBounds_toArray, List.set_cons_zero, List.set_cons_succ, i64_w, i32_w]; rfl)
          refine take_ (i := 2) (N := some 133) (v := ?_) (a' := ?_) #[true, true, true, false, false, true, false, false, false] rfl rfl (by kernel_rfl) (fun _ _ _ h => h) (Or.inl ⟨by rfl, ?_⟩) hHeld ?_ ?_
          rotate_left; (· rintro w' ⟨s0, s1⟩; go_simp; with_reducible rfl)
          rotate_left; (· simp only [Act.put, List.setIfInBounds_toArray, List.set_cons_zero, List.set_cons_succ, i64_w, i32_w]; rfl)
          refine take_ (i := 6) (N := some 137) (v := ?_) (a' := ?_) #[true, true, true, false, false, true, true, false, false] rfl rfl (by kernel_rfl) (fun _ _ _ h => h) (Or.inl ⟨by rfl, ?_⟩) hHeld ?_ ?_
          rotate_left; (· rintro w' ⟨s0, s1⟩; go_simp; with_reducible rfl)
          rotate_left; (· simp only [Act.put, List.setIfInBounds_toArray, List.set_cons_zero, List.set_cons_succ, i64_w, i32_w]; rfl)
          refine one_ (i := 3) (N := some 134) #[true, true, true, true, false, true, true, false, false] rfl rfl (by kernel_rfl) (by decide) (fun K hK => ?_)
          refine value_ (w1 := ?_) (v := ?_) (by rfl) rfl ?_ ?_
          rotate_left 2
          ·
           go_simp
           constructor
           · rfl
           · rfl
          refine hK.out _ _ ⟨(pw_cell_below (below_alloc (Below.refl _ _) _) hHeld.1), (pw_cell_below (below_alloc (Below.refl _ _) _) hHeld.2)⟩ (fun hHeld => ?_)
          clear hK K
          refine norm_ (a' := ?_) ?_ ?_
          rotate_left; (· show Act.put _ (some 134) _ = _; simp only [Act.put, List.setIfInBounds_toArray, List.set_cons_zero, List.set_cons_succ, i64_w, i32_w]; rfl)
          refine one_ (i := 4) (N := some 135) #[true, true, true, true, true, true, true, false, false] rfl rfl (by kernel_rfl) (by decide) (fun K hK => ?_)
          refine Kd.R_append_step (Kd.int .i64) w5.heap.size (by rfl) (.tmp 131) (.tmp 134) 33 3 (.int .i64 0) 8 (by rfl) Try.underlying33 info3 rfl (by decide) (by decide) _ o1 m0 [.int .i64 m0] (fun _ => True) (fun _ => False) (by rfl) (by rfl) rfl (fun _ h => h.elim) (fun _ _ => trivial) HOd.out HBd.out HBd.out.size (by omega) ?_
          intro v9 w9 ho9 hb9 hg9 hz9
          have HN9 := blk_grown HNd.out hg9 (Kd.R_ne HOd.out HNd.out (by decide))
          have HO9 := Aside0.mk ho9
          have HB9 := Aside0.mk hb9
          clear ho9 hb9 hg9 hz9 HOd HBd HNd
          refine hK.out _ _ ⟨(by rw [blk_cell HN9]; rfl), (by rw [blk_cell HN9]; rfl)⟩ (fun hHeld => ?_)
          clear hK K
          refine norm_ (a' := ?_) ?_ ?_
          rotate_left; (· show Act.put _ (some 135) _ = _; simp only [Act.put, List.setIfInBounds_toArray, List.set_cons_zero, List.set_cons_succ, i64_w, i32_w]; rfl)
          refine pure_ (i := 7) (N := some 14) (v := ?_) (a' := ?_) #[true, true, true, true, true, true, true, true, false] rfl rfl (by kernel_rfl) (fun _ _ _ h => h) (Or.inl ⟨by rfl, ?_⟩) ?_ ?_
          rotate_left; (· intro w'; go_simp; with_reducible rfl)
          rotate_left; (· simp only [Act.put, List.setIfInBounds_toArray, List.set_cons_zero, List.set_cons_succ, i64_w, i32_w]; rfl)
          refine pure_ (i := 8) (N := some 15) (v := ?_) (a' := ?_) #[true, true, true, true, true, true, true, true, true] rfl rfl (by kernel_rfl) (fun _ _ _ h => h) (Or.inl ⟨by rfl, ?_⟩) ?_ ?_
          rotate_left; (· intro w'; go_simp; with_reducible rfl)
          rotate_left; (· simp only [Act.put, List.setIfInBounds_toArray, List.set_cons_zero, List.set_cons_succ, i64_w, i32_w]; rfl)
          refine done_ (by kernel_rfl) ?_
          go_wp2_with fail
          obtain ⟨A9, c9, rfl⟩ := R_shape HO9.out
          go_roundg k1
          case rel => exact ⟨o1 ++ [m0], m1, A9, c9, rfl, rfl, HWY, ⟨by simp; omega⟩, HO9, HB9⟩
          case measure => omega
       ·
        rw [if_neg hpos] at hd
        injection hd with hd
        injection hd with hd1 hd2
        subst hd1 hd2
        have hle : c ≤ 0 := by omega
        clear hpos
        obtain ⟨j, ok, hvv0, hvv1, hoth, hr⟩ : ∃ j ok, 0 ≤ v1 ∧ v1 < (E.length : Int) ∧ otherF L i (M v1) = some (j, ok) ∧ r = some (o1 ++ [j]) := by
         have h := H2.out
         by_cases hv : 0 ≤ v1 ∧ v1 < (E.length : Int)
         ·
          rw [if_pos hv] at h
          obtain ⟨⟨j, ok⟩, h1, h2⟩ := Option.bind_eq_some_iff.1 h
          injection h2 with h2
          exact ⟨j, ok, hv.1, hv.2, h1, h2.symm⟩
         ·
          rw [if_neg hv] at h
          cases h
        have HOT := Aside0.mk hoth
        have HR := Aside0.mk hr
        clear hoth hr H2
        have hol : o1.length ≤ 1000000 := HP.out.2
        go_wp2_with (first
         | (go_at_call 41; refine (other_calls _ _ _ _ _ _ M i v1 j ok _ ⟨_, _, _, rfl⟩ (Kd.C_below HL5.out HB.out) (HM5.out.below HB.out) hN hvv0 hvv1 HOT.out).mono ?_; rintro e w6 ⟨rfl, hb6⟩; have HO6 := Aside0.mk (Kd.R_below HO.out hb6); have HB6 := Aside0.mk (below_step HB.out hb6); clear hb6 by0 by1 by2 hc5)
         | (at_builtin; refine Kd.R_append (Kd.int .i64) w5.heap.size rfl (.tmp 145) (.tmp 147) 33 3 (.int .i64 0) 8 rfl Try.underlying33 info3 rfl (by decide) (by decide) _ o1 j [.int .i64 j] (fun _ => True) (fun _ => False) rfl rfl rfl (fun _ h => h.elim) (fun _ _ => trivial) HO6.out HB6.out HB6.out.size (by omega) ?_; intro v7 w7 ho7 hb7 hz1 hz2; clear hz1 hz2; have HO7 := Aside0.mk ho7; have HB7 := Aside0.mk hb7; clear ho7 hb7))
        go_ret2
        obtain ⟨A7, c7, rfl⟩ := R_shape HO7.out
        obtain ⟨g7, rfl, _, _⟩ := R_head HO7.out (by simp)
        exact ⟨.inr ⟨o1 ++ [j], _, _, HR.out, rfl, Kd.R_lower HO7.out HB5.out.size⟩, below_step HB5.out HB7.out⟩
      ·
       rw [if_neg hv] at hd
       cases hd
end Go.Proofs.Ytjbafigageingaa
