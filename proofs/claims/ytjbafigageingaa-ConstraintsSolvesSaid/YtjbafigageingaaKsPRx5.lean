import Derived.Test.YtjbafigageingaaKsM1
namespace Go.Proofs.Ytjbafigageingaa.PR
open Go.RowKit Go.Proofs.YtjbafigageingaaW.PrintWords Go.Proofs.YtjbafigageingaaW.PrintLast Go.Proofs.YtjbafigageingaaW.PrintMore
attribute [local go_sem] max2_int min2_int max_two min_two max_three min_three max_four min_four
set_option linter.unusedVariables false
set_option linter.unusedSimpArgs false

mutual
def assessorref09_distances.l0 : Nat → Int → List (S36) → Int → List Int → Int → Option (List Int)
 | 0, _, _, _, _, _ => none
 | k + 1, x0, x1, x2, x7, x8 => if x8 < x0 then (if 0 ≤ x8 then (if x8 < (x7.length : Int) then (assessorref09_distances.l0 k x0 x1 x2 (x7.set (x8 : Int).toNat (-1)) (wrap64 (x8 + 1))) else (none)) else (none)) else (if 0 ≤ x2 then (if x2 < (x7.length : Int) then (assessorref09_distances.l1 k x1 (x7.set (x2 : Int).toNat 0) true 0) else (none)) else (none))
def assessorref09_distances.l1 : Nat → List (S36) → List Int → Bool → Int → Option (List Int)
 | 0, _, _, _, _ => none
 | k + 1, x1, x7, x9, x10 => if x9 = true then (assessorref09_distances.l2 k x1 x7 false x10 0) else (some x7)
def assessorref09_distances.l2 : Nat → List (S36) → List Int → Bool → Int → Int → Option (List Int)
 | 0, _, _, _, _, _ => none
 | k + 1, x1, x7, x9, x10, x11 => if x11 < (x1.length : Int) then (if 0 ≤ x11 then (if ((rd_T36 x1 x11).f0) = 1 then (if 0 ≤ ((rd_T36 x1 x11).f1) then (if ((rd_T36 x1 x11).f1) < (x7.length : Int) then (if (rd x7 ((rd_T36 x1 x11).f1)) = x10 then (if 0 ≤ ((rd_T36 x1 x11).f2) then (if ((rd_T36 x1 x11).f2) < (x7.length : Int) then (assessorref09_distances.j3 k x1 x7 x9 x10 x11 (decide ((rd x7 ((rd_T36 x1 x11).f2)) < 0))) else (none)) else (none)) else (assessorref09_distances.j3 k x1 x7 x9 x10 x11 false)) else (none)) else (none)) else (assessorref09_distances.l2 k x1 x7 x9 x10 (wrap64 (x11 + 1)))) else (none)) else (assessorref09_distances.l1 k x1 x7 x9 (wrap64 (x10 + 1)))
def assessorref09_distances.j3 : Nat → List (S36) → List Int → Bool → Int → Int → Bool → Option (List Int)
 | 0, _, _, _, _, _, _ => none
 | k + 1, x1, x7, x9, x10, x11, x60 => if x60 = true then (if 0 ≤ x11 then (if x11 < (x1.length : Int) then (if 0 ≤ ((rd_T36 x1 x11).f2) then (if ((rd_T36 x1 x11).f2) < (x7.length : Int) then ((some (x7.set (((rd_T36 x1 x11).f2) : Int).toNat (wrap64 (x10 + 1)) : List Int)).bind fun y126 => (if (rd y126 ((rd_T36 x1 x11).f2)) = x10 then (if 0 ≤ ((rd_T36 x1 x11).f1) then (if ((rd_T36 x1 x11).f1) < (x7.length : Int) then (if (rd y126 ((rd_T36 x1 x11).f1)) < 0 then (assessorref09_distances.l2 k x1 (y126.set (((rd_T36 x1 x11).f1) : Int).toNat (wrap64 (x10 + 1))) true x10 (wrap64 (x11 + 1))) else (assessorref09_distances.l2 k x1 y126 true x10 (wrap64 (x11 + 1)))) else (none)) else (none)) else (assessorref09_distances.l2 k x1 y126 true x10 (wrap64 (x11 + 1))))) else (none)) else (none)) else (none)) else (none)) else (if 0 ≤ x11 then (if x11 < (x1.length : Int) then (if 0 ≤ ((rd_T36 x1 x11).f2) then (if ((rd_T36 x1 x11).f2) < (x7.length : Int) then (if (rd x7 ((rd_T36 x1 x11).f2)) = x10 then (if 0 ≤ ((rd_T36 x1 x11).f1) then (if ((rd_T36 x1 x11).f1) < (x7.length : Int) then (if (rd x7 ((rd_T36 x1 x11).f1)) < 0 then (assessorref09_distances.l2 k x1 (x7.set (((rd_T36 x1 x11).f1) : Int).toNat (wrap64 (x10 + 1))) true x10 (wrap64 (x11 + 1))) else (assessorref09_distances.l2 k x1 x7 x9 x10 (wrap64 (x11 + 1)))) else (none)) else (none)) else (assessorref09_distances.l2 k x1 x7 x9 x10 (wrap64 (x11 + 1)))) else (none)) else (none)) else (none)) else (none))
end
def assessorref09_distances.f (k : Nat) (a0 : Int) (l1 : List (S36)) (a2 : Int) : Option (List Int) := if 0 ≤ a0 then (if (a0 : Int).toNat ≤ 35184372088832 then (assessorref09_distances.l0 k a0 l1 a2 (List.replicate (a0 : Int).toNat 0) 0) else (none)) else (none)
set_option maxHeartbeats 8000000 in
set_option maxRecDepth 100000 in
theorem assessorref09_distances.calls (k : Nat) (a0 : Int) (A1 : Option Addr) (c1 : Nat) (l1 : List (S36)) (a2 : Int) (r : List Int) (w : World) (hr1 : Kd.C k36 w A1 l1.length l1) (hc1 : l1.length ≤ c1) (h : assessorref09_distances.f k a0 l1 a2 = some r) :
  Calls Try.prog 32 #[.int .i64 a0, .slice A1 l1.length c1, .int .i64 a2] w fun e w' => ∃ v0_ : Value, e = .returned (v0_) ∧ Kd.R (Kd.int .i64) 3 w' w.heap.size (fun _ => True) v0_ r ∧ Below w.heap.size w w' := by
 have HR1 := Aside0.mk hr1
 have HC1 := Aside0.mk hc1
 clear hr1 hc1
 have HB := Aside0.mk (Below.refl w.heap.size w)
 have H : (if 0 ≤ a0 then (if (a0 : Int).toNat ≤ 35184372088832 then (assessorref09_distances.l0 k a0 l1 a2 (List.replicate (a0 : Int).toNat 0) 0) else (none)) else (none)) = some r := h
 clear h
 by_cases c4 : 0 ≤ a0
 ·
  rw [if_pos c4] at H
  have c4b0 := eq_true c4
  have c4b1 : decide (0 ≤ a0) = true := decide_eq_true c4
  clear c4
  by_cases c5 : (a0 : Int).toNat ≤ 35184372088832
  ·
   rw [if_pos c5] at H
   have c5b0 := eq_true c5
   have c5b1 : decide ((a0 : Int).toNat ≤ 35184372088832) = true := decide_eq_true c5
   clear c5
   obtain ⟨y115, hy115⟩ : ∃ y_ : List Int, y_ = (List.replicate (a0 : Int).toNat 0) := ⟨_, rfl⟩
   replace H : (assessorref09_distances.l0 k a0 l1 a2 y115 0) = some r := by first | (rw [hy115]; with_reducible exact H) | (have H2_ := (Option.bind_some _ _).symm.trans H; rw [hy115]; with_reducible exact H2_) | (have H2_ := (Option.bind_some _ _).symm.trans H; with_reducible exact H2_) | with_reducible exact H | (rw [hy115]; exact H) | exact H
   have Ny115 := Aside0.mk hy115
   clear hy115; have H' := Aside0.mk H; clear H
   go_enter Try.func32, Try.ntmps32
   go_wp2_with (first | ((with_reducible refine gate_dst (N := 13) rfl ?_); refine Kd.R_make (Kd.int .i64) _ 3 rfl (N := 13) rfl 33 _ _ rfl a0 rfl rfl Try.underlying33 (.int .i64 0) 8 info3 rfl (by decide) (by omega) 0 (ok := fun _ => True) (okp := fun _ => True) rfl (fun _ hk => hk) trivial (of_decide_eq_true (by assumption)) (Nat.le_trans (Nat.mul_le_mul_right _ (of_decide_eq_true (by assumption) : a0.toNat ≤ 35184372088832)) (by omega)) (Below.refl _ _) (Nat.le_refl _) ?_; intro v116 w6 ho7 hb hg_ hnew_; clear hg_ hnew_; (first | rw [← Ny115.out] at ho7 | (simp only [Int.reduceToNat] at ho7; rw [← Ny115.out] at ho7)); have n0_ := Aside0.mk (Kd.R_lower ho7 (bZ (by repeat (first | (with_reducible first | exact HB.out | apply bA | apply bN | apply bD) | exact HB.out)))); have n1_ := Aside0.mk (bT (by repeat (first | (with_reducible first | exact HB.out | apply bA | apply bN | apply bD) | exact HB.out)) hb); clear HB; have HO117 := n0_; have HB := n1_; clear n0_ n1_; clear hb ho7))
   go_loopg [8] k (fun kq v8 w' => ∃ (x7_1 : List Int) (x8_1 : Int), v8 = .int .i64 x8_1 ∧ Aside0 (assessorref09_distances.l0 kq a0 l1 a2 x7_1 x8_1 = some r) ∧ Aside0 (kq ≤ k) ∧ Aside0 (Kd.R (Kd.int .i64) 3 w' w.heap.size (fun _ => True) v116 x7_1) ∧ Aside0 (Below w.heap.size w w'))
   case atStart => exact ⟨(y115), (0), (by first | rfl | (simp; done) | (simp [*]; done)), H', ⟨Nat.le_refl _⟩, ⟨by (with_reducible repeat (first | apply rA | apply rN | apply rD)); exact HO117.out⟩, ⟨by repeat (first | (with_reducible first | exact HB.out | apply bA | apply bN | apply bD) | exact HB.out)⟩⟩
   case round =>
    clear H'; (try clear c1); (try clear p2); (try clear c3); (try clear c4); (try clear c4b0); (try clear c4b1); (try clear c5); (try clear c5b0); (try clear c5b1)
    obtain ⟨x7_1, x8_1, rfl, HA, HK1, HO_7, HB⟩ := hrel
    cases gk with
    | zero => exact absurd HA.out (by simp [assessorref09_distances.l0])
    | succ k1 =>
     have H := HA.out
     clear HA
     simp only [assessorref09_distances.l0] at H
     by_cases c8 : x8_1 < a0
     ·
      rw [if_pos c8] at H
      have c8b0 : decide (x8_1 < a0) = true := decide_eq_true c8
      clear c8
      by_cases c9 : 0 ≤ x8_1
      ·
       rw [if_pos c9] at H
       have c9b0 : decide (0 ≤ x8_1) = true := decide_eq_true c9
       clear c9
       by_cases c10 : x8_1 < (x7_1.length : Int)
       ·
        rw [if_pos c10] at H
        have c10b0 : decide (x8_1 < (x7_1.length : Int)) = true := decide_eq_true c10
        clear c10
        obtain ⟨y118, hy118⟩ : ∃ y_ : List Int, y_ = (x7_1.set (x8_1 : Int).toNat (-1)) := ⟨_, rfl⟩
        replace H : (assessorref09_distances.l0 k1 a0 l1 a2 y118 (wrap64 (x8_1 + 1))) = some r := by first | (rw [hy118]; with_reducible exact H) | (have H2_ := (Option.bind_some _ _).symm.trans H; rw [hy118]; with_reducible exact H2_) | (have H2_ := (Option.bind_some _ _).symm.trans H; with_reducible exact H2_) | with_reducible exact H | (rw [hy118]; exact H) | exact H
        have Ny118 := Aside0.mk hy118
        clear hy118; have H' := Aside0.mk H; clear H
        have p11 : 0 ≤ (x8_1 : Int) := of_decide_eq_true (by assumption)
        have q11 : (x8_1 : Int) < ((x7_1.length : Int) : Int) := of_decide_eq_true (by assumption)
        obtain ⟨go11, co11, eo11, gb11, gl11, cl11, HG11⟩ := Kd.R_form HO_7.out (by omega)
        (first | cases eo11 | (injection eo11 with ea_ en_ ec_; (first | subst ea_ | (injection ea_ with ea_; subst ea_)); subst ec_; clear en_))
        have GB11 := Aside0.mk gb11
        have GG11 := Aside0.mk HG11
        clear gb11 gl11 HG11
        obtain ⟨hx11_0, hf11_0⟩ := Kd.R_celln 0 HO_7.out (x8_1 : Int) p11 q11
        replace p11 := eq_true p11; replace q11 := eq_true q11
        have HP12 := Kd.R_putg HO_7.out (x8_1 : Int) (-1)
        go_wp2_with (first | ((with_reducible refine gate_store (t := 3) (p := 21) rfl ?_); refine store_event (t := 3) (p := 21) (v := ?vo_w13) (w1 := (wr.setCell ⟨go11, (x8_1 : Int).toNat, none⟩ (.int .i64 (-1)))) ?hg ?ho ?hn ?hr ?_; (case ho => rfl); (case hg => rfl); (case hn => rfl); (case hr => first | (go_simp; done) | (go_simp; rfl)); intro w13 hw; have hg : wr.grownBy w13 (some go11) := (by rw [hw]; exact HP12.2); have hp_ : Kd.R (Kd.int .i64) 3 w13 w.heap.size (fun _ => True) (.slice (some ⟨go11, 0, none⟩) x7_1.length co11) y118 := (by rw [hw, Ny118.out]; exact HP12.1); clear HP12; have n0_ := Aside0.mk (hp_); have n1_ := Aside0.mk ((by rw [hw]; exact bS (HB.out) GB11.out : Below w.heap.size w w13)); clear HO_7; clear HB; have HO_7 := n0_; have HB := n1_; clear n0_ n1_; clear hg hw hp_))
        go_roundg k1
        case measure => have := HK1.out; omega
        case rel => exact ⟨(y118), (wrap64 (x8_1 + 1)), (by first | rfl | (simp; done) | (simp [*]; done)), H', ⟨by have := HK1.out; omega⟩, ⟨by (with_reducible repeat (first | apply rA | apply rN | apply rD)); exact HO_7.out⟩, ⟨by repeat (first | (with_reducible first | exact HB.out | apply bA | apply bN | apply bD) | exact HB.out)⟩⟩
       ·
        rw [if_neg c10] at H
        exact absurd H (by simp)
      ·
       rw [if_neg c9] at H
       exact absurd H (by simp)
     ·
      rw [if_neg c8] at H
      have c8b0 : decide (x8_1 < a0) = false := decide_eq_false c8
      clear c8
      by_cases c14 : 0 ≤ a2
      ·
       rw [if_pos c14] at H
       have c14b0 : decide (0 ≤ a2) = true := decide_eq_true c14
       clear c14
       by_cases c15 : a2 < (x7_1.length : Int)
       ·
        rw [if_pos c15] at H
        have c15b0 : decide (a2 < (x7_1.length : Int)) = true := decide_eq_true c15
        clear c15
        obtain ⟨y119, hy119⟩ : ∃ y_ : List Int, y_ = (x7_1.set (a2 : Int).toNat 0) := ⟨_, rfl⟩
        replace H : (assessorref09_distances.l1 k1 l1 y119 true 0) = some r := by first | (rw [hy119]; with_reducible exact H) | (have H2_ := (Option.bind_some _ _).symm.trans H; rw [hy119]; with_reducible exact H2_) | (have H2_ := (Option.bind_some _ _).symm.trans H; with_reducible exact H2_) | with_reducible exact H | (rw [hy119]; exact H) | exact H
        have Ny119 := Aside0.mk hy119
        clear hy119; have H' := Aside0.mk H; clear H
        have p16 : 0 ≤ (a2 : Int) := of_decide_eq_true (by assumption)
        have q16 : (a2 : Int) < ((x7_1.length : Int) : Int) := of_decide_eq_true (by assumption)
        obtain ⟨go16, co16, eo16, gb16, gl16, cl16, HG16⟩ := Kd.R_form HO_7.out (by omega)
        (first | cases eo16 | (injection eo16 with ea_ en_ ec_; (first | subst ea_ | (injection ea_ with ea_; subst ea_)); subst ec_; clear en_))
        have GB16 := Aside0.mk gb16
        have GG16 := Aside0.mk HG16
        clear gb16 gl16 HG16
        obtain ⟨hx16_0, hf16_0⟩ := Kd.R_celln 0 HO_7.out (a2 : Int) p16 q16
        replace p16 := eq_true p16; replace q16 := eq_true q16
        have HP17 := Kd.R_putg HO_7.out (a2 : Int) 0
        go_wp2_with (first | ((with_reducible refine gate_store (t := 3) (p := 24) rfl ?_); refine store_event (t := 3) (p := 24) (v := ?vo_w18) (w1 := (wr.setCell ⟨go16, (a2 : Int).toNat, none⟩ (.int .i64 0))) ?hg ?ho ?hn ?hr ?_; (case ho => rfl); (case hg => rfl); (case hn => rfl); (case hr => first | (go_simp; done) | (go_simp; rfl)); intro w18 hw; have hg : wr.grownBy w18 (some go16) := (by rw [hw]; exact HP17.2); have hp_ : Kd.R (Kd.int .i64) 3 w18 w.heap.size (fun _ => True) (.slice (some ⟨go16, 0, none⟩) x7_1.length co16) y119 := (by rw [hw, Ny119.out]; exact HP17.1); clear HP17; have n0_ := Aside0.mk (hp_); have n1_ := Aside0.mk ((by rw [hw]; exact bS (HB.out) GB16.out : Below w.heap.size w w18)); clear HO_7; clear HB; have HO_7 := n0_; have HB := n1_; clear n0_ n1_; clear hg hw hp_))
        go_loopg [9, 10] k1 (fun kq v9 v10 w' => ∃ (x7_2 : List Int) (x9_2 : Bool) (x10_2 : Int), v9 = .bool x9_2 ∧ v10 = .int .i64 x10_2 ∧ Aside0 (assessorref09_distances.l1 kq l1 x7_2 x9_2 x10_2 = some r) ∧ Aside0 (kq ≤ k1) ∧ Aside0 (Kd.R (Kd.int .i64) 3 w' w.heap.size (fun _ => True) (.slice (some ⟨go16, 0, none⟩) x7_1.length co16) x7_2) ∧ Aside0 (Below w.heap.size w w'))
        case atStart => exact ⟨(y119), (true), (0), (by first | rfl | (simp; done) | (simp [*]; done)), (by first | rfl | (simp; done) | (simp [*]; done)), H', ⟨Nat.le_refl _⟩, ⟨by (with_reducible repeat (first | apply rA | apply rN | apply rD)); exact HO_7.out⟩, ⟨by repeat (first | (with_reducible first | exact HB.out | apply bA | apply bN | apply bD) | exact HB.out)⟩⟩
        case round =>
         clear H'; (try clear c1); (try clear p1); (try clear q1); (try clear hx1); (try clear p2); (try clear c3); (try clear c4); (try clear c4b0); (try clear c4b1); (try clear c5); (try clear c5b0); (try clear c5b1); (try clear p6); (try clear c8); (try clear c8b0); (try clear c9); (try clear c9b0); (try clear c10); (try clear c10b0); (try clear p11); (try clear q11); (try clear hx11); (try clear hf11); (try clear c14); (try clear c14b0); (try clear c15); (try clear c15b0); (try clear p16); (try clear q16); (try clear hx16); (try clear hf16); (try clear hx11_0); (try clear hx16_0); (try clear p11); (try clear p16); (try clear p2); (try clear q11); (try clear q16)
         obtain ⟨x7_2, x9_2, x10_2, rfl, rfl, HA, HK2, HO_7, HB⟩ := hrel
         have hl7_2 := (Kd.R_reads' HO_7.out).1
         rw [hl7_2] at HO_7
         (try simp only [hl7_2])
         cases gk with
         | zero => exact absurd HA.out (by simp [assessorref09_distances.l1])
         | succ k2 =>
          have H := HA.out
          clear HA
          simp only [assessorref09_distances.l1] at H
          by_cases c19 : x9_2 = true
          ·
           subst c19
           have H1 : (assessorref09_distances.l2 k2 l1 x7_2 false x10_2 0) = some r := by rw [if_pos rfl] at H; exact H
           clear H; have H := H1; clear H1; have H' := Aside0.mk H; clear H
           go_wp2
           go_loopg [9, 11] k2 (fun kq v9 v11 w' => ∃ (x7_3 : List Int) (x9_3 : Bool) (x11_3 : Int), v9 = .bool x9_3 ∧ v11 = .int .i64 x11_3 ∧ Aside0 (assessorref09_distances.l2 kq l1 x7_3 x9_3 x10_2 x11_3 = some r) ∧ Aside0 (kq ≤ k2) ∧ Aside0 (Kd.R (Kd.int .i64) 3 w' w.heap.size (fun _ => True) (.slice (some ⟨go16, 0, none⟩) x7_2.length co16) x7_3) ∧ Aside0 (Below w.heap.size w w'))
           case atStart => exact ⟨(x7_2), (false), (0), (by first | rfl | (simp; done) | (simp [*]; done)), (by first | rfl | (simp; done) | (simp [*]; done)), H', ⟨Nat.le_refl _⟩, ⟨by (try simp only [hl7_2]); (with_reducible repeat (first | apply rA | apply rN | apply rD)); exact HO_7.out⟩, ⟨by repeat (first | (with_reducible first | exact HB.out | apply bA | apply bN | apply bD) | exact HB.out)⟩⟩
           case round =>
            clear H'; (try clear c1); (try clear p1); (try clear q1); (try clear hx1); (try clear p2); (try clear c3); (try clear c4); (try clear c4b0); (try clear c4b1); (try clear c5); (try clear c5b0); (try clear c5b1); (try clear p6); (try clear c8); (try clear c8b0); (try clear c9); (try clear c9b0); (try clear c10); (try clear c10b0); (try clear p11); (try clear q11); (try clear hx11); (try clear hf11); (try clear c14); (try clear c14b0); (try clear c15); (try clear c15b0); (try clear p16); (try clear q16); (try clear hx16); (try clear hf16); (try clear c19); (try clear hx11_0); (try clear hx16_0); (try clear p1); (try clear p11); (try clear p16); (try clear p2); (try clear p6); (try clear q1); (try clear q11); (try clear q16)
            obtain ⟨x7_3, x9_3, x11_3, rfl, rfl, HA, HK3, HO_7, HB⟩ := hrel
            have hl7_3 := (Kd.R_reads' HO_7.out).1
            rw [hl7_3] at HO_7
            (try simp only [hl7_3])
            cases gk with
            | zero => exact absurd HA.out (by simp [assessorref09_distances.l2])
            | succ k3 =>
             have H := HA.out
             clear HA
             simp only [assessorref09_distances.l2] at H
             by_cases c20 : x11_3 < (l1.length : Int)
             ·
              rw [if_pos c20] at H
              have c20b0 : decide (x11_3 < (l1.length : Int)) = true := decide_eq_true c20
              clear c20
              by_cases c21 : 0 ≤ x11_3
              ·
               rw [if_pos c21] at H
               have c21b0 : decide (0 ≤ x11_3) = true := decide_eq_true c21
               clear c21
               by_cases c22 : ((rd_T36 l1 x11_3).f0) = 1
               ·
                rw [if_pos c22] at H
                have c22b0 : (((rd_T36 l1 x11_3).f0) == 1) = true := beq_iff_eq.mpr c22
                have c22b1 : (((rd_T36 l1 x11_3).f0) != 1) = false := bne_eq_false_iff_eq.mpr c22
                clear c22
                have HC23 := Aside0.mk H
                clear H
                have p120 : 0 ≤ (x11_3 : Int) := of_decide_eq_true (by assumption)
                have q120 : x11_3 < (l1.length : Int) := of_decide_eq_true (by assumption)
                obtain ⟨ad120, e120, hx120_0, hx120_1, hx120_2, hx120_3, hx120_4, hx120_5, hx120_6, hx120_7⟩ := at_T36 HR1.out x11_3 p120 q120
                cases e120; replace hx120_0 := upc HB.out hx120_0; replace hx120_1 := upc HB.out hx120_1; replace hx120_2 := upc HB.out hx120_2; replace hx120_3 := upc HB.out hx120_3; replace hx120_4 := upc HB.out hx120_4; replace hx120_5 := upc HB.out hx120_5; replace hx120_6 := upc HB.out hx120_6; replace hx120_7 := upc HB.out hx120_7; replace p120 := eq_true p120; replace q120 := eq_true q120
                go_upto_region 16 with (fail)
                go_cut [60] (fun v60 wc => ∃ (kq : Nat) (x60_22 : Bool), v60 = .bool x60_22 ∧ Aside0 (assessorref09_distances.j3 kq l1 x7_3 x9_3 x10_2 x11_3 x60_22 = some r) ∧ Aside0 (kq ≤ k3) ∧ Aside0 (Kd.R (Kd.int .i64) 3 wc w.heap.size (fun _ => True) (.slice (some ⟨go16, 0, none⟩) x7_3.length co16) x7_3) ∧ Aside0 (Below w.heap.size w wc))
                case first =>
                 have H := HC23.out
                 clear HC23
                 by_cases c24 : 0 ≤ ((rd_T36 l1 x11_3).f1)
                 ·
                  rw [if_pos c24] at H
                  have c24b0 : decide (0 ≤ ((rd_T36 l1 x11_3).f1)) = true := decide_eq_true c24
                  clear c24
                  (first | rw [c24b0] | (simp only [i64_w, i32_w]; rw [c24b0]) | skip)
                  by_cases c25 : ((rd_T36 l1 x11_3).f1) < (x7_3.length : Int)
                  ·
                   rw [if_pos c25] at H
                   have c25b0 : decide (((rd_T36 l1 x11_3).f1) < (x7_3.length : Int)) = true := decide_eq_true c25
                   clear c25
                   by_cases c26 : (rd x7_3 ((rd_T36 l1 x11_3).f1)) = x10_2
                   ·
                    rw [if_pos c26] at H
                    have c26b0 : ((rd x7_3 ((rd_T36 l1 x11_3).f1)) == x10_2) = true := beq_iff_eq.mpr c26
                    have c26b1 : ((rd x7_3 ((rd_T36 l1 x11_3).f1)) != x10_2) = false := bne_eq_false_iff_eq.mpr c26
                    clear c26
                    by_cases c27 : 0 ≤ ((rd_T36 l1 x11_3).f2)
                    ·
                     rw [if_pos c27] at H
                     have c27b0 : decide (0 ≤ ((rd_T36 l1 x11_3).f2)) = true := decide_eq_true c27
                     clear c27
                     by_cases c28 : ((rd_T36 l1 x11_3).f2) < (x7_3.length : Int)
                     ·
                      rw [if_pos c28] at H
                      have c28b0 : decide (((rd_T36 l1 x11_3).f2) < (x7_3.length : Int)) = true := decide_eq_true c28
                      clear c28; have H' := Aside0.mk H; clear H
                      have p121 : 0 ≤ (x11_3 : Int) := of_decide_eq_true (by assumption)
                      have q121 : x11_3 < (l1.length : Int) := of_decide_eq_true (by assumption)
                      obtain ⟨ad121, e121, hx121_0, hx121_1, hx121_2, hx121_3, hx121_4, hx121_5, hx121_6, hx121_7⟩ := at_T36 HR1.out x11_3 p121 q121
                      obtain rfl : ad120 = ad121 := (by injection e121)
                      replace hx121_0 := upc HB.out hx121_0; replace hx121_1 := upc HB.out hx121_1; replace hx121_2 := upc HB.out hx121_2; replace hx121_3 := upc HB.out hx121_3; replace hx121_4 := upc HB.out hx121_4; replace hx121_5 := upc HB.out hx121_5; replace hx121_6 := upc HB.out hx121_6; replace hx121_7 := upc HB.out hx121_7; replace p121 := eq_true p121; replace q121 := eq_true q121
                      have p122 : 0 ≤ (((rd_T36 l1 x11_3).f1) : Int) := of_decide_eq_true (by assumption)
                      have q122 : ((rd_T36 l1 x11_3).f1) < (x7_3.length : Int) := of_decide_eq_true (by assumption)
                      obtain ⟨ad122, e122, hx122_0⟩ := Kd.at_int (Kd.R_reads' HO_7.out).2.2 ((rd_T36 l1 x11_3).f1) p122 q122
                      obtain rfl : (⟨go16, 0, none⟩ : Addr) = ad122 := (by injection e122)
                      (first | simp only [add_plain] at hx122_0 | simp only [add_at] at hx122_0 | simp only [Addr.add, Nat.zero_add] at hx122_0 | skip)
                      replace p122 := eq_true p122; replace q122 := eq_true q122
                      have p123 : 0 ≤ (x11_3 : Int) := of_decide_eq_true (by assumption)
                      have q123 : x11_3 < (l1.length : Int) := of_decide_eq_true (by assumption)
                      obtain ⟨ad123, e123, hx123_0, hx123_1, hx123_2, hx123_3, hx123_4, hx123_5, hx123_6, hx123_7⟩ := at_T36 HR1.out x11_3 p123 q123
                      obtain rfl : ad120 = ad123 := (by injection e123)
                      replace hx123_0 := upc HB.out hx123_0; replace hx123_1 := upc HB.out hx123_1; replace hx123_2 := upc HB.out hx123_2; replace hx123_3 := upc HB.out hx123_3; replace hx123_4 := upc HB.out hx123_4; replace hx123_5 := upc HB.out hx123_5; replace hx123_6 := upc HB.out hx123_6; replace hx123_7 := upc HB.out hx123_7; replace p123 := eq_true p123; replace q123 := eq_true q123
                      have p124 : 0 ≤ (((rd_T36 l1 x11_3).f2) : Int) := of_decide_eq_true (by assumption)
                      have q124 : ((rd_T36 l1 x11_3).f2) < (x7_3.length : Int) := of_decide_eq_true (by assumption)
                      obtain ⟨ad124, e124, hx124_0⟩ := Kd.at_int (Kd.R_reads' HO_7.out).2.2 ((rd_T36 l1 x11_3).f2) p124 q124
                      obtain rfl : (⟨go16, 0, none⟩ : Addr) = ad124 := (by injection e124)
                      (first | simp only [add_plain] at hx124_0 | simp only [add_at] at hx124_0 | simp only [Addr.add, Nat.zero_add] at hx124_0 | skip)
                      replace p124 := eq_true p124; replace q124 := eq_true q124
                      go_wp2
                      go_meet
                      case rel => exact ⟨_, (decide ((rd x7_3 ((rd_T36 l1 x11_3).f2)) < 0)), (by first | rfl | (simp; done) | (simp [*]; done)), H', ⟨by have := HK1.out; have := HK2.out; have := HK3.out; first | omega | exact Nat.le_refl _⟩, ⟨by (try simp only [hl7_2]); (try simp only [hl7_3]); (with_reducible repeat (first | apply rA | apply rN | apply rD)); exact HO_7.out⟩, ⟨by repeat (first | (with_reducible first | exact HB.out | apply bA | apply bN | apply bD) | exact HB.out)⟩⟩
                     ·
                      rw [if_neg c28] at H
                      exact absurd H (by simp)
                    ·
                     rw [if_neg c27] at H
                     exact absurd H (by simp)
                   ·
                    rw [if_neg c26] at H
                    have c26b0 : ((rd x7_3 ((rd_T36 l1 x11_3).f1)) == x10_2) = false := beq_eq_false_iff_ne.mpr c26
                    have c26b1 : ((rd x7_3 ((rd_T36 l1 x11_3).f1)) != x10_2) = true := bne_iff_ne.mpr c26
                    have H' := Aside0.mk H; clear H
                    have p121 : 0 ≤ (x11_3 : Int) := of_decide_eq_true (by assumption)
                    have q121 : x11_3 < (l1.length : Int) := of_decide_eq_true (by assumption)
                    obtain ⟨ad121, e121, hx121_0, hx121_1, hx121_2, hx121_3, hx121_4, hx121_5, hx121_6, hx121_7⟩ := at_T36 HR1.out x11_3 p121 q121
                    obtain rfl : ad120 = ad121 := (by injection e121)
                    replace hx121_0 := upc HB.out hx121_0; replace hx121_1 := upc HB.out hx121_1; replace hx121_2 := upc HB.out hx121_2; replace hx121_3 := upc HB.out hx121_3; replace hx121_4 := upc HB.out hx121_4; replace hx121_5 := upc HB.out hx121_5; replace hx121_6 := upc HB.out hx121_6; replace hx121_7 := upc HB.out hx121_7; replace p121 := eq_true p121; replace q121 := eq_true q121
                    have p122 : 0 ≤ (((rd_T36 l1 x11_3).f1) : Int) := of_decide_eq_true (by assumption)
                    have q122 : ((rd_T36 l1 x11_3).f1) < (x7_3.length : Int) := of_decide_eq_true (by assumption)
                    obtain ⟨ad122, e122, hx122_0⟩ := Kd.at_int (Kd.R_reads' HO_7.out).2.2 ((rd_T36 l1 x11_3).f1) p122 q122
                    obtain rfl : (⟨go16, 0, none⟩ : Addr) = ad122 := (by injection e122)
                    (first | simp only [add_plain] at hx122_0 | simp only [add_at] at hx122_0 | simp only [Addr.add, Nat.zero_add] at hx122_0 | skip)
                    replace p122 := eq_true p122; replace q122 := eq_true q122
                    go_wp2
                    go_meet
                    case rel => exact ⟨_, (false), (by first | rfl | (simp; done) | (simp [*]; done)), H', ⟨by have := HK1.out; have := HK2.out; have := HK3.out; first | omega | exact Nat.le_refl _⟩, ⟨by (try simp only [hl7_2]); (try simp only [hl7_3]); (with_reducible repeat (first | apply rA | apply rN | apply rD)); exact HO_7.out⟩, ⟨by repeat (first | (with_reducible first | exact HB.out | apply bA | apply bN | apply bD) | exact HB.out)⟩⟩
                  ·
                   rw [if_neg c25] at H
                   exact absurd H (by simp)
                 ·
                  rw [if_neg c24] at H
                  exact absurd H (by simp)
                case rest =>
                 clear HC23; (try clear c1); (try clear p1); (try clear q1); (try clear hx1); (try clear c2); (try clear p2); (try clear c3); (try clear c4); (try clear c4b0); (try clear c4b1); (try clear c5); (try clear c5b0); (try clear c5b1); (try clear p6); (try clear c8); (try clear c8b0); (try clear c9); (try clear c9b0); (try clear c10); (try clear c10b0); (try clear p11); (try clear q11); (try clear hx11); (try clear hf11); (try clear p12); (try clear q12); (try clear hx12); (try clear c14); (try clear c14b0); (try clear c15); (try clear c15b0); (try clear p16); (try clear q16); (try clear hx16); (try clear hf16); (try clear c19); (try clear c20); (try clear c20b0); (try clear c21); (try clear c21b0); (try clear c22); (try clear c22b0); (try clear c22b1); (try clear c24); (try clear c24b0); (try clear c25); (try clear c25b0); (try clear c26); (try clear c26b0); (try clear c26b1); (try clear c27); (try clear c27b0); (try clear c28); (try clear c28b0); (try clear hx11_0); (try clear hx120_0); (try clear hx120_1); (try clear hx120_2); (try clear hx120_3); (try clear hx120_4); (try clear hx120_5); (try clear hx120_6); (try clear hx120_7); (try clear hx121_0); (try clear hx121_1); (try clear hx121_2); (try clear hx121_3); (try clear hx121_4); (try clear hx121_5); (try clear hx121_6); (try clear hx121_7); (try clear hx122_0); (try clear hx123_0); (try clear hx123_1); (try clear hx123_2); (try clear hx123_3); (try clear hx123_4); (try clear hx123_5); (try clear hx123_6); (try clear hx123_7); (try clear hx124_0); (try clear hx16_0); (try clear p1); (try clear p11); (try clear p120); (try clear p121); (try clear p122); (try clear p123); (try clear p124); (try clear p16); (try clear p2); (try clear p6); (try clear q1); (try clear q11); (try clear q120); (try clear q121); (try clear q122); (try clear q123); (try clear q124); (try clear q16)
                 obtain ⟨kq, x60_22, rfl, HA, HJ22, HO_7, HB⟩ := hcut
                 cases kq with
                 | zero => exact absurd HA.out (by simp [assessorref09_distances.j3])
                 | succ kj22 =>
                  have H := HA.out
                  clear HA
                  simp only [assessorref09_distances.j3] at H
                  by_cases c29 : x60_22 = true
                  ·
                   subst c29
                   have H1 : (if 0 ≤ x11_3 then (if x11_3 < (l1.length : Int) then (if 0 ≤ ((rd_T36 l1 x11_3).f2) then (if ((rd_T36 l1 x11_3).f2) < (x7_3.length : Int) then ((some (x7_3.set (((rd_T36 l1 x11_3).f2) : Int).toNat (wrap64 (x10_2 + 1)) : List Int)).bind fun y126 => (if (rd y126 ((rd_T36 l1 x11_3).f2)) = x10_2 then (if 0 ≤ ((rd_T36 l1 x11_3).f1) then (if ((rd_T36 l1 x11_3).f1) < (x7_3.length : Int) then (if (rd y126 ((rd_T36 l1 x11_3).f1)) < 0 then (assessorref09_distances.l2 kj22 l1 (y126.set (((rd_T36 l1 x11_3).f1) : Int).toNat (wrap64 (x10_2 + 1))) true x10_2 (wrap64 (x11_3 + 1))) else (assessorref09_distances.l2 kj22 l1 y126 true x10_2 (wrap64 (x11_3 + 1)))) else (none)) else (none)) else (assessorref09_distances.l2 kj22 l1 y126 true x10_2 (wrap64 (x11_3 + 1))))) else (none)) else (none)) else (none)) else (none)) = some r := by rw [if_pos rfl] at H; exact H
                   clear H; have H := H1; clear H1
                   by_cases c30 : 0 ≤ x11_3
                   ·
                    rw [if_pos c30] at H
                    have c30b0 : decide (0 ≤ x11_3) = true := decide_eq_true c30
                    clear c30
                    by_cases c31 : x11_3 < (l1.length : Int)
                    ·
                     rw [if_pos c31] at H
                     have c31b0 : decide (x11_3 < (l1.length : Int)) = true := decide_eq_true c31
                     clear c31
                     by_cases c32 : 0 ≤ ((rd_T36 l1 x11_3).f2)
                     ·
                      rw [if_pos c32] at H
                      have c32b0 : decide (0 ≤ ((rd_T36 l1 x11_3).f2)) = true := decide_eq_true c32
                      clear c32
                      by_cases c33 : ((rd_T36 l1 x11_3).f2) < (x7_3.length : Int)
                      ·
                       rw [if_pos c33] at H
                       have c33b0 : decide (((rd_T36 l1 x11_3).f2) < (x7_3.length : Int)) = true := decide_eq_true c33
                       clear c33
                       obtain ⟨y126, hy126⟩ : ∃ y_ : List Int, y_ = (x7_3.set (((rd_T36 l1 x11_3).f2) : Int).toNat (wrap64 (x10_2 + 1))) := ⟨_, rfl⟩
                       replace H : (if (rd y126 ((rd_T36 l1 x11_3).f2)) = x10_2 then (if 0 ≤ ((rd_T36 l1 x11_3).f1) then (if ((rd_T36 l1 x11_3).f1) < (x7_3.length : Int) then (if (rd y126 ((rd_T36 l1 x11_3).f1)) < 0 then (assessorref09_distances.l2 kj22 l1 (y126.set (((rd_T36 l1 x11_3).f1) : Int).toNat (wrap64 (x10_2 + 1))) true x10_2 (wrap64 (x11_3 + 1))) else (assessorref09_distances.l2 kj22 l1 y126 true x10_2 (wrap64 (x11_3 + 1)))) else (none)) else (none)) else (assessorref09_distances.l2 kj22 l1 y126 true x10_2 (wrap64 (x11_3 + 1)))) = some r := by first | (rw [hy126]; with_reducible exact H) | (have H2_ := (Option.bind_some _ _).symm.trans H; rw [hy126]; with_reducible exact H2_) | (have H2_ := (Option.bind_some _ _).symm.trans H; with_reducible exact H2_) | with_reducible exact H | (rw [hy126]; exact H) | exact H
                       have Ny126 := Aside0.mk hy126
                       clear hy126
                       by_cases c35 : (rd y126 ((rd_T36 l1 x11_3).f2)) = x10_2
                       ·
                        rw [if_pos c35] at H
                        have c35b0 : ((rd y126 ((rd_T36 l1 x11_3).f2)) == x10_2) = true := beq_iff_eq.mpr c35
                        have c35b1 : ((rd y126 ((rd_T36 l1 x11_3).f2)) != x10_2) = false := bne_eq_false_iff_eq.mpr c35
                        clear c35
                        by_cases c36 : 0 ≤ ((rd_T36 l1 x11_3).f1)
                        ·
                         rw [if_pos c36] at H
                         have c36b0 : decide (0 ≤ ((rd_T36 l1 x11_3).f1)) = true := decide_eq_true c36
                         clear c36
                         by_cases c37 : ((rd_T36 l1 x11_3).f1) < (x7_3.length : Int)
                         ·
                          rw [if_pos c37] at H
                          have c37b0 : decide (((rd_T36 l1 x11_3).f1) < (x7_3.length : Int)) = true := decide_eq_true c37
                          clear c37
                          by_cases c38 : (rd y126 ((rd_T36 l1 x11_3).f1)) < 0
                          ·
                           rw [if_pos c38] at H
                           have c38b0 : decide ((rd y126 ((rd_T36 l1 x11_3).f1)) < 0) = true := decide_eq_true c38
                           clear c38
                           obtain ⟨y132, hy132⟩ : ∃ y_ : List Int, y_ = (y126.set (((rd_T36 l1 x11_3).f1) : Int).toNat (wrap64 (x10_2 + 1))) := ⟨_, rfl⟩
                           replace H : (assessorref09_distances.l2 kj22 l1 y132 true x10_2 (wrap64 (x11_3 + 1))) = some r := by first | (rw [hy132]; with_reducible exact H) | (have H2_ := (Option.bind_some _ _).symm.trans H; rw [hy132]; with_reducible exact H2_) | (have H2_ := (Option.bind_some _ _).symm.trans H; with_reducible exact H2_) | with_reducible exact H | (rw [hy132]; exact H) | exact H
                           have Ny132 := Aside0.mk hy132
                           clear hy132; have H' := Aside0.mk H; clear H
                           have p125 : 0 ≤ (x11_3 : Int) := of_decide_eq_true (by assumption)
                           have q125 : x11_3 < (l1.length : Int) := of_decide_eq_true (by assumption)
                           obtain ⟨ad125, e125, hx125_0, hx125_1, hx125_2, hx125_3, hx125_4, hx125_5, hx125_6, hx125_7⟩ := at_T36 HR1.out x11_3 p125 q125
                           obtain rfl : ad120 = ad125 := (by injection e125)
                           replace hx125_0 := upc HB.out hx125_0; replace hx125_1 := upc HB.out hx125_1; replace hx125_2 := upc HB.out hx125_2; replace hx125_3 := upc HB.out hx125_3; replace hx125_4 := upc HB.out hx125_4; replace hx125_5 := upc HB.out hx125_5; replace hx125_6 := upc HB.out hx125_6; replace hx125_7 := upc HB.out hx125_7; replace p125 := eq_true p125; replace q125 := eq_true q125
                           have p34 : 0 ≤ (((rd_T36 l1 x11_3).f2) : Int) := of_decide_eq_true (by assumption)
                           have q34 : (((rd_T36 l1 x11_3).f2) : Int) < ((x7_3.length : Int) : Int) := of_decide_eq_true (by assumption)
                           obtain ⟨hx34_0, hf34_0⟩ := Kd.R_celln 0 HO_7.out (((rd_T36 l1 x11_3).f2) : Int) p34 q34
                           replace p34 := eq_true p34; replace q34 := eq_true q34
                           have HP40 := Kd.R_putg HO_7.out (((rd_T36 l1 x11_3).f2) : Int) (wrap64 (x10_2 + 1))
                           go_wp2_with (first | ((with_reducible refine gate_store (t := 3) (p := 69) rfl ?_); refine store_event (t := 3) (p := 69) (v := ?vo_w41) (w1 := (wc.setCell ⟨go16, (((rd_T36 l1 x11_3).f2) : Int).toNat, none⟩ (.int .i64 (wrap64 (x10_2 + 1))))) ?hg ?ho ?hn ?hr ?_; (case ho => rfl); (case hg => rfl); (case hn => rfl); (case hr => first | (go_simp; done) | (go_simp; rfl)); intro w41 hw; have hg : wc.grownBy w41 (some go16) := (by rw [hw]; exact HP40.2); have hp_ : Kd.R (Kd.int .i64) 3 w41 w.heap.size (fun _ => True) (.slice (some ⟨go16, 0, none⟩) x7_3.length co16) y126 := (by rw [hw, Ny126.out]; exact HP40.1); clear HP40; have n0_ := Aside0.mk (hp_); have n1_ := Aside0.mk ((by rw [hw]; exact bS (HB.out) GB16.out : Below w.heap.size w w41)); clear HO_7; clear HB; have HO_7 := n0_; have HB := n1_; clear n0_ n1_; clear hg hw hp_; have p127 : 0 ≤ (x11_3 : Int) := of_decide_eq_true (by assumption); have q127 : x11_3 < (l1.length : Int) := of_decide_eq_true (by assumption); obtain ⟨ad127, e127, hx127_0, hx127_1, hx127_2, hx127_3, hx127_4, hx127_5, hx127_6, hx127_7⟩ := at_T36 HR1.out x11_3 p127 q127; obtain rfl : ad120 = ad127 := (by injection e127); replace hx127_0 := upc HB.out hx127_0; replace hx127_1 := upc HB.out hx127_1; replace hx127_2 := upc HB.out hx127_2; replace hx127_3 := upc HB.out hx127_3; replace hx127_4 := upc HB.out hx127_4; replace hx127_5 := upc HB.out hx127_5; replace hx127_6 := upc HB.out hx127_6; replace hx127_7 := upc HB.out hx127_7; replace p127 := eq_true p127; replace q127 := eq_true q127; have p128 : 0 ≤ (((rd_T36 l1 x11_3).f2) : Int) := of_decide_eq_true (by assumption); have q128 : ((rd_T36 l1 x11_3).f2) < (y126.length : Int) := (by have h_ : (((rd_T36 l1 x11_3).f2) : Int) < ((x7_3.length : Int) : Int) := of_decide_eq_true (by assumption); first | (have e_ := (Kd.R_reads' HO_7.out).1; omega) | simpa only [Ny126.out, List.length_set] using h_); have ql128 : ((((rd_T36 l1 x11_3).f2) : Int) < ((x7_3.length : Int) : Int)) = True := eq_true (of_decide_eq_true (by assumption)); obtain ⟨ad128, e128, hx128_0⟩ := Kd.at_int (Kd.R_reads' HO_7.out).2.2 ((rd_T36 l1 x11_3).f2) p128 q128; obtain rfl : (⟨go16, 0, none⟩ : Addr) = ad128 := (by injection e128); (first | simp only [add_plain] at hx128_0 | simp only [add_at] at hx128_0 | simp only [Addr.add, Nat.zero_add] at hx128_0 | skip); replace p128 := eq_true p128; replace q128 := eq_true q128; have p129 : 0 ≤ (x11_3 : Int) := of_decide_eq_true (by assumption); have q129 : x11_3 < (l1.length : Int) := of_decide_eq_true (by assumption); obtain ⟨ad129, e129, hx129_0, hx129_1, hx129_2, hx129_3, hx129_4, hx129_5, hx129_6, hx129_7⟩ := at_T36 HR1.out x11_3 p129 q129; obtain rfl : ad120 = ad129 := (by injection e129); replace hx129_0 := upc HB.out hx129_0; replace hx129_1 := upc HB.out hx129_1; replace hx129_2 := upc HB.out hx129_2; replace hx129_3 := upc HB.out hx129_3; replace hx129_4 := upc HB.out hx129_4; replace hx129_5 := upc HB.out hx129_5; replace hx129_6 := upc HB.out hx129_6; replace hx129_7 := upc HB.out hx129_7; replace p129 := eq_true p129; replace q129 := eq_true q129; have p130 : 0 ≤ (((rd_T36 l1 x11_3).f1) : Int) := of_decide_eq_true (by assumption); have q130 : ((rd_T36 l1 x11_3).f1) < (y126.length : Int) := (by have h_ : (((rd_T36 l1 x11_3).f1) : Int) < ((x7_3.length : Int) : Int) := of_decide_eq_true (by assumption); first | (have e_ := (Kd.R_reads' HO_7.out).1; omega) | simpa only [Ny126.out, List.length_set] using h_); have ql130 : ((((rd_T36 l1 x11_3).f1) : Int) < ((x7_3.length : Int) : Int)) = True := eq_true (of_decide_eq_true (by assumption)); obtain ⟨ad130, e130, hx130_0⟩ := Kd.at_int (Kd.R_reads' HO_7.out).2.2 ((rd_T36 l1 x11_3).f1) p130 q130; obtain rfl : (⟨go16, 0, none⟩ : Addr) = ad130 := (by injection e130); (first | simp only [add_plain] at hx130_0 | simp only [add_at] at hx130_0 | simp only [Addr.add, Nat.zero_add] at hx130_0 | skip); replace p130 := eq_true p130; replace q130 := eq_true q130; have p131 : 0 ≤ (x11_3 : Int) := of_decide_eq_true (by assumption); have q131 : x11_3 < (l1.length : Int) := of_decide_eq_true (by assumption); obtain ⟨ad131, e131, hx131_0, hx131_1, hx131_2, hx131_3, hx131_4, hx131_5, hx131_6, hx131_7⟩ := at_T36 HR1.out x11_3 p131 q131; obtain rfl : ad120 = ad131 := (by injection e131); replace hx131_0 := upc HB.out hx131_0; replace hx131_1 := upc HB.out hx131_1; replace hx131_2 := upc HB.out hx131_2; replace hx131_3 := upc HB.out hx131_3; replace hx131_4 := upc HB.out hx131_4; replace hx131_5 := upc HB.out hx131_5; replace hx131_6 := upc HB.out hx131_6; replace hx131_7 := upc HB.out hx131_7; replace p131 := eq_true p131; replace q131 := eq_true q131; have p39 : 0 ≤ (((rd_T36 l1 x11_3).f1) : Int) := of_decide_eq_true (by assumption); have q39 : (((rd_T36 l1 x11_3).f1) : Int) < ((x7_3.length : Int) : Int) := of_decide_eq_true (by assumption); obtain ⟨hx39_0, hf39_0⟩ := Kd.R_celln 0 HO_7.out (((rd_T36 l1 x11_3).f1) : Int) p39 q39; replace p39 := eq_true p39; replace q39 := eq_true q39; obtain ⟨hy42_, hz42_⟩ := Kd.R_celln 0 HO_7.out (((rd_T36 l1 x11_3).f1) : Int) (of_decide_eq_true (by assumption)) (of_decide_eq_true (by assumption)); have HP42 := Kd.R_putg HO_7.out (((rd_T36 l1 x11_3).f1) : Int) (wrap64 (x10_2 + 1))) | ((with_reducible refine gate_store (t := 3) (p := 99) rfl ?_); refine store_event (t := 3) (p := 99) (v := ?vo_w43) (w1 := (w41.setCell ⟨go16, (((rd_T36 l1 x11_3).f1) : Int).toNat, none⟩ (.int .i64 (wrap64 (x10_2 + 1))))) ?hg ?ho ?hn ?hr ?_; (case ho => rfl); (case hg => rfl); (case hn => rfl); (case hr => first | (go_simp; done) | (go_simp; rfl)); intro w43 hw; have hg : w41.grownBy w43 (some go16) := (by rw [hw]; exact HP42.2); have hp_ : Kd.R (Kd.int .i64) 3 w43 w.heap.size (fun _ => True) (.slice (some ⟨go16, 0, none⟩) x7_3.length co16) y132 := (by rw [hw, Ny132.out]; exact HP42.1); clear HP42; have n0_ := Aside0.mk (hp_); have n1_ := Aside0.mk ((by rw [hw]; exact bS (HB.out) GB16.out : Below w.heap.size w w43)); clear HO_7; clear HB; have HO_7 := n0_; have HB := n1_; clear n0_ n1_; clear hg hw hp_))
                           (try simp only [← hl7_3])
                           go_roundg kj22
                           case measure => have := HK1.out; have := HK2.out; have := HK3.out; have := HJ22.out; omega
                           case rel => exact ⟨(y132), (true), (wrap64 (x11_3 + 1)), (by first | rfl | (simp; done) | (simp [*]; done)), (by first | rfl | (simp; done) | (simp [*]; done)), H', ⟨by have := HK1.out; have := HK2.out; have := HK3.out; have := HJ22.out; omega⟩, ⟨by (try simp only [hl7_2]); (try simp only [hl7_3]); (with_reducible repeat (first | apply rA | apply rN | apply rD)); exact HO_7.out⟩, ⟨by repeat (first | (with_reducible first | exact HB.out | apply bA | apply bN | apply bD) | exact HB.out)⟩⟩
                          ·
                           rw [if_neg c38] at H
                           have c38b0 : decide ((rd y126 ((rd_T36 l1 x11_3).f1)) < 0) = false := decide_eq_false c38
                           clear c38; have H' := Aside0.mk H; clear H
                           have p125 : 0 ≤ (x11_3 : Int) := of_decide_eq_true (by assumption)
                           have q125 : x11_3 < (l1.length : Int) := of_decide_eq_true (by assumption)
                           obtain ⟨ad125, e125, hx125_0, hx125_1, hx125_2, hx125_3, hx125_4, hx125_5, hx125_6, hx125_7⟩ := at_T36 HR1.out x11_3 p125 q125
                           obtain rfl : ad120 = ad125 := (by injection e125)
                           replace hx125_0 := upc HB.out hx125_0; replace hx125_1 := upc HB.out hx125_1; replace hx125_2 := upc HB.out hx125_2; replace hx125_3 := upc HB.out hx125_3; replace hx125_4 := upc HB.out hx125_4; replace hx125_5 := upc HB.out hx125_5; replace hx125_6 := upc HB.out hx125_6; replace hx125_7 := upc HB.out hx125_7; replace p125 := eq_true p125; replace q125 := eq_true q125
                           have p34 : 0 ≤ (((rd_T36 l1 x11_3).f2) : Int) := of_decide_eq_true (by assumption)
                           have q34 : (((rd_T36 l1 x11_3).f2) : Int) < ((x7_3.length : Int) : Int) := of_decide_eq_true (by assumption)
                           obtain ⟨hx34_0, hf34_0⟩ := Kd.R_celln 0 HO_7.out (((rd_T36 l1 x11_3).f2) : Int) p34 q34
                           replace p34 := eq_true p34; replace q34 := eq_true q34
                           have HP44 := Kd.R_putg HO_7.out (((rd_T36 l1 x11_3).f2) : Int) (wrap64 (x10_2 + 1))
                           go_wp2_with (first | ((with_reducible refine gate_store (t := 3) (p := 69) rfl ?_); refine store_event (t := 3) (p := 69) (v := ?vo_w45) (w1 := (wc.setCell ⟨go16, (((rd_T36 l1 x11_3).f2) : Int).toNat, none⟩ (.int .i64 (wrap64 (x10_2 + 1))))) ?hg ?ho ?hn ?hr ?_; (case ho => rfl); (case hg => rfl); (case hn => rfl); (case hr => first | (go_simp; done) | (go_simp; rfl)); intro w45 hw; have hg : wc.grownBy w45 (some go16) := (by rw [hw]; exact HP44.2); have hp_ : Kd.R (Kd.int .i64) 3 w45 w.heap.size (fun _ => True) (.slice (some ⟨go16, 0, none⟩) x7_3.length co16) y126 := (by rw [hw, Ny126.out]; exact HP44.1); clear HP44; have n0_ := Aside0.mk (hp_); have n1_ := Aside0.mk ((by rw [hw]; exact bS (HB.out) GB16.out : Below w.heap.size w w45)); clear HO_7; clear HB; have HO_7 := n0_; have HB := n1_; clear n0_ n1_; clear hg hw hp_; have p127 : 0 ≤ (x11_3 : Int) := of_decide_eq_true (by assumption); have q127 : x11_3 < (l1.length : Int) := of_decide_eq_true (by assumption); obtain ⟨ad127, e127, hx127_0, hx127_1, hx127_2, hx127_3, hx127_4, hx127_5, hx127_6, hx127_7⟩ := at_T36 HR1.out x11_3 p127 q127; obtain rfl : ad120 = ad127 := (by injection e127); replace hx127_0 := upc HB.out hx127_0; replace hx127_1 := upc HB.out hx127_1; replace hx127_2 := upc HB.out hx127_2; replace hx127_3 := upc HB.out hx127_3; replace hx127_4 := upc HB.out hx127_4; replace hx127_5 := upc HB.out hx127_5; replace hx127_6 := upc HB.out hx127_6; replace hx127_7 := upc HB.out hx127_7; replace p127 := eq_true p127; replace q127 := eq_true q127; have p128 : 0 ≤ (((rd_T36 l1 x11_3).f2) : Int) := of_decide_eq_true (by assumption); have q128 : ((rd_T36 l1 x11_3).f2) < (y126.length : Int) := (by have h_ : (((rd_T36 l1 x11_3).f2) : Int) < ((x7_3.length : Int) : Int) := of_decide_eq_true (by assumption); first | (have e_ := (Kd.R_reads' HO_7.out).1; omega) | simpa only [Ny126.out, List.length_set] using h_); have ql128 : ((((rd_T36 l1 x11_3).f2) : Int) < ((x7_3.length : Int) : Int)) = True := eq_true (of_decide_eq_true (by assumption)); obtain ⟨ad128, e128, hx128_0⟩ := Kd.at_int (Kd.R_reads' HO_7.out).2.2 ((rd_T36 l1 x11_3).f2) p128 q128; obtain rfl : (⟨go16, 0, none⟩ : Addr) = ad128 := (by injection e128); (first | simp only [add_plain] at hx128_0 | simp only [add_at] at hx128_0 | simp only [Addr.add, Nat.zero_add] at hx128_0 | skip); replace p128 := eq_true p128; replace q128 := eq_true q128; have p129 : 0 ≤ (x11_3 : Int) := of_decide_eq_true (by assumption); have q129 : x11_3 < (l1.length : Int) := of_decide_eq_true (by assumption); obtain ⟨ad129, e129, hx129_0, hx129_1, hx129_2, hx129_3, hx129_4, hx129_5, hx129_6, hx129_7⟩ := at_T36 HR1.out x11_3 p129 q129; obtain rfl : ad120 = ad129 := (by injection e129); replace hx129_0 := upc HB.out hx129_0; replace hx129_1 := upc HB.out hx129_1; replace hx129_2 := upc HB.out hx129_2; replace hx129_3 := upc HB.out hx129_3; replace hx129_4 := upc HB.out hx129_4; replace hx129_5 := upc HB.out hx129_5; replace hx129_6 := upc HB.out hx129_6; replace hx129_7 := upc HB.out hx129_7; replace p129 := eq_true p129; replace q129 := eq_true q129; have p130 : 0 ≤ (((rd_T36 l1 x11_3).f1) : Int) := of_decide_eq_true (by assumption); have q130 : ((rd_T36 l1 x11_3).f1) < (y126.length : Int) := (by have h_ : (((rd_T36 l1 x11_3).f1) : Int) < ((x7_3.length : Int) : Int) := of_decide_eq_true (by assumption); first | (have e_ := (Kd.R_reads' HO_7.out).1; omega) | simpa only [Ny126.out, List.length_set] using h_); have ql130 : ((((rd_T36 l1 x11_3).f1) : Int) < ((x7_3.length : Int) : Int)) = True := eq_true (of_decide_eq_true (by assumption)); obtain ⟨ad130, e130, hx130_0⟩ := Kd.at_int (Kd.R_reads' HO_7.out).2.2 ((rd_T36 l1 x11_3).f1) p130 q130; obtain rfl : (⟨go16, 0, none⟩ : Addr) = ad130 := (by injection e130); (first | simp only [add_plain] at hx130_0 | simp only [add_at] at hx130_0 | simp only [Addr.add, Nat.zero_add] at hx130_0 | skip); replace p130 := eq_true p130; replace q130 := eq_true q130))
                           (try simp only [← hl7_3])
                           go_roundg kj22
                           case measure => have := HK1.out; have := HK2.out; have := HK3.out; have := HJ22.out; omega
                           case rel => exact ⟨(y126), (true), (wrap64 (x11_3 + 1)), (by first | rfl | (simp; done) | (simp [*]; done)), (by first | rfl | (simp; done) | (simp [*]; done)), H', ⟨by have := HK1.out; have := HK2.out; have := HK3.out; have := HJ22.out; omega⟩, ⟨by (try simp only [hl7_2]); (try simp only [hl7_3]); (with_reducible repeat (first | apply rA | apply rN | apply rD)); exact HO_7.out⟩, ⟨by repeat (first | (with_reducible first | exact HB.out | apply bA | apply bN | apply bD) | exact HB.out)⟩⟩
                         ·
                          rw [if_neg c37] at H
                          exact absurd H (by simp)
                        ·
                         rw [if_neg c36] at H
                         exact absurd H (by simp)
                       ·
                        rw [if_neg c35] at H
                        have c35b0 : ((rd y126 ((rd_T36 l1 x11_3).f2)) == x10_2) = false := beq_eq_false_iff_ne.mpr c35
                        have c35b1 : ((rd y126 ((rd_T36 l1 x11_3).f2)) != x10_2) = true := bne_iff_ne.mpr c35
                        have H' := Aside0.mk H; clear H
                        have p125 : 0 ≤ (x11_3 : Int) := of_decide_eq_true (by assumption)
                        have q125 : x11_3 < (l1.length : Int) := of_decide_eq_true (by assumption)
                        obtain ⟨ad125, e125, hx125_0, hx125_1, hx125_2, hx125_3, hx125_4, hx125_5, hx125_6, hx125_7⟩ := at_T36 HR1.out x11_3 p125 q125
                        obtain rfl : ad120 = ad125 := (by injection e125)
                        replace hx125_0 := upc HB.out hx125_0; replace hx125_1 := upc HB.out hx125_1; replace hx125_2 := upc HB.out hx125_2; replace hx125_3 := upc HB.out hx125_3; replace hx125_4 := upc HB.out hx125_4; replace hx125_5 := upc HB.out hx125_5; replace hx125_6 := upc HB.out hx125_6; replace hx125_7 := upc HB.out hx125_7; replace p125 := eq_true p125; replace q125 := eq_true q125
                        have p34 : 0 ≤ (((rd_T36 l1 x11_3).f2) : Int) := of_decide_eq_true (by assumption)
                        have q34 : (((rd_T36 l1 x11_3).f2) : Int) < ((x7_3.length : Int) : Int) := of_decide_eq_true (by assumption)
                        obtain ⟨hx34_0, hf34_0⟩ := Kd.R_celln 0 HO_7.out (((rd_T36 l1 x11_3).f2) : Int) p34 q34
                        replace p34 := eq_true p34; replace q34 := eq_true q34
                        have HP46 := Kd.R_putg HO_7.out (((rd_T36 l1 x11_3).f2) : Int) (wrap64 (x10_2 + 1))
                        go_wp2_with (first | ((with_reducible refine gate_store (t := 3) (p := 69) rfl ?_); refine store_event (t := 3) (p := 69) (v := ?vo_w47) (w1 := (wc.setCell ⟨go16, (((rd_T36 l1 x11_3).f2) : Int).toNat, none⟩ (.int .i64 (wrap64 (x10_2 + 1))))) ?hg ?ho ?hn ?hr ?_; (case ho => rfl); (case hg => rfl); (case hn => rfl); (case hr => first | (go_simp; done) | (go_simp; rfl)); intro w47 hw; have hg : wc.grownBy w47 (some go16) := (by rw [hw]; exact HP46.2); have hp_ : Kd.R (Kd.int .i64) 3 w47 w.heap.size (fun _ => True) (.slice (some ⟨go16, 0, none⟩) x7_3.length co16) y126 := (by rw [hw, Ny126.out]; exact HP46.1); clear HP46; have n0_ := Aside0.mk (hp_); have n1_ := Aside0.mk ((by rw [hw]; exact bS (HB.out) GB16.out : Below w.heap.size w w47)); clear HO_7; clear HB; have HO_7 := n0_; have HB := n1_; clear n0_ n1_; clear hg hw hp_; have p127 : 0 ≤ (x11_3 : Int) := of_decide_eq_true (by assumption); have q127 : x11_3 < (l1.length : Int) := of_decide_eq_true (by assumption); obtain ⟨ad127, e127, hx127_0, hx127_1, hx127_2, hx127_3, hx127_4, hx127_5, hx127_6, hx127_7⟩ := at_T36 HR1.out x11_3 p127 q127; obtain rfl : ad120 = ad127 := (by injection e127); replace hx127_0 := upc HB.out hx127_0; replace hx127_1 := upc HB.out hx127_1; replace hx127_2 := upc HB.out hx127_2; replace hx127_3 := upc HB.out hx127_3; replace hx127_4 := upc HB.out hx127_4; replace hx127_5 := upc HB.out hx127_5; replace hx127_6 := upc HB.out hx127_6; replace hx127_7 := upc HB.out hx127_7; replace p127 := eq_true p127; replace q127 := eq_true q127; have p128 : 0 ≤ (((rd_T36 l1 x11_3).f2) : Int) := of_decide_eq_true (by assumption); have q128 : ((rd_T36 l1 x11_3).f2) < (y126.length : Int) := (by have h_ : (((rd_T36 l1 x11_3).f2) : Int) < ((x7_3.length : Int) : Int) := of_decide_eq_true (by assumption); first | (have e_ := (Kd.R_reads' HO_7.out).1; omega) | simpa only [Ny126.out, List.length_set] using h_); have ql128 : ((((rd_T36 l1 x11_3).f2) : Int) < ((x7_3.length : Int) : Int)) = True := eq_true (of_decide_eq_true (by assumption)); obtain ⟨ad128, e128, hx128_0⟩ := Kd.at_int (Kd.R_reads' HO_7.out).2.2 ((rd_T36 l1 x11_3).f2) p128 q128; obtain rfl : (⟨go16, 0, none⟩ : Addr) = ad128 := (by injection e128); (first | simp only [add_plain] at hx128_0 | simp only [add_at] at hx128_0 | simp only [Addr.add, Nat.zero_add] at hx128_0 | skip); replace p128 := eq_true p128; replace q128 := eq_true q128))
                        (try simp only [← hl7_3])
                        go_roundg kj22
                        case measure => have := HK1.out; have := HK2.out; have := HK3.out; have := HJ22.out; omega
                        case rel => exact ⟨(y126), (true), (wrap64 (x11_3 + 1)), (by first | rfl | (simp; done) | (simp [*]; done)), (by first | rfl | (simp; done) | (simp [*]; done)), H', ⟨by have := HK1.out; have := HK2.out; have := HK3.out; have := HJ22.out; omega⟩, ⟨by (try simp only [hl7_2]); (try simp only [hl7_3]); (with_reducible repeat (first | apply rA | apply rN | apply rD)); exact HO_7.out⟩, ⟨by repeat (first | (with_reducible first | exact HB.out | apply bA | apply bN | apply bD) | exact HB.out)⟩⟩
                      ·
                       rw [if_neg c33] at H
                       exact absurd H (by simp)
                     ·
                      rw [if_neg c32] at H
                      exact absurd H (by simp)
                    ·
                     rw [if_neg c31] at H
                     exact absurd H (by simp)
                   ·
                    rw [if_neg c30] at H
                    exact absurd H (by simp)
                  ·
                   replace c29 := Bool.eq_false_iff.mpr c29
                   subst c29
                   have H1 : (if 0 ≤ x11_3 then (if x11_3 < (l1.length : Int) then (if 0 ≤ ((rd_T36 l1 x11_3).f2) then (if ((rd_T36 l1 x11_3).f2) < (x7_3.length : Int) then (if (rd x7_3 ((rd_T36 l1 x11_3).f2)) = x10_2 then (if 0 ≤ ((rd_T36 l1 x11_3).f1) then (if ((rd_T36 l1 x11_3).f1) < (x7_3.length : Int) then (if (rd x7_3 ((rd_T36 l1 x11_3).f1)) < 0 then (assessorref09_distances.l2 kj22 l1 (x7_3.set (((rd_T36 l1 x11_3).f1) : Int).toNat (wrap64 (x10_2 + 1))) true x10_2 (wrap64 (x11_3 + 1))) else (assessorref09_distances.l2 kj22 l1 x7_3 x9_3 x10_2 (wrap64 (x11_3 + 1)))) else (none)) else (none)) else (assessorref09_distances.l2 kj22 l1 x7_3 x9_3 x10_2 (wrap64 (x11_3 + 1)))) else (none)) else (none)) else (none)) else (none)) = some r := by rw [if_neg (show ¬ (false = true) by decide)] at H; exact H
                   clear H; have H := H1; clear H1
                   by_cases c48 : 0 ≤ x11_3
                   ·
                    rw [if_pos c48] at H
                    have c48b0 : decide (0 ≤ x11_3) = true := decide_eq_true c48
                    clear c48
                    by_cases c49 : x11_3 < (l1.length : Int)
                    ·
                     rw [if_pos c49] at H
                     have c49b0 : decide (x11_3 < (l1.length : Int)) = true := decide_eq_true c49
                     clear c49
                     by_cases c50 : 0 ≤ ((rd_T36 l1 x11_3).f2)
                     ·
                      rw [if_pos c50] at H
                      have c50b0 : decide (0 ≤ ((rd_T36 l1 x11_3).f2)) = true := decide_eq_true c50
                      clear c50
                      by_cases c51 : ((rd_T36 l1 x11_3).f2) < (x7_3.length : Int)
                      ·
                       rw [if_pos c51] at H
                       have c51b0 : decide (((rd_T36 l1 x11_3).f2) < (x7_3.length : Int)) = true := decide_eq_true c51
                       clear c51
                       by_cases c52 : (rd x7_3 ((rd_T36 l1 x11_3).f2)) = x10_2
                       ·
                        rw [if_pos c52] at H
                        have c52b0 : ((rd x7_3 ((rd_T36 l1 x11_3).f2)) == x10_2) = true := beq_iff_eq.mpr c52
                        have c52b1 : ((rd x7_3 ((rd_T36 l1 x11_3).f2)) != x10_2) = false := bne_eq_false_iff_eq.mpr c52
                        clear c52
                        by_cases c53 : 0 ≤ ((rd_T36 l1 x11_3).f1)
                        ·
                         rw [if_pos c53] at H
                         have c53b0 : decide (0 ≤ ((rd_T36 l1 x11_3).f1)) = true := decide_eq_true c53
                         clear c53
                         by_cases c54 : ((rd_T36 l1 x11_3).f1) < (x7_3.length : Int)
                         ·
                          rw [if_pos c54] at H
                          have c54b0 : decide (((rd_T36 l1 x11_3).f1) < (x7_3.length : Int)) = true := decide_eq_true c54
                          clear c54
                          by_cases c55 : (rd x7_3 ((rd_T36 l1 x11_3).f1)) < 0
                          ·
                           rw [if_pos c55] at H
                           have c55b0 : decide ((rd x7_3 ((rd_T36 l1 x11_3).f1)) < 0) = true := decide_eq_true c55
                           clear c55
                           obtain ⟨y138, hy138⟩ : ∃ y_ : List Int, y_ = (x7_3.set (((rd_T36 l1 x11_3).f1) : Int).toNat (wrap64 (x10_2 + 1))) := ⟨_, rfl⟩
                           replace H : (assessorref09_distances.l2 kj22 l1 y138 true x10_2 (wrap64 (x11_3 + 1))) = some r := by first | (rw [hy138]; with_reducible exact H) | (have H2_ := (Option.bind_some _ _).symm.trans H; rw [hy138]; with_reducible exact H2_) | (have H2_ := (Option.bind_some _ _).symm.trans H; with_reducible exact H2_) | with_reducible exact H | (rw [hy138]; exact H) | exact H
                           have Ny138 := Aside0.mk hy138
                           clear hy138; have H' := Aside0.mk H; clear H
                           have p133 : 0 ≤ (x11_3 : Int) := of_decide_eq_true (by assumption)
                           have q133 : x11_3 < (l1.length : Int) := of_decide_eq_true (by assumption)
                           obtain ⟨ad133, e133, hx133_0, hx133_1, hx133_2, hx133_3, hx133_4, hx133_5, hx133_6, hx133_7⟩ := at_T36 HR1.out x11_3 p133 q133
                           obtain rfl : ad120 = ad133 := (by injection e133)
                           replace hx133_0 := upc HB.out hx133_0; replace hx133_1 := upc HB.out hx133_1; replace hx133_2 := upc HB.out hx133_2; replace hx133_3 := upc HB.out hx133_3; replace hx133_4 := upc HB.out hx133_4; replace hx133_5 := upc HB.out hx133_5; replace hx133_6 := upc HB.out hx133_6; replace hx133_7 := upc HB.out hx133_7; replace p133 := eq_true p133; replace q133 := eq_true q133
                           have p134 : 0 ≤ (((rd_T36 l1 x11_3).f2) : Int) := of_decide_eq_true (by assumption)
                           have q134 : ((rd_T36 l1 x11_3).f2) < (x7_3.length : Int) := of_decide_eq_true (by assumption)
                           obtain ⟨ad134, e134, hx134_0⟩ := Kd.at_int (Kd.R_reads' HO_7.out).2.2 ((rd_T36 l1 x11_3).f2) p134 q134
                           obtain rfl : (⟨go16, 0, none⟩ : Addr) = ad134 := (by injection e134)
                           (first | simp only [add_plain] at hx134_0 | simp only [add_at] at hx134_0 | simp only [Addr.add, Nat.zero_add] at hx134_0 | skip)
                           replace p134 := eq_true p134; replace q134 := eq_true q134
                           have p135 : 0 ≤ (x11_3 : Int) := of_decide_eq_true (by assumption)
                           have q135 : x11_3 < (l1.length : Int) := of_decide_eq_true (by assumption)
                           obtain ⟨ad135, e135, hx135_0, hx135_1, hx135_2, hx135_3, hx135_4, hx135_5, hx135_6, hx135_7⟩ := at_T36 HR1.out x11_3 p135 q135
                           obtain rfl : ad120 = ad135 := (by injection e135)
                           replace hx135_0 := upc HB.out hx135_0; replace hx135_1 := upc HB.out hx135_1; replace hx135_2 := upc HB.out hx135_2; replace hx135_3 := upc HB.out hx135_3; replace hx135_4 := upc HB.out hx135_4; replace hx135_5 := upc HB.out hx135_5; replace hx135_6 := upc HB.out hx135_6; replace hx135_7 := upc HB.out hx135_7; replace p135 := eq_true p135; replace q135 := eq_true q135
                           have p136 : 0 ≤ (((rd_T36 l1 x11_3).f1) : Int) := of_decide_eq_true (by assumption)
                           have q136 : ((rd_T36 l1 x11_3).f1) < (x7_3.length : Int) := of_decide_eq_true (by assumption)
                           obtain ⟨ad136, e136, hx136_0⟩ := Kd.at_int (Kd.R_reads' HO_7.out).2.2 ((rd_T36 l1 x11_3).f1) p136 q136
                           obtain rfl : (⟨go16, 0, none⟩ : Addr) = ad136 := (by injection e136)
                           (first | simp only [add_plain] at hx136_0 | simp only [add_at] at hx136_0 | simp only [Addr.add, Nat.zero_add] at hx136_0 | skip)
                           replace p136 := eq_true p136; replace q136 := eq_true q136
                           have p137 : 0 ≤ (x11_3 : Int) := of_decide_eq_true (by assumption)
                           have q137 : x11_3 < (l1.length : Int) := of_decide_eq_true (by assumption)
                           obtain ⟨ad137, e137, hx137_0, hx137_1, hx137_2, hx137_3, hx137_4, hx137_5, hx137_6, hx137_7⟩ := at_T36 HR1.out x11_3 p137 q137
                           obtain rfl : ad120 = ad137 := (by injection e137)
                           replace hx137_0 := upc HB.out hx137_0; replace hx137_1 := upc HB.out hx137_1; replace hx137_2 := upc HB.out hx137_2; replace hx137_3 := upc HB.out hx137_3; replace hx137_4 := upc HB.out hx137_4; replace hx137_5 := upc HB.out hx137_5; replace hx137_6 := upc HB.out hx137_6; replace hx137_7 := upc HB.out hx137_7; replace p137 := eq_true p137; replace q137 := eq_true q137
                           have p56 : 0 ≤ (((rd_T36 l1 x11_3).f1) : Int) := of_decide_eq_true (by assumption)
                           have q56 : (((rd_T36 l1 x11_3).f1) : Int) < ((x7_3.length : Int) : Int) := of_decide_eq_true (by assumption)
                           obtain ⟨hx56_0, hf56_0⟩ := Kd.R_celln 0 HO_7.out (((rd_T36 l1 x11_3).f1) : Int) p56 q56
                           replace p56 := eq_true p56; replace q56 := eq_true q56
                           have HP57 := Kd.R_putg HO_7.out (((rd_T36 l1 x11_3).f1) : Int) (wrap64 (x10_2 + 1))
                           go_wp2_with (first | ((with_reducible refine gate_store (t := 3) (p := 99) rfl ?_); refine store_event (t := 3) (p := 99) (v := ?vo_w58) (w1 := (wc.setCell ⟨go16, (((rd_T36 l1 x11_3).f1) : Int).toNat, none⟩ (.int .i64 (wrap64 (x10_2 + 1))))) ?hg ?ho ?hn ?hr ?_; (case ho => rfl); (case hg => rfl); (case hn => rfl); (case hr => first | (go_simp; done) | (go_simp; rfl)); intro w58 hw; have hg : wc.grownBy w58 (some go16) := (by rw [hw]; exact HP57.2); have hp_ : Kd.R (Kd.int .i64) 3 w58 w.heap.size (fun _ => True) (.slice (some ⟨go16, 0, none⟩) x7_3.length co16) y138 := (by rw [hw, Ny138.out]; exact HP57.1); clear HP57; have n0_ := Aside0.mk (hp_); have n1_ := Aside0.mk ((by rw [hw]; exact bS (HB.out) GB16.out : Below w.heap.size w w58)); clear HO_7; clear HB; have HO_7 := n0_; have HB := n1_; clear n0_ n1_; clear hg hw hp_))
                           (try simp only [← hl7_3])
                           go_roundg kj22
                           case measure => have := HK1.out; have := HK2.out; have := HK3.out; have := HJ22.out; omega
                           case rel => exact ⟨(y138), (true), (wrap64 (x11_3 + 1)), (by first | rfl | (simp; done) | (simp [*]; done)), (by first | rfl | (simp; done) | (simp [*]; done)), H', ⟨by have := HK1.out; have := HK2.out; have := HK3.out; have := HJ22.out; omega⟩, ⟨by (try simp only [hl7_2]); (try simp only [hl7_3]); (with_reducible repeat (first | apply rA | apply rN | apply rD)); exact HO_7.out⟩, ⟨by repeat (first | (with_reducible first | exact HB.out | apply bA | apply bN | apply bD) | exact HB.out)⟩⟩
                          ·
                           rw [if_neg c55] at H
                           have c55b0 : decide ((rd x7_3 ((rd_T36 l1 x11_3).f1)) < 0) = false := decide_eq_false c55
                           clear c55; have H' := Aside0.mk H; clear H
                           have p133 : 0 ≤ (x11_3 : Int) := of_decide_eq_true (by assumption)
                           have q133 : x11_3 < (l1.length : Int) := of_decide_eq_true (by assumption)
                           obtain ⟨ad133, e133, hx133_0, hx133_1, hx133_2, hx133_3, hx133_4, hx133_5, hx133_6, hx133_7⟩ := at_T36 HR1.out x11_3 p133 q133
                           obtain rfl : ad120 = ad133 := (by injection e133)
                           replace hx133_0 := upc HB.out hx133_0; replace hx133_1 := upc HB.out hx133_1; replace hx133_2 := upc HB.out hx133_2; replace hx133_3 := upc HB.out hx133_3; replace hx133_4 := upc HB.out hx133_4; replace hx133_5 := upc HB.out hx133_5; replace hx133_6 := upc HB.out hx133_6; replace hx133_7 := upc HB.out hx133_7; replace p133 := eq_true p133; replace q133 := eq_true q133
                           have p134 : 0 ≤ (((rd_T36 l1 x11_3).f2) : Int) := of_decide_eq_true (by assumption)
                           have q134 : ((rd_T36 l1 x11_3).f2) < (x7_3.length : Int) := of_decide_eq_true (by assumption)
                           obtain ⟨ad134, e134, hx134_0⟩ := Kd.at_int (Kd.R_reads' HO_7.out).2.2 ((rd_T36 l1 x11_3).f2) p134 q134
                           obtain rfl : (⟨go16, 0, none⟩ : Addr) = ad134 := (by injection e134)
                           (first | simp only [add_plain] at hx134_0 | simp only [add_at] at hx134_0 | simp only [Addr.add, Nat.zero_add] at hx134_0 | skip)
                           replace p134 := eq_true p134; replace q134 := eq_true q134
                           have p135 : 0 ≤ (x11_3 : Int) := of_decide_eq_true (by assumption)
                           have q135 : x11_3 < (l1.length : Int) := of_decide_eq_true (by assumption)
                           obtain ⟨ad135, e135, hx135_0, hx135_1, hx135_2, hx135_3, hx135_4, hx135_5, hx135_6, hx135_7⟩ := at_T36 HR1.out x11_3 p135 q135
                           obtain rfl : ad120 = ad135 := (by injection e135)
                           replace hx135_0 := upc HB.out hx135_0; replace hx135_1 := upc HB.out hx135_1; replace hx135_2 := upc HB.out hx135_2; replace hx135_3 := upc HB.out hx135_3; replace hx135_4 := upc HB.out hx135_4; replace hx135_5 := upc HB.out hx135_5; replace hx135_6 := upc HB.out hx135_6; replace hx135_7 := upc HB.out hx135_7; replace p135 := eq_true p135; replace q135 := eq_true q135
                           have p136 : 0 ≤ (((rd_T36 l1 x11_3).f1) : Int) := of_decide_eq_true (by assumption)
                           have q136 : ((rd_T36 l1 x11_3).f1) < (x7_3.length : Int) := of_decide_eq_true (by assumption)
                           obtain ⟨ad136, e136, hx136_0⟩ := Kd.at_int (Kd.R_reads' HO_7.out).2.2 ((rd_T36 l1 x11_3).f1) p136 q136
                           obtain rfl : (⟨go16, 0, none⟩ : Addr) = ad136 := (by injection e136)
                           (first | simp only [add_plain] at hx136_0 | simp only [add_at] at hx136_0 | simp only [Addr.add, Nat.zero_add] at hx136_0 | skip)
                           replace p136 := eq_true p136; replace q136 := eq_true q136
                           go_wp2
                           (try simp only [← hl7_3])
                           go_roundg kj22
                           case measure => have := HK1.out; have := HK2.out; have := HK3.out; have := HJ22.out; omega
                           case rel => exact ⟨(x7_3), (x9_3), (wrap64 (x11_3 + 1)), (by first | rfl | (simp; done) | (simp [*]; done)), (by first | rfl | (simp; done) | (simp [*]; done)), H', ⟨by have := HK1.out; have := HK2.out; have := HK3.out; have := HJ22.out; omega⟩, ⟨by (try simp only [hl7_2]); (try simp only [hl7_3]); (with_reducible repeat (first | apply rA | apply rN | apply rD)); exact HO_7.out⟩, ⟨by repeat (first | (with_reducible first | exact HB.out | apply bA | apply bN | apply bD) | exact HB.out)⟩⟩
                         ·
                          rw [if_neg c54] at H
                          exact absurd H (by simp)
                        ·
                         rw [if_neg c53] at H
                         exact absurd H (by simp)
                       ·
                        rw [if_neg c52] at H
                        have c52b0 : ((rd x7_3 ((rd_T36 l1 x11_3).f2)) == x10_2) = false := beq_eq_false_iff_ne.mpr c52
                        have c52b1 : ((rd x7_3 ((rd_T36 l1 x11_3).f2)) != x10_2) = true := bne_iff_ne.mpr c52
                        have H' := Aside0.mk H; clear H
                        have p133 : 0 ≤ (x11_3 : Int) := of_decide_eq_true (by assumption)
                        have q133 : x11_3 < (l1.length : Int) := of_decide_eq_true (by assumption)
                        obtain ⟨ad133, e133, hx133_0, hx133_1, hx133_2, hx133_3, hx133_4, hx133_5, hx133_6, hx133_7⟩ := at_T36 HR1.out x11_3 p133 q133
                        obtain rfl : ad120 = ad133 := (by injection e133)
                        replace hx133_0 := upc HB.out hx133_0; replace hx133_1 := upc HB.out hx133_1; replace hx133_2 := upc HB.out hx133_2; replace hx133_3 := upc HB.out hx133_3; replace hx133_4 := upc HB.out hx133_4; replace hx133_5 := upc HB.out hx133_5; replace hx133_6 := upc HB.out hx133_6; replace hx133_7 := upc HB.out hx133_7; replace p133 := eq_true p133; replace q133 := eq_true q133
                        have p134 : 0 ≤ (((rd_T36 l1 x11_3).f2) : Int) := of_decide_eq_true (by assumption)
                        have q134 : ((rd_T36 l1 x11_3).f2) < (x7_3.length : Int) := of_decide_eq_true (by assumption)
                        obtain ⟨ad134, e134, hx134_0⟩ := Kd.at_int (Kd.R_reads' HO_7.out).2.2 ((rd_T36 l1 x11_3).f2) p134 q134
                        obtain rfl : (⟨go16, 0, none⟩ : Addr) = ad134 := (by injection e134)
                        (first | simp only [add_plain] at hx134_0 | simp only [add_at] at hx134_0 | simp only [Addr.add, Nat.zero_add] at hx134_0 | skip)
                        replace p134 := eq_true p134; replace q134 := eq_true q134
                        go_wp2
                        (try simp only [← hl7_3])
                        go_roundg kj22
                        case measure => have := HK1.out; have := HK2.out; have := HK3.out; have := HJ22.out; omega
                        case rel => exact ⟨(x7_3), (x9_3), (wrap64 (x11_3 + 1)), (by first | rfl | (simp; done) | (simp [*]; done)), (by first | rfl | (simp; done) | (simp [*]; done)), H', ⟨by have := HK1.out; have := HK2.out; have := HK3.out; have := HJ22.out; omega⟩, ⟨by (try simp only [hl7_2]); (try simp only [hl7_3]); (with_reducible repeat (first | apply rA | apply rN | apply rD)); exact HO_7.out⟩, ⟨by repeat (first | (with_reducible first | exact HB.out | apply bA | apply bN | apply bD) | exact HB.out)⟩⟩
                      ·
                       rw [if_neg c51] at H
                       exact absurd H (by simp)
                     ·
                      rw [if_neg c50] at H
                      exact absurd H (by simp)
                    ·
                     rw [if_neg c49] at H
                     exact absurd H (by simp)
                   ·
                    rw [if_neg c48] at H
                    exact absurd H (by simp)
               ·
                rw [if_neg c22] at H
                have c22b0 : (((rd_T36 l1 x11_3).f0) == 1) = false := beq_eq_false_iff_ne.mpr c22
                have c22b1 : (((rd_T36 l1 x11_3).f0) != 1) = true := bne_iff_ne.mpr c22
                have H' := Aside0.mk H; clear H
                have p120 : 0 ≤ (x11_3 : Int) := of_decide_eq_true (by assumption)
                have q120 : x11_3 < (l1.length : Int) := of_decide_eq_true (by assumption)
                obtain ⟨ad120, e120, hx120_0, hx120_1, hx120_2, hx120_3, hx120_4, hx120_5, hx120_6, hx120_7⟩ := at_T36 HR1.out x11_3 p120 q120
                cases e120; replace hx120_0 := upc HB.out hx120_0; replace hx120_1 := upc HB.out hx120_1; replace hx120_2 := upc HB.out hx120_2; replace hx120_3 := upc HB.out hx120_3; replace hx120_4 := upc HB.out hx120_4; replace hx120_5 := upc HB.out hx120_5; replace hx120_6 := upc HB.out hx120_6; replace hx120_7 := upc HB.out hx120_7; replace p120 := eq_true p120; replace q120 := eq_true q120
                go_wp2
                (try simp only [← hl7_3])
                go_roundg k3
                case measure => have := HK1.out; have := HK2.out; have := HK3.out; omega
                case rel => exact ⟨(x7_3), (x9_3), (wrap64 (x11_3 + 1)), (by first | rfl | (simp; done) | (simp [*]; done)), (by first | rfl | (simp; done) | (simp [*]; done)), H', ⟨by have := HK1.out; have := HK2.out; have := HK3.out; omega⟩, ⟨by (try simp only [hl7_2]); (try simp only [hl7_3]); (with_reducible repeat (first | apply rA | apply rN | apply rD)); exact HO_7.out⟩, ⟨by repeat (first | (with_reducible first | exact HB.out | apply bA | apply bN | apply bD) | exact HB.out)⟩⟩
              ·
               rw [if_neg c21] at H
               exact absurd H (by simp)
             ·
              rw [if_neg c20] at H
              have c20b0 : decide (x11_3 < (l1.length : Int)) = false := decide_eq_false c20
              clear c20; have H' := Aside0.mk H; clear H
              go_wp2
              (try simp only [← hl7_2, ← hl7_3])
              go_roundg k3
              case measure => have := HK1.out; have := HK2.out; have := HK3.out; omega
              case rel => exact ⟨(x7_3), (x9_3), (wrap64 (x10_2 + 1)), (by first | rfl | (simp; done) | (simp [*]; done)), (by first | rfl | (simp; done) | (simp [*]; done)), H', ⟨by have := HK1.out; have := HK2.out; have := HK3.out; omega⟩, ⟨by (try simp only [hl7_2]); (try simp only [hl7_3]); (with_reducible repeat (first | apply rA | apply rN | apply rD)); exact HO_7.out⟩, ⟨by repeat (first | (with_reducible first | exact HB.out | apply bA | apply bN | apply bD) | exact HB.out)⟩⟩
          ·
           replace c19 := Bool.eq_false_iff.mpr c19
           subst c19
           have H1 : (some x7_2) = some r := by rw [if_neg (show ¬ (false = true) by decide)] at H; exact H
           clear H; have H := H1; clear H1
           obtain rfl := Option.some.inj H
           go_wp2
           go_ret
           exact ⟨_, by first | rfl | (simp [errW_none, errW_some] <;> rfl) | (simp [*, errW_none, errW_some] <;> rfl), by (with_reducible repeat (first | apply rA | apply rN | apply rD)); exact HO_7.out, by repeat (first | (with_reducible first | exact HB.out | apply bA | apply bN | apply bD) | exact HB.out)⟩
       ·
        rw [if_neg c15] at H
        exact absurd H (by simp)
      ·
       rw [if_neg c14] at H
       exact absurd H (by simp)
  ·
   rw [if_neg c5] at H
   exact absurd H (by simp)
 ·
  rw [if_neg c4] at H
  exact absurd H (by simp)

end Go.Proofs.Ytjbafigageingaa.PR
