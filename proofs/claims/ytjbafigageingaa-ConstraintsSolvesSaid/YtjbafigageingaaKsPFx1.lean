import Derived.Test.YtjbafigageingaaKsM1
import Derived.Test.YtjbafigageingaaKsPRx6
import Derived.Test.YtjbafigageingaaProg
import Derived.Test.YtjbafigageingaaKsW
import Derived.Below
import Derived.Deep.Draws
import Derived.Deep.AppendLies
import Derived.Maps.AppendAt
import Derived.OwnWalk
import Derived.Laws.BytesArg
import Derived.Laws.MakeOwn
import Derived.Laws.OwnMore
import Derived.Deep.OwnRows
import Derived.Tactics
import Derived.Lib.ConvBytes
import Derived.Laws.Slices
import Derived.WalkKit
import Derived.KernelRfl
import Derived.RowKit3
import Derived.Deep.LoopGhost
import Derived.Deep.QuietTactic
import Derived.BigQuiet
import Derived.WideLaws
import Derived.Deep.DeepCutAuto
import Derived.Deep.CutBlock
import Derived.Deep.RegionHeld3
import Derived.Laws.Rows
import Derived.Lib.AppendStr
import Derived.ArgAppend
import Derived.Laws.IdiomCopy
import Derived.OrdersHeld
import Derived.Laws.BitsLemmas
import Derived.RowKit
namespace Go.Proofs.Ytjbafigageingaa.PF
open Go.Proofs.Ytjbafigageingaa.PR
open Go.RowKit Go.Proofs.YtjbafigageingaaW.PrintWords Go.Proofs.YtjbafigageingaaW.PrintLast Go.Proofs.YtjbafigageingaaW.PrintMore
attribute [local go_sem] max2_int min2_int max_two min_two max_three min_three max_four min_four
set_option linter.unusedVariables false
set_option linter.unusedSimpArgs false

mutual
def assessorref09_valid.j0 : Nat → Int → List (S36) → Bool → Option (Int)
 | 0, _, _, _ => none
 | k + 1, x0, x1, x12 => if x12 = true then (some 2) else (assessorref09_valid.l0 k x0 x1 0)
def assessorref09_valid.l0 : Nat → Int → List (S36) → Int → Option (Int)
 | 0, _, _, _ => none
 | k + 1, x0, x1, x5 => if x5 < (x1.length : Int) then (if 0 ≤ x5 then (if ((rd_T36 x1 x5).f1) < 0 then (assessorref09_valid.j2 k x0 x1 x5 true ((rd_T36 x1 x5).f0) ((rd_T36 x1 x5).f1) ((rd_T36 x1 x5).f2) ((rd_T36 x1 x5).f3.f0) ((rd_T36 x1 x5).f3.f1) ((rd_T36 x1 x5).f3.f2) ((rd_T36 x1 x5).f4) ((rd_T36 x1 x5).f5)) else (if ((rd_T36 x1 x5).f1) ≥ x0 then (assessorref09_valid.j2 k x0 x1 x5 true ((rd_T36 x1 x5).f0) ((rd_T36 x1 x5).f1) ((rd_T36 x1 x5).f2) ((rd_T36 x1 x5).f3.f0) ((rd_T36 x1 x5).f3.f1) ((rd_T36 x1 x5).f3.f2) ((rd_T36 x1 x5).f4) ((rd_T36 x1 x5).f5)) else (if ((rd_T36 x1 x5).f0) = 0 then (assessorref09_valid.j2 k x0 x1 x5 false ((rd_T36 x1 x5).f0) ((rd_T36 x1 x5).f1) ((rd_T36 x1 x5).f2) ((rd_T36 x1 x5).f3.f0) ((rd_T36 x1 x5).f3.f1) ((rd_T36 x1 x5).f3.f2) ((rd_T36 x1 x5).f4) ((rd_T36 x1 x5).f5)) else (assessorref09_valid.j2 k x0 x1 x5 (((rd_T36 x1 x5).f0) != 1) ((rd_T36 x1 x5).f0) ((rd_T36 x1 x5).f1) ((rd_T36 x1 x5).f2) ((rd_T36 x1 x5).f3.f0) ((rd_T36 x1 x5).f3.f1) ((rd_T36 x1 x5).f3.f2) ((rd_T36 x1 x5).f4) ((rd_T36 x1 x5).f5))))) else (none)) else (some 0)
def assessorref09_valid.j2 : Nat → Int → List (S36) → Int → Bool → Int → Int → Int → Int → Int → ByteArray → Int → Int → Option (Int)
 | 0, _, _, _, _, _, _, _, _, _, _, _, _ => none
 | k + 1, x0, x1, x5, x41, x104000, x104001, x104002, x104003, x104004, x104005, x104006, x104007 => if x41 = true then (some 1) else (if x104000 = 1 then (if x104002 < 0 then (some 1) else (if x104002 ≥ x0 then (some 1) else (if x104000 = 0 then ((assessorref09_IsMark.f k x104003 x104004 x104005).bind fun t104 => (if t104 = true then (assessorref09_valid.l0 k x0 x1 (wrap64 (x5 + 1))) else (some 1))) else (assessorref09_valid.l0 k x0 x1 (wrap64 (x5 + 1)))))) else (if x104000 = 0 then ((assessorref09_IsMark.f k x104003 x104004 x104005).bind fun t105 => (if t105 = true then (assessorref09_valid.l0 k x0 x1 (wrap64 (x5 + 1))) else (some 1))) else (assessorref09_valid.l0 k x0 x1 (wrap64 (x5 + 1)))))
end
def assessorref09_valid.f (k : Nat) (a0 : Int) (l1 : List (S36)) : Option (Int) := if a0 < 0 then (assessorref09_valid.j0 k a0 l1 true) else (assessorref09_valid.j0 k a0 l1 (decide (a0 > 4096)))
set_option maxHeartbeats 8000000 in
set_option maxRecDepth 100000 in
theorem assessorref09_valid.calls (k : Nat) (a0 : Int) (A1 : Option Addr) (c1 : Nat) (l1 : List (S36)) (r : Int) (w : World) (hr1 : Kd.C k36 w A1 l1.length l1) (hc1 : l1.length ≤ c1) (h : assessorref09_valid.f k a0 l1 = some r) :
  Calls Try.prog 31 #[.int .i64 a0, .slice A1 l1.length c1] w fun e w' => e = .returned (.int .i64 r) ∧ Below w.heap.size w w' := by
 have hu36 := Try.underlying36
 have hu23 := Try.underlying23
 have HR1 := Aside0.mk hr1
 have HC1 := Aside0.mk hc1
 clear hr1 hc1
 have HB := Aside0.mk (Below.refl w.heap.size w)
 have H : (if a0 < 0 then (assessorref09_valid.j0 k a0 l1 true) else (assessorref09_valid.j0 k a0 l1 (decide (a0 > 4096)))) = some r := h
 clear h
 have HC3 := Aside0.mk H
 clear H
 go_enter Try.func31, Try.ntmps31
 go_upto_region 1 with (fail)
 go_cut [12] (fun v12 wc => ∃ (kq : Nat) (x12_2 : Bool), v12 = .bool x12_2 ∧ Aside0 (assessorref09_valid.j0 kq a0 l1 x12_2 = some r) ∧ Aside0 (kq ≤ k) ∧ Aside0 (Below w.heap.size w wc))
 case first =>
  have H := HC3.out
  clear HC3
  by_cases c4 : a0 < 0
  ·
   rw [if_pos c4] at H
   have c4b0 : decide (a0 < 0) = true := decide_eq_true c4
   clear c4
   (first | rw [c4b0] | (simp only [i64_w, i32_w]; rw [c4b0]) | skip)
   have H' := Aside0.mk H; clear H
   go_wp2
   go_meet
   case rel => exact ⟨_, (true), (by first | rfl | (simp; done) | (simp [*]; done)), H', ⟨by first | omega | exact Nat.le_refl _⟩, ⟨by repeat (first | (with_reducible first | exact HB.out | apply bA | apply bN | apply bD) | exact HB.out)⟩⟩
  ·
   rw [if_neg c4] at H
   have c4b0 : decide (a0 < 0) = false := decide_eq_false c4
   clear c4
   (first | rw [c4b0] | (simp only [i64_w, i32_w]; rw [c4b0]) | skip)
   have H' := Aside0.mk H; clear H
   go_wp2
   go_meet
   case rel => exact ⟨_, (decide (a0 > 4096)), (by first | rfl | (simp; done) | (simp [*]; done)), H', ⟨by first | omega | exact Nat.le_refl _⟩, ⟨by repeat (first | (with_reducible first | exact HB.out | apply bA | apply bN | apply bD) | exact HB.out)⟩⟩
 case rest =>
  clear HC3; (try clear c1); (try clear p2); (try clear c3); (try clear c4); (try clear c4b0)
  obtain ⟨kq, x12_2, rfl, HA, HJ2, HB⟩ := hcut
  cases kq with
  | zero => exact absurd HA.out (by simp [assessorref09_valid.j0])
  | succ kj2 =>
   have H := HA.out
   clear HA
   simp only [assessorref09_valid.j0] at H
   by_cases c5 : x12_2 = true
   ·
    subst c5
    have H1 : (some 2) = some r := by rw [if_pos rfl] at H; exact H
    clear H; have H := H1; clear H1
    obtain rfl := Option.some.inj H
    go_wp2
    go_ret
    exact ⟨by first | rfl | (simp [errW_none, errW_some] <;> rfl) | (simp [*, errW_none, errW_some] <;> rfl), by repeat (first | (with_reducible first | exact HB.out | apply bA | apply bN | apply bD) | exact HB.out)⟩
   ·
    replace c5 := Bool.eq_false_iff.mpr c5
    subst c5
    have H1 : (assessorref09_valid.l0 kj2 a0 l1 0) = some r := by rw [if_neg (show ¬ (false = true) by decide)] at H; exact H
    clear H; have H := H1; clear H1; have H' := Aside0.mk H; clear H
    go_wp2
    go_loopg [5] kj2 (fun kq v5 w' => ∃ (x5_2 : Int), v5 = .int .i64 x5_2 ∧ Aside0 (assessorref09_valid.l0 kq a0 l1 x5_2 = some r) ∧ Aside0 (kq ≤ kj2) ∧ Aside0 (Below w.heap.size w w'))
    case atStart => exact ⟨(0), (by first | rfl | (simp; done) | (simp [*]; done)), H', ⟨Nat.le_refl _⟩, ⟨by repeat (first | (with_reducible first | exact HB.out | apply bA | apply bN | apply bD) | exact HB.out)⟩⟩
    case round =>
     clear H'; (try clear c1); (try clear p2); (try clear c3); (try clear c4); (try clear c4b0); (try clear c5); (try clear p2)
     obtain ⟨x5_2, rfl, HA, HK2, HB⟩ := hrel
     cases gk with
     | zero => exact absurd HA.out (by simp [assessorref09_valid.l0])
     | succ k2 =>
      have H := HA.out
      clear HA
      simp only [assessorref09_valid.l0] at H
      by_cases c6 : x5_2 < (l1.length : Int)
      ·
       rw [if_pos c6] at H
       have c6b0 : decide (x5_2 < (l1.length : Int)) = true := decide_eq_true c6
       clear c6
       by_cases c7 : 0 ≤ x5_2
       ·
        rw [if_pos c7] at H
        have c7b0 : decide (0 ≤ x5_2) = true := decide_eq_true c7
        clear c7
        have HC8 := Aside0.mk H
        clear H
        have p102 : 0 ≤ (x5_2 : Int) := of_decide_eq_true (by assumption)
        have q102 : x5_2 < (l1.length : Int) := of_decide_eq_true (by assumption)
        obtain ⟨ad102, e102, hx102_0, hx102_1, hx102_2, hx102_3, hx102_4, hx102_5, hx102_6, hx102_7⟩ := at_T36 HR1.out x5_2 p102 q102
        cases e102; replace hx102_0 := upc HB.out hx102_0; replace hx102_1 := upc HB.out hx102_1; replace hx102_2 := upc HB.out hx102_2; replace hx102_3 := upc HB.out hx102_3; replace hx102_4 := upc HB.out hx102_4; replace hx102_5 := upc HB.out hx102_5; replace hx102_6 := upc HB.out hx102_6; replace hx102_7 := upc HB.out hx102_7; replace p102 := eq_true p102; replace q102 := eq_true q102
        go_upto_region 7 with (first | ((with_reducible refine gate_dst (N := 6) rfl ?_); refine box_event ?hg (N := 6) ?hd (cs := #[.int .i64 0, .int .i64 0, .int .i64 0, .int .i64 0, .int .i64 0, .string (⟨#[]⟩ : ByteArray), .int .i64 0, .int .i64 0]) (t := 36) ?hr ?_; (case hd => rfl); (case hg => rfl); (case hr => first | (go_simp; done) | (go_simp; rfl)); intro gb103 hg w9 hbox hb; have n0_ := Aside0.mk (bT (by repeat (first | (with_reducible first | exact HB.out | apply bA | apply bN | apply bD) | exact HB.out)) hb); have n1_ := Aside0.mk (hbox); have n2_ := Aside0.mk ((by rw [hg]; exact (bZ (by repeat (first | (with_reducible first | exact HB.out | apply bA | apply bN | apply bD) | exact HB.out))) : w.heap.size ≤ gb103)); have n3_ := Aside0.mk ((by rw [hg]; exact (bZ (by repeat (first | (with_reducible first | exact HB.out | apply bA | apply bN | apply bD) | exact HB.out))) : w.heap.size ≤ gb103)); clear HB; have HB := n0_; have BK103 := n1_; have GW103 := n2_; have GE103 := n3_; clear n0_ n1_ n2_ n3_; clear hb hbox hg; have hcz10_0 : w9.cell? ⟨gb103, 0, none⟩ = some (.int .i64 0) := (blk_cell BK103.out 0).trans rfl; have hcz10_1 : w9.cell? ⟨gb103, 1, none⟩ = some (.int .i64 0) := (blk_cell BK103.out 1).trans rfl; have hcz10_2 : w9.cell? ⟨gb103, 2, none⟩ = some (.int .i64 0) := (blk_cell BK103.out 2).trans rfl; have hcz10_3 : w9.cell? ⟨gb103, 3, none⟩ = some (.int .i64 0) := (blk_cell BK103.out 3).trans rfl; have hcz10_4 : w9.cell? ⟨gb103, 4, none⟩ = some (.int .i64 0) := (blk_cell BK103.out 4).trans rfl; have hcz10_5 : w9.cell? ⟨gb103, 5, none⟩ = some (.string (⟨#[]⟩ : ByteArray)) := (blk_cell BK103.out 5).trans rfl; have hcz10_6 : w9.cell? ⟨gb103, 6, none⟩ = some (.int .i64 0) := (blk_cell BK103.out 6).trans rfl; have hcz10_7 : w9.cell? ⟨gb103, 7, none⟩ = some (.int .i64 0) := (blk_cell BK103.out 7).trans rfl; have hfz10_0 := blk_frozen BK103.out 0; have hfz10_1 := blk_frozen BK103.out 1; have hfz10_2 := blk_frozen BK103.out 2; have hfz10_3 := blk_frozen BK103.out 3; have hfz10_4 := blk_frozen BK103.out 4; have hfz10_5 := blk_frozen BK103.out 5; have hfz10_6 := blk_frozen BK103.out 6; have hfz10_7 := blk_frozen BK103.out 7))
        (try simp only [Act.put, List.setIfInBounds_toArray, List.set_cons_zero, List.set_cons_succ])
        go_cut [41] (fun v41 wc => ∃ (kq : Nat) (x41_7 : Bool), v41 = .bool x41_7 ∧ Aside0 (assessorref09_valid.j2 kq a0 l1 x5_2 x41_7 ((rd_T36 l1 x5_2).f0) ((rd_T36 l1 x5_2).f1) ((rd_T36 l1 x5_2).f2) ((rd_T36 l1 x5_2).f3.f0) ((rd_T36 l1 x5_2).f3.f1) ((rd_T36 l1 x5_2).f3.f2) ((rd_T36 l1 x5_2).f4) ((rd_T36 l1 x5_2).f5) = some r) ∧ Aside0 (kq ≤ k2) ∧ Aside0 (wc.heap[gb103]? = some (.cells #[.int .i64 ((rd_T36 l1 x5_2).f0), .int .i64 ((rd_T36 l1 x5_2).f1), .int .i64 ((rd_T36 l1 x5_2).f2), .int .i64 ((rd_T36 l1 x5_2).f3.f0), .int .i64 ((rd_T36 l1 x5_2).f3.f1), .string ((rd_T36 l1 x5_2).f3.f2), .int .i64 ((rd_T36 l1 x5_2).f4), .int .i64 ((rd_T36 l1 x5_2).f5)] 36 (0, 0))) ∧ Aside0 (Below w.heap.size w wc))
        case first =>
         have H := HC8.out
         clear HC8
         by_cases c11 : ((rd_T36 l1 x5_2).f1) < 0
         ·
          rw [if_pos c11] at H
          have c11b0 : decide (((rd_T36 l1 x5_2).f1) < 0) = true := decide_eq_true c11
          clear c11
          (first | rw [c11b0] | (simp only [i64_w, i32_w]; rw [c11b0]) | skip)
          have H' := Aside0.mk H; clear H
          have hcz12_0 : w9.cell? ⟨gb103, 0, none⟩ = some (.int .i64 0) := (blk_cell BK103.out 0).trans rfl
          have hcz12_1 : w9.cell? ⟨gb103, 1, none⟩ = some (.int .i64 0) := (blk_cell BK103.out 1).trans rfl
          have hcz12_2 : w9.cell? ⟨gb103, 2, none⟩ = some (.int .i64 0) := (blk_cell BK103.out 2).trans rfl
          have hcz12_3 : w9.cell? ⟨gb103, 3, none⟩ = some (.int .i64 0) := (blk_cell BK103.out 3).trans rfl
          have hcz12_4 : w9.cell? ⟨gb103, 4, none⟩ = some (.int .i64 0) := (blk_cell BK103.out 4).trans rfl
          have hcz12_5 : w9.cell? ⟨gb103, 5, none⟩ = some (.string (⟨#[]⟩ : ByteArray)) := (blk_cell BK103.out 5).trans rfl
          have hcz12_6 : w9.cell? ⟨gb103, 6, none⟩ = some (.int .i64 0) := (blk_cell BK103.out 6).trans rfl
          have hcz12_7 : w9.cell? ⟨gb103, 7, none⟩ = some (.int .i64 0) := (blk_cell BK103.out 7).trans rfl
          have hfz12_0 := blk_frozen BK103.out 0
          have hfz12_1 := blk_frozen BK103.out 1
          have hfz12_2 := blk_frozen BK103.out 2
          have hfz12_3 := blk_frozen BK103.out 3
          have hfz12_4 := blk_frozen BK103.out 4
          have hfz12_5 := blk_frozen BK103.out 5
          have hfz12_6 := blk_frozen BK103.out 6
          have hfz12_7 := blk_frozen BK103.out 7
          go_wp2
          go_meet
          case rel => exact ⟨_, (true), (by first | rfl | (simp; done) | (simp [*]; done)), H', ⟨by have := HJ2.out; have := HK2.out; first | omega | exact Nat.le_refl _⟩, ⟨by (with_reducible repeat (first | refine kN ?_ _ | refine kD ?_ | refine kA ?_ _)); refine blk_put (cs := #[.int .i64 ((rd_T36 l1 x5_2).f0), .int .i64 ((rd_T36 l1 x5_2).f1), .int .i64 ((rd_T36 l1 x5_2).f2), .int .i64 ((rd_T36 l1 x5_2).f3.f0), .int .i64 ((rd_T36 l1 x5_2).f3.f1), .string ((rd_T36 l1 x5_2).f3.f2), .int .i64 ((rd_T36 l1 x5_2).f4), .int .i64 0]) ?_ 7 _ rfl; (with_reducible repeat (first | refine kN ?_ _ | refine kD ?_ | refine kA ?_ _)); refine blk_put (cs := #[.int .i64 ((rd_T36 l1 x5_2).f0), .int .i64 ((rd_T36 l1 x5_2).f1), .int .i64 ((rd_T36 l1 x5_2).f2), .int .i64 ((rd_T36 l1 x5_2).f3.f0), .int .i64 ((rd_T36 l1 x5_2).f3.f1), .string ((rd_T36 l1 x5_2).f3.f2), .int .i64 0, .int .i64 0]) ?_ 6 _ rfl; (with_reducible repeat (first | refine kN ?_ _ | refine kD ?_ | refine kA ?_ _)); refine blk_put (cs := #[.int .i64 ((rd_T36 l1 x5_2).f0), .int .i64 ((rd_T36 l1 x5_2).f1), .int .i64 ((rd_T36 l1 x5_2).f2), .int .i64 ((rd_T36 l1 x5_2).f3.f0), .int .i64 ((rd_T36 l1 x5_2).f3.f1), .string (⟨#[]⟩ : ByteArray), .int .i64 0, .int .i64 0]) ?_ 5 _ rfl; (with_reducible repeat (first | refine kN ?_ _ | refine kD ?_ | refine kA ?_ _)); refine blk_put (cs := #[.int .i64 ((rd_T36 l1 x5_2).f0), .int .i64 ((rd_T36 l1 x5_2).f1), .int .i64 ((rd_T36 l1 x5_2).f2), .int .i64 ((rd_T36 l1 x5_2).f3.f0), .int .i64 0, .string (⟨#[]⟩ : ByteArray), .int .i64 0, .int .i64 0]) ?_ 4 _ rfl; (with_reducible repeat (first | refine kN ?_ _ | refine kD ?_ | refine kA ?_ _)); refine blk_put (cs := #[.int .i64 ((rd_T36 l1 x5_2).f0), .int .i64 ((rd_T36 l1 x5_2).f1), .int .i64 ((rd_T36 l1 x5_2).f2), .int .i64 0, .int .i64 0, .string (⟨#[]⟩ : ByteArray), .int .i64 0, .int .i64 0]) ?_ 3 _ rfl; (with_reducible repeat (first | refine kN ?_ _ | refine kD ?_ | refine kA ?_ _)); refine blk_put (cs := #[.int .i64 ((rd_T36 l1 x5_2).f0), .int .i64 ((rd_T36 l1 x5_2).f1), .int .i64 0, .int .i64 0, .int .i64 0, .string (⟨#[]⟩ : ByteArray), .int .i64 0, .int .i64 0]) ?_ 2 _ rfl; (with_reducible repeat (first | refine kN ?_ _ | refine kD ?_ | refine kA ?_ _)); refine blk_put (cs := #[.int .i64 ((rd_T36 l1 x5_2).f0), .int .i64 0, .int .i64 0, .int .i64 0, .int .i64 0, .string (⟨#[]⟩ : ByteArray), .int .i64 0, .int .i64 0]) ?_ 1 _ rfl; (with_reducible repeat (first | refine kN ?_ _ | refine kD ?_ | refine kA ?_ _)); refine blk_put (cs := #[.int .i64 0, .int .i64 0, .int .i64 0, .int .i64 0, .int .i64 0, .string (⟨#[]⟩ : ByteArray), .int .i64 0, .int .i64 0]) ?_ 0 _ rfl; (with_reducible repeat (first | refine kN ?_ _ | refine kD ?_ | refine kA ?_ _)); exact BK103.out⟩, ⟨by repeat (first | (with_reducible first | exact HB.out | apply bA | apply bN | apply bD | refine bS ?_ GE103.out) | exact HB.out)⟩⟩
         ·
          rw [if_neg c11] at H
          have c11b0 : decide (((rd_T36 l1 x5_2).f1) < 0) = false := decide_eq_false c11
          clear c11
          (first | rw [c11b0] | (simp only [i64_w, i32_w]; rw [c11b0]) | skip)
          by_cases c13 : ((rd_T36 l1 x5_2).f1) ≥ a0
          ·
           rw [if_pos c13] at H
           have c13b0 : decide (a0 ≤ ((rd_T36 l1 x5_2).f1)) = true := decide_eq_true c13
           clear c13; have H' := Aside0.mk H; clear H
           have hcz14_0 : w9.cell? ⟨gb103, 0, none⟩ = some (.int .i64 0) := (blk_cell BK103.out 0).trans rfl
           have hcz14_1 : w9.cell? ⟨gb103, 1, none⟩ = some (.int .i64 0) := (blk_cell BK103.out 1).trans rfl
           have hcz14_2 : w9.cell? ⟨gb103, 2, none⟩ = some (.int .i64 0) := (blk_cell BK103.out 2).trans rfl
           have hcz14_3 : w9.cell? ⟨gb103, 3, none⟩ = some (.int .i64 0) := (blk_cell BK103.out 3).trans rfl
           have hcz14_4 : w9.cell? ⟨gb103, 4, none⟩ = some (.int .i64 0) := (blk_cell BK103.out 4).trans rfl
           have hcz14_5 : w9.cell? ⟨gb103, 5, none⟩ = some (.string (⟨#[]⟩ : ByteArray)) := (blk_cell BK103.out 5).trans rfl
           have hcz14_6 : w9.cell? ⟨gb103, 6, none⟩ = some (.int .i64 0) := (blk_cell BK103.out 6).trans rfl
           have hcz14_7 : w9.cell? ⟨gb103, 7, none⟩ = some (.int .i64 0) := (blk_cell BK103.out 7).trans rfl
           have hfz14_0 := blk_frozen BK103.out 0
           have hfz14_1 := blk_frozen BK103.out 1
           have hfz14_2 := blk_frozen BK103.out 2
           have hfz14_3 := blk_frozen BK103.out 3
           have hfz14_4 := blk_frozen BK103.out 4
           have hfz14_5 := blk_frozen BK103.out 5
           have hfz14_6 := blk_frozen BK103.out 6
           have hfz14_7 := blk_frozen BK103.out 7
           go_wp2
           go_meet
           case rel => exact ⟨_, (true), (by first | rfl | (simp; done) | (simp [*]; done)), H', ⟨by have := HJ2.out; have := HK2.out; first | omega | exact Nat.le_refl _⟩, ⟨by (with_reducible repeat (first | refine kN ?_ _ | refine kD ?_ | refine kA ?_ _)); refine blk_put (cs := #[.int .i64 ((rd_T36 l1 x5_2).f0), .int .i64 ((rd_T36 l1 x5_2).f1), .int .i64 ((rd_T36 l1 x5_2).f2), .int .i64 ((rd_T36 l1 x5_2).f3.f0), .int .i64 ((rd_T36 l1 x5_2).f3.f1), .string ((rd_T36 l1 x5_2).f3.f2), .int .i64 ((rd_T36 l1 x5_2).f4), .int .i64 0]) ?_ 7 _ rfl; (with_reducible repeat (first | refine kN ?_ _ | refine kD ?_ | refine kA ?_ _)); refine blk_put (cs := #[.int .i64 ((rd_T36 l1 x5_2).f0), .int .i64 ((rd_T36 l1 x5_2).f1), .int .i64 ((rd_T36 l1 x5_2).f2), .int .i64 ((rd_T36 l1 x5_2).f3.f0), .int .i64 ((rd_T36 l1 x5_2).f3.f1), .string ((rd_T36 l1 x5_2).f3.f2), .int .i64 0, .int .i64 0]) ?_ 6 _ rfl; (with_reducible repeat (first | refine kN ?_ _ | refine kD ?_ | refine kA ?_ _)); refine blk_put (cs := #[.int .i64 ((rd_T36 l1 x5_2).f0), .int .i64 ((rd_T36 l1 x5_2).f1), .int .i64 ((rd_T36 l1 x5_2).f2), .int .i64 ((rd_T36 l1 x5_2).f3.f0), .int .i64 ((rd_T36 l1 x5_2).f3.f1), .string (⟨#[]⟩ : ByteArray), .int .i64 0, .int .i64 0]) ?_ 5 _ rfl; (with_reducible repeat (first | refine kN ?_ _ | refine kD ?_ | refine kA ?_ _)); refine blk_put (cs := #[.int .i64 ((rd_T36 l1 x5_2).f0), .int .i64 ((rd_T36 l1 x5_2).f1), .int .i64 ((rd_T36 l1 x5_2).f2), .int .i64 ((rd_T36 l1 x5_2).f3.f0), .int .i64 0, .string (⟨#[]⟩ : ByteArray), .int .i64 0, .int .i64 0]) ?_ 4 _ rfl; (with_reducible repeat (first | refine kN ?_ _ | refine kD ?_ | refine kA ?_ _)); refine blk_put (cs := #[.int .i64 ((rd_T36 l1 x5_2).f0), .int .i64 ((rd_T36 l1 x5_2).f1), .int .i64 ((rd_T36 l1 x5_2).f2), .int .i64 0, .int .i64 0, .string (⟨#[]⟩ : ByteArray), .int .i64 0, .int .i64 0]) ?_ 3 _ rfl; (with_reducible repeat (first | refine kN ?_ _ | refine kD ?_ | refine kA ?_ _)); refine blk_put (cs := #[.int .i64 ((rd_T36 l1 x5_2).f0), .int .i64 ((rd_T36 l1 x5_2).f1), .int .i64 0, .int .i64 0, .int .i64 0, .string (⟨#[]⟩ : ByteArray), .int .i64 0, .int .i64 0]) ?_ 2 _ rfl; (with_reducible repeat (first | refine kN ?_ _ | refine kD ?_ | refine kA ?_ _)); refine blk_put (cs := #[.int .i64 ((rd_T36 l1 x5_2).f0), .int .i64 0, .int .i64 0, .int .i64 0, .int .i64 0, .string (⟨#[]⟩ : ByteArray), .int .i64 0, .int .i64 0]) ?_ 1 _ rfl; (with_reducible repeat (first | refine kN ?_ _ | refine kD ?_ | refine kA ?_ _)); refine blk_put (cs := #[.int .i64 0, .int .i64 0, .int .i64 0, .int .i64 0, .int .i64 0, .string (⟨#[]⟩ : ByteArray), .int .i64 0, .int .i64 0]) ?_ 0 _ rfl; (with_reducible repeat (first | refine kN ?_ _ | refine kD ?_ | refine kA ?_ _)); exact BK103.out⟩, ⟨by repeat (first | (with_reducible first | exact HB.out | apply bA | apply bN | apply bD | refine bS ?_ GE103.out) | exact HB.out)⟩⟩
          ·
           rw [if_neg c13] at H
           have c13b0 : decide (a0 ≤ ((rd_T36 l1 x5_2).f1)) = false := decide_eq_false c13
           clear c13
           by_cases c15 : ((rd_T36 l1 x5_2).f0) = 0
           ·
            rw [if_pos c15] at H
            have c15b0 : (((rd_T36 l1 x5_2).f0) == 0) = true := beq_iff_eq.mpr c15
            have c15b1 : (((rd_T36 l1 x5_2).f0) != 0) = false := bne_eq_false_iff_eq.mpr c15
            clear c15; have H' := Aside0.mk H; clear H
            have hcz16_0 : w9.cell? ⟨gb103, 0, none⟩ = some (.int .i64 0) := (blk_cell BK103.out 0).trans rfl
            have hcz16_1 : w9.cell? ⟨gb103, 1, none⟩ = some (.int .i64 0) := (blk_cell BK103.out 1).trans rfl
            have hcz16_2 : w9.cell? ⟨gb103, 2, none⟩ = some (.int .i64 0) := (blk_cell BK103.out 2).trans rfl
            have hcz16_3 : w9.cell? ⟨gb103, 3, none⟩ = some (.int .i64 0) := (blk_cell BK103.out 3).trans rfl
            have hcz16_4 : w9.cell? ⟨gb103, 4, none⟩ = some (.int .i64 0) := (blk_cell BK103.out 4).trans rfl
            have hcz16_5 : w9.cell? ⟨gb103, 5, none⟩ = some (.string (⟨#[]⟩ : ByteArray)) := (blk_cell BK103.out 5).trans rfl
            have hcz16_6 : w9.cell? ⟨gb103, 6, none⟩ = some (.int .i64 0) := (blk_cell BK103.out 6).trans rfl
            have hcz16_7 : w9.cell? ⟨gb103, 7, none⟩ = some (.int .i64 0) := (blk_cell BK103.out 7).trans rfl
            have hfz16_0 := blk_frozen BK103.out 0
            have hfz16_1 := blk_frozen BK103.out 1
            have hfz16_2 := blk_frozen BK103.out 2
            have hfz16_3 := blk_frozen BK103.out 3
            have hfz16_4 := blk_frozen BK103.out 4
            have hfz16_5 := blk_frozen BK103.out 5
            have hfz16_6 := blk_frozen BK103.out 6
            have hfz16_7 := blk_frozen BK103.out 7
            go_wp2
            go_meet
            case rel => exact ⟨_, (false), (by first | rfl | (simp; done) | (simp [*]; done)), H', ⟨by have := HJ2.out; have := HK2.out; first | omega | exact Nat.le_refl _⟩, ⟨by (with_reducible repeat (first | refine kN ?_ _ | refine kD ?_ | refine kA ?_ _)); refine blk_put (cs := #[.int .i64 ((rd_T36 l1 x5_2).f0), .int .i64 ((rd_T36 l1 x5_2).f1), .int .i64 ((rd_T36 l1 x5_2).f2), .int .i64 ((rd_T36 l1 x5_2).f3.f0), .int .i64 ((rd_T36 l1 x5_2).f3.f1), .string ((rd_T36 l1 x5_2).f3.f2), .int .i64 ((rd_T36 l1 x5_2).f4), .int .i64 0]) ?_ 7 _ rfl; (with_reducible repeat (first | refine kN ?_ _ | refine kD ?_ | refine kA ?_ _)); refine blk_put (cs := #[.int .i64 ((rd_T36 l1 x5_2).f0), .int .i64 ((rd_T36 l1 x5_2).f1), .int .i64 ((rd_T36 l1 x5_2).f2), .int .i64 ((rd_T36 l1 x5_2).f3.f0), .int .i64 ((rd_T36 l1 x5_2).f3.f1), .string ((rd_T36 l1 x5_2).f3.f2), .int .i64 0, .int .i64 0]) ?_ 6 _ rfl; (with_reducible repeat (first | refine kN ?_ _ | refine kD ?_ | refine kA ?_ _)); refine blk_put (cs := #[.int .i64 ((rd_T36 l1 x5_2).f0), .int .i64 ((rd_T36 l1 x5_2).f1), .int .i64 ((rd_T36 l1 x5_2).f2), .int .i64 ((rd_T36 l1 x5_2).f3.f0), .int .i64 ((rd_T36 l1 x5_2).f3.f1), .string (⟨#[]⟩ : ByteArray), .int .i64 0, .int .i64 0]) ?_ 5 _ rfl; (with_reducible repeat (first | refine kN ?_ _ | refine kD ?_ | refine kA ?_ _)); refine blk_put (cs := #[.int .i64 ((rd_T36 l1 x5_2).f0), .int .i64 ((rd_T36 l1 x5_2).f1), .int .i64 ((rd_T36 l1 x5_2).f2), .int .i64 ((rd_T36 l1 x5_2).f3.f0), .int .i64 0, .string (⟨#[]⟩ : ByteArray), .int .i64 0, .int .i64 0]) ?_ 4 _ rfl; (with_reducible repeat (first | refine kN ?_ _ | refine kD ?_ | refine kA ?_ _)); refine blk_put (cs := #[.int .i64 ((rd_T36 l1 x5_2).f0), .int .i64 ((rd_T36 l1 x5_2).f1), .int .i64 ((rd_T36 l1 x5_2).f2), .int .i64 0, .int .i64 0, .string (⟨#[]⟩ : ByteArray), .int .i64 0, .int .i64 0]) ?_ 3 _ rfl; (with_reducible repeat (first | refine kN ?_ _ | refine kD ?_ | refine kA ?_ _)); refine blk_put (cs := #[.int .i64 ((rd_T36 l1 x5_2).f0), .int .i64 ((rd_T36 l1 x5_2).f1), .int .i64 0, .int .i64 0, .int .i64 0, .string (⟨#[]⟩ : ByteArray), .int .i64 0, .int .i64 0]) ?_ 2 _ rfl; (with_reducible repeat (first | refine kN ?_ _ | refine kD ?_ | refine kA ?_ _)); refine blk_put (cs := #[.int .i64 ((rd_T36 l1 x5_2).f0), .int .i64 0, .int .i64 0, .int .i64 0, .int .i64 0, .string (⟨#[]⟩ : ByteArray), .int .i64 0, .int .i64 0]) ?_ 1 _ rfl; (with_reducible repeat (first | refine kN ?_ _ | refine kD ?_ | refine kA ?_ _)); refine blk_put (cs := #[.int .i64 0, .int .i64 0, .int .i64 0, .int .i64 0, .int .i64 0, .string (⟨#[]⟩ : ByteArray), .int .i64 0, .int .i64 0]) ?_ 0 _ rfl; (with_reducible repeat (first | refine kN ?_ _ | refine kD ?_ | refine kA ?_ _)); exact BK103.out⟩, ⟨by repeat (first | (with_reducible first | exact HB.out | apply bA | apply bN | apply bD | refine bS ?_ GE103.out) | exact HB.out)⟩⟩
           ·
            rw [if_neg c15] at H
            have c15b0 : (((rd_T36 l1 x5_2).f0) == 0) = false := beq_eq_false_iff_ne.mpr c15
            have c15b1 : (((rd_T36 l1 x5_2).f0) != 0) = true := bne_iff_ne.mpr c15
            have H' := Aside0.mk H; clear H
            have hcz17_0 : w9.cell? ⟨gb103, 0, none⟩ = some (.int .i64 0) := (blk_cell BK103.out 0).trans rfl
            have hcz17_1 : w9.cell? ⟨gb103, 1, none⟩ = some (.int .i64 0) := (blk_cell BK103.out 1).trans rfl
            have hcz17_2 : w9.cell? ⟨gb103, 2, none⟩ = some (.int .i64 0) := (blk_cell BK103.out 2).trans rfl
            have hcz17_3 : w9.cell? ⟨gb103, 3, none⟩ = some (.int .i64 0) := (blk_cell BK103.out 3).trans rfl
            have hcz17_4 : w9.cell? ⟨gb103, 4, none⟩ = some (.int .i64 0) := (blk_cell BK103.out 4).trans rfl
            have hcz17_5 : w9.cell? ⟨gb103, 5, none⟩ = some (.string (⟨#[]⟩ : ByteArray)) := (blk_cell BK103.out 5).trans rfl
            have hcz17_6 : w9.cell? ⟨gb103, 6, none⟩ = some (.int .i64 0) := (blk_cell BK103.out 6).trans rfl
            have hcz17_7 : w9.cell? ⟨gb103, 7, none⟩ = some (.int .i64 0) := (blk_cell BK103.out 7).trans rfl
            have hfz17_0 := blk_frozen BK103.out 0
            have hfz17_1 := blk_frozen BK103.out 1
            have hfz17_2 := blk_frozen BK103.out 2
            have hfz17_3 := blk_frozen BK103.out 3
            have hfz17_4 := blk_frozen BK103.out 4
            have hfz17_5 := blk_frozen BK103.out 5
            have hfz17_6 := blk_frozen BK103.out 6
            have hfz17_7 := blk_frozen BK103.out 7
            go_wp2
            go_meet
            case rel => exact ⟨_, ((((rd_T36 l1 x5_2).f0) != 1)), (by first | rfl | (simp; done) | (simp [*]; done)), H', ⟨by have := HJ2.out; have := HK2.out; first | omega | exact Nat.le_refl _⟩, ⟨by (with_reducible repeat (first | refine kN ?_ _ | refine kD ?_ | refine kA ?_ _)); refine blk_put (cs := #[.int .i64 ((rd_T36 l1 x5_2).f0), .int .i64 ((rd_T36 l1 x5_2).f1), .int .i64 ((rd_T36 l1 x5_2).f2), .int .i64 ((rd_T36 l1 x5_2).f3.f0), .int .i64 ((rd_T36 l1 x5_2).f3.f1), .string ((rd_T36 l1 x5_2).f3.f2), .int .i64 ((rd_T36 l1 x5_2).f4), .int .i64 0]) ?_ 7 _ rfl; (with_reducible repeat (first | refine kN ?_ _ | refine kD ?_ | refine kA ?_ _)); refine blk_put (cs := #[.int .i64 ((rd_T36 l1 x5_2).f0), .int .i64 ((rd_T36 l1 x5_2).f1), .int .i64 ((rd_T36 l1 x5_2).f2), .int .i64 ((rd_T36 l1 x5_2).f3.f0), .int .i64 ((rd_T36 l1 x5_2).f3.f1), .string ((rd_T36 l1 x5_2).f3.f2), .int .i64 0, .int .i64 0]) ?_ 6 _ rfl; (with_reducible repeat (first | refine kN ?_ _ | refine kD ?_ | refine kA ?_ _)); refine blk_put (cs := #[.int .i64 ((rd_T36 l1 x5_2).f0), .int .i64 ((rd_T36 l1 x5_2).f1), .int .i64 ((rd_T36 l1 x5_2).f2), .int .i64 ((rd_T36 l1 x5_2).f3.f0), .int .i64 ((rd_T36 l1 x5_2).f3.f1), .string (⟨#[]⟩ : ByteArray), .int .i64 0, .int .i64 0]) ?_ 5 _ rfl; (with_reducible repeat (first | refine kN ?_ _ | refine kD ?_ | refine kA ?_ _)); refine blk_put (cs := #[.int .i64 ((rd_T36 l1 x5_2).f0), .int .i64 ((rd_T36 l1 x5_2).f1), .int .i64 ((rd_T36 l1 x5_2).f2), .int .i64 ((rd_T36 l1 x5_2).f3.f0), .int .i64 0, .string (⟨#[]⟩ : ByteArray), .int .i64 0, .int .i64 0]) ?_ 4 _ rfl; (with_reducible repeat (first | refine kN ?_ _ | refine kD ?_ | refine kA ?_ _)); refine blk_put (cs := #[.int .i64 ((rd_T36 l1 x5_2).f0), .int .i64 ((rd_T36 l1 x5_2).f1), .int .i64 ((rd_T36 l1 x5_2).f2), .int .i64 0, .int .i64 0, .string (⟨#[]⟩ : ByteArray), .int .i64 0, .int .i64 0]) ?_ 3 _ rfl; (with_reducible repeat (first | refine kN ?_ _ | refine kD ?_ | refine kA ?_ _)); refine blk_put (cs := #[.int .i64 ((rd_T36 l1 x5_2).f0), .int .i64 ((rd_T36 l1 x5_2).f1), .int .i64 0, .int .i64 0, .int .i64 0, .string (⟨#[]⟩ : ByteArray), .int .i64 0, .int .i64 0]) ?_ 2 _ rfl; (with_reducible repeat (first | refine kN ?_ _ | refine kD ?_ | refine kA ?_ _)); refine blk_put (cs := #[.int .i64 ((rd_T36 l1 x5_2).f0), .int .i64 0, .int .i64 0, .int .i64 0, .int .i64 0, .string (⟨#[]⟩ : ByteArray), .int .i64 0, .int .i64 0]) ?_ 1 _ rfl; (with_reducible repeat (first | refine kN ?_ _ | refine kD ?_ | refine kA ?_ _)); refine blk_put (cs := #[.int .i64 0, .int .i64 0, .int .i64 0, .int .i64 0, .int .i64 0, .string (⟨#[]⟩ : ByteArray), .int .i64 0, .int .i64 0]) ?_ 0 _ rfl; (with_reducible repeat (first | refine kN ?_ _ | refine kD ?_ | refine kA ?_ _)); exact BK103.out⟩, ⟨by repeat (first | (with_reducible first | exact HB.out | apply bA | apply bN | apply bD | refine bS ?_ GE103.out) | exact HB.out)⟩⟩
        case rest =>
         clear HC8; (try clear c1); (try clear p1); (try clear q1); (try clear hx1); (try clear p2); (try clear c3); (try clear c4); (try clear c4b0); (try clear c5); (try clear c6); (try clear c6b0); (try clear c7); (try clear c7b0); (try clear p10); (try clear q10); (try clear hx10); (try clear c11); (try clear c11b0); (try clear c13); (try clear c13b0); (try clear c15); (try clear c15b0); (try clear c15b1); (try clear hcz10_0); (try clear hcz10_1); (try clear hcz10_2); (try clear hcz10_3); (try clear hcz10_4); (try clear hcz10_5); (try clear hcz10_6); (try clear hcz10_7); (try clear hcz12_0); (try clear hcz12_1); (try clear hcz12_2); (try clear hcz12_3); (try clear hcz12_4); (try clear hcz12_5); (try clear hcz12_6); (try clear hcz12_7); (try clear hcz14_0); (try clear hcz14_1); (try clear hcz14_2); (try clear hcz14_3); (try clear hcz14_4); (try clear hcz14_5); (try clear hcz14_6); (try clear hcz14_7); (try clear hcz16_0); (try clear hcz16_1); (try clear hcz16_2); (try clear hcz16_3); (try clear hcz16_4); (try clear hcz16_5); (try clear hcz16_6); (try clear hcz16_7); (try clear hcz17_0); (try clear hcz17_1); (try clear hcz17_2); (try clear hcz17_3); (try clear hcz17_4); (try clear hcz17_5); (try clear hcz17_6); (try clear hcz17_7); (try clear hfz10_0); (try clear hfz10_1); (try clear hfz10_2); (try clear hfz10_3); (try clear hfz10_4); (try clear hfz10_5); (try clear hfz10_6); (try clear hfz10_7); (try clear hfz12_0); (try clear hfz12_1); (try clear hfz12_2); (try clear hfz12_3); (try clear hfz12_4); (try clear hfz12_5); (try clear hfz12_6); (try clear hfz12_7); (try clear hfz14_0); (try clear hfz14_1); (try clear hfz14_2); (try clear hfz14_3); (try clear hfz14_4); (try clear hfz14_5); (try clear hfz14_6); (try clear hfz14_7); (try clear hfz16_0); (try clear hfz16_1); (try clear hfz16_2); (try clear hfz16_3); (try clear hfz16_4); (try clear hfz16_5); (try clear hfz16_6); (try clear hfz16_7); (try clear hfz17_0); (try clear hfz17_1); (try clear hfz17_2); (try clear hfz17_3); (try clear hfz17_4)
         (try clear hfz17_5); (try clear hfz17_6); (try clear hfz17_7); (try clear hx102_0); (try clear hx102_1); (try clear hx102_2); (try clear hx102_3); (try clear hx102_4); (try clear hx102_5); (try clear hx102_6); (try clear hx102_7); (try clear p102); (try clear p2); (try clear q102)
         obtain ⟨kq, x41_7, rfl, HA, HJ7, BK103, HB⟩ := hcut
         cases kq with
         | zero => exact absurd HA.out (by simp [assessorref09_valid.j2])
         | succ kj7 =>
          have H := HA.out
          clear HA
          simp only [assessorref09_valid.j2] at H
          by_cases c18 : x41_7 = true
          ·
           subst c18
           have H1 : (some 1) = some r := by rw [if_pos rfl] at H; exact H
           clear H; have H := H1; clear H1
           obtain rfl := Option.some.inj H
           go_wp2
           go_ret
           exact ⟨by first | rfl | (simp [errW_none, errW_some] <;> rfl) | (simp [*, errW_none, errW_some] <;> rfl), by repeat (first | (with_reducible first | exact HB.out | apply bA | apply bN | apply bD | refine bS ?_ GE103.out) | exact HB.out)⟩
          ·
           replace c18 := Bool.eq_false_iff.mpr c18
           subst c18
           have H1 : (if ((rd_T36 l1 x5_2).f0) = 1 then (if ((rd_T36 l1 x5_2).f2) < 0 then (some 1) else (if ((rd_T36 l1 x5_2).f2) ≥ a0 then (some 1) else (if ((rd_T36 l1 x5_2).f0) = 0 then ((assessorref09_IsMark.f kj7 ((rd_T36 l1 x5_2).f3.f0) ((rd_T36 l1 x5_2).f3.f1) ((rd_T36 l1 x5_2).f3.f2)).bind fun t104 => (if t104 = true then (assessorref09_valid.l0 kj7 a0 l1 (wrap64 (x5_2 + 1))) else (some 1))) else (assessorref09_valid.l0 kj7 a0 l1 (wrap64 (x5_2 + 1)))))) else (if ((rd_T36 l1 x5_2).f0) = 0 then ((assessorref09_IsMark.f kj7 ((rd_T36 l1 x5_2).f3.f0) ((rd_T36 l1 x5_2).f3.f1) ((rd_T36 l1 x5_2).f3.f2)).bind fun t105 => (if t105 = true then (assessorref09_valid.l0 kj7 a0 l1 (wrap64 (x5_2 + 1))) else (some 1))) else (assessorref09_valid.l0 kj7 a0 l1 (wrap64 (x5_2 + 1))))) = some r := by rw [if_neg (show ¬ (false = true) by decide)] at H; exact H
           clear H; have H := H1; clear H1
           by_cases c19 : ((rd_T36 l1 x5_2).f0) = 1
           ·
            rw [if_pos c19] at H
            have c19b0 : (((rd_T36 l1 x5_2).f0) == 1) = true := beq_iff_eq.mpr c19
            have c19b1 : (((rd_T36 l1 x5_2).f0) != 1) = false := bne_eq_false_iff_eq.mpr c19
            clear c19
            by_cases c20 : ((rd_T36 l1 x5_2).f2) < 0
            ·
             rw [if_pos c20] at H
             have c20b0 : decide (((rd_T36 l1 x5_2).f2) < 0) = true := decide_eq_true c20
             clear c20
             obtain rfl := Option.some.inj H
             have hcz21_0 : wc.cell? ⟨gb103, 0, none⟩ = some (.int .i64 ((rd_T36 l1 x5_2).f0)) := (blk_cell BK103.out 0).trans rfl
             have hcz21_1 : wc.cell? ⟨gb103, 1, none⟩ = some (.int .i64 ((rd_T36 l1 x5_2).f1)) := (blk_cell BK103.out 1).trans rfl
             have hcz21_2 : wc.cell? ⟨gb103, 2, none⟩ = some (.int .i64 ((rd_T36 l1 x5_2).f2)) := (blk_cell BK103.out 2).trans rfl
             have hcz21_3 : wc.cell? ⟨gb103, 3, none⟩ = some (.int .i64 ((rd_T36 l1 x5_2).f3.f0)) := (blk_cell BK103.out 3).trans rfl
             have hcz21_4 : wc.cell? ⟨gb103, 4, none⟩ = some (.int .i64 ((rd_T36 l1 x5_2).f3.f1)) := (blk_cell BK103.out 4).trans rfl
             have hcz21_5 : wc.cell? ⟨gb103, 5, none⟩ = some (.string ((rd_T36 l1 x5_2).f3.f2)) := (blk_cell BK103.out 5).trans rfl
             have hcz21_6 : wc.cell? ⟨gb103, 6, none⟩ = some (.int .i64 ((rd_T36 l1 x5_2).f4)) := (blk_cell BK103.out 6).trans rfl
             have hcz21_7 : wc.cell? ⟨gb103, 7, none⟩ = some (.int .i64 ((rd_T36 l1 x5_2).f5)) := (blk_cell BK103.out 7).trans rfl
             have hfz21_0 := blk_frozen BK103.out 0
             have hfz21_1 := blk_frozen BK103.out 1
             have hfz21_2 := blk_frozen BK103.out 2
             have hfz21_3 := blk_frozen BK103.out 3
             have hfz21_4 := blk_frozen BK103.out 4
             have hfz21_5 := blk_frozen BK103.out 5
             have hfz21_6 := blk_frozen BK103.out 6
             have hfz21_7 := blk_frozen BK103.out 7
             go_wp2
             go_ret
             exact ⟨by first | rfl | (simp [errW_none, errW_some] <;> rfl) | (simp [*, errW_none, errW_some] <;> rfl), by repeat (first | (with_reducible first | exact HB.out | apply bA | apply bN | apply bD | refine bS ?_ GE103.out) | exact HB.out)⟩
            ·
             rw [if_neg c20] at H
             have c20b0 : decide (((rd_T36 l1 x5_2).f2) < 0) = false := decide_eq_false c20
             clear c20
             by_cases c22 : ((rd_T36 l1 x5_2).f2) ≥ a0
             ·
              rw [if_pos c22] at H
              have c22b0 : decide (a0 ≤ ((rd_T36 l1 x5_2).f2)) = true := decide_eq_true c22
              clear c22
              obtain rfl := Option.some.inj H
              have hcz23_0 : wc.cell? ⟨gb103, 0, none⟩ = some (.int .i64 ((rd_T36 l1 x5_2).f0)) := (blk_cell BK103.out 0).trans rfl
              have hcz23_1 : wc.cell? ⟨gb103, 1, none⟩ = some (.int .i64 ((rd_T36 l1 x5_2).f1)) := (blk_cell BK103.out 1).trans rfl
              have hcz23_2 : wc.cell? ⟨gb103, 2, none⟩ = some (.int .i64 ((rd_T36 l1 x5_2).f2)) := (blk_cell BK103.out 2).trans rfl
              have hcz23_3 : wc.cell? ⟨gb103, 3, none⟩ = some (.int .i64 ((rd_T36 l1 x5_2).f3.f0)) := (blk_cell BK103.out 3).trans rfl
              have hcz23_4 : wc.cell? ⟨gb103, 4, none⟩ = some (.int .i64 ((rd_T36 l1 x5_2).f3.f1)) := (blk_cell BK103.out 4).trans rfl
              have hcz23_5 : wc.cell? ⟨gb103, 5, none⟩ = some (.string ((rd_T36 l1 x5_2).f3.f2)) := (blk_cell BK103.out 5).trans rfl
              have hcz23_6 : wc.cell? ⟨gb103, 6, none⟩ = some (.int .i64 ((rd_T36 l1 x5_2).f4)) := (blk_cell BK103.out 6).trans rfl
              have hcz23_7 : wc.cell? ⟨gb103, 7, none⟩ = some (.int .i64 ((rd_T36 l1 x5_2).f5)) := (blk_cell BK103.out 7).trans rfl
              have hfz23_0 := blk_frozen BK103.out 0
              have hfz23_1 := blk_frozen BK103.out 1
              have hfz23_2 := blk_frozen BK103.out 2
              have hfz23_3 := blk_frozen BK103.out 3
              have hfz23_4 := blk_frozen BK103.out 4
              have hfz23_5 := blk_frozen BK103.out 5
              have hfz23_6 := blk_frozen BK103.out 6
              have hfz23_7 := blk_frozen BK103.out 7
              go_wp2
              go_ret
              exact ⟨by first | rfl | (simp [errW_none, errW_some] <;> rfl) | (simp [*, errW_none, errW_some] <;> rfl), by repeat (first | (with_reducible first | exact HB.out | apply bA | apply bN | apply bD | refine bS ?_ GE103.out) | exact HB.out)⟩
             ·
              rw [if_neg c22] at H
              have c22b0 : decide (a0 ≤ ((rd_T36 l1 x5_2).f2)) = false := decide_eq_false c22
              clear c22
              by_cases c24 : ((rd_T36 l1 x5_2).f0) = 0
              ·
               rw [if_pos c24] at H
               have c24b0 : (((rd_T36 l1 x5_2).f0) == 0) = true := beq_iff_eq.mpr c24
               have c24b1 : (((rd_T36 l1 x5_2).f0) != 0) = false := bne_eq_false_iff_eq.mpr c24
               clear c24
               replace H := Option.bind_eq_some_iff.mp H
               obtain ⟨t104, A250, H⟩ := H
               replace H : (if t104 = true then (assessorref09_valid.l0 kj7 a0 l1 (wrap64 (x5_2 + 1))) else (some 1)) = some r := H
               have A25 := Aside0.mk A250
               clear A250
               by_cases c26 : t104 = true
               ·
                subst c26
                have H1 : (assessorref09_valid.l0 kj7 a0 l1 (wrap64 (x5_2 + 1))) = some r := by rw [if_pos rfl] at H; exact H
                clear H; have H := H1; clear H1; have H' := Aside0.mk H; clear H
                have hcz27_0 : wc.cell? ⟨gb103, 0, none⟩ = some (.int .i64 ((rd_T36 l1 x5_2).f0)) := (blk_cell BK103.out 0).trans rfl
                have hcz27_1 : wc.cell? ⟨gb103, 1, none⟩ = some (.int .i64 ((rd_T36 l1 x5_2).f1)) := (blk_cell BK103.out 1).trans rfl
                have hcz27_2 : wc.cell? ⟨gb103, 2, none⟩ = some (.int .i64 ((rd_T36 l1 x5_2).f2)) := (blk_cell BK103.out 2).trans rfl
                have hcz27_3 : wc.cell? ⟨gb103, 3, none⟩ = some (.int .i64 ((rd_T36 l1 x5_2).f3.f0)) := (blk_cell BK103.out 3).trans rfl
                have hcz27_4 : wc.cell? ⟨gb103, 4, none⟩ = some (.int .i64 ((rd_T36 l1 x5_2).f3.f1)) := (blk_cell BK103.out 4).trans rfl
                have hcz27_5 : wc.cell? ⟨gb103, 5, none⟩ = some (.string ((rd_T36 l1 x5_2).f3.f2)) := (blk_cell BK103.out 5).trans rfl
                have hcz27_6 : wc.cell? ⟨gb103, 6, none⟩ = some (.int .i64 ((rd_T36 l1 x5_2).f4)) := (blk_cell BK103.out 6).trans rfl
                have hcz27_7 : wc.cell? ⟨gb103, 7, none⟩ = some (.int .i64 ((rd_T36 l1 x5_2).f5)) := (blk_cell BK103.out 7).trans rfl
                have hfz27_0 := blk_frozen BK103.out 0
                have hfz27_1 := blk_frozen BK103.out 1
                have hfz27_2 := blk_frozen BK103.out 2
                have hfz27_3 := blk_frozen BK103.out 3
                have hfz27_4 := blk_frozen BK103.out 4
                have hfz27_5 := blk_frozen BK103.out 5
                have hfz27_6 := blk_frozen BK103.out 6
                have hfz27_7 := blk_frozen BK103.out 7
                go_wp2_with (first | (go_at_call 24; (with_reducible refine (assessorref09_IsMark.calls kj7 ((rd_T36 l1 x5_2).f3.f0) ((rd_T36 l1 x5_2).f3.f1) ((rd_T36 l1 x5_2).f3.f2) true _ A25.out).mono ?_); rintro e w28 ⟨rfl, hb⟩; have n0_ := Aside0.mk (blk_below (g := gb103) (o := .cells #[.int .i64 ((rd_T36 l1 x5_2).f0), .int .i64 ((rd_T36 l1 x5_2).f1), .int .i64 ((rd_T36 l1 x5_2).f2), .int .i64 ((rd_T36 l1 x5_2).f3.f0), .int .i64 ((rd_T36 l1 x5_2).f3.f1), .string ((rd_T36 l1 x5_2).f3.f2), .int .i64 ((rd_T36 l1 x5_2).f4), .int .i64 ((rd_T36 l1 x5_2).f5)] 36 (0, 0)) (by (with_reducible repeat (first | refine kN ?_ _ | refine kD ?_ | refine kA ?_ _)); exact BK103.out) hb); have n1_ := Aside0.mk (bT (by repeat (first | (with_reducible first | exact HB.out | apply bA | apply bN | apply bD | refine bS ?_ GE103.out) | exact HB.out)) hb); clear BK103; clear HB; have BK103 := n0_; have HB := n1_; clear n0_ n1_; (try clear hb); (try clear hb2); (try clear hk); (try clear hi)))
                go_roundg kj7
                case measure => have := HJ2.out; have := HK2.out; have := HJ7.out; omega
                case rel => exact ⟨(wrap64 (x5_2 + 1)), (by first | rfl | (simp; done) | (simp [*]; done)), H', ⟨by have := HJ2.out; have := HK2.out; have := HJ7.out; omega⟩, ⟨by repeat (first | (with_reducible first | exact HB.out | apply bA | apply bN | apply bD | refine bS ?_ GE103.out) | exact HB.out)⟩⟩
               ·
                replace c26 := Bool.eq_false_iff.mpr c26
                subst c26
                have H1 : (some 1) = some r := by rw [if_neg (show ¬ (false = true) by decide)] at H; exact H
                clear H; have H := H1; clear H1
                obtain rfl := Option.some.inj H
                have hcz29_0 : wc.cell? ⟨gb103, 0, none⟩ = some (.int .i64 ((rd_T36 l1 x5_2).f0)) := (blk_cell BK103.out 0).trans rfl
                have hcz29_1 : wc.cell? ⟨gb103, 1, none⟩ = some (.int .i64 ((rd_T36 l1 x5_2).f1)) := (blk_cell BK103.out 1).trans rfl
                have hcz29_2 : wc.cell? ⟨gb103, 2, none⟩ = some (.int .i64 ((rd_T36 l1 x5_2).f2)) := (blk_cell BK103.out 2).trans rfl
                have hcz29_3 : wc.cell? ⟨gb103, 3, none⟩ = some (.int .i64 ((rd_T36 l1 x5_2).f3.f0)) := (blk_cell BK103.out 3).trans rfl
                have hcz29_4 : wc.cell? ⟨gb103, 4, none⟩ = some (.int .i64 ((rd_T36 l1 x5_2).f3.f1)) := (blk_cell BK103.out 4).trans rfl
                have hcz29_5 : wc.cell? ⟨gb103, 5, none⟩ = some (.string ((rd_T36 l1 x5_2).f3.f2)) := (blk_cell BK103.out 5).trans rfl
                have hcz29_6 : wc.cell? ⟨gb103, 6, none⟩ = some (.int .i64 ((rd_T36 l1 x5_2).f4)) := (blk_cell BK103.out 6).trans rfl
                have hcz29_7 : wc.cell? ⟨gb103, 7, none⟩ = some (.int .i64 ((rd_T36 l1 x5_2).f5)) := (blk_cell BK103.out 7).trans rfl
                have hfz29_0 := blk_frozen BK103.out 0
                have hfz29_1 := blk_frozen BK103.out 1
                have hfz29_2 := blk_frozen BK103.out 2
                have hfz29_3 := blk_frozen BK103.out 3
                have hfz29_4 := blk_frozen BK103.out 4
                have hfz29_5 := blk_frozen BK103.out 5
                have hfz29_6 := blk_frozen BK103.out 6
                have hfz29_7 := blk_frozen BK103.out 7
                go_wp2_with (first | (go_at_call 24; (with_reducible refine (assessorref09_IsMark.calls kj7 ((rd_T36 l1 x5_2).f3.f0) ((rd_T36 l1 x5_2).f3.f1) ((rd_T36 l1 x5_2).f3.f2) false _ A25.out).mono ?_); rintro e w30 ⟨rfl, hb⟩; have n0_ := Aside0.mk (blk_below (g := gb103) (o := .cells #[.int .i64 ((rd_T36 l1 x5_2).f0), .int .i64 ((rd_T36 l1 x5_2).f1), .int .i64 ((rd_T36 l1 x5_2).f2), .int .i64 ((rd_T36 l1 x5_2).f3.f0), .int .i64 ((rd_T36 l1 x5_2).f3.f1), .string ((rd_T36 l1 x5_2).f3.f2), .int .i64 ((rd_T36 l1 x5_2).f4), .int .i64 ((rd_T36 l1 x5_2).f5)] 36 (0, 0)) (by (with_reducible repeat (first | refine kN ?_ _ | refine kD ?_ | refine kA ?_ _)); exact BK103.out) hb); have n1_ := Aside0.mk (bT (by repeat (first | (with_reducible first | exact HB.out | apply bA | apply bN | apply bD | refine bS ?_ GE103.out) | exact HB.out)) hb); clear BK103; clear HB; have BK103 := n0_; have HB := n1_; clear n0_ n1_; (try clear hb); (try clear hb2); (try clear hk); (try clear hi)))
                go_ret
                exact ⟨by first | rfl | (simp [errW_none, errW_some] <;> rfl) | (simp [*, errW_none, errW_some] <;> rfl), by repeat (first | (with_reducible first | exact HB.out | apply bA | apply bN | apply bD | refine bS ?_ GE103.out) | exact HB.out)⟩
              ·
               rw [if_neg c24] at H
               have c24b0 : (((rd_T36 l1 x5_2).f0) == 0) = false := beq_eq_false_iff_ne.mpr c24
               have c24b1 : (((rd_T36 l1 x5_2).f0) != 0) = true := bne_iff_ne.mpr c24
               have H' := Aside0.mk H; clear H
               have hcz31_0 : wc.cell? ⟨gb103, 0, none⟩ = some (.int .i64 ((rd_T36 l1 x5_2).f0)) := (blk_cell BK103.out 0).trans rfl
               have hcz31_1 : wc.cell? ⟨gb103, 1, none⟩ = some (.int .i64 ((rd_T36 l1 x5_2).f1)) := (blk_cell BK103.out 1).trans rfl
               have hcz31_2 : wc.cell? ⟨gb103, 2, none⟩ = some (.int .i64 ((rd_T36 l1 x5_2).f2)) := (blk_cell BK103.out 2).trans rfl
               have hcz31_3 : wc.cell? ⟨gb103, 3, none⟩ = some (.int .i64 ((rd_T36 l1 x5_2).f3.f0)) := (blk_cell BK103.out 3).trans rfl
               have hcz31_4 : wc.cell? ⟨gb103, 4, none⟩ = some (.int .i64 ((rd_T36 l1 x5_2).f3.f1)) := (blk_cell BK103.out 4).trans rfl
               have hcz31_5 : wc.cell? ⟨gb103, 5, none⟩ = some (.string ((rd_T36 l1 x5_2).f3.f2)) := (blk_cell BK103.out 5).trans rfl
               have hcz31_6 : wc.cell? ⟨gb103, 6, none⟩ = some (.int .i64 ((rd_T36 l1 x5_2).f4)) := (blk_cell BK103.out 6).trans rfl
               have hcz31_7 : wc.cell? ⟨gb103, 7, none⟩ = some (.int .i64 ((rd_T36 l1 x5_2).f5)) := (blk_cell BK103.out 7).trans rfl
               have hfz31_0 := blk_frozen BK103.out 0
               have hfz31_1 := blk_frozen BK103.out 1
               have hfz31_2 := blk_frozen BK103.out 2
               have hfz31_3 := blk_frozen BK103.out 3
               have hfz31_4 := blk_frozen BK103.out 4
               have hfz31_5 := blk_frozen BK103.out 5
               have hfz31_6 := blk_frozen BK103.out 6
               have hfz31_7 := blk_frozen BK103.out 7
               go_wp2
               go_roundg kj7
               case measure => have := HJ2.out; have := HK2.out; have := HJ7.out; omega
               case rel => exact ⟨(wrap64 (x5_2 + 1)), (by first | rfl | (simp; done) | (simp [*]; done)), H', ⟨by have := HJ2.out; have := HK2.out; have := HJ7.out; omega⟩, ⟨by repeat (first | (with_reducible first | exact HB.out | apply bA | apply bN | apply bD | refine bS ?_ GE103.out) | exact HB.out)⟩⟩
           ·
            rw [if_neg c19] at H
            have c19b0 : (((rd_T36 l1 x5_2).f0) == 1) = false := beq_eq_false_iff_ne.mpr c19
            have c19b1 : (((rd_T36 l1 x5_2).f0) != 1) = true := bne_iff_ne.mpr c19
            by_cases c32 : ((rd_T36 l1 x5_2).f0) = 0
            ·
             rw [if_pos c32] at H
             have c32b0 : (((rd_T36 l1 x5_2).f0) == 0) = true := beq_iff_eq.mpr c32
             have c32b1 : (((rd_T36 l1 x5_2).f0) != 0) = false := bne_eq_false_iff_eq.mpr c32
             clear c32
             replace H := Option.bind_eq_some_iff.mp H
             obtain ⟨t105, A330, H⟩ := H
             replace H : (if t105 = true then (assessorref09_valid.l0 kj7 a0 l1 (wrap64 (x5_2 + 1))) else (some 1)) = some r := H
             have A33 := Aside0.mk A330
             clear A330
             by_cases c34 : t105 = true
             ·
              subst c34
              have H1 : (assessorref09_valid.l0 kj7 a0 l1 (wrap64 (x5_2 + 1))) = some r := by rw [if_pos rfl] at H; exact H
              clear H; have H := H1; clear H1; have H' := Aside0.mk H; clear H
              have hcz35_0 : wc.cell? ⟨gb103, 0, none⟩ = some (.int .i64 ((rd_T36 l1 x5_2).f0)) := (blk_cell BK103.out 0).trans rfl
              have hcz35_1 : wc.cell? ⟨gb103, 1, none⟩ = some (.int .i64 ((rd_T36 l1 x5_2).f1)) := (blk_cell BK103.out 1).trans rfl
              have hcz35_2 : wc.cell? ⟨gb103, 2, none⟩ = some (.int .i64 ((rd_T36 l1 x5_2).f2)) := (blk_cell BK103.out 2).trans rfl
              have hcz35_3 : wc.cell? ⟨gb103, 3, none⟩ = some (.int .i64 ((rd_T36 l1 x5_2).f3.f0)) := (blk_cell BK103.out 3).trans rfl
              have hcz35_4 : wc.cell? ⟨gb103, 4, none⟩ = some (.int .i64 ((rd_T36 l1 x5_2).f3.f1)) := (blk_cell BK103.out 4).trans rfl
              have hcz35_5 : wc.cell? ⟨gb103, 5, none⟩ = some (.string ((rd_T36 l1 x5_2).f3.f2)) := (blk_cell BK103.out 5).trans rfl
              have hcz35_6 : wc.cell? ⟨gb103, 6, none⟩ = some (.int .i64 ((rd_T36 l1 x5_2).f4)) := (blk_cell BK103.out 6).trans rfl
              have hcz35_7 : wc.cell? ⟨gb103, 7, none⟩ = some (.int .i64 ((rd_T36 l1 x5_2).f5)) := (blk_cell BK103.out 7).trans rfl
              have hfz35_0 := blk_frozen BK103.out 0
              have hfz35_1 := blk_frozen BK103.out 1
              have hfz35_2 := blk_frozen BK103.out 2
              have hfz35_3 := blk_frozen BK103.out 3
              have hfz35_4 := blk_frozen BK103.out 4
              have hfz35_5 := blk_frozen BK103.out 5
              have hfz35_6 := blk_frozen BK103.out 6
              have hfz35_7 := blk_frozen BK103.out 7
              go_wp2_with (first | (go_at_call 24; (with_reducible refine (assessorref09_IsMark.calls kj7 ((rd_T36 l1 x5_2).f3.f0) ((rd_T36 l1 x5_2).f3.f1) ((rd_T36 l1 x5_2).f3.f2) true _ A33.out).mono ?_); rintro e w36 ⟨rfl, hb⟩; have n0_ := Aside0.mk (blk_below (g := gb103) (o := .cells #[.int .i64 ((rd_T36 l1 x5_2).f0), .int .i64 ((rd_T36 l1 x5_2).f1), .int .i64 ((rd_T36 l1 x5_2).f2), .int .i64 ((rd_T36 l1 x5_2).f3.f0), .int .i64 ((rd_T36 l1 x5_2).f3.f1), .string ((rd_T36 l1 x5_2).f3.f2), .int .i64 ((rd_T36 l1 x5_2).f4), .int .i64 ((rd_T36 l1 x5_2).f5)] 36 (0, 0)) (by (with_reducible repeat (first | refine kN ?_ _ | refine kD ?_ | refine kA ?_ _)); exact BK103.out) hb); have n1_ := Aside0.mk (bT (by repeat (first | (with_reducible first | exact HB.out | apply bA | apply bN | apply bD | refine bS ?_ GE103.out) | exact HB.out)) hb); clear BK103; clear HB; have BK103 := n0_; have HB := n1_; clear n0_ n1_; (try clear hb); (try clear hb2); (try clear hk); (try clear hi)))
              go_roundg kj7
              case measure => have := HJ2.out; have := HK2.out; have := HJ7.out; omega
              case rel => exact ⟨(wrap64 (x5_2 + 1)), (by first | rfl | (simp; done) | (simp [*]; done)), H', ⟨by have := HJ2.out; have := HK2.out; have := HJ7.out; omega⟩, ⟨by repeat (first | (with_reducible first | exact HB.out | apply bA | apply bN | apply bD | refine bS ?_ GE103.out) | exact HB.out)⟩⟩
             ·
              replace c34 := Bool.eq_false_iff.mpr c34
              subst c34
              have H1 : (some 1) = some r := by rw [if_neg (show ¬ (false = true) by decide)] at H; exact H
              clear H; have H := H1; clear H1
              obtain rfl := Option.some.inj H
              have hcz37_0 : wc.cell? ⟨gb103, 0, none⟩ = some (.int .i64 ((rd_T36 l1 x5_2).f0)) := (blk_cell BK103.out 0).trans rfl
              have hcz37_1 : wc.cell? ⟨gb103, 1, none⟩ = some (.int .i64 ((rd_T36 l1 x5_2).f1)) := (blk_cell BK103.out 1).trans rfl
              have hcz37_2 : wc.cell? ⟨gb103, 2, none⟩ = some (.int .i64 ((rd_T36 l1 x5_2).f2)) := (blk_cell BK103.out 2).trans rfl
              have hcz37_3 : wc.cell? ⟨gb103, 3, none⟩ = some (.int .i64 ((rd_T36 l1 x5_2).f3.f0)) := (blk_cell BK103.out 3).trans rfl
              have hcz37_4 : wc.cell? ⟨gb103, 4, none⟩ = some (.int .i64 ((rd_T36 l1 x5_2).f3.f1)) := (blk_cell BK103.out 4).trans rfl
              have hcz37_5 : wc.cell? ⟨gb103, 5, none⟩ = some (.string ((rd_T36 l1 x5_2).f3.f2)) := (blk_cell BK103.out 5).trans rfl
              have hcz37_6 : wc.cell? ⟨gb103, 6, none⟩ = some (.int .i64 ((rd_T36 l1 x5_2).f4)) := (blk_cell BK103.out 6).trans rfl
              have hcz37_7 : wc.cell? ⟨gb103, 7, none⟩ = some (.int .i64 ((rd_T36 l1 x5_2).f5)) := (blk_cell BK103.out 7).trans rfl
              have hfz37_0 := blk_frozen BK103.out 0
              have hfz37_1 := blk_frozen BK103.out 1
              have hfz37_2 := blk_frozen BK103.out 2
              have hfz37_3 := blk_frozen BK103.out 3
              have hfz37_4 := blk_frozen BK103.out 4
              have hfz37_5 := blk_frozen BK103.out 5
              have hfz37_6 := blk_frozen BK103.out 6
              have hfz37_7 := blk_frozen BK103.out 7
              go_wp2_with (first | (go_at_call 24; (with_reducible refine (assessorref09_IsMark.calls kj7 ((rd_T36 l1 x5_2).f3.f0) ((rd_T36 l1 x5_2).f3.f1) ((rd_T36 l1 x5_2).f3.f2) false _ A33.out).mono ?_); rintro e w38 ⟨rfl, hb⟩; have n0_ := Aside0.mk (blk_below (g := gb103) (o := .cells #[.int .i64 ((rd_T36 l1 x5_2).f0), .int .i64 ((rd_T36 l1 x5_2).f1), .int .i64 ((rd_T36 l1 x5_2).f2), .int .i64 ((rd_T36 l1 x5_2).f3.f0), .int .i64 ((rd_T36 l1 x5_2).f3.f1), .string ((rd_T36 l1 x5_2).f3.f2), .int .i64 ((rd_T36 l1 x5_2).f4), .int .i64 ((rd_T36 l1 x5_2).f5)] 36 (0, 0)) (by (with_reducible repeat (first | refine kN ?_ _ | refine kD ?_ | refine kA ?_ _)); exact BK103.out) hb); have n1_ := Aside0.mk (bT (by repeat (first | (with_reducible first | exact HB.out | apply bA | apply bN | apply bD | refine bS ?_ GE103.out) | exact HB.out)) hb); clear BK103; clear HB; have BK103 := n0_; have HB := n1_; clear n0_ n1_; (try clear hb); (try clear hb2); (try clear hk); (try clear hi)))
              go_ret
              exact ⟨by first | rfl | (simp [errW_none, errW_some] <;> rfl) | (simp [*, errW_none, errW_some] <;> rfl), by repeat (first | (with_reducible first | exact HB.out | apply bA | apply bN | apply bD | refine bS ?_ GE103.out) | exact HB.out)⟩
            ·
             rw [if_neg c32] at H
             have c32b0 : (((rd_T36 l1 x5_2).f0) == 0) = false := beq_eq_false_iff_ne.mpr c32
             have c32b1 : (((rd_T36 l1 x5_2).f0) != 0) = true := bne_iff_ne.mpr c32
             have H' := Aside0.mk H; clear H
             have hcz39_0 : wc.cell? ⟨gb103, 0, none⟩ = some (.int .i64 ((rd_T36 l1 x5_2).f0)) := (blk_cell BK103.out 0).trans rfl
             have hcz39_1 : wc.cell? ⟨gb103, 1, none⟩ = some (.int .i64 ((rd_T36 l1 x5_2).f1)) := (blk_cell BK103.out 1).trans rfl
             have hcz39_2 : wc.cell? ⟨gb103, 2, none⟩ = some (.int .i64 ((rd_T36 l1 x5_2).f2)) := (blk_cell BK103.out 2).trans rfl
             have hcz39_3 : wc.cell? ⟨gb103, 3, none⟩ = some (.int .i64 ((rd_T36 l1 x5_2).f3.f0)) := (blk_cell BK103.out 3).trans rfl
             have hcz39_4 : wc.cell? ⟨gb103, 4, none⟩ = some (.int .i64 ((rd_T36 l1 x5_2).f3.f1)) := (blk_cell BK103.out 4).trans rfl
             have hcz39_5 : wc.cell? ⟨gb103, 5, none⟩ = some (.string ((rd_T36 l1 x5_2).f3.f2)) := (blk_cell BK103.out 5).trans rfl
             have hcz39_6 : wc.cell? ⟨gb103, 6, none⟩ = some (.int .i64 ((rd_T36 l1 x5_2).f4)) := (blk_cell BK103.out 6).trans rfl
             have hcz39_7 : wc.cell? ⟨gb103, 7, none⟩ = some (.int .i64 ((rd_T36 l1 x5_2).f5)) := (blk_cell BK103.out 7).trans rfl
             have hfz39_0 := blk_frozen BK103.out 0
             have hfz39_1 := blk_frozen BK103.out 1
             have hfz39_2 := blk_frozen BK103.out 2
             have hfz39_3 := blk_frozen BK103.out 3
             have hfz39_4 := blk_frozen BK103.out 4
             have hfz39_5 := blk_frozen BK103.out 5
             have hfz39_6 := blk_frozen BK103.out 6
             have hfz39_7 := blk_frozen BK103.out 7
             go_wp2
             go_roundg kj7
             case measure => have := HJ2.out; have := HK2.out; have := HJ7.out; omega
             case rel => exact ⟨(wrap64 (x5_2 + 1)), (by first | rfl | (simp; done) | (simp [*]; done)), H', ⟨by have := HJ2.out; have := HK2.out; have := HJ7.out; omega⟩, ⟨by repeat (first | (with_reducible first | exact HB.out | apply bA | apply bN | apply bD | refine bS ?_ GE103.out) | exact HB.out)⟩⟩
       ·
        rw [if_neg c7] at H
        exact absurd H (by simp)
      ·
       rw [if_neg c6] at H
       have c6b0 : decide (x5_2 < (l1.length : Int)) = false := decide_eq_false c6
       clear c6
       obtain rfl := Option.some.inj H
       go_wp2
       go_ret
       exact ⟨by first | rfl | (simp [errW_none, errW_some] <;> rfl) | (simp [*, errW_none, errW_some] <;> rfl), by repeat (first | (with_reducible first | exact HB.out | apply bA | apply bN | apply bD) | exact HB.out)⟩

end Go.Proofs.Ytjbafigageingaa.PF
