import Derived.Test.YtjbafigageingaaKoTh5
import Derived.Test.YtjbafigageingaaKoPRx6
import Derived.Test.YtjbafigageingaaKoPRx3
import Derived.Test.YtjbafigageingaaProg
import Derived.Test.YtjbafigageingaaKoW
import Derived.Below
import Derived.Deep.Draws
import Derived.Deep.AppendLies
import Derived.Maps.AppendAt
import Derived.OwnWalk
import Derived.Laws.BytesArg
import Derived.Laws.MakeOwn
import Derived.Laws.OwnMore
import Derived.Deep.OwnRows
import Derived.Tactics
import Derived.Lib.ConvBytes
import Derived.Laws.Slices
import Derived.WalkKit
import Derived.KernelRfl
import Derived.RowKit3
import Derived.Deep.LoopGhost
import Derived.Deep.QuietTactic
import Derived.BigQuiet
import Derived.WideLaws
import Derived.Deep.DeepCutAuto
import Derived.Deep.CutBlock
import Derived.Deep.RegionHeld3
import Derived.Laws.Rows
import Derived.Lib.AppendStr
import Derived.ArgAppend
import Derived.Laws.IdiomCopy
import Derived.OrdersHeld
import Derived.Laws.BitsLemmas
import Derived.RowKit
import Derived.Test.YtjbafigageingaaKoBase
import Derived.Test.YtjbafigageingaaKoPLx3
namespace Go.Proofs.Ytjbafigageingaa
open Go.RowKit Go.Proofs.YtjbafigageingaaW.PrintWords Go.Proofs.YtjbafigageingaaW.PrintLast Go.Proofs.YtjbafigageingaaW.PrintMore
set_option linter.unusedVariables false
set_option linter.unusedSimpArgs false
theorem equal_l0 {x y : List S23} (hl : x.length = y.length) (hx : x.length ≤ 1000000) (hs : ∀ u, u < x.length → sameT (x.getD u z23) (y.getD u z23) = true) : ∀ (d i k : Nat), i + d = x.length → d < k → PR.assessorref08_Equal.l0 k x y i = some true
  | 0, i, k, h, hk => by
    obtain ⟨k, rfl⟩ : ∃ m, k = m + 1 := ⟨k - 1, by omega⟩
    simp only [PR.assessorref08_Equal.l0]
    rw [if_neg (by omega)]
  | d + 1, i, k, h, hk => by
    obtain ⟨k, rfl⟩ : ∃ m, k = m + 1 := ⟨k - 1, by omega⟩
    have hwr : wrap64 ((i : Int) + 1) = ((i + 1 : Nat) : Int) := by rw [wrap_small _ (by omega)]; omega
    have h1 := hs i (by omega)
    have hc : (!(((rd_T23 x i).f0) == ((rd_T23 y i).f0)) || (!(((rd_T23 x i).f1) == ((rd_T23 y i).f1)) || (!((((rd_T23 x i).f2).toList) == (((rd_T23 y i).f2).toList))))) = false := by
      unfold rd_T23
      rw [Int.toNat_natCast]
      unfold sameT at h1
      simp only [Bool.and_eq_true] at h1
      obtain ⟨e1, e2, e3⟩ := h1
      rw [e1, e2, e3]
      rfl
    simp only [PR.assessorref08_Equal.l0]
    rw [if_pos (by omega), if_pos (by omega), if_pos (by omega), hc, if_neg (by decide), hwr]
    exact equal_l0 hl hx hs d (i + 1) k (by omega) (by omega)
theorem equal_true {x y : List S23} (hl : x.length = y.length) (hx : x.length ≤ 1000000) (hs : ∀ u, u < x.length → sameT (x.getD u z23) (y.getD u z23) = true) {k : Nat} (hk : x.length < k) : PR.assessorref08_Equal.f k x y = some true := by
  unfold PR.assessorref08_Equal.f
  rw [if_pos (by omega)]
  exact equal_l0 hl hx hs x.length 0 k (by omega) hk
theorem order_l0 {x y : List (List Int)} (hl : x.length = y.length) (hx : x.length ≤ 1000000) (hs : ∀ u, u < x.length → (x.getD u []).length = (y.getD u []).length) : ∀ (d i k : Nat), i + d = x.length → d < k → PL.assessorlaw09_ConstraintsOrder.l0 k x y (x.length : Int) i = some true
  | 0, i, k, h, hk => by
    obtain ⟨k, rfl⟩ : ∃ m, k = m + 1 := ⟨k - 1, by omega⟩
    simp only [PL.assessorlaw09_ConstraintsOrder.l0]
    rw [if_neg (by omega)]
    rfl
  | d + 1, i, k, h, hk => by
    obtain ⟨k, rfl⟩ : ∃ m, k = m + 1 := ⟨k - 1, by omega⟩
    have hwr : wrap64 ((i : Int) + 1) = ((i + 1 : Nat) : Int) := by rw [wrap_small _ (by omega)]; omega
    have h1 := hs i (by omega)
    simp only [PL.assessorlaw09_ConstraintsOrder.l0]
    rw [if_pos (by omega), if_pos (by omega), if_pos (by omega), if_pos (by omega), if_pos (by unfold rd_L7; rw [Int.toNat_natCast]; omega), hwr]
    exact order_l0 hl hx hs d (i + 1) k (by omega) (by omega)
theorem solve_of {a0 : Int} {l : List S36} (hl : l.length ≤ 80) : constraints_Solve.f a0 l = solveF a0 l 10000 := by
  unfold constraints_Solve.f
  rw [if_pos (by omega)]
theorem few_eq (a0 : Int) (l : List S36) : PR.assessorlaw09_few.f a0 l = some (decide (l.length ≤ 80 ∧ (a0 ≤ 60 ∨ a0 > 4096))) := by
  unfold PR.assessorlaw09_few.f
  by_cases h1 : (l.length : Int) ≤ 80
  · rw [if_pos h1]
    have h1' : l.length ≤ 80 := by omega
    by_cases h2 : a0 ≤ 60
    · rw [if_pos h2]; simp [h1', h2]
    · rw [if_neg h2]; simp [h1', h2]
  · rw [if_neg h1]
    have h1' : ¬ l.length ≤ 80 := by omega
    simp [h1']
/-- what Solve answers within the guard -/
theorem solve_cases (a0 : Int) (l : List S36) (hl : l.length ≤ 80) (hf : a0 ≤ 60 ∨ a0 > 4096) :
    (¬ (0 ≤ a0 ∧ a0 ≤ 4096) ∧ constraints_Solve.f a0 l = some ([], [], 2)) ∨ (∃ N : Nat, a0 = N ∧ N ≤ 60 ∧ ((¬ Valid N l ∧ constraints_Solve.f a0 l = some ([], [], 1)) ∨ (Valid N l ∧ ∃ out ch, constraints_Solve.f a0 l = some (out, ch, 0) ∧ Solved N l out ch))) := by
  rw [solve_of hl]
  by_cases h0 : a0 < 0 ∨ 4096 < a0
  · exact .inl ⟨by omega, solve_range h0 _⟩
  · obtain ⟨N, rfl⟩ := Int.eq_ofNat_of_zero_le (show 0 ≤ a0 by omega)
    refine .inr ⟨N, rfl, by omega, ?_⟩
    by_cases hV : Valid N l
    · exact .inr ⟨hV, solve_valid hV (by omega) hl⟩
    · exact .inl ⟨hV, solve_invalid hV (by omega) _⟩
theorem order_tail {out out' : List S23} {ch ch' : List (List Int)} {e : Int} (h1 : out.length = out'.length) (h1' : out.length ≤ 100) (h2 : ∀ u, u < out.length → sameT (out.getD u z23) (out'.getD u z23) = true) (h3 : ch.length = ch'.length) (h3' : ch.length ≤ 100) (h4 : ∀ j, j < ch.length → (ch.getD j []).length = (ch'.getD j []).length) :
    (if e = e then ((PR.assessorref08_Equal.f 999 out out').bind fun t209 => (if t209 = true then (PL.assessorlaw09_ConstraintsOrder.j1 999 ch ch' ((ch.length : Int) != (ch'.length : Int))) else (PL.assessorlaw09_ConstraintsOrder.j1 999 ch ch' true))) else (PL.assessorlaw09_ConstraintsOrder.j1 999 ch ch' true)) = some true := by
  rw [if_pos rfl, equal_true h1 (by omega) h2 (by omega)]
  simp only [Option.bind_some]
  have hb : ((ch.length : Int) != (ch'.length : Int)) = false := by rw [h3]; simp
  rw [if_pos trivial, hb]
  show PL.assessorlaw09_ConstraintsOrder.j1 (998 + 1) ch ch' false = some true
  simp only [PL.assessorlaw09_ConstraintsOrder.j1]
  rw [if_neg (by decide)]
  exact order_l0 h3 (by omega) h4 ch.length 0 998 (by omega) (by omega)
theorem reps_len (L : List S36) (N : Nat) : (reps L N).length ≤ N := by
  unfold reps
  exact Nat.le_trans (List.length_filter_le _ _) (by simp)
theorem order_pure (a0 : Int) (l : List S36) (a2 : Int) (h0 : 0 ≤ a2) (h1 : a2 < 256) : PL.assessorlaw09_ConstraintsOrder.f 1000 a0 l a2 = some true := by
  unfold PL.assessorlaw09_ConstraintsOrder.f
  rw [few_eq]
  simp only [Option.bind_some]
  have haw : ∀ k, PL.assessorlaw09_ConstraintsOrder.j0 (k + 1) a0 l a2 true = some true := fun k => by
    simp only [PL.assessorlaw09_ConstraintsOrder.j0]
    rw [if_pos trivial]
    rfl
  by_cases hf : l.length ≤ 80 ∧ (a0 ≤ 60 ∨ a0 > 4096)
  · rw [decide_eq_true hf, if_pos rfl]
    obtain ⟨hl, hf⟩ := hf
    by_cases hz : l.length = 0
    · rw [show ((l.length : Int) == 0) = true by simp [hz]]
      exact haw 999
    · rw [show ((l.length : Int) == 0) = false by simp; intro h; rw [h] at hz; exact hz rfl]
      show PL.assessorlaw09_ConstraintsOrder.j0 (999 + 1) a0 l a2 false = some true
      simp only [PL.assessorlaw09_ConstraintsOrder.j0]
      have hw : wrap64 a2 = a2 := wrap_small _ (by omega)
      obtain ⟨m, hm⟩ : ∃ m : Nat, Int.tmod a2 (l.length : Int) = m := ⟨(Int.tmod a2 (l.length : Int)).toNat, by have := Int.tmod_nonneg (l.length : Int) h0; omega⟩
      have hml : m < l.length := by
        have := Int.tmod_lt_of_pos a2 (b := (l.length : Int)) (by omega)
        omega
      rw [if_neg (by decide), if_neg (by omega), hw, hm]
      simp only [Option.bind_some, Int.toNat_natCast, List.nil_append]
      rw [if_pos (by omega), if_pos (by omega)]
      have e1 : (l.drop m).length = l.length - m := List.length_drop
      have e2 : (l.take m).length = m := by rw [List.length_take]; omega
      rw [if_pos (by simp only [List.length_nil]; omega), if_pos (by omega)]
      have hl' : (l.drop m ++ l.take m).length ≤ 80 := by rw [List.length_append]; omega
      have hs : ∀ c, c ∈ l ↔ c ∈ l.drop m ++ l.take m := fun c => by
        rw [List.mem_append, or_comm, ← List.mem_append, List.take_append_drop]
      have hnil : ∀ e : Int, (if e = e then ((PR.assessorref08_Equal.f 999 ([] : List S23) []).bind fun t209 => (if t209 = true then (PL.assessorlaw09_ConstraintsOrder.j1 999 [] [] ((([] : List (List Int)).length : Int) != (([] : List (List Int)).length : Int))) else (PL.assessorlaw09_ConstraintsOrder.j1 999 [] [] true))) else (PL.assessorlaw09_ConstraintsOrder.j1 999 [] [] true)) = some true := fun e =>
        order_tail rfl (Nat.zero_le _) (fun u hu => absurd hu (Nat.not_lt_zero _)) rfl (Nat.zero_le _) (fun u hu => absurd hu (Nat.not_lt_zero _))
      rcases solve_cases a0 l hl hf with ⟨g, s1⟩ | ⟨N, rfl, hN, ⟨hV, s1⟩ | ⟨hV, out, ch, s1, so⟩⟩
      · rcases solve_cases a0 (l.drop m ++ l.take m) hl' hf with ⟨g', s2⟩ | ⟨N', e, hN', _⟩
        · rw [s1, s2]
          exact hnil 2
        · omega
      · rcases solve_cases N (l.drop m ++ l.take m) hl' hf with ⟨g', s2⟩ | ⟨N', e, hN', ⟨hV', s2⟩ | ⟨hV', _⟩⟩
        · omega
        · rw [s1, s2]
          exact hnil 1
        · obtain rfl : N = N' := by omega
          exact absurd (valid_mono (fun c hc => (hs c).1 hc) hV') hV
      · rcases solve_cases N (l.drop m ++ l.take m) hl' hf with ⟨g', s2⟩ | ⟨N', e, hN', ⟨hV', s2⟩ | ⟨hV', out', ch', s2, so'⟩⟩
        · omega
        · obtain rfl : N = N' := by omega
          exact absurd (valid_mono (fun c hc => (hs c).2 hc) hV) hV'
        · obtain rfl : N = N' := by omega
          rw [s1, s2]
          obtain ⟨g1, g2, g3, g4⟩ := solved_order hV hs so so'
          exact order_tail (e := 0) g1 (by rw [so.ol]; omega) (fun u hu => g2 u (by rw [← so.ol]; exact hu)) g3 (by rw [so.cl]; exact Nat.le_trans (reps_len l N) (by omega)) g4
  · rw [decide_eq_false hf, if_neg (by decide)]
    exact haw 999
end Go.Proofs.Ytjbafigageingaa
