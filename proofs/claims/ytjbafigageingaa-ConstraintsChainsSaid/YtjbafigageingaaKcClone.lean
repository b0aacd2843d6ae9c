import Derived.Test.YtjbafigageingaaKcBase
import Derived.WalkSpells
import Derived.Outline
namespace Go.Proofs.Ytjbafigageingaa
open Go.RowKit Go.Proofs.YtjbafigageingaaW.PrintWords Go.Proofs.YtjbafigageingaaW.PrintLast Go.Proofs.YtjbafigageingaaW.PrintMore
set_option linter.unusedVariables false
set_option linter.unusedSimpArgs false

set_option maxRecDepth 100000 in
theorem clone_int (A : Option Addr) (c : Nat) (xs : List Int) (w : World) (hC : Kd.C (Kd.int .i64) w A xs.length xs) (hb : xs.length * 8 ≤ 140737488355328) :
    Calls Try.prog 38 #[.slice A xs.length c] w fun e w' => ∃ v : Value, e = .returned v ∧ Kd.R (Kd.int .i64) 3 w' w.heap.size (fun _ => True) v xs ∧ Below w.heap.size w w' := by
  have HC := Aside0.mk hC
  have HB := Aside0.mk hb
  clear hb
  cases A with
  | none =>
    have h0 : xs = [] := by
      rcases Nat.eq_zero_or_pos xs.length with h | h
      · exact List.length_eq_zero_iff.1 h
      · obtain ⟨ad, hn, _⟩ := HC.out.2.2 h
        cases hn
    subst h0
    clear hC HB HC
    have hq := fun (w' : World) (n c : Nat) => Lib.run_eql_slice_nil (P := Try.prog) w' 33 3 none n c 0 0 Try.underlying33
    go_enter Try.func38, Try.ntmps38
    go_wp2
    go_ret
    exact ⟨_, rfl, Kd.R_nil _ _ _ _ _, Below.refl _ _⟩
  | some a =>
    clear hC
    have hq := fun (w' : World) (n c : Nat) => Lib.run_eql_slice_nil (P := Try.prog) w' 33 3 (some a) n c 0 0 Try.underlying33
    have HR : Aside0 (Kd.C (Kd.int .i64) (w.alloc (.cells #[] 3)) (some a) xs.length xs) := ⟨Kd.C_below HC.out (below_alloc (Below.refl _ _) _)⟩
    have HO : Aside0 (Kd.R (Kd.int .i64) 3 (w.alloc (.cells #[] 3)) w.heap.size (fun _ => True) (.slice (some ⟨w.heap.size, 0, none⟩) 0 0) []) :=
      ⟨⟨fun _ _ => trivial, [], (by have h := World.ownsRow_lit (base := w.heap.size) (e := 3) (size := 1) w #[] 0 (Nat.le_refl _) (by simp [maxLen]) (by simp); exact h), Reps.none _ _⟩⟩
    clear HC
    go_enter Try.func38, Try.ntmps38
    go_wp2_with (at_builtin; refine Kd.R_append_rows (Kd.int .i64) w.heap.size rfl (.tmp 5) (.tmp 6) 33 3 (.int .i64 0) 8 rfl Try.underlying33 info3 rfl (by decide) (by decide) _ [] xs (some a) xs.length c (fun _ => True) (fun _ => False) rfl rfl HO.out HR.out (fun _ _ h => h) (fun _ h => h.elim) (fun _ _ => trivial) (below_alloc (Below.refl w.heap.size w) _) (by simp) (by simpa using HB.out) ?_; intro v1 w1 ho hb hg _; have HO1 := Aside0.mk ho; have HB1 := Aside0.mk hb; clear ho hb hg HO HR)
    go_ret
    exact ⟨_, rfl, HO1.out, HB1.out⟩
end Go.Proofs.Ytjbafigageingaa
