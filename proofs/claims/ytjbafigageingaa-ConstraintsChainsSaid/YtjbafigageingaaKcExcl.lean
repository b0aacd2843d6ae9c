import Derived.Test.YtjbafigageingaaKcSpec
import Derived.Test.YtjbafigageingaaKcW
import Derived.Outline
namespace Go.Proofs.Ytjbafigageingaa
open Go.RowKit Go.Proofs.YtjbafigageingaaW.PrintWords Go.Proofs.YtjbafigageingaaW.PrintLast Go.Proofs.YtjbafigageingaaW.PrintMore
set_option linter.unusedVariables false
set_option linter.unusedSimpArgs false

theorem eqA23 (d : Nat) (w : World) (x0 y0 : Int) (x1 y1 : Int) (x2 y2 : ByteArray) :
    (Op.equalIn (d + 2) 23 (.agg #[.int .i64 x0, .int .i64 x1, .string x2]) (.agg #[.int .i64 y0, .int .i64 y1, .string y2])).run Try.prog w = .ok (x0 == y0 && (x1 == y1 && (x2.toList == y2.toList))) w := by
  refine eqA_of Try.underlying23 (by kernel_rfl) ?_
  refine eqf_cons (by rfl) (by go_simp; rfl) (by go_simp; rfl) (by go_simp) ?_
  refine eqf_cons (by rfl) (by go_simp; rfl) (by go_simp; rfl) (by go_simp) ?_
  exact eqf_last (by rfl) (by go_simp; rfl) (by go_simp; rfl) (by go_simp)
attribute [local go_sem high] eqA23
abbrev v23 (t : S23) : Value := .agg #[.int .i64 t.f0, .int .i64 t.f1, .string t.f2]
theorem ret_bool {a b : Bool} (h : a = b) : Ending.returned (.bool a) = Ending.returned (.bool b) := by rw [h]
set_option maxRecDepth 100000 in
theorem isMark_calls (a b : Int) (s : ByteArray) (w : World) :
    Calls Try.prog 22 #[.agg #[.int .i64 a, .int .i64 b, .string s]] w fun e w' => e = .returned (.bool (isMarkB ⟨a, b, s⟩)) ∧ Below w.heap.size w w' := by
  rcases (show a = 1 ∨ a = 2 ∨ a = 5 ∨ a = 6 ∨ (a = 3 ∧ 1 ≤ b ∧ b ≤ 8) ∨ (a = 3 ∧ b < 1) ∨ (a = 3 ∧ 8 < b) ∨ (a = 4 ∧ b = 0) ∨ (a = 4 ∧ b ≠ 0) ∨ (a ≠ 1 ∧ a ≠ 2 ∧ a ≠ 5 ∧ a ≠ 6 ∧ a ≠ 3 ∧ a ≠ 4) from by omega) with rfl | rfl | rfl | rfl | ⟨rfl, h1, h2⟩ | ⟨rfl, h1⟩ | ⟨rfl, h1⟩ | ⟨rfl, rfl⟩ | ⟨rfl, h1⟩ | ⟨h1, h2, h3, h4, h5, h6⟩
  all_goals
    go_enter Try.func22, Try.ntmps22
    go_wp2
    go_ret
    refine ⟨ret_bool ?_, (Below.refl _ _).alloc (Nat.le_refl _) _⟩
    simp [isMarkB, noText, *]
    try (intros; omega)

set_option maxRecDepth 100000 in
theorem covers_calls (a b : Int) (s : ByteArray) (a' b' : Int) (s' : ByteArray) (w : World) :
    Calls Try.prog 23 #[.agg #[.int .i64 a, .int .i64 b, .string s], .agg #[.int .i64 a', .int .i64 b', .string s']] w fun e w' => e = .returned (.bool (coversB ⟨a, b, s⟩ ⟨a', b', s'⟩)) ∧ Below w.heap.size w w' := by
  rcases (show (a = 6 ∧ a' = 1) ∨ (a = 6 ∧ a' = 2) ∨ (a = 6 ∧ a' ≠ 1 ∧ a' ≠ 2) ∨ (a = 5 ∧ a' = 3) ∨ (a = 5 ∧ a' ≠ 3) ∨ (a ≠ 5 ∧ a ≠ 6) from by omega) with ⟨rfl, rfl⟩ | ⟨rfl, rfl⟩ | ⟨rfl, h1, h2⟩ | ⟨rfl, rfl⟩ | ⟨rfl, h1⟩ | ⟨h1, h2⟩
  all_goals
    go_enter Try.func23, Try.ntmps23
    go_wp2
    go_ret
    refine ⟨ret_bool ?_, ((Below.refl _ _).alloc (Nat.le_refl _) _).alloc (by simp) _⟩
    simp [coversB, *]

set_option maxRecDepth 100000 in
set_option maxHeartbeats 1000000 in
theorem exclude_calls (a b : S23) (w : World) :
    Calls Try.prog 8 #[v23 a, v23 b] w fun e w' => e = .returned (.bool (exclB a b)) ∧ Below w.heap.size w w' := by
  obtain ⟨a0, a1, a2⟩ := a
  obtain ⟨b0, b1, b2⟩ := b
  have CA : ∀ W : World, Calls Try.prog 22 #[.agg #[.int .i64 a0, .int .i64 a1, .string a2]] W fun e w' => e = .returned (.bool (isMarkB ⟨a0, a1, a2⟩)) ∧ Below W.heap.size W w' := fun W => isMark_calls _ _ _ _
  have CB : ∀ W : World, Calls Try.prog 22 #[.agg #[.int .i64 b0, .int .i64 b1, .string b2]] W fun e w' => e = .returned (.bool (isMarkB ⟨b0, b1, b2⟩)) ∧ Below W.heap.size W w' := fun W => isMark_calls _ _ _ _
  have CC : ∀ W : World, Calls Try.prog 23 #[.agg #[.int .i64 a0, .int .i64 a1, .string a2], .agg #[.int .i64 b0, .int .i64 b1, .string b2]] W fun e w' => e = .returned (.bool (coversB ⟨a0, a1, a2⟩ ⟨b0, b1, b2⟩)) ∧ Below W.heap.size W w' := fun W => covers_calls _ _ _ _ _ _ _
  have CD : ∀ W : World, Calls Try.prog 23 #[.agg #[.int .i64 b0, .int .i64 b1, .string b2], .agg #[.int .i64 a0, .int .i64 a1, .string a2]] W fun e w' => e = .returned (.bool (coversB ⟨b0, b1, b2⟩ ⟨a0, a1, a2⟩)) ∧ Below W.heap.size W w' := fun W => covers_calls _ _ _ _ _ _ _
  have hx : ∃ x, exclB ⟨a0, a1, a2⟩ ⟨b0, b1, b2⟩ = x := ⟨_, rfl⟩
  obtain ⟨x, hx⟩ := hx
  rw [hx]
  unfold exclB at hx
  have hcases : isMarkB ⟨a0, a1, a2⟩ = false ∨ (isMarkB ⟨a0, a1, a2⟩ = true ∧ isMarkB ⟨b0, b1, b2⟩ = false) ∨ (isMarkB ⟨a0, a1, a2⟩ = true ∧ isMarkB ⟨b0, b1, b2⟩ = true ∧ sameT ⟨a0, a1, a2⟩ ⟨b0, b1, b2⟩ = true) ∨
      (isMarkB ⟨a0, a1, a2⟩ = true ∧ isMarkB ⟨b0, b1, b2⟩ = true ∧ sameT ⟨a0, a1, a2⟩ ⟨b0, b1, b2⟩ = false ∧ coversB ⟨a0, a1, a2⟩ ⟨b0, b1, b2⟩ = true) ∨
      (isMarkB ⟨a0, a1, a2⟩ = true ∧ isMarkB ⟨b0, b1, b2⟩ = true ∧ sameT ⟨a0, a1, a2⟩ ⟨b0, b1, b2⟩ = false ∧ coversB ⟨a0, a1, a2⟩ ⟨b0, b1, b2⟩ = false ∧ coversB ⟨b0, b1, b2⟩ ⟨a0, a1, a2⟩ = true) ∨
      (isMarkB ⟨a0, a1, a2⟩ = true ∧ isMarkB ⟨b0, b1, b2⟩ = true ∧ sameT ⟨a0, a1, a2⟩ ⟨b0, b1, b2⟩ = false ∧ coversB ⟨a0, a1, a2⟩ ⟨b0, b1, b2⟩ = false ∧ coversB ⟨b0, b1, b2⟩ ⟨a0, a1, a2⟩ = false) := by
    cases isMarkB ⟨a0, a1, a2⟩ <;> cases isMarkB ⟨b0, b1, b2⟩ <;> cases sameT ⟨a0, a1, a2⟩ ⟨b0, b1, b2⟩ <;> cases coversB ⟨a0, a1, a2⟩ ⟨b0, b1, b2⟩ <;> cases coversB ⟨b0, b1, b2⟩ ⟨a0, a1, a2⟩ <;> simp
  rcases hcases with h1 | ⟨h1, h2⟩ | ⟨h1, h2, h3⟩ | ⟨h1, h2, h3, h4⟩ | ⟨h1, h2, h3, h4, h5⟩ | ⟨h1, h2, h3, h4, h5⟩
  all_goals
    rw [h1] at CA
    try rw [h2] at CB
    try rw [h4] at CC
    try rw [h5] at CD
    have hx' : x = _ := hx.symm
    try rw [h1] at hx'
    try rw [h2] at hx'
    try rw [h3] at hx'
    try rw [h4] at hx'
    try rw [h5] at hx'
    simp only [Bool.false_and, Bool.true_and, Bool.and_false, Bool.and_true, Bool.not_true, Bool.not_false] at hx'
    subst hx'
    try simp only [sameT] at h3
    have HA := Aside0.mk CA
    have HB := Aside0.mk CB
    have HC := Aside0.mk CC
    have HD := Aside0.mk CD
    clear CA CB CC CD hx
    try clear h1
    try clear h2
    try clear h4
    try clear h5
    go_enter Try.func8, Try.ntmps8
    go_wp2_with (first
      | (go_at_call 22; ((with_reducible refine (HA.out _).mono ?_); rintro e w1 ⟨rfl, hb⟩); have c0 := pw_cell_below hb (a := ⟨w.heap.size, 0, none⟩) (v := .int .i64 a0) (by simp); have c1 := pw_cell_below hb (a := ⟨w.heap.size, 1, none⟩) (v := .int .i64 a1) (by simp); have c2 := pw_cell_below hb (a := ⟨w.heap.size, 2, none⟩) (v := .string a2) (by simp); have d0 := pw_cell_below hb (a := ⟨w.heap.size + 1, 0, none⟩) (v := .int .i64 b0) (by simp); have d1 := pw_cell_below hb (a := ⟨w.heap.size + 1, 1, none⟩) (v := .int .i64 b1) (by simp); have d2 := pw_cell_below hb (a := ⟨w.heap.size + 1, 2, none⟩) (v := .string b2) (by simp); have G := Aside0.mk (below_step (((Below.refl w.heap.size w).alloc (Nat.le_refl _) _).alloc (by simp) _) hb); clear hb)
      | (go_at_call 22; ((with_reducible refine (HB.out _).mono ?_); rintro e w2 ⟨rfl, hb⟩); replace c0 := pw_cell_below hb c0; replace c1 := pw_cell_below hb c1; replace c2 := pw_cell_below hb c2; replace d0 := pw_cell_below hb d0; replace d1 := pw_cell_below hb d1; replace d2 := pw_cell_below hb d2; replace G := Aside0.mk (below_step G.out hb); clear hb)
      | (go_at_call 23; ((with_reducible refine (HC.out _).mono ?_); rintro e w3 ⟨rfl, hb⟩); replace c0 := pw_cell_below hb c0; replace c1 := pw_cell_below hb c1; replace c2 := pw_cell_below hb c2; replace d0 := pw_cell_below hb d0; replace d1 := pw_cell_below hb d1; replace d2 := pw_cell_below hb d2; replace G := Aside0.mk (below_step G.out hb); clear hb)
      | (go_at_call 23; ((with_reducible refine (HD.out _).mono ?_); rintro e w4 ⟨rfl, hb⟩); replace c0 := pw_cell_below hb c0; replace c1 := pw_cell_below hb c1; replace c2 := pw_cell_below hb c2; replace d0 := pw_cell_below hb d0; replace d1 := pw_cell_below hb d1; replace d2 := pw_cell_below hb d2; replace G := Aside0.mk (below_step G.out hb); clear hb))
    go_ret
    exact ⟨rfl, G.out⟩
end Go.Proofs.Ytjbafigageingaa
