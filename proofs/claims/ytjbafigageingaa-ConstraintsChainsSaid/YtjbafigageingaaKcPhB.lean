import Derived.Test.YtjbafigageingaaKcPhA
import Derived.Test.YtjbafigageingaaKcChain
import Derived.Lib.SliceRun
import Derived.Laws.Cover3
namespace Go.Proofs.Ytjbafigageingaa
open Go.RowKit Go.Maps Go.Proofs.YtjbafigageingaaW.PrintWords Go.Proofs.YtjbafigageingaaW.PrintLast Go.Proofs.YtjbafigageingaaW.PrintMore
set_option linter.unusedVariables false
set_option linter.unusedSimpArgs false
abbrev kI : Kd Int := Kd.int .i64
abbrev kII : Kd (List Int) := Kd.slice 3 (Kd.int .i64)
/-- Between two rounds. -/
structure Ph2 (W0 : World) (n : Nat) (vo vs vc : Value) (out : List S23) (ch : List (List Int)) (seen : List Bool) (wr : World) : Prop where
  hB : Below W0.heap.size W0 wr
  hO : Kd.R k23 23 wr W0.heap.size T1 vo out
  hS : Kd.R Kd.bool 4 wr W0.heap.size T1 vs seen
  hC : Kd.R kII 33 wr W0.heap.size T1 vc ch
  hol : out.length = n
  hsl : seen.length = n
/-- In a round: the class and its marks, too. -/
structure Ph3 (W0 : World) (B n : Nat) (vf : Value) (far : List Int) (vo vs vc vcl vmk : Value) (out : List S23) (ch : List (List Int)) (seen : List Bool) (cl mk : List Int) (wr : World) : Prop where
  hB : Below W0.heap.size W0 wr
  hO : Kd.R k23 23 wr W0.heap.size T1 vo out
  hS : Kd.R Kd.bool 4 wr W0.heap.size T1 vs seen
  hC : Kd.R kII 33 wr W0.heap.size (fun k => k < B) vc ch
  hF : Kd.R kI 3 wr W0.heap.size (fun k => k < B) vf far
  hCl : Kd.R kI 3 wr B (fun k => some k ≠ vmk.ownBlock) vcl cl
  hMk : Kd.R kI 3 wr B T1 vmk mk
  hBs : W0.heap.size ≤ B ∧ B ≤ wr.heap.size
  hol : out.length = n
  hsl : seen.length = n
  hcr : ∀ x ∈ cl, 0 ≤ x ∧ x < (n : Int)
section
variable {W0 wr w1 : World} {B n : Nat} {vf vo vs vc vcl vmk : Value} {far : List Int} {out : List S23} {ch : List (List Int)} {seen : List Bool} {cl mk : List Int}
theorem Ph2.below (h : Ph2 W0 n vo vs vc out ch seen wr) (hb : Below wr.heap.size wr w1) : Ph2 W0 n vo vs vc out ch seen w1 :=
  ⟨below_step h.hB hb, Kd.R_below h.hO hb, Kd.R_below h.hS hb, Kd.R_below h.hC hb, h.hol, h.hsl⟩
theorem Ph3.below (h : Ph3 W0 B n vf far vo vs vc vcl vmk out ch seen cl mk wr) (hb : Below wr.heap.size wr w1) : Ph3 W0 B n vf far vo vs vc vcl vmk out ch seen cl mk w1 :=
  ⟨below_step h.hB hb, Kd.R_below h.hO hb, Kd.R_below h.hS hb, Kd.R_below h.hC hb, Kd.R_below h.hF hb, Kd.R_below h.hCl hb, Kd.R_below h.hMk hb, ⟨h.hBs.1, Nat.le_trans h.hBs.2 hb.size⟩, h.hol, h.hsl, h.hcr⟩
theorem Ph2.round (h : Ph2 W0 n vo vs vc out ch seen wr) (hf : Kd.R kI 3 wr W0.heap.size T1 vf far) : Ph3 W0 wr.heap.size n vf far vo vs vc nilV nilV out ch seen [] [] wr :=
  ⟨h.hB, h.hO, h.hS, Kd.R_mono (Kd.R_bound h.hC) (fun k hk => hk.2.2.1), Kd.R_mono (Kd.R_bound hf) (fun k hk => hk.2.2.1), Kd.R_nil _ _ _ _ _, Kd.R_nil _ _ _ _ _, ⟨h.hB.size, Nat.le_refl _⟩, h.hol, h.hsl, fun x hx => by cases hx⟩
theorem Ph3.close (h : Ph3 W0 B n vf far vo vs vc vcl vmk out ch seen cl mk wr) : Ph2 W0 n vo vs vc out ch seen wr := ⟨h.hB, h.hO, h.hS, Kd.R_mono h.hC (fun _ _ => trivial), h.hol, h.hsl⟩
theorem below_row {row : Option Nat} (h : Below W0.heap.size W0 wr) (hg : wr.grownBy w1 row) (hr : ∀ k, row = some k → W0.heap.size ≤ k) : Below W0.heap.size W0 w1 := pw_below_grown h row h.size hg hr
/-- seen[x] = true -/
theorem Ph3.see {gs cs : Nat} (h : Ph3 W0 B n vf far vo (.slice (some ⟨gs, 0, none⟩) n cs) vc vcl vmk out ch seen cl mk wr) (x : Nat) :
    Ph3 W0 B n vf far vo (.slice (some ⟨gs, 0, none⟩) n cs) vc vcl vmk out ch (seen.set x true) cl mk (wr.setCell ⟨gs, x, none⟩ (.bool true)) := by
  obtain ⟨h1, hg⟩ := R_putN h.hS x true
  have ht := Kd.R_typed h.hS
  have hg' : wr.grownBy (wr.setCell ⟨gs, x, none⟩ (.bool true)) (Value.slice (some ⟨gs, 0, none⟩) n cs).ownBlock := hg
  exact ⟨below_row h.hB hg' (Kd.R_base h.hS), Kd.R_over' h.hO ht (by decide) hg', h1, Kd.R_over' h.hC ht (by decide) hg', Kd.R_over' h.hF ht (by decide) hg', Kd.R_over' h.hCl ht (by decide) hg', Kd.R_over' h.hMk ht (by decide) hg',
    ⟨h.hBs.1, Nat.le_trans h.hBs.2 hg.size⟩, h.hol, by rw [List.length_set]; exact h.hsl, h.hcr⟩
theorem ne_of_new {v1 v2 u : Value} {W : World} (hne : ∀ k, u.ownBlock = some k → some k ≠ v1.ownBlock) (hlt : ∀ k, u.ownBlock = some k → k < W.heap.size) (hat : v2.ownBlock = v1.ownBlock ∨ ∃ b, v2.ownBlock = some b ∧ W.heap.size ≤ b) : ∀ k, u.ownBlock = some k → some k ≠ v2.ownBlock := by
  intro k hk
  rcases hat with hat | ⟨b, hb, hl⟩
  · rw [hat]; exact hne k hk
  · rw [hb]
    intro he
    injection he with he
    have := hlt k hk
    omega
/-- class = append(class, x): what stands behind it. -/
theorem Ph3.app1 (h : Ph3 W0 B n vf far vo vs vc vcl vmk out ch seen cl mk wr) {v9 : Value} {x : Int} (hg : wr.grownBy w1 vcl.ownBlock) (hat : v9.ownBlock = vcl.ownBlock ∨ ∃ b, v9.ownBlock = some b ∧ wr.heap.size ≤ b)
    (hr : Kd.R kI 3 w1 B (fun k => some k ≠ vmk.ownBlock) v9 (cl ++ [x])) (hx : 0 ≤ x ∧ x < (n : Int)) :
    Ph3 W0 B n vf far vo vs vc v9 vmk out ch seen (cl ++ [x]) mk w1 := by
  have ht := Kd.R_typed h.hCl
  have hb := Kd.R_base h.hCl
  refine ⟨below_row h.hB hg (fun k hk => Nat.le_trans h.hBs.1 (hb k hk)), Kd.R_over' h.hO ht (by decide) hg, Kd.R_over' h.hS ht (by decide) hg, Kd.R_grown h.hC hg (fun k hk he => ?_), Kd.R_grown h.hF hg (fun k hk he => ?_), hr, R_flat rfl h.hMk hg (fun k hk he => h.hCl.1 k he.symm hk.symm), ⟨h.hBs.1, Nat.le_trans h.hBs.2 hg.size⟩, h.hol, h.hsl, fun y hy => ?_⟩
  · have := hb k he.symm
    omega
  · have := hb k he.symm
    omega
  · rcases List.mem_append.1 hy with hy | hy
    · exact h.hcr y hy
    · rw [List.mem_singleton.1 hy]; exact hx
/-- marks = append(marks, ..) -/
theorem Ph3.app2 (h : Ph3 W0 B n vf far vo vs vc vcl vmk out ch seen cl mk wr) {v9 : Value} {ys : List Int} (hg : wr.grownBy w1 vmk.ownBlock) (hat : v9.ownBlock = vmk.ownBlock ∨ ∃ b, v9.ownBlock = some b ∧ wr.heap.size ≤ b)
    (hr : Kd.R kI 3 w1 B T1 v9 ys) : Ph3 W0 B n vf far vo vs vc vcl v9 out ch seen cl ys w1 := by
  have ht := Kd.R_typed h.hMk
  have hb := Kd.R_base h.hMk
  have hcl2 : Kd.R kI 3 w1 B (fun k => some k ≠ vmk.ownBlock) vcl cl := R_flat rfl h.hCl hg (fun k hk => h.hCl.1 k hk)
  refine ⟨below_row h.hB hg (fun k hk => Nat.le_trans h.hBs.1 (hb k hk)), Kd.R_over' h.hO ht (by decide) hg, Kd.R_over' h.hS ht (by decide) hg, Kd.R_grown h.hC hg (fun k hk he => ?_), Kd.R_grown h.hF hg (fun k hk he => ?_), R_ok hcl2 _ rfl (ne_of_new (fun k hk => h.hCl.1 k hk) (Kd.R_lt h.hCl) hat), hr, ⟨h.hBs.1, Nat.le_trans h.hBs.2 hg.size⟩, h.hol, h.hsl, h.hcr⟩ <;>
  · have := hb k he.symm
    omega
theorem Ph3.apart (h : Ph3 W0 B n vf far vo vs vc vcl vmk out ch seen cl mk wr) : ∀ k, wr.heap.size ≤ k → some k ≠ vmk.ownBlock := fun k hk he => by
  have := Kd.R_lt h.hMk k he.symm
  omega
/-- chains = append(chains, best) -/
theorem Ph2.chain (h : Ph2 W0 n vo vs vc out ch seen wr) {v9 : Value} {ys : List (List Int)} (hg : wr.grownBy w1 vc.ownBlock) (hr : Kd.R kII 33 w1 W0.heap.size T1 v9 ys) : Ph2 W0 n vo vs v9 out ys seen w1 := by
  have ht := Kd.R_typed h.hC
  exact ⟨below_row h.hB hg (Kd.R_base h.hC), Kd.R_over' h.hO ht (by decide) hg, Kd.R_over' h.hS ht (by decide) hg, hr, h.hol, h.hsl⟩
/-- out[i] = t -/
theorem Ph3.fill (h : Ph3 W0 B n vf far vo vs vc vcl vmk out ch seen cl mk wr) {i : Nat} {t : S23} (hg : wr.grownBy w1 vo.ownBlock) (hr : Kd.R k23 23 w1 W0.heap.size T1 vo (out.set i t)) : Ph3 W0 B n vf far vo vs vc vcl vmk (out.set i t) ch seen cl mk w1 := by
  have ht := Kd.R_typed h.hO
  exact ⟨below_row h.hB hg (Kd.R_base h.hO), hr, Kd.R_over' h.hS ht (by decide) hg, Kd.R_over' h.hC ht (by decide) hg, Kd.R_over' h.hF ht (by decide) hg, Kd.R_over' h.hCl ht (by decide) hg, Kd.R_over' h.hMk ht (by decide) hg,
    ⟨h.hBs.1, Nat.le_trans h.hBs.2 hg.size⟩, by rw [List.length_set]; exact h.hol, h.hsl, h.hcr⟩
end
/-- The best chain so far. -/
def BestAt (b0 : Nat) (w : World) : Option (List Int) → Value → Prop
  | none, v => v = nilV
  | some c, v => ∃ A cap, v = .slice (some A) c.length cap ∧ Kd.R kI 3 w b0 T1 v c
theorem BestAt.below {b0 : Nat} {w w1 : World} {b : Option (List Int)} {v : Value} (h : BestAt b0 w b v) (hb : Below w.heap.size w w1) : BestAt b0 w1 b v := by
  cases b with
  | none => exact h
  | some c =>
    obtain ⟨A, cap, rfl, hr⟩ := h
    exact ⟨A, cap, rfl, Kd.R_below hr hb⟩
theorem BestAt.set {b0 : Nat} {w : World} {b : Option (List Int)} {v : Value} (h : BestAt b0 w b v) {g : Nat} {cells : Array Value} (hb : w.heap[g]? = some (.cells cells 23 (0, 0))) (j : Nat) (u : Value) : BestAt b0 (w.setCell ⟨g, j, none⟩ u) b v := by
  cases b with
  | none => exact h
  | some c =>
    obtain ⟨A, cap, rfl, hr⟩ := h
    exact ⟨A, cap, rfl, Kd.R_set hr hb (by decide) j u⟩
theorem chainpost_none {w : World} {e : Ending} {w' : World} (h : ChainPost w none e w') : e = .returned (.tuple #[.slice none 0 0, .bool false]) := by
  rcases h with ⟨_, h⟩ | ⟨c, A, cap, hc, _, _⟩
  · exact h
  · cases hc
theorem chainpost_some {w : World} {c : List Int} {e : Ending} {w' : World} (h : ChainPost w (some c) e w') {b0 : Nat} (hb : b0 ≤ w.heap.size) : ∃ A cap, e = .returned (.tuple #[.slice (some A) c.length cap, .bool true]) ∧ BestAt b0 w' (some c) (.slice (some A) c.length cap) := by
  rcases h with ⟨h, _⟩ | ⟨c', A, cap, hc, he, hr⟩
  · cases h
  · injection hc with hc
    subst hc
    exact ⟨A, cap, he, A, cap, rfl, Kd.R_lower hr hb⟩
theorem eqlnil1 (w : World) (A : Addr) (n c : Nat) : (binOp .eql 33 (.slice (some A) n c) (.slice none 0 0)).run Try.prog w = .ok (.bool false) w := Lib.run_eql_slice_nil w 33 3 (some A) n c 0 0 Try.underlying33
theorem eqlnil0 (w : World) : (binOp .eql 33 (.slice none 0 0) (.slice none 0 0)).run Try.prog w = .ok (.bool true) w := Lib.run_eql_slice_nil w 33 3 none 0 0 0 0 Try.underlying33
theorem neqnil1 (w : World) (A : Addr) (n c : Nat) : (binOp .neq 33 (.slice (some A) n c) (.slice none 0 0)).run Try.prog w = .ok (.bool true) w := run_neq_slice_nil w 33 3 (some A) n c Try.underlying33
theorem neqnil0 (w : World) : (binOp .neq 33 (.slice none 0 0) (.slice none 0 0)).run Try.prog w = .ok (.bool false) w := run_neq_slice_nil w 33 3 none 0 0 Try.underlying33
end Go.Proofs.Ytjbafigageingaa
