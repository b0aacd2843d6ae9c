import Derived.Test.YtjbafigageingaaKcSpec
namespace Go.Proofs.Ytjbafigageingaa
open Go.RowKit Go.Proofs.YtjbafigageingaaW.PrintWords Go.Proofs.YtjbafigageingaaW.PrintLast Go.Proofs.YtjbafigageingaaW.PrintMore
set_option linter.unusedVariables false
set_option linter.unusedSimpArgs false

abbrev EE := List (List S55)
abbrev MM := Int → List Int
/-- one constraint of the build -/
def stepF (N : Nat) (i : Int) (c : S36) (E : EE) (M : MM) : Option (EE × MM) :=
  if 0 ≤ c.f1 ∧ c.f1 < (N : Int) then
    if c.f0 = 0 ∧ isMarkB c.f3 = true then some (E, fun v => if v = c.f1 then M v ++ [i] else M v)
    else if c.f0 = 1 ∧ (0 ≤ c.f2 ∧ c.f2 < (N : Int)) then
      some ((E.set c.f1.toNat (rdE E c.f1 ++ [⟨i, c.f2⟩])).set c.f2.toNat (rdE (E.set c.f1.toNat (rdE E c.f1 ++ [⟨i, c.f2⟩])) c.f2 ++ [⟨i, c.f1⟩]), M)
    else none
  else none
def buildF (N : Nat) : List S36 → Nat → EE → MM → Option (EE × MM)
  | [], _, E, M => some (E, M)
  | c :: cs, i, E, M => (stepF N i c E M).bind fun p => buildF N cs (i + 1) p.1 p.2
/-- the vertices of a class, their marks -/
def collF (M : MM) (far : List Int) : Nat → Nat → List Int → List Int → List Bool → Option (List Int × List Int × List Bool)
  | 0, _, c, m, s => some (c, m, s)
  | d + 1, w, c, m, s =>
    if 0 ≤ rd far w then (if m.length + (M w).length ≤ 1000000 then collF M far d (w + 1) (c ++ [(w : Int)]) (m ++ M w) (s.set w true) else none)
    else collF M far d (w + 1) c m s
def pickB (b : Option (List Int)) (r : Option (List Int)) : Option (List Int) :=
  match r with
  | none => b
  | some c => match b with
    | none => some c
    | some d => if c.length < d.length then some c else some d
def pickT (m t : S23) : S23 := if m.f0 ≠ 5 ∧ m.f0 ≠ 6 then m else t
def bestF (E : EE) (L : List S36) (M : MM) (k : Nat) : List Int → Option (List Int) → S23 → Option (Option (List Int) × S23)
  | [], b, t => some (b, t)
  | i :: is, b, t => if 0 ≤ i ∧ i < (L.length : Int) then (chainF E L M k i).bind fun r => bestF E L M k is (pickB b r) (pickT (rd_T36 L i).f3 t) else none
def fillF (t : S23) : List Int → List S23 → List S23
  | [], out => out
  | w :: ws, out => fillF t ws (out.set w.toNat t)
def insI (x : Int) : List Int → List Int
  | [] => [x]
  | y :: ys => if x ≤ y then x :: y :: ys else y :: insI x ys
def sortI : List Int → List Int
  | [] => []
  | x :: xs => insI x (sortI xs)
theorem insI_perm (x : Int) : ∀ ys : List Int, (insI x ys).Perm (x :: ys)
  | [] => List.Perm.refl _
  | y :: ys => by
    simp only [insI]
    split
    · exact List.Perm.refl _
    · exact ((insI_perm x ys).cons y).trans (List.Perm.swap x y ys)
theorem sortI_perm : ∀ xs : List Int, (sortI xs).Perm xs
  | [] => List.Perm.refl _
  | x :: xs => (insI_perm x (sortI xs)).trans ((sortI_perm xs).cons x)
theorem insI_sorted (x : Int) : ∀ ys : List Int, ys.Pairwise (· ≤ ·) → (insI x ys).Pairwise (· ≤ ·)
  | [], _ => List.pairwise_singleton _ _
  | y :: ys, h => by
    simp only [insI]
    split
    · rename_i hxy
      refine List.Pairwise.cons (fun z hz => ?_) h
      rcases List.mem_cons.1 hz with rfl | hz
      · exact hxy
      · exact Int.le_trans hxy (List.rel_of_pairwise_cons h hz)
    · rename_i hxy
      refine List.Pairwise.cons (fun z hz => ?_) (insI_sorted x ys h.of_cons)
      rcases List.mem_cons.1 ((insI_perm x ys).mem_iff.1 hz) with rfl | hz
      · omega
      · exact List.rel_of_pairwise_cons h hz
theorem sortI_sorted : ∀ xs : List Int, (sortI xs).Pairwise (· ≤ ·)
  | [] => List.Pairwise.nil
  | x :: xs => insI_sorted x _ (sortI_sorted xs)
theorem sortI_eq (xs : List Int) : (xs.mergeSort fun x y => decide (x ≤ y)) = sortI xs := by
  refine List.Perm.eq_of_pairwise (le := fun a b : Int => a ≤ b) (fun a b _ _ h1 h2 => Int.le_antisymm h1 h2) ?_ (sortI_sorted xs) ((List.mergeSort_perm xs _).trans (sortI_perm xs).symm)
  have := List.pairwise_mergeSort (le := fun x y : Int => decide (x ≤ y)) (fun a b c h1 h2 => by simp only [decide_eq_true_eq] at *; omega) (fun a b => by simp only [Bool.or_eq_true, decide_eq_true_eq]; omega) xs
  exact this.imp (fun h => by simpa using h)
def outerF (E : EE) (L : List S36) (M : MM) (k : Nat) : Nat → Nat → List S23 → List (List Int) → List Bool → Option (List S23 × List (List Int))
  | 0, _, out, ch, _ => some (out, ch)
  | d + 1, v, out, ch, seen =>
    if seen.getD v false = true then outerF E L M k d (v + 1) out ch seen
    else (dist E [(v : Int)] k).bind fun far => (collF M far E.length 0 [] [] seen).bind fun cms => (bestF E L M k (sortI cms.2.1) none z23).bind fun bt =>
      match bt.1 with
      | some c => outerF E L M k d (v + 1) out (ch ++ [c]) cms.2.2
      | none => outerF E L M k d (v + 1) (fillF bt.2 cms.1 out) ch cms.2.2
def solveF (N : Int) (L : List S36) (k : Nat) : Option (List S23 × List (List Int) × Int) :=
  if N < 0 ∨ 4096 < N then some ([], [], 2)
  else match buildF N.toNat L 0 (List.replicate N.toNat []) (fun _ => []) with
    | none => some ([], [], 1)
    | some p => (outerF p.1 L p.2 k N.toNat 0 (List.replicate N.toNat z23) [] (List.replicate N.toNat false)).map fun q => (q.1, q.2, 0)
end Go.Proofs.Ytjbafigageingaa
