import Derived.Test.YtjbafigageingaaProg
import Derived.Test.YtjbafigageingaaKsW
import Derived.WalkKit
import Derived.KernelRfl
import Derived.Deep.LoopGhost
import Derived.Deep.QuietTactic
import Derived.BigQuiet
import Derived.Deep.RegionHeld3
import Derived.Deep.DeepCutAuto
import Derived.Deep.CutBlock
import Derived.WideLaws
import Derived.Laws.IdiomCopy
import Derived.Outline
import Derived.Test.YtjbafigageingaaRows
import Derived.ProofKit
import Derived.OpenShut
import Derived.ShutString
import Derived.ChangeOld
import Derived.Below
import Derived.SizedLaws
import Derived.Deep.Slices
namespace Go.Proofs.Ytjbafigageingaa
open Go.RowKit Go.Proofs.YtjbafigageingaaW.PrintWords Go.Proofs.YtjbafigageingaaW.PrintLast Go.Proofs.YtjbafigageingaaW.PrintMore
set_option linter.unusedVariables false
set_option linter.unusedSimpArgs false

theorem info3 : (Try.prog.info? 3).map (fun i => (i.zero, i.size, i.bytes)) = some (some (.int .i64 0), 1, 8) := by kernel_rfl
theorem info4 : (Try.prog.info? 4).map (fun i => (i.zero, i.size, i.bytes)) = some (some (.bool false), 1, 1) := by kernel_rfl
theorem info23 : (Try.prog.info? 23).map (fun i => (i.zero, i.size, i.bytes)) = some (some (.agg #[(.int .i64 0), (.int .i64 0), (.string ⟨#[]⟩)]), 3, 32) := by kernel_rfl
theorem info33 : (Try.prog.info? 33).map (fun i => (i.zero, i.size, i.bytes)) = some (some (.slice none 0 0), 1, 24) := by kernel_rfl
theorem info36 : (Try.prog.info? 36).map (fun i => (i.zero, i.size, i.bytes)) = some (some (.agg #[(.int .i64 0), (.int .i64 0), (.int .i64 0), (.int .i64 0), (.int .i64 0), (.string ⟨#[]⟩), (.int .i64 0), (.int .i64 0)]), 8, 72) := by kernel_rfl
theorem info53 : (Try.prog.info? 53).map (fun i => (i.zero, i.size, i.bytes)) = some (some (.slice none 0 0), 1, 24) := by kernel_rfl
theorem info55 : (Try.prog.info? 55).map (fun i => (i.zero, i.size, i.bytes)) = some (some (.agg #[(.int .i64 0), (.int .i64 0)]), 2, 16) := by kernel_rfl
theorem info65 : (Try.prog.info? 65).map (fun i => (i.zero, i.size, i.bytes)) = some (some (.agg #[(.int .i64 0), (.int .i64 0), (.int .i64 0), (.string ⟨#[]⟩)]), 4, 40) := by kernel_rfl

structure S23 where
  f0 : Int
  f1 : Int
  f2 : ByteArray
def z23 : S23 := ⟨(0 : Int), (0 : Int), (⟨#[]⟩ : ByteArray)⟩
def k23 : Kd S23 := Kd.iso (Kd.pair (Kd.int .i64) (Kd.pair (Kd.int .i64) Kd.string)) (fun x : S23 => (x.f0, x.f1, x.f2))
theorem k23_open {w : World} {x : S23} {cs : List Value} (h : k23.K w x cs) : cs = [.int .i64 x.f0, .int .i64 x.f1, .string x.f2] := by
  obtain ⟨_, _, rfl, rfl, ⟨_, _, rfl, rfl, rfl⟩⟩ := h
  exact rfl
theorem k23_openM {w : World} {base : Nat} {ok : Nat → Prop} {x : S23} {cs : List Value} (h : k23.M w base ok x cs) : cs = [.int .i64 x.f0, .int .i64 x.f1, .string x.f2] := by
  obtain ⟨_, _, rfl, rfl, ⟨_, _, rfl, rfl, rfl⟩⟩ := h
  exact rfl
theorem k23_mk (w : World) (x : S23)  : k23.K w x [.int .i64 x.f0, .int .i64 x.f1, .string x.f2] := ⟨[.int .i64 x.f0], [.int .i64 x.f1, .string x.f2], rfl, rfl, ⟨[.int .i64 x.f1], [.string x.f2], rfl, rfl, rfl⟩⟩
theorem k23_mkM (w : World) (base : Nat) (ok : Nat → Prop) (x : S23)  : k23.M w base ok x [.int .i64 x.f0, .int .i64 x.f1, .string x.f2] := ⟨[.int .i64 x.f0], [.int .i64 x.f1, .string x.f2], rfl, rfl, ⟨[.int .i64 x.f1], [.string x.f2], rfl, rfl, rfl⟩⟩
def rd_T23 (xs : List S23) (i : Int) : S23 := xs.getD i.toNat z23
theorem at_T23 {w : World} {A : Option Addr} {n : Nat} {xs : List S23} (h : Kd.C k23 w A n xs) (i : Int) (h0 : 0 ≤ i) (h1 : i < n) : ∃ ad , A = some ad ∧ w.cell? (ad.add (i.toNat * 3)) = some (.int .i64 (rd_T23 xs i).f0) ∧ w.cell? ⟨(ad.add (i.toNat * 3)).block, (ad.add (i.toNat * 3)).off + 1, none⟩ = some (.int .i64 (rd_T23 xs i).f1) ∧ w.cell? ⟨(ad.add (i.toNat * 3)).block, (ad.add (i.toNat * 3)).off + 2, none⟩ = some (.string (rd_T23 xs i).f2) := by
  obtain ⟨ad, c, e, _, hK, hc0⟩ := Kd.C_get h z23 i h0 h1
  have hc : ∀ j u, c[j]? = some u → w.cell? (ad.add (i.toNat * 3 + j)) = some u := hc0
  obtain rfl := k23_open hK
  exact ⟨ad, e, hc 0 _ rfl, by rw [← add_field _ _ 1 (by omega)]; exact hc 1 _ rfl, by rw [← add_field _ _ 2 (by omega)]; exact hc 2 _ rfl⟩

structure S36 where
  f0 : Int
  f1 : Int
  f2 : Int
  f3 : S23
  f4 : Int
  f5 : Int
def z36 : S36 := ⟨(0 : Int), (0 : Int), (0 : Int), z23, (0 : Int), (0 : Int)⟩
def k36 : Kd S36 := Kd.iso (Kd.pair (Kd.int .i64) (Kd.pair (Kd.int .i64) (Kd.pair (Kd.int .i64) (Kd.pair k23 (Kd.pair (Kd.int .i64) (Kd.int .i64)))))) (fun x : S36 => (x.f0, x.f1, x.f2, x.f3, x.f4, x.f5))
theorem k36_open {w : World} {x : S36} {cs : List Value} (h : k36.K w x cs) : cs = [.int .i64 x.f0, .int .i64 x.f1, .int .i64 x.f2, .int .i64 x.f3.f0, .int .i64 x.f3.f1, .string x.f3.f2, .int .i64 x.f4, .int .i64 x.f5] := by
  obtain ⟨_, _, rfl, rfl, ⟨_, _, rfl, rfl, ⟨_, _, rfl, rfl, ⟨_, _, rfl, s3, ⟨_, _, rfl, rfl, rfl⟩⟩⟩⟩⟩ := h
  obtain rfl := k23_open s3
  exact rfl
theorem k36_mk (w : World) (x : S36)  : k36.K w x [.int .i64 x.f0, .int .i64 x.f1, .int .i64 x.f2, .int .i64 x.f3.f0, .int .i64 x.f3.f1, .string x.f3.f2, .int .i64 x.f4, .int .i64 x.f5] := ⟨[.int .i64 x.f0], [.int .i64 x.f1, .int .i64 x.f2, .int .i64 x.f3.f0, .int .i64 x.f3.f1, .string x.f3.f2, .int .i64 x.f4, .int .i64 x.f5], rfl, rfl, ⟨[.int .i64 x.f1], [.int .i64 x.f2, .int .i64 x.f3.f0, .int .i64 x.f3.f1, .string x.f3.f2, .int .i64 x.f4, .int .i64 x.f5], rfl, rfl, ⟨[.int .i64 x.f2], [.int .i64 x.f3.f0, .int .i64 x.f3.f1, .string x.f3.f2, .int .i64 x.f4, .int .i64 x.f5], rfl, rfl, ⟨[.int .i64 x.f3.f0, .int .i64 x.f3.f1, .string x.f3.f2], [.int .i64 x.f4, .int .i64 x.f5], rfl, (k23_mk w x.f3 ), ⟨[.int .i64 x.f4], [.int .i64 x.f5], rfl, rfl, rfl⟩⟩⟩⟩⟩
theorem k36_mkM (w : World) (base : Nat) (ok : Nat → Prop) (x : S36)  : k36.M w base ok x [.int .i64 x.f0, .int .i64 x.f1, .int .i64 x.f2, .int .i64 x.f3.f0, .int .i64 x.f3.f1, .string x.f3.f2, .int .i64 x.f4, .int .i64 x.f5] := ⟨[.int .i64 x.f0], [.int .i64 x.f1, .int .i64 x.f2, .int .i64 x.f3.f0, .int .i64 x.f3.f1, .string x.f3.f2, .int .i64 x.f4, .int .i64 x.f5], rfl, rfl, ⟨[.int .i64 x.f1], [.int .i64 x.f2, .int .i64 x.f3.f0, .int .i64 x.f3.f1, .string x.f3.f2, .int .i64 x.f4, .int .i64 x.f5], rfl, rfl, ⟨[.int .i64 x.f2], [.int .i64 x.f3.f0, .int .i64 x.f3.f1, .string x.f3.f2, .int .i64 x.f4, .int .i64 x.f5], rfl, rfl, ⟨[.int .i64 x.f3.f0, .int .i64 x.f3.f1, .string x.f3.f2], [.int .i64 x.f4, .int .i64 x.f5], rfl, (k23_mkM w base ok x.f3 ), ⟨[.int .i64 x.f4], [.int .i64 x.f5], rfl, rfl, rfl⟩⟩⟩⟩⟩
def rd_T36 (xs : List S36) (i : Int) : S36 := xs.getD i.toNat z36
theorem at_T36 {w : World} {A : Option Addr} {n : Nat} {xs : List S36} (h : Kd.C k36 w A n xs) (i : Int) (h0 : 0 ≤ i) (h1 : i < n) : ∃ ad , A = some ad ∧ w.cell? (ad.add (i.toNat * 8)) = some (.int .i64 (rd_T36 xs i).f0) ∧ w.cell? ⟨(ad.add (i.toNat * 8)).block, (ad.add (i.toNat * 8)).off + 1, none⟩ = some (.int .i64 (rd_T36 xs i).f1) ∧ w.cell? ⟨(ad.add (i.toNat * 8)).block, (ad.add (i.toNat * 8)).off + 2, none⟩ = some (.int .i64 (rd_T36 xs i).f2) ∧ w.cell? ⟨(ad.add (i.toNat * 8)).block, (ad.add (i.toNat * 8)).off + 3, none⟩ = some (.int .i64 (rd_T36 xs i).f3.f0) ∧ w.cell? ⟨(ad.add (i.toNat * 8)).block, (ad.add (i.toNat * 8)).off + 4, none⟩ = some (.int .i64 (rd_T36 xs i).f3.f1) ∧ w.cell? ⟨(ad.add (i.toNat * 8)).block, (ad.add (i.toNat * 8)).off + 5, none⟩ = some (.string (rd_T36 xs i).f3.f2) ∧ w.cell? ⟨(ad.add (i.toNat * 8)).block, (ad.add (i.toNat * 8)).off + 6, none⟩ = some (.int .i64 (rd_T36 xs i).f4) ∧ w.cell? ⟨(ad.add (i.toNat * 8)).block, (ad.add (i.toNat * 8)).off + 7, none⟩ = some (.int .i64 (rd_T36 xs i).f5) := by
  obtain ⟨ad, c, e, _, hK, hc0⟩ := Kd.C_get h z36 i h0 h1
  have hc : ∀ j u, c[j]? = some u → w.cell? (ad.add (i.toNat * 8 + j)) = some u := hc0
  obtain rfl := k36_open hK
  exact ⟨ad, e, hc 0 _ rfl, by rw [← add_field _ _ 1 (by omega)]; exact hc 1 _ rfl, by rw [← add_field _ _ 2 (by omega)]; exact hc 2 _ rfl, by rw [← add_field _ _ 3 (by omega)]; exact hc 3 _ rfl, by rw [← add_field _ _ 4 (by omega)]; exact hc 4 _ rfl, by rw [← add_field _ _ 5 (by omega)]; exact hc 5 _ rfl, by rw [← add_field _ _ 6 (by omega)]; exact hc 6 _ rfl, by rw [← add_field _ _ 7 (by omega)]; exact hc 7 _ rfl⟩

structure S65 where
  f0 : Int
  f1 : Int
  f2 : Int
  f3 : ByteArray
def z65 : S65 := ⟨(0 : Int), (0 : Int), (0 : Int), (⟨#[]⟩ : ByteArray)⟩
def k65 : Kd S65 := Kd.iso (Kd.pair (Kd.int .i64) (Kd.pair (Kd.int .i64) (Kd.pair (Kd.int .i64) Kd.string))) (fun x : S65 => (x.f0, x.f1, x.f2, x.f3))
theorem k65_open {w : World} {x : S65} {cs : List Value} (h : k65.K w x cs) : cs = [.int .i64 x.f0, .int .i64 x.f1, .int .i64 x.f2, .string x.f3] := by
  obtain ⟨_, _, rfl, rfl, ⟨_, _, rfl, rfl, ⟨_, _, rfl, rfl, rfl⟩⟩⟩ := h
  exact rfl
theorem k65_mkM (w : World) (base : Nat) (ok : Nat → Prop) (x : S65)  : k65.M w base ok x [.int .i64 x.f0, .int .i64 x.f1, .int .i64 x.f2, .string x.f3] := ⟨[.int .i64 x.f0], [.int .i64 x.f1, .int .i64 x.f2, .string x.f3], rfl, rfl, ⟨[.int .i64 x.f1], [.int .i64 x.f2, .string x.f3], rfl, rfl, ⟨[.int .i64 x.f2], [.string x.f3], rfl, rfl, rfl⟩⟩⟩
def rd_T65 (xs : List S65) (i : Int) : S65 := xs.getD i.toNat z65
theorem at_T65 {w : World} {A : Option Addr} {n : Nat} {xs : List S65} (h : Kd.C k65 w A n xs) (i : Int) (h0 : 0 ≤ i) (h1 : i < n) : ∃ ad , A = some ad ∧ w.cell? (ad.add (i.toNat * 4)) = some (.int .i64 (rd_T65 xs i).f0) ∧ w.cell? ⟨(ad.add (i.toNat * 4)).block, (ad.add (i.toNat * 4)).off + 1, none⟩ = some (.int .i64 (rd_T65 xs i).f1) ∧ w.cell? ⟨(ad.add (i.toNat * 4)).block, (ad.add (i.toNat * 4)).off + 2, none⟩ = some (.int .i64 (rd_T65 xs i).f2) ∧ w.cell? ⟨(ad.add (i.toNat * 4)).block, (ad.add (i.toNat * 4)).off + 3, none⟩ = some (.string (rd_T65 xs i).f3) := by
  obtain ⟨ad, c, e, _, hK, hc0⟩ := Kd.C_get h z65 i h0 h1
  have hc : ∀ j u, c[j]? = some u → w.cell? (ad.add (i.toNat * 4 + j)) = some u := hc0
  obtain rfl := k65_open hK
  exact ⟨ad, e, hc 0 _ rfl, by rw [← add_field _ _ 1 (by omega)]; exact hc 1 _ rfl, by rw [← add_field _ _ 2 (by omega)]; exact hc 2 _ rfl, by rw [← add_field _ _ 3 (by omega)]; exact hc 3 _ rfl⟩

structure S55 where
  f0 : Int
  f1 : Int
def z55 : S55 := ⟨(0 : Int), (0 : Int)⟩
def k55 : Kd S55 := Kd.iso (Kd.pair (Kd.int .i64) (Kd.int .i64)) (fun x : S55 => (x.f0, x.f1))
theorem k55_open {w : World} {x : S55} {cs : List Value} (h : k55.K w x cs) : cs = [.int .i64 x.f0, .int .i64 x.f1] := by
  obtain ⟨_, _, rfl, rfl, rfl⟩ := h
  exact rfl
theorem k55_mkM (w : World) (base : Nat) (ok : Nat → Prop) (x : S55)  : k55.M w base ok x [.int .i64 x.f0, .int .i64 x.f1] := ⟨[.int .i64 x.f0], [.int .i64 x.f1], rfl, rfl, rfl⟩
def rd_T55 (xs : List S55) (i : Int) : S55 := xs.getD i.toNat z55
theorem at_T55 {w : World} {A : Option Addr} {n : Nat} {xs : List S55} (h : Kd.C k55 w A n xs) (i : Int) (h0 : 0 ≤ i) (h1 : i < n) : ∃ ad , A = some ad ∧ w.cell? (ad.add (i.toNat * 2)) = some (.int .i64 (rd_T55 xs i).f0) ∧ w.cell? ⟨(ad.add (i.toNat * 2)).block, (ad.add (i.toNat * 2)).off + 1, none⟩ = some (.int .i64 (rd_T55 xs i).f1) := by
  obtain ⟨ad, c, e, _, hK, hc0⟩ := Kd.C_get h z55 i h0 h1
  have hc : ∀ j u, c[j]? = some u → w.cell? (ad.add (i.toNat * 2 + j)) = some u := hc0
  obtain rfl := k55_open hK
  exact ⟨ad, e, hc 0 _ rfl, by rw [← add_field _ _ 1 (by omega)]; exact hc 1 _ rfl⟩

def rd_L8 (xs : List (List S55)) (i : Int) : (List S55) := xs.getD i.toNat ([] : List S55)
theorem at_L8 {w : World} {A : Option Addr} {n : Nat} {xs : List (List S55)} (h : Kd.C (Kd.slice 55 k55) w A n xs) (i : Int) (h0 : 0 ≤ i) (h1 : i < n) : ∃ ad A0 c0, A = some ad ∧ w.cell? (ad.add i.toNat) = some (.slice A0 (rd_L8 xs i).length c0) ∧ (rd_L8 xs i).length ≤ c0 ∧ k55.C w A0 (rd_L8 xs i).length (rd_L8 xs i) := by
  obtain ⟨ad, c, e, _, hK, hc0⟩ := Kd.C_get h ([] : List S55) i h0 h1
  have hc : ∀ j u, c[j]? = some u → w.cell? (ad.add (i.toNat * 1 + j)) = some u := hc0
  obtain ⟨A0, c0, rfl, l0, g0⟩ := hK
  exact ⟨ad, A0, c0, e, by have hq := hc 0 _ rfl; rwa [Nat.mul_one, Nat.add_zero] at hq, l0, g0⟩

end Go.Proofs.Ytjbafigageingaa

namespace Go.Proofs.Ytjbafigageingaa
open Go.RowKit Go.Proofs.YtjbafigageingaaW.PrintWords Go.Proofs.YtjbafigageingaaW.PrintLast Go.Proofs.YtjbafigageingaaW.PrintMore
set_option linter.unusedVariables false
set_option linter.unusedSimpArgs false

/-- isMark, covers, Exclude -/
def noText (s : ByteArray) : Bool := s.toList.isEmpty
def sameT (a b : S23) : Bool := a.f0 == b.f0 && (a.f1 == b.f1 && (a.f2.toList == b.f2.toList))
def isMarkB (t : S23) : Bool :=
  if t.f0 = 1 ∨ t.f0 = 2 ∨ t.f0 = 5 ∨ t.f0 = 6 then t.f1 == 0 && noText t.f2
  else if t.f0 = 3 then decide (1 ≤ t.f1) && decide (t.f1 ≤ 8) && noText t.f2
  else if t.f0 = 4 then t.f1 == 0 && !noText t.f2
  else false
def coversB (a b : S23) : Bool := (a.f0 == 6 && (b.f0 == 1 || b.f0 == 2)) || (a.f0 == 5 && b.f0 == 3)
def exclB (a b : S23) : Bool := isMarkB a && isMarkB b && !sameT a b && !coversB a b && !coversB b a
/-- the vertices from which the distances are taken -/
def dFrom : List Int → List Int → Option (List Int)
  | out, [] => some out
  | out, v :: vs => if 0 ≤ v ∧ v < (out.length : Int) then dFrom (out.set v.toNat 0) vs else none
/-- the edges of a vertex -/
def dInner (v : Int) : List S55 → List Int → List Int → Option (List Int × List Int)
  | [], out, todo => some (out, todo)
  | e :: es, out, todo =>
    if 0 ≤ e.f1 ∧ e.f1 < (out.length : Int) then
      if rd out e.f1 < 0 then
        if 0 ≤ v ∧ v < (out.length : Int) ∧ todo.length < 1000000 then dInner v es (out.set e.f1.toNat (wrap64 (rd out v + 1))) (todo ++ [e.f1]) else none
      else dInner v es out todo
    else none
def rdE (E : List (List S55)) (v : Int) : List S55 := E.getD v.toNat []
def dBfs (E : List (List S55)) : Nat → List Int → List Int → Option (List Int)
  | 0, _, _ => none
  | k + 1, out, todo => match todo with
    | [] => some out
    | v :: rest => if 0 ≤ v ∧ v < (E.length : Int) then (dInner v (rdE E v) out rest).bind fun p => dBfs E k p.1 p.2 else none
def dist (E : List (List S55)) (F : List Int) (k : Nat) : Option (List Int) := (dFrom (List.replicate E.length (-1)) F).bind fun out => dBfs E k out F
/-- other -/
def otherF (L : List S36) (i : Int) : List Int → Option (Int × Bool)
  | [] => some (0, false)
  | j :: js => if i < j then
      if (0 ≤ i ∧ i < (L.length : Int)) ∧ (0 ≤ j ∧ j < (L.length : Int)) then (if exclB (rd_T36 L i).f3 (rd_T36 L j).f3 = true then some (j, true) else otherF L i js) else none
    else otherF L i js
/-- chain: the targets, the next edge, the way -/
def tgtF (L : List S36) (M : Int → List Int) (far : List Int) (i : Int) : Nat → Nat → Int → List Int → Option (Int × List Int)
  | 0, _, best, ts => some (best, ts)
  | d + 1, v, best, ts =>
    if rd far v < 0 then tgtF L M far i d (v + 1) best ts
    else if 0 ≤ best ∧ best < rd far v then tgtF L M far i d (v + 1) best ts
    else (otherF L i (M v)).bind fun p =>
      if p.2 = true then
        if best < 0 ∨ rd far v < best then tgtF L M far i d (v + 1) (rd far v) [(v : Int)]
        else tgtF L M far i d (v + 1) best (ts ++ [(v : Int)])
      else tgtF L M far i d (v + 1) best ts
def nextE (left : List Int) (lv : Int) : List S55 → S55 → Option S55
  | [], nx => some nx
  | e :: es, nx =>
    if 0 ≤ e.f1 ∧ e.f1 < (left.length : Int) then
      if rd left e.f1 = wrap64 (lv - 1) then
        if nx.f0 < 0 then nextE left lv es e
        else if e.f0 < nx.f0 then nextE left lv es e else nextE left lv es nx
      else nextE left lv es nx
    else none
def wayF (E : List (List S55)) (left : List Int) : Nat → List Int → Int → Option (List Int × Int)
  | 0, _, _ => none
  | k + 1, out, v =>
    if 0 ≤ v ∧ v < (left.length : Int) then
      if 0 < rd left v then
        if v < (E.length : Int) ∧ out.length < 1000000 then (nextE left (rd left v) (rdE E v) ⟨-1, 0⟩).bind fun nx => wayF E left k (out ++ [nx.f0]) nx.f1 else none
      else some (out, v)
    else none
def chainF (E : List (List S55)) (L : List S36) (M : Int → List Int) (k : Nat) (i : Int) : Option (Option (List Int)) :=
  if 0 ≤ i ∧ i < (L.length : Int) then
    (dist E [(rd_T36 L i).f1] k).bind fun far => (tgtF L M far i E.length 0 (-1) []).bind fun bt =>
      if bt.1 < 0 then some none
      else (dist E bt.2 k).bind fun left => (wayF E left k [i] (rd_T36 L i).f1).bind fun ov =>
        if 0 ≤ ov.2 ∧ ov.2 < (E.length : Int) then (otherF L i (M ov.2)).bind fun jb => some (some (ov.1 ++ [jb.1])) else none
  else none
end Go.Proofs.Ytjbafigageingaa

namespace Go.Proofs.Ytjbafigageingaa
open Go.RowKit Go.Proofs.YtjbafigageingaaW.PrintWords Go.Proofs.YtjbafigageingaaW.PrintLast Go.Proofs.YtjbafigageingaaW.PrintMore
set_option linter.unusedVariables false
set_option linter.unusedSimpArgs false

theorem eqA23 (d : Nat) (w : World) (x0 y0 : Int) (x1 y1 : Int) (x2 y2 : ByteArray) :
    (Op.equalIn (d + 2) 23 (.agg #[.int .i64 x0, .int .i64 x1, .string x2]) (.agg #[.int .i64 y0, .int .i64 y1, .string y2])).run Try.prog w = .ok (x0 == y0 && (x1 == y1 && (x2.toList == y2.toList))) w := by
  refine eqA_of Try.underlying23 (by kernel_rfl) ?_
  refine eqf_cons (by rfl) (by go_simp; rfl) (by go_simp; rfl) (by go_simp) ?_
  refine eqf_cons (by rfl) (by go_simp; rfl) (by go_simp; rfl) (by go_simp) ?_
  exact eqf_last (by rfl) (by go_simp; rfl) (by go_simp; rfl) (by go_simp)
attribute [local go_sem high] eqA23
abbrev v23 (t : S23) : Value := .agg #[.int .i64 t.f0, .int .i64 t.f1, .string t.f2]
theorem ret_bool {a b : Bool} (h : a = b) : Ending.returned (.bool a) = Ending.returned (.bool b) := by rw [h]
set_option maxRecDepth 100000 in
theorem isMark_calls (a b : Int) (s : ByteArray) (w : World) :
    Calls Try.prog 22 #[.agg #[.int .i64 a, .int .i64 b, .string s]] w fun e w' => e = .returned (.bool (isMarkB ⟨a, b, s⟩)) ∧ Below w.heap.size w w' := by
  rcases (show a = 1 ∨ a = 2 ∨ a = 5 ∨ a = 6 ∨ (a = 3 ∧ 1 ≤ b ∧ b ≤ 8) ∨ (a = 3 ∧ b < 1) ∨ (a = 3 ∧ 8 < b) ∨ (a = 4 ∧ b = 0) ∨ (a = 4 ∧ b ≠ 0) ∨ (a ≠ 1 ∧ a ≠ 2 ∧ a ≠ 5 ∧ a ≠ 6 ∧ a ≠ 3 ∧ a ≠ 4) from by omega) with rfl | rfl | rfl | rfl | ⟨rfl, h1, h2⟩ | ⟨rfl, h1⟩ | ⟨rfl, h1⟩ | ⟨rfl, rfl⟩ | ⟨rfl, h1⟩ | ⟨h1, h2, h3, h4, h5, h6⟩
  all_goals
    go_enter Try.func22, Try.ntmps22
    go_wp2
    go_ret
    refine ⟨ret_bool ?_, (Below.refl _ _).alloc (Nat.le_refl _) _⟩
    simp [isMarkB, noText, *]
    try (intros; omega)

set_option maxRecDepth 100000 in
theorem covers_calls (a b : Int) (s : ByteArray) (a' b' : Int) (s' : ByteArray) (w : World) :
    Calls Try.prog 23 #[.agg #[.int .i64 a, .int .i64 b, .string s], .agg #[.int .i64 a', .int .i64 b', .string s']] w fun e w' => e = .returned (.bool (coversB ⟨a, b, s⟩ ⟨a', b', s'⟩)) ∧ Below w.heap.size w w' := by
  rcases (show (a = 6 ∧ a' = 1) ∨ (a = 6 ∧ a' = 2) ∨ (a = 6 ∧ a' ≠ 1 ∧ a' ≠ 2) ∨ (a = 5 ∧ a' = 3) ∨ (a = 5 ∧ a' ≠ 3) ∨ (a ≠ 5 ∧ a ≠ 6) from by omega) with ⟨rfl, rfl⟩ | ⟨rfl, rfl⟩ | ⟨rfl, h1, h2⟩ | ⟨rfl, rfl⟩ | ⟨rfl, h1⟩ | ⟨h1, h2⟩
  all_goals
    go_enter Try.func23, Try.ntmps23
    go_wp2
    go_ret
    refine ⟨ret_bool ?_, ((Below.refl _ _).alloc (Nat.le_refl _) _).alloc (by simp) _⟩
    simp [coversB, *]

set_option maxRecDepth 100000 in
set_option maxHeartbeats 1000000 in
theorem exclude_calls (a b : S23) (w : World) :
    Calls Try.prog 8 #[v23 a, v23 b] w fun e w' => e = .returned (.bool (exclB a b)) ∧ Below w.heap.size w w' := by
  obtain ⟨a0, a1, a2⟩ := a
  obtain ⟨b0, b1, b2⟩ := b
  have CA : ∀ W : World, Calls Try.prog 22 #[.agg #[.int .i64 a0, .int .i64 a1, .string a2]] W fun e w' => e = .returned (.bool (isMarkB ⟨a0, a1, a2⟩)) ∧ Below W.heap.size W w' := fun W => isMark_calls _ _ _ _
  have CB : ∀ W : World, Calls Try.prog 22 #[.agg #[.int .i64 b0, .int .i64 b1, .string b2]] W fun e w' => e = .returned (.bool (isMarkB ⟨b0, b1, b2⟩)) ∧ Below W.heap.size W w' := fun W => isMark_calls _ _ _ _
  have CC : ∀ W : World, Calls Try.prog 23 #[.agg #[.int .i64 a0, .int .i64 a1, .string a2], .agg #[.int .i64 b0, .int .i64 b1, .string b2]] W fun e w' => e = .returned (.bool (coversB ⟨a0, a1, a2⟩ ⟨b0, b1, b2⟩)) ∧ Below W.heap.size W w' := fun W => covers_calls _ _ _ _ _ _ _
  have CD : ∀ W : World, Calls Try.prog 23 #[.agg #[.int .i64 b0, .int .i64 b1, .string b2], .agg #[.int .i64 a0, .int .i64 a1, .string a2]] W fun e w' => e = .returned (.bool (coversB ⟨b0, b1, b2⟩ ⟨a0, a1, a2⟩)) ∧ Below W.heap.size W w' := fun W => covers_calls _ _ _ _ _ _ _
  have hx : ∃ x, exclB ⟨a0, a1, a2⟩ ⟨b0, b1, b2⟩ = x := ⟨_, rfl⟩
  obtain ⟨x, hx⟩ := hx
  rw [hx]
  unfold exclB at hx
  have hcases : isMarkB ⟨a0, a1, a2⟩ = false ∨ (isMarkB ⟨a0, a1, a2⟩ = true ∧ isMarkB ⟨b0, b1, b2⟩ = false) ∨ (isMarkB ⟨a0, a1, a2⟩ = true ∧ isMarkB ⟨b0, b1, b2⟩ = true ∧ sameT ⟨a0, a1, a2⟩ ⟨b0, b1, b2⟩ = true) ∨
      (isMarkB ⟨a0, a1, a2⟩ = true ∧ isMarkB ⟨b0, b1, b2⟩ = true ∧ sameT ⟨a0, a1, a2⟩ ⟨b0, b1, b2⟩ = false ∧ coversB ⟨a0, a1, a2⟩ ⟨b0, b1, b2⟩ = true) ∨
      (isMarkB ⟨a0, a1, a2⟩ = true ∧ isMarkB ⟨b0, b1, b2⟩ = true ∧ sameT ⟨a0, a1, a2⟩ ⟨b0, b1, b2⟩ = false ∧ coversB ⟨a0, a1, a2⟩ ⟨b0, b1, b2⟩ = false ∧ coversB ⟨b0, b1, b2⟩ ⟨a0, a1, a2⟩ = true) ∨
      (isMarkB ⟨a0, a1, a2⟩ = true ∧ isMarkB ⟨b0, b1, b2⟩ = true ∧ sameT ⟨a0, a1, a2⟩ ⟨b0, b1, b2⟩ = false ∧ coversB ⟨a0, a1, a2⟩ ⟨b0, b1, b2⟩ = false ∧ coversB ⟨b0, b1, b2⟩ ⟨a0, a1, a2⟩ = false) := by
    cases isMarkB ⟨a0, a1, a2⟩ <;> cases isMarkB ⟨b0, b1, b2⟩ <;> cases sameT ⟨a0, a1, a2⟩ ⟨b0, b1, b2⟩ <;> cases coversB ⟨a0, a1, a2⟩ ⟨b0, b1, b2⟩ <;> cases coversB ⟨b0, b1, b2⟩ ⟨a0, a1, a2⟩ <;> simp
  rcases hcases with h1 | ⟨h1, h2⟩ | ⟨h1, h2, h3⟩ | ⟨h1, h2, h3, h4⟩ | ⟨h1, h2, h3, h4, h5⟩ | ⟨h1, h2, h3, h4, h5⟩
  all_goals
    rw [h1] at CA
    try rw [h2] at CB
    try rw [h4] at CC
    try rw [h5] at CD
    have hx' : x = _ := hx.symm
    try rw [h1] at hx'
    try rw [h2] at hx'
    try rw [h3] at hx'
    try rw [h4] at hx'
    try rw [h5] at hx'
    simp only [Bool.false_and, Bool.true_and, Bool.and_false, Bool.and_true, Bool.not_true, Bool.not_false] at hx'
    subst hx'
    try simp only [sameT] at h3
    have HA := Aside0.mk CA
    have HB := Aside0.mk CB
    have HC := Aside0.mk CC
    have HD := Aside0.mk CD
    clear CA CB CC CD hx
    try clear h1
    try clear h2
    try clear h4
    try clear h5
    go_enter Try.func8, Try.ntmps8
    go_wp2_with (first
      | (go_at_call 22; ((with_reducible refine (HA.out _).mono ?_); rintro e w1 ⟨rfl, hb⟩); have c0 := pw_cell_below hb (a := ⟨w.heap.size, 0, none⟩) (v := .int .i64 a0) (by simp); have c1 := pw_cell_below hb (a := ⟨w.heap.size, 1, none⟩) (v := .int .i64 a1) (by simp); have c2 := pw_cell_below hb (a := ⟨w.heap.size, 2, none⟩) (v := .string a2) (by simp); have d0 := pw_cell_below hb (a := ⟨w.heap.size + 1, 0, none⟩) (v := .int .i64 b0) (by simp); have d1 := pw_cell_below hb (a := ⟨w.heap.size + 1, 1, none⟩) (v := .int .i64 b1) (by simp); have d2 := pw_cell_below hb (a := ⟨w.heap.size + 1, 2, none⟩) (v := .string b2) (by simp); have G := Aside0.mk (below_step (((Below.refl w.heap.size w).alloc (Nat.le_refl _) _).alloc (by simp) _) hb); clear hb)
      | (go_at_call 22; ((with_reducible refine (HB.out _).mono ?_); rintro e w2 ⟨rfl, hb⟩); replace c0 := pw_cell_below hb c0; replace c1 := pw_cell_below hb c1; replace c2 := pw_cell_below hb c2; replace d0 := pw_cell_below hb d0; replace d1 := pw_cell_below hb d1; replace d2 := pw_cell_below hb d2; replace G := Aside0.mk (below_step G.out hb); clear hb)
      | (go_at_call 23; ((with_reducible refine (HC.out _).mono ?_); rintro e w3 ⟨rfl, hb⟩); replace c0 := pw_cell_below hb c0; replace c1 := pw_cell_below hb c1; replace c2 := pw_cell_below hb c2; replace d0 := pw_cell_below hb d0; replace d1 := pw_cell_below hb d1; replace d2 := pw_cell_below hb d2; replace G := Aside0.mk (below_step G.out hb); clear hb)
      | (go_at_call 23; ((with_reducible refine (HD.out _).mono ?_); rintro e w4 ⟨rfl, hb⟩); replace c0 := pw_cell_below hb c0; replace c1 := pw_cell_below hb c1; replace c2 := pw_cell_below hb c2; replace d0 := pw_cell_below hb d0; replace d1 := pw_cell_below hb d1; replace d2 := pw_cell_below hb d2; replace G := Aside0.mk (below_step G.out hb); clear hb))
    go_ret
    exact ⟨rfl, G.out⟩
end Go.Proofs.Ytjbafigageingaa

namespace Go.Proofs.Ytjbafigageingaa
open Go.RowKit Go.ChangeShapes Go.WideShapes Go.ChangeAt Go.Proofs.YtjbafigageingaaW.PrintWords Go.Proofs.YtjbafigageingaaW.PrintLast Go.Proofs.YtjbafigageingaaW.PrintMore
set_option linter.unusedVariables false
set_option linter.unusedSimpArgs false
theorem seat_own : ownKnob Try.prog.godebug = none := by kernel_rfl
theorem seat_laidOut : laidOutB Try.prog = true := by kernel_rfl
section
variable {H : Type} {enc : TypeId × Value → H} {w : World} {base : Nat} {spare : Nat → Bool} {held : Bool} {fuel : Nat} {x : DataW H × List MemPlace}
end
end Go.Proofs.Ytjbafigageingaa

namespace Go.Proofs.Ytjbafigageingaa
open Go.RowKit Go.ChangeShapes Go.WideShapes Go.ChangeAt Go.Deep Go.Proofs.YtjbafigageingaaW.PrintWords Go.Proofs.YtjbafigageingaaW.PrintLast Go.Proofs.YtjbafigageingaaW.PrintMore
set_option linter.unusedVariables false
set_option linter.unusedSimpArgs false
section
variable {H : Type} {enc : TypeId × Value → H} {w : World} {base : Nat} {spare : Nat → Bool} {held : Bool} {fuel : Nat} {x : DataW H × List MemPlace}
/-- A slice's rows, read by a kind. -/
theorem open_rows {α : Type} {d : Kd α} {t e : TypeId} {v : Value} {dd : DataW H} {p : List MemPlace} {r : Reach} {b0 : Nat} (ht : Try.prog.underlying t = some (.slice e)) (hc : Try.prog.cellsOf e = d.sz)
    (hop : ∀ {fuel : Nat} {cs : List Value} {x : DataW H × List MemPlace}, DataW.trod enc Try.prog w base spare held fuel e cs = some x → ∃ y : α, d.K w y cs)
    (hv : Value.okWide Try.prog w r b0 t v) (h : DataW.Trod enc Try.prog w base spare held t v dd p) : ∃ A c L, v = .slice A L.length c ∧ L.length ≤ c ∧ d.C w A L.length L := by
  obtain ⟨a, len, cap, rfl⟩ := okWide_slice ht hv
  obtain ⟨fuel, hf⟩ := h
  rcases open_slice ht hf with ⟨hcs, _⟩ | ⟨ad, l, c, m, n, D, Pl, hcs, _, hl, hm, hmm, _, hi⟩
  · have : Value.slice a len cap = .slice none 0 0 := by simpa [Value.cells] using hcs
    injection this with h1 h2 h3
    subst h1 h2 h3
    exact ⟨none, 0, [], rfl, Nat.le_refl _, rfl, by simp, fun h => by simp at h⟩
  · have : Value.slice a len cap = .slice (some ad) l c := by simpa [Value.cells] using hcs
    injection this with h1 h2 h3
    subst h1 h2 h3
    have hlm : len ≤ m := by rw [hmm]; split <;> omega
    have key : ∀ i, i < len → ∃ y : α, ∃ cs', cs'.length = d.sz ∧ d.K w y cs' ∧ ∀ j u, cs'[j]? = some u → w.cell? (ad.add (i * d.sz + j)) = some u := by
      intro i hlt
      obtain ⟨cs', hcells, htr⟩ := hi i (by omega)
      obtain ⟨y, hy⟩ := hop htr
      rw [hc] at hcells
      obtain ⟨_, hcl, hat⟩ := World.cells?_some hcells
      refine ⟨y, cs', d.K_len hy, hy, fun j u hu => ?_⟩
      have hj : j < d.sz := by
        have := (List.getElem?_eq_some_iff.1 hu).1
        have := d.K_len hy
        omega
      rw [← Go.Deep.add_add, hat j hj, hu]
    -- the rows, as a list
    have key2 : ∀ k, k ≤ len → ∃ L : List α, L.length = k ∧ ∀ i y, L[i]? = some y → ∃ cs', cs'.length = d.sz ∧ d.K w y cs' ∧ ∀ j u, cs'[j]? = some u → w.cell? (ad.add (i * d.sz + j)) = some u := by
      intro k
      induction k with
      | zero => exact fun _ => ⟨[], rfl, fun i y hy => by simp at hy⟩
      | succ k ih =>
        intro hk
        obtain ⟨L, hL, hr⟩ := ih (by omega)
        obtain ⟨y, cs', h1, h2, h3⟩ := key k (by omega)
        refine ⟨L ++ [y], by simp [hL], fun i z hz => ?_⟩
        rcases Nat.lt_or_ge i L.length with hlt | hge
        · rw [List.getElem?_append_left hlt] at hz
          exact hr i z hz
        · rw [List.getElem?_append_right hge] at hz
          have hi0 : i = k := by
            rcases Nat.eq_zero_or_pos (i - L.length) with h0 | h0
            · omega
            · rw [List.getElem?_eq_none (by simp; omega)] at hz
              cases hz
          subst hi0
          rw [hL, Nat.sub_self] at hz
          injection hz with hz
          subst hz
          exact ⟨cs', h1, h2, h3⟩
    obtain ⟨L, hL, hr⟩ := key2 len (Nat.le_refl _)
    subst hL
    exact ⟨some ad, cap, L, rfl, hl, rfl, by unfold maxLen at hm; omega, fun _ => ⟨ad, rfl, fun j y hy => hr j y hy⟩⟩
end
theorem open_ilist {H : Type} {enc : TypeId × Value → H} {w : World} {base b0 : Nat} {r : Reach} {spare : Nat → Bool} {held : Bool} {v : Value} {d : DataW H} {p : List MemPlace} (hv : Value.okWide Try.prog w r b0 33 v) (h : DataW.Trod enc Try.prog w base spare held 33 v d p) :
    ∃ A c L, v = .slice A L.length c ∧ L.length ≤ c ∧ (Kd.int .i64).C w A L.length L :=
  open_rows Try.underlying33 (by kernel_rfl) (fun h => by
    obtain ⟨n, hn, _, _⟩ := DataW.trod_int Try.underlying3 h
    exact ⟨n, hn⟩) hv h
end Go.Proofs.Ytjbafigageingaa

namespace Go.Proofs.Ytjbafigageingaa
open Go.RowKit Go.ChangeShapes Go.WideShapes Go.ChangeAt Go.Deep Go.Proofs.YtjbafigageingaaW.PrintWords Go.Proofs.YtjbafigageingaaW.PrintLast Go.Proofs.YtjbafigageingaaW.PrintMore
set_option linter.unusedVariables false
set_option linter.unusedSimpArgs false
theorem wf_le {n : Int} (h : (Lit.int .i64 n).wf = true) : n ≤ 9223372036854775807 := by
  have g1 : IntKind.i64.min = -9223372036854775808 := by decide
  have g2 : IntKind.i64.max = 9223372036854775807 := by decide
  simp [Lit.wf, g1, g2] at h
  omega
section
variable {H : Type} {enc : TypeId × Value → H} {w : World} {base : Nat} {spare : Nat → Bool} {held : Bool} {fuel : Nat} {x : DataW H × List MemPlace}
theorem open_23W {cs : List Value} (h : DataW.trod enc Try.prog w base spare held fuel 23 cs = some x) : ∃ t : S23, cs = [.int .i64 t.f0, .int .i64 t.f1, .string t.f2] ∧ t.f1 ≤ 9223372036854775807 := by
  obtain ⟨xs, n, _, _, hl, hlen, hf⟩ := DataW.trod_struct Try.underlying23 h
  have hl3 : cs.length = 3 := by rw [hl]; kernel_rfl
  match cs, hl3 with
  | [c0, c1, c2], _ =>
    have e3 : Try.prog.cellsOf 3 = 1 := by kernel_rfl
    have e9 : Try.prog.cellsOf 9 = 1 := by kernel_rfl
    have h0 : DataW.trod enc Try.prog w base spare held n 3 (([c0, c1, c2].drop 0).take (Try.prog.cellsOf 3)) = xs[0]? := hf 0 _ rfl
    have h1 : DataW.trod enc Try.prog w base spare held n 3 (([c0, c1, c2].drop 1).take (Try.prog.cellsOf 3)) = xs[1]? := hf 1 _ rfl
    have h2 : DataW.trod enc Try.prog w base spare held n 9 (([c0, c1, c2].drop 2).take (Try.prog.cellsOf 9)) = xs[2]? := hf 2 _ rfl
    rw [e3] at h0 h1
    rw [e9] at h2
    obtain ⟨y0, hy0⟩ : ∃ y, DataW.trod enc Try.prog w base spare held n 3 [c0] = some y := ⟨_, h0.trans (List.getElem?_eq_getElem (show 0 < xs.length by rw [hlen]; decide))⟩
    obtain ⟨y1, hy1⟩ : ∃ y, DataW.trod enc Try.prog w base spare held n 3 [c1] = some y := ⟨_, h1.trans (List.getElem?_eq_getElem (show 1 < xs.length by rw [hlen]; decide))⟩
    obtain ⟨y2, hy2⟩ : ∃ y, DataW.trod enc Try.prog w base spare held n 9 [c2] = some y := ⟨_, h2.trans (List.getElem?_eq_getElem (show 2 < xs.length by rw [hlen]; decide))⟩
    obtain ⟨a, ha, _, _⟩ := DataW.trod_int Try.underlying3 hy0
    obtain ⟨b, hb, _, hwf⟩ := DataW.trod_int Try.underlying3 hy1
    obtain ⟨s, hs, _, _⟩ := DataW.trod_string Try.underlying9 hy2
    injection ha with ha
    injection hb with hb
    injection hs with hs
    exact ⟨⟨a, b, s⟩, by rw [ha, hb, hs], wf_le hwf⟩
theorem open_36W {cs : List Value} (h : DataW.trod enc Try.prog w base spare held fuel 36 cs = some x) : ∃ t : S36, k36.K w t cs ∧ t.f3.f1 ≤ 9223372036854775807 := by
  obtain ⟨xs, n, _, _, hl, hlen, hf⟩ := DataW.trod_struct Try.underlying36 h
  have hl8 : cs.length = 8 := by rw [hl]; kernel_rfl
  match cs, hl8 with
  | [c0, c1, c2, c3, c4, c5, c6, c7], _ =>
    have e3 : Try.prog.cellsOf 3 = 1 := by kernel_rfl
    have e23 : Try.prog.cellsOf 23 = 3 := by kernel_rfl
    have h0 : DataW.trod enc Try.prog w base spare held n 3 (([c0, c1, c2, c3, c4, c5, c6, c7].drop 0).take (Try.prog.cellsOf 3)) = xs[0]? := hf 0 _ rfl
    have h1 : DataW.trod enc Try.prog w base spare held n 3 (([c0, c1, c2, c3, c4, c5, c6, c7].drop 1).take (Try.prog.cellsOf 3)) = xs[1]? := hf 1 _ rfl
    have h2 : DataW.trod enc Try.prog w base spare held n 3 (([c0, c1, c2, c3, c4, c5, c6, c7].drop 2).take (Try.prog.cellsOf 3)) = xs[2]? := hf 2 _ rfl
    have h3 : DataW.trod enc Try.prog w base spare held n 23 (([c0, c1, c2, c3, c4, c5, c6, c7].drop 3).take (Try.prog.cellsOf 23)) = xs[3]? := hf 3 _ rfl
    have h4 : DataW.trod enc Try.prog w base spare held n 3 (([c0, c1, c2, c3, c4, c5, c6, c7].drop 6).take (Try.prog.cellsOf 3)) = xs[4]? := hf 4 _ rfl
    have h5 : DataW.trod enc Try.prog w base spare held n 3 (([c0, c1, c2, c3, c4, c5, c6, c7].drop 7).take (Try.prog.cellsOf 3)) = xs[5]? := hf 5 _ rfl
    rw [e3] at h0 h1 h2 h4 h5
    rw [e23] at h3
    have get : ∀ j, j < 6 → ∃ y, xs[j]? = some y := fun j hj => ⟨_, List.getElem?_eq_getElem (show j < xs.length by rw [hlen]; exact hj)⟩
    obtain ⟨y0, hy0⟩ := get 0 (by decide)
    obtain ⟨y1, hy1⟩ := get 1 (by decide)
    obtain ⟨y2, hy2⟩ := get 2 (by decide)
    obtain ⟨y3, hy3⟩ := get 3 (by decide)
    obtain ⟨y4, hy4⟩ := get 4 (by decide)
    obtain ⟨y5, hy5⟩ := get 5 (by decide)
    have g0 : DataW.trod enc Try.prog w base spare held n 3 [c0] = some y0 := h0.trans hy0
    have g1 : DataW.trod enc Try.prog w base spare held n 3 [c1] = some y1 := h1.trans hy1
    have g2 : DataW.trod enc Try.prog w base spare held n 3 [c2] = some y2 := h2.trans hy2
    have g3 : DataW.trod enc Try.prog w base spare held n 23 [c3, c4, c5] = some y3 := h3.trans hy3
    have g4 : DataW.trod enc Try.prog w base spare held n 3 [c6] = some y4 := h4.trans hy4
    have g5 : DataW.trod enc Try.prog w base spare held n 3 [c7] = some y5 := h5.trans hy5
    obtain ⟨a0, ha0, _, _⟩ := DataW.trod_int Try.underlying3 g0
    obtain ⟨a1, ha1, _, _⟩ := DataW.trod_int Try.underlying3 g1
    obtain ⟨a2, ha2, _, _⟩ := DataW.trod_int Try.underlying3 g2
    obtain ⟨t, ht, hwf⟩ := open_23W g3
    obtain ⟨a4, ha4, _, _⟩ := DataW.trod_int Try.underlying3 g4
    obtain ⟨a5, ha5, _, _⟩ := DataW.trod_int Try.underlying3 g5
    injection ha0 with ha0
    injection ha1 with ha1
    injection ha2 with ha2
    injection ht with ht0 ht
    injection ht with ht1 ht
    injection ht with ht2 ht
    injection ha4 with ha4
    injection ha5 with ha5
    refine ⟨⟨a0, a1, a2, t, a4, a5⟩, ?_, hwf⟩
    rw [ha0, ha1, ha2, ht0, ht1, ht2, ha4, ha5]
    exact k36_mk w ⟨a0, a1, a2, t, a4, a5⟩
theorem open_rowsW {α : Type} {d : Kd α} {P : α → Prop} {t e : TypeId} {v : Value} {dd : DataW H} {p : List MemPlace} {r : Reach} {b0 : Nat} (ht : Try.prog.underlying t = some (.slice e)) (hc : Try.prog.cellsOf e = d.sz)
    (hop : ∀ {fuel : Nat} {cs : List Value} {x : DataW H × List MemPlace}, DataW.trod enc Try.prog w base spare held fuel e cs = some x → ∃ y : α, d.K w y cs ∧ P y)
    (hv : Value.okWide Try.prog w r b0 t v) (h : DataW.Trod enc Try.prog w base spare held t v dd p) : ∃ A c L, v = .slice A L.length c ∧ L.length ≤ c ∧ d.C w A L.length L ∧ ∀ y ∈ L, P y := by
  obtain ⟨a, len, cap, rfl⟩ := okWide_slice ht hv
  obtain ⟨fuel, hf⟩ := h
  rcases open_slice ht hf with ⟨hcs, _⟩ | ⟨ad, l, c, m, n, D, Pl, hcs, _, hl, hm, hmm, _, hi⟩
  · have : Value.slice a len cap = .slice none 0 0 := by simpa [Value.cells] using hcs
    injection this with h1 h2 h3
    subst h1 h2 h3
    exact ⟨none, 0, [], rfl, Nat.le_refl _, ⟨rfl, by simp, fun h => by simp at h⟩, fun y hy => by cases hy⟩
  · have : Value.slice a len cap = .slice (some ad) l c := by simpa [Value.cells] using hcs
    injection this with h1 h2 h3
    subst h1 h2 h3
    have hlm : len ≤ m := by rw [hmm]; split <;> omega
    have key : ∀ i, i < len → ∃ y : α, P y ∧ ∃ cs', cs'.length = d.sz ∧ d.K w y cs' ∧ ∀ j u, cs'[j]? = some u → w.cell? (ad.add (i * d.sz + j)) = some u := by
      intro i hlt
      obtain ⟨cs', hcells, htr⟩ := hi i (by omega)
      obtain ⟨y, hy, hPy⟩ := hop htr
      rw [hc] at hcells
      obtain ⟨_, hcl, hat⟩ := World.cells?_some hcells
      refine ⟨y, hPy, cs', d.K_len hy, hy, fun j u hu => ?_⟩
      have hj : j < d.sz := by
        have := (List.getElem?_eq_some_iff.1 hu).1
        have := d.K_len hy
        omega
      rw [← Go.Deep.add_add, hat j hj, hu]
    -- the rows, as a list
    have key2 : ∀ k, k ≤ len → ∃ L : List α, L.length = k ∧ (∀ y ∈ L, P y) ∧ ∀ i y, L[i]? = some y → ∃ cs', cs'.length = d.sz ∧ d.K w y cs' ∧ ∀ j u, cs'[j]? = some u → w.cell? (ad.add (i * d.sz + j)) = some u := by
      intro k
      induction k with
      | zero => exact fun _ => ⟨[], rfl, fun y hy => (by cases hy), fun i y hy => by simp at hy⟩
      | succ k ih =>
        intro hk
        obtain ⟨L, hL, hLP, hr⟩ := ih (by omega)
        obtain ⟨y, hPy, cs', h1, h2, h3⟩ := key k (by omega)
        refine ⟨L ++ [y], by simp [hL], (fun x hx => by
          rcases List.mem_append.1 hx with hx | hx
          · exact hLP x hx
          · rw [List.mem_singleton.1 hx]; exact hPy), fun i z hz => ?_⟩
        rcases Nat.lt_or_ge i L.length with hlt | hge
        · rw [List.getElem?_append_left hlt] at hz
          exact hr i z hz
        · rw [List.getElem?_append_right hge] at hz
          have hi0 : i = k := by
            rcases Nat.eq_zero_or_pos (i - L.length) with h0 | h0
            · omega
            · rw [List.getElem?_eq_none (by simp; omega)] at hz
              cases hz
          subst hi0
          rw [hL, Nat.sub_self] at hz
          injection hz with hz
          subst hz
          exact ⟨cs', h1, h2, h3⟩
    obtain ⟨L, hL, hLP, hr⟩ := key2 len (Nat.le_refl _)
    subst hL
    exact ⟨some ad, cap, L, rfl, hl, ⟨rfl, by unfold maxLen at hm; omega, fun _ => ⟨ad, rfl, fun j y hy => hr j y hy⟩⟩, hLP⟩
end
theorem open_consW {H : Type} {enc : TypeId × Value → H} {w : World} {base b0 : Nat} {r : Reach} {spare : Nat → Bool} {held : Bool} {v : Value} {d : DataW H} {p : List MemPlace} (hv : Value.okWide Try.prog w r b0 26 v) (h : DataW.Trod enc Try.prog w base spare held 26 v d p) :
    ∃ A c L, v = .slice A L.length c ∧ L.length ≤ c ∧ k36.C w A L.length L ∧ ∀ y ∈ L, y.f3.f1 ≤ 9223372036854775807 :=
  open_rowsW (P := fun y : S36 => y.f3.f1 ≤ 9223372036854775807) Try.underlying26 (by kernel_rfl) (fun h => open_36W h) hv h
end Go.Proofs.Ytjbafigageingaa

namespace Go.Proofs.Ytjbafigageingaa
open Go.RowKit Go.Proofs.YtjbafigageingaaW.PrintWords Go.Proofs.YtjbafigageingaaW.PrintLast Go.Proofs.YtjbafigageingaaW.PrintMore
set_option linter.unusedVariables false
set_option linter.unusedSimpArgs false

abbrev EE := List (List S55)
abbrev MM := Int → List Int
/-- one constraint of the build -/
def stepF (N : Nat) (i : Int) (c : S36) (E : EE) (M : MM) : Option (EE × MM) :=
  if 0 ≤ c.f1 ∧ c.f1 < (N : Int) then
    if c.f0 = 0 ∧ isMarkB c.f3 = true then some (E, fun v => if v = c.f1 then M v ++ [i] else M v)
    else if c.f0 = 1 ∧ (0 ≤ c.f2 ∧ c.f2 < (N : Int)) then
      some ((E.set c.f1.toNat (rdE E c.f1 ++ [⟨i, c.f2⟩])).set c.f2.toNat (rdE (E.set c.f1.toNat (rdE E c.f1 ++ [⟨i, c.f2⟩])) c.f2 ++ [⟨i, c.f1⟩]), M)
    else none
  else none
def buildF (N : Nat) : List S36 → Nat → EE → MM → Option (EE × MM)
  | [], _, E, M => some (E, M)
  | c :: cs, i, E, M => (stepF N i c E M).bind fun p => buildF N cs (i + 1) p.1 p.2
/-- the vertices of a class, their marks -/
def collF (M : MM) (far : List Int) : Nat → Nat → List Int → List Int → List Bool → Option (List Int × List Int × List Bool)
  | 0, _, c, m, s => some (c, m, s)
  | d + 1, w, c, m, s =>
    if 0 ≤ rd far w then (if m.length + (M w).length ≤ 1000000 then collF M far d (w + 1) (c ++ [(w : Int)]) (m ++ M w) (s.set w true) else none)
    else collF M far d (w + 1) c m s
def pickB (b : Option (List Int)) (r : Option (List Int)) : Option (List Int) :=
  match r with
  | none => b
  | some c => match b with
    | none => some c
    | some d => if c.length < d.length then some c else some d
def pickT (m t : S23) : S23 := if m.f0 ≠ 5 ∧ m.f0 ≠ 6 then m else t
def bestF (E : EE) (L : List S36) (M : MM) (k : Nat) : List Int → Option (List Int) → S23 → Option (Option (List Int) × S23)
  | [], b, t => some (b, t)
  | i :: is, b, t => if 0 ≤ i ∧ i < (L.length : Int) then (chainF E L M k i).bind fun r => bestF E L M k is (pickB b r) (pickT (rd_T36 L i).f3 t) else none
def fillF (t : S23) : List Int → List S23 → List S23
  | [], out => out
  | w :: ws, out => fillF t ws (out.set w.toNat t)
def insI (x : Int) : List Int → List Int
  | [] => [x]
  | y :: ys => if x ≤ y then x :: y :: ys else y :: insI x ys
def sortI : List Int → List Int
  | [] => []
  | x :: xs => insI x (sortI xs)
theorem insI_perm (x : Int) : ∀ ys : List Int, (insI x ys).Perm (x :: ys)
  | [] => List.Perm.refl _
  | y :: ys => by
    simp only [insI]
    split
    · exact List.Perm.refl _
    · exact ((insI_perm x ys).cons y).trans (List.Perm.swap x y ys)
theorem sortI_perm : ∀ xs : List Int, (sortI xs).Perm xs
  | [] => List.Perm.refl _
  | x :: xs => (insI_perm x (sortI xs)).trans ((sortI_perm xs).cons x)
theorem insI_sorted (x : Int) : ∀ ys : List Int, ys.Pairwise (· ≤ ·) → (insI x ys).Pairwise (· ≤ ·)
  | [], _ => List.pairwise_singleton _ _
  | y :: ys, h => by
    simp only [insI]
    split
    · rename_i hxy
      refine List.Pairwise.cons (fun z hz => ?_) h
      rcases List.mem_cons.1 hz with rfl | hz
      · exact hxy
      · exact Int.le_trans hxy (List.rel_of_pairwise_cons h hz)
    · rename_i hxy
      refine List.Pairwise.cons (fun z hz => ?_) (insI_sorted x ys h.of_cons)
      rcases List.mem_cons.1 ((insI_perm x ys).mem_iff.1 hz) with rfl | hz
      · omega
      · exact List.rel_of_pairwise_cons h hz
theorem sortI_sorted : ∀ xs : List Int, (sortI xs).Pairwise (· ≤ ·)
  | [] => List.Pairwise.nil
  | x :: xs => insI_sorted x _ (sortI_sorted xs)
theorem sortI_eq (xs : List Int) : (xs.mergeSort fun x y => decide (x ≤ y)) = sortI xs := by
  refine List.Perm.eq_of_pairwise (le := fun a b : Int => a ≤ b) (fun a b _ _ h1 h2 => Int.le_antisymm h1 h2) ?_ (sortI_sorted xs) ((List.mergeSort_perm xs _).trans (sortI_perm xs).symm)
  have := List.pairwise_mergeSort (le := fun x y : Int => decide (x ≤ y)) (fun a b c h1 h2 => by simp only [decide_eq_true_eq] at *; omega) (fun a b => by simp only [Bool.or_eq_true, decide_eq_true_eq]; omega) xs
  exact this.imp (fun h => by simpa using h)
def outerF (E : EE) (L : List S36) (M : MM) (k : Nat) : Nat → Nat → List S23 → List (List Int) → List Bool → Option (List S23 × List (List Int))
  | 0, _, out, ch, _ => some (out, ch)
  | d + 1, v, out, ch, seen =>
    if seen.getD v false = true then outerF E L M k d (v + 1) out ch seen
    else (dist E [(v : Int)] k).bind fun far => (collF M far E.length 0 [] [] seen).bind fun cms => (bestF E L M k (sortI cms.2.1) none z23).bind fun bt =>
      match bt.1 with
      | some c => outerF E L M k d (v + 1) out (ch ++ [c]) cms.2.2
      | none => outerF E L M k d (v + 1) (fillF bt.2 cms.1 out) ch cms.2.2
def solveF (N : Int) (L : List S36) (k : Nat) : Option (List S23 × List (List Int) × Int) :=
  if N < 0 ∨ 4096 < N then some ([], [], 2)
  else match buildF N.toNat L 0 (List.replicate N.toNat []) (fun _ => []) with
    | none => some ([], [], 1)
    | some p => (outerF p.1 L p.2 k N.toNat 0 (List.replicate N.toNat z23) [] (List.replicate N.toNat false)).map fun q => (q.1, q.2, 0)
end Go.Proofs.Ytjbafigageingaa

namespace Go.Proofs.Ytjbafigageingaa
open Go.RowKit Go.Proofs.YtjbafigageingaaW.PrintWords Go.Proofs.YtjbafigageingaaW.PrintLast Go.Proofs.YtjbafigageingaaW.PrintMore
set_option linter.unusedVariables false
set_option linter.unusedSimpArgs false
def Adj (E : EE) (u v : Int) : Prop := ∃ e ∈ rdE E u, e.f1 = v
inductive Wk (E : EE) : Nat → Int → Int → Prop
  | nil (u : Int) : Wk E 0 u u
  | snoc {n : Nat} {u v w : Int} : Wk E n u v → Adj E v w → Wk E (n + 1) u w
/-- vertices in range; edges lead into it -/
def InR (E : EE) (v : Int) : Prop := 0 ≤ v ∧ v < (E.length : Int)
def EOk (E : EE) : Prop := ∀ v, InR E v → ∀ e ∈ rdE E v, InR E e.f1
structure FarSpec (E : EE) (F : List Int) (far : List Int) : Prop where
  len : far.length = E.length
  far : ∀ v, InR E v → (rd far v = -1 ∧ ∀ f ∈ F, ∀ n, ¬ Wk E n f v) ∨ (∃ n : Nat, rd far v = n ∧ n < E.length ∧ (∃ f ∈ F, Wk E n f v) ∧ ∀ f ∈ F, ∀ m, Wk E m f v → n ≤ m)
def neg (out : List Int) : Nat := out.countP (fun x => decide (x < 0))
theorem rd_set (out : List Int) (i j : Int) (x : Int) (hi : 0 ≤ i ∧ i < (out.length : Int)) (hj : 0 ≤ j) : rd (out.set i.toNat x) j = if j = i then x else rd out j := by
  unfold rd
  simp only [List.getD_eq_getElem?_getD, List.getElem?_set]
  by_cases h : j = i
  · subst h
    have : j.toNat < out.length := by omega
    simp [this]
  · have : ¬ i.toNat = j.toNat := by omega
    simp [this, h]
theorem neg_set (out : List Int) (i : Int) (x : Int) (hi : 0 ≤ i ∧ i < (out.length : Int)) (hx : 0 ≤ x) (hn : rd out i < 0) : neg (out.set i.toNat x) + 1 = neg out := by
  unfold neg
  have hlt : i.toNat < out.length := by omega
  have hgi : out[i.toNat] < 0 := by
    unfold rd at hn
    rw [List.getD_eq_getElem?_getD, List.getElem?_eq_getElem hlt] at hn
    exact hn
  generalize i.toNat = k at hlt hgi ⊢
  clear hn hi
  induction out generalizing k with
  | nil => simp at hlt
  | cons a tl ih =>
    cases k with
    | zero =>
      simp only [List.getElem_cons_zero] at hgi
      simp only [List.set_cons_zero, List.countP_cons]
      have : ¬ x < 0 := by omega
      simp [hgi, this]
    | succ k =>
      simp only [List.getElem_cons_succ] at hgi
      simp only [List.set_cons_succ, List.countP_cons]
      have := ih k (by simpa using hlt) hgi
      omega
/-- The state within the rounds over the edges of v. -/
structure InI (E : EE) (F : List Int) (v dv : Int) (out todo : List Int) : Prop where
  len : out.length = E.length
  a : ∀ w, InR E w → rd out w = -1 ∨ ∃ n : Nat, rd out w = n ∧ ∃ f ∈ F, Wk E n f w
  b : ∀ f ∈ F, rd out f = 0
  c : ∀ w, InR E w → 0 ≤ rd out w → w ∉ todo → w ≠ v → ∀ e ∈ rdE E w, 0 ≤ rd out e.f1 ∧ rd out e.f1 ≤ rd out w + 1
  d : todo.Pairwise (fun x y => rd out x ≤ rd out y)
  d2 : ∀ x ∈ todo, InR E x ∧ dv ≤ rd out x
  e : ∀ w, InR E w → rd out w ≤ dv + 1
  v : InR E v ∧ rd out v = dv ∧ 0 ≤ dv
  n : ∀ w, InR E w → 0 ≤ rd out w → rd out w + (neg out : Int) + 1 ≤ (E.length : Int)
theorem wrap_small (x : Int) (h : -9223372036854775808 ≤ x ∧ x < 9223372036854775808) : wrap64 x = x := by
  unfold wrap64
  omega
theorem InI.step {E : EE} {F : List Int} {v dv : Int} {out todo : List Int} (h : InI E F v dv out todo) (hF : ∀ f ∈ F, InR E f) (hE : EOk E) (hN : E.length ≤ 4096) {e : S55} (he : e ∈ rdE E v) (hneg : rd out e.f1 < 0) :
    wrap64 (rd out v + 1) = dv + 1 ∧ InI E F v dv (out.set e.f1.toNat (dv + 1)) (todo ++ [e.f1]) ∧ neg (out.set e.f1.toNat (dv + 1)) + 1 = neg out := by
  obtain ⟨hv, hdv, hd0⟩ := h.v
  have hr := hE v hv e he
  have hro : 0 ≤ e.f1 ∧ e.f1 < (out.length : Int) := by rw [h.len]; exact hr
  have hn := h.n v hv (by omega)
  have hset : ∀ w, InR E w → rd (out.set e.f1.toNat (dv + 1)) w = if w = e.f1 then dv + 1 else rd out w := fun w hw => rd_set out e.f1 w (dv + 1) hro hw.1
  have hng := neg_set out e.f1 (dv + 1) hro (by omega) hneg
  have hvne : v ≠ e.f1 := fun hh => by rw [← hh] at hneg; omega
  obtain ⟨n0, hn0, f0, hf0, hw0⟩ : ∃ n : Nat, dv = n ∧ ∃ f ∈ F, Wk E n f v := by
    rcases h.a v hv with h1 | ⟨n, h1, h2⟩
    · omega
    · exact ⟨n, by omega, h2⟩
  refine ⟨by rw [hdv]; exact wrap_small _ (by omega), ⟨by rw [List.length_set]; exact h.len, fun w hw => ?_, fun f hf => ?_, fun w hw h0 hnt hwv e' he' => ?_, ?_, fun x hx => ?_, fun w hw => ?_, ⟨hv, ?_, hd0⟩, fun w hw h0 => ?_⟩, hng⟩
  · rw [hset w hw]
    split
    · rename_i hwe
      exact .inr ⟨n0 + 1, by omega, f0, hf0, hw0.snoc ⟨e, he, hwe.symm⟩⟩
    · exact h.a w hw
  · have hf0 := h.b f hf
    rw [hset f (hF f hf), if_neg (fun hh => by rw [← hh] at hneg; omega)]
    exact hf0
  · have hwe : w ≠ e.f1 := fun hh => hnt (by rw [hh]; simp)
    have hrw : rd (out.set e.f1.toNat (dv + 1)) w = rd out w := by rw [hset w hw, if_neg hwe]
    rw [hrw] at h0 ⊢
    have hc := h.c w hw h0 (fun hh => hnt (List.mem_append_left _ hh)) hwv e' he'
    rw [hset e'.f1 (hE w hw e' he'), if_neg (fun hh => by rw [hh] at hc; omega)]
    exact hc
  · rw [List.pairwise_append]
    refine ⟨?_, List.pairwise_singleton _ _, fun x hx y hy => ?_⟩
    · refine List.Pairwise.imp_of_mem (fun {x y} hx hy hxy => ?_) h.d
      have hx2 := h.d2 x hx
      have hy2 := h.d2 y hy
      rw [hset x hx2.1, hset y hy2.1, if_neg (fun hh => by rw [hh] at hx2; omega), if_neg (fun hh => by rw [hh] at hy2; omega)]
      exact hxy
    · rw [List.mem_singleton.1 hy, hset e.f1 hr, if_pos rfl]
      have hx2 := h.d2 x hx
      rw [hset x hx2.1]
      split
      · omega
      · exact h.e x hx2.1
  · rcases List.mem_append.1 hx with hx | hx
    · have hx2 := h.d2 x hx
      refine ⟨hx2.1, ?_⟩
      rw [hset x hx2.1, if_neg (fun hh => by rw [hh] at hx2; omega)]
      exact hx2.2
    · rw [List.mem_singleton.1 hx]
      refine ⟨hr, ?_⟩
      rw [hset e.f1 hr, if_pos rfl]
      omega
  · rw [hset w hw]
    split
    · omega
    · exact h.e w hw
  · rw [hset v hv, if_neg hvne]
    exact hdv
  · rw [hset w hw] at h0 ⊢
    split
    · omega
    · rename_i hwe
      rw [if_neg hwe] at h0
      have := h.n w hw h0
      omega
theorem inner_ok {E : EE} {F : List Int} {v dv : Int} (hF : ∀ f ∈ F, InR E f) (hE : EOk E) (hN : E.length ≤ 4096) : ∀ (es : List S55), (∀ e ∈ es, e ∈ rdE E v) → ∀ (out todo : List Int), InI E F v dv out todo → todo.length + neg out ≤ 900000 →
    ∃ out' todo', dInner v es out todo = some (out', todo') ∧ InI E F v dv out' todo' ∧ todo'.length + neg out' = todo.length + neg out ∧ (∀ w, InR E w → 0 ≤ rd out w → rd out' w = rd out w) ∧ ∀ e ∈ es, 0 ≤ rd out' e.f1
  | [], _, out, todo, h, _ => ⟨out, todo, rfl, h, rfl, fun _ _ _ => rfl, fun e he => by cases he⟩
  | e :: es, hes, out, todo, h, hm => by
    have he := hes e (List.mem_cons_self ..)
    obtain ⟨hv, hdv, hd0⟩ := h.v
    have hr := hE v hv e he
    have hro : 0 ≤ e.f1 ∧ e.f1 < (out.length : Int) := by rw [h.len]; exact hr
    have hvo : 0 ≤ v ∧ v < (out.length : Int) := by rw [h.len]; exact hv
    simp only [dInner, if_pos hro]
    by_cases hneg : rd out e.f1 < 0
    · obtain ⟨h1, h2, h3⟩ := h.step hF hE hN he hneg
      rw [if_pos hneg, if_pos ⟨hvo.1, hvo.2, by omega⟩, h1]
      obtain ⟨o', t', g1, g2, g3, g4, g5⟩ := inner_ok hF hE hN es (fun x hx => hes x (List.mem_cons_of_mem _ hx)) _ _ h2 (by rw [List.length_append, List.length_singleton]; omega)
      have hset : ∀ w, InR E w → rd (out.set e.f1.toNat (dv + 1)) w = if w = e.f1 then dv + 1 else rd out w := fun w hw => rd_set out e.f1 w (dv + 1) hro hw.1
      refine ⟨o', t', g1, g2, by rw [g3, List.length_append, List.length_singleton]; omega, fun w hw h0 => ?_, fun x hx => ?_⟩
      · have hwe : w ≠ e.f1 := fun hh => by rw [hh] at h0; omega
        have hs := hset w hw
        rw [if_neg hwe] at hs
        rw [g4 w hw (by rw [hs]; exact h0), hs]
      · rcases List.mem_cons.1 hx with rfl | hx
        · have hs := hset x.f1 hr
          rw [if_pos rfl] at hs
          rw [g4 x.f1 hr (by rw [hs]; omega), hs]
          omega
        · exact g5 x hx
    · rw [if_neg hneg]
      obtain ⟨o', t', g1, g2, g3, g4, g5⟩ := inner_ok hF hE hN es (fun x hx => hes x (List.mem_cons_of_mem _ hx)) out todo h hm
      refine ⟨o', t', g1, g2, g3, g4, fun x hx => ?_⟩
      rcases List.mem_cons.1 hx with rfl | hx
      · rw [g4 x.f1 hr (by omega)]
        omega
      · exact g5 x hx
/-- The state between two rounds of the queue. -/
structure BfI (E : EE) (F : List Int) (out todo : List Int) : Prop where
  len : out.length = E.length
  a : ∀ w, InR E w → rd out w = -1 ∨ ∃ n : Nat, rd out w = n ∧ ∃ f ∈ F, Wk E n f w
  b : ∀ f ∈ F, rd out f = 0
  c : ∀ w, InR E w → 0 ≤ rd out w → w ∉ todo → ∀ e ∈ rdE E w, 0 ≤ rd out e.f1 ∧ rd out e.f1 ≤ rd out w + 1
  d : todo.Pairwise (fun x y => rd out x ≤ rd out y)
  d2 : ∀ x ∈ todo, InR E x ∧ 0 ≤ rd out x
  e : ∀ h rest, todo = h :: rest → ∀ w, InR E w → rd out w ≤ rd out h + 1
  n : ∀ w, InR E w → 0 ≤ rd out w → rd out w + (neg out : Int) + 1 ≤ (E.length : Int)
theorem bfs_ok {E : EE} {F : List Int} (hF : ∀ f ∈ F, InR E f) (hE : EOk E) (hN : E.length ≤ 4096) : ∀ (k : Nat) (out todo : List Int), BfI E F out todo → todo.length + neg out ≤ 900000 → todo.length + neg out < k →
    ∃ r, dBfs E k out todo = some r ∧ BfI E F r []
  | 0, _, _, _, _, hk => by omega
  | k + 1, out, [], h, _, _ => ⟨out, rfl, h⟩
  | k + 1, out, v :: rest, h, hm, hk => by
    obtain ⟨hv, hv0⟩ := h.d2 v (List.mem_cons_self ..)
    have hd := List.pairwise_cons.1 h.d
    have hi : InI E F v (rd out v) out rest := ⟨h.len, h.a, h.b, fun w hw h0 hnt hwv => h.c w hw h0 (fun hh => by
      rcases List.mem_cons.1 hh with hh | hh
      · exact hwv hh
      · exact hnt hh), hd.2, fun x hx => ⟨(h.d2 x (List.mem_cons_of_mem _ hx)).1, hd.1 x hx⟩, h.e v rest rfl, ⟨hv, rfl, hv0⟩, h.n⟩
    simp only [List.length_cons] at hm hk
    obtain ⟨o', t', g1, g2, g3, g4, g5⟩ := inner_ok hF hE hN (rdE E v) (fun _ he => he) out rest hi (by omega)
    have hb : BfI E F o' t' := by
      obtain ⟨_, gv, _⟩ := g2.v
      refine ⟨g2.len, g2.a, g2.b, fun w hw h0 hnt e he => ?_, g2.d, fun x hx => ⟨(g2.d2 x hx).1, by have := (g2.d2 x hx).2; omega⟩, fun hh tt ht w hw => ?_, g2.n⟩
      · by_cases hwv : w = v
        · subst hwv
          have := g5 e he
          have := g2.e e.f1 (hE w hw e he)
          omega
        · exact g2.c w hw h0 hnt hwv e he
      · have h1 := g2.e w hw
        have h2 := (g2.d2 hh (by rw [ht]; exact List.mem_cons_self ..)).2
        omega
    simp only [dBfs]
    rw [if_pos (show 0 ≤ v ∧ v < (E.length : Int) from hv), g1]
    exact bfs_ok hF hE hN k o' t' hb (by omega) (by omega)
theorem from_ok {E : EE} : ∀ (F out : List Int), out.length = E.length → (∀ f ∈ F, InR E f) → ∃ r, dFrom out F = some r ∧ r.length = E.length ∧ ∀ w, InR E w → rd r w = if w ∈ F then 0 else rd out w
  | [], out, hl, _ => ⟨out, rfl, hl, fun w _ => by simp⟩
  | f :: F, out, hl, hF => by
    have hf := hF f (List.mem_cons_self ..)
    have hfo : 0 ≤ f ∧ f < (out.length : Int) := by rw [hl]; exact hf
    obtain ⟨r, h1, h2, h3⟩ := from_ok F (out.set f.toNat 0) (by rw [List.length_set]; exact hl) (fun x hx => hF x (List.mem_cons_of_mem _ hx))
    refine ⟨r, by simp only [dFrom, if_pos hfo]; exact h1, h2, fun w hw => ?_⟩
    rw [h3 w hw, rd_set out f w 0 hfo hw.1]
    by_cases hwF : w ∈ F
    · simp [hwF]
    · by_cases hwf : w = f
      · simp [hwf]
      · simp [hwF, hwf]
theorem neg_le (out : List Int) : neg out ≤ out.length := List.countP_le_length
/-- a vertex that is not told is a vertex less -/
theorem neg_lt (out : List Int) (i : Int) (hi : 0 ≤ i ∧ i < (out.length : Int)) (h : 0 ≤ rd out i) : neg out + 1 ≤ out.length := by
  unfold neg
  have hlt : i.toNat < out.length := by omega
  have hgi : 0 ≤ out[i.toNat] := by
    unfold rd at h
    rw [List.getD_eq_getElem?_getD, List.getElem?_eq_getElem hlt] at h
    exact h
  have hne : out.countP (fun x => decide (x < 0)) ≠ out.length := fun hh => by
    have := List.countP_eq_length.1 hh _ (List.getElem_mem hlt)
    simp only [decide_eq_true_eq] at this
    omega
  have := List.countP_le_length (p := fun x => decide (x < 0)) (l := out)
  omega
theorem dist_ok {E : EE} {F : List Int} (hF : ∀ f ∈ F, InR E f) (hE : EOk E) (hN : E.length ≤ 4096) (hl : F.length ≤ 4096) {k : Nat} (hk : F.length + E.length < k) : ∃ far, dist E F k = some far ∧ FarSpec E F far := by
  obtain ⟨o, h1, h2, h3⟩ := from_ok (E := E) F (List.replicate E.length (-1)) (by simp) hF
  have hrep : ∀ w, InR E w → rd (List.replicate E.length (-1)) w = -1 := fun w hw => by
    unfold rd
    rw [List.getD_eq_getElem?_getD, List.getElem?_replicate]
    have : w.toNat < E.length := by have := hw.1; have := hw.2; omega
    simp [this]
  have hb : BfI E F o F := by
    have hval : ∀ w, InR E w → rd o w = if w ∈ F then 0 else -1 := fun w hw => by rw [h3 w hw, hrep w hw]
    refine ⟨h2, fun w hw => ?_, fun f hf => by rw [hval f (hF f hf), if_pos hf], fun w hw h0 hnt => ?_, ?_, fun x hx => ⟨hF x hx, by rw [hval x (hF x hx), if_pos hx]; exact Int.le_refl 0⟩, fun hh rest ht w hw => ?_, fun w hw h0 => ?_⟩
    · rw [hval w hw]
      split
      · rename_i hwF
        exact .inr ⟨0, rfl, w, hwF, .nil w⟩
      · exact .inl rfl
    · rw [hval w hw, if_neg hnt] at h0
      omega
    · refine List.Pairwise.imp_of_mem (R := fun _ _ => True) (fun {x y} hx hy _ => ?_) (List.pairwise_of_forall (fun _ _ => trivial))
      rw [hval x (hF x hx), hval y (hF y hy), if_pos hx, if_pos hy]
      exact Int.le_refl 0
    · have hhF : hh ∈ F := by rw [ht]; exact List.mem_cons_self ..
      rw [hval hh (hF hh hhF), if_pos hhF, hval w hw]
      split <;> omega
    · have hn := neg_lt o w (by rw [h2]; exact hw) h0
      rw [hval w hw]
      rw [h2] at hn
      split <;> omega
  have hno := neg_le o
  rw [h2] at hno
  obtain ⟨r, g1, g2⟩ := bfs_ok hF hE hN k o F hb (by omega) (by omega)
  refine ⟨r, by unfold dist; rw [h1]; exact g1, g2.len, fun v hv => ?_⟩
  have key : ∀ (m : Nat) (f w : Int), f ∈ F → Wk E m f w → InR E w ∧ 0 ≤ rd r w ∧ rd r w ≤ m := by
    intro m f w hf hw
    induction hw with
    | nil => exact ⟨hF _ hf, by rw [g2.b _ hf]; exact Int.le_refl 0, by rw [g2.b _ hf]; exact Int.le_refl 0⟩
    | snoc hw' ha ih =>
      obtain ⟨i1, i2, i3⟩ := ih hf
      obtain ⟨e, he, rfl⟩ := ha
      have := g2.c _ i1 i2 (by simp) e he
      exact ⟨hE _ i1 e he, this.1, by omega⟩
  rcases g2.a v hv with h0 | ⟨n, hn, f, hf, hw⟩
  · exact .inl ⟨h0, fun f hf m hm => by have := (key m f v hf hm).2.1; omega⟩
  · refine .inr ⟨n, hn, ?_, ⟨f, hf, hw⟩, fun f' hf' m hm => by have := (key m f' v hf' hm).2.2; omega⟩
    have := g2.n v hv (by omega)
    omega
end Go.Proofs.Ytjbafigageingaa

namespace Go.Proofs.Ytjbafigageingaa
open Go.RowKit Go.Proofs.YtjbafigageingaaW.PrintWords Go.Proofs.YtjbafigageingaaW.PrintLast Go.Proofs.YtjbafigageingaaW.PrintMore
set_option linter.unusedVariables false
set_option linter.unusedSimpArgs false
def InN (N : Nat) (v : Int) : Prop := 0 ≤ v ∧ v < (N : Int)
def ValidC (N : Nat) (c : S36) : Prop := InN N c.f1 ∧ ((c.f0 = 0 ∧ isMarkB c.f3 = true) ∨ (c.f0 = 1 ∧ InN N c.f2))
def Valid (N : Nat) (L : List S36) : Prop := ∀ c ∈ L, ValidC N c
/-- constraint j is a mark of v -/
def MarkAt (L : List S36) (j : Nat) (v : Int) : Prop := ∃ c, L[j]? = some c ∧ c.f0 = 0 ∧ c.f1 = v
def EdgeAt (L : List S36) (v : Int) (e : S55) : Prop := ∃ (j : Nat) (c : S36), L[j]? = some c ∧ c.f0 = 1 ∧ ((c.f1 = v ∧ e = ⟨(j : Int), c.f2⟩) ∨ (c.f2 = v ∧ e = ⟨(j : Int), c.f1⟩))
structure Built (N : Nat) (P : List S36) (E : EE) (M : MM) : Prop where
  len : E.length = N
  edge : ∀ v, InN N v → ∀ e, e ∈ rdE E v ↔ EdgeAt P v e
  mark : ∀ v j, j ∈ M v ↔ ∃ n : Nat, j = n ∧ MarkAt P n v
  sorted : ∀ v, (M v).Pairwise (· < ·)
  mlen : ∀ v, (M v).length ≤ P.length
theorem rdE_set2 (E : EE) (a b : Int) (r : List S55) (ha : InN E.length a) (hb : InN E.length b) : rdE (E.set a.toNat r) b = if b = a then r else rdE E b := by
  obtain ⟨ha0, ha1⟩ := ha
  obtain ⟨hb0, hb1⟩ := hb
  unfold rdE
  simp only [List.getD_eq_getElem?_getD, List.getElem?_set]
  by_cases h : b = a
  · subst h
    have : b.toNat < E.length := by omega
    simp [this]
  · have : ¬ a.toNat = b.toNat := by omega
    simp [this, h]
theorem get_snoc (P : List S36) (c c' : S36) (j : Nat) : (P ++ [c])[j]? = some c' ↔ P[j]? = some c' ∨ (j = P.length ∧ c' = c) := by
  rcases Nat.lt_trichotomy j P.length with h | h | h
  · rw [List.getElem?_append_left h]
    constructor
    · exact .inl
    · rintro (h1 | ⟨h1, _⟩)
      · exact h1
      · omega
  · subst h
    rw [List.getElem?_append_right (Nat.le_refl _), Nat.sub_self, List.getElem?_eq_none (Nat.le_refl _)]
    simp [eq_comm]
  · rw [List.getElem?_eq_none (by simp; omega), List.getElem?_eq_none (by omega)]
    constructor
    · intro h1; cases h1
    · rintro (h1 | ⟨h1, _⟩)
      · cases h1
      · omega
theorem edgeAt_snoc (P : List S36) (c : S36) (v : Int) (e : S55) : EdgeAt (P ++ [c]) v e ↔ EdgeAt P v e ∨ (c.f0 = 1 ∧ ((c.f1 = v ∧ e = ⟨(P.length : Int), c.f2⟩) ∨ (c.f2 = v ∧ e = ⟨(P.length : Int), c.f1⟩))) := by
  constructor
  · rintro ⟨j, c', hg, h1, h2⟩
    rcases (get_snoc P c c' j).1 hg with hg | ⟨rfl, rfl⟩
    · exact .inl ⟨j, c', hg, h1, h2⟩
    · exact .inr ⟨h1, h2⟩
  · rintro (⟨j, c', hg, h1, h2⟩ | ⟨h1, h2⟩)
    · exact ⟨j, c', (get_snoc P c c' j).2 (.inl hg), h1, h2⟩
    · exact ⟨P.length, c, (get_snoc P c c _).2 (.inr ⟨rfl, rfl⟩), h1, h2⟩
theorem markAt_snoc (P : List S36) (c : S36) (j : Nat) (v : Int) : MarkAt (P ++ [c]) j v ↔ MarkAt P j v ∨ (j = P.length ∧ c.f0 = 0 ∧ c.f1 = v) := by
  constructor
  · rintro ⟨c', hg, h1, h2⟩
    rcases (get_snoc P c c' j).1 hg with hg | ⟨rfl, rfl⟩
    · exact .inl ⟨c', hg, h1, h2⟩
    · exact .inr ⟨rfl, h1, h2⟩
  · rintro (⟨c', hg, h1, h2⟩ | ⟨rfl, h1, h2⟩)
    · exact ⟨c', (get_snoc P c c' j).2 (.inl hg), h1, h2⟩
    · exact ⟨c, (get_snoc P c c _).2 (.inr ⟨rfl, rfl⟩), h1, h2⟩
theorem markAt_lt {P : List S36} {j : Nat} {v : Int} (h : MarkAt P j v) : j < P.length := by
  obtain ⟨c, hg, _⟩ := h
  exact (List.getElem?_eq_some_iff.1 hg).1
theorem built_nil (N : Nat) : Built N [] (List.replicate N []) (fun _ => []) := by
  refine ⟨by simp, fun v hv e => ?_, fun v j => ?_, fun v => List.Pairwise.nil, fun v => Nat.le_refl _⟩
  · have : rdE (List.replicate N []) v = [] := by
      unfold rdE
      rw [List.getD_eq_getElem?_getD, List.getElem?_replicate]
      split <;> rfl
    rw [this]
    constructor
    · intro h; cases h
    · rintro ⟨j, c, hg, _⟩
      simp at hg
  · constructor
    · intro h; cases h
    · rintro ⟨n, _, c, hg, _⟩
      simp at hg
theorem Built.step {N : Nat} {P : List S36} {E : EE} {M : MM} (h : Built N P E M) (c : S36) {E' : EE} {M' : MM} (hs : stepF N (P.length : Int) c E M = some (E', M')) : Built N (P ++ [c]) E' M' ∧ ValidC N c := by
  unfold stepF at hs
  split at hs
  case isFalse => cases hs
  rename_i hA
  split at hs
  · rename_i hm
    injection hs with hs
    injection hs with h1 h2
    subst h1 h2
    refine ⟨⟨h.len, fun v hv e => ?_, fun v j => ?_, fun v => ?_, fun v => ?_⟩, hA, .inl hm⟩
    · rw [h.edge v hv e, edgeAt_snoc]
      constructor
      · exact .inl
      · rintro (h1 | ⟨h1, _⟩)
        · exact h1
        · rw [hm.1] at h1; cases h1
    · have key : (∃ n : Nat, j = n ∧ MarkAt (P ++ [c]) n v) ↔ (j ∈ M v ∨ (j = (P.length : Int) ∧ c.f1 = v)) := by
        rw [h.mark v j]
        constructor
        · rintro ⟨n, rfl, hn⟩
          rcases (markAt_snoc P c n v).1 hn with hn | ⟨rfl, _, h2⟩
          · exact .inl ⟨n, rfl, hn⟩
          · exact .inr ⟨rfl, h2⟩
        · rintro (⟨n, rfl, hn⟩ | ⟨rfl, h2⟩)
          · exact ⟨n, rfl, (markAt_snoc P c n v).2 (.inl hn)⟩
          · exact ⟨P.length, rfl, (markAt_snoc P c _ v).2 (.inr ⟨rfl, hm.1, h2⟩)⟩
      rw [key]
      split
      · rename_i hv
        rw [List.mem_append, List.mem_singleton]
        constructor
        · rintro (h1 | h1)
          · exact .inl h1
          · exact .inr ⟨h1, hv.symm⟩
        · rintro (h1 | ⟨h1, _⟩)
          · exact .inl h1
          · exact .inr h1
      · rename_i hv
        constructor
        · exact .inl
        · rintro (h1 | ⟨_, h1⟩)
          · exact h1
          · exact absurd h1.symm hv
    · skip
      split
      · rw [List.pairwise_append]
        refine ⟨h.sorted v, List.pairwise_singleton _ _, fun x hx y hy => ?_⟩
        rw [List.mem_singleton.1 hy]
        obtain ⟨n, rfl, hn⟩ := (h.mark v x).1 hx
        have := markAt_lt hn
        omega
      · exact h.sorted v
    · have := h.mlen v
      rw [List.length_append, List.length_singleton]
      split
      · rw [List.length_append, List.length_singleton]; omega
      · omega
  · rename_i hnm
    split at hs
    case isFalse => cases hs
    rename_i hq
    injection hs with hs
    injection hs with h1 h2
    subst h1 h2
    obtain ⟨hq1, hB⟩ := hq
    have hAE : InN E.length c.f1 := by rw [h.len]; exact hA
    have hBE : InN E.length c.f2 := by rw [h.len]; exact hB
    refine ⟨⟨by simp [h.len], fun v hv e => ?_, fun v j => ?_, h.sorted, fun v => by have := h.mlen v; rw [List.length_append]; omega⟩, hA, .inr ⟨hq1, hB⟩⟩
    · have hvE : InN E.length v := by rw [h.len]; exact hv
      have hl1 : (E.set c.f1.toNat (rdE E c.f1 ++ [⟨(P.length : Int), c.f2⟩])).length = E.length := List.length_set ..
      have e1 : ∀ u, InN E.length u → rdE (E.set c.f1.toNat (rdE E c.f1 ++ [⟨(P.length : Int), c.f2⟩])) u = if u = c.f1 then rdE E c.f1 ++ [⟨(P.length : Int), c.f2⟩] else rdE E u := fun u hu => rdE_set2 E c.f1 u _ hAE hu
      rw [rdE_set2 _ c.f2 v _ (by rw [hl1]; exact hBE) (by rw [hl1]; exact hvE), edgeAt_snoc, ← h.edge v hv e, e1 c.f2 hBE, e1 v hvE]
      by_cases hvb : v = c.f2 <;> by_cases hva : v = c.f1
      · subst hvb
        rw [← hva]
        simp only [if_true, List.mem_append, List.mem_singleton]
        constructor
        · rintro ((h1 | h1) | h1)
          · exact .inl h1
          · exact .inr ⟨hq1, .inl ⟨trivial, h1⟩⟩
          · exact .inr ⟨hq1, .inr ⟨trivial, h1⟩⟩
        · rintro (h1 | ⟨_, ⟨_, h1⟩ | ⟨_, h1⟩⟩)
          · exact .inl (.inl h1)
          · exact .inl (.inr h1)
          · exact .inr h1
      · subst hvb
        rw [if_pos rfl, if_neg hva]
        simp only [List.mem_append, List.mem_singleton]
        constructor
        · rintro (h1 | h1)
          · exact .inl h1
          · exact .inr ⟨hq1, .inr ⟨trivial, h1⟩⟩
        · rintro (h1 | ⟨_, ⟨h0, _⟩ | ⟨_, h1⟩⟩)
          · exact .inl h1
          · exact absurd h0.symm hva
          · exact .inr h1
      · subst hva
        rw [if_neg hvb, if_pos rfl]
        simp only [List.mem_append, List.mem_singleton]
        constructor
        · rintro (h1 | h1)
          · exact .inl h1
          · exact .inr ⟨hq1, .inl ⟨trivial, h1⟩⟩
        · rintro (h1 | ⟨_, ⟨_, h1⟩ | ⟨h0, _⟩⟩)
          · exact .inl h1
          · exact .inr h1
          · exact absurd h0.symm hvb
      · rw [if_neg hvb, if_neg hva]
        constructor
        · exact .inl
        · rintro (h1 | ⟨_, ⟨h0, _⟩ | ⟨h0, _⟩⟩)
          · exact h1
          · exact absurd h0.symm hva
          · exact absurd h0.symm hvb
    · rw [h.mark v j]
      constructor
      · rintro ⟨n, hj, hn⟩
        exact ⟨n, hj, (markAt_snoc P c n v).2 (.inl hn)⟩
      · rintro ⟨n, hj, hn⟩
        rcases (markAt_snoc P c n v).1 hn with hn | ⟨_, h1, _⟩
        · exact ⟨n, hj, hn⟩
        · rw [hq1] at h1; cases h1
theorem build_some {N : Nat} : ∀ (cs P : List S36) (E : EE) (M : MM) {E' : EE} {M' : MM}, Built N P E M → buildF N cs P.length E M = some (E', M') → Built N (P ++ cs) E' M' ∧ Valid N cs
  | [], P, E, M, E', M', h, hb => by
    simp only [buildF, Option.some.injEq, Prod.mk.injEq] at hb
    obtain ⟨rfl, rfl⟩ := hb
    exact ⟨by rw [List.append_nil]; exact h, fun c hc => by cases hc⟩
  | c :: cs, P, E, M, E', M', h, hb => by
    simp only [buildF] at hb
    obtain ⟨⟨E1, M1⟩, h1, h2⟩ := Option.bind_eq_some_iff.1 hb
    obtain ⟨g1, g2⟩ := h.step c h1
    have hl : P.length + 1 = (P ++ [c]).length := by simp
    simp only [hl] at h2
    obtain ⟨g3, g4⟩ := build_some cs (P ++ [c]) E1 M1 g1 h2
    refine ⟨by rw [← List.append_cons] at g3; exact g3, fun x hx => ?_⟩
    rcases List.mem_cons.1 hx with rfl | hx
    · exact g2
    · exact g4 x hx
theorem build_valid {N : Nat} : ∀ (cs : List S36) (i : Nat) (E : EE) (M : MM), Valid N cs → ∃ r, buildF N cs i E M = some r
  | [], i, E, M, _ => ⟨_, rfl⟩
  | c :: cs, i, E, M, h => by
    have hc := h c (List.mem_cons_self ..)
    obtain ⟨hA, hk⟩ := hc
    have hs : ∃ p, stepF N (i : Int) c E M = some p := by
      unfold stepF
      rw [if_pos (show 0 ≤ c.f1 ∧ c.f1 < (N : Int) from hA)]
      rcases hk with hk | hk
      · rw [if_pos hk]; exact ⟨_, rfl⟩
      · rw [if_neg (fun hh => by rw [hk.1] at hh; cases hh.1), if_pos (show c.f0 = 1 ∧ 0 ≤ c.f2 ∧ c.f2 < (N : Int) from hk)]; exact ⟨_, rfl⟩
    obtain ⟨p, hp⟩ := hs
    obtain ⟨r, hr⟩ := build_valid cs (i + 1) p.1 p.2 (fun x hx => h x (List.mem_cons_of_mem _ hx))
    exact ⟨r, by simp only [buildF]; rw [hp]; exact hr⟩
def AdjL (L : List S36) (u v : Int) : Prop := ∃ c ∈ L, c.f0 = 1 ∧ ((c.f1 = u ∧ c.f2 = v) ∨ (c.f2 = u ∧ c.f1 = v))
inductive WkL (L : List S36) : Nat → Int → Int → Prop
  | nil (u : Int) : WkL L 0 u u
  | snoc {n : Nat} {u v w : Int} : WkL L n u v → AdjL L v w → WkL L (n + 1) u w
theorem AdjL.symm {L : List S36} {u v : Int} (h : AdjL L u v) : AdjL L v u := by
  obtain ⟨c, hc, h0, h1⟩ := h
  exact ⟨c, hc, h0, h1.symm.imp (fun h => ⟨h.2, h.1⟩) (fun h => ⟨h.2, h.1⟩)⟩
theorem WkL.cons {L : List S36} {n : Nat} {u v w : Int} (ha : AdjL L u v) (h : WkL L n v w) : WkL L (n + 1) u w := by
  induction h with
  | nil => exact (WkL.nil u).snoc ha
  | snoc _ h2 ih => exact (ih ha).snoc h2
theorem WkL.symm {L : List S36} {n : Nat} {u v : Int} (h : WkL L n u v) : WkL L n v u := by
  induction h with
  | nil => exact .nil _
  | snoc _ h2 ih => exact ih.cons h2.symm
theorem WkL.trans {L : List S36} {n m : Nat} {u v w : Int} (h : WkL L n u v) (h2 : WkL L m v w) : WkL L (n + m) u w := by
  induction h2 with
  | nil => exact h
  | snoc _ ha ih => exact (ih h).snoc ha
theorem WkL.mono {L L' : List S36} (hs : ∀ c ∈ L, c.f0 = 1 → c ∈ L') {n : Nat} {u v : Int} (h : WkL L n u v) : WkL L' n u v := by
  induction h with
  | nil => exact .nil _
  | snoc _ ha ih =>
    obtain ⟨c, hc, h0, h1⟩ := ha
    exact ih.snoc ⟨c, hs c hc h0, h0, h1⟩
theorem adjL_in {N : Nat} {L : List S36} (hV : Valid N L) {u v : Int} (h : AdjL L u v) : InN N u ∧ InN N v := by
  obtain ⟨c, hc, h0, h1⟩ := h
  obtain ⟨hA, hk⟩ := hV c hc
  have hB : InN N c.f2 := by
    rcases hk with hk | hk
    · rw [h0] at hk; cases hk.1
    · exact hk.2
  rcases h1 with ⟨rfl, rfl⟩ | ⟨rfl, rfl⟩
  · exact ⟨hA, hB⟩
  · exact ⟨hB, hA⟩
theorem Built.adj {N : Nat} {L : List S36} {E : EE} {M : MM} (h : Built N L E M) {u v : Int} (hu : InN N u) : Adj E u v ↔ AdjL L u v := by
  constructor
  · rintro ⟨e, he, rfl⟩
    obtain ⟨j, c, hg, h0, h1⟩ := (h.edge u hu e).1 he
    refine ⟨c, List.mem_of_getElem? hg, h0, ?_⟩
    rcases h1 with ⟨h1, rfl⟩ | ⟨h1, rfl⟩
    · exact .inl ⟨h1, rfl⟩
    · exact .inr ⟨h1, rfl⟩
  · rintro ⟨c, hc, h0, h1⟩
    obtain ⟨j, hj⟩ := List.getElem?_of_mem hc
    rcases h1 with ⟨h1, h2⟩ | ⟨h1, h2⟩
    · exact ⟨⟨(j : Int), c.f2⟩, (h.edge u hu _).2 ⟨j, c, hj, h0, .inl ⟨h1, rfl⟩⟩, h2⟩
    · exact ⟨⟨(j : Int), c.f1⟩, (h.edge u hu _).2 ⟨j, c, hj, h0, .inr ⟨h1, rfl⟩⟩, h2⟩
theorem Built.wk {N : Nat} {L : List S36} {E : EE} {M : MM} (h : Built N L E M) (hV : Valid N L) {n : Nat} {u v : Int} (hu : InN N u) : Wk E n u v ↔ WkL L n u v := by
  constructor
  · intro hw
    induction hw with
    | nil => exact .nil _
    | snoc hw' ha ih =>
      have hi := ih hu
      have hin : ∀ {n : Nat} {u v : Int}, InN N u → WkL L n u v → InN N v := by
        intro n u v hu hw
        cases hw with
        | nil => exact hu
        | snoc _ ha => exact (adjL_in hV ha).2
      exact hi.snoc ((h.adj (hin hu hi)).1 ha)
  · intro hw
    induction hw with
    | nil => exact .nil _
    | snoc hw' ha ih => exact (ih hu).snoc ((h.adj (adjL_in hV ha).1).2 ha)
theorem wkL_in {N : Nat} {L : List S36} (hV : Valid N L) {n : Nat} {u v : Int} (hu : InN N u) (hw : WkL L n u v) : InN N v := by
  cases hw with
  | nil => exact hu
  | snoc _ ha => exact (adjL_in hV ha).2
theorem Built.eok {N : Nat} {L : List S36} {E : EE} {M : MM} (h : Built N L E M) (hV : Valid N L) : EOk E := by
  intro v hv e he
  have hv' : InN N v := by rw [← h.len]; exact hv
  have := (adjL_in hV ((h.adj hv').1 ⟨e, he, rfl⟩)).2
  rw [← h.len] at this
  exact this
/-- The distances, told of the constraints. -/
structure FarL (N : Nat) (L : List S36) (F : List Int) (far : List Int) : Prop where
  len : far.length = N
  far : ∀ v, InN N v → (rd far v = -1 ∧ ∀ f ∈ F, ∀ n, ¬ WkL L n f v) ∨ (∃ n : Nat, rd far v = n ∧ n < N ∧ (∃ f ∈ F, WkL L n f v) ∧ ∀ f ∈ F, ∀ m, WkL L m f v → n ≤ m)
theorem Built.dist {N : Nat} {L : List S36} {E : EE} {M : MM} (h : Built N L E M) (hV : Valid N L) (hN : N ≤ 4096) {F : List Int} (hF : ∀ f ∈ F, InN N f) (hl : F.length ≤ 4096) {k : Nat} (hk : F.length + N < k) : ∃ far, dist E F k = some far ∧ FarL N L F far := by
  have hFE : ∀ f ∈ F, InR E f := fun f hf => by have := hF f hf; unfold InR; rw [h.len]; exact this
  obtain ⟨far, h1, h2⟩ := dist_ok hFE (h.eok hV) (by rw [h.len]; exact hN) hl (by rw [h.len]; exact hk)
  refine ⟨far, h1, by rw [h2.len, h.len], fun v hv => ?_⟩
  rcases h2.far v (by unfold InR; rw [h.len]; exact hv) with ⟨g1, g2⟩ | ⟨n, g1, g2, ⟨f, hf, g3⟩, g4⟩
  · exact .inl ⟨g1, fun f hf n hw => g2 f hf n ((h.wk hV (hF f hf)).2 hw)⟩
  · exact .inr ⟨n, g1, by rw [← h.len]; exact g2, ⟨f, hf, (h.wk hV (hF f hf)).1 g3⟩, fun f' hf' m hw => g4 f' hf' m ((h.wk hV (hF f' hf')).2 hw)⟩
end Go.Proofs.Ytjbafigageingaa
