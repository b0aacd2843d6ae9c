import Derived.Test.YtjbafigageingaaKcBase
namespace Go.Proofs.Ytjbafigageingaa
open Go.RowKit Go.Proofs.YtjbafigageingaaW.PrintWords Go.Proofs.YtjbafigageingaaW.PrintLast Go.Proofs.YtjbafigageingaaW.PrintMore
set_option linter.unusedVariables false
set_option linter.unusedSimpArgs false

/-- isMark, covers, Exclude -/
def noText (s : ByteArray) : Bool := s.toList.isEmpty
def sameT (a b : S23) : Bool := a.f0 == b.f0 && (a.f1 == b.f1 && (a.f2.toList == b.f2.toList))
def isMarkB (t : S23) : Bool :=
  if t.f0 = 1 ∨ t.f0 = 2 ∨ t.f0 = 5 ∨ t.f0 = 6 then t.f1 == 0 && noText t.f2
  else if t.f0 = 3 then decide (1 ≤ t.f1) && decide (t.f1 ≤ 8) && noText t.f2
  else if t.f0 = 4 then t.f1 == 0 && !noText t.f2
  else false
def coversB (a b : S23) : Bool := (a.f0 == 6 && (b.f0 == 1 || b.f0 == 2)) || (a.f0 == 5 && b.f0 == 3)
def exclB (a b : S23) : Bool := isMarkB a && isMarkB b && !sameT a b && !coversB a b && !coversB b a
/-- the vertices from which the distances are taken -/
def dFrom : List Int → List Int → Option (List Int)
  | out, [] => some out
  | out, v :: vs => if 0 ≤ v ∧ v < (out.length : Int) then dFrom (out.set v.toNat 0) vs else none
/-- the edges of a vertex -/
def dInner (v : Int) : List S55 → List Int → List Int → Option (List Int × List Int)
  | [], out, todo => some (out, todo)
  | e :: es, out, todo =>
    if 0 ≤ e.f1 ∧ e.f1 < (out.length : Int) then
      if rd out e.f1 < 0 then
        if 0 ≤ v ∧ v < (out.length : Int) ∧ todo.length < 1000000 then dInner v es (out.set e.f1.toNat (wrap64 (rd out v + 1))) (todo ++ [e.f1]) else none
      else dInner v es out todo
    else none
def rdE (E : List (List S55)) (v : Int) : List S55 := E.getD v.toNat []
def dBfs (E : List (List S55)) : Nat → List Int → List Int → Option (List Int)
  | 0, _, _ => none
  | k + 1, out, todo => match todo with
    | [] => some out
    | v :: rest => if 0 ≤ v ∧ v < (E.length : Int) then (dInner v (rdE E v) out rest).bind fun p => dBfs E k p.1 p.2 else none
def dist (E : List (List S55)) (F : List Int) (k : Nat) : Option (List Int) := (dFrom (List.replicate E.length (-1)) F).bind fun out => dBfs E k out F
/-- other -/
def otherF (L : List S36) (i : Int) : List Int → Option (Int × Bool)
  | [] => some (0, false)
  | j :: js => if i < j then
      if (0 ≤ i ∧ i < (L.length : Int)) ∧ (0 ≤ j ∧ j < (L.length : Int)) then (if exclB (rd_T36 L i).f3 (rd_T36 L j).f3 = true then some (j, true) else otherF L i js) else none
    else otherF L i js
/-- chain: the targets, the next edge, the way -/
def tgtF (L : List S36) (M : Int → List Int) (far : List Int) (i : Int) : Nat → Nat → Int → List Int → Option (Int × List Int)
  | 0, _, best, ts => some (best, ts)
  | d + 1, v, best, ts =>
    if rd far v < 0 then tgtF L M far i d (v + 1) best ts
    else if 0 ≤ best ∧ best < rd far v then tgtF L M far i d (v + 1) best ts
    else (otherF L i (M v)).bind fun p =>
      if p.2 = true then
        if best < 0 ∨ rd far v < best then tgtF L M far i d (v + 1) (rd far v) [(v : Int)]
        else tgtF L M far i d (v + 1) best (ts ++ [(v : Int)])
      else tgtF L M far i d (v + 1) best ts
def nextE (left : List Int) (lv : Int) : List S55 → S55 → Option S55
  | [], nx => some nx
  | e :: es, nx =>
    if 0 ≤ e.f1 ∧ e.f1 < (left.length : Int) then
      if rd left e.f1 = wrap64 (lv - 1) then
        if nx.f0 < 0 then nextE left lv es e
        else if e.f0 < nx.f0 then nextE left lv es e else nextE left lv es nx
      else nextE left lv es nx
    else none
def wayF (E : List (List S55)) (left : List Int) : Nat → List Int → Int → Option (List Int × Int)
  | 0, _, _ => none
  | k + 1, out, v =>
    if 0 ≤ v ∧ v < (left.length : Int) then
      if 0 < rd left v then
        if v < (E.length : Int) ∧ out.length < 1000000 then (nextE left (rd left v) (rdE E v) ⟨-1, 0⟩).bind fun nx => wayF E left k (out ++ [nx.f0]) nx.f1 else none
      else some (out, v)
    else none
def chainF (E : List (List S55)) (L : List S36) (M : Int → List Int) (k : Nat) (i : Int) : Option (Option (List Int)) :=
  if 0 ≤ i ∧ i < (L.length : Int) then
    (dist E [(rd_T36 L i).f1] k).bind fun far => (tgtF L M far i E.length 0 (-1) []).bind fun bt =>
      if bt.1 < 0 then some none
      else (dist E bt.2 k).bind fun left => (wayF E left k [i] (rd_T36 L i).f1).bind fun ov =>
        if 0 ≤ ov.2 ∧ ov.2 < (E.length : Int) then (otherF L i (M ov.2)).bind fun jb => some (some (ov.1 ++ [jb.1])) else none
  else none
end Go.Proofs.Ytjbafigageingaa
