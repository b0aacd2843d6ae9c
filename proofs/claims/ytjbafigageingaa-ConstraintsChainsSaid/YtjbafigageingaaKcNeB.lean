import Derived.Test.YtjbafigageingaaKcBase
namespace Go.Proofs.Ytjbafigageingaa
open Go.RowKit
theorem neB {W : World} {q : Addr} {v : Value} {g : Nat} (hw : W.cell? q = some v) (hg : W.heap.size ≤ g) : q.block ≠ g :=
  Nat.ne_of_lt (Nat.lt_of_lt_of_le (World.block_lt_of_cell? _ _ hw) hg)
end Go.Proofs.Ytjbafigageingaa
