/- The laws' holding functions find the running numbers in cells and heaps that were marked. -/
import Derived.Test.YtlhecfpflkioeaaMk
namespace Go.Proofs.Ytlhecfpflkioeaa
open Go.RowKit
theorem mCells_at : ∀ (k : Int) (cs : List Cel) (j : Nat) (c : Cel), cs[j]? = some c → (mCells k cs)[j]? = some (mCel (k + kAdd (cs.take j)) c)
  | _, [], _, _, h => by simp at h
  | k, d :: cs, 0, c, h => by simp at h; subst h; simp [mCells, kAdd]
  | k, d :: cs, j + 1, c, h => by
    have := mCells_at (k + (d.refs.length + 2 : Nat)) cs j c (by simpa using h)
    rw [mCells, List.getElem?_cons_succ, this, List.take_succ_cons, kAdd, show k + ((d.refs.length + 2 : Nat) : Int) + (kAdd (cs.take j) : Int) = k + ((d.refs.length + 2 + kAdd (cs.take j) : Nat) : Int) by omega]

end Go.Proofs.Ytlhecfpflkioeaa
