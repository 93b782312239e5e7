/- Marking tables that a call owns; tables that hold their marks. -/
import Derived.Test.YtcekohpekpkobaaZ1
import Derived.Test.YtcekohpekpkobaaZ0
namespace Go.Proofs.Ytcekohpekpkobaa
open Go.RowKit
def mTbl (k : Int) (t : Tbl) : Tbl := ⟨mHeap k t.store, marks (k + kHeap t.store) t.hands.length⟩
def kTbl (t : Tbl) : Nat := kHeap t.store + t.hands.length
end Go.Proofs.Ytcekohpekpkobaa
