/- The program's heap of a table, made. -/
import Derived.Test.YtjpfgbckmcjjaaaTi
import Derived.Test.YtjpfgbckmcjjaaaZ0
namespace Go.Proofs.Ytjpfgbckmcjjaaa
open Go.RowKit
theorem tellC_snoc {hs : List Int} {cs : List Cel} {k : Nat} {l : Cel} (h : Hid (cs[k]? = some l)) : (cs.take (k + 1)).map (tellC hs) = (cs.take k).map (tellC hs) ++ [tellC hs l] := by
  rw [take_snoc' h, List.map_append]; rfl
end Go.Proofs.Ytjpfgbckmcjjaaa
