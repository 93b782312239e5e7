/- The program's heap of a table: every handle is replaced by the cell that it tells. -/
import Derived.Test.YtjpfgbckmcjjaaaTb
namespace Go.Proofs.Ytjpfgbckmcjjaaa
open Go.RowKit
def tellR (hs : List Int) (r : Int) : Int := if r = -1 then -1 else if r < 0 ∨ (hs.length : Int) ≤ r then -2 else hs.getD r.toNat 0
def tellC (hs : List Int) (c : Cel) : Cel := ⟨c.used, c.data, c.refs.map (tellR hs)⟩
def tellH (t : Tbl) : Hp := ⟨t.store.cells.map (tellC t.hands), t.store.roots.map (tellR t.hands)⟩
theorem tellR_nil (hs : List Int) : tellR hs (-1) = -1 := by simp [tellR]
theorem tellR_no {hs : List Int} {r : Int} (h0 : r ≠ -1) (h : r < 0 ∨ (hs.length : Int) ≤ r) : tellR hs r = -2 := by unfold tellR; rw [if_neg h0, if_pos h]
theorem tellR_at {hs : List Int} {q : Nat} {x : Int} (h : Hid (hs[q]? = some x)) : tellR hs (q : Int) = x := by
  have hq : q < hs.length := (List.getElem?_eq_some_iff.1 h.out).1
  unfold tellR
  rw [if_neg (by omega), if_neg (by omega), Int.toNat_natCast, getD_of h]
theorem mapI_snoc {f : Int → Int} {xs : List Int} {k : Nat} {x : Int} (h : Hid (xs[k]? = some x)) : (xs.take (k + 1)).map f = (xs.take k).map f ++ [f x] := by
  rw [take_snoc' h, List.map_append]; rfl
end Go.Proofs.Ytjpfgbckmcjjaaa
