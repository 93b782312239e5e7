/- MoveCells, the program's: copying a table, and the exchange of two cells and their handles. -/
import Derived.Test.YtnpehidhoekfcaaSp
import Derived.Test.YtnpehidhoekfcaaTs
import Derived.Test.YtnpehidhoekfcaaPu
import Derived.Test.YtnpehidhoekfcaaCpI
import Derived.Test.YtnpehidhoekfcaaZ0
namespace Go.Proofs.Ytnpehidhoekfcaa
open Go.RowKit
/-- A call makes a table: three parts of its own. -/
def MadeTp (w : World) (t : Tbl) (e : Ending) (w' : World) : Prop := ∃ cv rvs rv hv, e = .returned (.agg #[cv, rv, hv]) ∧ Owns w.heap.size w w' [.cells cv rvs t.store.cells, .ints rv t.store.roots, .ints hv t.hands]
def swH (a b : Nat) (x : Int) : Int := if x = a then b else if x = b then a else x
def swCells (cs : List Cel) (a b : Nat) : List Cel := (cs.set a (cs.getD b noCel)).set b (cs.getD a noCel)
def mMoved (t : Tbl) (a b : Nat) : Tbl := ⟨⟨swCells t.store.cells a b, t.store.roots⟩, t.hands.map (swH a b)⟩
def mMoveOk (t : Tbl) (a b : Int) : Bool := mTableValid t && (decide (0 ≤ a) && decide (a < t.hands.length) && decide (0 ≤ b) && decide (b < t.hands.length))
def mMove (t : Tbl) (a b : Int) : Tbl := if mMoveOk t a b then mMoved t a.toNat b.toNat else ⟨⟨[], []⟩, []⟩
theorem swCells_len (cs : List Cel) (a b : Nat) : (swCells cs a b).length = cs.length := by simp [swCells]
theorem swCells_of {cs : List Cel} {a b : Nat} {la lb : Cel} (ha : Hid (cs[a]? = some la)) (hb : Hid (cs[b]? = some lb)) : (cs.set a lb).set b la = swCells cs a b := by unfold swCells; rw [getD_of ha, getD_of hb]
theorem mapT_keep {f : Int → Int} {xs : List Int} {k : Nat} {x : Int} (h : Hid (xs[k]? = some x)) (hf : f x = x) : (xs.take (k + 1)).map f ++ xs.drop (k + 1) = (xs.take k).map f ++ xs.drop k := by
  rw [← mapT_turn h, hf]
  exact List.ext_getElem? fun i => by
    rw [List.getElem?_set]
    by_cases e : k = i
    · subst e
      have := mapT_here (f := f) h
      rw [if_pos rfl, this]
      have hl := (List.getElem?_eq_some_iff.1 this).1
      rw [if_pos hl]
    · rw [if_neg e]
end Go.Proofs.Ytnpehidhoekfcaa
