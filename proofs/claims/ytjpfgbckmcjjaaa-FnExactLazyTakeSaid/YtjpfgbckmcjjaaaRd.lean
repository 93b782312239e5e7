/- ReadyCells, the program's and the reference's: both make mReadyCells, for every heap and list that can be read. -/
import Derived.Test.YtjpfgbckmcjjaaaKw
namespace Go.Proofs.Ytjpfgbckmcjjaaa
open Go.RowKit
noncomputable def lostB (h : Hp) (x : Int) : Bool := !(reachB h.cells h.roots x.toNat)
noncomputable def toB (h : Hp) (x y : Int) : Bool := reachB h.cells [x] y.toNat
noncomputable def okY (h : Hp) (x y : Int) : Bool := !lostB h y || (!toB h y x || toB h x y)
noncomputable def readyB (h : Hp) (ws : List Int) (x : Int) : Bool := lostB h x && ws.all (okY h x)
noncomputable def readyL (h : Hp) (ws : List Int) : List Int := ws.filter (readyB h ws)
noncomputable def freeB (h : Hp) (ws : List Int) (x : Int) (j : Nat) : Bool := lostB h x && (ws.take j).all (okY h x)
theorem freeB_zero (h : Hp) (ws : List Int) (x : Int) : freeB h ws x 0 = lostB h x := by simp [freeB]
theorem freeB_succ {h : Hp} {ws : List Int} {x y : Int} {j : Nat} (hy : Hid (ws[j]? = some y)) : freeB h ws x (j + 1) = (freeB h ws x j && okY h x y) := by
  unfold freeB
  rw [take_snoc' hy, List.all_append, List.all_cons, List.all_nil, Bool.and_true, Bool.and_assoc]
theorem freeB_end {h : Hp} {ws : List Int} {x : Int} {j : Nat} (hj : ws.length ≤ j) : freeB h ws x j = readyB h ws x := by
  unfold freeB readyB
  rw [List.take_of_length_le hj]
theorem filter_succ {p : Int → Bool} {ws : List Int} {k : Nat} {x : Int} (h : Hid (ws[k]? = some x)) : (ws.take (k + 1)).filter p = (ws.take k).filter p ++ (if p x then [x] else []) := by
  rw [take_snoc' h, List.filter_append, List.filter_cons, List.filter_nil]
theorem filter_len {p : Int → Bool} {ws : List Int} {k : Nat} : ((ws.take k).filter p).length ≤ ws.length :=
  Nat.le_trans (List.length_filter_le _ _) (by rw [List.length_take]; omega)
theorem has_reach {cs : List Cel} {fr : List Int} {x : Int} (h64 : cs.length ≤ 64) (h0 : 0 ≤ x) : hasB (closM cs (usedM cs) fr) x = reachB cs fr x.toNat := by
  unfold hasB
  rw [closM_used h64]; simp [h0]
theorem rdI_new1 (w : World) (x : Int) (g : Nat) (hg : w.heap.size = g) : RdI (w.alloc (.cells #[.int .i64 x] 3)) (g + 1) (some ⟨g, 0, none⟩) 1 1 [x] := by
  have := rdI_new w x g hg
  subst hg
  simpa using this
noncomputable def mReadyCells (h : Hp) (ws : List Int) : List Int := if mWatchedValid h ws then readyL h ws else []
theorem mReady_no {h : Hp} {ws : List Int} (h0 : mWatchedValid h ws = false) : mReadyCells h ws = [] := by simp [mReadyCells, h0]
theorem mReady_yes {h : Hp} {ws : List Int} (h0 : mWatchedValid h ws = true) : mReadyCells h ws = readyL h ws := by simp [mReadyCells, h0]
theorem mReadyCells_len (h : Hp) (ws : List Int) : (mReadyCells h ws).length ≤ 1048576 := by
  unfold mReadyCells
  split
  · rename_i h0
    have := mWatched_len h0
    exact Nat.le_trans (List.length_filter_le _ _) (by omega)
  · simp
/-! ### The reference's -/
theorem ready_lost (h : Hp) (ws : List Int) : (ws.filter (lostB h)).filter (fun x => (ws.filter (lostB h)).all fun y => !toB h y x || toB h x y) = readyL h ws := by
  unfold readyL
  rw [List.filter_filter]
  congr 1
  funext x
  unfold readyB okY
  rw [List.all_filter]
  simp only [Bool.and_comm]
noncomputable def rdS (h : Hp) (L : List Int) (x : Int) (j : Nat) : Bool := (L.take j).all fun y => !toB h y x || toB h x y
theorem rdS_succ {h : Hp} {L : List Int} {x y : Int} {j : Nat} (hy : Hid (L[j]? = some y)) : rdS h L x (j + 1) = (rdS h L x j && (!toB h y x || toB h x y)) := by
  unfold rdS
  rw [take_snoc' hy, List.all_append, List.all_cons, List.all_nil, Bool.and_true]
theorem toB_nat (h : Hp) (x y : Nat) : toB h (x : Int) (y : Int) = reachB h.cells [(x : Int)] y := by simp [toB]
end Go.Proofs.Ytjpfgbckmcjjaaa
