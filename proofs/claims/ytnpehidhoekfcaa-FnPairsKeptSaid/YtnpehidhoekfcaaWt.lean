/- isUsed and WatchedValid, the program's and the reference's: they return usedB and mWatchedValid, for every heap and list that can be read. -/
import Derived.Test.YtnpehidhoekfcaaHvS
namespace Go.Proofs.Ytnpehidhoekfcaa
open Go.RowKit
def usedB (cs : List Cel) (x : Int) : Bool := decide (0 ≤ x) && decide (x < cs.length) && (cs.getD x.toNat noCel).used
theorem usedB_out {cs : List Cel} {x : Int} (h : x < 0 ∨ (cs.length : Int) ≤ x) : usedB cs x = false := by simp [usedB]; omega
theorem usedB_in {cs : List Cel} {q : Nat} {l : Cel} (h : Hid (cs[q]? = some l)) : usedB cs (q : Int) = l.used := by
  obtain ⟨h4, h5⟩ := List.getElem?_eq_some_iff.1 h.out
  simp [usedB, h4, h5]

theorem isUsed_any (w : World) (B : Nat) (v : Value) (h : Hp) (x : Int) (hh : RdH w B v h) :
    Calls Try.prog 65 #[v, .int .i64 x] w fun e w' => e = .returned (.bool (heapOk h && usedB h.cells x)) ∧ Below w.heap.size w w' := by
  have hh' := hh.top
  obtain ⟨D, m, d, D', m', d', rfl, hC, hR⟩ := hh.top
  have hm1 := hC.mx; have hcap1 := hC.cap
  have l3 := hC.le1; have l4 := hC.le2
  unfold maxLen at hm1
  go_enter Try.func65, Try.ntmps65
  go_wp2_with fail
  refine (heapValid_any _ _ _ h (hh'.below (below_alloc _ _))).mono ?_
  rintro e w1 ⟨rfl, hb⟩
  obtain ⟨a0, a1, hbw, hz⟩ := box2 (hb.mono (by simp))
  cases hy : heapOk h
  · have HY := Go.Lib.hid hy
    clear hy
    go_wp2
    go_ret
    exact ⟨ret_b (by rw [HY.out]; rfl), hbw⟩
  have HY := Go.Lib.hid hy
  clear hy
  by_cases c1 : x < 0
  · have HF := Go.Lib.hid (usedB_out (cs := h.cells) (.inl c1))
    go_wp2
    go_ret
    exact ⟨ret_b (by rw [HF.out, HY.out]; rfl), hbw⟩
  by_cases c2 : (m : Int) ≤ x
  · have HF := Go.Lib.hid (usedB_out (cs := h.cells) (.inr (by omega : (h.cells.length : Int) ≤ x)))
    go_wp2
    go_ret
    exact ⟨ret_b (by rw [HF.out, HY.out]; rfl), hbw⟩
  obtain ⟨q, rfl⟩ := Int.eq_ofNat_of_zero_le (by omega : 0 ≤ x)
  have hq : q < m := by omega
  obtain ⟨b', o', l, A2, n2, c2', rfl, hbb', hx', g1', _⟩ := (hC.below hbw).at_ hq
  have HF := Go.Lib.hid (usedB_in hx')
  go_wp2
  go_ret
  exact ⟨ret_b (by rw [HF.out, HY.out]; rfl), hbw⟩

def watchAt (cs : List Cel) (ws : List Int) (k : Nat) : Bool := usedB cs (ws.getD k 0) && (k == 0 || decide (ws.getD (k - 1) 0 < ws.getD k 0))
def mWatchedValid (h : Hp) (ws : List Int) : Bool := heapOk h && (List.range ws.length).all (watchAt h.cells ws)
theorem watchAt_no1 {cs : List Cel} {ws : List Int} {k : Nat} {x : Int} (h : Hid (ws[k]? = some x)) (hu : usedB cs x = false) : watchAt cs ws k = false := by
  unfold watchAt; rw [getD_of h, hu]; rfl
theorem watchAt_zero {cs : List Cel} {ws : List Int} {x : Int} (h : Hid (ws[0]? = some x)) (hu : usedB cs x = true) : watchAt cs ws 0 = true := by
  unfold watchAt; rw [getD_of h, hu]; rfl
theorem watchAt_succ {cs : List Cel} {ws : List Int} {k : Nat} {x y : Int} (h : Hid (ws[k + 1]? = some x)) (h' : Hid (ws[k]? = some y)) (hu : usedB cs x = true) : watchAt cs ws (k + 1) = decide (y < x) := by
  unfold watchAt; rw [getD_of h, hu, Nat.add_sub_cancel, getD_of h']; rfl
theorem mWatched_no1 {h : Hp} {ws : List Int} (h1 : heapOk h = false) : mWatchedValid h ws = false := by simp [mWatchedValid, h1]
theorem mWatched_no2 {h : Hp} {ws : List Int} (h1 : (List.range ws.length).all (watchAt h.cells ws) = false) : mWatchedValid h ws = false := by simp only [mWatchedValid, h1, Bool.and_false]
theorem mWatched_of {h : Hp} {ws : List Int} (h1 : (List.range ws.length).all (watchAt h.cells ws) = true) : mWatchedValid h ws = heapOk h := by simp only [mWatchedValid, h1, Bool.and_true]

end Go.Proofs.Ytnpehidhoekfcaa
