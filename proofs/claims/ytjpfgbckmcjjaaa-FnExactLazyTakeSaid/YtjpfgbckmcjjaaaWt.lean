/- isUsed and WatchedValid, the program's and the reference's: they return usedB and mWatchedValid, for every heap and list that can be read. -/
import Derived.Test.YtjpfgbckmcjjaaaZ1
namespace Go.Proofs.Ytjpfgbckmcjjaaa
open Go.RowKit
def usedB (cs : List Cel) (x : Int) : Bool := decide (0 ≤ x) && decide (x < cs.length) && (cs.getD x.toNat noCel).used
theorem usedB_out {cs : List Cel} {x : Int} (h : x < 0 ∨ (cs.length : Int) ≤ x) : usedB cs x = false := by simp [usedB]; omega
theorem usedB_in {cs : List Cel} {q : Nat} {l : Cel} (h : Hid (cs[q]? = some l)) : usedB cs (q : Int) = l.used := by
  obtain ⟨h4, h5⟩ := List.getElem?_eq_some_iff.1 h.out
  simp [usedB, h4, h5]

theorem isUsed_any (w : World) (B : Nat) (v : Value) (h : Hp) (x : Int) (hh : RdH w B v h) :
    Calls Try.prog 71 #[v, .int .i64 x] w fun e w' => e = .returned (.bool (heapOk h && usedB h.cells x)) ∧ Below w.heap.size w w' := by
  have hh' := hh.top
  obtain ⟨D, m, d, D', m', d', rfl, hC, hR⟩ := hh.top
  have hm1 := hC.mx; have hcap1 := hC.cap
  have l3 := hC.le1; have l4 := hC.le2
  unfold maxLen at hm1
  go_enter Try.func71, Try.ntmps71
  go_wp2_with fail
  refine (heapValid_any _ _ _ h (hh'.below (below_alloc _ _))).mono ?_
  rintro e w1 ⟨rfl, hb⟩
  obtain ⟨a0, a1, hbw, hz⟩ := box2 (hb.mono (by simp))
  cases hy : heapOk h
  · have HY := Go.Lib.hid hy
    clear hy
    go_wp2
    go_ret
    exact ⟨ret_b (by rw [HY.out]; rfl), hbw⟩
  have HY := Go.Lib.hid hy
  clear hy
  by_cases c1 : x < 0
  · have HF := Go.Lib.hid (usedB_out (cs := h.cells) (.inl c1))
    go_wp2
    go_ret
    exact ⟨ret_b (by rw [HF.out, HY.out]; rfl), hbw⟩
  by_cases c2 : (m : Int) ≤ x
  · have HF := Go.Lib.hid (usedB_out (cs := h.cells) (.inr (by omega : (h.cells.length : Int) ≤ x)))
    go_wp2
    go_ret
    exact ⟨ret_b (by rw [HF.out, HY.out]; rfl), hbw⟩
  obtain ⟨q, rfl⟩ := Int.eq_ofNat_of_zero_le (by omega : 0 ≤ x)
  have hq : q < m := by omega
  obtain ⟨b', o', l, A2, n2, c2', rfl, hbb', hx', g1', _⟩ := (hC.below hbw).at_ hq
  have HF := Go.Lib.hid (usedB_in hx')
  go_wp2
  go_ret
  exact ⟨ret_b (by rw [HF.out, HY.out]; rfl), hbw⟩

def watchAt (cs : List Cel) (ws : List Int) (k : Nat) : Bool := usedB cs (ws.getD k 0) && (k == 0 || decide (ws.getD (k - 1) 0 < ws.getD k 0))
def mWatchedValid (h : Hp) (ws : List Int) : Bool := heapOk h && (List.range ws.length).all (watchAt h.cells ws)
theorem watchAt_no1 {cs : List Cel} {ws : List Int} {k : Nat} {x : Int} (h : Hid (ws[k]? = some x)) (hu : usedB cs x = false) : watchAt cs ws k = false := by
  unfold watchAt; rw [getD_of h, hu]; rfl
theorem watchAt_zero {cs : List Cel} {ws : List Int} {x : Int} (h : Hid (ws[0]? = some x)) (hu : usedB cs x = true) : watchAt cs ws 0 = true := by
  unfold watchAt; rw [getD_of h, hu]; rfl
theorem watchAt_succ {cs : List Cel} {ws : List Int} {k : Nat} {x y : Int} (h : Hid (ws[k + 1]? = some x)) (h' : Hid (ws[k]? = some y)) (hu : usedB cs x = true) : watchAt cs ws (k + 1) = decide (y < x) := by
  unfold watchAt; rw [getD_of h, hu, Nat.add_sub_cancel, getD_of h']; rfl
theorem mWatched_no1 {h : Hp} {ws : List Int} (h1 : heapOk h = false) : mWatchedValid h ws = false := by simp [mWatchedValid, h1]
theorem mWatched_no2 {h : Hp} {ws : List Int} (h1 : (List.range ws.length).all (watchAt h.cells ws) = false) : mWatchedValid h ws = false := by simp only [mWatchedValid, h1, Bool.and_false]
theorem mWatched_of {h : Hp} {ws : List Int} (h1 : (List.range ws.length).all (watchAt h.cells ws) = true) : mWatchedValid h ws = heapOk h := by simp only [mWatchedValid, h1, Bool.and_true]

set_option maxHeartbeats 1600000 in
theorem implWatchedValid_any (w : World) (B B' : Nat) (v : Value) (h : Hp) (A : Option Addr) (n c : Nat) (ws : List Int) (hh : RdH w B v h) (hr : RdI w B' A n c ws) :
    Calls Try.prog 25 #[v, .slice A n c] w fun e w' => e = .returned (.bool (mWatchedValid h ws)) ∧ Below w.heap.size w w' := by
  have hr := hr.top
  have hh' := hh.top
  obtain ⟨D, m, d, D', m', d', rfl, hC, hR⟩ := hh.top
  have hm := hr.mx; have hcap := hr.cap
  unfold maxLen at hm
  have l1 := RdI.le1 hr; have l2 := RdI.le2 hr
  go_enter Try.func25, Try.ntmps25
  go_wp2_with fail
  refine (heapValid_any _ _ _ h (hh'.below (below_alloc _ _))).mono ?_
  rintro e w1 ⟨rfl, hb⟩
  obtain ⟨a0, a1, hbw, hz⟩ := box2 (hb.mono (by simp))
  cases hy : heapOk h
  · have HF := Go.Lib.hid (mWatched_no1 (ws := ws) hy)
    clear hy
    go_wp2
    go_ret
    exact ⟨ret_b HF.out.symm, hbw⟩
  have HY := Go.Lib.hid hy
  clear hy
  go_wp2_with fail
  go_loopw [12] (fun i wr => ∃ k : Nat, i = .int .i64 k ∧ k ≤ n ∧ (List.range k).all (watchAt h.cells ws) = true ∧ Below (w.heap.size + 1) (w.alloc (.cells #[.slice D m d, .slice D' m' d'] 26)) wr) (fun i _ => n - (intOf i).toNat)
  case atStart => exact ⟨0, rfl, Nat.zero_le _, by simp, hb.mono (by simp)⟩
  case round =>
    clear a0 a1 hbw hz
    obtain ⟨k, rfl, hk, hall, hb⟩ := hrel
    obtain ⟨a0, a1, hbw, hz⟩ := box2 hb
    by_cases hlt : k < n
    · obtain ⟨b, o, x, rfl, hbb, hx, g1⟩ := RdI.at_ (hr.below hbw) hlt
      go_wp2_with fail
      refine (isUsed_any _ _ _ h _ (hh'.below hbw)).mono ?_
      rintro e w2 ⟨rfl, hb2⟩
      rw [HY.out, Bool.true_and]
      have hb3 := hb.trans (hb2.mono (by omega))
      obtain ⟨a0', a1', hbw', hz'⟩ := box2 hb3
      cases hy : usedB h.cells x
      · have HF := Go.Lib.hid (mWatched_no2 (range_all_no (by omega : k < ws.length) (watchAt_no1 hx hy)))
        clear hy g1 a0 a1
        go_wp2
        go_ret
        exact ⟨ret_b HF.out.symm, hbw'⟩
      replace g1 := (hb2.cell (p := ⟨b, o + k, none⟩) (by simp; omega)).trans g1
      clear a0 a1
      rcases k with _ | k
      · have hall' := range_all_succ hall (watchAt_zero hx hy)
        clear hy g1
        go_wp2
        go_roundw
        case rel => exact ⟨0 + 1, by go_num, by omega, hall', hb3⟩
        case measure => simp [intOf]; omega
      · obtain ⟨b2, o2, y, e2, hbb2, hx2, g2⟩ := RdI.at_ (hr.below hbw') (by omega : k < n)
        simp only [Option.some.injEq, Addr.mk.injEq, and_true] at e2
        obtain ⟨rfl, rfl⟩ := e2
        have e1 := watchAt_succ hx hx2 hy
        clear hy
        by_cases c1 : y < x
        · rw [decide_eq_true c1] at e1
          have hall' := range_all_succ hall e1
          clear e1
          go_wp2
          go_roundw
          case rel => exact ⟨k + 1 + 1, by go_num, by omega, hall', hb3⟩
          case measure => simp [intOf]; omega
        · rw [decide_eq_false c1] at e1
          have HF := Go.Lib.hid (mWatched_no2 (range_all_no (by omega : k + 1 < ws.length) e1))
          clear e1
          go_wp2
          go_ret
          exact ⟨ret_b HF.out.symm, hbw'⟩
    · obtain rfl : k = n := by omega
      obtain rfl : k = ws.length := by omega
      have HF : Hid (mWatchedValid h ws = true) := Go.Lib.hid (by rw [mWatched_of hall, HY.out])
      go_wp2
      go_ret
      exact ⟨ret_b HF.out.symm, hbw⟩

set_option maxHeartbeats 3200000 in
theorem specWatchedValid_any (w : World) (B B' : Nat) (v : Value) (h : Hp) (A : Option Addr) (n c : Nat) (ws : List Int) (hh : RdH w B v h) (hr : RdI w B' A n c ws) :
    Calls Try.prog 22 #[v, .slice A n c] w fun e w' => e = .returned (.bool (mWatchedValid h ws)) ∧ Below w.heap.size w w' := by
  have hr := hr.top
  have hh' := hh.top
  obtain ⟨D, m, d, D', m', d', rfl, hC, hR⟩ := hh.top
  have hm := hr.mx; have hcap := hr.cap
  have hm1 := hC.mx; have hcap1 := hC.cap
  have l1 := RdI.le1 hr; have l2 := RdI.le2 hr
  have l3 := hC.le1; have l4 := hC.le2
  unfold maxLen at hm hm1
  go_enter Try.func22, Try.ntmps22
  go_wp2_with fail
  go_loopw [5] (fun i wr => ∃ k : Nat, i = .int .i64 k ∧ k ≤ n ∧ (List.range k).all (watchAt h.cells ws) = true ∧ Below (w.heap.size + 1) (w.alloc (.cells #[.slice D m d, .slice D' m' d'] 26)) wr) (fun i _ => n - (intOf i).toNat)
  case atStart => exact ⟨0, rfl, Nat.zero_le _, by simp, Below.refl _ _⟩
  case round =>
    obtain ⟨k, rfl, hk, hall, hb⟩ := hrel
    obtain ⟨a0, a1, hbw, hz⟩ := box2 hb
    by_cases hlt : k < n
    · obtain ⟨b, o, x, rfl, hbb, hx, g1⟩ := RdI.at_ (hr.below hbw) hlt
      have i1 : (0 : Int) ≤ (k : Int) := by omega
      have i2 : (k : Int) < (n : Int) := by omega
      by_cases c2 : x < 0 ∨ (m : Int) ≤ x
      · have HF := Go.Lib.hid (mWatched_no2 (range_all_no (by omega : k < ws.length) (watchAt_no1 hx (usedB_out (by omega : x < 0 ∨ (h.cells.length : Int) ≤ x)))))
        go_wp2_with fail
        go_quiet ((go_at_call 65; exact Calls.quiet_of_same (l1In_no _ _ _ _ (by omega))))
        go_wp2
        go_ret
        exact ⟨ret_b HF.out.symm, below_drewN hbw _⟩
      obtain ⟨q, rfl⟩ := Int.eq_ofNat_of_zero_le (by omega : 0 ≤ x)
      have hq : q < m := by omega
      obtain ⟨b', o', l, A2, n2, c2', rfl, hbb', hx', g1', _⟩ := (hC.below hbw).at_ hq
      have e1 := usedB_in hx'
      have i3 : (0 : Int) ≤ (q : Int) := by omega
      have i4 : (q : Int) < (m : Int) := by omega
      cases hu : l.used
      · rw [hu] at e1 g1'
        have HF := Go.Lib.hid (mWatched_no2 (range_all_no (by omega : k < ws.length) (watchAt_no1 hx e1)))
        clear c2 e1 hu
        go_wp2_with fail
        go_quiet ((go_at_call 65; exact Calls.quiet_of_same (l1In_yes _ _ _ _ (by omega) (by omega))))
        go_wp2
        go_ret
        exact ⟨ret_b HF.out.symm, below_drewN hbw _⟩
      rw [hu] at e1 g1'
      clear hu
      rcases k with _ | k
      · have hall' := range_all_succ hall (watchAt_zero hx e1)
        simp only [Nat.add_zero] at g1
        clear c2 e1
        go_wp2_with fail
        go_quiet ((go_at_call 65; exact Calls.quiet_of_same (l1In_yes _ _ _ _ (by omega) (by omega))))
        go_wp2
        go_roundw
        case rel => exact ⟨0 + 1, by go_num, by omega, hall', below_drewN hb _⟩
        case measure => simp [intOf]; omega
      · obtain ⟨b2, o2, y, e2, hbb2, hx2, g2⟩ := RdI.at_ (hr.below hbw) (by omega : k < n)
        simp only [Option.some.injEq, Addr.mk.injEq, and_true] at e2
        obtain ⟨rfl, rfl⟩ := e2
        have e3 := watchAt_succ hx hx2 e1
        have i5 : (0 : Int) ≤ (k : Int) := by omega
        have i6 : (k : Int) < (n : Int) := by omega
        clear e1 c2
        by_cases c1 : y < (q : Int)
        · rw [decide_eq_true c1] at e3
          have hall' := range_all_succ hall e3
          clear e3
          go_wp2_with fail
          go_quiet ((go_at_call 65; exact Calls.quiet_of_same (l1In_yes _ _ _ _ (by omega) (by omega))))
          go_wp2
          go_roundw
          case rel => exact ⟨k + 1 + 1, by go_num, by omega, hall', below_drewN hb _⟩
          case measure => simp [intOf]; omega
        · rw [decide_eq_false c1] at e3
          have HF := Go.Lib.hid (mWatched_no2 (range_all_no (by omega : k + 1 < ws.length) e3))
          clear e3
          go_wp2_with fail
          go_quiet ((go_at_call 65; exact Calls.quiet_of_same (l1In_yes _ _ _ _ (by omega) (by omega))))
          go_wp2
          go_ret
          exact ⟨ret_b HF.out.symm, below_drewN hbw _⟩
    · obtain rfl : k = n := by omega
      obtain rfl : k = ws.length := by omega
      have HE := Go.Lib.hid (mWatched_of hall)
      clear hall
      go_wp2_with fail
      refine (specHeapValid_any _ _ _ h (hh'.below hbw)).mono ?_
      rintro e w3 ⟨rfl, hb3⟩
      rw [← HE.out]
      go_wp2
      go_ret
      exact ⟨rfl, hbw.trans (hb3.mono (by omega))⟩
end Go.Proofs.Ytjpfgbckmcjjaaa
