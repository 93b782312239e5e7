/- The reference's tests of references, cells and heaps return what the plain functions leadsB and heapOk say: for every heap that can be read. -/
import Derived.Test.YtjpfgbckmcjjaaaHvI
namespace Go.Proofs.Ytjpfgbckmcjjaaa
open Go.RowKit
theorem l1In_yes (n lo hi : Int) (w : World) (h1 : lo ≤ n) (h2 : n ≤ hi) :
    Calls Try.prog 65 #[.int .i64 n, .int .i64 lo, .int .i64 hi] w fun e w' => e = .returned (.bool true) ∧ w' = w := by
  go_enter Try.func65, Try.ntmps65
  go_wp2
  go_ret
  exact ⟨rfl, rfl⟩
theorem l1In_no (n lo hi : Int) (w : World) (h1 : n < lo ∨ hi < n) :
    Calls Try.prog 65 #[.int .i64 n, .int .i64 lo, .int .i64 hi] w fun e w' => e = .returned (.bool false) ∧ w' = w := by
  by_cases h : n < lo
  · go_enter Try.func65, Try.ntmps65
    go_wp2
    go_ret
    exact ⟨rfl, rfl⟩
  · have h2 : hi < n := by omega
    clear h1
    go_enter Try.func65, Try.ntmps65
    go_wp2
    go_ret
    exact ⟨ret_b (by simp <;> omega), rfl⟩

theorem leadsB_nil (cs : List Cel) : leadsB cs (-1) = true := by simp [leadsB]
theorem leadsB_out {cs : List Cel} {x : Int} (h0 : x ≠ -1) (h : x < 0 ∨ (cs.length : Int) ≤ x) : leadsB cs x = false := by
  have : (x == -1) = false := by simp [h0]
  simp [leadsB, this]; omega
theorem leadsB_in {cs : List Cel} {q : Nat} {l : Cel} (h : Hid (cs[q]? = some l)) : leadsB cs (q : Int) = l.used := by
  obtain ⟨h4, h5⟩ := List.getElem?_eq_some_iff.1 h.out
  have : ((q : Int) == -1) = false := by simp
  simp [leadsB, this, h4, h5]

set_option maxHeartbeats 800000 in
theorem l7Refs_any (w : World) (B B' : Nat) (v : Value) (h : Hp) (A : Option Addr) (n c : Nat) (xs : List Int) (hh : RdH w B v h) (hr : RdI w B' A n c xs) :
    Calls Try.prog 53 #[v, .slice A n c] w fun e w' => e = .returned (.bool (xs.all (leadsB h.cells))) ∧ Below w.heap.size w w' := by
  have hr := hr.top
  obtain ⟨D, m, d, D', m', d', rfl, hC, hR⟩ := hh.top
  have hm := hr.mx; have hcap := hr.cap
  have hm1 := hC.mx; have hcap1 := hC.cap
  have l1 := RdI.le1 hr; have l2 := RdI.le2 hr
  have l3 := hC.le1; have l4 := hC.le2
  unfold maxLen at hm hm1
  go_enter Try.func53, Try.ntmps53
  go_wp2_with fail
  go_loopw [5] (fun i wr => ∃ k : Nat, i = .int .i64 k ∧ k ≤ n ∧ (xs.take k).all (leadsB h.cells) = true ∧
    Below (w.heap.size + 1) (w.alloc (.cells #[.slice D m d, .slice D' m' d'] 26)) wr) (fun i _ => n - (intOf i).toNat)
  case atStart => exact ⟨0, rfl, Nat.zero_le _, by simp, Below.refl _ _⟩
  case round =>
    obtain ⟨k, rfl, hk, hall, hb⟩ := hrel
    obtain ⟨a0, a1, hbw, hz⟩ := box2 hb
    by_cases hlt : k < n
    · obtain ⟨b, o, x, rfl, hbb, hx, g1⟩ := RdI.at_ (hr.below hbw) hlt
      have i1 : (0 : Int) ≤ (k : Int) := by omega
      have i2 : (k : Int) < (n : Int) := by omega
      by_cases c1 : x = -1
      · subst c1
        have hall' := all_succ hall hx (leadsB_nil h.cells)
        go_wp2_with fail
        go_quiet (fail)
        go_wp2
        go_roundw
        case rel => exact ⟨k + 1, by go_num, by omega, hall', below_drewN hb _⟩
        case measure => simp [intOf]; omega
      have k1 : (x != -1) = true := by simp [c1]
      by_cases c2 : x < 0 ∨ (m : Int) ≤ x
      · have HF := Go.Lib.hid (all_no hx (leadsB_out c1 (by omega : x < 0 ∨ (h.cells.length : Int) ≤ x)))
        clear c1
        go_wp2_with fail
        go_quiet ((go_at_call 65; exact Calls.quiet_of_same (l1In_no _ _ _ _ (by omega))))
        go_wp2
        go_ret
        exact ⟨ret_b HF.out.symm, below_drewN hbw _⟩
      obtain ⟨q, rfl⟩ := Int.eq_ofNat_of_zero_le (by omega : 0 ≤ x)
      have hq : q < m := by omega
      obtain ⟨b', o', l, A2, n2, c2', rfl, hbb', hx', g1', _⟩ := (hC.below hbw).at_ hq
      have e1 := leadsB_in hx'
      have i3 : (0 : Int) ≤ (q : Int) := by omega
      have i4 : (q : Int) < (m : Int) := by omega
      cases hu : l.used
      · rw [hu] at e1 g1'
        have HF := Go.Lib.hid (all_no hx e1)
        clear c1 c2 e1 hu
        go_wp2_with fail
        go_quiet ((go_at_call 65; exact Calls.quiet_of_same (l1In_yes _ _ _ _ (by omega) (by omega))))
        go_wp2
        go_ret
        exact ⟨ret_b HF.out.symm, below_drewN hbw _⟩
      · rw [hu] at e1 g1'
        have hall' := all_succ hall hx e1
        clear c1 c2 e1 hu
        go_wp2_with fail
        go_quiet ((go_at_call 65; exact Calls.quiet_of_same (l1In_yes _ _ _ _ (by omega) (by omega))))
        go_wp2
        go_roundw
        case rel => exact ⟨k + 1, by go_num, by omega, hall', below_drewN hb _⟩
        case measure => simp [intOf]; omega
    · have HF := Go.Lib.hid (all_end hall (by omega : xs.length ≤ k))
      go_wp2
      go_ret
      exact ⟨ret_b HF.out.symm, hbw⟩

theorem cellOk_bad1 {cs : List Cel} {l : Cel} (h : l.used = false) (h2 : l.data ≠ 0 ∨ 0 < l.refs.length) : cellOk cs l = false := by
  rw [cellOk_free h]; simp; intro h3; have : l.refs.length ≠ 0 := by omega
  simpa using this
theorem cellOk_good1 {cs : List Cel} {l : Cel} (h : l.used = false) (h2 : l.data = 0) (h3 : l.refs.length = 0) : cellOk cs l = true := by rw [cellOk_free h]; simp [h2, h3]
theorem cellOk_bad2 {cs : List Cel} {l : Cel} (h : l.used = true) (h2 : l.data < 0 ∨ 99 < l.data ∨ 3 < l.refs.length) : cellOk cs l = false := by
  rw [cellOk_used h]; simp; intros; omega
theorem cellOk_mid {cs : List Cel} {l : Cel} (h : l.used = true) (h1 : 0 ≤ l.data) (h2 : l.data ≤ 99) (h3 : l.refs.length ≤ 3) : cellOk cs l = l.refs.all (leadsB cs) := by
  rw [cellOk_used h]; simp [h1, h2, h3]
theorem heapOk_of {h : Hp} (h1 : h.cells.all (cellOk h.cells) = true) (h2 : h.cells.length ≤ 40) (h3 : h.roots.length = 4) : heapOk h = h.roots.all (leadsB h.cells) := by simp [heapOk, h1, h2, h3]
theorem heapOk_no1 {h : Hp} (h1 : h.cells.all (cellOk h.cells) = false) : heapOk h = false := by simp [heapOk, h1]
theorem heapOk_no2 {h : Hp} (h1 : 40 < h.cells.length ∨ h.roots.length ≠ 4) : heapOk h = false := by simp [heapOk]; omega

set_option maxHeartbeats 1600000 in
theorem specHeapValid_any (w : World) (B : Nat) (v : Value) (h : Hp) (hh : RdH w B v h) :
    Calls Try.prog 35 #[v] w fun e w' => e = .returned (.bool (heapOk h)) ∧ Below w.heap.size w w' := by
  have hh' := hh.top
  obtain ⟨A, n, c, A', n', c', rfl, hC, hR⟩ := hh.top
  have hm := hC.mx; have hcap := hC.cap
  have hm' := hR.mx; have hcap' := hR.cap
  unfold maxLen at hm hm'
  have l1 := hC.le1; have l2 := hC.le2
  have l1' := RdI.le1 hR; have l2' := RdI.le2 hR
  go_enter Try.func35, Try.ntmps35
  go_wp2_with fail
  go_loopw [3] (fun i wr => ∃ k : Nat, i = .int .i64 k ∧ k ≤ n ∧ (h.cells.take k).all (cellOk h.cells) = true ∧ Below (w.heap.size + 1) (w.alloc (.cells #[.slice A n c, .slice A' n' c'] 26)) wr) (fun i _ => n - (intOf i).toNat)
  case atStart => exact ⟨0, rfl, Nat.zero_le _, by simp, Below.refl _ _⟩
  case round =>
    obtain ⟨k, rfl, hk, hall, hb⟩ := hrel
    obtain ⟨a0, a1, hbw, hz⟩ := box2 hb
    by_cases hlt : k < n
    · obtain ⟨b, o, l, A2, n2, c2, rfl, hbb, hx, g1, g2, g3, hr⟩ := (hC.below hbw).at_ hlt
      have hbb' : b < wr.heap.size := by omega
      have m1 := RdI.le1 hr; have m2 := RdI.le2 hr
      have m3 := hr.mx; have m4 := hr.cap
      unfold maxLen at m3
      have hbx : Below w.heap.size w (wr.alloc (.cells #[.bool l.used, .int .i64 l.data, .slice A2 n2 c2] 40)) := hbw.alloc (by omega) _
      have hbx' := hb.alloc (by omega : w.heap.size + 1 ≤ wr.heap.size) (.cells #[.bool l.used, .int .i64 l.data, .slice A2 n2 c2] 40)
      have hrx := hr.below ((Below.refl w.heap.size wr).alloc (by omega) (.cells #[.bool l.used, .int .i64 l.data, .slice A2 n2 c2] 40))
      cases hu : l.used
      · rw [hu] at g1 hbx hbx' hrx
        by_cases c1 : l.data = 0
        · by_cases c4 : 0 < n2
          · have HF := Go.Lib.hid (heapOk_no1 (all_no hx (cellOk_bad1 (cs := h.cells) hu (by omega))))
            have k1 : (l.data != 0) = false := by simp [c1]
            clear c1 hu
            go_wp2
            go_ret
            exact ⟨ret_b HF.out.symm, hbx⟩
          · have hy := cellOk_good1 (cs := h.cells) hu c1 (by omega)
            have hall' := all_succ hall hx hy
            have HR : Hid (l.refs.all (leadsB h.cells) = true) := Go.Lib.hid (by
              have : l.refs = [] := List.length_eq_zero_iff.1 (by omega)
              simp [this])
            have k1 : (l.data != 0) = false := by simp [c1]
            have k3 : (0 : Int) ≤ l.data := by omega
            have k4 : l.data ≤ 99 := by omega
            clear c1 hu hy
            go_wp2_with fail
            refine (l1In_yes _ _ _ _ k3 k4).mono ?_
            rintro e w2 ⟨rfl, hw2⟩
            subst hw2
            go_wp2_with fail
            refine (l7Refs_any _ _ _ _ h A2 n2 c2 l.refs (hh'.below hbx) hrx).mono ?_
            rintro e w3 ⟨rfl, hb3⟩
            have hb4 := hbx'.trans (hb3.mono (by simp; omega))
            rw [HR.out]
            go_wp2
            go_roundw
            case rel => exact ⟨k + 1, by go_num, by omega, hall', hb4⟩
            case measure => simp [intOf]; omega
        · have HF := Go.Lib.hid (heapOk_no1 (all_no hx (cellOk_bad1 (cs := h.cells) hu (.inl c1))))
          have k1 : (l.data != 0) = true := by simp [c1]
          clear c1 hu
          go_wp2
          go_ret
          exact ⟨ret_b HF.out.symm, hbx⟩
      · rw [hu] at g1 hbx hbx' hrx
        by_cases c1 : l.data < 0 ∨ 99 < l.data
        · have HF := Go.Lib.hid (heapOk_no1 (all_no hx (cellOk_bad2 (cs := h.cells) hu (by omega))))
          clear hu
          go_wp2_with fail
          refine (l1In_no _ _ _ _ c1).mono ?_
          rintro e w2 ⟨rfl, hw2⟩
          subst hw2
          go_wp2
          go_ret
          exact ⟨ret_b HF.out.symm, hbx⟩
        have k3 : (0 : Int) ≤ l.data := by omega
        have k4 : l.data ≤ 99 := by omega
        by_cases c3 : 3 < n2
        · have HF := Go.Lib.hid (heapOk_no1 (all_no hx (cellOk_bad2 (cs := h.cells) hu (by omega))))
          clear hu c1
          go_wp2_with fail
          refine (l1In_yes _ _ _ _ k3 k4).mono ?_
          rintro e w2 ⟨rfl, hw2⟩
          subst hw2
          go_wp2
          go_ret
          exact ⟨ret_b HF.out.symm, hbx⟩
        have e1 := cellOk_mid (cs := h.cells) hu k3 k4 (by omega)
        clear hu c1
        go_wp2_with fail
        refine (l1In_yes _ _ _ _ k3 k4).mono ?_
        rintro e w2 ⟨rfl, hw2⟩
        subst hw2
        go_wp2_with fail
        refine (l7Refs_any _ _ _ _ h A2 n2 c2 l.refs (hh'.below hbx) hrx).mono ?_
        rintro e w3 ⟨rfl, hb3⟩
        have hb4 := hbx'.trans (hb3.mono (by simp; omega))
        rw [← e1]
        clear e1
        cases hy : cellOk h.cells l
        · have HF := Go.Lib.hid (heapOk_no1 (all_no hx hy))
          clear hy
          go_wp2
          go_ret
          exact ⟨ret_b HF.out.symm, (box2 hb4).2.2.1⟩
        · have hall' := all_succ hall hx hy
          clear hy
          go_wp2
          go_roundw
          case rel => exact ⟨k + 1, by go_num, by omega, hall', hb4⟩
          case measure => simp [intOf]; omega
    · have hall' := all_end hall (by omega : h.cells.length ≤ k)
      by_cases c1 : n ≤ 40
      · by_cases c2 : n' = 4
        · have HE := Go.Lib.hid (heapOk_of hall' (by omega) (by omega))
          subst c2
          clear hall hall'
          go_wp2_with fail
          refine (l7Refs_any _ _ _ _ h A' 4 c' h.roots (hh'.below hbw) (hR.below hbw)).mono ?_
          rintro e w3 ⟨rfl, hb3⟩
          rw [← HE.out]
          go_wp2
          go_ret
          exact ⟨rfl, hbw.trans (hb3.mono (by omega))⟩
        · have HF := Go.Lib.hid (heapOk_no2 (h := h) (by omega))
          have k1 : ((n' : Int) == 4) = false := by simp; omega
          clear c2 hall hall'
          go_wp2
          go_ret
          exact ⟨ret_b HF.out.symm, hbw⟩
      · have HF := Go.Lib.hid (heapOk_no2 (h := h) (by omega))
        clear hall hall'
        go_wp2
        go_ret
        exact ⟨ret_b HF.out.symm, hbw⟩
end Go.Proofs.Ytjpfgbckmcjjaaa
