/- Several texts in one: HvI, HvS, Rc, Rr, Set, Rch, Re, Sz, Eq, Tb, Ti, Th, Tv, Tl, Ts, Thp, Wi, Pu, Vw. Each says ahead of its part what it proves. No condition but those. -/
import Derived.Test.YtdkpfggfkhnjfaaZ0
import Derived.Test.YtdkpfggfkhnjfaaChecked
import Derived.Deep.RegionHeld3
import Derived.Deep.LoopGhost
import Derived.Test.YtdkpfggfkhnjfaaCpS
/- The program's tests of references, cells and heaps return what the plain functions leadsB, cellOk and heapOk say: for every heap that can be read. -/
namespace Go.Proofs.Ytdkpfggfkhnjfaa
open Go.RowKit
theorem leads_any (w : World) (B : Nat) (v : Value) (h : Hp) (r : Int) (hh : RdH w B v h) :
    Calls Try.prog 44 #[v, .int .i64 r] w fun e w' => e = .returned (.bool (leadsB h.cells r)) ∧ Below w.heap.size w w' := by
  obtain ⟨A, n, c, A', n', c', rfl, hC, hR⟩ := hh.top
  have hm := hC.mx; have hcap := hC.cap
  unfold maxLen at hm
  by_cases h1 : r = -1
  · subst h1
    have e1 : leadsB h.cells (-1) = true := by simp [leadsB]
    rw [e1]
    clear e1
    go_enter Try.func44, Try.ntmps44
    go_wp2
    go_ret
    exact ⟨rfl, below_alloc _ _⟩
  by_cases h2 : r < 0
  · have e1 : leadsB h.cells r = false := by simp [leadsB]; omega
    rw [e1]
    clear e1
    go_enter Try.func44, Try.ntmps44
    go_wp2
    go_ret
    exact ⟨by simp [h1], below_alloc _ _⟩
  obtain ⟨k, rfl⟩ := Int.eq_ofNat_of_zero_le (by omega : 0 ≤ r)
  by_cases h3 : k < n
  · obtain ⟨b, o, x, A2, n2, c2, rfl, hb, hx, g1, _⟩ := hC.at_ h3
    have e1 : leadsB h.cells k = x.used := by
      obtain ⟨h4, h5⟩ := List.getElem?_eq_some_iff.1 hx.out
      have : ((k : Int) == -1) = false := by simp
      simp [leadsB, this, h4, h5]
    rw [e1]
    clear e1 h1 h2
    go_enter Try.func44, Try.ntmps44
    go_wp2
    go_ret
    exact ⟨rfl, below_alloc _ _⟩
  · have e1 : leadsB h.cells k = false := by have := hC.len; have h3' : ¬ k < h.cells.length := by omega
                                             have : ((k : Int) == -1) = false := by simp
                                             simp [leadsB, this, h3']
    rw [e1]
    clear e1
    go_enter Try.func44, Try.ntmps44
    go_wp2
    go_ret
    exact ⟨rfl, below_alloc _ _⟩

theorem cellOk_used {cs : List Cel} {c : Cel} (h : c.used = true) : cellOk cs c = (c.refs.all (leadsB cs) && (decide (0 ≤ c.data) && decide (c.data ≤ 99) && decide (c.refs.length ≤ 3))) := by simp [cellOk, h]
theorem cellOk_free {cs : List Cel} {c : Cel} (h : c.used = false) : cellOk cs c = (c.data == 0 && decide (c.refs.length = 0)) := by simp [cellOk, h]

set_option maxHeartbeats 400000 in
theorem cellValid_any (w : World) (B B' : Nat) (v u : Value) (h : Hp) (l : Cel) (hh : RdH w B v h) (hl : RdL w B' u l) :
    Calls Try.prog 43 #[v, u] w fun e w' => e = .returned (.bool (cellOk h.cells l)) ∧ Below w.heap.size w w' := by
  have hh' := hh.top
  obtain ⟨A, n, c, A', n', c', rfl, hC, hR⟩ := hh.top
  obtain ⟨D, m, d, rfl, hr⟩ := hl.top
  have hm := hr.mx; have hcap := hr.cap
  have l1 := RdI.le1 hr; have l2 := RdI.le2 hr
  unfold maxLen at hm
  cases hu : l.used
  · have HE := Go.Lib.hid (cellOk_free (cs := h.cells) hu)
    clear hu
    by_cases c1 : l.data = 0
    · by_cases c2 : m = 0
      · have HF : Hid (cellOk h.cells l = true) := Go.Lib.hid (by rw [HE.out]; simp [c1]; rw [← List.length_eq_zero_iff]; omega)
        have k1 : (l.data == 0) = true := by simp [c1]
        have k2 : ((m : Int) == 0) = true := by simp [c2]
        clear c1 c2
        go_enter Try.func43, Try.ntmps43
        go_wp2
        go_ret
        exact ⟨ret_b HF.out.symm, (below_alloc _ _).alloc (by simp) _⟩
      · have HF : Hid (cellOk h.cells l = false) := Go.Lib.hid (by rw [HE.out]; simp [c1]; intro h0; simp [h0] at l1 l2; omega)
        have k1 : (l.data == 0) = true := by simp [c1]
        have k2 : ((m : Int) == 0) = false := by simp; omega
        clear c1 c2
        go_enter Try.func43, Try.ntmps43
        go_wp2
        go_ret
        exact ⟨ret_b HF.out.symm, (below_alloc _ _).alloc (by simp) _⟩
    · have HF : Hid (cellOk h.cells l = false) := Go.Lib.hid (by rw [HE.out]; simp [c1])
      have k1 : (l.data == 0) = false := by simp [c1]
      clear c1
      go_enter Try.func43, Try.ntmps43
      go_wp2
      go_ret
      exact ⟨ret_b HF.out.symm, (below_alloc _ _).alloc (by simp) _⟩
  · have HE := Go.Lib.hid (cellOk_used (cs := h.cells) hu)
    clear hu
    go_enter Try.func43, Try.ntmps43
    go_wp2_with fail
    go_loopw [22] (fun i wr => ∃ k : Nat, i = .int .i64 k ∧ k ≤ m ∧ (l.refs.take k).all (leadsB h.cells) = true ∧
      Below (w.heap.size + 1 + 1) ((w.alloc (.cells #[.slice A n c, .slice A' n' c'] 29)).alloc (.cells #[.bool true, .int .i64 l.data, .slice D m d] 49)) wr) (fun i _ => m - (intOf i).toNat)
    case atStart => exact ⟨0, rfl, Nat.zero_le _, by simp, Below.refl _ _⟩
    case round =>
      obtain ⟨k, rfl, hk, hall, hb⟩ := hrel
      have hz := hb.size
      simp only [World.size_alloc] at hz
      have hbw : Below w.heap.size w wr := ((below_alloc _ _).alloc (by simp) _).trans (hb.mono (by omega))
      obtain ⟨q0, q1⟩ := heap2 w (.cells #[.slice A n c, .slice A' n' c'] 29) (.cells #[.bool true, .int .i64 l.data, .slice D m d] 49)
      obtain ⟨a0, a1, _, _⟩ := blk2 ((hb.block _ (by omega)).trans q0)
      obtain ⟨b0, b1, b2, _, _, _⟩ := blk3 ((hb.block _ (by omega)).trans q1)
      clear q0 q1
      by_cases hlt : k < m
      · obtain ⟨b, o, x, rfl, hbb, hx, g1⟩ := RdI.at_ (hr.below hbw) hlt
        go_wp2_with fail
        refine (leads_any _ _ _ h _ (hh'.below hbw)).mono ?_
        rintro e w2 ⟨rfl, hb2⟩
        have hb3 := hb.trans (hb2.mono (by omega))
        cases hy : leadsB h.cells x
        · have HF : Hid (cellOk h.cells l = false) := Go.Lib.hid (by rw [HE.out, all_no hx hy]; rfl)
          clear hy g1 a0 a1 b0 b1 b2
          go_wp2
          go_ret
          exact ⟨ret_b HF.out.symm, hbw.trans (hb2.mono (by omega))⟩
        · have hall' := all_succ hall hx hy
          clear hy g1 a0 a1 b0 b1 b2
          go_wp2
          go_roundw
          case rel => exact ⟨k + 1, by go_num, by omega, hall', hb3⟩
          case measure => simp [intOf]; omega
      · have hall' := all_end hall (by omega : l.refs.length ≤ k)
        clear hall
        by_cases d1 : 0 ≤ l.data
        · by_cases d2 : l.data ≤ 99
          · by_cases d3 : m ≤ 3
            · have HF : Hid (cellOk h.cells l = true) := Go.Lib.hid (by rw [HE.out, hall']; simp [d1, d2]; omega)
              go_wp2
              go_ret
              exact ⟨ret_b (by rw [HF.out] <;> simp <;> omega), hbw⟩
            · have HF : Hid (cellOk h.cells l = false) := Go.Lib.hid (by rw [HE.out, hall']; simp [d1, d2]; omega)
              go_wp2
              go_ret
              exact ⟨ret_b (by rw [HF.out] <;> simp <;> omega), hbw⟩
          · have HF : Hid (cellOk h.cells l = false) := Go.Lib.hid (by rw [HE.out, hall']; simp [d1, d2])
            go_wp2
            go_ret
            exact ⟨ret_b (by rw [HF.out] <;> simp <;> omega), hbw⟩
        · have HF : Hid (cellOk h.cells l = false) := Go.Lib.hid (by rw [HE.out, hall']; simp [d1])
          go_wp2
          go_ret
          exact ⟨ret_b (by rw [HF.out] <;> simp <;> omega), hbw⟩

set_option maxHeartbeats 400000 in
theorem heapValid_any (w : World) (B : Nat) (v : Value) (h : Hp) (hh : RdH w B v h) :
    Calls Try.prog 24 #[v] w fun e w' => e = .returned (.bool (heapOk h)) ∧ Below w.heap.size w w' := by
  have hh' := hh.top
  obtain ⟨A, n, c, A', n', c', rfl, hC, hR⟩ := hh.top
  have hm := hC.mx; have hcap := hC.cap
  have hm' := hR.mx; have hcap' := hR.cap
  unfold maxLen at hm hm'
  have hl1 := hC.le1
  have hl2 := hC.le2
  have hl1' := RdI.le1 hR
  have hl2' := RdI.le2 hR
  by_cases c1 : 40 < n
  · have e1 : heapOk h = false := by simp [heapOk]; omega
    rw [e1]; clear e1
    go_enter Try.func24, Try.ntmps24
    go_wp2
    go_ret
    exact ⟨rfl, below_alloc _ _⟩
  by_cases c2 : n' < 4 ∨ 4 < n'
  · have e1 : heapOk h = false := by simp [heapOk]; omega
    have c3 : ((n' : Int) != 4) = true := by simp; omega
    rw [e1]; clear e1
    go_enter Try.func24, Try.ntmps24
    go_wp2
    go_ret
    exact ⟨rfl, below_alloc _ _⟩
  obtain rfl : n' = 4 := by omega
  have HE : Hid (heapOk h = (h.cells.all (cellOk h.cells) && h.roots.all (leadsB h.cells))) := Go.Lib.hid (by
    have : h.roots.length = 4 := by omega
    have : h.cells.length ≤ 40 := by omega
    simp [heapOk, *])
  clear c2 
  go_enter Try.func24, Try.ntmps24
  go_wp2_with fail
  go_loopw [20] (fun i wr => ∃ k : Nat, i = .int .i64 k ∧ k ≤ n ∧ (h.cells.take k).all (cellOk h.cells) = true ∧ Below (w.heap.size + 1) (w.alloc (.cells #[.slice A n c, .slice A' 4 c'] 29)) wr) (fun i _ => n - (intOf i).toNat)
  case atStart => exact ⟨0, rfl, Nat.zero_le _, by simp, Below.refl _ _⟩
  case round =>
    obtain ⟨k, rfl, hk, hall, hb⟩ := hrel
    obtain ⟨hb0, hb1, hbw, hsz⟩ := box2 hb
    by_cases hlt : k < n
    · obtain ⟨b, o, l, A2, n2, c2, rfl, hbb, hx, g1, g2, g3, hr⟩ := (hC.below hbw).at_ hlt
      have hbb' : b < wr.heap.size := by omega
      go_wp2_with fail
      refine (cellValid_any _ _ _ _ _ h l (hh'.below (hbw.trans ((Below.refl _ _).alloc (by omega) _))) ⟨_, _, _, rfl, hr.below ((Below.refl _ _).alloc (by omega) _)⟩).mono ?_
      rintro e w2 ⟨rfl, hb2⟩
      have hb3 := hb.trans (((below_alloc wr _).trans (hb2.mono (by simp))).mono (by omega))
      cases hy : cellOk h.cells l
      · have HF : Hid (heapOk h = false) := Go.Lib.hid (by rw [HE.out, all_no hx hy]; rfl)
        clear hy g1 g2 g3 
        go_wp2
        go_ret
        exact ⟨ret_b HF.out.symm, (box2 hb3).2.2.1⟩
      · have hall' := all_succ hall hx hy
        clear hy g1 g2 g3
        go_wp2
        go_roundw
        case rel => exact ⟨k + 1, by go_num, by omega, hall', hb3⟩
        case measure => simp [intOf]; omega
    · have hall' := all_end hall (by omega : h.cells.length ≤ k)
      clear hall
      go_wp2_with fail
      obtain ⟨wo, rfl⟩ : ∃ wo : World, wo = wr := ⟨_, rfl⟩
      go_loopw [32] (fun i wr => ∃ k : Nat, i = .int .i64 k ∧ k ≤ 4 ∧ (h.roots.take k).all (leadsB h.cells) = true ∧ Below (w.heap.size + 1) (w.alloc (.cells #[.slice A n c, .slice A' 4 c'] 29)) wr) (fun i _ => 4 - (intOf i).toNat)
      case atStart => exact ⟨0, rfl, Nat.zero_le _, by simp, hb⟩
      case round =>
        obtain ⟨k2, rfl, hk2, hall2, hb'⟩ := hrel
        obtain ⟨hb0', hb1', hbw', hsz'⟩ := box2 hb'
        clear hb0 hb1 hsz
        by_cases hlt2 : k2 < 4
        · obtain ⟨b, o, x, rfl, hbb, hx, g1⟩ := RdI.at_ (hR.below hbw') hlt2
          go_wp2_with fail
          refine (leads_any _ _ _ h _ (hh'.below hbw')).mono ?_
          rintro e w2 ⟨rfl, hb2⟩
          have hb3 := hb'.trans (hb2.mono (by omega))
          cases hy : leadsB h.cells x
          · have HF : Hid (heapOk h = false) := Go.Lib.hid (by rw [HE.out, all_no hx hy]; simp)
            clear hy g1
            go_wp2
            go_ret
            exact ⟨ret_b HF.out.symm, (box2 hb3).2.2.1⟩
          · have hall' := all_succ hall2 hx hy
            clear hy g1
            go_wp2
            go_roundw
            case rel => exact ⟨k2 + 1, by go_num, by omega, hall', hb3⟩
            case measure => simp [intOf]; omega
        · have HF : Hid (heapOk h = true) := Go.Lib.hid (by rw [HE.out, hall', all_end hall2 (by omega)]; rfl)
          go_wp2
          go_ret
          exact ⟨ret_b HF.out.symm, hbw'⟩
end Go.Proofs.Ytdkpfggfkhnjfaa

/- The reference's tests of references, cells and heaps return what the plain functions leadsB and heapOk say: for every heap that can be read. -/
namespace Go.Proofs.Ytdkpfggfkhnjfaa
open Go.RowKit
theorem l1In_yes (n lo hi : Int) (w : World) (h1 : lo ≤ n) (h2 : n ≤ hi) :
    Calls Try.prog 17 #[.int .i64 n, .int .i64 lo, .int .i64 hi] w fun e w' => e = .returned (.bool true) ∧ w' = w := by
  go_enter Try.func17, Try.ntmps17
  go_wp2
  go_ret
  exact ⟨rfl, rfl⟩
theorem l1In_no (n lo hi : Int) (w : World) (h1 : n < lo ∨ hi < n) :
    Calls Try.prog 17 #[.int .i64 n, .int .i64 lo, .int .i64 hi] w fun e w' => e = .returned (.bool false) ∧ w' = w := by
  by_cases h : n < lo
  · go_enter Try.func17, Try.ntmps17
    go_wp2
    go_ret
    exact ⟨rfl, rfl⟩
  · have h2 : hi < n := by omega
    clear h1
    go_enter Try.func17, Try.ntmps17
    go_wp2
    go_ret
    exact ⟨ret_b (by simp <;> omega), rfl⟩

theorem leadsB_nil (cs : List Cel) : leadsB cs (-1) = true := by simp [leadsB]
theorem leadsB_out {cs : List Cel} {x : Int} (h0 : x ≠ -1) (h : x < 0 ∨ (cs.length : Int) ≤ x) : leadsB cs x = false := by
  have : (x == -1) = false := by simp [h0]
  simp [leadsB, this]; omega
theorem leadsB_in {cs : List Cel} {q : Nat} {l : Cel} (h : Hid (cs[q]? = some l)) : leadsB cs (q : Int) = l.used := by
  obtain ⟨h4, h5⟩ := List.getElem?_eq_some_iff.1 h.out
  have : ((q : Int) == -1) = false := by simp
  simp [leadsB, this, h4, h5]

set_option maxHeartbeats 800000 in
theorem l7Refs_any (w : World) (B B' : Nat) (v : Value) (h : Hp) (A : Option Addr) (n c : Nat) (xs : List Int) (hh : RdH w B v h) (hr : RdI w B' A n c xs) :
    Calls Try.prog 61 #[v, .slice A n c] w fun e w' => e = .returned (.bool (xs.all (leadsB h.cells))) ∧ Below w.heap.size w w' := by
  have hr := hr.top
  obtain ⟨D, m, d, D', m', d', rfl, hC, hR⟩ := hh.top
  have hm := hr.mx; have hcap := hr.cap
  have hm1 := hC.mx; have hcap1 := hC.cap
  have l1 := RdI.le1 hr; have l2 := RdI.le2 hr
  have l3 := hC.le1; have l4 := hC.le2
  unfold maxLen at hm hm1
  go_enter Try.func61, Try.ntmps61
  go_wp2_with fail
  go_loopw [5] (fun i wr => ∃ k : Nat, i = .int .i64 k ∧ k ≤ n ∧ (xs.take k).all (leadsB h.cells) = true ∧
    Below (w.heap.size + 1) (w.alloc (.cells #[.slice D m d, .slice D' m' d'] 29)) wr) (fun i _ => n - (intOf i).toNat)
  case atStart => exact ⟨0, rfl, Nat.zero_le _, by simp, Below.refl _ _⟩
  case round =>
    obtain ⟨k, rfl, hk, hall, hb⟩ := hrel
    obtain ⟨a0, a1, hbw, hz⟩ := box2 hb
    by_cases hlt : k < n
    · obtain ⟨b, o, x, rfl, hbb, hx, g1⟩ := RdI.at_ (hr.below hbw) hlt
      have i1 : (0 : Int) ≤ (k : Int) := by omega
      have i2 : (k : Int) < (n : Int) := by omega
      by_cases c1 : x = -1
      · subst c1
        have hall' := all_succ hall hx (leadsB_nil h.cells)
        go_wp2_with fail
        go_quiet (fail)
        go_wp2
        go_roundw
        case rel => exact ⟨k + 1, by go_num, by omega, hall', below_drewN hb _⟩
        case measure => simp [intOf]; omega
      have k1 : (x != -1) = true := by simp [c1]
      by_cases c2 : x < 0 ∨ (m : Int) ≤ x
      · have HF := Go.Lib.hid (all_no hx (leadsB_out c1 (by omega : x < 0 ∨ (h.cells.length : Int) ≤ x)))
        clear c1
        go_wp2_with fail
        go_quiet ((go_at_call 17; exact Calls.quiet_of_same (l1In_no _ _ _ _ (by omega))))
        go_wp2
        go_ret
        exact ⟨ret_b HF.out.symm, below_drewN hbw _⟩
      obtain ⟨q, rfl⟩ := Int.eq_ofNat_of_zero_le (by omega : 0 ≤ x)
      have hq : q < m := by omega
      obtain ⟨b', o', l, A2, n2, c2', rfl, hbb', hx', g1', _⟩ := (hC.below hbw).at_ hq
      have e1 := leadsB_in hx'
      have i3 : (0 : Int) ≤ (q : Int) := by omega
      have i4 : (q : Int) < (m : Int) := by omega
      cases hu : l.used
      · rw [hu] at e1 g1'
        have HF := Go.Lib.hid (all_no hx e1)
        clear c1 c2 e1 hu
        go_wp2_with fail
        go_quiet ((go_at_call 17; exact Calls.quiet_of_same (l1In_yes _ _ _ _ (by omega) (by omega))))
        go_wp2
        go_ret
        exact ⟨ret_b HF.out.symm, below_drewN hbw _⟩
      · rw [hu] at e1 g1'
        have hall' := all_succ hall hx e1
        clear c1 c2 e1 hu
        go_wp2_with fail
        go_quiet ((go_at_call 17; exact Calls.quiet_of_same (l1In_yes _ _ _ _ (by omega) (by omega))))
        go_wp2
        go_roundw
        case rel => exact ⟨k + 1, by go_num, by omega, hall', below_drewN hb _⟩
        case measure => simp [intOf]; omega
    · have HF := Go.Lib.hid (all_end hall (by omega : xs.length ≤ k))
      go_wp2
      go_ret
      exact ⟨ret_b HF.out.symm, hbw⟩

theorem cellOk_bad1 {cs : List Cel} {l : Cel} (h : l.used = false) (h2 : l.data ≠ 0 ∨ 0 < l.refs.length) : cellOk cs l = false := by
  rw [cellOk_free h]; simp; intro h3; have : l.refs.length ≠ 0 := by omega
  simpa using this
theorem cellOk_good1 {cs : List Cel} {l : Cel} (h : l.used = false) (h2 : l.data = 0) (h3 : l.refs.length = 0) : cellOk cs l = true := by rw [cellOk_free h]; simp [h2, h3]
theorem cellOk_bad2 {cs : List Cel} {l : Cel} (h : l.used = true) (h2 : l.data < 0 ∨ 99 < l.data ∨ 3 < l.refs.length) : cellOk cs l = false := by
  rw [cellOk_used h]; simp; intros; omega
theorem cellOk_mid {cs : List Cel} {l : Cel} (h : l.used = true) (h1 : 0 ≤ l.data) (h2 : l.data ≤ 99) (h3 : l.refs.length ≤ 3) : cellOk cs l = l.refs.all (leadsB cs) := by
  rw [cellOk_used h]; simp [h1, h2, h3]
theorem heapOk_of {h : Hp} (h1 : h.cells.all (cellOk h.cells) = true) (h2 : h.cells.length ≤ 40) (h3 : h.roots.length = 4) : heapOk h = h.roots.all (leadsB h.cells) := by simp [heapOk, h1, h2, h3]
theorem heapOk_no1 {h : Hp} (h1 : h.cells.all (cellOk h.cells) = false) : heapOk h = false := by simp [heapOk, h1]
theorem heapOk_no2 {h : Hp} (h1 : 40 < h.cells.length ∨ h.roots.length ≠ 4) : heapOk h = false := by simp [heapOk]; omega

set_option maxHeartbeats 1600000 in
theorem specHeapValid_any (w : World) (B : Nat) (v : Value) (h : Hp) (hh : RdH w B v h) :
    Calls Try.prog 36 #[v] w fun e w' => e = .returned (.bool (heapOk h)) ∧ Below w.heap.size w w' := by
  have hh' := hh.top
  obtain ⟨A, n, c, A', n', c', rfl, hC, hR⟩ := hh.top
  have hm := hC.mx; have hcap := hC.cap
  have hm' := hR.mx; have hcap' := hR.cap
  unfold maxLen at hm hm'
  have l1 := hC.le1; have l2 := hC.le2
  have l1' := RdI.le1 hR; have l2' := RdI.le2 hR
  go_enter Try.func36, Try.ntmps36
  go_wp2_with fail
  go_loopw [3] (fun i wr => ∃ k : Nat, i = .int .i64 k ∧ k ≤ n ∧ (h.cells.take k).all (cellOk h.cells) = true ∧ Below (w.heap.size + 1) (w.alloc (.cells #[.slice A n c, .slice A' n' c'] 29)) wr) (fun i _ => n - (intOf i).toNat)
  case atStart => exact ⟨0, rfl, Nat.zero_le _, by simp, Below.refl _ _⟩
  case round =>
    obtain ⟨k, rfl, hk, hall, hb⟩ := hrel
    obtain ⟨a0, a1, hbw, hz⟩ := box2 hb
    by_cases hlt : k < n
    · obtain ⟨b, o, l, A2, n2, c2, rfl, hbb, hx, g1, g2, g3, hr⟩ := (hC.below hbw).at_ hlt
      have hbb' : b < wr.heap.size := by omega
      have m1 := RdI.le1 hr; have m2 := RdI.le2 hr
      have m3 := hr.mx; have m4 := hr.cap
      unfold maxLen at m3
      have hbx : Below w.heap.size w (wr.alloc (.cells #[.bool l.used, .int .i64 l.data, .slice A2 n2 c2] 49)) := hbw.alloc (by omega) _
      have hbx' := hb.alloc (by omega : w.heap.size + 1 ≤ wr.heap.size) (.cells #[.bool l.used, .int .i64 l.data, .slice A2 n2 c2] 49)
      have hrx := hr.below ((Below.refl w.heap.size wr).alloc (by omega) (.cells #[.bool l.used, .int .i64 l.data, .slice A2 n2 c2] 49))
      cases hu : l.used
      · rw [hu] at g1 hbx hbx' hrx
        by_cases c1 : l.data = 0
        · by_cases c4 : 0 < n2
          · have HF := Go.Lib.hid (heapOk_no1 (all_no hx (cellOk_bad1 (cs := h.cells) hu (by omega))))
            have k1 : (l.data != 0) = false := by simp [c1]
            clear c1 hu
            go_wp2
            go_ret
            exact ⟨ret_b HF.out.symm, hbx⟩
          · have hy := cellOk_good1 (cs := h.cells) hu c1 (by omega)
            have hall' := all_succ hall hx hy
            have HR : Hid (l.refs.all (leadsB h.cells) = true) := Go.Lib.hid (by
              have : l.refs = [] := List.length_eq_zero_iff.1 (by omega)
              simp [this])
            have k1 : (l.data != 0) = false := by simp [c1]
            have k3 : (0 : Int) ≤ l.data := by omega
            have k4 : l.data ≤ 99 := by omega
            clear c1 hu hy
            go_wp2_with fail
            refine (l1In_yes _ _ _ _ k3 k4).mono ?_
            rintro e w2 ⟨rfl, hw2⟩
            subst hw2
            go_wp2_with fail
            refine (l7Refs_any _ _ _ _ h A2 n2 c2 l.refs (hh'.below hbx) hrx).mono ?_
            rintro e w3 ⟨rfl, hb3⟩
            have hb4 := hbx'.trans (hb3.mono (by simp; omega))
            rw [HR.out]
            go_wp2
            go_roundw
            case rel => exact ⟨k + 1, by go_num, by omega, hall', hb4⟩
            case measure => simp [intOf]; omega
        · have HF := Go.Lib.hid (heapOk_no1 (all_no hx (cellOk_bad1 (cs := h.cells) hu (.inl c1))))
          have k1 : (l.data != 0) = true := by simp [c1]
          clear c1 hu
          go_wp2
          go_ret
          exact ⟨ret_b HF.out.symm, hbx⟩
      · rw [hu] at g1 hbx hbx' hrx
        by_cases c1 : l.data < 0 ∨ 99 < l.data
        · have HF := Go.Lib.hid (heapOk_no1 (all_no hx (cellOk_bad2 (cs := h.cells) hu (by omega))))
          clear hu
          go_wp2_with fail
          refine (l1In_no _ _ _ _ c1).mono ?_
          rintro e w2 ⟨rfl, hw2⟩
          subst hw2
          go_wp2
          go_ret
          exact ⟨ret_b HF.out.symm, hbx⟩
        have k3 : (0 : Int) ≤ l.data := by omega
        have k4 : l.data ≤ 99 := by omega
        by_cases c3 : 3 < n2
        · have HF := Go.Lib.hid (heapOk_no1 (all_no hx (cellOk_bad2 (cs := h.cells) hu (by omega))))
          clear hu c1
          go_wp2_with fail
          refine (l1In_yes _ _ _ _ k3 k4).mono ?_
          rintro e w2 ⟨rfl, hw2⟩
          subst hw2
          go_wp2
          go_ret
          exact ⟨ret_b HF.out.symm, hbx⟩
        have e1 := cellOk_mid (cs := h.cells) hu k3 k4 (by omega)
        clear hu c1
        go_wp2_with fail
        refine (l1In_yes _ _ _ _ k3 k4).mono ?_
        rintro e w2 ⟨rfl, hw2⟩
        subst hw2
        go_wp2_with fail
        refine (l7Refs_any _ _ _ _ h A2 n2 c2 l.refs (hh'.below hbx) hrx).mono ?_
        rintro e w3 ⟨rfl, hb3⟩
        have hb4 := hbx'.trans (hb3.mono (by simp; omega))
        rw [← e1]
        clear e1
        cases hy : cellOk h.cells l
        · have HF := Go.Lib.hid (heapOk_no1 (all_no hx hy))
          clear hy
          go_wp2
          go_ret
          exact ⟨ret_b HF.out.symm, (box2 hb4).2.2.1⟩
        · have hall' := all_succ hall hx hy
          clear hy
          go_wp2
          go_roundw
          case rel => exact ⟨k + 1, by go_num, by omega, hall', hb4⟩
          case measure => simp [intOf]; omega
    · have hall' := all_end hall (by omega : h.cells.length ≤ k)
      by_cases c1 : n ≤ 40
      · by_cases c2 : n' = 4
        · have HE := Go.Lib.hid (heapOk_of hall' (by omega) (by omega))
          subst c2
          clear hall hall'
          go_wp2_with fail
          refine (l7Refs_any _ _ _ _ h A' 4 c' h.roots (hh'.below hbw) (hR.below hbw)).mono ?_
          rintro e w3 ⟨rfl, hb3⟩
          rw [← HE.out]
          go_wp2
          go_ret
          exact ⟨rfl, hbw.trans (hb3.mono (by omega))⟩
        · have HF := Go.Lib.hid (heapOk_no2 (h := h) (by omega))
          have k1 : ((n' : Int) == 4) = false := by simp; omega
          clear c2 hall hall'
          go_wp2
          go_ret
          exact ⟨ret_b HF.out.symm, hbw⟩
      · have HF := Go.Lib.hid (heapOk_no2 (h := h) (by omega))
        clear hall hall'
        go_wp2
        go_ret
        exact ⟨ret_b HF.out.symm, hbw⟩
end Go.Proofs.Ytdkpfggfkhnjfaa

/- Plain laws on what can be reached in a list of cells, on sets of cells as bits of a number, and on the two ways to find all that can be reached. No program; no condition. -/
namespace Go.Proofs.Ytdkpfggfkhnjfaa
open Go.RowKit
open Classical
/-! ### Bits -/
def bitsOf : Nat → (Nat → Bool) → Nat
  | 0, _ => 0
  | n + 1, p => bitsOf n p ||| (if p n then 2 ^ n else 0)
theorem bitsOf_bit : ∀ (n : Nat) (p : Nat → Bool) (c : Nat), (bitsOf n p).testBit c = (decide (c < n) && p c)
  | 0, p, c => by simp [bitsOf]
  | n + 1, p, c => by
    rw [bitsOf, Nat.testBit_or, bitsOf_bit n p c]
    by_cases h : c = n
    · subst h
      by_cases hp : p c = true
      · simp [hp]
      · simp at hp; simp [hp]
    · have e : ((if p n = true then 2 ^ n else 0 : Nat).testBit c) = false := by
        split
        · rw [Nat.testBit_two_pow]; simp; omega
        · simp
      rw [e]
      by_cases h2 : c < n
      · simp [h2, show c < n + 1 by omega]
      · simp [h2, show ¬ c < n + 1 by omega]
theorem bitsOf_lt (n : Nat) (p : Nat → Bool) : bitsOf n p < 2 ^ n := by
  apply Nat.lt_pow_two_of_testBit
  intro i hi
  rw [bitsOf_bit]; simp; omega
theorem bits_eq {n m : Nat} {p : Nat → Bool} (h : m < 2 ^ n) (hb : ∀ c, c < n → m.testBit c = p c) : m = bitsOf n p := by
  apply Nat.eq_of_testBit_eq
  intro c
  rw [bitsOf_bit]
  by_cases hc : c < n
  · simp [hc, hb c hc]
  · simp [hc]
    exact Nat.testBit_lt_two_pow (Nat.lt_of_lt_of_le h (Nat.pow_le_pow_right (by omega) (by omega)))
/-- Whether a number is one of a set. -/
def hasB (m : Nat) (r : Int) : Bool := decide (0 ≤ r) && m.testBit r.toNat
def addB (m : Nat) (r : Int) : Nat := m ||| 2 ^ r.toNat
theorem hasB_nat (m c : Nat) : hasB m (c : Int) = m.testBit c := by simp [hasB]
theorem hasB_neg {m : Nat} {r : Int} (h : r < 0) : hasB m r = false := by simp [hasB]; omega
theorem hasB_pos {m : Nat} {r : Int} (h : hasB m r = true) : 0 ≤ r ∧ m.testBit r.toNat = true := by simpa [hasB] using h
theorem testBit_lt {m c : Nat} (h : m < 2 ^ 64) (hc : m.testBit c = true) : c < 64 := by
  rcases Nat.lt_or_ge c 64 with h1 | h1
  · exact h1
  · rw [Nat.testBit_lt_two_pow (Nat.lt_of_lt_of_le h (Nat.pow_le_pow_right (by omega) h1))] at hc; cases hc
theorem hasB_lt {m : Nat} {r : Int} (h : m < 2 ^ 64) (hc : hasB m r = true) : 0 ≤ r ∧ r < 64 := by
  obtain ⟨h0, h1⟩ := hasB_pos hc
  have := testBit_lt h h1
  omega
theorem addB_lt {m : Nat} {r : Int} (h : m < 2 ^ 64) (h0 : 0 ≤ r) (h1 : r < 64) : addB m r < 2 ^ 64 := by
  unfold addB
  exact Nat.or_lt_two_pow h (Nat.pow_lt_pow_right (by omega) (by omega))
theorem addB_bit (m : Nat) (r : Int) (c : Nat) : (addB m r).testBit c = (m.testBit c || decide (r.toNat = c)) := by
  unfold addB
  rw [Nat.testBit_or, Nat.testBit_two_pow]
theorem addB_has {m : Nat} {r : Int} (h0 : 0 ≤ r) (x : Int) : hasB (addB m r) x = (hasB m x || decide (x = r)) := by
  unfold hasB
  rw [addB_bit]
  by_cases hx : 0 ≤ x
  · simp only [hx, decide_true, Bool.true_and]
    congr 1
    rw [decide_eq_decide]
    omega
  · simp [hx]; omega
/-! ### How many of 64 are not in a set -/
def freeN (m : Nat) : Nat → Nat
  | 0 => 0
  | n + 1 => freeN m n + if m.testBit n then 0 else 1
theorem freeN_le (m : Nat) : ∀ n, freeN m n ≤ n
  | 0 => Nat.le_refl _
  | n + 1 => by have := freeN_le m n; rw [freeN]; split <;> omega
theorem freeN_same {m : Nat} {r : Int} (h0 : 0 ≤ r) : ∀ n, n ≤ r.toNat → freeN (addB m r) n = freeN m n
  | 0, _ => rfl
  | n + 1, h => by
    rw [freeN, freeN, freeN_same h0 n (by omega), addB_bit]
    simp [show ¬ r.toNat = n by omega]
theorem freeN_add {m : Nat} {r : Int} (h0 : 0 ≤ r) (hm : m.testBit r.toNat = false) : ∀ n, r.toNat < n → freeN (addB m r) n + 1 = freeN m n
  | 0, h => by omega
  | n + 1, h => by
    rw [freeN, freeN, addB_bit]
    by_cases e : r.toNat = n
    · subst e
      rw [freeN_same h0 _ (Nat.le_refl _), hm]; simp
    · have := freeN_add h0 hm n (by omega)
      simp [e]; omega
abbrev free (m : Nat) : Nat := freeN m 64
theorem free_add {m : Nat} {r : Int} (h0 : 0 ≤ r) (h1 : r < 64) (hm : hasB m r = false) : free (addB m r) + 1 = free m :=
  freeN_add h0 (by simpa [hasB, h0] using hm) 64 (by omega)
/-! ### What can be reached -/
inductive Rch (cs : List Cel) (S : Nat → Bool) (fr : List Int) : Nat → Prop
  | base {r : Int} : r ∈ fr → 0 ≤ r → S r.toNat = true → Rch cs S fr r.toNat
  | step {c : Nat} {l : Cel} {r : Int} : Rch cs S fr c → cs[c]? = some l → r ∈ l.refs → 0 ≤ r → S r.toNat = true → Rch cs S fr r.toNat
theorem Rch.inS {cs : List Cel} {S : Nat → Bool} {fr : List Int} {c : Nat} (h : Rch cs S fr c) : S c = true := by
  cases h <;> assumption
theorem Rch.mono {cs : List Cel} {S T : Nat → Bool} {fr fr' : List Int} (hS : ∀ c, S c = true → T c = true) (hf : ∀ r ∈ fr, r ∈ fr') {c : Nat} (h : Rch cs S fr c) : Rch cs T fr' c := by
  induction h with
  | base h1 h2 h3 => exact .base (hf _ h1) h2 (hS _ h3)
  | step _ h1 h2 h3 h4 ih => exact .step ih h1 h2 h3 (hS _ h4)
def usedN (cs : List Cel) (c : Nat) : Bool := (cs.getD c noCel).used
theorem usedN_at {cs : List Cel} {c : Nat} {l : Cel} (h : Hid (cs[c]? = some l)) : usedN cs c = l.used := by unfold usedN; rw [getD_of h]
theorem usedN_lt {cs : List Cel} {c : Nat} (h : usedN cs c = true) : c < cs.length := by
  rcases Nat.lt_or_ge c cs.length with h1 | h1
  · exact h1
  · simp [usedN, List.getD, List.getElem?_eq_none h1, noCel] at h
theorem leadsB_used {cs : List Cel} {r : Int} (h : leadsB cs r = true) (h0 : 0 ≤ r) : usedN cs r.toNat = true := by
  have h1 : (r == -1) = false := by simp; omega
  simp only [leadsB, h1, Bool.false_or, Bool.and_eq_true] at h
  exact h.2
noncomputable def reachB (cs : List Cel) (fr : List Int) (c : Nat) : Bool := decide (Rch cs (usedN cs) fr c)
noncomputable def reachL (cs : List Cel) (fr : List Int) : List Bool := (List.range cs.length).map (reachB cs fr)
def usedM (cs : List Cel) : Nat := bitsOf 64 (usedN cs)
noncomputable def closM (cs : List Cel) (S : Nat) (fr : List Int) : Nat := bitsOf 64 (fun c => decide (Rch cs S.testBit fr c))
theorem usedM_bit {cs : List Cel} (h : cs.length ≤ 64) (c : Nat) : (usedM cs).testBit c = usedN cs c := by
  unfold usedM
  rw [bitsOf_bit]
  by_cases hc : c < 64
  · simp [hc]
  · have : usedN cs c = false := by
      cases hu : usedN cs c
      · rfl
      · have := usedN_lt hu; omega
    simp [this]
theorem usedM_lt (cs : List Cel) : usedM cs < 2 ^ 64 := bitsOf_lt _ _
theorem closM_lt (cs : List Cel) (S : Nat) (fr : List Int) : closM cs S fr < 2 ^ 64 := bitsOf_lt _ _
theorem closM_bit {cs : List Cel} {S : Nat} {fr : List Int} (h : S < 2 ^ 64) (c : Nat) : (closM cs S fr).testBit c = decide (Rch cs S.testBit fr c) := by
  unfold closM
  rw [bitsOf_bit]
  by_cases hc : c < 64
  · simp [hc]
  · have : ¬ Rch cs S.testBit fr c := fun hr => hc (testBit_lt h hr.inS)
    simp [this]
theorem closM_used {cs : List Cel} {fr : List Int} (h : cs.length ≤ 64) (c : Nat) : (closM cs (usedM cs) fr).testBit c = reachB cs fr c := by
  rw [closM_bit (usedM_lt cs)]
  unfold reachB
  rw [show (usedM cs).testBit = usedN cs from funext fun c => usedM_bit h c]
/-! ### Met with a stack -/
def visit1 (S : Nat) (st : Nat × List Int) (r : Int) : Nat × List Int := if hasB S r && !hasB st.1 r then (addB st.1 r, st.2 ++ [r]) else st
def visit (S : Nat) (st : Nat × List Int) (rs : List Int) : Nat × List Int := rs.foldl (visit1 S) st
theorem visit_take {S : Nat} {st : Nat × List Int} {rs : List Int} {k : Nat} {r : Int} (h : Hid (rs[k]? = some r)) : visit S st (rs.take (k + 1)) = visit1 S (visit S st (rs.take k)) r := by
  obtain ⟨hk, rfl⟩ := List.getElem?_eq_some_iff.1 h.out
  unfold visit
  rw [List.take_succ_eq_append_getElem hk, List.foldl_append]; rfl
/-- What stays true of a set and a stack while cells are visited. -/
structure Met (cs : List Cel) (S : Nat) (fr : List Int) (st : Nat × List Int) : Prop where
  rch : ∀ c, st.1.testBit c = true → Rch cs S.testBit fr c
  stack : ∀ r ∈ st.2, hasB st.1 r = true
  lt : st.1 < 2 ^ 64
  room : st.2.length + free st.1 ≤ 64
theorem Met.visit1 {cs : List Cel} {S : Nat} {fr : List Int} {st : Nat × List Int} {r : Int} (hS : S < 2 ^ 64) (h : Met cs S fr st) (hr : hasB S r = true → Rch cs S.testBit fr r.toNat) : Met cs S fr (visit1 S st r) ∧ (visit1 S st r).2.length + free (visit1 S st r).1 = st.2.length + free st.1 ∧ (∀ x, hasB st.1 x = true → hasB (visit1 S st r).1 x = true) ∧ (hasB S r = true → hasB (visit1 S st r).1 r = true) ∧ (∀ x, x ∈ st.2 → x ∈ (visit1 S st r).2) ∧ (∀ c, (visit1 S st r).1.testBit c = true → st.1.testBit c = true ∨ (c : Int) ∈ (visit1 S st r).2) := by
  unfold Go.Proofs.Ytdkpfggfkhnjfaa.visit1
  by_cases hc : (hasB S r && !hasB st.1 r) = true
  · rw [if_pos hc]
    simp only [Bool.and_eq_true, Bool.not_eq_true'] at hc
    obtain ⟨h0, h1⟩ := hasB_lt hS hc.1
    have hf := free_add h0 h1 hc.2
    have hro := h.room
    refine ⟨⟨fun c hb => ?_, fun x hx => ?_, addB_lt h.lt h0 h1, by simp; omega⟩, by simp; omega, fun x hx => ?_, fun _ => ?_, fun x hx => by simp [hx], fun c hb => ?_⟩
    · simp only [addB_bit, Bool.or_eq_true, decide_eq_true_eq] at hb
      rcases hb with hb | rfl
      · exact h.rch c hb
      · exact hr hc.1
    · simp only [List.mem_append, List.mem_singleton] at hx
      rw [addB_has h0]
      rcases hx with hx | rfl
      · simp [h.stack x hx]
      · simp
    · rw [addB_has h0, hx]; rfl
    · rw [addB_has h0]; simp
    · simp only [addB_bit, Bool.or_eq_true, decide_eq_true_eq] at hb
      rcases hb with hb | hb
      · exact .inl hb
      · right; simp; right; omega
  · rw [if_neg hc]
    refine ⟨h, rfl, fun x hx => hx, fun hs => ?_, fun x hx => hx, fun c hb => .inl hb⟩
    simpa [hs] using hc
theorem Met.visit {cs : List Cel} {S : Nat} {fr : List Int} (hS : S < 2 ^ 64) : ∀ (rs : List Int) (st : Nat × List Int), Met cs S fr st → (∀ r ∈ rs, hasB S r = true → Rch cs S.testBit fr r.toNat) →
    Met cs S fr (visit S st rs) ∧ (visit S st rs).2.length + free (visit S st rs).1 = st.2.length + free st.1 ∧ (∀ x, hasB st.1 x = true → hasB (visit S st rs).1 x = true) ∧ (∀ r ∈ rs, hasB S r = true → hasB (visit S st rs).1 r = true) ∧ (∀ x, x ∈ st.2 → x ∈ (visit S st rs).2) ∧ (∀ c, (visit S st rs).1.testBit c = true → st.1.testBit c = true ∨ (c : Int) ∈ (visit S st rs).2)
  | [], st, h, _ => ⟨h, rfl, fun _ hx => hx, fun r hr => by simp at hr, fun _ hx => hx, fun _ hb => .inl hb⟩
  | r :: rs, st, h, hr => by
    obtain ⟨a1, a2, a3, a4, a5, a6⟩ := h.visit1 hS (hr r (by simp))
    obtain ⟨b1, b2, b3, b4, b5, b6⟩ := Met.visit hS rs (Go.Proofs.Ytdkpfggfkhnjfaa.visit1 S st r) a1 fun x hx => hr x (by simp [hx])
    refine ⟨b1, b2.trans a2, fun x hx => b3 x (a3 x hx), fun x hx hs => ?_, fun x hx => b5 x (a5 x hx), fun c hb => ?_⟩
    · rcases List.mem_cons.1 hx with rfl | hx
      · exact b3 _ (a4 hs)
      · exact b4 x hx hs
    · rcases b6 c hb with hb | hb
      · rcases a6 c hb with hb | hb
        · exact .inl hb
        · exact .inr (b5 _ hb)
      · exact .inr hb
/-- All of it: what was met has its references met, or is still on the stack. -/
structure Clo (cs : List Cel) (S : Nat) (fr : List Int) (st : Nat × List Int) : Prop extends Met cs S fr st where
  first : ∀ r ∈ fr, hasB S r = true → hasB st.1 r = true
  next : ∀ c l, st.1.testBit c = true → cs[c]? = some l → (c : Int) ∈ st.2 ∨ ∀ r ∈ l.refs, hasB S r = true → hasB st.1 r = true
theorem met_start {cs : List Cel} {S : Nat} {fr : List Int} : Met cs S fr (0, []) := ⟨fun c h => by simp at h, fun r h => by simp at h, by simp, by show 0 + freeN 0 64 ≤ 64; have := freeN_le 0 64; omega⟩
theorem clo_start {cs : List Cel} {S : Nat} {fr : List Int} (hS : S < 2 ^ 64) : Clo cs S fr (visit S (0, []) fr) := by
  obtain ⟨b1, b2, b3, b4, b5, b6⟩ := Met.visit (cs := cs) (fr := fr) hS fr (0, []) met_start fun r hr hs => .base hr (hasB_pos hs).1 (hasB_pos hs).2
  refine { toMet := b1, first := b4, next := fun c l hc hl => ?_ }
  rcases b6 c hc with h | h
  · simp at h
  · exact .inl h
theorem clo_step {cs : List Cel} {S : Nat} {fr : List Int} {m : Nat} {ws : List Int} {c : Nat} {l : Cel} (hS : S < 2 ^ 64) (h : Clo cs S fr (m, ws ++ [(c : Int)])) (hl : cs[c]? = some l) :
    Clo cs S fr (visit S (m, ws) l.refs) ∧ (visit S (m, ws) l.refs).2.length + free (visit S (m, ws) l.refs).1 + 1 = ws.length + 1 + free m := by
  have hc : m.testBit c = true := by have := h.stack c (by simp); rwa [hasB_nat] at this
  have hm : Met cs S fr (m, ws) := ⟨h.rch, fun r hr => h.stack r (by simp [hr]), h.lt, by have := h.room; simp at this ⊢; omega⟩
  obtain ⟨b1, b2, b3, b4, b5, b6⟩ := hm.visit hS l.refs (m, ws) fun r hr hs => .step (h.rch c hc) hl hr (hasB_pos hs).1 (hasB_pos hs).2
  refine ⟨{ toMet := b1, first := fun r hr hs => b3 r (h.first r hr hs), next := fun d k hd hk => ?_ }, by simp at b2; omega⟩
  rcases b6 d hd with h1 | h1
  · rcases h.next d k h1 hk with h2 | h2
    · simp only [List.mem_append, List.mem_singleton] at h2
      rcases h2 with h2 | h2
      · exact .inl (b5 _ h2)
      · have e : d = c := by omega
        subst e
        rw [hl] at hk
        injection hk with hk
        subst hk
        exact .inr b4
    · exact .inr fun r hr hs => b3 r (h2 r hr hs)
  · exact .inl h1
theorem clo_end {cs : List Cel} {S : Nat} {fr : List Int} {m : Nat} (_ : S < 2 ^ 64) (h : Clo cs S fr (m, [])) : m = closM cs S fr := by
  refine bits_eq h.lt fun c hc0 => ?_
  clear hc0
  rw [Bool.eq_iff_iff, decide_eq_true_eq]
  refine ⟨h.rch c, fun hr => ?_⟩
  induction hr with
  | base h1 h2 h3 =>
    have := h.first _ h1 (by simp [hasB, h2, h3])
    exact (hasB_pos this).2
  | @step c l r _ h1 h2 h3 h4 ih =>
    rcases h.next c l ih h1 with h5 | h5
    · simp at h5
    · exact (hasB_pos (h5 r h2 (by simp [hasB, h3, h4]))).2
end Go.Proofs.Ytdkpfggfkhnjfaa

/- Plain laws on the reference's way to find all that can be reached: a list of marks and a list of cells that grows. No program; no condition. -/
namespace Go.Proofs.Ytdkpfggfkhnjfaa
open Go.RowKit
open Classical
def rv1 (st : List Bool × List Int) (r : Int) : List Bool × List Int := if 0 ≤ r ∧ st.1[r.toNat]? = some false then (st.1.set r.toNat true, st.2 ++ [r]) else st
def rvs (st : List Bool × List Int) (rs : List Int) : List Bool × List Int := rs.foldl rv1 st
theorem rvs_take {st : List Bool × List Int} {rs : List Int} {k : Nat} {r : Int} (h : Hid (rs[k]? = some r)) : rvs st (rs.take (k + 1)) = rv1 (rvs st (rs.take k)) r := by
  obtain ⟨hk, rfl⟩ := List.getElem?_eq_some_iff.1 h.out
  unfold rvs
  rw [List.take_succ_eq_append_getElem hk, List.foldl_append]; rfl
def falses : List Bool → Nat
  | [] => 0
  | b :: bs => falses bs + if b then 0 else 1
theorem falses_set : ∀ (bs : List Bool) (k : Nat), bs[k]? = some false → falses (bs.set k true) + 1 = falses bs
  | [], _, h => by simp at h
  | b :: bs, 0, h => by simp at h; subst h; simp [falses]
  | b :: bs, k + 1, h => by
    have := falses_set bs k (by simpa using h)
    simp only [List.set_cons_succ, falses]; omega
theorem falses_rep : ∀ n, falses (List.replicate n false) = n
  | 0 => rfl
  | n + 1 => by rw [List.replicate_succ, falses, falses_rep n]; simp
structure RI (cs : List Cel) (fr : List Int) (st : List Bool × List Int) : Prop where
  len : st.1.length = cs.length
  rch : ∀ c : Nat, st.1[c]? = some true → Rch cs (usedN cs) fr c
  mem : ∀ r ∈ st.2, 0 ≤ r ∧ st.1[r.toNat]? = some true
  back : ∀ c : Nat, st.1[c]? = some true → (c : Int) ∈ st.2
  room : st.2.length + falses st.1 = cs.length
theorem RI.start (cs : List Cel) (fr : List Int) : RI cs fr (List.replicate cs.length false, []) :=
  ⟨by simp, fun c h => by
    rw [List.getElem?_replicate] at h
    split at h <;> simp at h, fun r h => by simp at h, fun c h => by
    rw [List.getElem?_replicate] at h
    split at h <;> simp at h, by simp [falses_rep]⟩
theorem set_true {bs : List Bool} {k c : Nat} (h : bs[c]? = some true) : (bs.set k true)[c]? = some true := by
  rw [List.getElem?_set]
  split
  · rename_i e; subst e
    rw [if_pos (List.getElem?_eq_some_iff.1 h).1]
  · exact h
theorem set_true_inv {bs : List Bool} {k c : Nat} (h : (bs.set k true)[c]? = some true) : bs[c]? = some true ∨ c = k := by
  rw [List.getElem?_set] at h
  split at h
  · rename_i e; exact .inr e.symm
  · exact .inl h
theorem RI.one {cs : List Cel} {fr : List Int} {st : List Bool × List Int} {r : Int} (h : RI cs fr st) (hr : 0 ≤ r → Rch cs (usedN cs) fr r.toNat) :
    RI cs fr (rv1 st r) ∧ (∀ c : Nat, st.1[c]? = some true → (rv1 st r).1[c]? = some true) ∧ (0 ≤ r → (rv1 st r).1[r.toNat]? = some true) ∧ ∃ ext, (rv1 st r).2 = st.2 ++ ext := by
  unfold rv1
  by_cases hc : 0 ≤ r ∧ st.1[r.toNat]? = some false
  · rw [if_pos hc]
    obtain ⟨h0, h1⟩ := hc
    have hl := (List.getElem?_eq_some_iff.1 h1).1
    have hf := falses_set _ _ h1
    have hro := h.room
    have hself : (st.1.set r.toNat true)[r.toNat]? = some true := by rw [List.getElem?_set_self hl]
    refine ⟨⟨by simp [h.len], fun c hb => ?_, fun x hx => ?_, fun c hb => ?_, by simp; omega⟩, fun c hb => set_true hb, fun _ => hself, _, rfl⟩
    · rcases set_true_inv hb with hb | rfl
      · exact h.rch c hb
      · exact hr h0
    · simp only [List.mem_append, List.mem_singleton] at hx
      rcases hx with hx | rfl
      · exact ⟨(h.mem x hx).1, set_true (h.mem x hx).2⟩
      · exact ⟨h0, hself⟩
    · rcases set_true_inv hb with hb | rfl
      · simp [h.back c hb]
      · simp; right; omega
  · rw [if_neg hc]
    refine ⟨h, fun c hb => hb, fun h0 => ?_, [], by simp⟩
    have hlt := usedN_lt (hr h0).inS
    rw [← h.len] at hlt
    cases hb : st.1[r.toNat]
    · exact absurd ⟨h0, by rw [List.getElem?_eq_getElem hlt, hb]⟩ hc
    · rw [List.getElem?_eq_getElem hlt, hb]
theorem RI.many {cs : List Cel} {fr : List Int} : ∀ (rs : List Int) (st : List Bool × List Int), RI cs fr st → (∀ r ∈ rs, 0 ≤ r → Rch cs (usedN cs) fr r.toNat) →
    RI cs fr (rvs st rs) ∧ (∀ c : Nat, st.1[c]? = some true → (rvs st rs).1[c]? = some true) ∧ (∀ r ∈ rs, 0 ≤ r → (rvs st rs).1[r.toNat]? = some true) ∧ ∃ ext, (rvs st rs).2 = st.2 ++ ext
  | [], st, h, _ => ⟨h, fun _ hb => hb, fun r hr => by simp at hr, [], by simp [rvs]⟩
  | r :: rs, st, h, hr => by
    obtain ⟨a1, a2, a3, e1, a4⟩ := h.one (hr r (by simp))
    obtain ⟨b1, b2, b3, e2, b4⟩ := RI.many rs (rv1 st r) a1 fun x hx => hr x (by simp [hx])
    refine ⟨b1, fun c hb => b2 c (a2 c hb), fun x hx h0 => ?_, e1 ++ e2, ?_⟩
    · rcases List.mem_cons.1 hx with rfl | hx
      · exact b2 _ (a3 h0)
      · exact b3 x hx h0
    · show (rvs (rv1 st r) rs).2 = _
      rw [b4, a4, List.append_assoc]
structure RJ (cs : List Cel) (fr : List Int) (st : List Bool × List Int) (k : Nat) : Prop extends RI cs fr st where
  first : ∀ r ∈ fr, 0 ≤ r → st.1[r.toNat]? = some true
  next : ∀ (i : Nat) (x : Int) (l : Cel), i < k → st.2[i]? = some x → cs[x.toNat]? = some l → ∀ r ∈ l.refs, 0 ≤ r → st.1[r.toNat]? = some true
theorem rj_start {cs : List Cel} {fr : List Int} (hf : ∀ r ∈ fr, leadsB cs r = true) : RJ cs fr (rvs (List.replicate cs.length false, []) fr) 0 := by
  obtain ⟨b1, b2, b3, b4⟩ := RI.many fr _ (RI.start cs fr) fun r hr h0 => .base hr h0 (leadsB_used (hf r hr) h0)
  exact { toRI := b1, first := b3, next := fun i x l hi => by omega }
theorem rj_rch {cs : List Cel} {fr : List Int} {st : List Bool × List Int} {k : Nat} {x : Int} {l : Cel} (h : RJ cs fr st k) (hx : st.2[k]? = some x) (hl : cs[x.toNat]? = some l) (hv : ∀ r ∈ l.refs, leadsB cs r = true) : ∀ r ∈ l.refs, 0 ≤ r → Rch cs (usedN cs) fr r.toNat :=
  fun r hr h0 => .step (h.rch _ (h.mem x (List.mem_of_getElem? hx)).2) hl hr h0 (leadsB_used (hv r hr) h0)
theorem rj_step {cs : List Cel} {fr : List Int} {st : List Bool × List Int} {k : Nat} {x : Int} {l : Cel} (h : RJ cs fr st k) (hx : st.2[k]? = some x) (hl : cs[x.toNat]? = some l) (hv : ∀ r ∈ l.refs, leadsB cs r = true) : RJ cs fr (rvs st l.refs) (k + 1) := by
  obtain ⟨b1, b2, b3, ext, b4⟩ := RI.many l.refs st h.toRI (rj_rch h hx hl hv)
  refine { toRI := b1, first := fun r hr h0 => b2 _ (h.first r hr h0), next := fun i y l' hi hy hl' r hr h0 => ?_ }
  have hk : k < st.2.length := (List.getElem?_eq_some_iff.1 hx).1
  rw [b4, List.getElem?_append_left (by omega)] at hy
  rcases Nat.lt_or_ge i k with h1 | h1
  · exact b2 _ (h.next i y l' h1 hy hl' r hr h0)
  · obtain rfl : i = k := by omega
    rw [hx] at hy; injection hy with hy; subst hy
    rw [hl] at hl'; injection hl' with hl'; subst hl'
    exact b3 r hr h0
theorem rj_end {cs : List Cel} {fr : List Int} {st : List Bool × List Int} {k : Nat} (h : RJ cs fr st k) (hk : st.2.length ≤ k) : st.1 = reachL cs fr := by
  apply List.ext_getElem?
  intro c
  unfold reachL
  rcases Nat.lt_or_ge c cs.length with hc | hc
  · have hc' : c < st.1.length := by rw [h.len]; exact hc
    rw [List.getElem?_eq_getElem hc', List.getElem?_map, List.getElem?_range hc, Option.map_some]
    congr 1
    unfold reachB
    rw [Bool.eq_iff_iff, decide_eq_true_eq]
    refine ⟨fun hb => h.rch c (by rw [List.getElem?_eq_getElem hc', hb]), fun hr => ?_⟩
    have key : st.1[c]? = some true := by
      clear hc hc'
      induction hr with
      | base h1 h2 h3 => exact h.first _ h1 h2
      | @step c l r _ h1 h2 h3 h4 ih =>
        obtain ⟨i, hi⟩ := List.getElem?_of_mem (h.back c ih)
        exact h.next i _ l (by have := (List.getElem?_eq_some_iff.1 hi).1; omega) hi (by simpa using h1) r h2 h3
    rw [List.getElem?_eq_getElem hc'] at key
    injection key
  · rw [List.getElem?_eq_none (by rw [h.len]; exact hc), List.getElem?_eq_none (by simpa using hc)]
theorem reachL_length (cs : List Cel) (fr : List Int) : (reachL cs fr).length = cs.length := by simp [reachL]
theorem reachL_at {cs : List Cel} {fr : List Int} {c : Nat} (h : c < cs.length) : (reachL cs fr)[c]? = some (reachB cs fr c) := by
  unfold reachL
  rw [List.getElem?_map, List.getElem?_range h]; rfl
theorem heapOk_leads {h : Hp} (h0 : heapOk h = true) : (∀ r ∈ h.roots, leadsB h.cells r = true) ∧ ∀ (c : Nat) (l : Cel), h.cells[c]? = some l → ∀ r ∈ l.refs, leadsB h.cells r = true := by
  simp only [heapOk, Bool.and_eq_true, List.all_eq_true] at h0
  refine ⟨h0.2, fun c l hl r hr => ?_⟩
  have := h0.1.2 l (List.mem_of_getElem? hl)
  unfold cellOk at this
  split at this
  · simp only [Bool.and_eq_true, List.all_eq_true] at this; exact this.1 r hr
  · simp only [Bool.and_eq_true, decide_eq_true_eq] at this
    have : l.refs = [] := List.length_eq_zero_iff.1 this.2
    rw [this] at hr; simp at hr
end Go.Proofs.Ytdkpfggfkhnjfaa

/- The program's sets of cells, bits of a number: asking, adding, the used cells. -/
namespace Go.Proofs.Ytdkpfggfkhnjfaa
open Go.RowKit
theorem u64_wrap (n : Nat) (h : n < 2 ^ 64) : IntKind.u64.wrap (n : Int) = n := by
  simp [IntKind.wrap, IntKind.bits, IntKind.signed]
  omega
theorem ofInt64 (a : Nat) : BitVec.ofInt IntKind.u64.bits (a : Int) = BitVec.ofNat 64 a := by
  exact BitVec.ofInt_natCast 64 a
theorem bits_and (a b : Nat) (ha : a < 2 ^ 64) (hb : b < 2 ^ 64) : Go.bits .and .u64 a b = ((a &&& b : Nat) : Int) := by
  unfold Go.bits
  simp only [ofInt64]
  show IntKind.u64.wrap ((BitVec.ofNat 64 a &&& BitVec.ofNat 64 b).toNat : Int) = _
  rw [BitVec.toNat_and, BitVec.toNat_ofNat, BitVec.toNat_ofNat, Nat.mod_eq_of_lt ha, Nat.mod_eq_of_lt hb]
  exact u64_wrap _ (Nat.and_lt_two_pow _ hb)
theorem bits_or (a b : Nat) (ha : a < 2 ^ 64) (hb : b < 2 ^ 64) : Go.bits .or .u64 a b = ((a ||| b : Nat) : Int) := by
  unfold Go.bits
  simp only [ofInt64]
  show IntKind.u64.wrap ((BitVec.ofNat 64 a ||| BitVec.ofNat 64 b).toNat : Int) = _
  rw [BitVec.toNat_or, BitVec.toNat_ofNat, BitVec.toNat_ofNat, Nat.mod_eq_of_lt ha, Nat.mod_eq_of_lt hb]
  exact u64_wrap _ (Nat.or_lt_two_pow ha hb)
/-- The numbers of the first set that are not in the second. -/
def lessB (a b : Nat) : Nat := (BitVec.ofNat 64 a &&& ~~~BitVec.ofNat 64 b).toNat
theorem lessB_lt (a b : Nat) : lessB a b < 2 ^ 64 := BitVec.isLt _
theorem bits_andNot (a b : Nat) : Go.bits .andNot .u64 a b = (lessB a b : Int) := by
  unfold Go.bits
  simp only [ofInt64]
  show IntKind.u64.wrap ((BitVec.ofNat 64 a &&& ~~~BitVec.ofNat 64 b).toNat : Int) = _
  exact u64_wrap _ (lessB_lt a b)
theorem lessB_bit (a b c : Nat) (ha : a < 2 ^ 64) : (lessB a b).testBit c = (a.testBit c && !b.testBit c) := by
  unfold lessB
  rw [← BitVec.getLsbD, BitVec.getLsbD_and, BitVec.getLsbD_not, BitVec.getLsbD_ofNat, BitVec.getLsbD_ofNat]
  by_cases hc : c < 64
  · simp [hc]
  · have : a.testBit c = false := Nat.testBit_lt_two_pow (Nat.lt_of_lt_of_le ha (Nat.pow_le_pow_right (by omega) (by omega)))
    simp [hc, this]
theorem bits_has (m k : Nat) (hm : m < 2 ^ 64) : (Go.bits .and .u64 ((m : Int) / 2 ^ min k 64) 1 == 1) = m.testBit k := by
  have e : ((m : Int) / 2 ^ min k 64) = ((m / 2 ^ min k 64 : Nat) : Int) := by simp
  have e1 : (1 : Int) = ((1 : Nat) : Int) := rfl
  rw [e, e1, bits_and _ _ (Nat.lt_of_le_of_lt (Nat.div_le_self _ _) hm) (by decide)]
  rw [Nat.and_one_is_mod]
  have h2 : ((((m / 2 ^ min k 64) % 2 : Nat) : Int) == ((1 : Nat) : Int)) = decide ((m / 2 ^ min k 64) % 2 = 1) := by
    rw [Bool.eq_iff_iff]; simp; omega
  rw [h2]
  by_cases hk : k < 64
  · rw [Nat.min_eq_left (by omega), Nat.testBit_eq_decide_div_mod_eq]
  · rw [Nat.min_eq_right (by omega), Nat.div_eq_of_lt hm]
    have : m.testBit k = false := Nat.testBit_lt_two_pow (Nat.lt_of_lt_of_le hm (Nat.pow_le_pow_right (by omega) (by omega)))
    simp [this]
theorem shl_one (k : Nat) (hk : k < 64) : IntKind.u64.wrap (1 * 2 ^ min k 64) = ((2 ^ k : Nat) : Int) := by
  rw [Nat.min_eq_left (by omega)]
  have : ((1 : Int) * 2 ^ k) = ((2 ^ k : Nat) : Int) := by simp
  rw [this]
  exact u64_wrap _ (Nat.pow_lt_pow_right (by omega) hk)

theorem has_any (m : Nat) (r : Int) (w : World) (hm : m < 2 ^ 64) :
    Calls Try.prog 59 #[.int .u64 m, .int .i64 r] w fun e w' => e = .returned (.bool (hasB m r)) ∧ w = w' := by
  by_cases h : 0 ≤ r
  · obtain ⟨k, rfl⟩ := Int.eq_ofNat_of_zero_le h
    have HB := Go.Lib.hid (bits_has m k hm)
    go_enter Try.func59, Try.ntmps59
    go_wp2
    go_ret
    exact ⟨ret_b (by rw [hasB_nat]; exact HB.out), rfl⟩
  · have hb := Go.Lib.hid (hasB_neg (m := m) (r := r) (by omega))
    go_enter Try.func59, Try.ntmps59
    go_wp2
    go_ret
    exact ⟨ret_b (by simp [hb.out]), rfl⟩
theorem or_add (m k : Nat) (hm : m < 2 ^ 64) (hk : k < 64) : Go.bits .or .u64 m (IntKind.u64.wrap (2 ^ k)) = (addB m k : Int) := by
  have := shl_one k hk
  rw [Nat.min_eq_left (by omega), Int.one_mul] at this
  rw [this, bits_or _ _ hm (Nat.pow_lt_pow_right (by omega) hk)]
  rfl
set_option maxRecDepth 20000 in
theorem add_any (m : Nat) (r : Int) (w : World) (g o : Nat) (hm : m < 2 ^ 64) (h0 : 0 ≤ r) (h1 : r < 64) (hc : w.cell? ⟨g, o, none⟩ = some (.int .u64 m)) (hf : w.frozen? ⟨g, o, none⟩ = false) :
    Calls Try.prog 60 #[.pointer (some ⟨g, o, none⟩), .int .i64 r] w fun e w' => (∃ v, e = .returned v) ∧ w' = (w.setCell ⟨g, o, none⟩ (.int .u64 (addB m r))).drew := by
  obtain ⟨k, rfl⟩ := Int.eq_ofNat_of_zero_le h0
  have HA := Go.Lib.hid (or_add m k hm (by omega))
  go_enter Try.func60, Try.ntmps60
  go_wp2_with fail
  refine wp_region_pick (fun w' => w'.cell? ⟨g, o, none⟩ = some (.int .u64 m)) [(0, true), (1, true), (2, true), (3, true), (4, true), (5, true), (6, true), (7, false)] (by kernel_rfl) (by kernel_rfl) (by kernel_rfl) hc ?_
  simp only [pick, List.filterMap_cons, List.filterMap_nil, List.getElem?_cons_zero, List.getElem?_cons_succ, List.map_cons, List.map_nil]
  repeat (first
    | (with_reducible refine lew_take (v := ?_) ?_ (fun w' hS' => ?_) ?_
       rotate_left
       · (go_simp; done)
       · ((try dsimp only at hS'); go_simp; try with_reducible rfl)
       simp only [Act.put, List.setIfInBounds_toArray, List.set_cons_zero, List.set_cons_succ])
    | (with_reducible refine lew_skip ?_ ?_
       · (go_simp; done)
       simp only [Act.put, List.setIfInBounds_toArray, List.set_cons_zero, List.set_cons_succ]))
  with_reducible refine lew_run ?_ (fun K hK => ?_)
  · (go_simp; done)
  go_simp
  refine hK.out _ _ (.inl rfl) ?_
  clear hK K
  refine lew_nil ?_
  go_wp2
  refine bodyPost_end (results_none rfl _ _ _) rfl ?_
  exact ⟨⟨_, rfl⟩, by rw [HA.out]⟩
/-- The same, on a box that is owned. -/
theorem add_own {lo : Nat} {w0 w : World} {L : List OB} {t : TypeId} (h : Owns lo w0 w L) (i : Nat) {g m : Nat} (hX : L[i]? = some (.box g [.int .u64 m] t)) (r : Int) (hm : m < 2 ^ 64) (h0 : 0 ≤ r) (h1 : r < 64) :
    Calls Try.prog 60 #[.pointer (some ⟨g, 0, none⟩), .int .i64 r] w fun e w' => (∃ v, e = .returned v) ∧ Owns lo w0 w' (L.set i (.box g [.int .u64 (addB m r)] t)) := by
  obtain ⟨a0, f0⟩ := h.box1 i hX
  refine (add_any m r w g 0 hm h0 h1 a0 f0).mono ?_
  rintro e w' ⟨he, rfl⟩
  exact ⟨he, (h.putBox i hX 0 _).drew⟩
set_option maxHeartbeats 800000 in
theorem usedSet_any (w : World) (B : Nat) (v : Value) (h : Hp) (hh : RdH w B v h) (hn : h.cells.length ≤ 64) :
    Calls Try.prog 52 #[v] w fun e w' => e = .returned (.int .u64 (usedM h.cells)) ∧ Below w.heap.size w w' := by
  obtain ⟨D, m, d, D', m', d', rfl, hC, hR⟩ := hh.top
  have hm1 := hC.mx; have hcap1 := hC.cap
  have l3 := hC.le1; have l4 := hC.le2
  unfold maxLen at hm1
  have H1 := ((Owns.nil w).box [.slice D m d, .slice D' m' d'] 29).box [.int .u64 (bitsOf 0 (usedN h.cells))] 76
  simp only [World.size_alloc] at H1
  obtain ⟨a0, a1, -, -⟩ := H1.box2 1 rfl
  go_enter Try.func52, Try.ntmps52
  go_wp2_with fail
  generalize hw4 : (w.alloc (.cells #[.slice D m d, .slice D' m' d'] 29)).alloc (.cells #[.int .u64 0] 76) = w4 at *
  go_loopw [9] (fun i wr => ∃ (k : Nat), i = .int .i64 k ∧ k ≤ m ∧ Owns w.heap.size w wr [.box (w.heap.size + 1) [.int .u64 (bitsOf k (usedN h.cells))] 76, .box w.heap.size [.slice D m d, .slice D' m' d'] 29]) (fun i _ => m - (intOf i).toNat)
  case atStart => exact ⟨0, rfl, Nat.zero_le _, by rw [← hw4]; exact H1⟩
  case round =>
    clear H1 a0 a1 hw4
    obtain ⟨k, rfl, hk, H⟩ := hrel
    obtain ⟨x0, xf⟩ := H.box1 0 rfl
    by_cases hlt : k < m
    · obtain ⟨b, o, l, A2, n2, c2, rfl, hbb, hx, q1, q2, q3, hrf⟩ := hC.at_ hlt
      have g1 := H.ro q1 hbb
      have g2 := H.ro q2 hbb
      have g3 := H.ro q3 hbb
      clear q1 q2 q3
      have hbl := bitsOf_lt k (usedN h.cells)
      have hb64 : bitsOf k (usedN h.cells) < 2 ^ 64 := Nat.lt_of_lt_of_le hbl (Nat.pow_le_pow_right (by omega) (by omega))
      have hun := usedN_at hx
      cases hu : l.used
      · rw [hu] at g1 hun
        have HB : Hid (bitsOf (k + 1) (usedN h.cells) = bitsOf k (usedN h.cells)) := Go.Lib.hid (by rw [bitsOf, hun]; simp)
        have H2 := H.alloc (.cells #[.bool false, .int .i64 l.data, .slice A2 n2 c2] 49)
        clear hu hun hbl hb64
        go_wp2
        go_roundw
        case rel => exact ⟨k + 1, by go_num, by omega, by rw [HB.out]; exact H2⟩
        case measure => simp [intOf]; omega
      · rw [hu] at g1 hun
        have HB : Hid (bitsOf (k + 1) (usedN h.cells) = addB (bitsOf k (usedN h.cells)) k) := Go.Lib.hid (by rw [bitsOf, hun]; simp [addB])
        have H2 := H.alloc (.cells #[.bool true, .int .i64 l.data, .slice A2 n2 c2] 49)
        have P := Go.Lib.hid hb64
        clear hu hun hbl hb64
        go_wp2_with fail
        refine (add_own H2 0 rfl (k : Int) P.out (by omega) (by omega)).mono ?_
        rintro e w2 ⟨⟨u, rfl⟩, H3⟩
        go_wp2
        go_roundw
        case rel => exact ⟨k + 1, by go_num, by omega, by rw [HB.out]; exact H3⟩
        case measure => simp [intOf]; omega
    · have HB : Hid (bitsOf k (usedN h.cells) = usedM h.cells) := Go.Lib.hid (by
        refine bits_eq (Nat.lt_of_lt_of_le (bitsOf_lt _ _) (Nat.pow_le_pow_right (by omega) (by omega))) fun c _ => ?_
        rw [bitsOf_bit]
        by_cases hc : c < k
        · simp [hc]
        · have : usedN h.cells c = false := by
            cases hq : usedN h.cells c
            · rfl
            · have := usedN_lt hq; omega
          simp [this])
      have HD := H.below
      clear H
      go_wp2
      go_ret
      exact ⟨ret_i (by rw [HB.out]), HD⟩
end Go.Proofs.Ytdkpfggfkhnjfaa

/- The reference's l7Reach marks exactly what can be reached, in a valid heap. -/
namespace Go.Proofs.Ytdkpfggfkhnjfaa
open Go.RowKit
theorem heapOk_small {h : Hp} (h0 : heapOk h = true) : h.cells.length ≤ 40 ∧ h.roots.length = 4 := by simp [heapOk] at h0; omega
end Go.Proofs.Ytdkpfggfkhnjfaa

/- The reference's Reachable marks what can be reached from the roots of a valid heap. -/
namespace Go.Proofs.Ytdkpfggfkhnjfaa
open Go.RowKit
noncomputable def mReachable (h : Hp) : List Bool := if heapOk h then reachL h.cells h.roots else []
theorem mReachable_no {h : Hp} (h0 : heapOk h = false) : mReachable h = [] := by simp [mReachable, h0]
theorem mReachable_yes {h : Hp} (h0 : heapOk h = true) : mReachable h = reachL h.cells h.roots := by simp [mReachable, h0]
end Go.Proofs.Ytdkpfggfkhnjfaa

/- What the laws' size functions return, and that they leave the memory alone: for every slice, cell and heap that can be read, and a bound of at most 2^20. -/
namespace Go.Proofs.Ytdkpfggfkhnjfaa
open Go.RowKit
def refsBulk (cs : List Cel) : Nat := (cs.map fun c => c.refs.length).sum
theorem refsBulk_succ {cs : List Cel} {k : Nat} {l : Cel} (h : Hid (cs[k]? = some l)) : refsBulk (cs.take (k + 1)) = refsBulk (cs.take k) + l.refs.length := by
  obtain ⟨hk, rfl⟩ := List.getElem?_eq_some_iff.1 h.out
  unfold refsBulk
  rw [List.take_succ_eq_append_getElem hk, List.map_append, List.sum_append]; simp
theorem refsBulk_le {cs : List Cel} (k : Nat) : refsBulk (cs.take k) ≤ refsBulk cs := by
  have h : refsBulk cs = refsBulk (cs.take k) + refsBulk (cs.drop k) := by
    unfold refsBulk
    rw [← List.sum_append, ← List.map_append, List.take_append_drop]
  omega
theorem cellsBulk_eq (cs : List Cel) : cellsBulk cs = refsBulk cs + cs.length := rfl

end Go.Proofs.Ytdkpfggfkhnjfaa

/- The laws' equality functions return true for two slices, cells or heaps that read as the same list. -/
namespace Go.Proofs.Ytdkpfggfkhnjfaa
open Go.RowKit
end Go.Proofs.Ytdkpfggfkhnjfaa

/- Tables: what can be read of them, and the laws' functions on them (size, copy, comparison). -/
namespace Go.Proofs.Ytdkpfggfkhnjfaa
open Go.RowKit
structure Tbl where
  store : Hp
  hands : List Int
def RdT (w : World) (B : Nat) (v : Value) (t : Tbl) : Prop :=
  ∃ A n c A' n' c' E q f, v = .agg #[.slice A n c, .slice A' n' c', .slice E q f] ∧ RdC w B A n c t.store.cells ∧ RdI w B A' n' c' t.store.roots ∧ RdI w B E q f t.hands
theorem RdT.below {w w' : World} {B : Nat} {v : Value} {t : Tbl} (hh : RdT w B v t) (hb : Below B w w') : RdT w' B v t :=
  let ⟨A, n, c, A', n', c', E, q, f, e, h1, h2, h3⟩ := hh
  ⟨A, n, c, A', n', c', E, q, f, e, h1.below hb, h2.below hb, h3.below hb⟩
theorem RdT.mono {w : World} {B B' : Nat} {v : Value} {t : Tbl} (hh : RdT w B v t) (hb : B ≤ B') : RdT w B' v t :=
  let ⟨A, n, c, A', n', c', E, q, f, e, h1, h2, h3⟩ := hh
  ⟨A, n, c, A', n', c', E, q, f, e, h1.mono hb, h2.mono hb, h3.mono hb⟩
theorem RdT.top {w : World} {B : Nat} {v : Value} {t : Tbl} (hh : RdT w B v t) : RdT w w.heap.size v t :=
  let ⟨A, n, c, A', n', c', E, q, f, e, h1, h2, h3⟩ := hh
  ⟨A, n, c, A', n', c', E, q, f, e, h1.top, h2.top, h3.top⟩
def tblBulk (t : Tbl) : Nat := cellsBulk t.store.cells + t.store.roots.length + t.hands.length
/-- A call makes a table: three parts of its own. -/
def OwT (w : World) (lo : Nat) (w0 : World) (v : Value) (t : Tbl) (L : List OB) : Prop :=
  ∃ cv rvs rv hv, v = .agg #[cv, rv, hv] ∧ Owns lo w0 w (.cells cv rvs t.store.cells :: .ints rv t.store.roots :: .ints hv t.hands :: L)
def MadeT (w : World) (t : Tbl) (e : Ending) (w' : World) : Prop := ∃ v, e = .returned v ∧ OwT w' w.heap.size w v t []
def T0 (t : Tbl) : Nat := cellsBulk t.store.cells + t.store.roots.length
end Go.Proofs.Ytdkpfggfkhnjfaa

/- The program's heap of a table: every handle is replaced by the cell that it tells. -/
namespace Go.Proofs.Ytdkpfggfkhnjfaa
open Go.RowKit
def tellR (hs : List Int) (r : Int) : Int := if r = -1 then -1 else if r < 0 ∨ (hs.length : Int) ≤ r then -2 else hs.getD r.toNat 0
def tellC (hs : List Int) (c : Cel) : Cel := ⟨c.used, c.data, c.refs.map (tellR hs)⟩
def tellH (t : Tbl) : Hp := ⟨t.store.cells.map (tellC t.hands), t.store.roots.map (tellR t.hands)⟩
theorem tellR_nil (hs : List Int) : tellR hs (-1) = -1 := by simp [tellR]
theorem tellR_no {hs : List Int} {r : Int} (h0 : r ≠ -1) (h : r < 0 ∨ (hs.length : Int) ≤ r) : tellR hs r = -2 := by unfold tellR; rw [if_neg h0, if_pos h]
theorem tellR_at {hs : List Int} {q : Nat} {x : Int} (h : Hid (hs[q]? = some x)) : tellR hs (q : Int) = x := by
  have hq : q < hs.length := (List.getElem?_eq_some_iff.1 h.out).1
  unfold tellR
  rw [if_neg (by omega), if_neg (by omega), Int.toNat_natCast, getD_of h]
theorem mapI_snoc {f : Int → Int} {xs : List Int} {k : Nat} {x : Int} (h : Hid (xs[k]? = some x)) : (xs.take (k + 1)).map f = (xs.take k).map f ++ [f x] := by
  rw [take_snoc' h, List.map_append]; rfl
end Go.Proofs.Ytdkpfggfkhnjfaa

/- The program's heap of a table, made. -/
namespace Go.Proofs.Ytdkpfggfkhnjfaa
open Go.RowKit
theorem tellC_snoc {hs : List Int} {cs : List Cel} {k : Nat} {l : Cel} (h : Hid (cs[k]? = some l)) : (cs.take (k + 1)).map (tellC hs) = (cs.take k).map (tellC hs) ++ [tellC hs l] := by
  rw [take_snoc' h, List.map_append]; rfl
end Go.Proofs.Ytdkpfggfkhnjfaa

/- TableValid, the program's: it returns mTableValid, for every table that can be read. -/
namespace Go.Proofs.Ytdkpfggfkhnjfaa
open Go.RowKit
def handAt (hs : List Int) (k : Nat) : Bool := decide (0 ≤ hs.getD k 0) && decide (hs.getD k 0 < hs.length) && !(hs.take k).contains (hs.getD k 0)
def permB (hs : List Int) : Bool := (List.range hs.length).all (handAt hs)
def mTableValid (t : Tbl) : Bool := decide (t.hands.length = t.store.cells.length) && decide (t.hands.length ≤ 40) && permB t.hands && heapOk (tellH t)
theorem mTab_no1 {t : Tbl} (h : t.hands.length ≠ t.store.cells.length) : mTableValid t = false := by simp [mTableValid, h]
theorem mTab_no2 {t : Tbl} (h : 40 < t.hands.length) : mTableValid t = false := by
  have : decide (t.hands.length ≤ 40) = false := by simp; omega
  simp [mTableValid, this]
theorem permB_no {hs : List Int} {k : Nat} (hk : k < hs.length) (h : handAt hs k = false) : permB hs = false := by
  unfold permB
  rw [List.all_eq_false]
  exact ⟨k, List.mem_range.2 hk, by rw [h]; exact Bool.false_ne_true⟩
theorem permB_yes {hs : List Int} (h : ∀ k, k < hs.length → handAt hs k = true) : permB hs = true := by
  unfold permB
  rw [List.all_eq_true]
  exact fun k hk => h k (List.mem_range.1 hk)
theorem mTab_no3 {t : Tbl} {k : Nat} (hk : k < t.hands.length) (h : handAt t.hands k = false) : mTableValid t = false := by
  simp [mTableValid, permB_no hk h]
theorem mTab_yes {t : Tbl} (h1 : t.hands.length = t.store.cells.length) (h2 : t.hands.length ≤ 40) (h : ∀ k, k < t.hands.length → handAt t.hands k = true) : mTableValid t = heapOk (tellH t) := by
  simp [mTableValid, h1, permB_yes h]; omega
theorem handAt_no {hs : List Int} {k : Nat} {x : Int} (hx : Hid (hs[k]? = some x)) (h : x < 0 ∨ (hs.length : Int) ≤ x) : handAt hs k = false := by
  unfold handAt
  rw [getD_of hx]
  rcases h with h | h
  · have : decide (0 ≤ x) = false := by simp; omega
    rw [this]; rfl
  · have : decide (x < (hs.length : Int)) = false := by simp; omega
    rw [this]; simp
theorem handAt_met {hs : List Int} {k : Nat} {x : Int} (hx : Hid (hs[k]? = some x)) (h : (hs.take k).contains x = true) : handAt hs k = false := by
  unfold handAt
  rw [getD_of hx, h]; simp
theorem handAt_yes {hs : List Int} {k : Nat} {x : Int} (hx : Hid (hs[k]? = some x)) (h0 : 0 ≤ x) (h1 : x < (hs.length : Int)) (h : (hs.take k).contains x = false) : handAt hs k = true := by
  unfold handAt
  rw [getD_of hx, h]; simp [h0, h1]
theorem hands_succ {hs : List Int} {k : Nat} (h : ∀ j, j < k → handAt hs j = true) (hk : handAt hs k = true) : ∀ j, j < k + 1 → handAt hs j = true := by
  intro j hj
  rcases Nat.lt_or_ge j k with h1 | h1
  · exact h j h1
  · obtain rfl : j = k := by omega
    exact hk
theorem contains_snoc {hs : List Int} {k : Nat} {x y : Int} (hx : Hid (hs[k]? = some x)) : (hs.take (k + 1)).contains y = ((hs.take k).contains y || decide (y = x)) := by
  rw [take_snoc' hx]
  simp only [List.contains_append, List.contains_cons, List.contains_nil, Bool.or_false]
  congr 1
end Go.Proofs.Ytdkpfggfkhnjfaa

/- Writing into the references of a cell that a call owns; and the reference's heap of a table, in place. -/
namespace Go.Proofs.Ytdkpfggfkhnjfaa
open Go.RowKit
section
variable {lo : Nat} {w0 w : World} {L : List OB} {v : Value} {rvs : List Value} {cs : List Cel} {k j : Nat} {l : Cel}
theorem Owns.putRef {g n c : Nat} (h : Owns lo w0 w L) (i : Nat) (hX : L[i]? = some (.cells v rvs cs)) (hrv : rvs[k]? = some (.slice (some ⟨g, 0, none⟩) n c)) (hc : cs[k]? = some l) (hn : n = l.refs.length) (j : Nat) (x : Int) :
    Owns lo w0 (w.setCell ⟨g, j, none⟩ (.int .i64 x)) (L.set i (.cells v rvs (cs.set k ⟨l.used, l.data, l.refs.set j x⟩))) := by
  subst hn
  have ho := h.owC i hX
  have hI := ho.refs k _ l hrv hc
  have hs := hI.own.stored j (.int .i64 x)
  refine h.turn i hX (turn_set (.inr ⟨_, List.mem_of_getElem? hrv, rfl⟩)) ?_ fun k hk => .inl hk
  show OwC _ lo _ v rvs _
  rw [World.size_setCell]
  refine OwC.turn ho hrv hc ⟨?_, hI.lt⟩ hs.2
  show World.ownsRow _ _ _ _ _ (l.refs.set j x).length _
  rw [List.length_set, List.map_set]
  exact hs.1
theorem Owns.cellsAt (h : Owns lo w0 w L) (i : Nat) (hX : L[i]? = some (.cells v rvs cs)) (hc : Hid (cs[k]? = some l)) : ∃ gC cC A c, v = .slice (some ⟨gC, 0, none⟩) cs.length cC ∧ Hid (rvs[k]? = some (.slice A l.refs.length c)) ∧ w.cell? ⟨gC, k * 3 + 2, none⟩ = some (.slice A l.refs.length c) ∧ l.refs.length ≤ c ∧ c ≤ maxLen := by
  have ho := h.owC i hX
  have hk := (List.getElem?_eq_some_iff.1 hc.out).1
  have hrv : rvs[k]? = some (rvs[k]'(by rw [ho.same]; exact hk)) := List.getElem?_eq_getElem _
  obtain ⟨A, c, e, hR⟩ := (ho.refs k _ l hrv hc.out).form
  rw [e] at hrv
  have hvals := (cellVals_at cs rvs k l _ hc.out hrv).2.2
  rcases ho.own.2 with ⟨_, h0⟩ | ⟨g, cC, cur, rfl, _⟩
  · omega
  · have hj : k * 3 + 2 < cs.length * 3 := by omega
    refine ⟨g, cC, A, c, rfl, Go.Lib.hid hrv, (ho.own.cellAt _ hj).trans hvals, ?_, hR.mx⟩
    exact hR.cap
theorem Owns.refAt {A : Option Addr} {c : Nat} {x : Int} (h : Owns lo w0 w L) (i : Nat) (hX : L[i]? = some (.cells v rvs cs)) (hrv : Hid (rvs[k]? = some (.slice A l.refs.length c))) (hc : Hid (cs[k]? = some l)) (hj : Hid (l.refs[j]? = some x)) :
    ∃ g, A = some ⟨g, 0, none⟩ ∧ w.cell? ⟨g, j, none⟩ = some (.int .i64 x) ∧ w.frozen? ⟨g, j, none⟩ = false := by
  have hI := (h.owC i hX).refs k _ l hrv.out hc.out
  have hjl := (List.getElem?_eq_some_iff.1 hj.out).1
  rcases hI.own.2 with ⟨_, h0⟩ | ⟨g, cC, cur, e, _⟩
  · omega
  · simp only [Value.slice.injEq] at e
    obtain ⟨rfl, _, rfl⟩ := e
    exact ⟨g, rfl, (hI.own.cellAt j (by omega)).trans (by rw [List.getElem?_map, hj.out]; rfl), hI.own.frozenAt j⟩
end
def inT (hs : List Int) (r : Int) : Bool := decide (-1 ≤ r) && decide (r ≤ (hs.length : Int) - 1)
def allIn (t : Tbl) : Bool := t.store.roots.all (inT t.hands) && t.store.cells.all fun c => c.refs.all (inT t.hands)
theorem inT_no {hs : List Int} {r : Int} (h : inT hs r = false) : r < -1 ∨ (hs.length : Int) - 1 < r := by simp [inT] at h; omega
theorem inT_yes {hs : List Int} {r : Int} (h : inT hs r = true) : -1 ≤ r ∧ r ≤ (hs.length : Int) - 1 := by simpa [inT] using h
theorem mapT_turn {α : Type} {f : α → α} {xs : List α} {k : Nat} {x : α} (h : Hid (xs[k]? = some x)) : ((xs.take k).map f ++ xs.drop k).set k (f x) = (xs.take (k + 1)).map f ++ xs.drop (k + 1) := by
  obtain ⟨hk, rfl⟩ := List.getElem?_eq_some_iff.1 h.out
  have hl : ((xs.take k).map f).length = k := by simp; omega
  rw [take_snoc' h, List.map_append, List.set_append_right _ _ (by omega), hl, Nat.sub_self, List.drop_eq_getElem_cons hk, List.set_cons_zero, List.append_assoc]; rfl
theorem mapT_here {α : Type} {f : α → α} {xs : List α} {k : Nat} {x : α} (h : Hid (xs[k]? = some x)) : ((xs.take k).map f ++ xs.drop k)[k]? = some x := by
  obtain ⟨hk, rfl⟩ := List.getElem?_eq_some_iff.1 h.out
  have hl : ((xs.take k).map f).length = k := by simp; omega
  rw [List.getElem?_append_right (by omega), hl, Nat.sub_self, List.drop_eq_getElem_cons hk]; rfl
abbrev OB.rowI (v : Value) (n : Nat) (xs : List Int) : OB := .row 3 1 v n (xs.map (Value.int .i64))
theorem Owns.putRowI {lo : Nat} {w0 w : World} {L : List OB} {g n c : Nat} {xs : List Int} (h : Owns lo w0 w L) (i : Nat) (hX : L[i]? = some (.rowI (.slice (some ⟨g, 0, none⟩) n c) n xs)) (j : Nat) (x : Int) : Owns lo w0 (w.setCell ⟨g, j, none⟩ (.int .i64 x)) (L.set i (.rowI (.slice (some ⟨g, 0, none⟩) n c) n (xs.set j x))) := by
  have := h.putRow i hX j (.int .i64 x)
  rwa [← List.map_set] at this
theorem Owns.ofRowI {lo : Nat} {w0 w : World} {L : List OB} {n : Nat} {v : Value} {xs : List Int} (i : Nat) (_ : Owns lo w0 w L) (hX : L[i]? = some (.rowI v n xs)) (hn : xs.length = n) : L[i]? = some (.ints v xs) := by subst hn; exact hX
structure RootSt (t : Tbl) (k : Nat) (ok : Bool) (X : List Int) : Prop where
  len : X.length = t.store.roots.length
  yes : ok = true → X = (t.store.roots.take k).map (tellR t.hands) ++ t.store.roots.drop k ∧ ∀ r ∈ t.store.roots.take k, inT t.hands r = true
  no : ok = false → allIn t = false
theorem RootSt.start (t : Tbl) : RootSt t 0 true t.store.roots := ⟨rfl, fun _ => ⟨rfl, fun r hr => by simp at hr⟩, fun h => by cases h⟩
theorem allIn_root {t : Tbl} {k : Nat} {x : Int} (hx : Hid (t.store.roots[k]? = some x)) (h : inT t.hands x = false) : allIn t = false := by
  unfold allIn
  have : t.store.roots.all (inT t.hands) = false := List.all_eq_false.2 ⟨x, List.mem_of_getElem? hx.out, by rw [h]; exact Bool.false_ne_true⟩
  rw [this]; rfl
theorem RootSt.bad {t : Tbl} {k k' : Nat} {ok : Bool} {X : List Int} (h : RootSt t k ok X) (hb : allIn t = false) : RootSt t k' false X := ⟨h.len, (fun h => by cases h), fun _ => hb⟩
theorem RootSt.at_ {t : Tbl} {k : Nat} {X : List Int} {x : Int} (h : RootSt t k true X) (hx : Hid (t.store.roots[k]? = some x)) : X[k]? = some x := by
  rw [(h.yes rfl).1]; exact mapT_here hx
theorem RootSt.next {t : Tbl} {k : Nat} {X : List Int} {x : Int} (h : RootSt t k true X) (hx : Hid (t.store.roots[k]? = some x)) (hi : inT t.hands x = true) : RootSt t (k + 1) true (X.set k (tellR t.hands x)) := by
  refine ⟨by rw [List.length_set]; exact h.len, fun _ => ⟨?_, fun r hr => ?_⟩, fun h => by cases h⟩
  · rw [(h.yes rfl).1, mapT_turn hx]
  · rw [take_snoc' hx, List.mem_append, List.mem_singleton] at hr
    rcases hr with hr | rfl
    · exact (h.yes rfl).2 r hr
    · exact hi
structure CellSt (t : Tbl) (k : Nat) (ok : Bool) (R : List Int) (X : List Cel) : Prop where
  len : X.length = t.store.cells.length
  small : ∀ l ∈ X, l.refs.length ≤ 1048576
  yes : ok = true → (R = t.store.roots.map (tellR t.hands) ∧ ∀ r ∈ t.store.roots, inT t.hands r = true) ∧ X = (t.store.cells.take k).map (tellC t.hands) ++ t.store.cells.drop k ∧ ∀ c ∈ t.store.cells.take k, ∀ r ∈ c.refs, inT t.hands r = true
  no : ok = false → allIn t = false
theorem RootSt.cells {t : Tbl} {k : Nat} {ok : Bool} {R : List Int} (h : RootSt t k ok R) (hk : t.store.roots.length ≤ k) (hs : ∀ c ∈ t.store.cells, c.refs.length ≤ 1048576) : CellSt t 0 ok R t.store.cells := by
  refine ⟨rfl, hs, fun ho => ⟨?_, rfl, fun c hc => by simp at hc⟩, h.no⟩
  have := h.yes ho
  rw [List.take_of_length_le hk, List.drop_of_length_le hk, List.append_nil] at this
  exact this
theorem CellSt.at_ {t : Tbl} {k : Nat} {ok : Bool} {R : List Int} {X : List Cel} {l : Cel} (h : CellSt t k ok R X) (hl : X[k]? = some l) (ho : ok = true) : t.store.cells[k]? = some l := by
  have hk : k < t.store.cells.length := by rw [← h.len]; exact (List.getElem?_eq_some_iff.1 hl).1
  have hc := mapT_here (f := tellC t.hands) (Go.Lib.hid (List.getElem?_eq_getElem hk))
  rw [← (h.yes ho).2.1, hl] at hc
  rw [hc]; exact List.getElem?_eq_getElem hk
structure RefSt (t : Tbl) (okE : Bool) (l0 : Cel) (j : Nat) (ok : Bool) (Y : List Int) : Prop where
  len : Y.length = l0.refs.length
  yes : ok = true → okE = true ∧ Y = (l0.refs.take j).map (tellR t.hands) ++ l0.refs.drop j ∧ ∀ r ∈ l0.refs.take j, inT t.hands r = true
  no : ok = false → allIn t = false
theorem CellSt.refs {t : Tbl} {k : Nat} {ok : Bool} {R : List Int} {X : List Cel} (h : CellSt t k ok R X) (l : Cel) : RefSt t ok l 0 ok l.refs := ⟨rfl, fun ho => ⟨ho, rfl, fun r hr => by simp at hr⟩, h.no⟩
theorem RefSt.bad {t : Tbl} {okE : Bool} {l0 : Cel} {j j' : Nat} {ok : Bool} {Y : List Int} (h : RefSt t okE l0 j ok Y) (hb : allIn t = false) : RefSt t okE l0 j' false Y := ⟨h.len, (fun h => by cases h), fun _ => hb⟩
theorem allIn_ref {t : Tbl} {k j : Nat} {l : Cel} {x : Int} (hl : t.store.cells[k]? = some l) (hx : Hid (l.refs[j]? = some x)) (h : inT t.hands x = false) : allIn t = false := by
  unfold allIn
  have h1 : l.refs.all (inT t.hands) = false := List.all_eq_false.2 ⟨x, List.mem_of_getElem? hx.out, by rw [h]; exact Bool.false_ne_true⟩
  have : (t.store.cells.all fun c => c.refs.all (inT t.hands)) = false := List.all_eq_false.2 ⟨l, List.mem_of_getElem? hl, by rw [h1]; exact Bool.false_ne_true⟩
  rw [this]; simp
theorem RefSt.at_ {t : Tbl} {okE : Bool} {l0 : Cel} {j : Nat} {Y : List Int} {x : Int} (h : RefSt t okE l0 j true Y) (hx : Hid (l0.refs[j]? = some x)) : Y[j]? = some x := by
  rw [(h.yes rfl).2.1]; exact mapT_here hx
theorem RefSt.next {t : Tbl} {okE : Bool} {l0 : Cel} {j : Nat} {Y : List Int} {x : Int} (h : RefSt t okE l0 j true Y) (hx : Hid (l0.refs[j]? = some x)) (hi : inT t.hands x = true) : RefSt t okE l0 (j + 1) true (Y.set j (tellR t.hands x)) := by
  refine ⟨by rw [List.length_set]; exact h.len, fun _ => ⟨(h.yes rfl).1, ?_, fun r hr => ?_⟩, fun h => by cases h⟩
  · rw [(h.yes rfl).2.1, mapT_turn hx]
  · rw [take_snoc' hx, List.mem_append, List.mem_singleton] at hr
    rcases hr with hr | rfl
    · exact (h.yes rfl).2.2 r hr
    · exact hi
theorem RefSt.done {t : Tbl} {okE ok : Bool} {R : List Int} {X : List Cel} {l0 : Cel} {k j : Nat} {Y : List Int} (h : RefSt t okE l0 j ok Y) (hj : l0.refs.length ≤ j) (hX : CellSt t k okE R X) (hl : X[k]? = some l0) : CellSt t (k + 1) ok R (X.set k ⟨l0.used, l0.data, Y⟩) := by
  refine ⟨by rw [List.length_set]; exact hX.len, fun l hm => ?_, fun ho => ?_, h.no⟩
  · rcases List.mem_or_eq_of_mem_set hm with h1 | rfl
    · exact hX.small l h1
    · show Y.length ≤ _
      rw [h.len]; exact hX.small l0 (List.mem_of_getElem? hl)
  · obtain ⟨h1, h2, h3⟩ := h.yes ho
    obtain ⟨g1, g2, g3⟩ := hX.yes h1
    have hc := Go.Lib.hid (hX.at_ hl h1)
    rw [List.take_of_length_le hj, List.drop_of_length_le hj, List.append_nil] at h2
    rw [List.take_of_length_le hj] at h3
    refine ⟨g1, ?_, fun c hm => ?_⟩
    · rw [g2, h2]; exact mapT_turn (f := tellC t.hands) hc
    · rw [take_snoc' hc, List.mem_append, List.mem_singleton] at hm
      rcases hm with hm | rfl
      · exact g3 c hm
      · exact h3
theorem CellSt.done {t : Tbl} {k : Nat} {ok : Bool} {R : List Int} {X : List Cel} (h : CellSt t k ok R X) (hk : t.store.cells.length ≤ k) : ok = allIn t ∧ (allIn t = true → (⟨X, R⟩ : Hp) = tellH t) := by
  cases ok
  · have := h.no rfl
    exact ⟨this.symm, fun h => by rw [this] at h; cases h⟩
  · obtain ⟨⟨g1, g2⟩, g3, g4⟩ := h.yes rfl
    rw [List.take_of_length_le hk] at g3 g4
    rw [List.drop_of_length_le hk, List.append_nil] at g3
    refine ⟨?_, fun _ => by rw [g1, g3]; rfl⟩
    symm
    unfold allIn
    simp only [Bool.and_eq_true, List.all_eq_true]
    exact ⟨g2, g4⟩
def Told23 (w : World) (t : Tbl) (e : Ending) (w' : World) : Prop := ∃ u x, e = .returned (.tuple #[u, .bool (allIn t)]) ∧ OwH w' w.heap.size w'.heap.size u x ∧ Below w.heap.size w w' ∧ (allIn t = true → x = tellH t)
end Go.Proofs.Ytdkpfggfkhnjfaa

/- TableValid, the reference's: it returns mTableValid too. -/
namespace Go.Proofs.Ytdkpfggfkhnjfaa
open Go.RowKit
theorem tell_leads {t : Tbl} {cs : List Cel} {r : Int} (h : leadsB cs (tellR t.hands r) = true) : inT t.hands r = true := by
  cases hi : inT t.hands r
  · have := inT_no hi
    rw [tellR_no (by omega) (by omega)] at h
    rw [leadsB_out (by omega) (.inl (by omega))] at h
    cases h
  · rfl
theorem heapOk_allIn {t : Tbl} (h : heapOk (tellH t) = true) : allIn t = true := by
  obtain ⟨h1, h2⟩ := heapOk_leads h
  unfold allIn
  simp only [Bool.and_eq_true, List.all_eq_true]
  refine ⟨fun r hr => tell_leads (h1 _ (List.mem_map.2 ⟨r, hr, rfl⟩)), fun c hc r hr => ?_⟩
  obtain ⟨k, hk⟩ := List.getElem?_of_mem hc
  exact tell_leads (h2 k (tellC t.hands c) (by show (t.store.cells.map (tellC t.hands))[k]? = _; rw [List.getElem?_map, hk]; rfl) _ (List.mem_map.2 ⟨r, hr, rfl⟩))
theorem mTab_spec {t : Tbl} (h1 : t.hands.length = t.store.cells.length) (h : ∀ k, k < t.hands.length → handAt t.hands k = true) : mTableValid t = (allIn t && heapOk (tellH t)) := by
  cases hk : heapOk (tellH t)
  · simp [mTableValid, hk]
  · obtain ⟨h2, -⟩ := heapOk_small hk
    have h3 : (tellH t).cells.length = t.store.cells.length := List.length_map _
    rw [mTab_yes h1 (by omega) h, hk, heapOk_allIn hk]; rfl
theorem mTab_spec1 {t : Tbl} (h1 : t.hands.length = t.store.cells.length) (h : ∀ k, k < t.hands.length → handAt t.hands k = true) (ha : allIn t = false) : mTableValid t = false := by rw [mTab_spec h1 h, ha]; rfl
theorem mTab_spec2 {t : Tbl} (h1 : t.hands.length = t.store.cells.length) (h : ∀ k, k < t.hands.length → handAt t.hands k = true) (ha : allIn t = true) : mTableValid t = heapOk (tellH t) := by rw [mTab_spec h1 h, ha]; rfl
def metT (hs : List Int) (n k : Nat) : List Bool := (List.range n).map fun c : Nat => (hs.take k).contains (c : Int)
theorem metT_zero (hs : List Int) (n : Nat) : List.replicate n false = metT hs n 0 := by
  unfold metT
  apply List.ext_getElem <;> simp
theorem metT_at {hs : List Int} {n k q : Nat} (hq : q < n) : (metT hs n k)[q]? = some ((hs.take k).contains (q : Int)) := by simp [metT, List.getElem?_range hq]
theorem metT_succ {hs : List Int} {n k q : Nat} (hx : Hid (hs[k]? = some (q : Int))) : metT hs n (k + 1) = (metT hs n k).set q true := by
  unfold metT
  apply List.ext_getElem (by simp)
  intro i h1 h2
  simp only [List.getElem_set, List.getElem_map, List.getElem_range]
  rw [contains_snoc hx]
  by_cases e : q = i
  · rw [if_pos e]; simp; omega
  · rw [if_neg e]
    have : decide ((i : Int) = (q : Int)) = false := by simp; omega
    rw [this, Bool.or_false]
end Go.Proofs.Ytdkpfggfkhnjfaa

/- TableHeap, the program's and the reference's: both make mTableHeap, for every table that can be read. -/
namespace Go.Proofs.Ytdkpfggfkhnjfaa
open Go.RowKit
def mTableHeap (t : Tbl) : Hp := if mTableValid t then tellH t else ⟨[], []⟩
theorem mTHp_no {t : Tbl} (h0 : mTableValid t = false) : mTableHeap t = ⟨[], []⟩ := by simp [mTableHeap, h0]
theorem mTHp_yes {t : Tbl} (h0 : mTableValid t = true) : mTableHeap t = tellH t := by simp [mTableHeap, h0]
/-- A call makes a heap: two parts of its own. -/
def MadeHp (w : World) (h : Hp) (e : Ending) (w' : World) : Prop := ∃ cv rvs rv, e = .returned (.agg #[cv, rv]) ∧ Owns w.heap.size w w' [.cells cv rvs h.cells, .ints rv h.roots]
theorem mTab_allIn {t : Tbl} (h0 : mTableValid t = true) : allIn t = true := by
  simp only [mTableValid, Bool.and_eq_true] at h0
  exact heapOk_allIn h0.2
end Go.Proofs.Ytdkpfggfkhnjfaa

/- A cell that a call owns is given back: its place holds the zero cell. No program is walked. -/
namespace Go.Proofs.Ytdkpfggfkhnjfaa
open Go.RowKit
theorem cellVals_set3 : ∀ (cs : List Cel) (rvs : List Value) (i : Nat), rvs.length = cs.length → i < cs.length →
    cellVals (cs.set i noCel) (rvs.set i (.slice none 0 0)) = (((cellVals cs rvs).set (i * 3) (.bool false)).set (i * 3 + 1) (.int .i64 0)).set (i * 3 + 2) (.slice none 0 0)
  | [], _, _, _, h => by simp at h
  | _ :: _, [], _, h, _ => by simp at h
  | c :: cs, rv :: rvs, 0, _, _ => by simp [cellVals, noCel]
  | c :: cs, rv :: rvs, i + 1, hl, h => by
    have := cellVals_set3 cs rvs i (by simpa using hl) (by simpa using h)
    have e : (i + 1) * 3 = i * 3 + 3 := by omega
    rw [e, List.set_cons_succ, List.set_cons_succ, cellVals, this]
    simp [cellVals]
theorem OwC.wipe {w : World} {lo hi : Nat} {rvs : List Value} {cs : List Cel} {g n cap : Nat} {i : Nat} (ho : OwC w lo hi (.slice (some ⟨g, 0, none⟩) n cap) rvs cs) (hn : n = cs.length) (hi' : i < cs.length) :
    OwC (((w.setCell ⟨g, i * 3, none⟩ (.bool false)).setCell ⟨g, i * 3 + 1, none⟩ (.int .i64 0)).setCell ⟨g, i * 3 + 2, none⟩ (.slice none 0 0)) lo hi (.slice (some ⟨g, 0, none⟩) n cap) (rvs.set i (.slice none 0 0)) (cs.set i noCel) := by
  subst hn
  obtain ⟨s1, g1⟩ := ho.own.stored (i * 3) (.bool false)
  obtain ⟨s2, g2⟩ := s1.stored (i * 3 + 1) (.int .i64 0)
  obtain ⟨s3, g3⟩ := s2.stored (i * 3 + 2) (.slice none 0 0)
  rw [← cellVals_set3 cs rvs i ho.same hi'] at s3
  refine ⟨by rw [List.length_set, List.length_set]; exact ho.same, by rw [List.length_set]; exact s3, ho.lt, fun i2 rv c' h1 h2 => ?_, fun a b x y hab hx hy => ?_⟩
  · by_cases e : i = i2
    · subst e
      rw [List.getElem?_set_self (by rw [ho.same]; exact hi')] at h1
      rw [List.getElem?_set_self hi'] at h2
      injection h1 with h1; injection h2 with h2
      subst h1 h2
      exact ⟨World.ownsRow_nil _ _ _ _, fun k hk => by simp [Value.ownBlock] at hk⟩
    · rw [List.getElem?_set_ne e] at h1 h2
      exact (ho.refs i2 rv c' h1 h2).keep1 fun k hk => by
        have hne : k ≠ g := fun e => own_ne (ho.refs i2 rv c' h1 h2).own ho.own (by decide) hk (by rw [e]; rfl)
        rw [Below.heap_setCell _ _ _ k (by exact hne), Below.heap_setCell _ _ _ k (by exact hne), Below.heap_setCell _ _ _ k (by exact hne)]
  · by_cases ea : i = a
    · subst ea
      rw [List.getElem?_set_self (by rw [ho.same]; exact hi')] at hx
      injection hx with hx; subst hx
      exact .inl rfl
    · rw [List.getElem?_set_ne ea] at hx
      by_cases eb : i = b
      · subst eb
        rw [List.getElem?_set_self (by rw [ho.same]; exact hi')] at hy
        injection hy with hy; subst hy
        cases hxo : x.ownBlock
        · exact .inl hxo
        · exact .inr (by rw [hxo]; simp [Value.ownBlock])
      · rw [List.getElem?_set_ne eb] at hy
        exact ho.apart a b x y hab hx hy
theorem Owns.wipe {lo : Nat} {w0 w : World} {L : List OB} {rvs : List Value} {cs : List Cel} {g n cap : Nat} (h : Owns lo w0 w L) (j : Nat) (hX : L[j]? = some (.cells (.slice (some ⟨g, 0, none⟩) n cap) rvs cs)) (hn : n = cs.length) (i : Nat) (hi : i < cs.length) :
    Owns lo w0 (((w.setCell ⟨g, i * 3, none⟩ (.bool false)).setCell ⟨g, i * 3 + 1, none⟩ (.int .i64 0)).setCell ⟨g, i * 3 + 2, none⟩ (.slice none 0 0)) (L.set j (.cells (.slice (some ⟨g, 0, none⟩) n cap) (rvs.set i (.slice none 0 0)) (cs.set i noCel))) := by
  have ho := h.owC j hX
  have hT : Turn (CellBlocks (.slice (some ⟨g, 0, none⟩) n cap) rvs) w (((w.setCell ⟨g, i * 3, none⟩ (.bool false)).setCell ⟨g, i * 3 + 1, none⟩ (.int .i64 0)).setCell ⟨g, i * 3 + 2, none⟩ (.slice none 0 0)) :=
    (((Turn.refl _ w).setCell _ (.inl rfl)).setCell _ (.inl rfl)).setCell _ (.inl rfl)
  refine h.turn j hX hT ?_ fun k hk => .inl ?_
  · have := ho.wipe hn hi
    show OwC _ lo _ _ _ _
    simpa only [World.size_setCell] using this
  · rcases hk with e | ⟨x, hx, e⟩
    · exact .inl e
    · rcases List.mem_or_eq_of_mem_set hx with h1 | rfl
      · exact .inr ⟨x, h1, e⟩
      · simp [Value.ownBlock] at e
end Go.Proofs.Ytdkpfggfkhnjfaa

/- Writing a number into a cell, and into a slice of ints, that a call owns. No program is walked. -/
namespace Go.Proofs.Ytdkpfggfkhnjfaa
open Go.RowKit
theorem cellVals_setD : ∀ (cs : List Cel) (rvs : List Value) (i : Nat) (l : Cel) (x : Int), rvs.length = cs.length → cs[i]? = some l →
    cellVals (cs.set i ⟨l.used, x, l.refs⟩) rvs = (cellVals cs rvs).set (i * 3 + 1) (.int .i64 x)
  | [], _, _, _, _, _, h => by simp at h
  | _ :: _, [], _, _, _, h, _ => by simp at h
  | c :: cs, rv :: rvs, 0, l, x, _, h => by simp at h; subst h; simp [cellVals]
  | c :: cs, rv :: rvs, i + 1, l, x, hl, h => by
    have := cellVals_setD cs rvs i l x (by simpa using hl) (by simpa using h)
    have e : (i + 1) * 3 = i * 3 + 3 := by omega
    rw [e, List.set_cons_succ, cellVals, this]
    simp [cellVals]
theorem OwC.putD {w : World} {lo hi : Nat} {rvs : List Value} {cs : List Cel} {g n cap : Nat} {i : Nat} {l : Cel} (ho : OwC w lo hi (.slice (some ⟨g, 0, none⟩) n cap) rvs cs) (hn : n = cs.length) (hl : cs[i]? = some l) (x : Int) :
    OwC (w.setCell ⟨g, i * 3 + 1, none⟩ (.int .i64 x)) lo hi (.slice (some ⟨g, 0, none⟩) n cap) rvs (cs.set i ⟨l.used, x, l.refs⟩) := by
  subst hn
  obtain ⟨s1, g1⟩ := ho.own.stored (i * 3 + 1) (.int .i64 x)
  rw [← cellVals_setD cs rvs i l x ho.same hl] at s1
  refine ⟨by rw [List.length_set]; exact ho.same, by rw [List.length_set]; exact s1, ho.lt, fun i2 rv c' h1 h2 => ?_, ho.apart⟩
  have key : ∀ c : Cel, cs[i2]? = some c → OwI (w.setCell ⟨g, i * 3 + 1, none⟩ (.int .i64 x)) lo hi rv c.refs := fun c hc => (ho.refs i2 rv c h1 hc).keep1 fun k hk => by
    have hne : k ≠ g := fun e => own_ne (ho.refs i2 rv c h1 hc).own ho.own (by decide) hk (by rw [e]; rfl)
    exact Below.heap_setCell _ _ _ k (by exact hne)
  by_cases e : i = i2
  · subst e
    rw [List.getElem?_set_self (List.getElem?_eq_some_iff.1 hl).1] at h2
    injection h2 with h2
    subst h2
    exact key l hl
  · rw [List.getElem?_set_ne e] at h2
    exact key c' h2
section
variable {lo : Nat} {w0 w : World} {L : List OB}
theorem Owns.putDat {rvs : List Value} {cs : List Cel} {g n cap : Nat} (h : Owns lo w0 w L) (j : Nat) (hX : L[j]? = some (.cells (.slice (some ⟨g, 0, none⟩) n cap) rvs cs)) (hn : n = cs.length) {i : Nat} {l : Cel} (hl : cs[i]? = some l) (x : Int) :
    Owns lo w0 (w.setCell ⟨g, i * 3 + 1, none⟩ (.int .i64 x)) (L.set j (.cells (.slice (some ⟨g, 0, none⟩) n cap) rvs (cs.set i ⟨l.used, x, l.refs⟩))) := by
  have ho := h.owC j hX
  refine h.turn j hX (turn_set (.inl rfl)) ?_ fun k hk => .inl hk
  have := ho.putD hn hl x
  show OwC _ lo _ _ _ _
  simpa only [World.size_setCell] using this
theorem Owns.setInt {g c : Nat} {rs : List Int} (h : Owns lo w0 w L) (i : Nat) {n : Nat} (hX : L[i]? = some (.ints (.slice (some ⟨g, 0, none⟩) n c) rs)) (hn : n = rs.length) (j : Nat) (x : Int) :
    Owns lo w0 (w.setCell ⟨g, j, none⟩ (.int .i64 x)) (L.set i (.ints (.slice (some ⟨g, 0, none⟩) n c) (rs.set j x))) := by
  subst hn
  have := h.putRow i hX j (.int .i64 x)
  rw [← List.map_set] at this
  have e : OB.row 3 1 (.slice (some ⟨g, 0, none⟩) rs.length c) rs.length ((rs.set j x).map (Value.int .i64)) = OB.ints (.slice (some ⟨g, 0, none⟩) rs.length c) (rs.set j x) := by
    show _ = OB.row _ _ _ (rs.set j x).length _
    rw [List.length_set]
  rw [e] at this
  exact this
theorem Owns.intAt {g c n : Nat} {rs : List Int} (h : Owns lo w0 w L) (i : Nat) (hX : L[i]? = some (.ints (.slice (some ⟨g, 0, none⟩) n c) rs)) (hn : n = rs.length) {j : Nat} {x : Int} (hj : Hid (rs[j]? = some x)) : w.cell? ⟨g, j, none⟩ = some (.int .i64 x) ∧ w.frozen? ⟨g, j, none⟩ = false := by
  subst hn
  exact h.elem i hX (j := j) (u := .int .i64 x) (by rw [List.getElem?_map, hj.out]; rfl)
/-- The three words of a cell. -/
theorem Owns.cellW {v : Value} {rvs : List Value} {cs : List Cel} (h : Owns lo w0 w L) (i : Nat) (hX : L[i]? = some (.cells v rvs cs)) {k : Nat} {l : Cel} (hc : Hid (cs[k]? = some l)) :
    ∃ g cC A c, v = .slice (some ⟨g, 0, none⟩) cs.length cC ∧ Hid (rvs[k]? = some (.slice A l.refs.length c)) ∧ w.cell? ⟨g, k * 3, none⟩ = some (.bool l.used) ∧ w.cell? ⟨g, k * 3 + 1, none⟩ = some (.int .i64 l.data) ∧ w.cell? ⟨g, k * 3 + 2, none⟩ = some (.slice A l.refs.length c) ∧ w.frozen? ⟨g, k * 3, none⟩ = false ∧ w.frozen? ⟨g, k * 3 + 1, none⟩ = false ∧ w.frozen? ⟨g, k * 3 + 2, none⟩ = false ∧ l.refs.length ≤ c ∧ c ≤ maxLen := by
  have ho := h.owC i hX
  have hk := (List.getElem?_eq_some_iff.1 hc.out).1
  have hrv : rvs[k]? = some (rvs[k]'(by rw [ho.same]; exact hk)) := List.getElem?_eq_getElem _
  obtain ⟨A, c, e, hR⟩ := (ho.refs k _ l hrv hc.out).form
  rw [e] at hrv
  obtain ⟨v1, v2, v3⟩ := cellVals_at cs rvs k l _ hc.out hrv
  rcases ho.own.2 with ⟨_, h0⟩ | ⟨g, cC, cur, rfl, _⟩
  · omega
  · exact ⟨g, cC, A, c, rfl, Go.Lib.hid hrv, (ho.own.cellAt _ (by omega)).trans v1, (ho.own.cellAt _ (by omega)).trans v2, (ho.own.cellAt _ (by omega)).trans v3, ho.own.frozenAt _, ho.own.frozenAt _, ho.own.frozenAt _, hR.cap, hR.mx⟩
end
end Go.Proofs.Ytdkpfggfkhnjfaa

/- Plain laws on the order in which cells are met and on what a program sees of a heap; two heaps whose cells that are met correspond show the same. No program. -/
namespace Go.Proofs.Ytdkpfggfkhnjfaa
open Go.RowKit
def cel (cs : List Cel) (r : Int) : Cel := cs.getD r.toNat noCel
def ord1 (o : List Int) (r : Int) : List Int := if 0 ≤ r ∧ r ∉ o then o ++ [r] else o
def ordL (o : List Int) (rs : List Int) : List Int := rs.foldl ord1 o
def ordS (cs : List Cel) : Nat → List Int → List Int
  | 0, o => o
  | k + 1, o => match (ordS cs k o)[k]? with
    | some c => ordL (ordS cs k o) (cel cs c).refs
    | none => ordS cs k o
theorem ordH_ex (h : Hp) : ∃ o : List Int, o = ordS h.cells 64 (ordL [] h.roots) := ⟨_, rfl⟩
/-- The order, hidden from the kernel's unfolding. -/
noncomputable def ordH (h : Hp) : List Int := Classical.choose (ordH_ex h)
theorem ordH_def (h : Hp) : ordH h = ordS h.cells 64 (ordL [] h.roots) := Classical.choose_spec (ordH_ex h)
noncomputable def mMetOrder (h : Hp) : List Int := if heapOk h then ordH h else []
def nameI (o : List Int) (r : Int) : Int := if r ∈ o then ((o.idxOf r : Nat) : Int) else -1
def viewC (cs : List Cel) (o : List Int) (c : Int) : List Int := (cel cs c).data :: (((cel cs c).refs.length : Nat) : Int) :: (cel cs c).refs.map (nameI o)
noncomputable def viewH (h : Hp) : List Int := h.roots.map (nameI (ordH h)) ++ (ordH h).flatMap (viewC h.cells (ordH h))
noncomputable def mView (h : Hp) : List Int := if heapOk h then viewH h else []
theorem mView_yes {h : Hp} (h0 : heapOk h = true) : mView h = viewH h := by simp [mView, h0]
theorem mMet_yes {h : Hp} (h0 : heapOk h = true) : mMetOrder h = ordH h := by simp [mMetOrder, h0]
theorem mMet_no {h : Hp} (h0 : heapOk h = false) : mMetOrder h = [] := by simp [mMetOrder, h0]
theorem cel_at {cs : List Cel} {c : Nat} {l : Cel} (h : Hid (cs[c]? = some l)) : cel cs (c : Int) = l := by
  unfold cel
  rw [List.getD_eq_getElem?_getD, Int.toNat_natCast, h.out]; rfl
theorem ord1_no {o : List Int} {r : Int} (h : r < 0 ∨ r ∈ o) : ord1 o r = o := by
  unfold ord1
  rw [if_neg]
  rintro ⟨h1, h2⟩
  rcases h with h | h
  · omega
  · exact h2 h
theorem ord1_yes {o : List Int} {r : Int} (h : 0 ≤ r) (h2 : r ∉ o) : ord1 o r = o ++ [r] := by
  unfold ord1
  rw [if_pos ⟨h, h2⟩]
theorem ordL_take {o rs : List Int} {k : Nat} {r : Int} (h : Hid (rs[k]? = some r)) : ordL o (rs.take (k + 1)) = ord1 (ordL o (rs.take k)) r := by
  obtain ⟨hk, rfl⟩ := List.getElem?_eq_some_iff.1 h.out
  unfold ordL
  rw [List.take_succ_eq_append_getElem hk, List.foldl_append]; rfl
/-! ### The order: what is in it, that nothing is in it twice, that it ends -/
theorem ord1_mem {o : List Int} {r x : Int} : x ∈ ord1 o r ↔ x ∈ o ∨ (x = r ∧ 0 ≤ r) := by
  unfold ord1
  by_cases h : 0 ≤ r ∧ r ∉ o
  · rw [if_pos h]
    simp only [List.mem_append, List.mem_singleton]
    exact ⟨fun k => k.imp_right fun e => ⟨e, h.1⟩, fun k => k.imp_right fun e => e.1⟩
  · rw [if_neg h]
    refine ⟨.inl, fun k => k.elim id fun e => ?_⟩
    rcases Classical.em (r ∈ o) with q | q
    · rw [e.1]; exact q
    · exact absurd ⟨e.2, q⟩ h
theorem ordL_mem {x : Int} : ∀ (rs o : List Int), x ∈ ordL o rs ↔ x ∈ o ∨ (x ∈ rs ∧ 0 ≤ x)
  | [], o => by simp [ordL]
  | r :: rs, o => by
    show x ∈ ordL (ord1 o r) rs ↔ _
    rw [ordL_mem rs, ord1_mem, List.mem_cons]
    constructor
    · rintro ((k | ⟨rfl, k⟩) | ⟨k1, k2⟩)
      · exact .inl k
      · exact .inr ⟨.inl rfl, k⟩
      · exact .inr ⟨.inr k1, k2⟩
    · rintro (k | ⟨rfl | k1, k2⟩)
      · exact .inl (.inl k)
      · exact .inl (.inr ⟨rfl, k2⟩)
      · exact .inr ⟨k1, k2⟩
theorem ord1_ext (o : List Int) (r : Int) : ∃ e, ord1 o r = o ++ e := by
  unfold ord1
  split
  · exact ⟨_, rfl⟩
  · exact ⟨[], by simp⟩
theorem ordL_ext : ∀ (rs o : List Int), ∃ e, ordL o rs = o ++ e
  | [], o => ⟨[], by simp [ordL]⟩
  | r :: rs, o => by
    obtain ⟨e1, h1⟩ := ord1_ext o r
    obtain ⟨e2, h2⟩ := ordL_ext rs (ord1 o r)
    exact ⟨e1 ++ e2, by show ordL (ord1 o r) rs = _; rw [h2, h1, List.append_assoc]⟩
theorem ord1_nodup {o : List Int} (h : o.Nodup) (r : Int) : (ord1 o r).Nodup := by
  unfold ord1
  split
  · rename_i k
    rw [List.nodup_append]
    refine ⟨h, by simp, fun a ha b hb => ?_⟩
    simp only [List.mem_singleton] at hb
    subst hb
    rintro rfl
    exact k.2 ha
  · exact h
theorem ordL_nodup : ∀ (rs o : List Int), o.Nodup → (ordL o rs).Nodup
  | [], _, h => h
  | r :: rs, o, h => ordL_nodup rs (ord1 o r) (ord1_nodup h r)
theorem ordS_succ {cs : List Cel} {k : Nat} {o : List Int} {c : Int} (h : Hid ((ordS cs k o)[k]? = some c)) : ordS cs (k + 1) o = ordL (ordS cs k o) (cel cs c).refs := by
  simp only [ordS, h.out]
theorem ordS_stop {cs : List Cel} {k : Nat} {o : List Int} (h : (ordS cs k o).length ≤ k) : ordS cs (k + 1) o = ordS cs k o := by
  simp only [ordS, List.getElem?_eq_none h]
theorem ordS_end {cs : List Cel} {k : Nat} {o : List Int} (h : (ordS cs k o).length ≤ k) : ∀ j, ordS cs (k + j) o = ordS cs k o
  | 0 => rfl
  | j + 1 => by
    have ih := ordS_end h j
    rw [show k + (j + 1) = (k + j) + 1 by omega, ordS_stop (by rw [ih]; omega), ih]
theorem ordS_ext (cs : List Cel) (o : List Int) : ∀ k, ∃ e, ordS cs k o = o ++ e
  | 0 => ⟨[], by simp [ordS]⟩
  | k + 1 => by
    obtain ⟨e, h⟩ := ordS_ext cs o k
    cases hq : (ordS cs k o)[k]? with
    | none => exact ⟨e, by simp only [ordS, hq]; exact h⟩
    | some c =>
      obtain ⟨e2, h2⟩ := ordL_ext (cel cs c).refs (ordS cs k o)
      exact ⟨e ++ e2, by simp only [ordS, hq]; rw [h2, h, List.append_assoc]⟩
theorem ordS_nodup (cs : List Cel) {o : List Int} (h : o.Nodup) : ∀ k, (ordS cs k o).Nodup
  | 0 => h
  | k + 1 => by
    have ih := ordS_nodup cs h k
    cases hq : (ordS cs k o)[k]? with
    | none => simp only [ordS, hq]; exact ih
    | some c => simp only [ordS, hq]; exact ordL_nodup _ _ ih
theorem ordS_all {cs : List Cel} {R : Int → Prop} (hc : ∀ c, R c → ∀ r ∈ (cel cs c).refs, 0 ≤ r → R r) {o : List Int} (h : ∀ x ∈ o, R x) : ∀ k, ∀ x ∈ ordS cs k o, R x
  | 0 => h
  | k + 1 => by
    have ih := ordS_all hc h k
    cases hq : (ordS cs k o)[k]? with
    | none => simp only [ordS, hq]; exact ih
    | some c =>
      simp only [ordS, hq]
      intro x hx
      rcases (ordL_mem _ _).1 hx with hx | ⟨h1, h2⟩
      · exact ih x hx
      · exact hc c (ih c (List.mem_of_getElem? hq)) x h1 h2
theorem ordL_all {R : Int → Prop} {o rs : List Int} (h : ∀ x ∈ o, R x) (hr : ∀ r ∈ rs, 0 ≤ r → R r) : ∀ x ∈ ordL o rs, R x := by
  intro x hx
  rcases (ordL_mem _ _).1 hx with hx | ⟨h1, h2⟩
  · exact h x hx
  · exact hr x h1 h2
theorem ordS_next {cs : List Cel} {o : List Int} : ∀ (k i : Nat) (c : Int), i < k → (ordS cs k o)[i]? = some c → ∀ r ∈ (cel cs c).refs, 0 ≤ r → r ∈ ordS cs k o
  | 0, i, c, hi, _ => by omega
  | k + 1, i, c, hi, hc => by
    intro r hr h0
    cases hq : (ordS cs k o)[k]? with
    | none =>
      have hs : ordS cs (k + 1) o = ordS cs k o := by simp only [ordS, hq]
      rw [hs] at hc ⊢
      have hik : i < k := by
        rcases Nat.lt_or_ge i k with q | q
        · exact q
        · have : i = k := by omega
          rw [this, hq] at hc; cases hc
      exact ordS_next k i c hik hc r hr h0
    | some d =>
      have hs : ordS cs (k + 1) o = ordL (ordS cs k o) (cel cs d).refs := by simp only [ordS, hq]
      rw [hs] at hc ⊢
      rw [ordL_mem]
      have hk : k < (ordS cs k o).length := (List.getElem?_eq_some_iff.1 hq).1
      obtain ⟨e, he⟩ := ordL_ext (cel cs d).refs (ordS cs k o)
      rw [he, List.getElem?_append_left (by omega)] at hc
      rcases Nat.lt_or_ge i k with q | q
      · exact .inl (ordS_next k i c q hc r hr h0)
      · have : i = k := by omega
        rw [this, hq] at hc
        injection hc with hc
        subst hc
        exact .inr ⟨hr, h0⟩
theorem nodup_len : ∀ (n : Nat) (l : List Int), l.Nodup → (∀ x ∈ l, 0 ≤ x ∧ x < n) → l.length ≤ n
  | 0, l, _, h => by
    cases l with
    | nil => simp
    | cons a l => have := h a (by simp); omega
  | n + 1, l, hd, h => by
    by_cases hm : (n : Int) ∈ l
    · have h1 := nodup_len n (l.erase (n : Int)) (hd.erase _) fun x hx => by
        obtain ⟨h2, h3⟩ := (List.Nodup.mem_erase_iff hd).1 hx
        have := h x h3
        omega
      rw [List.length_erase_of_mem hm] at h1
      omega
    · have := nodup_len n l hd fun x hx => by
        have := h x hx
        have : x ≠ n := by rintro rfl; exact hm hx
        omega
      omega
/-! ### Valid heaps -/
/-- The cells that can be reached, as numbers. -/
def RchI (h : Hp) (r : Int) : Prop := 0 ≤ r ∧ reachB h.cells h.roots r.toNat = true
theorem reach_lt {h : Hp} {r : Int} (hr : RchI h r) : r < h.cells.length := by
  obtain ⟨h0, h1⟩ := hr
  simp only [reachB, decide_eq_true_eq] at h1
  have := usedN_lt h1.inS
  omega
theorem cel_refs {cs : List Cel} {c r : Int} (hr : r ∈ (cel cs c).refs) : ∃ l, cs[c.toNat]? = some l ∧ r ∈ l.refs ∧ cel cs c = l := by
  unfold cel at hr ⊢
  rw [List.getD_eq_getElem?_getD] at hr ⊢
  cases hq : cs[c.toNat]? with
  | none => rw [hq] at hr; simp [noCel] at hr
  | some l => rw [hq] at hr; exact ⟨l, rfl, hr, rfl⟩
theorem rchI_root {h : Hp} (h0 : heapOk h = true) : ∀ r ∈ h.roots, 0 ≤ r → RchI h r := fun r hr hp => by
  refine ⟨hp, ?_⟩
  simp only [reachB, decide_eq_true_eq]
  exact .base hr hp (leadsB_used ((heapOk_leads h0).1 r hr) hp)
theorem rchI_ref {h : Hp} (h0 : heapOk h = true) : ∀ c, RchI h c → ∀ r ∈ (cel h.cells c).refs, 0 ≤ r → RchI h r := fun c hc r hr hp => by
  obtain ⟨l, hl, hm, -⟩ := cel_refs hr
  refine ⟨hp, ?_⟩
  have h1 := hc.2
  simp only [reachB, decide_eq_true_eq] at h1 ⊢
  exact .step h1 hl hm hp (leadsB_used ((heapOk_leads h0).2 _ l hl r hm) hp)
theorem ordS_reach {h : Hp} (h0 : heapOk h = true) (k : Nat) : ∀ x ∈ ordS h.cells k (ordL [] h.roots), RchI h x :=
  ordS_all (rchI_ref h0) (ordL_all (fun x hx => by simp at hx) (rchI_root h0)) k
theorem ordS_len {h : Hp} (h0 : heapOk h = true) (k : Nat) : (ordS h.cells k (ordL [] h.roots)).length ≤ h.cells.length :=
  nodup_len _ _ (ordS_nodup _ (ordL_nodup _ _ List.nodup_nil) k) fun x hx => ⟨(ordS_reach h0 k x hx).1, reach_lt (ordS_reach h0 k x hx)⟩
theorem ordH_end {h : Hp} {k : Nat} (hk : (ordS h.cells k (ordL [] h.roots)).length ≤ k) (h64 : k ≤ 64) : ordS h.cells k (ordL [] h.roots) = ordH h := by
  have := ordS_end hk (64 - k)
  rw [show k + (64 - k) = 64 by omega] at this
  rw [ordH_def]
  exact this.symm
theorem ordH_nodup (h : Hp) : (ordH h).Nodup := by rw [ordH_def]; exact ordS_nodup _ (ordL_nodup _ _ List.nodup_nil) 64
theorem ordH_reach {h : Hp} (h0 : heapOk h = true) : ∀ x ∈ ordH h, RchI h x := by rw [ordH_def]; exact ordS_reach h0 64
theorem ordH_len {h : Hp} (h0 : heapOk h = true) : (ordH h).length ≤ h.cells.length := by rw [ordH_def]; exact ordS_len h0 64
theorem ordH_root (h : Hp) : ∀ r ∈ h.roots, 0 ≤ r → r ∈ ordH h := fun r hr hp => by
  obtain ⟨e, he⟩ := ordS_ext h.cells (ordL [] h.roots) 64
  rw [ordH_def, he, List.mem_append, ordL_mem]
  exact .inl (.inr ⟨hr, hp⟩)
theorem ordH_ref {h : Hp} (h0 : heapOk h = true) : ∀ c ∈ ordH h, ∀ r ∈ (cel h.cells c).refs, 0 ≤ r → r ∈ ordH h := fun c hc r hr hp => by
  obtain ⟨i, hi⟩ := List.getElem?_of_mem hc
  have h1 := ordH_len h0
  have h2 := (List.getElem?_eq_some_iff.1 hi).1
  have h3 : h.cells.length ≤ 40 := by
    simp only [heapOk, Bool.and_eq_true, decide_eq_true_eq] at h0
    exact h0.1.1.1
  rw [ordH_def] at hi ⊢
  exact ordS_next 64 i c (by omega) hi r hr hp
/-! ### Two heaps that show the same -/
def up (f : Int → Int) (r : Int) : Int := if r < 0 then r else f r
theorem up_neg {f : Int → Int} {r : Int} (h : r < 0) : up f r = r := by simp [up, h]
theorem up_pos {f : Int → Int} {r : Int} (h : 0 ≤ r) : up f r = f r := by unfold up; rw [if_neg (by omega)]
theorem up_id (r : Int) : up id r = r := by unfold up; split <;> rfl
theorem map_up_id (rs : List Int) : rs.map (up id) = rs := by
  rw [show up id = id from funext up_id, List.map_id]
structure Iso (h h' : Hp) (R : Int → Prop) (f : Int → Int) : Prop where
  root : ∀ r ∈ h.roots, 0 ≤ r → R r
  ref : ∀ c, R c → ∀ r ∈ (cel h.cells c).refs, 0 ≤ r → R r
  pos : ∀ c, R c → 0 ≤ c ∧ 0 ≤ f c
  inj : ∀ a b, R a → R b → f a = f b → a = b
  roots : h'.roots = h.roots.map (up f)
  data : ∀ c, R c → (cel h'.cells (f c)).data = (cel h.cells c).data
  refs : ∀ c, R c → (cel h'.cells (f c)).refs = (cel h.cells c).refs.map (up f)
theorem flatMap_congr' {α β : Type} {l : List α} {p q : α → List β} (h : ∀ x ∈ l, p x = q x) : l.flatMap p = l.flatMap q := by
  induction l with
  | nil => rfl
  | cons a l ih => rw [List.flatMap_cons, List.flatMap_cons, h a (by simp), ih fun x hx => h x (List.mem_cons_of_mem _ hx)]
section
variable {R : Int → Prop} {f : Int → Int}
theorem mem_map_inj (inj : ∀ a b, R a → R b → f a = f b → a = b) {o : List Int} (ho : ∀ x ∈ o, R x) {r : Int} (hr : R r) : f r ∈ o.map f ↔ r ∈ o := by
  rw [List.mem_map]
  refine ⟨fun ⟨x, hx, e⟩ => ?_, fun k => ⟨r, k, rfl⟩⟩
  rw [← inj x r (ho x hx) hr e]; exact hx
theorem idx_map (inj : ∀ a b, R a → R b → f a = f b → a = b) {r : Int} (hr : R r) : ∀ (o : List Int), (∀ x ∈ o, R x) → (o.map f).idxOf (f r) = o.idxOf r
  | [], _ => rfl
  | a :: o, ho => by
    rw [List.map_cons, List.idxOf_cons, List.idxOf_cons, idx_map inj hr o fun x hx => ho x (List.mem_cons_of_mem _ hx)]
    by_cases e : a = r
    · rw [e]; simp
    · have e2 : ¬ f a = f r := fun k => e (inj a r (ho a (by simp)) hr k)
      rw [beq_eq_false_iff_ne.2 e, beq_eq_false_iff_ne.2 e2]
theorem ord1_map (pos : ∀ c, R c → 0 ≤ c ∧ 0 ≤ f c) (inj : ∀ a b, R a → R b → f a = f b → a = b) {o : List Int} (ho : ∀ x ∈ o, R x) {r : Int} (hr : 0 ≤ r → R r) : ord1 (o.map f) (up f r) = (ord1 o r).map f := by
  rcases Int.lt_or_le r 0 with h0 | h0
  · rw [ord1_no (.inl h0), up_neg h0, ord1_no (.inl h0)]
  · rw [up_pos h0]
    by_cases hm : r ∈ o
    · rw [ord1_no (.inr hm), ord1_no (.inr ((mem_map_inj inj ho (hr h0)).2 hm))]
    · rw [ord1_yes h0 hm, ord1_yes (pos r (hr h0)).2 fun k => hm ((mem_map_inj inj ho (hr h0)).1 k)]
      simp
theorem ordL_map (pos : ∀ c, R c → 0 ≤ c ∧ 0 ≤ f c) (inj : ∀ a b, R a → R b → f a = f b → a = b) : ∀ (rs o : List Int), (∀ x ∈ o, R x) → (∀ r ∈ rs, 0 ≤ r → R r) → ordL (o.map f) (rs.map (up f)) = (ordL o rs).map f
  | [], o, _, _ => rfl
  | r :: rs, o, ho, hr => by
    show ordL (ord1 (o.map f) (up f r)) (rs.map (up f)) = (ordL (ord1 o r) rs).map f
    rw [ord1_map pos inj ho (hr r (by simp))]
    refine ordL_map pos inj rs _ (fun x hx => ?_) fun x hx => hr x (by simp [hx])
    rcases ord1_mem.1 hx with hx | ⟨rfl, h0⟩
    · exact ho x hx
    · exact hr x (by simp) h0
theorem nameI_map (pos : ∀ c, R c → 0 ≤ c ∧ 0 ≤ f c) (inj : ∀ a b, R a → R b → f a = f b → a = b) {o : List Int} (ho : ∀ x ∈ o, R x) {r : Int} (hr : 0 ≤ r → R r) : nameI (o.map f) (up f r) = nameI o r := by
  unfold nameI
  rcases Int.lt_or_le r 0 with h0 | h0
  · rw [up_neg h0, if_neg, if_neg]
    · intro k; have := (pos r (ho r k)).1; omega
    · intro k
      obtain ⟨x, hx, e⟩ := List.mem_map.1 k
      have := (pos x (ho x hx)).2; omega
  · rw [up_pos h0]
    by_cases hm : r ∈ o
    · rw [if_pos hm, if_pos ((mem_map_inj inj ho (hr h0)).2 hm), idx_map inj (hr h0) o ho]
    · rw [if_neg hm, if_neg fun k => hm ((mem_map_inj inj ho (hr h0)).1 k)]
theorem Iso.ordS {h h' : Hp} (g : Iso h h' R f) : ∀ k, Go.Proofs.Ytdkpfggfkhnjfaa.ordS h'.cells k (ordL [] h'.roots) = (Go.Proofs.Ytdkpfggfkhnjfaa.ordS h.cells k (ordL [] h.roots)).map f
  | 0 => by
    show ordL [] h'.roots = (ordL [] h.roots).map f
    rw [g.roots]
    exact ordL_map g.pos g.inj h.roots [] (fun x hx => by simp at hx) g.root
  | k + 1 => by
    have ih := Iso.ordS g k
    have hR : ∀ x ∈ Go.Proofs.Ytdkpfggfkhnjfaa.ordS h.cells k (ordL [] h.roots), R x := ordS_all g.ref (ordL_all (fun x hx => by simp at hx) g.root) k
    simp only [Go.Proofs.Ytdkpfggfkhnjfaa.ordS]
    rw [ih, List.getElem?_map]
    cases hq : (Go.Proofs.Ytdkpfggfkhnjfaa.ordS h.cells k (ordL [] h.roots))[k]? with
    | none => rfl
    | some c =>
      have hc := hR c (List.mem_of_getElem? hq)
      show ordL _ (cel h'.cells (f c)).refs = _
      rw [g.refs c hc]
      exact ordL_map g.pos g.inj _ _ hR (g.ref c hc)
theorem Iso.order {h h' : Hp} (g : Iso h h' R f) : ordH h' = (ordH h).map f := by
  rw [ordH_def, ordH_def]
  exact g.ordS 64
theorem Iso.all {h h' : Hp} (g : Iso h h' R f) : ∀ x ∈ ordH h, R x := by
  rw [ordH_def]
  exact ordS_all g.ref (ordL_all (fun x hx => by simp at hx) g.root) 64
theorem view_gen {h h' : Hp} (g : Iso h h' R f) (o : List Int) (hR : ∀ x ∈ o, R x) : h'.roots.map (nameI (o.map f)) ++ (o.map f).flatMap (viewC h'.cells (o.map f)) = h.roots.map (nameI o) ++ o.flatMap (viewC h.cells o) := by
  rw [g.roots, List.map_map]
  congr 1
  · exact List.map_congr_left fun r hr => nameI_map g.pos g.inj hR (g.root r hr)
  · rw [List.flatMap_map]
    refine flatMap_congr' fun c hc => ?_
    unfold viewC
    rw [g.data c (hR c hc), g.refs c (hR c hc), List.length_map, List.map_map]
    refine congrArg (_ :: ·) (congrArg (_ :: ·) ?_)
    exact List.map_congr_left fun r hr => nameI_map g.pos g.inj hR (g.ref c (hR c hc) r hr)
theorem Iso.view {h h' : Hp} (g : Iso h h' R f) : viewH h' = viewH h := by
  unfold viewH
  rw [g.order]
  exact view_gen g _ g.all
end
/-- Two valid heaps that correspond show the same. -/
theorem view_same {h h' : Hp} {R : Int → Prop} {f : Int → Int} (g : Iso h h' R f) (h0 : heapOk h = true) (h1 : heapOk h' = true) : mView h' = mView h := by
  rw [mView_yes h0, mView_yes h1, g.view]
end Go.Proofs.Ytdkpfggfkhnjfaa
