/- The program's tests of references, cells and heaps return what the plain functions leadsB, cellOk and heapOk say: for every heap that can be read. -/
import Derived.Test.YtjpfgbckmcjjaaaZ0
import Derived.Test.YtjpfgbckmcjjaaaChecked
import Derived.Deep.RegionHeld3
namespace Go.Proofs.Ytjpfgbckmcjjaaa
open Go.RowKit
theorem leads_any (w : World) (B : Nat) (v : Value) (h : Hp) (r : Int) (hh : RdH w B v h) :
    Calls Try.prog 56 #[v, .int .i64 r] w fun e w' => e = .returned (.bool (leadsB h.cells r)) ∧ Below w.heap.size w w' := by
  obtain ⟨A, n, c, A', n', c', rfl, hC, hR⟩ := hh.top
  have hm := hC.mx; have hcap := hC.cap
  unfold maxLen at hm
  by_cases h1 : r = -1
  · subst h1
    have e1 : leadsB h.cells (-1) = true := by simp [leadsB]
    rw [e1]
    clear e1
    go_enter Try.func56, Try.ntmps56
    go_wp2
    go_ret
    exact ⟨rfl, below_alloc _ _⟩
  by_cases h2 : r < 0
  · have e1 : leadsB h.cells r = false := by simp [leadsB]; omega
    rw [e1]
    clear e1
    go_enter Try.func56, Try.ntmps56
    go_wp2
    go_ret
    exact ⟨by simp [h1], below_alloc _ _⟩
  obtain ⟨k, rfl⟩ := Int.eq_ofNat_of_zero_le (by omega : 0 ≤ r)
  by_cases h3 : k < n
  · obtain ⟨b, o, x, A2, n2, c2, rfl, hb, hx, g1, _⟩ := hC.at_ h3
    have e1 : leadsB h.cells k = x.used := by
      obtain ⟨h4, h5⟩ := List.getElem?_eq_some_iff.1 hx.out
      have : ((k : Int) == -1) = false := by simp
      simp [leadsB, this, h4, h5]
    rw [e1]
    clear e1 h1 h2
    go_enter Try.func56, Try.ntmps56
    go_wp2
    go_ret
    exact ⟨rfl, below_alloc _ _⟩
  · have e1 : leadsB h.cells k = false := by have := hC.len; have h3' : ¬ k < h.cells.length := by omega
                                             have : ((k : Int) == -1) = false := by simp
                                             simp [leadsB, this, h3']
    rw [e1]
    clear e1
    go_enter Try.func56, Try.ntmps56
    go_wp2
    go_ret
    exact ⟨rfl, below_alloc _ _⟩

theorem cellOk_used {cs : List Cel} {c : Cel} (h : c.used = true) : cellOk cs c = (c.refs.all (leadsB cs) && (decide (0 ≤ c.data) && decide (c.data ≤ 99) && decide (c.refs.length ≤ 3))) := by simp [cellOk, h]
theorem cellOk_free {cs : List Cel} {c : Cel} (h : c.used = false) : cellOk cs c = (c.data == 0 && decide (c.refs.length = 0)) := by simp [cellOk, h]

set_option maxHeartbeats 400000 in
theorem cellValid_any (w : World) (B B' : Nat) (v u : Value) (h : Hp) (l : Cel) (hh : RdH w B v h) (hl : RdL w B' u l) :
    Calls Try.prog 102 #[v, u] w fun e w' => e = .returned (.bool (cellOk h.cells l)) ∧ Below w.heap.size w w' := by
  have hh' := hh.top
  obtain ⟨A, n, c, A', n', c', rfl, hC, hR⟩ := hh.top
  obtain ⟨D, m, d, rfl, hr⟩ := hl.top
  have hm := hr.mx; have hcap := hr.cap
  have l1 := RdI.le1 hr; have l2 := RdI.le2 hr
  unfold maxLen at hm
  cases hu : l.used
  · have HE := Go.Lib.hid (cellOk_free (cs := h.cells) hu)
    clear hu
    by_cases c1 : l.data = 0
    · by_cases c2 : m = 0
      · have HF : Hid (cellOk h.cells l = true) := Go.Lib.hid (by rw [HE.out]; simp [c1]; rw [← List.length_eq_zero_iff]; omega)
        have k1 : (l.data == 0) = true := by simp [c1]
        have k2 : ((m : Int) == 0) = true := by simp [c2]
        clear c1 c2
        go_enter Try.func102, Try.ntmps102
        go_wp2
        go_ret
        exact ⟨ret_b HF.out.symm, (below_alloc _ _).alloc (by simp) _⟩
      · have HF : Hid (cellOk h.cells l = false) := Go.Lib.hid (by rw [HE.out]; simp [c1]; intro h0; simp [h0] at l1 l2; omega)
        have k1 : (l.data == 0) = true := by simp [c1]
        have k2 : ((m : Int) == 0) = false := by simp; omega
        clear c1 c2
        go_enter Try.func102, Try.ntmps102
        go_wp2
        go_ret
        exact ⟨ret_b HF.out.symm, (below_alloc _ _).alloc (by simp) _⟩
    · have HF : Hid (cellOk h.cells l = false) := Go.Lib.hid (by rw [HE.out]; simp [c1])
      have k1 : (l.data == 0) = false := by simp [c1]
      clear c1
      go_enter Try.func102, Try.ntmps102
      go_wp2
      go_ret
      exact ⟨ret_b HF.out.symm, (below_alloc _ _).alloc (by simp) _⟩
  · have HE := Go.Lib.hid (cellOk_used (cs := h.cells) hu)
    clear hu
    go_enter Try.func102, Try.ntmps102
    go_wp2_with fail
    go_loopw [22] (fun i wr => ∃ k : Nat, i = .int .i64 k ∧ k ≤ m ∧ (l.refs.take k).all (leadsB h.cells) = true ∧
      Below (w.heap.size + 1 + 1) ((w.alloc (.cells #[.slice A n c, .slice A' n' c'] 26)).alloc (.cells #[.bool true, .int .i64 l.data, .slice D m d] 40)) wr) (fun i _ => m - (intOf i).toNat)
    case atStart => exact ⟨0, rfl, Nat.zero_le _, by simp, Below.refl _ _⟩
    case round =>
      obtain ⟨k, rfl, hk, hall, hb⟩ := hrel
      have hz := hb.size
      simp only [World.size_alloc] at hz
      have hbw : Below w.heap.size w wr := ((below_alloc _ _).alloc (by simp) _).trans (hb.mono (by omega))
      obtain ⟨q0, q1⟩ := heap2 w (.cells #[.slice A n c, .slice A' n' c'] 26) (.cells #[.bool true, .int .i64 l.data, .slice D m d] 40)
      obtain ⟨a0, a1, _, _⟩ := blk2 ((hb.block _ (by omega)).trans q0)
      obtain ⟨b0, b1, b2, _, _, _⟩ := blk3 ((hb.block _ (by omega)).trans q1)
      clear q0 q1
      by_cases hlt : k < m
      · obtain ⟨b, o, x, rfl, hbb, hx, g1⟩ := RdI.at_ (hr.below hbw) hlt
        go_wp2_with fail
        refine (leads_any _ _ _ h _ (hh'.below hbw)).mono ?_
        rintro e w2 ⟨rfl, hb2⟩
        have hb3 := hb.trans (hb2.mono (by omega))
        cases hy : leadsB h.cells x
        · have HF : Hid (cellOk h.cells l = false) := Go.Lib.hid (by rw [HE.out, all_no hx hy]; rfl)
          clear hy g1 a0 a1 b0 b1 b2
          go_wp2
          go_ret
          exact ⟨ret_b HF.out.symm, hbw.trans (hb2.mono (by omega))⟩
        · have hall' := all_succ hall hx hy
          clear hy g1 a0 a1 b0 b1 b2
          go_wp2
          go_roundw
          case rel => exact ⟨k + 1, by go_num, by omega, hall', hb3⟩
          case measure => simp [intOf]; omega
      · have hall' := all_end hall (by omega : l.refs.length ≤ k)
        clear hall
        by_cases d1 : 0 ≤ l.data
        · by_cases d2 : l.data ≤ 99
          · by_cases d3 : m ≤ 3
            · have HF : Hid (cellOk h.cells l = true) := Go.Lib.hid (by rw [HE.out, hall']; simp [d1, d2]; omega)
              go_wp2
              go_ret
              exact ⟨ret_b (by rw [HF.out] <;> simp <;> omega), hbw⟩
            · have HF : Hid (cellOk h.cells l = false) := Go.Lib.hid (by rw [HE.out, hall']; simp [d1, d2]; omega)
              go_wp2
              go_ret
              exact ⟨ret_b (by rw [HF.out] <;> simp <;> omega), hbw⟩
          · have HF : Hid (cellOk h.cells l = false) := Go.Lib.hid (by rw [HE.out, hall']; simp [d1, d2])
            go_wp2
            go_ret
            exact ⟨ret_b (by rw [HF.out] <;> simp <;> omega), hbw⟩
        · have HF : Hid (cellOk h.cells l = false) := Go.Lib.hid (by rw [HE.out, hall']; simp [d1])
          go_wp2
          go_ret
          exact ⟨ret_b (by rw [HF.out] <;> simp <;> omega), hbw⟩

set_option maxHeartbeats 400000 in
theorem heapValid_any (w : World) (B : Nat) (v : Value) (h : Hp) (hh : RdH w B v h) :
    Calls Try.prog 55 #[v] w fun e w' => e = .returned (.bool (heapOk h)) ∧ Below w.heap.size w w' := by
  have hh' := hh.top
  obtain ⟨A, n, c, A', n', c', rfl, hC, hR⟩ := hh.top
  have hm := hC.mx; have hcap := hC.cap
  have hm' := hR.mx; have hcap' := hR.cap
  unfold maxLen at hm hm'
  have hl1 := hC.le1
  have hl2 := hC.le2
  have hl1' := RdI.le1 hR
  have hl2' := RdI.le2 hR
  by_cases c1 : 40 < n
  · have e1 : heapOk h = false := by simp [heapOk]; omega
    rw [e1]; clear e1
    go_enter Try.func55, Try.ntmps55
    go_wp2
    go_ret
    exact ⟨rfl, below_alloc _ _⟩
  by_cases c2 : n' < 4 ∨ 4 < n'
  · have e1 : heapOk h = false := by simp [heapOk]; omega
    have c3 : ((n' : Int) != 4) = true := by simp; omega
    rw [e1]; clear e1
    go_enter Try.func55, Try.ntmps55
    go_wp2
    go_ret
    exact ⟨rfl, below_alloc _ _⟩
  obtain rfl : n' = 4 := by omega
  have HE : Hid (heapOk h = (h.cells.all (cellOk h.cells) && h.roots.all (leadsB h.cells))) := Go.Lib.hid (by
    have : h.roots.length = 4 := by omega
    have : h.cells.length ≤ 40 := by omega
    simp [heapOk, *])
  clear c2 
  go_enter Try.func55, Try.ntmps55
  go_wp2_with fail
  go_loopw [20] (fun i wr => ∃ k : Nat, i = .int .i64 k ∧ k ≤ n ∧ (h.cells.take k).all (cellOk h.cells) = true ∧ Below (w.heap.size + 1) (w.alloc (.cells #[.slice A n c, .slice A' 4 c'] 26)) wr) (fun i _ => n - (intOf i).toNat)
  case atStart => exact ⟨0, rfl, Nat.zero_le _, by simp, Below.refl _ _⟩
  case round =>
    obtain ⟨k, rfl, hk, hall, hb⟩ := hrel
    obtain ⟨hb0, hb1, hbw, hsz⟩ := box2 hb
    by_cases hlt : k < n
    · obtain ⟨b, o, l, A2, n2, c2, rfl, hbb, hx, g1, g2, g3, hr⟩ := (hC.below hbw).at_ hlt
      have hbb' : b < wr.heap.size := by omega
      go_wp2_with fail
      refine (cellValid_any _ _ _ _ _ h l (hh'.below (hbw.trans ((Below.refl _ _).alloc (by omega) _))) ⟨_, _, _, rfl, hr.below ((Below.refl _ _).alloc (by omega) _)⟩).mono ?_
      rintro e w2 ⟨rfl, hb2⟩
      have hb3 := hb.trans (((below_alloc wr _).trans (hb2.mono (by simp))).mono (by omega))
      cases hy : cellOk h.cells l
      · have HF : Hid (heapOk h = false) := Go.Lib.hid (by rw [HE.out, all_no hx hy]; rfl)
        clear hy g1 g2 g3 
        go_wp2
        go_ret
        exact ⟨ret_b HF.out.symm, (box2 hb3).2.2.1⟩
      · have hall' := all_succ hall hx hy
        clear hy g1 g2 g3
        go_wp2
        go_roundw
        case rel => exact ⟨k + 1, by go_num, by omega, hall', hb3⟩
        case measure => simp [intOf]; omega
    · have hall' := all_end hall (by omega : h.cells.length ≤ k)
      clear hall
      go_wp2_with fail
      obtain ⟨wo, rfl⟩ : ∃ wo : World, wo = wr := ⟨_, rfl⟩
      go_loopw [32] (fun i wr => ∃ k : Nat, i = .int .i64 k ∧ k ≤ 4 ∧ (h.roots.take k).all (leadsB h.cells) = true ∧ Below (w.heap.size + 1) (w.alloc (.cells #[.slice A n c, .slice A' 4 c'] 26)) wr) (fun i _ => 4 - (intOf i).toNat)
      case atStart => exact ⟨0, rfl, Nat.zero_le _, by simp, hb⟩
      case round =>
        obtain ⟨k2, rfl, hk2, hall2, hb'⟩ := hrel
        obtain ⟨hb0', hb1', hbw', hsz'⟩ := box2 hb'
        clear hb0 hb1 hsz
        by_cases hlt2 : k2 < 4
        · obtain ⟨b, o, x, rfl, hbb, hx, g1⟩ := RdI.at_ (hR.below hbw') hlt2
          go_wp2_with fail
          refine (leads_any _ _ _ h _ (hh'.below hbw')).mono ?_
          rintro e w2 ⟨rfl, hb2⟩
          have hb3 := hb'.trans (hb2.mono (by omega))
          cases hy : leadsB h.cells x
          · have HF : Hid (heapOk h = false) := Go.Lib.hid (by rw [HE.out, all_no hx hy]; simp)
            clear hy g1
            go_wp2
            go_ret
            exact ⟨ret_b HF.out.symm, (box2 hb3).2.2.1⟩
          · have hall' := all_succ hall2 hx hy
            clear hy g1
            go_wp2
            go_roundw
            case rel => exact ⟨k2 + 1, by go_num, by omega, hall', hb3⟩
            case measure => simp [intOf]; omega
        · have HF : Hid (heapOk h = true) := Go.Lib.hid (by rw [HE.out, hall', all_end hall2 (by omega)]; rfl)
          go_wp2
          go_ret
          exact ⟨ret_b HF.out.symm, hbw'⟩
end Go.Proofs.Ytjpfgbckmcjjaaa
