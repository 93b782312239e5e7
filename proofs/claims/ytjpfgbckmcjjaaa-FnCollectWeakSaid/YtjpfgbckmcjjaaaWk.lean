/- WeakValid, the program's and the reference's: both return mWeakValid, for every heap and list that can be read. -/
import Derived.Test.YtjpfgbckmcjjaaaHvS
namespace Go.Proofs.Ytjpfgbckmcjjaaa
open Go.RowKit
def mWeakValid (h : Hp) (ws : List Int) : Bool := heapOk h && decide (ws.length ≤ 40) && ws.all (leadsB h.cells)
theorem mWeakValid_no1 {h : Hp} {ws : List Int} (h1 : heapOk h = false) : mWeakValid h ws = false := by simp [mWeakValid, h1]
theorem mWeakValid_no2 {h : Hp} {ws : List Int} (h1 : 40 < ws.length) : mWeakValid h ws = false := by simp [mWeakValid]; omega
theorem mWeakValid_of {h : Hp} {ws : List Int} (h1 : heapOk h = true) (h2 : ws.length ≤ 40) : mWeakValid h ws = ws.all (leadsB h.cells) := by simp [mWeakValid, h1, h2]

set_option maxHeartbeats 400000 in
theorem specWeakValid_any (w : World) (B B' : Nat) (v : Value) (h : Hp) (A : Option Addr) (n c : Nat) (ws : List Int) (hh : RdH w B v h) (hr : RdI w B' A n c ws) :
    Calls Try.prog 14 #[v, .slice A n c] w fun e w' => e = .returned (.bool (mWeakValid h ws)) ∧ Below w.heap.size w w' := by
  have hr := hr.top
  have hh' := hh.top
  obtain ⟨D, m, d, D', m', d', rfl, hC, hR⟩ := hh.top
  have l1 := RdI.le1 hr; have l2 := RdI.le2 hr
  go_enter Try.func14, Try.ntmps14
  go_wp2_with fail
  refine (specHeapValid_any _ _ _ h (hh'.below (below_alloc _ _))).mono ?_
  rintro e w1 ⟨rfl, hb⟩
  obtain ⟨a0, a1, hbw, hz⟩ := box2 (hb.mono (by simp))
  cases hy : heapOk h
  · have HF := Go.Lib.hid (mWeakValid_no1 (ws := ws) hy)
    clear hy
    go_wp2
    go_ret
    exact ⟨ret_b HF.out.symm, hbw⟩
  by_cases c1 : n ≤ 40
  · have HE := Go.Lib.hid (mWeakValid_of (ws := ws) hy (by omega))
    clear hy
    go_wp2_with fail
    refine (l7Refs_any _ _ _ _ h A n c ws (hh'.below hbw) (hr.below hbw)).mono ?_
    rintro e w3 ⟨rfl, hb3⟩
    rw [← HE.out]
    go_wp2
    go_ret
    exact ⟨rfl, hbw.trans (hb3.mono (by omega))⟩
  · have HF := Go.Lib.hid (mWeakValid_no2 (h := h) (ws := ws) (by omega))
    clear hy
    go_wp2
    go_ret
    exact ⟨ret_b HF.out.symm, hbw⟩

set_option maxHeartbeats 400000 in
theorem implWeakValid_any (w : World) (B B' : Nat) (v : Value) (h : Hp) (A : Option Addr) (n c : Nat) (ws : List Int) (hh : RdH w B v h) (hr : RdI w B' A n c ws) :
    Calls Try.prog 16 #[v, .slice A n c] w fun e w' => e = .returned (.bool (mWeakValid h ws)) ∧ Below w.heap.size w w' := by
  have hr := hr.top
  have hh' := hh.top
  obtain ⟨D, m, d, D', m', d', rfl, hC, hR⟩ := hh.top
  have l1 := RdI.le1 hr; have l2 := RdI.le2 hr
  go_enter Try.func16, Try.ntmps16
  go_wp2_with fail
  refine (heapValid_any _ _ _ h (hh'.below (below_alloc _ _))).mono ?_
  rintro e w1 ⟨rfl, hb⟩
  obtain ⟨a0, a1, hbw, hz⟩ := box2 (hb.mono (by simp))
  cases hy : heapOk h
  · have HF := Go.Lib.hid (mWeakValid_no1 (ws := ws) hy)
    clear hy
    go_wp2
    go_ret
    exact ⟨ret_b HF.out.symm, hbw⟩
  by_cases c1 : n ≤ 40
  · have HE := Go.Lib.hid (mWeakValid_of (ws := ws) hy (by omega))
    clear hy
    go_wp2_with fail
    go_loopw [17] (fun i wr => ∃ k : Nat, i = .int .i64 k ∧ k ≤ n ∧ (ws.take k).all (leadsB h.cells) = true ∧ Below (w.heap.size + 1) (w.alloc (.cells #[.slice D m d, .slice D' m' d'] 26)) wr) (fun i _ => n - (intOf i).toNat)
    case atStart => exact ⟨0, rfl, Nat.zero_le _, by simp, hb.mono (by simp)⟩
    case round =>
      clear a0 a1 hbw hz
      obtain ⟨k, rfl, hk, hall, hb⟩ := hrel
      obtain ⟨a0, a1, hbw, hz⟩ := box2 hb
      by_cases hlt : k < n
      · obtain ⟨b, o, x, rfl, hbb, hx, g1⟩ := RdI.at_ (hr.below hbw) hlt
        go_wp2_with fail
        refine (leads_any _ _ _ h _ (hh'.below hbw)).mono ?_
        rintro e w2 ⟨rfl, hb2⟩
        have hb3 := hb.trans (hb2.mono (by omega))
        cases hy : leadsB h.cells x
        · have HF : Hid (mWeakValid h ws = false) := Go.Lib.hid (by rw [HE.out, all_no hx hy])
          clear hy g1
          go_wp2
          go_ret
          exact ⟨ret_b HF.out.symm, (box2 hb3).2.2.1⟩
        · have hall' := all_succ hall hx hy
          clear hy g1
          go_wp2
          go_roundw
          case rel => exact ⟨k + 1, by go_num, by omega, hall', hb3⟩
          case measure => simp [intOf]; omega
      · have HF : Hid (mWeakValid h ws = true) := Go.Lib.hid (by rw [HE.out, all_end hall (by omega)])
        go_wp2
        go_ret
        exact ⟨ret_b HF.out.symm, hbw⟩
  · have HF := Go.Lib.hid (mWeakValid_no2 (h := h) (ws := ws) (by omega))
    clear hy
    go_wp2
    go_ret
    exact ⟨ret_b HF.out.symm, hbw⟩
end Go.Proofs.Ytjpfgbckmcjjaaa
