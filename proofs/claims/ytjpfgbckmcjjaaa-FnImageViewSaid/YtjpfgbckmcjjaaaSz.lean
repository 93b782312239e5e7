/- What the laws' size functions return, and that they leave the memory alone: for every slice, cell and heap that can be read, and a bound of at most 2^20. -/
import Derived.Test.YtjpfgbckmcjjaaaZ0
import Derived.Test.YtjpfgbckmcjjaaaChecked
namespace Go.Proofs.Ytjpfgbckmcjjaaa
open Go.RowKit
theorem szInts_any (A : Option Addr) (n c : Nat) (l : Int) (w : World) (hn : n ≤ maxLen) (h0 : 0 ≤ l) (h1 : l ≤ 1048576) :
    Calls Try.prog 112 #[.slice A n c, .int .i64 l] w fun e w' => e = .returned (.int .i64 (szI n l)) ∧ w = w' := by
  unfold maxLen at hn
  by_cases h : (n : Int) ≤ l
  · go_enter Try.func112, Try.ntmps112
    go_wp2
    go_ret
    exact ⟨ret_i (szI_yes h).symm, rfl⟩
  · go_enter Try.func112, Try.ntmps112
    go_wp2
    go_ret
    exact ⟨ret_i (szI_no (by omega)).symm, rfl⟩

theorem szCell_any (w : World) (B : Nat) (v : Value) (c : Cel) (l : Int) (hc : RdL w B v c) (h0 : 0 ≤ l) (h1 : l ≤ 1048576) :
    Calls Try.prog 127 #[v, .int .i64 l] w fun e w' => e = .returned (.int .i64 (szI c.refs.length l)) ∧ Below w.heap.size w w' := by
  obtain ⟨A, n, k, rfl, hr⟩ := hc
  have hm : n ≤ maxLen := Nat.le_trans hr.cap hr.mx
  obtain rfl : n = c.refs.length := by have := hr.le1; have := hr.le2; omega
  by_cases h : (c.refs.length : Int) ≤ l
  · go_enter Try.func127, Try.ntmps127
    go_wp2_with fail
    refine (szInts_any A c.refs.length k l _ hm h0 h1).mono ?_
    rintro e w1 ⟨rfl, rfl⟩
    rw [szI_yes h]
    go_wp2
    go_ret
    exact ⟨ret_i (szI_yes h).symm, below_alloc _ _⟩
  · go_enter Try.func127, Try.ntmps127
    go_wp2_with fail
    refine (szInts_any A c.refs.length k l _ hm h0 h1).mono ?_
    rintro e w1 ⟨rfl, rfl⟩
    rw [szI_no (by omega)]
    go_wp2
    go_ret
    exact ⟨ret_i (szI_no (by omega)).symm, below_alloc _ _⟩

def refsBulk (cs : List Cel) : Nat := (cs.map fun c => c.refs.length).sum
theorem refsBulk_succ {cs : List Cel} {k : Nat} {l : Cel} (h : Hid (cs[k]? = some l)) : refsBulk (cs.take (k + 1)) = refsBulk (cs.take k) + l.refs.length := by
  obtain ⟨hk, rfl⟩ := List.getElem?_eq_some_iff.1 h.out
  unfold refsBulk
  rw [List.take_succ_eq_append_getElem hk, List.map_append, List.sum_append]; simp
theorem refsBulk_le {cs : List Cel} (k : Nat) : refsBulk (cs.take k) ≤ refsBulk cs := by
  have h : refsBulk cs = refsBulk (cs.take k) + refsBulk (cs.drop k) := by
    unfold refsBulk
    rw [← List.sum_append, ← List.map_append, List.take_append_drop]
  omega
theorem cellsBulk_eq (cs : List Cel) : cellsBulk cs = refsBulk cs + cs.length := rfl

set_option maxHeartbeats 400000 in
theorem szCells_any (w : World) (B : Nat) (A : Option Addr) (n c : Nat) (cs : List Cel) (l : Int) (hC : RdC w B A n c cs) (h0 : 0 ≤ l) (h1 : l ≤ 1048576) :
    Calls Try.prog 111 #[.slice A n c, .int .i64 l] w fun e w' => e = .returned (.int .i64 (szI (cellsBulk cs) l)) ∧ Below w.heap.size w w' := by
  have hC := hC.top
  have hm : n ≤ maxLen := Nat.le_trans hC.cap hC.mx
  unfold maxLen at hm
  have hl1 := hC.le1; have hl2 := hC.le2
  have hB : cellsBulk cs = refsBulk cs + cs.length := rfl
  have HB := Go.Lib.hid hB
  clear hB
  by_cases h : l < (n : Int)
  · have HF : Hid (szI (cellsBulk cs) l = -1) := Go.Lib.hid (szI_no (by rw [HB.out]; omega))
    go_enter Try.func111, Try.ntmps111
    go_wp2
    go_ret
    exact ⟨ret_i HF.out.symm, Below.refl _ _⟩
  · go_enter Try.func111, Try.ntmps111
    go_wp2_with fail
    go_loopw [1, 5] (fun t i wr => ∃ k : Nat, i = .int .i64 k ∧ k ≤ n ∧ t = .int .i64 (l - n - refsBulk (cs.take k)) ∧ (refsBulk (cs.take k) : Int) ≤ l - n ∧ Below w.heap.size w wr) (fun _ i _ => n - (intOf i).toNat)
    case atStart => exact ⟨0, rfl, Nat.zero_le _, by simp [refsBulk], by simp [refsBulk]; omega, Below.refl _ _⟩
    case round =>
      obtain ⟨k, rfl, hk, rfl, hle, hb⟩ := hrel
      by_cases hlt : k < n
      · obtain ⟨b, o, x, A2, n2, c2, rfl, hbb, hx, g1, g2, g3, hr⟩ := (hC.below hb).at_ hlt
        have HS := Go.Lib.hid (refsBulk_succ hx)
        have HL := Go.Lib.hid (refsBulk_le (cs := cs) (k + 1))
        generalize refsBulk (cs.take k) = q at *
        go_wp2_with fail
        refine (szCell_any _ _ _ x _ ⟨_, _, _, rfl, hr⟩ (by omega) (by omega)).mono ?_
        rintro e w2 ⟨rfl, hb2⟩
        have hb3 := hb.trans (hb2.mono hb.size)
        by_cases hf : (x.refs.length : Int) ≤ l - n - q
        · rw [szI_yes hf]
          go_wp2
          go_roundw
          case rel => exact ⟨k + 1, by go_num, by omega, by rw [HS.out]; go_num, by rw [HS.out]; omega, hb3⟩
          case measure => simp [intOf]; omega
        · rw [szI_no (by omega)]
          go_wp2
          go_ret
          exact ⟨ret_i (szI_no (by have := HL.out; have := HS.out; rw [HB.out]; omega)).symm, hb3⟩
      · have HQ : Hid (refsBulk (cs.take k) = refsBulk cs) := Go.Lib.hid (by rw [List.take_of_length_le (by omega)])
        generalize refsBulk (cs.take k) = q at *
        go_wp2
        go_ret
        exact ⟨ret_i (by have := HQ.out; have := HB.out; rw [szI_yes (by omega)]; omega), hb⟩

theorem szHeap_any (w : World) (B : Nat) (v : Value) (h : Hp) (l : Int) (hh : RdH w B v h) (h0 : 0 ≤ l) (h1 : l ≤ 1048576) :
    Calls Try.prog 88 #[v, .int .i64 l] w fun e w' => e = .returned (.int .i64 (szI (cellsBulk h.cells + h.roots.length) l)) ∧ Below w.heap.size w w' := by
  obtain ⟨A, n, c, A', n', c', rfl, hC, hR⟩ := hh.top
  have hm : n' ≤ maxLen := Nat.le_trans hR.cap hR.mx
  obtain rfl : n' = h.roots.length := by have := hR.le1; have := hR.le2; omega
  go_enter Try.func88, Try.ntmps88
  go_wp2_with fail
  refine (szCells_any _ _ A n c h.cells l (hC.below (below_alloc _ _)) h0 h1).mono ?_
  rintro e w1 ⟨rfl, hb1⟩
  by_cases hq : (cellsBulk h.cells : Int) ≤ l
  · rw [szI_yes hq]
    obtain ⟨g1, g2, hbw, hsz⟩ := box2 (hb1.mono (by simp))
    go_wp2_with fail
    refine (szInts_any A' h.roots.length c' _ _ hm (by omega) (by omega)).mono ?_
    rintro e w2 ⟨rfl, rfl⟩
    have HE := Go.Lib.hid (szI_add (cellsBulk h.cells) h.roots.length l hq)
    by_cases hq2 : (h.roots.length : Int) ≤ l - cellsBulk h.cells
    · rw [szI_yes hq2]
      go_wp2
      go_ret
      exact ⟨ret_i (by rw [← HE.out, szI_yes hq2]), hbw⟩
    · rw [szI_no (by omega)]
      go_wp2
      go_ret
      exact ⟨ret_i (by rw [← HE.out, szI_no (by omega)]), hbw⟩
  · rw [szI_no (by omega)]
    go_wp2
    go_ret
    exact ⟨ret_i (szI_no (by omega)).symm, (box2 (hb1.mono (by simp))).2.2.1⟩
end Go.Proofs.Ytjpfgbckmcjjaaa
