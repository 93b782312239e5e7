/- The laws' holding functions find the running numbers in cells and heaps that were marked. -/
import Derived.Test.YtoekikeomgfaiaaMk
namespace Go.Proofs.Ytoekikeomgfaiaa
open Go.RowKit
theorem mCells_at : ∀ (k : Int) (cs : List Cel) (j : Nat) (c : Cel), cs[j]? = some c → (mCells k cs)[j]? = some (mCel (k + kAdd (cs.take j)) c)
  | _, [], _, _, h => by simp at h
  | k, d :: cs, 0, c, h => by simp at h; subst h; simp [mCells, kAdd]
  | k, d :: cs, j + 1, c, h => by
    have := mCells_at (k + (d.refs.length + 2 : Nat)) cs j c (by simpa using h)
    rw [mCells, List.getElem?_cons_succ, this, List.take_succ_cons, kAdd, show k + ((d.refs.length + 2 : Nat) : Int) + (kAdd (cs.take j) : Int) = k + ((d.refs.length + 2 + kAdd (cs.take j) : Nat) : Int) by omega]

set_option maxHeartbeats 800000 in
theorem heldCells_any (w : World) (B : Nat) (A : Option Addr) (n c : Nat) (k : Int) (cs : List Cel) (hr : RdC w B A n c (mCells k cs)) (h0 : 0 ≤ k) (h1 : k + kAdd cs ≤ 1099511627776) :
    Calls Try.prog 52 #[.slice A n c, .int .i64 k] w fun e w' => e = .returned (.int .i64 (k + kAdd cs)) ∧ w = w' := by
  have hn : n = cs.length := by have := hr.le1; have := hr.le2; rw [mCells_length] at *; omega
  have HN := Go.Lib.hid hn
  have hm : n ≤ 1099511627776 := by have := kAdd_ge cs; omega
  clear hn
  go_enter Try.func52, Try.ntmps52
  go_wp2_with fail
  go_loopw [1, 5] (fun t i wr => w = wr ∧ ∃ j : Nat, i = .int .i64 j ∧ t = .int .i64 (k + kAdd (cs.take j)) ∧ j ≤ n) (fun _ i _ => n - (intOf i).toNat)
  case atStart => exact ⟨rfl, 0, rfl, by simp [kAdd], Nat.zero_le _⟩
  case round =>
    obtain ⟨hw, j, rfl, rfl, hj⟩ := hrel
    obtain rfl := hw
    by_cases hlt : j < n
    · obtain ⟨b, o, l, A2, n2, c2, rfl, hbb, hx, g1, g2, g3, hrf⟩ := hr.at_ hlt
      obtain ⟨q, hq⟩ : ∃ q, cs[j]? = some q := ⟨cs[j]'(by rw [← HN.out]; exact hlt), List.getElem?_eq_getElem _⟩
      have HQ := Go.Lib.hid hq
      have hl : l = mCel (k + kAdd (cs.take j)) q := by
        have := hx.out
        rw [mCells_at k cs j q hq] at this
        injection this with this
        exact this.symm
      subst hl
      clear hq hx
      have hk1 := kAdd_take cs (j + 1)
      rw [kAdd_succ HQ] at hk1
      have T := Go.Lib.hid (kAdd_succ HQ)
      simp only [mCel] at g1 g2 hrf
      generalize kAdd (cs.take j) = K at *
      have hrf2 : RdI w B A2 n2 c2 (marks (k + K + 1 + 1) q.refs.length) := by rw [show k + (K : Int) + 1 + 1 = k + K + 2 by omega]; exact hrf
      go_wp2_with fail
      refine (heldInts_any w B A2 n2 c2 (k + K + 1 + 1) q.refs.length hrf2 (by omega) (by omega)).mono ?_
      rintro e w2 ⟨rfl, hw2⟩
      obtain rfl := hw2
      go_wp2
      go_roundw
      case rel => exact ⟨by trivial, j + 1, by go_num, by rw [T.out]; go_num, by omega⟩
      case measure => simp [intOf]; omega
    · have ht : cs.take j = cs := List.take_of_length_le (by rw [← HN.out]; omega)
      rw [ht]
      clear ht
      go_wp2
      go_ret
      exact ⟨rfl, rfl⟩

theorem heldHeap_any (w : World) (B : Nat) (v : Value) (h : Hp) (k : Int) (hh : RdH w B v (mHeap k h)) (h0 : 0 ≤ k) (h1 : k + kHeap h ≤ 1099511627776) :
    Calls Try.prog 19 #[v, .int .i64 k] w fun e w' => e = .returned (.int .i64 (k + kHeap h)) ∧ Below w.heap.size w w' := by
  obtain ⟨D, m, d, D', m', d', rfl, hC, hR⟩ := hh.top
  unfold kHeap at h1
  have hbx := below_alloc w (.cells #[.slice D m d, .slice D' m' d'] 29)
  go_enter Try.func19, Try.ntmps19
  go_wp2_with fail
  refine (heldCells_any _ _ D m d k h.cells (hC.below hbx) h0 (by omega)).mono ?_
  rintro e w1 ⟨rfl, hw1⟩
  obtain rfl := hw1
  go_wp2_with fail
  refine (heldInts_any _ _ D' m' d' (k + kAdd h.cells) h.roots.length (hR.below hbx) (by omega) (by omega)).mono ?_
  rintro e w1 ⟨rfl, hw1⟩
  obtain rfl := hw1
  go_wp2
  go_ret
  exact ⟨ret_i (by unfold kHeap; omega), hbx⟩
end Go.Proofs.Ytoekikeomgfaiaa
