/- The laws' equality functions return true for two slices, cells or heaps that read as the same list. -/
import Derived.Test.YtjpfgbckmcjjaaaZ0
import Derived.Test.YtjpfgbckmcjjaaaChecked
import Derived.Deep.RegionHeld3
namespace Go.Proofs.Ytjpfgbckmcjjaaa
open Go.RowKit
theorem eqInts_any (w : World) (B B' : Nat) (A A' : Option Addr) (n n' c c' : Nat) (xs : List Int) (h1 : RdI w B A n c xs) (h2 : RdI w B' A' n' c' xs) :
    Calls Try.prog 116 #[.slice A n c, .slice A' n' c'] w fun e w' => e = .returned (.bool true) ∧ Below w.heap.size w w' := by
  have h1 := h1.top
  have h2 := h2.top
  have hm : n ≤ maxLen := Nat.le_trans h1.cap h1.mx
  unfold maxLen at hm
  obtain rfl : n = n' := by have := h1.len; have := h2.len; omega
  go_enter Try.func116, Try.ntmps116
  go_wp2_with fail
  go_loopw [5] (fun i wr => ∃ k : Nat, i = .int .i64 k ∧ k ≤ n ∧ Below w.heap.size w wr) (fun i _ => n - (intOf i).toNat)
  case atStart => exact ⟨0, rfl, Nat.zero_le _, Below.refl _ _⟩
  case round =>
    obtain ⟨k, rfl, hk, hb⟩ := hrel
    by_cases hlt : k < n
    · obtain ⟨b, o, x, rfl, hbb, hx, g1⟩ := RdI.at_ (h1.below hb) hlt
      obtain ⟨b', o', x', rfl, hbb', hx', g1'⟩ := RdI.at_ (h2.below hb) hlt
      obtain rfl := hid_inj hx hx'
      have i1 : (0 : Int) ≤ (k : Int) := by omega
      have i2 : (k : Int) < (n : Int) := by omega
      go_wp2_with fail
      go_quiet (fail)
      go_wp2
      go_roundw
      case rel => exact ⟨k + 1, by go_num, by omega, below_drewN hb _⟩
      case measure => simp [intOf]; omega
    · go_wp2
      go_ret
      exact ⟨rfl, hb⟩

theorem eqCell_any (w : World) (B B' : Nat) (u v : Value) (l : Cel) (h1 : RdL w B u l) (h2 : RdL w B' v l) :
    Calls Try.prog 129 #[u, v] w fun e w' => e = .returned (.bool true) ∧ Below w.heap.size w w' := by
  obtain ⟨A, n, k, rfl, hr⟩ := h1.top
  obtain ⟨A', n', k', rfl, hr'⟩ := h2.top
  go_enter Try.func129, Try.ntmps129
  go_wp2_with fail
  refine (eqInts_any _ _ _ A A' n n' k k' l.refs (hr.below ?_) (hr'.below ?_)).mono ?_
  · exact (below_alloc _ _).alloc (by simp) _
  · exact (below_alloc _ _).alloc (by simp) _
  rintro e w1 ⟨rfl, hb1⟩
  go_wp2
  go_ret
  exact ⟨rfl, ((below_alloc _ _).alloc (by simp) _).trans (hb1.mono (by simp; omega))⟩

set_option maxHeartbeats 400000 in
theorem eqCells_any (w : World) (B B' : Nat) (A A' : Option Addr) (n n' c c' : Nat) (cs : List Cel) (h1 : RdC w B A n c cs) (h2 : RdC w B' A' n' c' cs) :
    Calls Try.prog 115 #[.slice A n c, .slice A' n' c'] w fun e w' => e = .returned (.bool true) ∧ Below w.heap.size w w' := by
  have h1 := h1.top
  have h2 := h2.top
  have hm : n ≤ maxLen := Nat.le_trans h1.cap h1.mx
  unfold maxLen at hm
  obtain rfl : n = n' := by have := h1.len; have := h2.len; omega
  go_enter Try.func115, Try.ntmps115
  go_wp2_with fail
  go_loopw [5] (fun i wr => ∃ k : Nat, i = .int .i64 k ∧ k ≤ n ∧ Below w.heap.size w wr) (fun i _ => n - (intOf i).toNat)
  case atStart => exact ⟨0, rfl, Nat.zero_le _, Below.refl _ _⟩
  case round =>
    obtain ⟨k, rfl, hk, hb⟩ := hrel
    by_cases hlt : k < n
    · obtain ⟨b, o, x, A2, n2, c2, rfl, hbb, hx, g1, g2, g3, hr⟩ := (h1.below hb).at_ hlt
      obtain ⟨b', o', x', A3, n3, c3, rfl, hbb', hx', g1', g2', g3', hr'⟩ := (h2.below hb).at_ hlt
      obtain rfl := hid_inj hx hx'
      have i1 : (0 : Int) ≤ (k : Int) := by omega
      have i2 : (k : Int) < (n : Int) := by omega
      have hz := hb.size
      go_wp2_with fail
      go_region_held3 (fun w' => w'.cell? ⟨b, o + k * 3, none⟩ = some (.bool x.used) ∧ w'.cell? ⟨b, o + k * 3 + 1, none⟩ = some (.int .i64 x.data) ∧ w'.cell? ⟨b, o + k * 3 + 2, none⟩ = some (.slice A2 n2 c2) ∧
          w'.cell? ⟨b', o' + k * 3, none⟩ = some (.bool x.used) ∧ w'.cell? ⟨b', o' + k * 3 + 1, none⟩ = some (.int .i64 x.data) ∧ w'.cell? ⟨b', o' + k * 3 + 2, none⟩ = some (.slice A3 n3 c3))
        (first | go_keep | (refine ⟨?_, ?_, ?_, ?_, ?_, ?_⟩ <;> (rw [hb2.cell (by simp; omega)]; assumption)))
        (first | (go_at_call 129; refine (eqCell_any _ _ _ _ _ x ⟨_, _, _, rfl, hr.below (Below.refl _ _).drew⟩ ⟨_, _, _, rfl, hr'.below (Below.refl _ _).drew⟩).mono ?_; rintro e w2 ⟨rfl, hb2⟩))
      have hb3 := hb.drew.trans (hb2.mono hb.size)
      go_wp2
      go_roundw
      case rel => exact ⟨k + 1, by go_num, by omega, hb3⟩
      case measure => simp [intOf]; omega
    · go_wp2
      go_ret
      exact ⟨rfl, hb⟩

theorem eqHeap_any (w : World) (B B' : Nat) (u v : Value) (h : Hp) (h1 : RdH w B u h) (h2 : RdH w B' v h) :
    Calls Try.prog 92 #[u, v] w fun e w' => e = .returned (.bool true) ∧ Below w.heap.size w w' := by
  obtain ⟨A, n, c, D, m, d, rfl, hC, hR⟩ := h1.top
  obtain ⟨A', n', c', D', m', d', rfl, hC', hR'⟩ := h2.top
  go_enter Try.func92, Try.ntmps92
  go_wp2_with fail
  refine (eqCells_any _ _ _ A A' n n' c c' h.cells (hC.below ?_) (hC'.below ?_)).mono ?_
  · exact (below_alloc _ _).alloc (by simp) _
  · exact (below_alloc _ _).alloc (by simp) _
  rintro e w1 ⟨rfl, hb1⟩
  obtain ⟨k1, k2, k3, k4, hbw, hsz⟩ := box22 (hb1.mono (by simp))
  go_wp2_with fail
  refine (eqInts_any _ _ _ D D' m m' d d' h.roots (hR.below hbw) (hR'.below hbw)).mono ?_
  rintro e w2 ⟨rfl, hb2⟩
  go_wp2
  go_ret
  exact ⟨rfl, hbw.trans (hb2.mono (by omega))⟩
end Go.Proofs.Ytjpfgbckmcjjaaa
