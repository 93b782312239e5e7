/- The first cell that is not used, as the program and as the reference find it; the reference's UsedCells; a limit. For every heap that can be read. -/
import Derived.Test.YtpafdaooddbpkaaZ3
import Derived.Test.YtpafdaooddbpkaaZ1
import Derived.Test.YtpafdaooddbpkaaZ2
namespace Go.Proofs.Ytpafdaooddbpkaa
open Go.RowKit
set_option maxHeartbeats 1600000 in
theorem freePlace_any (w : World) (B : Nat) (v : Value) (h : Hp) (hh : RdH w B v h) (hn : h.cells.length ≤ 1048576) :
    Calls Try.prog 69 #[v] w fun e w' => e = .returned (.int .i64 (mFree h : Nat)) ∧ Below w.heap.size w w' := by
  obtain ⟨D, m, d, D', m', d', rfl, hC, hR⟩ := hh.top
  have l3 := hC.le1; have l4 := hC.le2
  have H1 := (Owns.nil w).box [.slice D m d, .slice D' m' d'] 32
  obtain ⟨a0, a1, -, -⟩ := H1.box2 0 rfl
  go_enter Try.func69, Try.ntmps69
  go_wp2_with fail
  clear a0 a1
  go_loopw [8] (fun i wr => ∃ (k : Nat), i = .int .i64 k ∧ k ≤ m ∧ Hid (∀ i, i < k → usedN h.cells i = true) ∧ Owns w.heap.size w wr [.box w.heap.size [.slice D m d, .slice D' m' d'] 32]) (fun i _ => m - (intOf i).toNat)
  case atStart => exact ⟨0, rfl, Nat.zero_le _, Go.Lib.hid fun i hi => by omega, H1⟩
  case round =>
    clear H1
    obtain ⟨k, rfl, hk, hu, H⟩ := hrel
    by_cases hlt : k < m
    · obtain ⟨b, o, l, A2, n2, c2, rfl, hbb, hx, q1, q2, q3, hrf⟩ := hC.at_ hlt
      have g1 := H.ro q1 hbb
      have g2 := H.ro q2 hbb
      have g3 := H.ro q3 hbb
      have hun := usedN_at hx
      clear q1 q2 q3
      cases hl : l.used
      · rw [hl] at g1 hun
        have HF := Go.Lib.hid (mFree_at hu.out hun)
        have HB := (H.alloc (.cells #[.bool false, .int .i64 l.data, .slice A2 n2 c2] 71)).below
        clear H hl hun hu
        go_wp2
        go_ret
        exact ⟨ret_i (by rw [HF.out]), HB⟩
      · rw [hl] at g1 hun
        have HU := Go.Lib.hid (lt_more hu.out hun)
        have H2 := H.alloc (.cells #[.bool true, .int .i64 l.data, .slice A2 n2 c2] 71)
        clear H hl hun hu
        go_wp2
        go_roundw
        case rel => exact ⟨k + 1, by go_num, by omega, HU, H2⟩
        case measure => simp [intOf]; omega
    · have hkm : k = m := by omega
      have HF : Hid (mFree h = m) := Go.Lib.hid (by rw [mFree_end (fun i hi => hu.out i (by omega))]; omega)
      obtain ⟨a0, a1, -, -⟩ := H.box2 0 rfl
      have HB := H.below
      clear H hu hkm
      go_wp2
      go_ret
      exact ⟨ret_i (by rw [HF.out]), HB⟩
set_option maxHeartbeats 1600000 in
theorem l10Place_any (w : World) (B : Nat) (v : Value) (h : Hp) (hh : RdH w B v h) (hn : h.cells.length ≤ 1048576) :
    Calls Try.prog 74 #[v] w fun e w' => e = .returned (.int .i64 (mFree h : Nat)) ∧ Below w.heap.size w w' := by
  obtain ⟨D, m, d, D', m', d', rfl, hC, hR⟩ := hh.top
  have l3 := hC.le1; have l4 := hC.le2
  have H1 := (Owns.nil w).box [.slice D m d, .slice D' m' d'] 32
  go_enter Try.func74, Try.ntmps74
  go_wp2_with fail
  go_loopw [3] (fun i wr => ∃ (k : Nat), i = .int .i64 k ∧ k ≤ m ∧ Hid (∀ i, i < k → usedN h.cells i = true) ∧ Owns w.heap.size w wr [.box w.heap.size [.slice D m d, .slice D' m' d'] 32]) (fun i _ => m - (intOf i).toNat)
  case atStart => exact ⟨0, rfl, Nat.zero_le _, Go.Lib.hid fun i hi => by omega, H1⟩
  case round =>
    clear H1
    obtain ⟨k, rfl, hk, hu, H⟩ := hrel
    obtain ⟨a0, a1, -, -⟩ := H.box2 0 rfl
    by_cases hlt : k < m
    · obtain ⟨b, o, l, A2, n2, c2, rfl, hbb, hx, q1, q2, q3, hrf⟩ := hC.at_ hlt
      have g1 := H.ro q1 hbb
      have hun := usedN_at hx
      clear q1 q2 q3
      cases hl : l.used
      · rw [hl] at g1 hun
        have HF := Go.Lib.hid (mFree_at hu.out hun)
        have HB := H.below
        clear H hl hun hu
        go_wp2
        go_ret
        exact ⟨ret_i (by rw [HF.out]), HB⟩
      · rw [hl] at g1 hun
        have HU := Go.Lib.hid (lt_more hu.out hun)
        clear hl hun hu
        go_wp2
        go_roundw
        case rel => exact ⟨k + 1, by go_num, by omega, HU, H⟩
        case measure => simp [intOf]; omega
    · have HF : Hid (mFree h = m) := Go.Lib.hid (by rw [mFree_end (fun i hi => hu.out i (by omega))]; omega)
      have HB := H.below
      clear H hu
      go_wp2
      go_ret
      exact ⟨ret_i (by rw [HF.out]), HB⟩
theorem isLimit_any (n : Int) (w : World) : Calls Try.prog 40 #[.int .i64 n] w fun e w' => e = .returned (.bool (inR n 1 40)) ∧ w = w' := by
  by_cases h1 : 1 ≤ n
  · by_cases h2 : n ≤ 40
    · have HF : Hid (inR n 1 40 = true) := Go.Lib.hid (by simp [inR, h1, h2])
      go_enter Try.func40, Try.ntmps40
      go_wp2
      go_ret
      exact ⟨ret_b HF.out.symm, rfl⟩
    · have HF : Hid (inR n 1 40 = false) := Go.Lib.hid (by simp [inR, h2])
      go_enter Try.func40, Try.ntmps40
      go_wp2
      go_ret
      exact ⟨ret_b HF.out.symm, rfl⟩
  · have HF : Hid (inR n 1 40 = false) := Go.Lib.hid (by simp [inR, h1])
    go_enter Try.func40, Try.ntmps40
    go_wp2
    go_ret
    exact ⟨ret_b HF.out.symm, rfl⟩
end Go.Proofs.Ytpafdaooddbpkaa
