/- The reference's UsedCells: how many cells of a valid heap are used, and how many can be reached. For every heap that can be read. -/
import Derived.Test.YtpafdaooddbpkaaZ3
import Derived.Test.YtpafdaooddbpkaaZ1
namespace Go.Proofs.Ytpafdaooddbpkaa
open Go.RowKit
theorem b1_nat (b : Bool) (n : Nat) : ((n + (if b then 1 else 0) : Nat) : Int) = if b then (n : Int) + 1 else (n : Int) := by cases b <;> simp
set_option maxHeartbeats 1600000 in
set_option maxRecDepth 20000 in
theorem specUsedCells_any (w : World) (B : Nat) (v : Value) (h : Hp) (hh : RdH w B v h) (hok : heapOk h = true) :
    Calls Try.prog 32 #[v] w fun e w' => e = .returned (.tuple #[.int .i64 (usedTo h.cells h.cells.length : Nat), .int .i64 (liveN h : Nat)]) ∧ Below w.heap.size w w' := by
  have hh' := hh.top
  obtain ⟨D, m, d, D', m', d', rfl, hC, hR⟩ := hh.top
  have l3 := hC.le1; have l4 := hC.le2
  obtain ⟨s1, s2⟩ := heapOk_small hok
  obtain ⟨s3, s4⟩ := heapOk_leads hok
  have S := Go.Lib.hid (And.intro s3 s4)
  have HN := Go.Lib.hid (live_cnt hok)
  have HR := Go.Lib.hid (mReachable_yes hok)
  have H1 := (Owns.nil w).box [.slice D m d, .slice D' m' d'] 32
  clear s3 s4
  go_enter Try.func32, Try.ntmps32
  go_wp2_with fail
  refine (specHeapValid_any _ _ _ h (hh'.below H1.below)).mono ?_
  rintro e w1 ⟨rfl, hb⟩
  rw [hok]
  have H2 := H1.call hb
  clear H1 hb hok
  obtain ⟨a0, a1, -, -⟩ := H2.box2 0 rfl
  go_wp2_with fail
  refine (l7Reach_any _ _ _ _ h _ _ _ h.roots (hh'.below H2.below) (hR.below H2.below) (by omega) S.out.1 S.out.2).mono ?_
  rintro e w2 ⟨v2, rfl, ho, hb2⟩
  have H3 := H2.madeB ho hb2
  obtain ⟨bs, hbs⟩ : ∃ bs, bs = reachL h.cells h.roots := ⟨_, rfl⟩
  rw [← hbs] at H3
  have hlen : bs.length = h.cells.length := by rw [hbs]; unfold reachL; simp
  obtain ⟨V, kV, rfl, -⟩ := H3.formB 0 rfl
  have HB1 : Hid (cntB bs = liveN h) := Go.Lib.hid (by rw [hbs, ← HR.out]; exact HN.out)
  clear H2 ho hb2 a0 a1 hbs
  have hl1 : bs.length ≤ h.cells.length := by omega
  have hl2 : h.cells.length ≤ bs.length := by omega
  clear hlen
  go_wp2_with fail
  go_loopw [4, 5, 7] (fun u l i wr => ∃ (k a b : Nat), u = .int .i64 (a : Nat) ∧ l = .int .i64 (b : Nat) ∧ i = .int .i64 k ∧ k ≤ m ∧ a ≤ k ∧ b ≤ k ∧ Hid (a = usedTo h.cells k ∧ b = cntB (bs.take k)) ∧ Owns w.heap.size w wr [.bools (.slice V bs.length kV) bs, .box w.heap.size [.slice D m d, .slice D' m' d'] 32]) (fun _ _ i _ => m - (intOf i).toNat)
  case atStart => exact ⟨0, 0, 0, rfl, rfl, rfl, Nat.zero_le _, Nat.zero_le _, Nat.zero_le _, Go.Lib.hid (by simp [usedTo, cntB]), H3⟩
  case round =>
    clear H3
    obtain ⟨k, a, b, rfl, rfl, rfl, hk, ha, hb, hs, H⟩ := hrel
    obtain ⟨a0, a1, -, -⟩ := H.box2 1 rfl
    by_cases hlt : k < m
    · obtain ⟨bb, o, l, A2, n2, c2, rfl, hbb, hx, q1, q2, q3, hrf⟩ := hC.at_ hlt
      have g1 := H.ro q1 hbb
      have hun := usedN_at hx
      obtain ⟨bk, hbk⟩ : ∃ x, Hid (bs[k]? = some x) := ⟨_, Go.Lib.hid (List.getElem?_eq_getElem (by omega))⟩
      obtain ⟨gV, cV, eV, -⟩ := H.rowAt 0 rfl (show 0 < bs.length by omega)
      simp only [Value.slice.injEq, true_and] at eV
      obtain ⟨rfl, rfl⟩ := eV
      obtain ⟨r0, -⟩ := H.elem 0 rfl (j := k) (u := .bool bk) (by rw [List.getElem?_map, hbk.out]; rfl)
      have e1 := usedTo_succ h.cells k
      have e2 := cntB_succ hbk
      rw [hun, ← hs.out.1] at e1
      rw [← hs.out.2] at e2
      have i1 : (k : Int) < (bs.length : Int) := by omega
      have E1 := Go.Lib.hid e1
      have E2 := Go.Lib.hid e2
      clear q1 q2 q3 hun e1 e2 hs
      cases hl : l.used <;> cases bk
      all_goals
        rw [hl] at g1 E1
        simp only [if_true, if_false, Bool.false_eq_true, Nat.add_zero] at E1 E2
        clear hl
      · go_wp2
        go_roundw
        case rel => exact ⟨k + 1, a, b, rfl, rfl, by go_num, by omega, by omega, by omega, Go.Lib.hid ⟨E1.out.symm, E2.out.symm⟩, H⟩
        case measure => simp [intOf]; omega
      · go_wp2
        go_roundw
        case rel => exact ⟨k + 1, a, b + 1, rfl, by go_num, by go_num, by omega, by omega, by omega, Go.Lib.hid ⟨E1.out.symm, E2.out.symm⟩, H⟩
        case measure => simp [intOf]; omega
      · go_wp2
        go_roundw
        case rel => exact ⟨k + 1, a + 1, b, by go_num, rfl, by go_num, by omega, by omega, by omega, Go.Lib.hid ⟨E1.out.symm, E2.out.symm⟩, H⟩
        case measure => simp [intOf]; omega
      · go_wp2
        go_roundw
        case rel => exact ⟨k + 1, a + 1, b + 1, by go_num, by go_num, by go_num, by omega, by omega, by omega, Go.Lib.hid ⟨E1.out.symm, E2.out.symm⟩, H⟩
        case measure => simp [intOf]; omega
    · have HF : Hid (a = usedTo h.cells h.cells.length ∧ b = liveN h) := Go.Lib.hid (by
        obtain ⟨h1, h2⟩ := hs.out
        rw [List.take_of_length_le (by omega)] at h2
        exact ⟨by rw [h1, show k = h.cells.length by omega], by rw [h2, HB1.out]⟩)
      have HB := H.below
      clear hs H
      go_wp2
      exact bodyPost_ret (v := .tuple #[.int .i64 (a : Nat), .int .i64 (b : Nat)]) (by simp [results, Try.results32, go_sem]) rfl ⟨by rw [HF.out.1, HF.out.2], HB⟩
end Go.Proofs.Ytpafdaooddbpkaa
