/- The program's test of a program, and its empty heap. For everything that can be read. -/
import Derived.Test.YtdkpfggfkhnjfaaCv
import Derived.Test.YtdkpfggfkhnjfaaZ2
namespace Go.Proofs.Ytdkpfggfkhnjfaa
open Go.RowKit
theorem cmdsOk_long {cs : List Cmd} (h : 40 < cs.length) : cmdsOk cs = false := by
  unfold cmdsOk
  rw [decide_eq_false (by omega)]; simp
set_option maxHeartbeats 1600000 in
theorem implCommandsValid_any (w : World) (B : Nat) (A : Option Addr) (n c : Nat) (cs : List Cmd) (hr : RdQ w B A n c cs) :
    Calls Try.prog 27 #[.slice A n c] w fun e w' => e = .returned (.bool (cmdsOk cs)) ∧ Below w.heap.size w w' := by
  have hr := hr.top
  have l1 := hr.le1; have l2 := hr.le2
  have hm := Nat.le_trans hr.cap hr.mx
  unfold maxLen at hm
  by_cases h40 : 40 < n
  · have HF := Go.Lib.hid (cmdsOk_long (cs := cs) (by omega))
    have HB := Below.refl w.heap.size w
    have i1 : (40 : Int) < (n : Int) := by omega
    go_enter Try.func27, Try.ntmps27
    go_wp2
    go_ret
    exact ⟨ret_b HF.out.symm, HB⟩
  have i1 : ¬ (40 : Int) < (n : Int) := by omega
  have H0 := Owns.nil w
  go_enter Try.func27, Try.ntmps27
  go_wp2_with fail
  go_loopw [10] (fun i wr => ∃ k : Nat, i = .int .i64 k ∧ k ≤ n ∧ (cs.take k).all cmdOk = true ∧ Owns w.heap.size w wr []) (fun i _ => n - (intOf i).toNat)
  case atStart => exact ⟨0, rfl, Nat.zero_le _, by simp, H0⟩
  case round =>
    clear H0
    obtain ⟨k, rfl, hk, hal, H⟩ := hrel
    by_cases hlt : k < n
    · obtain ⟨b, o, q, rfl, hbb, hx, q1, q2, q3, q4⟩ := hr.at_ hlt
      have g1 := H.ro q1 hbb
      have g2 := H.ro q2 hbb
      have g3 := H.ro q3 hbb
      have g4 := H.ro q4 hbb
      have HX := H.alloc (.cells #[.int .i64 q.op, .int .i64 q.a, .int .i64 q.b, .int .i64 q.c] 46)
      cases hq : cmdOk q
      · have HF := Go.Lib.hid (show cmdsOk cs = false by simp [cmdsOk, all_no hx hq])
        have HQ := Go.Lib.hid hq
        clear hal q1 q2 q3 q4 hq H
        go_wp2_with fail
        refine (implCommandValid_any q _).mono ?_
        rintro e w2 ⟨rfl, hb2⟩
        rw [HQ.out]
        have HB := (HX.call hb2).below
        clear HX hb2
        go_wp2
        go_ret
        exact ⟨ret_b HF.out.symm, HB⟩
      · have HA := Go.Lib.hid (all_succ hal hx hq)
        have HQ := Go.Lib.hid hq
        clear hal q1 q2 q3 q4 hq H
        go_wp2_with fail
        refine (implCommandValid_any q _).mono ?_
        rintro e w2 ⟨rfl, hb2⟩
        rw [HQ.out]
        have HZ := HX.call hb2
        clear HX hb2
        go_wp2_with fail
        go_roundw
        case rel => exact ⟨k + 1, by go_num, by omega, HA.out, HZ⟩
        case measure => simp [intOf]; omega
    · have h1 := all_end hal (by omega)
      have HF := Go.Lib.hid (show cmdsOk cs = true by
        rw [cmdsOk, h1, Bool.true_and]
        exact decide_eq_true (by omega))
      have HB := H.below
      clear h1 hal H
      go_wp2
      go_ret
      exact ⟨ret_b HF.out.symm, HB⟩
set_option maxHeartbeats 1600000 in
theorem implEmptyHeap_any (w : World) : Calls Try.prog 28 #[] w (MadeHp w emptyH) := by
  have H0 := ((Owns.nil w).box [.slice none 0 0, .slice (some ⟨w.heap.size + 1, 0, none⟩) 4 4] 29).litI [-1, -1, -1, -1] (by unfold maxLen; simp)
  simp only [List.map_cons, List.map_nil, List.length_cons, List.length_nil, Nat.zero_add, Nat.reduceAdd, World.size_alloc] at H0
  have H1 := H0.noCells
  obtain ⟨z0, z1, -, -⟩ := H1.box2 2 rfl
  have HS : Hid (MadeHp w emptyH (.returned (.agg #[.slice none 0 0, .slice (some ⟨w.heap.size + 1, 0, none⟩) 4 4])) _) := Go.Lib.hid ⟨_, [], _, rfl, H1.take 2⟩
  clear H0 H1
  go_enter Try.func28, Try.ntmps28
  go_wp2
  exact bodyPost_ret (v := .agg #[.slice none 0 0, .slice (some ⟨w.heap.size + 1, 0, none⟩) 4 4]) (by simp [results, Try.results28, go_sem, z0, z1]) rfl HS.out
end Go.Proofs.Ytdkpfggfkhnjfaa
