/- The reference's tests of programs and of instructions on a heap; the empty heap. For everything that can be read. -/
import Derived.Test.YtjpfgbckmcjjaaaMd
import Derived.Test.YtjpfgbckmcjjaaaZ1
namespace Go.Proofs.Ytjpfgbckmcjjaaa
open Go.RowKit
set_option maxHeartbeats 1600000 in
theorem specCommandsValid_any (w : World) (B : Nat) (A : Option Addr) (n c : Nat) (cs : List Cmd) (hr : RdQ w B A n c cs) :
    Calls Try.prog 123 #[.slice A n c] w fun e w' => e = .returned (.bool (cmdsOk cs)) ∧ Below w.heap.size w w' := by
  have hr := hr.top
  have l1 := hr.le1; have l2 := hr.le2
  have hm := Nat.le_trans hr.cap hr.mx
  unfold maxLen at hm
  go_enter Try.func123, Try.ntmps123
  go_wp2_with fail
  go_loopw [3] (fun i wr => ∃ k : Nat, i = .int .i64 k ∧ k ≤ n ∧ (cs.take k).all cmdOk = true ∧ Below w.heap.size w wr) (fun i _ => n - (intOf i).toNat)
  case atStart => exact ⟨0, rfl, Nat.zero_le _, by simp, Below.refl _ _⟩
  case round =>
    obtain ⟨k, rfl, hk, hal, hb⟩ := hrel
    by_cases hlt : k < n
    · obtain ⟨b, o, q, rfl, hbb, hx, q1, q2, q3, q4⟩ := hr.at_ hlt
      have g1 := keept q1 hb
      have g2 := keept q2 hb
      have g3 := keept q3 hb
      have g4 := keept q4 hb
      cases hq : cmdOk q
      · have HF := Go.Lib.hid (show cmdsOk cs = false by simp [cmdsOk, all_no hx hq])
        clear hal q1 q2 q3 q4
        go_wp2_with fail
        refine (specCommandValid_any q _).mono ?_
        rintro e w2 ⟨rfl, hb2⟩
        rw [hq]
        clear hq
        go_wp2
        go_ret
        exact ⟨ret_b HF.out.symm, hb.trans (hb2.mono hb.size)⟩
      · have HA := Go.Lib.hid (all_succ hal hx hq)
        clear hal q1 q2 q3 q4
        go_wp2_with fail
        refine (specCommandValid_any q _).mono ?_
        rintro e w2 ⟨rfl, hb2⟩
        rw [hq]
        clear hq
        go_wp2_with fail
        go_roundw
        case rel => exact ⟨k + 1, by go_num, by omega, HA.out, hb.trans (hb2.mono hb.size)⟩
        case measure => simp [intOf]; omega
    · have h1 := all_end hal (by omega)
      have HF := Go.Lib.hid (show cmdsOk cs = decide ((n : Int) ≤ 40) by
        rw [cmdsOk, h1, Bool.true_and]
        have : cs.length = n := by omega
        rw [this]
        exact decide_eq_decide.2 (by omega))
      clear h1 hal
      go_wp2
      go_ret
      exact ⟨ret_b HF.out.symm, hb⟩
def emptyTo (k : Nat) : List Int := List.replicate k (-1)
set_option maxHeartbeats 1600000 in
theorem specEmptyHeap_any (w : World) : Calls Try.prog 124 #[] w (MadeHp w emptyH) := by
  have H1 := (((Owns.nil w).box [.slice none 0 0, .slice none 0 0] 26).box [.slice none 0 0, .slice none 0 0] 26).noInts
  simp only [World.size_alloc] at H1
  go_enter Try.func124, Try.ntmps124
  go_wp2_with fail
  go_loopw [2] (fun i wr => ∃ (k : Nat) (v : Value), i = .int .i64 k ∧ k ≤ 4 ∧ Owns w.heap.size w wr [.ints v (emptyTo k), .box (w.heap.size + 1) [.slice none 0 0, v] 26, .box w.heap.size [.slice none 0 0, .slice none 0 0] 26]) (fun i _ => 4 - (intOf i).toNat)
  case atStart => exact ⟨0, _, rfl, Nat.zero_le _, H1⟩
  case round =>
    clear H1
    obtain ⟨k, v, rfl, hk, H⟩ := hrel
    obtain ⟨A, c, rfl, -⟩ := H.formI 0 rfl
    rw [show (emptyTo k).length = k by simp [emptyTo]] at H
    obtain ⟨a0, a1, a2, a3⟩ := H.box2 1 rfl
    by_cases hlt : k < 4
    · have H2 := H.litI [-1] one_le_maxLen
      simp only [List.map_cons, List.map_nil, List.length_cons, List.length_nil, Nat.zero_add] at H2
      have e : emptyTo k ++ [-1] = emptyTo (k + 1) := by simp [emptyTo, List.replicate_succ']
      have el : (emptyTo k).length = k := by simp [emptyTo]
      have HE := Go.Lib.hid e
      have HL := Go.Lib.hid el
      clear e el
      go_wp2_with (at_builtin; go_loud (refine wpList_pushO rfl (.tmp 9) (.tmp 10) rfl H2 1 rfl rfl rfl (rdI_new _ _ _ rfl) (by simp [emptyTo]; omega) ?_; intro A3 k3 w3 H3; simp only [List.set_cons_zero, List.set_cons_succ, List.length_append, List.length_cons, List.length_nil, Nat.zero_add] at H3; rw [HE.out] at H3; obtain ⟨e0, e1, e2, e3⟩ := H3.box2 2 rfl))
      have H4 := (H3.putBox 2 rfl 1 (.slice A3 ((emptyTo k).length + 1) k3)).erase 0
      simp only [List.set_cons_zero, List.set_cons_succ, List.eraseIdx_cons_zero] at H4
      go_roundw
      case rel => exact ⟨k + 1, _, by go_num, by omega, H4⟩
      case measure => simp [intOf]; omega
    · obtain rfl : k = 4 := by omega
      have H3 := (H.putBox 2 rfl 0 (.slice none 0 0)).putBox 2 rfl 1 (.slice A 4 c)
      obtain ⟨y0, y1, y2, y3⟩ := H.box2 2 rfl
      simp only [List.set_cons_zero, List.set_cons_succ] at H3
      obtain ⟨z0, z1, -, -⟩ := H3.box2 2 rfl
      have HS : Hid (MadeHp w emptyH (.returned (.agg #[.slice none 0 0, .slice A 4 c])) _) := Go.Lib.hid ⟨_, [], _, rfl, (H3.noCells).order [0, 1] (by decide) rfl⟩
      clear H H3
      go_wp2
      exact bodyPost_ret (v := .agg #[.slice none 0 0, .slice A 4 c]) (by simp [results, Try.results124, go_sem, z0, z1]) rfl HS.out
theorem rootI_at {h : Hp} (h4 : h.roots.length = 4) {k : Int} (h0 : 0 ≤ k) (h1 : k ≤ 3) : Hid (h.roots[k.toNat]? = some (rootI h k)) := by
  refine Go.Lib.hid ?_
  unfold rootI
  rw [List.getD_eq_getElem?_getD, List.getElem?_eq_getElem (by omega)]; rfl
set_option maxHeartbeats 1600000 in
theorem l8Place_any (w : World) (B : Nat) (v : Value) (h : Hp) (hh : RdH w B v h) (n c : Int) (hn : n < h.cells.length) :
    Calls Try.prog 133 #[v, .int .i64 n, .int .i64 c] w fun e w' => e = .returned (.bool (placeB h n c)) ∧ Below w.heap.size w w' := by
  obtain ⟨D, m, d, D', m', d', rfl, hC, hR⟩ := hh.top
  have l1 := hC.le1; have l2 := hC.le2
  have H := (Owns.nil w).box [.slice D m d, .slice D' m' d'] 26
  have HB := H.below
  obtain ⟨a0, a1, -, -⟩ := H.box2 0 rfl
  by_cases h0 : 0 ≤ n
  · obtain ⟨q, rfl⟩ := Int.eq_ofNat_of_zero_le h0
    have hq : q < m := by omega
    obtain ⟨b, o, l, A2, n2, c2, rfl, hbb, hx, q1, q2, q3, hrf⟩ := hC.at_ hq
    have r1 := RdI.le1 hrf; have r2 := RdI.le2 hrf
    have g3 := keept q3 HB
    have HF : Hid (placeB h (q : Int) c = decide (c < (n2 : Int))) := Go.Lib.hid (by
      unfold placeB celI
      rw [Int.toNat_natCast, getD_of hx, decide_eq_true h0, Bool.true_and]
      exact decide_eq_decide.2 (by omega))
    clear H q1 q2 q3
    go_enter Try.func133, Try.ntmps133
    go_wp2
    go_ret
    exact ⟨ret_b HF.out.symm, HB⟩
  · have HF : Hid (placeB h n c = false) := Go.Lib.hid (by unfold placeB; rw [decide_eq_false h0]; rfl)
    clear H
    go_enter Try.func133, Try.ntmps133
    go_wp2
    go_ret
    exact ⟨ret_b HF.out.symm, HB⟩
end Go.Proofs.Ytjpfgbckmcjjaaa
