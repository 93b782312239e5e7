/- DropRegion, the program's. -/
import Derived.Test.YtmhcajjlhiopmaaDr
namespace Go.Proofs.Ytmhcajjlhiopmaa
open Go.RowKit
theorem mRegions_parts {h : Hp} {rs : List Int} (hv : mRegionsValid h rs = true) : rs.length = h.cells.length ∧ heapOk h = true ∧ ∀ k, k < h.cells.length → rgAt h.cells rs k = true := by
  simp only [mRegionsValid, Bool.and_eq_true, decide_eq_true_eq, List.all_eq_true, List.mem_range] at hv
  exact ⟨hv.1.2, hv.1.1, hv.2⟩
set_option maxHeartbeats 1600000 in
set_option maxRecDepth 20000 in
theorem implDropRegion_any (w : World) (B B' : Nat) (v : Value) (h : Hp) (A : Option Addr) (n c : Nat) (rs : List Int) (f : Int) (hh : RdH w B v h) (hr : RdI w B' A n c rs) (hn3 : ∀ c ∈ h.cells, c.refs.length ≤ 1048576) :
    Calls Try.prog 27 #[v, .slice A n c, .int .i64 f] w (Made3 w (mDropH h rs f) (mDropL h rs f) (mDropN h rs f)) := by
  have hh' := hh.top
  have hr := hr.top
  obtain ⟨D, m, d, D', m', d', rfl, hC, hR⟩ := hh.top
  have l1 := RdI.le1 hr; have l2 := RdI.le2 hr
  have l3 := hC.le1; have l4 := hC.le2
  have H1 := ((Owns.nil w).box [.slice D m d, .slice D' m' d'] 26).box [.slice none 0 0, .slice none 0 0] 26
  simp only [World.size_alloc] at H1
  go_enter Try.func27, Try.ntmps27
  go_wp2_with fail
  refine (implRegionsValid_any _ _ _ _ h _ _ _ rs (hh'.below H1.below) (hr.below H1.below)).mono ?_
  rintro e w1 ⟨rfl, hb⟩
  have H2 := H1.call hb
  clear H1 hb
  obtain ⟨a0, a1, -, -⟩ := H2.box2 1 rfl
  obtain ⟨b0, b1, b2, b3⟩ := H2.box2 0 rfl
  cases hok : mDropOk h rs f
  · have HF := Go.Lib.hid (mDrop_no hok)
    have H3 := ((((H2.putBox 0 rfl 0 (.slice none 0 0)).putBox 0 rfl 1 (.slice none 0 0)).noInts).noInts).noCells
    simp only [List.set_cons_zero, List.set_cons_succ] at H3
    obtain ⟨c0, c1, -, -⟩ := H3.box2 3 rfl
    have HS : Hid (Made3 w (mDropH h rs f) (mDropL h rs f) (mDropN h rs f) (.returned (.tuple #[.agg #[.slice none 0 0, .slice none 0 0], .slice none 0 0, .int .i64 (-1)])) _) := Go.Lib.hid (by rw [HF.out.1, HF.out.2.1, HF.out.2.2]; exact ⟨_, [], _, _, rfl, H3.take 3⟩)
    clear H3 H2
    unfold mDropOk at hok
    cases hy : mRegionsValid h rs
    · clear hok
      go_wp2
      exact bodyPost_ret (v := .tuple #[.agg #[.slice none 0 0, .slice none 0 0], .slice none 0 0, .int .i64 (-1)]) (by simp [results, Try.results27, go_sem, c0, c1]) rfl HS.out
    · rw [hy, Bool.true_and] at hok
      by_cases c2 : f < 1
      · clear hok
        go_wp2
        exact bodyPost_ret (v := .tuple #[.agg #[.slice none 0 0, .slice none 0 0], .slice none 0 0, .int .i64 (-1)]) (by simp [results, Try.results27, go_sem, c0, c1]) rfl HS.out
      · have c3 : 5 < f := by simp at hok; omega
        clear hok
        go_wp2
        exact bodyPost_ret (v := .tuple #[.agg #[.slice none 0 0, .slice none 0 0], .slice none 0 0, .int .i64 (-1)]) (by simp [results, Try.results27, go_sem, c0, c1]) rfl HS.out
  have HF := Go.Lib.hid (mDrop_yes hok)
  unfold mDropOk at hok
  simp only [Bool.and_eq_true, decide_eq_true_eq] at hok
  obtain ⟨hy, f1, f5⟩ := hok
  obtain ⟨v1, v2, v3⟩ := mRegions_parts hy
  obtain ⟨s4, s5⟩ := heapOk_small v2
  have HC := Go.Lib.hid (dr_cells f1 v1 v3)
  have HN := Go.Lib.hid (dr_cnt f1 v1 v3)
  have HM := Go.Lib.hid (fun x => drM_has (rs := rs) f1 x)
  have HL := Go.Lib.hid (show bitsOf rs.length (drB rs f) < 2 ^ 64 from Nat.lt_of_lt_of_le (bitsOf_lt _ _) (Nat.pow_le_pow_right (by omega) (by omega)))
  have v4 : rs.length ≤ h.cells.length := by omega
  have v5 : h.cells.length ≤ rs.length := by omega
  replace s5 := Nat.le_of_eq s5
  clear v1 v2 v3
  rw [hy]
  have H3 := H2.box [.int .u64 (0 : Nat)] 56
  clear H2 hy a0 a1 b0 b1 b2 b3
  go_wp2_with fail
  refine (clone_any _ _ _ _ _ rs (hr.below H3.below) (by omega)).mono ?_
  rintro e w3 ⟨v3, rfl, ho, hb⟩
  have H4 := H3.madeI ho hb
  obtain ⟨C, kC, rfl, -⟩ := H4.formI 0 rfl
  clear H3 ho hb
  go_wp2_with fail
  go_loopw [34] (fun i wr => ∃ k : Nat, i = .int .i64 k ∧ k ≤ n ∧ Owns w.heap.size w wr [.rowJ (.slice C rs.length kC) rs.length ((rs.take k).map (drZ f) ++ rs.drop k), .box w1.heap.size [.int .u64 (bitsOf k (drB rs f))] 56, .box (w.heap.size + 1) [.slice none 0 0, .slice none 0 0] 26, .box w.heap.size [.slice D m d, .slice D' m' d'] 26]) (fun i _ => n - (intOf i).toNat)
  case atStart => exact ⟨0, rfl, Nat.zero_le _, H4⟩
  case round =>
    clear H4
    obtain ⟨k, rfl, hk, H⟩ := hrel
    by_cases hlt : k < n
    · obtain ⟨b, o, x, rfl, hbb, hx, q1⟩ := RdI.at_ hr hlt
      have g1 := H.ro q1 hbb
      have hd : drB rs f k = decide (f ≤ x) := by unfold drB; rw [getD_of hx]
      by_cases c0 : f ≤ x
      · have hz : drZ f x = 0 := by unfold drZ; rw [if_pos c0]
        have H1 := mapD_turn (f := drZ f) hx
        rw [hz] at H1
        have HX := Go.Lib.hid H1
        have HB : Hid (bitsOf (k + 1) (drB rs f) = addB (bitsOf k (drB rs f)) k) := Go.Lib.hid (by rw [bitsOf, hd, decide_eq_true c0]; simp [addB])
        have HK := Go.Lib.hid (show bitsOf k (drB rs f) < 2 ^ 64 from Nat.lt_of_lt_of_le (bitsOf_lt _ _) (Nat.pow_le_pow_right (by omega) (by omega)))
        have HE := Go.Lib.hid (mapD_here (f := drZ f) hx)
        clear H1 hd hz
        go_wp2_with fail
        refine (add_own H 1 rfl (k : Int) HK.out (by omega) (by omega)).mono ?_
        rintro e w4 ⟨⟨u, rfl⟩, H5⟩
        simp only [List.set_cons_zero, List.set_cons_succ] at H5
        rw [← HB.out] at H5
        obtain ⟨gC, cC, e7, -, -, -, -⟩ := H5.rowAt 0 rfl (by omega)
        simp only [Value.slice.injEq, true_and] at e7
        obtain ⟨rfl, rfl⟩ := e7
        obtain ⟨z0, zf⟩ := H5.elem 0 rfl (j := k) (u := .int .i64 x) (by rw [List.getElem?_map, HE.out]; rfl)
        have H6 := H5.putRowJ 0 rfl k 0
        simp only [List.set_cons_zero, HX.out] at H6
        clear g1
        go_wp2
        go_roundw
        case rel => exact ⟨k + 1, by go_num, by omega, H6⟩
        case measure => simp [intOf]; omega
      · have HX := Go.Lib.hid (mapD_keep (f := drZ f) hx (by unfold drZ; rw [if_neg c0]))
        have HB : Hid (bitsOf (k + 1) (drB rs f) = bitsOf k (drB rs f)) := Go.Lib.hid (by rw [bitsOf, hd, decide_eq_false c0]; simp)
        clear hd
        go_wp2
        go_roundw
        case rel => exact ⟨k + 1, by go_num, by omega, by rw [HX.out, HB.out]; exact H⟩
        case measure => simp [intOf]; omega
    · have hkn : rs.length ≤ k := by omega
      have HT : Hid ((rs.take k).map (drZ f) ++ rs.drop k = rs.map (drZ f)) := Go.Lib.hid (by rw [List.take_of_length_le hkn, List.drop_of_length_le hkn, List.append_nil])
      have hkk : k = rs.length := by omega
      rw [HT.out, rowJ_ints (by simp), hkk] at H
      clear hkn hkk HT
      obtain ⟨a0, a1, -, -⟩ := H.box2 3 rfl
      go_wp2_with fail
      refine (copyHeap_any _ _ _ h (hh'.below H.below) (by omega) (by omega) hn3).mono ?_
      rintro e w5 ⟨v5, rfl, ho, hb⟩
      obtain ⟨cv, rvs, rv, rfl, H5⟩ := H.madeH ho hb
      obtain ⟨X1, x1, rfl, -⟩ := H5.formC 0 rfl
      obtain ⟨X2, x2, rfl, -⟩ := H5.formI 1 rfl
      have H6 := H5.box [.slice X1 h.cells.length x1, .slice X2 h.roots.length x2] 26
      clear H H5 ho hb a0 a1
      obtain ⟨a0, a1, -, -⟩ := H6.box2 0 rfl
      generalize hM : bitsOf rs.length (drB rs f) = M at *
      go_wp2_with fail
      go_loopw [53] (fun i wr => ∃ k : Nat, i = .int .i64 k ∧ k ≤ h.roots.length ∧ Owns w.heap.size w wr [.box w5.heap.size [.slice X1 h.cells.length x1, .slice X2 h.roots.length x2] 26, .cells (.slice X1 h.cells.length x1) rvs h.cells, .rowJ (.slice X2 h.roots.length x2) h.roots.length ((h.roots.take k).map (drRoot rs f) ++ h.roots.drop k), .ints (.slice C rs.length kC) (rs.map (drZ f)), .box w1.heap.size [.int .u64 M] 56, .box (w.heap.size + 1) [.slice none 0 0, .slice none 0 0] 26, .box w.heap.size [.slice D m d, .slice D' m' d'] 26]) (fun i _ => h.roots.length - (intOf i).toNat)
      case atStart => exact ⟨0, rfl, Nat.zero_le _, H6⟩
      case round =>
        clear H6 a0 a1
        obtain ⟨k, rfl, hk, H⟩ := hrel
        obtain ⟨a0, a1, -, -⟩ := H.box2 0 rfl
        obtain ⟨m0, mf⟩ := H.box1 4 rfl
        by_cases hlt : k < h.roots.length
        · obtain ⟨r, hx⟩ : ∃ r, Hid (h.roots[k]? = some r) := ⟨_, Go.Lib.hid (List.getElem?_eq_getElem hlt)⟩
          have HE := Go.Lib.hid (mapD_here (f := drRoot rs f) hx)
          obtain ⟨gR, cR, e7, -, -, -, -⟩ := H.rowAt 2 rfl (by omega)
          simp only [Value.slice.injEq, true_and] at e7
          obtain ⟨rfl, rfl⟩ := e7
          obtain ⟨z0, zf⟩ := H.elem 2 rfl (j := k) (u := .int .i64 r) (by rw [List.getElem?_map, HE.out]; rfl)
          have hh1 := HM.out r
          by_cases c0 : 0 ≤ r ∧ f ≤ rs.getD r.toNat 0
          · rw [decide_eq_true c0] at hh1
            have H1 := mapD_turn (f := drRoot rs f) hx
            have hz : drRoot rs f r = -1 := by unfold drRoot; rw [if_pos c0]
            rw [hz] at H1
            have HX := Go.Lib.hid H1
            have HV := Go.Lib.hid hh1
            have H6 := H.putRowJ 2 rfl k (-1)
            simp only [List.set_cons_zero, List.set_cons_succ, HX.out] at H6
            clear hh1 H1 hz c0
            go_wp2_with fail
            refine (has_any _ r _ HL.out).mono ?_
            rintro e w6 ⟨rfl, hw6⟩
            obtain rfl := hw6
            rw [HV.out]
            go_wp2
            go_roundw
            case rel => exact ⟨k + 1, by go_num, by omega, H6⟩
            case measure => simp [intOf]; omega
          · rw [decide_eq_false c0] at hh1
            have HX := Go.Lib.hid (mapD_keep (f := drRoot rs f) hx (by unfold drRoot; rw [if_neg c0]))
            have HV := Go.Lib.hid hh1
            clear hh1 c0
            go_wp2_with fail
            refine (has_any _ r _ HL.out).mono ?_
            rintro e w6 ⟨rfl, hw6⟩
            obtain rfl := hw6
            rw [HV.out]
            go_wp2
            go_roundw
            case rel => exact ⟨k + 1, by go_num, by omega, by rw [HX.out]; exact H⟩
            case measure => simp [intOf]; omega
        · have hkn : h.roots.length ≤ k := by omega
          rw [List.take_of_length_le hkn, List.drop_of_length_le hkn, List.append_nil] at H
          clear hkn
          go_wp2_with fail
          refine (freeCells_own H HL.out (by omega)).mono ?_
          rintro e w6 ⟨rfl, rvs', H7⟩
          rw [HC.out] at H7
          rw [HN.out]
          clear H a0 a1 m0 mf
          obtain ⟨a0, a1, -, -⟩ := H7.box2 0 rfl
          obtain ⟨b0, b1, b2, b3⟩ := H7.box2 5 rfl
          have H8 := (H7.putBox 5 rfl 0 (.slice X1 h.cells.length x1)).putBox 5 rfl 1 (.slice X2 h.roots.length x2)
          simp only [List.set_cons_zero, List.set_cons_succ] at H8
          rw [rowJ_ints (by simp)] at H8
          obtain ⟨c0, c1, -, -⟩ := H8.box2 5 rfl
          have HS : Hid (Made3 w (mDropH h rs f) (mDropL h rs f) (mDropN h rs f) (.returned (.tuple #[.agg #[.slice X1 h.cells.length x1, .slice X2 h.roots.length x2], .slice C rs.length kC, .int .i64 (drCnt rs f : Nat)])) _) := Go.Lib.hid (by rw [HF.out.1, HF.out.2.1, HF.out.2.2]; exact ⟨_, rvs', _, _, rfl, H8.order [1, 2, 3] (by decide) rfl⟩)
          clear H7 H8
          go_wp2
          exact bodyPost_ret (v := .tuple #[.agg #[.slice X1 h.cells.length x1, .slice X2 h.roots.length x2], .slice C rs.length kC, .int .i64 (drCnt rs f : Nat)]) (by simp [results, Try.results27, go_sem, c0, c1]) rfl HS.out
end Go.Proofs.Ytmhcajjlhiopmaa
