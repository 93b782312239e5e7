/- DropRegion, the reference's. -/
import Derived.Test.YtmhcajjlhiopmaaDrI
import Derived.Test.YtmhcajjlhiopmaaCpS
namespace Go.Proofs.Ytmhcajjlhiopmaa
open Go.RowKit
set_option maxHeartbeats 1600000 in
set_option maxRecDepth 20000 in
theorem specDropRegion_any (w : World) (B B' : Nat) (v : Value) (h : Hp) (A : Option Addr) (n c : Nat) (rs : List Int) (f : Int) (hh : RdH w B v h) (hr : RdI w B' A n c rs) (hn3 : ∀ c ∈ h.cells, c.refs.length ≤ 1048576) :
    Calls Try.prog 28 #[v, .slice A n c, .int .i64 f] w (Made3 w (mDropH h rs f) (mDropL h rs f) (mDropN h rs f)) := by
  have hh' := hh.top
  have hr := hr.top
  obtain ⟨D, m, d, D', m', d', rfl, hC, hR⟩ := hh.top
  have l1 := RdI.le1 hr; have l2 := RdI.le2 hr
  have l3 := hC.le1; have l4 := hC.le2
  have H1 := ((Owns.nil w).box [.slice D m d, .slice D' m' d'] 26).box [.slice none 0 0, .slice none 0 0] 26
  simp only [World.size_alloc] at H1
  go_enter Try.func28, Try.ntmps28
  go_wp2_with fail
  refine (specRegionsValid_any _ _ _ _ h _ _ _ rs (hh'.below H1.below) (hr.below H1.below)).mono ?_
  rintro e w1 ⟨rfl, hb⟩
  have H2 := H1.call hb
  clear H1 hb
  obtain ⟨a0, a1, -, -⟩ := H2.box2 1 rfl
  obtain ⟨b0, b1, b2, b3⟩ := H2.box2 0 rfl
  cases hok : mDropOk h rs f
  · have HF := Go.Lib.hid (mDrop_no hok)
    have Ha := H2.litI [] zero_le_maxLen
    simp only [List.map_nil, List.length_nil] at Ha
    have H3 := (((Ha.putBox 1 rfl 0 (.slice none 0 0)).putBox 1 rfl 1 (.slice none 0 0)).noInts).noCells
    simp only [List.set_cons_zero, List.set_cons_succ] at H3
    obtain ⟨c0, c1, -, -⟩ := H3.box2 3 rfl
    obtain ⟨b0, b1, b2, b3⟩ := Ha.box2 1 rfl
    clear Ha
    have HS : Hid (Made3 w (mDropH h rs f) (mDropL h rs f) (mDropN h rs f) (.returned (.tuple #[.agg #[.slice none 0 0, .slice none 0 0], .slice (some ⟨w1.heap.size, 0, none⟩) 0 0, .int .i64 (-1)])) _) := Go.Lib.hid (by rw [HF.out.1, HF.out.2.1, HF.out.2.2]; exact ⟨_, [], _, _, rfl, H3.take 3⟩)
    clear H3 H2
    unfold mDropOk at hok
    cases hy : mRegionsValid h rs
    · clear hok
      go_wp2
      exact bodyPost_ret (v := .tuple #[.agg #[.slice none 0 0, .slice none 0 0], .slice (some ⟨w1.heap.size, 0, none⟩) 0 0, .int .i64 (-1)]) (by simp [results, Try.results28, go_sem, c0, c1]) rfl HS.out
    · rw [hy, Bool.true_and] at hok
      have c3 : f < 1 ∨ 5 < f := by simp at hok; omega
      clear hok
      go_wp2_with fail
      refine (l1In_no _ _ _ _ c3).mono ?_
      rintro e w2 ⟨rfl, hw2⟩
      rw [hw2]
      clear c3 hw2 w2
      go_wp2
      exact bodyPost_ret (v := .tuple #[.agg #[.slice none 0 0, .slice none 0 0], .slice (some ⟨w1.heap.size, 0, none⟩) 0 0, .int .i64 (-1)]) (by simp [results, Try.results28, go_sem, c0, c1]) rfl HS.out
  have HF := Go.Lib.hid (mDrop_yes hok)
  unfold mDropOk at hok
  simp only [Bool.and_eq_true, decide_eq_true_eq] at hok
  obtain ⟨hy, f1, f5⟩ := hok
  obtain ⟨v1, v2, v3⟩ := mRegions_parts hy
  obtain ⟨s4, s5⟩ := heapOk_small v2
  obtain ⟨s6, -⟩ := heapOk_leads v2
  have HV := Go.Lib.hid s6
  have HC := Go.Lib.hid (dr_cells f1 v1 v3)
  have HN := Go.Lib.hid (dr_cnt f1 v1 v3)
  have HG : Hid (∀ i, i < h.cells.length → goneB (bitsOf rs.length (drB rs f)) h.cells i = drB rs f i) := Go.Lib.hid fun i hi => drGone f1 v1 v3 hi
  have v4 : rs.length ≤ h.cells.length := by omega
  have v5 : h.cells.length ≤ rs.length := by omega
  replace s5 := Nat.le_of_eq s5
  clear v1 v2 v3 s6
  rw [hy]
  clear hy
  go_wp2_with fail
  refine (l1In_yes _ _ _ _ f1 f5).mono ?_
  rintro e w2 ⟨rfl, hw2⟩
  obtain rfl := hw2
  go_wp2_with fail
  refine (l7Copy_any _ _ _ h (hh'.below H2.below) (by omega) (by omega) hn3).mono ?_
  rintro e w5 ⟨v5', rfl, ho, hb⟩
  obtain ⟨cv, rvs, rv, rfl, H5⟩ := H2.madeH ho hb
  obtain ⟨X1, x1, rfl, -⟩ := H5.formC 0 rfl
  obtain ⟨X2, x2, rfl, -⟩ := H5.formI 1 rfl
  have H6 := (H5.box [.slice X1 h.cells.length x1, .slice X2 h.roots.length x2] 26).litI [] zero_le_maxLen
  simp only [List.length_nil, World.size_alloc] at H6
  clear H2 H5 ho hb a0 a1 b0 b1 b2 b3
  go_wp2_with (at_builtin; go_loud (refine wpList_pushO rfl (.tmp 28) (.tmp 29) rfl H6 0 rfl rfl rfl (hr.below H6.below) (by simp; omega) ?_; intro C kC w6 H7; obtain ⟨a0, a1, -, -⟩ := H7.box2 1 rfl))
  simp only [List.set_cons_zero, List.nil_append] at H7
  try simp only [List.nil_append] at H7
  clear H6
  have hM : ∃ M, Hid (bitsOf rs.length (drB rs f) = M) := ⟨_, Go.Lib.hid rfl⟩
  obtain ⟨M, HMe⟩ := hM
  rw [HMe.out] at HC HN HG
  go_loopw [12] (fun i wr => ∃ k : Nat, i = .int .i64 k ∧ k ≤ h.roots.length ∧ Owns w.heap.size w wr [.ints (.slice C rs.length kC) rs, .box w5.heap.size [.slice X1 h.cells.length x1, .slice X2 h.roots.length x2] 26, .cells (.slice X1 h.cells.length x1) rvs h.cells, .rowJ (.slice X2 h.roots.length x2) h.roots.length ((h.roots.take k).map (drRoot rs f) ++ h.roots.drop k), .box (w.heap.size + 1) [.slice none 0 0, .slice none 0 0] 26, .box w.heap.size [.slice D m d, .slice D' m' d'] 26]) (fun i _ => h.roots.length - (intOf i).toNat)
  case atStart => exact ⟨0, rfl, Nat.zero_le _, H7⟩
  case round =>
    clear H7 a0 a1
    obtain ⟨k, rfl, hk, H⟩ := hrel
    obtain ⟨a0, a1, -, -⟩ := H.box2 1 rfl
    by_cases hlt : k < h.roots.length
    · obtain ⟨r, hx⟩ : ∃ r, Hid (h.roots[k]? = some r) := ⟨_, Go.Lib.hid (List.getElem?_eq_getElem hlt)⟩
      have HE := Go.Lib.hid (mapD_here (f := drRoot rs f) hx)
      obtain ⟨gR, cR, e7, -, -, -, -⟩ := H.rowAt 3 rfl (by omega)
      simp only [Value.slice.injEq, true_and] at e7
      obtain ⟨rfl, rfl⟩ := e7
      obtain ⟨z0, zf⟩ := H.elem 3 rfl (j := k) (u := .int .i64 r) (by rw [List.getElem?_map, HE.out]; rfl)
      by_cases c0 : r < 0
      · have HX := Go.Lib.hid (mapD_keep (f := drRoot rs f) hx (by unfold drRoot; rw [if_neg (by omega)]))
        go_wp2
        go_roundw
        case rel => exact ⟨k + 1, by go_num, by omega, by rw [HX.out]; exact H⟩
        case measure => simp [intOf]; omega
      · obtain ⟨p, rfl⟩ := Int.eq_ofNat_of_zero_le (by omega : 0 ≤ r)
        have hp : p < n := by have := usedN_lt (leadsB_used (HV.out _ (List.mem_of_getElem? hx.out)) (by omega)); simp at this; omega
        obtain ⟨b, o, y, rfl, hbb, hy, q1⟩ := RdI.at_ hr hp
        have g1 := H.ro q1 hbb
        have i3 : (0 : Int) ≤ (p : Int) := by omega
        have i4 : (p : Int) < (n : Int) := by omega
        have hd : rs.getD (p : Int).toNat 0 = y := by rw [Int.toNat_natCast, getD_of hy]
        by_cases c1 : f ≤ y
        · have hz : drRoot rs f (p : Int) = -1 := by unfold drRoot; rw [hd, if_pos ⟨i3, c1⟩]
          have H1 := mapD_turn (f := drRoot rs f) hx
          rw [hz] at H1
          have HX := Go.Lib.hid H1
          have H6 := H.putRowJ 3 rfl k (-1)
          simp only [List.set_cons_zero, List.set_cons_succ, HX.out] at H6
          clear H1 hz hd
          go_wp2
          go_roundw
          case rel => exact ⟨k + 1, by go_num, by omega, H6⟩
          case measure => simp [intOf]; omega
        · have HX := Go.Lib.hid (mapD_keep (f := drRoot rs f) hx (by unfold drRoot; rw [hd, if_neg (fun e => c1 e.2)]))
          clear hd
          go_wp2
          go_roundw
          case rel => exact ⟨k + 1, by go_num, by omega, by rw [HX.out]; exact H⟩
          case measure => simp [intOf]; omega
    · have hkn : h.roots.length ≤ k := by omega
      rw [List.take_of_length_le hkn, List.drop_of_length_le hkn, List.append_nil, rowJ_ints (by simp)] at H
      have HW : Owns w.heap.size w wr [.rowJ (.slice C rs.length kC) rs.length ((rs.take 0).map (drZ f) ++ rs.drop 0), .box w5.heap.size [.slice X1 h.cells.length x1, .slice X2 h.roots.length x2] 26, .cells (.slice X1 h.cells.length x1) rvs (wipeTo M h.cells 0), .ints (.slice X2 h.roots.length x2) (h.roots.map (drRoot rs f)), .box (w.heap.size + 1) [.slice none 0 0, .slice none 0 0] 26, .box w.heap.size [.slice D m d, .slice D' m' d'] 26] := by rw [wipeTo_zero]; exact H
      clear hkn H
      go_wp2_with fail
      clear a0 a1
      go_loopw [11, 14] (fun v11 i wr => ∃ (k : Nat) (rvs' : List Value), i = .int .i64 k ∧ k ≤ n ∧ v11 = .int .i64 (cntTo M h.cells k : Nat) ∧ Owns w.heap.size w wr [.rowJ (.slice C rs.length kC) rs.length ((rs.take k).map (drZ f) ++ rs.drop k), .box w5.heap.size [.slice X1 h.cells.length x1, .slice X2 h.roots.length x2] 26, .cells (.slice X1 h.cells.length x1) rvs' (wipeTo M h.cells k), .ints (.slice X2 h.roots.length x2) (h.roots.map (drRoot rs f)), .box (w.heap.size + 1) [.slice none 0 0, .slice none 0 0] 26, .box w.heap.size [.slice D m d, .slice D' m' d'] 26]) (fun _ i _ => n - (intOf i).toNat)
      case atStart => exact ⟨0, rvs, rfl, Nat.zero_le _, rfl, HW⟩
      case round =>
        clear HW
        obtain ⟨k, rvs', rfl, hk, rfl, H⟩ := hrel
        have hc := cntTo_le M h.cells k
        by_cases hlt : k < n
        · obtain ⟨b, o, x, rfl, hbb, hx, q1⟩ := RdI.at_ hr hlt
          have g1 := H.ro q1 hbb
          have hd : drB rs f k = decide (f ≤ x) := by unfold drB; rw [getD_of hx]
          have hg := HG.out k (by omega)
          by_cases c0 : f ≤ x
          · rw [hd, decide_eq_true c0] at hg
            have hz : drZ f x = 0 := by unfold drZ; rw [if_pos c0]
            have H1 := mapD_turn (f := drZ f) hx
            rw [hz] at H1
            have HX := Go.Lib.hid H1
            have HE := Go.Lib.hid (mapD_here (f := drZ f) hx)
            have HW1 := Go.Lib.hid (wipeTo_yes hg)
            have HC1 := Go.Lib.hid (cntTo_yes hg)
            have hkc : k < h.cells.length := by omega
            obtain ⟨a0, a1, -, -⟩ := H.box2 1 rfl
            obtain ⟨gC, cC, xx, e7, ⟨y0, y1, y2⟩, t0, t1, t2⟩ := H.cell3 2 rfl (k := k) (Go.Lib.hid (List.getElem?_eq_getElem (by rw [wipeTo_len]; exact hkc)))
            simp only [Value.slice.injEq] at e7
            obtain ⟨rfl, -, rfl⟩ := e7
            obtain ⟨gL, cL, e8, -, -, -, -⟩ := H.rowAt 0 rfl (by omega)
            simp only [Value.slice.injEq, true_and] at e8
            obtain ⟨rfl, rfl⟩ := e8
            have H5 := H.wipe 2 rfl (by rw [wipeTo_len]) k (by rw [wipeTo_len]; exact hkc)
            simp only [List.set_cons_zero, List.set_cons_succ] at H5
            rw [← HW1.out] at H5
            obtain ⟨z0, zf⟩ := H5.elem 0 rfl (j := k) (u := .int .i64 x) (by rw [List.getElem?_map, HE.out]; rfl)
            have H6 := H5.putRowJ 0 rfl k 0
            simp only [List.set_cons_zero, HX.out] at H6
            clear hg hd hz H1
            go_wp2
            go_roundw
            case rel => exact ⟨k + 1, _, by go_num, by omega, by rw [HC1.out]; go_num, H6⟩
            case measure => simp [intOf]; omega
          · rw [hd, decide_eq_false c0] at hg
            have HX := Go.Lib.hid (mapD_keep (f := drZ f) hx (by unfold drZ; rw [if_neg c0]))
            have HW1 := Go.Lib.hid (wipeTo_no hg)
            have HC1 := Go.Lib.hid (cntTo_no hg)
            clear hg hd
            go_wp2
            go_roundw
            case rel => exact ⟨k + 1, rvs', by go_num, by omega, by rw [HC1.out], by rw [HX.out, HW1.out]; exact H⟩
            case measure => simp [intOf]; omega
        · have hkn : rs.length ≤ k := by omega
          have hkk : k = h.cells.length := by omega
          rw [List.take_of_length_le hkn, List.drop_of_length_le hkn, List.append_nil, rowJ_ints (by simp), hkk, HC.out] at H
          rw [hkk, HN.out]
          clear hkn hkk
          obtain ⟨a0, a1, -, -⟩ := H.box2 1 rfl
          obtain ⟨b0, b1, b2, b3⟩ := H.box2 4 rfl
          have H8 := (H.putBox 4 rfl 0 (.slice X1 h.cells.length x1)).putBox 4 rfl 1 (.slice X2 h.roots.length x2)
          simp only [List.set_cons_zero, List.set_cons_succ] at H8
          obtain ⟨c0, c1, -, -⟩ := H8.box2 4 rfl
          have HS : Hid (Made3 w (mDropH h rs f) (mDropL h rs f) (mDropN h rs f) (.returned (.tuple #[.agg #[.slice X1 h.cells.length x1, .slice X2 h.roots.length x2], .slice C rs.length kC, .int .i64 (drCnt rs f : Nat)])) _) := Go.Lib.hid (by rw [HF.out.1, HF.out.2.1, HF.out.2.2]; exact ⟨_, rvs', _, _, rfl, H8.order [2, 3, 0] (by decide) rfl⟩)
          clear H H8
          go_wp2
          exact bodyPost_ret (v := .tuple #[.agg #[.slice X1 h.cells.length x1, .slice X2 h.roots.length x2], .slice C rs.length kC, .int .i64 (drCnt rs f : Nat)]) (by simp [results, Try.results28, go_sem, c0, c1]) rfl HS.out
end Go.Proofs.Ytmhcajjlhiopmaa
