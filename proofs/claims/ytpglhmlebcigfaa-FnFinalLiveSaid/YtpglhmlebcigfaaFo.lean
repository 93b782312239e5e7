/- FinalOrder, the program's and the reference's: both make mFinalOrder, for every heap and list that can be read. -/
import Derived.Test.YtpglhmlebcigfaaFp
namespace Go.Proofs.Ytpglhmlebcigfaa
open Go.RowKit
theorem mid {X Y Z : List Int} {n : Int} {W : List Int} (h : X ++ Y = Z) (hy : Y = n :: W) : (X ++ [n]) ++ W = Z := by rw [← h, hy]; simp
set_option maxHeartbeats 3200000 in
theorem implFinalOrder_any (w : World) (B B' : Nat) (v : Value) (h : Hp) (A : Option Addr) (n c : Nat) (ws : List Int) (hh : RdH w B v h) (hr : RdI w B' A n c ws) :
    Calls Try.prog 8 #[v, .slice A n c] w (MadeI w (mFinalOrder h ws)) := by
  have hh' := hh.top
  have hr := hr.top
  obtain ⟨D, m, d, D', m', d', rfl, hC, hR⟩ := hh.top
  have l1 := RdI.le1 hr; have l2 := RdI.le2 hr
  have H1 := (Owns.nil w).box [.slice D m d, .slice D' m' d'] 26
  go_enter Try.func8, Try.ntmps8
  go_wp2_with fail
  refine (implWatchedValid_any _ _ _ _ h _ _ _ ws (hh'.below H1.below) (hr.below H1.below)).mono ?_
  rintro e w1 ⟨rfl, hb1⟩
  have H2 := H1.call hb1
  clear H1 hb1
  cases hy : mWatchedValid h ws
  · have HF := Go.Lib.hid (mFinal_no hy)
    clear hy
    go_wp2
    go_ret
    rw [HF.out]
    exact H2.noInts.toI 0 rfl
  · have s0 := mWatched_len hy
    obtain ⟨s1, -, -⟩ := mWatched_parts hy
    obtain ⟨s4, -⟩ := heapOk_small s1
    have HF := Go.Lib.hid (mFinal_yes hy)
    have HL := Go.Lib.hid (finN_len h ws.length ws)
    have HV := Go.Lib.hid hy
    have H3 := H2.litI [] zero_le_maxLen
    clear hy s1 H2
    go_wp2_with fail
    refine (clone_any _ _ A n c ws (hr.below H3.below) (by omega)).mono ?_
    rintro e w2 ⟨v2, rfl, ho2, hb2⟩
    have H4 := H3.madeI ho2 hb2
    clear H3 ho2 hb2
    have HT0 : Hid ([] ++ finN h ws.length ws = mFinalOrder h ws) := Go.Lib.hid (by rw [HF.out]; rfl)
    go_wp2_with fail
    go_loopg [5, 6] ws.length (fun gk v5 v6 wr => ∃ (left out : List Int), gk = left.length ∧ mWatchedValid h left = true ∧ Hid (out ++ finN h left.length left = mFinalOrder h ws) ∧ Owns w.heap.size w wr [.ints v6 left, .ints v5 out, .box w.heap.size [.slice D m d, .slice D' m' d'] 26])
    case atStart => exact ⟨ws, [], rfl, HV.out, HT0, H4⟩
    case round =>
      clear H4 HT0
      obtain ⟨left, out, rfl, hv, HT, H⟩ := hrel
      have HV2 := Go.Lib.hid hv
      obtain ⟨-, t2, -⟩ := mWatched_parts hv
      have t0 := mWatched_len hv
      have HU := Go.Lib.hid (show ∀ r ∈ left, 0 ≤ r from fun r hr => (usedB_parts (t2 r hr)).1)
      clear hv t2
      have hol : out.length ≤ 40 := by
        have h1 := congrArg List.length HT.out
        rw [List.length_append, HF.out] at h1
        have := HL.out
        omega
      obtain ⟨A6, c6, rfl, hr6⟩ := H.formI 0 rfl
      obtain ⟨A5, c5, rfl, -⟩ := H.formI 1 rfl
      obtain ⟨a0, a1, -, -⟩ := H.box2 2 rfl
      go_wp2_with fail
      refine (ready_any _ _ _ _ h _ _ _ left (hh'.below H.below) hr6 (by omega) (by omega) HU.out).mono ?_
      rintro e w3 ⟨v3, rfl, ho3, hb3⟩
      have H5 := H.madeI ho3 hb3
      clear H ho3 hb3 hr6 a0 a1
      cases hrd : readyL h left with
      | nil =>
        rw [hrd] at H5
        have HE : Hid (out = mFinalOrder h ws) := Go.Lib.hid (by rw [← HT.out, finN_none hrd, List.append_nil])
        obtain ⟨A7, c7, rfl, -⟩ := H5.formI 0 rfl
        clear hrd
        go_wp2
        go_ret
        rw [← HE.out]
        exact H5.toI 2 rfl
      | cons x xs =>
        have hxm := (ready_mem (h := h) (L := left) (x := x) (by rw [hrd]; simp)).1
        have hlt := Go.Lib.hid (filter_out hxm)
        have HN := mid HT.out (finN_step hrd)
        have HN' := Go.Lib.hid HN
        rw [hrd] at H5
        have HV3 := Go.Lib.hid (mWatched_filter (fun y => y != x) HV2.out)
        obtain ⟨g7, c7, rfl, hc1, hc2, hg1, hg2⟩ := H5.rowAt 0 rfl (by simp)
        have hc1' : xs.length + 1 ≤ c7 := by simpa using hc1
        simp only [List.length_cons] at H5
        obtain ⟨z0, zf⟩ := H5.elem 0 rfl (j := 0) (u := .int .i64 x) rfl
        have H6 := H5.alloc (.cells #[.int .i64 x] 3)
        have i1 : (0 : Nat) < xs.length + 1 := by omega
        have e7 : (((xs.length + 1 : Nat) : Int) == 0) = false := by simp; omega
        have e8 : (((xs.length : Nat) : Int) + 1 == 0) = false := by simp; omega
        clear hrd HN hc1
        go_wp2_with (at_builtin; go_loud (refine wpList_pushO rfl (.tmp 25) (.tmp 29) rfl H6 2 rfl rfl rfl (rdI_new _ _ _ (by simp)) (by omega) ?_; intro A9 k9 w9 H7))
        have H8 := H7.litI [] zero_le_maxLen
        simp only [List.set_cons_zero, List.set_cons_succ, List.eraseIdx_cons_zero, List.eraseIdx_cons_succ, List.drop_succ_cons, List.drop_zero, List.take_succ_cons, List.take_zero, List.length_append, List.length_cons, List.length_nil, List.nil_append, Nat.zero_add, World.size_alloc] at H8
        have HK7 := Go.Lib.hid hc1'
        clear H5 H6 H7 z0 zf e7 e8 i1 hc2 hg1 hg2
        go_loopw [8, 34] (fun v8 i wr => ∃ j : Nat, i = .int .i64 j ∧ j ≤ left.length ∧ Owns w.heap.size w wr [.ints v8 ((left.take j).filter fun y => y != x), .row 3 1 (.slice (some ⟨g7, 0, none⟩) (xs.length + 1) c7) (xs.length + 1) ((x :: xs).map (Value.int .i64)), .ints (.slice A6 left.length c6) left, .ints (.slice A9 (out.length + 1) k9) (out ++ [x]), .box w.heap.size [.slice D m d, .slice D' m' d'] 26]) (fun _ i _ => left.length - (intOf i).toNat)
        case atStart => exact ⟨0, rfl, Nat.zero_le _, H8⟩
        case round =>
          clear H8
          obtain ⟨j, rfl, hj, H⟩ := hrel
          by_cases hltj : j < left.length
          · obtain ⟨g, cc, e0, hc1, hc2, hg1, hg2⟩ := H.rowAt 2 rfl (by omega)
            injection e0 with e0 _ e3
            subst e0 e3
            obtain ⟨y, hy0⟩ : ∃ y, left[j]? = some y := ⟨left[j], List.getElem?_eq_getElem hltj⟩
            have hy := Go.Lib.hid hy0
            obtain ⟨u0, uf⟩ := H.elem 2 rfl (j := j) (u := .int .i64 y) (by rw [List.getElem?_map, hy0]; rfl)
            obtain ⟨z0, zf⟩ := H.elem 1 rfl (j := 0) (u := .int .i64 x) rfl
            have i1 : (0 : Nat) < xs.length + 1 := by omega
            have E1 := filter_succ (p := fun y => y != x) hy
            have hlen : ((left.take j).filter fun y => y != x).length ≤ 40 := Nat.le_trans filter_len t0
            obtain ⟨C6, k6, rfl, -⟩ := H.formI 0 rfl
            clear hy0
            by_cases hyx : y = x
            · subst hyx
              simp only [bne_self_eq_false, Bool.false_eq_true, if_false, List.append_nil] at E1
              have HX := Go.Lib.hid E1
              clear E1
              go_wp2
              go_roundw
              case rel => exact ⟨j + 1, by go_num, by omega, by rw [HX.out]; exact H⟩
              case measure => simp [intOf]; omega
            · have e1 : (y != x) = true := by simp [hyx]
              simp only [e1, if_true] at E1
              generalize ((left.take j).filter fun y => y != x) = X at *
              have HX := Go.Lib.hid E1
              have H4 := H.alloc (.cells #[.int .i64 y] 3)
              clear E1 hyx
              go_wp2_with (at_builtin; go_loud (refine wpList_pushO rfl (.tmp 43) (.tmp 45) rfl H4 0 rfl rfl rfl (rdI_new _ _ _ (by simp)) (by omega) ?_; intro A8 k8 w8 H5))
              simp only [List.set_cons_zero, List.set_cons_succ, List.eraseIdx_cons_zero, List.eraseIdx_cons_succ, List.drop_succ_cons, List.drop_zero, List.take_succ_cons, List.take_zero, List.length_append, List.length_cons, List.length_nil, List.nil_append, Nat.zero_add, World.size_alloc] at H5
              go_roundw
              case rel => exact ⟨j + 1, by go_num, by omega, by rw [HX.out]; exact H5⟩
              case measure => simp [intOf]; omega
          · rw [List.take_of_length_le (by omega)] at H
            have H9 : Owns w.heap.size w wr [.ints u8 (left.filter fun y => y != x), .ints (.slice A9 (out.length + 1) k9) (out ++ [x]), .box w.heap.size [.slice D m d, .slice D' m' d'] 26] := H.order [0, 3, 4] (by decide) rfl
            clear H
            go_wp2
            go_roundg (left.filter fun y => y != x).length
            case measure => exact hlt.out
            case rel => exact ⟨_, _, rfl, HV3.out, HN', H9⟩
set_option maxHeartbeats 3200000 in
theorem specFinalOrder_any (w : World) (B B' : Nat) (v : Value) (h : Hp) (A : Option Addr) (n c : Nat) (ws : List Int) (hh : RdH w B v h) (hr : RdI w B' A n c ws) :
    Calls Try.prog 10 #[v, .slice A n c] w (MadeI w (mFinalOrder h ws)) := by
  have hh' := hh.top
  have hr := hr.top
  obtain ⟨D, m, d, D', m', d', rfl, hC, hR⟩ := hh.top
  have H1 := ((Owns.nil w).box [.slice D m d, .slice D' m' d'] 26).litI [] zero_le_maxLen
  simp only [List.set_cons_zero, List.set_cons_succ, List.eraseIdx_cons_zero, List.eraseIdx_cons_succ, List.drop_succ_cons, List.drop_zero, List.take_succ_cons, List.take_zero, List.length_append, List.length_cons, List.length_nil, List.nil_append, Nat.zero_add, World.size_alloc] at H1
  obtain ⟨a0, a1, -, -⟩ := H1.box2 1 rfl
  go_enter Try.func10, Try.ntmps10
  go_wp2_with fail
  refine (specWatchedValid_any _ _ _ _ h _ _ _ ws (hh'.below H1.below) (hr.below H1.below)).mono ?_
  rintro e w1 ⟨rfl, hb1⟩
  have H2 := H1.call hb1
  clear H1 hb1 a0 a1
  obtain ⟨a0, a1, -, -⟩ := H2.box2 1 rfl
  cases hy : mWatchedValid h ws
  · have HF := Go.Lib.hid (mFinal_no hy)
    clear hy
    go_wp2
    go_ret
    rw [HF.out]
    exact H2.toI 0 rfl
  · have s0 := mWatched_len hy
    obtain ⟨s1, s2, -⟩ := mWatched_parts hy
    have HF := Go.Lib.hid (mFinal_yes hy)
    have HL := Go.Lib.hid (finN_len h ws.length ws)
    have HV := Go.Lib.hid (mWatched_filter (lostB h) hy)
    have HLo : ∀ r ∈ ws.filter (lostB h), lostB h r = true := fun r hr => (List.mem_filter.1 hr).2
    have HT0 : Hid ([] ++ finN h (ws.filter (lostB h)).length (ws.filter (lostB h)) = mFinalOrder h ws) := Go.Lib.hid (by rw [HF.out, finN_lost h ws.length _ ws (Nat.le_refl _) (Nat.le_refl _)]; rfl)
    clear hy
    go_wp2_with fail
    refine (l21Watched_any _ _ _ _ h _ _ _ ws (hh'.below H2.below) (hr.below H2.below) s1 s2 (by omega)).mono ?_
    rintro e w2 ⟨vL, rfl, hoL, hb2⟩
    have H3 := H2.madeI hoL hb2
    clear H2 hoL hb2 a0 a1 s1 s2
    go_wp2_with fail
    go_loopg [5, 6] (ws.filter (lostB h)).length (fun gk v5 v6 wr => ∃ (left out : List Int), gk = left.length ∧ mWatchedValid h left = true ∧ (∀ r ∈ left, lostB h r = true) ∧ Hid (out ++ finN h left.length left = mFinalOrder h ws) ∧ Owns w.heap.size w wr [.ints v6 left, .ints v5 out, .box w.heap.size [.slice D m d, .slice D' m' d'] 26])
    case atStart => exact ⟨_, [], rfl, HV.out, HLo, HT0, H3⟩
    case round =>
      clear H3 HT0 HLo HV
      obtain ⟨left, out, rfl, hv, hlo, HT, H⟩ := hrel
      have t0 := mWatched_len hv
      have hol : out.length ≤ 40 := by
        have h1 := congrArg List.length HT.out
        rw [List.length_append, HF.out] at h1
        have := HL.out
        omega
      obtain ⟨A6, c6, rfl, hr6⟩ := H.formI 0 rfl
      obtain ⟨A5, c5, rfl, -⟩ := H.formI 1 rfl
      obtain ⟨a0, a1, -, -⟩ := H.box2 2 rfl
      by_cases hne : left = []
      · subst hne
        have HE : Hid (out = mFinalOrder h ws) := Go.Lib.hid (by rw [← HT.out]; simp [finN])
        clear hv hlo
        go_wp2
        go_ret
        rw [← HE.out]
        exact H.toI 1 rfl
      have hpos : 0 < left.length := List.length_pos_iff.2 hne
      obtain ⟨-, t2, -⟩ := mWatched_parts hv
      have hrs := ready_some hne hlo t2
      obtain ⟨x, xs, hrd⟩ : ∃ x xs, readyL h left = x :: xs := by
        cases hq : readyL h left with
        | nil => exact absurd hq hrs
        | cons x xs => exact ⟨x, xs, rfl⟩
      have hxm := (ready_mem (h := h) (L := left) (x := x) (by rw [hrd]; simp)).1
      have hlt := Go.Lib.hid (filter_out hxm)
      have HN' := Go.Lib.hid (mid HT.out (finN_step hrd))
      have HV3 := Go.Lib.hid (mWatched_filter (fun y => y != x) hv)
      have HLo3 : ∀ r ∈ left.filter (fun y => y != x), lostB h r = true := fun r hr => hlo r (List.mem_filter.1 hr).1
      have HRD : Hid (mReadyCells h left = x :: xs) := Go.Lib.hid ((mReady_yes hv).trans hrd)
      clear hrs hrd hne t2 hv hlo
      go_wp2_with fail
      refine (specReadyCells_any _ _ _ _ h _ _ _ left (hh'.below H.below) hr6).mono ?_
      rintro e w3 ⟨v3, rfl, ho3, hb3⟩
      rw [HRD.out] at ho3
      have H5 := H.madeI ho3 hb3
      clear H ho3 hb3 hr6 a0 a1
      obtain ⟨g7, c7, rfl, hc1, hc2, hg1, hg2⟩ := H5.rowAt 0 rfl (by simp)
      have hc1' : xs.length + 1 ≤ c7 := by simpa using hc1
      simp only [List.length_cons] at H5
      obtain ⟨z0, zf⟩ := H5.elem 0 rfl (j := 0) (u := .int .i64 x) rfl
      have H6 := (H5.drop 1).alloc (.cells #[.int .i64 x] 3)
      simp only [List.drop_succ_cons, List.drop_zero] at H6
      have i1 : (0 : Nat) < xs.length + 1 := by omega
      clear hc1
      go_wp2_with (at_builtin; go_loud (refine wpList_pushO rfl (.tmp 27) (.tmp 29) rfl H6 1 rfl rfl rfl (rdI_new _ _ _ (by simp)) (by omega) ?_; intro A9 k9 w9 H7))
      have H8 := H7.litI [] zero_le_maxLen
      simp only [List.set_cons_zero, List.set_cons_succ, List.eraseIdx_cons_zero, List.eraseIdx_cons_succ, List.drop_succ_cons, List.drop_zero, List.take_succ_cons, List.take_zero, List.length_append, List.length_cons, List.length_nil, List.nil_append, Nat.zero_add, World.size_alloc] at H8
      clear H5 H6 H7 z0 zf i1 hc2 hg1 hg2 hc1'
      go_loopw [8, 9] (fun v8 i wr => ∃ j : Nat, i = .int .i64 j ∧ j ≤ left.length ∧ Owns w.heap.size w wr [.ints v8 ((left.take j).filter fun y => y != x), .ints (.slice A6 left.length c6) left, .ints (.slice A9 (out.length + 1) k9) (out ++ [x]), .box w.heap.size [.slice D m d, .slice D' m' d'] 26]) (fun _ i _ => left.length - (intOf i).toNat)
      case atStart => exact ⟨0, rfl, Nat.zero_le _, H8⟩
      case round =>
        clear H8
        obtain ⟨j, rfl, hj, H⟩ := hrel
        by_cases hltj : j < left.length
        · obtain ⟨g, cc, e0, hc1, hc2, hg1, hg2⟩ := H.rowAt 1 rfl (by omega)
          injection e0 with e0 _ e3
          subst e0 e3
          obtain ⟨y, hy0⟩ : ∃ y, left[j]? = some y := ⟨left[j], List.getElem?_eq_getElem hltj⟩
          have hy := Go.Lib.hid hy0
          obtain ⟨u0, uf⟩ := H.elem 1 rfl (j := j) (u := .int .i64 y) (by rw [List.getElem?_map, hy0]; rfl)
          have E1 := filter_succ (p := fun y => y != x) hy
          have hlen : ((left.take j).filter fun y => y != x).length ≤ 40 := Nat.le_trans filter_len t0
          obtain ⟨C6, k6, rfl, -⟩ := H.formI 0 rfl
          clear hy0
          by_cases hyx : y = x
          · subst hyx
            simp only [bne_self_eq_false, Bool.false_eq_true, if_false, List.append_nil] at E1
            have HX := Go.Lib.hid E1
            clear E1
            go_wp2
            go_roundw
            case rel => exact ⟨j + 1, by go_num, by omega, by rw [HX.out]; exact H⟩
            case measure => simp [intOf]; omega
          · have e1 : (y != x) = true := by simp [hyx]
            simp only [e1, if_true] at E1
            generalize ((left.take j).filter fun y => y != x) = X at *
            have HX := Go.Lib.hid E1
            have H4 := H.alloc (.cells #[.int .i64 y] 3)
            clear E1 hyx
            go_wp2_with (at_builtin; go_loud (refine wpList_pushO rfl (.tmp 44) (.tmp 49) rfl H4 0 rfl rfl rfl (rdI_new _ _ _ (by simp)) (by omega) ?_; intro A8 k8 w8 H5))
            simp only [List.set_cons_zero, List.set_cons_succ, List.eraseIdx_cons_zero, List.eraseIdx_cons_succ, List.drop_succ_cons, List.drop_zero, List.take_succ_cons, List.take_zero, List.length_append, List.length_cons, List.length_nil, List.nil_append, Nat.zero_add, World.size_alloc] at H5
            go_roundw
            case rel => exact ⟨j + 1, by go_num, by omega, by rw [HX.out]; exact H5⟩
            case measure => simp [intOf]; omega
        · rw [List.take_of_length_le (by omega)] at H
          have H9 : Owns w.heap.size w wr [.ints u8 (left.filter fun y => y != x), .ints (.slice A9 (out.length + 1) k9) (out ++ [x]), .box w.heap.size [.slice D m d, .slice D' m' d'] 26] := H.order [0, 2, 3] (by decide) rfl
          clear H
          go_wp2
          go_roundg (left.filter fun y => y != x).length
          case measure => exact hlt.out
          case rel => exact ⟨_, _, rfl, HV3.out, HLo3, HN', H9⟩
end Go.Proofs.Ytpglhmlebcigfaa
