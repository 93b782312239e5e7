/- ClearWeak, the program's and the reference's: both make mClearWeak, for every heap and list that can be read. -/
import Derived.Test.YtjpfgbckmcjjaaaWk
import Derived.Test.YtjpfgbckmcjjaaaRe
import Derived.Test.YtjpfgbckmcjjaaaClo
namespace Go.Proofs.Ytjpfgbckmcjjaaa
open Go.RowKit
noncomputable def clr (cs : List Cel) (fr : List Int) (r : Int) : Int := if 0 ≤ r ∧ reachB cs fr r.toNat = false then -1 else r
noncomputable def mClearWeak (h : Hp) (ws : List Int) : List Int := if mWeakValid h ws then ws.map (clr h.cells h.roots) else []
theorem mClear_no {h : Hp} {ws : List Int} (h0 : mWeakValid h ws = false) : mClearWeak h ws = [] := by simp [mClearWeak, h0]
theorem mClear_yes {h : Hp} {ws : List Int} (h0 : mWeakValid h ws = true) : mClearWeak h ws = ws.map (clr h.cells h.roots) := by simp [mClearWeak, h0]
theorem mWeak_parts {h : Hp} {ws : List Int} (h0 : mWeakValid h ws = true) : heapOk h = true ∧ ws.length ≤ 40 ∧ ∀ r ∈ ws, leadsB h.cells r = true := by
  simp only [mWeakValid, Bool.and_eq_true, decide_eq_true_eq, List.all_eq_true] at h0
  exact ⟨h0.1.1, h0.1.2, h0.2⟩
theorem map_snoc' {f : Int → Int} {ws : List Int} {k : Nat} {x : Int} (h : Hid (ws[k]? = some x)) : (ws.take (k + 1)).map f = (ws.take k).map f ++ [f x] := by
  rw [take_snoc' h, List.map_append]; rfl
theorem map_turn {f : Int → Int} {ws : List Int} {k : Nat} {x : Int} (h : Hid (ws[k]? = some x)) : ((ws.take k).map f ++ ws.drop k).set k (f x) = (ws.take (k + 1)).map f ++ ws.drop (k + 1) := by
  obtain ⟨hk, rfl⟩ := List.getElem?_eq_some_iff.1 h.out
  have hl : ((ws.take k).map f).length = k := by simp; omega
  rw [map_snoc' h, List.set_append_right _ _ (by omega), hl, Nat.sub_self, List.drop_eq_getElem_cons hk, List.set_cons_zero, List.append_assoc]; rfl
theorem map_here {f : Int → Int} {ws : List Int} {k : Nat} {x : Int} (h : Hid (ws[k]? = some x)) : ((ws.take k).map f ++ ws.drop k)[k]? = some x := by
  obtain ⟨hk, rfl⟩ := List.getElem?_eq_some_iff.1 h.out
  have hl : ((ws.take k).map f).length = k := by simp; omega
  rw [List.getElem?_append_right (by omega), hl, Nat.sub_self, List.drop_eq_getElem_cons hk]; rfl
theorem set_same {α : Type} {l : List α} {k : Nat} {x : α} (h : Hid (l[k]? = some x)) : l.set k x = l := by
  obtain ⟨hk, rfl⟩ := List.getElem?_eq_some_iff.1 h.out
  exact List.set_getElem_self hk
theorem map_len {f : Int → Int} {ws : List Int} {k : Nat} : ((ws.take k).map f ++ ws.drop k).length = ws.length := by simp; omega
set_option maxHeartbeats 1600000 in
theorem specClearWeak_any (w : World) (B B' : Nat) (v : Value) (h : Hp) (A : Option Addr) (n c : Nat) (ws : List Int) (hh : RdH w B v h) (hr : RdI w B' A n c ws) :
    Calls Try.prog 52 #[v, .slice A n c] w (MadeI w (mClearWeak h ws)) := by
  have hh' := hh.top
  have hr := hr.top
  obtain ⟨D, m, d, D', m', d', rfl, hC, hR⟩ := hh.top
  have hm2 := hr.mx; have hcap2 := hr.cap
  have l1 := RdI.le1 hr; have l2 := RdI.le2 hr
  unfold maxLen at hm2
  have H1 := ((Owns.nil w).box [.slice D m d, .slice D' m' d'] 26).litI [] zero_le_maxLen
  simp only [List.length_nil, World.size_alloc] at H1
  obtain ⟨a0, a1, -, -⟩ := H1.box2 1 rfl
  go_enter Try.func52, Try.ntmps52
  go_wp2_with fail
  refine (specReachable_any _ _ _ h (hh'.below H1.below)).mono ?_
  rintro e w1 ⟨vR, rfl, hoR, hb1⟩
  have H2 := H1.madeB hoR hb1
  clear H1 hoR hb1 a0 a1
  cases hy : mWeakValid h ws
  · have HF := Go.Lib.hid (mClear_no hy)
    have HY := Go.Lib.hid hy
    clear hy
    go_wp2_with fail
    go_loopw [5, 7] (fun v i wr => v = .slice (some ⟨w.heap.size + 1, 0, none⟩) 0 0 ∧ i = .int .i64 0 ∧ Owns w.heap.size w wr [.bools vR (mReachable h), .ints (.slice (some ⟨w.heap.size + 1, 0, none⟩) 0 0) [], .box w.heap.size [.slice D m d, .slice D' m' d'] 26]) (fun _ _ _ => 0)
    case atStart => exact ⟨rfl, rfl, H2⟩
    case round =>
      clear H2
      obtain ⟨rfl, rfl, H⟩ := hrel
      obtain ⟨a0, a1, -, -⟩ := H.box2 2 rfl
      by_cases hn : 0 < n
      · go_wp2_with fail
        refine (specWeakValid_any _ _ _ _ h _ _ _ ws (hh'.below H.below) (hr.below H.below)).mono ?_
        rintro e w2 ⟨rfl, hb2⟩
        have H3 := H.call hb2
        rw [HY.out]
        clear H a0 a1
        go_wp2
        go_ret
        rw [HF.out]
        exact H3.toI 1 rfl
      · go_wp2
        go_ret
        rw [HF.out]
        exact H.toI 1 rfl
  · obtain ⟨s1, s2, s3⟩ := mWeak_parts hy
    have HF := Go.Lib.hid (mClear_yes hy)
    have HY := Go.Lib.hid hy
    have HR := Go.Lib.hid (mReachable_yes s1)
    clear hy s1
    go_wp2_with fail
    go_loopw [5, 7] (fun v i wr => ∃ k : Nat, i = .int .i64 k ∧ k ≤ n ∧ Owns w.heap.size w wr [.bools vR (mReachable h), .ints v ((ws.take k).map (clr h.cells h.roots)), .box w.heap.size [.slice D m d, .slice D' m' d'] 26]) (fun _ i _ => n - (intOf i).toNat)
    case atStart => exact ⟨0, rfl, Nat.zero_le _, H2⟩
    case round =>
      clear H2
      obtain ⟨k, rfl, hk, H⟩ := hrel
      obtain ⟨a0, a1, -, -⟩ := H.box2 2 rfl
      by_cases hlt : k < n
      · obtain ⟨b, o, x, rfl, hbb, hx, q1⟩ := RdI.at_ hr hlt
        have hlx := s3 x (List.mem_of_getElem? hx.out)
        have E1 := map_snoc' (f := clr h.cells h.roots) hx
        obtain ⟨C5, k5, rfl, -⟩ := H.formI 1 rfl
        have hlen : ((ws.take k).map (clr h.cells h.roots)).length ≤ 40 := by simp; omega
        generalize (ws.take k).map (clr h.cells h.roots) = X at *
        have HX := Go.Lib.hid E1
        clear E1
        go_wp2_with fail
        refine (specWeakValid_any _ _ _ _ h _ _ _ ws (hh'.below H.below) (hr.below H.below)).mono ?_
        rintro e w2 ⟨rfl, hb2⟩
        have H3 := H.call hb2
        rw [HY.out]
        clear H a0 a1
        have g1 := H3.ro q1 hbb
        by_cases c0 : x < 0
        · have HU : Hid (clr h.cells h.roots x = x) := Go.Lib.hid (by unfold clr; rw [if_neg]; rintro ⟨h1, -⟩; omega)
          have H4 := H3.alloc (.cells #[.int .i64 x] 3)
          go_wp2_with (at_builtin; go_loud (refine wpList_pushO rfl (.tmp 36) (.tmp 38) rfl H4 1 rfl rfl rfl (rdI_new _ _ _ (by simp)) (by omega) ?_; intro A3 k3 w3 H5))
          simp only [List.set_cons_zero, List.set_cons_succ, List.length_append, List.length_cons, List.length_nil, Nat.zero_add] at H5
          go_roundw
          case rel => exact ⟨k + 1, by go_num, by omega, by rw [HX.out, HU.out]; exact H5⟩
          case measure => simp [intOf]; omega
        obtain ⟨q, rfl⟩ := Int.eq_ofNat_of_zero_le (by omega : 0 ≤ x)
        have hqm : q < h.cells.length := by have := usedN_lt (leadsB_used hlx (by omega)); simpa using this
        have hqr : (mReachable h)[q]? = some (reachB h.cells h.roots q) := by rw [HR.out]; exact reachL_at hqm
        have hql : q < (mReachable h).length := (List.getElem?_eq_some_iff.1 hqr).1
        obtain ⟨g, cc, rfl, hc1, hc2, hg1, hg2⟩ := H3.rowAt 0 rfl (by omega)
        obtain ⟨z0, zf⟩ := H3.elem 0 rfl (j := q) (u := .bool (reachB h.cells h.roots q)) (by rw [List.getElem?_map, hqr]; rfl)
        clear hqr
        cases hrb : reachB h.cells h.roots q
        · rw [hrb] at z0
          have HU : Hid (clr h.cells h.roots (q : Int) = -1) := Go.Lib.hid (by unfold clr; rw [if_pos]; exact ⟨by omega, by simpa using hrb⟩)
          have H4 := H3.alloc (.cells #[.int .i64 (-1)] 3)
          clear hrb
          go_wp2_with (at_builtin; go_loud (refine wpList_pushO rfl (.tmp 36) (.tmp 38) rfl H4 1 rfl rfl rfl (rdI_new _ _ _ (by simp)) (by omega) ?_; intro A3 k3 w3 H5))
          simp only [List.set_cons_zero, List.set_cons_succ, List.length_append, List.length_cons, List.length_nil, Nat.zero_add] at H5
          go_roundw
          case rel => exact ⟨k + 1, by go_num, by omega, by rw [HX.out, HU.out]; exact H5⟩
          case measure => simp [intOf]; omega
        · rw [hrb] at z0
          have HU : Hid (clr h.cells h.roots (q : Int) = q) := Go.Lib.hid (by unfold clr; rw [if_neg]; rintro ⟨-, h1⟩; simp [hrb] at h1)
          have H4 := H3.alloc (.cells #[.int .i64 q] 3)
          clear hrb
          go_wp2_with (at_builtin; go_loud (refine wpList_pushO rfl (.tmp 36) (.tmp 38) rfl H4 1 rfl rfl rfl (rdI_new _ _ _ (by simp)) (by omega) ?_; intro A3 k3 w3 H5))
          simp only [List.set_cons_zero, List.set_cons_succ, List.length_append, List.length_cons, List.length_nil, Nat.zero_add] at H5
          go_roundw
          case rel => exact ⟨k + 1, by go_num, by omega, by rw [HX.out, HU.out]; exact H5⟩
          case measure => simp [intOf]; omega
      · rw [List.take_of_length_le (by omega)] at H
        go_wp2
        go_ret
        rw [HF.out]
        exact H.toI 1 rfl
set_option maxHeartbeats 1600000 in
theorem implClearWeak_any (w : World) (B B' : Nat) (v : Value) (h : Hp) (A : Option Addr) (n c : Nat) (ws : List Int) (hh : RdH w B v h) (hr : RdI w B' A n c ws) :
    Calls Try.prog 50 #[v, .slice A n c] w (MadeI w (mClearWeak h ws)) := by
  have hh' := hh.top
  have hr := hr.top
  obtain ⟨D, m, d, D', m', d', rfl, hC, hR⟩ := hh.top
  have hm2 := hr.mx; have hcap2 := hr.cap
  have l1 := RdI.le1 hr; have l2 := RdI.le2 hr
  unfold maxLen at hm2
  have H1 := (Owns.nil w).box [.slice D m d, .slice D' m' d'] 26
  go_enter Try.func50, Try.ntmps50
  go_wp2_with fail
  refine (implWeakValid_any _ _ _ _ h _ _ _ ws (hh'.below H1.below) (hr.below H1.below)).mono ?_
  rintro e w1 ⟨rfl, hb1⟩
  have H2 := H1.call hb1
  obtain ⟨a0, a1, -, -⟩ := H2.box2 0 rfl
  clear H1 hb1
  cases hy : mWeakValid h ws
  · have HF := Go.Lib.hid (mClear_no hy)
    clear hy
    go_wp2
    go_ret
    rw [HF.out]
    exact H2.noInts.toI 0 rfl
  · obtain ⟨s1, s2, s3⟩ := mWeak_parts hy
    obtain ⟨s4, s5⟩ := heapOk_small s1
    have HF := Go.Lib.hid (mClear_yes hy)
    clear hy s1
    have hml := closM_lt h.cells (usedM h.cells) h.roots
    have HM := Go.Lib.hid hml
    clear hml
    go_wp2_with fail
    refine (reachable_any _ _ _ h (hh'.below H2.below) (by omega)).mono ?_
    rintro e w2 ⟨rfl, hb2⟩
    have H3 := H2.call hb2
    clear a0 a1 H2
    go_wp2_with fail
    refine (clone_any _ _ A n c ws (hr.below H3.below) (by omega)).mono ?_
    rintro e w3 ⟨v3, rfl, ho3, hb3⟩
    have H4 := H3.madeI ho3 hb3
    obtain ⟨C6, k6, rfl, -⟩ := H4.formI 0 rfl
    have hnl : ws.length = n := by omega
    have H5 : Owns w.heap.size w w3 [.row 3 1 (.slice C6 n k6) n (((ws.take 0).map (clr h.cells h.roots) ++ ws.drop 0).map (Value.int .i64)), .box w.heap.size [.slice D m d, .slice D' m' d'] 26] := by rw [← hnl]; exact H4
    rw [hnl]
    have HN := Go.Lib.hid hnl
    clear H3 H4 ho3 hb3 hnl
    go_wp2_with fail
    go_loopw [19] (fun i wr => ∃ k : Nat, i = .int .i64 k ∧ k ≤ n ∧ Owns w.heap.size w wr [.row 3 1 (.slice C6 n k6) n (((ws.take k).map (clr h.cells h.roots) ++ ws.drop k).map (Value.int .i64)), .box w.heap.size [.slice D m d, .slice D' m' d'] 26]) (fun i _ => n - (intOf i).toNat)
    case atStart => exact ⟨0, rfl, Nat.zero_le _, H5⟩
    case round =>
      clear H5
      obtain ⟨k, rfl, hk, H⟩ := hrel
      by_cases hlt : k < n
      · obtain ⟨g, cc, e0, hc1, hc2, hg1, hg2⟩ := H.rowAt 0 rfl (by omega)
        injection e0 with e0 _ e3
        subst e0 e3
        obtain ⟨x, hx⟩ : ∃ x, ws[k]? = some x := ⟨ws[k]'(by omega), List.getElem?_eq_getElem _⟩
        have HX := Go.Lib.hid hx
        clear hx
        have hlx := s3 x (List.mem_of_getElem? HX.out)
        have hhere := map_here (f := clr h.cells h.roots) HX
        have E1 := map_turn (f := clr h.cells h.roots) HX
        generalize (ws.take k).map (clr h.cells h.roots) ++ ws.drop k = Y at *
        obtain ⟨z0, zf⟩ := H.elem 0 rfl (j := k) (u := .int .i64 x) (by rw [List.getElem?_map, hhere]; rfl)
        have HE := Go.Lib.hid E1
        have HH := Go.Lib.hid hhere
        clear hhere E1
        have hbit : hasB (closM h.cells (usedM h.cells) h.roots) x = (decide (0 ≤ x) && reachB h.cells h.roots x.toNat) := by unfold hasB; rw [closM_used (by omega)]
        cases hb : hasB (closM h.cells (usedM h.cells) h.roots) x
        · have HU : Hid (clr h.cells h.roots x = -1) := Go.Lib.hid (by
            rw [hbit] at hb
            unfold clr
            by_cases c0 : 0 ≤ x
            · rw [if_pos]; simp [c0] at hb; exact ⟨c0, hb⟩
            · rw [if_neg (by simp [c0])]
              have : x < 0 := by omega
              have h1 : x = -1 := by
                have := hlx
                unfold leadsB at this
                simp only [Bool.or_eq_true, Bool.and_eq_true, decide_eq_true_eq, beq_iff_eq] at this
                rcases this with h2 | h2
                · exact h2
                · omega
              exact h1)
          have HB := Go.Lib.hid hb
          have H2 := H.putRow 0 rfl k (.int .i64 (-1))
          simp only [List.set_cons_zero] at H2
          have e2 : (Y.map (Value.int .i64)).set k (.int .i64 (-1)) = (Y.set k (-1)).map (Value.int .i64) := by rw [List.map_set]
          rw [e2, ← HU.out, HE.out, HU.out] at H2
          clear hb hbit e2
          go_wp2_with fail
          refine (has_any _ x _ HM.out).mono ?_
          rintro e w5 ⟨rfl, hw5⟩
          obtain rfl := hw5
          rw [HB.out]
          go_wp2
          go_roundw
          case rel => exact ⟨k + 1, by go_num, by omega, H2⟩
          case measure => simp [intOf]; omega
        · have HU : Hid (clr h.cells h.roots x = x) := Go.Lib.hid (by
            rw [hbit] at hb
            simp only [Bool.and_eq_true, decide_eq_true_eq] at hb
            unfold clr; rw [if_neg]; rintro ⟨-, h1⟩; rw [hb.2] at h1; cases h1)
          have HB := Go.Lib.hid hb
          have e3 : Y.set k x = Y := set_same HH
          clear hb hbit
          go_wp2_with fail
          refine (has_any _ x _ HM.out).mono ?_
          rintro e w5 ⟨rfl, hw5⟩
          obtain rfl := hw5
          rw [HB.out]
          go_wp2
          go_roundw
          case rel => exact ⟨k + 1, by go_num, by omega, by rw [← HE.out, HU.out, e3]; exact H⟩
          case measure => simp [intOf]; omega
      · have HO := Go.Lib.hid H
        clear H
        go_wp2
        go_ret
        have H := HO.out
        rw [List.take_of_length_le (by omega), List.drop_of_length_le (by omega), List.append_nil] at H
        rw [HF.out]
        have ho := H.own 0 rfl
        exact ⟨_, rfl, ⟨by rw [List.length_map, HN.out]; exact ho, fun q e => (ho.lt q e).2⟩, H.below⟩
theorem mClearWeak_len (h : Hp) (ws : List Int) : (mClearWeak h ws).length ≤ 1048576 := by
  unfold mClearWeak
  split
  · rename_i h0
    obtain ⟨-, h1, -⟩ := mWeak_parts h0
    rw [List.length_map]; omega
  · simp
end Go.Proofs.Ytjpfgbckmcjjaaa
