/- A heap and a base drawn from a code; the law FnImageView's walk: the image of a copy shows the same. For every code that can be read. -/
import Derived.Test.YtjpfgbckmcjjaaaGs
import Derived.Test.YtjpfgbckmcjjaaaVg
namespace Go.Proofs.Ytjpfgbckmcjjaaa
open Go.RowKit
theorem sum_erase (f : Int → Nat) {a : Int} : ∀ m : List Int, a ∈ m → (m.map f).sum = f a + ((m.erase a).map f).sum
  | [], h => by simp at h
  | x :: m, h => by
    by_cases e : x = a
    · subst e; simp
    · have hm : a ∈ m := by
        rcases List.mem_cons.1 h with h | h
        · exact absurd h.symm e
        · exact h
      rw [List.erase_cons_tail (by simpa using e)]
      simp only [List.map_cons, List.sum_cons]
      have := sum_erase f m hm
      omega
theorem sub_sum (f : Int → Nat) : ∀ (l m : List Int), l.Nodup → (∀ x ∈ l, x ∈ m) → (l.map f).sum ≤ (m.map f).sum
  | [], m, _, _ => by simp
  | a :: l, m, hd, h => by
    rw [List.nodup_cons] at hd
    have h1 := sub_sum f l (m.erase a) hd.2 fun x hx => by
      have hne : x ≠ a := fun e => hd.1 (e ▸ hx)
      rw [List.mem_erase_of_ne hne]
      exact h x (by simp [hx])
    rw [sum_erase f m (h a (by simp)), List.map_cons, List.sum_cons]
    omega
theorem sum_cells (w : Cel → Nat) (cs : List Cel) : (((List.range cs.length).map fun i : Nat => (i : Int)).map fun c => w (cel cs c)).sum = (cs.map w).sum := by
  congr 1
  apply List.ext_getElem?
  intro i
  rw [List.getElem?_map, List.getElem?_map, List.getElem?_map]
  rcases Nat.lt_or_ge i cs.length with h | h
  · rw [List.getElem?_range h, List.getElem?_eq_getElem h]
    show some (w (cel cs (i : Int))) = _
    rw [cel_at (Go.Lib.hid (List.getElem?_eq_getElem h))]; rfl
  · rw [List.getElem?_eq_none (by simpa using h), List.getElem?_eq_none h]; rfl
theorem copy_save_len {h : Hp} (h0 : heapOk h = true) (b : Int) : (saveAll (mCopy h) b).length ≤ (saveAll h b).length := by
  have h1 := sub_sum (fun c => (saveCell b (cel h.cells c)).length) (ordH h) ((List.range h.cells.length).map fun i : Nat => (i : Int)) (ordH_nodup h) fun x hx => by
    have hr := ordH_reach h0 x hx
    have := reach_lt hr
    exact List.mem_map.2 ⟨x.toNat, List.mem_range.2 (by have := hr.1; omega), by have := hr.1; omega⟩
  rw [sum_cells (fun c => (saveCell b c).length)] at h1
  have e : (mCopy h).cells.flatMap (saveCell b) = (ordH h).flatMap fun c => saveCell b (copyCel h (ordH h) c) := by
    rw [mCopy_yes h0]
    show ((ordH h).map (copyCel h (ordH h))).flatMap (saveCell b) = _
    rw [List.flatMap_map]
  have e2 : ((ordH h).map fun c => (saveCell b (copyCel h (ordH h) c)).length) = (ordH h).map fun c => (saveCell b (cel h.cells c)).length := by
    refine List.map_congr_left fun c hc => ?_
    have hu := (rchI_cel h0 (ordH_reach h0 c hc)).1
    unfold saveCell
    rw [if_pos hu]
    simp [copyCel]
  have e3 : (mCopy h).roots.length = h.roots.length := by rw [mCopy_yes h0]; simp [gath]
  unfold saveAll
  simp only [List.length_cons, List.length_append, List.length_map, e, e3]
  rw [List.length_flatMap, List.length_flatMap, e2]
  omega
theorem save_some {h : Hp} {b : Int} (hl : (mSaveImage h b).length ≠ 0) : heapOk h = true ∧ 0 ≤ b ∧ b ≤ 10000 := by
  unfold mSaveImage at hl
  split at hl
  · rename_i k
    simp only [baseOk, Bool.and_eq_true, decide_eq_true_eq] at k
    exact ⟨k.1, k.2.1, k.2.2⟩
  · simp at hl
set_option maxHeartbeats 6400000 in
set_option maxRecDepth 20000 in
theorem lawImageView_any (w : World) {A : Option Addr} {n c : Nat} {bs : List Int} (hr : RdY w w.heap.size A n c bs) :
    Calls Try.prog 5 #[.slice A n c] w fun e w' => e = .returned (.bool true) ∧ Below w.heap.size w w' := by
  by_cases s0 : 1048576 < n
  · go_enter Try.func5, Try.ntmps5
    go_wp2
    go_ret
    exact ⟨rfl, Below.refl _ _⟩
  go_enter Try.func5, Try.ntmps5
  go_wp2_with fail
  refine (DrawSaveImage_any w A n c bs hr).mono ?_
  rintro e w1 ⟨T, cv, rvs, rv, rv0, rs0, b, rfl, hS, ht, hb0, hb1, H1⟩
  obtain ⟨C, kC, rfl, -⟩ := H1.formC 0 rfl
  obtain ⟨R0, kR0, e0, -⟩ := H1.formI 1 rfl
  obtain ⟨R, nR, kR, rfl⟩ := ht.form e0
  have HT := Go.Lib.hid ht
  clear e0 ht hS hr s0
  have H := H1.box [.slice C T.cells.length kC, .slice R nR kR] 26
  clear H1
  obtain ⟨x0, x1, -, -⟩ := H.box2 0 rfl
  go_wp2_with fail
  refine (implSaveImage_any _ _ _ T b (H.rdHx 1 2 rfl rfl HT.out) (by unfold I64; omega)).mono ?_
  rintro e w2 ⟨v2, rfl, ho2, hb2⟩
  obtain ⟨X, hX⟩ : ∃ X, X = mSaveImage T b := ⟨_, rfl⟩
  rw [← hX] at ho2
  have HXe := Go.Lib.hid hX
  clear hX
  have H2 := H.madeI ho2 hb2
  clear H ho2 hb2 x0 x1
  obtain ⟨A2, k2, rfl, -⟩ := H2.formI 0 rfl
  obtain ⟨x0, x1, -, -⟩ := H2.box2 1 rfl
  go_wp2_with fail
  refine (specSaveImage_any _ _ _ T b (H2.rdHx 2 3 rfl rfl HT.out) (by unfold I64; omega)).mono ?_
  rintro e w3 ⟨v3, rfl, ho3, hb3⟩
  rw [← HXe.out] at ho3
  have H3 := H2.madeI ho3 hb3
  clear H2 ho3 hb3 x0 x1
  obtain ⟨A3, k3, rfl, -⟩ := H3.formI 0 rfl
  go_wp2_with fail
  refine (sameInts_yes _ _ _ _ _ _ _ _ _ X (H3.owI 1 rfl).rdI (H3.owI 0 rfl).rdI).mono ?_
  rintro e w4 ⟨rfl, hb4⟩
  have H4 := (H3.call hb4).erase 0
  simp only [List.eraseIdx_cons_zero] at H4
  clear H3 hb4
  by_cases h0 : X.length = 0
  · obtain rfl : X = [] := List.length_eq_zero_iff.1 h0
    clear h0
    go_wp2_with fail
    refine (alive_any _).mono ?_
    rintro e w8 ⟨rfl, hb⟩
    have HB := (H4.call hb).below
    clear H4 hb
    go_wp2
    go_ret
    exact ⟨rfl, HB⟩
  · obtain ⟨s1, s2, s3⟩ := save_some (h := T) (b := b) (by rw [← HXe.out]; exact h0)
    have c1 := copy_ok s1
    have c2 := copy_view s1
    have c3 := copy_save_len s1 b
    rw [← mSave_yes s1 s2 s3, ← HXe.out] at c3
    obtain ⟨Z, hZ⟩ : ∃ Z, Z = mCopy T := ⟨_, rfl⟩
    rw [← hZ] at c1 c2 c3
    rw [← mSave_yes c1 s2 s3] at c3
    have HZe := Go.Lib.hid hZ
    obtain ⟨Y, hY⟩ : ∃ Y, Y = mSaveImage Z b := ⟨_, rfl⟩
    rw [← hY] at c3
    have hYl : 0 < Y.length := by rw [hY, mSave_yes c1 s2 s3]; simp [saveAll]
    have hi := img_of_save (h := Z) (b := b) hY.symm hYl
    obtain ⟨e1, e2⟩ := mLoad_yes hi.yes
    have HL1 : Hid (mLoadH Y = Z) := Go.Lib.hid (e1.trans hi.heap)
    have HL3 := Go.Lib.hid hi.yes
    have HIY : Hid (∀ x ∈ Y, I64 x) := Go.Lib.hid fun x hx => by have := ldOk_in hi.yes x hx; unfold I64; omega
    have HYe := Go.Lib.hid hY
    have HZ1 := Go.Lib.hid c1
    have HZ2 := Go.Lib.hid s1
    have HZ3 := Go.Lib.hid c2
    have hle : (Y.length : Int) ≤ (X.length : Int) := by omega
    clear c1 c2 c3 hZ hY hYl hi e1 e2 s1
    obtain ⟨x0, x1, -, -⟩ := H4.box2 1 rfl
    go_wp2_with fail
    refine (implCopyHeap_any _ _ _ T (H4.rdHx 2 3 rfl rfl HT.out) HZ2.out).mono ?_
    rintro e w5 ⟨v5, rfl, ho5, hb5⟩
    rw [← HZe.out] at ho5
    obtain ⟨cv5, rvs5, rv5, rfl, H5⟩ := H4.madeH ho5 hb5
    clear H4 ho5 hb5 x0 x1
    obtain ⟨C5, k5, rfl, -⟩ := H5.formC 0 rfl
    obtain ⟨R5, kR5, rfl, -⟩ := H5.formI 1 rfl
    go_wp2_with fail
    refine (implSaveImage_any _ _ _ Z b (H5.rdH 0 1 rfl rfl) (by unfold I64; omega)).mono ?_
    rintro e w6 ⟨v6, rfl, ho6, hb6⟩
    rw [← HYe.out] at ho6
    have H6 := H5.madeI ho6 hb6
    clear H5 ho6 hb6
    obtain ⟨A6, k6, rfl, -⟩ := H6.formI 0 rfl
    go_wp2_with fail
    refine (implLoadImage_any _ _ _ _ _ Y (H6.owI 0 rfl).rdI HIY.out).mono ?_
    rintro e w7 ⟨cv7, rvs7, rv7, rfl, K⟩
    rw [HL1.out] at K
    rw [HL3.out]
    generalize mLoadB Y = bb at *
    have H7 := H6.merge K
    simp only [List.cons_append, List.nil_append] at H7
    clear H6 K
    obtain ⟨C7, k7, rfl, -⟩ := H7.formC 0 rfl
    obtain ⟨R7, kR7, rfl, -⟩ := H7.formI 1 rfl
    have H8 := H7.box [.slice C7 Z.cells.length k7, .slice R7 Z.roots.length kR7] 26
    clear H7
    obtain ⟨y0, y1, -, -⟩ := H8.box2 0 rfl
    obtain ⟨x0, x1, -, -⟩ := H8.box2 7 rfl
    go_wp2_with fail
    refine (sameView_yes _ _ _ _ _ Z T (H8.rdHx 1 2 rfl rfl (.inl ⟨rfl, rfl⟩)) (H8.rdHx 8 9 rfl rfl HT.out) HZ1.out HZ2.out HZ3.out).mono ?_
    rintro e w8 ⟨rfl, hb8⟩
    have HB := (H8.call hb8).below
    clear H8 hb8 x0 x1 y0 y1
    go_wp2
    go_ret
    exact ⟨rfl, HB⟩
end Go.Proofs.Ytjpfgbckmcjjaaa
