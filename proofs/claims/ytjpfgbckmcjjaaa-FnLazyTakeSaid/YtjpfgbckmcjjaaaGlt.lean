/- The law FnLazyTake's walk. For every code that can be read. -/
import Derived.Test.YtjpfgbckmcjjaaaLr
import Derived.Test.YtjpfgbckmcjjaaaLtI
import Derived.Test.YtjpfgbckmcjjaaaLzS
import Derived.Test.YtjpfgbckmcjjaaaAl
import Derived.Test.YtjpfgbckmcjjaaaVi
namespace Go.Proofs.Ytjpfgbckmcjjaaa
open Go.RowKit
/-- What the law says of a cell that is taken. -/
theorem lt_facts {l : Lz} (h : mLzValid l = true) (q : nxt l.marks l.at_.toNat < l.marks.length) : ∃ k, nxt l.marks l.at_.toNat = k ∧ mTake l = (lzTaken l k, (k : Int)) ∧ k < l.marks.length ∧ l.marks[k]? = some false ∧ (lzTaken l k).store.cells[k]? = some ⟨true, 0, []⟩ ∧ ((mTake (lzTaken l k)).2 = -1 ∨ (k : Int) < (mTake (lzTaken l k)).2) := by
  have V := lzOk_iff.1 h
  refine ⟨_, rfl, mTake_yes h rfl q, q, taken_free rfl q, ?_, take_next h rfl q⟩
  rw [taken_at V rfl q, if_pos rfl]
set_option maxHeartbeats 6400000 in
set_option maxRecDepth 20000 in
theorem lawLazyTake_any (w : World) {A : Option Addr} {n c : Nat} {bs : List Int} (hr : RdY w w.heap.size A n c bs) :
    Calls Try.prog 7 #[.slice A n c] w fun e w' => e = .returned (.bool true) ∧ Below w.heap.size w w' := by
  by_cases s0 : 1048576 < n
  · go_enter Try.func7, Try.ntmps7
    go_wp2
    go_ret
    exact ⟨rfl, Below.refl _ _⟩
  go_enter Try.func7, Try.ntmps7
  go_wp2_with fail
  refine (DrawLazyTake_any w A n c bs hr).mono ?_
  rintro e w1 ⟨l, cv, rvs, rv, mv, rfl, H⟩
  obtain ⟨z, hz⟩ : ∃ z, z = l.at_ := ⟨_, rfl⟩
  have HZ := Go.Lib.hid hz
  rw [← hz]
  clear hz hr s0
  obtain ⟨C, kC, rfl, -⟩ := H.formC 0 rfl
  obtain ⟨R, kR, rfl, -⟩ := H.formI 1 rfl
  obtain ⟨V, kV, rfl, -⟩ := H.formB 2 rfl
  have H1 := H.box [.slice C l.store.cells.length kC, .slice R l.store.roots.length kR, .slice V l.marks.length kV, .int .i64 z] 50
  clear H
  go_wp2_with fail
  refine (implLazyTake_any _ _ _ l (H1.rdZ 1 2 3 rfl rfl rfl HZ.out)).mono ?_
  rintro e w2 ⟨cv2, rvs2, rv2, mv2, rfl, K⟩
  obtain ⟨X, hX⟩ : ∃ X, X = (mTake l).1 := ⟨_, rfl⟩
  obtain ⟨q, hq⟩ : ∃ q, q = (mTake l).2 := ⟨_, rfl⟩
  rw [← hX] at K ⊢
  rw [← hq]
  obtain ⟨z2, hz2⟩ : ∃ z, z = X.at_ := ⟨_, rfl⟩
  have HZ2 := Go.Lib.hid hz2
  rw [← hz2]
  have HXe := Go.Lib.hid hX
  have HQe := Go.Lib.hid hq
  have H2 := H1.merge K
  simp only [List.cons_append, List.nil_append] at H2
  clear H1 K hX hq hz2
  obtain ⟨C2, kC2, rfl, -⟩ := H2.formC 0 rfl
  obtain ⟨R2, kR2, rfl, -⟩ := H2.formI 1 rfl
  obtain ⟨V2, kV2, rfl, -⟩ := H2.formB 2 rfl
  have H3 := H2.box [.slice C2 X.store.cells.length kC2, .slice R2 X.store.roots.length kR2, .slice V2 X.marks.length kV2, .int .i64 z2] 50
  clear H2
  obtain ⟨x0, x1, x2, x3, -, -, -, -⟩ := box4 H3 4 rfl
  go_wp2_with fail
  refine (specLazyTake_any _ _ _ l (H3.rdZ 5 6 7 rfl rfl rfl HZ.out)).mono ?_
  rintro e w3 ⟨cv3, rvs3, rv3, mv3, rfl, K⟩
  rw [← HXe.out] at K ⊢
  rw [← HQe.out, ← HZ2.out]
  have H4 := H3.merge K
  simp only [List.cons_append, List.nil_append] at H4
  clear H3 K x0 x1 x2 x3
  obtain ⟨C3, kC3, rfl, -⟩ := H4.formC 0 rfl
  obtain ⟨R3, kR3, rfl, -⟩ := H4.formI 1 rfl
  obtain ⟨V3, kV3, rfl, -⟩ := H4.formB 2 rfl
  have H5 := H4.box [.slice C3 X.store.cells.length kC3, .slice R3 X.store.roots.length kR3, .slice V3 X.marks.length kV3, .int .i64 z2] 50
  clear H4
  obtain ⟨x0, x1, x2, x3, -, -, -, -⟩ := box4 H5 0 rfl
  obtain ⟨y0, y1, y2, y3, -, -, -, -⟩ := box4 H5 4 rfl
  go_wp2_with fail
  refine (sameLazy_yes _ _ _ _ _ X (H5.rdZ 5 6 7 rfl rfl rfl HZ2.out) (H5.rdZ 1 2 3 rfl rfl rfl HZ2.out)).mono ?_
  rintro e w4 ⟨rfl, hb⟩
  have H6 := ((((H5.call hb).erase 0).erase 0).erase 0).erase 0
  simp only [List.eraseIdx_cons_zero] at H6
  clear H5 hb x0 x1 x2 x3 y0 y1 y2 y3
  obtain ⟨x0, x1, x2, x3, -, -, -, -⟩ := box4 H6 4 rfl
  obtain ⟨y0, y1, y2, y3, -, -, -, -⟩ := box4 H6 0 rfl
  go_wp2_with fail
  refine (specLazyValid_any _ _ _ l (H6.rdZ 5 6 7 rfl rfl rfl HZ.out)).mono ?_
  rintro e w5 ⟨rfl, hb⟩
  have H7 := H6.call hb
  clear H6 hb x0 x1 x2 x3 y0 y1 y2 y3
  obtain ⟨x0, x1, x2, x3, -, -, -, -⟩ := box4 H7 4 rfl
  obtain ⟨y0, y1, y2, y3, -, -, -, -⟩ := box4 H7 0 rfl
  cases hy : mLzValid l
  · have e1 : X = ⟨⟨[], []⟩, [], 0⟩ := by rw [HXe.out, mTake_no hy]
    have e2 : q = -1 := by rw [HQe.out, mTake_no hy]
    clear HXe HQe hy
    subst e1 e2
    simp only [List.length_nil] at H7 y0 y1 y2 y3
    go_wp2_with fail
    refine (alive_any _).mono ?_
    rintro e w8 ⟨rfl, hb⟩
    have HB := (H7.call hb).below
    clear H7 hb x0 x1 x2 x3 y0 y1 y2 y3
    go_wp2
    go_ret
    exact ⟨rfl, HB⟩
  have V1 := lzOk_iff.1 hy
  obtain ⟨hvx, hvv⟩ := take_valid hy
  rw [← HXe.out] at hvx hvv
  have HVx := Go.Lib.hid hvx
  have HO1 := Go.Lib.hid V1.ok
  have HO2 := Go.Lib.hid (lzOk_iff.1 hvx).ok
  have HVv := Go.Lib.hid hvv
  have HVl := Go.Lib.hid hy
  have hm40 := (smz_valid hy).marks
  have hmx40 := (smz_valid hvx).marks
  clear hy V1 hvx hvv
  go_wp2_with fail
  refine (implLazyValid_any _ _ _ X (H7.rdZ 1 2 3 rfl rfl rfl HZ2.out)).mono ?_
  rintro e w6 ⟨rfl, hb⟩
  rw [HVx.out]
  have H8 := H7.call hb
  clear H7 hb x0 x1 x2 x3 y0 y1 y2 y3
  obtain ⟨x0, x1, x2, x3, -, -, -, -⟩ := box4 H8 4 rfl
  obtain ⟨y0, y1, y2, y3, -, -, -, -⟩ := box4 H8 0 rfl
  go_wp2_with fail
  refine (sameView_yes _ _ _ _ _ X.store l.store (H8.rdH 1 2 rfl rfl) (H8.rdH 5 6 rfl rfl) HO2.out HO1.out HVv.out).mono ?_
  rintro e w7 ⟨rfl, hb⟩
  have H9 := H8.call hb
  clear H8 hb x0 x1 x2 x3 y0 y1 y2 y3
  obtain ⟨x0, x1, x2, x3, -, -, -, -⟩ := box4 H9 4 rfl
  obtain ⟨y0, y1, y2, y3, -, -, -, -⟩ := box4 H9 0 rfl
  by_cases hlt : nxt l.marks l.at_.toNat < l.marks.length
  rotate_left
  · have e1 : X = lzSpent l := by rw [HXe.out, mTake_end HVl.out hlt]
    have e2 : q = -1 := by rw [HQe.out, mTake_end HVl.out hlt]
    have e3 : X.store = l.store := by rw [e1]; rfl
    have e4 : z2 = (X.marks.length : Int) := by rw [HZ2.out, e1]; rfl
    have HE3 := Go.Lib.hid e3
    clear HXe HQe hlt HVl e1 e3 HVx HZ2
    subst e2 e4
    go_wp2_with fail
    refine (sameHeap_yes _ _ _ _ _ l.store (by rw [← HE3.out]; exact H9.rdH 1 2 rfl rfl) (H9.rdH 5 6 rfl rfl)).mono ?_
    rintro e w8 ⟨rfl, hb⟩
    have HB := (H9.call hb).below
    clear H9 hb x0 x1 x2 x3 y0 y1 y2 y3
    go_wp2
    go_ret
    exact ⟨rfl, HB⟩
  obtain ⟨k, hk, ht, hkl, hmk, hck, hnx⟩ := lt_facts HVl.out hlt
  have e1 : X = lzTaken l k := by rw [HXe.out, ht]
  have e2 : q = (k : Int) := by rw [HQe.out, ht]
  rw [← e1] at hck hnx
  clear HXe HQe hlt HVl ht hk e1
  subst e2
  obtain ⟨Y, hY⟩ : ∃ Y, Y = (mTake X).1 := ⟨_, rfl⟩
  obtain ⟨p, hp⟩ : ∃ p, p = (mTake X).2 := ⟨_, rfl⟩
  rw [← hp] at hnx
  have HHmk := Go.Lib.hid hmk
  have HHck := Go.Lib.hid hck
  have HYe := Go.Lib.hid hY
  have HPe := Go.Lib.hid hp
  have k0 : ¬ (k : Int) < 0 := by omega
  have k1 : (0 : Int) ≤ (k : Int) := by omega
  have k2 : (k : Int) < (l.marks.length : Int) := by omega
  clear hmk hck hY hp
  go_wp2_with fail
  refine (implLazyTake_any _ _ _ X (H9.rdZ 1 2 3 rfl rfl rfl HZ2.out)).mono ?_
  rintro e w8 ⟨cv8, rvs8, rv8, mv8, rfl, K⟩
  rw [← HYe.out] at K ⊢
  rw [← HPe.out]
  have HA := H9.merge K
  simp only [List.cons_append, List.nil_append] at HA
  clear H9 K x0 x1 x2 x3 y0 y1 y2 y3
  obtain ⟨z8, hz8⟩ : ∃ z, z = Y.at_ := ⟨_, rfl⟩
  rw [← hz8]
  clear hz8
  obtain ⟨C8, kC8, rfl, -⟩ := HA.formC 0 rfl
  obtain ⟨R8, kR8, rfl, -⟩ := HA.formI 1 rfl
  obtain ⟨V8, kV8, rfl, -⟩ := HA.formB 2 rfl
  obtain ⟨gx, cX, Ax, cx, eX, -, c0, c1, c2, -, -, -, -, -⟩ := HA.cellW 4 rfl HHck
  simp only [Value.slice.injEq] at eX
  obtain ⟨rfl, -, rfl⟩ := eX
  obtain ⟨gV, cV, eV, -, -, -, -⟩ := HA.rowAt 10 rfl (by omega)
  simp only [Value.slice.injEq, true_and] at eV
  obtain ⟨rfl, rfl⟩ := eV
  have hkx := (List.getElem?_eq_some_iff.1 HHck.out).1
  have k3 : (k : Int) < (X.store.cells.length : Int) := by omega
  have HA2 := HA.box [.slice C8 Y.store.cells.length kC8, .slice R8 Y.store.roots.length kR8, .slice V8 Y.marks.length kV8, .int .i64 z8] 50
  obtain ⟨x0, x1, x2, x3, -, -, -, -⟩ := box4 HA2 8 rfl
  obtain ⟨y0, y1, y2, y3, -, -, -, -⟩ := box4 HA2 4 rfl
  obtain ⟨m0, -⟩ := HA2.elem 11 rfl (j := k) (u := .bool false) (by rw [List.getElem?_map, HHmk.out]; rfl)
  have HHB := HA2.below
  replace c0 := keept c0 (below_alloc _ (.cells #[.slice C8 Y.store.cells.length kC8, .slice R8 Y.store.roots.length kR8, .slice V8 Y.marks.length kV8, .int .i64 z8] 50))
  clear HA HA2 c1 c2
  rcases hnx with rfl | hnx
  · go_wp2
    go_ret
    exact ⟨rfl, HHB⟩
  · have n1 : p ≠ -1 := by omega
    have n2 : (p == (-1 : Int)) = false := by simp; omega
    have n3 : decide ((k : Int) < p) = true := decide_eq_true hnx
    go_wp2
    go_ret
    exact ⟨rfl, HHB⟩
end Go.Proofs.Ytjpfgbckmcjjaaa
