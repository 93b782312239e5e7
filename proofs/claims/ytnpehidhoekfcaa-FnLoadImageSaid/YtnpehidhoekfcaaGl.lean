/- An image drawn from a code; the law FnLoadImage's walk. For every code that can be read. -/
import Derived.Test.YtnpehidhoekfcaaIg
import Derived.Test.YtnpehidhoekfcaaAl
import Derived.Test.YtnpehidhoekfcaaSm
import Derived.Test.YtnpehidhoekfcaaLdS
namespace Go.Proofs.Ytnpehidhoekfcaa
open Go.RowKit
/-- Some numbers of the call's own. -/
def DrawnI (w : World) (e : Ending) (w' : World) : Prop :=
  ∃ (v : Value) (xs : List Int), e = .returned v ∧ (∀ x ∈ xs, I64 x) ∧ xs.length ≤ 300 ∧ Owns w.heap.size w w' [.ints v xs]
set_option maxHeartbeats 1600000 in
set_option maxRecDepth 20000 in
theorem DrawLoadImage_any (w : World) (A : Option Addr) (n c : Nat) (bs : List Int) (hr : RdY w w.heap.size A n c bs) :
    Calls Try.prog 9 #[.slice A n c] w (DrawnI w) := by
  go_enter Try.func9, Try.ntmps9
  go_wp2_with fail
  refine (open_own (Owns.nil w) A n c bs hr).mono ?_
  rintro e w1 ⟨g, A1, n1, c1, bs1, rfl, hU, H1⟩
  clear hr
  go_wp2_with fail
  refine (image_own H1 0 rfl hU (by omega) 3 (by omega) (by omega)).mono ?_
  rintro e w2 ⟨v, xs, p1, rfl, hI, hl, -, -, H2⟩
  simp only [List.set_cons_zero] at H2
  have HS : Hid (DrawnI w (.returned v) w2) := Go.Lib.hid ⟨v, xs, rfl, hI, hl, H2.take 1⟩
  clear H1 H2 hU hI
  go_wp2
  go_ret
  exact HS.out
set_option maxHeartbeats 6400000 in
set_option maxRecDepth 20000 in
theorem lawLoadImage_any (w : World) {A : Option Addr} {n c : Nat} {bs : List Int} (hr : RdY w w.heap.size A n c bs) :
    Calls Try.prog 3 #[.slice A n c] w fun e w' => e = .returned (.bool true) ∧ Below w.heap.size w w' := by
  by_cases s0 : 1048576 < n
  · go_enter Try.func3, Try.ntmps3
    go_wp2
    go_ret
    exact ⟨rfl, Below.refl _ _⟩
  go_enter Try.func3, Try.ntmps3
  go_wp2_with fail
  refine (DrawLoadImage_any w A n c bs hr).mono ?_
  rintro e w1 ⟨v, xs, rfl, hI, hl, H⟩
  obtain ⟨V, kV, rfl, -⟩ := H.formI 0 rfl
  have HI := Go.Lib.hid hI
  clear hI hr s0
  go_wp2_with fail
  refine (implLoadImage_any _ _ _ _ _ xs (H.owI 0 rfl).rdI HI.out).mono ?_
  rintro e w2 ⟨cv2, rvs2, rv2, rfl, K⟩
  have H2 := H.merge K
  simp only [List.cons_append, List.nil_append] at H2
  clear H K
  obtain ⟨C2, k2, rfl, -⟩ := H2.formC 0 rfl
  obtain ⟨R2, kR2, rfl, -⟩ := H2.formI 1 rfl
  have H3 := H2.box [.slice C2 (mLoadH xs).cells.length k2, .slice R2 (mLoadH xs).roots.length kR2] 27
  clear H2
  go_wp2_with fail
  refine (specLoadImage_any _ _ _ _ _ xs (H3.owI 3 rfl).rdI HI.out (by omega)).mono ?_
  rintro e w3 ⟨cv3, rvs3, rv3, rfl, K⟩
  have H4 := H3.merge K
  simp only [List.cons_append, List.nil_append] at H4
  clear H3 K
  obtain ⟨C3, k3, rfl, -⟩ := H4.formC 0 rfl
  obtain ⟨R3, kR3, rfl, -⟩ := H4.formI 1 rfl
  have H5 := H4.box [.slice C3 (mLoadH xs).cells.length k3, .slice R3 (mLoadH xs).roots.length kR3] 27
  clear H4
  obtain ⟨y0, y1, -, -⟩ := H5.box2 0 rfl
  obtain ⟨x0, x1, -, -⟩ := H5.box2 3 rfl
  cases hok : ldOk xs
  · obtain ⟨e1, e2⟩ := mLoad_no hok
    obtain ⟨Z, hZ⟩ : ∃ Z, Z = mLoadH xs := ⟨_, rfl⟩
    rw [← hZ] at H5 x0 x1 y0 y1 e1 ⊢
    rw [e2]
    clear hZ e2 hok
    subst e1
    simp only [List.length_nil] at H5 x0 x1 y0 y1 ⊢
    go_wp2_with fail
    refine (sameHeap_yes _ _ _ _ _ ⟨[], []⟩ (H5.rdHx 4 5 rfl rfl (.inl ⟨rfl, rfl⟩)) (H5.rdHx 1 2 rfl rfl (.inl ⟨rfl, rfl⟩))).mono ?_
    rintro e w4 ⟨rfl, hb4⟩
    have H6 := H5.call hb4
    clear H5 hb4 x0 x1 y0 y1
    obtain ⟨x0, x1, -, -⟩ := H6.box2 3 rfl
    go_wp2_with fail
    refine (alive_any _).mono ?_
    rintro e w8 ⟨rfl, hb⟩
    have HB := (H6.call hb).below
    clear H6 hb x0 x1
    go_wp2
    go_ret
    exact ⟨rfl, HB⟩
  · have hi := ldOk_img hok
    obtain ⟨e1, e2⟩ := mLoad_yes hok
    have hsv : mSaveImage (mLoadH xs) (mLoadB xs) = xs := by rw [e1, e2, mSave_yes hi.ok hi.b0 hi.b1]; exact hi.eq
    have hb0 : 0 ≤ mLoadB xs := by rw [e2]; exact hi.b0
    have hb1 : mLoadB xs ≤ 10000 := by rw [e2]; exact hi.b1
    have HSv := Go.Lib.hid hsv
    obtain ⟨Z, hZ⟩ : ∃ Z, Z = mLoadH xs := ⟨_, rfl⟩
    obtain ⟨b, hb⟩ : ∃ b, b = mLoadB xs := ⟨_, rfl⟩
    rw [← hZ] at H5 x0 x1 y0 y1 HSv ⊢
    rw [← hb] at hb0 hb1 HSv ⊢
    clear hZ hb e1 e2 hi hok hsv
    go_wp2_with fail
    refine (sameHeap_yes _ _ _ _ _ Z (H5.rdHx 4 5 rfl rfl (.inl ⟨rfl, rfl⟩)) (H5.rdHx 1 2 rfl rfl (.inl ⟨rfl, rfl⟩))).mono ?_
    rintro e w4 ⟨rfl, hb4⟩
    have H6 := H5.call hb4
    clear H5 hb4 x0 x1 y0 y1
    obtain ⟨x0, x1, -, -⟩ := H6.box2 3 rfl
    go_wp2_with fail
    refine (implSaveImage_any _ _ _ Z b (H6.rdHx 4 5 rfl rfl (.inl ⟨rfl, rfl⟩)) (by unfold I64; omega)).mono ?_
    rintro e w5 ⟨v5, rfl, ho5, hb5⟩
    rw [HSv.out] at ho5
    have H7 := H6.madeI ho5 hb5
    clear H6 ho5 hb5 x0 x1
    obtain ⟨A5, k5, rfl, -⟩ := H7.formI 0 rfl
    go_wp2_with fail
    refine (sameInts_yes _ _ _ _ _ _ _ _ _ xs (H7.owI 0 rfl).rdI (H7.owI 7 rfl).rdI).mono ?_
    rintro e w6 ⟨rfl, hb6⟩
    have HB := (H7.call hb6).below
    clear H7 hb6
    go_wp2
    go_ret
    exact ⟨rfl, HB⟩
end Go.Proofs.Ytnpehidhoekfcaa
