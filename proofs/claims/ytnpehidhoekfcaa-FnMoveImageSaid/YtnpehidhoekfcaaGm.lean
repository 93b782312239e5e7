/- An image and a base drawn from a code; the law FnMoveImage's walk. For every code that can be read. -/
import Derived.Test.YtnpehidhoekfcaaIg
import Derived.Test.YtnpehidhoekfcaaAl
import Derived.Test.YtnpehidhoekfcaaSm
import Derived.Test.YtnpehidhoekfcaaIm
namespace Go.Proofs.Ytnpehidhoekfcaa
open Go.RowKit
theorem saveCell_same (b b' : Int) (c : Cel) : (saveCell b c).length = (saveCell b' c).length := by
  unfold saveCell
  split <;> simp
theorem saveAll_same (b b' : Int) (h : Hp) : (saveAll h b).length = (saveAll h b').length := by
  have e : ∀ cs : List Cel, (cs.flatMap (saveCell b)).length = (cs.flatMap (saveCell b')).length := by
    intro cs
    induction cs with
    | nil => rfl
    | cons c cs ih => simp only [List.flatMap_cons, List.length_append, ih, saveCell_same b b' c]
  simp only [saveAll, List.length_cons, List.length_append, List.length_map, e]
/-- Some numbers and a base, of the call's own. -/
def DrawnIB (w : World) (e : Ending) (w' : World) : Prop :=
  ∃ (v : Value) (xs : List Int) (b : Int), e = .returned (.tuple #[v, .int .i64 b]) ∧ (∀ x ∈ xs, I64 x) ∧ xs.length ≤ 300 ∧ -1 ≤ b ∧ b ≤ 10001 ∧ Owns w.heap.size w w' [.ints v xs]
set_option maxHeartbeats 1600000 in
set_option maxRecDepth 20000 in
theorem DrawMoveImage_any (w : World) (A : Option Addr) (n c : Nat) (bs : List Int) (hr : RdY w w.heap.size A n c bs) :
    Calls Try.prog 16 #[.slice A n c] w (DrawnIB w) := by
  go_enter Try.func16, Try.ntmps16
  go_wp2_with fail
  refine (open_own (Owns.nil w) A n c bs hr).mono ?_
  rintro e w1 ⟨g, A1, n1, c1, bs1, rfl, hU, H1⟩
  clear hr
  go_wp2_with fail
  refine (image_own H1 0 rfl hU (by omega) 6 (by omega) (by omega)).mono ?_
  rintro e w2 ⟨v, xs, p1, rfl, hI, hl, hp0, hp1, H2⟩
  simp only [List.set_cons_zero] at H2
  clear H1
  go_wp2_with fail
  refine (base_own H2 1 rfl hU (by omega) 9 (by omega) (by omega)).mono ?_
  rintro e w3 ⟨b, p2, rfl, hb0, hb1, -, -, -, H3⟩
  simp only [List.set_cons_zero, List.set_cons_succ] at H3
  have HS : Hid (DrawnIB w (.returned (.tuple #[v, .int .i64 b])) w3) := Go.Lib.hid ⟨v, xs, b, rfl, hI, hl, hb0, hb1, H3.take 1⟩
  clear H3 H2 hU hI
  go_wp2
  exact bodyPost_ret (v := .tuple #[v, .int .i64 b]) (by simp [results, Try.results16, go_sem]) rfl HS.out
set_option maxHeartbeats 6400000 in
set_option maxRecDepth 20000 in
theorem lawMoveImage_any (w : World) {A : Option Addr} {n c : Nat} {bs : List Int} (hr : RdY w w.heap.size A n c bs) :
    Calls Try.prog 4 #[.slice A n c] w fun e w' => e = .returned (.bool true) ∧ Below w.heap.size w w' := by
  by_cases s0 : 1048576 < n
  · go_enter Try.func4, Try.ntmps4
    go_wp2
    go_ret
    exact ⟨rfl, Below.refl _ _⟩
  go_enter Try.func4, Try.ntmps4
  go_wp2_with fail
  refine (DrawMoveImage_any w A n c bs hr).mono ?_
  rintro e w1 ⟨v, xs, b, rfl, hI, hl, hb0, hb1, H⟩
  obtain ⟨V, kV, rfl, -⟩ := H.formI 0 rfl
  have HI := Go.Lib.hid hI
  have hb64 : I64 b := by unfold I64; omega
  have HB64 := Go.Lib.hid hb64
  clear hI hr s0 hb64
  go_wp2_with fail
  refine (implMoveImage_any _ _ _ _ _ xs b (H.owI 0 rfl).rdI HI.out HB64.out).mono ?_
  rintro e w2 ⟨v2, rfl, ho2, hb2⟩
  obtain ⟨X, hX⟩ : ∃ X, X = mMoveImage xs b := ⟨_, rfl⟩
  rw [← hX] at ho2
  have HXe := Go.Lib.hid hX
  clear hX
  have H2 := H.madeI ho2 hb2
  clear H ho2 hb2
  obtain ⟨A2, k2, rfl, -⟩ := H2.formI 0 rfl
  go_wp2_with fail
  refine (specMoveImage_any _ _ _ _ _ xs b (H2.owI 1 rfl).rdI HI.out (by omega) HB64.out).mono ?_
  rintro e w3 ⟨v3, rfl, ho3, hb3⟩
  rw [← HXe.out] at ho3
  have H3 := H2.madeI ho3 hb3
  clear H2 ho3 hb3
  obtain ⟨A3, k3, rfl, -⟩ := H3.formI 0 rfl
  go_wp2_with fail
  refine (sameInts_yes _ _ _ _ _ _ _ _ _ X (H3.owI 1 rfl).rdI (H3.owI 0 rfl).rdI).mono ?_
  rintro e w4 ⟨rfl, hb4⟩
  have H4 := (H3.call hb4).erase 0
  simp only [List.eraseIdx_cons_zero] at H4
  clear H3 hb4
  by_cases h0 : X.length = 0
  · obtain rfl : X = [] := List.length_eq_zero_iff.1 h0
    clear h0
    go_wp2_with fail
    refine (alive_any _).mono ?_
    rintro e w8 ⟨rfl, hb⟩
    have HB := (H4.call hb).below
    clear H4 hb
    go_wp2
    go_ret
    exact ⟨rfl, HB⟩
  · have hok : ldOk xs = true := by
      cases hk : ldOk xs
      · exact absurd (by rw [HXe.out, mMove_no hk]; rfl) h0
      · rfl
    have hi := ldOk_img hok
    have hXs : mSaveImage (ldHeap xs) b = X := by rw [HXe.out, mMove_yes hok]
    have hiX := img_of_save hXs (by omega)
    obtain ⟨e1, e2⟩ := mLoad_yes hok
    obtain ⟨f1, f2⟩ := mLoad_yes hiX.yes
    have f3 := hiX.heap
    have f4 := hiX.facts.1
    have hback : mMoveImage X (ldBase xs) = xs := by rw [mMove_yes hiX.yes, f3, mSave_yes hi.ok hi.b0 hi.b1]; exact hi.eq
    have hlen : X.length = xs.length := by rw [← hiX.eq, saveAll_same b (ldBase xs), hi.eq]
    have HIX : Hid (∀ x ∈ X, I64 x) := Go.Lib.hid fun x hx => by have := ldOk_in hiX.yes x hx; unfold I64; omega
    have HOb : Hid (I64 (ldBase xs)) := Go.Lib.hid (by have := hi.b0; have := hi.b1; unfold I64; omega)
    have HL1 := Go.Lib.hid e1
    have HL2 := Go.Lib.hid e2
    have HL3 : Hid (mLoadH X = ldHeap xs) := Go.Lib.hid (f1.trans f3)
    have HL4 : Hid (mLoadB X = b) := Go.Lib.hid (f2.trans f4)
    have HL5 := Go.Lib.hid hiX.yes
    have HBk := Go.Lib.hid hback
    have hle : ((X.length : Int) == (xs.length : Int)) = true := by simp; omega
    have hp : 0 < X.length := by omega
    clear hok hi hXs hiX e1 e2 f1 f2 f3 f4 hback hlen h0
    go_wp2_with fail
    refine (implLoadImage_any _ _ _ _ _ xs (H4.owI 1 rfl).rdI HI.out).mono ?_
    rintro e w5 ⟨cv5, rvs5, rv5, rfl, K⟩
    rw [HL1.out] at K
    rw [HL2.out]
    obtain ⟨Z, hZ⟩ : ∃ Z, Z = ldHeap xs := ⟨_, rfl⟩
    obtain ⟨o, ho⟩ : ∃ o, o = ldBase xs := ⟨_, rfl⟩
    rw [← hZ] at K HL3
    rw [← ho] at HBk HOb ⊢
    clear hZ ho HL1 HL2
    have H5 := H4.merge K
    simp only [List.cons_append, List.nil_append] at H5
    clear H4 K
    obtain ⟨C5, k5, rfl, -⟩ := H5.formC 0 rfl
    obtain ⟨R5, kR5, rfl, -⟩ := H5.formI 1 rfl
    have H6 := H5.box [.slice C5 Z.cells.length k5, .slice R5 Z.roots.length kR5] 27
    clear H5
    go_wp2_with fail
    refine (implLoadImage_any _ _ _ _ _ X (H6.owI 3 rfl).rdI HIX.out).mono ?_
    rintro e w6 ⟨cv6, rvs6, rv6, rfl, K⟩
    rw [HL3.out] at K
    rw [HL4.out, HL5.out]
    have H7 := H6.merge K
    simp only [List.cons_append, List.nil_append] at H7
    clear H6 K
    obtain ⟨C6, k6, rfl, -⟩ := H7.formC 0 rfl
    obtain ⟨R6, kR6, rfl, -⟩ := H7.formI 1 rfl
    have H8 := H7.box [.slice C6 Z.cells.length k6, .slice R6 Z.roots.length kR6] 27
    clear H7
    obtain ⟨y0, y1, -, -⟩ := H8.box2 0 rfl
    obtain ⟨x0, x1, -, -⟩ := H8.box2 3 rfl
    go_wp2_with fail
    refine (sameHeap_yes _ _ _ _ _ Z (H8.rdHx 1 2 rfl rfl (.inl ⟨rfl, rfl⟩)) (H8.rdHx 4 5 rfl rfl (.inl ⟨rfl, rfl⟩))).mono ?_
    rintro e w7 ⟨rfl, hb7⟩
    have H9 := H8.call hb7
    clear H8 hb7 x0 x1 y0 y1
    go_wp2_with fail
    refine (implMoveImage_any _ _ _ _ _ X o (H9.owI 6 rfl).rdI HIX.out HOb.out).mono ?_
    rintro e w8 ⟨v8, rfl, ho8, hb8⟩
    rw [HBk.out] at ho8
    have HA := H9.madeI ho8 hb8
    clear H9 ho8 hb8
    obtain ⟨A8, k8, rfl, -⟩ := HA.formI 0 rfl
    go_wp2_with fail
    refine (sameInts_yes _ _ _ _ _ _ _ _ _ xs (HA.owI 0 rfl).rdI (HA.owI 8 rfl).rdI).mono ?_
    rintro e w9 ⟨rfl, hb9⟩
    have HB := (HA.call hb9).below
    clear HA hb9
    go_wp2
    go_ret
    exact ⟨rfl, HB⟩
end Go.Proofs.Ytnpehidhoekfcaa
