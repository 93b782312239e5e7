/- MoveImage and ImageSum, the program's and the reference's: both stand on LoadImage and SaveImage. For every list that can be read. -/
import Derived.Test.YtnpehidhoekfcaaLdI
import Derived.Test.YtnpehidhoekfcaaLdS
import Derived.Test.YtnpehidhoekfcaaSvI
import Derived.Test.YtnpehidhoekfcaaSvS
import Derived.Test.YtnpehidhoekfcaaSv
namespace Go.Proofs.Ytnpehidhoekfcaa
open Go.RowKit
def mMoveImage (l : List Int) (b : Int) : List Int := if ldOk l then mSaveImage (ldHeap l) b else []
theorem mMove_no {l : List Int} (h : ldOk l = false) (b : Int) : mMoveImage l b = [] := by simp [mMoveImage, h]
theorem mMove_yes {l : List Int} (h : ldOk l = true) (b : Int) : mMoveImage l b = mSaveImage (ldHeap l) b := by simp [mMoveImage, h]
def sumStep (n x : Int) : Int := (31 * n + x) % 65521
def sumUp (l : List Int) : Int := l.foldl sumStep 1
def mImageSum (l : List Int) : Int := if ldOk l then sumUp l else -1
theorem mSum_no {l : List Int} (h : ldOk l = false) : mImageSum l = -1 := by simp [mImageSum, h]
theorem mSum_yes {l : List Int} (h : ldOk l = true) : mImageSum l = sumUp l := by simp [mImageSum, h]
theorem sumUp_snoc (l : List Int) (x : Int) : sumUp (l ++ [x]) = sumStep (sumUp l) x := by simp [sumUp]
theorem sumUp_in (l : List Int) : 0 ≤ sumUp l ∧ sumUp l < 65521 := by
  rcases nil_or_snoc l with rfl | ⟨l', x, rfl⟩
  · simp [sumUp]
  · rw [sumUp_snoc]; unfold sumStep; omega
set_option maxHeartbeats 1600000 in
theorem implMoveImage_any (w : World) (B : Nat) (A : Option Addr) (n c : Nat) (xs : List Int) (b : Int) (hr : RdI w B A n c xs) (hI : ∀ x ∈ xs, I64 x) (hb : I64 b) :
    Calls Try.prog 17 #[.slice A n c, .int .i64 b] w (MadeI w (mMoveImage xs b)) := by
  go_enter Try.func17, Try.ntmps17
  go_wp2_with fail
  refine (implLoadImage_any _ _ _ _ _ xs hr hI).mono ?_
  rintro e w1 ⟨cv, rvs, rv, rfl, H1⟩
  obtain ⟨C, kC, rfl, -⟩ := H1.formC 0 rfl
  obtain ⟨R, kR, rfl, -⟩ := H1.formI 1 rfl
  have H2 := H1.box [.slice C (mLoadH xs).cells.length kC, .slice R (mLoadH xs).roots.length kR] 27
  obtain ⟨b0, b1, -, -⟩ := H2.box2 0 rfl
  cases hy : ldOk xs
  · have HF := Go.Lib.hid (mMove_no hy b)
    have HS := Go.Lib.hid (H2.noInts.toI 0 rfl)
    clear H1 H2 hr hI
    go_wp2
    go_ret
    rw [HF.out]
    exact HS.out
  · have hr2 := (H2.toOwH 1 2 rfl rfl).rd
    have e := (mLoad_yes hy).1
    have HF := Go.Lib.hid (mMove_yes hy b)
    rw [← e] at HF
    generalize mLoadH xs = T at *
    clear hy e H1 hr hI
    go_wp2_with fail
    refine (implSaveImage_any _ _ _ T b hr2 hb).mono ?_
    rintro e w2 ⟨v, rfl, ho, hb2⟩
    have HS := Go.Lib.hid ((H2.madeI ho hb2).toI 0 rfl)
    clear H2 b0 b1 hr2 ho hb2
    go_wp2
    go_ret
    rw [HF.out]
    exact HS.out
set_option maxHeartbeats 1600000 in
theorem specMoveImage_any (w : World) (B : Nat) (A : Option Addr) (n c : Nat) (xs : List Int) (b : Int) (hr : RdI w B A n c xs) (hI : ∀ x ∈ xs, I64 x) (hn : n ≤ 1048576) (hb : I64 b) :
    Calls Try.prog 18 #[.slice A n c, .int .i64 b] w (MadeI w (mMoveImage xs b)) := by
  go_enter Try.func18, Try.ntmps18
  go_wp2_with fail
  refine (specLoadImage_any _ _ _ _ _ xs hr hI hn).mono ?_
  rintro e w1 ⟨cv, rvs, rv, rfl, H1⟩
  obtain ⟨C, kC, rfl, -⟩ := H1.formC 0 rfl
  obtain ⟨R, kR, rfl, -⟩ := H1.formI 1 rfl
  have H2 := H1.box [.slice C (mLoadH xs).cells.length kC, .slice R (mLoadH xs).roots.length kR] 27
  obtain ⟨b0, b1, -, -⟩ := H2.box2 0 rfl
  cases hy : ldOk xs
  · have HF := Go.Lib.hid (mMove_no hy b)
    have H3 := H2.litI [] (by simp [maxLen])
    have HS := Go.Lib.hid (H3.toI 0 rfl)
    clear H1 H2 H3 hr hI
    go_wp2
    go_ret
    rw [HF.out]
    have h := HS.out
    simpa using h
  · have hr2 := (H2.toOwH 1 2 rfl rfl).rd
    have e := (mLoad_yes hy).1
    have HF := Go.Lib.hid (mMove_yes hy b)
    rw [← e] at HF
    generalize mLoadH xs = T at *
    clear hy e H1 hr hI
    go_wp2_with fail
    refine (specSaveImage_any _ _ _ T b hr2 hb).mono ?_
    rintro e w2 ⟨v, rfl, ho, hb2⟩
    have HS := Go.Lib.hid ((H2.madeI ho hb2).toI 0 rfl)
    clear H2 b0 b1 hr2 ho hb2
    go_wp2
    go_ret
    rw [HF.out]
    exact HS.out
set_option maxHeartbeats 1600000 in
theorem implImageSum_any (w : World) (B : Nat) (A : Option Addr) (n c : Nat) (xs : List Int) (hr : RdI w B A n c xs) (hI : ∀ x ∈ xs, I64 x) :
    Calls Try.prog 20 #[.slice A n c] w fun e w' => e = .returned (.int .i64 (mImageSum xs)) ∧ Below w.heap.size w w' := by
  have hr := hr.top
  have hl1 := RdI.le1 hr; have hl2 := RdI.le2 hr
  have hm := Nat.le_trans hr.cap hr.mx
  unfold maxLen at hm
  go_enter Try.func20, Try.ntmps20
  go_wp2_with fail
  refine (implLoadImage_any _ _ _ _ _ xs hr hI).mono ?_
  rintro e w1 ⟨cv, rvs, rv, rfl, H1⟩
  obtain ⟨C, kC, rfl, -⟩ := H1.formC 0 rfl
  obtain ⟨R, kR, rfl, -⟩ := H1.formI 1 rfl
  have hbb := (H1.box [.slice C (mLoadH xs).cells.length kC, .slice R (mLoadH xs).roots.length kR] 27).below
  clear H1 hI
  cases hy : ldOk xs
  · have HF := Go.Lib.hid (mSum_no hy)
    clear hr hl1 hl2
    go_wp2
    go_ret
    exact ⟨ret_i HF.out.symm, hbb⟩
  have HF := Go.Lib.hid (mSum_yes hy)
  have HI := Go.Lib.hid (ldOk_in hy)
  clear hy
  go_wp2_with fail
  go_loopw [6, 19] (fun s i wr => ∃ k : Nat, i = .int .i64 k ∧ k ≤ n ∧ s = .int .i64 (sumUp (xs.take k)) ∧ Below w.heap.size w wr) (fun _ i _ => n - (intOf i).toNat)
  case atStart => exact ⟨0, rfl, Nat.zero_le _, rfl, hbb⟩
  case round =>
    clear hbb
    obtain ⟨k, rfl, hk, rfl, hb⟩ := hrel
    obtain ⟨s0, s1⟩ := sumUp_in (xs.take k)
    by_cases hlt : k < n
    · obtain ⟨b, o, x, rfl, hbb, hx, q1⟩ := RdI.at_ hr hlt
      have g1 := keept q1 hb
      obtain ⟨x0, x1⟩ := HI.out x (List.mem_of_getElem? hx.out)
      have HE := Go.Lib.hid (show sumUp (xs.take (k + 1)) = (31 * sumUp (xs.take k) + x) % 65521 by rw [take_snoc' hx, sumUp_snoc]; rfl)
      generalize sumUp (xs.take k) = s at *
      clear q1
      go_wp2_with fail
      go_roundw
      case rel => exact ⟨k + 1, by go_num, by omega, by rw [HE.out], hb⟩
      case measure => simp [intOf]; omega
    · have e : xs.take k = xs := List.take_of_length_le (by omega)
      rw [e] at s0 s1 ⊢
      clear e hr
      go_wp2
      go_ret
      exact ⟨ret_i HF.out.symm, hb⟩
set_option maxHeartbeats 1600000 in
theorem specImageSum_any (w : World) (B : Nat) (A : Option Addr) (n c : Nat) (xs : List Int) (hr : RdI w B A n c xs) (hI : ∀ x ∈ xs, I64 x) (hn : n ≤ 1048576) :
    Calls Try.prog 21 #[.slice A n c] w fun e w' => e = .returned (.int .i64 (mImageSum xs)) ∧ Below w.heap.size w w' := by
  have hr := hr.top
  have hl1 := RdI.le1 hr; have hl2 := RdI.le2 hr
  go_enter Try.func21, Try.ntmps21
  go_wp2_with fail
  refine (specLoadImage_any _ _ _ _ _ xs hr hI hn).mono ?_
  rintro e w1 ⟨cv, rvs, rv, rfl, H1⟩
  obtain ⟨C, kC, rfl, -⟩ := H1.formC 0 rfl
  obtain ⟨R, kR, rfl, -⟩ := H1.formI 1 rfl
  have hbb := (H1.box [.slice C (mLoadH xs).cells.length kC, .slice R (mLoadH xs).roots.length kR] 27).below
  clear H1 hI
  cases hy : ldOk xs
  · have HF := Go.Lib.hid (mSum_no hy)
    clear hr hl1 hl2
    go_wp2
    go_ret
    exact ⟨ret_i HF.out.symm, hbb⟩
  have HF := Go.Lib.hid (mSum_yes hy)
  have HI := Go.Lib.hid (ldOk_in hy)
  clear hy
  go_wp2_with fail
  go_loopw [6, 7] (fun s i wr => ∃ k : Nat, i = .int .i64 k ∧ k ≤ n ∧ s = .int .i64 (sumUp (xs.take k)) ∧ Below w.heap.size w wr) (fun _ i _ => n - (intOf i).toNat)
  case atStart => exact ⟨0, rfl, Nat.zero_le _, rfl, hbb⟩
  case round =>
    clear hbb
    obtain ⟨k, rfl, hk, rfl, hb⟩ := hrel
    obtain ⟨s0, s1⟩ := sumUp_in (xs.take k)
    by_cases hlt : k < n
    · obtain ⟨b, o, x, rfl, hbb, hx, q1⟩ := RdI.at_ hr hlt
      have g1 := keept q1 hb
      obtain ⟨x0, x1⟩ := HI.out x (List.mem_of_getElem? hx.out)
      have HE := Go.Lib.hid (show sumUp (xs.take (k + 1)) = (31 * sumUp (xs.take k) + x) % 65521 by rw [take_snoc' hx, sumUp_snoc]; rfl)
      generalize sumUp (xs.take k) = s at *
      clear q1
      go_wp2_with fail
      go_roundw
      case rel => exact ⟨k + 1, by go_num, by omega, by rw [HE.out], hb⟩
      case measure => simp [intOf]; omega
    · have e : xs.take k = xs := List.take_of_length_le (by omega)
      rw [e] at s0 s1 ⊢
      clear e hr
      go_wp2
      go_ret
      exact ⟨ret_i HF.out.symm, hb⟩
theorem mMoveImage_len (l : List Int) (b : Int) : (mMoveImage l b).length ≤ 16777216 := by
  cases hy : ldOk l
  · rw [mMove_no hy]; simp
  · rw [mMove_yes hy]; have := mSaveImage_len (ldHeap l) b; omega
/-- A call makes one slice of ints: told by what it owns. -/
def MadeIp (w : World) (xs : List Int) (e : Ending) (w' : World) : Prop := ∃ v, e = .returned v ∧ Owns w.heap.size w w' [.ints v xs]
theorem MadeI.p {w w' : World} {xs : List Int} {e : Ending} (h : MadeI w xs e w') : MadeIp w xs e w' := by
  obtain ⟨v, rfl, ho, hb⟩ := h
  exact ⟨v, rfl, (Owns.nil w).madeI ho hb⟩
end Go.Proofs.Ytnpehidhoekfcaa
