/- A heap with weak references drawn from a code; the law FnCollectWeak's walk. For every code that can be read. -/
import Derived.Test.YtjpfgbckmcjjaaaOo
import Derived.Test.YtjpfgbckmcjjaaaAl
import Derived.Test.YtjpfgbckmcjjaaaWd
import Derived.Test.YtjpfgbckmcjjaaaSm
import Derived.Test.YtjpfgbckmcjjaaaKc
import Derived.Test.YtjpfgbckmcjjaaaWk
import Derived.Test.YtjpfgbckmcjjaaaVi
namespace Go.Proofs.Ytjpfgbckmcjjaaa
open Go.RowKit
theorem cw_valid {h : Hp} {ws : List Int} (h0 : mWeakValid h ws = true) : heapOk h = true ∧ heapOk (mCollect h) = true ∧ mView (mCollect h) = mView h ∧ mWeakValid (mCollect h) (mClearWeak h ws) = true ∧ (mClearWeak h ws).length = ws.length := by
  obtain ⟨s1, s2, s3⟩ := mWeak_parts h0
  have hl : (mClearWeak h ws).length = ws.length := by rw [mClear_yes h0]; simp
  refine ⟨s1, collect_ok s1, collect_view s1, ?_, hl⟩
  simp only [mWeakValid, collect_ok s1, Bool.true_and, Bool.and_eq_true, decide_eq_true_eq, List.all_eq_true]
  refine ⟨by omega, fun x hx => ?_⟩
  rw [mClear_yes h0] at hx
  obtain ⟨r, hr, rfl⟩ := List.mem_map.1 hx
  unfold clr
  split
  · exact leadsB_nil _
  · rename_i k
    rcases leadsB_iff.1 (s3 r hr) with e | ⟨hp, hu⟩
    · rw [e]; exact leadsB_nil _
    · have hrc : reachB h.cells h.roots r.toNat = true := by
        cases hb : reachB h.cells h.roots r.toNat
        · exact absurd ⟨hp, hb⟩ k
        · rfl
      have hk := keeps_reach s1
      have hm : atB (mReachable h) r.toNat = true := by rw [mReachable_yes s1, atB_at (reachL_at (usedN_lt hu)), hrc]
      rw [leadsB_iff]
      exact .inr ⟨hp, by rw [collect_eq s1, sweep_used hk hm]; exact hu⟩
set_option maxHeartbeats 1600000 in
theorem DrawCollectWeak_any (w : World) (A : Option Addr) (n c : Nat) (bs : List Int) (hr : RdY w w.heap.size A n c bs) :
    Calls Try.prog 9 #[.slice A n c] w (DrawnHI w) := by
  have H := (Owns.nil w).box [.slice none 0 0, .slice none 0 0] 26
  go_enter Try.func9, Try.ntmps9
  go_wp2_with fail
  refine (open_own H A n c bs hr).mono ?_
  rintro e w1 ⟨g, A1, n1, c1, bs1, rfl, hU, H1⟩
  clear H hr
  go_wp2_with fail
  refine (weak_own H1 0 rfl hU (by omega) 14 (by omega) (by omega)).mono ?_
  rintro e w2 ⟨T, cv, rvs, rv, rv0, v, rs0, xs, p1, rfl, hS, ht, hxl, -, -, H2⟩
  simp only [List.set_cons_zero] at H2
  clear H1 hU
  obtain ⟨C, kC, rfl, -⟩ := H2.formC 1 rfl
  obtain ⟨R0, kR0, e0, -⟩ := H2.formI 2 rfl
  obtain ⟨R, nR, kR, rfl⟩ := ht.form e0
  clear e0
  obtain ⟨y0, y1, y2, y3⟩ := H2.box2 4 rfl
  have HZ := (H2.putBox 4 rfl 0 (.slice C T.cells.length kC)).putBox 4 rfl 1 (.slice R nR kR)
  simp only [List.set_cons_zero, List.set_cons_succ, List.eraseIdx_cons_zero, List.eraseIdx_cons_succ, List.drop_succ_cons, List.drop_zero, List.take_succ_cons, List.take_zero, List.length_append, List.length_cons, List.length_nil, List.nil_append, Nat.zero_add, World.size_alloc] at HZ
  obtain ⟨z0, z1, -, -⟩ := HZ.box2 4 rfl
  obtain ⟨z2, -, -, -⟩ := (H2.putBox 4 rfl 0 (.slice C T.cells.length kC)).box2 4 rfl
  have HS : Hid (DrawnHI w (.returned (.tuple #[.agg #[.slice C T.cells.length kC, .slice R nR kR], v])) _) := Go.Lib.hid ⟨T, _, rvs, _, _, _, _, xs, rfl, hS, ht, hxl, HZ.take 3⟩
  clear H2 HZ hS ht
  go_wp2
  exact bodyPost_ret (v := .tuple #[.agg #[.slice C T.cells.length kC, .slice R nR kR], v]) (by simp [results, Try.results9, go_sem, z0, z1, z2]) rfl HS.out
set_option maxHeartbeats 6400000 in
set_option maxRecDepth 20000 in
theorem lawCollectWeak_any (w : World) {A : Option Addr} {n c : Nat} {bs : List Int} (hr : RdY w w.heap.size A n c bs) :
    Calls Try.prog 3 #[.slice A n c] w fun e w' => e = .returned (.bool true) ∧ Below w.heap.size w w' := by
  by_cases s0 : 1048576 < n
  · go_enter Try.func3, Try.ntmps3
    go_wp2
    go_ret
    exact ⟨rfl, Below.refl _ _⟩
  go_enter Try.func3, Try.ntmps3
  go_wp2_with fail
  refine (DrawCollectWeak_any w A n c bs hr).mono ?_
  rintro e w1 ⟨T, cv, rvs, rv, rv0, v, rs0, xs, rfl, hS, ht, hxl, H1⟩
  obtain ⟨C, kC, rfl, -⟩ := H1.formC 1 rfl
  obtain ⟨R0, kR0, e0, -⟩ := H1.formI 2 rfl
  obtain ⟨R, nR, kR, rfl⟩ := ht.form e0
  obtain ⟨V, kV, rfl, -⟩ := H1.formI 0 rfl
  have HT := Go.Lib.hid ht
  clear e0 ht hS hr s0
  have H := H1.box [.slice C T.cells.length kC, .slice R nR kR] 26
  clear H1
  obtain ⟨x0, x1, -, -⟩ := H.box2 0 rfl
  obtain ⟨Z, hZ⟩ : ∃ Z, Z = mCwH T xs := ⟨_, rfl⟩
  obtain ⟨X, hX⟩ : ∃ X, X = mClearWeak T xs := ⟨_, rfl⟩
  have HZe := Go.Lib.hid hZ
  have HXe := Go.Lib.hid hX
  clear hZ hX
  go_wp2_with fail
  refine (implCollectWeak_any _ _ _ _ T _ _ _ xs (H.rdHx 2 3 rfl rfl HT.out) (H.owI 1 rfl).rdI).mono ?_
  rintro e w2 ⟨cv2, rvs2, rv2, lv2, rfl, K⟩
  rw [← HZe.out, ← HXe.out] at K
  have H2 := H.merge K
  simp only [List.cons_append, List.nil_append] at H2
  clear H K x0 x1
  obtain ⟨C2, k2, rfl, -⟩ := H2.formC 0 rfl
  obtain ⟨R2, kR2, rfl, -⟩ := H2.formI 1 rfl
  obtain ⟨L2, kL2, rfl, -⟩ := H2.formI 2 rfl
  have H3 := H2.box [.slice C2 Z.cells.length k2, .slice R2 Z.roots.length kR2] 26
  clear H2
  obtain ⟨x0, x1, -, -⟩ := H3.box2 4 rfl
  go_wp2_with fail
  refine (specCollectWeak_any _ _ _ _ T _ _ _ xs (H3.rdHx 6 7 rfl rfl HT.out) (H3.owI 5 rfl).rdI).mono ?_
  rintro e w3 ⟨cv3, rvs3, rv3, lv3, rfl, K⟩
  rw [← HZe.out, ← HXe.out] at K
  have H4 := H3.merge K
  simp only [List.cons_append, List.nil_append] at H4
  clear H3 K x0 x1
  obtain ⟨C3, k3, rfl, -⟩ := H4.formC 0 rfl
  obtain ⟨R3, kR3, rfl, -⟩ := H4.formI 1 rfl
  obtain ⟨L3, kL3, rfl, -⟩ := H4.formI 2 rfl
  have H5 := H4.box [.slice C3 Z.cells.length k3, .slice R3 Z.roots.length kR3] 26
  clear H4
  obtain ⟨y0, y1, -, -⟩ := H5.box2 0 rfl
  obtain ⟨x0, x1, -, -⟩ := H5.box2 4 rfl
  go_wp2_with fail
  refine (sameHeap_yes _ _ _ _ _ Z (H5.rdHx 5 6 rfl rfl (.inl ⟨rfl, rfl⟩)) (H5.rdHx 1 2 rfl rfl (.inl ⟨rfl, rfl⟩))).mono ?_
  rintro e w4 ⟨rfl, hb4⟩
  have H6 := H5.call hb4
  clear H5 hb4 x0 x1 y0 y1
  go_wp2_with fail
  refine (sameInts_yes _ _ _ _ _ _ _ _ _ X (H6.owI 7 rfl).rdI (H6.owI 3 rfl).rdI).mono ?_
  rintro e w5 ⟨rfl, hb5⟩
  have H7 := (H6.call hb5).drop 4
  simp only [List.drop_succ_cons, List.drop_zero] at H7
  clear H6 hb5
  obtain ⟨q0, q1, -, -⟩ := H7.box2 4 rfl
  go_wp2_with fail
  refine (specWeakValid_any _ _ _ _ T _ _ _ xs (H7.rdHx 6 7 rfl rfl HT.out) (H7.owI 5 rfl).rdI).mono ?_
  rintro e w6 ⟨rfl, hb6⟩
  have H8 := H7.call hb6
  clear H7 hb6 q0 q1
  obtain ⟨x0, x1, -, -⟩ := H8.box2 0 rfl
  obtain ⟨q0, q1, -, -⟩ := H8.box2 4 rfl
  cases hy : mWeakValid T xs
  · obtain rfl : X = [] := by rw [HXe.out]; exact mClear_no hy
    have hZn : Z = ⟨[], []⟩ := by rw [HZe.out]; unfold mCwH; rw [hy]; rfl
    subst hZn
    simp only [List.length_nil] at H8 x0 x1
    clear hy
    go_wp2_with fail
    refine (alive_any _).mono ?_
    rintro e w8 ⟨rfl, hb⟩
    have HB := (H8.call hb).below
    clear H8 hb x0 x1 q0 q1
    go_wp2
    go_ret
    exact ⟨rfl, HB⟩
  · obtain ⟨s1, s2, s3, s4, s5⟩ := cw_valid hy
    have e1 : mCwH T xs = mCollect T := by unfold mCwH; rw [hy]; rfl
    have hZ := HZe.out
    rw [e1] at hZ
    rw [← hZ] at s2 s3 s4
    rw [← HXe.out] at s4 s5
    have hll : ((X.length : Int) == (xs.length : Int)) = true := by simp; omega
    have HS1 := Go.Lib.hid s1
    have HS2 := Go.Lib.hid s2
    have HS3 := Go.Lib.hid s3
    have HS4 := Go.Lib.hid s4
    clear hy e1 hZ s1 s2 s3 s4 s5
    go_wp2_with fail
    refine (implWeakValid_any _ _ _ _ Z _ _ _ X (H8.rdHx 1 2 rfl rfl (.inl ⟨rfl, rfl⟩)) (H8.owI 3 rfl).rdI).mono ?_
    rintro e w7 ⟨rfl, hb7⟩
    rw [HS4.out]
    have H9 := H8.call hb7
    clear H8 hb7 x0 x1 q0 q1
    obtain ⟨x0, x1, -, -⟩ := H9.box2 0 rfl
    obtain ⟨q0, q1, -, -⟩ := H9.box2 4 rfl
    go_wp2_with fail
    refine (sameView_yes _ _ _ _ _ Z T (H9.rdHx 1 2 rfl rfl (.inl ⟨rfl, rfl⟩)) (H9.rdHx 6 7 rfl rfl HT.out) HS2.out HS1.out HS3.out).mono ?_
    rintro e w8 ⟨rfl, hb8⟩
    have HB := (H9.call hb8).below
    clear H9 hb8 x0 x1 q0 q1
    go_wp2
    go_ret
    exact ⟨rfl, HB⟩
end Go.Proofs.Ytjpfgbckmcjjaaa
