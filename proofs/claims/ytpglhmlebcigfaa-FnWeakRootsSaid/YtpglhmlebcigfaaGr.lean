/- A heap drawn from a code; the law FnWeakRoots' walk: weak references to all cells that are met stay. For every code that can be read. -/
import Derived.Test.YtpglhmlebcigfaaOo
import Derived.Test.YtpglhmlebcigfaaAl
import Derived.Test.YtpglhmlebcigfaaSm
import Derived.Test.YtpglhmlebcigfaaOm
import Derived.Test.YtpglhmlebcigfaaOs
import Derived.Test.YtpglhmlebcigfaaCw
namespace Go.Proofs.Ytpglhmlebcigfaa
open Go.RowKit
theorem weak_order (h : Hp) : mClearWeak h (mMetOrder h) = mMetOrder h := by
  cases hy : heapOk h
  · rw [mMet_no hy]
    unfold mClearWeak
    split <;> rfl
  · rw [mMet_yes hy]
    have h1 := ordH_len hy
    have h2 := (heapOk_small hy).1
    have hw : mWeakValid h (ordH h) = true := by
      simp only [mWeakValid, hy, Bool.true_and, Bool.and_eq_true, decide_eq_true_eq, List.all_eq_true]
      refine ⟨by omega, fun x hx => ?_⟩
      have hr := ordH_reach hy x hx
      have hu := hr.2
      simp only [reachB, decide_eq_true_eq] at hu
      exact leadsB_iff.2 (.inr ⟨hr.1, hu.inS⟩)
    rw [mClear_yes hw]
    refine (List.map_congr_left fun x hx => ?_).trans (List.map_id _)
    have hr := ordH_reach hy x hx
    unfold clr
    rw [if_neg]
    · rfl
    · rintro ⟨-, k⟩
      rw [hr.2] at k; cases k
set_option maxHeartbeats 1600000 in
theorem DrawMetOrder_any (w : World) (A : Option Addr) (n c : Nat) (bs : List Int) (hr : RdY w w.heap.size A n c bs) :
    Calls Try.prog 15 #[.slice A n c] w (DrawnH w) := by
  have H := (Owns.nil w).box [.slice none 0 0, .slice none 0 0] 26
  go_enter Try.func15, Try.ntmps15
  go_wp2_with fail
  refine (open_own H A n c bs hr).mono ?_
  rintro e w1 ⟨g, A1, n1, c1, bs1, rfl, hU, H1⟩
  clear H hr
  go_wp2_with fail
  refine (heap_own H1 0 rfl hU (by omega) 12 (by omega) (by omega)).mono ?_
  rintro e w2 ⟨T, cv, rvs, rv, rv0, rs0, p1, rfl, hS, ht, -, -, H2⟩
  simp only [List.set_cons_zero] at H2
  clear H1 hU
  obtain ⟨C, kC, rfl, -⟩ := H2.formC 0 rfl
  obtain ⟨R0, kR0, e0, -⟩ := H2.formI 1 rfl
  obtain ⟨R, nR, kR, rfl⟩ := ht.form e0
  clear e0
  obtain ⟨y0, y1, y2, y3⟩ := H2.box2 3 rfl
  have HZ := (H2.putBox 3 rfl 0 (.slice C T.cells.length kC)).putBox 3 rfl 1 (.slice R nR kR)
  simp only [List.set_cons_zero, List.set_cons_succ] at HZ
  obtain ⟨z0, z1, -, -⟩ := HZ.box2 3 rfl
  have HS : Hid (DrawnH w (.returned (.agg #[.slice C T.cells.length kC, .slice R nR kR])) _) := Go.Lib.hid ⟨T, _, rvs, _, _, _, rfl, hS, ht, HZ.take 2⟩
  clear H2 HZ hS ht
  go_wp2
  exact bodyPost_ret (v := .agg #[.slice C T.cells.length kC, .slice R nR kR]) (by simp [results, Try.results15, go_sem, z0, z1]) rfl HS.out
set_option maxHeartbeats 6400000 in
set_option maxRecDepth 20000 in
theorem lawWeakRoots_any (w : World) {A : Option Addr} {n c : Nat} {bs : List Int} (hr : RdY w w.heap.size A n c bs) :
    Calls Try.prog 4 #[.slice A n c] w fun e w' => e = .returned (.bool true) ∧ Below w.heap.size w w' := by
  by_cases s0 : 1048576 < n
  · go_enter Try.func4, Try.ntmps4
    go_wp2
    go_ret
    exact ⟨rfl, Below.refl _ _⟩
  go_enter Try.func4, Try.ntmps4
  go_wp2_with fail
  refine (DrawMetOrder_any w A n c bs hr).mono ?_
  rintro e w1 ⟨T, cv, rvs, rv, rv0, rs0, rfl, hS, ht, H1⟩
  obtain ⟨C, kC, rfl, -⟩ := H1.formC 0 rfl
  obtain ⟨R0, kR0, e0, -⟩ := H1.formI 1 rfl
  obtain ⟨R, nR, kR, rfl⟩ := ht.form e0
  have HT := Go.Lib.hid ht
  have HS := Go.Lib.hid hS
  clear e0 ht hS hr s0
  have H := H1.box [.slice C T.cells.length kC, .slice R nR kR] 26
  clear H1
  obtain ⟨x0, x1, -, -⟩ := H.box2 0 rfl
  go_wp2_with fail
  refine (implMetOrder_any _ _ _ T (H.rdHx 1 2 rfl rfl HT.out)).mono ?_
  rintro e w2 ⟨v2, rfl, ho2, hb2⟩
  have hC := weak_order T
  obtain ⟨X, hX⟩ : ∃ X, X = mMetOrder T := ⟨_, rfl⟩
  rw [← hX] at ho2 hC
  have HXe := Go.Lib.hid hX
  have HCl := Go.Lib.hid hC
  clear hX hC
  have H2 := H.madeI ho2 hb2
  clear H ho2 hb2 x0 x1
  obtain ⟨A2, k2, rfl, -⟩ := H2.formI 0 rfl
  obtain ⟨x0, x1, -, -⟩ := H2.box2 1 rfl
  go_wp2_with fail
  refine (specMetOrder_any _ _ _ T (H2.rdHx 2 3 rfl rfl HT.out)).mono ?_
  rintro e w3 ⟨v3, rfl, ho3, hb3⟩
  rw [← HXe.out] at ho3
  have H3 := H2.madeI ho3 hb3
  clear H2 ho3 hb3 x0 x1
  obtain ⟨A3, k3, rfl, -⟩ := H3.formI 0 rfl
  go_wp2_with fail
  refine (sameInts_yes _ _ _ _ _ _ _ _ _ X (H3.owI 1 rfl).rdI (H3.owI 0 rfl).rdI).mono ?_
  rintro e w4 ⟨rfl, hb4⟩
  have H4 := (H3.call hb4).erase 0
  simp only [List.eraseIdx_cons_zero] at H4
  clear H3 hb4
  obtain ⟨x0, x1, -, -⟩ := H4.box2 1 rfl
  go_wp2_with fail
  refine (implClearWeak_any _ _ _ _ T _ _ _ X (H4.rdHx 2 3 rfl rfl HT.out) (H4.owI 0 rfl).rdI).mono ?_
  rintro e w5 ⟨v5, rfl, ho5, hb5⟩
  rw [HCl.out] at ho5
  have H5 := H4.madeI ho5 hb5
  clear H4 ho5 hb5 x0 x1
  obtain ⟨A5, k5, rfl, -⟩ := H5.formI 0 rfl
  go_wp2_with fail
  refine (sameInts_yes _ _ _ _ _ _ _ _ _ X (H5.owI 0 rfl).rdI (H5.owI 1 rfl).rdI).mono ?_
  rintro e w6 ⟨rfl, hb6⟩
  have H6 := H5.call hb6
  clear H5 hb6
  go_wp2_with fail
  refine (alive_any _).mono ?_
  rintro e w8 ⟨rfl, hb⟩
  have HB := (H6.call hb).below
  clear H6 hb
  go_wp2
  go_ret
  exact ⟨rfl, HB⟩
end Go.Proofs.Ytpglhmlebcigfaa
