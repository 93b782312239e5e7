/- A heap with watched cells drawn from a code; the law FnReadyCells' walk. For every code that can be read. -/
import Derived.Test.YtmhcajjlhiopmaaOo
import Derived.Test.YtmhcajjlhiopmaaAl
import Derived.Test.YtmhcajjlhiopmaaWa
import Derived.Test.YtmhcajjlhiopmaaSm
import Derived.Test.YtmhcajjlhiopmaaRa
import Derived.Test.YtmhcajjlhiopmaaFp
namespace Go.Proofs.Ytmhcajjlhiopmaa
open Go.RowKit
theorem ready_any_lost {h : Hp} {ws : List Int} (hu : ∀ r ∈ ws, usedB h.cells r = true) : ws.any (lostB h) = decide (0 < (readyL h ws).length) := by
  cases ha : ws.any (lostB h)
  · have : readyL h ws = [] := by
      rw [List.eq_nil_iff_forall_not_mem]
      intro x hx
      have := ready_mem hx
      rw [List.any_eq_false] at ha
      exact ha x this.1 this.2
    rw [this]; rfl
  · rw [List.any_eq_true] at ha
    obtain ⟨x, hx, hl⟩ := ha
    have h1 : ws.filter (lostB h) ≠ [] := List.ne_nil_of_mem (List.mem_filter.2 ⟨hx, hl⟩)
    have h2 := ready_some h1 (fun y hy => (List.mem_filter.1 hy).2) (fun y hy => hu y (List.mem_filter.1 hy).1)
    rw [ready_filter] at h2
    have := List.length_pos_iff.2 h2
    simp [this]
theorem ready_le (h : Hp) (ws : List Int) : (readyL h ws).length ≤ ws.length := by unfold readyL; exact List.length_filter_le _ _
theorem used_nat {cs : List Cel} {r : Int} (h : usedB cs r = true) : ∃ q : Nat, r = (q : Int) ∧ q < cs.length := by
  simp only [usedB, Bool.and_eq_true, decide_eq_true_eq] at h
  exact ⟨r.toNat, by omega, by omega⟩
theorem lostB_nat (h : Hp) (q : Nat) : lostB h (q : Int) = !(reachB h.cells h.roots q) := by unfold lostB; rw [Int.toNat_natCast]
set_option maxHeartbeats 1600000 in
set_option maxRecDepth 20000 in
theorem DrawReadyCells_any (w : World) (A : Option Addr) (n c : Nat) (bs : List Int) (hr : RdY w w.heap.size A n c bs) :
    Calls Try.prog 21 #[.slice A n c] w (DrawnHI w) := by
  have H := (Owns.nil w).box [.slice none 0 0, .slice none 0 0] 26
  go_enter Try.func21, Try.ntmps21
  go_wp2_with fail
  refine (open_own H A n c bs hr).mono ?_
  rintro e w1 ⟨g, A1, n1, c1, bs1, rfl, hU, H1⟩
  clear H hr
  go_wp2_with fail
  refine (watched_own H1 0 rfl hU (by omega) 14 (by omega) (by omega)).mono ?_
  rintro e w2 ⟨T, cv, rvs, rv, rv0, v, rs0, xs, p1, rfl, hS, ht, hxl, -, -, H2⟩
  simp only [List.set_cons_zero] at H2
  clear H1 hU
  obtain ⟨C, kC, rfl, -⟩ := H2.formC 1 rfl
  obtain ⟨R0, kR0, e0, -⟩ := H2.formI 2 rfl
  obtain ⟨R, nR, kR, rfl⟩ := ht.form e0
  clear e0
  obtain ⟨y0, y1, y2, y3⟩ := H2.box2 4 rfl
  have HZ := (H2.putBox 4 rfl 0 (.slice C T.cells.length kC)).putBox 4 rfl 1 (.slice R nR kR)
  simp only [List.set_cons_zero, List.set_cons_succ] at HZ
  obtain ⟨z0, z1, -, -⟩ := HZ.box2 4 rfl
  obtain ⟨z2, -, -, -⟩ := (H2.putBox 4 rfl 0 (.slice C T.cells.length kC)).box2 4 rfl
  have HS : Hid (DrawnHI w (.returned (.tuple #[.agg #[.slice C T.cells.length kC, .slice R nR kR], v])) _) := Go.Lib.hid ⟨T, _, rvs, _, _, _, _, xs, rfl, hS, ht, hxl, HZ.take 3⟩
  clear H2 HZ hS ht
  go_wp2
  exact bodyPost_ret (v := .tuple #[.agg #[.slice C T.cells.length kC, .slice R nR kR], v]) (by simp [results, Try.results21, go_sem, z0, z1]) rfl HS.out
set_option maxHeartbeats 6400000 in
set_option maxRecDepth 20000 in
theorem lawReadyCells_any (w : World) {A : Option Addr} {n c : Nat} {bs : List Int} (hr : RdY w w.heap.size A n c bs) :
    Calls Try.prog 5 #[.slice A n c] w fun e w' => e = .returned (.bool true) ∧ Below w.heap.size w w' := by
  by_cases s0 : 1048576 < n
  · go_enter Try.func5, Try.ntmps5
    go_wp2
    go_ret
    exact ⟨rfl, Below.refl _ _⟩
  go_enter Try.func5, Try.ntmps5
  go_wp2_with fail
  refine (DrawReadyCells_any w A n c bs hr).mono ?_
  rintro e w1 ⟨T, cv, rvs, rv, rv0, v, rs0, xs, rfl, hS, ht, hxl, H1⟩
  obtain ⟨C, kC, rfl, -⟩ := H1.formC 1 rfl
  obtain ⟨R0, kR0, e0, -⟩ := H1.formI 2 rfl
  obtain ⟨R, nR, kR, rfl⟩ := ht.form e0
  obtain ⟨V, kV, rfl, -⟩ := H1.formI 0 rfl
  have HT := Go.Lib.hid ht
  clear e0 ht hS hr s0
  have H := H1.box [.slice C T.cells.length kC, .slice R nR kR] 26
  clear H1
  obtain ⟨x0, x1, -, -⟩ := H.box2 0 rfl
  go_wp2_with fail
  refine (implReadyCells_any _ _ _ _ T _ _ _ xs (H.rdHx 2 3 rfl rfl HT.out) (H.owI 1 rfl).rdI).mono ?_
  rintro e w2 ⟨v2, rfl, ho2, hb2⟩
  obtain ⟨X, hX⟩ : ∃ X, X = mReadyCells T xs := ⟨_, rfl⟩
  rw [← hX] at ho2
  have HXe := Go.Lib.hid hX
  clear hX
  have H2 := H.madeI ho2 hb2
  clear H ho2 hb2 x0 x1
  obtain ⟨A2, k2, rfl, -⟩ := H2.formI 0 rfl
  obtain ⟨x0, x1, -, -⟩ := H2.box2 1 rfl
  go_wp2_with fail
  refine (specReadyCells_any _ _ _ _ T _ _ _ xs (H2.rdHx 3 4 rfl rfl HT.out) (H2.owI 2 rfl).rdI).mono ?_
  rintro e w3 ⟨v3, rfl, ho3, hb3⟩
  rw [← HXe.out] at ho3
  have H3 := H2.madeI ho3 hb3
  clear H2 ho3 hb3 x0 x1
  obtain ⟨A3, k3, rfl, -⟩ := H3.formI 0 rfl
  go_wp2_with fail
  refine (sameInts_yes _ _ _ _ _ _ _ _ _ X (H3.owI 1 rfl).rdI (H3.owI 0 rfl).rdI).mono ?_
  rintro e w4 ⟨rfl, hb4⟩
  have H4 := (H3.call hb4).erase 0
  simp only [List.eraseIdx_cons_zero] at H4
  clear H3 hb4
  obtain ⟨x0, x1, -, -⟩ := H4.box2 1 rfl
  go_wp2_with fail
  refine (specWatchedValid_any _ _ _ _ T _ _ _ xs (H4.rdHx 3 4 rfl rfl HT.out) (H4.owI 2 rfl).rdI).mono ?_
  rintro e w5 ⟨rfl, hb5⟩
  have H5 := H4.call hb5
  clear H4 hb5 x0 x1
  cases hy : mWatchedValid T xs
  · obtain rfl : X = [] := by rw [HXe.out]; exact mReady_no hy
    clear hy
    go_wp2_with fail
    refine (alive_any _).mono ?_
    rintro e w8 ⟨rfl, hb⟩
    have HB := (H5.call hb).below
    clear H5 hb
    go_wp2
    go_ret
    exact ⟨rfl, HB⟩
  · obtain ⟨s1, s2, -⟩ := mWatched_iff.1 hy
    have hXe : X = readyL T xs := HXe.out.trans (mReady_yes hy)
    have HU : Hid (∀ r ∈ xs, usedB T.cells r = true) := Go.Lib.hid s2
    have HA : Hid (xs.any (lostB T) = decide (0 < X.length)) := Go.Lib.hid (by rw [hXe]; exact ready_any_lost s2)
    have HM : Hid (∀ r ∈ X, r ∈ xs ∧ lostB T r = true) := Go.Lib.hid (by rw [hXe]; exact fun r hr => ready_mem hr)
    have hle : X.length ≤ xs.length := by rw [hXe]; exact ready_le _ _
    obtain ⟨x0, x1, -, -⟩ := H5.box2 1 rfl
    clear hy s2 hXe HXe
    go_wp2_with fail
    refine (implReachable_any _ _ _ T (H5.rdHx 3 4 rfl rfl HT.out)).mono ?_
    rintro e w6 ⟨v6, rfl, ho6, hb6⟩
    obtain ⟨Q, hQ⟩ : ∃ Q, Q = mReachable T := ⟨_, rfl⟩
    rw [← hQ] at ho6
    have HQ : Hid (∀ q, q < T.cells.length → Q[q]? = some (reachB T.cells T.roots q)) := Go.Lib.hid fun q hq => by rw [hQ, mReachable_yes s1]; exact reachL_at hq
    clear hQ s1
    have H6 := H5.madeB ho6 hb6
    clear H5 ho6 hb6 x0 x1
    obtain ⟨A6, k6, rfl, -⟩ := H6.formB 0 rfl
    go_wp2_with fail
    go_loopw [7, 8] (fun vl i wr => ∃ k : Nat, vl = .bool ((xs.take k).any (lostB T)) ∧ i = .int .i64 k ∧ k ≤ xs.length ∧ Owns w.heap.size w wr [.bools (.slice A6 Q.length k6) Q, .ints (.slice A2 X.length k2) X, .box w1.heap.size [.slice C T.cells.length kC, .slice R nR kR] 26, .ints (.slice V xs.length kV) xs, .cells (.slice C T.cells.length kC) rvs T.cells, .ints rv0 rs0]) (fun _ i _ => xs.length - (intOf i).toNat)
    case atStart => exact ⟨0, by simp, rfl, Nat.zero_le _, H6⟩
    case round =>
      clear H6
      obtain ⟨k, rfl, rfl, hk, H⟩ := hrel
      by_cases hlt : k < xs.length
      · obtain ⟨r, hr0⟩ : ∃ r, Hid (xs[k]? = some r) := ⟨_, Go.Lib.hid (List.getElem?_eq_getElem (by omega))⟩
        have hstep : Hid ((xs.take (k + 1)).any (lostB T) = ((xs.take k).any (lostB T) || lostB T r)) := Go.Lib.hid (by rw [take_snoc' hr0]; simp)
        obtain ⟨q, rfl, hq⟩ := used_nat (HU.out r (List.mem_of_getElem? hr0.out))
        have hqq := HQ.out q hq
        have hql : q < Q.length := (List.getElem?_eq_some_iff.1 hqq).1
        obtain ⟨g3, c3, e3, -, -, -, -⟩ := H.rowAt 3 rfl (by omega)
        simp only [Value.slice.injEq] at e3
        obtain ⟨rfl, -, rfl⟩ := e3
        obtain ⟨g0, c0, e0, -, -, -, -⟩ := H.rowAt 0 rfl (by omega)
        simp only [Value.slice.injEq] at e0
        obtain ⟨rfl, -, rfl⟩ := e0
        obtain ⟨z3, -⟩ := H.elem 3 rfl (j := k) (u := .int .i64 (q : Int)) (by rw [List.getElem?_map, hr0.out]; rfl)
        obtain ⟨z0, -⟩ := H.elem 0 rfl (j := q) (u := .bool (reachB T.cells T.roots q)) (by rw [List.getElem?_map, hqq]; rfl)
        have i1 : (0 : Int) ≤ (k : Int) := by omega
        have i2 : (k : Int) < (xs.length : Int) := by omega
        have i4 : (0 : Int) ≤ (q : Int) := by omega
        have i5 : (q : Int) < (Q.length : Int) := by omega
        rw [lostB_nat] at hstep
        clear hqq hq hr0
        obtain ⟨b1, hb1⟩ : ∃ b, b = (xs.take k).any (lostB T) := ⟨_, rfl⟩
        rw [← hb1] at hstep ⊢
        clear hb1
        obtain ⟨b2, hb2⟩ : ∃ b, b = reachB T.cells T.roots q := ⟨_, rfl⟩
        rw [← hb2] at hstep z0
        clear hb2
        cases b1
        · cases b2
          · go_wp2
            go_roundw
            case rel => exact ⟨k + 1, by rw [hstep.out]; rfl, by go_num, by omega, H⟩
            case measure => simp [intOf]; omega
          · go_wp2
            go_roundw
            case rel => exact ⟨k + 1, by rw [hstep.out]; rfl, by go_num, by omega, H⟩
            case measure => simp [intOf]; omega
        · go_wp2
          go_roundw
          case rel => exact ⟨k + 1, by rw [hstep.out]; rfl, by go_num, by omega, H⟩
          case measure => simp [intOf]; omega
      · obtain ⟨bL, hbL⟩ : ∃ b, b = (xs.take k).any (lostB T) := ⟨_, rfl⟩
        rw [← hbL]
        have HL : Hid (bL = decide (0 < X.length)) := Go.Lib.hid (by rw [hbL, List.take_of_length_le (by omega)]; exact HA.out)
        clear hbL HA
        have H7 := H
        clear H
        go_wp2_with fail
        go_loopw [9] (fun i wr => ∃ k : Nat, i = .int .i64 k ∧ k ≤ X.length ∧ Owns w.heap.size w wr [.bools (.slice A6 Q.length k6) Q, .ints (.slice A2 X.length k2) X, .box w1.heap.size [.slice C T.cells.length kC, .slice R nR kR] 26, .ints (.slice V xs.length kV) xs, .cells (.slice C T.cells.length kC) rvs T.cells, .ints rv0 rs0]) (fun i _ => X.length - (intOf i).toNat)
        case atStart => exact ⟨0, rfl, Nat.zero_le _, H7⟩
        case round =>
          clear H7
          obtain ⟨j, rfl, hj, H⟩ := hrel
          by_cases hlj : j < X.length
          · obtain ⟨r, hr0⟩ : ∃ r, Hid (X[j]? = some r) := ⟨_, Go.Lib.hid (List.getElem?_eq_getElem (by omega))⟩
            obtain ⟨hm1, hm2⟩ := HM.out r (List.mem_of_getElem? hr0.out)
            obtain ⟨q, rfl, hq⟩ := used_nat (HU.out r hm1)
            have hqq := HQ.out q hq
            have hql : q < Q.length := (List.getElem?_eq_some_iff.1 hqq).1
            rw [lostB_nat, Bool.not_eq_true'] at hm2
            rw [hm2] at hqq
            obtain ⟨g1, c1, e1, -, -, -, -⟩ := H.rowAt 1 rfl (by omega)
            simp only [Value.slice.injEq] at e1
            obtain ⟨rfl, -, rfl⟩ := e1
            obtain ⟨g0, c0, e0, -, -, -, -⟩ := H.rowAt 0 rfl (by omega)
            simp only [Value.slice.injEq] at e0
            obtain ⟨rfl, -, rfl⟩ := e0
            obtain ⟨z1, -⟩ := H.elem 1 rfl (j := j) (u := .int .i64 (q : Int)) (by rw [List.getElem?_map, hr0.out]; rfl)
            obtain ⟨z0, -⟩ := H.elem 0 rfl (j := q) (u := .bool false) (by rw [List.getElem?_map, hqq]; rfl)
            have i1 : (0 : Int) ≤ (j : Int) := by omega
            have i2 : (j : Int) < (X.length : Int) := by omega
            have i4 : (0 : Int) ≤ (q : Int) := by omega
            have i5 : (q : Int) < (Q.length : Int) := by omega
            clear hqq hq hr0 hm1 hm2
            go_wp2
            go_roundw
            case rel => exact ⟨j + 1, by go_num, by omega, H⟩
            case measure => simp [intOf]; omega
          · have HB := H.below
            clear H
            have i6 : (X.length : Int) ≤ (xs.length : Int) := by omega
            by_cases h0 : 0 < X.length
            · have i7 : (0 : Int) < (X.length : Int) := by omega
              obtain rfl : bL = true := by rw [HL.out]; exact decide_eq_true h0
              go_wp2
              go_ret
              exact ⟨rfl, HB⟩
            · have i7 : ¬ (0 : Int) < (X.length : Int) := by omega
              obtain rfl : bL = false := by rw [HL.out]; exact decide_eq_false h0
              go_wp2
              go_ret
              exact ⟨rfl, HB⟩
end Go.Proofs.Ytmhcajjlhiopmaa
