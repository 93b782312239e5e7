/- A heap with weak references drawn from a code; the law FnClearWeak's walk. For every code that can be read. -/
import Derived.Test.YtlhecfpflkioeaaWd
import Derived.Test.YtlhecfpflkioeaaAl
import Derived.Test.YtlhecfpflkioeaaSm
import Derived.Test.YtlhecfpflkioeaaRa
import Derived.Test.YtlhecfpflkioeaaCw
namespace Go.Proofs.Ytlhecfpflkioeaa
open Go.RowKit
theorem clr_cases (cs : List Cel) (fr : List Int) (r : Int) : clr cs fr r = r ∨ clr cs fr r = -1 := by
  unfold clr
  split
  · exact .inr rfl
  · exact .inl rfl
theorem clr_neg {cs : List Cel} {fr : List Int} {r : Int} (h : r < 0) : clr cs fr r = r := by
  unfold clr
  rw [if_neg]
  rintro ⟨h1, -⟩
  omega
theorem clr_in {cs : List Cel} {fr : List Int} {q : Nat} (h : reachB cs fr q = true) : clr cs fr (q : Int) = q := by
  unfold clr
  rw [if_neg]
  rintro ⟨-, h1⟩
  simp [h] at h1
theorem clr_out {cs : List Cel} {fr : List Int} {q : Nat} (h : reachB cs fr q = false) : clr cs fr (q : Int) = -1 := by
  unfold clr
  rw [if_pos]
  exact ⟨by omega, by simpa using h⟩
theorem clr_clr (cs : List Cel) (fr : List Int) (r : Int) : clr cs fr (clr cs fr r) = clr cs fr r := by
  rcases clr_cases cs fr r with h | h
  · rw [h, h]
  · rw [h]; exact clr_neg (by omega)
theorem leadsB_one (cs : List Cel) : leadsB cs (-1) = true := by simp [leadsB]
theorem lead_cases {cs : List Cel} {r : Int} (h : leadsB cs r = true) : r = -1 ∨ (0 ≤ r ∧ r.toNat < cs.length) := by
  by_cases h0 : 0 ≤ r
  · exact .inr ⟨h0, usedN_lt (leadsB_used h h0)⟩
  · left
    simp only [leadsB, Bool.or_eq_true, Bool.and_eq_true, beq_iff_eq, decide_eq_true_eq] at h
    rcases h with h | h
    · exact h
    · omega
theorem mWeak_clr {h : Hp} {ws : List Int} (h0 : mWeakValid h ws = true) : mWeakValid h (ws.map (clr h.cells h.roots)) = true := by
  simp only [mWeakValid, Bool.and_eq_true, decide_eq_true_eq, List.all_eq_true] at h0 ⊢
  refine ⟨⟨h0.1.1, by rw [List.length_map]; exact h0.1.2⟩, fun x hx => ?_⟩
  obtain ⟨r, hr, rfl⟩ := List.mem_map.1 hx
  rcases clr_cases h.cells h.roots r with e | e
  · rw [e]; exact h0.2 r hr
  · rw [e]; exact leadsB_one _
theorem mClear_again {h : Hp} {ws : List Int} (h0 : mWeakValid h ws = true) : mClearWeak h (ws.map (clr h.cells h.roots)) = ws.map (clr h.cells h.roots) := by
  rw [mClear_yes (mWeak_clr h0), List.map_map]
  exact List.map_congr_left fun r _ => clr_clr _ _ r
set_option maxHeartbeats 1600000 in
theorem DrawClearWeak_any (w : World) (A : Option Addr) (n c : Nat) (bs : List Int) (hr : RdY w w.heap.size A n c bs) :
    Calls Try.prog 22 #[.slice A n c] w (DrawnHI w) := by
  have H := (Owns.nil w).box [.slice none 0 0, .slice none 0 0] 26
  go_enter Try.func22, Try.ntmps22
  go_wp2_with fail
  refine (open_own H A n c bs hr).mono ?_
  rintro e w1 ⟨g, A1, n1, c1, bs1, rfl, hU, H1⟩
  clear H hr
  go_wp2_with fail
  refine (weak_own H1 0 rfl hU (by omega) 14 (by omega) (by omega)).mono ?_
  rintro e w2 ⟨T, cv, rvs, rv, rv0, v, rs0, xs, p1, rfl, hS, ht, hxl, -, -, H2⟩
  simp only [List.set_cons_zero] at H2
  clear H1 hU
  obtain ⟨C, kC, rfl, -⟩ := H2.formC 1 rfl
  obtain ⟨R0, kR0, e0, -⟩ := H2.formI 2 rfl
  obtain ⟨R, nR, kR, rfl⟩ := ht.form e0
  clear e0
  obtain ⟨y0, y1, y2, y3⟩ := H2.box2 4 rfl
  have HZ := (H2.putBox 4 rfl 0 (.slice C T.cells.length kC)).putBox 4 rfl 1 (.slice R nR kR)
  simp only [List.set_cons_zero, List.set_cons_succ] at HZ
  obtain ⟨z0, z1, -, -⟩ := HZ.box2 4 rfl
  obtain ⟨z2, -, -, -⟩ := (H2.putBox 4 rfl 0 (.slice C T.cells.length kC)).box2 4 rfl
  have HS : Hid (DrawnHI w (.returned (.tuple #[.agg #[.slice C T.cells.length kC, .slice R nR kR], v])) _) := Go.Lib.hid ⟨T, _, rvs, _, _, _, _, xs, rfl, hS, ht, hxl, HZ.take 3⟩
  clear H2 HZ hS ht
  go_wp2
  exact bodyPost_ret (v := .tuple #[.agg #[.slice C T.cells.length kC, .slice R nR kR], v]) (by simp [results, Try.results22, go_sem, z0, z1]) rfl HS.out
set_option maxHeartbeats 6400000 in
set_option maxRecDepth 20000 in
theorem lawClearWeak_any (w : World) {A : Option Addr} {n c : Nat} {bs : List Int} (hr : RdY w w.heap.size A n c bs) :
    Calls Try.prog 7 #[.slice A n c] w fun e w' => e = .returned (.bool true) ∧ Below w.heap.size w w' := by
  by_cases s0 : 1048576 < n
  · go_enter Try.func7, Try.ntmps7
    go_wp2
    go_ret
    exact ⟨rfl, Below.refl _ _⟩
  go_enter Try.func7, Try.ntmps7
  go_wp2_with fail
  refine (DrawClearWeak_any w A n c bs hr).mono ?_
  rintro e w1 ⟨T, cv, rvs, rv, rv0, v, rs0, xs, rfl, hS, ht, hxl, H1⟩
  obtain ⟨C, kC, rfl, -⟩ := H1.formC 1 rfl
  obtain ⟨R0, kR0, e0, -⟩ := H1.formI 2 rfl
  obtain ⟨R, nR, kR, rfl⟩ := ht.form e0
  obtain ⟨V, kV, rfl, -⟩ := H1.formI 0 rfl
  have HT := Go.Lib.hid ht
  clear e0 ht hS hr s0
  have H := H1.box [.slice C T.cells.length kC, .slice R nR kR] 26
  clear H1
  obtain ⟨x0, x1, -, -⟩ := H.box2 0 rfl
  go_wp2_with fail
  refine (implClearWeak_any _ _ _ _ T _ _ _ xs (H.rdHx 2 3 rfl rfl HT.out) (H.owI 1 rfl).rdI).mono ?_
  rintro e w2 ⟨v2, rfl, ho2, hb2⟩
  obtain ⟨X, hX⟩ : ∃ X, X = mClearWeak T xs := ⟨_, rfl⟩
  rw [← hX] at ho2
  have HXe := Go.Lib.hid hX
  clear hX
  have H2 := H.madeI ho2 hb2
  clear H ho2 hb2 x0 x1
  obtain ⟨A2, k2, rfl, -⟩ := H2.formI 0 rfl
  obtain ⟨x0, x1, -, -⟩ := H2.box2 1 rfl
  go_wp2_with fail
  refine (specClearWeak_any _ _ _ _ T _ _ _ xs (H2.rdHx 3 4 rfl rfl HT.out) (H2.owI 2 rfl).rdI).mono ?_
  rintro e w3 ⟨v3, rfl, ho3, hb3⟩
  rw [← HXe.out] at ho3
  have H3 := H2.madeI ho3 hb3
  clear H2 ho3 hb3 x0 x1
  obtain ⟨A3, k3, rfl, -⟩ := H3.formI 0 rfl
  go_wp2_with fail
  refine (sameInts_yes _ _ _ _ _ _ _ _ _ X (H3.owI 1 rfl).rdI (H3.owI 0 rfl).rdI).mono ?_
  rintro e w4 ⟨rfl, hb4⟩
  have H4 := H3.call hb4
  clear H3 hb4
  obtain ⟨x0, x1, -, -⟩ := H4.box2 2 rfl
  go_wp2_with fail
  refine (specWeakValid_any _ _ _ _ T _ _ _ xs (H4.rdHx 4 5 rfl rfl HT.out) (H4.owI 3 rfl).rdI).mono ?_
  rintro e w5 ⟨rfl, hb5⟩
  have H5 := H4.call hb5
  clear H4 hb5 x0 x1
  cases hy : mWeakValid T xs
  · obtain rfl : X = [] := by rw [HXe.out]; exact mClear_no hy
    clear hy
    go_wp2_with fail
    refine (alive_any _).mono ?_
    rintro e w8 ⟨rfl, hb⟩
    have HB := (H5.call hb).below
    clear H5 hb
    go_wp2
    go_ret
    exact ⟨rfl, HB⟩
  · obtain ⟨s1, s2, s3⟩ := mWeak_parts hy
    have HE : Hid (X = xs.map (clr T.cells T.roots)) := Go.Lib.hid (HXe.out.trans (mClear_yes hy))
    have HG : Hid (mClearWeak T X = X) := Go.Lib.hid (by rw [HE.out]; exact mClear_again hy)
    have hl1 : X.length ≤ xs.length := by rw [HE.out]; simp
    have hl2 : xs.length ≤ X.length := by rw [HE.out]; simp
    have hll : ((X.length : Int) == (xs.length : Int)) = true := by simp; omega
    obtain ⟨x0, x1, -, -⟩ := H5.box2 2 rfl
    clear hy
    go_wp2_with fail
    refine (implReachable_any _ _ _ T (H5.rdHx 4 5 rfl rfl HT.out)).mono ?_
    rintro e w6 ⟨v6, rfl, ho6, hb6⟩
    obtain ⟨Q, hQ⟩ : ∃ Q, Q = mReachable T := ⟨_, rfl⟩
    rw [← hQ] at ho6
    have HQ : Hid (∀ q, q < T.cells.length → Q[q]? = some (reachB T.cells T.roots q)) := Go.Lib.hid fun q hq => by rw [hQ, mReachable_yes s1]; exact reachL_at hq
    clear hQ s1
    have H6 := H5.madeB ho6 hb6
    clear H5 ho6 hb6 x0 x1
    obtain ⟨A6, k6, rfl, -⟩ := H6.formB 0 rfl
    go_wp2_with fail
    go_loopw [7, 8] (fun i _ wr => ∃ k : Nat, i = .int .i64 k ∧ k ≤ X.length ∧ Owns w.heap.size w wr [.bools (.slice A6 Q.length k6) Q, .ints (.slice A3 X.length k3) X, .ints (.slice A2 X.length k2) X, .box w1.heap.size [.slice C T.cells.length kC, .slice R nR kR] 26, .ints (.slice V xs.length kV) xs, .cells (.slice C T.cells.length kC) rvs T.cells, .ints rv0 rs0]) (fun i _ _ => X.length - (intOf i).toNat)
    case atStart => exact ⟨0, rfl, Nat.zero_le _, H6⟩
    case round =>
      clear H6
      obtain ⟨k, rfl, hk, H⟩ := hrel
      by_cases hlt : k < X.length
      · obtain ⟨r, hr0⟩ : ∃ r, xs[k]? = some r := ⟨_, List.getElem?_eq_getElem (by omega)⟩
        have hc0 : X[k]? = some (clr T.cells T.roots r) := by rw [HE.out, List.getElem?_map, hr0]; rfl
        have hlead := s3 r (List.mem_of_getElem? hr0)
        obtain ⟨g4, c4, e4, -, -, -, -⟩ := H.rowAt 4 rfl (by omega)
        simp only [Value.slice.injEq] at e4
        obtain ⟨rfl, -, rfl⟩ := e4
        obtain ⟨g2, c2, e2, -, -, -, -⟩ := H.rowAt 2 rfl (by omega)
        simp only [Value.slice.injEq] at e2
        obtain ⟨rfl, -, rfl⟩ := e2
        obtain ⟨z4, -⟩ := H.elem 4 rfl (j := k) (u := .int .i64 r) (by rw [List.getElem?_map, hr0]; rfl)
        obtain ⟨z2, -⟩ := H.elem 2 rfl (j := k) (u := .int .i64 (clr T.cells T.roots r)) (by rw [List.getElem?_map, hc0]; rfl)
        clear hr0 hc0
        have i1 : (0 : Int) ≤ (k : Int) := by omega
        have i2 : (k : Int) < (X.length : Int) := by omega
        have i3 : (k : Int) < (xs.length : Int) := by omega
        rcases lead_cases hlead with rfl | ⟨h0, hq⟩
        · rw [clr_neg (by omega)] at z2
          clear hlead
          go_wp2_with fail
          refine wp_region_tree (fun w' => w'.cell? ⟨g4, k, none⟩ = some (.int .i64 (-1)) ∧ w'.cell? ⟨g2, k, none⟩ = some (.int .i64 (-1))) 23 [] (.take 0 (.take 1 (.take 2 (.take 3 (.take 4 (.take 5 (.take 6 (.take 7 (.take 8 (.take 9 (.take 10 (.take 11 (.take 12 (.take 13 (.take 14 (.take 15 (.take 16 (.take 17 (.take 18 (.take 19 (.take 20 (.take 21 (.take 22 (.done)))))))))))))))))))))))) (by kernel_rfl) (by kernel_rfl) (by kernel_rfl) (⟨z4, z2⟩) ?_
          simp only [fillT, List.getElem?_cons_zero, List.getElem?_cons_succ]
          repeat (first
            | (with_reducible refine po_take (v := ?_) ?_ (fun w' hS' => ?_) ?_
               rotate_left
               · (go_simp; done)
               · ((try dsimp only at hS'); go_simp; try with_reducible rfl)
               simp only [Act.put, List.setIfInBounds_toArray, List.set_cons_zero, List.set_cons_succ])
            | (with_reducible refine po_skip ?_ ?_
               · (go_simp; done)
               simp only [Act.put, List.setIfInBounds_toArray, List.set_cons_zero, List.set_cons_succ]))
          refine po_done ?_
          go_wp2
          go_roundw
          case rel => exact ⟨k + 1, by go_num, by omega, H.drew⟩
          case measure => simp [intOf]; omega
        · obtain ⟨q, rfl⟩ := Int.eq_ofNat_of_zero_le h0
          rw [Int.toNat_natCast] at hq
          have hqq := HQ.out q hq
          have hql : q < Q.length := (List.getElem?_eq_some_iff.1 hqq).1
          obtain ⟨g0, c0, e5, -, -, -, -⟩ := H.rowAt 0 rfl (by omega)
          simp only [Value.slice.injEq] at e5
          obtain ⟨rfl, -, rfl⟩ := e5
          obtain ⟨z0, -⟩ := H.elem 0 rfl (j := q) (u := .bool (reachB T.cells T.roots q)) (by rw [List.getElem?_map, hqq]; rfl)
          have i4 : (0 : Int) ≤ (q : Int) := by omega
          have i5 : (q : Int) < (Q.length : Int) := by omega
          clear hqq hlead
          cases hrb : reachB T.cells T.roots q
          · rw [clr_out hrb] at z2
            rw [hrb] at z0
            clear hrb
            go_wp2_with fail
            refine wp_region_tree (fun w' => w'.cell? ⟨g4, k, none⟩ = some (.int .i64 (q : Int)) ∧ w'.cell? ⟨g2, k, none⟩ = some (.int .i64 (-1))) 23 [] (.take 0 (.take 1 (.take 2 (.take 3 (.take 4 (.take 5 (.take 6 (.take 7 (.take 8 (.take 9 (.take 10 (.take 11 (.take 12 (.take 13 (.take 14 (.take 15 (.take 16 (.take 17 (.take 18 (.take 19 (.take 20 (.take 21 (.take 22 (.done)))))))))))))))))))))))) (by kernel_rfl) (by kernel_rfl) (by kernel_rfl) (⟨z4, z2⟩) ?_
            simp only [fillT, List.getElem?_cons_zero, List.getElem?_cons_succ]
            repeat (first
              | (with_reducible refine po_take (v := ?_) ?_ (fun w' hS' => ?_) ?_
                 rotate_left
                 · (go_simp; done)
                 · ((try dsimp only at hS'); go_simp; try with_reducible rfl)
                 simp only [Act.put, List.setIfInBounds_toArray, List.set_cons_zero, List.set_cons_succ])
              | (with_reducible refine po_skip ?_ ?_
                 · (go_simp; done)
                 simp only [Act.put, List.setIfInBounds_toArray, List.set_cons_zero, List.set_cons_succ]))
            refine po_done ?_
            go_wp2
            go_roundw
            case rel => exact ⟨k + 1, by go_num, by omega, H.drew⟩
            case measure => simp [intOf]; omega
          · rw [clr_in hrb] at z2
            rw [hrb] at z0
            clear hrb
            go_wp2_with fail
            refine wp_region_tree (fun w' => w'.cell? ⟨g4, k, none⟩ = some (.int .i64 (q : Int)) ∧ w'.cell? ⟨g2, k, none⟩ = some (.int .i64 (q : Int))) 23 [] (.take 0 (.take 1 (.take 2 (.take 3 (.take 4 (.take 5 (.take 6 (.take 7 (.take 8 (.take 9 (.take 10 (.take 11 (.take 12 (.take 13 (.take 14 (.take 15 (.take 16 (.take 17 (.take 18 (.take 19 (.take 20 (.take 21 (.take 22 (.done)))))))))))))))))))))))) (by kernel_rfl) (by kernel_rfl) (by kernel_rfl) (⟨z4, z2⟩) ?_
            simp only [fillT, List.getElem?_cons_zero, List.getElem?_cons_succ]
            repeat (first
              | (with_reducible refine po_take (v := ?_) ?_ (fun w' hS' => ?_) ?_
                 rotate_left
                 · (go_simp; done)
                 · ((try dsimp only at hS'); go_simp; try with_reducible rfl)
                 simp only [Act.put, List.setIfInBounds_toArray, List.set_cons_zero, List.set_cons_succ])
              | (with_reducible refine po_skip ?_ ?_
                 · (go_simp; done)
                 simp only [Act.put, List.setIfInBounds_toArray, List.set_cons_zero, List.set_cons_succ]))
            refine po_done ?_
            go_wp2
            go_roundw
            case rel => exact ⟨k + 1, by go_num, by omega, H.drew⟩
            case measure => simp [intOf]; omega
      · obtain ⟨x0, x1, -, -⟩ := H.box2 3 rfl
        go_wp2_with fail
        refine (implClearWeak_any _ _ _ _ T _ _ _ X (H.rdHx 5 6 rfl rfl HT.out) (H.owI 2 rfl).rdI).mono ?_
        rintro e w7 ⟨v7, rfl, ho7, hb7⟩
        rw [HG.out] at ho7
        have H7 := H.madeI ho7 hb7
        clear H ho7 hb7 x0 x1
        obtain ⟨A7, k7, rfl, -⟩ := H7.formI 0 rfl
        go_wp2_with fail
        refine (sameInts_yes _ _ _ _ _ _ _ _ _ X (H7.owI 0 rfl).rdI (H7.owI 3 rfl).rdI).mono ?_
        rintro e w8 ⟨rfl, hb8⟩
        have HB := (H7.call hb8).below
        clear H7 hb8
        go_wp2
        go_ret
        exact ⟨rfl, HB⟩
end Go.Proofs.Ytlhecfpflkioeaa
