/- A heap with watched cells drawn from a code; the law FnFinalOrder's walk. For every code that can be read. -/
import Derived.Test.YtpglhmlebcigfaaOo
import Derived.Test.YtpglhmlebcigfaaAl
import Derived.Test.YtpglhmlebcigfaaWa
import Derived.Test.YtpglhmlebcigfaaSm
import Derived.Test.YtpglhmlebcigfaaRa
import Derived.Test.YtpglhmlebcigfaaFo
import Derived.Test.YtpglhmlebcigfaaOq
import Derived.Test.YtpglhmlebcigfaaCf
import Derived.Test.YtpglhmlebcigfaaBl
namespace Go.Proofs.Ytpglhmlebcigfaa
open Go.RowKit
theorem used_natF {cs : List Cel} {r : Int} (h : usedB cs r = true) : ∃ q : Nat, r = (q : Int) ∧ q < cs.length := by
  simp only [usedB, Bool.and_eq_true, decide_eq_true_eq] at h
  exact ⟨r.toNat, by omega, by omega⟩
theorem lostB_natF (h : Hp) (q : Nat) : lostB h (q : Int) = !(reachB h.cells h.roots q) := by unfold lostB; rw [Int.toNat_natCast]
set_option maxHeartbeats 1600000 in
theorem DrawFinalOrder_any (w : World) (A : Option Addr) (n c : Nat) (bs : List Int) (hr : RdY w w.heap.size A n c bs) :
    Calls Try.prog 7 #[.slice A n c] w (DrawnHI w) := by
  have H := (Owns.nil w).box [.slice none 0 0, .slice none 0 0] 26
  go_enter Try.func7, Try.ntmps7
  go_wp2_with fail
  refine (open_own H A n c bs hr).mono ?_
  rintro e w1 ⟨g, A1, n1, c1, bs1, rfl, hU, H1⟩
  clear H hr
  go_wp2_with fail
  refine (watched_own H1 0 rfl hU (by omega) 14 (by omega) (by omega)).mono ?_
  rintro e w2 ⟨T, cv, rvs, rv, rv0, v, rs0, xs, p1, rfl, hS, ht, hxl, -, -, H2⟩
  simp only [List.set_cons_zero] at H2
  clear H1 hU
  obtain ⟨C, kC, rfl, -⟩ := H2.formC 1 rfl
  obtain ⟨R0, kR0, e0, -⟩ := H2.formI 2 rfl
  obtain ⟨R, nR, kR, rfl⟩ := ht.form e0
  clear e0
  obtain ⟨y0, y1, y2, y3⟩ := H2.box2 4 rfl
  have HZ := (H2.putBox 4 rfl 0 (.slice C T.cells.length kC)).putBox 4 rfl 1 (.slice R nR kR)
  simp only [List.set_cons_zero, List.set_cons_succ, List.eraseIdx_cons_zero, List.eraseIdx_cons_succ, List.drop_succ_cons, List.drop_zero, List.take_succ_cons, List.take_zero, List.length_append, List.length_cons, List.length_nil, List.nil_append, Nat.zero_add, World.size_alloc] at HZ
  obtain ⟨z0, z1, -, -⟩ := HZ.box2 4 rfl
  obtain ⟨z2, -, -, -⟩ := (H2.putBox 4 rfl 0 (.slice C T.cells.length kC)).box2 4 rfl
  have HS : Hid (DrawnHI w (.returned (.tuple #[.agg #[.slice C T.cells.length kC, .slice R nR kR], v])) _) := Go.Lib.hid ⟨T, _, rvs, _, _, _, _, xs, rfl, hS, ht, hxl, HZ.take 3⟩
  clear H2 HZ hS ht
  go_wp2
  exact bodyPost_ret (v := .tuple #[.agg #[.slice C T.cells.length kC, .slice R nR kR], v]) (by simp [results, Try.results7, go_sem, z0, z1, z2]) rfl HS.out
set_option maxHeartbeats 6400000 in
set_option maxRecDepth 20000 in
theorem lawFinalOrder_any (w : World) {A : Option Addr} {n c : Nat} {bs : List Int} (hr : RdY w w.heap.size A n c bs) :
    Calls Try.prog 3 #[.slice A n c] w fun e w' => e = .returned (.bool true) ∧ Below w.heap.size w w' := by
  by_cases s0 : 1048576 < n
  · go_enter Try.func3, Try.ntmps3
    go_wp2
    go_ret
    exact ⟨rfl, Below.refl _ _⟩
  go_enter Try.func3, Try.ntmps3
  go_wp2_with fail
  refine (DrawFinalOrder_any w A n c bs hr).mono ?_
  rintro e w1 ⟨T, cv, rvs, rv, rv0, v, rs0, xs, rfl, hS, ht, hxl, H1⟩
  obtain ⟨C, kC, rfl, -⟩ := H1.formC 1 rfl
  obtain ⟨R0, kR0, e0, -⟩ := H1.formI 2 rfl
  obtain ⟨R, nR, kR, rfl⟩ := ht.form e0
  obtain ⟨V, kV, rfl, -⟩ := H1.formI 0 rfl
  have HT := Go.Lib.hid ht
  clear e0 ht hS hr s0
  have H := H1.box [.slice C T.cells.length kC, .slice R nR kR] 26
  clear H1
  obtain ⟨x0, x1, -, -⟩ := H.box2 0 rfl
  go_wp2_with fail
  refine (implFinalOrder_any _ _ _ _ T _ _ _ xs (H.rdHx 2 3 rfl rfl HT.out) (H.owI 1 rfl).rdI).mono ?_
  rintro e w2 ⟨v2, rfl, ho2, hb2⟩
  obtain ⟨X, hX⟩ : ∃ X, X = mFinalOrder T xs := ⟨_, rfl⟩
  rw [← hX] at ho2
  have HXe := Go.Lib.hid hX
  clear hX
  have H2 := H.madeI ho2 hb2
  clear H ho2 hb2 x0 x1
  obtain ⟨A2, k2, rfl, -⟩ := H2.formI 0 rfl
  obtain ⟨x0, x1, -, -⟩ := H2.box2 1 rfl
  go_wp2_with fail
  refine (specFinalOrder_any _ _ _ _ T _ _ _ xs (H2.rdHx 3 4 rfl rfl HT.out) (H2.owI 2 rfl).rdI).mono ?_
  rintro e w3 ⟨v3, rfl, ho3, hb3⟩
  rw [← HXe.out] at ho3
  have H3 := H2.madeI ho3 hb3
  clear H2 ho3 hb3 x0 x1
  obtain ⟨A3, k3, rfl, -⟩ := H3.formI 0 rfl
  go_wp2_with fail
  refine (sameInts_yes _ _ _ _ _ _ _ _ _ X (H3.owI 1 rfl).rdI (H3.owI 0 rfl).rdI).mono ?_
  rintro e w4 ⟨rfl, hb4⟩
  have H4 := (H3.call hb4).erase 0
  simp only [List.eraseIdx_cons_zero] at H4
  clear H3 hb4
  obtain ⟨x0, x1, -, -⟩ := H4.box2 1 rfl
  go_wp2_with fail
  refine (specWatchedValid_any _ _ _ _ T _ _ _ xs (H4.rdHx 3 4 rfl rfl HT.out) (H4.owI 2 rfl).rdI).mono ?_
  rintro e w5 ⟨rfl, hb5⟩
  have H5 := H4.call hb5
  clear H4 hb5 x0 x1
  cases hy : mWatchedValid T xs
  · obtain rfl : X = [] := by rw [HXe.out]; exact mFinal_no hy
    clear hy
    go_wp2_with fail
    refine (alive_any _).mono ?_
    rintro e w8 ⟨rfl, hb⟩
    have HB := (H5.call hb).below
    clear H5 hb
    go_wp2
    go_ret
    exact ⟨rfl, HB⟩
  · obtain ⟨s1, s2, -⟩ := mWatched_iff.1 hy
    obtain ⟨f1, f2, f3⟩ := final_facts hy
    rw [← HXe.out] at f1 f2 f3
    have HU : Hid (∀ r ∈ xs, usedB T.cells r = true) := Go.Lib.hid s2
    have HLen := Go.Lib.hid f1
    have HPr := Go.Lib.hid f2
    have HUx := Go.Lib.hid f3
    have HOK := Go.Lib.hid s1
    have h40 := (heapOk_small s1).1
    have hX60 : X.length ≤ 60 := by
      have := List.length_filter_le (lostB T) xs
      omega
    obtain ⟨x0, x1, -, -⟩ := H5.box2 1 rfl
    clear hy s2 HXe f1 f2 f3
    go_wp2_with fail
    refine (implReachable_any _ _ _ T (H5.rdHx 3 4 rfl rfl HT.out)).mono ?_
    rintro e w6 ⟨v6, rfl, ho6, hb6⟩
    obtain ⟨Q, hQ⟩ : ∃ Q, Q = mReachable T := ⟨_, rfl⟩
    rw [← hQ] at ho6
    have HQ : Hid (∀ q, q < T.cells.length → Q[q]? = some (reachB T.cells T.roots q)) := Go.Lib.hid fun q hq => by rw [hQ, mReachable_yes s1]; exact reachL_at hq
    clear hQ s1
    have H6 := H5.madeB ho6 hb6
    clear H5 ho6 hb6 x0 x1
    obtain ⟨A6, k6, rfl, -⟩ := H6.formB 0 rfl
    go_wp2_with fail
    go_loopw [7, 8] (fun vl i wr => ∃ k : Nat, vl = .int .i64 ((((xs.take k).filter (lostB T)).length : Nat) : Int) ∧ i = .int .i64 k ∧ k ≤ xs.length ∧ Owns w.heap.size w wr [.bools (.slice A6 Q.length k6) Q, .ints (.slice A2 X.length k2) X, .box w1.heap.size [.slice C T.cells.length kC, .slice R nR kR] 26, .ints (.slice V xs.length kV) xs, .cells (.slice C T.cells.length kC) rvs T.cells, .ints rv0 rs0]) (fun _ i _ => xs.length - (intOf i).toNat)
    case atStart => exact ⟨0, by simp, rfl, Nat.zero_le _, H6⟩
    case round =>
      clear H6
      obtain ⟨k, rfl, rfl, hk, H⟩ := hrel
      by_cases hlt : k < xs.length
      · obtain ⟨r, hr0⟩ : ∃ r, Hid (xs[k]? = some r) := ⟨_, Go.Lib.hid (List.getElem?_eq_getElem (by omega))⟩
        have hstep : Hid (((xs.take (k + 1)).filter (lostB T)).length = ((xs.take k).filter (lostB T)).length + (if lostB T r then 1 else 0)) := Go.Lib.hid (by rw [filter_succ hr0, List.length_append]; cases lostB T r <;> rfl)
        obtain ⟨q, rfl, hq⟩ := used_natF (HU.out r (List.mem_of_getElem? hr0.out))
        have hqq := HQ.out q hq
        have hql : q < Q.length := (List.getElem?_eq_some_iff.1 hqq).1
        obtain ⟨g3, c3, e3, -, -, -, -⟩ := H.rowAt 3 rfl (by omega)
        simp only [Value.slice.injEq] at e3
        obtain ⟨rfl, -, rfl⟩ := e3
        obtain ⟨g0, c0, e0, -, -, -, -⟩ := H.rowAt 0 rfl (by omega)
        simp only [Value.slice.injEq] at e0
        obtain ⟨rfl, -, rfl⟩ := e0
        obtain ⟨z3, -⟩ := H.elem 3 rfl (j := k) (u := .int .i64 (q : Int)) (by rw [List.getElem?_map, hr0.out]; rfl)
        obtain ⟨z0, -⟩ := H.elem 0 rfl (j := q) (u := .bool (reachB T.cells T.roots q)) (by rw [List.getElem?_map, hqq]; rfl)
        have i1 : (0 : Int) ≤ (k : Int) := by omega
        have i2 : (k : Int) < (xs.length : Int) := by omega
        have i4 : (0 : Int) ≤ (q : Int) := by omega
        have i5 : (q : Int) < (Q.length : Int) := by omega
        have hcnt := List.length_filter_le (lostB T) (xs.take k)
        rw [List.length_take] at hcnt
        rw [lostB_natF] at hstep
        clear hqq hq hr0
        obtain ⟨m, hm⟩ : ∃ m, m = ((xs.take k).filter (lostB T)).length := ⟨_, rfl⟩
        rw [← hm] at hstep hcnt ⊢
        have hm60 : m ≤ 60 := by omega
        clear hm hcnt
        obtain ⟨b2, hb2⟩ : ∃ b, b = reachB T.cells T.roots q := ⟨_, rfl⟩
        rw [← hb2] at hstep z0
        clear hb2
        cases b2
        · go_wp2
          go_roundw
          case rel => exact ⟨k + 1, by rw [hstep.out]; simp, by go_num, by omega, H⟩
          case measure => simp [intOf]; omega
        · go_wp2
          go_roundw
          case rel => exact ⟨k + 1, by rw [hstep.out]; simp, by go_num, by omega, H⟩
          case measure => simp [intOf]; omega
      · have hend : Hid (((xs.take k).filter (lostB T)).length = X.length) := Go.Lib.hid (by rw [HLen.out, List.take_of_length_le (by omega)])
        rw [hend.out]
        clear hend HLen
        have H7 := H
        clear H
        go_wp2_with fail
        clear hlt hk
        go_loopw [9] (fun i wr => ∃ k : Nat, i = .int .i64 k ∧ k ≤ X.length ∧ Owns w.heap.size w wr [.bools (.slice A6 Q.length k6) Q, .ints (.slice A2 X.length k2) X, .box w1.heap.size [.slice C T.cells.length kC, .slice R nR kR] 26, .ints (.slice V xs.length kV) xs, .cells (.slice C T.cells.length kC) rvs T.cells, .ints rv0 rs0]) (fun i _ => X.length - (intOf i).toNat)
        case atStart => exact ⟨0, rfl, Nat.zero_le _, H7⟩
        case round =>
          clear H7
          obtain ⟨m, rfl, hm, H⟩ := hrel
          by_cases hlm : m < X.length
          · have H8 := H
            clear H
            go_wp2_with fail
            go_loopw [10] (fun i wr => ∃ j : Nat, i = .int .i64 j ∧ j ≤ m ∧ Owns w.heap.size w wr [.bools (.slice A6 Q.length k6) Q, .ints (.slice A2 X.length k2) X, .box w1.heap.size [.slice C T.cells.length kC, .slice R nR kR] 26, .ints (.slice V xs.length kV) xs, .cells (.slice C T.cells.length kC) rvs T.cells, .ints rv0 rs0]) (fun i _ => m - (intOf i).toNat)
            case atStart => exact ⟨0, rfl, Nat.zero_le _, H8⟩
            case round =>
              clear H8
              obtain ⟨j, rfl, hj, H⟩ := hrel
              by_cases hjm : j < m
              · obtain ⟨a, ha0⟩ : ∃ r, Hid (X[m]? = some r) := ⟨_, Go.Lib.hid (List.getElem?_eq_getElem hlm)⟩
                obtain ⟨b, hb0⟩ : ∃ r, Hid (X[j]? = some r) := ⟨_, Go.Lib.hid (List.getElem?_eq_getElem (by omega))⟩
                have hord := pair_at HPr.out hjm hb0.out ha0.out
                have HUa := Go.Lib.hid (HUx.out a (List.mem_of_getElem? ha0.out))
                have HUb := Go.Lib.hid (HUx.out b (List.mem_of_getElem? hb0.out))
                obtain ⟨qa, rfl, hqa⟩ := used_natF HUa.out
                obtain ⟨qb, rfl, hqb⟩ := used_natF HUb.out
                obtain ⟨hne, himp⟩ := hord
                rw [toB_nat, toB_nat] at himp
                obtain ⟨x0, x1, -, -⟩ := H.box2 2 rfl
                obtain ⟨g1, c1, e1, -, -, -, -⟩ := H.rowAt 1 rfl (by omega)
                simp only [Value.slice.injEq] at e1
                obtain ⟨rfl, -, rfl⟩ := e1
                obtain ⟨za, -⟩ := H.elem 1 rfl (j := m) (u := .int .i64 (qa : Int)) (by rw [List.getElem?_map, ha0.out]; rfl)
                obtain ⟨zb, -⟩ := H.elem 1 rfl (j := j) (u := .int .i64 (qb : Int)) (by rw [List.getElem?_map, hb0.out]; rfl)
                have i1 : (0 : Int) ≤ (m : Int) := by omega
                have i2 : (m : Int) < (X.length : Int) := by omega
                have i3 : (0 : Int) ≤ (j : Int) := by omega
                have i4 : (j : Int) < (X.length : Int) := by omega
                have i5 : (0 : Int) ≤ (qa : Int) := by omega
                have i6 : (0 : Int) ≤ (qb : Int) := by omega
                have e9 : ((qb : Int) == (qa : Int)) = false := by rw [beq_eq_false_iff_ne]; exact hne
                have HIm := Go.Lib.hid himp
                have hea : (X.map (Value.int .i64))[m]? = some (.int .i64 (qa : Int)) := by rw [List.getElem?_map, ha0.out]; rfl
                have heb : (X.map (Value.int .i64))[j]? = some (.int .i64 (qb : Int)) := by rw [List.getElem?_map, hb0.out]; rfl
                have HEa := Go.Lib.hid hea
                have HEb := Go.Lib.hid heb
                clear himp hne ha0 hb0 hea heb
                go_wp2_with fail
                have HX := H.drew
                have H0 := Go.Lib.hid H
                clear H
                refine wp_region_tree (fun w' => (w'.cell? ⟨w1.heap.size, 0, none⟩ = some (.slice C T.cells.length kC) ∧ w'.cell? ⟨w1.heap.size, 1, none⟩ = some (.slice R nR kR)) ∧ w'.cell? ⟨g1, m, none⟩ = some (.int .i64 (qa : Int)) ∧ w'.cell? ⟨g1, j, none⟩ = some (.int .i64 (qb : Int))) 7 [] (.take 0 (.take 1 (.take 2 (.take 3 (.take 4 (.alt 5 (.take 6 (.done)) (.stop))))))) (by kernel_rfl) (by kernel_rfl) (by kernel_rfl) (⟨⟨x0, x1⟩, za, zb⟩) ?_
                simp only [fillT, List.getElem?_cons_zero, List.getElem?_cons_succ, Nat.reduceBEq]
                repeat (first
                  | (with_reducible refine po_take (v := ?_) ?_ (fun w' hS' => ?_) ?_
                     rotate_left
                     · (go_simp; done)
                     · ((try dsimp only at hS'); go_simp; try with_reducible rfl)
                     simp only [Act.put, List.setIfInBounds_toArray, List.set_cons_zero, List.set_cons_succ])
                  | (with_reducible refine po_skip ?_ ?_
                     · (go_simp; done)
                     simp only [Act.put, List.setIfInBounds_toArray, List.set_cons_zero, List.set_cons_succ]))
                with_reducible refine po_run ?_ (fun K hK => ?_) ?_
                · (go_simp; done)
                rotate_left
                · exact po_stop
                go_simp
                refine (implCellsFrom_any _ _ _ T (qa : Int) (HX.rdHx 4 5 rfl rfl HT.out) HOK.out HUa.out).mono ?_
                rintro e w7 ⟨v7, rfl, ho7, hb7⟩
                obtain ⟨F, hF⟩ : ∃ F, F = reachL T.cells [(qa : Int)] := ⟨_, rfl⟩
                rw [← hF] at ho7
                have hFl : T.cells.length ≤ F.length := by rw [hF]; simp [reachL]
                have HFa : Hid (F[qb]? = some (reachB T.cells [(qa : Int)] qb)) := Go.Lib.hid (by rw [hF]; exact reachL_at hqb)
                clear hF
                have HY := HX.madeB ho7 hb7
                clear HX ho7
                have HX := HY
                clear HY
                obtain ⟨A7, k7, rfl, -⟩ := HX.formB 0 rfl
                refine hK.out _ _ (.inr (⟨⟨keepd x0 hb7, keepd x1 hb7⟩, keepd za hb7, keepd zb hb7⟩)) ?_
                clear hK K
                repeat (first
                  | (with_reducible refine po_take (v := ?_) ?_ (fun w' hS' => ?_) ?_
                     rotate_left
                     · (go_simp; done)
                     · ((try dsimp only at hS'); go_simp; try with_reducible rfl)
                     simp only [Act.put, List.setIfInBounds_toArray, List.set_cons_zero, List.set_cons_succ])
                  | (with_reducible refine po_skip ?_ ?_
                     · (go_simp; done)
                     simp only [Act.put, List.setIfInBounds_toArray, List.set_cons_zero, List.set_cons_succ]))
                refine po_done ?_
                clear x0 x1 za zb hb7 H0
                have H9 := HX
                clear HX
                obtain ⟨x0, x1, -, -⟩ := H9.box2 3 rfl
                obtain ⟨za, -⟩ := H9.elem 2 rfl (j := m) (u := .int .i64 (qa : Int)) HEa.out
                obtain ⟨zb, -⟩ := H9.elem 2 rfl (j := j) (u := .int .i64 (qb : Int)) HEb.out
                go_wp2_with fail
                have HX := H9.drew
                have H0 := Go.Lib.hid H9
                clear H9
                refine wp_region_tree (fun w' => (w'.cell? ⟨w1.heap.size, 0, none⟩ = some (.slice C T.cells.length kC) ∧ w'.cell? ⟨w1.heap.size, 1, none⟩ = some (.slice R nR kR)) ∧ w'.cell? ⟨g1, m, none⟩ = some (.int .i64 (qa : Int)) ∧ w'.cell? ⟨g1, j, none⟩ = some (.int .i64 (qb : Int))) 7 [] (.take 0 (.take 1 (.take 2 (.take 3 (.take 4 (.alt 5 (.take 6 (.done)) (.stop))))))) (by kernel_rfl) (by kernel_rfl) (by kernel_rfl) (⟨⟨x0, x1⟩, za, zb⟩) ?_
                simp only [fillT, List.getElem?_cons_zero, List.getElem?_cons_succ, Nat.reduceBEq]
                repeat (first
                  | (with_reducible refine po_take (v := ?_) ?_ (fun w' hS' => ?_) ?_
                     rotate_left
                     · (go_simp; done)
                     · ((try dsimp only at hS'); go_simp; try with_reducible rfl)
                     simp only [Act.put, List.setIfInBounds_toArray, List.set_cons_zero, List.set_cons_succ])
                  | (with_reducible refine po_skip ?_ ?_
                     · (go_simp; done)
                     simp only [Act.put, List.setIfInBounds_toArray, List.set_cons_zero, List.set_cons_succ]))
                with_reducible refine po_run ?_ (fun K hK => ?_) ?_
                · (go_simp; done)
                rotate_left
                · exact po_stop
                go_simp
                refine (implCellsFrom_any _ _ _ T (qb : Int) (HX.rdHx 5 6 rfl rfl HT.out) HOK.out HUb.out).mono ?_
                rintro e w8 ⟨v8, rfl, ho8, hb8⟩
                obtain ⟨G, hG⟩ : ∃ G, G = reachL T.cells [(qb : Int)] := ⟨_, rfl⟩
                rw [← hG] at ho8
                have hGl : T.cells.length ≤ G.length := by rw [hG]; simp [reachL]
                have HGa : Hid (G[qa]? = some (reachB T.cells [(qb : Int)] qa)) := Go.Lib.hid (by rw [hG]; exact reachL_at hqa)
                clear hG
                have HY := HX.madeB ho8 hb8
                clear HX ho8
                have HX := HY
                clear HY
                obtain ⟨A8, k8, rfl, -⟩ := HX.formB 0 rfl
                refine hK.out _ _ (.inr (⟨⟨keepd x0 hb8, keepd x1 hb8⟩, keepd za hb8, keepd zb hb8⟩)) ?_
                clear hK K
                repeat (first
                  | (with_reducible refine po_take (v := ?_) ?_ (fun w' hS' => ?_) ?_
                     rotate_left
                     · (go_simp; done)
                     · ((try dsimp only at hS'); go_simp; try with_reducible rfl)
                     simp only [Act.put, List.setIfInBounds_toArray, List.set_cons_zero, List.set_cons_succ])
                  | (with_reducible refine po_skip ?_ ?_
                     · (go_simp; done)
                     simp only [Act.put, List.setIfInBounds_toArray, List.set_cons_zero, List.set_cons_succ]))
                refine po_done ?_
                clear x0 x1 za zb hb8 H0
                have H9 := HX
                clear HX
                have j1 : (qb : Int) < (F.length : Int) := by omega
                have j2 : (qa : Int) < (G.length : Int) := by omega
                have j3 : ¬ ((F.length : Int) ≤ (qb : Int)) := by omega
                have j4 : ¬ ((G.length : Int) ≤ (qa : Int)) := by omega
                have j5 : ¬ ((qb : Int) < 0) := by omega
                have j6 : ¬ ((qa : Int) < 0) := by omega
                have j7 : ¬ (F.length ≤ qb) := by omega
                have j8 : ¬ (G.length ≤ qa) := by omega
                obtain ⟨gG, cG, eG, -, -, -, -⟩ := H9.rowAt 0 rfl (by omega)
                simp only [Value.slice.injEq] at eG
                obtain ⟨rfl, -, rfl⟩ := eG
                obtain ⟨gF, cF, eF, -, -, -, -⟩ := H9.rowAt 1 rfl (by omega)
                simp only [Value.slice.injEq] at eF
                obtain ⟨rfl, -, rfl⟩ := eF
                obtain ⟨za, -⟩ := H9.elem 3 rfl (j := m) (u := .int .i64 (qa : Int)) HEa.out
                obtain ⟨zb, -⟩ := H9.elem 3 rfl (j := j) (u := .int .i64 (qb : Int)) HEb.out
                obtain ⟨fa, -⟩ := H9.elem 1 rfl (j := qb) (u := .bool (reachB T.cells [(qa : Int)] qb)) (by rw [List.getElem?_map, HFa.out]; rfl)
                obtain ⟨fb, -⟩ := H9.elem 0 rfl (j := qa) (u := .bool (reachB T.cells [(qb : Int)] qa)) (by rw [List.getElem?_map, HGa.out]; rfl)
                have HX := (H9.drew.erase 0).erase 0
                simp only [List.eraseIdx_cons_zero] at HX
                clear H9
                cases hfa : reachB T.cells [(qa : Int)] qb
                · rw [hfa] at fa
                  obtain ⟨b2, hb2⟩ : ∃ b, b = reachB T.cells [(qb : Int)] qa := ⟨_, rfl⟩
                  rw [← hb2] at fb
                  clear hfa hb2
                  go_wp2_with fail
                  refine wp_region_tree (fun w' => (w'.cell? ⟨g1, m, none⟩ = some (.int .i64 (qa : Int)) ∧ w'.cell? ⟨g1, j, none⟩ = some (.int .i64 (qb : Int))) ∧ w'.cell? ⟨gF, qb, none⟩ = some (.bool false) ∧ w'.cell? ⟨gG, qa, none⟩ = some (.bool b2)) 60 [] (.take 0 (.take 1 (.take 2 (.take 3 (.take 4 (.take 5 (.take 6 (.take 7 (.take 8 (.take 9 (.take 10 (.take 11 (.take 12 (.take 13 (.take 14 (.take 15 (.take 16 (.take 17 (.take 18 (.take 19 (.take 20 (.take 21 (.take 22 (.take 23 (.take 24 (.take 25 (.take 26 (.take 27 (.take 28 (.take 29 (.take 30 (.take 31 (.take 32 (.take 33 (.take 34 (.take 35 (.take 36 (.take 37 (.take 38 (.take 39 (.take 40 (.take 41 (.take 42 (.take 43 (.take 44 (.take 45 (.take 46 (.take 47 (.take 48 (.take 49 (.take 50 (.take 51 (.take 52 (.take 53 (.take 54 (.take 55 (.take 56 (.take 57 (.take 58 (.take 59 (.done))))))))))))))))))))))))))))))))))))))))))))))))))))))))))))) (by kernel_rfl) (by kernel_rfl) (by kernel_rfl) (⟨⟨za, zb⟩, fa, fb⟩) ?_
                  simp only [fillT, List.getElem?_cons_zero, List.getElem?_cons_succ, Nat.reduceBEq]
                  repeat (first
                    | (with_reducible refine po_take (v := ?_) ?_ (fun w' hS' => ?_) ?_
                       rotate_left
                       · (go_simp; done)
                       · ((try dsimp only at hS'); go_simp; try with_reducible rfl)
                       simp only [Act.put, List.setIfInBounds_toArray, List.set_cons_zero, List.set_cons_succ])
                    | (with_reducible refine po_skip ?_ ?_
                       · (go_simp; done)
                       simp only [Act.put, List.setIfInBounds_toArray, List.set_cons_zero, List.set_cons_succ]))
                  refine po_done ?_
                  clear za zb fa fb
                  go_wp2
                  go_roundw
                  case rel => first | exact ⟨j + 1, by go_num, by omega, HX⟩ | exact ⟨j + 1, by go_num, by omega⟩
                  case measure => simp [intOf]; omega
                · rw [hfa] at fa
                  rw [HIm.out hfa] at fb
                  clear hfa
                  go_wp2_with fail
                  refine wp_region_tree (fun w' => (w'.cell? ⟨g1, m, none⟩ = some (.int .i64 (qa : Int)) ∧ w'.cell? ⟨g1, j, none⟩ = some (.int .i64 (qb : Int))) ∧ w'.cell? ⟨gF, qb, none⟩ = some (.bool true) ∧ w'.cell? ⟨gG, qa, none⟩ = some (.bool true)) 60 [] (.take 0 (.take 1 (.take 2 (.take 3 (.take 4 (.take 5 (.take 6 (.take 7 (.take 8 (.take 9 (.take 10 (.take 11 (.take 12 (.take 13 (.take 14 (.take 15 (.take 16 (.take 17 (.take 18 (.take 19 (.take 20 (.take 21 (.take 22 (.take 23 (.take 24 (.take 25 (.take 26 (.take 27 (.take 28 (.take 29 (.take 30 (.take 31 (.take 32 (.take 33 (.take 34 (.take 35 (.take 36 (.take 37 (.take 38 (.take 39 (.take 40 (.take 41 (.take 42 (.take 43 (.take 44 (.take 45 (.take 46 (.take 47 (.take 48 (.take 49 (.take 50 (.take 51 (.take 52 (.take 53 (.take 54 (.take 55 (.take 56 (.take 57 (.take 58 (.take 59 (.done))))))))))))))))))))))))))))))))))))))))))))))))))))))))))))) (by kernel_rfl) (by kernel_rfl) (by kernel_rfl) (⟨⟨za, zb⟩, fa, fb⟩) ?_
                  simp only [fillT, List.getElem?_cons_zero, List.getElem?_cons_succ, Nat.reduceBEq]
                  repeat (first
                    | (with_reducible refine po_take (v := ?_) ?_ (fun w' hS' => ?_) ?_
                       rotate_left
                       · (go_simp; done)
                       · ((try dsimp only at hS'); go_simp; try with_reducible rfl)
                       simp only [Act.put, List.setIfInBounds_toArray, List.set_cons_zero, List.set_cons_succ])
                    | (with_reducible refine po_skip ?_ ?_
                       · (go_simp; done)
                       simp only [Act.put, List.setIfInBounds_toArray, List.set_cons_zero, List.set_cons_succ]))
                  refine po_done ?_
                  clear za zb fa fb
                  go_wp2
                  go_roundw
                  case rel => first | exact ⟨j + 1, by go_num, by omega, HX⟩ | exact ⟨j + 1, by go_num, by omega⟩
                  case measure => simp [intOf]; omega
              · go_wp2
                go_roundw
                case rel => first | exact ⟨m + 1, by go_num, by omega, H⟩ | exact ⟨m + 1, by go_num, by omega⟩
                case measure => simp [intOf]; omega
          · have HB := H.below
            clear H
            go_wp2
            go_ret
            exact ⟨rfl, HB⟩
end Go.Proofs.Ytpglhmlebcigfaa
