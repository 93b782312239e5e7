/- A heap with watched cells drawn from a code; the law FnKeptWatched's walk. For every code that can be read. -/
import Derived.Test.YtjpfgbckmcjjaaaOo
import Derived.Test.YtjpfgbckmcjjaaaAl
import Derived.Test.YtjpfgbckmcjjaaaWa
import Derived.Test.YtjpfgbckmcjjaaaSm
import Derived.Test.YtjpfgbckmcjjaaaRa
import Derived.Test.YtjpfgbckmcjjaaaKw
import Derived.Test.YtjpfgbckmcjjaaaCf
import Derived.Test.YtjpfgbckmcjjaaaSk
import Derived.Test.YtjpfgbckmcjjaaaVi
namespace Go.Proofs.Ytjpfgbckmcjjaaa
open Go.RowKit
theorem used_natK {cs : List Cel} {r : Int} (h : usedB cs r = true) : ∃ q : Nat, r = (q : Int) ∧ q < cs.length := by
  simp only [usedB, Bool.and_eq_true, decide_eq_true_eq] at h
  exact ⟨r.toNat, by omega, by omega⟩
/-- What the law says of watched cells that are valid. -/
theorem kw_facts {h : Hp} {ws : List Int} (h0 : mWatchedValid h ws = true) : heapOk h = true ∧ Keeps h (reachL h.cells (h.roots ++ ws)) ∧ heapOk (mDrop h (deadL (reachL h.cells (h.roots ++ ws)))) = true ∧ mView (mDrop h (deadL (reachL h.cells (h.roots ++ ws)))) = mView h ∧ mWatchedValid (mDrop h (deadL (reachL h.cells (h.roots ++ ws)))) ws = true ∧ (∀ r ∈ ws, usedB h.cells r = true) ∧ ∀ q : Nat, (q : Int) ∈ ws → reachB h.cells (h.roots ++ ws) q = true := by
  obtain ⟨s1, s2, s3⟩ := mWatched_parts h0
  have K : Keeps h (reachL h.cells (h.roots ++ ws)) := reachL_from s1 fun r hr => List.mem_append_left _ hr
  have hin : ∀ q : Nat, (q : Int) ∈ ws → reachB h.cells (h.roots ++ ws) q = true := fun q hq => by
    have hu := (usedB_parts (s2 _ hq)).2.2.1
    simp only [reachB, decide_eq_true_eq]
    have := Rch.base (cs := h.cells) (S := usedN h.cells) (fr := h.roots ++ ws) (List.mem_append_right _ hq) (by omega) hu
    rwa [Int.toNat_natCast] at this
  refine ⟨s1, K, K.heap s1, K.view s1, ?_, s2, hin⟩
  have hub : ∀ r ∈ ws, usedB (mDrop h (deadL (reachL h.cells (h.roots ++ ws)))).cells r = usedB h.cells r := fun r hr => by
    obtain ⟨q, rfl, hq⟩ := used_natK (s2 r hr)
    have hm : atB (reachL h.cells (h.roots ++ ws)) q = true := by rw [atB_at (reachL_at hq), hin q hr]
    unfold usedB
    rw [sweep_len, Int.toNat_natCast]
    have := sweep_used K hm
    rw [usedN_def, usedN_def] at this
    rw [this]
  have hv := h0
  unfold mWatchedValid at hv ⊢
  rw [Bool.and_eq_true] at hv ⊢
  refine ⟨K.heap s1, ?_⟩
  rw [List.all_eq_true] at hv ⊢
  intro k hk
  have h1 := hv.2 k hk
  have hkl := List.mem_range.1 hk
  have hg : ws.getD k 0 ∈ ws := by rw [List.getD_eq_getElem?_getD, List.getElem?_eq_getElem hkl]; exact List.getElem_mem hkl
  unfold watchAt at h1 ⊢
  rw [hub _ hg]
  exact h1
theorem reach_more {h : Hp} {ws : List Int} {q : Nat} (hr : reachB h.cells h.roots q = true) : reachB h.cells (h.roots ++ ws) q = true := by
  simp only [reachB, decide_eq_true_eq] at hr ⊢
  exact hr.mono (fun _ h => h) fun r hm => List.mem_append_left _ hm
set_option maxHeartbeats 1600000 in
theorem DrawKeptWatched_any (w : World) (A : Option Addr) (n c : Nat) (bs : List Int) (hr : RdY w w.heap.size A n c bs) :
    Calls Try.prog 18 #[.slice A n c] w (DrawnHI w) := by
  have H := (Owns.nil w).box [.slice none 0 0, .slice none 0 0] 26
  go_enter Try.func18, Try.ntmps18
  go_wp2_with fail
  refine (open_own H A n c bs hr).mono ?_
  rintro e w1 ⟨g, A1, n1, c1, bs1, rfl, hU, H1⟩
  clear H hr
  go_wp2_with fail
  refine (watched_own H1 0 rfl hU (by omega) 14 (by omega) (by omega)).mono ?_
  rintro e w2 ⟨T, cv, rvs, rv, rv0, v, rs0, xs, p1, rfl, hS, ht, hxl, -, -, H2⟩
  simp only [List.set_cons_zero] at H2
  clear H1 hU
  obtain ⟨C, kC, rfl, -⟩ := H2.formC 1 rfl
  obtain ⟨R0, kR0, e0, -⟩ := H2.formI 2 rfl
  obtain ⟨R, nR, kR, rfl⟩ := ht.form e0
  clear e0
  obtain ⟨y0, y1, y2, y3⟩ := H2.box2 4 rfl
  have HZ := (H2.putBox 4 rfl 0 (.slice C T.cells.length kC)).putBox 4 rfl 1 (.slice R nR kR)
  simp only [List.set_cons_zero, List.set_cons_succ, List.eraseIdx_cons_zero, List.eraseIdx_cons_succ, List.drop_succ_cons, List.drop_zero, List.take_succ_cons, List.take_zero, List.length_append, List.length_cons, List.length_nil, List.nil_append, Nat.zero_add, World.size_alloc] at HZ
  obtain ⟨z0, z1, -, -⟩ := HZ.box2 4 rfl
  obtain ⟨z2, -, -, -⟩ := (H2.putBox 4 rfl 0 (.slice C T.cells.length kC)).box2 4 rfl
  have HS : Hid (DrawnHI w (.returned (.tuple #[.agg #[.slice C T.cells.length kC, .slice R nR kR], v])) _) := Go.Lib.hid ⟨T, _, rvs, _, _, _, _, xs, rfl, hS, ht, hxl, HZ.take 3⟩
  clear H2 HZ hS ht
  go_wp2
  exact bodyPost_ret (v := .tuple #[.agg #[.slice C T.cells.length kC, .slice R nR kR], v]) (by simp [results, Try.results18, go_sem, z0, z1, z2]) rfl HS.out
set_option maxHeartbeats 6400000 in
set_option maxRecDepth 20000 in
theorem lawKeptWatched_any (w : World) {A : Option Addr} {n c : Nat} {bs : List Int} (hr : RdY w w.heap.size A n c bs) :
    Calls Try.prog 4 #[.slice A n c] w fun e w' => e = .returned (.bool true) ∧ Below w.heap.size w w' := by
  by_cases s0 : 1048576 < n
  · go_enter Try.func4, Try.ntmps4
    go_wp2
    go_ret
    exact ⟨rfl, Below.refl _ _⟩
  go_enter Try.func4, Try.ntmps4
  go_wp2_with fail
  refine (DrawKeptWatched_any w A n c bs hr).mono ?_
  rintro e w1 ⟨T, cv, rvs, rv, rv0, v, rs0, xs, rfl, hS, ht, hxl, H1⟩
  obtain ⟨C, kC, rfl, -⟩ := H1.formC 1 rfl
  obtain ⟨R0, kR0, e0, -⟩ := H1.formI 2 rfl
  obtain ⟨R, nR, kR, rfl⟩ := ht.form e0
  obtain ⟨V, kV, rfl, -⟩ := H1.formI 0 rfl
  have HT := Go.Lib.hid ht
  clear e0 ht hS hr s0
  have H := H1.box [.slice C T.cells.length kC, .slice R nR kR] 26
  clear H1
  obtain ⟨x0, x1, -, -⟩ := H.box2 0 rfl
  go_wp2_with fail
  refine (implKeptWatched_any _ _ _ _ T _ _ _ xs (H.rdHx 2 3 rfl rfl HT.out) (H.owI 1 rfl).rdI).mono ?_
  rintro e w2 ⟨v2, rfl, ho2, hb2⟩
  obtain ⟨X, hX⟩ : ∃ X, X = mKeptWatched T xs := ⟨_, rfl⟩
  rw [← hX] at ho2
  have HXe := Go.Lib.hid hX
  clear hX
  have H2 := H.madeB ho2 hb2
  clear H ho2 hb2 x0 x1
  obtain ⟨A2, k2, rfl, -⟩ := H2.formB 0 rfl
  obtain ⟨x0, x1, -, -⟩ := H2.box2 1 rfl
  go_wp2_with fail
  refine (specKeptWatched_any _ _ _ _ T _ _ _ xs (H2.rdHx 3 4 rfl rfl HT.out) (H2.owI 2 rfl).rdI).mono ?_
  rintro e w3 ⟨v3, rfl, ho3, hb3⟩
  rw [← HXe.out] at ho3
  have H3 := H2.madeB ho3 hb3
  clear H2 ho3 hb3 x0 x1
  obtain ⟨A3, k3, rfl, -⟩ := H3.formB 0 rfl
  go_wp2_with fail
  refine (sameFlags_yes _ _ _ _ _ _ _ _ _ X (H3.owB 1 rfl).rdB (H3.owB 0 rfl).rdB).mono ?_
  rintro e w4 ⟨rfl, hb4⟩
  have H4 := (H3.call hb4).erase 0
  simp only [List.eraseIdx_cons_zero] at H4
  clear H3 hb4
  obtain ⟨x0, x1, -, -⟩ := H4.box2 1 rfl
  go_wp2_with fail
  refine (specWatchedValid_any _ _ _ _ T _ _ _ xs (H4.rdHx 3 4 rfl rfl HT.out) (H4.owI 2 rfl).rdI).mono ?_
  rintro e w5 ⟨rfl, hb5⟩
  have H5 := H4.call hb5
  clear H4 hb5 x0 x1
  cases hy : mWatchedValid T xs
  · obtain rfl : X = [] := by rw [HXe.out]; exact mKept_no hy
    clear hy
    go_wp2_with fail
    refine (alive_any _).mono ?_
    rintro e w8 ⟨rfl, hb⟩
    have HB := (H5.call hb).below
    clear H5 hb
    go_wp2
    go_ret
    exact ⟨rfl, HB⟩
  · obtain ⟨s1, sK, sZ, sV, sW, s2, s3⟩ := kw_facts hy
    have hXe : X = reachL T.cells (T.roots ++ xs) := HXe.out.trans (mKept_yes hy)
    rw [← hXe] at sK sZ sV sW
    have hXl : X.length = T.cells.length := by rw [hXe, reachL_length]
    have hXat : ∀ q, q < T.cells.length → X[q]? = some (reachB T.cells (T.roots ++ xs) q) := fun q hq => by rw [hXe]; exact reachL_at hq
    have HOK := Go.Lib.hid s1
    have HK := Go.Lib.hid sK
    have HZ1 := Go.Lib.hid sZ
    have HZ2 := Go.Lib.hid sV
    have HZ3 := Go.Lib.hid sW
    have HU := Go.Lib.hid s2
    have HIn := Go.Lib.hid s3
    have HXa := Go.Lib.hid hXat
    have hl1 : X.length ≤ T.cells.length := by omega
    have hl2 : T.cells.length ≤ X.length := by omega
    have h40 := (heapOk_small s1).1
    obtain ⟨x0, x1, -, -⟩ := H5.box2 1 rfl
    clear hy s2 s3 sK sZ sV sW HXe hXe hXl hXat
    go_wp2_with fail
    refine (implReachable_any _ _ _ T (H5.rdHx 3 4 rfl rfl HT.out)).mono ?_
    rintro e w6 ⟨v6, rfl, ho6, hb6⟩
    obtain ⟨Q, hQ⟩ : ∃ Q, Q = mReachable T := ⟨_, rfl⟩
    rw [← hQ] at ho6
    have HQ : Hid (∀ q, q < T.cells.length → Q[q]? = some (reachB T.cells T.roots q)) := Go.Lib.hid fun q hq => by rw [hQ, mReachable_yes s1]; exact reachL_at hq
    have hQl : Q.length = T.cells.length := by rw [hQ, mReachable_yes s1, reachL_length]
    have hq1 : Q.length ≤ T.cells.length := by omega
    have hq2 : T.cells.length ≤ Q.length := by omega
    clear hQ s1 hQl
    have H6 := H5.madeB ho6 hb6
    clear H5 ho6 hb6 x0 x1
    obtain ⟨A6, k6, rfl, -⟩ := H6.formB 0 rfl
    go_wp2_with fail
    go_loopw [7] (fun i wr => ∃ k : Nat, i = .int .i64 k ∧ k ≤ xs.length ∧ Owns w.heap.size w wr [.bools (.slice A6 Q.length k6) Q, .bools (.slice A2 X.length k2) X, .box w1.heap.size [.slice C T.cells.length kC, .slice R nR kR] 26, .ints (.slice V xs.length kV) xs, .cells (.slice C T.cells.length kC) rvs T.cells, .ints rv0 rs0]) (fun i _ => xs.length - (intOf i).toNat)
    case atStart => exact ⟨0, rfl, Nat.zero_le _, H6⟩
    case round =>
      clear H6
      obtain ⟨k, rfl, hk, H⟩ := hrel
      by_cases hlt : k < xs.length
      · obtain ⟨r, hr0⟩ : ∃ r, Hid (xs[k]? = some r) := ⟨_, Go.Lib.hid (List.getElem?_eq_getElem hlt)⟩
        have hmem := List.mem_of_getElem? hr0.out
        obtain ⟨q, rfl, hq⟩ := used_natK (HU.out r hmem)
        have hqq := HXa.out q hq
        rw [HIn.out q hmem] at hqq
        obtain ⟨g3, c3, e3, -, -, -, -⟩ := H.rowAt 3 rfl (by omega)
        simp only [Value.slice.injEq] at e3
        obtain ⟨rfl, -, rfl⟩ := e3
        obtain ⟨g1, c1, e1, -, -, -, -⟩ := H.rowAt 1 rfl (by omega)
        simp only [Value.slice.injEq] at e1
        obtain ⟨rfl, -, rfl⟩ := e1
        obtain ⟨z3, -⟩ := H.elem 3 rfl (j := k) (u := .int .i64 (q : Int)) (by rw [List.getElem?_map, hr0.out]; rfl)
        obtain ⟨z1, -⟩ := H.elem 1 rfl (j := q) (u := .bool true) (by rw [List.getElem?_map, hqq]; rfl)
        have i1 : (0 : Int) ≤ (k : Int) := by omega
        have i2 : (k : Int) < (xs.length : Int) := by omega
        have i4 : (0 : Int) ≤ (q : Int) := by omega
        have i5 : (q : Int) < (X.length : Int) := by omega
        clear hqq hr0 hmem
        go_wp2
        go_roundw
        case rel => first | exact ⟨k + 1, by go_num, by omega, H⟩ | exact ⟨k + 1, by go_num, by omega⟩
        case measure => simp [intOf]; omega
      · have H7 := H
        clear H
        go_wp2_with fail
        clear hlt hk
        go_loopw [8] (fun i wr => ∃ k : Nat, i = .int .i64 k ∧ k ≤ X.length ∧ Owns w.heap.size w wr [.bools (.slice A6 Q.length k6) Q, .bools (.slice A2 X.length k2) X, .box w1.heap.size [.slice C T.cells.length kC, .slice R nR kR] 26, .ints (.slice V xs.length kV) xs, .cells (.slice C T.cells.length kC) rvs T.cells, .ints rv0 rs0]) (fun i _ => X.length - (intOf i).toNat)
        case atStart => exact ⟨0, rfl, Nat.zero_le _, H7⟩
        case round =>
          clear H7
          obtain ⟨k, rfl, hk, H⟩ := hrel
          by_cases hlt : k < X.length
          · have hkn : k < T.cells.length := by omega
            have hxk := HXa.out k hkn
            have hqk := HQ.out k hkn
            have himp : reachB T.cells T.roots k = true → reachB T.cells (T.roots ++ xs) k = true := reach_more
            obtain ⟨b1, hb1⟩ : ∃ b, b = reachB T.cells T.roots k := ⟨_, rfl⟩
            obtain ⟨b2, hb2⟩ : ∃ b, b = reachB T.cells (T.roots ++ xs) k := ⟨_, rfl⟩
            rw [← hb1] at hqk himp
            rw [← hb2] at hxk himp
            have HRf : Hid (b2 = true → ∀ (l : Cel), T.cells[k]? = some l → ∀ (m : Nat), (m : Int) ∈ l.refs → m < T.cells.length ∧ X[m]? = some true) := Go.Lib.hid fun hb l hl m hm => by
              have hu := usedN_lt (leadsB_used ((heapOk_leads HOK.out).2 k l hl _ hm) (by omega))
              rw [Int.toNat_natCast] at hu
              refine ⟨hu, ?_⟩
              have := HK.out.ref k l hl (by rw [atB_at hxk, hb]) (m : Int) hm (by omega)
              rw [Int.toNat_natCast, atB_at (HXa.out m hu)] at this
              rw [HXa.out m hu, this]
            have HLe : Hid (∀ (l : Cel), T.cells[k]? = some l → ∀ r ∈ l.refs, r < 0 ∨ ∃ m : Nat, r = (m : Int)) := Go.Lib.hid fun l _ r _ => by
              rcases Int.lt_or_le r 0 with h0 | h0
              · exact .inl h0
              · exact .inr ⟨r.toNat, by omega⟩
            clear hb1 hb2
            obtain ⟨g1, c1, e1, -, -, -, -⟩ := H.rowAt 1 rfl (by omega)
            simp only [Value.slice.injEq] at e1
            obtain ⟨rfl, -, rfl⟩ := e1
            obtain ⟨g0, c0, e0, -, -, -, -⟩ := H.rowAt 0 rfl (by omega)
            simp only [Value.slice.injEq] at e0
            obtain ⟨rfl, -, rfl⟩ := e0
            obtain ⟨z1, -⟩ := H.elem 1 rfl (j := k) (u := .bool b2) (by rw [List.getElem?_map, hxk]; rfl)
            obtain ⟨z0, -⟩ := H.elem 0 rfl (j := k) (u := .bool b1) (by rw [List.getElem?_map, hqk]; rfl)
            have i1 : (0 : Int) ≤ (k : Int) := by omega
            have i2 : (k : Int) < (X.length : Int) := by omega
            have i3 : (k : Int) < (Q.length : Int) := by omega
            have i4 : ¬ ((Q.length : Int) ≤ (k : Int)) := by omega
            have i5 : (k : Int) < (T.cells.length : Int) := by omega
            have i6 : ¬ (Q.length ≤ k) := by omega
            have H8 := H
            clear H hqk
            cases b1
            · go_wp2_with fail
              clear z0 z1
              cases b2
              · go_loopw [9] (fun i wr => ∃ j : Nat, i = .int .i64 j ∧ j ≤ 1000000 ∧ (∀ l, T.cells[k]? = some l → j ≤ l.refs.length) ∧ Owns w.heap.size w wr [.bools (.slice (some ⟨g0, 0, none⟩) Q.length k6) Q, .bools (.slice (some ⟨g1, 0, none⟩) X.length k2) X, .box w1.heap.size [.slice C T.cells.length kC, .slice R nR kR] 26, .ints (.slice V xs.length kV) xs, .cells (.slice C T.cells.length kC) rvs T.cells, .ints rv0 rs0]) (fun i _ => 1000000 - (intOf i).toNat)
                case atStart => exact ⟨0, rfl, Nat.zero_le _, fun l _ => Nat.zero_le _, H8⟩
                case round =>
                  clear H8
                  obtain ⟨j, rfl, hj1, hj2, H⟩ := hrel
                  obtain ⟨x0, x1, -, -⟩ := H.box2 2 rfl
                  obtain ⟨C', kC', eC, rC⟩ := H.formC 4 rfl
                  simp only [Value.slice.injEq] at eC
                  obtain ⟨rfl, -, rfl⟩ := eC
                  obtain ⟨bc, oc, l, Ar, nr, cr, rfl, -, hl0, -, -, u2, rR⟩ := rC.at_ hkn
                  have hj3 := hj2 l hl0.out
                  have r1 := RdI.le1 rR; have r2 := RdI.le2 rR
                  have hrf3 : l.refs.length ≤ 3 := refs3 HOK.out hl0.out |>.1
                  obtain ⟨z1, -⟩ := H.elem 1 rfl (j := k) (u := .bool false) (by rw [List.getElem?_map, hxk]; rfl)
                  have HJ : Hid (∀ l', T.cells[k]? = some l' → l' = l) := Go.Lib.hid fun l' h' => by rw [hl0.out] at h'; injection h' with h'; exact h'.symm
                  have i7 : (0 : Int) ≤ (j : Int) := by omega
                  clear hj2 rC
                  by_cases hjl : j < nr
                  · have i8 : (j : Int) < (nr : Int) := by omega
                    go_wp2
                    go_roundw
                    case rel => first | exact ⟨k + 1, by go_num, by omega, H⟩ | exact ⟨k + 1, by go_num, by omega⟩
                    case measure => simp [intOf]; omega
                  · go_wp2
                    go_roundw
                    case rel => first | exact ⟨k + 1, by go_num, by omega, H⟩ | exact ⟨k + 1, by go_num, by omega⟩
                    case measure => simp [intOf]; omega
              · go_loopw [9] (fun i wr => ∃ j : Nat, i = .int .i64 j ∧ j ≤ 1000000 ∧ (∀ l, T.cells[k]? = some l → j ≤ l.refs.length) ∧ Owns w.heap.size w wr [.bools (.slice (some ⟨g0, 0, none⟩) Q.length k6) Q, .bools (.slice (some ⟨g1, 0, none⟩) X.length k2) X, .box w1.heap.size [.slice C T.cells.length kC, .slice R nR kR] 26, .ints (.slice V xs.length kV) xs, .cells (.slice C T.cells.length kC) rvs T.cells, .ints rv0 rs0]) (fun i _ => 1000000 - (intOf i).toNat)
                case atStart => exact ⟨0, rfl, Nat.zero_le _, fun l _ => Nat.zero_le _, H8⟩
                case round =>
                  clear H8
                  obtain ⟨j, rfl, hj1, hj2, H⟩ := hrel
                  obtain ⟨x0, x1, -, -⟩ := H.box2 2 rfl
                  obtain ⟨C', kC', eC, rC⟩ := H.formC 4 rfl
                  simp only [Value.slice.injEq] at eC
                  obtain ⟨rfl, -, rfl⟩ := eC
                  obtain ⟨bc, oc, l, Ar, nr, cr, rfl, -, hl0, -, -, u2, rR⟩ := rC.at_ hkn
                  have hj3 := hj2 l hl0.out
                  have r1 := RdI.le1 rR; have r2 := RdI.le2 rR
                  have hrf3 : l.refs.length ≤ 3 := refs3 HOK.out hl0.out |>.1
                  obtain ⟨z1, -⟩ := H.elem 1 rfl (j := k) (u := .bool true) (by rw [List.getElem?_map, hxk]; rfl)
                  have HJ : Hid (∀ l', T.cells[k]? = some l' → l' = l) := Go.Lib.hid fun l' h' => by rw [hl0.out] at h'; injection h' with h'; exact h'.symm
                  have i7 : (0 : Int) ≤ (j : Int) := by omega
                  clear hj2 rC
                  by_cases hjl : j < nr
                  · obtain ⟨b5, o5, r, rfl, -, hr0, q5⟩ := RdI.at_ rR hjl
                    have hrm := List.mem_of_getElem? hr0.out
                    have i8 : (j : Int) < (nr : Int) := by omega
                    rcases HLe.out l hl0.out r hrm with h0 | ⟨m, rfl⟩
                    · clear hrm
                      go_wp2
                      go_roundw
                      case rel => first | exact ⟨j + 1, by go_num, by omega, fun l' h' => by rw [HJ.out l' h']; omega, H⟩ | exact ⟨j + 1, by go_num, by omega, fun l' h' => by rw [HJ.out l' h']; omega⟩
                      case measure => simp [intOf]; omega
                    · obtain ⟨hm1, hm2⟩ := HRf.out (by first | rfl | trivial) l hl0.out m hrm
                      obtain ⟨z5, -⟩ := H.elem 1 rfl (j := m) (u := .bool true) (by rw [List.getElem?_map, hm2]; rfl)
                      have i9 : (0 : Int) ≤ (m : Int) := by omega
                      have i10 : (m : Int) < (X.length : Int) := by omega
                      clear hm2 hrm
                      go_wp2
                      go_roundw
                      case rel => first | exact ⟨j + 1, by go_num, by omega, fun l' h' => by rw [HJ.out l' h']; omega, H⟩ | exact ⟨j + 1, by go_num, by omega, fun l' h' => by rw [HJ.out l' h']; omega⟩
                      case measure => simp [intOf]; omega
                  · go_wp2
                    go_roundw
                    case rel => first | exact ⟨k + 1, by go_num, by omega, H⟩ | exact ⟨k + 1, by go_num, by omega⟩
                    case measure => simp [intOf]; omega
            · obtain rfl : b2 = true := himp rfl
              go_wp2_with fail
              clear z0 z1
              go_loopw [9] (fun i wr => ∃ j : Nat, i = .int .i64 j ∧ j ≤ 1000000 ∧ (∀ l, T.cells[k]? = some l → j ≤ l.refs.length) ∧ Owns w.heap.size w wr [.bools (.slice (some ⟨g0, 0, none⟩) Q.length k6) Q, .bools (.slice (some ⟨g1, 0, none⟩) X.length k2) X, .box w1.heap.size [.slice C T.cells.length kC, .slice R nR kR] 26, .ints (.slice V xs.length kV) xs, .cells (.slice C T.cells.length kC) rvs T.cells, .ints rv0 rs0]) (fun i _ => 1000000 - (intOf i).toNat)
              case atStart => exact ⟨0, rfl, Nat.zero_le _, fun l _ => Nat.zero_le _, H8⟩
              case round =>
                clear H8
                obtain ⟨j, rfl, hj1, hj2, H⟩ := hrel
                obtain ⟨x0, x1, -, -⟩ := H.box2 2 rfl
                obtain ⟨C', kC', eC, rC⟩ := H.formC 4 rfl
                simp only [Value.slice.injEq] at eC
                obtain ⟨rfl, -, rfl⟩ := eC
                obtain ⟨bc, oc, l, Ar, nr, cr, rfl, -, hl0, -, -, u2, rR⟩ := rC.at_ hkn
                have hj3 := hj2 l hl0.out
                have r1 := RdI.le1 rR; have r2 := RdI.le2 rR
                have hrf3 : l.refs.length ≤ 3 := refs3 HOK.out hl0.out |>.1
                obtain ⟨z1, -⟩ := H.elem 1 rfl (j := k) (u := .bool true) (by rw [List.getElem?_map, hxk]; rfl)
                have HJ : Hid (∀ l', T.cells[k]? = some l' → l' = l) := Go.Lib.hid fun l' h' => by rw [hl0.out] at h'; injection h' with h'; exact h'.symm
                have i7 : (0 : Int) ≤ (j : Int) := by omega
                clear hj2 rC
                by_cases hjl : j < nr
                · obtain ⟨b5, o5, r, rfl, -, hr0, q5⟩ := RdI.at_ rR hjl
                  have hrm := List.mem_of_getElem? hr0.out
                  have i8 : (j : Int) < (nr : Int) := by omega
                  rcases HLe.out l hl0.out r hrm with h0 | ⟨m, rfl⟩
                  · clear hrm
                    go_wp2
                    go_roundw
                    case rel => first | exact ⟨j + 1, by go_num, by omega, fun l' h' => by rw [HJ.out l' h']; omega, H⟩ | exact ⟨j + 1, by go_num, by omega, fun l' h' => by rw [HJ.out l' h']; omega⟩
                    case measure => simp [intOf]; omega
                  · obtain ⟨hm1, hm2⟩ := HRf.out (by first | rfl | trivial) l hl0.out m hrm
                    obtain ⟨z5, -⟩ := H.elem 1 rfl (j := m) (u := .bool true) (by rw [List.getElem?_map, hm2]; rfl)
                    have i9 : (0 : Int) ≤ (m : Int) := by omega
                    have i10 : (m : Int) < (X.length : Int) := by omega
                    clear hm2 hrm
                    go_wp2
                    go_roundw
                    case rel => first | exact ⟨j + 1, by go_num, by omega, fun l' h' => by rw [HJ.out l' h']; omega, H⟩ | exact ⟨j + 1, by go_num, by omega, fun l' h' => by rw [HJ.out l' h']; omega⟩
                    case measure => simp [intOf]; omega
                · go_wp2
                  go_roundw
                  case rel => first | exact ⟨k + 1, by go_num, by omega, H⟩ | exact ⟨k + 1, by go_num, by omega⟩
                  case measure => simp [intOf]; omega
          · have H8 := H
            clear H
            obtain ⟨x0, x1, -, -⟩ := H8.box2 2 rfl
            go_wp2_with fail
            refine (implSweep_keeps _ _ _ _ T _ _ _ X (H8.rdHx 4 5 rfl rfl HT.out) HOK.out (H8.owB 1 rfl).rdB HK.out).mono ?_
            rintro e w7 ⟨cv7, rvs7, rv7, rfl, K7⟩
            obtain ⟨Z, hZ⟩ : ∃ Z, Z = mDrop T (deadL X) := ⟨_, rfl⟩
            rw [← hZ] at K7 HZ1 HZ2 HZ3
            generalize ((cntP (lostS T X) T.cells.length : Nat) : Int) = cc at *
            clear hZ
            have H9 := H8.merge K7
            simp only [List.cons_append, List.nil_append] at H9
            clear H8 K7 x0 x1
            obtain ⟨C7, k7, rfl, -⟩ := H9.formC 0 rfl
            obtain ⟨R7, kR7, rfl, -⟩ := H9.formI 1 rfl
            have HA := H9.box [.slice C7 Z.cells.length k7, .slice R7 Z.roots.length kR7] 26
            clear H9
            obtain ⟨y0, y1, -, -⟩ := HA.box2 0 rfl
            obtain ⟨x0, x1, -, -⟩ := HA.box2 5 rfl
            go_wp2_with fail
            refine (sameView_yes _ _ _ _ _ Z T (HA.rdHx 1 2 rfl rfl (.inl ⟨rfl, rfl⟩)) (HA.rdHx 7 8 rfl rfl HT.out) HZ1.out HOK.out HZ2.out).mono ?_
            rintro e w8 ⟨rfl, hb8⟩
            have HB := HA.call hb8
            clear HA hb8 x0 x1 y0 y1
            obtain ⟨y0, y1, -, -⟩ := HB.box2 0 rfl
            go_wp2_with fail
            refine (implWatchedValid_any _ _ _ _ Z _ _ _ xs (HB.rdHx 1 2 rfl rfl (.inl ⟨rfl, rfl⟩)) (HB.owI 6 rfl).rdI).mono ?_
            rintro e w9 ⟨rfl, hb9⟩
            rw [HZ3.out]
            have HC := (HB.call hb9).below
            clear HB hb9 y0 y1
            go_wp2
            go_ret
            exact ⟨rfl, HC⟩
end Go.Proofs.Ytjpfgbckmcjjaaa
