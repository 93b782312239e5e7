/- A heap with pairs drawn from a code; the law FnPairsKept's walk. For every code that can be read. -/
import Derived.Test.YtnpehidhoekfcaaPd
import Derived.Test.YtnpehidhoekfcaaAl
import Derived.Test.YtnpehidhoekfcaaKq
import Derived.Test.YtnpehidhoekfcaaCf
import Derived.Test.YtnpehidhoekfcaaBl
namespace Go.Proofs.Ytnpehidhoekfcaa
open Go.RowKit
abbrev OB.boolsIn (v : Value) (n : Nat) (bs : List Bool) : OB := .row 4 1 v n (bs.map Value.bool)
theorem Owns.toBIn {lo : Nat} {w0 w : World} {L : List OB} {A : Option Addr} {c n : Nat} {bs : List Bool} (h : Owns lo w0 w (.bools (.slice A bs.length c) bs :: L)) (hn : bs.length = n) : Owns lo w0 w (.boolsIn (.slice A n c) n bs :: L) := by
  subst hn; exact h
theorem Owns.putB {lo : Nat} {w0 w : World} {L : List OB} {g n c : Nat} {bs : List Bool} (h : Owns lo w0 w L) (i : Nat) (hX : L[i]? = some (.boolsIn (.slice (some ⟨g, 0, none⟩) n c) n bs)) (j : Nat) (b : Bool) : Owns lo w0 (w.setCell ⟨g, j, none⟩ (.bool b)) (L.set i (.boolsIn (.slice (some ⟨g, 0, none⟩) n c) n (bs.set j b))) := by
  have := h.putRow i hX j (.bool b)
  rwa [← List.map_set] at this
theorem setB_range {f g : Nat → Bool} {n k : Nat} {v : Bool} (hv : g k = v) (he : ∀ c, c < n → c ≠ k → g c = f c) : ((List.range n).map f).set k v = (List.range n).map g := by
  apply List.ext_getElem?
  intro i
  rw [List.getElem?_set]
  simp only [List.length_map, List.length_range, List.getElem?_map]
  by_cases hi : i < n
  · rw [List.getElem?_range hi]
    by_cases e : k = i
    · subst e; simp [hi, hv]
    · simp [e, he i hi (Ne.symm e)]
  · rw [List.getElem?_eq_none (by simpa using hi)]
    by_cases e : k = i
    · subst e; simp [hi]
    · simp [e]
theorem atB_range {f : Nat → Bool} {n k : Nat} (hk : k < n) : ((List.range n).map f)[k]? = some (f k) := by rw [List.getElem?_map, List.getElem?_range hk]; rfl
theorem sameB_range {f g : Nat → Bool} {n : Nat} (he : ∀ c, c < n → g c = f c) : (List.range n).map f = (List.range n).map g := List.map_congr_left fun c hc => (he c (List.mem_range.1 hc)).symm
/-- What is held for reached while a pair's cells are gone over. -/
noncomputable def mixB (h : Hp) (ps : List (Int × Int)) (K : List Bool) (k j i : Nat) : Bool := if i < j then lvB h ps K (k + 1) i else lvB h ps K k i
theorem mixB_zero (h : Hp) (ps : List (Int × Int)) (K : List Bool) (k : Nat) : mixB h ps K k 0 = lvB h ps K k := by funext i; simp [mixB]
theorem mixB_at (h : Hp) (ps : List (Int × Int)) (K : List Bool) (k j : Nat) : mixB h ps K k j j = lvB h ps K k j := by simp [mixB]
theorem mixB_next (h : Hp) (ps : List (Int × Int)) (K : List Bool) (k j : Nat) : mixB h ps K k (j + 1) j = lvB h ps K (k + 1) j := by simp [mixB]
theorem mixB_else {h : Hp} {ps : List (Int × Int)} {K : List Bool} {k j i : Nat} (hi : i ≠ j) : mixB h ps K k (j + 1) i = mixB h ps K k j i := by
  unfold mixB
  by_cases h1 : i < j
  · rw [if_pos (by omega), if_pos h1]
  · rw [if_neg (by omega), if_neg h1]
set_option maxHeartbeats 1600000 in
theorem DrawPairsKept_any (w : World) (A : Option Addr) (n c : Nat) (bs : List Int) (hr : RdY w w.heap.size A n c bs) :
    Calls Try.prog 29 #[.slice A n c] w (DrawnHP w) := by
  have H := (Owns.nil w).box [.slice none 0 0, .slice none 0 0] 27
  go_enter Try.func29, Try.ntmps29
  go_wp2_with fail
  refine (open_own H A n c bs hr).mono ?_
  rintro e w1 ⟨g, A1, n1, c1, bs1, rfl, hU, H1⟩
  clear H hr
  go_wp2_with fail
  refine (pairs_own H1 0 rfl hU (by omega) 14 (by omega) (by omega)).mono ?_
  rintro e w2 ⟨T, cv, rvs, rv, rv0, v, rs0, xs, p1, rfl, hS, ht, hxl, -, -, H2⟩
  simp only [List.set_cons_zero] at H2
  clear H1 hU
  obtain ⟨C, kC, rfl, -⟩ := H2.formC 1 rfl
  obtain ⟨R0, kR0, e0, -⟩ := H2.formI 2 rfl
  obtain ⟨R, nR, kR, rfl⟩ := ht.form e0
  clear e0
  obtain ⟨y0, y1, y2, y3⟩ := H2.box2 4 rfl
  have HZ := (H2.putBox 4 rfl 0 (.slice C T.cells.length kC)).putBox 4 rfl 1 (.slice R nR kR)
  simp only [List.set_cons_zero, List.set_cons_succ] at HZ
  obtain ⟨z0, z1, -, -⟩ := HZ.box2 4 rfl
  obtain ⟨z2, -, -, -⟩ := (H2.putBox 4 rfl 0 (.slice C T.cells.length kC)).box2 4 rfl
  have HS : Hid (DrawnHP w (.returned (.tuple #[.agg #[.slice C T.cells.length kC, .slice R nR kR], v])) _) := Go.Lib.hid ⟨T, _, rvs, _, _, _, _, xs, rfl, hS, ht, hxl, HZ.take 3⟩
  clear H2 HZ hS ht
  go_wp2
  exact bodyPost_ret (v := .tuple #[.agg #[.slice C T.cells.length kC, .slice R nR kR], v]) (by simp [results, Try.results29, go_sem, z0, z1]) rfl HS.out
set_option maxHeartbeats 6400000 in
set_option maxRecDepth 20000 in
theorem lawPairsKept_any (w : World) {A : Option Addr} {n c : Nat} {bs : List Int} (hr : RdY w w.heap.size A n c bs) :
    Calls Try.prog 8 #[.slice A n c] w fun e w' => e = .returned (.bool true) ∧ Below w.heap.size w w' := by
  by_cases s0 : 1048576 < n
  · go_enter Try.func8, Try.ntmps8
    go_wp2
    go_ret
    exact ⟨rfl, Below.refl _ _⟩
  go_enter Try.func8, Try.ntmps8
  go_wp2_with fail
  refine (DrawPairsKept_any w A n c bs hr).mono ?_
  rintro e w1 ⟨T, cv, rvs, rv, rv0, v, rs0, xs, rfl, hS, ht, hxl, H1⟩
  obtain ⟨C, kC, rfl, -⟩ := H1.formC 1 rfl
  obtain ⟨R0, kR0, e0, -⟩ := H1.formI 2 rfl
  obtain ⟨R, nR, kR, rfl⟩ := ht.form e0
  obtain ⟨V, kV, rfl, -⟩ := H1.formP 0 rfl
  have HT := Go.Lib.hid ht
  clear e0 ht hS hr s0
  have H := H1.box [.slice C T.cells.length kC, .slice R nR kR] 27
  clear H1
  obtain ⟨x0, x1, -, -⟩ := H.box2 0 rfl
  go_wp2_with fail
  refine (implPairsKept_any _ _ _ _ T _ _ _ xs (H.rdHx 2 3 rfl rfl HT.out) (H.rdP 1 rfl)).mono ?_
  rintro e w2 ⟨v2, rfl, ho2, hb2⟩
  obtain ⟨X, hX⟩ : ∃ X, X = mPairsKept T xs := ⟨_, rfl⟩
  rw [← hX] at ho2
  have HXe := Go.Lib.hid hX
  clear hX
  have H2 := H.madeB ho2 hb2
  clear H ho2 hb2 x0 x1
  obtain ⟨A2, k2, rfl, -⟩ := H2.formB 0 rfl
  obtain ⟨x0, x1, -, -⟩ := H2.box2 1 rfl
  go_wp2_with fail
  refine (specPairsKept_any _ _ _ _ T _ _ _ xs (H2.rdHx 3 4 rfl rfl HT.out) (H2.rdP 2 rfl)).mono ?_
  rintro e w3 ⟨v3, rfl, ho3, hb3⟩
  rw [← HXe.out] at ho3
  have H3 := H2.madeB ho3 hb3
  clear H2 ho3 hb3 x0 x1
  obtain ⟨A3, k3, rfl, -⟩ := H3.formB 0 rfl
  go_wp2_with fail
  refine (sameFlags_yes _ _ _ _ _ _ _ _ _ X (H3.owB 1 rfl).rdB (H3.owB 0 rfl).rdB).mono ?_
  rintro e w4 ⟨rfl, hb4⟩
  have H4 := (H3.call hb4).erase 0
  simp only [List.eraseIdx_cons_zero] at H4
  clear H3 hb4
  obtain ⟨x0, x1, -, -⟩ := H4.box2 1 rfl
  go_wp2_with fail
  refine (specPairsValid_any _ _ _ _ T _ _ _ xs (H4.rdHx 3 4 rfl rfl HT.out) (H4.rdP 2 rfl)).mono ?_
  rintro e w5 ⟨rfl, hb5⟩
  have H5 := H4.call hb5
  clear H4 hb5 x0 x1
  cases hy : mPairsValid T xs
  · obtain rfl : X = [] := by rw [HXe.out]; exact mPk_no hy
    clear hy
    go_wp2_with fail
    refine (alive_any _).mono ?_
    rintro e w8 ⟨rfl, hb⟩
    have HB := (H5.call hb).below
    clear H5 hb
    go_wp2
    go_ret
    exact ⟨rfl, HB⟩
  · obtain ⟨s1, s2, s3⟩ := mPairs_parts hy
    have hXl : X.length = xs.length := by rw [HXe.out]; exact kept_len hy
    have HOK := Go.Lib.hid s1
    have h40 := (heapOk_small s1).1
    have HU := Go.Lib.hid s3
    have HEnd : Hid (∀ (k : Nat) (p : Int × Int) (b : Bool), xs[k]? = some p → X[k]? = some b → lvB T xs X xs.length p.1.toNat = b) := Go.Lib.hid (by rw [HXe.out]; exact fun k p b hp hb => lvB_end hy hp hb)
    have hl1 : X.length ≤ xs.length := by omega
    have hl2 : xs.length ≤ X.length := by omega
    obtain ⟨x0, x1, -, -⟩ := H5.box2 1 rfl
    clear hy s3 hXl HXe
    go_wp2_with fail
    refine (implReachable_any _ _ _ T (H5.rdHx 3 4 rfl rfl HT.out)).mono ?_
    rintro e w6 ⟨v6, rfl, ho6, hb6⟩
    obtain ⟨Q, hQ⟩ : ∃ Q, Q = (List.range T.cells.length).map (lvB T xs X 0) := ⟨_, rfl⟩
    have hQ2 : mReachable T = Q := by rw [hQ, mReachable_yes s1]; rfl
    rw [hQ2] at ho6
    have hQl : Q.length = T.cells.length := by rw [hQ]; simp
    have H6 := H5.madeB ho6 hb6
    clear H5 ho6 hb6 x0 x1 hQ2 s1
    obtain ⟨A6, k6, e6, -⟩ := H6.formB 0 rfl
    rw [e6] at H6
    replace H6 := H6.toBIn hQl
    rw [hQl] at e6
    subst e6
    rw [hQ] at H6
    clear hQ hQl Q
    go_wp2_with fail
    go_loopw [7] (fun i wr => ∃ k : Nat, i = .int .i64 k ∧ k ≤ X.length ∧ Owns w.heap.size w wr [.boolsIn (.slice A6 T.cells.length k6) T.cells.length ((List.range T.cells.length).map (lvB T xs X k)), .bools (.slice A2 X.length k2) X, .box w1.heap.size [.slice C T.cells.length kC, .slice R nR kR] 27, .pairs (.slice V xs.length kV) xs, .cells (.slice C T.cells.length kC) rvs T.cells, .ints rv0 rs0]) (fun i _ => X.length - (intOf i).toNat)
    case atStart => exact ⟨0, rfl, Nat.zero_le _, H6⟩
    case round =>
      clear H6
      obtain ⟨k, rfl, hk, H⟩ := hrel
      obtain ⟨x0, x1, -, -⟩ := H.box2 2 rfl
      by_cases hlt : k < X.length
      · obtain ⟨⟨px, py⟩, hp0⟩ : ∃ p, Hid (xs[k]? = some p) := ⟨_, Go.Lib.hid (List.getElem?_eq_getElem (by omega))⟩
        obtain ⟨bk, hb0⟩ : ∃ b, Hid (X[k]? = some b) := ⟨_, Go.Lib.hid (List.getElem?_eq_getElem hlt)⟩
        have HUy : Hid (usedB T.cells py = true) := Go.Lib.hid (HU.out _ (List.mem_of_getElem? hp0.out)).2
        have HSt : Hid (∀ i, lvB T xs X (k + 1) i = (lvB T xs X k i || (bk && reachB T.cells [py] i))) := Go.Lib.hid fun i => lvB_succ hb0.out hp0.out i
        have hN : 0 < T.cells.length := by
          have := HUy.out
          simp only [usedB, Bool.and_eq_true, decide_eq_true_eq] at this
          omega
        obtain ⟨g3, c3, e3, -, -, -, -⟩ := H.rowAt 3 rfl (by omega)
        simp only [Value.slice.injEq] at e3
        obtain ⟨rfl, -, rfl⟩ := e3
        obtain ⟨p1, p2⟩ := H.pairAt 3 rfl hp0.out
        obtain ⟨g1, c1, e1, -, -, -, -⟩ := H.rowAt 1 rfl (by omega)
        simp only [Value.slice.injEq] at e1
        obtain ⟨rfl, -, rfl⟩ := e1
        have i1 : (0 : Int) ≤ (k : Int) := by omega
        have i2 : (k : Int) < (X.length : Int) := by omega
        have i3 : (k : Int) < (xs.length : Int) := by omega
        go_wp2_with fail
        have HX := H.drew
        have H0 := Go.Lib.hid H
        clear H
        refine wp_region_tree (fun w' => (w'.cell? ⟨w1.heap.size, 0, none⟩ = some (.slice C T.cells.length kC) ∧ w'.cell? ⟨w1.heap.size, 1, none⟩ = some (.slice R nR kR)) ∧ w'.cell? ⟨g3, k * 2 + 1, none⟩ = some (.int .i64 py)) 8 [] (.take 0 (.take 1 (.take 2 (.take 3 (.take 4 (.take 5 (.alt 6 (.take 7 (.done)) (.stop)))))))) (by kernel_rfl) (by kernel_rfl) (by kernel_rfl) (⟨⟨x0, x1⟩, p2⟩) ?_
        simp only [fillT, List.getElem?_cons_zero, List.getElem?_cons_succ, Nat.reduceBEq]
        repeat (first
          | (with_reducible refine po_take (v := ?_) ?_ (fun w' hS' => ?_) ?_
             rotate_left
             · (go_simp; done)
             · ((try dsimp only at hS'); go_simp; try with_reducible rfl)
             simp only [Act.put, List.setIfInBounds_toArray, List.set_cons_zero, List.set_cons_succ])
          | (with_reducible refine po_skip ?_ ?_
             · (go_simp; done)
             simp only [Act.put, List.setIfInBounds_toArray, List.set_cons_zero, List.set_cons_succ]))
        with_reducible refine po_run ?_ (fun K hK => ?_) ?_
        · (go_simp; done)
        rotate_left
        · exact po_stop
        go_simp
        refine (implCellsFrom_any _ _ _ T py (HX.rdHx 4 5 rfl rfl HT.out) HOK.out HUy.out).mono ?_
        rintro e w7 ⟨v7, rfl, ho7, hb7⟩
        obtain ⟨F, hF⟩ : ∃ F, F = reachL T.cells [py] := ⟨_, rfl⟩
        rw [← hF] at ho7
        have HFl : Hid (F.length = T.cells.length) := Go.Lib.hid (by rw [hF]; simp [reachL])
        have HFa : Hid (∀ i, i < T.cells.length → F[i]? = some (reachB T.cells [py] i)) := Go.Lib.hid fun i hi => by rw [hF]; exact reachL_at hi
        clear hF
        have HY := HX.madeB ho7 hb7
        clear HX ho7
        have HX := HY
        clear HY
        obtain ⟨A7, k7, rfl, -⟩ := HX.formB 0 rfl
        refine hK.out _ _ (.inr (⟨⟨keepd x0 hb7, keepd x1 hb7⟩, keepd p2 hb7⟩)) ?_
        clear hK K
        repeat (first
          | (with_reducible refine po_take (v := ?_) ?_ (fun w' hS' => ?_) ?_
             rotate_left
             · (go_simp; done)
             · ((try dsimp only at hS'); go_simp; try with_reducible rfl)
             simp only [Act.put, List.setIfInBounds_toArray, List.set_cons_zero, List.set_cons_succ])
          | (with_reducible refine po_skip ?_ ?_
             · (go_simp; done)
             simp only [Act.put, List.setIfInBounds_toArray, List.set_cons_zero, List.set_cons_succ]))
        refine po_done ?_
        clear x0 x1 p1 p2 hb7 H0
        have hF1 : F.length ≤ T.cells.length := by have := HFl.out; omega
        have hF2 : T.cells.length ≤ F.length := by have := HFl.out; omega
        clear HFl
        have H8 := HX
        clear HX
        rw [← mixB_zero] at H8
        go_wp2_with fail
        go_loopw [9] (fun i wr => ∃ j : Nat, i = .int .i64 j ∧ j ≤ T.cells.length ∧ (bk = false → j = 0) ∧ Owns w.heap.size w wr [.bools (.slice A7 F.length k7) F, .boolsIn (.slice A6 T.cells.length k6) T.cells.length ((List.range T.cells.length).map (mixB T xs X k j)), .bools (.slice (some ⟨g1, 0, none⟩) X.length k2) X, .box w1.heap.size [.slice C T.cells.length kC, .slice R nR kR] 27, .pairs (.slice (some ⟨g3, 0, none⟩) xs.length kV) xs, .cells (.slice C T.cells.length kC) rvs T.cells, .ints rv0 rs0]) (fun i _ => T.cells.length - (intOf i).toNat)
        case atStart => exact ⟨0, rfl, Nat.zero_le _, fun _ => rfl, H8⟩
        case round =>
          clear H8
          obtain ⟨j, rfl, hj, hj0, H⟩ := hrel
          obtain ⟨z1, -⟩ := H.elem 2 rfl (j := k) (u := .bool bk) (by rw [List.getElem?_map, hb0.out]; rfl)
          have j1 : (0 : Int) ≤ (j : Int) := by omega
          by_cases hjN : j < T.cells.length
          · have j2 : (j : Int) < (F.length : Int) := by omega
            have j3 : (j : Int) < (T.cells.length : Int) := by omega
            cases bk
            · obtain rfl := hj0 rfl
              have hsame : (List.range T.cells.length).map (mixB T xs X k 0) = (List.range T.cells.length).map (lvB T xs X (k + 1)) := sameB_range fun c _ => by rw [mixB_zero, HSt.out c]; simp
              rw [hsame] at H
              have H9 := H.erase 0
              simp only [List.eraseIdx_cons_zero] at H9
              clear H hsame
              go_wp2
              go_roundw
              case rel => exact ⟨k + 1, by go_num, by omega, H9⟩
              case measure => simp [intOf]; omega
            · obtain ⟨g0, c0, e0, -, -, -, -⟩ := H.rowAt 1 rfl (by omega)
              simp only [Value.slice.injEq] at e0
              obtain ⟨rfl, -, rfl⟩ := e0
              obtain ⟨gF, cF, eF, -, -, -, -⟩ := H.rowAt 0 rfl (by omega)
              simp only [Value.slice.injEq] at eF
              obtain ⟨rfl, -, rfl⟩ := eF
              obtain ⟨q0, q1⟩ := H.elem 1 rfl (j := j) (u := .bool (lvB T xs X k j)) (by rw [List.getElem?_map, atB_range hjN, Option.map_some, mixB_at])
              obtain ⟨f0, -⟩ := H.elem 0 rfl (j := j) (u := .bool (reachB T.cells [py] j)) (by rw [List.getElem?_map, HFa.out j hjN]; rfl)
              have hst := HSt.out j
              rw [Bool.true_and] at hst
              have HQ := H.putB 1 rfl j (lvB T xs X (k + 1) j)
              rw [setB_range (g := mixB T xs X k (j + 1)) (mixB_next _ _ _ _ _) (fun c _ hc => mixB_else hc)] at HQ
              simp only [List.set_cons_zero, List.set_cons_succ] at HQ
              have HQh := Go.Lib.hid HQ
              clear HQ H
              obtain ⟨b1, hb1⟩ : ∃ b, b = lvB T xs X k j := ⟨_, rfl⟩
              obtain ⟨b2, hb2⟩ : ∃ b, b = reachB T.cells [py] j := ⟨_, rfl⟩
              obtain ⟨b3, hb3⟩ : ∃ b, b = lvB T xs X (k + 1) j := ⟨_, rfl⟩
              rw [← hb1] at q0 hst
              rw [← hb2] at f0 hst
              rw [← hb3] at HQh hst
              clear hb1 hb2 hb3
              cases b1
              · cases b2
                · obtain rfl : b3 = false := hst
                  go_wp2
                  go_roundw
                  case rel => exact ⟨j + 1, by go_num, by omega, (fun h => by cases h), HQh.out⟩
                  case measure => simp [intOf]; omega
                · obtain rfl : b3 = true := hst
                  go_wp2
                  go_roundw
                  case rel => exact ⟨j + 1, by go_num, by omega, (fun h => by cases h), HQh.out⟩
                  case measure => simp [intOf]; omega
              · obtain rfl : b3 = true := hst
                go_wp2
                go_roundw
                case rel => exact ⟨j + 1, by go_num, by omega, (fun h => by cases h), HQh.out⟩
                case measure => simp [intOf]; omega
          · have hsame : (List.range T.cells.length).map (mixB T xs X k j) = (List.range T.cells.length).map (lvB T xs X (k + 1)) := sameB_range fun c hc => by unfold mixB; rw [if_pos (by omega)]
            rw [hsame] at H
            have H9 := H.erase 0
            simp only [List.eraseIdx_cons_zero] at H9
            have j4 : ¬ (j : Int) < (F.length : Int) := by omega
            clear H hsame
            go_wp2
            go_roundw
            case rel => exact ⟨k + 1, by go_num, by omega, H9⟩
            case measure => simp [intOf]; omega
      · have hkx : Hid (k = xs.length) := Go.Lib.hid (by omega)
        rw [hkx.out] at H
        have H7 := H
        clear H x0 x1 hk
        go_wp2_with fail
        clear hlt hkx
        go_loopw [10] (fun i wr => ∃ m : Nat, i = .int .i64 m ∧ m ≤ X.length ∧ Owns w.heap.size w wr [.boolsIn (.slice A6 T.cells.length k6) T.cells.length ((List.range T.cells.length).map (lvB T xs X xs.length)), .bools (.slice A2 X.length k2) X, .box w1.heap.size [.slice C T.cells.length kC, .slice R nR kR] 27, .pairs (.slice V xs.length kV) xs, .cells (.slice C T.cells.length kC) rvs T.cells, .ints rv0 rs0]) (fun i _ => X.length - (intOf i).toNat)
        case atStart => exact ⟨0, rfl, Nat.zero_le _, H7⟩
        case round =>
          clear H7
          obtain ⟨m, rfl, hm, H⟩ := hrel
          by_cases hlm : m < X.length
          · obtain ⟨⟨px, py⟩, hp0⟩ : ∃ p, Hid (xs[m]? = some p) := ⟨_, Go.Lib.hid (List.getElem?_eq_getElem (by omega))⟩
            obtain ⟨bk, hb0⟩ : ∃ b, Hid (X[m]? = some b) := ⟨_, Go.Lib.hid (List.getElem?_eq_getElem hlm)⟩
            have hux := (HU.out _ (List.mem_of_getElem? hp0.out)).1
            have hend := HEnd.out m _ _ hp0.out hb0.out
            obtain ⟨q, hq, hqN⟩ : ∃ q : Nat, px = (q : Int) ∧ q < T.cells.length := by
              simp only [usedB, Bool.and_eq_true, decide_eq_true_eq] at hux
              exact ⟨px.toNat, by omega, by omega⟩
            subst hq
            rw [Int.toNat_natCast] at hend
            obtain ⟨g3, c3, e3, -, -, -, -⟩ := H.rowAt 3 rfl (by omega)
            simp only [Value.slice.injEq] at e3
            obtain ⟨rfl, -, rfl⟩ := e3
            obtain ⟨p1, p2⟩ := H.pairAt 3 rfl hp0.out
            obtain ⟨g1, c1, e1, -, -, -, -⟩ := H.rowAt 1 rfl (by omega)
            simp only [Value.slice.injEq] at e1
            obtain ⟨rfl, -, rfl⟩ := e1
            obtain ⟨z1, -⟩ := H.elem 1 rfl (j := m) (u := .bool bk) (by rw [List.getElem?_map, hb0.out]; rfl)
            obtain ⟨g0, c0, e0, -, -, -, -⟩ := H.rowAt 0 rfl (by omega)
            simp only [Value.slice.injEq] at e0
            obtain ⟨rfl, -, rfl⟩ := e0
            obtain ⟨q0, -⟩ := H.elem 0 rfl (j := q) (u := .bool bk) (by rw [List.getElem?_map, atB_range hqN, hend]; rfl)
            have i1 : (0 : Int) ≤ (m : Int) := by omega
            have i2 : (m : Int) < (X.length : Int) := by omega
            have i3 : (m : Int) < (xs.length : Int) := by omega
            have i4 : (0 : Int) ≤ (q : Int) := by omega
            have i5 : (q : Int) < (T.cells.length : Int) := by omega
            have HX := H.drew
            have H0 := Go.Lib.hid H
            clear H hend hux hb0 hp0
            go_wp2_with fail
            refine wp_region_tree (fun w' => w'.cell? ⟨g3, m * 2, none⟩ = some (.int .i64 (q : Int)) ∧ w'.cell? ⟨g1, m, none⟩ = some (.bool bk) ∧ w'.cell? ⟨g0, q, none⟩ = some (.bool bk)) 23 [] (.take 0 (.take 1 (.take 2 (.take 3 (.take 4 (.take 5 (.take 6 (.take 7 (.take 8 (.take 9 (.take 10 (.take 11 (.take 12 (.take 13 (.take 14 (.take 15 (.take 16 (.take 17 (.take 18 (.take 19 (.take 20 (.take 21 (.take 22 (.done)))))))))))))))))))))))) (by kernel_rfl) (by kernel_rfl) (by kernel_rfl) (⟨p1, z1, q0⟩) ?_
            simp only [fillT, List.getElem?_cons_zero, List.getElem?_cons_succ]
            repeat (first
              | (with_reducible refine po_take (v := ?_) ?_ (fun w' hS' => ?_) ?_
                 rotate_left
                 · (go_simp; done)
                 · ((try dsimp only at hS'); go_simp; try with_reducible rfl)
                 simp only [Act.put, List.setIfInBounds_toArray, List.set_cons_zero, List.set_cons_succ])
              | (with_reducible refine po_skip ?_ ?_
                 · (go_simp; done)
                 simp only [Act.put, List.setIfInBounds_toArray, List.set_cons_zero, List.set_cons_succ]))
            refine po_done ?_
            clear H0 p1 p2 z1 q0
            go_wp2
            go_roundw
            case rel => first | exact ⟨m + 1, by go_num, by omega, HX⟩ | exact ⟨m + 1, by go_num, by omega⟩
            case measure => simp [intOf]; omega
          · have e2 : ((X.length : Int) == (xs.length : Int)) = true := by simp; omega
            have HB := H.below
            clear H
            go_wp2
            go_ret
            exact ⟨rfl, HB⟩
end Go.Proofs.Ytnpehidhoekfcaa
