/- A heap with regions that are asked for, drawn from a code; the law FnWantedRegions' walk. For every code that can be read. -/
import Derived.Test.YtmhcajjlhiopmaaWn
import Derived.Test.YtmhcajjlhiopmaaAl
import Derived.Test.YtmhcajjlhiopmaaWq
import Derived.Test.YtmhcajjlhiopmaaWrS
import Derived.Test.YtmhcajjlhiopmaaSm
namespace Go.Proofs.Ytmhcajjlhiopmaa
open Go.RowKit
theorem Owns.rdTail {lo : Nat} {w0 w : World} {L : List OB} {v0 : Value} {xs xs0 : List Int} {A : Option Addr} {n c : Nat} (h : Owns lo w0 w L) (i : Nat) (hX : L[i]? = some (.ints v0 xs0)) (ht : TailOf (.slice A n c) v0 xs xs0) : RdI w w.heap.size A n c xs := by
  rcases ht with ⟨rfl, rfl⟩ | ⟨g, m, d, rfl, e, rfl, hm⟩
  · exact (h.owI i hX).rdI
  · simp only [Value.slice.injEq] at e
    obtain ⟨rfl, rfl, rfl⟩ := e
    exact ((h.owI i hX).rdI).drop1 hm
/-- A heap and four regions, of the call's own. -/
def DrawnHW (w : World) (e : Ending) (w' : World) : Prop :=
  ∃ (h : Hp) (cv : Value) (rvs : List Value) (rv rv0 v v0 : Value) (rs0 xs xs0 : List Int), e = .returned (.tuple #[.agg #[cv, rv], v]) ∧ SmG h ∧ TailOf rv rv0 h.roots rs0 ∧ TailOf v v0 xs xs0 ∧ Owns w.heap.size w w' [.ints v0 xs0, .cells cv rvs h.cells, .ints rv0 rs0]
set_option maxHeartbeats 1600000 in
set_option maxRecDepth 20000 in
theorem DrawWantedRegions_any (w : World) (A : Option Addr) (n c : Nat) (bs : List Int) (hr : RdY w w.heap.size A n c bs) :
    Calls Try.prog 9 #[.slice A n c] w (DrawnHW w) := by
  have H := (Owns.nil w).box [.slice none 0 0, .slice none 0 0] 26
  go_enter Try.func9, Try.ntmps9
  go_wp2_with fail
  refine (open_own H A n c bs hr).mono ?_
  rintro e w1 ⟨g, A1, n1, c1, bs1, rfl, hU, H1⟩
  clear H hr
  go_wp2_with fail
  refine (heap_own H1 0 rfl hU (by omega) 14 (by omega) (by omega)).mono ?_
  rintro e w2 ⟨T, cv, rvs, rv, rv0, rs0, p1, rfl, hS, ht, hp1, hp2, H2⟩
  simp only [List.set_cons_zero] at H2
  clear H1
  obtain ⟨C, kC, rfl, -⟩ := H2.formC 0 rfl
  obtain ⟨R0, kR0, e0, -⟩ := H2.formI 1 rfl
  obtain ⟨R, nR, kR, rfl⟩ := ht.form e0
  clear e0
  have HA := H2.box [.slice C T.cells.length kC, .slice R nR kR] 26
  clear H2
  go_wp2_with fail
  have HX := HA.drew
  have H0 := Go.Lib.hid HA
  have HTl := Go.Lib.hid ht
  have HSm := Go.Lib.hid hS
  clear HA ht hS
  obtain ⟨x0, x1, -, -⟩ := HX.box2 0 rfl
  refine wp_region_tree (fun w' => w'.cell? ⟨w2.heap.size, 0, none⟩ = some (.slice C T.cells.length kC) ∧ w'.cell? ⟨w2.heap.size, 1, none⟩ = some (.slice R nR kR)) 5 [] (.take 0 (.take 1 (.alt 2 (.alt 3 (.take 4 (.done)) (.stop)) (.stop)))) (by kernel_rfl) (by kernel_rfl) (by kernel_rfl) (⟨x0, x1⟩) ?_
  simp only [fillT, List.getElem?_cons_zero, List.getElem?_cons_succ, Nat.reduceBEq]
  repeat (first
    | (with_reducible refine po_take (v := ?_) ?_ (fun w' hS' => ?_) ?_
       rotate_left
       · (go_simp; done)
       · ((try dsimp only at hS'); go_simp; try with_reducible rfl)
       simp only [Act.put, List.setIfInBounds_toArray, List.set_cons_zero, List.set_cons_succ])
    | (with_reducible refine po_skip ?_ ?_
       · (go_simp; done)
       simp only [Act.put, List.setIfInBounds_toArray, List.set_cons_zero, List.set_cons_succ]))
  with_reducible refine po_run ?_ (fun K hK => ?_) ?_
  · (go_simp; done)
  rotate_left
  · exact po_stop
  try (revert x0 x1 HX; generalize World.drew _ = wd; intro HX x0 x1)
  go_simp
  refine (wants_own HX 3 rfl hU (by omega)).mono ?_
  rintro e w3 ⟨v, v0, xs, xs0, p3, rfl, hvt, -, -, -, HY⟩
  simp only [List.set_cons_zero, List.set_cons_succ] at HY
  have HV := Go.Lib.hid hvt
  clear HX x0 x1 hvt
  have HX := HY
  clear HY
  obtain ⟨x0, x1, -, -⟩ := HX.box2 1 rfl
  refine hK.out _ _ (.inr (⟨x0, x1⟩)) ?_
  clear hK K
  with_reducible refine po_run ?_ (fun K hK => ?_) ?_
  · (go_simp; done)
  rotate_left
  · exact po_stop
  obtain ⟨y0, y1, y2, y3⟩ := HX.box2 5 rfl
  go_simp
  have HZ := (HX.putBox 5 rfl 0 (.slice C T.cells.length kC)).putBox 5 rfl 1 (.slice R nR kR)
  simp only [List.set_cons_zero, List.set_cons_succ] at HZ
  clear HX x0 x1 y0 y1 y2 y3
  have HX := HZ
  clear HZ
  obtain ⟨x0, x1, -, -⟩ := HX.box2 1 rfl
  refine hK.out _ _ (.inr (⟨x0, x1⟩)) ?_
  clear hK K
  repeat (first
    | (with_reducible refine po_take (v := ?_) ?_ (fun w' hS' => ?_) ?_
       rotate_left
       · (go_simp; done)
       · ((try dsimp only at hS'); go_simp; try with_reducible rfl)
       simp only [Act.put, List.setIfInBounds_toArray, List.set_cons_zero, List.set_cons_succ])
    | (with_reducible refine po_skip ?_ ?_
       · (go_simp; done)
       simp only [Act.put, List.setIfInBounds_toArray, List.set_cons_zero, List.set_cons_succ]))
  refine po_done ?_
  obtain ⟨z0, z1, -, -⟩ := HX.box2 5 rfl
  have HE := (HX.erase 1).take 3
  simp only [List.eraseIdx_cons_zero, List.eraseIdx_cons_succ, List.take_succ_cons, List.take_zero] at HE
  have HS : Hid (DrawnHW w (.returned (.tuple #[.agg #[.slice C T.cells.length kC, .slice R nR kR], v])) _) := Go.Lib.hid ⟨T, _, rvs, _, _, _, _, _, xs, _, rfl, HSm.out, HTl.out, HV.out, HE⟩
  clear HX H0 HE x0 x1
  go_wp2
  exact bodyPost_ret (v := .tuple #[.agg #[.slice C T.cells.length kC, .slice R nR kR], v]) (by simp [results, Try.results9, go_sem, z0, z1]) rfl HS.out
set_option maxHeartbeats 6400000 in
set_option maxRecDepth 20000 in
theorem lawWantedRegions_any (w : World) {A : Option Addr} {n c : Nat} {bs : List Int} (hr : RdY w w.heap.size A n c bs) :
    Calls Try.prog 3 #[.slice A n c] w fun e w' => e = .returned (.bool true) ∧ Below w.heap.size w w' := by
  by_cases s0 : 1048576 < n
  · go_enter Try.func3, Try.ntmps3
    go_wp2
    go_ret
    exact ⟨rfl, Below.refl _ _⟩
  go_enter Try.func3, Try.ntmps3
  go_wp2_with fail
  refine (DrawWantedRegions_any w A n c bs hr).mono ?_
  rintro e w1 ⟨T, cv, rvs, rv, rv0, v, v0, rs0, xs, xs0, rfl, hS, ht, hvt, H1⟩
  obtain ⟨C, kC, rfl, -⟩ := H1.formC 1 rfl
  obtain ⟨R0, kR0, e0, -⟩ := H1.formI 2 rfl
  obtain ⟨R, nR, kR, rfl⟩ := ht.form e0
  obtain ⟨V0, kV0, e1, -⟩ := H1.formI 0 rfl
  obtain ⟨V, nV, kV, rfl⟩ := hvt.form e1
  have HT := Go.Lib.hid ht
  have HV := Go.Lib.hid hvt
  clear e0 e1 ht hvt hS hr s0
  have H := H1.box [.slice C T.cells.length kC, .slice R nR kR] 26
  clear H1
  obtain ⟨x0, x1, -, -⟩ := H.box2 0 rfl
  go_wp2_with fail
  refine (implWantedRegions_any _ _ _ _ T _ _ _ xs (H.rdHx 2 3 rfl rfl HT.out) (H.rdTail 1 rfl HV.out)).mono ?_
  rintro e w2 ⟨v2, rfl, ho2, hb2⟩
  obtain ⟨X, hX⟩ : ∃ X, X = mWantedRegions T xs := ⟨_, rfl⟩
  rw [← hX] at ho2
  have HXe := Go.Lib.hid hX
  clear hX
  have H2 := H.madeI ho2 hb2
  clear H ho2 hb2 x0 x1
  obtain ⟨A2, k2, rfl, -⟩ := H2.formI 0 rfl
  obtain ⟨x0, x1, -, -⟩ := H2.box2 1 rfl
  go_wp2_with fail
  refine (specWantedRegions_any _ _ _ _ T _ _ _ xs (H2.rdHx 3 4 rfl rfl HT.out) (H2.rdTail 2 rfl HV.out)).mono ?_
  rintro e w3 ⟨v3, rfl, ho3, hb3⟩
  rw [← HXe.out] at ho3
  have H3 := H2.madeI ho3 hb3
  clear H2 ho3 hb3 x0 x1
  obtain ⟨A3, k3, rfl, -⟩ := H3.formI 0 rfl
  go_wp2_with fail
  refine (sameInts_yes _ _ _ _ _ _ _ _ _ X (H3.owI 1 rfl).rdI (H3.owI 0 rfl).rdI).mono ?_
  rintro e w4 ⟨rfl, hb4⟩
  have H4 := (H3.call hb4).erase 0
  simp only [List.eraseIdx_cons_zero] at H4
  clear H3 hb4
  obtain ⟨x0, x1, -, -⟩ := H4.box2 1 rfl
  by_cases h0 : X.length = 0
  · obtain rfl : X = [] := List.length_eq_zero_iff.1 h0
    clear h0 x0 x1
    go_wp2_with fail
    refine (alive_any _).mono ?_
    rintro e w8 ⟨rfl, hb⟩
    have HB := (H4.call hb).below
    clear H4 hb
    go_wp2
    go_ret
    exact ⟨rfl, HB⟩
  · obtain ⟨f1, f2, f3, f4⟩ := mWanted_facts (h := T) (ws := xs) (by rw [← HXe.out]; omega)
    have hn1 := RdI.le1 (H4.rdTail 2 rfl HV.out)
    have hn2 := RdI.le2 (H4.rdTail 2 rfl HV.out)
    obtain rfl : nV = 4 := by omega
    obtain ⟨f5, f6⟩ := heapOk_small f1
    have hr1 := RdI.le1 (H4.rdTail 4 rfl HT.out)
    have hr2 := RdI.le2 (H4.rdTail 4 rfl HT.out)
    obtain rfl : nR = 4 := by omega
    have hXm : X = (List.range T.cells.length).map (wTo T xs 4) := HXe.out.trans f4
    have hXl : X.length = T.cells.length := by rw [hXm]; simp
    have HF1 := Go.Lib.hid f1
    have HF2 := Go.Lib.hid f2
    have HF3 := Go.Lib.hid f3
    have HXm := Go.Lib.hid hXm
    have HXl := Go.Lib.hid hXl
    clear f1 f2 f3 f4 hXm hn1 hn2 hr1 hr2 x0 x1 HXe hXl
    go_wp2_with fail
    go_loopw [6] (fun i wr => ∃ k : Nat, i = .int .i64 k ∧ k ≤ 4 ∧ Owns w.heap.size w wr [.ints (.slice A2 X.length k2) X, .box w1.heap.size [.slice C T.cells.length kC, .slice R 4 kR] 26, .ints v0 xs0, .cells (.slice C T.cells.length kC) rvs T.cells, .ints rv0 rs0]) (fun i _ => 4 - (intOf i).toNat)
    case atStart => exact ⟨0, rfl, Nat.zero_le _, H4⟩
    case round =>
      clear H4
      obtain ⟨k, rfl, hk, H⟩ := hrel
      obtain ⟨x0, x1, -, -⟩ := H.box2 1 rfl
      by_cases hlt : k < 4
      · obtain ⟨b, o, r, rfl, -, hr0, g1⟩ := RdI.at_ (H.rdTail 4 rfl HT.out) hlt
        obtain ⟨b', o', x, rfl, -, hw0, g2⟩ := RdI.at_ (H.rdTail 2 rfl HV.out) hlt
        have i1 : (0 : Int) ≤ (k : Int) := by omega
        have i2 : (k : Int) < 4 := by omega
        by_cases hrn : r < 0
        · have HX := H.drew
          clear hr0 hw0
          go_wp2_with fail
          refine wp_region_tree (fun w' => True) 13 [] (.take 0 (.take 1 (.take 2 (.take 3 (.take 4 (.take 5 (.take 6 (.take 7 (.take 8 (.take 9 (.take 10 (.take 11 (.take 12 (.done)))))))))))))) (by kernel_rfl) (by kernel_rfl) (by kernel_rfl) (trivial) ?_
          simp only [fillT, List.getElem?_cons_zero, List.getElem?_cons_succ]
          repeat (first
            | (with_reducible refine po_take (v := ?_) ?_ (fun w' hS' => ?_) ?_
               rotate_left
               · (go_simp; done)
               · ((try dsimp only at hS'); go_simp; try with_reducible rfl)
               simp only [Act.put, List.setIfInBounds_toArray, List.set_cons_zero, List.set_cons_succ])
            | (with_reducible refine po_skip ?_ ?_
               · (go_simp; done)
               simp only [Act.put, List.setIfInBounds_toArray, List.set_cons_zero, List.set_cons_succ]))
          refine po_done ?_
          go_wp2
          go_roundw
          case rel => first | exact ⟨k + 1, by go_num, by omega, HX⟩ | exact ⟨k + 1, by go_num, by omega⟩
          case measure => simp [intOf]; omega
        · obtain ⟨q, rfl⟩ := Int.eq_ofNat_of_zero_le (by omega : 0 ≤ r)
          obtain ⟨hq, hle⟩ := wanted_root (ws := xs) HF1.out hlt hr0.out
          rw [List.getD_eq_getElem?_getD, hw0.out] at hle
          simp only [Option.getD_some] at hle
          have hXq : X[q]? = some (wTo T xs 4 q) := by rw [HXm.out]; simp [List.getElem?_range hq]
          have hXl := HXl.out
          obtain ⟨g3, c3, e3, -, -, -, -⟩ := H.rowAt 0 rfl (by omega)
          simp only [Value.slice.injEq] at e3
          obtain ⟨rfl, -, rfl⟩ := e3
          obtain ⟨z3, -⟩ := H.elem 0 rfl (j := q) (u := .int .i64 (wTo T xs 4 q)) (by rw [List.getElem?_map, hXq]; rfl)
          obtain ⟨y, hy⟩ : ∃ y, y = wTo T xs 4 q := ⟨_, rfl⟩
          rw [← hy] at z3 hle
          have i3 : (0 : Int) ≤ (q : Int) := by omega
          have i4 : (q : Int) < (X.length : Int) := by omega
          have HX := H.drew
          clear hr0 hw0 hXq hy hXl hrn
          go_wp2_with fail
          refine wp_region_tree (fun w' => w'.cell? ⟨g3, q, none⟩ = some (.int .i64 y) ∧ w'.cell? ⟨b', o' + k, none⟩ = some (.int .i64 x)) 13 [] (.take 0 (.take 1 (.take 2 (.take 3 (.take 4 (.take 5 (.take 6 (.take 7 (.take 8 (.take 9 (.take 10 (.take 11 (.take 12 (.done)))))))))))))) (by kernel_rfl) (by kernel_rfl) (by kernel_rfl) (⟨z3, g2⟩) ?_
          simp only [fillT, List.getElem?_cons_zero, List.getElem?_cons_succ]
          repeat (first
            | (with_reducible refine po_take (v := ?_) ?_ (fun w' hS' => ?_) ?_
               rotate_left
               · (go_simp; done)
               · ((try dsimp only at hS'); go_simp; try with_reducible rfl)
               simp only [Act.put, List.setIfInBounds_toArray, List.set_cons_zero, List.set_cons_succ])
            | (with_reducible refine po_skip ?_ ?_
               · (go_simp; done)
               simp only [Act.put, List.setIfInBounds_toArray, List.set_cons_zero, List.set_cons_succ]))
          refine po_done ?_
          go_wp2
          go_roundw
          case rel => exact ⟨k + 1, by go_num, by omega, HX⟩
          case measure => simp [intOf]; omega
      · have H5 := H.litI [5, 5, 5, 5] (by show 4 ≤ maxLen; unfold maxLen; omega)
        simp only [List.map_cons, List.map_nil, List.length_cons, List.length_nil, Nat.zero_add, Nat.reduceAdd] at H5
        clear H
        go_wp2_with fail
        refine (implWantedRegions_any _ _ _ _ T _ _ _ [5, 5, 5, 5] (H5.rdHx 4 5 rfl rfl HT.out) (H5.owI 0 rfl).rdI).mono ?_
        rintro e w6 ⟨v6, rfl, ho6, hb6⟩
        obtain ⟨Y, hY⟩ : ∃ Y, Y = mWantedRegions T [5, 5, 5, 5] := ⟨_, rfl⟩
        rw [← hY] at ho6
        have HYm : Hid (Y = (List.range T.cells.length).map (wTo T [5, 5, 5, 5] 4)) := Go.Lib.hid (hY.trans (wanted_five HF1.out))
        have hYl : Y.length ≤ T.cells.length := by rw [HYm.out]; simp
        have hYl' : T.cells.length ≤ Y.length := by rw [HYm.out]; simp
        have H6 := (H5.madeI ho6 hb6).erase 1
        simp only [List.eraseIdx_cons_zero, List.eraseIdx_cons_succ] at H6
        clear H5 ho6 hb6 hY x0 x1 hk hlt
        obtain ⟨A5, k5, rfl, -⟩ := H6.formI 0 rfl
        go_wp2_with fail
        go_loopw [9] (fun i wr => ∃ k : Nat, i = .int .i64 k ∧ k ≤ Y.length ∧ Owns w.heap.size w wr [.ints (.slice A5 Y.length k5) Y, .ints (.slice A2 X.length k2) X, .box w1.heap.size [.slice C T.cells.length kC, .slice R 4 kR] 26, .ints v0 xs0, .cells (.slice C T.cells.length kC) rvs T.cells, .ints rv0 rs0]) (fun i _ => Y.length - (intOf i).toNat)
        case atStart => exact ⟨0, rfl, Nat.zero_le _, H6⟩
        case round =>
          clear H6
          obtain ⟨j, rfl, hj, H⟩ := hrel
          obtain ⟨x0, x1, -, -⟩ := H.box2 2 rfl
          by_cases hlj : j < Y.length
          · obtain ⟨l, hl1⟩ : ∃ l, Hid (T.cells[j]? = some l) := ⟨_, Go.Lib.hid (List.getElem?_eq_getElem (by omega))⟩
            obtain ⟨gC, cC, A1, c1, eC, -, u1, -, -, -, -, -, -, -⟩ := H.cellW 4 rfl hl1
            simp only [Value.slice.injEq] at eC
            obtain ⟨rfl, -, rfl⟩ := eC
            have i1 : (0 : Int) ≤ (j : Int) := by omega
            have i2 : (j : Int) < (Y.length : Int) := by omega
            have i3 : (j : Int) < (T.cells.length : Int) := by omega
            cases hu : l.used
            · rw [hu] at u1
              clear hu
              go_wp2
              go_roundw
              case rel => exact ⟨j + 1, by go_num, by omega, H⟩
              case measure => simp [intOf]; omega
            · rw [hu] at u1
              have hu2 : usedN T.cells j = true := by rw [usedN_at hl1]; exact hu
              have hYj : Y[j]? = some 5 := by rw [HYm.out, List.getElem?_map, List.getElem?_range (by omega)]; simp [wanted_all hu2]
              obtain ⟨g3, c3, e3, -, -, -, -⟩ := H.rowAt 0 rfl (by omega)
              simp only [Value.slice.injEq] at e3
              obtain ⟨rfl, -, rfl⟩ := e3
              obtain ⟨z3, -⟩ := H.elem 0 rfl (j := j) (u := .int .i64 5) (by rw [List.getElem?_map, hYj]; rfl)
              clear hu hu2 hYj
              go_wp2
              go_roundw
              case rel => exact ⟨j + 1, by go_num, by omega, H⟩
              case measure => simp [intOf]; omega
          · have HVal : Hid (mRegionsValid T X = true) := Go.Lib.hid (by rw [HXm.out]; exact wanted_valid HF1.out HF3.out)
            have e2 : ((Y.length : Int) == (T.cells.length : Int)) = true := by simp; omega
            go_wp2_with fail
            refine (implRegionsValid_any _ _ _ _ T _ _ _ X (H.rdHx 4 5 rfl rfl HT.out) (H.owI 1 rfl).rdI).mono ?_
            rintro e w7 ⟨rfl, hb7⟩
            rw [HVal.out]
            have H7 := H.call hb7
            clear H hb7 x0 x1
            obtain ⟨x0, x1, -, -⟩ := H7.box2 2 rfl
            have HB := H7.below
            clear H7
            go_wp2
            go_ret
            exact ⟨rfl, HB⟩
end Go.Proofs.Ytmhcajjlhiopmaa
