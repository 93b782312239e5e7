/- A heap with regions and a number drawn from a code; the law FnDropRegion's walk. For every code that can be read. -/
import Derived.Test.YtmhcajjlhiopmaaRo
import Derived.Test.YtmhcajjlhiopmaaAl
import Derived.Test.YtmhcajjlhiopmaaDq
import Derived.Test.YtmhcajjlhiopmaaDrS
import Derived.Test.YtmhcajjlhiopmaaSm
namespace Go.Proofs.Ytmhcajjlhiopmaa
open Go.RowKit
theorem drCells_sub {cs : List Cel} {rs : List Int} {f : Int} {c : Cel} (h : c ∈ drCells cs rs f) : c = noCel ∨ c ∈ cs := by
  obtain ⟨k, hk⟩ := List.mem_iff_getElem?.1 h
  have hkl : k < cs.length := by have := (List.getElem?_eq_some_iff.1 hk).1; rwa [drCells_len] at this
  rw [drCells_at (List.getElem?_eq_getElem hkl)] at hk
  split at hk
  · cases hk; exact .inl rfl
  · cases hk; exact .inr (List.getElem_mem hkl)
/-- A heap, regions and a number, of the call's own. -/
def DrawnHRN (w : World) (e : Ending) (w' : World) : Prop :=
  ∃ (h : Hp) (cv : Value) (rvs : List Value) (rv rv0 v : Value) (rs0 xs : List Int) (f : Nat), e = .returned (.tuple #[.agg #[cv, rv], v, .int .i64 (f : Int)]) ∧ SmG h ∧ TailOf rv rv0 h.roots rs0 ∧ xs.length ≤ 60 ∧ f ≤ 6 ∧ Owns w.heap.size w w' [.ints v xs, .cells cv rvs h.cells, .ints rv0 rs0]
set_option maxHeartbeats 1600000 in
set_option maxRecDepth 20000 in
theorem DrawDropRegion_any (w : World) (A : Option Addr) (n c : Nat) (bs : List Int) (hr : RdY w w.heap.size A n c bs) :
    Calls Try.prog 26 #[.slice A n c] w (DrawnHRN w) := by
  have H := (Owns.nil w).box [.slice none 0 0, .slice none 0 0] 26
  go_enter Try.func26, Try.ntmps26
  go_wp2_with fail
  refine (open_own H A n c bs hr).mono ?_
  rintro e w1 ⟨g, A1, n1, c1, bs1, rfl, hU, H1⟩
  clear H hr
  go_wp2_with fail
  refine (regions_own H1 0 rfl hU (by omega) 12 (by omega) (by omega)).mono ?_
  rintro e w2 ⟨T, cv, rvs, rv, rv0, v, rs0, xs, p1, rfl, hS, ht, hxl, -, hp1, hp2, H2⟩
  simp only [List.set_cons_zero] at H2
  clear H1
  obtain ⟨C, kC, rfl, -⟩ := H2.formC 1 rfl
  obtain ⟨R0, kR0, e0, -⟩ := H2.formI 2 rfl
  obtain ⟨R, nR, kR, rfl⟩ := ht.form e0
  clear e0
  have HA := H2.box [.slice C T.cells.length kC, .slice R nR kR] 26
  clear H2
  go_wp2_with fail
  have HX := HA.drew
  have H0 := Go.Lib.hid HA
  have HTl := Go.Lib.hid ht
  have HSm := Go.Lib.hid hS
  clear HA ht hS
  obtain ⟨x0, x1, -, -⟩ := HX.box2 0 rfl
  refine wp_region_tree (fun w' => w'.cell? ⟨w2.heap.size, 0, none⟩ = some (.slice C T.cells.length kC) ∧ w'.cell? ⟨w2.heap.size, 1, none⟩ = some (.slice R nR kR)) 7 [] (.take 0 (.take 1 (.take 2 (.alt 3 (.alt 4 (.take 5 (.take 6 (.done))) (.stop)) (.stop))))) (by kernel_rfl) (by kernel_rfl) (by kernel_rfl) (⟨x0, x1⟩) ?_
  simp only [fillT, List.getElem?_cons_zero, List.getElem?_cons_succ, Nat.reduceBEq]
  repeat (first
    | (with_reducible refine po_take (v := ?_) ?_ (fun w' hS' => ?_) ?_
       rotate_left
       · (go_simp; done)
       · ((try dsimp only at hS'); go_simp; try with_reducible rfl)
       simp only [Act.put, List.setIfInBounds_toArray, List.set_cons_zero, List.set_cons_succ])
    | (with_reducible refine po_skip ?_ ?_
       · (go_simp; done)
       simp only [Act.put, List.setIfInBounds_toArray, List.set_cons_zero, List.set_cons_succ]))
  with_reducible refine po_run ?_ (fun K hK => ?_) ?_
  · (go_simp; done)
  rotate_left
  · exact po_stop
  try (revert x0 x1 HX; generalize World.drew _ = wd; intro HX x0 x1)
  go_simp
  refine (pick_own HX 4 rfl hU (by omega) 7 (by unfold I64; omega)).mono ?_
  rintro e w3 ⟨f, rfl, hf, HY⟩
  replace hf : f ≤ 6 := by omega
  simp only [List.set_cons_zero, List.set_cons_succ] at HY
  clear HX x0 x1
  have HX := HY
  clear HY
  obtain ⟨x0, x1, -, -⟩ := HX.box2 0 rfl
  refine hK.out _ _ (.inr (⟨x0, x1⟩)) ?_
  clear hK K
  with_reducible refine po_run ?_ (fun K hK => ?_) ?_
  · (go_simp; done)
  rotate_left
  · exact po_stop
  obtain ⟨y0, y1, y2, y3⟩ := HX.box2 5 rfl
  go_simp
  have HZ := (HX.putBox 5 rfl 0 (.slice C T.cells.length kC)).putBox 5 rfl 1 (.slice R nR kR)
  simp only [List.set_cons_zero, List.set_cons_succ] at HZ
  clear HX x0 x1 y0 y1 y2 y3
  have HX := HZ
  clear HZ
  obtain ⟨x0, x1, -, -⟩ := HX.box2 0 rfl
  refine hK.out _ _ (.inr (⟨x0, x1⟩)) ?_
  clear hK K
  repeat (first
    | (with_reducible refine po_take (v := ?_) ?_ (fun w' hS' => ?_) ?_
       rotate_left
       · (go_simp; done)
       · ((try dsimp only at hS'); go_simp; try with_reducible rfl)
       simp only [Act.put, List.setIfInBounds_toArray, List.set_cons_zero, List.set_cons_succ])
    | (with_reducible refine po_skip ?_ ?_
       · (go_simp; done)
       simp only [Act.put, List.setIfInBounds_toArray, List.set_cons_zero, List.set_cons_succ]))
  refine po_done ?_
  obtain ⟨z0, z1, -, -⟩ := HX.box2 5 rfl
  have HE := (HX.erase 0).take 3
  simp only [List.eraseIdx_cons_zero, List.take_succ_cons, List.take_zero] at HE
  have HS : Hid (DrawnHRN w (.returned (.tuple #[.agg #[.slice C T.cells.length kC, .slice R nR kR], v, .int .i64 (f : Int)])) _) := Go.Lib.hid ⟨T, _, rvs, _, _, _, _, xs, f, rfl, HSm.out, HTl.out, hxl, hf, HE⟩
  clear HX H0 HE x0 x1
  go_wp2
  exact bodyPost_ret (v := .tuple #[.agg #[.slice C T.cells.length kC, .slice R nR kR], v, .int .i64 (f : Int)]) (by simp [results, Try.results26, go_sem, z0, z1]) rfl HS.out
set_option maxHeartbeats 6400000 in
set_option maxRecDepth 20000 in
theorem lawDropRegion_any (w : World) {A : Option Addr} {n c : Nat} {bs : List Int} (hr : RdY w w.heap.size A n c bs) :
    Calls Try.prog 6 #[.slice A n c] w fun e w' => e = .returned (.bool true) ∧ Below w.heap.size w w' := by
  by_cases s0 : 1048576 < n
  · go_enter Try.func6, Try.ntmps6
    go_wp2
    go_ret
    exact ⟨rfl, Below.refl _ _⟩
  go_enter Try.func6, Try.ntmps6
  go_wp2_with fail
  refine (DrawDropRegion_any w A n c bs hr).mono ?_
  rintro e w1 ⟨T, cv, rvs, rv, rv0, v, rs0, xs, f, rfl, hS, ht, hxl, hf6, H1⟩
  obtain ⟨C, kC, rfl, -⟩ := H1.formC 1 rfl
  obtain ⟨R0, kR0, e0, -⟩ := H1.formI 2 rfl
  obtain ⟨R, nR, kR, rfl⟩ := ht.form e0
  obtain ⟨V, kV, rfl, -⟩ := H1.formI 0 rfl
  have HT := Go.Lib.hid ht
  have HR3 : Hid (∀ c ∈ T.cells, c.refs.length ≤ 1048576) := Go.Lib.hid fun c hc => by have := hS.refs c hc; omega
  clear e0 ht hS hr s0
  have H := H1.box [.slice C T.cells.length kC, .slice R nR kR] 26
  clear H1
  obtain ⟨x0, x1, -, -⟩ := H.box2 0 rfl
  go_wp2_with fail
  refine (implDropRegion_any _ _ _ _ T _ _ _ xs (f : Int) (H.rdHx 2 3 rfl rfl HT.out) (H.owI 1 rfl).rdI HR3.out).mono ?_
  rintro e w2 ⟨cv2, rvs2, rv2, lv2, rfl, K⟩
  obtain ⟨X, hX⟩ : ∃ X, X = mDropH T xs f := ⟨_, rfl⟩
  obtain ⟨Y, hY⟩ : ∃ Y, Y = mDropL T xs f := ⟨_, rfl⟩
  obtain ⟨N, hN⟩ : ∃ N, N = mDropN T xs f := ⟨_, rfl⟩
  rw [← hX, ← hY] at K
  rw [← hN]
  have HXe := Go.Lib.hid hX
  have HYe := Go.Lib.hid hY
  have HNe := Go.Lib.hid hN
  clear hX hY hN
  have H2 := H.merge K
  simp only [List.cons_append, List.nil_append] at H2
  clear H K x0 x1
  obtain ⟨C2, k2, rfl, -⟩ := H2.formC 0 rfl
  obtain ⟨R2, kR2, rfl, -⟩ := H2.formI 1 rfl
  obtain ⟨A2, kA2, rfl, -⟩ := H2.formI 2 rfl
  have H3 := H2.box [.slice C2 X.cells.length k2, .slice R2 X.roots.length kR2] 26
  clear H2
  obtain ⟨x0, x1, -, -⟩ := H3.box2 4 rfl
  go_wp2_with fail
  refine (specDropRegion_any _ _ _ _ T _ _ _ xs (f : Int) (H3.rdHx 6 7 rfl rfl HT.out) (H3.owI 5 rfl).rdI HR3.out).mono ?_
  rintro e w3 ⟨cv3, rvs3, rv3, lv3, rfl, K⟩
  rw [← HXe.out, ← HYe.out] at K
  rw [← HNe.out]
  have H4 := H3.merge K
  simp only [List.cons_append, List.nil_append] at H4
  clear H3 K x0 x1
  obtain ⟨C3, k3, rfl, -⟩ := H4.formC 0 rfl
  obtain ⟨R3, kR3, rfl, -⟩ := H4.formI 1 rfl
  obtain ⟨A3, kA3, rfl, -⟩ := H4.formI 2 rfl
  have H5 := H4.box [.slice C3 X.cells.length k3, .slice R3 X.roots.length kR3] 26
  clear H4
  obtain ⟨y0, y1, -, -⟩ := H5.box2 0 rfl
  obtain ⟨x0, x1, -, -⟩ := H5.box2 4 rfl
  go_wp2_with fail
  refine (sameHeap_yes _ _ _ _ _ X (H5.rdHx 5 6 rfl rfl (.inl ⟨rfl, rfl⟩)) (H5.rdHx 1 2 rfl rfl (.inl ⟨rfl, rfl⟩))).mono ?_
  rintro e w4 ⟨rfl, hb4⟩
  have H6 := H5.call hb4
  clear H5 hb4 x0 x1 y0 y1
  go_wp2_with fail
  refine (sameInts_yes _ _ _ _ _ _ _ _ _ Y (H6.owI 7 rfl).rdI (H6.owI 3 rfl).rdI).mono ?_
  rintro e w5 ⟨rfl, hb5⟩
  have H7 := (H6.call hb5).drop 4
  simp only [List.drop_succ_cons, List.drop_zero] at H7
  clear H6 hb5
  cases hy : mDropOk T xs f
  · obtain ⟨e1, e2, e3⟩ := mDrop_no hy
    have hYn : Y = [] := HYe.out.trans e2
    have hNn : N = -1 := HNe.out.trans e3
    subst hYn hNn
    clear hy e1 e2 e3
    go_wp2_with fail
    refine (alive_any _).mono ?_
    rintro e w8 ⟨rfl, hb⟩
    have HB := (H7.call hb).below
    clear H7 hb
    go_wp2
    go_ret
    exact ⟨rfl, HB⟩
  · obtain ⟨e1, e2, e3⟩ := mDrop_yes hy
    obtain ⟨hv, hf1, hf5⟩ := mDropOk_parts hy
    obtain ⟨hlen, -, -⟩ := mRegions_parts hv
    obtain ⟨ag1, ag2⟩ := mDrop_again hy
    rw [← HXe.out, ← HYe.out] at ag1 ag2
    have HA1 := Go.Lib.hid ag1
    have HA2 := Go.Lib.hid ag2
    have HXc : Hid (X.cells = drCells T.cells xs f) := Go.Lib.hid (by rw [HXe.out, e1])
    have HYc : Hid (Y = xs.map (drZ f)) := Go.Lib.hid (by rw [HYe.out, e2])
    have HNc : Hid (N = ((drTo xs f xs.length : Nat) : Int)) := Go.Lib.hid (by rw [HNe.out, e3]; rfl)
    have hN0 : 0 ≤ N := by rw [HNc.out]; omega
    have HXr : Hid (∀ c ∈ X.cells, c.refs.length ≤ 1048576) := Go.Lib.hid (by
      rw [HXc.out]
      intro c hc
      rcases drCells_sub hc with rfl | h1
      · simp [noCel]
      · exact HR3.out c h1)
    have hl1 : X.cells.length ≤ T.cells.length := by rw [HXc.out, drCells_len]; omega
    have hl1' : T.cells.length ≤ X.cells.length := by rw [HXc.out, drCells_len]; omega
    have hl2 : Y.length ≤ xs.length := by rw [HYc.out, List.length_map]; omega
    have hl2' : xs.length ≤ Y.length := by rw [HYc.out, List.length_map]; omega
    have hl3 : xs.length ≤ T.cells.length := by omega
    have hl3' : T.cells.length ≤ xs.length := by omega
    clear hy e1 e2 e3 hv ag1 ag2 HXe HYe HNe hlen
    go_wp2_with fail
    go_loopw [12, 13] (fun v i wr => ∃ k : Nat, v = .int .i64 ((drTo xs f k : Nat) : Int) ∧ i = .int .i64 k ∧ k ≤ xs.length ∧ Owns w.heap.size w wr [.box w2.heap.size [.slice C2 X.cells.length k2, .slice R2 X.roots.length kR2] 26, .cells (.slice C2 X.cells.length k2) rvs2 X.cells, .ints (.slice R2 X.roots.length kR2) X.roots, .ints (.slice A2 Y.length kA2) Y, .box w1.heap.size [.slice C T.cells.length kC, .slice R nR kR] 26, .ints (.slice V xs.length kV) xs, .cells (.slice C T.cells.length kC) rvs T.cells, .ints rv0 rs0]) (fun _ i _ => xs.length - (intOf i).toNat)
    case atStart => exact ⟨0, by simp [drTo], rfl, Nat.zero_le _, H7⟩
    case round =>
      clear H7
      obtain ⟨k, rfl, rfl, hk, H⟩ := hrel
      obtain ⟨x0, x1, -, -⟩ := H.box2 0 rfl
      obtain ⟨y0, y1, -, -⟩ := H.box2 4 rfl
      have hle := drTo_le xs f k
      have hst := drTo_succ xs f k
      obtain ⟨m, hm⟩ : ∃ m, m = drTo xs f k := ⟨_, rfl⟩
      by_cases hlt : k < xs.length
      · rw [← hm] at hle hst ⊢
        have hm1 : m ≤ 60 := by omega
        clear hm hle
        obtain ⟨r, hr0⟩ : ∃ r, Hid (xs[k]? = some r) := ⟨_, Go.Lib.hid (List.getElem?_eq_getElem (by omega))⟩
        obtain ⟨l, hl0⟩ : ∃ l, Hid (T.cells[k]? = some l) := ⟨_, Go.Lib.hid (List.getElem?_eq_getElem (by omega))⟩
        have hXk := drCells_at (rs := xs) (f := f) hl0.out
        rw [drB_at hr0.out] at hXk hst
        rw [← HXc.out] at hXk
        have hYk : Y[k]? = some (drZ f r) := by rw [HYc.out, List.getElem?_map, hr0.out]; rfl
        obtain ⟨g5, c5, e5, -, -, -, -⟩ := H.rowAt 5 rfl (by omega)
        simp only [Value.slice.injEq] at e5
        obtain ⟨rfl, -, rfl⟩ := e5
        obtain ⟨z5, -⟩ := H.elem 5 rfl (j := k) (u := .int .i64 r) (by rw [List.getElem?_map, hr0.out]; rfl)
        obtain ⟨g3, c3, e3, -, -, -, -⟩ := H.rowAt 3 rfl (by omega)
        simp only [Value.slice.injEq] at e3
        obtain ⟨rfl, -, rfl⟩ := e3
        obtain ⟨z3, -⟩ := H.elem 3 rfl (j := k) (u := .int .i64 (drZ f r)) (by rw [List.getElem?_map, hYk]; rfl)
        have i1 : (0 : Int) ≤ (k : Int) := by omega
        have i2 : (k : Int) < (xs.length : Int) := by omega
        have i3 : (k : Int) < (Y.length : Int) := by omega
        have i4 : (k : Int) < (X.cells.length : Int) := by omega
        have i5 : (k : Int) < (T.cells.length : Int) := by omega
        by_cases hfr : (f : Int) ≤ r
        · rw [decide_eq_true hfr, if_pos rfl] at hXk
          rw [drZ_pos hfr] at z3
          rw [decide_eq_true hfr, if_pos rfl] at hst
          have hst := Go.Lib.hid hst
          obtain ⟨gC, cC, A1, c1, eC, -, u1, -, -, -, -, -, -, -⟩ := H.cellW 1 rfl (Go.Lib.hid hXk)
          simp only [Value.slice.injEq] at eC
          obtain ⟨rfl, -, rfl⟩ := eC
          simp only [noCel] at u1
          clear hXk hYk hr0 hl0
          go_wp2
          go_roundw
          case rel => exact ⟨k + 1, by rw [hst.out]; simp, by go_num, by omega, H⟩
          case measure => simp [intOf]; omega
        · rw [decide_eq_false hfr, if_neg Bool.false_ne_true] at hXk
          rw [drZ_neg (by omega)] at z3
          rw [decide_eq_false hfr, if_neg Bool.false_ne_true] at hst
          have hst := Go.Lib.hid hst
          obtain ⟨A7, c7, e7, r7⟩ := H.formC 1 rfl
          simp only [Value.slice.injEq] at e7
          obtain ⟨rfl, -, rfl⟩ := e7
          obtain ⟨b, o, x, D2, n2, d2, rfl, hbb, hx, q1, q2, q3, hrx⟩ := r7.at_ (k := k) (by omega)
          obtain rfl : l = x := by have := hx.out; rw [hXk] at this; exact Option.some.inj this
          obtain ⟨A8, c8, e8, r8⟩ := H.formC 6 rfl
          simp only [Value.slice.injEq] at e8
          obtain ⟨rfl, -, rfl⟩ := e8
          obtain ⟨b', o', x', D3, n3, d3, rfl, hbb', hx', q1', q2', q3', hrx'⟩ := r8.at_ (k := k) (by omega)
          obtain rfl := hid_inj hl0 hx'
          have HR := Go.Lib.hid hrx.top
          have HR' := Go.Lib.hid hrx'.top
          clear hXk hYk hr0 hl0 hrx hrx' r7 r8 hx hx' hbb hbb'
          go_wp2_with fail
          have HX := H.drew
          have H0 := Go.Lib.hid H
          clear H
          refine wp_region_tree (fun w' => w'.cell? ⟨w2.heap.size, 0, none⟩ = some (.slice (some ⟨b, o, none⟩) X.cells.length k2) ∧ w'.cell? ⟨w1.heap.size, 0, none⟩ = some (.slice (some ⟨b', o', none⟩) T.cells.length kC) ∧ w'.cell? ⟨b, o + k * 3, none⟩ = some (.bool l.used) ∧ w'.cell? ⟨b, o + k * 3 + 1, none⟩ = some (.int .i64 l.data) ∧ w'.cell? ⟨b, o + k * 3 + 2, none⟩ = some (.slice D2 n2 d2) ∧ w'.cell? ⟨b', o' + k * 3, none⟩ = some (.bool l.used) ∧ w'.cell? ⟨b', o' + k * 3 + 1, none⟩ = some (.int .i64 l.data) ∧ w'.cell? ⟨b', o' + k * 3 + 2, none⟩ = some (.slice D3 n3 d3) ∧ w'.cell? ⟨g3, k, none⟩ = some (.int .i64 r) ∧ w'.cell? ⟨g5, k, none⟩ = some (.int .i64 r)) 55 [] (.take 0 (.take 1 (.take 2 (.take 3 (.take 4 (.take 5 (.take 6 (.take 7 (.take 8 (.take 9 (.take 10 (.take 11 (.take 12 (.take 13 (.take 14 (.take 15 (.take 16 (.take 17 (.take 18 (.take 19 (.take 20 (.take 21 (.take 22 (.take 23 (.take 24 (.take 25 (.take 26 (.take 27 (.take 28 (.take 29 (.take 30 (.take 31 (.take 32 (.take 33 (.take 34 (.take 35 (.take 36 (.take 37 (.take 38 (.take 39 (.take 40 (.alt 41 (.take 42 (.take 43 (.take 44 (.take 45 (.take 46 (.take 47 (.take 48 (.take 49 (.take 50 (.take 51 (.take 52 (.take 53 (.take 54 (.done)))))))))))))) (.stop))))))))))))))))))))))))))))))))))))))))))) (by kernel_rfl) (by kernel_rfl) (by kernel_rfl) (⟨x0, y0, q1, q2, q3, q1', q2', q3', z3, z5⟩) ?_
          simp only [fillT, List.getElem?_cons_zero, List.getElem?_cons_succ, Nat.reduceBEq]
          repeat (first
            | (with_reducible refine po_take (v := ?_) ?_ (fun w' hS' => ?_) ?_
               rotate_left
               · (go_simp; done)
               · ((try dsimp only at hS'); go_simp; try with_reducible rfl)
               simp only [Act.put, List.setIfInBounds_toArray, List.set_cons_zero, List.set_cons_succ])
            | (with_reducible refine po_skip ?_ ?_
               · (go_simp; done)
               simp only [Act.put, List.setIfInBounds_toArray, List.set_cons_zero, List.set_cons_succ]))
          with_reducible refine po_run ?_ (fun K hK => ?_) ?_
          · (go_simp; done)
          rotate_left
          · exact po_stop
          go_simp
          refine (sameInts_yes _ _ _ _ _ _ _ _ _ l.refs (HR.out.below (Below.refl _ _).drew) (HR'.out.below (Below.refl _ _).drew)).mono ?_
          rintro e w6 ⟨rfl, hb⟩
          replace HX := HX.call hb
          refine hK.out _ _ (.inr (⟨keepd x0 hb, keepd y0 hb, keepd q1 hb, keepd q2 hb, keepd q3 hb, keepd q1' hb, keepd q2' hb, keepd q3' hb, keepd z3 hb, keepd z5 hb⟩)) ?_
          clear hK K
          repeat (first
            | (with_reducible refine po_take (v := ?_) ?_ (fun w' hS' => ?_) ?_
               rotate_left
               · (go_simp; done)
               · ((try dsimp only at hS'); go_simp; try with_reducible rfl)
               simp only [Act.put, List.setIfInBounds_toArray, List.set_cons_zero, List.set_cons_succ])
            | (with_reducible refine po_skip ?_ ?_
               · (go_simp; done)
               simp only [Act.put, List.setIfInBounds_toArray, List.set_cons_zero, List.set_cons_succ]))
          refine po_done ?_
          clear hb x0 x1 y0 y1 q1 q2 q3 q1' q2' q3' z3 z5
          go_wp2
          go_roundw
          case rel => exact ⟨k + 1, by rw [hst.out]; simp, by go_num, by omega, HX⟩
          case measure => simp [intOf]; omega
      · have hkx : k = xs.length := by omega
        have hmN : ((m : Nat) : Int) = N := by rw [HNc.out, hm, hkx]
        rw [← hm, hmN]
        clear hm hst hle hmN hkx
        go_wp2_with fail
        refine (implDropRegion_any _ _ _ _ X _ _ _ Y (f : Int) (H.rdHx 1 2 rfl rfl (.inl ⟨rfl, rfl⟩)) (H.owI 3 rfl).rdI HXr.out).mono ?_
        rintro e w6 ⟨cv6, rvs6, rv6, lv6, rfl, K⟩
        rw [HA1.out]
        have H8 := H.merge K
        simp only [List.cons_append, List.nil_append] at H8
        clear H K x0 x1 y0 y1
        obtain ⟨C6, k6, rfl, -⟩ := H8.formC 0 rfl
        obtain ⟨R6, kR6, rfl, -⟩ := H8.formI 1 rfl
        have H9 := H8.box [.slice C6 (mDropH X Y f).cells.length k6, .slice R6 (mDropH X Y f).roots.length kR6] 26
        clear H8
        obtain ⟨x0, x1, -, -⟩ := H9.box2 4 rfl
        go_wp2_with fail
        refine (implRegionsValid_any _ _ _ _ X _ _ _ Y (H9.rdHx 5 6 rfl rfl (.inl ⟨rfl, rfl⟩)) (H9.owI 7 rfl).rdI).mono ?_
        rintro e w7 ⟨rfl, hb7⟩
        rw [HA2.out]
        have HB := (H9.call hb7).below
        clear H9 hb7 x0 x1
        go_wp2
        go_ret
        exact ⟨rfl, HB⟩
end Go.Proofs.Ytmhcajjlhiopmaa
