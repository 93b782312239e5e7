/- A lazy heap drawn from a code; equality of lazy heaps. For every code that can be read. -/
import Derived.Test.YtjpfgbckmcjjaaaOo
import Derived.Test.YtjpfgbckmcjjaaaLs
import Derived.Test.YtjpfgbckmcjjaaaLtS
import Derived.Test.YtjpfgbckmcjjaaaLv
import Derived.Test.YtjpfgbckmcjjaaaSm
import Derived.Test.YtjpfgbckmcjjaaaCf
import Derived.Test.YtjpfgbckmcjjaaaZ0
namespace Go.Proofs.Ytjpfgbckmcjjaaa
open Go.RowKit
theorem Owns.rdZ {lo : Nat} {w0 w : World} {L : List OB} (h : Owns lo w0 w L) (i j k : Nat) {cv rv mv : Value} {rvs : List Value} {l : Lz} (hX : L[i]? = some (.cells cv rvs l.store.cells)) (hY : L[j]? = some (.ints rv l.store.roots)) (hZ : L[k]? = some (.bools mv l.marks)) {a : Int} (ha : a = l.at_) : RdZ w w.heap.size (.agg #[cv, rv, mv, .int .i64 a]) l := by
  subst ha
  obtain ⟨A, a, rfl, h1⟩ := h.formC i hX
  obtain ⟨C, c, rfl, h2⟩ := h.formI j hY
  obtain ⟨E, e, rfl, h3⟩ := h.formB k hZ
  exact ⟨_, _, _, _, _, _, _, _, _, rfl, h1, h2, h3⟩
/-- Small: as what LazyStart and LazyTake make. -/
structure SmZ (l : Lz) : Prop where
  marks : l.marks.length ≤ 40
  a0 : 0 ≤ l.at_
  a1 : l.at_ ≤ 40
theorem smz_zero : SmZ ⟨⟨[], []⟩, [], 0⟩ := ⟨by simp, by simp, by simp⟩
theorem smz_valid {l : Lz} (h : mLzValid l = true) : SmZ l := by
  have V := lzOk_iff.1 h
  have h1 := (good_iff.1 V.ok).len
  have h2 := V.len; have h3 := V.a0; have h4 := V.a1
  exact ⟨by omega, h3, by omega⟩
theorem start_valid {h : Hp} (h0 : heapOk h = true) : mLzValid ⟨h, mReachable h, 0⟩ = true := by
  rw [lzOk_iff]
  have hl : (mReachable h).length = h.cells.length := by rw [mReachable_yes h0, reachL_length]
  have hm : ∀ c, atB (mReachable h) c = reachB h.cells h.roots c := fun c => by
    rw [mReachable_yes h0]
    by_cases hc : c < h.cells.length
    · exact atB_at (reachL_at hc)
    · cases e : reachB h.cells h.roots c
      · unfold atB
        rw [List.getD_eq_getElem?_getD, List.getElem?_eq_none (by rw [reachL_length]; omega)]; rfl
      · exact absurd (reachB_lt e) hc
  exact ⟨h0, hl, by simp, by simp, fun c hc => (hm c).trans hc, fun c hc => by
    have hc : atB (mReachable h) c = true := hc
    rw [hm] at hc
    simp only [reachB, decide_eq_true_eq] at hc
    exact hc.inS, fun c hc => by have hc : (c : Int) < 0 := hc; omega⟩
theorem smz_start (h : Hp) : SmZ (mLzStart h) := by
  unfold mLzStart
  cases e : heapOk h
  · exact smz_zero
  · exact smz_valid (start_valid e)
theorem smz_take (l : Lz) : SmZ (mTake l).1 := by
  cases e : mLzValid l
  · rw [mTake_no e]; exact smz_zero
  · exact smz_valid (take_valid e).1
/-- A lazy heap is drawn: it lies in memory of the call's own. -/
def DrewZ (lo : Nat) (w0 : World) (L : List OB) (e : Ending) (w' : World) : Prop :=
  ∃ (l : Lz) (cv : Value) (rvs : List Value) (rv mv : Value), e = .returned (.agg #[cv, rv, mv, .int .i64 l.at_]) ∧ Owns lo w0 w' (.cells cv rvs l.store.cells :: .ints rv l.store.roots :: .bools mv l.marks :: L)
set_option maxHeartbeats 6400000 in
set_option maxRecDepth 20000 in
theorem lazy_own {lo : Nat} {w0 w : World} {g : Nat} {A : Option Addr} {n c : Nat} {X : OB} (h : Owns lo w0 w [.rdr g A n c 0, X]) {bs : List Int} (hr : RdU w0 lo A n c bs) (N : Int) (hN0 : 1 ≤ N) (hN1 : N ≤ 1000) :
    Calls Try.prog 87 #[.pointer (some ⟨g, 0, none⟩), .int .i64 N] w (DrewZ lo w0 [X]) := by
  have H := h.box [.slice none 0 0, .slice none 0 0, .slice none 0 0, .int .i64 0] 50
  clear h
  go_enter Try.func87, Try.ntmps87
  go_wp2_with fail
  refine (heap_own H 1 rfl hr (by omega) 0 (by omega) (by omega)).mono ?_
  rintro e w1 ⟨T, cv, rvs, rv, rv0, rs0, p1, rfl, hS, ht, hp1, hp2, H1⟩
  simp only [List.set_cons_zero, List.set_cons_succ] at H1
  obtain ⟨C0, kC0, rfl, -⟩ := H1.formC 0 rfl
  obtain ⟨R0, kR0, e0, -⟩ := H1.formI 1 rfl
  obtain ⟨R, nR, kR, rfl⟩ := ht.form e0
  have HT := Go.Lib.hid ht
  clear H e0 ht hS
  go_wp2_with fail
  refine (specLazyStart_any _ _ _ T (H1.rdHx 0 1 rfl rfl HT.out)).mono ?_
  rintro e w2 ⟨cv2, rvs2, rv2, mv2, rfl, K⟩
  have hsm := smz_start T
  obtain ⟨l, hl⟩ : ∃ l, l = mLzStart T := ⟨_, rfl⟩
  rw [← hl] at K hsm ⊢
  have H2 := ((H1.merge K).erase 3).erase 3
  simp only [List.cons_append, List.nil_append, List.eraseIdx_cons_zero, List.eraseIdx_cons_succ] at H2
  obtain ⟨z, hz⟩ : ∃ z, z = l.at_ := ⟨_, rfl⟩
  have HZ := Go.Lib.hid hz
  rw [← hz]
  have H3 := ((H2.box [cv2, rv2, mv2, .int .i64 z] 50).order [1, 2, 3, 0, 4, 5, 6] (by decide) rfl : Owns lo w0 _ [.cells cv2 rvs2 l.store.cells, .ints rv2 l.store.roots, .bools mv2 l.marks, .box w2.heap.size [cv2, rv2, mv2, .int .i64 z] 50, .box w.heap.size [.slice none 0 0, .slice none 0 0, .slice none 0 0, .int .i64 0] 50, .rdr g A n c p1, X])
  obtain ⟨C, kC, rfl, -⟩ := H3.formC 0 rfl
  obtain ⟨R2, kR2, rfl, -⟩ := H3.formI 1 rfl
  obtain ⟨V, kV, rfl, -⟩ := H3.formB 2 rfl
  clear H1 H2 K HT hl hz
  go_wp2_with fail
  refine (pick_own H3 5 rfl hr (by omega) 5 (by unfold I64; omega)).mono ?_
  rintro e w3 ⟨x, rfl, hx5, H4⟩
  simp only [List.set_cons_zero, List.set_cons_succ] at H4
  replace hx5 : (x : Int) < 5 := by omega
  clear H3
  go_wp2_with fail
  go_loopw [6] (fun i wr => ∃ (k : Nat) (l : Lz) (z : Int) (cv : Value) (rvs : List Value) (rv mv : Value), i = .int .i64 k ∧ k ≤ 4 ∧ SmZ l ∧ Hid (z = l.at_) ∧ Owns lo w0 wr [.cells cv rvs l.store.cells, .ints rv l.store.roots, .bools mv l.marks, .box w2.heap.size [cv, rv, mv, .int .i64 z] 50, .box w.heap.size [.slice none 0 0, .slice none 0 0, .slice none 0 0, .int .i64 0] 50, .rdr g A n c (p1 + 1), X]) (fun i _ => (intOf i).toNat)
  case atStart => exact ⟨x, l, z, _, _, _, _, rfl, by omega, hsm, HZ, H4⟩
  case round =>
    clear H4 hsm HZ hx5
    obtain ⟨k, l, z, cv, rvs, rv, mv, rfl, hk, hsm, HZ, H⟩ := hrel
    obtain ⟨C, kC, rfl, -⟩ := H.formC 0 rfl
    obtain ⟨R, kR, rfl, -⟩ := H.formI 1 rfl
    obtain ⟨V, kV, rfl, -⟩ := H.formB 2 rfl
    obtain ⟨x0, x1, x2, x3, xf0, xf1, xf2, xf3⟩ := box4 H 3 rfl
    by_cases hk0 : 0 < k
    · have k1 : (0 : Int) < (k : Int) := by omega
      go_wp2_with fail
      refine (specLazyTake_any _ _ _ l (H.rdZ 0 1 2 rfl rfl rfl HZ.out)).mono ?_
      rintro e w5 ⟨cv5, rvs5, rv5, mv5, rfl, K⟩
      have hsm5 := smz_take l
      obtain ⟨l5, hl5⟩ : ∃ l5, l5 = (mTake l).1 := ⟨_, rfl⟩
      obtain ⟨q5, hq5⟩ : ∃ q, q = (mTake l).2 := ⟨_, rfl⟩
      rw [← hl5] at K hsm5 ⊢
      rw [← hq5]
      obtain ⟨z5, hz5⟩ : ∃ z, z = l5.at_ := ⟨_, rfl⟩
      have HZ5 := Go.Lib.hid hz5
      rw [← hz5]
      have H5 := (((H.merge K).erase 3).erase 3).erase 3
      simp only [List.cons_append, List.nil_append, List.eraseIdx_cons_zero, List.eraseIdx_cons_succ] at H5
      obtain ⟨C5, kC5, rfl, -⟩ := H5.formC 0 rfl
      obtain ⟨R5, kR5, rfl, -⟩ := H5.formI 1 rfl
      obtain ⟨V5, kV5, rfl, -⟩ := H5.formB 2 rfl
      clear H K x0 x1 x2 x3 xf0 xf1 xf2 xf3 hl5 hq5 hz5 HZ hsm
      obtain ⟨x0, x1, x2, x3, xf0, xf1, xf2, xf3⟩ := box4 H5 3 rfl
      have H6 := (((H5.putBox 3 rfl 0 (.slice C5 l5.store.cells.length kC5)).putBox 3 rfl 1 (.slice R5 l5.store.roots.length kR5)).putBox 3 rfl 2 (.slice V5 l5.marks.length kV5)).putBox 3 rfl 3 (.int .i64 z5)
      simp only [List.set_cons_zero, List.set_cons_succ] at H6
      have e1 : Hid (((k - 1 : Nat) : Int) = (k : Int) - 1) := Go.Lib.hid (by omega)
      have hw : IntKind.wrap .i64 ((k : Int) - 1) = (k : Int) - 1 := by rw [IntKind.wrap_i64]; omega
      clear H5
      go_wp2
      go_roundw
      case rel => exact ⟨k - 1, l5, z5, _, _, _, _, by rw [e1.out], by omega, hsm5, HZ5, H6⟩
      case measure => simp [intOf]; omega
    · have hk1 : k = 0 := by omega
      subst hk1
      clear hk0 hk
      go_wp2_with fail
      refine (odd_own H 5 rfl hr (by omega) N hN0 hN1).mono ?_
      rintro e w6 ⟨bo, rfl, H6⟩
      simp only [List.set_cons_zero, List.set_cons_succ] at H6
      clear H x0 x1 x2 x3 xf0 xf1 xf2 xf3
      have fin : ∀ (wz : World) (lz : Lz) (zz : Int) (Cz : Option Addr) (kz : Nat) (rz : List Value) (Rz : Option Addr) (kz2 : Nat) (Vz : Option Addr) (nz kz3 : Nat) (p : Nat), Owns lo w0 wz [.cells (.slice Cz lz.store.cells.length kz) rz lz.store.cells, .ints (.slice Rz lz.store.roots.length kz2) lz.store.roots, .bools (.slice Vz nz kz3) lz.marks, .box w2.heap.size [.slice Cz lz.store.cells.length kz, .slice Rz lz.store.roots.length kz2, .slice Vz nz kz3, .int .i64 zz] 50, .box w.heap.size [.slice none 0 0, .slice none 0 0, .slice none 0 0, .int .i64 0] 50, .rdr g A n c p, X] → zz = lz.at_ → (wz.cell? ⟨w2.heap.size, 0, none⟩ = some (.slice Cz lz.store.cells.length kz) ∧ wz.cell? ⟨w2.heap.size, 1, none⟩ = some (.slice Rz lz.store.roots.length kz2) ∧ wz.cell? ⟨w2.heap.size, 2, none⟩ = some (.slice Vz nz kz3) ∧ wz.cell? ⟨w2.heap.size, 3, none⟩ = some (.int .i64 zz)) ∧ (wz.cell? ⟨w.heap.size, 0, none⟩ = some (.slice none 0 0) ∧ wz.cell? ⟨w.heap.size, 1, none⟩ = some (.slice none 0 0) ∧ wz.cell? ⟨w.heap.size, 2, none⟩ = some (.slice none 0 0) ∧ wz.cell? ⟨w.heap.size, 3, none⟩ = some (.int .i64 0)) ∧ (wz.frozen? ⟨w.heap.size, 0, none⟩ = false ∧ wz.frozen? ⟨w.heap.size, 1, none⟩ = false ∧ wz.frozen? ⟨w.heap.size, 2, none⟩ = false ∧ wz.frozen? ⟨w.heap.size, 3, none⟩ = false) ∧ (∀ w9, w9 = (((wz.setCell ⟨w.heap.size, 0, none⟩ (.slice Cz lz.store.cells.length kz)).setCell ⟨w.heap.size, 1, none⟩ (.slice Rz lz.store.roots.length kz2)).setCell ⟨w.heap.size, 2, none⟩ (.slice Vz nz kz3)).setCell ⟨w.heap.size, 3, none⟩ (.int .i64 zz) → w9.cell? ⟨w.heap.size, 0, none⟩ = some (.slice Cz lz.store.cells.length kz) ∧ w9.cell? ⟨w.heap.size, 1, none⟩ = some (.slice Rz lz.store.roots.length kz2) ∧ w9.cell? ⟨w.heap.size, 2, none⟩ = some (.slice Vz nz kz3) ∧ w9.cell? ⟨w.heap.size, 3, none⟩ = some (.int .i64 zz) ∧ DrewZ lo w0 [X] (.returned (.agg #[.slice Cz lz.store.cells.length kz, .slice Rz lz.store.roots.length kz2, .slice Vz nz kz3, .int .i64 zz])) w9) := by
        intro wz lz zz Cz kz rz Rz kz2 Vz nz kz3 p hO hzz
        obtain ⟨x0, x1, x2, x3, -, -, -, -⟩ := box4 hO 3 rfl
        obtain ⟨y0, y1, y2, y3, y4, y5, y6, y7⟩ := box4 hO 4 rfl
        refine ⟨⟨x0, x1, x2, x3⟩, ⟨y0, y1, y2, y3⟩, ⟨y4, y5, y6, y7⟩, ?_⟩
        rintro w9 rfl
        have HP := (((hO.putBox 4 rfl 0 (.slice Cz lz.store.cells.length kz)).putBox 4 rfl 1 (.slice Rz lz.store.roots.length kz2)).putBox 4 rfl 2 (.slice Vz nz kz3)).putBox 4 rfl 3 (.int .i64 zz)
        simp only [List.set_cons_zero, List.set_cons_succ] at HP
        obtain ⟨q0, q1, q2, q3, -, -, -, -⟩ := box4 HP 4 rfl
        have HP3 : Owns lo w0 _ [.cells (.slice Cz lz.store.cells.length kz) rz lz.store.cells, .ints (.slice Rz lz.store.roots.length kz2) lz.store.roots, .bools (.slice Vz nz kz3) lz.marks, X] := HP.order [0, 1, 2, 6] (by decide) rfl
        subst hzz
        exact ⟨q0, q1, q2, q3, lz, _, rz, _, _, rfl, HP3⟩
      have HFin := Go.Lib.hid fin
      clear fin
      cases bo
      · obtain ⟨⟨x0, x1, x2, x3⟩, ⟨y0, y1, y2, y3⟩, ⟨y4, y5, y6, y7⟩, hE⟩ := HFin.out _ _ _ _ _ _ _ _ _ _ _ _ H6 HZ.out
        obtain ⟨q0, q1, q2, q3, hD⟩ := hE _ rfl
        have HD := Go.Lib.hid hD
        clear H6 hE hD
        go_wp2
        exact bodyPost_ret (v := .agg #[.slice C l.store.cells.length kC, .slice R l.store.roots.length kR, .slice V l.marks.length kV, .int .i64 z]) (by simp [results, Try.results87, go_sem, q0, q1, q2, q3]) rfl HD.out
      go_wp2_with fail
      refine (pick_own H6 5 rfl hr (by omega) 3 (by unfold I64; omega)).mono ?_
      rintro e w7 ⟨y, rfl, hy3, H7⟩
      simp only [List.set_cons_zero, List.set_cons_succ] at H7
      replace hy3 : (y : Int) < 3 := by omega
      clear H6
      obtain ⟨m1, m2, m3⟩ := hsm
      have hy : y = 0 ∨ y = 1 ∨ y = 2 := by omega
      clear hy3
      rcases hy with rfl | rfl | rfl
      · go_wp2_with fail
        have HX := H7.drew
        have H0 := Go.Lib.hid H7
        clear H7
        have hw : IntKind.wrap .i64 ((l.marks.length : Int) + 1) = (l.marks.length : Int) + 1 := by rw [IntKind.wrap_i64]; omega
        obtain ⟨x0, x1, x2, x3, -, -, -, -⟩ := box4 HX 3 rfl
        refine wp_region_tree (fun w' => w'.cell? ⟨w2.heap.size, 2, none⟩ = some (.slice V l.marks.length kV)) 10 [8] (.take 0 (.take 1 (.take 2 (.take 3 (.take 5 (.alt 4 (.alt 6 (.take 7 (.alt 8 (.take 9 (.alt 10 (.done) (.stop))) (.stop))) (.stop)) (.alt 6 (.alt 4 (.take 7 (.alt 8 (.take 9 (.alt 10 (.done) (.stop))) (.stop))) (.stop)) (.stop)))))))) (by kernel_rfl) (by kernel_rfl) (by kernel_rfl) (x2) ?_
        simp only [fillT, List.getElem?_cons_zero, List.getElem?_cons_succ, Nat.reduceBEq]
        repeat (first
          | (with_reducible refine po_take (v := ?_) ?_ (fun w' hS' => ?_) ?_
             rotate_left
             · (go_simp; done)
             · ((try dsimp only at hS'); go_simp; try with_reducible rfl)
             simp only [Act.put, List.setIfInBounds_toArray, List.set_cons_zero, List.set_cons_succ])
          | (with_reducible refine po_skip ?_ ?_
             · (go_simp; done)
             simp only [Act.put, List.setIfInBounds_toArray, List.set_cons_zero, List.set_cons_succ]))
        with_reducible refine po_run ?_ (fun K hK => ?_) ?_
        · (go_simp; done)
        · -- operation 4 first
          try (revert x0 x1 x2 x3 HX; generalize World.drew _ = wd; intro HX x0 x1 x2 x3)
          go_simp
          replace HX := HX.litI [-1, (l.marks.length : Int) + 1] (by show 2 ≤ maxLen; unfold maxLen; omega)
          try simp only [List.map_cons, List.map_nil, List.length_cons, List.length_nil, Nat.zero_add, Nat.reduceAdd] at HX
          clear x0 x1 x2 x3
          obtain ⟨x0, x1, x2, x3, -, -, -, -⟩ := box4 HX 4 rfl
          refine hK.out _ _ (.inr (x2)) ?_
          clear hK K
          revert x0 x1 x2 x3 HX
          generalize World.alloc _ _ = wz
          intro HX x0 x1 x2 x3
          with_reducible refine po_run ?_ (fun K hK => ?_) ?_
          · (go_simp; done)
          rotate_left
          · exact po_stop
          try (revert x0 x1 x2 x3 HX; generalize World.drew _ = wd; intro HX x0 x1 x2 x3)
          go_simp
          refine (pick_own HX 6 rfl hr (by omega) 2 (by unfold I64; omega)).mono ?_
          rintro e waj ⟨j2, rfl, hj2, HY⟩
          replace hj2 : j2 < 2 := by omega
          have hj2' : (j2 : Int) < 2 := by omega
          simp only [List.set_cons_zero, List.set_cons_succ] at HY
          clear HX x0 x1 x2 x3
          have HX := HY
          clear HY
          obtain ⟨x0, x1, x2, x3, -, -, -, -⟩ := box4 HX 4 rfl
          refine hK.out _ _ (.inr (x2)) ?_
          clear hK K
          repeat (first
            | (with_reducible refine po_take (v := ?_) ?_ (fun w' hS' => ?_) ?_
               rotate_left
               · (go_simp; done)
               · ((try dsimp only at hS'); go_simp; try with_reducible rfl)
               simp only [Act.put, List.setIfInBounds_toArray, List.set_cons_zero, List.set_cons_succ])
            | (with_reducible refine po_skip ?_ ?_
               · (go_simp; done)
               simp only [Act.put, List.setIfInBounds_toArray, List.set_cons_zero, List.set_cons_succ]))
          with_reducible refine po_run ?_ (fun K hK => ?_) ?_
          · (go_simp; done)
          rotate_left
          · exact po_stop
          obtain ⟨v2, hv2⟩ : ∃ v, ([-1, (l.marks.length : Int) + 1] : List Int)[j2]? = some v := ⟨_, List.getElem?_eq_getElem (by simp; omega)⟩
          obtain ⟨zz, -⟩ := HX.elem 0 rfl (j := j2) (u := .int .i64 v2) (by rw [List.getElem?_map, hv2]; rfl)
          go_simp
          refine hK.out _ _ (.inr (x2)) ?_
          clear hK K
          repeat (first
            | (with_reducible refine po_take (v := ?_) ?_ (fun w' hS' => ?_) ?_
               rotate_left
               · (go_simp; done)
               · ((try dsimp only at hS'); go_simp; try with_reducible rfl)
               simp only [Act.put, List.setIfInBounds_toArray, List.set_cons_zero, List.set_cons_succ])
            | (with_reducible refine po_skip ?_ ?_
               · (go_simp; done)
               simp only [Act.put, List.setIfInBounds_toArray, List.set_cons_zero, List.set_cons_succ]))
          with_reducible refine po_run ?_ (fun K hK => ?_) ?_
          · (go_simp; done)
          rotate_left
          · exact po_stop
          obtain ⟨y0, y1, y2, y3, y4, y5, y6, y7⟩ := box4 HX 4 rfl
          go_simp
          have HZ := (HX.putBox 4 rfl 3 (.int .i64 v2)).drop 1
          simp only [List.set_cons_zero, List.set_cons_succ, List.drop_succ_cons, List.drop_zero] at HZ
          refine hK.out _ _ (.inl rfl) ?_
          clear hK K
          refine po_done ?_
          clear x0 x1 x2 x3 y0 y1 y2 y3 y4 y5 y6 y7 zz hw
          obtain ⟨⟨x0, x1, x2, x3⟩, ⟨y0, y1, y2, y3⟩, ⟨y4, y5, y6, y7⟩, hE⟩ := HFin.out _ ⟨l.store, l.marks, v2⟩ _ _ _ _ _ _ _ _ _ _ HZ rfl
          obtain ⟨q0, q1, q2, q3, hD⟩ := hE _ rfl
          have HD := Go.Lib.hid hD
          clear HX HZ H0 hE hD
          go_wp2
          exact bodyPost_ret (v := .agg #[.slice C l.store.cells.length kC, .slice R l.store.roots.length kR, .slice V l.marks.length kV, .int .i64 v2]) (by simp [results, Try.results87, go_sem, q0, q1, q2, q3]) rfl HD.out
        with_reducible refine po_run ?_ (fun K hK => ?_) ?_
        · (go_simp; done)
        rotate_left
        · exact po_stop
        try (revert x0 x1 x2 x3 HX; generalize World.drew _ = wd; intro HX x0 x1 x2 x3)
        go_simp
        refine (pick_own HX 5 rfl hr (by omega) 2 (by unfold I64; omega)).mono ?_
        rintro e waj ⟨j2, rfl, hj2, HY⟩
        replace hj2 : j2 < 2 := by omega
        have hj2' : (j2 : Int) < 2 := by omega
        simp only [List.set_cons_zero, List.set_cons_succ] at HY
        clear HX x0 x1 x2 x3
        have HX := HY
        clear HY
        obtain ⟨x0, x1, x2, x3, -, -, -, -⟩ := box4 HX 3 rfl
        refine hK.out _ _ (.inr (x2)) ?_
        clear hK K
        with_reducible refine po_run ?_ (fun K hK => ?_) ?_
        · (go_simp; done)
        rotate_left
        · exact po_stop
        try (revert x0 x1 x2 x3 HX; generalize World.drew _ = wd; intro HX x0 x1 x2 x3)
        go_simp
        replace HX := HX.litI [-1, (l.marks.length : Int) + 1] (by show 2 ≤ maxLen; unfold maxLen; omega)
        try simp only [List.map_cons, List.map_nil, List.length_cons, List.length_nil, Nat.zero_add, Nat.reduceAdd] at HX
        clear x0 x1 x2 x3
        obtain ⟨x0, x1, x2, x3, -, -, -, -⟩ := box4 HX 4 rfl
        refine hK.out _ _ (.inr (x2)) ?_
        clear hK K
        revert x0 x1 x2 x3 HX
        generalize World.alloc _ _ = wz
        intro HX x0 x1 x2 x3
        repeat (first
          | (with_reducible refine po_take (v := ?_) ?_ (fun w' hS' => ?_) ?_
             rotate_left
             · (go_simp; done)
             · ((try dsimp only at hS'); go_simp; try with_reducible rfl)
             simp only [Act.put, List.setIfInBounds_toArray, List.set_cons_zero, List.set_cons_succ])
          | (with_reducible refine po_skip ?_ ?_
             · (go_simp; done)
             simp only [Act.put, List.setIfInBounds_toArray, List.set_cons_zero, List.set_cons_succ]))
        with_reducible refine po_run ?_ (fun K hK => ?_) ?_
        · (go_simp; done)
        rotate_left
        · exact po_stop
        obtain ⟨v2, hv2⟩ : ∃ v, ([-1, (l.marks.length : Int) + 1] : List Int)[j2]? = some v := ⟨_, List.getElem?_eq_getElem (by simp; omega)⟩
        obtain ⟨zz, -⟩ := HX.elem 0 rfl (j := j2) (u := .int .i64 v2) (by rw [List.getElem?_map, hv2]; rfl)
        go_simp
        refine hK.out _ _ (.inr (x2)) ?_
        clear hK K
        repeat (first
          | (with_reducible refine po_take (v := ?_) ?_ (fun w' hS' => ?_) ?_
             rotate_left
             · (go_simp; done)
             · ((try dsimp only at hS'); go_simp; try with_reducible rfl)
             simp only [Act.put, List.setIfInBounds_toArray, List.set_cons_zero, List.set_cons_succ])
          | (with_reducible refine po_skip ?_ ?_
             · (go_simp; done)
             simp only [Act.put, List.setIfInBounds_toArray, List.set_cons_zero, List.set_cons_succ]))
        with_reducible refine po_run ?_ (fun K hK => ?_) ?_
        · (go_simp; done)
        rotate_left
        · exact po_stop
        obtain ⟨y0, y1, y2, y3, y4, y5, y6, y7⟩ := box4 HX 4 rfl
        go_simp
        have HZ := (HX.putBox 4 rfl 3 (.int .i64 v2)).drop 1
        simp only [List.set_cons_zero, List.set_cons_succ, List.drop_succ_cons, List.drop_zero] at HZ
        refine hK.out _ _ (.inl rfl) ?_
        clear hK K
        refine po_done ?_
        clear x0 x1 x2 x3 y0 y1 y2 y3 y4 y5 y6 y7 zz hw
        obtain ⟨⟨x0, x1, x2, x3⟩, ⟨y0, y1, y2, y3⟩, ⟨y4, y5, y6, y7⟩, hE⟩ := HFin.out _ ⟨l.store, l.marks, v2⟩ _ _ _ _ _ _ _ _ _ _ HZ rfl
        obtain ⟨q0, q1, q2, q3, hD⟩ := hE _ rfl
        have HD := Go.Lib.hid hD
        clear HX HZ H0 hE hD
        go_wp2
        exact bodyPost_ret (v := .agg #[.slice C l.store.cells.length kC, .slice R l.store.roots.length kR, .slice V l.marks.length kV, .int .i64 v2]) (by simp [results, Try.results87, go_sem, q0, q1, q2, q3]) rfl HD.out
      · have H8 := H7.litB [false] one_le_maxLen
        simp only [List.map_cons, List.map_nil, List.length_cons, List.length_nil, Nat.zero_add] at H8
        obtain ⟨x0, x1, x2, x3, -, -, -, -⟩ := box4 H7 3 rfl
        obtain ⟨y0, y1, y2, y3, -, -, -, -⟩ := box4 H8 4 rfl
        clear H7
        go_wp2_with (at_builtin; go_loud (refine wpList_pushBO rfl (.tmp 61) (.tmp 62) rfl H8 3 rfl rfl rfl (H8.owB 0 rfl).rdB (by simp; omega) ?_; intro A3 k3 w9 H9; simp only [List.set_cons_zero, List.set_cons_succ] at H9; generalize l.marks ++ [false] = Q at *; clear x0 x1 x2 x3 y0 y1 y2 y3 H8; obtain ⟨u0, u1, u2, u3, u4, u5, u6, u7⟩ := box4 H9 4 rfl; obtain ⟨t0, t1, t2, t3, t4, t5, t6, t7⟩ := box4 H9 5 rfl; have HZ9 := (H9.putBox 4 rfl 2 (.slice A3 Q.length k3)).drop 1; simp only [List.set_cons_zero, List.set_cons_succ, List.drop_succ_cons, List.drop_zero] at HZ9; obtain ⟨⟨x0, x1, x2, x3⟩, ⟨y0, y1, y2, y3⟩, ⟨y4, y5, y6, y7⟩, hE⟩ := HFin.out _ ⟨l.store, Q, z⟩ _ _ _ _ _ _ _ _ _ _ HZ9 rfl; obtain ⟨q0, q1, q2, q3, hD⟩ := hE _ rfl; have HD := Go.Lib.hid hD; clear H9 HZ9 hE hD))
        try go_wp2
        exact bodyPost_ret (v := .agg #[.slice C l.store.cells.length kC, .slice R l.store.roots.length kR, .slice A3 Q.length k3, .int .i64 z]) (by simp [results, Try.results87, go_sem, q0, q1, q2, q3]) rfl HD.out
      · obtain ⟨x0, x1, x2, x3, -, -, -, -⟩ := box4 H7 3 rfl
        by_cases c0 : 0 < l.marks.length
        rotate_left
        · obtain ⟨⟨x0, x1, x2, x3⟩, ⟨y0, y1, y2, y3⟩, ⟨y4, y5, y6, y7⟩, hE⟩ := HFin.out _ _ _ _ _ _ _ _ _ _ _ _ H7 HZ.out
          obtain ⟨q0, q1, q2, q3, hD⟩ := hE _ rfl
          have HD := Go.Lib.hid hD
          have c1 : ¬ (0 : Int) < (l.marks.length : Int) := by omega
          clear H7 hE hD
          go_wp2
          exact bodyPost_ret (v := .agg #[.slice C l.store.cells.length kC, .slice R l.store.roots.length kR, .slice V l.marks.length kV, .int .i64 z]) (by simp [results, Try.results87, go_sem, q0, q1, q2, q3]) rfl HD.out
        · have c1 : (0 : Int) < (l.marks.length : Int) := by omega
          go_wp2_with fail
          refine (pick_own H7 5 rfl hr (by omega) (l.marks.length : Int) (by unfold I64; omega)).mono ?_
          rintro e w8 ⟨q, rfl, hq, H8⟩
          simp only [List.set_cons_zero, List.set_cons_succ] at H8
          have hq1 : q < l.marks.length := by omega
          have i1 : (0 : Int) ≤ (q : Int) := by omega
          have i2 : (q : Int) < (l.marks.length : Int) := by omega
          obtain ⟨b, hb⟩ : ∃ b, Hid (l.marks[q]? = some b) := ⟨_, Go.Lib.hid (List.getElem?_eq_getElem hq1)⟩
          clear H7 hq x0 x1 x2 x3
          obtain ⟨gV, cV, e7, -, -, -, -⟩ := H8.rowAt 2 rfl (by omega)
          simp only [Value.slice.injEq, true_and] at e7
          obtain ⟨rfl, rfl⟩ := e7
          have HX := H8.drew
          clear H8
          obtain ⟨x0, x1, x2, x3, -, -, -, -⟩ := box4 HX 3 rfl
          obtain ⟨z0, zf⟩ := HX.elem 2 rfl (j := q) (u := .bool b) (by rw [List.getElem?_map, hb.out]; rfl)
          go_wp2_with fail
          refine wp_region_tree (fun w' => w'.cell? ⟨w2.heap.size, 2, none⟩ = some (.slice (some ⟨gV, 0, none⟩) l.marks.length kV) ∧ w'.cell? ⟨gV, q, none⟩ = some (.bool b) ∧ w'.frozen? ⟨gV, q, none⟩ = false) 10 [] (.take 0 (.take 1 (.take 2 (.take 3 (.take 4 (.take 5 (.take 6 (.take 7 (.take 8 (.take 9 (.alt 10 (.done) (.stop)))))))))))) (by kernel_rfl) (by kernel_rfl) (by kernel_rfl) (⟨x2, z0, zf⟩) ?_
          simp only [fillT, List.getElem?_cons_zero, List.getElem?_cons_succ, Nat.reduceBEq]
          repeat (first
            | (with_reducible refine po_take (v := ?_) ?_ (fun w' hS' => ?_) ?_
               rotate_left
               · (go_simp; done)
               · ((try dsimp only at hS'); go_simp; try with_reducible rfl)
               simp only [Act.put, List.setIfInBounds_toArray, List.set_cons_zero, List.set_cons_succ])
            | (with_reducible refine po_skip ?_ ?_
               · (go_simp; done)
               simp only [Act.put, List.setIfInBounds_toArray, List.set_cons_zero, List.set_cons_succ]))
          with_reducible refine po_run ?_ (fun K hK => ?_) ?_
          · (go_simp; done)
          rotate_left
          · exact po_stop
          try (revert x0 x1 x2 x3 z0 zf HX; generalize World.drew _ = wd; intro HX x0 x1 x2 x3 z0 zf)
          go_simp
          have HZ2 := HX.putRowT 2 rfl q (!b)
          simp only [List.set_cons_zero, List.set_cons_succ] at HZ2
          refine hK.out _ _ (.inl rfl) ?_
          clear hK K
          refine po_done ?_
          clear x0 x1 x2 x3 z0 zf
          obtain ⟨⟨x0, x1, x2, x3⟩, ⟨y0, y1, y2, y3⟩, ⟨y4, y5, y6, y7⟩, hE⟩ := HFin.out _ ⟨l.store, l.marks.set q (!b), z⟩ _ _ _ _ _ _ _ _ _ _ (by rw [← rowT_bools (by simp : (l.marks.set q (!b)).length = l.marks.length)]; exact HZ2) rfl
          obtain ⟨q0, q1, q2, q3, hD⟩ := hE _ rfl
          have HD := Go.Lib.hid hD
          clear HX HZ2 hE hD
          go_wp2
          exact bodyPost_ret (v := .agg #[.slice C l.store.cells.length kC, .slice R l.store.roots.length kR, .slice (some ⟨gV, 0, none⟩) l.marks.length kV, .int .i64 z]) (by simp [results, Try.results87, go_sem, q0, q1, q2, q3]) rfl HD.out
/-- A lazy heap of the call's own. -/
def DrawnZ (w : World) (e : Ending) (w' : World) : Prop :=
  ∃ (l : Lz) (cv : Value) (rvs : List Value) (rv mv : Value), e = .returned (.agg #[cv, rv, mv, .int .i64 l.at_]) ∧ Owns w.heap.size w w' [.cells cv rvs l.store.cells, .ints rv l.store.roots, .bools mv l.marks]
set_option maxHeartbeats 1600000 in
set_option maxRecDepth 20000 in
theorem DrawLazyTake_any (w : World) (A : Option Addr) (n c : Nat) (bs : List Int) (hr : RdY w w.heap.size A n c bs) :
    Calls Try.prog 38 #[.slice A n c] w (DrawnZ w) := by
  have H := (Owns.nil w).box [.slice none 0 0, .slice none 0 0, .slice none 0 0, .int .i64 0] 50
  go_enter Try.func38, Try.ntmps38
  go_wp2_with fail
  refine (open_own H A n c bs hr).mono ?_
  rintro e w1 ⟨g, A1, n1, c1, bs1, rfl, hU, H1⟩
  clear hr H
  go_wp2_with fail
  refine (lazy_own H1 hU 9 (by omega) (by omega)).mono ?_
  rintro e w2 ⟨l, cv, rvs, rv, mv, rfl, H2⟩
  obtain ⟨z, hz⟩ : ∃ z, z = l.at_ := ⟨_, rfl⟩
  rw [← hz]
  have HZe := Go.Lib.hid hz
  clear H1 hU hz
  obtain ⟨y0, y1, y2, y3, y4, y5, y6, y7⟩ := box4 H2 3 rfl
  have HP := (((H2.putBox 3 rfl 0 cv).putBox 3 rfl 1 rv).putBox 3 rfl 2 mv).putBox 3 rfl 3 (.int .i64 z)
  simp only [List.set_cons_zero, List.set_cons_succ] at HP
  obtain ⟨q0, q1, q2, q3, -, -, -, -⟩ := box4 HP 3 rfl
  have HS : Hid (DrawnZ w (.returned (.agg #[cv, rv, mv, .int .i64 z])) _) := Go.Lib.hid (by
    have := HP.take 3
    exact ⟨l, cv, rvs, rv, mv, by rw [HZe.out], this⟩)
  obtain ⟨C, kC, rfl, -⟩ := H2.formC 0 rfl
  obtain ⟨R, kR, rfl, -⟩ := H2.formI 1 rfl
  obtain ⟨V, kV, rfl, -⟩ := H2.formB 2 rfl
  clear H2 HP
  go_wp2
  exact bodyPost_ret (v := .agg #[.slice C l.store.cells.length kC, .slice R l.store.roots.length kR, .slice V l.marks.length kV, .int .i64 z]) (by simp [results, Try.results38, go_sem, q0, q1, q2, q3]) rfl HS.out
set_option maxHeartbeats 1600000 in
set_option maxRecDepth 20000 in
theorem sameLazy_yes (w : World) (B B' : Nat) (u v : Value) (l : Lz) (h1 : RdZ w B u l) (h2 : RdZ w B' v l) :
    Calls Try.prog 33 #[u, v] w fun e w' => e = .returned (.bool true) ∧ Below w.heap.size w w' := by
  obtain ⟨D, m, d, D', m', d', E, q, f, rfl, hC, hR, hM⟩ := h1.top
  obtain ⟨P, r, s, P', r', s', G, t, k, rfl, kC, kR, kM⟩ := h2.top
  have hH : RdH w w.heap.size (.agg #[.slice D m d, .slice D' m' d']) l.store := ⟨_, _, _, _, _, _, rfl, hC, hR⟩
  have kH : RdH w w.heap.size (.agg #[.slice P r s, .slice P' r' s']) l.store := ⟨_, _, _, _, _, _, rfl, kC, kR⟩
  obtain ⟨z, hz⟩ : ∃ z, z = l.at_ := ⟨_, rfl⟩
  rw [← hz]
  have H := ((Owns.nil w).box [.slice D m d, .slice D' m' d', .slice E q f, .int .i64 z] 50).box [.slice P r s, .slice P' r' s', .slice G t k, .int .i64 z] 50
  simp only [World.size_alloc] at H
  obtain ⟨x0, x1, x2, x3, -, -, -, -⟩ := box4 H 1 rfl
  obtain ⟨y0, y1, y2, y3, -, -, -, -⟩ := box4 H 0 rfl
  clear hz
  go_enter Try.func33, Try.ntmps33
  go_wp2_with fail
  refine (sameHeap_yes _ _ _ _ _ l.store (hH.below H.below) (kH.below H.below)).mono ?_
  rintro e w1 ⟨rfl, hb⟩
  have H1 := H.call hb
  clear H hb x0 x1 x2 x3 y0 y1 y2 y3
  obtain ⟨x0, x1, x2, x3, -, -, -, -⟩ := box4 H1 1 rfl
  obtain ⟨y0, y1, y2, y3, -, -, -, -⟩ := box4 H1 0 rfl
  go_wp2_with fail
  refine (sameFlags_yes _ _ _ _ _ _ _ _ _ l.marks (hM.below H1.below) (kM.below H1.below)).mono ?_
  rintro e w2 ⟨rfl, hb⟩
  have H2 := H1.call hb
  have HB := H2.below
  clear H1 hb x0 x1 x2 x3 y0 y1 y2 y3
  obtain ⟨x0, x1, x2, x3, -, -, -, -⟩ := box4 H2 1 rfl
  obtain ⟨y0, y1, y2, y3, -, -, -, -⟩ := box4 H2 0 rfl
  clear H2
  go_wp2
  go_ret
  exact ⟨rfl, HB⟩
end Go.Proofs.Ytjpfgbckmcjjaaa
