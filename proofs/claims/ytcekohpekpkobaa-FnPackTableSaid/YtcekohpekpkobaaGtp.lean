/- A table drawn from a code; the law FnPackTable's walk. For every code that can be read. -/
import Derived.Test.YtcekohpekpkobaaTd
import Derived.Test.YtcekohpekpkobaaAl
import Derived.Test.YtcekohpekpkobaaSn
import Derived.Test.YtcekohpekpkobaaMg
import Derived.Test.YtcekohpekpkobaaVt
import Derived.Test.YtcekohpekpkobaaVi
import Derived.Test.YtcekohpekpkobaaPkS
import Derived.Test.YtcekohpekpkobaaUc
namespace Go.Proofs.Ytcekohpekpkobaa
open Go.RowKit
theorem tab_big {t : Tbl} (h : mTableValid t = true) : t.store.cells.length ≤ 1048576 ∧ t.store.roots.length ≤ 1048576 ∧ (∀ c ∈ t.store.cells, c.refs.length ≤ 1048576) ∧ t.hands.length ≤ 1048576 := by
  obtain ⟨h1, h2, h3⟩ := tab_len h
  refine ⟨by omega, by omega, fun c hc => ?_, by omega⟩
  obtain ⟨i, hi⟩ := List.getElem?_of_mem hc
  have := (refs3 (tab_heap h) (c := i) (l := tellC t.hands c) (by show (t.store.cells.map _)[i]? = _; rw [List.getElem?_map, hi]; rfl)).1
  simp only [tellC, List.length_map] at this
  omega
set_option maxHeartbeats 1600000 in
set_option maxRecDepth 20000 in
theorem DrawPackTable_any (w : World) (A : Option Addr) (n c : Nat) (bs : List Int) (hr : RdY w w.heap.size A n c bs) :
    Calls Try.prog 15 #[.slice A n c] w (DrawnT w) := by
  have H := (Owns.nil w).box [.slice none 0 0, .slice none 0 0, .slice none 0 0] 28
  go_enter Try.func15, Try.ntmps15
  go_wp2_with fail
  refine (open_own H A n c bs hr).mono ?_
  rintro e w1 ⟨g, A1, n1, c1, bs1, rfl, hU, H1⟩
  clear H hr
  go_wp2_with fail
  refine (table_own H1 0 rfl hU (by omega) 12 (by omega) (by omega)).mono ?_
  rintro e w2 ⟨t, cv, rvs, rv, hv, hv0, hs0, p1, rfl, hS, ht, -, -, H2⟩
  simp only [List.set_cons_zero] at H2
  clear H1 hU
  obtain ⟨C, kC, rfl, -⟩ := H2.formC 0 rfl
  obtain ⟨R, kR, rfl, -⟩ := H2.formI 1 rfl
  obtain ⟨E0, kE0, e0, -⟩ := H2.formI 2 rfl
  obtain ⟨E, nE, kE, rfl⟩ := ht.form e0
  clear e0
  obtain ⟨y0, y1, y2, y3, y4, y5⟩ := H2.box3 4 rfl
  have HZ := ((H2.putBox 4 rfl 0 (.slice C t.store.cells.length kC)).putBox 4 rfl 1 (.slice R t.store.roots.length kR)).putBox 4 rfl 2 (.slice E nE kE)
  simp only [List.set_cons_zero, List.set_cons_succ] at HZ
  obtain ⟨z0, z1, z2, -, -, -⟩ := HZ.box3 4 rfl
  have HS : Hid (DrawnT w (.returned (.agg #[.slice C t.store.cells.length kC, .slice R t.store.roots.length kR, .slice E nE kE])) _) := Go.Lib.hid ⟨t, _, rvs, _, _, _, _, rfl, hS, ht, HZ.take 3⟩
  clear H2 HZ hS ht
  go_wp2
  exact bodyPost_ret (v := .agg #[.slice C t.store.cells.length kC, .slice R t.store.roots.length kR, .slice E nE kE]) (by simp [results, Try.results15, go_sem, z0, z1, z2]) rfl HS.out
set_option maxHeartbeats 6400000 in
set_option maxRecDepth 20000 in
theorem lawPackTable_any (w : World) {A : Option Addr} {n c : Nat} {bs : List Int} (hr : RdY w w.heap.size A n c bs) :
    Calls Try.prog 4 #[.slice A n c] w fun e w' => e = .returned (.bool true) ∧ Below w.heap.size w w' := by
  by_cases s0 : 1048576 < n
  · go_enter Try.func4, Try.ntmps4
    go_wp2
    go_ret
    exact ⟨rfl, Below.refl _ _⟩
  go_enter Try.func4, Try.ntmps4
  go_wp2_with fail
  refine (DrawPackTable_any w A n c bs hr).mono ?_
  rintro e w1 ⟨t, cv, rvs, rv, hv, hv0, hs0, rfl, hS, ht, H1⟩
  obtain ⟨C, kC, rfl, -⟩ := H1.formC 0 rfl
  obtain ⟨R, kR, rfl, -⟩ := H1.formI 1 rfl
  obtain ⟨E0, kE0, e0, -⟩ := H1.formI 2 rfl
  obtain ⟨E, nE, kE, rfl⟩ := ht.form e0
  have HT := Go.Lib.hid ht
  have HBg := Go.Lib.hid hS.big
  clear e0 ht hS hr s0
  have H := H1.box [.slice C t.store.cells.length kC, .slice R t.store.roots.length kR, .slice E nE kE] 28
  clear H1
  obtain ⟨x0, x1, x2, -, -, -⟩ := H.box3 0 rfl
  obtain ⟨P, hP⟩ : ∃ P, P = mPackT t := ⟨_, rfl⟩
  obtain ⟨N, hN⟩ : ∃ N, N = mPackN t := ⟨_, rfl⟩
  have HPe := Go.Lib.hid hP
  have HNe := Go.Lib.hid hN
  clear hP hN
  go_wp2_with fail
  refine (implPackTable_any _ _ _ t (H.rdTx 1 2 3 rfl rfl rfl HT.out) HBg.out.1 HBg.out.2.1 HBg.out.2.2.1 HBg.out.2.2.2).mono ?_
  rintro e w2 ⟨cv2, rvs2, rv2, hv2, rfl, K⟩
  rw [← HPe.out] at K
  rw [← HNe.out]
  have H2 := H.merge K
  simp only [List.cons_append, List.nil_append] at H2
  clear H K x0 x1 x2
  obtain ⟨C2, kC2, rfl, -⟩ := H2.formC 0 rfl
  obtain ⟨R2, kR2, rfl, -⟩ := H2.formI 1 rfl
  obtain ⟨E2, kE2, rfl, -⟩ := H2.formI 2 rfl
  have H3 := H2.box [.slice C2 P.store.cells.length kC2, .slice R2 P.store.roots.length kR2, .slice E2 P.hands.length kE2] 28
  clear H2
  obtain ⟨x0, x1, x2, -, -, -⟩ := H3.box3 4 rfl
  go_wp2_with fail
  refine (specPackTable_any _ _ _ t (H3.rdTx 5 6 7 rfl rfl rfl HT.out) HBg.out.1 HBg.out.2.1 HBg.out.2.2.1 HBg.out.2.2.2).mono ?_
  rintro e w3 ⟨cv3, rvs3, rv3, hv3, rfl, K⟩
  rw [← HPe.out] at K
  rw [← HNe.out]
  have H4 := H3.merge K
  simp only [List.cons_append, List.nil_append] at H4
  clear H3 K x0 x1 x2
  obtain ⟨C3, kC3, rfl, -⟩ := H4.formC 0 rfl
  obtain ⟨R3, kR3, rfl, -⟩ := H4.formI 1 rfl
  obtain ⟨E3, kE3, rfl, -⟩ := H4.formI 2 rfl
  have H5 := H4.box [.slice C3 P.store.cells.length kC3, .slice R3 P.store.roots.length kR3, .slice E3 P.hands.length kE3] 28
  clear H4
  obtain ⟨z0, z1, z2, -, -, -⟩ := H5.box3 0 rfl
  obtain ⟨y0, y1, y2, -, -, -⟩ := H5.box3 4 rfl
  go_wp2_with fail
  refine (sameTable_yes _ _ _ _ _ P (H5.rdT 5 6 7 rfl rfl rfl) (H5.rdT 1 2 3 rfl rfl rfl)).mono ?_
  rintro e w4 ⟨rfl, hb4⟩
  have H6 := (H5.call hb4).drop 4
  simp only [List.drop_succ_cons, List.drop_zero] at H6
  clear H5 hb4 z0 z1 z2 y0 y1 y2
  cases hy : mTableValid t
  · have e1 : P = ⟨⟨[], []⟩, []⟩ := by rw [HPe.out]; unfold mPackT; rw [hy]; rfl
    have e2 : N = -1 := by rw [HNe.out]; unfold mPackN; rw [hy]; rfl
    subst e1 e2
    simp only [List.length_nil] at H6
    obtain ⟨y0, y1, y2, -, -, -⟩ := H6.box3 0 rfl
    clear hy
    go_wp2_with fail
    refine (alive_any _).mono ?_
    rintro e w8 ⟨rfl, hb⟩
    have HB := (H6.call hb).below
    clear H6 hb
    go_wp2
    go_ret
    exact ⟨rfl, HB⟩
  · obtain ⟨f1, f2, f3, f4, ⟨n0, f5, f6⟩, f7⟩ := pack_facts hy
    rw [← HPe.out] at f1 f2 f3 f4 f6 f7
    rw [← HNe.out] at f5
    subst f5
    have hv0 := tab_heap hy
    have hv1 := tab_heap f1
    have HBp := Go.Lib.hid (tab_big f1)
    have HPv := Go.Lib.hid f1
    have HAg := Go.Lib.hid f3
    have HFi := Go.Lib.hid f4
    have HOkP : Hid (heapOk (tellH P) = true) := Go.Lib.hid hv1
    obtain ⟨Zx, hZx⟩ : ∃ Z, Z = tellH P := ⟨_, rfl⟩
    obtain ⟨Zt, hZt⟩ : ∃ Z, Z = tellH t := ⟨_, rfl⟩
    rw [← hZx] at f2 f6 hv1
    rw [← hZt] at f2 hv0
    have HZx : Hid (mTableHeap P = Zx) := Go.Lib.hid (by rw [hZx]; exact mTHp_yes f1)
    have HZt : Hid (mTableHeap t = Zt) := Go.Lib.hid (by rw [hZt]; exact mTHp_yes hy)
    have hPl := (tab_len f1).2.1
    have hzl : Zx.cells.length = P.store.cells.length := by rw [hZx]; simp [tellH]
    have HUs : Hid (n0 ≤ usedTo Zx.cells Zx.cells.length) := Go.Lib.hid (by rw [hzl]; exact f6)
    have HZ1 := Go.Lib.hid hv1
    have HZ2 := Go.Lib.hid hv0
    have HZ3 := Go.Lib.hid f2
    have hn0 : ¬ ((n0 : Int) < 0) := by omega
    clear hy f1 f2 f3 f4 f6 f7 hv0 hv1 hZx hZt hzl
    obtain ⟨y0, y1, y2, -, -, -⟩ := H6.box3 0 rfl
    go_wp2_with fail
    clear y0 y1 y2
    go_loopw [8] (fun i wr => ∃ j : Nat, i = .int .i64 ((j + 1 : Nat) : Int) ∧ j ≤ 40 ∧ Owns w.heap.size w wr [.box w2.heap.size [.slice C2 P.store.cells.length kC2, .slice R2 P.store.roots.length kR2, .slice E2 P.hands.length kE2] 28, .cells (.slice C2 P.store.cells.length kC2) rvs2 P.store.cells, .ints (.slice R2 P.store.roots.length kR2) P.store.roots, .ints (.slice E2 P.hands.length kE2) P.hands, .box w1.heap.size [.slice C t.store.cells.length kC, .slice R t.store.roots.length kR, .slice E nE kE] 28, .cells (.slice C t.store.cells.length kC) rvs t.store.cells, .ints (.slice R t.store.roots.length kR) t.store.roots, .ints hv0 hs0]) (fun i _ => 100 - (intOf i).toNat)
    case atStart => exact ⟨0, rfl, by omega, H6⟩
    case round =>
      clear H6
      obtain ⟨j, rfl, hj, H⟩ := hrel
      obtain ⟨y0, y1, y2, -, -, -⟩ := H.box3 0 rfl
      by_cases hlt : j + 1 < P.store.cells.length
      · obtain ⟨l1, hl1⟩ : ∃ l, Hid (P.store.cells[j + 1]? = some l) := ⟨_, Go.Lib.hid (List.getElem?_eq_getElem hlt)⟩
        obtain ⟨l0, hl0⟩ : ∃ l, Hid (P.store.cells[j]? = some l) := ⟨_, Go.Lib.hid (List.getElem?_eq_getElem (by omega))⟩
        obtain ⟨gC, cC, A1, c1, eC, -, u1, -, -, -, -, -, -, -⟩ := H.cellW 1 rfl hl1
        simp only [Value.slice.injEq] at eC
        obtain ⟨rfl, -, rfl⟩ := eC
        obtain ⟨_, _, A0, c0, eC, -, u0, -, -, -, -, -, -, -⟩ := H.cellW 1 rfl hl0
        simp only [Value.slice.injEq, Option.some.injEq, Addr.mk.injEq, and_true] at eC
        obtain ⟨⟨rfl, -⟩, -, rfl⟩ := eC
        have himp : l1.used = true → l0.used = true := fun h1 => by
          have a1 : usedAt P (j + 1) = l1.used := by unfold usedAt; rw [getD_of hl1]
          have a0 : usedAt P j = l0.used := by unfold usedAt; rw [getD_of hl0]
          rw [← a0]
          exact HFi.out j hlt (a1.trans h1)
        obtain ⟨b1, hb1⟩ : ∃ b, b = l1.used := ⟨_, rfl⟩
        obtain ⟨b0, hb0⟩ : ∃ b, b = l0.used := ⟨_, rfl⟩
        rw [← hb1] at u1 himp
        rw [← hb0] at u0 himp
        clear hb1 hb0 hl1 hl0
        cases b1
        · go_wp2
          go_roundw
          case rel => first | exact ⟨j + 1, by go_num, by omega, H⟩ | exact ⟨j + 1, by go_num, by omega⟩
          case measure => simp [intOf]; omega
        · obtain rfl : b0 = true := himp rfl
          go_wp2
          go_roundw
          case rel => first | exact ⟨j + 1, by go_num, by omega, H⟩ | exact ⟨j + 1, by go_num, by omega⟩
          case measure => simp [intOf]; omega
      · have H7 := H
        clear H
        go_wp2_with fail
        refine (implPackTable_any _ _ _ P (H7.rdT 1 2 3 rfl rfl rfl) HBp.out.1 HBp.out.2.1 HBp.out.2.2.1 HBp.out.2.2.2).mono ?_
        rintro e w5 ⟨cv5, rvs5, rv5, hv5, rfl, K⟩
        rw [HAg.out]
        obtain ⟨P5, hP5⟩ : ∃ X, X = mPackT P := ⟨_, rfl⟩
        rw [← hP5] at K
        have H8 := H7.merge K
        simp only [List.cons_append, List.nil_append] at H8
        clear H7 K hP5 y0 y1 y2
        obtain ⟨C5, kC5, rfl, -⟩ := H8.formC 0 rfl
        obtain ⟨R5, kR5, rfl, -⟩ := H8.formI 1 rfl
        obtain ⟨E5, kE5, rfl, -⟩ := H8.formI 2 rfl
        have H9 := (H8.alloc (.cells #[.slice C5 P5.store.cells.length kC5, .slice R5 P5.store.roots.length kR5, .slice E5 P5.hands.length kE5] 28)).drop 3
        simp only [List.drop_succ_cons, List.drop_zero] at H9
        clear H8
        obtain ⟨y0, y1, y2, -, -, -⟩ := H9.box3 0 rfl
        go_wp2_with fail
        refine (implTableHeap_any _ _ _ P (H9.rdT 1 2 3 rfl rfl rfl) HBp.out.1 HBp.out.2.1 HBp.out.2.2.1 HBp.out.2.2.2).mono ?_
        rintro e w6 ⟨cv6, rvs6, rv6, rfl, K⟩
        rw [HZx.out] at K
        have HA := H9.merge K
        simp only [List.cons_append, List.nil_append] at HA
        clear H9 K y0 y1 y2
        obtain ⟨C6, kC6, rfl, -⟩ := HA.formC 0 rfl
        obtain ⟨R6, kR6, rfl, -⟩ := HA.formI 1 rfl
        go_wp2_with fail
        refine (implUsedCells_any _ _ _ Zx (HA.rdH 0 1 rfl rfl) HZ1.out).mono ?_
        rintro e w7 ⟨⟨yy, rfl⟩, hb7⟩
        have hle := HUs.out
        generalize usedTo Zx.cells Zx.cells.length = uu at *
        have hle2 : (n0 : Int) ≤ (uu : Int) := by omega
        have HB := (HA.call hb7).drop 2
        simp only [List.drop_succ_cons, List.drop_zero] at HB
        clear HA hb7 hle
        go_wp2_with fail
        have HX := HB.drew
        have H0 := Go.Lib.hid HB
        clear HB
        obtain ⟨x0, x1, x2, -, -, -⟩ := HX.box3 4 rfl
        obtain ⟨y0, y1, y2, -, -, -⟩ := HX.box3 0 rfl
        refine wp_region_tree (fun w' => (w'.cell? ⟨w1.heap.size, 0, none⟩ = some (.slice C t.store.cells.length kC) ∧ w'.cell? ⟨w1.heap.size, 1, none⟩ = some (.slice R t.store.roots.length kR) ∧ w'.cell? ⟨w1.heap.size, 2, none⟩ = some (.slice E nE kE)) ∧ w'.cell? ⟨w2.heap.size, 0, none⟩ = some (.slice C2 P.store.cells.length kC2) ∧ w'.cell? ⟨w2.heap.size, 1, none⟩ = some (.slice R2 P.store.roots.length kR2) ∧ w'.cell? ⟨w2.heap.size, 2, none⟩ = some (.slice E2 P.hands.length kE2)) 19 [] (.take 0 (.alt 1 (.take 2 (.take 3 (.take 5 (.alt 4 (.alt 6 (.alt 7 (.take 8 (.take 9 (.take 10 (.take 11 (.take 12 (.take 13 (.take 14 (.take 15 (.take 16 (.take 17 (.take 18 (.done)))))))))))) (.stop)) (.stop)) (.stop))))) (.stop))) (by kernel_rfl) (by kernel_rfl) (by kernel_rfl) (⟨⟨x0, x1, x2⟩, y0, y1, y2⟩) ?_
        simp only [fillT, List.getElem?_cons_zero, List.getElem?_cons_succ, Nat.reduceBEq]
        repeat (first
          | (with_reducible refine po_take (v := ?_) ?_ (fun w' hS' => ?_) ?_
             rotate_left
             · (go_simp; done)
             · ((try dsimp only at hS'); go_simp; try with_reducible rfl)
             simp only [Act.put, List.setIfInBounds_toArray, List.set_cons_zero, List.set_cons_succ])
          | (with_reducible refine po_skip ?_ ?_
             · (go_simp; done)
             simp only [Act.put, List.setIfInBounds_toArray, List.set_cons_zero, List.set_cons_succ]))
        with_reducible refine po_run ?_ (fun K hK => ?_) ?_
        · (go_simp; done)
        rotate_left
        · exact po_stop
        go_simp
        refine (implTableValid_any _ _ _ P (HX.rdT 1 2 3 rfl rfl rfl) HBp.out.1 HBp.out.2.1 HBp.out.2.2.1 HBp.out.2.2.2).mono ?_
        rintro e w11 ⟨rfl, hb⟩
        rw [HPv.out]
        replace HX := HX.call hb
        clear hb x0 x1 x2 y0 y1 y2
        obtain ⟨x0, x1, x2, -, -, -⟩ := HX.box3 4 rfl
        obtain ⟨y0, y1, y2, -, -, -⟩ := HX.box3 0 rfl
        refine hK.out _ _ (.inr (⟨⟨x0, x1, x2⟩, y0, y1, y2⟩)) ?_
        clear hK K
        repeat (first
          | (with_reducible refine po_take (v := ?_) ?_ (fun w' hS' => ?_) ?_
             rotate_left
             · (go_simp; done)
             · ((try dsimp only at hS'); go_simp; try with_reducible rfl)
             simp only [Act.put, List.setIfInBounds_toArray, List.set_cons_zero, List.set_cons_succ])
          | (with_reducible refine po_skip ?_ ?_
             · (go_simp; done)
             simp only [Act.put, List.setIfInBounds_toArray, List.set_cons_zero, List.set_cons_succ]))
        with_reducible refine po_run ?_ (fun K hK => ?_) ?_
        · (go_simp; done)
        rotate_left
        · exact po_stop
        go_simp
        refine (implTableHeap_any _ _ _ P (HX.rdT 1 2 3 rfl rfl rfl) HBp.out.1 HBp.out.2.1 HBp.out.2.2.1 HBp.out.2.2.2).mono ?_
        rintro e w12 ⟨cv7, rvs7, rv7, rfl, K⟩
        rw [HZx.out] at K
        replace K := HX.merge K
        simp only [List.cons_append, List.nil_append] at K
        clear HX x0 x1 x2 y0 y1 y2
        have HX := K
        clear K
        obtain ⟨C7, kC7, rfl, -⟩ := HX.formC 0 rfl
        obtain ⟨R7, kR7, rfl, -⟩ := HX.formI 1 rfl
        obtain ⟨x0, x1, x2, -, -, -⟩ := HX.box3 6 rfl
        obtain ⟨y0, y1, y2, -, -, -⟩ := HX.box3 2 rfl
        refine hK.out _ _ (.inr (⟨⟨x0, x1, x2⟩, y0, y1, y2⟩)) ?_
        clear hK K
        with_reducible refine po_run ?_ (fun K hK => ?_) ?_
        · (go_simp; done)
        rotate_left
        · exact po_stop
        go_simp
        refine (implTableHeap_any _ _ _ t (HX.rdTx 7 8 9 rfl rfl rfl HT.out) HBg.out.1 HBg.out.2.1 HBg.out.2.2.1 HBg.out.2.2.2).mono ?_
        rintro e w13 ⟨cv8, rvs8, rv8, rfl, K⟩
        rw [HZt.out] at K
        replace K := HX.merge K
        simp only [List.cons_append, List.nil_append] at K
        clear HX x0 x1 x2 y0 y1 y2
        have HX := K
        clear K
        obtain ⟨C8, kC8, rfl, -⟩ := HX.formC 0 rfl
        obtain ⟨R8, kR8, rfl, -⟩ := HX.formI 1 rfl
        obtain ⟨x0, x1, x2, -, -, -⟩ := HX.box3 8 rfl
        obtain ⟨y0, y1, y2, -, -, -⟩ := HX.box3 4 rfl
        refine hK.out _ _ (.inr (⟨⟨x0, x1, x2⟩, y0, y1, y2⟩)) ?_
        clear hK K
        with_reducible refine po_run ?_ (fun K hK => ?_) ?_
        · (go_simp; done)
        rotate_left
        · exact po_stop
        go_simp
        refine (sameView_yes _ _ _ _ _ Zx Zt (HX.rdH 2 3 rfl rfl) (HX.rdH 0 1 rfl rfl) HZ1.out HZ2.out HZ3.out).mono ?_
        rintro e w14 ⟨rfl, hb⟩
        replace HX := (HX.call hb).drop 4
        simp only [List.drop_succ_cons, List.drop_zero] at HX
        clear hb x0 x1 x2 y0 y1 y2
        obtain ⟨x0, x1, x2, -, -, -⟩ := HX.box3 4 rfl
        obtain ⟨y0, y1, y2, -, -, -⟩ := HX.box3 0 rfl
        refine hK.out _ _ (.inr (⟨⟨x0, x1, x2⟩, y0, y1, y2⟩)) ?_
        clear hK K
        repeat (first
          | (with_reducible refine po_take (v := ?_) ?_ (fun w' hS' => ?_) ?_
             rotate_left
             · (go_simp; done)
             · ((try dsimp only at hS'); go_simp; try with_reducible rfl)
             simp only [Act.put, List.setIfInBounds_toArray, List.set_cons_zero, List.set_cons_succ])
          | (with_reducible refine po_skip ?_ ?_
             · (go_simp; done)
             simp only [Act.put, List.setIfInBounds_toArray, List.set_cons_zero, List.set_cons_succ]))
        refine po_done ?_
        have HC := HX.below
        clear HX H0 x0 x1 x2 y0 y1 y2
        go_wp2
        go_ret
        exact ⟨rfl, HC⟩
end Go.Proofs.Ytcekohpekpkobaa
