/- A table drawn from a code; the law FnTableMoves' walk. For every code that can be read. -/
import Derived.Test.YtcekohpekpkobaaTd
import Derived.Test.YtcekohpekpkobaaAl
import Derived.Test.YtcekohpekpkobaaSn
import Derived.Test.YtcekohpekpkobaaMg
import Derived.Test.YtcekohpekpkobaaVt
import Derived.Test.YtcekohpekpkobaaVi
import Derived.Test.YtcekohpekpkobaaMc
import Derived.Test.YtcekohpekpkobaaZ1
namespace Go.Proofs.Ytcekohpekpkobaa
open Go.RowKit
theorem tab_big {t : Tbl} (h : mTableValid t = true) : t.store.cells.length ≤ 1048576 ∧ t.store.roots.length ≤ 1048576 ∧ (∀ c ∈ t.store.cells, c.refs.length ≤ 1048576) ∧ t.hands.length ≤ 1048576 := by
  obtain ⟨h1, h2, h3⟩ := tab_len h
  refine ⟨by omega, by omega, fun c hc => ?_, by omega⟩
  obtain ⟨i, hi⟩ := List.getElem?_of_mem hc
  have := (refs3 (tab_heap h) (c := i) (l := tellC t.hands c) (by show (t.store.cells.map _)[i]? = _; rw [List.getElem?_map, hi]; rfl)).1
  simp only [tellC, List.length_map] at this
  omega
/-- Neighbours change places, one pair after the other. -/
def movesTo (t : Tbl) : Nat → Tbl
  | 0 => t
  | k + 1 => mMoved (movesTo t k) k (k + 1)
theorem movesTo_len (t : Tbl) : ∀ k, (movesTo t k).store.cells.length = t.store.cells.length ∧ (movesTo t k).hands.length = t.hands.length ∧ (movesTo t k).store.roots = t.store.roots
  | 0 => ⟨rfl, rfl, rfl⟩
  | k + 1 => by
    obtain ⟨h1, h2, h3⟩ := movesTo_len t k
    obtain ⟨k1, k2⟩ := mMoved_len (movesTo t k) k (k + 1)
    exact ⟨k1.trans h1, k2.trans h2, h3⟩
theorem movesTo_ok {t : Tbl} (h : mTableValid t = true) : ∀ k, k + 1 ≤ t.store.cells.length → mTableValid (movesTo t k) = true ∧ mView (tellH (movesTo t k)) = mView (tellH t)
  | 0, _ => ⟨h, rfl⟩
  | k + 1, hk => by
    obtain ⟨h1, h2⟩ := movesTo_ok h k (by omega)
    have hl := (movesTo_len t k).1
    exact ⟨mMoved_valid h1 (by omega) (by omega), (moved_view h1 (by omega) (by omega)).trans h2⟩
theorem movesTo_step {t : Tbl} (h : mTableValid t = true) {k : Nat} (hk : k + 1 < t.store.cells.length) : mMove (movesTo t k) (k : Int) ((k : Int) + 1) = movesTo t (k + 1) := by
  obtain ⟨h1, -⟩ := movesTo_ok h k (by omega)
  obtain ⟨hl, hh, -⟩ := movesTo_len t k
  have ht := tab_len h
  unfold mMove mMoveOk
  rw [h1, if_pos]
  · have e1 : ((k : Int)).toNat = k := by omega
    have e2 : ((k : Int) + 1).toNat = k + 1 := by omega
    rw [e1, e2]; rfl
  · simp; omega
theorem RdI.asList {w : World} {B : Nat} {A : Option Addr} {n c : Nat} {xs ys : List Int} (h : RdI w B A n c xs) (e : xs = ys) : RdI w B A n c ys := e ▸ h
theorem movesTo_zero {t : Tbl} (h : mTableValid t = true) : ∀ k, k + 1 ≤ max 1 t.store.cells.length → mTableValid (movesTo t k) = true ∧ mView (tellH (movesTo t k)) = mView (tellH t) := fun k hk => by
  rcases k with _ | k
  · exact ⟨h, rfl⟩
  · exact movesTo_ok h (k + 1) (by omega)
set_option maxHeartbeats 1600000 in
set_option maxRecDepth 20000 in
theorem DrawPackTable_any (w : World) (A : Option Addr) (n c : Nat) (bs : List Int) (hr : RdY w w.heap.size A n c bs) :
    Calls Try.prog 15 #[.slice A n c] w (DrawnT w) := by
  have H := (Owns.nil w).box [.slice none 0 0, .slice none 0 0, .slice none 0 0] 28
  go_enter Try.func15, Try.ntmps15
  go_wp2_with fail
  refine (open_own H A n c bs hr).mono ?_
  rintro e w1 ⟨g, A1, n1, c1, bs1, rfl, hU, H1⟩
  clear H hr
  go_wp2_with fail
  refine (table_own H1 0 rfl hU (by omega) 12 (by omega) (by omega)).mono ?_
  rintro e w2 ⟨t, cv, rvs, rv, hv, hv0, hs0, p1, rfl, hS, ht, -, -, H2⟩
  simp only [List.set_cons_zero] at H2
  clear H1 hU
  obtain ⟨C, kC, rfl, -⟩ := H2.formC 0 rfl
  obtain ⟨R, kR, rfl, -⟩ := H2.formI 1 rfl
  obtain ⟨E0, kE0, e0, -⟩ := H2.formI 2 rfl
  obtain ⟨E, nE, kE, rfl⟩ := ht.form e0
  clear e0
  obtain ⟨y0, y1, y2, y3, y4, y5⟩ := H2.box3 4 rfl
  have HZ := ((H2.putBox 4 rfl 0 (.slice C t.store.cells.length kC)).putBox 4 rfl 1 (.slice R t.store.roots.length kR)).putBox 4 rfl 2 (.slice E nE kE)
  simp only [List.set_cons_zero, List.set_cons_succ] at HZ
  obtain ⟨z0, z1, z2, -, -, -⟩ := HZ.box3 4 rfl
  have HS : Hid (DrawnT w (.returned (.agg #[.slice C t.store.cells.length kC, .slice R t.store.roots.length kR, .slice E nE kE])) _) := Go.Lib.hid ⟨t, _, rvs, _, _, _, _, rfl, hS, ht, HZ.take 3⟩
  clear H2 HZ hS ht
  go_wp2
  exact bodyPost_ret (v := .agg #[.slice C t.store.cells.length kC, .slice R t.store.roots.length kR, .slice E nE kE]) (by simp [results, Try.results15, go_sem, z0, z1, z2]) rfl HS.out
set_option maxHeartbeats 6400000 in
set_option maxRecDepth 20000 in
theorem lawTableMoves_any (w : World) {A : Option Addr} {n c : Nat} {bs : List Int} (hr : RdY w w.heap.size A n c bs) :
    Calls Try.prog 5 #[.slice A n c] w fun e w' => e = .returned (.bool true) ∧ Below w.heap.size w w' := by
  by_cases s0 : 1048576 < n
  · go_enter Try.func5, Try.ntmps5
    go_wp2
    go_ret
    exact ⟨rfl, Below.refl _ _⟩
  go_enter Try.func5, Try.ntmps5
  go_wp2_with fail
  refine (DrawPackTable_any w A n c bs hr).mono ?_
  rintro e w1 ⟨t, cv, rvs, rv, hv, hv0, hs0, rfl, hS, ht, H1⟩
  obtain ⟨C, kC, rfl, -⟩ := H1.formC 0 rfl
  obtain ⟨R, kR, rfl, -⟩ := H1.formI 1 rfl
  obtain ⟨E0, kE0, e0, -⟩ := H1.formI 2 rfl
  obtain ⟨E, nE, kE, rfl⟩ := ht.form e0
  have HT := Go.Lib.hid ht
  have HBg := Go.Lib.hid hS.big
  clear e0 ht hS hr s0
  have H := H1.box [.slice C t.store.cells.length kC, .slice R t.store.roots.length kR, .slice E nE kE] 28
  clear H1
  obtain ⟨x0, x1, x2, -, -, -⟩ := H.box3 0 rfl
  go_wp2_with fail
  have HX := H.drew
  have H0 := Go.Lib.hid H
  clear H x0 x1 x2
  obtain ⟨x0, x1, x2, -, -, -⟩ := HX.box3 0 rfl
  refine wp_region_tree (fun w' => w'.cell? ⟨w1.heap.size, 0, none⟩ = some (.slice C t.store.cells.length kC) ∧ w'.cell? ⟨w1.heap.size, 1, none⟩ = some (.slice R t.store.roots.length kR) ∧ w'.cell? ⟨w1.heap.size, 2, none⟩ = some (.slice E nE kE)) 5 [] (.take 0 (.take 2 (.alt 1 (.alt 3 (.take 4 (.done)) (.stop)) (.stop)))) (by kernel_rfl) (by kernel_rfl) (by kernel_rfl) (⟨x0, x1, x2⟩) ?_
  simp only [fillT, List.getElem?_cons_zero, List.getElem?_cons_succ, Nat.reduceBEq]
  repeat (first
    | (with_reducible refine po_take (v := ?_) ?_ (fun w' hS' => ?_) ?_
       rotate_left
       · (go_simp; done)
       · ((try dsimp only at hS'); go_simp; try with_reducible rfl)
       simp only [Act.put, List.setIfInBounds_toArray, List.set_cons_zero, List.set_cons_succ])
    | (with_reducible refine po_skip ?_ ?_
       · (go_simp; done)
       simp only [Act.put, List.setIfInBounds_toArray, List.set_cons_zero, List.set_cons_succ]))
  with_reducible refine po_run ?_ (fun K hK => ?_) ?_
  · (go_simp; done)
  rotate_left
  · exact po_stop
  go_simp
  refine (implTableValid_any _ _ _ t (HX.rdTx 1 2 3 rfl rfl rfl HT.out) HBg.out.1 HBg.out.2.1 HBg.out.2.2.1 HBg.out.2.2.2).mono ?_
  rintro e w2 ⟨rfl, hb⟩
  replace HX := HX.call hb
  clear hb x0 x1 x2
  obtain ⟨x0, x1, x2, -, -, -⟩ := HX.box3 0 rfl
  refine hK.out _ _ (.inr (⟨x0, x1, x2⟩)) ?_
  clear hK K
  with_reducible refine po_run ?_ (fun K hK => ?_) ?_
  · (go_simp; done)
  rotate_left
  · exact po_stop
  go_simp
  refine (specTableValid_any _ _ _ t (HX.rdTx 1 2 3 rfl rfl rfl HT.out) HBg.out.1 HBg.out.2.1 HBg.out.2.2.1 HBg.out.2.2.2).mono ?_
  rintro e w3 ⟨rfl, hb⟩
  replace HX := HX.call hb
  clear hb x0 x1 x2
  obtain ⟨x0, x1, x2, -, -, -⟩ := HX.box3 0 rfl
  refine hK.out _ _ (.inr (⟨x0, x1, x2⟩)) ?_
  clear hK K
  repeat (first
    | (with_reducible refine po_take (v := ?_) ?_ (fun w' hS' => ?_) ?_
       rotate_left
       · (go_simp; done)
       · ((try dsimp only at hS'); go_simp; try with_reducible rfl)
       simp only [Act.put, List.setIfInBounds_toArray, List.set_cons_zero, List.set_cons_succ])
    | (with_reducible refine po_skip ?_ ?_
       · (go_simp; done)
       simp only [Act.put, List.setIfInBounds_toArray, List.set_cons_zero, List.set_cons_succ]))
  refine po_done ?_
  have H1 := HX
  clear HX H0
  go_wp2_with fail
  refine (specTableValid_any _ _ _ t (H1.rdTx 1 2 3 rfl rfl rfl HT.out) HBg.out.1 HBg.out.2.1 HBg.out.2.2.1 HBg.out.2.2.2).mono ?_
  rintro e w4 ⟨rfl, hb⟩
  have H2 := H1.call hb
  clear H1 hb x0 x1 x2
  cases hy : mTableValid t
  · clear hy
    go_wp2_with fail
    refine (alive_any _).mono ?_
    rintro e w8 ⟨rfl, hb⟩
    have HB := (H2.call hb).below
    clear H2 hb
    go_wp2
    go_ret
    exact ⟨rfl, HB⟩
  · obtain ⟨x0, x1, x2, -, -, -⟩ := H2.box3 0 rfl
    have hl40 := (tab_len hy).2.1
    have HY := Go.Lib.hid hy
    have H3 := H2.box [.slice C t.store.cells.length kC, .slice R t.store.roots.length kR, .slice E nE kE] 28
    clear H2 hy
    obtain ⟨g4, hg4⟩ : ∃ g, w4.heap.size = g := ⟨_, rfl⟩
    rw [hg4] at H3
    obtain ⟨x0, x1, x2, -, -, -⟩ := H3.box3 1 rfl
    go_wp2_with fail
    clear x0 x1 x2
    go_loopw [5] (fun i wr => ∃ k : Nat, i = .int .i64 k ∧ (k = 0 ∨ k + 1 ≤ t.store.cells.length) ∧ ((k = 0 ∧ Owns w.heap.size w wr [.box g4 [.slice C t.store.cells.length kC, .slice R t.store.roots.length kR, .slice E nE kE] 28, .box w1.heap.size [.slice C t.store.cells.length kC, .slice R t.store.roots.length kR, .slice E nE kE] 28, .cells (.slice C t.store.cells.length kC) rvs t.store.cells, .ints (.slice R t.store.roots.length kR) t.store.roots, .ints hv0 hs0]) ∨ ∃ (C2 : Option Addr) (kC2 : Nat) (rvs2 : List Value) (R2 : Option Addr) (kR2 : Nat) (E2 : Option Addr) (kE2 : Nat), Owns w.heap.size w wr [.box g4 [.slice C2 (movesTo t k).store.cells.length kC2, .slice R2 (movesTo t k).store.roots.length kR2, .slice E2 (movesTo t k).hands.length kE2] 28, .cells (.slice C2 (movesTo t k).store.cells.length kC2) rvs2 (movesTo t k).store.cells, .ints (.slice R2 (movesTo t k).store.roots.length kR2) (movesTo t k).store.roots, .ints (.slice E2 (movesTo t k).hands.length kE2) (movesTo t k).hands, .box w1.heap.size [.slice C t.store.cells.length kC, .slice R t.store.roots.length kR, .slice E nE kE] 28, .cells (.slice C t.store.cells.length kC) rvs t.store.cells, .ints (.slice R t.store.roots.length kR) t.store.roots, .ints hv0 hs0])) (fun i _ => 100 - (intOf i).toNat)
    case atStart => exact ⟨0, rfl, .inl rfl, .inl ⟨rfl, H3⟩⟩
    case round =>
      clear H3
      obtain ⟨k, rfl, hk, hH⟩ := hrel
      have hk40 : k ≤ 40 := by omega
      obtain ⟨hv1, hw1⟩ := movesTo_zero HY.out k (by omega)
      have HBk := Go.Lib.hid (tab_big hv1)
      have HPv := Go.Lib.hid hv1
      have HVw := Go.Lib.hid hw1
      have HStp : k + 1 < t.store.cells.length → Hid (mMove (movesTo t k) (k : Int) ((k : Int) + 1) = movesTo t (k + 1)) := fun h => Go.Lib.hid (movesTo_step HY.out h)
      have HRo : Hid ((movesTo t k).store.roots = t.store.roots) := Go.Lib.hid (movesTo_len t k).2.2
      clear hv1 hw1
      rcases hH with ⟨rfl, H⟩ | ⟨C2, kC2, rvs2, R2, kR2, E2, kE2, H⟩
      · have HM0 : Hid (movesTo t 0 = t) := Go.Lib.hid rfl
        rw [HM0.out] at HPv HStp
        clear HVw HRo HBk
        obtain ⟨x0, x1, x2, -, -, -⟩ := H.box3 1 rfl
        obtain ⟨y0, y1, y2, y3, y4, y5⟩ := H.box3 0 rfl
        by_cases hlt : 0 + 1 < t.store.cells.length
        · have HS := HStp hlt
          have HX := H
          clear H
          go_wp2_with fail
          refine (implMoveCells_any _ _ _ t _ _ (HX.rdTx 2 3 4 rfl rfl rfl HT.out) HBg.out.1 HBg.out.2.1 HBg.out.2.2.1 HBg.out.2.2.2).mono ?_
          rintro e w5 ⟨cv5, rvs5, rv5, hv5, rfl, K⟩
          have HS2 := HS.out
          try simp only [Int.natCast_zero, Int.zero_add] at HS2 K
          rw [HS2] at K
          clear HS2
          have H8 := HX.merge K
          simp only [List.cons_append, List.nil_append] at H8
          clear HX K x0 x1 x2 y0 y1 y2 y3 y4 y5
          obtain ⟨C5, kC5, rfl, -⟩ := H8.formC 0 rfl
          obtain ⟨R5, kR5, rfl, -⟩ := H8.formI 1 rfl
          obtain ⟨E5, kE5, rfl, -⟩ := H8.formI 2 rfl
          obtain ⟨y0, y1, y2, y3, y4, y5⟩ := H8.box3 3 rfl
          have HZ := ((H8.putBox 3 rfl 0 (.slice C5 (movesTo t (0 + 1)).store.cells.length kC5)).putBox 3 rfl 1 (.slice R5 (movesTo t (0 + 1)).store.roots.length kR5)).putBox 3 rfl 2 (.slice E5 (movesTo t (0 + 1)).hands.length kE5)
          simp only [List.set_cons_zero, List.set_cons_succ, Nat.zero_add] at HZ
          have HE := HZ.places [3, 0, 1, 2, 4, 5, 6, 7] (by decide) (by simp)
          simp only [List.filterMap_cons, List.filterMap_nil, List.getElem?_cons_zero, List.getElem?_cons_succ] at HE
          have HO := Go.Lib.hid HE
          clear H8 HZ HE HS HStp
          go_wp2
          go_roundw
          case rel => exact ⟨0 + 1, by go_num, .inr (by omega), .inr ⟨_, _, _, _, _, _, _, HO.out⟩⟩
          case measure => first | (simp [intOf]; done) | (simp [intOf]; omega)
        · have HZ1 : Hid (heapOk (tellH t) = true) := Go.Lib.hid (tab_heap HPv.out)
          have HZ2 : Hid (heapOk (tellH t) = true) := Go.Lib.hid (tab_heap HY.out)
          have HZx : Hid (mTableHeap t = tellH t) := Go.Lib.hid (mTHp_yes HPv.out)
          have HZt : Hid (mTableHeap t = tellH t) := Go.Lib.hid (mTHp_yes HY.out)
          obtain ⟨Zx, hZx⟩ : ∃ Z, Z = tellH t := ⟨_, rfl⟩
          obtain ⟨Zt, hZt⟩ : ∃ Z, Z = tellH t := ⟨_, rfl⟩
          rw [← hZx] at HZx HZ1
          rw [← hZt] at HZ2 HZt
          have HZ3 : Hid (mView Zx = mView Zt) := Go.Lib.hid (by rw [hZx, hZt])
          clear hZx hZt  HStp
          go_wp2_with fail
          have HX := H.drew
          have H0 := Go.Lib.hid H
          clear H x0 x1 x2 y0 y1 y2 y3 y4 y5
          obtain ⟨x0, x1, x2, -, -, -⟩ := HX.box3 1 rfl
          obtain ⟨y0, y1, y2, -, -, -⟩ := HX.box3 0 rfl
          refine wp_region_tree (fun w' => (w'.cell? ⟨w1.heap.size, 0, none⟩ = some (.slice C t.store.cells.length kC) ∧ w'.cell? ⟨w1.heap.size, 1, none⟩ = some (.slice R t.store.roots.length kR) ∧ w'.cell? ⟨w1.heap.size, 2, none⟩ = some (.slice E nE kE)) ∧ w'.cell? ⟨g4, 0, none⟩ = some (.slice C t.store.cells.length kC) ∧ w'.cell? ⟨g4, 1, none⟩ = some (.slice R t.store.roots.length kR) ∧ w'.cell? ⟨g4, 2, none⟩ = some (.slice E nE kE)) 19 [] (.take 0 (.alt 1 (.take 2 (.take 3 (.take 5 (.alt 4 (.alt 6 (.alt 7 (.take 8 (.take 9 (.take 10 (.take 11 (.take 12 (.take 13 (.take 14 (.take 15 (.alt 16 (.take 17 (.take 18 (.done))) (.stop)))))))))) (.stop)) (.stop)) (.stop))))) (.stop))) (by kernel_rfl) (by kernel_rfl) (by kernel_rfl) (⟨⟨x0, x1, x2⟩, y0, y1, y2⟩) ?_
          simp only [fillT, List.getElem?_cons_zero, List.getElem?_cons_succ, Nat.reduceBEq]
          repeat (first
            | (with_reducible refine po_take (v := ?_) ?_ (fun w' hS' => ?_) ?_
               rotate_left
               · (go_simp; done)
               · ((try dsimp only at hS'); go_simp; try with_reducible rfl)
               simp only [Act.put, List.setIfInBounds_toArray, List.set_cons_zero, List.set_cons_succ])
            | (with_reducible refine po_skip ?_ ?_
               · (go_simp; done)
               simp only [Act.put, List.setIfInBounds_toArray, List.set_cons_zero, List.set_cons_succ]))
          with_reducible refine po_run ?_ (fun K hK => ?_) ?_
          · (go_simp; done)
          rotate_left
          · exact po_stop
          go_simp
          refine (implTableValid_any _ _ _ t (HX.rdTx 2 3 4 rfl rfl rfl HT.out) HBg.out.1 HBg.out.2.1 HBg.out.2.2.1 HBg.out.2.2.2).mono ?_
          rintro e w11 ⟨rfl, hb⟩
          rw [HPv.out]
          replace HX := HX.call hb
          clear hb x0 x1 x2 y0 y1 y2
          obtain ⟨x0, x1, x2, -, -, -⟩ := HX.box3 1 rfl
          obtain ⟨y0, y1, y2, -, -, -⟩ := HX.box3 0 rfl
          refine hK.out _ _ (.inr (⟨⟨x0, x1, x2⟩, y0, y1, y2⟩)) ?_
          clear hK K
          repeat (first
            | (with_reducible refine po_take (v := ?_) ?_ (fun w' hS' => ?_) ?_
               rotate_left
               · (go_simp; done)
               · ((try dsimp only at hS'); go_simp; try with_reducible rfl)
               simp only [Act.put, List.setIfInBounds_toArray, List.set_cons_zero, List.set_cons_succ])
            | (with_reducible refine po_skip ?_ ?_
               · (go_simp; done)
               simp only [Act.put, List.setIfInBounds_toArray, List.set_cons_zero, List.set_cons_succ]))
          with_reducible refine po_run ?_ (fun K hK => ?_) ?_
          · (go_simp; done)
          rotate_left
          · exact po_stop
          go_simp
          refine (implTableHeap_any _ _ _ t (HX.rdTx 2 3 4 rfl rfl rfl HT.out) HBg.out.1 HBg.out.2.1 HBg.out.2.2.1 HBg.out.2.2.2).mono ?_
          rintro e w12 ⟨cv7, rvs7, rv7, rfl, K⟩
          rw [HZx.out] at K
          replace K := HX.merge K
          simp only [List.cons_append, List.nil_append] at K
          clear HX x0 x1 x2 y0 y1 y2
          have HX := K
          clear K
          obtain ⟨C7, kC7, rfl, -⟩ := HX.formC 0 rfl
          obtain ⟨R7, kR7, rfl, -⟩ := HX.formI 1 rfl
          obtain ⟨x0, x1, x2, -, -, -⟩ := HX.box3 3 rfl
          obtain ⟨y0, y1, y2, -, -, -⟩ := HX.box3 2 rfl
          refine hK.out _ _ (.inr (⟨⟨x0, x1, x2⟩, y0, y1, y2⟩)) ?_
          clear hK K
          with_reducible refine po_run ?_ (fun K hK => ?_) ?_
          · (go_simp; done)
          rotate_left
          · exact po_stop
          go_simp
          refine (implTableHeap_any _ _ _ t (HX.rdTx 4 5 6 rfl rfl rfl HT.out) HBg.out.1 HBg.out.2.1 HBg.out.2.2.1 HBg.out.2.2.2).mono ?_
          rintro e w13 ⟨cv8, rvs8, rv8, rfl, K⟩
          rw [HZt.out] at K
          replace K := HX.merge K
          simp only [List.cons_append, List.nil_append] at K
          clear HX x0 x1 x2 y0 y1 y2
          have HX := K
          clear K
          obtain ⟨C8, kC8, rfl, -⟩ := HX.formC 0 rfl
          obtain ⟨R8, kR8, rfl, -⟩ := HX.formI 1 rfl
          obtain ⟨x0, x1, x2, -, -, -⟩ := HX.box3 5 rfl
          obtain ⟨y0, y1, y2, -, -, -⟩ := HX.box3 4 rfl
          refine hK.out _ _ (.inr (⟨⟨x0, x1, x2⟩, y0, y1, y2⟩)) ?_
          clear hK K
          with_reducible refine po_run ?_ (fun K hK => ?_) ?_
          · (go_simp; done)
          rotate_left
          · exact po_stop
          go_simp
          refine (sameView_yes _ _ _ _ _ Zx Zt (HX.rdH 2 3 rfl rfl) (HX.rdH 0 1 rfl rfl) HZ1.out HZ2.out HZ3.out).mono ?_
          rintro e w14 ⟨rfl, hb⟩
          replace HX := (HX.call hb).drop 4
          simp only [List.drop_succ_cons, List.drop_zero] at HX
          clear hb x0 x1 x2 y0 y1 y2
          obtain ⟨x0, x1, x2, -, -, -⟩ := HX.box3 1 rfl
          obtain ⟨y0, y1, y2, -, -, -⟩ := HX.box3 0 rfl
          refine hK.out _ _ (.inr (⟨⟨x0, x1, x2⟩, y0, y1, y2⟩)) ?_
          clear hK K
          repeat (first
            | (with_reducible refine po_take (v := ?_) ?_ (fun w' hS' => ?_) ?_
               rotate_left
               · (go_simp; done)
               · ((try dsimp only at hS'); go_simp; try with_reducible rfl)
               simp only [Act.put, List.setIfInBounds_toArray, List.set_cons_zero, List.set_cons_succ])
            | (with_reducible refine po_skip ?_ ?_
               · (go_simp; done)
               simp only [Act.put, List.setIfInBounds_toArray, List.set_cons_zero, List.set_cons_succ]))
          with_reducible refine po_run ?_ (fun K hK => ?_) ?_
          · (go_simp; done)
          rotate_left
          · exact po_stop
          go_simp
          refine (sameInts_yes _ _ _ _ _ _ _ _ _ t.store.roots (HX.owI 3 rfl).rdI (HX.owI 3 rfl).rdI).mono ?_
          rintro e w15 ⟨rfl, hb⟩
          replace HX := HX.call hb
          clear hb x0 x1 x2 y0 y1 y2
          obtain ⟨x0, x1, x2, -, -, -⟩ := HX.box3 1 rfl
          obtain ⟨y0, y1, y2, -, -, -⟩ := HX.box3 0 rfl
          refine hK.out _ _ (.inr (⟨⟨x0, x1, x2⟩, y0, y1, y2⟩)) ?_
          clear hK K
          repeat (first
            | (with_reducible refine po_take (v := ?_) ?_ (fun w' hS' => ?_) ?_
               rotate_left
               · (go_simp; done)
               · ((try dsimp only at hS'); go_simp; try with_reducible rfl)
               simp only [Act.put, List.setIfInBounds_toArray, List.set_cons_zero, List.set_cons_succ])
            | (with_reducible refine po_skip ?_ ?_
               · (go_simp; done)
               simp only [Act.put, List.setIfInBounds_toArray, List.set_cons_zero, List.set_cons_succ]))
          refine po_done ?_
          have HC := HX.below
          clear HX H0 x0 x1 x2 y0 y1 y2
          go_wp2
          go_ret
          exact ⟨rfl, HC⟩
      · obtain ⟨P, hP⟩ : ∃ P, P = movesTo t k := ⟨_, rfl⟩
        rw [← hP] at H HBk HPv HVw HRo HStp
        clear hP
        obtain ⟨x0, x1, x2, -, -, -⟩ := H.box3 4 rfl
        obtain ⟨y0, y1, y2, y3, y4, y5⟩ := H.box3 0 rfl
        by_cases hlt : k + 1 < t.store.cells.length
        · have HS := HStp hlt
          have HX := H
          clear H
          go_wp2_with fail
          refine (implMoveCells_any _ _ _ P _ _ (HX.rdT 1 2 3 rfl rfl rfl) HBk.out.1 HBk.out.2.1 HBk.out.2.2.1 HBk.out.2.2.2).mono ?_
          rintro e w5 ⟨cv5, rvs5, rv5, hv5, rfl, K⟩
          have HS2 := HS.out
          try simp only [Int.natCast_zero, Int.zero_add, Int.ofNat_eq_natCast] at HS2 K
          rw [HS2] at K
          clear HS2
          have H8 := HX.merge K
          simp only [List.cons_append, List.nil_append] at H8
          clear HX K x0 x1 x2 y0 y1 y2 y3 y4 y5
          obtain ⟨C5, kC5, rfl, -⟩ := H8.formC 0 rfl
          obtain ⟨R5, kR5, rfl, -⟩ := H8.formI 1 rfl
          obtain ⟨E5, kE5, rfl, -⟩ := H8.formI 2 rfl
          obtain ⟨y0, y1, y2, y3, y4, y5⟩ := H8.box3 3 rfl
          have HZ := ((H8.putBox 3 rfl 0 (.slice C5 (movesTo t (k + 1)).store.cells.length kC5)).putBox 3 rfl 1 (.slice R5 (movesTo t (k + 1)).store.roots.length kR5)).putBox 3 rfl 2 (.slice E5 (movesTo t (k + 1)).hands.length kE5)
          simp only [List.set_cons_zero, List.set_cons_succ] at HZ
          have HE := HZ.places [3, 0, 1, 2, 7, 8, 9, 10] (by decide) (by simp)
          simp only [List.filterMap_cons, List.filterMap_nil, List.getElem?_cons_zero, List.getElem?_cons_succ] at HE
          have HO := Go.Lib.hid HE
          clear H8 HZ HE HS HStp
          go_wp2
          go_roundw
          case rel => exact ⟨k + 1, by go_num, .inr (by omega), .inr ⟨_, _, _, _, _, _, _, HO.out⟩⟩
          case measure => first | (simp [intOf]; done) | (simp [intOf]; omega)
        · have HZ1 : Hid (heapOk (tellH P) = true) := Go.Lib.hid (tab_heap HPv.out)
          have HZ2 : Hid (heapOk (tellH t) = true) := Go.Lib.hid (tab_heap HY.out)
          have HZx : Hid (mTableHeap P = tellH P) := Go.Lib.hid (mTHp_yes HPv.out)
          have HZt : Hid (mTableHeap t = tellH t) := Go.Lib.hid (mTHp_yes HY.out)
          have HZ3 := HVw
          obtain ⟨Zx, hZx⟩ : ∃ Z, Z = tellH P := ⟨_, rfl⟩
          obtain ⟨Zt, hZt⟩ : ∃ Z, Z = tellH t := ⟨_, rfl⟩
          rw [← hZx] at HZ1 HZx HZ3
          rw [← hZt] at HZ2 HZt HZ3
          clear hZx hZt HVw HStp
          go_wp2_with fail
          have HX := H.drew
          have H0 := Go.Lib.hid H
          clear H x0 x1 x2 y0 y1 y2 y3 y4 y5
          obtain ⟨x0, x1, x2, -, -, -⟩ := HX.box3 4 rfl
          obtain ⟨y0, y1, y2, -, -, -⟩ := HX.box3 0 rfl
          refine wp_region_tree (fun w' => (w'.cell? ⟨w1.heap.size, 0, none⟩ = some (.slice C t.store.cells.length kC) ∧ w'.cell? ⟨w1.heap.size, 1, none⟩ = some (.slice R t.store.roots.length kR) ∧ w'.cell? ⟨w1.heap.size, 2, none⟩ = some (.slice E nE kE)) ∧ w'.cell? ⟨g4, 0, none⟩ = some (.slice C2 P.store.cells.length kC2) ∧ w'.cell? ⟨g4, 1, none⟩ = some (.slice R2 P.store.roots.length kR2) ∧ w'.cell? ⟨g4, 2, none⟩ = some (.slice E2 P.hands.length kE2)) 19 [] (.take 0 (.alt 1 (.take 2 (.take 3 (.take 5 (.alt 4 (.alt 6 (.alt 7 (.take 8 (.take 9 (.take 10 (.take 11 (.take 12 (.take 13 (.take 14 (.take 15 (.alt 16 (.take 17 (.take 18 (.done))) (.stop)))))))))) (.stop)) (.stop)) (.stop))))) (.stop))) (by kernel_rfl) (by kernel_rfl) (by kernel_rfl) (⟨⟨x0, x1, x2⟩, y0, y1, y2⟩) ?_
          simp only [fillT, List.getElem?_cons_zero, List.getElem?_cons_succ, Nat.reduceBEq]
          repeat (first
            | (with_reducible refine po_take (v := ?_) ?_ (fun w' hS' => ?_) ?_
               rotate_left
               · (go_simp; done)
               · ((try dsimp only at hS'); go_simp; try with_reducible rfl)
               simp only [Act.put, List.setIfInBounds_toArray, List.set_cons_zero, List.set_cons_succ])
            | (with_reducible refine po_skip ?_ ?_
               · (go_simp; done)
               simp only [Act.put, List.setIfInBounds_toArray, List.set_cons_zero, List.set_cons_succ]))
          with_reducible refine po_run ?_ (fun K hK => ?_) ?_
          · (go_simp; done)
          rotate_left
          · exact po_stop
          go_simp
          refine (implTableValid_any _ _ _ P (HX.rdT 1 2 3 rfl rfl rfl) HBk.out.1 HBk.out.2.1 HBk.out.2.2.1 HBk.out.2.2.2).mono ?_
          rintro e w11 ⟨rfl, hb⟩
          rw [HPv.out]
          replace HX := HX.call hb
          clear hb x0 x1 x2 y0 y1 y2
          obtain ⟨x0, x1, x2, -, -, -⟩ := HX.box3 4 rfl
          obtain ⟨y0, y1, y2, -, -, -⟩ := HX.box3 0 rfl
          refine hK.out _ _ (.inr (⟨⟨x0, x1, x2⟩, y0, y1, y2⟩)) ?_
          clear hK K
          repeat (first
            | (with_reducible refine po_take (v := ?_) ?_ (fun w' hS' => ?_) ?_
               rotate_left
               · (go_simp; done)
               · ((try dsimp only at hS'); go_simp; try with_reducible rfl)
               simp only [Act.put, List.setIfInBounds_toArray, List.set_cons_zero, List.set_cons_succ])
            | (with_reducible refine po_skip ?_ ?_
               · (go_simp; done)
               simp only [Act.put, List.setIfInBounds_toArray, List.set_cons_zero, List.set_cons_succ]))
          with_reducible refine po_run ?_ (fun K hK => ?_) ?_
          · (go_simp; done)
          rotate_left
          · exact po_stop
          go_simp
          refine (implTableHeap_any _ _ _ P (HX.rdT 1 2 3 rfl rfl rfl) HBk.out.1 HBk.out.2.1 HBk.out.2.2.1 HBk.out.2.2.2).mono ?_
          rintro e w12 ⟨cv7, rvs7, rv7, rfl, K⟩
          rw [HZx.out] at K
          replace K := HX.merge K
          simp only [List.cons_append, List.nil_append] at K
          clear HX x0 x1 x2 y0 y1 y2
          have HX := K
          clear K
          obtain ⟨C7, kC7, rfl, -⟩ := HX.formC 0 rfl
          obtain ⟨R7, kR7, rfl, -⟩ := HX.formI 1 rfl
          obtain ⟨x0, x1, x2, -, -, -⟩ := HX.box3 6 rfl
          obtain ⟨y0, y1, y2, -, -, -⟩ := HX.box3 2 rfl
          refine hK.out _ _ (.inr (⟨⟨x0, x1, x2⟩, y0, y1, y2⟩)) ?_
          clear hK K
          with_reducible refine po_run ?_ (fun K hK => ?_) ?_
          · (go_simp; done)
          rotate_left
          · exact po_stop
          go_simp
          refine (implTableHeap_any _ _ _ t (HX.rdTx 7 8 9 rfl rfl rfl HT.out) HBg.out.1 HBg.out.2.1 HBg.out.2.2.1 HBg.out.2.2.2).mono ?_
          rintro e w13 ⟨cv8, rvs8, rv8, rfl, K⟩
          rw [HZt.out] at K
          replace K := HX.merge K
          simp only [List.cons_append, List.nil_append] at K
          clear HX x0 x1 x2 y0 y1 y2
          have HX := K
          clear K
          obtain ⟨C8, kC8, rfl, -⟩ := HX.formC 0 rfl
          obtain ⟨R8, kR8, rfl, -⟩ := HX.formI 1 rfl
          obtain ⟨x0, x1, x2, -, -, -⟩ := HX.box3 8 rfl
          obtain ⟨y0, y1, y2, -, -, -⟩ := HX.box3 4 rfl
          refine hK.out _ _ (.inr (⟨⟨x0, x1, x2⟩, y0, y1, y2⟩)) ?_
          clear hK K
          with_reducible refine po_run ?_ (fun K hK => ?_) ?_
          · (go_simp; done)
          rotate_left
          · exact po_stop
          go_simp
          refine (sameView_yes _ _ _ _ _ Zx Zt (HX.rdH 2 3 rfl rfl) (HX.rdH 0 1 rfl rfl) HZ1.out HZ2.out HZ3.out).mono ?_
          rintro e w14 ⟨rfl, hb⟩
          replace HX := (HX.call hb).drop 4
          simp only [List.drop_succ_cons, List.drop_zero] at HX
          clear hb x0 x1 x2 y0 y1 y2
          obtain ⟨x0, x1, x2, -, -, -⟩ := HX.box3 4 rfl
          obtain ⟨y0, y1, y2, -, -, -⟩ := HX.box3 0 rfl
          refine hK.out _ _ (.inr (⟨⟨x0, x1, x2⟩, y0, y1, y2⟩)) ?_
          clear hK K
          repeat (first
            | (with_reducible refine po_take (v := ?_) ?_ (fun w' hS' => ?_) ?_
               rotate_left
               · (go_simp; done)
               · ((try dsimp only at hS'); go_simp; try with_reducible rfl)
               simp only [Act.put, List.setIfInBounds_toArray, List.set_cons_zero, List.set_cons_succ])
            | (with_reducible refine po_skip ?_ ?_
               · (go_simp; done)
               simp only [Act.put, List.setIfInBounds_toArray, List.set_cons_zero, List.set_cons_succ]))
          with_reducible refine po_run ?_ (fun K hK => ?_) ?_
          · (go_simp; done)
          rotate_left
          · exact po_stop
          go_simp
          refine (sameInts_yes _ _ _ _ _ _ _ _ _ t.store.roots (RdI.asList (HX.owI 2 rfl).rdI HRo.out) (HX.owI 6 rfl).rdI).mono ?_
          rintro e w15 ⟨rfl, hb⟩
          replace HX := HX.call hb
          clear hb x0 x1 x2 y0 y1 y2
          obtain ⟨x0, x1, x2, -, -, -⟩ := HX.box3 4 rfl
          obtain ⟨y0, y1, y2, -, -, -⟩ := HX.box3 0 rfl
          refine hK.out _ _ (.inr (⟨⟨x0, x1, x2⟩, y0, y1, y2⟩)) ?_
          clear hK K
          repeat (first
            | (with_reducible refine po_take (v := ?_) ?_ (fun w' hS' => ?_) ?_
               rotate_left
               · (go_simp; done)
               · ((try dsimp only at hS'); go_simp; try with_reducible rfl)
               simp only [Act.put, List.setIfInBounds_toArray, List.set_cons_zero, List.set_cons_succ])
            | (with_reducible refine po_skip ?_ ?_
               · (go_simp; done)
               simp only [Act.put, List.setIfInBounds_toArray, List.set_cons_zero, List.set_cons_succ]))
          refine po_done ?_
          have HC := HX.below
          clear HX H0 x0 x1 x2 y0 y1 y2
          go_wp2
          go_ret
          exact ⟨rfl, HC⟩
end Go.Proofs.Ytcekohpekpkobaa
