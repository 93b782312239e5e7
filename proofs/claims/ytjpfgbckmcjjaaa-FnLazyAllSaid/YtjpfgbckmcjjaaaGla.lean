/- The law FnLazyAll's walk. For every code that can be read. -/
import Derived.Test.YtjpfgbckmcjjaaaLr
import Derived.Test.YtjpfgbckmcjjaaaLtI
import Derived.Test.YtjpfgbckmcjjaaaAl
import Derived.Test.YtjpfgbckmcjjaaaVi
import Derived.Test.YtjpfgbckmcjjaaaUc2
namespace Go.Proofs.Ytjpfgbckmcjjaaa
open Go.RowKit
theorem left_start {h : Hp} (h0 : heapOk h = true) : leftN (mReachable h) 0 + cntB (mReachable h) = h.cells.length := by
  rw [leftN_all, mReachable_yes h0, reachL_length]
theorem left_take {l : Lz} (h : mLzValid l = true) (q : 0 < leftN l.marks l.at_.toNat) : (∃ k : Nat, (mTake l).2 = (k : Int)) ∧ leftN (mTake l).1.marks (mTake l).1.at_.toNat + 1 = leftN l.marks l.at_.toNat := by
  have q2 := leftN_pos.1 q
  rw [mTake_yes h rfl q2]
  refine ⟨⟨_, rfl⟩, ?_⟩
  rw [leftN_take q2]
  have e : (lzTaken l (nxt l.marks l.at_.toNat)).at_.toNat = nxt l.marks l.at_.toNat + 1 := by
    show ((nxt l.marks l.at_.toNat : Int) + 1).toNat = _; omega
  show leftN (l.marks.set _ true) _ + 1 = _
  rw [e]
theorem left_none {l : Lz} (h : mLzValid l = true) (q : leftN l.marks l.at_.toNat = 0) : (mTake l).2 = -1 := by
  have q2 : ¬ nxt l.marks l.at_.toNat < l.marks.length := fun e => by have := leftN_pos.2 e; omega
  rw [mTake_end h q2]
set_option maxHeartbeats 1600000 in
theorem DrawLazyStart_any (w : World) (A : Option Addr) (n c : Nat) (bs : List Int) (hr : RdY w w.heap.size A n c bs) :
    Calls Try.prog 31 #[.slice A n c] w (DrawnH w) := by
  have H := (Owns.nil w).box [.slice none 0 0, .slice none 0 0] 26
  go_enter Try.func31, Try.ntmps31
  go_wp2_with fail
  refine (open_own H A n c bs hr).mono ?_
  rintro e w1 ⟨g, A1, n1, c1, bs1, rfl, hU, H1⟩
  clear H hr
  go_wp2_with fail
  refine (heap_own H1 0 rfl hU (by omega) 12 (by omega) (by omega)).mono ?_
  rintro e w2 ⟨T, cv, rvs, rv, rv0, rs0, p1, rfl, hS, ht, -, -, H2⟩
  simp only [List.set_cons_zero] at H2
  clear H1 hU
  obtain ⟨C, kC, rfl, -⟩ := H2.formC 0 rfl
  obtain ⟨R0, kR0, e0, -⟩ := H2.formI 1 rfl
  obtain ⟨R, nR, kR, rfl⟩ := ht.form e0
  clear e0
  obtain ⟨y0, y1, y2, y3⟩ := H2.box2 3 rfl
  have HZ := (H2.putBox 3 rfl 0 (.slice C T.cells.length kC)).putBox 3 rfl 1 (.slice R nR kR)
  simp only [List.set_cons_zero, List.set_cons_succ, List.eraseIdx_cons_zero, List.eraseIdx_cons_succ, List.drop_succ_cons, List.drop_zero, List.take_succ_cons, List.take_zero, List.length_append, List.length_cons, List.length_nil, List.nil_append, Nat.zero_add, World.size_alloc] at HZ
  obtain ⟨z0, z1, -, -⟩ := HZ.box2 3 rfl
  have HS : Hid (DrawnH w (.returned (.agg #[.slice C T.cells.length kC, .slice R nR kR])) _) := Go.Lib.hid ⟨T, _, rvs, _, _, _, rfl, hS, ht, HZ.take 2⟩
  clear H2 HZ hS ht
  go_wp2
  exact bodyPost_ret (v := .agg #[.slice C T.cells.length kC, .slice R nR kR]) (by simp [results, Try.results31, go_sem, z0, z1]) rfl HS.out
set_option maxHeartbeats 6400000 in
set_option maxRecDepth 20000 in
theorem lawLazyAll_any (w : World) {A : Option Addr} {n c : Nat} {bs : List Int} (hr : RdY w w.heap.size A n c bs) :
    Calls Try.prog 6 #[.slice A n c] w fun e w' => e = .returned (.bool true) ∧ Below w.heap.size w w' := by
  by_cases s0 : 1048576 < n
  · go_enter Try.func6, Try.ntmps6
    go_wp2
    go_ret
    exact ⟨rfl, Below.refl _ _⟩
  go_enter Try.func6, Try.ntmps6
  go_wp2_with fail
  refine (DrawLazyStart_any w A n c bs hr).mono ?_
  rintro e w1 ⟨T, cv, rvs0, rv, rv0, rs0, rfl, hS, ht, H1⟩
  obtain ⟨C, kC, rfl, -⟩ := H1.formC 0 rfl
  obtain ⟨R0, kR0, e0, -⟩ := H1.formI 1 rfl
  obtain ⟨R, nR, kR, rfl⟩ := ht.form e0
  have HT := Go.Lib.hid ht
  have HS := Go.Lib.hid hS
  clear e0 ht hS hr s0
  have H := H1.box [.slice C T.cells.length kC, .slice R nR kR] 26
  clear H1
  obtain ⟨x0, x1, -, -⟩ := H.box2 0 rfl
  go_wp2_with fail
  refine (implLazyStart_any _ _ _ T (H.rdHx 1 2 rfl rfl HT.out)).mono ?_
  rintro e w2 ⟨cv2, rvs, rv2, mv2, rfl, K⟩
  obtain ⟨l, hl⟩ : ∃ l, l = mLzStart T := ⟨_, rfl⟩
  obtain ⟨z, hz⟩ : ∃ z, z = l.at_ := ⟨_, rfl⟩
  rw [← hl] at K ⊢
  rw [← hz]
  have HLe := Go.Lib.hid hl
  have HZ := Go.Lib.hid hz
  clear hl hz x0 x1
  have H2 := H.merge K
  simp only [List.cons_append, List.nil_append] at H2
  clear H K
  obtain ⟨C2, kC2, rfl, -⟩ := H2.formC 0 rfl
  obtain ⟨R2, kR2, rfl, -⟩ := H2.formI 1 rfl
  obtain ⟨V2, kV2, rfl, -⟩ := H2.formB 2 rfl
  have H3 : Owns w.heap.size w _ [.cells (.slice C2 l.store.cells.length kC2) rvs l.store.cells, .ints (.slice R2 l.store.roots.length kR2) l.store.roots, .bools (.slice V2 l.marks.length kV2) l.marks, .box w2.heap.size [.slice C2 l.store.cells.length kC2, .slice R2 l.store.roots.length kR2, .slice V2 l.marks.length kV2, .int .i64 z] 50, .box w1.heap.size [.slice C T.cells.length kC, .slice R nR kR] 26, .cells (.slice C T.cells.length kC) rvs0 T.cells, .ints rv0 rs0] := (H2.box [.slice C2 l.store.cells.length kC2, .slice R2 l.store.roots.length kR2, .slice V2 l.marks.length kV2, .int .i64 z] 50).order [1, 2, 3, 0, 4, 5, 6] (by decide) rfl
  clear H2
  go_wp2_with fail
  have HX := H3.drew
  have H0 := Go.Lib.hid H3
  clear H3
  obtain ⟨x0, x1, -, -⟩ := HX.box2 4 rfl
  obtain ⟨y0, y1, y2, y3, -, -, -, -⟩ := box4 HX 3 rfl
  refine wp_region_tree (fun w' => (w'.cell? ⟨w1.heap.size, 0, none⟩ = some (.slice C T.cells.length kC) ∧ w'.cell? ⟨w1.heap.size, 1, none⟩ = some (.slice R nR kR)) ∧ w'.cell? ⟨w2.heap.size, 0, none⟩ = some (.slice C2 l.store.cells.length kC2) ∧ w'.cell? ⟨w2.heap.size, 1, none⟩ = some (.slice R2 l.store.roots.length kR2) ∧ w'.cell? ⟨w2.heap.size, 2, none⟩ = some (.slice V2 l.marks.length kV2) ∧ w'.cell? ⟨w2.heap.size, 3, none⟩ = some (.int .i64 z)) 5 [] (.take 0 (.take 1 (.alt 2 (.alt 3 (.take 4 (.done)) (.stop)) (.stop)))) (by kernel_rfl) (by kernel_rfl) (by kernel_rfl) (⟨⟨x0, x1⟩, y0, y1, y2, y3⟩) ?_
  simp only [fillT, List.getElem?_cons_zero, List.getElem?_cons_succ, Nat.reduceBEq]
  repeat (first
    | (with_reducible refine po_take (v := ?_) ?_ (fun w' hS' => ?_) ?_
       rotate_left
       · (go_simp; done)
       · ((try dsimp only at hS'); go_simp; try with_reducible rfl)
       simp only [Act.put, List.setIfInBounds_toArray, List.set_cons_zero, List.set_cons_succ])
    | (with_reducible refine po_skip ?_ ?_
       · (go_simp; done)
       simp only [Act.put, List.setIfInBounds_toArray, List.set_cons_zero, List.set_cons_succ]))
  with_reducible refine po_run ?_ (fun K hK => ?_) ?_
  · (go_simp; done)
  rotate_left
  · exact po_stop
  go_simp
  refine (specLazyStart_any _ _ _ T (HX.rdHx 5 6 rfl rfl HT.out)).mono ?_
  rintro e w3 ⟨cv3, rvs3, rv3, mv3, rfl, K⟩
  rw [← HLe.out] at K
  have HY := HX.merge K
  simp only [List.cons_append, List.nil_append] at HY
  clear HX K x0 x1 y0 y1 y2 y3
  have HX := HY
  clear HY
  obtain ⟨C3, kC3, rfl, -⟩ := HX.formC 0 rfl
  obtain ⟨R3, kR3, rfl, -⟩ := HX.formI 1 rfl
  obtain ⟨V3, kV3, rfl, -⟩ := HX.formB 2 rfl
  obtain ⟨x0, x1, -, -⟩ := HX.box2 7 rfl
  obtain ⟨y0, y1, y2, y3, -, -, -, -⟩ := box4 HX 6 rfl
  refine hK.out _ _ (.inr (⟨⟨x0, x1⟩, y0, y1, y2, y3⟩)) ?_
  clear hK K
  with_reducible refine po_run ?_ (fun K hK => ?_) ?_
  · (go_simp; done)
  rotate_left
  · exact po_stop
  go_simp
  refine (sameLazy_yes _ _ _ _ _ l (HX.rdZ 3 4 5 rfl rfl rfl HZ.out) (HX.rdZ 0 1 2 rfl rfl rfl (by rw [HLe.out]))).mono ?_
  rintro e w4 ⟨rfl, hb⟩
  replace HX := (((HX.call hb).erase 0).erase 0).erase 0
  simp only [List.eraseIdx_cons_zero] at HX
  clear hb x0 x1 y0 y1 y2 y3
  obtain ⟨x0, x1, -, -⟩ := HX.box2 4 rfl
  obtain ⟨y0, y1, y2, y3, -, -, -, -⟩ := box4 HX 3 rfl
  refine hK.out _ _ (.inr (⟨⟨x0, x1⟩, y0, y1, y2, y3⟩)) ?_
  clear hK K
  repeat (first
    | (with_reducible refine po_take (v := ?_) ?_ (fun w' hS' => ?_) ?_
       rotate_left
       · (go_simp; done)
       · ((try dsimp only at hS'); go_simp; try with_reducible rfl)
       simp only [Act.put, List.setIfInBounds_toArray, List.set_cons_zero, List.set_cons_succ])
    | (with_reducible refine po_skip ?_ ?_
       · (go_simp; done)
       simp only [Act.put, List.setIfInBounds_toArray, List.set_cons_zero, List.set_cons_succ]))
  refine po_done ?_
  go_wp2_with fail
  refine (specHeapValid_any _ _ _ T (HX.rdHx 5 6 rfl rfl HT.out)).mono ?_
  rintro e w5 ⟨rfl, hb⟩
  have H5 := HX.call hb
  clear HX H0 hb x0 x1 y0 y1 y2 y3
  obtain ⟨x0, x1, -, -⟩ := H5.box2 4 rfl
  cases hok : heapOk T
  · go_wp2_with fail
    refine (alive_any _).mono ?_
    rintro e w8 ⟨rfl, hb⟩
    have HB := (H5.call hb).below
    clear H5 hb x0 x1
    go_wp2
    go_ret
    exact ⟨rfl, HB⟩
  have HOK := Go.Lib.hid hok
  have hlv : mLzValid l = true := by rw [HLe.out]; unfold mLzStart; rw [if_pos hok]; exact start_valid hok
  have hlw : mView l.store = mView T := by rw [HLe.out]; unfold mLzStart; rw [if_pos hok]
  have hln : leftN l.marks l.at_.toNat + cntB (mReachable T) = T.cells.length := by
    have := left_start hok
    rw [HLe.out]; unfold mLzStart; rw [if_pos hok]; exact this
  have h40 := (good_iff.1 hok).len
  clear hok HLe
  go_wp2_with fail
  refine (implUsedCells2_any _ _ _ T (H5.rdHx 5 6 rfl rfl HT.out) HOK.out).mono ?_
  rintro e w6 ⟨rfl, hb⟩
  have H6 := H5.call hb
  clear H5 hb x0 x1
  obtain ⟨v, hv⟩ : ∃ v, v = cntB (mReachable T) := ⟨_, rfl⟩
  rw [← hv] at hln ⊢
  have HLn : Hid (leftN l.marks l.at_.toNat + v = T.cells.length) := Go.Lib.hid hln
  have hvl : v ≤ T.cells.length := by omega
  have HLv := Go.Lib.hid hlv
  have HLw := Go.Lib.hid hlw
  generalize usedTo T.cells T.cells.length = u6
  clear hv hln hlv hlw
  obtain ⟨x0, x1, -, -⟩ := H6.box2 4 rfl
  go_wp2_with fail
  go_loopw [7] (fun i wr => ∃ (k : Nat) (l : Lz) (z : Int) (C2 : Option Addr) (kC2 : Nat) (rvs : List Value) (R2 : Option Addr) (kR2 : Nat) (V2 : Option Addr) (kV2 : Nat), i = .int .i64 k ∧ k ≤ T.cells.length ∧ Hid (mLzValid l = true) ∧ Hid (mView l.store = mView T) ∧ Hid (leftN l.marks l.at_.toNat + k = T.cells.length) ∧ Hid (z = l.at_) ∧ Owns w.heap.size w wr [.cells (.slice C2 l.store.cells.length kC2) rvs l.store.cells, .ints (.slice R2 l.store.roots.length kR2) l.store.roots, .bools (.slice V2 l.marks.length kV2) l.marks, .box w2.heap.size [.slice C2 l.store.cells.length kC2, .slice R2 l.store.roots.length kR2, .slice V2 l.marks.length kV2, .int .i64 z] 50, .box w1.heap.size [.slice C T.cells.length kC, .slice R nR kR] 26, .cells (.slice C T.cells.length kC) rvs0 T.cells, .ints rv0 rs0]) (fun i _ => T.cells.length - (intOf i).toNat)
  case atStart => exact ⟨v, l, z, _, _, _, _, _, _, _, rfl, hvl, HLv, HLw, HLn, HZ, H6⟩
  case round =>
    clear H6 x0 x1 HLv HLw HLn HZ
    obtain ⟨k, l, z, C2, kC2, rvs, R2, kR2, V2, kV2, rfl, hk, HLv, HLw, HLn, HZ, H⟩ := hrel
    obtain ⟨x0, x1, -, -⟩ := H.box2 4 rfl
    obtain ⟨y0, y1, y2, y3, y4, y5, y6, y7⟩ := box4 H 3 rfl
    by_cases hlt : k < T.cells.length
    · obtain ⟨⟨p, hp⟩, hln⟩ := left_take HLv.out (by have := HLn.out; omega)
      obtain ⟨tv, tw⟩ := take_valid HLv.out
      go_wp2_with fail
      refine (implLazyTake_any _ _ _ l (H.rdZ 0 1 2 rfl rfl rfl HZ.out)).mono ?_
      rintro e w7 ⟨cv7, rvs7, rv7, mv7, rfl, K⟩
      obtain ⟨l7, hl7⟩ : ∃ l7, l7 = (mTake l).1 := ⟨_, rfl⟩
      rw [← hl7] at K hln tv tw ⊢
      rw [hp]
      obtain ⟨z7, hz7⟩ : ∃ z, z = l7.at_ := ⟨_, rfl⟩
      rw [← hz7]
      have HZ7 := Go.Lib.hid hz7
      have HLv7 := Go.Lib.hid tv
      have HLw7 := Go.Lib.hid (tw.trans HLw.out)
      have HLn7 : Hid (leftN l7.marks l7.at_.toNat + (k + 1) = T.cells.length) := Go.Lib.hid (by have := HLn.out; omega)
      have H7 := H.merge K
      simp only [List.cons_append, List.nil_append] at H7
      clear H K x0 x1 y0 y1 y2 y3 y4 y5 y6 y7 hl7 hz7 hln tv tw hp
      obtain ⟨C7, kC7, rfl, -⟩ := H7.formC 0 rfl
      obtain ⟨R7, kR7, rfl, -⟩ := H7.formI 1 rfl
      obtain ⟨V7, kV7, rfl, -⟩ := H7.formB 2 rfl
      have H8 := H7.box [.slice C7 l7.store.cells.length kC7, .slice R7 l7.store.roots.length kR7, .slice V7 l7.marks.length kV7, .int .i64 z7] 50
      obtain ⟨y0, y1, y2, y3, y4, y5, y6, y7⟩ := box4 H8 7 rfl
      obtain ⟨x0, x1, x2, x3, -, -, -, -⟩ := box4 H8 0 rfl
      have H9 := ((((((((H8.putBox 7 rfl 0 (.slice C7 l7.store.cells.length kC7)).putBox 7 rfl 1 (.slice R7 l7.store.roots.length kR7)).putBox 7 rfl 2 (.slice V7 l7.marks.length kV7)).putBox 7 rfl 3 (.int .i64 z7)).erase 0).erase 3).erase 3).erase 3)
      simp only [List.set_cons_zero, List.set_cons_succ, List.eraseIdx_cons_zero, List.eraseIdx_cons_succ] at H9
      clear H7 H8
      have p0 : ¬ (p : Int) < 0 := by omega
      go_wp2
      go_roundw
      case rel => exact ⟨k + 1, l7, z7, _, _, _, _, _, _, _, by go_num, by omega, HLv7, HLw7, HLn7, HZ7, H9⟩
      case measure => simp [intOf]; omega
    · have hn := left_none HLv.out (by have := HLn.out; omega)
      have HO2 := Go.Lib.hid (lzOk_iff.1 HLv.out).ok
      go_wp2_with fail
      refine (implLazyTake_any _ _ _ l (H.rdZ 0 1 2 rfl rfl rfl HZ.out)).mono ?_
      rintro e w7 ⟨cv7, rvs7, rv7, mv7, rfl, K⟩
      rw [hn]
      obtain ⟨l7, hl7⟩ : ∃ l7, l7 = (mTake l).1 := ⟨_, rfl⟩
      rw [← hl7] at K ⊢
      obtain ⟨z7, hz7⟩ : ∃ z, z = l7.at_ := ⟨_, rfl⟩
      rw [← hz7]
      have H7 := H.merge K
      simp only [List.cons_append, List.nil_append] at H7
      clear H K x0 x1 y0 y1 y2 y3 y4 y5 y6 y7 hl7 hz7 hn
      obtain ⟨C7, kC7, rfl, -⟩ := H7.formC 0 rfl
      obtain ⟨R7, kR7, rfl, -⟩ := H7.formI 1 rfl
      obtain ⟨V7, kV7, rfl, -⟩ := H7.formB 2 rfl
      have H8 := H7.box [.slice C7 l7.store.cells.length kC7, .slice R7 l7.store.roots.length kR7, .slice V7 l7.marks.length kV7, .int .i64 z7] 50
      obtain ⟨y0, y1, y2, y3, -, -, -, -⟩ := box4 H8 7 rfl
      obtain ⟨x0, x1, -, -⟩ := H8.box2 8 rfl
      clear H7
      go_wp2_with fail
      refine (sameView_yes _ _ _ _ _ l.store T (H8.rdH 4 5 rfl rfl) (H8.rdHx 9 10 rfl rfl HT.out) HO2.out HOK.out HLw.out).mono ?_
      rintro e w9 ⟨rfl, hb⟩
      have HB := (H8.call hb).below
      clear H8 hb x0 x1 y0 y1 y2 y3
      go_wp2
      go_ret
      exact ⟨rfl, HB⟩
end Go.Proofs.Ytjpfgbckmcjjaaa
