/- A step of a program with a limit of cells, by the program: for valid heaps and instructions. Printed by gens3.py. -/
import Derived.Test.YtpafdaooddbpkaaRi
import Derived.Test.YtpafdaooddbpkaaFr
import Derived.Test.YtpafdaooddbpkaaS3
import Derived.Test.YtpafdaooddbpkaaSk
namespace Go.Proofs.Ytpafdaooddbpkaa
open Go.RowKit
theorem execute_zero (w : World) (B : Nat) (v : Value) (h : Hp) (hh : RdH w B v h) (o : Cmd) (g : Good h) (hc : cmdOk o = true) (hp : possB h o = true) : Calls Try.prog 58 #[v, cmdV o, .int .i64 0] w (MadeHp w (mDo h o 0)) := execute_any w B v h hh o g hc hp 0 (Nat.zero_le _)
set_option maxHeartbeats 6400000 in
set_option maxRecDepth 20000 in
theorem implStepSweep_any (w : World) (B : Nat) (v : Value) (h : Hp) (hh : RdH w B v h) (L : Nat) (hL1 : 1 ≤ L) (hL2 : L ≤ 40) (o : Cmd) (g : Good h) (hc : cmdOk o = true) :
    Calls Try.prog 42 #[v, .int .i64 (L : Int), cmdV o] w (MadeHBl w (stepSw h L o).1 (stepSw h L o).2) := by
  have hh' := hh.top
  obtain ⟨D, m, d, D', m', d', rfl, hC, hR⟩ := hh.top
  have hl40 := g.len
  have hr4 : h.roots.length ≤ 4 := by have := g.roots; omega
  obtain ⟨op, a, b, c⟩ := o
  have H := (((Owns.nil w).box [.slice D m d, .slice D' m' d'] 32).box [.int .i64 op, .int .i64 a, .int .i64 b, .int .i64 c] 51).box [.slice none 0 0, .slice none 0 0] 32
  simp only [World.size_alloc] at H
  have HY := Go.Lib.hid (good_iff.2 g)
  have HC := Go.Lib.hid hc
  have GG := Go.Lib.hid g
  have HI := Go.Lib.hid (inR_L hL1 hL2)
  have HN3 := Go.Lib.hid (good_small g)
  have HH := Go.Lib.hid hh'
  clear hc g hh hh' hC hR
  obtain ⟨a0, a1, -, -⟩ := H.box2 2 rfl
  obtain ⟨b0, b1, b2, b3, -, -, -, -⟩ := box4 H 1 rfl
  go_enter Try.func42, Try.ntmps42
  go_wp2_with fail
  refine (heapValid_any _ _ _ h (HH.out.below H.below)).mono ?_
  rintro e w1 ⟨rfl, hb⟩
  rw [HY.out]
  replace H := H.call hb
  clear hb a0 a1 b0 b1 b2 b3
  obtain ⟨a0, a1, -, -⟩ := H.box2 2 rfl
  obtain ⟨b0, b1, b2, b3, -, -, -, -⟩ := box4 H 1 rfl
  go_wp2_with fail
  refine (isLimit_any (L : Int) _).mono ?_
  rintro e w3 ⟨rfl, hw⟩
  obtain rfl := hw
  rw [HI.out]
  go_wp2_with fail
  refine (implCommandValid_any ⟨op, a, b, c⟩ _).mono ?_
  rintro e w2 ⟨rfl, hb⟩
  rw [HC.out]
  replace H := H.call hb
  clear hb a0 a1 b0 b1 b2 b3
  obtain ⟨a0, a1, -, -⟩ := H.box2 2 rfl
  obtain ⟨b0, b1, b2, b3, -, -, -, -⟩ := box4 H 1 rfl
  go_wp2_with fail
  refine (implPossible_any _ _ _ h (HH.out.below H.below) ⟨op, a, b, c⟩).mono ?_
  rintro e w4 ⟨rfl, hb⟩
  rw [mPoss_yes HY.out HC.out]
  replace H := H.call hb
  clear hb a0 a1 b0 b1 b2 b3
  obtain ⟨a0, a1, -, -⟩ := H.box2 2 rfl
  obtain ⟨b0, b1, b2, b3, -, -, -, -⟩ := box4 H 1 rfl
  cases hp : possB h ⟨op, a, b, c⟩
  · have HF := Go.Lib.hid (stepSw_no (L := L) hp)
    clear hp
    go_wp2_with fail
    refine (copyHeap_any _ _ _ h (HH.out.below H.below) (by omega) (by omega) HN3.out).mono ?_
    rintro e w5 ⟨v1, rfl, ho, hb⟩
    obtain ⟨cv, rvs, rv, rfl, K⟩ := H.madeH ho hb
    clear ho hb
    obtain ⟨C', kC', rfl, -⟩ := K.formC 0 rfl
    obtain ⟨R', kR', rfl, -⟩ := K.formI 1 rfl
    clear H a0 a1 b0 b1 b2 b3
    obtain ⟨y0, y1, y2, y3⟩ := K.box2 2 rfl
    have HZ := (K.putBox 2 rfl 0 (.slice C' h.cells.length kC')).putBox 2 rfl 1 (.slice R' h.roots.length kR')
    simp only [List.set_cons_zero, List.set_cons_succ] at HZ
    obtain ⟨z0, z1, -, -⟩ := HZ.box2 2 rfl
    obtain ⟨z2, -, -, -⟩ := (K.putBox 2 rfl 0 (.slice C' h.cells.length kC')).box2 2 rfl
    have HS : Hid (MadeHBl w (stepSw h L ⟨op, a, b, c⟩).1 (stepSw h L ⟨op, a, b, c⟩).2 (.returned (.tuple #[.agg #[.slice C' h.cells.length kC', .slice R' h.roots.length kR'], .bool false])) _) := Go.Lib.hid (by rw [HF.out]; exact ⟨_, _, _, rfl, HZ.take 2⟩)
    clear K HZ
    go_wp2
    exact bodyPost_ret (v := .tuple #[.agg #[.slice C' h.cells.length kC', .slice R' h.roots.length kR'], .bool false]) (by simp [results, Try.results42, go_sem, z0, z1]) rfl HS.out
  have HP := Go.Lib.hid hp
  clear hp
  by_cases h1 : op = 1
  rotate_left
  · have HF : Hid (stepSw h L ⟨op, a, b, c⟩ = (mDo h ⟨op, a, b, c⟩ 0, true)) := Go.Lib.hid (stepSw_other HP.out h1)
    have k3 : (op != 1) = true := by simp [h1]
    go_wp2_with fail
    refine (execute_zero _ _ _ h (HH.out.below H.below) ⟨op, a, b, c⟩ GG.out HC.out HP.out).mono ?_
    rintro e w5 ⟨cv2, rvs2, rv2, rfl, K⟩
    replace K := H.merge K
    simp only [List.cons_append, List.nil_append] at K
    obtain ⟨T, hT⟩ : ∃ T, T = mDo h ⟨op, a, b, c⟩ 0 := ⟨_, rfl⟩
    rw [← hT] at K HF
    clear hT
    obtain ⟨C', kC', rfl, -⟩ := K.formC 0 rfl
    obtain ⟨R', kR', rfl, -⟩ := K.formI 1 rfl
    clear H a0 a1 b0 b1 b2 b3
    obtain ⟨y0, y1, y2, y3⟩ := K.box2 2 rfl
    have HZ := (K.putBox 2 rfl 0 (.slice C' T.cells.length kC')).putBox 2 rfl 1 (.slice R' T.roots.length kR')
    simp only [List.set_cons_zero, List.set_cons_succ] at HZ
    obtain ⟨z0, z1, -, -⟩ := HZ.box2 2 rfl
    obtain ⟨z2, -, -, -⟩ := (K.putBox 2 rfl 0 (.slice C' T.cells.length kC')).box2 2 rfl
    have HS : Hid (MadeHBl w (stepSw h L ⟨op, a, b, c⟩).1 (stepSw h L ⟨op, a, b, c⟩).2 (.returned (.tuple #[.agg #[.slice C' T.cells.length kC', .slice R' T.roots.length kR'], .bool true])) _) := Go.Lib.hid (by rw [HF.out]; exact ⟨_, _, _, rfl, HZ.take 2⟩)
    clear K HZ
    go_wp2
    exact bodyPost_ret (v := .tuple #[.agg #[.slice C' T.cells.length kC', .slice R' T.roots.length kR'], .bool true]) (by simp [results, Try.results42, go_sem, z0, z1]) rfl HS.out
  have k3 : (op != 1) = false := by simp [h1]
  have HO := Go.Lib.hid h1
  clear h1
  go_wp2_with fail
  refine (freePlace_any _ _ _ h (HH.out.below H.below) (by omega)).mono ?_
  rintro e w6 ⟨rfl, hb⟩
  replace H := H.call hb
  clear hb a0 a1 b0 b1 b2 b3
  obtain ⟨a0, a1, -, -⟩ := H.box2 2 rfl
  obtain ⟨b0, b1, b2, b3, -, -, -, -⟩ := box4 H 1 rfl
  by_cases hf : mFree h < L
  · have HF := Go.Lib.hid (stepSw_room (o := ⟨op, a, b, c⟩) HO.out hf)
    have q1 : ¬ (L : Int) ≤ ((mFree h : Nat) : Int) := by omega
    go_wp2_with fail
    refine (freePlace_any _ _ _ h (HH.out.below H.below) (by omega)).mono ?_
    rintro e w7 ⟨rfl, hb⟩
    replace H := H.call hb
    clear hb a0 a1 b0 b1 b2 b3
    obtain ⟨a0, a1, -, -⟩ := H.box2 2 rfl
    obtain ⟨b0, b1, b2, b3, -, -, -, -⟩ := box4 H 1 rfl
    go_wp2_with fail
    have HX := H.drew
    clear H a0 a1 b0 b1 b2 b3
    obtain ⟨a0, a1, -, -⟩ := HX.box2 2 rfl
    obtain ⟨b0, b1, b2, b3, -, -, -, -⟩ := box4 HX 1 rfl
    refine wp_region_tree (fun w' => (w'.cell? ⟨w.heap.size, 0, none⟩ = some (.slice D m d) ∧ w'.cell? ⟨w.heap.size, 1, none⟩ = some (.slice D' m' d')) ∧ w'.cell? ⟨w.heap.size + 1, 0, none⟩ = some (.int .i64 op) ∧ w'.cell? ⟨w.heap.size + 1, 1, none⟩ = some (.int .i64 a) ∧ w'.cell? ⟨w.heap.size + 1, 2, none⟩ = some (.int .i64 b) ∧ w'.cell? ⟨w.heap.size + 1, 3, none⟩ = some (.int .i64 c)) 7 [] (.take 0 (.take 1 (.take 2 (.alt 3 (.alt 4 (.alt 5 (.take 6 (.done)) (.stop)) (.stop)) (.stop))))) (by kernel_rfl) (by kernel_rfl) (by kernel_rfl) (⟨⟨a0, a1⟩, b0, b1, b2, b3⟩) ?_
    simp only [fillT, List.getElem?_cons_zero, List.getElem?_cons_succ, Nat.reduceBEq]
    repeat (first
      | (with_reducible refine po_take (v := ?_) ?_ (fun w' hS' => ?_) ?_
         rotate_left
         · (go_simp; done)
         · ((try dsimp only at hS'); go_simp; try with_reducible rfl)
         simp only [Act.put, List.setIfInBounds_toArray, List.set_cons_zero, List.set_cons_succ])
      | (with_reducible refine po_skip ?_ ?_
         · (go_simp; done)
         simp only [Act.put, List.setIfInBounds_toArray, List.set_cons_zero, List.set_cons_succ]))
    with_reducible refine po_run ?_ (fun K hK => ?_) ?_
    · (go_simp; done)
    rotate_left
    · exact po_stop
    go_simp
    refine (freePlace_any _ _ _ h (HH.out.below HX.below) (by omega)).mono ?_
    rintro e wa ⟨rfl, hb⟩
    replace HX := HX.call hb
    clear hb a0 a1 b0 b1 b2 b3
    obtain ⟨a0, a1, -, -⟩ := HX.box2 2 rfl
    obtain ⟨b0, b1, b2, b3, -, -, -, -⟩ := box4 HX 1 rfl
    refine hK.out _ _ (.inr (⟨⟨a0, a1⟩, b0, b1, b2, b3⟩)) ?_
    clear hK K
    with_reducible refine po_run ?_ (fun K hK => ?_) ?_
    · (go_simp; done)
    rotate_left
    · exact po_stop
    go_simp
    refine (execute_any _ _ _ h (HH.out.below HX.below) ⟨op, a, b, c⟩ GG.out HC.out HP.out (mFree h) (mFree_le h)).mono ?_
    rintro e wb ⟨cv2, rvs2, rv2, rfl, K⟩
    replace K := HX.merge K
    simp only [List.cons_append, List.nil_append] at K
    obtain ⟨T, hT⟩ : ∃ T, T = mDo h ⟨op, a, b, c⟩ (mFree h) := ⟨_, rfl⟩
    rw [← hT] at K HF
    clear hT HX
    have HX := K
    clear K
    obtain ⟨C', kC', rfl, -⟩ := HX.formC 0 rfl
    obtain ⟨R', kR', rfl, -⟩ := HX.formI 1 rfl
    clear a0 a1 b0 b1 b2 b3
    obtain ⟨a0, a1, -, -⟩ := HX.box2 4 rfl
    obtain ⟨b0, b1, b2, b3, -, -, -, -⟩ := box4 HX 3 rfl
    refine hK.out _ _ (.inr (⟨⟨a0, a1⟩, b0, b1, b2, b3⟩)) ?_
    clear hK K
    with_reducible refine po_run ?_ (fun K hK => ?_) ?_
    · (go_simp; done)
    rotate_left
    · exact po_stop
    obtain ⟨y0, y1, y2, y3⟩ := HX.box2 2 rfl
    go_simp
    replace HX := (HX.putBox 2 rfl 0 (.slice C' T.cells.length kC')).putBox 2 rfl 1 (.slice R' T.roots.length kR')
    simp only [List.set_cons_zero, List.set_cons_succ] at HX
    clear y0 y1 y2 y3 a0 a1 b0 b1 b2 b3
    obtain ⟨a0, a1, -, -⟩ := HX.box2 4 rfl
    obtain ⟨b0, b1, b2, b3, -, -, -, -⟩ := box4 HX 3 rfl
    refine hK.out _ _ (.inr (⟨⟨a0, a1⟩, b0, b1, b2, b3⟩)) ?_
    clear hK K
    repeat (first
      | (with_reducible refine po_take (v := ?_) ?_ (fun w' hS' => ?_) ?_
         rotate_left
         · (go_simp; done)
         · ((try dsimp only at hS'); go_simp; try with_reducible rfl)
         simp only [Act.put, List.setIfInBounds_toArray, List.set_cons_zero, List.set_cons_succ])
      | (with_reducible refine po_skip ?_ ?_
         · (go_simp; done)
         simp only [Act.put, List.setIfInBounds_toArray, List.set_cons_zero, List.set_cons_succ]))
    refine po_done ?_
    clear a0 a1 b0 b1 b2 b3
    obtain ⟨z0, z1, -, -⟩ := HX.box2 2 rfl
    have HS : Hid (MadeHBl w (stepSw h L ⟨op, a, b, c⟩).1 (stepSw h L ⟨op, a, b, c⟩).2 (.returned (.tuple #[.agg #[.slice C' T.cells.length kC', .slice R' T.roots.length kR'], .bool true])) _) := Go.Lib.hid (by rw [HF.out]; exact ⟨_, rvs2, _, rfl, HX.take 2⟩)
    clear HX
    go_wp2
    exact bodyPost_ret (v := .tuple #[.agg #[.slice C' T.cells.length kC', .slice R' T.roots.length kR'], .bool true]) (by simp [results, Try.results42, go_sem, z0, z1]) rfl HS.out
  have q1 : (L : Int) ≤ ((mFree h : Nat) : Int) := by omega
  go_wp2_with fail
  refine (implCollect_any _ _ _ h (HH.out.below H.below)).mono ?_
  rintro e w7 ⟨cv, rvs', rv, rfl, K⟩
  replace K := H.merge K
  simp only [List.cons_append, List.nil_append] at K
  have GX := Go.Lib.hid (mCollect_good GG.out)
  have HPX : Hid (possB (mCollect h) ⟨op, a, b, c⟩ = true) := Go.Lib.hid (poss_new HO.out)
  have HFL := Go.Lib.hid (fun hf2 => stepSw_full (L := L) (o := ⟨op, a, b, c⟩) HO.out hf hf2)
  have HSW := Go.Lib.hid (fun hf2 => stepSw_swept (L := L) (o := ⟨op, a, b, c⟩) HO.out hf hf2)
  have hX40 : (mCollect h).cells.length ≤ 40 := GX.out.len
  have hX4 : (mCollect h).roots.length ≤ 4 := by have := GX.out.roots; omega
  have HNX := Go.Lib.hid (good_small GX.out)
  obtain ⟨X, hX⟩ : ∃ X, X = mCollect h := ⟨_, rfl⟩
  rw [← hX] at K GX HPX HFL HSW hX40 hX4 HNX
  clear hX H a0 a1 b0 b1 b2 b3 hf q1
  obtain ⟨C, kC, rfl, -⟩ := K.formC 0 rfl
  obtain ⟨R, kR, rfl, -⟩ := K.formI 1 rfl
  obtain ⟨x0, x1, xf0, xf1⟩ := K.box2 4 rfl
  have H := (K.putBox 4 rfl 0 (.slice C X.cells.length kC)).putBox 4 rfl 1 (.slice R X.roots.length kR)
  simp only [List.set_cons_zero, List.set_cons_succ] at H
  obtain ⟨a0, a1, -, -⟩ := H.box2 4 rfl
  obtain ⟨b0, b1, b2, b3, -, -, -, -⟩ := box4 H 3 rfl
  clear K
  go_wp2_with fail
  clear x0 x1 xf0 xf1
  refine (freePlace_any _ _ _ X (H.rdH 0 1 rfl rfl) (by omega)).mono ?_
  rintro e w8 ⟨rfl, hb⟩
  replace H := H.call hb
  clear hb a0 a1 b0 b1 b2 b3
  obtain ⟨a0, a1, -, -⟩ := H.box2 4 rfl
  obtain ⟨b0, b1, b2, b3, -, -, -, -⟩ := box4 H 3 rfl
  by_cases hf2 : mFree X < L
  · have HF := Go.Lib.hid (HSW.out hf2)
    have q1 : ¬ (L : Int) ≤ ((mFree X : Nat) : Int) := by omega
    go_wp2_with fail
    have HX := H.drew
    clear H a0 a1 b0 b1 b2 b3
    obtain ⟨a0, a1, -, -⟩ := HX.box2 4 rfl
    obtain ⟨b0, b1, b2, b3, -, -, -, -⟩ := box4 HX 3 rfl
    refine wp_region_tree (fun w' => (w'.cell? ⟨w.heap.size, 0, none⟩ = some (.slice C X.cells.length kC) ∧ w'.cell? ⟨w.heap.size, 1, none⟩ = some (.slice R X.roots.length kR)) ∧ w'.cell? ⟨w.heap.size + 1, 0, none⟩ = some (.int .i64 op) ∧ w'.cell? ⟨w.heap.size + 1, 1, none⟩ = some (.int .i64 a) ∧ w'.cell? ⟨w.heap.size + 1, 2, none⟩ = some (.int .i64 b) ∧ w'.cell? ⟨w.heap.size + 1, 3, none⟩ = some (.int .i64 c)) 7 [] (.take 0 (.take 1 (.take 2 (.alt 3 (.alt 4 (.alt 5 (.take 6 (.done)) (.stop)) (.stop)) (.stop))))) (by kernel_rfl) (by kernel_rfl) (by kernel_rfl) (⟨⟨a0, a1⟩, b0, b1, b2, b3⟩) ?_
    simp only [fillT, List.getElem?_cons_zero, List.getElem?_cons_succ, Nat.reduceBEq]
    repeat (first
      | (with_reducible refine po_take (v := ?_) ?_ (fun w' hS' => ?_) ?_
         rotate_left
         · (go_simp; done)
         · ((try dsimp only at hS'); go_simp; try with_reducible rfl)
         simp only [Act.put, List.setIfInBounds_toArray, List.set_cons_zero, List.set_cons_succ])
      | (with_reducible refine po_skip ?_ ?_
         · (go_simp; done)
         simp only [Act.put, List.setIfInBounds_toArray, List.set_cons_zero, List.set_cons_succ]))
    with_reducible refine po_run ?_ (fun K hK => ?_) ?_
    · (go_simp; done)
    rotate_left
    · exact po_stop
    go_simp
    refine (freePlace_any _ _ _ X (HX.rdH 0 1 rfl rfl) (by omega)).mono ?_
    rintro e wa ⟨rfl, hb⟩
    replace HX := HX.call hb
    clear hb a0 a1 b0 b1 b2 b3
    obtain ⟨a0, a1, -, -⟩ := HX.box2 4 rfl
    obtain ⟨b0, b1, b2, b3, -, -, -, -⟩ := box4 HX 3 rfl
    refine hK.out _ _ (.inr (⟨⟨a0, a1⟩, b0, b1, b2, b3⟩)) ?_
    clear hK K
    with_reducible refine po_run ?_ (fun K hK => ?_) ?_
    · (go_simp; done)
    rotate_left
    · exact po_stop
    go_simp
    refine (execute_any _ _ _ X (HX.rdH 0 1 rfl rfl) ⟨op, a, b, c⟩ GX.out HC.out HPX.out (mFree X) (mFree_le X)).mono ?_
    rintro e wb ⟨cv2, rvs2, rv2, rfl, K⟩
    replace K := HX.merge K
    simp only [List.cons_append, List.nil_append] at K
    obtain ⟨T, hT⟩ : ∃ T, T = mDo X ⟨op, a, b, c⟩ (mFree X) := ⟨_, rfl⟩
    rw [← hT] at K HF
    clear hT HX
    have HX := K
    clear K
    obtain ⟨C', kC', rfl, -⟩ := HX.formC 0 rfl
    obtain ⟨R', kR', rfl, -⟩ := HX.formI 1 rfl
    clear a0 a1 b0 b1 b2 b3
    obtain ⟨a0, a1, -, -⟩ := HX.box2 6 rfl
    obtain ⟨b0, b1, b2, b3, -, -, -, -⟩ := box4 HX 5 rfl
    refine hK.out _ _ (.inr (⟨⟨a0, a1⟩, b0, b1, b2, b3⟩)) ?_
    clear hK K
    with_reducible refine po_run ?_ (fun K hK => ?_) ?_
    · (go_simp; done)
    rotate_left
    · exact po_stop
    obtain ⟨y0, y1, y2, y3⟩ := HX.box2 4 rfl
    go_simp
    replace HX := (HX.putBox 4 rfl 0 (.slice C' T.cells.length kC')).putBox 4 rfl 1 (.slice R' T.roots.length kR')
    simp only [List.set_cons_zero, List.set_cons_succ] at HX
    clear y0 y1 y2 y3 a0 a1 b0 b1 b2 b3
    obtain ⟨a0, a1, -, -⟩ := HX.box2 6 rfl
    obtain ⟨b0, b1, b2, b3, -, -, -, -⟩ := box4 HX 5 rfl
    refine hK.out _ _ (.inr (⟨⟨a0, a1⟩, b0, b1, b2, b3⟩)) ?_
    clear hK K
    repeat (first
      | (with_reducible refine po_take (v := ?_) ?_ (fun w' hS' => ?_) ?_
         rotate_left
         · (go_simp; done)
         · ((try dsimp only at hS'); go_simp; try with_reducible rfl)
         simp only [Act.put, List.setIfInBounds_toArray, List.set_cons_zero, List.set_cons_succ])
      | (with_reducible refine po_skip ?_ ?_
         · (go_simp; done)
         simp only [Act.put, List.setIfInBounds_toArray, List.set_cons_zero, List.set_cons_succ]))
    refine po_done ?_
    clear a0 a1 b0 b1 b2 b3
    obtain ⟨z0, z1, -, -⟩ := HX.box2 4 rfl
    have HS : Hid (MadeHBl w (stepSw h L ⟨op, a, b, c⟩).1 (stepSw h L ⟨op, a, b, c⟩).2 (.returned (.tuple #[.agg #[.slice C' T.cells.length kC', .slice R' T.roots.length kR'], .bool true])) _) := Go.Lib.hid (by rw [HF.out]; exact ⟨_, rvs2, _, rfl, HX.take 2⟩)
    clear HX
    go_wp2
    exact bodyPost_ret (v := .tuple #[.agg #[.slice C' T.cells.length kC', .slice R' T.roots.length kR'], .bool true]) (by simp [results, Try.results42, go_sem, z0, z1]) rfl HS.out
  have HF := Go.Lib.hid (HFL.out hf2)
  have q1 : (L : Int) ≤ ((mFree X : Nat) : Int) := by omega
  go_wp2_with fail
  refine (copyHeap_any _ _ _ X (H.rdH 0 1 rfl rfl) (by omega) (by omega) HNX.out).mono ?_
  rintro e w9 ⟨v1, rfl, ho, hb⟩
  obtain ⟨cv, rvs2, rv, rfl, K⟩ := H.madeH ho hb
  clear ho hb
  obtain ⟨C', kC', rfl, -⟩ := K.formC 0 rfl
  obtain ⟨R', kR', rfl, -⟩ := K.formI 1 rfl
  clear H a0 a1 b0 b1 b2 b3
  obtain ⟨y0, y1, y2, y3⟩ := K.box2 4 rfl
  have HZ := (K.putBox 4 rfl 0 (.slice C' X.cells.length kC')).putBox 4 rfl 1 (.slice R' X.roots.length kR')
  simp only [List.set_cons_zero, List.set_cons_succ] at HZ
  obtain ⟨z0, z1, -, -⟩ := HZ.box2 4 rfl
  obtain ⟨z2, -, -, -⟩ := (K.putBox 4 rfl 0 (.slice C' X.cells.length kC')).box2 4 rfl
  have HS : Hid (MadeHBl w (stepSw h L ⟨op, a, b, c⟩).1 (stepSw h L ⟨op, a, b, c⟩).2 (.returned (.tuple #[.agg #[.slice C' X.cells.length kC', .slice R' X.roots.length kR'], .bool false])) _) := Go.Lib.hid (by rw [HF.out]; exact ⟨_, _, _, rfl, HZ.take 2⟩)
  clear K HZ
  go_wp2
  exact bodyPost_ret (v := .tuple #[.agg #[.slice C' X.cells.length kC', .slice R' X.roots.length kR'], .bool false]) (by simp [results, Try.results42, go_sem, z0, z1]) rfl HS.out
end Go.Proofs.Ytpafdaooddbpkaa
