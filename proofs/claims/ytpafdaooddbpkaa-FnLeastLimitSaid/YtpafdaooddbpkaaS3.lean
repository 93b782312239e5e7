/- A step of a program with a limit of cells, by the reference: for valid heaps and instructions. Printed by gens3.py. -/
import Derived.Test.YtpafdaooddbpkaaDp
import Derived.Test.YtpafdaooddbpkaaFr
import Derived.Test.YtpafdaooddbpkaaZ3
import Derived.Test.YtpafdaooddbpkaaRn
import Derived.Test.YtpafdaooddbpkaaSw
namespace Go.Proofs.Ytpafdaooddbpkaa
open Go.RowKit
theorem mDo_place {h : Hp} {o : Cmd} (h1 : o.op ≠ 1) (p : Nat) : mDo h o p = mDo h o 0 := by
  unfold mDo
  rw [if_neg h1, if_neg h1]
theorem stepSw_no {h : Hp} {L : Nat} {o : Cmd} (hp : possB h o = false) : stepSw h L o = (h, false) := by simp [stepSw, hp]
theorem stepSw_other {h : Hp} {L : Nat} {o : Cmd} (hp : possB h o = true) (h1 : o.op ≠ 1) : stepSw h L o = (mDo h o 0, true) := by simp [stepSw, hp, h1]
theorem stepSw_room {h : Hp} {L : Nat} {o : Cmd} (h1 : o.op = 1) (hf : mFree h < L) : stepSw h L o = (mDo h o (mFree h), true) := by simp [stepSw, poss_new h1, h1, hf]
theorem stepSw_swept {h : Hp} {L : Nat} {o : Cmd} (h1 : o.op = 1) (hf : ¬ mFree h < L) (hf2 : mFree (mCollect h) < L) : stepSw h L o = (mDo (mCollect h) o (mFree (mCollect h)), true) := by simp [stepSw, poss_new h1, h1, hf, hf2]
theorem stepSw_full {h : Hp} {L : Nat} {o : Cmd} (h1 : o.op = 1) (hf : ¬ mFree h < L) (hf2 : ¬ mFree (mCollect h) < L) : stepSw h L o = (mCollect h, false) := by simp [stepSw, poss_new h1, h1, hf, hf2]
set_option maxHeartbeats 6400000 in
set_option maxRecDepth 20000 in
theorem specStepSweep_any (w : World) (B : Nat) (v : Value) (h : Hp) (hh : RdH w B v h) (L : Nat) (hL1 : 1 ≤ L) (hL2 : L ≤ 40) (o : Cmd) (g : Good h) (hc : cmdOk o = true) :
    Calls Try.prog 46 #[v, .int .i64 (L : Int), cmdV o] w (MadeHBl w (stepSw h L o).1 (stepSw h L o).2) := by
  have hh' := hh.top
  obtain ⟨D, m, d, D', m', d', rfl, hC, hR⟩ := hh.top
  have hl40 := g.len
  have hr4 : h.roots.length ≤ 4 := by have := g.roots; omega
  obtain ⟨op, a, b, c⟩ := o
  have H := (((Owns.nil w).box [.slice D m d, .slice D' m' d'] 32).box [.int .i64 op, .int .i64 a, .int .i64 b, .int .i64 c] 51).box [.slice none 0 0, .slice none 0 0] 32
  simp only [World.size_alloc] at H
  have HY := Go.Lib.hid (good_iff.2 g)
  have HC := Go.Lib.hid hc
  have GG := Go.Lib.hid g
  have HI := Go.Lib.hid (inR_L hL1 hL2)
  have HN3 := Go.Lib.hid (good_small g)
  have HH := Go.Lib.hid hh'
  clear hc g hh hh' hC hR
  obtain ⟨a0, a1, -, -⟩ := H.box2 2 rfl
  obtain ⟨b0, b1, b2, b3, -, -, -, -⟩ := box4 H 1 rfl
  go_enter Try.func46, Try.ntmps46
  go_wp2_with fail
  refine (specHeapValid_any _ _ _ h (HH.out.below H.below)).mono ?_
  rintro e w1 ⟨rfl, hb⟩
  rw [HY.out]
  replace H := H.call hb
  clear hb a0 a1 b0 b1 b2 b3
  obtain ⟨a0, a1, -, -⟩ := H.box2 2 rfl
  obtain ⟨b0, b1, b2, b3, -, -, -, -⟩ := box4 H 1 rfl
  go_wp2_with fail
  refine (specCommandValid_any ⟨op, a, b, c⟩ _).mono ?_
  rintro e w2 ⟨rfl, hb⟩
  rw [HC.out]
  replace H := H.call hb
  clear hb a0 a1 b0 b1 b2 b3
  obtain ⟨a0, a1, -, -⟩ := H.box2 2 rfl
  obtain ⟨b0, b1, b2, b3, -, -, -, -⟩ := box4 H 1 rfl
  go_wp2_with fail
  refine (l1In_b (L : Int) 1 40 _).mono ?_
  rintro e w3 ⟨rfl, hw⟩
  obtain rfl := hw
  rw [HI.out]
  go_wp2_with fail
  refine (specPossible_any _ _ _ h (HH.out.below H.below) ⟨op, a, b, c⟩).mono ?_
  rintro e w4 ⟨rfl, hb⟩
  rw [mPoss_yes HY.out HC.out]
  replace H := H.call hb
  clear hb a0 a1 b0 b1 b2 b3
  obtain ⟨a0, a1, -, -⟩ := H.box2 2 rfl
  obtain ⟨b0, b1, b2, b3, -, -, -, -⟩ := box4 H 1 rfl
  cases hp : possB h ⟨op, a, b, c⟩
  · have HF := Go.Lib.hid (stepSw_no (L := L) hp)
    clear hp
    go_wp2_with fail
    refine (l7Copy_any _ _ _ h (HH.out.below H.below) (by omega) (by omega) HN3.out).mono ?_
    rintro e w5 ⟨v1, rfl, ho, hb⟩
    obtain ⟨cv, rvs, rv, rfl, K⟩ := H.madeH ho hb
    clear ho hb
    obtain ⟨C', kC', rfl, -⟩ := K.formC 0 rfl
    obtain ⟨R', kR', rfl, -⟩ := K.formI 1 rfl
    clear H a0 a1 b0 b1 b2 b3
    obtain ⟨y0, y1, y2, y3⟩ := K.box2 2 rfl
    have HZ := (K.putBox 2 rfl 0 (.slice C' h.cells.length kC')).putBox 2 rfl 1 (.slice R' h.roots.length kR')
    simp only [List.set_cons_zero, List.set_cons_succ] at HZ
    obtain ⟨z0, z1, -, -⟩ := HZ.box2 2 rfl
    obtain ⟨z2, -, -, -⟩ := (K.putBox 2 rfl 0 (.slice C' h.cells.length kC')).box2 2 rfl
    have HS : Hid (MadeHBl w (stepSw h L ⟨op, a, b, c⟩).1 (stepSw h L ⟨op, a, b, c⟩).2 (.returned (.tuple #[.agg #[.slice C' h.cells.length kC', .slice R' h.roots.length kR'], .bool false])) _) := Go.Lib.hid (by rw [HF.out]; exact ⟨_, _, _, rfl, HZ.take 2⟩)
    clear K HZ
    go_wp2
    exact bodyPost_ret (v := .tuple #[.agg #[.slice C' h.cells.length kC', .slice R' h.roots.length kR'], .bool false]) (by simp [results, Try.results46, go_sem, z0, z1]) rfl HS.out
  have HP := Go.Lib.hid hp
  clear hp
  go_wp2_with fail
  refine (l7Copy_any _ _ _ h (HH.out.below H.below) (by omega) (by omega) HN3.out).mono ?_
  rintro e w5 ⟨v1, rfl, ho, hb⟩
  obtain ⟨cv, rvs, rv, rfl, K⟩ := H.madeH ho hb
  clear ho hb
  obtain ⟨C, kC, rfl, -⟩ := K.formC 0 rfl
  obtain ⟨R, kR, rfl, -⟩ := K.formI 1 rfl
  clear H a0 a1 b0 b1 b2 b3
  have H2 := K.box [.slice C h.cells.length kC, .slice R h.roots.length kR] 32
  clear K
  obtain ⟨x0, x1, xf0, xf1⟩ := H2.box2 0 rfl
  obtain ⟨b0, b1, b2, b3, -, -, -, -⟩ := box4 H2 4 rfl
  by_cases h1 : op = 1
  rotate_left
  · have HF : Hid (stepSw h L ⟨op, a, b, c⟩ = (mDo h ⟨op, a, b, c⟩ (mFree h), true)) := Go.Lib.hid (by rw [stepSw_other HP.out h1, mDo_place h1 (mFree h)])
    have k3 : (op == 1) = false := by simp [h1]
    go_wp2_with fail
    have HX := H2.drew
    clear H2 x0 x1 xf0 xf1 b0 b1 b2 b3
    obtain ⟨x0, x1, -, -⟩ := HX.box2 0 rfl
    obtain ⟨b0, b1, b2, b3, -, -, -, -⟩ := box4 HX 4 rfl
    refine wp_region_tree (fun w' => (w'.cell? ⟨w5.heap.size, 0, none⟩ = some (.slice C h.cells.length kC) ∧ w'.cell? ⟨w5.heap.size, 1, none⟩ = some (.slice R h.roots.length kR)) ∧ w'.cell? ⟨w.heap.size + 1, 0, none⟩ = some (.int .i64 op) ∧ w'.cell? ⟨w.heap.size + 1, 1, none⟩ = some (.int .i64 a) ∧ w'.cell? ⟨w.heap.size + 1, 2, none⟩ = some (.int .i64 b) ∧ w'.cell? ⟨w.heap.size + 1, 3, none⟩ = some (.int .i64 c)) 7 [] (.take 0 (.take 1 (.take 2 (.alt 3 (.alt 4 (.alt 5 (.take 6 (.done)) (.stop)) (.stop)) (.stop))))) (by kernel_rfl) (by kernel_rfl) (by kernel_rfl) (⟨⟨x0, x1⟩, b0, b1, b2, b3⟩) ?_
    simp only [fillT, List.getElem?_cons_zero, List.getElem?_cons_succ, Nat.reduceBEq]
    repeat (first
      | (with_reducible refine po_take (v := ?_) ?_ (fun w' hS' => ?_) ?_
         rotate_left
         · (go_simp; done)
         · ((try dsimp only at hS'); go_simp; try with_reducible rfl)
         simp only [Act.put, List.setIfInBounds_toArray, List.set_cons_zero, List.set_cons_succ])
      | (with_reducible refine po_skip ?_ ?_
         · (go_simp; done)
         simp only [Act.put, List.setIfInBounds_toArray, List.set_cons_zero, List.set_cons_succ]))
    with_reducible refine po_run ?_ (fun K hK => ?_) ?_
    · (go_simp; done)
    rotate_left
    · exact po_stop
    go_simp
    refine (l10Place_any _ _ _ h (HX.rdH 1 2 rfl rfl) (by omega)).mono ?_
    rintro e wa ⟨rfl, hb⟩
    replace HX := HX.call hb
    clear hb x0 x1 b0 b1 b2 b3
    obtain ⟨x0, x1, -, -⟩ := HX.box2 0 rfl
    obtain ⟨b0, b1, b2, b3, -, -, -, -⟩ := box4 HX 4 rfl
    refine hK.out _ _ (.inr (⟨⟨x0, x1⟩, b0, b1, b2, b3⟩)) ?_
    clear hK K
    with_reducible refine po_run ?_ (fun K hK => ?_) ?_
    · (go_simp; done)
    rotate_left
    · exact po_stop
    go_simp
    refine (l8Do_at _ _ _ h (HX.rdH 1 2 rfl rfl) ⟨op, a, b, c⟩ GG.out HC.out HP.out (mFree h) (mFree_le h)).mono ?_
    rintro e wb ⟨cv2, rvs2, rv2, rfl, K⟩
    replace K := HX.merge K
    simp only [List.cons_append, List.nil_append] at K
    obtain ⟨T, hT⟩ : ∃ T, T = mDo h ⟨op, a, b, c⟩ (mFree h) := ⟨_, rfl⟩
    rw [← hT] at K HF
    clear hT HX
    have HX := K
    clear K
    obtain ⟨C', kC', rfl, -⟩ := HX.formC 0 rfl
    obtain ⟨R', kR', rfl, -⟩ := HX.formI 1 rfl
    clear x0 x1 b0 b1 b2 b3
    obtain ⟨x0, x1, -, -⟩ := HX.box2 2 rfl
    obtain ⟨b0, b1, b2, b3, -, -, -, -⟩ := box4 HX 6 rfl
    refine hK.out _ _ (.inr (⟨⟨x0, x1⟩, b0, b1, b2, b3⟩)) ?_
    clear hK K
    with_reducible refine po_run ?_ (fun K hK => ?_) ?_
    · (go_simp; done)
    rotate_left
    · exact po_stop
    obtain ⟨y0, y1, y2, y3⟩ := HX.box2 5 rfl
    go_simp
    replace HX := (HX.putBox 5 rfl 0 (.slice C' T.cells.length kC')).putBox 5 rfl 1 (.slice R' T.roots.length kR')
    simp only [List.set_cons_zero, List.set_cons_succ] at HX
    clear y0 y1 y2 y3 x0 x1 b0 b1 b2 b3
    obtain ⟨x0, x1, -, -⟩ := HX.box2 2 rfl
    obtain ⟨b0, b1, b2, b3, -, -, -, -⟩ := box4 HX 6 rfl
    refine hK.out _ _ (.inr (⟨⟨x0, x1⟩, b0, b1, b2, b3⟩)) ?_
    clear hK K
    repeat (first
      | (with_reducible refine po_take (v := ?_) ?_ (fun w' hS' => ?_) ?_
         rotate_left
         · (go_simp; done)
         · ((try dsimp only at hS'); go_simp; try with_reducible rfl)
         simp only [Act.put, List.setIfInBounds_toArray, List.set_cons_zero, List.set_cons_succ])
      | (with_reducible refine po_skip ?_ ?_
         · (go_simp; done)
         simp only [Act.put, List.setIfInBounds_toArray, List.set_cons_zero, List.set_cons_succ]))
    refine po_done ?_
    clear x0 x1 b0 b1 b2 b3
    obtain ⟨z0, z1, -, -⟩ := HX.box2 5 rfl
    have HS : Hid (MadeHBl w (stepSw h L ⟨op, a, b, c⟩).1 (stepSw h L ⟨op, a, b, c⟩).2 (.returned (.tuple #[.agg #[.slice C' T.cells.length kC', .slice R' T.roots.length kR'], .bool true])) _) := Go.Lib.hid (by rw [HF.out]; exact ⟨_, rvs2, _, rfl, HX.take 2⟩)
    clear HX
    go_wp2
    exact bodyPost_ret (v := .tuple #[.agg #[.slice C' T.cells.length kC', .slice R' T.roots.length kR'], .bool true]) (by simp [results, Try.results46, go_sem, z0, z1]) rfl HS.out
  have k3 : (op == 1) = true := by simp [h1]
  have HO := Go.Lib.hid h1
  clear h1
  go_wp2_with fail
  refine (l10Place_any _ _ _ h (H2.rdH 1 2 rfl rfl) (by omega)).mono ?_
  rintro e w6 ⟨rfl, hb⟩
  replace H2 := H2.call hb
  clear hb x0 x1 xf0 xf1 b0 b1 b2 b3
  obtain ⟨x0, x1, xf0, xf1⟩ := H2.box2 0 rfl
  obtain ⟨b0, b1, b2, b3, -, -, -, -⟩ := box4 H2 4 rfl
  obtain ⟨gx, hgx⟩ : ∃ n, n = w5.heap.size := ⟨_, rfl⟩
  rw [← hgx] at H2 x0 x1 xf0 xf1 ⊢
  clear hgx
  by_cases hf : mFree h < L
  · have HF := Go.Lib.hid (stepSw_room (o := ⟨op, a, b, c⟩) HO.out hf)
    have q1 : ¬ (L : Int) ≤ ((mFree h : Nat) : Int) := by omega
    go_wp2_with fail
    have HX := H2.drew
    clear H2 x0 x1 xf0 xf1 b0 b1 b2 b3
    obtain ⟨x0, x1, -, -⟩ := HX.box2 0 rfl
    obtain ⟨b0, b1, b2, b3, -, -, -, -⟩ := box4 HX 4 rfl
    refine wp_region_tree (fun w' => (w'.cell? ⟨gx, 0, none⟩ = some (.slice C h.cells.length kC) ∧ w'.cell? ⟨gx, 1, none⟩ = some (.slice R h.roots.length kR)) ∧ w'.cell? ⟨w.heap.size + 1, 0, none⟩ = some (.int .i64 op) ∧ w'.cell? ⟨w.heap.size + 1, 1, none⟩ = some (.int .i64 a) ∧ w'.cell? ⟨w.heap.size + 1, 2, none⟩ = some (.int .i64 b) ∧ w'.cell? ⟨w.heap.size + 1, 3, none⟩ = some (.int .i64 c)) 7 [] (.take 0 (.take 1 (.take 2 (.alt 3 (.alt 4 (.alt 5 (.take 6 (.done)) (.stop)) (.stop)) (.stop))))) (by kernel_rfl) (by kernel_rfl) (by kernel_rfl) (⟨⟨x0, x1⟩, b0, b1, b2, b3⟩) ?_
    simp only [fillT, List.getElem?_cons_zero, List.getElem?_cons_succ, Nat.reduceBEq]
    repeat (first
      | (with_reducible refine po_take (v := ?_) ?_ (fun w' hS' => ?_) ?_
         rotate_left
         · (go_simp; done)
         · ((try dsimp only at hS'); go_simp; try with_reducible rfl)
         simp only [Act.put, List.setIfInBounds_toArray, List.set_cons_zero, List.set_cons_succ])
      | (with_reducible refine po_skip ?_ ?_
         · (go_simp; done)
         simp only [Act.put, List.setIfInBounds_toArray, List.set_cons_zero, List.set_cons_succ]))
    with_reducible refine po_run ?_ (fun K hK => ?_) ?_
    · (go_simp; done)
    rotate_left
    · exact po_stop
    go_simp
    refine (l10Place_any _ _ _ h (HX.rdH 1 2 rfl rfl) (by omega)).mono ?_
    rintro e wa ⟨rfl, hb⟩
    replace HX := HX.call hb
    clear hb x0 x1 b0 b1 b2 b3
    obtain ⟨x0, x1, -, -⟩ := HX.box2 0 rfl
    obtain ⟨b0, b1, b2, b3, -, -, -, -⟩ := box4 HX 4 rfl
    refine hK.out _ _ (.inr (⟨⟨x0, x1⟩, b0, b1, b2, b3⟩)) ?_
    clear hK K
    with_reducible refine po_run ?_ (fun K hK => ?_) ?_
    · (go_simp; done)
    rotate_left
    · exact po_stop
    go_simp
    refine (l8Do_at _ _ _ h (HX.rdH 1 2 rfl rfl) ⟨op, a, b, c⟩ GG.out HC.out HP.out (mFree h) (mFree_le h)).mono ?_
    rintro e wb ⟨cv2, rvs2, rv2, rfl, K⟩
    replace K := HX.merge K
    simp only [List.cons_append, List.nil_append] at K
    obtain ⟨T, hT⟩ : ∃ T, T = mDo h ⟨op, a, b, c⟩ (mFree h) := ⟨_, rfl⟩
    rw [← hT] at K HF
    clear hT HX
    have HX := K
    clear K
    obtain ⟨C', kC', rfl, -⟩ := HX.formC 0 rfl
    obtain ⟨R', kR', rfl, -⟩ := HX.formI 1 rfl
    clear x0 x1 b0 b1 b2 b3
    obtain ⟨x0, x1, -, -⟩ := HX.box2 2 rfl
    obtain ⟨b0, b1, b2, b3, -, -, -, -⟩ := box4 HX 6 rfl
    refine hK.out _ _ (.inr (⟨⟨x0, x1⟩, b0, b1, b2, b3⟩)) ?_
    clear hK K
    with_reducible refine po_run ?_ (fun K hK => ?_) ?_
    · (go_simp; done)
    rotate_left
    · exact po_stop
    obtain ⟨y0, y1, y2, y3⟩ := HX.box2 5 rfl
    go_simp
    replace HX := (HX.putBox 5 rfl 0 (.slice C' T.cells.length kC')).putBox 5 rfl 1 (.slice R' T.roots.length kR')
    simp only [List.set_cons_zero, List.set_cons_succ] at HX
    clear y0 y1 y2 y3 x0 x1 b0 b1 b2 b3
    obtain ⟨x0, x1, -, -⟩ := HX.box2 2 rfl
    obtain ⟨b0, b1, b2, b3, -, -, -, -⟩ := box4 HX 6 rfl
    refine hK.out _ _ (.inr (⟨⟨x0, x1⟩, b0, b1, b2, b3⟩)) ?_
    clear hK K
    repeat (first
      | (with_reducible refine po_take (v := ?_) ?_ (fun w' hS' => ?_) ?_
         rotate_left
         · (go_simp; done)
         · ((try dsimp only at hS'); go_simp; try with_reducible rfl)
         simp only [Act.put, List.setIfInBounds_toArray, List.set_cons_zero, List.set_cons_succ])
      | (with_reducible refine po_skip ?_ ?_
         · (go_simp; done)
         simp only [Act.put, List.setIfInBounds_toArray, List.set_cons_zero, List.set_cons_succ]))
    refine po_done ?_
    clear x0 x1 b0 b1 b2 b3
    obtain ⟨z0, z1, -, -⟩ := HX.box2 5 rfl
    have HS : Hid (MadeHBl w (stepSw h L ⟨op, a, b, c⟩).1 (stepSw h L ⟨op, a, b, c⟩).2 (.returned (.tuple #[.agg #[.slice C' T.cells.length kC', .slice R' T.roots.length kR'], .bool true])) _) := Go.Lib.hid (by rw [HF.out]; exact ⟨_, rvs2, _, rfl, HX.take 2⟩)
    clear HX
    go_wp2
    exact bodyPost_ret (v := .tuple #[.agg #[.slice C' T.cells.length kC', .slice R' T.roots.length kR'], .bool true]) (by simp [results, Try.results46, go_sem, z0, z1]) rfl HS.out
  have q1 : (L : Int) ≤ ((mFree h : Nat) : Int) := by omega
  go_wp2_with fail
  refine (specCollect_any _ _ _ h (H2.rdH 1 2 rfl rfl)).mono ?_
  rintro e w7 ⟨cv, rvs', rv, rfl, K⟩
  replace K := H2.merge K
  simp only [List.cons_append, List.nil_append] at K
  have GX := Go.Lib.hid (mCollect_good GG.out)
  have HPX : Hid (possB (mCollect h) ⟨op, a, b, c⟩ = true) := Go.Lib.hid (poss_new HO.out)
  have HFL := Go.Lib.hid (fun hf2 => stepSw_full (L := L) (o := ⟨op, a, b, c⟩) HO.out hf hf2)
  have HSW := Go.Lib.hid (fun hf2 => stepSw_swept (L := L) (o := ⟨op, a, b, c⟩) HO.out hf hf2)
  have hX40 : (mCollect h).cells.length ≤ 40 := GX.out.len
  obtain ⟨X, hX⟩ : ∃ X, X = mCollect h := ⟨_, rfl⟩
  rw [← hX] at K GX HPX HFL HSW hX40
  clear hX H2 x0 x1 xf0 xf1 b0 b1 b2 b3 hf q1
  obtain ⟨C, kC, rfl, -⟩ := K.formC 0 rfl
  obtain ⟨R, kR, rfl, -⟩ := K.formI 1 rfl
  obtain ⟨x0, x1, xf0, xf1⟩ := K.box2 2 rfl
  have H2 := ((K.putBox 2 rfl 0 (.slice C X.cells.length kC)).putBox 2 rfl 1 (.slice R X.roots.length kR)).places [2, 0, 1, 5, 6, 7] (by decide) (by simp)
  simp only [List.filterMap_cons, List.filterMap_nil, List.getElem?_cons_zero, List.getElem?_cons_succ, List.set_cons_zero, List.set_cons_succ] at H2
  obtain ⟨v0, v1, -, -⟩ := H2.box2 0 rfl
  go_wp2_with fail
  clear x0 x1 xf0 xf1 v0 v1 K
  refine (l10Place_any _ _ _ X (H2.rdH 1 2 rfl rfl) (by omega)).mono ?_
  rintro e w8 ⟨rfl, hb⟩
  replace H2 := H2.call hb
  clear hb
  obtain ⟨x0, x1, xf0, xf1⟩ := H2.box2 0 rfl
  obtain ⟨b0, b1, b2, b3, -, -, -, -⟩ := box4 H2 4 rfl
  by_cases hf2 : mFree X < L
  · have HF := Go.Lib.hid (HSW.out hf2)
    have q1 : ¬ (L : Int) ≤ ((mFree X : Nat) : Int) := by omega
    go_wp2_with fail
    have HX := H2.drew
    clear H2 x0 x1 xf0 xf1 b0 b1 b2 b3
    obtain ⟨x0, x1, -, -⟩ := HX.box2 0 rfl
    obtain ⟨b0, b1, b2, b3, -, -, -, -⟩ := box4 HX 4 rfl
    refine wp_region_tree (fun w' => (w'.cell? ⟨gx, 0, none⟩ = some (.slice C X.cells.length kC) ∧ w'.cell? ⟨gx, 1, none⟩ = some (.slice R X.roots.length kR)) ∧ w'.cell? ⟨w.heap.size + 1, 0, none⟩ = some (.int .i64 op) ∧ w'.cell? ⟨w.heap.size + 1, 1, none⟩ = some (.int .i64 a) ∧ w'.cell? ⟨w.heap.size + 1, 2, none⟩ = some (.int .i64 b) ∧ w'.cell? ⟨w.heap.size + 1, 3, none⟩ = some (.int .i64 c)) 7 [] (.take 0 (.take 1 (.take 2 (.alt 3 (.alt 4 (.alt 5 (.take 6 (.done)) (.stop)) (.stop)) (.stop))))) (by kernel_rfl) (by kernel_rfl) (by kernel_rfl) (⟨⟨x0, x1⟩, b0, b1, b2, b3⟩) ?_
    simp only [fillT, List.getElem?_cons_zero, List.getElem?_cons_succ, Nat.reduceBEq]
    repeat (first
      | (with_reducible refine po_take (v := ?_) ?_ (fun w' hS' => ?_) ?_
         rotate_left
         · (go_simp; done)
         · ((try dsimp only at hS'); go_simp; try with_reducible rfl)
         simp only [Act.put, List.setIfInBounds_toArray, List.set_cons_zero, List.set_cons_succ])
      | (with_reducible refine po_skip ?_ ?_
         · (go_simp; done)
         simp only [Act.put, List.setIfInBounds_toArray, List.set_cons_zero, List.set_cons_succ]))
    with_reducible refine po_run ?_ (fun K hK => ?_) ?_
    · (go_simp; done)
    rotate_left
    · exact po_stop
    go_simp
    refine (l10Place_any _ _ _ X (HX.rdH 1 2 rfl rfl) (by omega)).mono ?_
    rintro e wa ⟨rfl, hb⟩
    replace HX := HX.call hb
    clear hb x0 x1 b0 b1 b2 b3
    obtain ⟨x0, x1, -, -⟩ := HX.box2 0 rfl
    obtain ⟨b0, b1, b2, b3, -, -, -, -⟩ := box4 HX 4 rfl
    refine hK.out _ _ (.inr (⟨⟨x0, x1⟩, b0, b1, b2, b3⟩)) ?_
    clear hK K
    with_reducible refine po_run ?_ (fun K hK => ?_) ?_
    · (go_simp; done)
    rotate_left
    · exact po_stop
    go_simp
    refine (l8Do_at _ _ _ X (HX.rdH 1 2 rfl rfl) ⟨op, a, b, c⟩ GX.out HC.out HPX.out (mFree X) (mFree_le X)).mono ?_
    rintro e wb ⟨cv2, rvs2, rv2, rfl, K⟩
    replace K := HX.merge K
    simp only [List.cons_append, List.nil_append] at K
    obtain ⟨T, hT⟩ : ∃ T, T = mDo X ⟨op, a, b, c⟩ (mFree X) := ⟨_, rfl⟩
    rw [← hT] at K HF
    clear hT HX
    have HX := K
    clear K
    obtain ⟨C', kC', rfl, -⟩ := HX.formC 0 rfl
    obtain ⟨R', kR', rfl, -⟩ := HX.formI 1 rfl
    clear x0 x1 b0 b1 b2 b3
    obtain ⟨x0, x1, -, -⟩ := HX.box2 2 rfl
    obtain ⟨b0, b1, b2, b3, -, -, -, -⟩ := box4 HX 6 rfl
    refine hK.out _ _ (.inr (⟨⟨x0, x1⟩, b0, b1, b2, b3⟩)) ?_
    clear hK K
    with_reducible refine po_run ?_ (fun K hK => ?_) ?_
    · (go_simp; done)
    rotate_left
    · exact po_stop
    obtain ⟨y0, y1, y2, y3⟩ := HX.box2 5 rfl
    go_simp
    replace HX := (HX.putBox 5 rfl 0 (.slice C' T.cells.length kC')).putBox 5 rfl 1 (.slice R' T.roots.length kR')
    simp only [List.set_cons_zero, List.set_cons_succ] at HX
    clear y0 y1 y2 y3 x0 x1 b0 b1 b2 b3
    obtain ⟨x0, x1, -, -⟩ := HX.box2 2 rfl
    obtain ⟨b0, b1, b2, b3, -, -, -, -⟩ := box4 HX 6 rfl
    refine hK.out _ _ (.inr (⟨⟨x0, x1⟩, b0, b1, b2, b3⟩)) ?_
    clear hK K
    repeat (first
      | (with_reducible refine po_take (v := ?_) ?_ (fun w' hS' => ?_) ?_
         rotate_left
         · (go_simp; done)
         · ((try dsimp only at hS'); go_simp; try with_reducible rfl)
         simp only [Act.put, List.setIfInBounds_toArray, List.set_cons_zero, List.set_cons_succ])
      | (with_reducible refine po_skip ?_ ?_
         · (go_simp; done)
         simp only [Act.put, List.setIfInBounds_toArray, List.set_cons_zero, List.set_cons_succ]))
    refine po_done ?_
    clear x0 x1 b0 b1 b2 b3
    obtain ⟨z0, z1, -, -⟩ := HX.box2 5 rfl
    have HS : Hid (MadeHBl w (stepSw h L ⟨op, a, b, c⟩).1 (stepSw h L ⟨op, a, b, c⟩).2 (.returned (.tuple #[.agg #[.slice C' T.cells.length kC', .slice R' T.roots.length kR'], .bool true])) _) := Go.Lib.hid (by rw [HF.out]; exact ⟨_, rvs2, _, rfl, HX.take 2⟩)
    clear HX
    go_wp2
    exact bodyPost_ret (v := .tuple #[.agg #[.slice C' T.cells.length kC', .slice R' T.roots.length kR'], .bool true]) (by simp [results, Try.results46, go_sem, z0, z1]) rfl HS.out
  have HF := Go.Lib.hid (HFL.out hf2)
  have q1 : (L : Int) ≤ ((mFree X : Nat) : Int) := by omega
  obtain ⟨y0, y1, y2, y3⟩ := H2.box2 3 rfl
  have HZ := (H2.putBox 3 rfl 0 (.slice C X.cells.length kC)).putBox 3 rfl 1 (.slice R X.roots.length kR)
  simp only [List.set_cons_zero, List.set_cons_succ] at HZ
  obtain ⟨z0, z1, -, -⟩ := HZ.box2 3 rfl
  obtain ⟨z2, -, -, -⟩ := (H2.putBox 3 rfl 0 (.slice C X.cells.length kC)).box2 3 rfl
  have HS : Hid (MadeHBl w (stepSw h L ⟨op, a, b, c⟩).1 (stepSw h L ⟨op, a, b, c⟩).2 (.returned (.tuple #[.agg #[.slice C X.cells.length kC, .slice R X.roots.length kR], .bool false])) _) := Go.Lib.hid (by rw [HF.out]; exact ⟨_, _, _, rfl, HZ.order [1, 2] (by decide) rfl⟩)
  clear H2 HZ
  go_wp2
  exact bodyPost_ret (v := .tuple #[.agg #[.slice C X.cells.length kC, .slice R X.roots.length kR], .bool false]) (by simp [results, Try.results46, go_sem, z0, z1]) rfl HS.out
end Go.Proofs.Ytpafdaooddbpkaa
