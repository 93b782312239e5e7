/- The program's SweepCells by what can be reached, and its CollectSweep: they make mCollect and tell mCollectN. For every heap that can be read. -/
import Derived.Test.YtpafdaooddbpkaaSi
import Derived.Test.YtpafdaooddbpkaaZ4
import Derived.Test.YtpafdaooddbpkaaCpI
import Derived.Test.YtpafdaooddbpkaaFc
import Derived.Test.YtpafdaooddbpkaaSw
import Derived.Test.YtpafdaooddbpkaaZ3
namespace Go.Proofs.Ytpafdaooddbpkaa
open Go.RowKit
theorem out_bit {h : Hp} {ms : List Bool} (h64 : h.cells.length ≤ 64) (i : Nat) : (lessB (usedM h.cells) (setM ms)).testBit i = (usedN h.cells i && !atB ms i) := by
  rw [lessB_bit _ _ _ (usedM_lt _), usedM_bit h64, setM_bit]; rfl
theorem out_no {h : Hp} {ms : List Bool} (h64 : h.cells.length ≤ 64) {r : Int} (hr : 0 ≤ r → atB ms r.toNat = true) : hasB (lessB (usedM h.cells) (setM ms)) r = false := by
  unfold hasB
  by_cases h0 : 0 ≤ r
  · rw [out_bit h64, hr h0]; simp
  · simp [h0]
theorem free_cel {h : Hp} (h0 : heapOk h = true) {i : Nat} (hi : i < h.cells.length) (hu : usedN h.cells i = false) : h.cells.getD i noCel = noCel := by
  simp only [heapOk, Bool.and_eq_true, List.all_eq_true] at h0
  have h1 := h0.1.2 _ (List.getElem_mem hi)
  rw [List.getD_eq_getElem?_getD, List.getElem?_eq_getElem hi]
  have h2 : h.cells[i].used = false := by rw [← usedN_at (Go.Lib.hid (List.getElem?_eq_getElem hi))]; exact hu
  unfold cellOk at h1
  rw [if_neg (by rw [h2]; exact Bool.false_ne_true)] at h1
  simp only [Bool.and_eq_true, beq_iff_eq, decide_eq_true_eq] at h1
  show h.cells[i] = noCel
  generalize h.cells[i] = c at *
  obtain ⟨u, d, rs⟩ := c
  simp only at h1 h2
  obtain ⟨e1, e2⟩ := h1
  rw [List.length_eq_zero_iff] at e2
  subst h2 e1 e2
  rfl
theorem gone_bit {h : Hp} {ms : List Bool} (h64 : h.cells.length ≤ 64) (i : Nat) : goneB (lessB (usedM h.cells) (setM ms)) h.cells i = (usedN h.cells i && !atB ms i) := by
  unfold goneB
  rw [out_bit h64]
  show (usedN h.cells i && !atB ms i && usedN h.cells i) = _
  cases usedN h.cells i <;> simp
theorem sweep_cells {h : Hp} {ms : List Bool} (h0 : heapOk h = true) (hl : ms.length = h.cells.length) : wipeTo (lessB (usedM h.cells) (setM ms)) h.cells h.cells.length = (mDrop h (deadL ms)).cells := by
  have h64 : h.cells.length ≤ 64 := by have := (heapOk_small h0).1; omega
  show _ = wipeP _ _ _
  unfold wipeTo wipeP
  refine List.map_congr_left fun i hi => ?_
  have hi := List.mem_range.1 hi
  rw [gone_bit h64, atB_dead (by omega)]
  cases hu : usedN h.cells i
  · rw [free_cel h0 hi hu]; simp
  · simp
theorem sweep_cnt {h : Hp} {ms : List Bool} (h0 : heapOk h = true) : cntTo (lessB (usedM h.cells) (setM ms)) h.cells h.cells.length = cntP (lostS h ms) h.cells.length := by
  have h64 : h.cells.length ≤ 64 := by have := (heapOk_small h0).1; omega
  unfold cntTo cntP
  congr 1
  refine List.filter_congr fun i _ => ?_
  rw [gone_bit h64]
  unfold lostS
  rw [Bool.and_comm]
set_option maxHeartbeats 3200000 in
set_option maxRecDepth 20000 in
theorem implSweep_keeps (w : World) (B B' : Nat) (v : Value) (h : Hp) (A : Option Addr) (n c : Nat) (ms : List Bool) (hh : RdH w B v h) (hok : heapOk h = true) (hr : RdB w B' A n c ms) (hK : Keeps h ms) :
    Calls Try.prog 94 #[v, .slice A n c] w (MadeHN w (mDrop h (deadL ms)) ((cntP (lostS h ms) h.cells.length : Nat) : Int)) := by
  have hh' := hh.top
  have hr := hr.top
  obtain ⟨D, m, d, D', m', d', rfl, hC, hR⟩ := hh.top
  have l3 := hC.le1; have l4 := hC.le2
  have l1 := RdB.le1 hr; have l2 := RdB.le2 hr
  have hml := hK.len
  obtain ⟨s4, s5⟩ := heapOk_small hok
  have g := good_iff.1 hok
  have h64 : h.cells.length ≤ 64 := by omega
  obtain rfl : m = n := by omega
  have hn64 : m ≤ 64 := by omega
  have hrefs : ∀ c ∈ h.cells, c.refs.length ≤ 3 := fun c hc => by
    have := g.cell c hc
    rw [cellOk_iff] at this
    rcases this with k | k
    · exact k.2.2.2.2
    · rw [k.2.2]; simp
  have HH3 : Hid (∀ c ∈ h.cells, c.refs.length ≤ 1048576) := Go.Lib.hid fun c hc => by have := hrefs c hc; omega
  obtain ⟨S, hS⟩ : ∃ S, S = setM ms := ⟨_, rfl⟩
  obtain ⟨O, hO⟩ : ∃ O, O = lessB (usedM h.cells) S := ⟨_, rfl⟩
  have HSe := Go.Lib.hid hS
  have HS6 : Hid (S < 2 ^ 64) := Go.Lib.hid (by rw [hS]; exact setM_lt (by omega))
  have HO6 : Hid (O < 2 ^ 64) := Go.Lib.hid (by rw [hO]; exact lessB_lt _ _)
  obtain ⟨U, hU⟩ : ∃ U, U = usedM h.cells := ⟨_, rfl⟩
  have HUe := Go.Lib.hid hU
  have tO : Go.bits .andNot .u64 (U : Int) (S : Int) = (O : Int) := by rw [hO, hU]; exact bits_andNot _ S
  have HRoot : Hid (∀ r ∈ h.roots, hasB (lessB (usedM h.cells) S) r = false) := Go.Lib.hid fun r hrr => by
    rw [hS]
    exact out_no h64 fun h0 => hK.root r hrr h0
  have HRefs : Hid (∀ (k : Nat) (l : Cel), h.cells[k]? = some l → S.testBit k = true → ∀ r ∈ l.refs, hasB (lessB (usedM h.cells) S) r = false) := Go.Lib.hid fun k l hl hb r hrr => by
    rw [hS] at hb ⊢
    rw [setM_bit] at hb
    exact out_no h64 fun h0 => hK.ref k l hl hb r hrr h0
  have HRl : Hid (∀ c ∈ h.cells, c.refs.length ≤ 1000) := Go.Lib.hid fun c hc => by have := hrefs c hc; omega
  obtain ⟨T, hT⟩ : ∃ T, T = mDrop h (deadL ms) := ⟨_, rfl⟩
  obtain ⟨N, hN⟩ : ∃ N : Int, N = ((cntP (lostS h ms) h.cells.length : Nat) : Int) := ⟨_, rfl⟩
  have HCe : Hid (wipeTo O h.cells h.cells.length = T.cells ∧ T.roots = h.roots ∧ N = ((cntTo O h.cells h.cells.length : Nat) : Int)) := Go.Lib.hid (by
    rw [hT, hN, hO, hS]
    exact ⟨sweep_cells hok hml, rfl, by rw [sweep_cnt hok]⟩)
  rw [← hT, ← hN]
  have HOk := Go.Lib.hid hok
  have hrt : h.roots.length ≤ 1000 := by omega
  clear hS hO hU g hrefs hok s5 hK hT hN
  have H1 := ((Owns.nil w).box [.slice D m d, .slice D' m' d'] 32).box [.slice none 0 0, .slice none 0 0] 32
  simp only [List.set_cons_zero, List.set_cons_succ, List.eraseIdx_cons_zero, List.eraseIdx_cons_succ, List.drop_succ_cons, List.drop_zero, List.take_succ_cons, List.take_zero, List.length_append, List.length_cons, List.length_nil, List.nil_append, Nat.zero_add, World.size_alloc] at H1
  go_enter Try.func94, Try.ntmps94
  go_wp2_with fail
  have HX := H1.drew
  have H0 := Go.Lib.hid H1
  clear H1
  obtain ⟨b0, b1, -, -⟩ := HX.box2 1 rfl
  refine wp_region_tree (fun w' => w'.cell? ⟨w.heap.size, 0, none⟩ = some (.slice D m d) ∧ w'.cell? ⟨w.heap.size, 1, none⟩ = some (.slice D' m' d')) 17 [] (.take 0 (.alt 1 (.take 2 (.take 3 (.take 4 (.take 5 (.take 6 (.take 7 (.take 8 (.take 9 (.take 10 (.take 11 (.take 12 (.take 13 (.alt 14 (.alt 15 (.take 16 (.done)) (.stop)) (.stop)))))))))))))) (.stop))) (by kernel_rfl) (by kernel_rfl) (by kernel_rfl) (⟨b0, b1⟩) ?_
  simp only [fillT, List.getElem?_cons_zero, List.getElem?_cons_succ, Nat.reduceBEq]
  repeat (first
    | (with_reducible refine po_take (v := ?_) ?_ (fun w' hS' => ?_) ?_
       rotate_left
       · (go_simp; done)
       · ((try dsimp only at hS'); go_simp; try with_reducible rfl)
       simp only [Act.put, List.setIfInBounds_toArray, List.set_cons_zero, List.set_cons_succ])
    | (with_reducible refine po_skip ?_ ?_
       · (go_simp; done)
       simp only [Act.put, List.setIfInBounds_toArray, List.set_cons_zero, List.set_cons_succ]))
  with_reducible refine po_run ?_ (fun K hK => ?_) ?_
  · (go_simp; done)
  rotate_left
  · exact po_stop
  try (revert b0 b1 HX; generalize World.drew _ = wd; intro HX b0 b1)
  go_simp
  refine (heapValid_any _ _ _ h (hh'.below HX.below)).mono ?_
  rintro e w3 ⟨rfl, hb⟩
  rw [HOk.out]
  replace HX := HX.call hb
  clear hb b0 b1
  obtain ⟨b0, b1, -, -⟩ := HX.box2 1 rfl
  refine hK.out _ _ (.inr (⟨b0, b1⟩)) ?_
  clear hK K
  repeat (first
    | (with_reducible refine po_take (v := ?_) ?_ (fun w' hS' => ?_) ?_
       rotate_left
       · (go_simp; done)
       · ((try dsimp only at hS'); go_simp; try with_reducible rfl)
       simp only [Act.put, List.setIfInBounds_toArray, List.set_cons_zero, List.set_cons_succ])
    | (with_reducible refine po_skip ?_ ?_
       · (go_simp; done)
       simp only [Act.put, List.setIfInBounds_toArray, List.set_cons_zero, List.set_cons_succ]))
  with_reducible refine po_run ?_ (fun K hK => ?_) ?_
  · (go_simp; done)
  rotate_left
  · exact po_stop
  go_simp
  refine (setOf_any _ _ _ _ _ ms (hr.below HX.below) hn64).mono ?_
  rintro e w4 ⟨he, hb⟩
  rw [← HSe.out] at he
  subst he
  replace HX := HX.call hb
  clear hb b0 b1
  obtain ⟨b0, b1, -, -⟩ := HX.box2 1 rfl
  refine hK.out _ _ (.inr (⟨b0, b1⟩)) ?_
  clear hK K
  with_reducible refine po_run ?_ (fun K hK => ?_) ?_
  · (go_simp; done)
  rotate_left
  · exact po_stop
  go_simp
  refine (refersOutside_no _ _ _ h S (hh'.below HX.below) h64 HS6.out hrt HRl.out HRoot.out HRefs.out).mono ?_
  rintro e w5 ⟨rfl, hb⟩
  replace HX := HX.call hb
  clear hb b0 b1
  obtain ⟨b0, b1, -, -⟩ := HX.box2 1 rfl
  refine hK.out _ _ (.inr (⟨b0, b1⟩)) ?_
  clear hK K
  repeat (first
    | (with_reducible refine po_take (v := ?_) ?_ (fun w' hS' => ?_) ?_
       rotate_left
       · (go_simp; done)
       · ((try dsimp only at hS'); go_simp; try with_reducible rfl)
       simp only [Act.put, List.setIfInBounds_toArray, List.set_cons_zero, List.set_cons_succ])
    | (with_reducible refine po_skip ?_ ?_
       · (go_simp; done)
       simp only [Act.put, List.setIfInBounds_toArray, List.set_cons_zero, List.set_cons_succ]))
  refine po_done ?_
  clear H0
  go_wp2_with fail
  refine (copyHeap_any _ _ _ h (hh'.below HX.below) (by omega) (by omega) HH3.out).mono ?_
  rintro e w6 ⟨v6, rfl, ho, hb⟩
  obtain ⟨cv, rvs, rv, rfl, H5⟩ := HX.madeH ho hb
  obtain ⟨X1, x1, rfl, -⟩ := H5.formC 0 rfl
  obtain ⟨X2, x2, rfl, -⟩ := H5.formI 1 rfl
  have H6 := H5.box [.slice X1 h.cells.length x1, .slice X2 h.roots.length x2] 32
  clear HX H5 ho hb b0 b1
  obtain ⟨b0, b1, -, -⟩ := H6.box2 4 rfl
  go_wp2_with fail
  refine (usedSet_any _ _ _ h (hh'.below H6.below) h64).mono ?_
  rintro e w7 ⟨he, hb⟩
  rw [← HUe.out] at he
  subst he
  have H7 := H6.call hb
  clear H6 hb b0 b1
  go_wp2_with fail
  refine (setOf_any _ _ _ _ _ ms (hr.below H7.below) hn64).mono ?_
  rintro e w8 ⟨he, hb⟩
  rw [← HSe.out] at he
  subst he
  have H8 := H7.call hb
  clear H7 hb
  go_wp2_with fail
  refine (freeCells_own H8 HO6.out (by omega)).mono ?_
  rintro e w9 ⟨rfl, rvs9, H9⟩
  rw [HCe.out.1] at H9
  rw [← HCe.out.2.2]
  clear H8
  obtain ⟨c0, c1, -, -⟩ := H9.box2 0 rfl
  obtain ⟨d0, d1, d2, d3⟩ := H9.box2 3 rfl
  have HZ := (H9.putBox 3 rfl 0 (.slice X1 h.cells.length x1)).putBox 3 rfl 1 (.slice X2 h.roots.length x2)
  simp only [List.set_cons_zero, List.set_cons_succ, List.eraseIdx_cons_zero, List.eraseIdx_cons_succ, List.drop_succ_cons, List.drop_zero, List.take_succ_cons, List.take_zero, List.length_append, List.length_cons, List.length_nil, List.nil_append, Nat.zero_add, World.size_alloc] at HZ
  obtain ⟨z0, z1, -, -⟩ := HZ.box2 3 rfl
  have HE := (HZ.erase 0).take 2
  simp only [List.set_cons_zero, List.set_cons_succ, List.eraseIdx_cons_zero, List.eraseIdx_cons_succ, List.drop_succ_cons, List.drop_zero, List.take_succ_cons, List.take_zero, List.length_append, List.length_cons, List.length_nil, List.nil_append, Nat.zero_add, World.size_alloc] at HE
  have HS : Hid (MadeHN w T N (.returned (.tuple #[.agg #[.slice X1 h.cells.length x1, .slice X2 h.roots.length x2], .int .i64 N])) _) := Go.Lib.hid ⟨_, rvs9, _, rfl, by rw [HCe.out.2.1]; exact HE⟩
  clear H9 HZ HE
  go_wp2
  exact bodyPost_ret (v := .tuple #[.agg #[.slice X1 h.cells.length x1, .slice X2 h.roots.length x2], .int .i64 N]) (by simp [results, Try.results94, go_sem, z0, z1]) rfl HS.out
set_option maxHeartbeats 1600000 in
set_option maxRecDepth 20000 in
theorem implSweep_no (w : World) (B : Nat) (v : Value) (h : Hp) (A : Option Addr) (n c : Nat) (hh : RdH w B v h) (hok : heapOk h = false) :
    Calls Try.prog 94 #[v, .slice A n c] w (MadeHN w (mCollect h) (mCollectN h)) := by
  have hh' := hh.top
  obtain ⟨D, m, d, D', m', d', rfl, hC, hR⟩ := hh.top
  have HOk := Go.Lib.hid hok
  have HCe : Hid (mCollect h = ⟨[], []⟩ ∧ mCollectN h = -1) := Go.Lib.hid (by
    have e1 : sweepOk h (mReachable h) = false := by unfold sweepOk; rw [hok]; rfl
    exact mSweep_no e1)
  clear hok
  have H1 := ((Owns.nil w).box [.slice D m d, .slice D' m' d'] 32).box [.slice none 0 0, .slice none 0 0] 32
  simp only [List.set_cons_zero, List.set_cons_succ, List.eraseIdx_cons_zero, List.eraseIdx_cons_succ, List.drop_succ_cons, List.drop_zero, List.take_succ_cons, List.take_zero, List.length_append, List.length_cons, List.length_nil, List.nil_append, Nat.zero_add, World.size_alloc] at H1
  go_enter Try.func94, Try.ntmps94
  go_wp2_with fail
  have HX := H1.drew
  have H0 := Go.Lib.hid H1
  clear H1
  obtain ⟨b0, b1, -, -⟩ := HX.box2 1 rfl
  refine wp_region_tree (fun w' => w'.cell? ⟨w.heap.size, 0, none⟩ = some (.slice D m d) ∧ w'.cell? ⟨w.heap.size, 1, none⟩ = some (.slice D' m' d')) 17 [] (.take 0 (.alt 1 (.take 2 (.take 3 (.take 4 (.take 5 (.take 6 (.take 7 (.take 8 (.take 9 (.take 10 (.take 11 (.take 12 (.take 13 (.alt 14 (.alt 15 (.take 16 (.done)) (.stop)) (.stop)))))))))))))) (.stop))) (by kernel_rfl) (by kernel_rfl) (by kernel_rfl) (⟨b0, b1⟩) ?_
  simp only [fillT, List.getElem?_cons_zero, List.getElem?_cons_succ, Nat.reduceBEq]
  repeat (first
    | (with_reducible refine po_take (v := ?_) ?_ (fun w' hS' => ?_) ?_
       rotate_left
       · (go_simp; done)
       · ((try dsimp only at hS'); go_simp; try with_reducible rfl)
       simp only [Act.put, List.setIfInBounds_toArray, List.set_cons_zero, List.set_cons_succ])
    | (with_reducible refine po_skip ?_ ?_
       · (go_simp; done)
       simp only [Act.put, List.setIfInBounds_toArray, List.set_cons_zero, List.set_cons_succ]))
  with_reducible refine po_run ?_ (fun K hK => ?_) ?_
  · (go_simp; done)
  rotate_left
  · exact po_stop
  try (revert b0 b1 HX; generalize World.drew _ = wd; intro HX b0 b1)
  go_simp
  refine (heapValid_any _ _ _ h (hh'.below HX.below)).mono ?_
  rintro e w3 ⟨rfl, hb⟩
  rw [HOk.out]
  replace HX := HX.call hb
  clear hb b0 b1
  obtain ⟨b0, b1, -, -⟩ := HX.box2 1 rfl
  refine hK.out _ _ (.inr (⟨b0, b1⟩)) ?_
  clear hK K
  repeat (first
    | (with_reducible refine po_take (v := ?_) ?_ (fun w' hS' => ?_) ?_
       rotate_left
       · (go_simp; done)
       · ((try dsimp only at hS'); go_simp; try with_reducible rfl)
       simp only [Act.put, List.setIfInBounds_toArray, List.set_cons_zero, List.set_cons_succ])
    | (with_reducible refine po_skip ?_ ?_
       · (go_simp; done)
       simp only [Act.put, List.setIfInBounds_toArray, List.set_cons_zero, List.set_cons_succ]))
  with_reducible refine po_no ?_ ?_ ?_ ?_
  · (go_simp; done)
  · exact .inr (⟨b0, b1⟩)
  rotate_left
  · exact po_stop
  simp only [Act.put, List.setIfInBounds_toArray, List.set_cons_zero, List.set_cons_succ]
  with_reducible refine po_no ?_ ?_ ?_ ?_
  · (go_simp; done)
  · exact .inr (⟨b0, b1⟩)
  rotate_left
  · exact po_stop
  simp only [Act.put, List.setIfInBounds_toArray, List.set_cons_zero, List.set_cons_succ]
  repeat (first
    | (with_reducible refine po_take (v := ?_) ?_ (fun w' hS' => ?_) ?_
       rotate_left
       · (go_simp; done)
       · ((try dsimp only at hS'); go_simp; try with_reducible rfl)
       simp only [Act.put, List.setIfInBounds_toArray, List.set_cons_zero, List.set_cons_succ])
    | (with_reducible refine po_skip ?_ ?_
       · (go_simp; done)
       simp only [Act.put, List.setIfInBounds_toArray, List.set_cons_zero, List.set_cons_succ]))
  refine po_done ?_
  clear H0 b0 b1
  obtain ⟨d0, d1, d2, d3⟩ := HX.box2 0 rfl
  have HZ := (((HX.putBox 0 rfl 0 (.slice none 0 0)).putBox 0 rfl 1 (.slice none 0 0)).noInts).noCells
  simp only [List.set_cons_zero, List.set_cons_succ, List.eraseIdx_cons_zero, List.eraseIdx_cons_succ, List.drop_succ_cons, List.drop_zero, List.take_succ_cons, List.take_zero, List.length_append, List.length_cons, List.length_nil, List.nil_append, Nat.zero_add, World.size_alloc] at HZ
  obtain ⟨z0, z1, -, -⟩ := HZ.box2 2 rfl
  have HE := HZ.take 2
  simp only [List.set_cons_zero, List.set_cons_succ, List.eraseIdx_cons_zero, List.eraseIdx_cons_succ, List.drop_succ_cons, List.drop_zero, List.take_succ_cons, List.take_zero, List.length_append, List.length_cons, List.length_nil, List.nil_append, Nat.zero_add, World.size_alloc] at HE
  have HS : Hid (MadeHN w (mCollect h) (mCollectN h) (.returned (.tuple #[.agg #[.slice none 0 0, .slice none 0 0], .int .i64 (-1)])) _) := Go.Lib.hid (by rw [HCe.out.1, HCe.out.2]; exact ⟨_, [], _, rfl, HE⟩)
  clear HX HZ HE
  go_wp2
  exact bodyPost_ret (v := .tuple #[.agg #[.slice none 0 0, .slice none 0 0], .int .i64 (-1)]) (by simp [results, Try.results94, go_sem, z0, z1]) rfl HS.out
theorem implSweep_any (w : World) (B B' : Nat) (v : Value) (h : Hp) (A : Option Addr) (n c : Nat) (hh : RdH w B v h) (hr : RdB w B' A n c (mReachable h)) :
    Calls Try.prog 94 #[v, .slice A n c] w (MadeHN w (mCollect h) (mCollectN h)) := by
  cases hy : heapOk h
  · exact implSweep_no w B v h A n c hh hy
  · have hK := keeps_reach hy
    have e := mSweep_yes (hK.ok hy)
    unfold mCollect mCollectN
    rw [e.1, e.2]
    exact implSweep_keeps w B B' v h A n c _ hh hy hr hK
set_option maxHeartbeats 3200000 in
set_option maxRecDepth 20000 in
theorem implCollect_any (w : World) (B : Nat) (v : Value) (h : Hp) (hh : RdH w B v h) :
    Calls Try.prog 70 #[v] w (MadeHN w (mCollect h) (mCollectN h)) := by
  have hh' := hh.top
  obtain ⟨D, m, d, D', m', d', rfl, hC, hR⟩ := hh.top
  have H := ((Owns.nil w).box [.slice D m d, .slice D' m' d'] 32).box [.slice none 0 0, .slice none 0 0] 32
  simp only [List.set_cons_zero, List.set_cons_succ, List.eraseIdx_cons_zero, List.eraseIdx_cons_succ, List.drop_succ_cons, List.drop_zero, List.take_succ_cons, List.take_zero, List.length_append, List.length_cons, List.length_nil, List.nil_append, Nat.zero_add, World.size_alloc] at H
  go_enter Try.func70, Try.ntmps70
  go_wp2_with fail
  have HX := H.drew
  have H0 := Go.Lib.hid H
  clear H
  obtain ⟨a0, a1, -, -⟩ := HX.box2 1 rfl
  refine wp_region_tree (fun w' => w'.cell? ⟨w.heap.size, 0, none⟩ = some (.slice D m d) ∧ w'.cell? ⟨w.heap.size, 1, none⟩ = some (.slice D' m' d')) 8 [] (.take 0 (.take 1 (.alt 2 (.alt 3 (.take 4 (.take 5 (.alt 6 (.take 7 (.done)) (.stop)))) (.stop)) (.stop)))) (by kernel_rfl) (by kernel_rfl) (by kernel_rfl) (⟨a0, a1⟩) ?_
  simp only [fillT, List.getElem?_cons_zero, List.getElem?_cons_succ, Nat.reduceBEq]
  repeat (first
    | (with_reducible refine po_take (v := ?_) ?_ (fun w' hS' => ?_) ?_
       rotate_left
       · (go_simp; done)
       · ((try dsimp only at hS'); go_simp; try with_reducible rfl)
       simp only [Act.put, List.setIfInBounds_toArray, List.set_cons_zero, List.set_cons_succ])
    | (with_reducible refine po_skip ?_ ?_
       · (go_simp; done)
       simp only [Act.put, List.setIfInBounds_toArray, List.set_cons_zero, List.set_cons_succ]))
  with_reducible refine po_run ?_ (fun K hK => ?_) ?_
  · (go_simp; done)
  rotate_left
  · exact po_stop
  go_simp
  refine (implReachable_any _ _ _ h (hh'.below HX.below)).mono ?_
  rintro e w1 ⟨vR, rfl, ho, hb⟩
  replace HX := HX.madeB ho hb
  obtain ⟨V, kV, rfl, rV⟩ := HX.formB 0 rfl
  clear a0 a1 ho hb
  obtain ⟨a0, a1, -, -⟩ := HX.box2 2 rfl
  refine hK.out _ _ (.inr (⟨a0, a1⟩)) ?_
  clear hK K
  with_reducible refine po_run ?_ (fun K hK => ?_) ?_
  · (go_simp; done)
  rotate_left
  · exact po_stop
  go_simp
  refine (implSweep_any _ _ _ _ h _ _ _ (hh'.below HX.below) rV).mono ?_
  rintro e w2 ⟨cv, rvs, rv, rfl, K⟩
  replace K := HX.merge K
  simp only [List.cons_append, List.nil_append] at K
  obtain ⟨T, hT⟩ : ∃ T, T = mCollect h := ⟨_, rfl⟩
  rw [← hT] at K
  have HT : Hid (T = mCollect h) := Go.Lib.hid hT
  clear hT HX
  have HX := K
  clear K
  obtain ⟨C, kC, rfl, -⟩ := HX.formC 0 rfl
  obtain ⟨R, kR, rfl, -⟩ := HX.formI 1 rfl
  clear a0 a1
  obtain ⟨a0, a1, -, -⟩ := HX.box2 4 rfl
  refine hK.out _ _ (.inr (⟨a0, a1⟩)) ?_
  clear hK K
  repeat (first
    | (with_reducible refine po_take (v := ?_) ?_ (fun w' hS' => ?_) ?_
       rotate_left
       · (go_simp; done)
       · ((try dsimp only at hS'); go_simp; try with_reducible rfl)
       simp only [Act.put, List.setIfInBounds_toArray, List.set_cons_zero, List.set_cons_succ])
    | (with_reducible refine po_skip ?_ ?_
       · (go_simp; done)
       simp only [Act.put, List.setIfInBounds_toArray, List.set_cons_zero, List.set_cons_succ]))
  with_reducible refine po_run ?_ (fun K hK => ?_) ?_
  · (go_simp; done)
  rotate_left
  · exact po_stop
  obtain ⟨y0, y1, y2, y3⟩ := HX.box2 3 rfl
  go_simp
  have HZ := (HX.putBox 3 rfl 0 (.slice C T.cells.length kC)).putBox 3 rfl 1 (.slice R T.roots.length kR)
  simp only [List.set_cons_zero, List.set_cons_succ, List.eraseIdx_cons_zero, List.eraseIdx_cons_succ, List.drop_succ_cons, List.drop_zero, List.take_succ_cons, List.take_zero, List.length_append, List.length_cons, List.length_nil, List.nil_append, Nat.zero_add, World.size_alloc] at HZ
  clear a0 a1
  obtain ⟨a0, a1, -, -⟩ := HZ.box2 4 rfl
  refine hK.out _ _ (.inr (⟨a0, a1⟩)) ?_
  clear hK K
  repeat (first
    | (with_reducible refine po_take (v := ?_) ?_ (fun w' hS' => ?_) ?_
       rotate_left
       · (go_simp; done)
       · ((try dsimp only at hS'); go_simp; try with_reducible rfl)
       simp only [Act.put, List.setIfInBounds_toArray, List.set_cons_zero, List.set_cons_succ])
    | (with_reducible refine po_skip ?_ ?_
       · (go_simp; done)
       simp only [Act.put, List.setIfInBounds_toArray, List.set_cons_zero, List.set_cons_succ]))
  refine po_done ?_
  obtain ⟨z0, z1, -, -⟩ := HZ.box2 3 rfl
  have HS : Hid (MadeHN w (mCollect h) (mCollectN h) (.returned (.tuple #[.agg #[.slice C T.cells.length kC, .slice R T.roots.length kR], .int .i64 (mCollectN h)])) _) := Go.Lib.hid (by rw [← HT.out]; exact ⟨_, rvs, _, rfl, HZ.take 2⟩)
  clear HX HZ H0 a0 a1
  go_wp2
  exact bodyPost_ret (v := .tuple #[.agg #[.slice C T.cells.length kC, .slice R T.roots.length kR], .int .i64 (mCollectN h)]) (by simp [results, Try.results70, go_sem, z0, z1]) rfl HS.out
end Go.Proofs.Ytpafdaooddbpkaa
