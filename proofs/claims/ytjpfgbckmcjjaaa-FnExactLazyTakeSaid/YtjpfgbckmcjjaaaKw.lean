/- KeptWatched, the program's and the reference's: both make mKeptWatched, for every heap and list that can be read. -/
import Derived.Test.YtjpfgbckmcjjaaaWt
import Derived.Test.YtjpfgbckmcjjaaaZ1
import Derived.Test.YtjpfgbckmcjjaaaClo
import Derived.Test.YtjpfgbckmcjjaaaLi
import Derived.Test.YtjpfgbckmcjjaaaZ0
namespace Go.Proofs.Ytjpfgbckmcjjaaa
open Go.RowKit
noncomputable def mKeptWatched (h : Hp) (ws : List Int) : List Bool := if mWatchedValid h ws then reachL h.cells (h.roots ++ ws) else []
theorem mKept_no {h : Hp} {ws : List Int} (h0 : mWatchedValid h ws = false) : mKeptWatched h ws = [] := by simp [mKeptWatched, h0]
theorem mKept_yes {h : Hp} {ws : List Int} (h0 : mWatchedValid h ws = true) : mKeptWatched h ws = reachL h.cells (h.roots ++ ws) := by simp [mKeptWatched, h0]
theorem usedB_parts {cs : List Cel} {x : Int} (h : usedB cs x = true) : 0 ≤ x ∧ x < cs.length ∧ usedN cs x.toNat = true ∧ leadsB cs x = true := by
  simp only [usedB, Bool.and_eq_true, decide_eq_true_eq] at h
  refine ⟨h.1.1, h.1.2, h.2, ?_⟩
  have h2 := h.2
  simp only [leadsB, h.1.1, h.1.2, h2, decide_true, Bool.and_self, Bool.or_true]
theorem mWatched_parts {h : Hp} {ws : List Int} (h0 : mWatchedValid h ws = true) : heapOk h = true ∧ (∀ r ∈ ws, usedB h.cells r = true) ∧ (∀ k x y, ws[k]? = some x → ws[k + 1]? = some y → x < y) := by
  simp only [mWatchedValid, Bool.and_eq_true, List.all_eq_true, List.mem_range] at h0
  refine ⟨h0.1, fun r hr => ?_, fun k x y hx hy => ?_⟩
  · obtain ⟨i, hi⟩ := List.getElem?_of_mem hr
    have := h0.2 i (List.getElem?_eq_some_iff.1 hi).1
    unfold watchAt at this
    rw [getD_of (d := 0) (Go.Lib.hid hi)] at this
    simp only [Bool.and_eq_true] at this
    exact this.1
  · have := h0.2 (k + 1) (List.getElem?_eq_some_iff.1 hy).1
    unfold watchAt at this
    rw [getD_of (d := 0) (Go.Lib.hid hy), Nat.add_sub_cancel, getD_of (d := 0) (Go.Lib.hid hx)] at this
    simpa using (Bool.and_eq_true_iff.1 this).2
theorem asc_ge {ws : List Int} (h0 : ∀ r ∈ ws, (0 : Int) ≤ r) (h : ∀ k x y, ws[k]? = some x → ws[k + 1]? = some y → x < y) : ∀ (k : Nat) (x : Int), ws[k]? = some x → (k : Int) ≤ x
  | 0, x, hx => by simpa using h0 x (List.mem_of_getElem? hx)
  | k + 1, x, hx => by
    have hk := (List.getElem?_eq_some_iff.1 hx).1
    have h1 := asc_ge h0 h k ws[k] (List.getElem?_eq_getElem (by omega))
    have h2 := h k ws[k] x (List.getElem?_eq_getElem (by omega)) hx
    omega
theorem mWatched_len {h : Hp} {ws : List Int} (h0 : mWatchedValid h ws = true) : ws.length ≤ 40 := by
  obtain ⟨h1, h2, h3⟩ := mWatched_parts h0
  obtain ⟨h4, -⟩ := heapOk_small h1
  rcases Nat.eq_zero_or_pos ws.length with h5 | h5
  · omega
  · have hl : ws[ws.length - 1]? = some (ws[ws.length - 1]'(by omega)) := List.getElem?_eq_getElem _
    have h6 := asc_ge (fun r hr => (usedB_parts (h2 r hr)).1) h3 _ _ hl
    have h7 := (usedB_parts (h2 _ (List.mem_of_getElem? hl))).2.1
    omega
theorem mKeptWatched_len (h : Hp) (ws : List Int) : (mKeptWatched h ws).length ≤ 1048576 := by
  unfold mKeptWatched
  split
  · rename_i h0
    obtain ⟨h1, -⟩ := heapOk_small (mWatched_parts h0).1
    rw [reachL_length]; omega
  · simp
set_option maxHeartbeats 1600000 in
set_option maxRecDepth 20000 in
theorem implKeptWatched_any (w : World) (B B' : Nat) (v : Value) (h : Hp) (A : Option Addr) (n c : Nat) (ws : List Int) (hh : RdH w B v h) (hr : RdI w B' A n c ws) :
    Calls Try.prog 19 #[v, .slice A n c] w (MadeB w (mKeptWatched h ws)) := by
  have hh' := hh.top
  have hr := hr.top
  obtain ⟨D, m, d, D', m', d', rfl, hC, hR⟩ := hh.top
  have l1 := RdI.le1 hr; have l2 := RdI.le2 hr
  have l3 := hC.le1; have l4 := hC.le2
  have l5 := RdI.le1 hR; have l6 := RdI.le2 hR
  have H1 := (Owns.nil w).box [.slice D m d, .slice D' m' d'] 26
  go_enter Try.func19, Try.ntmps19
  go_wp2_with fail
  refine (implWatchedValid_any _ _ _ _ h _ _ _ ws (hh'.below H1.below) (hr.below H1.below)).mono ?_
  rintro e w1 ⟨rfl, hb1⟩
  have H2 := H1.call hb1
  obtain ⟨a0, a1, -, -⟩ := H2.box2 0 rfl
  clear H1 hb1
  cases hy : mWatchedValid h ws
  · have HF := Go.Lib.hid (mKept_no hy)
    clear hy
    go_wp2
    go_ret
    rw [HF.out]
    exact H2.noBools.toB 0 rfl
  · have s0 := mWatched_len hy
    obtain ⟨s4, s5⟩ := heapOk_small (mWatched_parts hy).1
    replace s5 := Nat.le_of_eq s5
    have HF := Go.Lib.hid (mKept_yes hy)
    have HL := Go.Lib.hid (list_clos (h := h) (fr := h.roots ++ ws) (n := m) (by omega) (by omega))
    have HM := Go.Lib.hid (closM_lt h.cells (usedM h.cells) (h.roots ++ ws))
    clear hy
    have HX := H2.drew
    obtain ⟨b0, b1, -, -⟩ := HX.box2 0 rfl
    go_wp2_with fail
    refine wp_region_tree (fun w' => w'.cell? ⟨w.heap.size, 0, none⟩ = some (.slice D m d) ∧ w'.cell? ⟨w.heap.size, 1, none⟩ = some (.slice D' m' d')) 14 [] (.take 0 (.take 1 (.take 2 (.take 4 (.take 6 (.take 9 (.take 10 (.take 11 (.alt 3 (.alt 5 (.alt 7 (.alt 8 (.alt 12 (.take 13 (.done)) (.stop)) (.stop)) (.stop)) (.stop)) (.stop)))))))))) (by kernel_rfl) (by kernel_rfl) (by kernel_rfl) (⟨b0, b1⟩) ?_
    simp only [fillT, List.getElem?_cons_zero, List.getElem?_cons_succ, Nat.reduceBEq]
    repeat (first
      | (with_reducible refine po_take (v := ?_) ?_ (fun w' hS' => ?_) ?_
         rotate_left
         · (go_simp; done)
         · ((try dsimp only at hS'); go_simp; try with_reducible rfl)
         simp only [Act.put, List.setIfInBounds_toArray, List.set_cons_zero, List.set_cons_succ])
      | (with_reducible refine po_skip ?_ ?_
         · (go_simp; done)
         simp only [Act.put, List.setIfInBounds_toArray, List.set_cons_zero, List.set_cons_succ]))
    with_reducible refine po_run ?_ (fun K hK => ?_) ?_
    · (go_simp; done)
    rotate_left
    · exact po_stop
    go_simp
    refine (clone_any _ _ _ _ _ h.roots (hR.below HX.below) (by omega)).mono ?_
    rintro e w3 ⟨v3, rfl, ho, hb⟩
    obtain ⟨A3, k3, rfl, -⟩ := ho.form
    replace HX := HX.madeI ho hb
    replace b0 := keept b0 hb
    replace b1 := keept b1 hb
    refine hK.out _ _ (.inr (⟨b0, b1⟩)) ?_
    clear hK K
    with_reducible refine po_run ?_ (fun K hK => ?_) ?_
    · (go_simp; done)
    rotate_left
    · exact po_stop
    refine wp_pushO (.tmp 12) (.tmp 13) rfl HX 0 rfl rfl rfl (hr.below HX.below) (by omega) ?_
    clear HX b0 b1
    intro A5 k5 w5 HX
    obtain ⟨b0, b1, -, -⟩ := HX.box2 1 rfl
    refine hK.out _ _ (.inr (⟨b0, b1⟩)) ?_
    clear hK K
    with_reducible refine po_run ?_ (fun K hK => ?_) ?_
    · (go_simp; done)
    rotate_left
    · exact po_stop
    go_simp
    refine (usedSet_any _ _ _ h (hh'.below HX.below) (by omega)).mono ?_
    rintro e w7 ⟨rfl, hb⟩
    replace HX := HX.call hb
    replace b0 := keept b0 hb
    replace b1 := keept b1 hb
    refine hK.out _ _ (.inr (⟨b0, b1⟩)) ?_
    clear hK K
    with_reducible refine po_run ?_ (fun K hK => ?_) ?_
    · (go_simp; done)
    rotate_left
    · exact po_stop
    go_simp
    refine (closure_any _ _ _ _ h _ _ _ (h.roots ++ ws) (usedM h.cells) (hh'.below HX.below) (by simpa using (HX.owI 0 rfl).rdI) (usedM_lt _) fun c hc => usedN_lt (by rwa [usedM_bit (by omega)] at hc)).mono ?_
    rintro e w8 ⟨rfl, hb⟩
    replace HX := HX.call hb
    replace b0 := keept b0 hb
    replace b1 := keept b1 hb
    refine hK.out _ _ (.inr (⟨b0, b1⟩)) ?_
    clear hK K
    with_reducible refine po_run ?_ (fun K hK => ?_) ?_
    · (go_simp; done)
    rotate_left
    · exact po_stop
    go_simp
    refine (list_any _ m _ HM.out (by omega)).mono ?_
    rintro e w9 ⟨v9, rfl, ho9, hb⟩
    rw [HL.out, ← HF.out] at ho9
    replace HX := HX.madeB ho9 hb
    refine hK.out _ _ (.inr (⟨keept b0 hb, keept b1 hb⟩)) ?_
    clear hK K
    repeat (first
      | (with_reducible refine po_take (v := ?_) ?_ (fun w' hS' => ?_) ?_
         rotate_left
         · (go_simp; done)
         · ((try dsimp only at hS'); go_simp; try with_reducible rfl)
         simp only [Act.put, List.setIfInBounds_toArray, List.set_cons_zero, List.set_cons_succ])
      | (with_reducible refine po_skip ?_ ?_
         · (go_simp; done)
         simp only [Act.put, List.setIfInBounds_toArray, List.set_cons_zero, List.set_cons_succ]))
    refine po_done ?_
    clear b0 b1 a0 a1 ho9 hb
    go_wp2
    go_ret
    exact HX.toB 0 rfl
set_option maxHeartbeats 1600000 in
set_option maxRecDepth 20000 in
theorem specKeptWatched_any (w : World) (B B' : Nat) (v : Value) (h : Hp) (A : Option Addr) (n c : Nat) (ws : List Int) (hh : RdH w B v h) (hr : RdI w B' A n c ws) :
    Calls Try.prog 21 #[v, .slice A n c] w (MadeB w (mKeptWatched h ws)) := by
  have hh' := hh.top
  have hr := hr.top
  obtain ⟨D, m, d, D', m', d', rfl, hC, hR⟩ := hh.top
  have l1 := RdI.le1 hr; have l2 := RdI.le2 hr
  have l3 := hC.le1; have l4 := hC.le2
  have l5 := RdI.le1 hR; have l6 := RdI.le2 hR
  have H1 := (Owns.nil w).box [.slice D m d, .slice D' m' d'] 26
  go_enter Try.func21, Try.ntmps21
  go_wp2_with fail
  refine (specWatchedValid_any _ _ _ _ h _ _ _ ws (hh'.below H1.below) (hr.below H1.below)).mono ?_
  rintro e w1 ⟨rfl, hb1⟩
  have H2 := H1.call hb1
  obtain ⟨a0, a1, -, -⟩ := H2.box2 0 rfl
  clear H1 hb1
  cases hy : mWatchedValid h ws
  · have HF := Go.Lib.hid (mKept_no hy)
    clear hy
    go_wp2
    go_ret
    rw [HF.out]
    exact (H2.lit [] 4 zero_le_maxLen).toB 0 rfl
  · have s0 := mWatched_len hy
    obtain ⟨s1, s2, -⟩ := mWatched_parts hy
    obtain ⟨s4, s5⟩ := heapOk_small s1
    replace s5 := Nat.le_of_eq s5
    obtain ⟨s6, s7⟩ := heapOk_leads s1
    have HF := Go.Lib.hid (mKept_yes hy)
    have HV := Go.Lib.hid s7
    have HR := Go.Lib.hid (show ∀ r ∈ h.roots ++ ws, leadsB h.cells r = true from fun r hr => (List.mem_append.1 hr).elim (s6 r) fun hr => (usedB_parts (s2 r hr)).2.2.2)
    clear hy s1 s2 s6 s7
    have HX := H2.drew
    obtain ⟨b0, b1, -, -⟩ := HX.box2 0 rfl
    go_wp2_with fail
    refine wp_region_tree (fun w' => w'.cell? ⟨w.heap.size, 0, none⟩ = some (.slice D m d) ∧ w'.cell? ⟨w.heap.size, 1, none⟩ = some (.slice D' m' d')) 9 [] (.take 0 (.take 2 (.take 3 (.take 5 (.alt 1 (.alt 4 (.alt 6 (.alt 7 (.take 8 (.done)) (.stop)) (.stop)) (.stop)) (.stop)))))) (by kernel_rfl) (by kernel_rfl) (by kernel_rfl) (⟨b0, b1⟩) ?_
    simp only [fillT, List.getElem?_cons_zero, List.getElem?_cons_succ, Nat.reduceBEq]
    repeat (first
      | (with_reducible refine po_take (v := ?_) ?_ (fun w' hS' => ?_) ?_
         rotate_left
         · (go_simp; done)
         · ((try dsimp only at hS'); go_simp; try with_reducible rfl)
         simp only [Act.put, List.setIfInBounds_toArray, List.set_cons_zero, List.set_cons_succ])
      | (with_reducible refine po_skip ?_ ?_
         · (go_simp; done)
         simp only [Act.put, List.setIfInBounds_toArray, List.set_cons_zero, List.set_cons_succ]))
    with_reducible refine po_run ?_ (fun K hK => ?_) ?_
    · (go_simp; done)
    rotate_left
    · exact po_stop
    go_simp
    replace HX := HX.litI [] zero_le_maxLen
    replace b0 := keept b0 (below_alloc _ (.cells #[] 3))
    replace b1 := keept b1 (below_alloc _ (.cells #[] 3))
    refine hK.out _ _ (.inr (⟨b0, b1⟩)) ?_
    clear hK K
    with_reducible refine po_run ?_ (fun K hK => ?_) ?_
    · (go_simp; done)
    rotate_left
    · exact po_stop
    refine wp_pushO (.tmp 11) (.tmp 13) rfl HX 0 rfl rfl rfl (hR.below HX.below) (by simp; omega) ?_
    clear HX b0 b1
    intro A5 k5 w5 HX
    obtain ⟨b0, b1, -, -⟩ := HX.box2 1 rfl
    simp only [List.nil_append, List.set_cons_zero] at HX
    simp only [List.nil_append]
    refine hK.out _ _ (.inr (⟨b0, b1⟩)) ?_
    clear hK K
    with_reducible refine po_run ?_ (fun K hK => ?_) ?_
    · (go_simp; done)
    rotate_left
    · exact po_stop
    refine wp_pushO (.tmp 14) (.tmp 15) rfl HX 0 rfl rfl rfl (hr.below HX.below) (by omega) ?_
    clear HX b0 b1
    intro A5 k5 w5 HX
    obtain ⟨b0, b1, -, -⟩ := HX.box2 1 rfl
    refine hK.out _ _ (.inr (⟨b0, b1⟩)) ?_
    clear hK K
    with_reducible refine po_run ?_ (fun K hK => ?_) ?_
    · (go_simp; done)
    rotate_left
    · exact po_stop
    go_simp
    refine (l7Reach_any _ _ _ _ h _ _ _ (h.roots ++ ws) (hh'.below HX.below) (by simpa using (HX.owI 0 rfl).rdI) (by omega) HR.out HV.out).mono ?_
    rintro e w9 ⟨v9, rfl, ho9, hb⟩
    rw [← HF.out] at ho9
    replace HX := HX.madeB ho9 hb
    refine hK.out _ _ (.inr (⟨keept b0 hb, keept b1 hb⟩)) ?_
    clear hK K
    repeat (first
      | (with_reducible refine po_take (v := ?_) ?_ (fun w' hS' => ?_) ?_
         rotate_left
         · (go_simp; done)
         · ((try dsimp only at hS'); go_simp; try with_reducible rfl)
         simp only [Act.put, List.setIfInBounds_toArray, List.set_cons_zero, List.set_cons_succ])
      | (with_reducible refine po_skip ?_ ?_
         · (go_simp; done)
         simp only [Act.put, List.setIfInBounds_toArray, List.set_cons_zero, List.set_cons_succ]))
    refine po_done ?_
    clear b0 b1 a0 a1 ho9 hb
    go_wp2
    go_ret
    exact HX.toB 0 rfl
end Go.Proofs.Ytjpfgbckmcjjaaa
