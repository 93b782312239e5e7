/- Whether an instruction is possible on a heap: the reference's test, for everything that can be read. -/
import Derived.Test.YtjpfgbckmcjjaaaCe
namespace Go.Proofs.Ytjpfgbckmcjjaaa
open Go.RowKit
theorem mPoss_no1 {h : Hp} {o : Cmd} (h1 : heapOk h = false) : mPoss h o = false := by simp [mPoss, h1]
theorem mPoss_no2 {h : Hp} {o : Cmd} (h1 : cmdOk o = false) : mPoss h o = false := by simp [mPoss, h1]
theorem mPoss_yes {h : Hp} {o : Cmd} (h1 : heapOk h = true) (h2 : cmdOk o = true) : mPoss h o = possB h o := by simp [mPoss, h1, h2]
theorem rootI_of {h : Hp} {k : Nat} {x : Int} (hx : Hid (h.roots[k]? = some x)) : rootI h (k : Int) = x := by
  unfold rootI; rw [Int.toNat_natCast, getD_of hx]
theorem cmd_a {o : Cmd} (h : cmdOk o = true) : 0 ≤ o.a ∧ o.a ≤ 3 := by
  unfold cmdOk at h
  split at h
  · simp only [Bool.and_eq_true] at h; exact inR_iff.1 h.1.1
  split at h
  · simp only [Bool.and_eq_true] at h; exact inR_iff.1 h.1.1
  split at h
  · simp only [Bool.and_eq_true] at h; exact inR_iff.1 h.1.1
  split at h
  · simp only [Bool.and_eq_true] at h; exact inR_iff.1 h.1.1
  split at h
  · simp only [Bool.and_eq_true] at h; exact inR_iff.1 h.1.1
  split at h
  · simp only [Bool.and_eq_true] at h; exact inR_iff.1 h.1.1
  · cases h
theorem cmd_b {o : Cmd} (h : cmdOk o = true) (h2 : o.op = 2 ∨ o.op = 3 ∨ o.op = 4) : 0 ≤ o.b ∧ o.b ≤ 3 := by
  obtain ⟨op, a, b, c⟩ := o
  simp only at h2
  rcases h2 with rfl | rfl | rfl
  · rw [cmdOk2] at h; simp only [Bool.and_eq_true] at h; exact inR_iff.1 h.1.2
  · rw [cmdOk3] at h; simp only [Bool.and_eq_true] at h; exact inR_iff.1 h.1.2
  · rw [cmdOk4] at h; simp only [Bool.and_eq_true] at h; exact inR_iff.1 h.1.2
theorem cmd_c {o : Cmd} (h : cmdOk o = true) (h2 : o.op = 2 ∨ o.op = 3) : 0 ≤ o.c ∧ o.c ≤ 2 := by
  obtain ⟨op, a, b, c⟩ := o
  simp only at h2
  rcases h2 with rfl | rfl
  · rw [cmdOk2] at h; simp only [Bool.and_eq_true] at h; exact inR_iff.1 h.2
  · rw [cmdOk3] at h; simp only [Bool.and_eq_true] at h; exact inR_iff.1 h.2
theorem good_rootLt {h : Hp} (g : Good h) (k : Int) : rootI h k < h.cells.length := by
  rcases leadsB_iff.1 (g.rootI k) with e | ⟨h0, h1⟩
  · omega
  · have := usedN_lt h1; omega
set_option maxHeartbeats 3200000 in
theorem specPossible_any (w : World) (B : Nat) (v : Value) (h : Hp) (hh : RdH w B v h) (o : Cmd) :
    Calls Try.prog 131 #[v, cmdV o] w fun e w' => e = .returned (.bool (mPoss h o)) ∧ Below w.heap.size w w' := by
  have hh' := hh.top
  obtain ⟨D, m, d, D', m', d', rfl, hC, hR⟩ := hh.top
  have l3 := RdI.le1 hR; have l4 := RdI.le2 hR
  have hca := @cmd_a o
  have hcb := @cmd_b o
  obtain ⟨op, a, b, c⟩ := o
  simp only at hca hcb
  have HCA := Go.Lib.hid hca
  have HCB := Go.Lib.hid hcb
  clear hca hcb
  have H := ((Owns.nil w).box [.slice D m d, .slice D' m' d'] 26).box [.int .i64 op, .int .i64 a, .int .i64 b, .int .i64 c] 138
  simp only [World.size_alloc] at H
  obtain ⟨a0, a1, -, -⟩ := H.box2 1 rfl
  obtain ⟨b0, b1, b2, b3, -, -, -, -⟩ := box4 H 0 rfl
  go_enter Try.func131, Try.ntmps131
  go_wp2_with fail
  refine (specHeapValid_any _ _ _ h (hh'.below H.below)).mono ?_
  rintro e w1 ⟨rfl, hb⟩
  replace H := H.call hb
  clear hb a0 a1 b0 b1 b2 b3
  cases hy : heapOk h
  · have HF := Go.Lib.hid (mPoss_no1 (o := ⟨op, a, b, c⟩) hy)
    have HB := H.below
    clear H hy
    go_wp2
    go_ret
    exact ⟨ret_b HF.out.symm, HB⟩
  obtain ⟨a0, a1, -, -⟩ := H.box2 1 rfl
  obtain ⟨b0, b1, b2, b3, -, -, -, -⟩ := box4 H 0 rfl
  go_wp2_with fail
  refine (specCommandValid_any ⟨op, a, b, c⟩ _).mono ?_
  rintro e w2 ⟨rfl, hb⟩
  replace H := H.call hb
  clear hb a0 a1 b0 b1 b2 b3
  cases hc : cmdOk ⟨op, a, b, c⟩
  · have HF := Go.Lib.hid (mPoss_no2 (h := h) hc)
    have HB := H.below
    clear H hy hc
    go_wp2
    go_ret
    exact ⟨ret_b HF.out.symm, HB⟩
  have g := good_iff.1 hy
  have h4 := g.roots
  have hP := mPoss_yes hy hc
  have hA := HCA.out hc
  have HP := Go.Lib.hid hP
  have HC := Go.Lib.hid hc
  clear hy hc hP HCA
  obtain ⟨an, rfl⟩ := Int.eq_ofNat_of_zero_le hA.1
  obtain ⟨a0, a1, -, -⟩ := H.box2 1 rfl
  obtain ⟨b0, b1, b2, b3, -, -, -, -⟩ := box4 H 0 rfl
  have H4 := Go.Lib.hid h4
  have hm4 : 4 ≤ m' := by omega
  have han : an < m' := by omega
  clear h4
  by_cases h2 : op = 2
  · subst h2
    have hB := HCB.out HC.out (.inl rfl)
    obtain ⟨bn, rfl⟩ := Int.eq_ofNat_of_zero_le hB.1
    obtain ⟨bb, oo, x, rfl, hbb, hx, q1⟩ := RdI.at_ hR (show bn < m' by omega)
    have q2 := H.ro q1 hbb
    have hrx := rootI_of hx
    have hxl : x < h.cells.length := by rw [← hrx]; exact good_rootLt g _
    have HF : Hid (mPoss h ⟨2, an, bn, c⟩ = placeB h x c) := Go.Lib.hid (by rw [HP.out, ← hrx]; simp [possB])
    have hbm : bn < m' := by omega
    clear hrx hB
    have GG := Go.Lib.hid g
    have H0 := Go.Lib.hid H
    clear H g hA q1
    go_wp2_with fail
    have HX := H0.out.drew
    replace a0 := keepd a0 (Below.refl _ _)
    replace a1 := keepd a1 (Below.refl _ _)
    replace b0 := keepd b0 (Below.refl _ _)
    replace b1 := keepd b1 (Below.refl _ _)
    replace b2 := keepd b2 (Below.refl _ _)
    replace b3 := keepd b3 (Below.refl _ _)
    replace q2 := keepd q2 (Below.refl _ _)
    refine wp_region_tree (fun w' => (w'.cell? ⟨w.heap.size, 0, none⟩ = some (.slice D m d) ∧ w'.cell? ⟨w.heap.size, 1, none⟩ = some (.slice (some ⟨bb, oo, none⟩) m' d')) ∧ w'.cell? ⟨w.heap.size + 1, 1, none⟩ = some (.int .i64 an) ∧ w'.cell? ⟨w.heap.size + 1, 2, none⟩ = some (.int .i64 bn) ∧ w'.cell? ⟨w.heap.size + 1, 3, none⟩ = some (.int .i64 c) ∧ w'.cell? ⟨bb, oo + bn, none⟩ = some (.int .i64 x)) 11 [] (.take 0 (.take 1 (.take 2 (.take 3 (.take 4 (.take 5 (.take 6 (.take 7 (.take 8 (.alt 9 (.take 10 (.done)) (.stop))))))))))) (by kernel_rfl) (by kernel_rfl) (by kernel_rfl) (⟨⟨a0, a1⟩, b1, b2, b3, q2⟩) ?_
    simp only [fillT, List.getElem?_cons_zero, List.getElem?_cons_succ, Nat.reduceBEq]
    repeat (first
      | (with_reducible refine po_take (v := ?_) ?_ (fun w' hS' => ?_) ?_
         rotate_left
         · (go_simp; done)
         · ((try dsimp only at hS'); go_simp; try with_reducible rfl)
         simp only [Act.put, List.setIfInBounds_toArray, List.set_cons_zero, List.set_cons_succ])
      | (with_reducible refine po_skip ?_ ?_
         · (go_simp; done)
         simp only [Act.put, List.setIfInBounds_toArray, List.set_cons_zero, List.set_cons_succ]))
    with_reducible refine po_run ?_ (fun K hK => ?_) ?_
    · (go_simp; done)
    rotate_left
    · exact po_stop
    go_simp
    refine (l8Place_any _ _ _ h (hh'.below HX.below) x c hxl).mono ?_
    rintro e w3 ⟨rfl, hb⟩
    rw [← HF.out]
    replace HX := HX.call hb
    refine hK.out _ _ (.inr (⟨⟨keept a0 hb, keept a1 hb⟩, keept b1 hb, keept b2 hb, keept b3 hb, keept q2 hb⟩)) ?_
    clear hK K
    clear hb a0 a1 b0 b1 b2 b3 q2
    repeat (first
      | (with_reducible refine po_take (v := ?_) ?_ (fun w' hS' => ?_) ?_
         rotate_left
         · (go_simp; done)
         · ((try dsimp only at hS'); go_simp; try with_reducible rfl)
         simp only [Act.put, List.setIfInBounds_toArray, List.set_cons_zero, List.set_cons_succ])
      | (with_reducible refine po_skip ?_ ?_
         · (go_simp; done)
         simp only [Act.put, List.setIfInBounds_toArray, List.set_cons_zero, List.set_cons_succ]))
    refine po_done ?_
    have HB := HX.below
    clear HX H0
    go_wp2
    go_ret
    exact ⟨rfl, HB⟩
  by_cases h3 : op = 3
  · subst h3
    obtain ⟨bb, oo, x, rfl, hbb, hx, q1⟩ := RdI.at_ hR han
    have q2 := H.ro q1 hbb
    have hrx := rootI_of hx
    have hxl : x < h.cells.length := by rw [← hrx]; exact good_rootLt g _
    have HF : Hid (mPoss h ⟨3, an, b, c⟩ = placeB h x c) := Go.Lib.hid (by rw [HP.out, ← hrx]; simp [possB])
    clear hrx h2
    have GG := Go.Lib.hid g
    have H0 := Go.Lib.hid H
    clear H g hA q1
    go_wp2_with fail
    have HX := H0.out.drew
    replace a0 := keepd a0 (Below.refl _ _)
    replace a1 := keepd a1 (Below.refl _ _)
    replace b0 := keepd b0 (Below.refl _ _)
    replace b1 := keepd b1 (Below.refl _ _)
    replace b2 := keepd b2 (Below.refl _ _)
    replace b3 := keepd b3 (Below.refl _ _)
    replace q2 := keepd q2 (Below.refl _ _)
    refine wp_region_tree (fun w' => (w'.cell? ⟨w.heap.size, 0, none⟩ = some (.slice D m d) ∧ w'.cell? ⟨w.heap.size, 1, none⟩ = some (.slice (some ⟨bb, oo, none⟩) m' d')) ∧ w'.cell? ⟨w.heap.size + 1, 1, none⟩ = some (.int .i64 an) ∧ w'.cell? ⟨w.heap.size + 1, 2, none⟩ = some (.int .i64 b) ∧ w'.cell? ⟨w.heap.size + 1, 3, none⟩ = some (.int .i64 c) ∧ w'.cell? ⟨bb, oo + an, none⟩ = some (.int .i64 x)) 11 [] (.take 0 (.take 1 (.take 2 (.take 3 (.take 4 (.take 5 (.take 6 (.take 7 (.take 8 (.alt 9 (.take 10 (.done)) (.stop))))))))))) (by kernel_rfl) (by kernel_rfl) (by kernel_rfl) (⟨⟨a0, a1⟩, b1, b2, b3, q2⟩) ?_
    simp only [fillT, List.getElem?_cons_zero, List.getElem?_cons_succ, Nat.reduceBEq]
    repeat (first
      | (with_reducible refine po_take (v := ?_) ?_ (fun w' hS' => ?_) ?_
         rotate_left
         · (go_simp; done)
         · ((try dsimp only at hS'); go_simp; try with_reducible rfl)
         simp only [Act.put, List.setIfInBounds_toArray, List.set_cons_zero, List.set_cons_succ])
      | (with_reducible refine po_skip ?_ ?_
         · (go_simp; done)
         simp only [Act.put, List.setIfInBounds_toArray, List.set_cons_zero, List.set_cons_succ]))
    with_reducible refine po_run ?_ (fun K hK => ?_) ?_
    · (go_simp; done)
    rotate_left
    · exact po_stop
    go_simp
    refine (l8Place_any _ _ _ h (hh'.below HX.below) x c hxl).mono ?_
    rintro e w3 ⟨rfl, hb⟩
    rw [← HF.out]
    replace HX := HX.call hb
    refine hK.out _ _ (.inr (⟨⟨keept a0 hb, keept a1 hb⟩, keept b1 hb, keept b2 hb, keept b3 hb, keept q2 hb⟩)) ?_
    clear hK K
    clear hb a0 a1 b0 b1 b2 b3 q2
    repeat (first
      | (with_reducible refine po_take (v := ?_) ?_ (fun w' hS' => ?_) ?_
         rotate_left
         · (go_simp; done)
         · ((try dsimp only at hS'); go_simp; try with_reducible rfl)
         simp only [Act.put, List.setIfInBounds_toArray, List.set_cons_zero, List.set_cons_succ])
      | (with_reducible refine po_skip ?_ ?_
         · (go_simp; done)
         simp only [Act.put, List.setIfInBounds_toArray, List.set_cons_zero, List.set_cons_succ]))
    refine po_done ?_
    have HB := HX.below
    clear HX H0
    go_wp2
    go_ret
    exact ⟨rfl, HB⟩
  by_cases h6 : op = 6
  · subst h6
    obtain ⟨bb, oo, x, rfl, hbb, hx, q1⟩ := RdI.at_ hR han
    have q2 := H.ro q1 hbb
    have hrx := rootI_of hx
    have HF : Hid (mPoss h ⟨6, an, b, c⟩ = decide (0 ≤ x)) := Go.Lib.hid (by rw [HP.out, ← hrx]; simp [possB])
    have HB := H.below
    clear hrx h2 h3 g hA q1 H
    go_wp2
    go_ret
    exact ⟨ret_b HF.out.symm, HB⟩
  · have HF : Hid (mPoss h ⟨op, an, b, c⟩ = true) := Go.Lib.hid (by rw [HP.out]; simp [possB, h2, h3, h6])
    have HB := H.below
    clear g hA H
    go_wp2
    go_ret
    exact ⟨ret_b HF.out.symm, HB⟩
end Go.Proofs.Ytjpfgbckmcjjaaa
