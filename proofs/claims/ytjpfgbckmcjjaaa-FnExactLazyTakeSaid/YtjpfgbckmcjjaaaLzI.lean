/- LazyValid, the program's: it returns mLzValid, for every lazy heap that can be read. -/
import Derived.Test.YtjpfgbckmcjjaaaLz
import Derived.Test.YtjpfgbckmcjjaaaDc
import Derived.Test.YtjpfgbckmcjjaaaClo
namespace Go.Proofs.Ytjpfgbckmcjjaaa
open Go.RowKit
set_option maxHeartbeats 3200000 in
set_option maxRecDepth 20000 in
theorem implLazyValid_any (w : World) (B : Nat) (v : Value) (l : Lz) (hh : RdZ w B v l) :
    Calls Try.prog 41 #[v] w fun e w' => e = .returned (.bool (mLzValid l)) ∧ Below w.heap.size w w' := by
  have hh' := hh.top
  obtain ⟨D, m, d, D', m', d', E, q, f, rfl, hC, hR, hM⟩ := hh.top
  have l1 := hC.le1; have l2 := hC.le2
  have l3 := RdB.le1 hM; have l4 := RdB.le2 hM
  have hH : RdH w w.heap.size (.agg #[.slice D m d, .slice D' m' d']) l.store := ⟨_, _, _, _, _, _, rfl, hC, hR⟩
  have H := (Owns.nil w).box [.slice D m d, .slice D' m' d', .slice E q f, .int .i64 l.at_] 50
  go_enter Try.func41, Try.ntmps41
  go_wp2_with fail
  refine (heapValid_any _ _ _ l.store (hH.below H.below)).mono ?_
  rintro e w1 ⟨rfl, hb⟩
  have H1 := H.call hb
  clear H hb
  obtain ⟨x0, x1, x2, x3, -, -, -, -⟩ := box4 H1 0 rfl
  have HD := H1.below
  cases hy : heapOk l.store
  · have HF := Go.Lib.hid (lz_no (l := l) (by unfold lzHead; rw [hy]; rfl))
    clear hy
    go_wp2
    go_ret
    exact ⟨ret_b HF.out.symm, HD⟩
  by_cases c1 : q = m
  rotate_left
  · have HF := Go.Lib.hid (lz_no (l := l) (by unfold lzHead; rw [decide_eq_false (by omega : ¬ l.marks.length = l.store.cells.length)]; simp))
    have k1 : ((q : Int) != (m : Int)) = true := by simp; omega
    clear hy
    go_wp2
    go_ret
    exact ⟨ret_b HF.out.symm, HD⟩
  subst c1
  by_cases c2 : l.at_ < 0
  · have HF := Go.Lib.hid (lz_no (l := l) (by unfold lzHead; rw [decide_eq_false (by omega : ¬ 0 ≤ l.at_)]; simp))
    clear hy
    go_wp2
    go_ret
    exact ⟨ret_b HF.out.symm, HD⟩
  by_cases c3 : (q : Int) < l.at_
  · have HF := Go.Lib.hid (lz_no (l := l) (by unfold lzHead; rw [decide_eq_false (by omega : ¬ l.at_ ≤ l.marks.length)]; simp))
    clear hy
    go_wp2
    go_ret
    exact ⟨ret_b HF.out.symm, HD⟩
  have hhead : lzHead l = true := by
    unfold lzHead
    rw [hy, decide_eq_true (by omega : l.marks.length = l.store.cells.length), decide_eq_true (by omega : 0 ≤ l.at_), decide_eq_true (by omega : l.at_ ≤ l.marks.length)]; rfl
  obtain ⟨z1, z2, z3, z4, z5⟩ := lz_parts hhead
  obtain ⟨an, han⟩ := Int.eq_ofNat_of_zero_le z3
  obtain ⟨X, hX⟩ : ∃ X, X = closM l.store.cells (usedM l.store.cells) l.store.roots := ⟨_, rfl⟩
  obtain ⟨S, hS⟩ : ∃ S, S = setM l.marks := ⟨_, rfl⟩
  obtain ⟨U, hU⟩ : ∃ U, U = usedM l.store.cells := ⟨_, rfl⟩
  obtain ⟨M, hMm⟩ : ∃ M, M = 2 ^ an - 1 := ⟨_, rfl⟩
  have p1 := lz_one hhead
  have p2 := lz_two hhead
  have p3 := lz_three hhead
  have e1 : l.at_.toNat = an := by omega
  rw [← hX, ← hS] at p1
  rw [← hU, ← hS] at p2
  rw [e1, ← hU, ← hS, ← hMm] at p3
  have HV : Hid (mLzValid l = ((List.range l.marks.length).all (lzA l) && ((List.range l.marks.length).all (lzB l) && (List.range l.marks.length).all (lzC l)))) := Go.Lib.hid ((lz_yes hhead).trans (lz_split l))
  have hU6 : U < 2 ^ 64 := by rw [hU]; exact usedM_lt _
  have hM6 : M < 2 ^ 64 := by rw [hMm]; exact ones_lt (by omega)
  have t1 : Go.bits .andNot .u64 (X : Int) (S : Int) = ((lessB X S : Nat) : Int) := bits_andNot X S
  have t2 : Go.bits .andNot .u64 (S : Int) (U : Int) = ((lessB S U : Nat) : Int) := bits_andNot S U
  have tA : Go.bits .and .u64 (U : Int) (M : Int) = ((U &&& M : Nat) : Int) := bits_and U M hU6 hM6
  have t3 : Go.bits .andNot .u64 ((U &&& M : Nat) : Int) (S : Int) = ((lessB (U &&& M) S : Nat) : Int) := bits_andNot _ S
  obtain ⟨P1, hP1⟩ : ∃ P, P = (List.range l.marks.length).all (lzA l) := ⟨_, rfl⟩
  obtain ⟨P2, hP2⟩ : ∃ P, P = (List.range l.marks.length).all (lzB l) := ⟨_, rfl⟩
  obtain ⟨P3, hP3⟩ : ∃ P, P = (List.range l.marks.length).all (lzC l) := ⟨_, rfl⟩
  rw [← hP1] at p1 HV
  rw [← hP2] at p2 HV
  rw [← hP3] at p3 HV
  generalize lessB (U &&& M) S = O3 at *
  generalize U &&& M = UM at *
  generalize lessB X S = O1 at *
  generalize lessB S U = O2 at *
  have HS3 : Hid (IntKind.u64.wrap (IntKind.u64.wrap ((2 : Int) ^ an) - 1) = (M : Int)) := Go.Lib.hid (by
    have h1 := Nat.two_pow_pos an
    have h2 : (2 : Nat) ^ an ≤ 2 ^ 40 := Nat.pow_le_pow_right (by omega) (by omega)
    have h3 : ((2 : Int) ^ an) = ((2 ^ an : Nat) : Int) := by simp
    rw [h3, u64_wrap _ (by omega), show ((2 ^ an : Nat) : Int) - 1 = ((2 ^ an - 1 : Nat) : Int) by omega, u64_wrap _ (by omega), hMm])
  have HXe := Go.Lib.hid hX
  have HSe := Go.Lib.hid hS
  have HUe := Go.Lib.hid hU
  have hq40 : q ≤ 40 := by omega
  have hl64 : l.store.cells.length ≤ 64 := by omega
  rw [han] at x3
  have c4 : ¬ ((an : Int) < 0) := by omega
  have c5 : ¬ (q < an) := by omega
  have c6 : ¬ ((q : Int) < (an : Int)) := by omega
  clear hy hhead z1 z2 z3 z4 z5 hX hS hU hMm hU6 hM6 hP1 hP2 hP3 c2 c3 e1
  go_wp2_with fail
  have HX := H1.drew
  have H0 := Go.Lib.hid H1
  clear H1 x0 x1 x2 x3
  obtain ⟨x0, x1, x2, x3, -, -, -, -⟩ := box4 HX 0 rfl
  rw [han] at x3
  refine wp_region_tree (fun w' => w'.cell? ⟨w.heap.size, 0, none⟩ = some (.slice D q d) ∧ w'.cell? ⟨w.heap.size, 1, none⟩ = some (.slice D' m' d') ∧ w'.cell? ⟨w.heap.size, 2, none⟩ = some (.slice E q f) ∧ w'.cell? ⟨w.heap.size, 3, none⟩ = some (.int .i64 (an : Int))) 8 [] (.take 0 (.take 1 (.take 3 (.take 4 (.alt 2 (.alt 5 (.take 6 (.take 7 (.done))) (.stop)) (.stop)))))) (by kernel_rfl) (by kernel_rfl) (by kernel_rfl) (⟨x0, x1, x2, x3⟩) ?_
  simp only [fillT, List.getElem?_cons_zero, List.getElem?_cons_succ, Nat.reduceBEq]
  repeat (first
    | (with_reducible refine po_take (v := ?_) ?_ (fun w' hS' => ?_) ?_
       rotate_left
       · (go_simp; done)
       · ((try dsimp only at hS'); go_simp; try with_reducible rfl)
       simp only [Act.put, List.setIfInBounds_toArray, List.set_cons_zero, List.set_cons_succ])
    | (with_reducible refine po_skip ?_ ?_
       · (go_simp; done)
       simp only [Act.put, List.setIfInBounds_toArray, List.set_cons_zero, List.set_cons_succ]))
  with_reducible refine po_run ?_ (fun K hK => ?_) ?_
  · (go_simp; done)
  rotate_left
  · exact po_stop
  go_simp
  refine (usedSet_any _ _ _ l.store (hH.below HX.below) hl64).mono ?_
  rintro e w2 ⟨he, hb⟩
  rw [← HUe.out] at he
  subst he
  replace HX := HX.call hb
  clear hb x0 x1 x2 x3
  obtain ⟨x0, x1, x2, x3, -, -, -, -⟩ := box4 HX 0 rfl
  rw [han] at x3
  refine hK.out _ _ (.inr (⟨x0, x1, x2, x3⟩)) ?_
  clear hK K
  with_reducible refine po_run ?_ (fun K hK => ?_) ?_
  · (go_simp; done)
  rotate_left
  · exact po_stop
  go_simp
  refine (setOf_any _ _ _ _ _ l.marks (hM.below HX.below) (by omega)).mono ?_
  rintro e w3 ⟨he, hb⟩
  rw [← HSe.out] at he
  subst he
  replace HX := HX.call hb
  clear hb x0 x1 x2 x3
  obtain ⟨x0, x1, x2, x3, -, -, -, -⟩ := box4 HX 0 rfl
  rw [han] at x3
  refine hK.out _ _ (.inr (⟨x0, x1, x2, x3⟩)) ?_
  clear hK K
  repeat (first
    | (with_reducible refine po_take (v := ?_) ?_ (fun w' hS' => ?_) ?_
       rotate_left
       · (go_simp; done)
       · ((try dsimp only at hS'); go_simp; try with_reducible rfl)
       simp only [Act.put, List.setIfInBounds_toArray, List.set_cons_zero, List.set_cons_succ])
    | (with_reducible refine po_skip ?_ ?_
       · (go_simp; done)
       simp only [Act.put, List.setIfInBounds_toArray, List.set_cons_zero, List.set_cons_succ]))
  refine po_done ?_
  clear H0
  go_wp2_with fail
  refine (reachable_any _ _ _ l.store (hH.below HX.below) hl64).mono ?_
  rintro e w4 ⟨he, hb⟩
  rw [← HXe.out] at he
  subst he
  have HB := (HX.call hb).below
  clear HX hb x0 x1 x2 x3
  cases P1
  · go_wp2
    go_ret
    exact ⟨ret_b HV.out.symm, HB⟩
  · cases P2
    · go_wp2
      go_ret
      exact ⟨ret_b HV.out.symm, HB⟩
    · have HP := Go.Lib.hid (And.intro tA (And.intro t3 p3))
      clear tA t3 p3
      go_wp2
      go_ret
      exact ⟨ret_b (by rw [HS3.out, HP.out.1, HP.out.2.1, HP.out.2.2, HV.out]; rfl), HB⟩
end Go.Proofs.Ytjpfgbckmcjjaaa
