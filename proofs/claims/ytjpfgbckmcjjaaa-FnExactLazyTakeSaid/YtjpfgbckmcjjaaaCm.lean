/- Valid instructions and programs, the reference's tests; what an instruction does to a heap, in plain words. -/
import Derived.Test.YtjpfgbckmcjjaaaQ
import Derived.Test.YtjpfgbckmcjjaaaZ1
namespace Go.Proofs.Ytjpfgbckmcjjaaa
open Go.RowKit
theorem l1In_b (n lo hi : Int) (w : World) : Calls Try.prog 65 #[.int .i64 n, .int .i64 lo, .int .i64 hi] w fun e w' => e = .returned (.bool (inR n lo hi)) ∧ w = w' := by
  by_cases h1 : lo ≤ n
  · by_cases h2 : n ≤ hi
    · refine (l1In_yes n lo hi w h1 h2).mono ?_
      rintro e w' ⟨rfl, hw⟩
      exact ⟨by simp [inR, h1, h2], hw.symm⟩
    · refine (l1In_no n lo hi w (by omega)).mono ?_
      rintro e w' ⟨rfl, hw⟩
      exact ⟨by simp [inR, h2], hw.symm⟩
  · refine (l1In_no n lo hi w (by omega)).mono ?_
    rintro e w' ⟨rfl, hw⟩
    exact ⟨by simp [inR, h1], hw.symm⟩
theorem cmdOk1 (a b c : Int) : cmdOk ⟨1, a, b, c⟩ = (inR a 0 3 && inR b 0 3 && inR c 0 99) := by simp [cmdOk]
theorem cmdOk2 (a b c : Int) : cmdOk ⟨2, a, b, c⟩ = (inR a 0 3 && inR b 0 3 && inR c 0 2) := by simp [cmdOk]
theorem cmdOk3 (a b c : Int) : cmdOk ⟨3, a, b, c⟩ = (inR a 0 3 && inR b 0 3 && inR c 0 2) := by simp [cmdOk]
theorem cmdOk4 (a b c : Int) : cmdOk ⟨4, a, b, c⟩ = (inR a 0 3 && inR b 0 3 && c == 0) := by simp [cmdOk]
theorem cmdOk5 (a b c : Int) : cmdOk ⟨5, a, b, c⟩ = (inR a 0 3 && b == 0 && c == 0) := by simp [cmdOk]
theorem cmdOk6 (a b c : Int) : cmdOk ⟨6, a, b, c⟩ = (inR a 0 3 && inR b 0 99 && c == 0) := by simp [cmdOk]
theorem cmdOk0 {op : Int} (a b c : Int) (h : op ≠ 1 ∧ op ≠ 2 ∧ op ≠ 3 ∧ op ≠ 4 ∧ op ≠ 5 ∧ op ≠ 6) : cmdOk ⟨op, a, b, c⟩ = false := by simp [cmdOk, h]
set_option maxHeartbeats 3200000 in
theorem specCommandValid_any (o : Cmd) (w : World) : Calls Try.prog 130 #[cmdV o] w fun e w' => e = .returned (.bool (cmdOk o)) ∧ Below w.heap.size w w' := by
  obtain ⟨op, a, b, c⟩ := o
  have H := (Owns.nil w).box [.int .i64 op, .int .i64 a, .int .i64 b, .int .i64 c] 138
  have HB := H.below
  obtain ⟨b0, b1, b2, b3, -, -, -, -⟩ := box4 H 0 rfl
  clear H
  by_cases h1 : op = 1
  · subst h1
    cases ha : inR a 0 3 <;> cases hb : inR b 0 3 <;> cases hc : inR c 0 99
    all_goals
      have e := cmdOk1 a b c
      simp only [ha, hb, hc, Bool.and_true, Bool.and_false] at e
      have HV := Go.Lib.hid e
      clear e
      go_enter Try.func130, Try.ntmps130
      go_wp2_with (((with_reducible refine (l1In_b _ _ _ _).mono ?_); rintro e w' ⟨rfl, hw⟩; obtain rfl := hw))
      go_ret
      exact ⟨ret_b HV.out.symm, HB⟩
  by_cases h2 : op = 2
  · subst h2
    cases ha : inR a 0 3 <;> cases hb : inR b 0 3 <;> cases hc : inR c 0 2
    all_goals
      have e := cmdOk2 a b c
      simp only [ha, hb, hc, Bool.and_true, Bool.and_false] at e
      have HV := Go.Lib.hid e
      clear e
      go_enter Try.func130, Try.ntmps130
      go_wp2_with (((with_reducible refine (l1In_b _ _ _ _).mono ?_); rintro e w' ⟨rfl, hw⟩; obtain rfl := hw))
      go_ret
      exact ⟨ret_b HV.out.symm, HB⟩
  by_cases h3 : op = 3
  · subst h3
    cases ha : inR a 0 3 <;> cases hb : inR b 0 3 <;> cases hc : inR c 0 2
    all_goals
      have e := cmdOk3 a b c
      simp only [ha, hb, hc, Bool.and_true, Bool.and_false] at e
      have HV := Go.Lib.hid e
      clear e
      go_enter Try.func130, Try.ntmps130
      go_wp2_with (((with_reducible refine (l1In_b _ _ _ _).mono ?_); rintro e w' ⟨rfl, hw⟩; obtain rfl := hw))
      go_ret
      exact ⟨ret_b HV.out.symm, HB⟩
  by_cases h4 : op = 4
  · subst h4
    cases ha : inR a 0 3 <;> cases hb : inR b 0 3 <;> cases hc : (c == 0)
    all_goals
      have e := cmdOk4 a b c
      simp only [ha, hb, hc, Bool.and_true, Bool.and_false] at e
      have HV := Go.Lib.hid e
      clear e
      go_enter Try.func130, Try.ntmps130
      go_wp2_with (((with_reducible refine (l1In_b _ _ _ _).mono ?_); rintro e w' ⟨rfl, hw⟩; obtain rfl := hw))
      go_ret
      exact ⟨ret_b HV.out.symm, HB⟩
  by_cases h5 : op = 5
  · subst h5
    cases ha : inR a 0 3 <;> cases hb : (b == 0) <;> cases hc : (c == 0)
    all_goals
      have e := cmdOk5 a b c
      simp only [ha, hb, hc, Bool.and_true, Bool.and_false] at e
      have HV := Go.Lib.hid e
      clear e
      go_enter Try.func130, Try.ntmps130
      go_wp2_with (((with_reducible refine (l1In_b _ _ _ _).mono ?_); rintro e w' ⟨rfl, hw⟩; obtain rfl := hw))
      go_ret
      exact ⟨ret_b HV.out.symm, HB⟩
  by_cases h6 : op = 6
  · subst h6
    cases ha : inR a 0 3 <;> cases hb : inR b 0 99 <;> cases hc : (c == 0)
    all_goals
      have e := cmdOk6 a b c
      simp only [ha, hb, hc, Bool.and_true, Bool.and_false] at e
      have HV := Go.Lib.hid e
      clear e
      go_enter Try.func130, Try.ntmps130
      go_wp2_with (((with_reducible refine (l1In_b _ _ _ _).mono ?_); rintro e w' ⟨rfl, hw⟩; obtain rfl := hw))
      go_ret
      exact ⟨ret_b HV.out.symm, HB⟩
  have HV := Go.Lib.hid (cmdOk0 a b c ⟨h1, h2, h3, h4, h5, h6⟩)
  go_enter Try.func130, Try.ntmps130
  go_wp2_with (((with_reducible refine (l1In_b _ _ _ _).mono ?_); rintro e w' ⟨rfl, hw⟩; obtain rfl := hw))
  go_ret
  exact ⟨ret_b HV.out.symm, HB⟩
end Go.Proofs.Ytjpfgbckmcjjaaa
