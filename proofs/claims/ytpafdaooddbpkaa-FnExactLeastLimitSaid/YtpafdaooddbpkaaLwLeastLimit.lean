/- The law FnExactLeastLimit returns true for every program that can be read. Printed by genpk.py. -/
import Derived.Test.YtpafdaooddbpkaaL3
import Derived.Test.YtpafdaooddbpkaaL4
import Derived.Test.YtpafdaooddbpkaaCc
namespace Go.Proofs.Ytpafdaooddbpkaa
open Go.RowKit
set_option maxHeartbeats 3200000 in
set_option maxRecDepth 20000 in
theorem lawLeastLimit_any (w : World) {B : Nat} {A : Option Addr} {n c : Nat} {cs : List Cmd} (hr : RdQ w B A n c cs) :
    Calls Try.prog 7 #[.slice A n c] w fun e w' => e = .returned (.bool true) ∧ Below w.heap.size w w' := by
  have hr := hr.top
  have hm : n ≤ maxLen := Nat.le_trans hr.cap hr.mx
  have H := Owns.nil w
  have HB := H.below
  go_enter Try.func7, Try.ntmps7
  go_wp2_with fail
  refine (szCommands_any A n c 1048576 _ hm (by omega) (by omega)).mono ?_
  rintro e w1 ⟨rfl, hw⟩
  obtain rfl := hw
  by_cases hz : (n : Int) ≤ 1048576
  rotate_left
  · rw [szI_no (by omega)]
    clear hm H
    go_wp2
    go_ret
    exact ⟨rfl, HB⟩
  rw [szI_yes hz]
  have hn : n ≤ 1048576 := by omega
  have HN := Go.Lib.hid hn
  have q0 : ¬ (1048576 - (n : Int)) < 0 := by omega
  clear hm HB
  go_wp2_with fail
  refine (toCommands_any _ _ _ _ _ cs (hr.below H.below) HN.out).mono ?_
  rintro e w2 ⟨v1, rfl, K⟩
  replace H := H.merge K
  simp only [List.cons_append, List.nil_append] at H
  obtain ⟨A1, c1, rfl, h1⟩ := H.formQ 0 rfl
  clear K
  go_wp2_with fail
  refine (specLeastLimit_any _ _ _ _ _ cs h1).mono ?_
  rintro e w3 ⟨rfl, hb⟩
  replace H := H.call hb
  clear hb h1
  go_wp2_with fail
  refine (toCommands_any _ _ _ _ _ cs (hr.below H.below) HN.out).mono ?_
  rintro e w4 ⟨v2, rfl, K⟩
  replace H := H.merge K
  simp only [List.cons_append, List.nil_append] at H
  obtain ⟨A2, c2, rfl, h2⟩ := H.formQ 0 rfl
  clear K
  go_wp2_with fail
  refine (implLeastLimit_any _ _ _ _ _ cs h2).mono ?_
  rintro e w5 ⟨rfl, hb⟩
  replace H := H.call hb
  clear hb h2
  obtain ⟨R, hR⟩ : ∃ R, R = mLeast cs := ⟨_, rfl⟩
  rw [← hR]
  clear hR
  go_wp2_with fail
  refine (toCommands_any _ _ _ _ _ cs (hr.below H.below) HN.out).mono ?_
  rintro e w6 ⟨v3, rfl, K⟩
  replace H := H.merge K
  simp only [List.cons_append, List.nil_append] at H
  obtain ⟨A3, c3, rfl, h3⟩ := H.formQ 0 rfl
  obtain ⟨A4, c4, e4, h4⟩ := H.formQ 1 rfl
  simp only [Value.slice.injEq, true_and] at e4
  obtain ⟨rfl, rfl⟩ := e4
  clear K
  go_wp2_with fail
  refine (eqCommands_any _ _ _ _ _ _ _ _ _ cs h4 h3).mono ?_
  rintro e w7 ⟨rfl, hb⟩
  have HB := (H.call hb).below
  clear H hb h3 h4
  go_wp2
  go_ret
  exact ⟨rfl, HB⟩
end Go.Proofs.Ytpafdaooddbpkaa
