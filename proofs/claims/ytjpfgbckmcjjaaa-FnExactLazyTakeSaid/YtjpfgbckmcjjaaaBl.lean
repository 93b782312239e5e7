/- The laws' equality, marking and holding functions on slices of bools. For numbers below 2^40. -/
import Derived.Test.YtjpfgbckmcjjaaaZ0
import Derived.Test.YtjpfgbckmcjjaaaZ1
namespace Go.Proofs.Ytjpfgbckmcjjaaa
open Go.RowKit
def markB (k : Int) : Nat → List Bool
  | 0 => []
  | n + 1 => markB k n ++ [(k + n) % 3 == 0]
theorem markB_length (k : Int) : ∀ n, (markB k n).length = n
  | 0 => rfl
  | n + 1 => by simp [markB, markB_length k n]
theorem markB_at (k : Int) : ∀ (n i : Nat), i < n → (markB k n)[i]? = some ((k + i) % 3 == 0)
  | n + 1, i, h => by
    rcases Nat.lt_or_ge i n with hi | hi
    · rw [markB, List.getElem?_append_left (by rw [markB_length]; exact hi), markB_at k n i hi]
    · obtain rfl : i = n := by omega
      rw [markB, List.getElem?_append_right (by rw [markB_length]; exact Nat.le_refl _), markB_length]; simp
theorem markB_set (k : Int) (xs : List Bool) (j : Nat) (hj : j < xs.length) : ((markB k j ++ xs.drop j).map Value.bool).set j (.bool ((k + j) % 3 == 0)) = (markB k (j + 1) ++ xs.drop (j + 1)).map Value.bool := by
  rw [List.drop_eq_getElem_cons hj, List.map_append, List.set_append_right _ _ (by simp [markB_length]), markB]
  simp only [List.map_cons, List.length_map, markB_length, Nat.sub_self, List.set_cons_zero, List.map_append, List.append_assoc, List.cons_append, List.nil_append]
theorem OwB.only {w w' : World} {lo hi lo' hi' : Nat} {v : Value} {xs : List Bool} (ho : OwB w lo hi v xs) (hO : Only lo' hi' w w') (h : hi ≤ lo' ∨ hi' ≤ lo) : OwB w' lo hi v xs :=
  ⟨own_keep ho.own fun k e => hO.block k (ho.own.lt k e).2 (by have := ho.lt k e; have := (ho.own.lt k e).1; omega), ho.lt⟩
theorem OwB.rdB {w : World} {lo hi : Nat} {A : Option Addr} {n c : Nat} {xs : List Bool} (ho : OwB w lo hi (.slice A n c) xs) : RdB w hi A n c xs := by
  obtain ⟨A', c', e, hr⟩ := ho.form
  injection e with e1 e2 e3
  subst e1 e2 e3
  exact hr
theorem Only.grownB {w w' : World} {lo hi : Nat} {v : Value} {xs : List Bool} (ho : OwB w lo hi v xs) (hg : w.grownBy w' v.ownBlock) : Only lo hi w w' :=
  ⟨hg.os, hg.tape, hg.output, hg.size, fun k hk hn => hg.block k hk fun e => by have := ho.lt k e.symm; have := (ho.own.lt k e.symm).1; omega⟩
theorem eqBools_any (w : World) (B B' : Nat) (A A' : Option Addr) (n n' c c' : Nat) (xs : List Bool) (h1 : RdB w B A n c xs) (h2 : RdB w B' A' n' c' xs) :
    Calls Try.prog 93 #[.slice A n c, .slice A' n' c'] w fun e w' => e = .returned (.bool true) ∧ Below w.heap.size w w' := by
  have h1 := h1.top
  have h2 := h2.top
  have hm : n ≤ maxLen := Nat.le_trans h1.cap h1.mx
  unfold maxLen at hm
  obtain rfl : n = n' := by have := h1.len; have := h2.len; omega
  go_enter Try.func93, Try.ntmps93
  go_wp2_with fail
  go_loopw [5] (fun i wr => ∃ k : Nat, i = .int .i64 k ∧ k ≤ n ∧ Below w.heap.size w wr) (fun i _ => n - (intOf i).toNat)
  case atStart => exact ⟨0, rfl, Nat.zero_le _, Below.refl _ _⟩
  case round =>
    obtain ⟨k, rfl, hk, hb⟩ := hrel
    by_cases hlt : k < n
    · obtain ⟨b, o, x, rfl, hbb, hx, g1⟩ := RdB.at_ (h1.below hb) hlt
      obtain ⟨b', o', x', rfl, hbb', hx', g1'⟩ := RdB.at_ (h2.below hb) hlt
      obtain rfl := hid_inj hx hx'
      have i1 : (0 : Int) ≤ (k : Int) := by omega
      have i2 : (k : Int) < (n : Int) := by omega
      go_wp2_with fail
      go_quiet (fail)
      go_wp2
      go_roundw
      case rel => exact ⟨k + 1, by go_num, by omega, below_drewN hb _⟩
      case measure => simp [intOf]; omega
    · go_wp2
      go_ret
      exact ⟨rfl, hb⟩
set_option maxHeartbeats 400000 in
theorem markBools_any (w : World) (lo hi : Nat) (v : Value) (xs : List Bool) (k : Int) (ho : OwB w lo hi v xs) (h0 : 0 ≤ k) (h1 : k + xs.length ≤ 1099511627776) :
    Calls Try.prog 95 #[v, .int .i64 k] w fun e w' => e = .returned (.int .i64 (k + xs.length)) ∧ OwB w' lo hi v (markB k xs.length) ∧ w.grownBy w' v.ownBlock := by
  have hown := ho.own
  have hlt := ho.lt
  rcases ho.own.2 with ⟨rfl, hn⟩ | ⟨g, cap, cur, rfl, _, _, _⟩
  · obtain rfl : xs = [] := List.length_eq_zero_iff.1 hn
    go_enter Try.func95, Try.ntmps95
    go_wp2_with fail
    go_loopw [1, 5] (fun t i wr => t = .int .i64 k ∧ i = .int .i64 0 ∧ w = wr) (fun _ _ _ => 0)
    case atStart => exact ⟨rfl, rfl, rfl⟩
    case round =>
      obtain ⟨rfl, rfl, rfl⟩ := hrel
      go_wp2
      go_ret
      exact ⟨ret_i (by simp), ho, World.grownBy.refl _ _⟩
  · have hm : xs.length ≤ 1099511627776 := by omega
    generalize hn : xs.length = n at *
    have HN := Go.Lib.hid hn
    clear hn
    go_enter Try.func95, Try.ntmps95
    go_wp2_with fail
    go_loopw [1, 5] (fun t i wr => ∃ j : Nat, i = .int .i64 j ∧ t = .int .i64 (k + j) ∧ j ≤ n ∧ wr.ownsRow lo 4 1 (.slice (some ⟨g, 0, none⟩) n cap) n ((markB k j ++ xs.drop j).map Value.bool) ∧ w.grownBy wr (some g)) (fun _ i _ => n - (intOf i).toNat)
    case atStart => exact ⟨0, rfl, by simp, Nat.zero_le _, by simpa [markB] using hown, World.grownBy.refl _ _⟩
    case round =>
      obtain ⟨j, rfl, rfl, hj, ho2, hg⟩ := hrel
      clear hown ho
      by_cases hlt2 : j < n
      · obtain ⟨u, k1⟩ := own_some ho2 (j := j) (by omega)
        have k2 := ho2.frozenAt j
        obtain ⟨s1, s2⟩ := ho2.stored j (.bool ((k + j) % 3 == 0))
        rw [markB_set k xs j (by rw [HN.out]; exact hlt2)] at s1
        have S := Go.Lib.hid (And.intro s1 (grown_trans hg s2))
        clear s1 s2 ho2 hg
        go_wp2
        go_roundw
        case rel => exact ⟨j + 1, by go_num, by go_num, by omega, S.out.1, S.out.2⟩
        case measure => simp [intOf]; omega
      · obtain rfl : j = n := by omega
        have hd : xs.drop j = [] := by rw [← HN.out]; exact List.drop_length
        rw [hd, List.append_nil] at ho2
        go_wp2
        go_ret
        exact ⟨rfl, ⟨by rw [markB_length]; exact ho2, hlt⟩, hg⟩
theorem heldBools_any (w : World) (B : Nat) (A : Option Addr) (n c : Nat) (k : Int) (m : Nat) (hr : RdB w B A n c (markB k m)) (h0 : 0 ≤ k) (h1 : k + m ≤ 1099511627776) :
    Calls Try.prog 97 #[.slice A n c, .int .i64 k] w fun e w' => e = .returned (.int .i64 (k + m)) ∧ w = w' := by
  obtain rfl : n = m := by have := RdB.le1 hr; have := RdB.le2 hr; rw [markB_length] at *; omega
  go_enter Try.func97, Try.ntmps97
  go_wp2_with fail
  go_loopw [1, 5] (fun t i wr => w = wr ∧ ∃ j : Nat, i = .int .i64 j ∧ t = .int .i64 (k + j) ∧ j ≤ n) (fun _ i _ => n - (intOf i).toNat)
  case atStart => exact ⟨rfl, 0, rfl, by simp, Nat.zero_le _⟩
  case round =>
    obtain ⟨rfl, j, rfl, rfl, hj⟩ := hrel
    by_cases hlt2 : j < n
    · obtain ⟨b, o, x, rfl, hbb, hx, g1⟩ := RdB.at_ hr hlt2
      obtain rfl : x = ((k + j) % 3 == 0) := by
        have := hx.out
        rw [markB_at k n j hlt2] at this
        injection this with this
        exact this.symm
      clear hx
      generalize hbv : ((k + (j : Int)) % 3 == 0) = bv at *
      go_wp2
      go_roundw
      case rel => exact ⟨by trivial, j + 1, by go_num, by go_num, by omega⟩
      case measure => simp [intOf]; omega
    · obtain rfl : j = n := by omega
      go_wp2
      go_ret
      exact ⟨rfl, rfl⟩
end Go.Proofs.Ytjpfgbckmcjjaaa
