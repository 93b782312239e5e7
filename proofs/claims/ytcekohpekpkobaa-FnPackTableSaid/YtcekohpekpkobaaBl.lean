/- The laws' equality, marking and holding functions on slices of bools. For numbers below 2^40. -/
import Derived.Test.YtcekohpekpkobaaZ0
import Derived.Test.YtcekohpekpkobaaZ1
namespace Go.Proofs.Ytcekohpekpkobaa
open Go.RowKit
def markB (k : Int) : Nat → List Bool
  | 0 => []
  | n + 1 => markB k n ++ [(k + n) % 3 == 0]
theorem markB_length (k : Int) : ∀ n, (markB k n).length = n
  | 0 => rfl
  | n + 1 => by simp [markB, markB_length k n]
theorem markB_at (k : Int) : ∀ (n i : Nat), i < n → (markB k n)[i]? = some ((k + i) % 3 == 0)
  | n + 1, i, h => by
    rcases Nat.lt_or_ge i n with hi | hi
    · rw [markB, List.getElem?_append_left (by rw [markB_length]; exact hi), markB_at k n i hi]
    · obtain rfl : i = n := by omega
      rw [markB, List.getElem?_append_right (by rw [markB_length]; exact Nat.le_refl _), markB_length]; simp
theorem markB_set (k : Int) (xs : List Bool) (j : Nat) (hj : j < xs.length) : ((markB k j ++ xs.drop j).map Value.bool).set j (.bool ((k + j) % 3 == 0)) = (markB k (j + 1) ++ xs.drop (j + 1)).map Value.bool := by
  rw [List.drop_eq_getElem_cons hj, List.map_append, List.set_append_right _ _ (by simp [markB_length]), markB]
  simp only [List.map_cons, List.length_map, markB_length, Nat.sub_self, List.set_cons_zero, List.map_append, List.append_assoc, List.cons_append, List.nil_append]
theorem OwB.only {w w' : World} {lo hi lo' hi' : Nat} {v : Value} {xs : List Bool} (ho : OwB w lo hi v xs) (hO : Only lo' hi' w w') (h : hi ≤ lo' ∨ hi' ≤ lo) : OwB w' lo hi v xs :=
  ⟨own_keep ho.own fun k e => hO.block k (ho.own.lt k e).2 (by have := ho.lt k e; have := (ho.own.lt k e).1; omega), ho.lt⟩
theorem OwB.rdB {w : World} {lo hi : Nat} {A : Option Addr} {n c : Nat} {xs : List Bool} (ho : OwB w lo hi (.slice A n c) xs) : RdB w hi A n c xs := by
  obtain ⟨A', c', e, hr⟩ := ho.form
  injection e with e1 e2 e3
  subst e1 e2 e3
  exact hr
theorem Only.grownB {w w' : World} {lo hi : Nat} {v : Value} {xs : List Bool} (ho : OwB w lo hi v xs) (hg : w.grownBy w' v.ownBlock) : Only lo hi w w' :=
  ⟨hg.os, hg.tape, hg.output, hg.size, fun k hk hn => hg.block k hk fun e => by have := ho.lt k e.symm; have := (ho.own.lt k e.symm).1; omega⟩
end Go.Proofs.Ytcekohpekpkobaa
