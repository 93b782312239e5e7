/- The laws' marking of pairs turns nothing but them. For numbers below 2^40. -/
import Derived.Test.YtbjagfljeibdeaaPp
import Derived.Test.YtbjagfljeibdeaaMk
namespace Go.Proofs.Ytbjagfljeibdeaa
open Go.RowKit
theorem OwP.only {w w' : World} {lo hi lo' hi' : Nat} {v : Value} {ps : List (Int × Int)} (ho : OwP w lo hi v ps) (hO : Only lo' hi' w w') (h : hi ≤ lo' ∨ hi' ≤ lo) : OwP w' lo hi v ps :=
  ⟨own_keep ho.own fun k e => hO.block k (ho.own.lt k e).2 (by have := ho.lt k e; have := (ho.own.lt k e).1; omega), ho.lt⟩
theorem OwP.rdP {w : World} {lo hi : Nat} {A : Option Addr} {n c : Nat} {ps : List (Int × Int)} (ho : OwP w lo hi (.slice A n c) ps) : RdP w hi A n c ps := by
  obtain ⟨A', c', e, hr⟩ := ho.form
  injection e with e1 e2 e3
  subst e1 e2 e3
  exact hr
theorem Only.grownP {w w' : World} {lo hi : Nat} {v : Value} {ps : List (Int × Int)} (ho : OwP w lo hi v ps) (hg : w.grownBy w' v.ownBlock) : Only lo hi w w' :=
  ⟨hg.os, hg.tape, hg.output, hg.size, fun k hk hn => hg.block k hk fun e => by have := ho.lt k e.symm; have := (ho.own.lt k e.symm).1; omega⟩
set_option maxHeartbeats 800000 in
theorem markPairs_any (w : World) (lo hi : Nat) (v : Value) (ps : List (Int × Int)) (k : Int) (ho : OwP w lo hi v ps) (h0 : 0 ≤ k) (h1 : k + 2 * ps.length ≤ 1099511627776) :
    Calls Try.prog 31 #[v, .int .i64 k] w fun e w' => e = .returned (.int .i64 (k + (2 * ps.length : Nat))) ∧ w.grownBy w' v.ownBlock := by
  have hown := ho.own
  rcases ho.own.2 with ⟨rfl, hn⟩ | ⟨g, cap, cur, rfl, _, _, _⟩
  · obtain rfl : ps = [] := List.length_eq_zero_iff.1 hn
    go_enter Try.func31, Try.ntmps31
    go_wp2_with fail
    go_loopw [1, 5] (fun t i wr => t = .int .i64 k ∧ i = .int .i64 0 ∧ w = wr) (fun _ _ _ => 0)
    case atStart => exact ⟨rfl, rfl, rfl⟩
    case round =>
      obtain ⟨rfl, rfl, rfl⟩ := hrel
      go_wp2
      go_ret
      exact ⟨ret_i (by simp), World.grownBy.refl _ _⟩
  · generalize hn : ps.length = n at *
    clear hn ho
    go_enter Try.func31, Try.ntmps31
    go_wp2_with fail
    go_loopw [1, 5] (fun t i wr => ∃ (j : Nat) (ys : List Value), i = .int .i64 j ∧ t = .int .i64 (k + (2 * j : Nat)) ∧ j ≤ n ∧ wr.ownsRow lo 68 2 (.slice (some ⟨g, 0, none⟩) n cap) n ys ∧ w.grownBy wr (some g)) (fun _ i _ => n - (intOf i).toNat)
    case atStart => exact ⟨0, _, rfl, by simp, Nat.zero_le _, hown, World.grownBy.refl _ _⟩
    case round =>
      clear hown
      obtain ⟨j, ys, rfl, rfl, hj, ho2, hg⟩ := hrel
      by_cases hlt2 : j < n
      · obtain ⟨u0, k0⟩ := own_some ho2 (j := j * 2) (by omega)
        obtain ⟨u1, k1⟩ := own_some ho2 (j := j * 2 + 1) (by omega)
        have f0 := ho2.frozenAt (j * 2)
        have f1 := ho2.frozenAt (j * 2 + 1)
        obtain ⟨s1, s2⟩ := ho2.stored (j * 2) (.int .i64 (k + (2 * j : Nat)))
        obtain ⟨t1, t2⟩ := s1.stored (j * 2 + 1) (.int .i64 (k + (2 * j : Nat) + 1))
        have S := Go.Lib.hid (And.intro t1 (grown_trans (grown_trans hg s2) t2))
        clear s1 s2 t1 t2 ho2 hg
        go_wp2
        go_roundw
        case rel => exact ⟨j + 1, _, by go_num, by go_num, by omega, S.out.1, S.out.2⟩
        case measure => simp [intOf]; omega
      · obtain rfl : j = n := by omega
        go_wp2
        go_ret
        exact ⟨rfl, hg⟩
end Go.Proofs.Ytbjagfljeibdeaa
