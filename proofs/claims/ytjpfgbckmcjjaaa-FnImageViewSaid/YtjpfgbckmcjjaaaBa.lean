/- The drawing of a base, for every code that can be read. -/
import Derived.Test.YtjpfgbckmcjjaaaOo
namespace Go.Proofs.Ytjpfgbckmcjjaaa
open Go.RowKit
/-- A base was drawn. -/
def DrewB (lo : Nat) (w0 : World) (L : List OB) (i g : Nat) (A : Option Addr) (n c p : Nat) (N : Int) (e : Ending) (w' : World) : Prop :=
  ∃ (b : Int) (p' : Nat), e = .returned (.int .i64 b) ∧ -1 ≤ b ∧ b ≤ 10001 ∧ (N = 0 → 0 ≤ b ∧ b ≤ 10000) ∧ p ≤ p' ∧ p' ≤ p + 10 ∧ Owns lo w0 w' (L.set i (.rdr g A n c p'))
theorem three_le_maxLen : 3 ≤ maxLen := by unfold maxLen; omega
theorem two_le_maxLen : 2 ≤ maxLen := by unfold maxLen; omega
theorem three_in {a b c v : Int} {k : Nat} (h : ([a, b, c] : List Int)[k]? = some v) : v = a ∨ v = b ∨ v = c := by
  have := List.mem_of_getElem? h
  simpa using this
theorem two_in {a b v : Int} {k : Nat} (h : ([a, b] : List Int)[k]? = some v) : v = a ∨ v = b := by
  have := List.mem_of_getElem? h
  simpa using this
set_option maxHeartbeats 1600000 in
set_option maxRecDepth 20000 in
theorem base_own {lo : Nat} {w0 w : World} {L : List OB} {g : Nat} {A : Option Addr} {n c p : Nat} (h : Owns lo w0 w L) (i : Nat) (hX : L[i]? = some (.rdr g A n c p)) {bs : List Int} (hr : RdU w0 lo A n c bs) (hp : p ≤ 700000) (N : Int) (hN0 : 0 ≤ N) (hN1 : N ≤ 1000) :
    Calls Try.prog 73 #[.pointer (some ⟨g, 0, none⟩), .int .i64 N] w (DrewB lo w0 L i g A n c p N) := by
  go_enter Try.func73, Try.ntmps73
  by_cases hN : N = 0
  · subst hN
    go_wp2_with fail
    refine (odd_zero _ _).mono ?_
    rintro e w1 ⟨rfl, rfl⟩
    go_wp2_with fail
    refine (pick_own h i hX hr (by omega) 256 (by unfold I64; omega)).mono ?_
    rintro e w2 ⟨x, rfl, hx, H2⟩
    replace hx : x < 256 := by omega
    have t1 : IntKind.i64.wrap ((x : Int) * 32) = (x : Int) * 32 := IntWalk.i64_in _ (by omega)
    have H3 := H2.litI [0, (x : Int) * 32, 10000] three_le_maxLen
    simp only [List.map_cons, List.map_nil, List.length_cons, List.length_nil, Nat.zero_add, Nat.reduceAdd] at H3
    clear H2 h
    go_wp2_with fail
    refine (pick_own H3 (i + 1) (set_get hX _) hr (by omega) 3 (by unfold I64; omega)).mono ?_
    rintro e w3 ⟨j, rfl, hj, H4⟩
    replace hj : j < 3 := by omega
    have i1 : (j : Int) < 3 := by omega
    have i2 : (0 : Int) ≤ (j : Int) := by omega
    simp only [List.set_cons_succ, List.set_set] at H4
    clear H3 t1
    obtain ⟨v2, hv2⟩ : ∃ v, ([0, (x : Int) * 32, 10000] : List Int)[j]? = some v := ⟨_, List.getElem?_eq_getElem (by simp; omega)⟩
    obtain ⟨zz, -⟩ := H4.elem 0 rfl (j := j) (u := .int .i64 v2) (by rw [List.getElem?_map, hv2]; rfl)
    have hv := three_in hv2
    have HS : Hid (DrewB lo w0 L i g A n c p 0 (.returned (.int .i64 v2)) w3) := Go.Lib.hid ⟨v2, _, rfl, by omega, by omega, fun _ => by omega, Nat.le_trans (Nat.le_succ _) (Nat.le_succ _), by omega, H4.erase 0⟩
    clear H4 hv2 hv hX
    go_wp2
    go_ret
    exact HS.out
  · go_wp2_with fail
    refine (odd_own h i hX hr (by omega) N (by omega) (by omega)).mono ?_
    rintro e w1 ⟨bo, rfl, H1⟩
    clear h
    cases bo
    · go_wp2_with fail
      refine (pick_own H1 i (set_get hX _) hr (by omega) 256 (by unfold I64; omega)).mono ?_
      rintro e w2 ⟨x, rfl, hx, H2⟩
      replace hx : x < 256 := by omega
      simp only [List.set_set] at H2
      have t1 : IntKind.i64.wrap ((x : Int) * 32) = (x : Int) * 32 := IntWalk.i64_in _ (by omega)
      have H3 := H2.litI [0, (x : Int) * 32, 10000] three_le_maxLen
      simp only [List.map_cons, List.map_nil, List.length_cons, List.length_nil, Nat.zero_add, Nat.reduceAdd] at H3
      clear H2 H1
      go_wp2_with fail
      refine (pick_own H3 (i + 1) (set_get hX _) hr (by omega) 3 (by unfold I64; omega)).mono ?_
      rintro e w3 ⟨j, rfl, hj, H4⟩
      replace hj : j < 3 := by omega
      have i1 : (j : Int) < 3 := by omega
      have i2 : (0 : Int) ≤ (j : Int) := by omega
      simp only [List.set_cons_succ, List.set_set] at H4
      clear H3 t1
      obtain ⟨v2, hv2⟩ : ∃ v, ([0, (x : Int) * 32, 10000] : List Int)[j]? = some v := ⟨_, List.getElem?_eq_getElem (by simp; omega)⟩
      obtain ⟨zz, -⟩ := H4.elem 0 rfl (j := j) (u := .int .i64 v2) (by rw [List.getElem?_map, hv2]; rfl)
      have hv := three_in hv2
      have HS : Hid (DrewB lo w0 L i g A n c p N (.returned (.int .i64 v2)) w3) := Go.Lib.hid ⟨v2, _, rfl, by omega, by omega, fun h0 => absurd h0 hN, by omega, by omega, H4.erase 0⟩
      clear H4 hv2 hv hX
      go_wp2
      go_ret
      exact HS.out
    · have H3 := H1.litI [-1, 10001] two_le_maxLen
      simp only [List.map_cons, List.map_nil, List.length_cons, List.length_nil, Nat.zero_add, Nat.reduceAdd] at H3
      clear H1
      go_wp2_with fail
      refine (pick_own H3 (i + 1) (set_get hX _) hr (by omega) 2 (by unfold I64; omega)).mono ?_
      rintro e w3 ⟨j, rfl, hj, H4⟩
      replace hj : j < 2 := by omega
      have i1 : (j : Int) < 2 := by omega
      have i2 : (0 : Int) ≤ (j : Int) := by omega
      simp only [List.set_cons_succ, List.set_set] at H4
      clear H3
      obtain ⟨v2, hv2⟩ : ∃ v, ([-1, 10001] : List Int)[j]? = some v := ⟨_, List.getElem?_eq_getElem (by simp; omega)⟩
      obtain ⟨zz, -⟩ := H4.elem 0 rfl (j := j) (u := .int .i64 v2) (by rw [List.getElem?_map, hv2]; rfl)
      have hv := two_in hv2
      have HS : Hid (DrewB lo w0 L i g A n c p N (.returned (.int .i64 v2)) w3) := Go.Lib.hid ⟨v2, _, rfl, by omega, by omega, fun h0 => absurd h0 hN, by omega, by omega, H4.erase 0⟩
      clear H4 hv2 hv hX
      go_wp2
      go_ret
      exact HS.out
end Go.Proofs.Ytjpfgbckmcjjaaa
