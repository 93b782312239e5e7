/- A limit of cells, and a program with a limit, drawn from a code. For every code that can be read. -/
import Derived.Test.YtdkpfggfkhnjfaaQA
import Derived.Test.YtdkpfggfkhnjfaaOo
namespace Go.Proofs.Ytdkpfggfkhnjfaa
open Go.RowKit
def DrewLim (lo : Nat) (w0 : World) (L : List OB) (i g : Nat) (A : Option Addr) (n c p : Nat) (e : Ending) (w' : World) : Prop :=
  ∃ (x : Int) (p' : Nat), e = .returned (.int .i64 x) ∧ 0 ≤ x ∧ x ≤ 41 ∧ p ≤ p' ∧ p' ≤ p + 3 ∧ Owns lo w0 w' (L.set i (.rdr g A n c p'))
def DrewJob (lo : Nat) (w0 : World) (L : List OB) (i g : Nat) (A : Option Addr) (n c _p : Nat) (e : Ending) (w' : World) : Prop :=
  ∃ (v : Value) (cs : List Cmd) (x : Int) (p' : Nat), e = .returned (.tuple #[v, .int .i64 x]) ∧ cs.length ≤ 41 ∧ 0 ≤ x ∧ x ≤ 41 ∧ Owns lo w0 w' (.cmds v cs :: L.set i (.rdr g A n c p'))
set_option maxHeartbeats 3200000 in
set_option maxRecDepth 20000 in
theorem limit_own {lo : Nat} {w0 w : World} {L : List OB} {g : Nat} {A : Option Addr} {n c p : Nat} (h : Owns lo w0 w L) (i : Nat) (hX : L[i]? = some (.rdr g A n c p)) {bs : List Int} (hr : RdU w0 lo A n c bs) (hp : p ≤ 900000) :
    Calls Try.prog 32 #[.pointer (some ⟨g, 0, none⟩)] w (DrewLim lo w0 L i g A n c p) := by
  go_enter Try.func32, Try.ntmps32
  go_wp2_with fail
  refine (pick_own h i hX hr (by omega) 8 (by unfold I64; omega)).mono ?_
  rintro e w1 ⟨j0, rfl, hj0, H1⟩
  replace hj0 : j0 < 8 := by omega
  have hX1 : (L.set i (.rdr g A n c (p + 1)))[i]? = some (.rdr g A n c (p + 1)) := set_get hX _
  have i0 : (1 : Int) + (j0 : Int) ≤ 8 := by omega
  go_wp2_with fail
  refine (pick_own H1 i hX1 hr (by omega) 40 (by unfold I64; omega)).mono ?_
  rintro e w2 ⟨j1, rfl, hj1, H2⟩
  replace hj1 : j1 < 40 := by omega
  simp only [List.set_set] at H2
  have hX2 : (L.set i (.rdr g A n c (p + 1 + 1)))[i]? = some (.rdr g A n c (p + 1 + 1)) := set_get hX _
  have i1 : (1 : Int) + (j1 : Int) ≤ 40 := by omega
  have H3 := (H2.litI [1 + (j0 : Int), 1 + (j1 : Int), 0, 41] (by unfold maxLen; simp)).litI [0, 0, 0, 1, 1, 1, 2, 3] (by unfold maxLen; simp)
  simp only [List.map_cons, List.map_nil, List.length_cons, List.length_nil, Nat.zero_add, Nat.reduceAdd, World.size_alloc] at H3
  clear H1 hX1 h
  go_wp2_with fail
  refine (pick_own H3 (i + 2) (by simpa using hX2) hr (by omega) 8 (by unfold I64; omega)).mono ?_
  rintro e w3 ⟨j2, rfl, hj2, H4⟩
  replace hj2 : j2 < 8 := by omega
  simp only [List.set_cons_succ, List.set_set] at H4
  obtain ⟨x3, hx3⟩ : ∃ x, Hid (([0, 0, 0, 1, 1, 1, 2, 3] : List Int)[j2]? = some x) := ⟨_, Go.Lib.hid (List.getElem?_eq_getElem (by simp; omega))⟩
  have hx3' : 0 ≤ x3 ∧ x3 ≤ 3 := by
    have := List.mem_of_getElem? hx3.out
    simp at this
    omega
  obtain ⟨k3, rfl⟩ := Int.eq_ofNat_of_zero_le hx3'.1
  have hk3 : k3 < 4 := by omega
  obtain ⟨y, hy⟩ : ∃ x, Hid (([1 + (j0 : Int), 1 + (j1 : Int), 0, 41] : List Int)[k3]? = some x) := ⟨_, Go.Lib.hid (List.getElem?_eq_getElem (by simp; omega))⟩
  have hy' : 0 ≤ y ∧ y ≤ 41 := by
    have := List.mem_of_getElem? hy.out
    simp at this
    omega
  obtain ⟨e0, -⟩ := H4.elem 0 rfl (j := j2) (u := .int .i64 (k3 : Int)) (by
    have := congrArg (Option.map (Value.int .i64)) hx3.out
    rw [← List.getElem?_map] at this
    exact this)
  obtain ⟨e1, -⟩ := H4.elem 1 rfl (j := k3) (u := .int .i64 y) (by
    have := congrArg (Option.map (Value.int .i64)) hy.out
    rw [← List.getElem?_map] at this
    exact this)
  have q1 : (j2 : Int) < 8 := by omega
  have q2 : (k3 : Int) < 4 := by omega
  have HS : Hid (DrewLim lo w0 L i g A n c p (.returned (.int .i64 y)) w3) := Go.Lib.hid ⟨y, p + 1 + 1 + 1, rfl, hy'.1, hy'.2, by omega, by omega, (H4.erase 0).erase 0⟩
  clear H2 H3 H4 hx3 hy hy' hx3' hX2 i0 i1 hj0 hj1
  go_wp2
  go_ret
  exact HS.out
set_option maxHeartbeats 3200000 in
theorem job_own {lo : Nat} {w0 w : World} {L : List OB} {g : Nat} {A : Option Addr} {n c p : Nat} (h : Owns lo w0 w L) (i : Nat) (hX : L[i]? = some (.rdr g A n c p)) {bs : List Int} (hr : RdU w0 lo A n c bs) (hp : p ≤ 800000) :
    Calls Try.prog 13 #[.pointer (some ⟨g, 0, none⟩)] w (DrewJob lo w0 L i g A n c p) := by
  go_enter Try.func13, Try.ntmps13
  go_wp2_with fail
  refine (program_any h i hX hr hp 16 (by omega) (by omega)).mono ?_
  rintro e w1 ⟨v, cs, p1, rfl, hl, hp1, hp2, H1⟩
  obtain ⟨A1, c1, rfl, -⟩ := H1.formQ 0 rfl
  go_wp2_with fail
  refine (limit_own H1 (i + 1) (set_get hX _) hr (by omega)).mono ?_
  rintro e w2 ⟨x, p2, rfl, hx0, hx1, hp3, hp4, H2⟩
  simp only [List.set_cons_succ, List.set_set] at H2
  have HS : Hid (DrewJob lo w0 L i g A n c p (.returned (.tuple #[.slice A1 cs.length c1, .int .i64 x])) w2) := Go.Lib.hid ⟨_, cs, x, p2, rfl, hl, hx0, hx1, H2⟩
  clear H1 H2 h
  go_wp2
  exact bodyPost_ret (v := .tuple #[.slice A1 cs.length c1, .int .i64 x]) (by simp [results, Try.results13, go_sem]) rfl HS.out
def DrawnQL (w : World) (e : Ending) (w' : World) : Prop := ∃ v cs x, e = .returned (.tuple #[v, .int .i64 x]) ∧ cs.length ≤ 41 ∧ 0 ≤ x ∧ x ≤ 41 ∧ Owns w.heap.size w w' [.cmds v cs]
end Go.Proofs.Ytdkpfggfkhnjfaa
