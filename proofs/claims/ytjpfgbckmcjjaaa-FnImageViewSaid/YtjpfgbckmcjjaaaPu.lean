/- Writing a number into a cell, and into a slice of ints, that a call owns. No program is walked. -/
import Derived.Test.YtjpfgbckmcjjaaaWi
import Derived.Test.YtjpfgbckmcjjaaaTl
namespace Go.Proofs.Ytjpfgbckmcjjaaa
open Go.RowKit
theorem cellVals_setD : ∀ (cs : List Cel) (rvs : List Value) (i : Nat) (l : Cel) (x : Int), rvs.length = cs.length → cs[i]? = some l →
    cellVals (cs.set i ⟨l.used, x, l.refs⟩) rvs = (cellVals cs rvs).set (i * 3 + 1) (.int .i64 x)
  | [], _, _, _, _, _, h => by simp at h
  | _ :: _, [], _, _, _, h, _ => by simp at h
  | c :: cs, rv :: rvs, 0, l, x, _, h => by simp at h; subst h; simp [cellVals]
  | c :: cs, rv :: rvs, i + 1, l, x, hl, h => by
    have := cellVals_setD cs rvs i l x (by simpa using hl) (by simpa using h)
    have e : (i + 1) * 3 = i * 3 + 3 := by omega
    rw [e, List.set_cons_succ, cellVals, this]
    simp [cellVals]
theorem OwC.putD {w : World} {lo hi : Nat} {rvs : List Value} {cs : List Cel} {g n cap : Nat} {i : Nat} {l : Cel} (ho : OwC w lo hi (.slice (some ⟨g, 0, none⟩) n cap) rvs cs) (hn : n = cs.length) (hl : cs[i]? = some l) (x : Int) :
    OwC (w.setCell ⟨g, i * 3 + 1, none⟩ (.int .i64 x)) lo hi (.slice (some ⟨g, 0, none⟩) n cap) rvs (cs.set i ⟨l.used, x, l.refs⟩) := by
  subst hn
  obtain ⟨s1, g1⟩ := ho.own.stored (i * 3 + 1) (.int .i64 x)
  rw [← cellVals_setD cs rvs i l x ho.same hl] at s1
  refine ⟨by rw [List.length_set]; exact ho.same, by rw [List.length_set]; exact s1, ho.lt, fun i2 rv c' h1 h2 => ?_, ho.apart⟩
  have key : ∀ c : Cel, cs[i2]? = some c → OwI (w.setCell ⟨g, i * 3 + 1, none⟩ (.int .i64 x)) lo hi rv c.refs := fun c hc => (ho.refs i2 rv c h1 hc).keep1 fun k hk => by
    have hne : k ≠ g := fun e => own_ne (ho.refs i2 rv c h1 hc).own ho.own (by decide) hk (by rw [e]; rfl)
    exact Below.heap_setCell _ _ _ k (by exact hne)
  by_cases e : i = i2
  · subst e
    rw [List.getElem?_set_self (List.getElem?_eq_some_iff.1 hl).1] at h2
    injection h2 with h2
    subst h2
    exact key l hl
  · rw [List.getElem?_set_ne e] at h2
    exact key c' h2
section
variable {lo : Nat} {w0 w : World} {L : List OB}
theorem Owns.putDat {rvs : List Value} {cs : List Cel} {g n cap : Nat} (h : Owns lo w0 w L) (j : Nat) (hX : L[j]? = some (.cells (.slice (some ⟨g, 0, none⟩) n cap) rvs cs)) (hn : n = cs.length) {i : Nat} {l : Cel} (hl : cs[i]? = some l) (x : Int) :
    Owns lo w0 (w.setCell ⟨g, i * 3 + 1, none⟩ (.int .i64 x)) (L.set j (.cells (.slice (some ⟨g, 0, none⟩) n cap) rvs (cs.set i ⟨l.used, x, l.refs⟩))) := by
  have ho := h.owC j hX
  refine h.turn j hX (turn_set (.inl rfl)) ?_ fun k hk => .inl hk
  have := ho.putD hn hl x
  show OwC _ lo _ _ _ _
  simpa only [World.size_setCell] using this
theorem Owns.setInt {g c : Nat} {rs : List Int} (h : Owns lo w0 w L) (i : Nat) {n : Nat} (hX : L[i]? = some (.ints (.slice (some ⟨g, 0, none⟩) n c) rs)) (hn : n = rs.length) (j : Nat) (x : Int) :
    Owns lo w0 (w.setCell ⟨g, j, none⟩ (.int .i64 x)) (L.set i (.ints (.slice (some ⟨g, 0, none⟩) n c) (rs.set j x))) := by
  subst hn
  have := h.putRow i hX j (.int .i64 x)
  rw [← List.map_set] at this
  have e : OB.row 3 1 (.slice (some ⟨g, 0, none⟩) rs.length c) rs.length ((rs.set j x).map (Value.int .i64)) = OB.ints (.slice (some ⟨g, 0, none⟩) rs.length c) (rs.set j x) := by
    show _ = OB.row _ _ _ (rs.set j x).length _
    rw [List.length_set]
  rw [e] at this
  exact this
theorem Owns.intAt {g c n : Nat} {rs : List Int} (h : Owns lo w0 w L) (i : Nat) (hX : L[i]? = some (.ints (.slice (some ⟨g, 0, none⟩) n c) rs)) (hn : n = rs.length) {j : Nat} {x : Int} (hj : Hid (rs[j]? = some x)) : w.cell? ⟨g, j, none⟩ = some (.int .i64 x) ∧ w.frozen? ⟨g, j, none⟩ = false := by
  subst hn
  exact h.elem i hX (j := j) (u := .int .i64 x) (by rw [List.getElem?_map, hj.out]; rfl)
/-- The three words of a cell. -/
theorem Owns.cellW {v : Value} {rvs : List Value} {cs : List Cel} (h : Owns lo w0 w L) (i : Nat) (hX : L[i]? = some (.cells v rvs cs)) {k : Nat} {l : Cel} (hc : Hid (cs[k]? = some l)) :
    ∃ g cC A c, v = .slice (some ⟨g, 0, none⟩) cs.length cC ∧ Hid (rvs[k]? = some (.slice A l.refs.length c)) ∧ w.cell? ⟨g, k * 3, none⟩ = some (.bool l.used) ∧ w.cell? ⟨g, k * 3 + 1, none⟩ = some (.int .i64 l.data) ∧ w.cell? ⟨g, k * 3 + 2, none⟩ = some (.slice A l.refs.length c) ∧ w.frozen? ⟨g, k * 3, none⟩ = false ∧ w.frozen? ⟨g, k * 3 + 1, none⟩ = false ∧ w.frozen? ⟨g, k * 3 + 2, none⟩ = false ∧ l.refs.length ≤ c ∧ c ≤ maxLen := by
  have ho := h.owC i hX
  have hk := (List.getElem?_eq_some_iff.1 hc.out).1
  have hrv : rvs[k]? = some (rvs[k]'(by rw [ho.same]; exact hk)) := List.getElem?_eq_getElem _
  obtain ⟨A, c, e, hR⟩ := (ho.refs k _ l hrv hc.out).form
  rw [e] at hrv
  obtain ⟨v1, v2, v3⟩ := cellVals_at cs rvs k l _ hc.out hrv
  rcases ho.own.2 with ⟨_, h0⟩ | ⟨g, cC, cur, rfl, _⟩
  · omega
  · exact ⟨g, cC, A, c, rfl, Go.Lib.hid hrv, (ho.own.cellAt _ (by omega)).trans v1, (ho.own.cellAt _ (by omega)).trans v2, (ho.own.cellAt _ (by omega)).trans v3, ho.own.frozenAt _, ho.own.frozenAt _, ho.own.frozenAt _, hR.cap, hR.mx⟩
end
end Go.Proofs.Ytjpfgbckmcjjaaa
