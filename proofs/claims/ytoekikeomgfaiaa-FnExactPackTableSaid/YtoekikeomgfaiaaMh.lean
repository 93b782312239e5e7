/- Marking what a call owns (rows, cells, heaps); what a callee made is owned too; heaps that are owned can be read. -/
import Derived.Test.YtoekikeomgfaiaaSt
import Derived.Test.YtoekikeomgfaiaaHd
namespace Go.Proofs.Ytoekikeomgfaiaa
open Go.RowKit
section
variable {lo : Nat} {w0 w : World} {L : List OB}
theorem Owns.markI (h : Owns lo w0 w L) (i : Nat) {v : Value} {xs : List Int} (hX : L[i]? = some (.ints v xs)) (k : Int) (h0 : 0 ≤ k) (h1 : k + xs.length ≤ 1099511627776) :
    Calls Try.prog 18 #[v, .int .i64 k] w fun e w' => e = .returned (.int .i64 (k + xs.length)) ∧ Owns lo w0 w' (L.set i (.ints v (marks k xs.length))) := by
  refine (markInts_any w lo w.heap.size v xs k (h.owI i hX) h0 h1).mono ?_
  rintro e w' ⟨rfl, ho, hg⟩
  exact ⟨rfl, h.turn i hX (turn_grown hg fun k hk => hk) ho.own fun k hk => .inl hk⟩
theorem Owns.markC (h : Owns lo w0 w L) (i : Nat) {v : Value} {rvs : List Value} {cs : List Cel} (hX : L[i]? = some (.cells v rvs cs)) (k : Int) (h0 : 0 ≤ k) (h1 : k + kAdd cs ≤ 1099511627776) :
    Calls Try.prog 51 #[v, .int .i64 k] w fun e w' => e = .returned (.int .i64 (k + kAdd cs)) ∧ Owns lo w0 w' (L.set i (.cells v rvs (mCells k cs))) := by
  refine (markCells_any w lo w.heap.size v rvs cs k (h.owC i hX) h0 h1).mono ?_
  rintro e w' ⟨rfl, ho, hT⟩
  exact ⟨rfl, h.turn i hX hT (ho.wide (Nat.le_refl _) hT.size) fun k hk => .inl hk⟩
theorem markHeap_own (h : Owns lo w0 w L) (i j : Nat) {cv rv : Value} {rvs : List Value} {cs : List Cel} {rs : List Int} (hij : i ≠ j) (hX : L[i]? = some (.cells cv rvs cs)) (hY : L[j]? = some (.ints rv rs)) (k : Int) (h0 : 0 ≤ k) (h1 : k + kHeap ⟨cs, rs⟩ ≤ 1099511627776) :
    Calls Try.prog 17 #[.agg #[cv, rv], .int .i64 k] w fun e w' => e = .returned (.int .i64 (k + kHeap ⟨cs, rs⟩)) ∧ Owns lo w0 w' ((L.set i (.cells cv rvs (mCells k cs))).set j (.ints rv (marks (k + kAdd cs) rs.length))) := by
  have hK : Hid (kHeap ⟨cs, rs⟩ = kAdd cs + rs.length) := Go.Lib.hid rfl
  rw [hK.out] at h1
  have H1 := h.box [cv, rv] 29
  obtain ⟨a0, a1, -, -⟩ := H1.box2 0 rfl
  obtain ⟨C, c, rfl, -⟩ := h.formC i hX
  obtain ⟨R, r, rfl, -⟩ := h.formI j hY
  go_enter Try.func17, Try.ntmps17
  go_wp2_with fail
  refine (H1.markC (i + 1) hX k h0 (by omega)).mono ?_
  rintro e w1 ⟨rfl, H2⟩
  clear a0 a1
  obtain ⟨a0, a1, -, -⟩ := H2.box2 0 rfl
  go_wp2_with fail
  refine (H2.markI (j + 1) (by show (L.set i _)[j]? = _; rw [List.getElem?_set_ne hij]; exact hY) (k + kAdd cs) (by omega) (by omega)).mono ?_
  rintro e w2 ⟨rfl, H3⟩
  have H4 := H3.drop 1
  clear a0 a1
  go_wp2
  go_ret
  exact ⟨ret_i (by rw [hK.out]; omega), H4⟩
end
section
variable {lo lo' : Nat} {w0 w w' : World} {X : OB} {L M : List OB}
theorem OB.holds.low (h : X.holds lo w) (hl : lo' ≤ lo) : X.holds lo' w := by
  cases X with
  | box g vs t => exact ⟨Nat.le_trans hl h.1, h.2⟩
  | row e s v n ys => exact own_lo h hl
  | cells v rvs cs => exact OwC.wide h hl (Nat.le_refl _)
theorem Owns.merge (h : Owns lo w0 w L) (k : Owns w.heap.size w w' M) : Owns lo w0 w' (M ++ L) := by
  have hc := h.call k.below
  refine ⟨hc.below, hc.le, fun i X hX => ?_, fun i j X Y hij hX hY b hb hb' => ?_⟩
  · rcases Nat.lt_or_ge i M.length with hi | hi
    · rw [List.getElem?_append_left hi] at hX; exact (k.holds i X hX).low h.le
    · rw [List.getElem?_append_right hi] at hX; exact hc.holds _ X hX
  · rcases Nat.lt_or_ge i M.length with hi | hi
    · rw [List.getElem?_append_left hi] at hX
      rcases Nat.lt_or_ge j M.length with hj | hj
      · rw [List.getElem?_append_left hj] at hY; exact k.apart i j X Y hij hX hY b hb hb'
      · rw [List.getElem?_append_right hj] at hY
        have h1 := ((k.holds i X hX).lt b hb).1
        have h2 := ((h.holds _ Y hY).lt b hb').2
        omega
    · rw [List.getElem?_append_right hi] at hX
      rcases Nat.lt_or_ge j M.length with hj | hj
      · rw [List.getElem?_append_left hj] at hY
        have h1 := ((k.holds j Y hY).lt b hb').1
        have h2 := ((h.holds _ X hX).lt b hb).2
        omega
      · rw [List.getElem?_append_right hj] at hY; exact hc.apart _ _ X Y (by omega) hX hY b hb hb'
theorem Owns.rdH (h : Owns lo w0 w L) (i j : Nat) {cv rv : Value} {rvs : List Value} {cs : List Cel} {rs : List Int} (hX : L[i]? = some (.cells cv rvs cs)) (hY : L[j]? = some (.ints rv rs)) : RdH w w.heap.size (.agg #[cv, rv]) ⟨cs, rs⟩ := by
  obtain ⟨A, a, rfl, h1⟩ := h.formC i hX
  obtain ⟨C, c, rfl, h2⟩ := h.formI j hY
  exact ⟨_, _, _, _, _, _, rfl, h1, h2⟩
end
end Go.Proofs.Ytoekikeomgfaiaa
