/- Writing into the references of a cell that a call owns; and the reference's heap of a table, in place. -/
import Derived.Test.YtjpfgbckmcjjaaaTi
import Derived.Test.YtjpfgbckmcjjaaaZ0
import Derived.Test.YtjpfgbckmcjjaaaCpS
import Derived.Test.YtjpfgbckmcjjaaaHvS
namespace Go.Proofs.Ytjpfgbckmcjjaaa
open Go.RowKit
section
variable {lo : Nat} {w0 w : World} {L : List OB} {v : Value} {rvs : List Value} {cs : List Cel} {k j : Nat} {l : Cel}
theorem Owns.putRef {g n c : Nat} (h : Owns lo w0 w L) (i : Nat) (hX : L[i]? = some (.cells v rvs cs)) (hrv : rvs[k]? = some (.slice (some ⟨g, 0, none⟩) n c)) (hc : cs[k]? = some l) (hn : n = l.refs.length) (j : Nat) (x : Int) :
    Owns lo w0 (w.setCell ⟨g, j, none⟩ (.int .i64 x)) (L.set i (.cells v rvs (cs.set k ⟨l.used, l.data, l.refs.set j x⟩))) := by
  subst hn
  have ho := h.owC i hX
  have hI := ho.refs k _ l hrv hc
  have hs := hI.own.stored j (.int .i64 x)
  refine h.turn i hX (turn_set (.inr ⟨_, List.mem_of_getElem? hrv, rfl⟩)) ?_ fun k hk => .inl hk
  show OwC _ lo _ v rvs _
  rw [World.size_setCell]
  refine OwC.turn ho hrv hc ⟨?_, hI.lt⟩ hs.2
  show World.ownsRow _ _ _ _ _ (l.refs.set j x).length _
  rw [List.length_set, List.map_set]
  exact hs.1
theorem Owns.cellsAt (h : Owns lo w0 w L) (i : Nat) (hX : L[i]? = some (.cells v rvs cs)) (hc : Hid (cs[k]? = some l)) : ∃ gC cC A c, v = .slice (some ⟨gC, 0, none⟩) cs.length cC ∧ Hid (rvs[k]? = some (.slice A l.refs.length c)) ∧ w.cell? ⟨gC, k * 3 + 2, none⟩ = some (.slice A l.refs.length c) ∧ l.refs.length ≤ c ∧ c ≤ maxLen := by
  have ho := h.owC i hX
  have hk := (List.getElem?_eq_some_iff.1 hc.out).1
  have hrv : rvs[k]? = some (rvs[k]'(by rw [ho.same]; exact hk)) := List.getElem?_eq_getElem _
  obtain ⟨A, c, e, hR⟩ := (ho.refs k _ l hrv hc.out).form
  rw [e] at hrv
  have hvals := (cellVals_at cs rvs k l _ hc.out hrv).2.2
  rcases ho.own.2 with ⟨_, h0⟩ | ⟨g, cC, cur, rfl, _⟩
  · omega
  · have hj : k * 3 + 2 < cs.length * 3 := by omega
    refine ⟨g, cC, A, c, rfl, Go.Lib.hid hrv, (ho.own.cellAt _ hj).trans hvals, ?_, hR.mx⟩
    exact hR.cap
theorem Owns.refAt {A : Option Addr} {c : Nat} {x : Int} (h : Owns lo w0 w L) (i : Nat) (hX : L[i]? = some (.cells v rvs cs)) (hrv : Hid (rvs[k]? = some (.slice A l.refs.length c))) (hc : Hid (cs[k]? = some l)) (hj : Hid (l.refs[j]? = some x)) :
    ∃ g, A = some ⟨g, 0, none⟩ ∧ w.cell? ⟨g, j, none⟩ = some (.int .i64 x) ∧ w.frozen? ⟨g, j, none⟩ = false := by
  have hI := (h.owC i hX).refs k _ l hrv.out hc.out
  have hjl := (List.getElem?_eq_some_iff.1 hj.out).1
  rcases hI.own.2 with ⟨_, h0⟩ | ⟨g, cC, cur, e, _⟩
  · omega
  · simp only [Value.slice.injEq] at e
    obtain ⟨rfl, _, rfl⟩ := e
    exact ⟨g, rfl, (hI.own.cellAt j (by omega)).trans (by rw [List.getElem?_map, hj.out]; rfl), hI.own.frozenAt j⟩
end
def inT (hs : List Int) (r : Int) : Bool := decide (-1 ≤ r) && decide (r ≤ (hs.length : Int) - 1)
def allIn (t : Tbl) : Bool := t.store.roots.all (inT t.hands) && t.store.cells.all fun c => c.refs.all (inT t.hands)
theorem inT_no {hs : List Int} {r : Int} (h : inT hs r = false) : r < -1 ∨ (hs.length : Int) - 1 < r := by simp [inT] at h; omega
theorem inT_yes {hs : List Int} {r : Int} (h : inT hs r = true) : -1 ≤ r ∧ r ≤ (hs.length : Int) - 1 := by simpa [inT] using h
theorem mapT_turn {α : Type} {f : α → α} {xs : List α} {k : Nat} {x : α} (h : Hid (xs[k]? = some x)) : ((xs.take k).map f ++ xs.drop k).set k (f x) = (xs.take (k + 1)).map f ++ xs.drop (k + 1) := by
  obtain ⟨hk, rfl⟩ := List.getElem?_eq_some_iff.1 h.out
  have hl : ((xs.take k).map f).length = k := by simp; omega
  rw [take_snoc' h, List.map_append, List.set_append_right _ _ (by omega), hl, Nat.sub_self, List.drop_eq_getElem_cons hk, List.set_cons_zero, List.append_assoc]; rfl
theorem mapT_here {α : Type} {f : α → α} {xs : List α} {k : Nat} {x : α} (h : Hid (xs[k]? = some x)) : ((xs.take k).map f ++ xs.drop k)[k]? = some x := by
  obtain ⟨hk, rfl⟩ := List.getElem?_eq_some_iff.1 h.out
  have hl : ((xs.take k).map f).length = k := by simp; omega
  rw [List.getElem?_append_right (by omega), hl, Nat.sub_self, List.drop_eq_getElem_cons hk]; rfl
abbrev OB.rowI (v : Value) (n : Nat) (xs : List Int) : OB := .row 3 1 v n (xs.map (Value.int .i64))
theorem Owns.putRowI {lo : Nat} {w0 w : World} {L : List OB} {g n c : Nat} {xs : List Int} (h : Owns lo w0 w L) (i : Nat) (hX : L[i]? = some (.rowI (.slice (some ⟨g, 0, none⟩) n c) n xs)) (j : Nat) (x : Int) : Owns lo w0 (w.setCell ⟨g, j, none⟩ (.int .i64 x)) (L.set i (.rowI (.slice (some ⟨g, 0, none⟩) n c) n (xs.set j x))) := by
  have := h.putRow i hX j (.int .i64 x)
  rwa [← List.map_set] at this
theorem Owns.ofRowI {lo : Nat} {w0 w : World} {L : List OB} {n : Nat} {v : Value} {xs : List Int} (i : Nat) (_ : Owns lo w0 w L) (hX : L[i]? = some (.rowI v n xs)) (hn : xs.length = n) : L[i]? = some (.ints v xs) := by subst hn; exact hX
structure RootSt (t : Tbl) (k : Nat) (ok : Bool) (X : List Int) : Prop where
  len : X.length = t.store.roots.length
  yes : ok = true → X = (t.store.roots.take k).map (tellR t.hands) ++ t.store.roots.drop k ∧ ∀ r ∈ t.store.roots.take k, inT t.hands r = true
  no : ok = false → allIn t = false
theorem RootSt.start (t : Tbl) : RootSt t 0 true t.store.roots := ⟨rfl, fun _ => ⟨rfl, fun r hr => by simp at hr⟩, fun h => by cases h⟩
theorem allIn_root {t : Tbl} {k : Nat} {x : Int} (hx : Hid (t.store.roots[k]? = some x)) (h : inT t.hands x = false) : allIn t = false := by
  unfold allIn
  have : t.store.roots.all (inT t.hands) = false := List.all_eq_false.2 ⟨x, List.mem_of_getElem? hx.out, by rw [h]; exact Bool.false_ne_true⟩
  rw [this]; rfl
theorem RootSt.bad {t : Tbl} {k k' : Nat} {ok : Bool} {X : List Int} (h : RootSt t k ok X) (hb : allIn t = false) : RootSt t k' false X := ⟨h.len, (fun h => by cases h), fun _ => hb⟩
theorem RootSt.at_ {t : Tbl} {k : Nat} {X : List Int} {x : Int} (h : RootSt t k true X) (hx : Hid (t.store.roots[k]? = some x)) : X[k]? = some x := by
  rw [(h.yes rfl).1]; exact mapT_here hx
theorem RootSt.next {t : Tbl} {k : Nat} {X : List Int} {x : Int} (h : RootSt t k true X) (hx : Hid (t.store.roots[k]? = some x)) (hi : inT t.hands x = true) : RootSt t (k + 1) true (X.set k (tellR t.hands x)) := by
  refine ⟨by rw [List.length_set]; exact h.len, fun _ => ⟨?_, fun r hr => ?_⟩, fun h => by cases h⟩
  · rw [(h.yes rfl).1, mapT_turn hx]
  · rw [take_snoc' hx, List.mem_append, List.mem_singleton] at hr
    rcases hr with hr | rfl
    · exact (h.yes rfl).2 r hr
    · exact hi
structure CellSt (t : Tbl) (k : Nat) (ok : Bool) (R : List Int) (X : List Cel) : Prop where
  len : X.length = t.store.cells.length
  small : ∀ l ∈ X, l.refs.length ≤ 1048576
  yes : ok = true → (R = t.store.roots.map (tellR t.hands) ∧ ∀ r ∈ t.store.roots, inT t.hands r = true) ∧ X = (t.store.cells.take k).map (tellC t.hands) ++ t.store.cells.drop k ∧ ∀ c ∈ t.store.cells.take k, ∀ r ∈ c.refs, inT t.hands r = true
  no : ok = false → allIn t = false
theorem RootSt.cells {t : Tbl} {k : Nat} {ok : Bool} {R : List Int} (h : RootSt t k ok R) (hk : t.store.roots.length ≤ k) (hs : ∀ c ∈ t.store.cells, c.refs.length ≤ 1048576) : CellSt t 0 ok R t.store.cells := by
  refine ⟨rfl, hs, fun ho => ⟨?_, rfl, fun c hc => by simp at hc⟩, h.no⟩
  have := h.yes ho
  rw [List.take_of_length_le hk, List.drop_of_length_le hk, List.append_nil] at this
  exact this
theorem CellSt.at_ {t : Tbl} {k : Nat} {ok : Bool} {R : List Int} {X : List Cel} {l : Cel} (h : CellSt t k ok R X) (hl : X[k]? = some l) (ho : ok = true) : t.store.cells[k]? = some l := by
  have hk : k < t.store.cells.length := by rw [← h.len]; exact (List.getElem?_eq_some_iff.1 hl).1
  have hc := mapT_here (f := tellC t.hands) (Go.Lib.hid (List.getElem?_eq_getElem hk))
  rw [← (h.yes ho).2.1, hl] at hc
  rw [hc]; exact List.getElem?_eq_getElem hk
structure RefSt (t : Tbl) (okE : Bool) (l0 : Cel) (j : Nat) (ok : Bool) (Y : List Int) : Prop where
  len : Y.length = l0.refs.length
  yes : ok = true → okE = true ∧ Y = (l0.refs.take j).map (tellR t.hands) ++ l0.refs.drop j ∧ ∀ r ∈ l0.refs.take j, inT t.hands r = true
  no : ok = false → allIn t = false
theorem CellSt.refs {t : Tbl} {k : Nat} {ok : Bool} {R : List Int} {X : List Cel} (h : CellSt t k ok R X) (l : Cel) : RefSt t ok l 0 ok l.refs := ⟨rfl, fun ho => ⟨ho, rfl, fun r hr => by simp at hr⟩, h.no⟩
theorem RefSt.bad {t : Tbl} {okE : Bool} {l0 : Cel} {j j' : Nat} {ok : Bool} {Y : List Int} (h : RefSt t okE l0 j ok Y) (hb : allIn t = false) : RefSt t okE l0 j' false Y := ⟨h.len, (fun h => by cases h), fun _ => hb⟩
theorem allIn_ref {t : Tbl} {k j : Nat} {l : Cel} {x : Int} (hl : t.store.cells[k]? = some l) (hx : Hid (l.refs[j]? = some x)) (h : inT t.hands x = false) : allIn t = false := by
  unfold allIn
  have h1 : l.refs.all (inT t.hands) = false := List.all_eq_false.2 ⟨x, List.mem_of_getElem? hx.out, by rw [h]; exact Bool.false_ne_true⟩
  have : (t.store.cells.all fun c => c.refs.all (inT t.hands)) = false := List.all_eq_false.2 ⟨l, List.mem_of_getElem? hl, by rw [h1]; exact Bool.false_ne_true⟩
  rw [this]; simp
theorem RefSt.at_ {t : Tbl} {okE : Bool} {l0 : Cel} {j : Nat} {Y : List Int} {x : Int} (h : RefSt t okE l0 j true Y) (hx : Hid (l0.refs[j]? = some x)) : Y[j]? = some x := by
  rw [(h.yes rfl).2.1]; exact mapT_here hx
theorem RefSt.next {t : Tbl} {okE : Bool} {l0 : Cel} {j : Nat} {Y : List Int} {x : Int} (h : RefSt t okE l0 j true Y) (hx : Hid (l0.refs[j]? = some x)) (hi : inT t.hands x = true) : RefSt t okE l0 (j + 1) true (Y.set j (tellR t.hands x)) := by
  refine ⟨by rw [List.length_set]; exact h.len, fun _ => ⟨(h.yes rfl).1, ?_, fun r hr => ?_⟩, fun h => by cases h⟩
  · rw [(h.yes rfl).2.1, mapT_turn hx]
  · rw [take_snoc' hx, List.mem_append, List.mem_singleton] at hr
    rcases hr with hr | rfl
    · exact (h.yes rfl).2.2 r hr
    · exact hi
theorem RefSt.done {t : Tbl} {okE ok : Bool} {R : List Int} {X : List Cel} {l0 : Cel} {k j : Nat} {Y : List Int} (h : RefSt t okE l0 j ok Y) (hj : l0.refs.length ≤ j) (hX : CellSt t k okE R X) (hl : X[k]? = some l0) : CellSt t (k + 1) ok R (X.set k ⟨l0.used, l0.data, Y⟩) := by
  refine ⟨by rw [List.length_set]; exact hX.len, fun l hm => ?_, fun ho => ?_, h.no⟩
  · rcases List.mem_or_eq_of_mem_set hm with h1 | rfl
    · exact hX.small l h1
    · show Y.length ≤ _
      rw [h.len]; exact hX.small l0 (List.mem_of_getElem? hl)
  · obtain ⟨h1, h2, h3⟩ := h.yes ho
    obtain ⟨g1, g2, g3⟩ := hX.yes h1
    have hc := Go.Lib.hid (hX.at_ hl h1)
    rw [List.take_of_length_le hj, List.drop_of_length_le hj, List.append_nil] at h2
    rw [List.take_of_length_le hj] at h3
    refine ⟨g1, ?_, fun c hm => ?_⟩
    · rw [g2, h2]; exact mapT_turn (f := tellC t.hands) hc
    · rw [take_snoc' hc, List.mem_append, List.mem_singleton] at hm
      rcases hm with hm | rfl
      · exact g3 c hm
      · exact h3
theorem CellSt.done {t : Tbl} {k : Nat} {ok : Bool} {R : List Int} {X : List Cel} (h : CellSt t k ok R X) (hk : t.store.cells.length ≤ k) : ok = allIn t ∧ (allIn t = true → (⟨X, R⟩ : Hp) = tellH t) := by
  cases ok
  · have := h.no rfl
    exact ⟨this.symm, fun h => by rw [this] at h; cases h⟩
  · obtain ⟨⟨g1, g2⟩, g3, g4⟩ := h.yes rfl
    rw [List.take_of_length_le hk] at g3 g4
    rw [List.drop_of_length_le hk, List.append_nil] at g3
    refine ⟨?_, fun _ => by rw [g1, g3]; rfl⟩
    symm
    unfold allIn
    simp only [Bool.and_eq_true, List.all_eq_true]
    exact ⟨g2, g4⟩
def Told23 (w : World) (t : Tbl) (e : Ending) (w' : World) : Prop := ∃ u x, e = .returned (.tuple #[u, .bool (allIn t)]) ∧ OwH w' w.heap.size w'.heap.size u x ∧ Below w.heap.size w w' ∧ (allIn t = true → x = tellH t)
end Go.Proofs.Ytjpfgbckmcjjaaa
