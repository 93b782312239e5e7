/- Writing into the references of a cell that a call owns; and the reference's heap of a table, in place. -/
import Derived.Test.YtnpehidhoekfcaaTi
import Derived.Test.YtnpehidhoekfcaaZ0
import Derived.Test.YtnpehidhoekfcaaCpS
import Derived.Test.YtnpehidhoekfcaaHvS
namespace Go.Proofs.Ytnpehidhoekfcaa
open Go.RowKit
section
variable {lo : Nat} {w0 w : World} {L : List OB} {v : Value} {rvs : List Value} {cs : List Cel} {k j : Nat} {l : Cel}
theorem Owns.putRef {g n c : Nat} (h : Owns lo w0 w L) (i : Nat) (hX : L[i]? = some (.cells v rvs cs)) (hrv : rvs[k]? = some (.slice (some ⟨g, 0, none⟩) n c)) (hc : cs[k]? = some l) (hn : n = l.refs.length) (j : Nat) (x : Int) :
    Owns lo w0 (w.setCell ⟨g, j, none⟩ (.int .i64 x)) (L.set i (.cells v rvs (cs.set k ⟨l.used, l.data, l.refs.set j x⟩))) := by
  subst hn
  have ho := h.owC i hX
  have hI := ho.refs k _ l hrv hc
  have hs := hI.own.stored j (.int .i64 x)
  refine h.turn i hX (turn_set (.inr ⟨_, List.mem_of_getElem? hrv, rfl⟩)) ?_ fun k hk => .inl hk
  show OwC _ lo _ v rvs _
  rw [World.size_setCell]
  refine OwC.turn ho hrv hc ⟨?_, hI.lt⟩ hs.2
  show World.ownsRow _ _ _ _ _ (l.refs.set j x).length _
  rw [List.length_set, List.map_set]
  exact hs.1
theorem Owns.cellsAt (h : Owns lo w0 w L) (i : Nat) (hX : L[i]? = some (.cells v rvs cs)) (hc : Hid (cs[k]? = some l)) : ∃ gC cC A c, v = .slice (some ⟨gC, 0, none⟩) cs.length cC ∧ Hid (rvs[k]? = some (.slice A l.refs.length c)) ∧ w.cell? ⟨gC, k * 3 + 2, none⟩ = some (.slice A l.refs.length c) ∧ l.refs.length ≤ c ∧ c ≤ maxLen := by
  have ho := h.owC i hX
  have hk := (List.getElem?_eq_some_iff.1 hc.out).1
  have hrv : rvs[k]? = some (rvs[k]'(by rw [ho.same]; exact hk)) := List.getElem?_eq_getElem _
  obtain ⟨A, c, e, hR⟩ := (ho.refs k _ l hrv hc.out).form
  rw [e] at hrv
  have hvals := (cellVals_at cs rvs k l _ hc.out hrv).2.2
  rcases ho.own.2 with ⟨_, h0⟩ | ⟨g, cC, cur, rfl, _⟩
  · omega
  · have hj : k * 3 + 2 < cs.length * 3 := by omega
    refine ⟨g, cC, A, c, rfl, Go.Lib.hid hrv, (ho.own.cellAt _ hj).trans hvals, ?_, hR.mx⟩
    exact hR.cap
theorem Owns.refAt {A : Option Addr} {c : Nat} {x : Int} (h : Owns lo w0 w L) (i : Nat) (hX : L[i]? = some (.cells v rvs cs)) (hrv : Hid (rvs[k]? = some (.slice A l.refs.length c))) (hc : Hid (cs[k]? = some l)) (hj : Hid (l.refs[j]? = some x)) :
    ∃ g, A = some ⟨g, 0, none⟩ ∧ w.cell? ⟨g, j, none⟩ = some (.int .i64 x) ∧ w.frozen? ⟨g, j, none⟩ = false := by
  have hI := (h.owC i hX).refs k _ l hrv.out hc.out
  have hjl := (List.getElem?_eq_some_iff.1 hj.out).1
  rcases hI.own.2 with ⟨_, h0⟩ | ⟨g, cC, cur, e, _⟩
  · omega
  · simp only [Value.slice.injEq] at e
    obtain ⟨rfl, _, rfl⟩ := e
    exact ⟨g, rfl, (hI.own.cellAt j (by omega)).trans (by rw [List.getElem?_map, hj.out]; rfl), hI.own.frozenAt j⟩
end
def inT (hs : List Int) (r : Int) : Bool := decide (-1 ≤ r) && decide (r ≤ (hs.length : Int) - 1)
def allIn (t : Tbl) : Bool := t.store.roots.all (inT t.hands) && t.store.cells.all fun c => c.refs.all (inT t.hands)
theorem inT_no {hs : List Int} {r : Int} (h : inT hs r = false) : r < -1 ∨ (hs.length : Int) - 1 < r := by simp [inT] at h; omega
theorem inT_yes {hs : List Int} {r : Int} (h : inT hs r = true) : -1 ≤ r ∧ r ≤ (hs.length : Int) - 1 := by simpa [inT] using h
theorem mapT_turn {α : Type} {f : α → α} {xs : List α} {k : Nat} {x : α} (h : Hid (xs[k]? = some x)) : ((xs.take k).map f ++ xs.drop k).set k (f x) = (xs.take (k + 1)).map f ++ xs.drop (k + 1) := by
  obtain ⟨hk, rfl⟩ := List.getElem?_eq_some_iff.1 h.out
  have hl : ((xs.take k).map f).length = k := by simp; omega
  rw [take_snoc' h, List.map_append, List.set_append_right _ _ (by omega), hl, Nat.sub_self, List.drop_eq_getElem_cons hk, List.set_cons_zero, List.append_assoc]; rfl
theorem mapT_here {α : Type} {f : α → α} {xs : List α} {k : Nat} {x : α} (h : Hid (xs[k]? = some x)) : ((xs.take k).map f ++ xs.drop k)[k]? = some x := by
  obtain ⟨hk, rfl⟩ := List.getElem?_eq_some_iff.1 h.out
  have hl : ((xs.take k).map f).length = k := by simp; omega
  rw [List.getElem?_append_right (by omega), hl, Nat.sub_self, List.drop_eq_getElem_cons hk]; rfl
abbrev OB.rowI (v : Value) (n : Nat) (xs : List Int) : OB := .row 3 1 v n (xs.map (Value.int .i64))
theorem Owns.putRowI {lo : Nat} {w0 w : World} {L : List OB} {g n c : Nat} {xs : List Int} (h : Owns lo w0 w L) (i : Nat) (hX : L[i]? = some (.rowI (.slice (some ⟨g, 0, none⟩) n c) n xs)) (j : Nat) (x : Int) : Owns lo w0 (w.setCell ⟨g, j, none⟩ (.int .i64 x)) (L.set i (.rowI (.slice (some ⟨g, 0, none⟩) n c) n (xs.set j x))) := by
  have := h.putRow i hX j (.int .i64 x)
  rwa [← List.map_set] at this
theorem Owns.ofRowI {lo : Nat} {w0 w : World} {L : List OB} {n : Nat} {v : Value} {xs : List Int} (i : Nat) (_ : Owns lo w0 w L) (hX : L[i]? = some (.rowI v n xs)) (hn : xs.length = n) : L[i]? = some (.ints v xs) := by subst hn; exact hX
structure RootSt (t : Tbl) (k : Nat) (ok : Bool) (X : List Int) : Prop where
  len : X.length = t.store.roots.length
  yes : ok = true → X = (t.store.roots.take k).map (tellR t.hands) ++ t.store.roots.drop k ∧ ∀ r ∈ t.store.roots.take k, inT t.hands r = true
  no : ok = false → allIn t = false
theorem RootSt.start (t : Tbl) : RootSt t 0 true t.store.roots := ⟨rfl, fun _ => ⟨rfl, fun r hr => by simp at hr⟩, fun h => by cases h⟩
theorem allIn_root {t : Tbl} {k : Nat} {x : Int} (hx : Hid (t.store.roots[k]? = some x)) (h : inT t.hands x = false) : allIn t = false := by
  unfold allIn
  have : t.store.roots.all (inT t.hands) = false := List.all_eq_false.2 ⟨x, List.mem_of_getElem? hx.out, by rw [h]; exact Bool.false_ne_true⟩
  rw [this]; rfl
theorem RootSt.bad {t : Tbl} {k k' : Nat} {ok : Bool} {X : List Int} (h : RootSt t k ok X) (hb : allIn t = false) : RootSt t k' false X := ⟨h.len, (fun h => by cases h), fun _ => hb⟩
theorem RootSt.at_ {t : Tbl} {k : Nat} {X : List Int} {x : Int} (h : RootSt t k true X) (hx : Hid (t.store.roots[k]? = some x)) : X[k]? = some x := by
  rw [(h.yes rfl).1]; exact mapT_here hx
theorem RootSt.next {t : Tbl} {k : Nat} {X : List Int} {x : Int} (h : RootSt t k true X) (hx : Hid (t.store.roots[k]? = some x)) (hi : inT t.hands x = true) : RootSt t (k + 1) true (X.set k (tellR t.hands x)) := by
  refine ⟨by rw [List.length_set]; exact h.len, fun _ => ⟨?_, fun r hr => ?_⟩, fun h => by cases h⟩
  · rw [(h.yes rfl).1, mapT_turn hx]
  · rw [take_snoc' hx, List.mem_append, List.mem_singleton] at hr
    rcases hr with hr | rfl
    · exact (h.yes rfl).2 r hr
    · exact hi
structure CellSt (t : Tbl) (k : Nat) (ok : Bool) (R : List Int) (X : List Cel) : Prop where
  len : X.length = t.store.cells.length
  small : ∀ l ∈ X, l.refs.length ≤ 1048576
  yes : ok = true → (R = t.store.roots.map (tellR t.hands) ∧ ∀ r ∈ t.store.roots, inT t.hands r = true) ∧ X = (t.store.cells.take k).map (tellC t.hands) ++ t.store.cells.drop k ∧ ∀ c ∈ t.store.cells.take k, ∀ r ∈ c.refs, inT t.hands r = true
  no : ok = false → allIn t = false
theorem RootSt.cells {t : Tbl} {k : Nat} {ok : Bool} {R : List Int} (h : RootSt t k ok R) (hk : t.store.roots.length ≤ k) (hs : ∀ c ∈ t.store.cells, c.refs.length ≤ 1048576) : CellSt t 0 ok R t.store.cells := by
  refine ⟨rfl, hs, fun ho => ⟨?_, rfl, fun c hc => by simp at hc⟩, h.no⟩
  have := h.yes ho
  rw [List.take_of_length_le hk, List.drop_of_length_le hk, List.append_nil] at this
  exact this
theorem CellSt.at_ {t : Tbl} {k : Nat} {ok : Bool} {R : List Int} {X : List Cel} {l : Cel} (h : CellSt t k ok R X) (hl : X[k]? = some l) (ho : ok = true) : t.store.cells[k]? = some l := by
  have hk : k < t.store.cells.length := by rw [← h.len]; exact (List.getElem?_eq_some_iff.1 hl).1
  have hc := mapT_here (f := tellC t.hands) (Go.Lib.hid (List.getElem?_eq_getElem hk))
  rw [← (h.yes ho).2.1, hl] at hc
  rw [hc]; exact List.getElem?_eq_getElem hk
structure RefSt (t : Tbl) (okE : Bool) (l0 : Cel) (j : Nat) (ok : Bool) (Y : List Int) : Prop where
  len : Y.length = l0.refs.length
  yes : ok = true → okE = true ∧ Y = (l0.refs.take j).map (tellR t.hands) ++ l0.refs.drop j ∧ ∀ r ∈ l0.refs.take j, inT t.hands r = true
  no : ok = false → allIn t = false
theorem CellSt.refs {t : Tbl} {k : Nat} {ok : Bool} {R : List Int} {X : List Cel} (h : CellSt t k ok R X) (l : Cel) : RefSt t ok l 0 ok l.refs := ⟨rfl, fun ho => ⟨ho, rfl, fun r hr => by simp at hr⟩, h.no⟩
theorem RefSt.bad {t : Tbl} {okE : Bool} {l0 : Cel} {j j' : Nat} {ok : Bool} {Y : List Int} (h : RefSt t okE l0 j ok Y) (hb : allIn t = false) : RefSt t okE l0 j' false Y := ⟨h.len, (fun h => by cases h), fun _ => hb⟩
theorem allIn_ref {t : Tbl} {k j : Nat} {l : Cel} {x : Int} (hl : t.store.cells[k]? = some l) (hx : Hid (l.refs[j]? = some x)) (h : inT t.hands x = false) : allIn t = false := by
  unfold allIn
  have h1 : l.refs.all (inT t.hands) = false := List.all_eq_false.2 ⟨x, List.mem_of_getElem? hx.out, by rw [h]; exact Bool.false_ne_true⟩
  have : (t.store.cells.all fun c => c.refs.all (inT t.hands)) = false := List.all_eq_false.2 ⟨l, List.mem_of_getElem? hl, by rw [h1]; exact Bool.false_ne_true⟩
  rw [this]; simp
theorem RefSt.at_ {t : Tbl} {okE : Bool} {l0 : Cel} {j : Nat} {Y : List Int} {x : Int} (h : RefSt t okE l0 j true Y) (hx : Hid (l0.refs[j]? = some x)) : Y[j]? = some x := by
  rw [(h.yes rfl).2.1]; exact mapT_here hx
theorem RefSt.next {t : Tbl} {okE : Bool} {l0 : Cel} {j : Nat} {Y : List Int} {x : Int} (h : RefSt t okE l0 j true Y) (hx : Hid (l0.refs[j]? = some x)) (hi : inT t.hands x = true) : RefSt t okE l0 (j + 1) true (Y.set j (tellR t.hands x)) := by
  refine ⟨by rw [List.length_set]; exact h.len, fun _ => ⟨(h.yes rfl).1, ?_, fun r hr => ?_⟩, fun h => by cases h⟩
  · rw [(h.yes rfl).2.1, mapT_turn hx]
  · rw [take_snoc' hx, List.mem_append, List.mem_singleton] at hr
    rcases hr with hr | rfl
    · exact (h.yes rfl).2.2 r hr
    · exact hi
theorem RefSt.done {t : Tbl} {okE ok : Bool} {R : List Int} {X : List Cel} {l0 : Cel} {k j : Nat} {Y : List Int} (h : RefSt t okE l0 j ok Y) (hj : l0.refs.length ≤ j) (hX : CellSt t k okE R X) (hl : X[k]? = some l0) : CellSt t (k + 1) ok R (X.set k ⟨l0.used, l0.data, Y⟩) := by
  refine ⟨by rw [List.length_set]; exact hX.len, fun l hm => ?_, fun ho => ?_, h.no⟩
  · rcases List.mem_or_eq_of_mem_set hm with h1 | rfl
    · exact hX.small l h1
    · show Y.length ≤ _
      rw [h.len]; exact hX.small l0 (List.mem_of_getElem? hl)
  · obtain ⟨h1, h2, h3⟩ := h.yes ho
    obtain ⟨g1, g2, g3⟩ := hX.yes h1
    have hc := Go.Lib.hid (hX.at_ hl h1)
    rw [List.take_of_length_le hj, List.drop_of_length_le hj, List.append_nil] at h2
    rw [List.take_of_length_le hj] at h3
    refine ⟨g1, ?_, fun c hm => ?_⟩
    · rw [g2, h2]; exact mapT_turn (f := tellC t.hands) hc
    · rw [take_snoc' hc, List.mem_append, List.mem_singleton] at hm
      rcases hm with hm | rfl
      · exact g3 c hm
      · exact h3
theorem CellSt.done {t : Tbl} {k : Nat} {ok : Bool} {R : List Int} {X : List Cel} (h : CellSt t k ok R X) (hk : t.store.cells.length ≤ k) : ok = allIn t ∧ (allIn t = true → (⟨X, R⟩ : Hp) = tellH t) := by
  cases ok
  · have := h.no rfl
    exact ⟨this.symm, fun h => by rw [this] at h; cases h⟩
  · obtain ⟨⟨g1, g2⟩, g3, g4⟩ := h.yes rfl
    rw [List.take_of_length_le hk] at g3 g4
    rw [List.drop_of_length_le hk, List.append_nil] at g3
    refine ⟨?_, fun _ => by rw [g1, g3]; rfl⟩
    symm
    unfold allIn
    simp only [Bool.and_eq_true, List.all_eq_true]
    exact ⟨g2, g4⟩
def Told23 (w : World) (t : Tbl) (e : Ending) (w' : World) : Prop := ∃ u x, e = .returned (.tuple #[u, .bool (allIn t)]) ∧ OwH w' w.heap.size w'.heap.size u x ∧ Below w.heap.size w w' ∧ (allIn t = true → x = tellH t)
set_option maxHeartbeats 3200000 in
set_option maxRecDepth 20000 in
theorem l23Heap_any (w : World) (B : Nat) (v : Value) (t : Tbl) (hh : RdT w B v t) (hn : t.store.cells.length ≤ 1048576) (hn2 : t.store.roots.length ≤ 1048576) (hn3 : ∀ c ∈ t.store.cells, c.refs.length ≤ 1048576) (hn4 : t.hands.length ≤ 1048576) :
    Calls Try.prog 52 #[v] w (Told23 w t) := by
  obtain ⟨D, m, d, D', m', d', E, q, f, rfl, hC, hR, hE⟩ := hh.top
  have l3 := hC.le1; have l4 := hC.le2
  have l5 := RdI.le1 hE; have l6 := RdI.le2 hE
  have hR2 : RdH w w.heap.size (.agg #[.slice D m d, .slice D' m' d']) t.store := ⟨_, _, _, _, _, _, rfl, hC, hR⟩
  have H1 := ((Owns.nil w).box [.slice D m d, .slice D' m' d', .slice E q f] 42).box [.slice none 0 0, .slice none 0 0] 27
  simp only [World.size_alloc] at H1
  obtain ⟨a0, a1, a2, -, -, -⟩ := H1.box3 1 rfl
  go_enter Try.func52, Try.ntmps52
  go_wp2_with fail
  refine (l7Copy_any _ _ _ t.store (hR2.below H1.below) hn hn2 hn3).mono ?_
  rintro e w1 ⟨v1, rfl, ho, hb1⟩
  obtain ⟨cv, rvs, rv, rfl, H2⟩ := H1.madeH ho hb1
  obtain ⟨C, kC, rfl, -⟩ := H2.formC 0 rfl
  obtain ⟨R, kR, rfl, -⟩ := H2.formI 1 rfl
  have H3 := H2.box [.slice C t.store.cells.length kC, .slice R t.store.roots.length kR] 27
  have HSt := Go.Lib.hid (RootSt.start t)
  clear H1 H2 ho hb1 a0 a1 a2
  obtain ⟨a0, a1, a2, -, -, -⟩ := H3.box3 4 rfl
  obtain ⟨x0, x1, -, -⟩ := H3.box2 0 rfl
  go_wp2_with fail
  go_loopw [5, 6] (fun v5 i wr => ∃ (k : Nat) (ok : Bool) (X : List Int), v5 = .bool ok ∧ i = .int .i64 k ∧ k ≤ t.store.roots.length ∧ RootSt t k ok X ∧ Owns w.heap.size w wr [.box w1.heap.size [.slice C t.store.cells.length kC, .slice R t.store.roots.length kR] 27, .cells (.slice C t.store.cells.length kC) rvs t.store.cells, .rowI (.slice R t.store.roots.length kR) t.store.roots.length X, .box (w.heap.size + 1) [.slice none 0 0, .slice none 0 0] 27, .box w.heap.size [.slice D m d, .slice D' m' d', .slice E q f] 42]) (fun _ i _ => t.store.roots.length - (intOf i).toNat)
  case atStart => exact ⟨0, true, _, rfl, rfl, Nat.zero_le _, HSt.out, H3⟩
  case round =>
    clear H3 a0 a1 a2 x0 x1 HSt
    obtain ⟨k, ok, X, rfl, rfl, hk, hX, H⟩ := hrel
    obtain ⟨a0, a1, a2, -, -, -⟩ := H.box3 4 rfl
    obtain ⟨x0, x1, -, -⟩ := H.box2 0 rfl
    by_cases hlt : k < t.store.roots.length
    · obtain ⟨x, hx⟩ : ∃ x, Hid (t.store.roots[k]? = some x) := ⟨_, Go.Lib.hid (List.getElem?_eq_getElem hlt)⟩
      cases ok
      · have HN := Go.Lib.hid (hX.bad (k' := k + 1) (hX.no rfl))
        clear hX
        go_wp2_with fail
        go_quiet (fail)
        go_wp2
        go_roundw
        case rel => exact ⟨k + 1, false, X, rfl, by go_num, by omega, HN.out, H.drewN _⟩
        case measure => simp [intOf]; omega
      · have HL := Go.Lib.hid (hX.at_ hx)
        obtain ⟨gR, cR, e7, -, -, -, -⟩ := H.rowAt 2 rfl (by omega)
        simp only [Value.slice.injEq, true_and] at e7
        obtain ⟨rfl, rfl⟩ := e7
        obtain ⟨z0, zf⟩ := H.elem 2 rfl (j := k) (u := .int .i64 x) (by rw [List.getElem?_map, HL.out]; rfl)
        cases hin : inT t.hands x
        · have HN := Go.Lib.hid (hX.bad (k' := k + 1) (allIn_root hx hin))
          have hno := inT_no hin
          clear hX hin
          go_wp2_with fail
          go_quiet ((go_at_call 42; exact Calls.quiet_of_same (l1In_no _ _ _ _ (by omega))))
          go_wp2
          go_roundw
          case rel => exact ⟨k + 1, false, X, rfl, by go_num, by omega, HN.out, H.drewN _⟩
          case measure => simp [intOf]; omega
        · have HN := Go.Lib.hid (hX.next hx hin)
          obtain ⟨y1, y2⟩ := inT_yes hin
          clear hX hin
          by_cases c0 : x < 0
          · obtain rfl : x = -1 := by omega
            have HT : Hid (X.set k (tellR t.hands (-1)) = X) := Go.Lib.hid (by rw [tellR_nil]; obtain ⟨h1, h2⟩ := List.getElem?_eq_some_iff.1 HL.out; rw [← h2]; exact List.set_getElem_self h1)
            go_wp2_with fail
            go_quiet ((go_at_call 42; exact Calls.quiet_of_same (l1In_yes _ _ _ _ (by omega) (by omega))))
            go_wp2
            go_roundw
            case rel => exact ⟨k + 1, true, X, rfl, by go_num, by omega, by rw [← HT.out]; exact HN.out, H.drewN _⟩
            case measure => simp [intOf]; omega
          · obtain ⟨p, rfl⟩ := Int.eq_ofNat_of_zero_le (by omega : 0 ≤ x)
            obtain ⟨b, o, y, rfl, hbb, hy, q1⟩ := RdI.at_ hE (show p < q by omega)
            rw [tellR_at hy] at HN
            have g1 := H.ro q1 hbb
            have hpq : p < q := by omega
            have i3 : (0 : Int) ≤ (p : Int) := by omega
            have i4 : (p : Int) < (q : Int) := by omega
            go_wp2_with fail
            go_quiet ((go_at_call 42; exact Calls.quiet_of_same (l1In_yes _ _ _ _ (by omega) (by omega))))
            go_wp2_with fail
            refine wp_region_tree (fun w' => w'.cell? ⟨gR, k, none⟩ = some (.int .i64 p) ∧ w'.frozen? ⟨gR, k, none⟩ = false ∧ w'.cell? ⟨b, o + p, none⟩ = some (.int .i64 y) ∧ w'.cell? ⟨w1.heap.size, 1, none⟩ = some (.slice (some ⟨gR, 0, none⟩) t.store.roots.length kR) ∧ w'.cell? ⟨w.heap.size, 2, none⟩ = some (.slice (some ⟨b, o, none⟩) q f)) 13 [] (.take 0 (.take 1 (.take 2 (.take 3 (.take 4 (.take 5 (.take 6 (.take 7 (.take 8 (.take 9 (.take 10 (.take 11 (.take 12 (.alt 13 (.done) (.stop))))))))))))))) (by kernel_rfl) (by kernel_rfl) (by kernel_rfl) (⟨z0, zf, g1, x1, a2⟩) ?_
            simp only [fillT, List.getElem?_cons_zero, List.getElem?_cons_succ, Nat.reduceBEq]
            repeat (first
              | (with_reducible refine po_take (v := ?_) ?_ (fun w' hS' => ?_) ?_
                 rotate_left
                 · (go_simp; done)
                 · ((try dsimp only at hS'); go_simp; try with_reducible rfl)
                 simp only [Act.put, List.setIfInBounds_toArray, List.set_cons_zero, List.set_cons_succ])
              | (with_reducible refine po_skip ?_ ?_
                 · (go_simp; done)
                 simp only [Act.put, List.setIfInBounds_toArray, List.set_cons_zero, List.set_cons_succ]))
            with_reducible refine po_run ?_ (fun K hK => ?_) ?_
            · (go_simp; done)
            rotate_left
            · exact po_stop
            go_simp
            refine hK.out _ _ (.inl rfl) ?_
            clear hK K
            refine po_done ?_
            go_wp2
            go_roundw
            case rel => exact ⟨k + 1, true, _, rfl, by go_num, by omega, HN.out, (H.drewN _).drew.putRowI 2 rfl k y⟩
            case measure => simp [intOf]; omega
    · have HC := hX.cells (by omega) hn3
      have hXl := Go.Lib.hid hX.len
      clear hX
      go_wp2_with fail
      clear a0 a1 a2 x0 x1
      go_loopw [5, 7] (fun v5 i wr => ∃ (k : Nat) (ok : Bool) (Z : List Cel), v5 = .bool ok ∧ i = .int .i64 k ∧ k ≤ t.store.cells.length ∧ CellSt t k ok X Z ∧ Owns w.heap.size w wr [.box w1.heap.size [.slice C t.store.cells.length kC, .slice R t.store.roots.length kR] 27, .cells (.slice C t.store.cells.length kC) rvs Z, .rowI (.slice R t.store.roots.length kR) t.store.roots.length X, .box (w.heap.size + 1) [.slice none 0 0, .slice none 0 0] 27, .box w.heap.size [.slice D m d, .slice D' m' d', .slice E q f] 42]) (fun _ i _ => t.store.cells.length - (intOf i).toNat)
      case atStart => exact ⟨0, ok, _, rfl, rfl, Nat.zero_le _, HC, H⟩
      case round =>
        clear H HC
        obtain ⟨k, okE, Z, rfl, rfl, hk, hZ, H⟩ := hrel
        obtain ⟨x0, x1, -, -⟩ := H.box2 0 rfl
        by_cases hlt : k < t.store.cells.length
        · obtain ⟨l0, hl0⟩ : ∃ l, Hid (Z[k]? = some l) := ⟨_, Go.Lib.hid (List.getElem?_eq_getElem (by rw [hZ.len]; exact hlt))⟩
          have hr0 := hZ.refs l0
          have hsm := hZ.small l0 (List.mem_of_getElem? hl0.out)
          have hat := fun ho => Go.Lib.hid (hZ.at_ hl0.out ho)
          have HZ := Go.Lib.hid hZ
          have HS : Hid (Z.set k ⟨l0.used, l0.data, l0.refs⟩ = Z) := Go.Lib.hid (by obtain ⟨h1, h2⟩ := List.getElem?_eq_some_iff.1 hl0.out; exact (by rw [← h2]; exact List.set_getElem_self h1))
          have HK : ∀ Y, Hid ((Z.set k ⟨l0.used, l0.data, Y⟩)[k]? = some ⟨l0.used, l0.data, Y⟩) := fun Y => Go.Lib.hid (by rw [List.getElem?_set_self (by rw [hZ.len]; exact hlt)])
          clear hZ
          go_wp2_with fail
          clear x0 x1
          go_loopw [5, 8] (fun v5 i wr => ∃ (j : Nat) (ok : Bool) (Y : List Int), v5 = .bool ok ∧ i = .int .i64 j ∧ j ≤ l0.refs.length ∧ RefSt t okE l0 j ok Y ∧ Owns w.heap.size w wr [.box w1.heap.size [.slice C t.store.cells.length kC, .slice R t.store.roots.length kR] 27, .cells (.slice C t.store.cells.length kC) rvs (Z.set k ⟨l0.used, l0.data, Y⟩), .rowI (.slice R t.store.roots.length kR) t.store.roots.length X, .box (w.heap.size + 1) [.slice none 0 0, .slice none 0 0] 27, .box w.heap.size [.slice D m d, .slice D' m' d', .slice E q f] 42]) (fun _ i _ => l0.refs.length - (intOf i).toNat)
          case atStart => exact ⟨0, okE, _, rfl, rfl, Nat.zero_le _, hr0, by rw [HS.out]; exact H⟩
          case round =>
            clear H hr0 HS
            obtain ⟨j, ok, Y, rfl, rfl, hj, hY, H⟩ := hrel
            obtain ⟨a0, a1, a2, -, -, -⟩ := H.box3 4 rfl
            obtain ⟨gC, cC, A, c, e7, hrv, z2, k1, k2⟩ := H.cellsAt 1 rfl (HK Y)
            simp only [Value.slice.injEq] at e7
            obtain ⟨rfl, -, rfl⟩ := e7
            obtain ⟨x0, x1, -, -⟩ := H.box2 0 rfl
            have HYl := Go.Lib.hid hY.len
            simp only [HYl.out] at z2 k1
            by_cases hltj : j < l0.refs.length
            · obtain ⟨x, hx⟩ : ∃ x, Hid (l0.refs[j]? = some x) := ⟨_, Go.Lib.hid (List.getElem?_eq_getElem hltj)⟩
              cases ok
              · have HN := Go.Lib.hid (hY.bad (j' := j + 1) (hY.no rfl))
                clear hY
                go_wp2_with fail
                go_quiet (fail)
                go_wp2
                go_roundw
                case rel => exact ⟨j + 1, false, Y, rfl, by go_num, by omega, HN.out, H.drewN _⟩
                case measure => simp [intOf]; omega
              · have HL := Go.Lib.hid (hY.at_ hx)
                obtain ⟨gr, rfl, z3, zf⟩ := H.refAt 1 rfl hrv (HK Y) HL
                cases hin : inT t.hands x
                · have HN := Go.Lib.hid (hY.bad (j' := j + 1) (allIn_ref (hat (hY.yes rfl).1).out hx hin))
                  have hno := inT_no hin
                  clear hY hin
                  go_wp2_with fail
                  go_quiet ((go_at_call 42; exact Calls.quiet_of_same (l1In_no _ _ _ _ (by omega))))
                  go_wp2
                  go_roundw
                  case rel => exact ⟨j + 1, false, Y, rfl, by go_num, by omega, HN.out, H.drewN _⟩
                  case measure => simp [intOf]; omega
                · have HN := Go.Lib.hid (hY.next hx hin)
                  obtain ⟨y1, y2⟩ := inT_yes hin
                  clear hY hin
                  by_cases c0 : x < 0
                  · obtain rfl : x = -1 := by omega
                    have HT : Hid (Y.set j (tellR t.hands (-1)) = Y) := Go.Lib.hid (by rw [tellR_nil]; obtain ⟨h1, h2⟩ := List.getElem?_eq_some_iff.1 HL.out; exact (by rw [← h2]; exact List.set_getElem_self h1))
                    go_wp2_with fail
                    go_quiet ((go_at_call 42; exact Calls.quiet_of_same (l1In_yes _ _ _ _ (by omega) (by omega))))
                    go_wp2
                    go_roundw
                    case rel => exact ⟨j + 1, true, Y, rfl, by go_num, by omega, by rw [← HT.out]; exact HN.out, H.drewN _⟩
                    case measure => simp [intOf]; omega
                  · obtain ⟨p, rfl⟩ := Int.eq_ofNat_of_zero_le (by omega : 0 ≤ x)
                    obtain ⟨b, o, y, rfl, hbb, hy, q1⟩ := RdI.at_ hE (show p < q by omega)
                    rw [tellR_at hy] at HN
                    have g1 := H.ro q1 hbb
                    have hpq : p < q := by omega
                    have i3 : (0 : Int) ≤ (p : Int) := by omega
                    have i4 : (p : Int) < (q : Int) := by omega
                    have HE : Hid (Z.set k ⟨l0.used, l0.data, Y.set j y⟩ = (Z.set k ⟨l0.used, l0.data, Y⟩).set k ⟨l0.used, l0.data, Y.set j y⟩) := Go.Lib.hid (by simp)
                    go_wp2_with fail
                    go_quiet ((go_at_call 42; exact Calls.quiet_of_same (l1In_yes _ _ _ _ (by omega) (by omega))))
                    go_wp2_with fail
                    refine wp_region_tree (fun w' => w'.cell? ⟨gr, j, none⟩ = some (.int .i64 p) ∧ w'.frozen? ⟨gr, j, none⟩ = false ∧ w'.cell? ⟨b, o + p, none⟩ = some (.int .i64 y) ∧ w'.cell? ⟨w1.heap.size, 0, none⟩ = some (.slice (some ⟨gC, 0, none⟩) t.store.cells.length kC) ∧ w'.cell? ⟨gC, k * 3 + 2, none⟩ = some (.slice (some ⟨gr, 0, none⟩) l0.refs.length c) ∧ w'.cell? ⟨w.heap.size, 2, none⟩ = some (.slice (some ⟨b, o, none⟩) q f)) 21 [] (.take 0 (.take 1 (.take 2 (.take 3 (.take 4 (.take 5 (.take 6 (.take 7 (.take 8 (.take 9 (.take 10 (.take 11 (.take 12 (.take 13 (.take 14 (.take 15 (.take 16 (.take 17 (.take 18 (.take 19 (.take 20 (.alt 21 (.done) (.stop))))))))))))))))))))))) (by kernel_rfl) (by kernel_rfl) (by kernel_rfl) (⟨z3, zf, g1, x0, z2, a2⟩) ?_
                    simp only [fillT, List.getElem?_cons_zero, List.getElem?_cons_succ, Nat.reduceBEq]
                    repeat (first
                      | (with_reducible refine po_take (v := ?_) ?_ (fun w' hS' => ?_) ?_
                         rotate_left
                         · (go_simp; done)
                         · ((try dsimp only at hS'); go_simp; try with_reducible rfl)
                         simp only [Act.put, List.setIfInBounds_toArray, List.set_cons_zero, List.set_cons_succ])
                      | (with_reducible refine po_skip ?_ ?_
                         · (go_simp; done)
                         simp only [Act.put, List.setIfInBounds_toArray, List.set_cons_zero, List.set_cons_succ]))
                    with_reducible refine po_run ?_ (fun K hK => ?_) ?_
                    · (go_simp; done)
                    rotate_left
                    · exact po_stop
                    go_simp
                    refine hK.out _ _ (.inl rfl) ?_
                    clear hK K
                    refine po_done ?_
                    go_wp2
                    go_roundw
                    case rel => exact ⟨j + 1, true, _, rfl, by go_num, by omega, HN.out, by rw [HE.out]; exact (H.drewN _).drew.putRef 1 rfl hrv.out (HK Y).out rfl j y⟩
                    case measure => simp [intOf]; omega
            · have HD := Go.Lib.hid (hY.done (by omega) HZ.out hl0.out)
              clear hY
              go_wp2
              go_roundw
              case rel => exact ⟨k + 1, ok, _, rfl, by go_num, by omega, HD.out, H⟩
              case measure => simp [intOf]; omega
        · obtain ⟨e1, e2⟩ := hZ.done (by omega)
          have HA := Go.Lib.hid e1
          have HT := Go.Lib.hid e2
          clear hZ e1 e2
          obtain ⟨y0, y1, y2, y3⟩ := H.box2 3 rfl
          have R2 := (H.putBox 3 rfl 0 (.slice C t.store.cells.length kC)).putBox 3 rfl 1 (.slice R t.store.roots.length kR)
          simp only [List.set_cons_zero, List.set_cons_succ] at R2
          obtain ⟨u0, u1, -, -⟩ := R2.box2 3 rfl
          have HO := Go.Lib.hid (R2.toOwH 1 2 rfl (Owns.ofRowI 2 R2 rfl hXl.out))
          have HB := R2.below
          clear R2 H
          go_wp2
          refine bodyPost_ret (v := .tuple #[.agg #[.slice C t.store.cells.length kC, .slice R t.store.roots.length kR], .bool okE]) (by simp [results, Try.results52, go_sem, u0, u1]) rfl ⟨_, _, by rw [HA.out], HO.out, HB, HT.out⟩
end Go.Proofs.Ytnpehidhoekfcaa
