/- Taking the next cell of a lazy heap, in plain words; a cell that a call owns becomes an empty one. No program. -/
import Derived.Test.YtjpfgbckmcjjaaaLs
import Derived.Test.YtjpfgbckmcjjaaaZ1
import Derived.Test.YtjpfgbckmcjjaaaSw
import Derived.Test.YtjpfgbckmcjjaaaFc
namespace Go.Proofs.Ytjpfgbckmcjjaaa
open Go.RowKit
def clrR (m : List Bool) (k : Nat) (r : Int) : Int := if (!atB m k && (decide (0 ≤ r) && !atB m r.toNat)) = true then -1 else r
def clrC (m : List Bool) (k : Nat) (c : Cel) : Cel := ⟨c.used, c.data, c.refs.map (clrR m k)⟩
def clrS (m : List Bool) (cs : List Cel) : List Cel := cs.mapIdx (clrC m)
def nxt (m : List Bool) (a : Nat) : Nat := a + ((m.drop a).takeWhile id).length
theorem nxt_yes {m : List Bool} {a : Nat} (h : m[a]? = some true) : nxt m a = nxt m (a + 1) := by
  obtain ⟨hk, e⟩ := List.getElem?_eq_some_iff.1 h
  unfold nxt
  rw [List.drop_eq_getElem_cons hk, e, List.takeWhile_cons]
  simp; omega
theorem nxt_no {m : List Bool} {a : Nat} (h : m[a]? = some false) : nxt m a = a := by
  obtain ⟨hk, e⟩ := List.getElem?_eq_some_iff.1 h
  unfold nxt
  rw [List.drop_eq_getElem_cons hk, e, List.takeWhile_cons]
  simp
theorem nxt_end {m : List Bool} {a : Nat} (h : m.length ≤ a) : nxt m a = a := by
  unfold nxt
  rw [List.drop_of_length_le h]; rfl
theorem nxt_le {m : List Bool} {a : Nat} (h : a ≤ m.length) : nxt m a ≤ m.length := by
  unfold nxt
  have h1 := (List.takeWhile_prefix (l := m.drop a) id).length_le
  rw [List.length_drop] at h1
  omega
theorem le_nxt (m : List Bool) (a : Nat) : a ≤ nxt m a := by unfold nxt; omega
theorem nxt_free {m : List Bool} {a : Nat} (h : nxt m a < m.length) : m[nxt m a]? = some false := by
  by_cases ha : a < m.length
  · cases e : m[a]'ha
    · have h1 : m[a]? = some false := by rw [List.getElem?_eq_getElem ha, e]
      rw [nxt_no h1]; exact h1
    · have h1 : m[a]? = some true := by rw [List.getElem?_eq_getElem ha, e]
      rw [nxt_yes h1] at h ⊢
      exact nxt_free h
  · rw [nxt_end (by omega)] at h; omega
termination_by m.length - a
theorem nxt_marked {m : List Bool} {a k : Nat} (h1 : a ≤ k) (h2 : k < nxt m a) (h3 : k < m.length) : m[k]? = some true := by
  by_cases ha : a < m.length
  · cases e : m[a]'ha
    · have h1 : m[a]? = some false := by rw [List.getElem?_eq_getElem ha, e]
      rw [nxt_no h1] at h2; omega
    · have h4 : m[a]? = some true := by rw [List.getElem?_eq_getElem ha, e]
      rcases Nat.eq_or_lt_of_le h1 with rfl | h5
      · exact h4
      · rw [nxt_yes h4] at h2
        exact nxt_marked h5 h2 h3
  · omega
termination_by m.length - a
/-- The heap behind the taking of cell k. -/
def lzTaken (l : Lz) (k : Nat) : Lz := ⟨⟨(clrS l.marks l.store.cells).set k ⟨true, 0, []⟩, l.store.roots⟩, l.marks.set k true, (k : Int) + 1⟩
def lzSpent (l : Lz) : Lz := ⟨l.store, l.marks, (l.marks.length : Int)⟩
noncomputable def mTake (l : Lz) : Lz × Int :=
  if mLzValid l = true then (if nxt l.marks l.at_.toNat < l.marks.length then (lzTaken l (nxt l.marks l.at_.toNat), (nxt l.marks l.at_.toNat : Int)) else (lzSpent l, -1)) else (⟨⟨[], []⟩, [], 0⟩, -1)
theorem mTake_no {l : Lz} (h : mLzValid l = false) : mTake l = (⟨⟨[], []⟩, [], 0⟩, -1) := by unfold mTake; rw [h]; rfl
theorem mTake_end {l : Lz} (h : mLzValid l = true) (h2 : ¬ nxt l.marks l.at_.toNat < l.marks.length) : mTake l = (lzSpent l, -1) := by unfold mTake; rw [if_pos h, if_neg h2]
theorem mTake_yes {l : Lz} (h : mLzValid l = true) {k : Nat} (hk : nxt l.marks l.at_.toNat = k) (h2 : k < l.marks.length) : mTake l = (lzTaken l k, (k : Int)) := by unfold mTake; rw [hk, if_pos h, if_pos h2]
/-- A call makes a lazy heap and a number. -/
def MadeZN (w : World) (x : Lz × Int) (e : Ending) (w' : World) : Prop :=
  ∃ cv rvs rv mv, e = .returned (.tuple #[.agg #[cv, rv, mv, .int .i64 x.1.at_], .int .i64 x.2]) ∧ Owns w.heap.size w w' [.cells cv rvs x.1.store.cells, .ints rv x.1.store.roots, .bools mv x.1.marks]
theorem clrS_len (m : List Bool) (cs : List Cel) : (clrS m cs).length = cs.length := List.length_mapIdx
theorem clrS_at (m : List Bool) (cs : List Cel) (k : Nat) : (clrS m cs)[k]? = (cs[k]?).map (clrC m k) := List.getElem?_mapIdx
/-! ### The loops over cells and references -/
structure ClrSt (m : List Bool) (cs : List Cel) (k : Nat) (X : List Cel) : Prop where
  len : X.length = cs.length
  at_ : ∀ c, X[c]? = if c < k then (cs[c]?).map (clrC m c) else cs[c]?
structure ClrRt (m : List Bool) (l0 : Cel) (k j : Nat) (Y : List Int) : Prop where
  len : Y.length = l0.refs.length
  at_ : ∀ c, Y[c]? = if c < j then (l0.refs[c]?).map (clrR m k) else l0.refs[c]?
theorem ClrSt.start (m : List Bool) (cs : List Cel) : ClrSt m cs 0 cs := ⟨rfl, fun c => by rw [if_neg (by omega)]⟩
theorem ClrSt.here {m : List Bool} {cs : List Cel} {k : Nat} {X : List Cel} (h : ClrSt m cs k X) : X[k]? = cs[k]? := by rw [h.at_ k, if_neg (by omega)]
theorem ClrRt.start (m : List Bool) (l0 : Cel) (k : Nat) : ClrRt m l0 k 0 l0.refs := ⟨rfl, fun c => by rw [if_neg (by omega)]⟩
theorem ClrRt.here {m : List Bool} {l0 : Cel} {k j : Nat} {Y : List Int} (h : ClrRt m l0 k j Y) : Y[j]? = l0.refs[j]? := by rw [h.at_ j, if_neg (by omega)]
theorem ClrRt.stay {m : List Bool} {l0 : Cel} {k j : Nat} {Y : List Int} {x : Int} (h : ClrRt m l0 k j Y) (hx : Hid (l0.refs[j]? = some x)) (hc : clrR m k x = x) : ClrRt m l0 k (j + 1) Y := by
  refine ⟨h.len, fun c => ?_⟩
  rw [h.at_ c]
  by_cases e : c = j
  · subst e
    rw [if_neg (by omega), if_pos (by omega), hx.out]; simp [hc]
  · by_cases e2 : c < j
    · rw [if_pos e2, if_pos (by omega)]
    · rw [if_neg e2, if_neg (by omega)]
theorem ClrRt.turn {m : List Bool} {l0 : Cel} {k j : Nat} {Y : List Int} {x : Int} (h : ClrRt m l0 k j Y) (hx : Hid (l0.refs[j]? = some x)) (hc : clrR m k x = -1) : ClrRt m l0 k (j + 1) (Y.set j (-1)) := by
  refine ⟨by rw [List.length_set]; exact h.len, fun c => ?_⟩
  have hj : j < Y.length := by rw [h.len]; exact (List.getElem?_eq_some_iff.1 hx.out).1
  by_cases e : c = j
  · subst e
    rw [List.getElem?_set_self hj, if_pos (by omega), hx.out]; simp [hc]
  · rw [List.getElem?_set_ne (fun e' => e e'.symm), h.at_ c]
    by_cases e2 : c < j
    · rw [if_pos e2, if_pos (by omega)]
    · rw [if_neg e2, if_neg (by omega)]
theorem ClrSt.done {m : List Bool} {cs : List Cel} {k j : Nat} {X : List Cel} {l0 : Cel} {Y : List Int} (h : ClrSt m cs k X) (hl : Hid (cs[k]? = some l0)) (hY : ClrRt m l0 k j Y) (hj : l0.refs.length ≤ j) : ClrSt m cs (k + 1) (X.set k ⟨l0.used, l0.data, Y⟩) := by
  have hk : k < X.length := by rw [h.len]; exact (List.getElem?_eq_some_iff.1 hl.out).1
  have hYe : Y = l0.refs.map (clrR m k) := by
    apply List.ext_getElem?
    intro c
    rw [hY.at_ c, List.getElem?_map]
    by_cases e : c < j
    · rw [if_pos e]
    · rw [if_neg e, List.getElem?_eq_none (by omega)]; rfl
  refine ⟨by rw [List.length_set]; exact h.len, fun c => ?_⟩
  by_cases e : c = k
  · subst e
    rw [List.getElem?_set_self hk, if_pos (by omega), hl.out, hYe]; rfl
  · rw [List.getElem?_set_ne (fun e' => e e'.symm), h.at_ c]
    by_cases e2 : c < k
    · rw [if_pos e2, if_pos (by omega)]
    · rw [if_neg e2, if_neg (by omega)]
theorem ClrSt.fin {m : List Bool} {cs : List Cel} {k : Nat} {X : List Cel} (h : ClrSt m cs k X) (hk : cs.length ≤ k) : X = clrS m cs := by
  apply List.ext_getElem?
  intro c
  rw [h.at_ c, clrS_at]
  by_cases e : c < k
  · rw [if_pos e]
  · rw [if_neg e, List.getElem?_eq_none (by omega)]; rfl
theorem clrR_mark {m : List Bool} {k : Nat} (h : atB m k = true) (x : Int) : clrR m k x = x := by unfold clrR; rw [h]; rfl
theorem clrR_neg {m : List Bool} {k : Nat} {x : Int} (h : ¬ 0 ≤ x) : clrR m k x = x := by unfold clrR; rw [decide_eq_false h]; simp
theorem clrR_to {m : List Bool} {k p : Nat} (h : atB m p = true) : clrR m k (p : Int) = (p : Int) := by unfold clrR; rw [Int.toNat_natCast, h]; simp
theorem clrR_yes {m : List Bool} {k p : Nat} (h1 : atB m k = false) (h2 : atB m p = false) : clrR m k (p : Int) = -1 := by unfold clrR; rw [Int.toNat_natCast, h1, h2, decide_eq_true (by omega)]; rfl
/-! ### A cell becomes empty, used or not -/
theorem cellVals_set3u (u : Bool) : ∀ (cs : List Cel) (rvs : List Value) (i : Nat), rvs.length = cs.length → i < cs.length →
    cellVals (cs.set i ⟨u, 0, []⟩) (rvs.set i (.slice none 0 0)) = (((cellVals cs rvs).set (i * 3) (.bool u)).set (i * 3 + 1) (.int .i64 0)).set (i * 3 + 2) (.slice none 0 0)
  | [], _, _, _, h => by simp at h
  | _ :: _, [], _, h, _ => by simp at h
  | c :: cs, rv :: rvs, 0, _, _ => by simp [cellVals]
  | c :: cs, rv :: rvs, i + 1, hl, h => by
    have := cellVals_set3u u cs rvs i (by simpa using hl) (by simpa using h)
    have e : (i + 1) * 3 = i * 3 + 3 := by omega
    rw [e, List.set_cons_succ, List.set_cons_succ, cellVals, this]
    simp [cellVals]
theorem OwC.empty {w : World} {lo hi : Nat} {rvs : List Value} {cs : List Cel} {g n cap : Nat} {i : Nat} (u : Bool) (ho : OwC w lo hi (.slice (some ⟨g, 0, none⟩) n cap) rvs cs) (hn : n = cs.length) (hi' : i < cs.length) :
    OwC (((w.setCell ⟨g, i * 3, none⟩ (.bool u)).setCell ⟨g, i * 3 + 1, none⟩ (.int .i64 0)).setCell ⟨g, i * 3 + 2, none⟩ (.slice none 0 0)) lo hi (.slice (some ⟨g, 0, none⟩) n cap) (rvs.set i (.slice none 0 0)) (cs.set i ⟨u, 0, []⟩) := by
  subst hn
  obtain ⟨s1, g1⟩ := ho.own.stored (i * 3) (.bool u)
  obtain ⟨s2, g2⟩ := s1.stored (i * 3 + 1) (.int .i64 0)
  obtain ⟨s3, g3⟩ := s2.stored (i * 3 + 2) (.slice none 0 0)
  rw [← cellVals_set3u u cs rvs i ho.same hi'] at s3
  refine ⟨by rw [List.length_set, List.length_set]; exact ho.same, by rw [List.length_set]; exact s3, ho.lt, fun i2 rv c' h1 h2 => ?_, fun a b x y hab hx hy => ?_⟩
  · by_cases e : i = i2
    · subst e
      rw [List.getElem?_set_self (by rw [ho.same]; exact hi')] at h1
      rw [List.getElem?_set_self hi'] at h2
      injection h1 with h1; injection h2 with h2
      subst h1 h2
      exact ⟨World.ownsRow_nil _ _ _ _, fun k hk => by simp [Value.ownBlock] at hk⟩
    · rw [List.getElem?_set_ne e] at h1 h2
      exact (ho.refs i2 rv c' h1 h2).keep1 fun k hk => by
        have hne : k ≠ g := fun e => own_ne (ho.refs i2 rv c' h1 h2).own ho.own (by decide) hk (by rw [e]; rfl)
        rw [Below.heap_setCell _ _ _ k (by exact hne), Below.heap_setCell _ _ _ k (by exact hne), Below.heap_setCell _ _ _ k (by exact hne)]
  · by_cases ea : i = a
    · subst ea
      rw [List.getElem?_set_self (by rw [ho.same]; exact hi')] at hx
      injection hx with hx; subst hx
      exact .inl rfl
    · rw [List.getElem?_set_ne ea] at hx
      by_cases eb : i = b
      · subst eb
        rw [List.getElem?_set_self (by rw [ho.same]; exact hi')] at hy
        injection hy with hy; subst hy
        cases hxo : x.ownBlock
        · exact .inl hxo
        · exact .inr (by rw [hxo]; simp [Value.ownBlock])
      · rw [List.getElem?_set_ne eb] at hy
        exact ho.apart a b x y hab hx hy
theorem Owns.empty {lo : Nat} {w0 w : World} {L : List OB} {rvs : List Value} {cs : List Cel} {g n cap : Nat} (u : Bool) (h : Owns lo w0 w L) (j : Nat) (hX : L[j]? = some (.cells (.slice (some ⟨g, 0, none⟩) n cap) rvs cs)) (hn : n = cs.length) (i : Nat) (hi : i < cs.length) :
    Owns lo w0 (((w.setCell ⟨g, i * 3, none⟩ (.bool u)).setCell ⟨g, i * 3 + 1, none⟩ (.int .i64 0)).setCell ⟨g, i * 3 + 2, none⟩ (.slice none 0 0)) (L.set j (.cells (.slice (some ⟨g, 0, none⟩) n cap) (rvs.set i (.slice none 0 0)) (cs.set i ⟨u, 0, []⟩))) := by
  have ho := h.owC j hX
  have hT : Turn (CellBlocks (.slice (some ⟨g, 0, none⟩) n cap) rvs) w (((w.setCell ⟨g, i * 3, none⟩ (.bool u)).setCell ⟨g, i * 3 + 1, none⟩ (.int .i64 0)).setCell ⟨g, i * 3 + 2, none⟩ (.slice none 0 0)) :=
    (((Turn.refl _ w).setCell _ (.inl rfl)).setCell _ (.inl rfl)).setCell _ (.inl rfl)
  refine h.turn j hX hT ?_ fun k hk => .inl ?_
  · have := ho.empty u hn hi
    show OwC _ lo _ _ _ _
    simpa only [World.size_setCell] using this
  · rcases hk with e | ⟨x, hx, e⟩
    · exact .inl e
    · rcases List.mem_or_eq_of_mem_set hx with h1 | rfl
      · exact .inr ⟨x, h1, e⟩
      · simp [Value.ownBlock] at e
abbrev OB.rowT (v : Value) (n : Nat) (xs : List Bool) : OB := .row 4 1 v n (xs.map Value.bool)
theorem Owns.putRowT {lo : Nat} {w0 w : World} {L : List OB} {g n c : Nat} {xs : List Bool} (h : Owns lo w0 w L) (i : Nat) (hX : L[i]? = some (.rowT (.slice (some ⟨g, 0, none⟩) n c) n xs)) (j : Nat) (x : Bool) : Owns lo w0 (w.setCell ⟨g, j, none⟩ (.bool x)) (L.set i (.rowT (.slice (some ⟨g, 0, none⟩) n c) n (xs.set j x))) := by
  have := h.putRow i hX j (.bool x)
  rwa [← List.map_set] at this
theorem rowT_bools {v : Value} {n : Nat} {xs : List Bool} (hn : xs.length = n) : OB.rowT v n xs = .bools v xs := by subst hn; rfl
theorem wp_pushBO {lo : Nat} {w0 w : World} {L : List OB} {o : Oper} {a : Act} {K : Act → World → Prop} {Q : Exit → Act → World → Prop} (s x : Operand)
    (hop : o.op = .call { callee := .builtin .append, args := #[s, x], argTypes := #[35, 35] })
    (h : Owns lo w0 w L) (i : Nat) {v : Value} {xs : List Bool} (hX : L[i]? = some (.bools v xs)) (hs : a.eval s = v) {B : Nat} {A : Option Addr} {n c : Nat} {ys : List Bool} (hx : a.eval x = .slice A n c) (hr : RdB w B A n c ys) (hb : xs.length + n ≤ 1099511627776)
    (hK : ∀ A' c' w', Owns lo w0 w' (L.set i (.bools (.slice A' (xs ++ ys).length c') (xs ++ ys))) → K (a.put o.dst (.slice A' (xs ++ ys).length c')) w') : o.wp Try.prog a w K Q := by
  obtain ⟨A', c', w', hrun, hO⟩ := run_pushOB h i hX hr hb o.type
  unfold Oper.wp execOp
  simp only [hop, resolve, invoke, builtin, Sem.run_bind, Sem.run_pure, Result.andThen_ok, List.map_toArray, List.map_cons, List.map_nil, hs, hx, hrun]
  exact hK A' c' w' hO
end Go.Proofs.Ytjpfgbckmcjjaaa
