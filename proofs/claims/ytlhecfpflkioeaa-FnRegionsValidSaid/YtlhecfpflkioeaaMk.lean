/- The laws' marking functions write running numbers into slices, cells and heaps of the call's own and turn nothing else; the holding functions then find them. For numbers below 2^40. -/
import Derived.Test.YtlhecfpflkioeaaOwn
import Derived.Test.YtlhecfpflkioeaaChecked
namespace Go.Proofs.Ytlhecfpflkioeaa
open Go.RowKit
theorem grown_trans {a b c : World} {r : Option Nat} (h : a.grownBy b r) (k : b.grownBy c r) : a.grownBy c r :=
  ⟨k.os.trans h.os, k.tape.trans h.tape, k.output.trans h.output, Nat.le_trans h.size k.size, fun i hi hne => (k.block i (Nat.lt_of_lt_of_le hi h.size) hne).trans (h.block i hi hne)⟩
def marks (k : Int) : Nat → List Int
  | 0 => []
  | n + 1 => marks k n ++ [k + n]
theorem marks_length (k : Int) : ∀ n, (marks k n).length = n
  | 0 => rfl
  | n + 1 => by simp [marks, marks_length k n]
theorem marks_at (k : Int) : ∀ (n i : Nat), i < n → (marks k n)[i]? = some (k + i)
  | n + 1, i, h => by
    rcases Nat.lt_or_ge i n with hi | hi
    · rw [marks, List.getElem?_append_left (by rw [marks_length]; exact hi), marks_at k n i hi]
    · obtain rfl : i = n := by omega
      rw [marks, List.getElem?_append_right (by rw [marks_length]; exact Nat.le_refl _), marks_length]; simp
theorem own_ne {w : World} {lo lo' : Nat} {e e' : TypeId} {s s' n n' : Nat} {v v' : Value} {ys ys' : List Value} (h : w.ownsRow lo e s v n ys) (h' : w.ownsRow lo' e' s' v' n' ys') (hne : e ≠ e') {k : Nat} (hk : v.ownBlock = some k) : v'.ownBlock ≠ some k := by
  intro hk'
  rcases h.2 with ⟨rfl, _⟩ | ⟨g, cap, cur, rfl, _, hg, _⟩
  · simp [Value.ownBlock] at hk
  rcases h'.2 with ⟨rfl, _⟩ | ⟨g', cap', cur', rfl, _, hg', _⟩
  · simp [Value.ownBlock] at hk'
  simp [Value.ownBlock] at hk hk'
  subst hk hk'
  rw [hg] at hg'
  injection hg' with hg'
  injection hg' with _ he
  exact hne he

theorem mark_set (k : Int) (xs : List Int) (j : Nat) (hj : j < xs.length) : ((marks k j ++ xs.drop j).map (Value.int .i64)).set j (.int .i64 (k + j)) = (marks k (j + 1) ++ xs.drop (j + 1)).map (Value.int .i64) := by
  rw [List.drop_eq_getElem_cons hj, List.map_append, List.set_append_right _ _ (by simp [marks_length]), marks]
  simp only [List.map_cons, List.length_map, marks_length, Nat.sub_self, List.set_cons_zero, List.map_append, List.append_assoc, List.cons_append, List.nil_append]

theorem Only.below {w w' : World} {lo hi : Nat} (h : Only lo hi w w') (hl : lo ≤ w.heap.size) : Below lo w w' := ⟨h.os, h.tape, h.output, h.size, fun k hk => h.block k (by omega) (.inl hk)⟩
theorem Only.grownI {w w' : World} {lo hi : Nat} {v : Value} {xs : List Int} (ho : OwI w lo hi v xs) (hg : w.grownBy w' v.ownBlock) : Only lo hi w w' :=
  ⟨hg.os, hg.tape, hg.output, hg.size, fun k hk hn => hg.block k hk fun e => by have := ho.lt k e.symm; have := (ho.own.lt k e.symm).1; omega⟩
theorem keepo {w w' : World} {lo hi : Nat} {p : Addr} {v : Value} (h : w.cell? p = some v) (hO : Only lo hi w w') (hp : p.block < lo) (hs : p.block < w.heap.size) : w'.cell? p = some v :=
  (World.cell?_of_block (hO.block p.block hs (.inl hp))).trans h
theorem OwI.only {w w' : World} {lo hi lo' hi' : Nat} {v : Value} {xs : List Int} (ho : OwI w lo hi v xs) (hO : Only lo' hi' w w') (h : hi ≤ lo' ∨ hi' ≤ lo) : OwI w' lo hi v xs :=
  ho.keep1 fun k e => hO.block k (ho.own.lt k e).2 (by have := ho.lt k e; have := (ho.own.lt k e).1; omega)
theorem OwI.rdI {w : World} {lo hi : Nat} {A : Option Addr} {n c : Nat} {xs : List Int} (ho : OwI w lo hi (.slice A n c) xs) : RdI w hi A n c xs := by
  obtain ⟨A', c', e, hr⟩ := ho.form
  injection e with e1 e2 e3
  subst e1 e2 e3
  exact hr

/-- What marking a row of cells adds to the running number, and what the cells then are. -/
def kAdd : List Cel → Nat
  | [] => 0
  | c :: cs => c.refs.length + 2 + kAdd cs
def mCel (k : Int) (c : Cel) : Cel := ⟨k % 3 == 0, k + 1, marks (k + 2) c.refs.length⟩
def mCells (k : Int) : List Cel → List Cel
  | [] => []
  | c :: cs => mCel k c :: mCells (k + (c.refs.length + 2 : Nat)) cs
def mHeap (k : Int) (h : Hp) : Hp := ⟨mCells k h.cells, marks (k + kAdd h.cells) h.roots.length⟩
def kHeap (h : Hp) : Nat := kAdd h.cells + h.roots.length
theorem kAdd_append : ∀ (xs ys : List Cel), kAdd (xs ++ ys) = kAdd xs + kAdd ys
  | [], _ => by simp [kAdd]
  | c :: cs, ys => by simp [kAdd, kAdd_append cs ys]; omega
theorem kAdd_ge : ∀ cs : List Cel, 2 * cs.length ≤ kAdd cs
  | [] => by simp [kAdd]
  | c :: cs => by have := kAdd_ge cs; simp [kAdd] at *; omega
theorem kAdd_bulk : ∀ cs : List Cel, kAdd cs ≤ 2 * cellsBulk cs
  | [] => by simp [kAdd]
  | c :: cs => by have := kAdd_bulk cs; simp [kAdd, cellsBulk] at *; omega
theorem kAdd_take (cs : List Cel) (i : Nat) : kAdd (cs.take i) ≤ kAdd cs := by
  have := kAdd_append (cs.take i) (cs.drop i)
  rw [List.take_append_drop] at this
  omega
theorem kAdd_succ {cs : List Cel} {i : Nat} {c : Cel} (h : Hid (cs[i]? = some c)) : kAdd (cs.take (i + 1)) = kAdd (cs.take i) + (c.refs.length + 2) := by
  obtain ⟨hi, rfl⟩ := List.getElem?_eq_some_iff.1 h.out
  rw [List.take_succ_eq_append_getElem hi, kAdd_append]; simp [kAdd]
theorem mCells_length : ∀ (k : Int) (cs : List Cel), (mCells k cs).length = cs.length
  | _, [] => rfl
  | k, c :: cs => by simp [mCells, mCells_length _ cs]
theorem mCells_snoc : ∀ (k : Int) (cs : List Cel) (c : Cel), mCells k (cs ++ [c]) = mCells k cs ++ [mCel (k + kAdd cs) c]
  | k, [], c => by simp [mCells, kAdd]
  | k, d :: cs, c => by
    rw [List.cons_append, mCells, mCells_snoc _ cs c, mCells, kAdd, List.cons_append, show k + ((d.refs.length + 2 : Nat) : Int) + (kAdd cs : Int) = k + ((d.refs.length + 2 + kAdd cs : Nat) : Int) by omega]
theorem mCells_set {k : Int} {cs : List Cel} {i : Nat} {c : Cel} (h : Hid (cs[i]? = some c)) : (mCells k (cs.take i) ++ cs.drop i).set i (mCel (k + kAdd (cs.take i)) c) = mCells k (cs.take (i + 1)) ++ cs.drop (i + 1) := by
  obtain ⟨hi, rfl⟩ := List.getElem?_eq_some_iff.1 h.out
  have hl : (mCells k (cs.take i)).length = i := by rw [mCells_length, List.length_take]; omega
  rw [List.take_succ_eq_append_getElem hi, mCells_snoc, List.set_append_right _ _ (by omega), hl, Nat.sub_self, List.drop_eq_getElem_cons hi, List.set_cons_zero, List.append_assoc]
  rfl
theorem mCells_here {k : Int} {cs : List Cel} {i : Nat} {c : Cel} (h : Hid (cs[i]? = some c)) : (mCells k (cs.take i) ++ cs.drop i)[i]? = some c := by
  obtain ⟨hi, rfl⟩ := List.getElem?_eq_some_iff.1 h.out
  have hl : (mCells k (cs.take i)).length = i := by rw [mCells_length, List.length_take]; omega
  rw [List.getElem?_append_right (by omega), hl, Nat.sub_self, List.drop_eq_getElem_cons hi]; rfl

section
variable {w w' w0 : World} {lo hi : Nat} {rvs : List Value} {cs : List Cel}
theorem cellVals_set2 : ∀ (cs : List Cel) (rvs : List Value) (i : Nat) (c : Cel) (u : Bool) (d : Int), rvs.length = cs.length → cs[i]? = some c →
    cellVals (cs.set i ⟨u, d, c.refs⟩) rvs = ((cellVals cs rvs).set (i * 3) (.bool u)).set (i * 3 + 1) (.int .i64 d)
  | [], _, _, _, _, _, _, h => by simp at h
  | _ :: _, [], _, _, _, _, h, _ => by simp at h
  | c :: cs, rv :: rvs, 0, c', u, d, _, h => by simp at h; subst h; simp [cellVals]
  | c :: cs, rv :: rvs, i + 1, c', u, d, hl, h => by
    have := cellVals_set2 cs rvs i c' u d (by simpa using hl) (by simpa using h)
    have e : (i + 1) * 3 = i * 3 + 3 := by omega
    rw [e, List.set_cons_succ, cellVals, this]
    simp [cellVals]
theorem cellVals_refs : ∀ (cs : List Cel) (rvs : List Value) (i : Nat) (c : Cel) (xs : List Int), cs[i]? = some c → cellVals (cs.set i ⟨c.used, c.data, xs⟩) rvs = cellVals cs rvs
  | [], _, _, _, _, h => by simp at h
  | _ :: _, [], _, _, _, _ => by simp [cellVals]
  | c :: cs, rv :: rvs, 0, c', xs, h => by simp at h; subst h; simp [cellVals]
  | c :: cs, rv :: rvs, i + 1, c', xs, h => by
    have := cellVals_refs cs rvs i c' xs (by simpa using h)
    rw [List.set_cons_succ, cellVals, this, cellVals]
theorem OwC.put {g n cap : Nat} {i : Nat} {c : Cel} (ho : OwC w lo hi (.slice (some ⟨g, 0, none⟩) n cap) rvs cs) (hn : n = cs.length) (hc : cs[i]? = some c) (u : Bool) (d : Int) :
    OwC ((w.setCell ⟨g, i * 3, none⟩ (.bool u)).setCell ⟨g, i * 3 + 1, none⟩ (.int .i64 d)) lo hi (.slice (some ⟨g, 0, none⟩) n cap) rvs (cs.set i ⟨u, d, c.refs⟩) := by
  subst hn
  obtain ⟨s1, g1⟩ := ho.own.stored (i * 3) (.bool u)
  obtain ⟨s2, g2⟩ := s1.stored (i * 3 + 1) (.int .i64 d)
  rw [← cellVals_set2 cs rvs i c u d ho.same hc] at s2
  refine ⟨by rw [List.length_set]; exact ho.same, by rw [List.length_set]; exact s2, ho.lt, fun i' rv c' h1 h2 => ?_, ho.apart⟩
  have key : ∀ c0, cs[i']? = some c0 → OwI ((w.setCell ⟨g, i * 3, none⟩ (.bool u)).setCell ⟨g, i * 3 + 1, none⟩ (.int .i64 d)) lo hi rv c0.refs := fun c0 h0 =>
    (ho.refs i' rv c0 h1 h0).keep1 fun k hk => by
      have hne : k ≠ g := fun e => own_ne (ho.refs i' rv c0 h1 h0).own ho.own (by decide) hk (by rw [e]; rfl)
      rw [Below.heap_setCell _ _ _ k (by exact hne), Below.heap_setCell _ _ _ k (by exact hne)]
  rw [List.getElem?_set] at h2
  split at h2
  · rename_i e
    subst e
    split at h2
    · injection h2 with h2; subst h2; exact key c hc
    · cases h2
  · exact key c' h2
theorem OwC.turn {v rv : Value} {i : Nat} {c : Cel} {xs : List Int} (ho : OwC w lo hi v rvs cs) (hrv : rvs[i]? = some rv) (hc : cs[i]? = some c) (hk : OwI w' lo hi rv xs) (hg : w.grownBy w' rv.ownBlock) :
    OwC w' lo hi v rvs (cs.set i ⟨c.used, c.data, xs⟩) := by
  refine ⟨by rw [List.length_set]; exact ho.same, ?_, ho.lt, fun i' rv' c' h1 h2 => ?_, ho.apart⟩
  · rw [List.length_set, cellVals_refs _ _ _ _ _ hc]
    refine own_keep ho.own fun k e => hg.block k (ho.own.lt k e).2 fun e' => ?_
    exact own_ne ho.own (ho.refs i rv c hrv hc).own (by decide) e e'.symm
  · rw [List.getElem?_set] at h2
    split at h2
    · rename_i e
      subst e
      split at h2
      · injection h2 with h2; subst h2
        rw [hrv] at h1
        injection h1 with h1
        subst h1
        exact hk
      · cases h2
    · rename_i e
      refine (ho.refs i' rv' c' h1 h2).keep1 fun k e' => hg.block k ((ho.refs i' rv' c' h1 h2).own.lt k e').2 fun e2 => ?_
      rcases ho.apart i i' rv rv' e hrv h1 with a | a
      · rw [← e2] at a; cases a
      · exact a (e2.symm.trans e'.symm)
theorem Only.trans {w1 w2 w3 : World} (h : Only lo hi w1 w2) (k : Only lo hi w2 w3) : Only lo hi w1 w3 :=
  ⟨k.os.trans h.os, k.tape.trans h.tape, k.output.trans h.output, Nat.le_trans h.size k.size, fun i hi hn => (k.block i (Nat.lt_of_lt_of_le hi h.size) hn).trans (h.block i hi hn)⟩
/-- Only blocks of P have turned. -/
structure Turn (P : Nat → Prop) (w w' : World) : Prop where
  os : w'.os = w.os
  tape : w'.tape = w.tape
  output : w'.output = w.output
  size : w.heap.size ≤ w'.heap.size
  block : ∀ k, k < w.heap.size → ¬ P k → w'.heap[k]? = w.heap[k]?
theorem Turn.refl (P : Nat → Prop) (w : World) : Turn P w w := ⟨rfl, rfl, rfl, Nat.le_refl _, fun _ _ _ => rfl⟩
theorem Turn.grown {P : Nat → Prop} (h : Turn P w0 w) {r : Option Nat} (hg : w.grownBy w' r) (hr : ∀ k, r = some k → P k) : Turn P w0 w' :=
  ⟨hg.os.trans h.os, hg.tape.trans h.tape, hg.output.trans h.output, Nat.le_trans h.size hg.size, fun k hk hn => (hg.block k (Nat.lt_of_lt_of_le hk h.size) fun e => hn (hr k e.symm)).trans (h.block k hk hn)⟩
theorem Turn.setCell {P : Nat → Prop} (h : Turn P w0 w) {p : Addr} (u : Value) (h1 : P p.block) : Turn P w0 (w.setCell p u) :=
  ⟨h.os, h.tape, h.output, by simpa using h.size, fun k hk hn => (Below.heap_setCell w p u k (fun e => hn (e ▸ h1))).trans (h.block k hk hn)⟩
theorem Turn.trans {P : Nat → Prop} {w1 w2 w3 : World} (h : Turn P w1 w2) (k : Turn P w2 w3) : Turn P w1 w3 :=
  ⟨k.os.trans h.os, k.tape.trans h.tape, k.output.trans h.output, Nat.le_trans h.size k.size, fun i hi hn => (k.block i (Nat.lt_of_lt_of_le hi h.size) hn).trans (h.block i hi hn)⟩
theorem Turn.wide {P R : Nat → Prop} (h : Turn P w w') (hw : ∀ k, P k → R k) : Turn R w w' := ⟨h.os, h.tape, h.output, h.size, fun k hk hn => h.block k hk fun e => hn (hw k e)⟩
theorem Turn.only {P : Nat → Prop} (h : Turn P w w') (hp : ∀ k, P k → lo ≤ k ∧ k < hi) : Only lo hi w w' :=
  ⟨h.os, h.tape, h.output, h.size, fun k hk hn => h.block k hk fun e => by have := hp k e; omega⟩
def CellBlocks (v : Value) (rvs : List Value) (k : Nat) : Prop := v.ownBlock = some k ∨ ∃ x ∈ rvs, x.ownBlock = some k
theorem OwC.blocks {v : Value} (ho : OwC w lo hi v rvs cs) (k : Nat) (hk : CellBlocks v rvs k) : (lo ≤ k ∧ k < hi) ∧ k < w.heap.size := by
  rcases hk with h | ⟨x, hx, h⟩
  · exact ⟨⟨(ho.own.lt k h).1, ho.lt k h⟩, (ho.own.lt k h).2⟩
  · obtain ⟨i, hi, rfl⟩ := List.mem_iff_getElem.1 hx
    have hr := ho.refs i _ (cs[i]'(by rw [← ho.same]; exact hi)) (List.getElem?_eq_getElem hi) (List.getElem?_eq_getElem _)
    exact ⟨⟨(hr.own.lt k h).1, hr.lt k h⟩, (hr.own.lt k h).2⟩
end

theorem OwC.keepB {w w' : World} {lo hi : Nat} {rvs : List Value} {cs : List Cel} {v : Value} (ho : OwC w lo hi v rvs cs) (hk : ∀ k, CellBlocks v rvs k → w'.heap[k]? = w.heap[k]?) : OwC w' lo hi v rvs cs :=
  ⟨ho.same, own_keep ho.own fun k e => hk k (.inl e), ho.lt, fun i rv c h1 h2 => (ho.refs i rv c h1 h2).keep1 fun k e => hk k (.inr ⟨rv, List.mem_of_getElem? h1, e⟩), ho.apart⟩
theorem apart_ne {a b : Value} (h : Apart a b) {k : Nat} (hk : a.ownBlock = some k) : b.ownBlock ≠ some k := by
  intro e
  rcases h with h | h
  · rw [hk] at h; cases h
  · exact h (hk.trans e.symm)
end Go.Proofs.Ytlhecfpflkioeaa
