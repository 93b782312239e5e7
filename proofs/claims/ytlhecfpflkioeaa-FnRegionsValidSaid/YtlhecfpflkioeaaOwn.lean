/- Slices, cells and heaps that lie in memory of the call's own: what they own, that they read, and that they stay while other blocks turn. No condition. -/
import Derived.Test.YtlhecfpflkioeaaBase
namespace Go.Proofs.Ytlhecfpflkioeaa
open Go.RowKit

/-- v is a slice of the ints xs that owns its block, which lies from lo on below hi. -/
structure OwI (w : World) (lo hi : Nat) (v : Value) (xs : List Int) : Prop where
  own : w.ownsRow lo 3 1 v xs.length (xs.map (Value.int .i64))
  lt : ∀ k, v.ownBlock = some k → k < hi
structure OwB (w : World) (lo hi : Nat) (v : Value) (xs : List Bool) : Prop where
  own : w.ownsRow lo 4 1 v xs.length (xs.map Value.bool)
  lt : ∀ k, v.ownBlock = some k → k < hi

def cellVals : List Cel → List Value → List Value
  | c :: cs, rv :: rvs => .bool c.used :: .int .i64 c.data :: rv :: cellVals cs rvs
  | _, _ => []
def Apart (a b : Value) : Prop := a.ownBlock = none ∨ a.ownBlock ≠ b.ownBlock

structure OwC (w : World) (lo hi : Nat) (v : Value) (rvs : List Value) (cs : List Cel) : Prop where
  same : rvs.length = cs.length
  own : w.ownsRow lo 61 3 v cs.length (cellVals cs rvs)
  lt : ∀ k, v.ownBlock = some k → k < hi
  refs : ∀ (i : Nat) (rv : Value) (c : Cel), rvs[i]? = some rv → cs[i]? = some c → OwI w lo hi rv c.refs
  apart : ∀ (i j : Nat) (a b : Value), i ≠ j → rvs[i]? = some a → rvs[j]? = some b → Apart a b

/-- v is a heap whose slices all lie in blocks of their own. -/
def OwH (w : World) (lo hi : Nat) (v : Value) (h : Hp) : Prop :=
  ∃ cv rvs rv, v = .agg #[cv, rv] ∧ OwC w lo hi cv rvs h.cells ∧ OwI w lo hi rv h.roots ∧ ∀ x ∈ rvs, Apart rv x

section
variable {w w' : World} {lo hi lo' hi' : Nat} {v : Value} {rvs : List Value} {xs : List Int} {bs : List Bool} {cs : List Cel} {h : Hp}
theorem own_keep {e : TypeId} {size n : Nat} {ys : List Value} (ho : w.ownsRow lo e size v n ys) (hk : ∀ k, v.ownBlock = some k → w'.heap[k]? = w.heap[k]?) : w'.ownsRow lo e size v n ys := by
  refine ⟨ho.1, ?_⟩
  rcases ho.2 with h | ⟨g, cap, cur, rfl, hb, hg, r⟩
  · exact .inl h
  · exact .inr ⟨g, cap, cur, rfl, hb, (hk g rfl).trans hg, r⟩
theorem own_lo {e : TypeId} {size n : Nat} {ys : List Value} (ho : w.ownsRow lo e size v n ys) (h : lo' ≤ lo) : w.ownsRow lo' e size v n ys := by
  refine ⟨ho.1, ?_⟩
  rcases ho.2 with h1 | ⟨g, cap, cur, rfl, hb, r⟩
  · exact .inl h1
  · exact .inr ⟨g, cap, cur, rfl, by omega, r⟩
theorem OwI.keep (ho : OwI w lo hi v xs) (hk : ∀ k, lo ≤ k → k < hi → w'.heap[k]? = w.heap[k]?) : OwI w' lo hi v xs :=
  ⟨own_keep ho.own fun k e => hk k (ho.own.lt k e).1 (ho.lt k e), ho.lt⟩
theorem OwI.keep1 (ho : OwI w lo hi v xs) (hk : ∀ k, v.ownBlock = some k → w'.heap[k]? = w.heap[k]?) : OwI w' lo hi v xs := ⟨own_keep ho.own hk, ho.lt⟩
theorem OwI.below (ho : OwI w lo hi v xs) {B : Nat} (hb : Below B w w') (hB : hi ≤ B) : OwI w' lo hi v xs := ho.keep fun k _ h => hb.block k (by omega)
theorem OwI.wide (ho : OwI w lo hi v xs) (h1 : lo' ≤ lo) (h2 : hi ≤ hi') : OwI w lo' hi' v xs := ⟨own_lo ho.own h1, fun k e => by have := ho.lt k e; omega⟩
theorem OwB.keep (ho : OwB w lo hi v bs) (hk : ∀ k, lo ≤ k → k < hi → w'.heap[k]? = w.heap[k]?) : OwB w' lo hi v bs :=
  ⟨own_keep ho.own fun k e => hk k (ho.own.lt k e).1 (ho.lt k e), ho.lt⟩
theorem OwB.below (ho : OwB w lo hi v bs) {B : Nat} (hb : Below B w w') (hB : hi ≤ B) : OwB w' lo hi v bs := ho.keep fun k _ h => hb.block k (by omega)
theorem OwB.wide (ho : OwB w lo hi v bs) (h1 : lo' ≤ lo) (h2 : hi ≤ hi') : OwB w lo' hi' v bs := ⟨own_lo ho.own h1, fun k e => by have := ho.lt k e; omega⟩
theorem OwC.keep (ho : OwC w lo hi v rvs cs) (hk : ∀ k, lo ≤ k → k < hi → w'.heap[k]? = w.heap[k]?) : OwC w' lo hi v rvs cs :=
  ⟨ho.same, own_keep ho.own fun k e => hk k (ho.own.lt k e).1 (ho.lt k e), ho.lt, fun i rv c h1 h2 => (ho.refs i rv c h1 h2).keep hk, ho.apart⟩
theorem OwC.below (ho : OwC w lo hi v rvs cs) {B : Nat} (hb : Below B w w') (hB : hi ≤ B) : OwC w' lo hi v rvs cs := ho.keep fun k _ h => hb.block k (by omega)
theorem OwC.wide (ho : OwC w lo hi v rvs cs) (h1 : lo' ≤ lo) (h2 : hi ≤ hi') : OwC w lo' hi' v rvs cs :=
  ⟨ho.same, own_lo ho.own h1, fun k e => by have := ho.lt k e; omega, fun i rv c k1 k2 => (ho.refs i rv c k1 k2).wide h1 h2, ho.apart⟩
theorem OwH.keep (ho : OwH w lo hi v h) (hk : ∀ k, lo ≤ k → k < hi → w'.heap[k]? = w.heap[k]?) : OwH w' lo hi v h :=
  let ⟨cv, rvs, rv, e, h1, h2, h3⟩ := ho
  ⟨cv, rvs, rv, e, h1.keep hk, h2.keep hk, h3⟩
theorem OwH.below (ho : OwH w lo hi v h) {B : Nat} (hb : Below B w w') (hB : hi ≤ B) : OwH w' lo hi v h := ho.keep fun k _ h => hb.block k (by omega)
theorem OwH.wide (ho : OwH w lo hi v h) (h1 : lo' ≤ lo) (h2 : hi ≤ hi') : OwH w lo' hi' v h :=
  let ⟨cv, rvs, rv, e, k1, k2, k3⟩ := ho
  ⟨cv, rvs, rv, e, k1.wide h1 h2, k2.wide h1 h2, k3⟩

theorem OwI.setCell (ho : OwI w lo hi v xs) {p : Addr} (hp : p.block < lo ∨ hi ≤ p.block) (u : Value) : OwI (w.setCell p u) lo hi v xs := ho.keep fun k _ _ => Below.heap_setCell w p u k (by omega)
theorem OwB.setCell (ho : OwB w lo hi v bs) {p : Addr} (hp : p.block < lo ∨ hi ≤ p.block) (u : Value) : OwB (w.setCell p u) lo hi v bs := ho.keep fun k _ _ => Below.heap_setCell w p u k (by omega)
theorem OwC.setCell (ho : OwC w lo hi v rvs cs) {p : Addr} (hp : p.block < lo ∨ hi ≤ p.block) (u : Value) : OwC (w.setCell p u) lo hi v rvs cs := ho.keep fun k _ _ => Below.heap_setCell w p u k (by omega)
theorem OwH.setCell (ho : OwH w lo hi v h) {p : Addr} (hp : p.block < lo ∨ hi ≤ p.block) (u : Value) : OwH (w.setCell p u) lo hi v h := ho.keep fun k _ _ => Below.heap_setCell w p u k (by omega)
theorem add_lit0 (g j : Nat) : (⟨g, 0, none⟩ : Addr).add j = ⟨g, j, none⟩ := by unfold Addr.add; split <;> simp_all
theorem RdV_of_own {e : TypeId} {ys : List Value} {n : Nat} (ho : w.ownsRow lo e 1 v n ys) (hl : ∀ k, v.ownBlock = some k → k < hi) : ∃ A c, v = .slice A n c ∧ RdV w hi A n c ys := by
  have hlen := ho.1
  rcases ho.2 with ⟨rfl, rfl⟩ | ⟨g, cap, cur, rfl, hb, hg, hn, hm, hs, ht⟩
  · exact ⟨none, 0, rfl, by omega, by omega, by unfold maxLen; omega, fun h => by omega⟩
  · refine ⟨_, cap, rfl, by omega, hn, hm, fun h => ⟨g, 0, rfl, hl g rfl, fun j u hu => ?_⟩⟩
    have := ho.cells (g := g) rfl j u hu
    rw [add_lit0] at this
    simpa using this
theorem OwI.form (ho : OwI w lo hi v xs) : ∃ A c, v = .slice A xs.length c ∧ RdI w hi A xs.length c xs := RdV_of_own ho.own ho.lt
theorem OwB.form (ho : OwB w lo hi v bs) : ∃ A c, v = .slice A bs.length c ∧ RdB w hi A bs.length c bs := RdV_of_own ho.own ho.lt
theorem cellVals_length : ∀ (cs : List Cel) (rvs : List Value), rvs.length = cs.length → (cellVals cs rvs).length = cs.length * 3
  | [], [], _ => rfl
  | [], _ :: _, h => by simp at h
  | _ :: _, [], h => by simp at h
  | c :: cs, rv :: rvs, h => by simp [cellVals, cellVals_length cs rvs (by simpa using h)]; omega
theorem cellVals_at : ∀ (cs : List Cel) (rvs : List Value) (i : Nat) (c : Cel) (rv : Value), cs[i]? = some c → rvs[i]? = some rv →
    (cellVals cs rvs)[i * 3]? = some (.bool c.used) ∧ (cellVals cs rvs)[i * 3 + 1]? = some (.int .i64 c.data) ∧ (cellVals cs rvs)[i * 3 + 2]? = some rv
  | [], _, _, _, _, h, _ => by simp at h
  | _ :: _, [], _, _, _, _, h => by simp at h
  | c :: cs, rv :: rvs, 0, _, _, h1, h2 => by simp at h1 h2; subst h1 h2; simp [cellVals]
  | c :: cs, rv :: rvs, i + 1, c', rv', h1, h2 => by
    have := cellVals_at cs rvs i c' rv' (by simpa using h1) (by simpa using h2)
    have e0 : (i + 1) * 3 = i * 3 + 3 := by omega
    rw [e0]
    simpa [cellVals] using this
theorem OwC.form (ho : OwC w lo hi v rvs cs) : ∃ A c, v = .slice A cs.length c ∧ RdC w hi A cs.length c cs := by
  rcases ho.own.2 with ⟨rfl, h0⟩ | ⟨g, cap, cur, rfl, hb, hg, hn, hm, hs, ht⟩
  · exact ⟨none, 0, by rw [h0], by omega, by omega, by unfold maxLen; omega, fun h => by omega⟩
  · refine ⟨_, cap, rfl, rfl, hn, hm, fun h => ⟨g, 0, rfl, ho.lt g rfl, fun j l hl => ?_⟩⟩
    have hj : j < rvs.length := by rw [ho.same]; exact (List.getElem?_eq_some_iff.1 hl).1
    obtain ⟨e1, e2, e3⟩ := cellVals_at cs rvs j l rvs[j] hl (List.getElem?_eq_getElem hj)
    have c1 := ho.own.cells (g := g) rfl _ _ e1
    have c2 := ho.own.cells (g := g) rfl _ _ e2
    have c3 := ho.own.cells (g := g) rfl _ _ e3
    rw [add_lit0] at c1 c2 c3
    obtain ⟨A, c, hv, hr⟩ := (ho.refs j _ l (List.getElem?_eq_getElem hj) hl).form
    rw [hv] at c3
    exact ⟨by simpa using c1, by simpa using c2, A, l.refs.length, c, by simpa using c3, hr⟩
theorem OwH.rd (ho : OwH w lo hi v h) : RdH w hi v h := by
  obtain ⟨cv, rvs, rv, rfl, h1, h2, h3⟩ := ho
  obtain ⟨A, c, rfl, hC⟩ := h1.form
  obtain ⟨A', c', rfl, hR⟩ := h2.form
  exact ⟨A, _, c, A', _, c', rfl, hC, hR⟩
end

theorem cellVals_snoc : ∀ (cs : List Cel) (rvs : List Value) (c : Cel) (rv : Value), rvs.length = cs.length → cellVals (cs ++ [c]) (rvs ++ [rv]) = cellVals cs rvs ++ [.bool c.used, .int .i64 c.data, rv]
  | [], [], _, _, _ => rfl
  | [], _ :: _, _, _, h => by simp at h
  | _ :: _, [], _, _, h => by simp at h
  | d :: cs, q :: rvs, c, rv, h => by simp [cellVals, cellVals_snoc cs rvs c rv (by simpa using h)]
/-- m cells that are not used. -/
def zcells : Nat → List Value
  | 0 => []
  | m + 1 => .bool false :: .int .i64 0 :: .slice none 0 0 :: zcells m
theorem zcells_length : ∀ m, (zcells m).length = m * 3
  | 0 => rfl
  | m + 1 => by simp [zcells, zcells_length m]; omega
theorem zcells_at : ∀ (m i : Nat), (zcells m)[i]? = if i < m * 3 then some (if i % 3 = 0 then .bool false else if i % 3 = 1 then .int .i64 0 else .slice none 0 0) else none
  | 0, i => by simp [zcells]
  | m + 1, 0 => by simp [zcells]
  | m + 1, 1 => by simp [zcells, show 1 < (m + 1) * 3 by omega]
  | m + 1, 2 => by simp [zcells, show 2 < (m + 1) * 3 by omega]
  | m + 1, i + 3 => by
    have := zcells_at m i
    simp only [zcells, List.getElem?_cons_succ, this, Nat.add_mod_right]
    by_cases h : i < m * 3
    · simp [h, show i + 3 < (m + 1) * 3 by omega]
    · simp [h, show ¬ i + 3 < (m + 1) * 3 by omega]
theorem made_zcells (n : Nat) : (madeCells #[Value.bool false, .int .i64 0, .slice none 0 0] (n * 3)).toList = zcells n := by
  apply List.ext_getElem?
  intro j
  rw [zcells_at]
  by_cases hj : j < n * 3
  · rw [if_pos hj]
    have h3 : j % 3 < 3 := Nat.mod_lt _ (by omega)
    have e : j % 3 = 0 ∨ j % 3 = 1 ∨ j % 3 = 2 := by omega
    rcases e with e | e | e <;> simp [madeCells, hj, e]
  · rw [if_neg hj]; simp [madeCells, hj]
theorem fill3 (cs : List Cel) (rvs : List Value) (k n : Nat) (c : Cel) (rv : Value) (hk : Hid (cs[k]? = some c)) (hl : rvs.length = k) (hn : k < n) :
    (((cellVals (cs.take k) rvs ++ zcells (n - k)).set (k * 3) (.bool c.used)).set (k * 3 + 1) (.int .i64 c.data)).set (k * 3 + 2) rv = cellVals (cs.take (k + 1)) (rvs ++ [rv]) ++ zcells (n - (k + 1)) := by
  obtain ⟨hk', rfl⟩ := List.getElem?_eq_some_iff.1 hk.out
  have hl' : rvs.length = (cs.take k).length := by rw [List.length_take]; omega
  have hL : (cellVals (cs.take k) rvs).length = k * 3 := by rw [cellVals_length _ _ hl']; rw [← hl', hl]
  rw [List.take_succ_eq_append_getElem hk', cellVals_snoc _ _ _ _ hl']
  generalize cellVals (cs.take k) rvs = L at *
  have e : n - k = (n - (k + 1)) + 1 := by omega
  rw [e]
  rw [List.set_append_right _ _ (by omega), List.set_append_right _ _ (by omega), List.set_append_right _ _ (by omega)]
  rw [hL, show k * 3 - k * 3 = 0 by omega, show k * 3 + 1 - k * 3 = 1 by omega, show k * 3 + 2 - k * 3 = 2 by omega]
  simp [zcells]
theorem own_some {w : World} {lo : Nat} {e : TypeId} {size g n cap : Nat} {ys : List Value} (ho : w.ownsRow lo e size (.slice (some ⟨g, 0, none⟩) n cap) n ys) {j : Nat} (hj : j < n * size) : ∃ u, w.cell? ⟨g, j, none⟩ = some u := by
  rw [ho.cellAt j hj]
  exact ⟨_, List.getElem?_eq_getElem (by rw [ho.1]; exact hj)⟩
theorem apart_lt {a b : Value} {m : Nat} (ha : ∀ k, a.ownBlock = some k → k < m) (hb : ∀ k, b.ownBlock = some k → m ≤ k) : Apart a b := by
  unfold Apart
  cases h : a.ownBlock with
  | none => exact .inl rfl
  | some k => exact .inr fun e => by have := ha k h; have := hb k e.symm; omega
theorem apart_gt {a b : Value} {m : Nat} (ha : ∀ k, a.ownBlock = some k → m ≤ k) (hb : ∀ k, b.ownBlock = some k → k < m) : Apart a b := by
  unfold Apart
  cases h : a.ownBlock with
  | none => exact .inl rfl
  | some k => exact .inr fun e => by have := ha k h; have := hb k e.symm; omega
theorem hid_inj {α : Type} {l : List α} {k : Nat} {x y : α} (h : Hid (l[k]? = some x)) (h' : Hid (l[k]? = some y)) : x = y := by
  have := h.out.symm.trans h'.out
  injection this
/-- What a call hands back that makes one slice of ints. -/
def MadeI (w : World) (xs : List Int) (e : Ending) (w' : World) : Prop := ∃ v, e = .returned v ∧ OwI w' w.heap.size w'.heap.size v xs ∧ Below w.heap.size w w'
def MadeB (w : World) (xs : List Bool) (e : Ending) (w' : World) : Prop := ∃ v, e = .returned v ∧ OwB w' w.heap.size w'.heap.size v xs ∧ Below w.heap.size w w'
def MadeH (w : World) (h : Hp) (e : Ending) (w' : World) : Prop := ∃ v, e = .returned v ∧ OwH w' w.heap.size w'.heap.size v h ∧ Below w.heap.size w w'
/-- .. one cell. -/
def MadeL (w : World) (l : Cel) (e : Ending) (w' : World) : Prop :=
  ∃ rv, e = .returned (.agg #[.bool l.used, .int .i64 l.data, rv]) ∧ OwI w' w.heap.size w'.heap.size rv l.refs ∧ Below w.heap.size w w'
def MadeC (w : World) (cs : List Cel) (e : Ending) (w' : World) : Prop := ∃ v rvs, e = .returned v ∧ OwC w' w.heap.size w'.heap.size v rvs cs ∧ Below w.heap.size w w'
end Go.Proofs.Ytlhecfpflkioeaa
