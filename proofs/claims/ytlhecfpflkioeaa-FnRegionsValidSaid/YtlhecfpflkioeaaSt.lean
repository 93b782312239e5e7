/- What a call owns while it runs: boxes, rows and heaps in blocks that do not meet, beside memory that is as it was. No program is walked here; no condition. -/
import Derived.Test.YtlhecfpflkioeaaCp
namespace Go.Proofs.Ytlhecfpflkioeaa
open Go.RowKit

theorem drew_size (w : World) : w.drew.heap.size = w.heap.size := rfl
theorem take_snoc' {α : Type} {l : List α} {k : Nat} {x : α} (h : Hid (l[k]? = some x)) : l.take (k + 1) = l.take k ++ [x] := by
  obtain ⟨hk, rfl⟩ := List.getElem?_eq_some_iff.1 h.out
  exact List.take_succ_eq_append_getElem hk
theorem nil_or_snoc {α : Type} (l : List α) : l = [] ∨ ∃ l' x, l = l' ++ [x] := by
  rcases List.eq_nil_or_concat l with h | ⟨l', x, h⟩
  · exact .inl h
  · exact .inr ⟨l', x, by rw [h, List.concat_eq_append]⟩
inductive OB where
  | box (g : Nat) (vs : List Value) (t : TypeId)
  | row (e : TypeId) (size : Nat) (v : Value) (n : Nat) (ys : List Value)
  | cells (v : Value) (rvs : List Value) (cs : List Cel)
abbrev OB.ints (v : Value) (xs : List Int) : OB := .row 3 1 v xs.length (xs.map (Value.int .i64))
abbrev OB.bools (v : Value) (bs : List Bool) : OB := .row 4 1 v bs.length (bs.map Value.bool)
def OB.blks : OB → Nat → Prop
  | .box g _ _, k => k = g
  | .row _ _ v _ _, k => v.ownBlock = some k
  | .cells v rvs _, k => CellBlocks v rvs k
def OB.holds (lo : Nat) (w : World) : OB → Prop
  | .box g vs t => lo ≤ g ∧ w.heap[g]? = some (.cells vs.toArray t (0, 0))
  | .row e size v n ys => w.ownsRow lo e size v n ys
  | .cells v rvs cs => OwC w lo w.heap.size v rvs cs
section
variable {lo : Nat} {w0 w w' : World} {X X' Y : OB} {L : List OB}
theorem OB.holds.lt (h : X.holds lo w) : ∀ k, X.blks k → lo ≤ k ∧ k < w.heap.size := by
  intro k hk
  cases X with
  | box g vs t => simp only [OB.blks] at hk; subst hk; exact ⟨h.1, (Array.getElem?_eq_some_iff.1 h.2).1⟩
  | row e s v n ys => exact World.ownsRow.lt h k hk
  | cells v rvs cs => exact ⟨(OwC.blocks h k hk).1.1, (OwC.blocks h k hk).2⟩
theorem OwC.keepW {lo hi hi' : Nat} {v : Value} {rvs : List Value} {cs : List Cel} (ho : OwC w lo hi v rvs cs) (hk : ∀ k, CellBlocks v rvs k → w'.heap[k]? = w.heap[k]?) (hh : hi ≤ hi') : OwC w' lo hi' v rvs cs := (ho.keepB hk).wide (Nat.le_refl _) hh
theorem OB.holds.keep (h : X.holds lo w) (hk : ∀ k, X.blks k → w'.heap[k]? = w.heap[k]?) (hs : w.heap.size ≤ w'.heap.size) : X.holds lo w' := by
  cases X with
  | box g vs t => exact ⟨h.1, (hk g rfl).trans h.2⟩
  | row e s v n ys => exact own_keep h hk
  | cells v rvs cs => exact OwC.keepW h hk hs

/-- What a call owns. -/
structure Owns (lo : Nat) (w0 w : World) (L : List OB) : Prop where
  below : Below lo w0 w
  le : lo ≤ w.heap.size
  holds : ∀ (i : Nat) (X : OB), L[i]? = some X → X.holds lo w
  apart : ∀ (i j : Nat) (X Y : OB), i ≠ j → L[i]? = some X → L[j]? = some Y → ∀ k, X.blks k → ¬ Y.blks k
theorem Owns.nil (w : World) : Owns w.heap.size w w [] := ⟨Below.refl _ _, Nat.le_refl _, fun i X h => by simp at h, fun i j X Y _ h => by simp at h⟩
theorem Owns.nilAt {lo : Nat} (h : lo ≤ w.heap.size) : Owns lo w w [] := ⟨Below.refl _ _, h, fun i X h => by simp at h, fun i j X Y _ h => by simp at h⟩
theorem Owns.call (h : Owns lo w0 w L) (hb : Below w.heap.size w w') : Owns lo w0 w' L :=
  ⟨h.below.trans (hb.mono h.le), Nat.le_trans h.le hb.size, fun i X hX => (h.holds i X hX).keep (fun k hk => hb.block k ((h.holds i X hX).lt k hk).2) hb.size, h.apart⟩
theorem Owns.alloc (h : Owns lo w0 w L) (o : Obj) : Owns lo w0 (w.alloc o) L := h.call (below_alloc w o)
theorem Owns.drew (h : Owns lo w0 w L) : Owns lo w0 w.drew L := h.call (Below.refl _ _).drew
theorem Owns.drewN (h : Owns lo w0 w L) (n : Nat) : Owns lo w0 (w.drewN n) L := h.call (below_drewN (Below.refl _ _) n)
/-- Something new is owned. -/
theorem Owns.new (h : Owns lo w0 w L) (hb : Below w.heap.size w w') (hX : X.holds lo w') (hn : ∀ k, X.blks k → w.heap.size ≤ k) : Owns lo w0 w' (X :: L) := by
  have h' := h.call hb
  refine ⟨h'.below, h'.le, fun i Y hY => ?_, fun i j Y Z hij hY hZ k hk => ?_⟩
  · cases i with
    | zero => simp at hY; subst hY; exact hX
    | succ i => exact h'.holds i Y (by simpa using hY)
  · cases i with
    | zero =>
      simp at hY; subst hY
      cases j with
      | zero => exact absurd rfl hij
      | succ j =>
        intro hz
        have := ((h.holds j Z (by simpa using hZ)).lt k hz).2
        have := hn k hk
        omega
    | succ i =>
      cases j with
      | zero =>
        simp at hZ; subst hZ
        intro hz
        have := ((h.holds i Y (by simpa using hY)).lt k hk).2
        have := hn k hz
        omega
      | succ j => exact h'.apart i j Y Z (by omega) (by simpa using hY) (by simpa using hZ) k hk
theorem Owns.box (h : Owns lo w0 w L) (vs : List Value) (t : TypeId) : Owns lo w0 (w.alloc (.cells vs.toArray t)) (.box w.heap.size vs t :: L) :=
  h.new (below_alloc _ _) ⟨h.le, heap1 w _⟩ fun k hk => by simp only [OB.blks] at hk; omega
theorem Owns.row {e : TypeId} {s n : Nat} {v : Value} {ys : List Value} (h : Owns lo w0 w L) (hb : Below w.heap.size w w') (ho : w'.ownsRow w.heap.size e s v n ys) : Owns lo w0 w' (.row e s v n ys :: L) :=
  h.new hb (own_lo ho h.le) fun k hk => (ho.lt k hk).1
/-- A literal or an empty row. -/
theorem Owns.lit (h : Owns lo w0 w L) (vs : List Value) (t : TypeId) (hm : vs.length ≤ maxLen) : Owns lo w0 (w.alloc (.cells vs.toArray t)) (.row t 1 (.slice (some ⟨w.heap.size, 0, none⟩) vs.length vs.length) vs.length vs :: L) :=
  h.row (below_alloc _ _) (own_lit w t _ vs (Nat.le_refl _) hm)
theorem Owns.litI (h : Owns lo w0 w L) (xs : List Int) (hm : xs.length ≤ maxLen) : Owns lo w0 (w.alloc (.cells (xs.map (Value.int .i64)).toArray 3)) (.ints (.slice (some ⟨w.heap.size, 0, none⟩) xs.length xs.length) xs :: L) := by
  have := h.lit (xs.map (Value.int .i64)) 3 (by simpa using hm)
  simpa using this
theorem Owns.noInts (h : Owns lo w0 w L) : Owns lo w0 w (.ints (.slice none 0 0) [] :: L) := h.row (Below.refl _ _) (World.ownsRow_nil _ _ _ _)
theorem Owns.noBools (h : Owns lo w0 w L) : Owns lo w0 w (.bools (.slice none 0 0) [] :: L) := h.row (Below.refl _ _) (World.ownsRow_nil _ _ _ _)
theorem OwC.nil (w : World) (lo hi : Nat) : OwC w lo hi (.slice none 0 0) [] [] := ⟨rfl, World.ownsRow_nil _ _ _ _, fun k e => by simp [Value.ownBlock] at e, fun i q c e => by simp at e, fun i j a b _ e => by simp at e⟩
theorem Owns.noCells (h : Owns lo w0 w L) : Owns lo w0 w (.cells (.slice none 0 0) [] [] :: L) :=
  h.new (Below.refl _ _) (OwC.nil w _ _) fun k hk => by simp [OB.blks, CellBlocks, Value.ownBlock] at hk
theorem Owns.madeI {v : Value} {xs : List Int} (h : Owns lo w0 w L) (ho : OwI w' w.heap.size w'.heap.size v xs) (hb : Below w.heap.size w w') : Owns lo w0 w' (.ints v xs :: L) := h.row hb ho.own
theorem Owns.madeB {v : Value} {bs : List Bool} (h : Owns lo w0 w L) (ho : OwB w' w.heap.size w'.heap.size v bs) (hb : Below w.heap.size w w') : Owns lo w0 w' (.bools v bs :: L) := h.row hb ho.own
theorem Owns.madeC {v : Value} {rvs : List Value} {cs : List Cel} (h : Owns lo w0 w L) (ho : OwC w' w.heap.size w'.heap.size v rvs cs) (hb : Below w.heap.size w w') : Owns lo w0 w' (.cells v rvs cs :: L) :=
  h.new hb (ho.wide h.le (Nat.le_refl _)) fun k hk => (ho.blocks k hk).1.1
/-- Two new things at once. -/
theorem Owns.new2 (h : Owns lo w0 w L) (hb : Below w.heap.size w w') (hX : X.holds lo w') (hn : ∀ k, X.blks k → w.heap.size ≤ k) (hY : Y.holds lo w') (hm : ∀ k, Y.blks k → w.heap.size ≤ k) (ha : ∀ k, X.blks k → ¬ Y.blks k) : Owns lo w0 w' (X :: Y :: L) := by
  have h' := h.new hb hY hm
  refine ⟨h'.below, h'.le, fun i Z hZ => ?_, fun i j Z T hij hZ hT k hk => ?_⟩
  · cases i with
    | zero => simp at hZ; subst hZ; exact hX
    | succ i => exact h'.holds i Z (by simpa using hZ)
  · have key : ∀ (j : Nat) (T : OB), (Y :: L)[j]? = some T → ∀ k, X.blks k → ¬ T.blks k := fun j T hT k hk => by
      cases j with
      | zero => simp at hT; subst hT; exact ha k hk
      | succ j =>
        intro ht
        have := ((h.holds j T (by simpa using hT)).lt k ht).2
        have := hn k hk
        omega
    cases i with
    | zero =>
      simp at hZ; subst hZ
      cases j with
      | zero => exact absurd rfl hij
      | succ j => exact key j T (by simpa using hT) k hk
    | succ i =>
      cases j with
      | zero =>
        simp at hT; subst hT
        exact fun ht => key i Z (by simpa using hZ) k ht hk
      | succ j => exact h'.apart i j Z T (by omega) (by simpa using hZ) (by simpa using hT) k hk
theorem Owns.madeH {v : Value} {h0 : Hp} (h : Owns lo w0 w L) (ho : OwH w' w.heap.size w'.heap.size v h0) (hb : Below w.heap.size w w') :
    ∃ cv rvs rv, v = .agg #[cv, rv] ∧ Owns lo w0 w' (.cells cv rvs h0.cells :: .ints rv h0.roots :: L) := by
  obtain ⟨cv, rvs, rv, rfl, hC, hR, hA⟩ := ho
  refine ⟨cv, rvs, rv, rfl, h.new2 hb (hC.wide h.le (Nat.le_refl _)) (fun k hk => (hC.blocks k hk).1.1) (own_lo hR.own h.le) (fun k hk => (hR.own.lt k hk).1) fun k hk hr => ?_⟩
  rcases hk with e | ⟨x, hx, e⟩
  · exact own_ne hC.own hR.own (by decide) e hr
  · exact apart_ne (hA x hx) hr e
/-- The i-th thing turns. -/
theorem Owns.turn (h : Owns lo w0 w L) (i : Nat) (hX : L[i]? = some X) (hT : Turn X.blks w w') (hH : X'.holds lo w') (hb : ∀ k, X'.blks k → X.blks k ∨ w.heap.size ≤ k) : Owns lo w0 w' (L.set i X') := by
  have hXh := h.holds i X hX
  have hle := Nat.le_trans h.le hT.size
  have hi : i < L.length := (List.getElem?_eq_some_iff.1 hX).1
  refine ⟨h.below.trans ⟨hT.os, hT.tape, hT.output, hT.size, fun k hk => hT.block k (by have := h.le; omega) fun e => by have := (hXh.lt k e).1; omega⟩, hle, fun j Y hY => ?_, fun a b Y Z hab hY hZ k hk => ?_⟩
  · rw [List.getElem?_set] at hY
    split at hY
    · (try rw [if_pos hi] at hY); injection hY with hY; subst hY; exact hH
    · rename_i hne
      exact (h.holds j Y hY).keep (fun k hk => hT.block k ((h.holds j Y hY).lt k hk).2 (h.apart j i Y X (fun e => hne e.symm) hY hX k hk)) hT.size
  · rw [List.getElem?_set] at hY hZ
    split at hY
    · rename_i e1
      (try rw [if_pos hi] at hY); injection hY with hY; subst hY
      split at hZ
      · rename_i e2; exact absurd (e1.symm.trans e2) hab
      · rename_i hne
        intro hz
        rcases hb k hk with h1 | h1
        · exact h.apart i b X Z (by omega) hX hZ k h1 hz
        · have := ((h.holds b Z hZ).lt k hz).2; omega
    · rename_i hne
      split at hZ
      · (try rw [if_pos hi] at hZ); injection hZ with hZ; subst hZ
        intro hz
        rcases hb k hz with h1 | h1
        · exact h.apart a i Y X (by omega) hY hX k hk h1
        · have := ((h.holds a Y hY).lt k hk).2; omega
      · exact h.apart a b Y Z hab hY hZ k hk
theorem turn_set {P : Nat → Prop} {p : Addr} {u : Value} (hp : P p.block) : Turn P w (w.setCell p u) := (Turn.refl P w).setCell u hp
theorem turn_grown {P : Nat → Prop} {r : Option Nat} (hg : w.grownBy w' r) (hr : ∀ k, r = some k → P k) : Turn P w w' := (Turn.refl P w).grown hg hr
theorem Owns.putBox {g : Nat} {vs : List Value} {t : TypeId} (h : Owns lo w0 w L) (i : Nat) (hX : L[i]? = some (.box g vs t)) (j : Nat) (u : Value) : Owns lo w0 (w.setCell ⟨g, j, none⟩ u) (L.set i (.box g (vs.set j u) t)) := by
  have hXh := h.holds i _ hX
  refine h.turn i hX (turn_set rfl) ⟨hXh.1, ?_⟩ fun k hk => .inl hk
  have := heap_setCell_same w g j vs.toArray t u hXh.2
  simpa using this
theorem Owns.putRow {e : TypeId} {s g n c : Nat} {ys : List Value} (h : Owns lo w0 w L) (i : Nat) (hX : L[i]? = some (.row e s (.slice (some ⟨g, 0, none⟩) n c) n ys)) (j : Nat) (u : Value) :
    Owns lo w0 (w.setCell ⟨g, j, none⟩ u) (L.set i (.row e s (.slice (some ⟨g, 0, none⟩) n c) n (ys.set j u))) := by
  have hXh : w.ownsRow lo e s _ n ys := h.holds i _ hX
  exact h.turn i hX (turn_set rfl) (hXh.stored j u).1 fun k hk => .inl hk
theorem Owns.grow {e : TypeId} {s n n' : Nat} {v v' : Value} {ys ys' : List Value} (h : Owns lo w0 w L) (i : Nat) (hX : L[i]? = some (.row e s v n ys)) (ho : w'.ownsRow lo e s v' n' ys') (hg : w.grownBy w' v.ownBlock) (hv : v'.ownBlock = v.ownBlock ∨ v'.ownBlock = some w.heap.size) :
    Owns lo w0 w' (L.set i (.row e s v' n' ys')) :=
  h.turn i hX (turn_grown hg fun k hk => hk) ho fun k hk => by
    simp only [OB.blks] at hk ⊢
    rcases hv with hv | hv
    · exact .inl (hv ▸ hk)
    · right; rw [hv] at hk; injection hk with hk; omega
theorem Owns.shrink {e : TypeId} {s g n c : Nat} {ys : List Value} (h : Owns lo w0 w L) (i : Nat) (hX : L[i]? = some (.row e s (.slice (some ⟨g, 0, none⟩) n c) n ys)) (k : Nat) (hk : k ≤ n) :
    Owns lo w0 w (L.set i (.row e s (.slice (some ⟨g, 0, none⟩) k c) k (ys.take (k * s)))) := by
  have ho : w.ownsRow lo e s _ n ys := h.holds i _ hX
  have hks : k * s ≤ n * s := Nat.mul_le_mul_right _ hk
  refine h.turn i hX (Turn.refl _ _) (X' := .row e s (.slice (some ⟨g, 0, none⟩) k c) k (ys.take (k * s))) ⟨by rw [List.length_take, ho.1]; omega, ?_⟩ fun q hq => .inl hq
  rcases ho.2 with ⟨h', _⟩ | ⟨g', c', cur, h', hb, hg, hn, hm, hs, ht⟩
  · cases h'
  · injection h' with h1 h2 h3
    subst h3
    refine .inr ⟨g', c, cur, by rw [h1], hb, hg, by omega, hm, hs, ?_⟩
    rw [← ht, List.take_take, Nat.min_eq_left hks]
/-- Some things are let go of, or told in another order. -/
theorem Owns.pick (h : Owns lo w0 w L) (f : Nat → Nat) {L' : List OB} (hf : ∀ i X, L'[i]? = some X → L[f i]? = some X) (hi : ∀ i j, i < L'.length → j < L'.length → f i = f j → i = j) : Owns lo w0 w L' :=
  ⟨h.below, h.le, fun i X hX => h.holds _ X (hf i X hX), fun i j X Y hij hX hY => h.apart (f i) (f j) X Y (fun e => hij (hi i j (List.getElem?_eq_some_iff.1 hX).1 (List.getElem?_eq_some_iff.1 hY).1 e)) (hf i X hX) (hf j Y hY)⟩
theorem Owns.drop (h : Owns lo w0 w L) (n : Nat) : Owns lo w0 w (L.drop n) := h.pick (n + ·) (fun i X hX => by rwa [List.getElem?_drop] at hX) fun i j _ _ e => by omega
theorem Owns.take (h : Owns lo w0 w L) (n : Nat) : Owns lo w0 w (L.take n) := h.pick id (fun i X hX => by
  rw [List.getElem?_take] at hX
  split at hX
  · exact hX
  · cases hX) fun i j _ _ e => e
theorem Owns.erase (h : Owns lo w0 w L) (n : Nat) : Owns lo w0 w (L.eraseIdx n) := h.pick (fun i => if i < n then i else i + 1) (fun i X hX => by
  rw [List.getElem?_eraseIdx] at hX
  split at hX <;> (rename_i hc; simp only [hc, if_true, if_false]; exact hX)) fun i j _ _ e => by
  split at e <;> split at e <;> omega
theorem Owns.swap {X Y : OB} (h : Owns lo w0 w (X :: Y :: L)) : Owns lo w0 w (Y :: X :: L) := h.pick (fun i => if i = 0 then 1 else if i = 1 then 0 else i) (fun i Z hZ => by
  cases i with
  | zero => simpa using hZ
  | succ i => cases i with
    | zero => simpa using hZ
    | succ i => simpa using hZ) fun i j _ _ e => by
  split at e <;> split at e <;> (try split at e) <;> (try split at e) <;> omega
/-- Told in another order, some left out: l lists the places. -/
theorem Owns.order (h : Owns lo w0 w L) (l : List Nat) {L' : List OB} (hl : l.Nodup) (hL : l.map (fun i => L[i]?) = L'.map some) : Owns lo w0 w L' := by
  have hlen : l.length = L'.length := by have := congrArg List.length hL; simpa using this
  refine h.pick (fun i => l.getD i 0) (fun i X hX => ?_) fun i j hi hj e => ?_
  · have h1 : (l.map (fun i => L[i]?))[i]? = some (some X) := by rw [hL, List.getElem?_map, hX]; rfl
    rw [List.getElem?_map] at h1
    obtain ⟨j, h2, h3⟩ := Option.map_eq_some_iff.1 h1
    simp only [List.getD, h2, Option.getD_some]
    exact h3
  · have hi' : i < l.length := by omega
    have hj' : j < l.length := by omega
    simp only [List.getD, List.getElem?_eq_getElem hi', List.getElem?_eq_getElem hj', Option.getD_some] at e
    exact (List.getElem_inj hl).1 e
theorem Owns.places (h : Owns lo w0 w L) (l : List Nat) (hl : l.Nodup) (hi : ∀ i ∈ l, i < L.length) : Owns lo w0 w (l.filterMap fun i => L[i]?) := by
  refine h.order l hl ?_
  clear hl
  induction l with
  | nil => rfl
  | cons i l ih =>
    have hlt := hi i (by simp)
    rw [List.map_cons, List.filterMap_cons, List.getElem?_eq_getElem hlt, List.map_cons, ih fun j hj => hi j (by simp [hj])]
/-- The same owner, told from a later world: for a piece that needs nothing from before. -/
theorem Owns.start (h : Owns lo w0 w L) : Owns lo w w L := ⟨Below.refl _ _, h.le, h.holds, h.apart⟩
theorem Owns.join {w1 : World} (hb : Below lo w0 w1) (h : Owns lo w1 w L) : Owns lo w0 w L := ⟨hb.trans h.below, h.le, h.holds, h.apart⟩
end

/-! ### Facts out of it -/
section
variable {lo : Nat} {w0 w w' : World} {L : List OB}
theorem Owns.cell {g : Nat} {vs : List Value} {t : TypeId} (h : Owns lo w0 w L) (i : Nat) (hX : L[i]? = some (.box g vs t)) {j : Nat} {u : Value} (hu : vs[j]? = some u) : w.cell? ⟨g, j, none⟩ = some u := by
  have := (h.holds i _ hX).2
  simp [World.cell?, this, hu]
theorem Owns.frozen {g : Nat} {vs : List Value} {t : TypeId} (h : Owns lo w0 w L) (i : Nat) (hX : L[i]? = some (.box g vs t)) (j : Nat) : w.frozen? ⟨g, j, none⟩ = false := by
  have := (h.holds i _ hX).2
  simp [World.frozen?, this]
theorem Owns.boxLt {g : Nat} {vs : List Value} {t : TypeId} (h : Owns lo w0 w L) (i : Nat) (hX : L[i]? = some (.box g vs t)) : lo ≤ g ∧ g < w.heap.size := (h.holds i _ hX).lt g rfl
theorem Owns.box1 {g : Nat} {a : Value} {t : TypeId} (h : Owns lo w0 w L) (i : Nat) (hX : L[i]? = some (.box g [a] t)) : w.cell? ⟨g, 0, none⟩ = some a ∧ w.frozen? ⟨g, 0, none⟩ = false := ⟨h.cell i hX rfl, h.frozen i hX _⟩
theorem Owns.box2 {g : Nat} {a b : Value} {t : TypeId} (h : Owns lo w0 w L) (i : Nat) (hX : L[i]? = some (.box g [a, b] t)) : w.cell? ⟨g, 0, none⟩ = some a ∧ w.cell? ⟨g, 1, none⟩ = some b ∧ w.frozen? ⟨g, 0, none⟩ = false ∧ w.frozen? ⟨g, 1, none⟩ = false := ⟨h.cell i hX rfl, h.cell i hX rfl, h.frozen i hX _, h.frozen i hX _⟩
theorem Owns.box3 {g : Nat} {a b c : Value} {t : TypeId} (h : Owns lo w0 w L) (i : Nat) (hX : L[i]? = some (.box g [a, b, c] t)) : w.cell? ⟨g, 0, none⟩ = some a ∧ w.cell? ⟨g, 1, none⟩ = some b ∧ w.cell? ⟨g, 2, none⟩ = some c ∧ w.frozen? ⟨g, 0, none⟩ = false ∧ w.frozen? ⟨g, 1, none⟩ = false ∧ w.frozen? ⟨g, 2, none⟩ = false :=
  ⟨h.cell i hX rfl, h.cell i hX rfl, h.cell i hX rfl, h.frozen i hX _, h.frozen i hX _, h.frozen i hX _⟩
theorem Owns.ro {p : Addr} {u : Value} (h : Owns lo w0 w L) (hc : w0.cell? p = some u) (hp : p.block < lo) : w.cell? p = some u := (h.below.cell hp).trans hc
theorem Owns.own {e : TypeId} {s n : Nat} {v : Value} {ys : List Value} (h : Owns lo w0 w L) (i : Nat) (hX : L[i]? = some (.row e s v n ys)) : w.ownsRow lo e s v n ys := h.holds i _ hX
theorem Owns.owI {v : Value} {xs : List Int} (h : Owns lo w0 w L) (i : Nat) (hX : L[i]? = some (.ints v xs)) : OwI w lo w.heap.size v xs := ⟨h.own i hX, fun k e => ((h.own i hX).lt k e).2⟩
theorem Owns.owB {v : Value} {bs : List Bool} (h : Owns lo w0 w L) (i : Nat) (hX : L[i]? = some (.bools v bs)) : OwB w lo w.heap.size v bs := ⟨h.own i hX, fun k e => ((h.own i hX).lt k e).2⟩
theorem Owns.owC {v : Value} {rvs : List Value} {cs : List Cel} (h : Owns lo w0 w L) (i : Nat) (hX : L[i]? = some (.cells v rvs cs)) : OwC w lo w.heap.size v rvs cs := h.holds i _ hX
theorem Owns.formI {v : Value} {xs : List Int} (h : Owns lo w0 w L) (i : Nat) (hX : L[i]? = some (.ints v xs)) : ∃ A c, v = .slice A xs.length c ∧ RdI w w.heap.size A xs.length c xs := (h.owI i hX).form
theorem Owns.formB {v : Value} {bs : List Bool} (h : Owns lo w0 w L) (i : Nat) (hX : L[i]? = some (.bools v bs)) : ∃ A c, v = .slice A bs.length c ∧ RdB w w.heap.size A bs.length c bs := (h.owB i hX).form
theorem Owns.formC {v : Value} {rvs : List Value} {cs : List Cel} (h : Owns lo w0 w L) (i : Nat) (hX : L[i]? = some (.cells v rvs cs)) : ∃ A c, v = .slice A cs.length c ∧ RdC w w.heap.size A cs.length c cs := (h.owC i hX).form
/-- A row with an element has a block. -/
theorem Owns.rowAt {e : TypeId} {s n : Nat} {v : Value} {ys : List Value} (h : Owns lo w0 w L) (i : Nat) (hX : L[i]? = some (.row e s v n ys)) (hn : 0 < n) : ∃ g c, v = .slice (some ⟨g, 0, none⟩) n c ∧ n ≤ c ∧ c ≤ maxLen ∧ lo ≤ g ∧ g < w.heap.size := by
  have ho := h.own i hX
  rcases ho.2 with ⟨_, h0⟩ | ⟨g, c, cur, rfl, hb, hg, hn, hm, _⟩
  · omega
  · exact ⟨g, c, rfl, hn, hm, hb, (Array.getElem?_eq_some_iff.1 hg).1⟩
theorem Owns.elem {e : TypeId} {s g n c : Nat} {ys : List Value} (h : Owns lo w0 w L) (i : Nat) (hX : L[i]? = some (.row e s (.slice (some ⟨g, 0, none⟩) n c) n ys)) {j : Nat} {u : Value} (hu : ys[j]? = some u) : w.cell? ⟨g, j, none⟩ = some u ∧ w.frozen? ⟨g, j, none⟩ = false := by
  have ho := h.own i hX
  have hj : j < n * s := by rw [← ho.1]; exact (List.getElem?_eq_some_iff.1 hu).1
  exact ⟨(ho.cellAt j hj).trans hu, ho.frozenAt j⟩
/-- A literal block as a list to be read. -/
theorem rdV_lit {w : World} {g c : Nat} {e : TypeId} {ys : List Value} (hg : w.heap[g]? = some (.cells ys.toArray e (0, 0))) (hc : ys.length ≤ c) (hm : c ≤ maxLen) : RdV w w.heap.size (some ⟨g, 0, none⟩) ys.length c ys :=
  ⟨rfl, hc, hm, fun _ => ⟨g, 0, rfl, (Array.getElem?_eq_some_iff.1 hg).1, fun j u hu => by simp [World.cell?, hg, hu]⟩⟩
theorem rdI_one {w : World} {g c : Nat} {x : Int} (hg : w.heap[g]? = some (.cells #[.int .i64 x] 3 (0, 0))) (hc : 1 ≤ c) (hm : c ≤ maxLen) : RdI w w.heap.size (some ⟨g, 0, none⟩) 1 c [x] := rdV_lit (ys := [.int .i64 x]) hg hc hm
theorem rdB_one {w : World} {g c : Nat} {x : Bool} (hg : w.heap[g]? = some (.cells #[.bool x] 4 (0, 0))) (hc : 1 ≤ c) (hm : c ≤ maxLen) : RdB w w.heap.size (some ⟨g, 0, none⟩) 1 c [x] := rdV_lit (ys := [.bool x]) hg hc hm
theorem one_le_maxLen : 1 ≤ maxLen := by unfold maxLen; omega
theorem rdI_new (w : World) (x : Int) (g : Nat) (hg : w.heap.size = g) : RdI (w.alloc (.cells #[.int .i64 x] 3)) (w.alloc (.cells #[.int .i64 x] 3)).heap.size (some ⟨g, 0, none⟩) 1 1 [x] := by
  subst hg
  exact rdI_one (heap1 w _) (Nat.le_refl _) one_le_maxLen
theorem rdB_new (w : World) (x : Bool) (g : Nat) (hg : w.heap.size = g) : RdB (w.alloc (.cells #[.bool x] 4)) (w.alloc (.cells #[.bool x] 4)).heap.size (some ⟨g, 0, none⟩) 1 1 [x] := by
  subst hg
  exact rdB_one (heap1 w _) (Nat.le_refl _) one_le_maxLen
end

/-! ### make, of numbers and of marks -/
theorem Try.infoBool : (Try.prog.info? 4).map (fun i => (i.zero, i.size, i.bytes)) = some (some (.bool false), 1, 1) := by kernel_rfl
section
variable {lo : Nat} {w0 w w' : World} {L : List OB}
theorem grown_below (hg : w.grownBy w' none) : Below w.heap.size w w' := (Below.refl _ _).grown hg (Nat.le_refl _) fun k e => by cases e
theorem Owns.mkB (h : Owns lo w0 w L) {n : Nat} {v : Value} (ho : w'.ownsRow w.heap.size 4 1 v n (madeCells #[Value.bool false] (n * 1)).toList) (hg : w.grownBy w' none) : Owns lo w0 w' (.row 4 1 v n ((List.replicate n false).map Value.bool) :: L) := by
  have e : (madeCells #[Value.bool false] (n * 1)).toList = (List.replicate n false).map Value.bool := by rw [Nat.mul_one, toList_madeCells_one, List.map_replicate]
  rw [e] at ho
  exact h.row (grown_below hg) ho
theorem Owns.mkI (h : Owns lo w0 w L) {n : Nat} {v : Value} (ho : w'.ownsRow w.heap.size 3 1 v n (madeCells #[Value.int .i64 0] (n * 1)).toList) (hg : w.grownBy w' none) : Owns lo w0 w' (.row 3 1 v n ((List.replicate n (0 : Int)).map (Value.int .i64)) :: L) := by
  have e : (madeCells #[Value.int .i64 0] (n * 1)).toList = (List.replicate n (0 : Int)).map (Value.int .i64) := by rw [Nat.mul_one, toList_madeCells_one, List.map_replicate]
  rw [e] at ho
  exact h.row (grown_below hg) ho
end
/-! ### append, on something that is owned -/
section
variable {lo : Nat} {w0 w : World} {L : List OB}
theorem run_pushV {e se : TypeId} {i0 : TypeInfo} {z : Value} {by_ : Nat} (hu : Try.prog.underlying se = some (.slice e)) (hi : Try.prog.info? e = some i0) (hz0 : i0.zero = some z) (hz1 : i0.size = 1) (hz2 : i0.bytes = by_) (hzs : z.cells.size = 1) (hby : by_ ≤ 64)
    {v : Value} {n0 : Nat} {xs : List Value} (hown : w.ownsRow lo e 1 v n0 xs) {B : Nat} {A : Option Addr} {n c : Nat} {ys : List Value} (hr : RdV w B A n c ys) (h1 : ∀ u ∈ ys, u.oneCell' = true) (hb : n0 + n ≤ 1099511627776) (hlo : lo ≤ w.heap.size) (ty : TypeId) :
    ∃ v' w', (Builtin.append_ #[se, se] ty #[v, .slice A n c]).run Try.prog w = .ok v' w' ∧ w'.ownsRow lo e 1 v' (n0 + n) (xs ++ ys) ∧ w.grownBy w' v.ownBlock ∧ (v'.ownBlock = v.ownBlock ∨ v'.ownBlock = some w.heap.size) := by
  have hl := hr.len
  rcases Nat.eq_zero_or_pos n with h0 | h0
  · subst h0
    obtain rfl : ys = [] := List.length_eq_zero_iff.1 hl.symm
    have hs : Src Try.prog i0.size se (.slice A 0 c) 0 [] w := by
      cases A with
      | none => exact Src.ofNil w hu c
      | some a => exact Src.ofSlice w hu a 0 c [] (by simp) (by simp) (by simp)
    have hold : w.ownsRow lo e 1 v (n0 + 0) (xs ++ []) := by rw [List.append_nil]; exact hown
    rcases hown.2 with ⟨rfl, rfl⟩ | ⟨g, cap, cur, rfl, _, _, hc, _⟩
    · exact ⟨_, w, run_append_nothing w _ _ ty e i0 hu hi none 0 0 (Nat.le_refl _) _ hs, hold, World.grownBy.refl _ _, .inl rfl⟩
    · exact ⟨_, w, run_append_nothing w _ _ ty e i0 hu hi (some ⟨g, 0, none⟩) _ cap hc _ hs, hold, World.grownBy.refl _ _, .inl rfl⟩
  · obtain ⟨b, o, rfl, hbb, hc⟩ := hr.rd h0
    obtain ⟨v', w', hrun, ho, hg, -, hat⟩ := run_append_own_at (P := Try.prog) w lo se ty e i0 z 1 by_ hu hi hz0 hz1 hz2 hzs (by omega) v n0 _ hown ⟨b, o, none⟩ n c ys (by omega)
      (fun j u hu => by rw [show (⟨b, o, none⟩ : Addr).add j = ⟨b, o + j, none⟩ from Addr.add_lit _ _ _]; exact hc j u hu) h1 (by unfold maxLen; omega) (by have : (n0 + n) * by_ ≤ (n0 + n) * 64 := Nat.mul_le_mul_left _ hby; omega) hlo
    exact ⟨v', w', hrun, ho, hg, hat⟩
theorem run_pushOI (h : Owns lo w0 w L) (i : Nat) {v : Value} {xs : List Int} (hX : L[i]? = some (.ints v xs)) {B : Nat} {A : Option Addr} {n c : Nat} {ys : List Int} (hr : RdI w B A n c ys) (hb : xs.length + n ≤ 1099511627776) (ty : TypeId) :
    ∃ A' c' w', (Builtin.append_ #[24, 24] ty #[v, .slice A n c]).run Try.prog w = .ok (.slice A' (xs ++ ys).length c') w' ∧ Owns lo w0 w' (L.set i (.ints (.slice A' (xs ++ ys).length c') (xs ++ ys))) := by
  obtain ⟨i0, hi, hz0, hz1, hz2⟩ := info_parts Try.infoInt
  obtain ⟨v', w', hrun, ho, hg, hat⟩ := run_pushV Try.underlying24 hi hz0 hz1 hz2 rfl (by omega) (h.own i hX) hr (mapI_oneCell ys) (by simpa using hb) h.le ty
  have hl : xs.length + n = (xs ++ ys).length := by have := RdI.le1 hr; have := RdI.le2 hr; simp; omega
  rw [hl, ← List.map_append] at ho
  obtain ⟨A', c', rfl, -⟩ := OwI.form ⟨ho, fun k e => (ho.lt k e).2⟩
  exact ⟨A', c', w', hrun, h.grow i hX ho hg hat⟩
theorem mapB_oneCell (ys : List Bool) : ∀ u ∈ ys.map Value.bool, u.oneCell' = true := by
  intro u hu
  obtain ⟨b, _, rfl⟩ := List.mem_map.1 hu
  rfl
theorem wp_pushO {o : Oper} {a : Act} {K : Act → World → Prop} {Q : Exit → Act → World → Prop} (s x : Operand)
    (hop : o.op = .call { callee := .builtin .append, args := #[s, x], argTypes := #[24, 24] })
    (h : Owns lo w0 w L) (i : Nat) {v : Value} {xs : List Int} (hX : L[i]? = some (.ints v xs)) (hs : a.eval s = v) {B : Nat} {A : Option Addr} {n c : Nat} {ys : List Int} (hx : a.eval x = .slice A n c) (hr : RdI w B A n c ys) (hb : xs.length + n ≤ 1099511627776)
    (hK : ∀ A' c' w', Owns lo w0 w' (L.set i (.ints (.slice A' (xs ++ ys).length c') (xs ++ ys))) → K (a.put o.dst (.slice A' (xs ++ ys).length c')) w') : o.wp Try.prog a w K Q := by
  obtain ⟨A', c', w', hrun, hO⟩ := run_pushOI h i hX hr hb o.type
  unfold Oper.wp execOp
  simp only [hop, resolve, invoke, builtin, Sem.run_bind, Sem.run_pure, Result.andThen_ok, List.map_toArray, List.map_cons, List.map_nil, hs, hx, hrun]
  exact hK A' c' w' hO
theorem wpList_pushO {ops : Array Oper} {rest : List Oper} {o : Oper} {a : Act} {Q : Exit → Act → World → Prop} (hgd : o.guard = none) (s x : Operand)
    (hop : o.op = .call { callee := .builtin .append, args := #[s, x], argTypes := #[24, 24] })
    (h : Owns lo w0 w L) (i : Nat) {v : Value} {xs : List Int} (hX : L[i]? = some (.ints v xs)) (hs : a.eval s = v) {B : Nat} {A : Option Addr} {n c : Nat} {ys : List Int} (hx : a.eval x = .slice A n c) (hr : RdI w B A n c ys) (hb : xs.length + n ≤ 1099511627776)
    (hK : ∀ A' c' w', Owns lo w0 w' (L.set i (.ints (.slice A' (xs ++ ys).length c') (xs ++ ys))) → wpList Try.prog ops Q rest (a.put o.dst (.slice A' (xs ++ ys).length c')) w') : wpList Try.prog ops Q (o :: rest) a w :=
  wpList_plain hgd fun _ hK' => wp_pushO s x hop h i hX hs hx hr hb fun A' c' w' hO => hK' _ _ (hK A' c' w' hO)
theorem step_pushO {ops : Array Oper} {o : Oper} {a : Act} {K : Act → World → Prop} {Q : Exit → Act → World → Prop} {E : Prop} (hgd : o.guard = none) (s x : Operand)
    (hop : o.op = .call { callee := .builtin .append, args := #[s, x], argTypes := #[24, 24] })
    (h : Owns lo w0 w L) (i : Nat) {v : Value} {xs : List Int} (hX : L[i]? = some (.ints v xs)) (hs : a.eval s = v) {B : Nat} {A : Option Addr} {n c : Nat} {ys : List Int} (hx : a.eval x = .slice A n c) (hr : RdI w B A n c ys) (hb : xs.length + n ≤ 1099511627776)
    (hK : ∀ A' c' w', Owns lo w0 w' (L.set i (.ints (.slice A' (xs ++ ys).length c') (xs ++ ys))) → K (a.put o.dst (.slice A' (xs ++ ys).length c')) w') :
    if Region.wanted o (yielded ops a.tmps) = true then Oper.wp Try.prog o a w K Q else E := by
  rw [if_pos (by simp [Region.wanted, hgd])]
  exact wp_pushO s x hop h i hX hs hx hr hb hK
/-- A cell goes to the end of the cells: its references become theirs. -/
theorem Owns.pushC (h : Owns lo w0 w L) (i j : Nat) {v : Value} {rvs : List Value} {cs : List Cel} {rv : Value} {c : Cel} (hX : L[i]? = some (.cells v rvs cs)) (hY : L[j]? = some (.ints rv c.refs)) (hone : rv.oneCell' = true)
    {g k : Nat} (hb : w.heap[g]? = some (.cells #[.bool c.used, .int .i64 c.data, rv] 61)) (hn : cs.length + 1 ≤ 1099511627776) (ty : TypeId) :
    ∃ A' c' w', (Builtin.append_ #[23, 23] ty #[v, .slice (some ⟨g, 0, none⟩) 1 k]).run Try.prog w = .ok (.slice A' (cs ++ [c]).length c') w' ∧ Owns lo w0 w' ((L.set i (.cells (.slice A' (cs ++ [c]).length c') (rvs ++ [rv]) (cs ++ [c]))).eraseIdx j) := by
  have hij : i ≠ j := by
    rintro rfl
    rw [hX] at hY; cases hY
  have hC := h.owC i hX
  have hR := h.owI j hY
  obtain ⟨i0, hi0, hz0, hz1, hz2⟩ := info_parts Try.infoCell
  obtain ⟨v', w', hrun, hown, hg, -, hat⟩ := run_append_own_at (P := Try.prog) w lo 23 ty 61 i0 (.agg #[.bool false, .int .i64 0, .slice none 0 0]) 3 40 Try.underlying23 hi0 hz0 hz1 hz2 rfl (by omega) v cs.length _ hC.own ⟨g, 0, none⟩ 1 k [.bool c.used, .int .i64 c.data, rv] rfl
    (World.news_of_block hb) (by simp [hone]; exact ⟨rfl, rfl⟩) (by unfold maxLen; omega) (by omega) h.le
  have hap : ∀ x ∈ rvs, Apart rv x := fun x hx => by
    unfold Apart
    cases hrv : rv.ownBlock with
    | none => exact .inl rfl
    | some q =>
      refine .inr fun e => ?_
      exact h.apart j i _ _ (Ne.symm hij) hY hX q hrv (.inr ⟨x, hx, e.symm⟩)
  have hnew := hC.push hR hap hown hg (Nat.le_refl _)
  obtain ⟨A', c', rfl, -⟩ := hnew.form
  refine ⟨A', c', w', hrun, ?_⟩
  have hle := Nat.le_trans h.le hg.size
  have hT : Turn (fun q => v.ownBlock = some q) w w' := turn_grown hg fun q e => e
  have hi : i < L.length := (List.getElem?_eq_some_iff.1 hX).1
  -- the new thing's blocks
  have hblk : ∀ q, CellBlocks (.slice A' (cs ++ [c]).length c') (rvs ++ [rv]) q → CellBlocks v rvs q ∨ rv.ownBlock = some q ∨ w.heap.size ≤ q := fun q hq => by
    rcases hq with e | ⟨x, hx, e⟩
    · rcases hat with ha | ha
      · exact .inl (.inl (ha ▸ e))
      · right; right; rw [ha] at e; injection e with e; omega
    · rcases List.mem_append.1 hx with hx | hx
      · exact .inl (.inr ⟨x, hx, e⟩)
      · rw [List.mem_singleton.1 hx] at e; exact .inr (.inl e)
  have hfree : ∀ (a : Nat) (Z : OB), a ≠ i → L[a]? = some Z → ∀ q, Z.blks q → ¬ v.ownBlock = some q := fun a Z ha hZ q hq e => h.apart a i Z _ ha hZ hX q hq (.inl e)
  let f : Nat → Nat := fun a => if a < j then a else a + 1
  have hget : ∀ (a : Nat) (Z : OB), ((L.set i (.cells (.slice A' (cs ++ [c]).length c') (rvs ++ [rv]) (cs ++ [c]))).eraseIdx j)[a]? = some Z → f a ≠ j ∧ ((f a = i ∧ Z = .cells (.slice A' (cs ++ [c]).length c') (rvs ++ [rv]) (cs ++ [c])) ∨ (f a ≠ i ∧ L[f a]? = some Z)) := fun a Z hZ => by
    have hZ' : (L.set i (.cells (.slice A' (cs ++ [c]).length c') (rvs ++ [rv]) (cs ++ [c])))[f a]? = some Z := by
      rw [List.getElem?_eraseIdx] at hZ
      simp only [f]
      split at hZ <;> (rename_i hc; simp only [hc, if_true, if_false]; exact hZ)
    refine ⟨by simp only [f]; split <;> omega, ?_⟩
    rw [List.getElem?_set] at hZ'
    split at hZ'
    · rename_i e
      (try rw [if_pos (by omega)] at hZ')
      injection hZ' with hZ'
      exact .inl ⟨e.symm, hZ'.symm⟩
    · rename_i e
      exact .inr ⟨fun e' => e e'.symm, hZ'⟩
  refine ⟨h.below.grown hg h.le fun q e => (hC.own.lt q e).1, hle, fun a Z hZ => ?_, fun a b Z T hab hZ hT' q hq => ?_⟩
  · obtain ⟨hne, ⟨h1, rfl⟩ | ⟨h1, h2⟩⟩ := hget a Z hZ
    · exact hnew
    · exact (h.holds _ Z h2).keep (fun q hq => hT.block q ((h.holds _ Z h2).lt q hq).2 (hfree _ Z h1 h2 q hq)) hg.size
  · have hfab : f a ≠ f b := fun e => hab (by simp only [f] at e; split at e <;> split at e <;> omega)
    have key : ∀ (a : Nat) (Z : OB), f a ≠ j → f a ≠ i → L[f a]? = some Z → ∀ q, Z.blks q → ¬ CellBlocks (.slice A' (cs ++ [c]).length c') (rvs ++ [rv]) q := fun a Z h1 h2 h3 q hq hc => by
      rcases hblk q hc with hc | hc | hc
      · exact h.apart _ i Z _ h2 h3 hX q hq hc
      · exact h.apart _ j Z _ h1 h3 hY q hq hc
      · have := ((h.holds _ Z h3).lt q hq).2; omega
    obtain ⟨hne, ⟨h1, rfl⟩ | ⟨h1, h2⟩⟩ := hget a Z hZ <;> obtain ⟨hne', ⟨h3, rfl⟩ | ⟨h3, h4⟩⟩ := hget b T hT'
    · omega
    · exact fun ht => key b T hne' h3 h4 q ht hq
    · exact key a Z hne h1 h2 q hq
    · exact h.apart _ _ Z T hfab h2 h4 q hq
theorem wp_pushCO {o : Oper} {a : Act} {K : Act → World → Prop} {Q : Exit → Act → World → Prop} (s x : Operand)
    (hop : o.op = .call { callee := .builtin .append, args := #[s, x], argTypes := #[23, 23] })
    (h : Owns lo w0 w L) (i j : Nat) {v : Value} {rvs : List Value} {cs : List Cel} {rv : Value} {c : Cel} (hX : L[i]? = some (.cells v rvs cs)) (hY : L[j]? = some (.ints rv c.refs)) (hone : rv.oneCell' = true)
    (hs : a.eval s = v) {g k : Nat} (hx : a.eval x = .slice (some ⟨g, 0, none⟩) 1 k) (hb : w.heap[g]? = some (.cells #[.bool c.used, .int .i64 c.data, rv] 61)) (hn : cs.length + 1 ≤ 1099511627776)
    (hK : ∀ A' c' w', Owns lo w0 w' ((L.set i (.cells (.slice A' (cs ++ [c]).length c') (rvs ++ [rv]) (cs ++ [c]))).eraseIdx j) → K (a.put o.dst (.slice A' (cs ++ [c]).length c')) w') : o.wp Try.prog a w K Q := by
  obtain ⟨A', c', w', hrun, hO⟩ := h.pushC i j hX hY hone (k := k) hb hn o.type
  unfold Oper.wp execOp
  simp only [hop, resolve, invoke, builtin, Sem.run_bind, Sem.run_pure, Result.andThen_ok, List.map_toArray, List.map_cons, List.map_nil, hs, hx, hrun]
  exact hK A' c' w' hO
theorem wpList_pushCO {ops : Array Oper} {rest : List Oper} {o : Oper} {a : Act} {Q : Exit → Act → World → Prop} (hgd : o.guard = none) (s x : Operand)
    (hop : o.op = .call { callee := .builtin .append, args := #[s, x], argTypes := #[23, 23] })
    (h : Owns lo w0 w L) (i j : Nat) {v : Value} {rvs : List Value} {cs : List Cel} {rv : Value} {c : Cel} (hX : L[i]? = some (.cells v rvs cs)) (hY : L[j]? = some (.ints rv c.refs)) (hone : rv.oneCell' = true)
    (hs : a.eval s = v) {g k : Nat} (hx : a.eval x = .slice (some ⟨g, 0, none⟩) 1 k) (hb : w.heap[g]? = some (.cells #[.bool c.used, .int .i64 c.data, rv] 61)) (hn : cs.length + 1 ≤ 1099511627776)
    (hK : ∀ A' c' w', Owns lo w0 w' ((L.set i (.cells (.slice A' (cs ++ [c]).length c') (rvs ++ [rv]) (cs ++ [c]))).eraseIdx j) → wpList Try.prog ops Q rest (a.put o.dst (.slice A' (cs ++ [c]).length c')) w') : wpList Try.prog ops Q (o :: rest) a w :=
  wpList_plain hgd fun _ hK' => wp_pushCO s x hop h i j hX hY hone hs hx hb hn fun A' c' w' hO => hK' _ _ (hK A' c' w' hO)
end

/-! ### make at a step of a region that draws its order -/
theorem upon_ok {P : Program} {o : Oper} {a : Act} {K : Act → World → Prop} {Q : Exit → Act → World → Prop} {r : Result Value} {v : Value} {w' : World} (hr : r = .ok v w') (h : K (a.put o.dst v) w') : Oper.upon P o a K Q (r.andThen fun a w' => Result.ok (Next.value a) w') := by
  subst hr
  exact h
theorem run_makeC {lo : Nat} {w0 w : World} {L : List OB} (h : Owns lo w0 w L) (kl kc : IntKind) (n : Nat) (hn : n ≤ 1048577) :
    ∃ w', (Instr.makeSlice 23 (.int kl 0) (.int kc (n : Int))).run Try.prog w = .ok (.slice (some ⟨w.heap.size, 0, none⟩) 0 n) w' ∧ Owns lo w0 w' (.cells (.slice (some ⟨w.heap.size, 0, none⟩) 0 n) [] [] :: L) ∧ Below w.heap.size w w' := by
  obtain ⟨i0, hi, hz0, hz1, hz2⟩ := info_parts Try.infoCell
  obtain ⟨w', hrun, ho, hg⟩ := run_make_own (P := Try.prog) w w.heap.size 23 61 i0 (.agg #[.bool false, .int .i64 0, .slice none 0 0]) 3 Try.underlying23 hi hz0 hz1 kl kc n (by rw [hz2]; omega) (by unfold maxLen; omega) (Nat.le_refl _)
  have hb := grown_below hg
  exact ⟨w', hrun, h.madeC ⟨rfl, ho, fun k e => (ho.lt k e).2, fun i q c e => by simp at e, fun i j a b _ e => by simp at e⟩ hb, hb⟩
theorem upon_makeC {lo : Nat} {w0 w : World} {L : List OB} {o : Oper} {a : Act} {K : Act → World → Prop} {Q : Exit → Act → World → Prop}
    (h : Owns lo w0 w L) (kl kc : IntKind) (C : Int) (n : Nat) (hC : C = (n : Int)) (hn : n ≤ 1048577)
    (hK : ∀ g w', Owns lo w0 w' (.cells (.slice (some ⟨g, 0, none⟩) 0 n) [] [] :: L) → Below w.heap.size w w' → K (a.put o.dst (.slice (some ⟨g, 0, none⟩) 0 n)) w') :
    Oper.upon Try.prog o a K Q ((Sem.run Try.prog (Instr.makeSlice 23 (.int kl 0) (.int kc C)) w).andThen fun a w' => Result.ok (Next.value a) w') := by
  subst hC
  have h1 := run_makeC h kl kc n hn
  generalize (Sem.run Try.prog (Instr.makeSlice 23 (.int kl 0) (.int kc (n : Int))) w) = r at *
  obtain ⟨w', h2, h3, h4⟩ := h1
  exact upon_ok h2 (hK _ w' h3 h4)
/-! ### What a call hands back -/
theorem Owns.toI {w w' : World} {L : List OB} (h : Owns w.heap.size w w' L) (i : Nat) {v : Value} {xs : List Int} (hX : L[i]? = some (.ints v xs)) : MadeI w xs (.returned v) w' := ⟨v, rfl, h.owI i hX, h.below⟩
theorem Owns.toB {w w' : World} {L : List OB} (h : Owns w.heap.size w w' L) (i : Nat) {v : Value} {bs : List Bool} (hX : L[i]? = some (.bools v bs)) : MadeB w bs (.returned v) w' := ⟨v, rfl, h.owB i hX, h.below⟩
theorem Owns.toOwH {lo : Nat} {w0 w' : World} {L : List OB} (h : Owns lo w0 w' L) (i j : Nat) {cv rv : Value} {rvs : List Value} {cs : List Cel} {rs : List Int} (hX : L[i]? = some (.cells cv rvs cs)) (hY : L[j]? = some (.ints rv rs)) : OwH w' lo w'.heap.size (.agg #[cv, rv]) ⟨cs, rs⟩ := by
  have hij : i ≠ j := by
    rintro rfl
    rw [hX] at hY; cases hY
  refine ⟨cv, rvs, rv, rfl, h.owC i hX, h.owI j hY, fun x hx => ?_⟩
  unfold Apart
  cases hrv : rv.ownBlock with
  | none => exact .inl rfl
  | some q => exact .inr fun e => h.apart j i _ _ (Ne.symm hij) hY hX q hrv (.inr ⟨x, hx, e.symm⟩)
theorem Owns.toH {w w' : World} {L : List OB} (h : Owns w.heap.size w w' L) (i j : Nat) {cv rv : Value} {rvs : List Value} {cs : List Cel} {rs : List Int} (hX : L[i]? = some (.cells cv rvs cs)) (hY : L[j]? = some (.ints rv rs)) : MadeH w ⟨cs, rs⟩ (.returned (.agg #[cv, rv])) w' :=
  ⟨_, rfl, h.toOwH i j hX hY, h.below⟩
end Go.Proofs.Ytlhecfpflkioeaa
