/- Plain words for what a slice, a cell and a heap read as, and for slices that a call itself has made. No program is named here; no condition. -/
import Derived.WalkKit
import Derived.ProofKit
import Derived.Deep.QuietTactic
import Derived.BigQuiet
import Derived.Lib.Hide
namespace Go.Proofs.Ytlhecfpflkioeaa
open Go.RowKit

theorem below_alloc (w : World) (o : Obj) : Below w.heap.size w (w.alloc o) := (Below.refl _ _).alloc (Nat.le_refl _) _
theorem below_drewN {B : Nat} {a w : World} (h : Below B a w) (n : Nat) : Below B a (w.drewN n) := ⟨h.os, h.tape, h.output, h.size, h.block⟩
theorem ret_b {a b : Bool} (h : a = b) : Ending.returned (.bool a) = .returned (.bool b) := by rw [h]
theorem ret_i {k : IntKind} {a b : Int} (h : a = b) : Ending.returned (.int k a) = .returned (.int k b) := by rw [h]
theorem lt_of_cell {w : World} {b o : Nat} {v : Value} (h : w.cell? ⟨b, o, none⟩ = some v) : b < w.heap.size := World.block_lt_of_cell? w ⟨b, o, none⟩ h

theorem keepc {B : Nat} {w w' : World} {p : Addr} {v : Value} (h : w.cell? p = some v) (hb : Below B w w') (hp : p.block < B) : w'.cell? p = some v := (hb.cell hp).trans h
theorem keept {w w' : World} {p : Addr} {v : Value} (h : w.cell? p = some v) (hb : Below w.heap.size w w') : w'.cell? p = some v := (hb.cell (World.block_lt_of_cell? w _ h)).trans h
theorem keepd {w w' : World} {p : Addr} {v : Value} (h : w.cell? p = some v) (hb : Below w.drew.heap.size w.drew w') : w'.cell? p = some v := keept (w := w.drew) h hb
/-! ### A slice of one-cell values, below block B -/
structure RdV (w : World) (B : Nat) (A : Option Addr) (n c : Nat) (xs : List Value) : Prop where
  len : n = xs.length
  cap : n ≤ c
  mx : c ≤ maxLen
  rd : 0 < n → ∃ b o, A = some ⟨b, o, none⟩ ∧ b < B ∧ ∀ (j : Nat) (u : Value), xs[j]? = some u → w.cell? ⟨b, o + j, none⟩ = some u
abbrev RdI (w : World) (B : Nat) (A : Option Addr) (n c : Nat) (xs : List Int) : Prop := RdV w B A n c (xs.map (Value.int .i64))
abbrev RdB (w : World) (B : Nat) (A : Option Addr) (n c : Nat) (xs : List Bool) : Prop := RdV w B A n c (xs.map Value.bool)

section
variable {w w' : World} {B B' : Nat} {A : Option Addr} {n c : Nat} {xs : List Value} {is : List Int} {bs : List Bool}
theorem RdV.below (h : RdV w B A n c xs) (hb : Below B w w') : RdV w' B A n c xs :=
  ⟨h.len, h.cap, h.mx, fun hn => by
    obtain ⟨b, o, hA, hlt, hc⟩ := h.rd hn
    exact ⟨b, o, hA, hlt, fun j u hj => (hb.cell (p := ⟨b, o + j, none⟩) hlt).trans (hc j u hj)⟩⟩
theorem RdV.mono (h : RdV w B A n c xs) (hb : B ≤ B') : RdV w B' A n c xs :=
  ⟨h.len, h.cap, h.mx, fun hn => by
    obtain ⟨b, o, hA, hlt, hc⟩ := h.rd hn
    exact ⟨b, o, hA, by omega, hc⟩⟩
theorem RdV.top (h : RdV w B A n c xs) : RdV w w.heap.size A n c xs :=
  ⟨h.len, h.cap, h.mx, fun hn => by
    obtain ⟨b, o, hA, hlt, hc⟩ := h.rd hn
    have hl : 0 < xs.length := by have := h.len; omega
    exact ⟨b, o, hA, lt_of_cell (hc 0 _ (List.getElem?_eq_getElem hl)), hc⟩⟩
theorem RdV.at_ (h : RdV w B A n c xs) {k : Nat} (hk : k < n) : ∃ b o u, A = some ⟨b, o, none⟩ ∧ b < B ∧ Hid (xs[k]? = some u) ∧ w.cell? ⟨b, o + k, none⟩ = some u := by
  obtain ⟨b, o, hA, hlt, hc⟩ := h.rd (by omega)
  have hl : k < xs.length := by have := h.len; omega
  exact ⟨b, o, xs[k], hA, hlt, List.getElem?_eq_getElem hl, hc k _ (List.getElem?_eq_getElem hl)⟩
theorem RdI.at_ (h : RdI w B A n c is) {k : Nat} (hk : k < n) : ∃ b o x, A = some ⟨b, o, none⟩ ∧ b < B ∧ Hid (is[k]? = some x) ∧ w.cell? ⟨b, o + k, none⟩ = some (.int .i64 x) := by
  obtain ⟨b, o, u, hA, hlt, hx, hc⟩ := RdV.at_ h hk
  have hx' := hx.out
  rw [List.getElem?_map] at hx'
  obtain ⟨x, h1, h2⟩ := Option.map_eq_some_iff.1 hx'
  exact ⟨b, o, x, hA, hlt, h1, by rw [hc, ← h2]⟩
theorem RdB.at_ (h : RdB w B A n c bs) {k : Nat} (hk : k < n) : ∃ b o x, A = some ⟨b, o, none⟩ ∧ b < B ∧ Hid (bs[k]? = some x) ∧ w.cell? ⟨b, o + k, none⟩ = some (.bool x) := by
  obtain ⟨b, o, u, hA, hlt, hx, hc⟩ := RdV.at_ h hk
  have hx' := hx.out
  rw [List.getElem?_map] at hx'
  obtain ⟨x, h1, h2⟩ := Option.map_eq_some_iff.1 hx'
  exact ⟨b, o, x, hA, hlt, h1, by rw [hc, ← h2]⟩
theorem RdI.le1 (h : RdI w B A n c is) : n ≤ is.length := by have := h.len; simp at this; omega
theorem RdI.le2 (h : RdI w B A n c is) : is.length ≤ n := by have := h.len; simp at this; omega
theorem RdB.le1 (h : RdB w B A n c bs) : n ≤ bs.length := by have := h.len; simp at this; omega
theorem RdB.le2 (h : RdB w B A n c bs) : bs.length ≤ n := by have := h.len; simp at this; omega
end

theorem zero_le_maxLen : 0 ≤ maxLen := by unfold maxLen; omega
theorem rdV_nil (w : World) (B : Nat) : RdV w B none 0 0 [] := ⟨rfl, Nat.le_refl _, zero_le_maxLen, fun h => absurd h (Nat.lt_irrefl _)⟩
/-! ### Cells and heaps -/
structure Cel where
  used : Bool
  data : Int
  refs : List Int
structure Hp where
  cells : List Cel
  roots : List Int
def noCel : Cel := ⟨false, 0, []⟩

structure RdC (w : World) (B : Nat) (A : Option Addr) (n c : Nat) (cs : List Cel) : Prop where
  len : n = cs.length
  cap : n ≤ c
  mx : c ≤ maxLen
  rd : 0 < n → ∃ b o, A = some ⟨b, o, none⟩ ∧ b < B ∧ ∀ (j : Nat) (l : Cel), cs[j]? = some l →
    w.cell? ⟨b, o + j * 3, none⟩ = some (.bool l.used) ∧ w.cell? ⟨b, o + j * 3 + 1, none⟩ = some (.int .i64 l.data) ∧
    ∃ A' n' c', w.cell? ⟨b, o + j * 3 + 2, none⟩ = some (.slice A' n' c') ∧ RdI w B A' n' c' l.refs
theorem rdC_nil (w : World) (B : Nat) : RdC w B none 0 0 [] := ⟨rfl, Nat.le_refl _, zero_le_maxLen, fun h => absurd h (Nat.lt_irrefl _)⟩
def RdL (w : World) (B : Nat) (v : Value) (c : Cel) : Prop := ∃ A n k, v = .agg #[.bool c.used, .int .i64 c.data, .slice A n k] ∧ RdI w B A n k c.refs
def RdH (w : World) (B : Nat) (v : Value) (h : Hp) : Prop :=
  ∃ A n c A' n' c', v = .agg #[.slice A n c, .slice A' n' c'] ∧ RdC w B A n c h.cells ∧ RdI w B A' n' c' h.roots

section
variable {w w' : World} {B B' : Nat} {A : Option Addr} {n c : Nat} {cs : List Cel} {v : Value} {h : Hp} {l : Cel}
theorem RdC.below (h : RdC w B A n c cs) (hb : Below B w w') : RdC w' B A n c cs :=
  ⟨h.len, h.cap, h.mx, fun hn => by
    obtain ⟨b, o, hA, hlt, hc⟩ := h.rd hn
    refine ⟨b, o, hA, hlt, fun j l hj => ?_⟩
    obtain ⟨h1, h2, A', n', c', h3, h4⟩ := hc j l hj
    exact ⟨(hb.cell (p := ⟨b, _, none⟩) hlt).trans h1, (hb.cell (p := ⟨b, _, none⟩) hlt).trans h2, A', n', c', (hb.cell (p := ⟨b, _, none⟩) hlt).trans h3, h4.below hb⟩⟩
theorem RdC.mono (h : RdC w B A n c cs) (hb : B ≤ B') : RdC w B' A n c cs :=
  ⟨h.len, h.cap, h.mx, fun hn => by
    obtain ⟨b, o, hA, hlt, hc⟩ := h.rd hn
    refine ⟨b, o, hA, by omega, fun j l hj => ?_⟩
    obtain ⟨h1, h2, A', n', c', h3, h4⟩ := hc j l hj
    exact ⟨h1, h2, A', n', c', h3, h4.mono hb⟩⟩
theorem RdC.top (h : RdC w B A n c cs) : RdC w w.heap.size A n c cs :=
  ⟨h.len, h.cap, h.mx, fun hn => by
    obtain ⟨b, o, hA, hlt, hc⟩ := h.rd hn
    have hl : 0 < cs.length := by have := h.len; omega
    refine ⟨b, o, hA, lt_of_cell (hc 0 _ (List.getElem?_eq_getElem hl)).1, fun j l hj => ?_⟩
    obtain ⟨h1, h2, A', n', c', h3, h4⟩ := hc j l hj
    exact ⟨h1, h2, A', n', c', h3, h4.top⟩⟩
theorem RdC.at_ (h : RdC w B A n c cs) {k : Nat} (hk : k < n) : ∃ b o l A' n' c', A = some ⟨b, o, none⟩ ∧ b < B ∧ Hid (cs[k]? = some l) ∧
    w.cell? ⟨b, o + k * 3, none⟩ = some (.bool l.used) ∧ w.cell? ⟨b, o + k * 3 + 1, none⟩ = some (.int .i64 l.data) ∧ w.cell? ⟨b, o + k * 3 + 2, none⟩ = some (.slice A' n' c') ∧ RdI w B A' n' c' l.refs := by
  obtain ⟨b, o, hA, hlt, hc⟩ := h.rd (by omega)
  have hl : k < cs.length := by have := h.len; omega
  obtain ⟨h1, h2, A', n', c', h3, h4⟩ := hc k _ (List.getElem?_eq_getElem hl)
  exact ⟨b, o, cs[k], A', n', c', hA, hlt, List.getElem?_eq_getElem hl, h1, h2, h3, h4⟩
theorem RdC.le1 (h : RdC w B A n c cs) : n ≤ cs.length := by have := h.len; omega
theorem RdC.le2 (h : RdC w B A n c cs) : cs.length ≤ n := by have := h.len; omega
theorem RdH.below (hh : RdH w B v h) (hb : Below B w w') : RdH w' B v h :=
  let ⟨A, n, c, A', n', c', e, h1, h2⟩ := hh
  ⟨A, n, c, A', n', c', e, h1.below hb, h2.below hb⟩
theorem RdH.mono (hh : RdH w B v h) (hb : B ≤ B') : RdH w B' v h :=
  let ⟨A, n, c, A', n', c', e, h1, h2⟩ := hh
  ⟨A, n, c, A', n', c', e, h1.mono hb, h2.mono hb⟩
theorem RdH.top (hh : RdH w B v h) : RdH w w.heap.size v h :=
  let ⟨A, n, c, A', n', c', e, h1, h2⟩ := hh
  ⟨A, n, c, A', n', c', e, h1.top, h2.top⟩
theorem RdL.below (hh : RdL w B v l) (hb : Below B w w') : RdL w' B v l :=
  let ⟨A, n, c, e, h1⟩ := hh
  ⟨A, n, c, e, h1.below hb⟩
theorem RdL.mono (hh : RdL w B v l) (hb : B ≤ B') : RdL w B' v l :=
  let ⟨A, n, c, e, h1⟩ := hh
  ⟨A, n, c, e, h1.mono hb⟩
theorem RdL.top (hh : RdL w B v l) : RdL w w.heap.size v l :=
  let ⟨A, n, c, e, h1⟩ := hh
  ⟨A, n, c, e, h1.top⟩
end

/-! ### A test of every element, a round at a time -/
theorem all_succ {α : Type} {p : α → Bool} {l : List α} {k : Nat} {x : α} (h : (l.take k).all p = true) (hx : Hid (l[k]? = some x)) (hp : p x = true) : (l.take (k + 1)).all p = true := by
  obtain ⟨hk, rfl⟩ := List.getElem?_eq_some_iff.1 hx.out
  rw [List.take_succ_eq_append_getElem hk, List.all_append, h]; simp [hp]
theorem all_end {α : Type} {p : α → Bool} {l : List α} {k : Nat} (h : (l.take k).all p = true) (hk : l.length ≤ k) : l.all p = true := by rwa [List.take_of_length_le hk] at h
theorem all_no {α : Type} {p : α → Bool} {l : List α} {k : Nat} {x : α} (hx : Hid (l[k]? = some x)) (hp : p x = false) : l.all p = false := by
  obtain ⟨hk, rfl⟩ := List.getElem?_eq_some_iff.1 hx.out
  rw [List.all_eq_false]; exact ⟨l[k], List.getElem_mem hk, by simp [hp]⟩

theorem range_all_succ {p : Nat → Bool} {k : Nat} (h : (List.range k).all p = true) (hp : p k = true) : (List.range (k + 1)).all p = true := by
  rw [List.range_succ, List.all_append, h]; simp [hp]
theorem range_all_no {p : Nat → Bool} {k n : Nat} (hk : k < n) (hp : p k = false) : (List.range n).all p = false := by
  rw [List.all_eq_false]; exact ⟨k, List.mem_range.2 hk, by simp [hp]⟩
theorem getD_of {α : Type} {l : List α} {k : Nat} {x d : α} (h : Hid (l[k]? = some x)) : l.getD k d = x := by simp [List.getD, h.out]
/-! ### A struct that lies in a variable of the call's own -/
theorem box2 {w wr : World} {s1 s2 : Value} {t : TypeId} (hb : Below (w.heap.size + 1) (w.alloc (.cells #[s1, s2] t)) wr) :
    wr.cell? ⟨w.heap.size, 0, none⟩ = some s1 ∧ wr.cell? ⟨w.heap.size, 1, none⟩ = some s2 ∧ Below w.heap.size w wr ∧ w.heap.size < wr.heap.size := by
  refine ⟨(hb.cell (p := ⟨_, 0, none⟩) (Nat.lt_succ_self _)).trans ?_, (hb.cell (p := ⟨_, 1, none⟩) (Nat.lt_succ_self _)).trans ?_, (below_alloc _ _).trans (hb.mono (by omega)), ?_⟩
  · simp
  · simp
  · have := hb.size; simp at this; omega

theorem box22 {w wr : World} {s1 s2 s3 s4 : Value} {t t' : TypeId} (hb : Below (w.heap.size + 2) ((w.alloc (.cells #[s1, s2] t)).alloc (.cells #[s3, s4] t')) wr) :
    wr.cell? ⟨w.heap.size, 0, none⟩ = some s1 ∧ wr.cell? ⟨w.heap.size, 1, none⟩ = some s2 ∧ wr.cell? ⟨w.heap.size + 1, 0, none⟩ = some s3 ∧ wr.cell? ⟨w.heap.size + 1, 1, none⟩ = some s4 ∧ Below w.heap.size w wr ∧ w.heap.size + 1 < wr.heap.size := by
  refine ⟨(hb.cell (p := ⟨_, 0, none⟩) (by simp)).trans ?_, (hb.cell (p := ⟨_, 1, none⟩) (by simp)).trans ?_, (hb.cell (p := ⟨_, 0, none⟩) (by simp)).trans ?_, (hb.cell (p := ⟨_, 1, none⟩) (by simp)).trans ?_, ((below_alloc _ _).alloc (by simp) _).trans (hb.mono (by omega)), ?_⟩
  · simp
  · simp
  · simp
  · simp
  · have := hb.size; simp at this; omega
theorem heap1 (w : World) (a : Obj) : (w.alloc a).heap[w.heap.size]? = some a := heap_alloc_new w a
theorem heap2 (w : World) (a b : Obj) : ((w.alloc a).alloc b).heap[w.heap.size]? = some a ∧ ((w.alloc a).alloc b).heap[w.heap.size + 1]? = some b := by
  refine ⟨?_, ?_⟩
  · rw [Below.heap_alloc _ _ _ (by simp)]; exact heap1 w a
  · have := heap1 (w.alloc a) b; simpa using this
theorem heap3 (w : World) (a b c : Obj) : (((w.alloc a).alloc b).alloc c).heap[w.heap.size]? = some a ∧ (((w.alloc a).alloc b).alloc c).heap[w.heap.size + 1]? = some b ∧ (((w.alloc a).alloc b).alloc c).heap[w.heap.size + 1 + 1]? = some c := by
  obtain ⟨h1, h2⟩ := heap2 w a b
  refine ⟨?_, ?_, ?_⟩
  · rw [Below.heap_alloc _ _ _ (by simp <;> omega)]; exact h1
  · rw [Below.heap_alloc _ _ _ (by simp)]; exact h2
  · have := heap1 ((w.alloc a).alloc b) c; simpa using this
theorem blk2 {w : World} {g : Nat} {t : TypeId} {a b : Value} (h : w.heap[g]? = some (.cells #[a, b] t (0, 0))) :
    w.cell? ⟨g, 0, none⟩ = some a ∧ w.cell? ⟨g, 1, none⟩ = some b ∧ w.frozen? ⟨g, 0, none⟩ = false ∧ w.frozen? ⟨g, 1, none⟩ = false := by
  simp [World.cell?, World.frozen?, h]
theorem blk3 {w : World} {g : Nat} {t : TypeId} {a b c : Value} (h : w.heap[g]? = some (.cells #[a, b, c] t (0, 0))) :
    w.cell? ⟨g, 0, none⟩ = some a ∧ w.cell? ⟨g, 1, none⟩ = some b ∧ w.cell? ⟨g, 2, none⟩ = some c ∧ w.frozen? ⟨g, 0, none⟩ = false ∧ w.frozen? ⟨g, 1, none⟩ = false ∧ w.frozen? ⟨g, 2, none⟩ = false := by
  simp [World.cell?, World.frozen?, h]
theorem set2a {w : World} {g : Nat} {t : TypeId} {a b : Value} (u : Value) (h : w.heap[g]? = some (.cells #[a, b] t (0, 0))) : (w.setCell ⟨g, 0, none⟩ u).heap[g]? = some (.cells #[u, b] t (0, 0)) := heap_setCell_same w g 0 #[a, b] t u h
theorem set2b {w : World} {g : Nat} {t : TypeId} {a b : Value} (u : Value) (h : w.heap[g]? = some (.cells #[a, b] t (0, 0))) : (w.setCell ⟨g, 1, none⟩ u).heap[g]? = some (.cells #[a, u] t (0, 0)) := heap_setCell_same w g 1 #[a, b] t u h
theorem set3c {w : World} {g : Nat} {t : TypeId} {a b c : Value} (u : Value) (h : w.heap[g]? = some (.cells #[a, b, c] t (0, 0))) : (w.setCell ⟨g, 2, none⟩ u).heap[g]? = some (.cells #[a, b, u] t (0, 0)) := heap_setCell_same w g 2 #[a, b, c] t u h
theorem set_far {w : World} {g : Nat} {o : Obj} {p : Addr} (u : Value) (h : w.heap[g]? = some o) (hp : g ≠ p.block) : (w.setCell p u).heap[g]? = some o := (Below.heap_setCell w p u g hp).trans h
/-! ### Slices of the call's own -/
/-- Only blocks from lo on below hi may have turned; what came later is left open. -/
structure Only (lo hi : Nat) (w w' : World) : Prop where
  os : w'.os = w.os
  tape : w'.tape = w.tape
  output : w'.output = w.output
  size : w.heap.size ≤ w'.heap.size
  block : ∀ k, k < w.heap.size → (k < lo ∨ hi ≤ k) → w'.heap[k]? = w.heap[k]?

/-! ### The plain functions -/
def leadsB (cs : List Cel) (r : Int) : Bool := r == -1 || (decide (0 ≤ r) && decide (r < cs.length) && (cs.getD r.toNat noCel).used)
def cellOk (cs : List Cel) (c : Cel) : Bool :=
  if c.used then c.refs.all (leadsB cs) && (decide (0 ≤ c.data) && decide (c.data ≤ 99) && decide (c.refs.length ≤ 3)) else c.data == 0 && decide (c.refs.length = 0)
def heapOk (h : Hp) : Bool := decide (h.cells.length ≤ 40) && decide (h.roots.length = 4) && h.cells.all (cellOk h.cells) && h.roots.all (leadsB h.cells)
def szI (n : Nat) (l : Int) : Int := if (n : Int) ≤ l then l - n else -1
def cellsBulk (cs : List Cel) : Nat := (cs.map fun c => c.refs.length).sum + cs.length
theorem szI_add (a b : Nat) (l : Int) (_ : (a : Int) ≤ l) : szI b (l - a) = szI (a + b) l := by unfold szI; split <;> split <;> omega
theorem szI_no {n : Nat} {l : Int} (h : l < n) : szI n l = -1 := by unfold szI; rw [if_neg (by omega)]
theorem szI_yes {n : Nat} {l : Int} (h : (n : Int) ≤ l) : szI n l = l - n := by unfold szI; rw [if_pos h]
end Go.Proofs.Ytlhecfpflkioeaa
