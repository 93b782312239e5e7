/- Several texts in one: Base, Own, To, App, Lex, Lew, Mk, Cp, St, Tre, Hd, Mh, Open. Each says ahead of its part what it proves. No condition but those. -/
import Derived.WalkKit
import Derived.ProofKit
import Derived.Deep.QuietTactic
import Derived.BigQuiet
import Derived.Lib.Hide
import Derived.Test.YtdkpfggfkhnjfaaChecked
import Derived.Deep.AppendLies
import Derived.Deep.RegionHeld3
import Derived.Deep.Upon
import Derived.Test.YtdkpfggfkhnjfaaRows
import Derived.Deep.Slices
import Derived.Deep.Fields
import Derived.ChangeSame
import Derived.OpenShut
import Derived.Lib.SmallJoins
/- Plain words for what a slice, a cell and a heap read as, and for slices that a call itself has made. No program is named here; no condition. -/
namespace Go.Proofs.Ytdkpfggfkhnjfaa
open Go.RowKit

theorem below_alloc (w : World) (o : Obj) : Below w.heap.size w (w.alloc o) := (Below.refl _ _).alloc (Nat.le_refl _) _
theorem below_drewN {B : Nat} {a w : World} (h : Below B a w) (n : Nat) : Below B a (w.drewN n) := ⟨h.os, h.tape, h.output, h.size, h.block⟩
theorem ret_b {a b : Bool} (h : a = b) : Ending.returned (.bool a) = .returned (.bool b) := by rw [h]
theorem ret_i {k : IntKind} {a b : Int} (h : a = b) : Ending.returned (.int k a) = .returned (.int k b) := by rw [h]
theorem lt_of_cell {w : World} {b o : Nat} {v : Value} (h : w.cell? ⟨b, o, none⟩ = some v) : b < w.heap.size := World.block_lt_of_cell? w ⟨b, o, none⟩ h

theorem keepc {B : Nat} {w w' : World} {p : Addr} {v : Value} (h : w.cell? p = some v) (hb : Below B w w') (hp : p.block < B) : w'.cell? p = some v := (hb.cell hp).trans h
theorem keept {w w' : World} {p : Addr} {v : Value} (h : w.cell? p = some v) (hb : Below w.heap.size w w') : w'.cell? p = some v := (hb.cell (World.block_lt_of_cell? w _ h)).trans h
theorem keepd {w w' : World} {p : Addr} {v : Value} (h : w.cell? p = some v) (hb : Below w.drew.heap.size w.drew w') : w'.cell? p = some v := keept (w := w.drew) h hb
/-! ### A slice of one-cell values, below block B -/
structure RdV (w : World) (B : Nat) (A : Option Addr) (n c : Nat) (xs : List Value) : Prop where
  len : n = xs.length
  cap : n ≤ c
  mx : c ≤ maxLen
  rd : 0 < n → ∃ b o, A = some ⟨b, o, none⟩ ∧ b < B ∧ ∀ (j : Nat) (u : Value), xs[j]? = some u → w.cell? ⟨b, o + j, none⟩ = some u
abbrev RdI (w : World) (B : Nat) (A : Option Addr) (n c : Nat) (xs : List Int) : Prop := RdV w B A n c (xs.map (Value.int .i64))
abbrev RdB (w : World) (B : Nat) (A : Option Addr) (n c : Nat) (xs : List Bool) : Prop := RdV w B A n c (xs.map Value.bool)

section
variable {w w' : World} {B B' : Nat} {A : Option Addr} {n c : Nat} {xs : List Value} {is : List Int} {bs : List Bool}
theorem RdV.below (h : RdV w B A n c xs) (hb : Below B w w') : RdV w' B A n c xs :=
  ⟨h.len, h.cap, h.mx, fun hn => by
    obtain ⟨b, o, hA, hlt, hc⟩ := h.rd hn
    exact ⟨b, o, hA, hlt, fun j u hj => (hb.cell (p := ⟨b, o + j, none⟩) hlt).trans (hc j u hj)⟩⟩
theorem RdV.mono (h : RdV w B A n c xs) (hb : B ≤ B') : RdV w B' A n c xs :=
  ⟨h.len, h.cap, h.mx, fun hn => by
    obtain ⟨b, o, hA, hlt, hc⟩ := h.rd hn
    exact ⟨b, o, hA, by omega, hc⟩⟩
theorem RdV.top (h : RdV w B A n c xs) : RdV w w.heap.size A n c xs :=
  ⟨h.len, h.cap, h.mx, fun hn => by
    obtain ⟨b, o, hA, hlt, hc⟩ := h.rd hn
    have hl : 0 < xs.length := by have := h.len; omega
    exact ⟨b, o, hA, lt_of_cell (hc 0 _ (List.getElem?_eq_getElem hl)), hc⟩⟩
theorem RdV.at_ (h : RdV w B A n c xs) {k : Nat} (hk : k < n) : ∃ b o u, A = some ⟨b, o, none⟩ ∧ b < B ∧ Hid (xs[k]? = some u) ∧ w.cell? ⟨b, o + k, none⟩ = some u := by
  obtain ⟨b, o, hA, hlt, hc⟩ := h.rd (by omega)
  have hl : k < xs.length := by have := h.len; omega
  exact ⟨b, o, xs[k], hA, hlt, List.getElem?_eq_getElem hl, hc k _ (List.getElem?_eq_getElem hl)⟩
theorem RdI.at_ (h : RdI w B A n c is) {k : Nat} (hk : k < n) : ∃ b o x, A = some ⟨b, o, none⟩ ∧ b < B ∧ Hid (is[k]? = some x) ∧ w.cell? ⟨b, o + k, none⟩ = some (.int .i64 x) := by
  obtain ⟨b, o, u, hA, hlt, hx, hc⟩ := RdV.at_ h hk
  have hx' := hx.out
  rw [List.getElem?_map] at hx'
  obtain ⟨x, h1, h2⟩ := Option.map_eq_some_iff.1 hx'
  exact ⟨b, o, x, hA, hlt, h1, by rw [hc, ← h2]⟩
theorem RdB.at_ (h : RdB w B A n c bs) {k : Nat} (hk : k < n) : ∃ b o x, A = some ⟨b, o, none⟩ ∧ b < B ∧ Hid (bs[k]? = some x) ∧ w.cell? ⟨b, o + k, none⟩ = some (.bool x) := by
  obtain ⟨b, o, u, hA, hlt, hx, hc⟩ := RdV.at_ h hk
  have hx' := hx.out
  rw [List.getElem?_map] at hx'
  obtain ⟨x, h1, h2⟩ := Option.map_eq_some_iff.1 hx'
  exact ⟨b, o, x, hA, hlt, h1, by rw [hc, ← h2]⟩
theorem RdI.le1 (h : RdI w B A n c is) : n ≤ is.length := by have := h.len; simp at this; omega
theorem RdI.le2 (h : RdI w B A n c is) : is.length ≤ n := by have := h.len; simp at this; omega
theorem RdB.le1 (h : RdB w B A n c bs) : n ≤ bs.length := by have := h.len; simp at this; omega
theorem RdB.le2 (h : RdB w B A n c bs) : bs.length ≤ n := by have := h.len; simp at this; omega
end

theorem zero_le_maxLen : 0 ≤ maxLen := by unfold maxLen; omega
theorem rdV_nil (w : World) (B : Nat) : RdV w B none 0 0 [] := ⟨rfl, Nat.le_refl _, zero_le_maxLen, fun h => absurd h (Nat.lt_irrefl _)⟩
/-! ### Cells and heaps -/
structure Cel where
  used : Bool
  data : Int
  refs : List Int
structure Hp where
  cells : List Cel
  roots : List Int
def noCel : Cel := ⟨false, 0, []⟩

structure RdC (w : World) (B : Nat) (A : Option Addr) (n c : Nat) (cs : List Cel) : Prop where
  len : n = cs.length
  cap : n ≤ c
  mx : c ≤ maxLen
  rd : 0 < n → ∃ b o, A = some ⟨b, o, none⟩ ∧ b < B ∧ ∀ (j : Nat) (l : Cel), cs[j]? = some l →
    w.cell? ⟨b, o + j * 3, none⟩ = some (.bool l.used) ∧ w.cell? ⟨b, o + j * 3 + 1, none⟩ = some (.int .i64 l.data) ∧
    ∃ A' n' c', w.cell? ⟨b, o + j * 3 + 2, none⟩ = some (.slice A' n' c') ∧ RdI w B A' n' c' l.refs
theorem rdC_nil (w : World) (B : Nat) : RdC w B none 0 0 [] := ⟨rfl, Nat.le_refl _, zero_le_maxLen, fun h => absurd h (Nat.lt_irrefl _)⟩
def RdL (w : World) (B : Nat) (v : Value) (c : Cel) : Prop := ∃ A n k, v = .agg #[.bool c.used, .int .i64 c.data, .slice A n k] ∧ RdI w B A n k c.refs
def RdH (w : World) (B : Nat) (v : Value) (h : Hp) : Prop :=
  ∃ A n c A' n' c', v = .agg #[.slice A n c, .slice A' n' c'] ∧ RdC w B A n c h.cells ∧ RdI w B A' n' c' h.roots

section
variable {w w' : World} {B B' : Nat} {A : Option Addr} {n c : Nat} {cs : List Cel} {v : Value} {h : Hp} {l : Cel}
theorem RdC.below (h : RdC w B A n c cs) (hb : Below B w w') : RdC w' B A n c cs :=
  ⟨h.len, h.cap, h.mx, fun hn => by
    obtain ⟨b, o, hA, hlt, hc⟩ := h.rd hn
    refine ⟨b, o, hA, hlt, fun j l hj => ?_⟩
    obtain ⟨h1, h2, A', n', c', h3, h4⟩ := hc j l hj
    exact ⟨(hb.cell (p := ⟨b, _, none⟩) hlt).trans h1, (hb.cell (p := ⟨b, _, none⟩) hlt).trans h2, A', n', c', (hb.cell (p := ⟨b, _, none⟩) hlt).trans h3, h4.below hb⟩⟩
theorem RdC.mono (h : RdC w B A n c cs) (hb : B ≤ B') : RdC w B' A n c cs :=
  ⟨h.len, h.cap, h.mx, fun hn => by
    obtain ⟨b, o, hA, hlt, hc⟩ := h.rd hn
    refine ⟨b, o, hA, by omega, fun j l hj => ?_⟩
    obtain ⟨h1, h2, A', n', c', h3, h4⟩ := hc j l hj
    exact ⟨h1, h2, A', n', c', h3, h4.mono hb⟩⟩
theorem RdC.top (h : RdC w B A n c cs) : RdC w w.heap.size A n c cs :=
  ⟨h.len, h.cap, h.mx, fun hn => by
    obtain ⟨b, o, hA, hlt, hc⟩ := h.rd hn
    have hl : 0 < cs.length := by have := h.len; omega
    refine ⟨b, o, hA, lt_of_cell (hc 0 _ (List.getElem?_eq_getElem hl)).1, fun j l hj => ?_⟩
    obtain ⟨h1, h2, A', n', c', h3, h4⟩ := hc j l hj
    exact ⟨h1, h2, A', n', c', h3, h4.top⟩⟩
theorem RdC.at_ (h : RdC w B A n c cs) {k : Nat} (hk : k < n) : ∃ b o l A' n' c', A = some ⟨b, o, none⟩ ∧ b < B ∧ Hid (cs[k]? = some l) ∧
    w.cell? ⟨b, o + k * 3, none⟩ = some (.bool l.used) ∧ w.cell? ⟨b, o + k * 3 + 1, none⟩ = some (.int .i64 l.data) ∧ w.cell? ⟨b, o + k * 3 + 2, none⟩ = some (.slice A' n' c') ∧ RdI w B A' n' c' l.refs := by
  obtain ⟨b, o, hA, hlt, hc⟩ := h.rd (by omega)
  have hl : k < cs.length := by have := h.len; omega
  obtain ⟨h1, h2, A', n', c', h3, h4⟩ := hc k _ (List.getElem?_eq_getElem hl)
  exact ⟨b, o, cs[k], A', n', c', hA, hlt, List.getElem?_eq_getElem hl, h1, h2, h3, h4⟩
theorem RdC.le1 (h : RdC w B A n c cs) : n ≤ cs.length := by have := h.len; omega
theorem RdC.le2 (h : RdC w B A n c cs) : cs.length ≤ n := by have := h.len; omega
theorem RdH.below (hh : RdH w B v h) (hb : Below B w w') : RdH w' B v h :=
  let ⟨A, n, c, A', n', c', e, h1, h2⟩ := hh
  ⟨A, n, c, A', n', c', e, h1.below hb, h2.below hb⟩
theorem RdH.mono (hh : RdH w B v h) (hb : B ≤ B') : RdH w B' v h :=
  let ⟨A, n, c, A', n', c', e, h1, h2⟩ := hh
  ⟨A, n, c, A', n', c', e, h1.mono hb, h2.mono hb⟩
theorem RdH.top (hh : RdH w B v h) : RdH w w.heap.size v h :=
  let ⟨A, n, c, A', n', c', e, h1, h2⟩ := hh
  ⟨A, n, c, A', n', c', e, h1.top, h2.top⟩
theorem RdL.below (hh : RdL w B v l) (hb : Below B w w') : RdL w' B v l :=
  let ⟨A, n, c, e, h1⟩ := hh
  ⟨A, n, c, e, h1.below hb⟩
theorem RdL.mono (hh : RdL w B v l) (hb : B ≤ B') : RdL w B' v l :=
  let ⟨A, n, c, e, h1⟩ := hh
  ⟨A, n, c, e, h1.mono hb⟩
theorem RdL.top (hh : RdL w B v l) : RdL w w.heap.size v l :=
  let ⟨A, n, c, e, h1⟩ := hh
  ⟨A, n, c, e, h1.top⟩
end

/-! ### A test of every element, a round at a time -/
theorem all_succ {α : Type} {p : α → Bool} {l : List α} {k : Nat} {x : α} (h : (l.take k).all p = true) (hx : Hid (l[k]? = some x)) (hp : p x = true) : (l.take (k + 1)).all p = true := by
  obtain ⟨hk, rfl⟩ := List.getElem?_eq_some_iff.1 hx.out
  rw [List.take_succ_eq_append_getElem hk, List.all_append, h]; simp [hp]
theorem all_end {α : Type} {p : α → Bool} {l : List α} {k : Nat} (h : (l.take k).all p = true) (hk : l.length ≤ k) : l.all p = true := by rwa [List.take_of_length_le hk] at h
theorem all_no {α : Type} {p : α → Bool} {l : List α} {k : Nat} {x : α} (hx : Hid (l[k]? = some x)) (hp : p x = false) : l.all p = false := by
  obtain ⟨hk, rfl⟩ := List.getElem?_eq_some_iff.1 hx.out
  rw [List.all_eq_false]; exact ⟨l[k], List.getElem_mem hk, by simp [hp]⟩

theorem range_all_succ {p : Nat → Bool} {k : Nat} (h : (List.range k).all p = true) (hp : p k = true) : (List.range (k + 1)).all p = true := by
  rw [List.range_succ, List.all_append, h]; simp [hp]
theorem range_all_no {p : Nat → Bool} {k n : Nat} (hk : k < n) (hp : p k = false) : (List.range n).all p = false := by
  rw [List.all_eq_false]; exact ⟨k, List.mem_range.2 hk, by simp [hp]⟩
theorem getD_of {α : Type} {l : List α} {k : Nat} {x d : α} (h : Hid (l[k]? = some x)) : l.getD k d = x := by simp [List.getD, h.out]
/-! ### A struct that lies in a variable of the call's own -/
theorem box2 {w wr : World} {s1 s2 : Value} {t : TypeId} (hb : Below (w.heap.size + 1) (w.alloc (.cells #[s1, s2] t)) wr) :
    wr.cell? ⟨w.heap.size, 0, none⟩ = some s1 ∧ wr.cell? ⟨w.heap.size, 1, none⟩ = some s2 ∧ Below w.heap.size w wr ∧ w.heap.size < wr.heap.size := by
  refine ⟨(hb.cell (p := ⟨_, 0, none⟩) (Nat.lt_succ_self _)).trans ?_, (hb.cell (p := ⟨_, 1, none⟩) (Nat.lt_succ_self _)).trans ?_, (below_alloc _ _).trans (hb.mono (by omega)), ?_⟩
  · simp
  · simp
  · have := hb.size; simp at this; omega

theorem box22 {w wr : World} {s1 s2 s3 s4 : Value} {t t' : TypeId} (hb : Below (w.heap.size + 2) ((w.alloc (.cells #[s1, s2] t)).alloc (.cells #[s3, s4] t')) wr) :
    wr.cell? ⟨w.heap.size, 0, none⟩ = some s1 ∧ wr.cell? ⟨w.heap.size, 1, none⟩ = some s2 ∧ wr.cell? ⟨w.heap.size + 1, 0, none⟩ = some s3 ∧ wr.cell? ⟨w.heap.size + 1, 1, none⟩ = some s4 ∧ Below w.heap.size w wr ∧ w.heap.size + 1 < wr.heap.size := by
  refine ⟨(hb.cell (p := ⟨_, 0, none⟩) (by simp)).trans ?_, (hb.cell (p := ⟨_, 1, none⟩) (by simp)).trans ?_, (hb.cell (p := ⟨_, 0, none⟩) (by simp)).trans ?_, (hb.cell (p := ⟨_, 1, none⟩) (by simp)).trans ?_, ((below_alloc _ _).alloc (by simp) _).trans (hb.mono (by omega)), ?_⟩
  · simp
  · simp
  · simp
  · simp
  · have := hb.size; simp at this; omega
theorem heap1 (w : World) (a : Obj) : (w.alloc a).heap[w.heap.size]? = some a := heap_alloc_new w a
theorem heap2 (w : World) (a b : Obj) : ((w.alloc a).alloc b).heap[w.heap.size]? = some a ∧ ((w.alloc a).alloc b).heap[w.heap.size + 1]? = some b := by
  refine ⟨?_, ?_⟩
  · rw [Below.heap_alloc _ _ _ (by simp)]; exact heap1 w a
  · have := heap1 (w.alloc a) b; simpa using this
theorem heap3 (w : World) (a b c : Obj) : (((w.alloc a).alloc b).alloc c).heap[w.heap.size]? = some a ∧ (((w.alloc a).alloc b).alloc c).heap[w.heap.size + 1]? = some b ∧ (((w.alloc a).alloc b).alloc c).heap[w.heap.size + 1 + 1]? = some c := by
  obtain ⟨h1, h2⟩ := heap2 w a b
  refine ⟨?_, ?_, ?_⟩
  · rw [Below.heap_alloc _ _ _ (by simp <;> omega)]; exact h1
  · rw [Below.heap_alloc _ _ _ (by simp)]; exact h2
  · have := heap1 ((w.alloc a).alloc b) c; simpa using this
theorem blk2 {w : World} {g : Nat} {t : TypeId} {a b : Value} (h : w.heap[g]? = some (.cells #[a, b] t (0, 0))) :
    w.cell? ⟨g, 0, none⟩ = some a ∧ w.cell? ⟨g, 1, none⟩ = some b ∧ w.frozen? ⟨g, 0, none⟩ = false ∧ w.frozen? ⟨g, 1, none⟩ = false := by
  simp [World.cell?, World.frozen?, h]
theorem blk3 {w : World} {g : Nat} {t : TypeId} {a b c : Value} (h : w.heap[g]? = some (.cells #[a, b, c] t (0, 0))) :
    w.cell? ⟨g, 0, none⟩ = some a ∧ w.cell? ⟨g, 1, none⟩ = some b ∧ w.cell? ⟨g, 2, none⟩ = some c ∧ w.frozen? ⟨g, 0, none⟩ = false ∧ w.frozen? ⟨g, 1, none⟩ = false ∧ w.frozen? ⟨g, 2, none⟩ = false := by
  simp [World.cell?, World.frozen?, h]
theorem set2a {w : World} {g : Nat} {t : TypeId} {a b : Value} (u : Value) (h : w.heap[g]? = some (.cells #[a, b] t (0, 0))) : (w.setCell ⟨g, 0, none⟩ u).heap[g]? = some (.cells #[u, b] t (0, 0)) := heap_setCell_same w g 0 #[a, b] t u h
theorem set2b {w : World} {g : Nat} {t : TypeId} {a b : Value} (u : Value) (h : w.heap[g]? = some (.cells #[a, b] t (0, 0))) : (w.setCell ⟨g, 1, none⟩ u).heap[g]? = some (.cells #[a, u] t (0, 0)) := heap_setCell_same w g 1 #[a, b] t u h
theorem set3c {w : World} {g : Nat} {t : TypeId} {a b c : Value} (u : Value) (h : w.heap[g]? = some (.cells #[a, b, c] t (0, 0))) : (w.setCell ⟨g, 2, none⟩ u).heap[g]? = some (.cells #[a, b, u] t (0, 0)) := heap_setCell_same w g 2 #[a, b, c] t u h
theorem set_far {w : World} {g : Nat} {o : Obj} {p : Addr} (u : Value) (h : w.heap[g]? = some o) (hp : g ≠ p.block) : (w.setCell p u).heap[g]? = some o := (Below.heap_setCell w p u g hp).trans h
/-! ### Slices of the call's own -/
/-- Only blocks from lo on below hi may have turned; what came later is left open. -/
structure Only (lo hi : Nat) (w w' : World) : Prop where
  os : w'.os = w.os
  tape : w'.tape = w.tape
  output : w'.output = w.output
  size : w.heap.size ≤ w'.heap.size
  block : ∀ k, k < w.heap.size → (k < lo ∨ hi ≤ k) → w'.heap[k]? = w.heap[k]?

/-! ### The plain functions -/
def leadsB (cs : List Cel) (r : Int) : Bool := r == -1 || (decide (0 ≤ r) && decide (r < cs.length) && (cs.getD r.toNat noCel).used)
def cellOk (cs : List Cel) (c : Cel) : Bool :=
  if c.used then c.refs.all (leadsB cs) && (decide (0 ≤ c.data) && decide (c.data ≤ 99) && decide (c.refs.length ≤ 3)) else c.data == 0 && decide (c.refs.length = 0)
def heapOk (h : Hp) : Bool := decide (h.cells.length ≤ 40) && decide (h.roots.length = 4) && h.cells.all (cellOk h.cells) && h.roots.all (leadsB h.cells)
def szI (n : Nat) (l : Int) : Int := if (n : Int) ≤ l then l - n else -1
def cellsBulk (cs : List Cel) : Nat := (cs.map fun c => c.refs.length).sum + cs.length
theorem szI_add (a b : Nat) (l : Int) (_ : (a : Int) ≤ l) : szI b (l - a) = szI (a + b) l := by unfold szI; split <;> split <;> omega
theorem szI_no {n : Nat} {l : Int} (h : l < n) : szI n l = -1 := by unfold szI; rw [if_neg (by omega)]
theorem szI_yes {n : Nat} {l : Int} (h : (n : Int) ≤ l) : szI n l = l - n := by unfold szI; rw [if_pos h]
end Go.Proofs.Ytdkpfggfkhnjfaa

/- Slices, cells and heaps that lie in memory of the call's own: what they own, that they read, and that they stay while other blocks turn. No condition. -/
namespace Go.Proofs.Ytdkpfggfkhnjfaa
open Go.RowKit

/-- v is a slice of the ints xs that owns its block, which lies from lo on below hi. -/
structure OwI (w : World) (lo hi : Nat) (v : Value) (xs : List Int) : Prop where
  own : w.ownsRow lo 3 1 v xs.length (xs.map (Value.int .i64))
  lt : ∀ k, v.ownBlock = some k → k < hi
structure OwB (w : World) (lo hi : Nat) (v : Value) (xs : List Bool) : Prop where
  own : w.ownsRow lo 4 1 v xs.length (xs.map Value.bool)
  lt : ∀ k, v.ownBlock = some k → k < hi

def cellVals : List Cel → List Value → List Value
  | c :: cs, rv :: rvs => .bool c.used :: .int .i64 c.data :: rv :: cellVals cs rvs
  | _, _ => []
def Apart (a b : Value) : Prop := a.ownBlock = none ∨ a.ownBlock ≠ b.ownBlock

structure OwC (w : World) (lo hi : Nat) (v : Value) (rvs : List Value) (cs : List Cel) : Prop where
  same : rvs.length = cs.length
  own : w.ownsRow lo 49 3 v cs.length (cellVals cs rvs)
  lt : ∀ k, v.ownBlock = some k → k < hi
  refs : ∀ (i : Nat) (rv : Value) (c : Cel), rvs[i]? = some rv → cs[i]? = some c → OwI w lo hi rv c.refs
  apart : ∀ (i j : Nat) (a b : Value), i ≠ j → rvs[i]? = some a → rvs[j]? = some b → Apart a b

/-- v is a heap whose slices all lie in blocks of their own. -/
def OwH (w : World) (lo hi : Nat) (v : Value) (h : Hp) : Prop :=
  ∃ cv rvs rv, v = .agg #[cv, rv] ∧ OwC w lo hi cv rvs h.cells ∧ OwI w lo hi rv h.roots ∧ ∀ x ∈ rvs, Apart rv x

section
variable {w w' : World} {lo hi lo' hi' : Nat} {v : Value} {rvs : List Value} {xs : List Int} {bs : List Bool} {cs : List Cel} {h : Hp}
theorem own_keep {e : TypeId} {size n : Nat} {ys : List Value} (ho : w.ownsRow lo e size v n ys) (hk : ∀ k, v.ownBlock = some k → w'.heap[k]? = w.heap[k]?) : w'.ownsRow lo e size v n ys := by
  refine ⟨ho.1, ?_⟩
  rcases ho.2 with h | ⟨g, cap, cur, rfl, hb, hg, r⟩
  · exact .inl h
  · exact .inr ⟨g, cap, cur, rfl, hb, (hk g rfl).trans hg, r⟩
theorem own_lo {e : TypeId} {size n : Nat} {ys : List Value} (ho : w.ownsRow lo e size v n ys) (h : lo' ≤ lo) : w.ownsRow lo' e size v n ys := by
  refine ⟨ho.1, ?_⟩
  rcases ho.2 with h1 | ⟨g, cap, cur, rfl, hb, r⟩
  · exact .inl h1
  · exact .inr ⟨g, cap, cur, rfl, by omega, r⟩
theorem OwI.keep (ho : OwI w lo hi v xs) (hk : ∀ k, lo ≤ k → k < hi → w'.heap[k]? = w.heap[k]?) : OwI w' lo hi v xs :=
  ⟨own_keep ho.own fun k e => hk k (ho.own.lt k e).1 (ho.lt k e), ho.lt⟩
theorem OwI.keep1 (ho : OwI w lo hi v xs) (hk : ∀ k, v.ownBlock = some k → w'.heap[k]? = w.heap[k]?) : OwI w' lo hi v xs := ⟨own_keep ho.own hk, ho.lt⟩
theorem OwI.below (ho : OwI w lo hi v xs) {B : Nat} (hb : Below B w w') (hB : hi ≤ B) : OwI w' lo hi v xs := ho.keep fun k _ h => hb.block k (by omega)
theorem OwI.wide (ho : OwI w lo hi v xs) (h1 : lo' ≤ lo) (h2 : hi ≤ hi') : OwI w lo' hi' v xs := ⟨own_lo ho.own h1, fun k e => by have := ho.lt k e; omega⟩
theorem OwB.keep (ho : OwB w lo hi v bs) (hk : ∀ k, lo ≤ k → k < hi → w'.heap[k]? = w.heap[k]?) : OwB w' lo hi v bs :=
  ⟨own_keep ho.own fun k e => hk k (ho.own.lt k e).1 (ho.lt k e), ho.lt⟩
theorem OwB.below (ho : OwB w lo hi v bs) {B : Nat} (hb : Below B w w') (hB : hi ≤ B) : OwB w' lo hi v bs := ho.keep fun k _ h => hb.block k (by omega)
theorem OwB.wide (ho : OwB w lo hi v bs) (h1 : lo' ≤ lo) (h2 : hi ≤ hi') : OwB w lo' hi' v bs := ⟨own_lo ho.own h1, fun k e => by have := ho.lt k e; omega⟩
theorem OwC.keep (ho : OwC w lo hi v rvs cs) (hk : ∀ k, lo ≤ k → k < hi → w'.heap[k]? = w.heap[k]?) : OwC w' lo hi v rvs cs :=
  ⟨ho.same, own_keep ho.own fun k e => hk k (ho.own.lt k e).1 (ho.lt k e), ho.lt, fun i rv c h1 h2 => (ho.refs i rv c h1 h2).keep hk, ho.apart⟩
theorem OwC.below (ho : OwC w lo hi v rvs cs) {B : Nat} (hb : Below B w w') (hB : hi ≤ B) : OwC w' lo hi v rvs cs := ho.keep fun k _ h => hb.block k (by omega)
theorem OwC.wide (ho : OwC w lo hi v rvs cs) (h1 : lo' ≤ lo) (h2 : hi ≤ hi') : OwC w lo' hi' v rvs cs :=
  ⟨ho.same, own_lo ho.own h1, fun k e => by have := ho.lt k e; omega, fun i rv c k1 k2 => (ho.refs i rv c k1 k2).wide h1 h2, ho.apart⟩
theorem OwH.keep (ho : OwH w lo hi v h) (hk : ∀ k, lo ≤ k → k < hi → w'.heap[k]? = w.heap[k]?) : OwH w' lo hi v h :=
  let ⟨cv, rvs, rv, e, h1, h2, h3⟩ := ho
  ⟨cv, rvs, rv, e, h1.keep hk, h2.keep hk, h3⟩
theorem OwH.below (ho : OwH w lo hi v h) {B : Nat} (hb : Below B w w') (hB : hi ≤ B) : OwH w' lo hi v h := ho.keep fun k _ h => hb.block k (by omega)
theorem OwH.wide (ho : OwH w lo hi v h) (h1 : lo' ≤ lo) (h2 : hi ≤ hi') : OwH w lo' hi' v h :=
  let ⟨cv, rvs, rv, e, k1, k2, k3⟩ := ho
  ⟨cv, rvs, rv, e, k1.wide h1 h2, k2.wide h1 h2, k3⟩

theorem OwI.setCell (ho : OwI w lo hi v xs) {p : Addr} (hp : p.block < lo ∨ hi ≤ p.block) (u : Value) : OwI (w.setCell p u) lo hi v xs := ho.keep fun k _ _ => Below.heap_setCell w p u k (by omega)
theorem OwB.setCell (ho : OwB w lo hi v bs) {p : Addr} (hp : p.block < lo ∨ hi ≤ p.block) (u : Value) : OwB (w.setCell p u) lo hi v bs := ho.keep fun k _ _ => Below.heap_setCell w p u k (by omega)
theorem OwC.setCell (ho : OwC w lo hi v rvs cs) {p : Addr} (hp : p.block < lo ∨ hi ≤ p.block) (u : Value) : OwC (w.setCell p u) lo hi v rvs cs := ho.keep fun k _ _ => Below.heap_setCell w p u k (by omega)
theorem OwH.setCell (ho : OwH w lo hi v h) {p : Addr} (hp : p.block < lo ∨ hi ≤ p.block) (u : Value) : OwH (w.setCell p u) lo hi v h := ho.keep fun k _ _ => Below.heap_setCell w p u k (by omega)
theorem add_lit0 (g j : Nat) : (⟨g, 0, none⟩ : Addr).add j = ⟨g, j, none⟩ := by unfold Addr.add; split <;> simp_all
theorem RdV_of_own {e : TypeId} {ys : List Value} {n : Nat} (ho : w.ownsRow lo e 1 v n ys) (hl : ∀ k, v.ownBlock = some k → k < hi) : ∃ A c, v = .slice A n c ∧ RdV w hi A n c ys := by
  have hlen := ho.1
  rcases ho.2 with ⟨rfl, rfl⟩ | ⟨g, cap, cur, rfl, hb, hg, hn, hm, hs, ht⟩
  · exact ⟨none, 0, rfl, by omega, by omega, by unfold maxLen; omega, fun h => by omega⟩
  · refine ⟨_, cap, rfl, by omega, hn, hm, fun h => ⟨g, 0, rfl, hl g rfl, fun j u hu => ?_⟩⟩
    have := ho.cells (g := g) rfl j u hu
    rw [add_lit0] at this
    simpa using this
theorem OwI.form (ho : OwI w lo hi v xs) : ∃ A c, v = .slice A xs.length c ∧ RdI w hi A xs.length c xs := RdV_of_own ho.own ho.lt
theorem OwB.form (ho : OwB w lo hi v bs) : ∃ A c, v = .slice A bs.length c ∧ RdB w hi A bs.length c bs := RdV_of_own ho.own ho.lt
theorem cellVals_length : ∀ (cs : List Cel) (rvs : List Value), rvs.length = cs.length → (cellVals cs rvs).length = cs.length * 3
  | [], [], _ => rfl
  | [], _ :: _, h => by simp at h
  | _ :: _, [], h => by simp at h
  | c :: cs, rv :: rvs, h => by simp [cellVals, cellVals_length cs rvs (by simpa using h)]; omega
theorem cellVals_at : ∀ (cs : List Cel) (rvs : List Value) (i : Nat) (c : Cel) (rv : Value), cs[i]? = some c → rvs[i]? = some rv →
    (cellVals cs rvs)[i * 3]? = some (.bool c.used) ∧ (cellVals cs rvs)[i * 3 + 1]? = some (.int .i64 c.data) ∧ (cellVals cs rvs)[i * 3 + 2]? = some rv
  | [], _, _, _, _, h, _ => by simp at h
  | _ :: _, [], _, _, _, _, h => by simp at h
  | c :: cs, rv :: rvs, 0, _, _, h1, h2 => by simp at h1 h2; subst h1 h2; simp [cellVals]
  | c :: cs, rv :: rvs, i + 1, c', rv', h1, h2 => by
    have := cellVals_at cs rvs i c' rv' (by simpa using h1) (by simpa using h2)
    have e0 : (i + 1) * 3 = i * 3 + 3 := by omega
    rw [e0]
    simpa [cellVals] using this
theorem OwC.form (ho : OwC w lo hi v rvs cs) : ∃ A c, v = .slice A cs.length c ∧ RdC w hi A cs.length c cs := by
  rcases ho.own.2 with ⟨rfl, h0⟩ | ⟨g, cap, cur, rfl, hb, hg, hn, hm, hs, ht⟩
  · exact ⟨none, 0, by rw [h0], by omega, by omega, by unfold maxLen; omega, fun h => by omega⟩
  · refine ⟨_, cap, rfl, rfl, hn, hm, fun h => ⟨g, 0, rfl, ho.lt g rfl, fun j l hl => ?_⟩⟩
    have hj : j < rvs.length := by rw [ho.same]; exact (List.getElem?_eq_some_iff.1 hl).1
    obtain ⟨e1, e2, e3⟩ := cellVals_at cs rvs j l rvs[j] hl (List.getElem?_eq_getElem hj)
    have c1 := ho.own.cells (g := g) rfl _ _ e1
    have c2 := ho.own.cells (g := g) rfl _ _ e2
    have c3 := ho.own.cells (g := g) rfl _ _ e3
    rw [add_lit0] at c1 c2 c3
    obtain ⟨A, c, hv, hr⟩ := (ho.refs j _ l (List.getElem?_eq_getElem hj) hl).form
    rw [hv] at c3
    exact ⟨by simpa using c1, by simpa using c2, A, l.refs.length, c, by simpa using c3, hr⟩
theorem OwH.rd (ho : OwH w lo hi v h) : RdH w hi v h := by
  obtain ⟨cv, rvs, rv, rfl, h1, h2, h3⟩ := ho
  obtain ⟨A, c, rfl, hC⟩ := h1.form
  obtain ⟨A', c', rfl, hR⟩ := h2.form
  exact ⟨A, _, c, A', _, c', rfl, hC, hR⟩
end

theorem cellVals_snoc : ∀ (cs : List Cel) (rvs : List Value) (c : Cel) (rv : Value), rvs.length = cs.length → cellVals (cs ++ [c]) (rvs ++ [rv]) = cellVals cs rvs ++ [.bool c.used, .int .i64 c.data, rv]
  | [], [], _, _, _ => rfl
  | [], _ :: _, _, _, h => by simp at h
  | _ :: _, [], _, _, h => by simp at h
  | d :: cs, q :: rvs, c, rv, h => by simp [cellVals, cellVals_snoc cs rvs c rv (by simpa using h)]
/-- m cells that are not used. -/
def zcells : Nat → List Value
  | 0 => []
  | m + 1 => .bool false :: .int .i64 0 :: .slice none 0 0 :: zcells m
theorem zcells_length : ∀ m, (zcells m).length = m * 3
  | 0 => rfl
  | m + 1 => by simp [zcells, zcells_length m]; omega
theorem zcells_at : ∀ (m i : Nat), (zcells m)[i]? = if i < m * 3 then some (if i % 3 = 0 then .bool false else if i % 3 = 1 then .int .i64 0 else .slice none 0 0) else none
  | 0, i => by simp [zcells]
  | m + 1, 0 => by simp [zcells]
  | m + 1, 1 => by simp [zcells, show 1 < (m + 1) * 3 by omega]
  | m + 1, 2 => by simp [zcells, show 2 < (m + 1) * 3 by omega]
  | m + 1, i + 3 => by
    have := zcells_at m i
    simp only [zcells, List.getElem?_cons_succ, this, Nat.add_mod_right]
    by_cases h : i < m * 3
    · simp [h, show i + 3 < (m + 1) * 3 by omega]
    · simp [h, show ¬ i + 3 < (m + 1) * 3 by omega]
theorem made_zcells (n : Nat) : (madeCells #[Value.bool false, .int .i64 0, .slice none 0 0] (n * 3)).toList = zcells n := by
  apply List.ext_getElem?
  intro j
  rw [zcells_at]
  by_cases hj : j < n * 3
  · rw [if_pos hj]
    have h3 : j % 3 < 3 := Nat.mod_lt _ (by omega)
    have e : j % 3 = 0 ∨ j % 3 = 1 ∨ j % 3 = 2 := by omega
    rcases e with e | e | e <;> simp [madeCells, hj, e]
  · rw [if_neg hj]; simp [madeCells, hj]
theorem fill3 (cs : List Cel) (rvs : List Value) (k n : Nat) (c : Cel) (rv : Value) (hk : Hid (cs[k]? = some c)) (hl : rvs.length = k) (hn : k < n) :
    (((cellVals (cs.take k) rvs ++ zcells (n - k)).set (k * 3) (.bool c.used)).set (k * 3 + 1) (.int .i64 c.data)).set (k * 3 + 2) rv = cellVals (cs.take (k + 1)) (rvs ++ [rv]) ++ zcells (n - (k + 1)) := by
  obtain ⟨hk', rfl⟩ := List.getElem?_eq_some_iff.1 hk.out
  have hl' : rvs.length = (cs.take k).length := by rw [List.length_take]; omega
  have hL : (cellVals (cs.take k) rvs).length = k * 3 := by rw [cellVals_length _ _ hl']; rw [← hl', hl]
  rw [List.take_succ_eq_append_getElem hk', cellVals_snoc _ _ _ _ hl']
  generalize cellVals (cs.take k) rvs = L at *
  have e : n - k = (n - (k + 1)) + 1 := by omega
  rw [e]
  rw [List.set_append_right _ _ (by omega), List.set_append_right _ _ (by omega), List.set_append_right _ _ (by omega)]
  rw [hL, show k * 3 - k * 3 = 0 by omega, show k * 3 + 1 - k * 3 = 1 by omega, show k * 3 + 2 - k * 3 = 2 by omega]
  simp [zcells]
theorem own_some {w : World} {lo : Nat} {e : TypeId} {size g n cap : Nat} {ys : List Value} (ho : w.ownsRow lo e size (.slice (some ⟨g, 0, none⟩) n cap) n ys) {j : Nat} (hj : j < n * size) : ∃ u, w.cell? ⟨g, j, none⟩ = some u := by
  rw [ho.cellAt j hj]
  exact ⟨_, List.getElem?_eq_getElem (by rw [ho.1]; exact hj)⟩
theorem apart_lt {a b : Value} {m : Nat} (ha : ∀ k, a.ownBlock = some k → k < m) (hb : ∀ k, b.ownBlock = some k → m ≤ k) : Apart a b := by
  unfold Apart
  cases h : a.ownBlock with
  | none => exact .inl rfl
  | some k => exact .inr fun e => by have := ha k h; have := hb k e.symm; omega
theorem apart_gt {a b : Value} {m : Nat} (ha : ∀ k, a.ownBlock = some k → m ≤ k) (hb : ∀ k, b.ownBlock = some k → k < m) : Apart a b := by
  unfold Apart
  cases h : a.ownBlock with
  | none => exact .inl rfl
  | some k => exact .inr fun e => by have := ha k h; have := hb k e.symm; omega
theorem hid_inj {α : Type} {l : List α} {k : Nat} {x y : α} (h : Hid (l[k]? = some x)) (h' : Hid (l[k]? = some y)) : x = y := by
  have := h.out.symm.trans h'.out
  injection this
/-- What a call hands back that makes one slice of ints. -/
def MadeI (w : World) (xs : List Int) (e : Ending) (w' : World) : Prop := ∃ v, e = .returned v ∧ OwI w' w.heap.size w'.heap.size v xs ∧ Below w.heap.size w w'
def MadeB (w : World) (xs : List Bool) (e : Ending) (w' : World) : Prop := ∃ v, e = .returned v ∧ OwB w' w.heap.size w'.heap.size v xs ∧ Below w.heap.size w w'
def MadeH (w : World) (h : Hp) (e : Ending) (w' : World) : Prop := ∃ v, e = .returned v ∧ OwH w' w.heap.size w'.heap.size v h ∧ Below w.heap.size w w'
/-- .. one cell. -/
def MadeL (w : World) (l : Cel) (e : Ending) (w' : World) : Prop :=
  ∃ rv, e = .returned (.agg #[.bool l.used, .int .i64 l.data, rv]) ∧ OwI w' w.heap.size w'.heap.size rv l.refs ∧ Below w.heap.size w w'
def MadeC (w : World) (cs : List Cel) (e : Ending) (w' : World) : Prop := ∃ v rvs, e = .returned v ∧ OwC w' w.heap.size w'.heap.size v rvs cs ∧ Below w.heap.size w w'
end Go.Proofs.Ytdkpfggfkhnjfaa

/- The laws' copying functions make slices, cells and heaps of their own that read as the ones that were given: for sizes up to 2^20. -/
namespace Go.Proofs.Ytdkpfggfkhnjfaa
open Go.RowKit
theorem Try.infoInt : (Try.prog.info? 3).map (fun i => (i.zero, i.size, i.bytes)) = some (some (.int .i64 0), 1, 8) := by kernel_rfl
theorem Try.infoCell : (Try.prog.info? 49).map (fun i => (i.zero, i.size, i.bytes)) = some (some (.agg #[.bool false, .int .i64 0, .slice none 0 0]), 3, 40) := by kernel_rfl

/-- What toIntS has filled after k rounds. -/
def filled (xs : List Int) (k : Nat) : List Value := (xs.take k).map (Value.int .i64) ++ List.replicate (xs.length - k) (.int .i64 0)
theorem filled_zero (xs : List Int) : filled xs 0 = List.replicate xs.length (.int .i64 0) := by simp [filled]
theorem filled_end {xs : List Int} {k : Nat} (h : xs.length ≤ k) : filled xs k = xs.map (Value.int .i64) := by
  simp [filled, List.take_of_length_le h, show xs.length - k = 0 by omega]
theorem filled_succ {xs : List Int} {k : Nat} {x : Int} (h : Hid (xs[k]? = some x)) : (filled xs k).set k (.int .i64 x) = filled xs (k + 1) := by
  obtain ⟨hk, rfl⟩ := List.getElem?_eq_some_iff.1 h.out
  unfold filled
  have e : xs.length - k = (xs.length - (k + 1)) + 1 := by omega
  rw [e, List.replicate_succ, List.take_succ_eq_append_getElem hk, List.map_append, List.append_assoc]
  rw [List.set_append_right _ _ (by simp; omega)]
  simp [show k - min k xs.length = 0 by omega]
theorem filled_at {xs : List Int} {k : Nat} (h : k < xs.length) : (filled xs k)[k]? = some (.int .i64 0) := by
  unfold filled
  rw [List.getElem?_append_right (by simp; omega)]
  rw [List.getElem?_replicate]; simp [show k - min k xs.length = 0 by omega]; omega

theorem snoc_cases {α : Type} {l : List α} {x y : α} {i : Nat} (h : (l ++ [x])[i]? = some y) : (i < l.length ∧ l[i]? = some y) ∨ (i = l.length ∧ y = x) := by
  rcases Nat.lt_or_ge i l.length with hi | hi
  · rw [List.getElem?_append_left hi] at h; exact .inl ⟨hi, h⟩
  · rw [List.getElem?_append_right hi] at h
    have : i - l.length = 0 := by
      rcases Nat.eq_zero_or_pos (i - l.length) with h0 | h0
      · exact h0
      · obtain ⟨m, hm⟩ : ∃ m, i - l.length = m + 1 := ⟨i - l.length - 1, by omega⟩
        rw [hm] at h; simp at h
    rw [this] at h; simp at h
    exact .inr ⟨by omega, h.symm⟩
/-- What toCellS has made after k rounds. -/
structure CellsTo (wr : World) (lo g n : Nat) (cs : List Cel) (k : Nat) (rvs : List Value) : Prop where
  len : rvs.length = k
  own : wr.ownsRow lo 49 3 (.slice (some ⟨g, 0, none⟩) n n) n (cellVals (cs.take k) rvs ++ zcells (n - k))
  refs : ∀ (i : Nat) (rv : Value) (c : Cel), rvs[i]? = some rv → cs[i]? = some c → OwI wr (g + 1) wr.heap.size rv c.refs
  apart : ∀ (i j : Nat) (a b : Value), i ≠ j → rvs[i]? = some a → rvs[j]? = some b → Apart a b
theorem CellsTo.lt {wr : World} {lo g n : Nat} {cs : List Cel} {k : Nat} {rvs : List Value} (h : CellsTo wr lo g n cs k rvs) : lo ≤ g ∧ g < wr.heap.size := h.own.lt g rfl

def Small (h : Hp) : Prop := cellsBulk h.cells + h.roots.length ≤ 1048576
theorem refs_le_bulk : ∀ {cs : List Cel} {x : Cel}, x ∈ cs → x.refs.length ≤ cellsBulk cs
  | c :: cs, x, h => by
    rcases List.mem_cons.1 h with rfl | h
    · simp [cellsBulk]; omega
    · have := refs_le_bulk h; simp [cellsBulk] at this ⊢; omega
theorem len_le_bulk (cs : List Cel) : cs.length ≤ cellsBulk cs := by unfold cellsBulk; omega

end Go.Proofs.Ytdkpfggfkhnjfaa

/- append on a slice of ints that the call itself has made, as a law of the walk; small facts on lists for the loops that append. -/
namespace Go.Proofs.Ytdkpfggfkhnjfaa
open Go.RowKit
theorem mapI_oneCell (ys : List Int) : ∀ u ∈ ys.map (Value.int .i64), u.oneCell' = true := ints_oneCell .i64 ys
theorem news_at {w : World} {g : Nat} {ys : List Value} {t : TypeId} (hg : w.heap[g]? = some (.cells ys.toArray t (0, 0))) : ∀ j u, ys[j]? = some u → w.cell? ((⟨g, 0, none⟩ : Addr).add j) = some u := by
  intro j u hu
  rw [add_lit0, cell_of_row w g j _ t (0, 0) hg]
  simpa using hu

theorem wpList_pushI {w : World} {ops : Array Oper} {rest : List Oper} {o : Oper} {a : Act} {Q : Exit → Act → World → Prop} (hgd : o.guard = none) (s x : Operand)
    (hop : o.op = .call { callee := .builtin .append, args := #[s, x], argTypes := #[27, 27] })
    (lo : Nat) (v : Value) (xs : List Int) (hs : a.eval s = v) (hown : w.ownsRow lo 3 1 v xs.length (xs.map (Value.int .i64)))
    (g : Nat) (ys : List Int) (m c : Nat) (hx : a.eval x = .slice (some ⟨g, 0, none⟩) m c) (hm : m = ys.length) (hg : w.heap[g]? = some (.cells (ys.map (Value.int .i64)).toArray 3 (0, 0)))
    (hb : xs.length + ys.length ≤ 1099511627776) (hlo : lo ≤ w.heap.size)
    (h : ∀ v' w', OwI w' lo w'.heap.size v' (xs ++ ys) → w.grownBy w' v.ownBlock → wpList Try.prog ops Q rest (a.put o.dst v') w') : wpList Try.prog ops Q (o :: rest) a w := by
  obtain ⟨i0, hi, hz0, hz1, hz2⟩ := info_parts Try.infoInt
  subst hm
  refine wpList_append_own w hgd s x 27 hop lo 3 i0 (.int .i64 0) 1 8 Try.underlying27 hi hz0 hz1 hz2 rfl (by omega) v xs.length (xs.map (Value.int .i64)) hs hown ⟨g, 0, none⟩ ys.length c (ys.map (Value.int .i64)) hx (by simp) (news_at hg) (mapI_oneCell ys)
    (by unfold maxLen; omega) (by omega) hlo ?_
  intro v' w' ho hg' _
  refine h v' w' ⟨by simpa using ho, fun k hk => (ho.lt k hk).2⟩ hg'

theorem below_row {B lo : Nat} {a w w' : World} {e : TypeId} {size n : Nat} {v : Value} {ys : List Value} (hb : Below B a w) (ho : w.ownsRow lo e size v n ys) (hg : w.grownBy w' v.ownBlock) (hB : B ≤ lo) (hs : B ≤ w.heap.size) : Below B a w' :=
  hb.grown hg hs fun k hk => by have := (ho.lt k hk).1; omega
/-- A row, empty, that is a literal '[]int{}'. -/
theorem own_empty (w : World) (t : TypeId) (lo size : Nat) (h : lo ≤ w.heap.size) : (w.alloc (.cells #[] t)).ownsRow lo t size (.slice (some ⟨w.heap.size, 0, none⟩) 0 0) 0 [] :=
  World.ownsRow_lit w #[] 0 h zero_le_maxLen (by simp)
theorem own_lit (w : World) (t : TypeId) (lo : Nat) (xs : List Value) (h : lo ≤ w.heap.size) (hm : xs.length ≤ maxLen) : (w.alloc (.cells xs.toArray t)).ownsRow lo t 1 (.slice (some ⟨w.heap.size, 0, none⟩) xs.length xs.length) xs.length xs := by
  have := World.ownsRow_lit (e := t) (size := 1) w xs.toArray xs.length h hm (by simp)
  simpa using this
end Go.Proofs.Ytdkpfggfkhnjfaa

/- A region that draws its order, walked once along a plan that the kernel finds: what only reads is taken as soon as it may come up (where its guard says no it is passed over), and at each other moment just one operation may come up. No condition. -/
namespace Go.Proofs.Ytdkpfggfkhnjfaa
open Go.RowKit
def takeable (o : Oper) : Bool :=
  match o.op with
  | .move _ | .assign _ | .pick .. | .load .. | .fieldAddr .. | .field .. | .indexAddr .. | .index .. | .unOp .. | .binOp .. | .nilCheck _ | .slice .. | .extract .. | .build .. => true
  | .call { callee := .builtin .len, .. } => true
  | _ => false
def planFrom (ops : Array Oper) : Nat → Array Bool → Option (List (Nat × Bool))
  | 0, listed => if Region.ready .any ops listed = [] then some [] else none
  | f + 1, listed =>
    match (Region.ready .any ops listed).find? fun i => ((ops[i]?).map takeable).getD false && Region.free .any ops listed i with
    | some i => (planFrom ops f (listed.setIfInBounds i true)).map ((i, true) :: ·)
    | none =>
      match Region.ready .any ops listed with
      | [] => some []
      | [i] => (planFrom ops f (listed.setIfInBounds i true)).map ((i, false) :: ·)
      | _ => none
def plan (ops : Array Oper) : Option (List (Nat × Bool)) := if Region.noSelect ops then planFrom ops ops.size (Array.replicate ops.size false) else none

def wpPlan (P : Program) (ops : Array Oper) (Q : Exit → Act → World → Prop) (S : World → Prop) : List (Nat × Bool) → Act → World → Prop
  | [], a, w => Q .normal a w
  | (i, true) :: rest, a, w => ∃ o, ops[i]? = some o ∧ ∃ v, YieldsIf P ops S o v a ∧ wpPlan P ops Q S rest (a.put o.dst v) w
  | (i, false) :: rest, a, w => ∃ o, ops[i]? = some o ∧ wpOp P ops Q i (fun a' w' => S w' ∧ wpPlan P ops Q S rest a' w') a w

section
variable {P : Program} {ops : Array Oper} {Q : Exit → Act → World → Prop} {S : World → Prop}
theorem wpAnyH_of_plan (hs : Region.noSelect ops = true) (hQ : ∀ c a w d v, Q (.panic c) (Act.put a d v) w → Q (.panic c) a w) : ∀ (f : Nat) (listed : Array Bool) (l : List (Nat × Bool)) (a : Act) (w : World),
    planFrom ops f listed = some l → S w → wpPlan P ops Q S l a w → wpAnyH P .any ops Q S f listed a w
  | 0, listed, l, a, w, hp, hS, h => by
    unfold planFrom at hp
    split at hp
    · rename_i hr
      injection hp with hp
      subst hp
      exact ⟨hr, h⟩
    · cases hp
  | f + 1, listed, l, a, w, hp, hS, h => by
    unfold planFrom at hp
    split at hp
    · rename_i i hf
      obtain ⟨l', hl', rfl⟩ := Option.map_eq_some_iff.1 hp
      obtain ⟨o, ho, v, hy, h⟩ := h
      have h1 := List.find?_some hf
      have h2 := List.mem_of_find?_eq_some hf
      simp only [Bool.and_eq_true] at h1
      exact wpAnyH_take ho hs h1.2 (by simpa using h2) (fun c a w => hQ c a w _ _) hy hS (wpAnyH_of_plan hs hQ f _ l' _ w hl' hS h)
    · split at hp
      · rename_i hr
        injection hp with hp
        subst hp
        exact wpAnyH_done hr h _
      · rename_i i hr
        obtain ⟨l', hl', rfl⟩ := Option.map_eq_some_iff.1 hp
        obtain ⟨o, ho, h⟩ := h
        refine wpAnyH_all hr (by simp) fun j hj => ?_
        obtain rfl := List.mem_singleton.1 hj
        exact wpOp_mono (fun a' w' h' => ⟨h'.1, wpAnyH_of_plan hs hQ f _ l' a' w' hl' h'.1 h'.2⟩) h
      · cases hp

/-- The same along the text's own order. -/
def wpLex (P : Program) (ops : Array Oper) (Q : Exit → Act → World → Prop) (S : World → Prop) : List Oper → List Bool → Act → World → Prop
  | [], _, a, w => Q .normal a w
  | o :: os, true :: bs, a, w => ∃ v, YieldsIf P ops S o v a ∧ wpLex P ops Q S os bs (a.put o.dst v) w
  | o :: os, false :: bs, a, w => if Region.wanted o (yielded ops a.tmps) = true then o.wp P a w (fun a' w' => S w' ∧ wpLex P ops Q S os bs a' w') Q else S w ∧ wpLex P ops Q S os bs (a.put o.dst undef) w
  | _ :: _, [], _, _ => False
theorem wpPlan_of_lex : ∀ (l : List Oper) (bs : List Bool) (k : Nat) (a : Act) (w : World), (∀ j, l[j]? = ops[k + j]?) → wpLex P ops Q S l bs a w → wpPlan P ops Q S ((List.range' k l.length).zip bs) a w
  | [], _, _, _, _, _, h => h
  | o :: os, true :: bs, k, a, w, hl, h => by
    obtain ⟨v, hy, h⟩ := h
    exact ⟨o, by simpa using (hl 0).symm, v, hy, wpPlan_of_lex os bs (k + 1) _ _ (fun j => by have := hl (j + 1); simpa [Nat.add_assoc, Nat.add_comm 1 j] using this) h⟩
  | o :: os, false :: bs, k, a, w, hl, h => by
    have ho : ops[k]? = some o := by simpa using (hl 0).symm
    have hl' : ∀ j, os[j]? = ops[k + 1 + j]? := fun j => by have := hl (j + 1); simpa [Nat.add_assoc, Nat.add_comm 1 j] using this
    refine ⟨o, ho, ?_⟩
    unfold wpOp
    simp only [ho]
    unfold wpLex at h
    split at h
    · rename_i hw
      rw [if_pos hw]
      refine .inl (Oper.wp_mono ?_ h)
      exact fun a' w' h' => ⟨h'.1, wpPlan_of_lex os bs (k + 1) _ _ hl' h'.2⟩
    · rename_i hw
      rw [if_neg hw]
      exact ⟨h.1, wpPlan_of_lex os bs (k + 1) _ _ hl' h.2⟩
  | _ :: _, [], _, _, _, _, h => h.elim

theorem wp_region_lex {id : Nat} {a : Act} {w : World} {ops : List Oper} (S : World → Prop) (bs : List Bool) (hm : P.follows .mixedOrders = true) (hp : plan ops.toArray = some ((List.range' 0 ops.length).zip bs)) (hS : S w.drew)
    (h : wpLex P ops.toArray (NoPanic Q) S ops bs a w.drew) : (Code.region id ops.toArray true).wp P Q a w := by
  unfold plan at hp
  split at hp
  · rename_i hs
    refine wp_region_noPanic (wp_region_held_drew hm hS fun _ => ?_)
    exact wpAnyH_of_plan (Q := NoPanic Q) hs (fun c a w d v h => h) _ _ _ a _ hp hS (wpPlan_of_lex ops bs 0 a _ (by simp) h)
  · cases hp
theorem lex_nil {bs : List Bool} {a : Act} {w : World} (h : Q .normal a w) : wpLex P ops (NoPanic Q) S [] bs a w := h
theorem lex_take {os : List Oper} {bs : List Bool} {a : Act} {w : World} {o : Oper} {v : Value} (hw : Region.wanted o (yielded ops a.tmps) = true)
    (hv : ∀ w, S w → (execOp a.eval o).run P w = .ok (.value v) w) (h : wpLex P ops Q S os bs (a.put o.dst v) w) : wpLex P ops Q S (o :: os) (true :: bs) a w := ⟨v, .inl ⟨hw, hv⟩, h⟩
theorem lex_skip {os : List Oper} {bs : List Bool} {a : Act} {w : World} {o : Oper} (hw : Region.wanted o (yielded ops a.tmps) = false)
    (h : wpLex P ops Q S os bs (a.put o.dst undef) w) : wpLex P ops Q S (o :: os) (true :: bs) a w := ⟨undef, .inr ⟨hw, rfl⟩, h⟩
theorem lex_pass {os : List Oper} {bs : List Bool} {a : Act} {w : World} {o : Oper} (hw : Region.wanted o (yielded ops a.tmps) = false) (hS : S w)
    (h : wpLex P ops Q S os bs (a.put o.dst undef) w) : wpLex P ops Q S (o :: os) (false :: bs) a w := by
  unfold wpLex
  rw [if_neg (by simp [hw])]
  exact ⟨hS, h⟩
theorem lex_run {os : List Oper} {bs : List Bool} {a : Act} {w : World} {o : Oper} (hw : Region.wanted o (yielded ops a.tmps) = true)
    (h : ∀ K : Act → World → Prop, Shut (∀ a' w', S w' → wpLex P ops Q S os bs a' w' → K a' w') → o.wp P a w K Q) : wpLex P ops Q S (o :: os) (false :: bs) a w := by
  unfold wpLex
  rw [if_pos hw]
  exact h _ fun a' w' hS hp => ⟨hS, hp⟩
end
end Go.Proofs.Ytdkpfggfkhnjfaa

/- The lexical walk of a region that draws its order (Lex), where the condition S need not hold behind the LAST operation, for which all others are needed: a region that ends with a store into a cell that it has read. No condition. -/
namespace Go.Proofs.Ytdkpfggfkhnjfaa
open Go.RowKit
def befores (ops : Array Oper) (i : Nat) : List Nat := match ops[i]? with
  | some o => (o.after.toList.filter fun e => Region.binds .any e).map (·.on)
  | none => []
def needsGo (ops : Array Oper) : Nat → List Nat → List Nat
  | 0, M => M
  | i + 1, M => needsGo ops i (if M.contains i then M ++ (befores ops i).filter (fun k => !M.contains k) else M)
def needs (ops : Array Oper) (z : Nat) : List Nat := needsGo ops z (befores ops z)
def lastNeeds (ops : Array Oper) : Bool := (List.range ops.size).all (fun i => i == ops.size - 1 || (needs ops (ops.size - 1)).contains i) && !((ops[ops.size - 1]?).map takeable).getD false
/-- Whatever is listed, what it waits for is listed. -/
def Down (ops : Array Oper) (listed : Array Bool) : Prop := ∀ j, listed.getD j false = true → ∀ k ∈ befores ops j, listed.getD k false = true
def wpAnyW (P : Program) (ops : Array Oper) (Q : Exit → Act → World → Prop) (S : World → Prop) (z : Nat) : Nat → Array Bool → Act → World → Prop
  | 0, listed, a, w => Region.ready .any ops listed = [] ∧ Q .normal a w
  | f + 1, listed, a, w => (Region.ready .any ops listed = [] → Q .normal a w) ∧
    ∀ i ∈ Region.ready .any ops listed, wpOp P ops Q i (fun a' w' => (i = z ∨ S w') ∧ wpAnyW P ops Q S z f (listed.setIfInBounds i true) a' w') a w
section
variable {P : Program} {ops : Array Oper} {Q : Exit → Act → World → Prop} {S : World → Prop} {z : Nat}
theorem ready_befores {i : Nat} {listed : Array Bool} (h : i ∈ Region.ready .any ops listed) : ∀ k ∈ befores ops i, listed.getD k false = true := by
  obtain ⟨_, o, ho, hall⟩ := mem_ready.1 h
  intro k hk
  simp only [befores, ho, List.mem_map, List.mem_filter] at hk
  obtain ⟨e, ⟨he, hb⟩, rfl⟩ := hk
  exact hall e (by simpa using he) hb
theorem Down.set {i : Nat} {listed : Array Bool} (hd : Down ops listed) (h : i ∈ Region.ready .any ops listed) : Down ops (listed.setIfInBounds i true) := by
  intro j hj k hk
  have key : listed.getD k false = true := by
    by_cases hji : j = i
    · subst hji; exact ready_befores h k hk
    · refine hd j ?_ k hk
      rw [getD_set_ne false (Ne.symm hji)] at hj
      exact hj
  exact getD_set_true key
theorem needsGo_listed {listed : Array Bool} (hd : Down ops listed) : ∀ (i : Nat) (M : List Nat), (∀ k ∈ M, listed.getD k false = true) → ∀ k ∈ needsGo ops i M, listed.getD k false = true
  | 0, M, h, k, hk => h k hk
  | i + 1, M, h, k, hk => by
    rw [needsGo] at hk
    refine needsGo_listed hd i _ (fun q hq => ?_) k hk
    split at hq
    · rename_i hc
      rcases List.mem_append.1 hq with hq | hq
      · exact h q hq
      · exact hd i (h i (by simpa using hc)) q (List.mem_filter.1 hq).1
    · exact h q hq
theorem needs_listed {listed : Array Bool} (hd : Down ops listed) (hz : ∀ k ∈ befores ops z, listed.getD k false = true) (k : Nat) (hk : k ∈ needs ops z) : listed.getD k false = true := needsGo_listed hd z _ hz k hk
theorem wpAny_of_weak : ∀ (f : Nat) (listed : Array Bool) (a : Act) (w : World), wpAnyW P ops Q S z f listed a w → wpAny P .any ops Q f listed a w
  | 0, _, _, _, h => h
  | f + 1, _, _, _, h => ⟨h.1, fun i hi => wpOp_mono (fun a' w' h' => wpAny_of_weak f _ a' w' h'.2) (h.2 i hi)⟩
theorem wpAnyW_first {i : Nat} {oi : Oper} {v : Value} (hi : ops[i]? = some oi) (hsel : ∀ (j : Nat) (o : Oper) cs b, ops[j]? = some o → o.op ≠ .select cs b)
    (hQ : ∀ c a w, Q (.panic c) (a.put oi.dst v) w → Q (.panic c) a w) (hin : i ∈ needs ops z) (hiz : i ≠ z) : ∀ (f : Nat) (listed : Array Bool) (a : Act) (w : World),
      (∀ j oj, ops[j]? = some oj → j ≠ i → listed.getD j true = false → (∀ e ∈ oj.after, Region.binds .any e = true → e.on ≠ i) → oi.apart ops oj = true) →
      Down ops listed → i ∈ Region.ready .any ops listed → YieldsIf P ops S oi v a → S w → wpAnyW P ops Q S z f (listed.setIfInBounds i true) (a.put oi.dst v) w → wpAnyW P ops Q S z (f + 1) listed a w
  | 0, listed, a, w, _, _, hr, hy, hS, H => by
    refine ⟨fun h => (by rw [h] at hr; cases hr), fun j hj => ?_⟩
    by_cases hji : j = i
    · subst hji; exact hy.wpOp hi hS ⟨.inr hS, H⟩
    have hj2 := ready_mono hj hji
    rw [H.1] at hj2; cases hj2
  | f + 1, listed, a, w, hfree, hd, hr, hy, hS, H => by
    refine ⟨fun h => (by rw [h] at hr; cases hr), fun j hj => ?_⟩
    by_cases hji : j = i
    · subst hji; exact hy.wpOp hi hS ⟨.inr hS, H⟩
    have hjz : j ≠ z := by
      rintro rfl
      have h1 := needs_listed hd (ready_befores hj) i hin
      have h0 := (mem_ready.1 hr).1
      rcases Nat.lt_or_ge i listed.size with h' | h'
      · simp [h'] at h0 h1; rw [h0] at h1; cases h1
      · simp [Array.getElem?_eq_none h'] at h1
    have hj2 := ready_mono hj hji
    obtain ⟨hun, oj, hoj, hall⟩ := mem_ready.1 hj
    have hnot : ∀ e ∈ oj.after, Region.binds .any e = true → e.on ≠ i := fun e he hb heq => by
      have h1 := hall e he hb
      have h0 := (mem_ready.1 hr).1
      rw [heq] at h1
      rcases Nat.lt_or_ge i listed.size with h' | h'
      · simp [h'] at h0 h1; rw [h0] at h1; cases h1
      · simp [Array.getElem?_eq_none h'] at h1
    have h2 := wpOp_putIf hoj (hfree j oj hoj hji hun hnot) (fun cs b => hsel i oi cs b hi) (fun cs b => hsel j oj cs b hoj) hQ hy (H.2 j hj2)
    refine wpOp_mono (fun a' w' h3 => ?_) h2
    obtain ⟨hy', hS', hrest⟩ := h3
    have hSw : S w' := hS'.resolve_left hjz
    refine ⟨.inr hSw, wpAnyW_first hi hsel hQ hin hiz f _ a' w' (fun k ok hk hki hu hno => ?_) (hd.set hj) (ready_mono hr (Ne.symm hji)) hy' hSw ?_⟩
    · refine hfree k ok hk hki ?_ hno
      by_cases hjk : j = k
      · subst hjk; exact hun
      · rw [getD_set_ne true hjk] at hu; exact hu
    · rw [Array.setIfInBounds_comm _ _ hji]
      exact hrest
theorem not_listed {i : Nat} {listed : Array Bool} (h : i ∈ Region.ready .any ops listed) : listed.getD i false = false ∧ i < listed.size := by
  have h0 := (mem_ready.1 h).1
  rcases Nat.lt_or_ge i listed.size with h' | h'
  · simp [h'] at h0 ⊢; exact h0
  · simp [Array.getElem?_eq_none h'] at h0
def wpPlanW (P : Program) (ops : Array Oper) (Q : Exit → Act → World → Prop) (S : World → Prop) (z : Nat) : List (Nat × Bool) → Act → World → Prop
  | [], a, w => Q .normal a w
  | (i, true) :: rest, a, w => ∃ o, ops[i]? = some o ∧ ∃ v, YieldsIf P ops S o v a ∧ wpPlanW P ops Q S z rest (a.put o.dst v) w
  | (i, false) :: rest, a, w => ∃ o, ops[i]? = some o ∧ wpOp P ops Q i (fun a' w' => (i = z ∨ S w') ∧ wpPlanW P ops Q S z rest a' w') a w
theorem wpAnyW_of_plan (hs : Region.noSelect ops = true) (hQ : ∀ c a w d v, Q (.panic c) (Act.put a d v) w → Q (.panic c) a w) (hn : ∀ i, i < ops.size → i ≠ z → i ∈ needs ops z) (hzt : ((ops[z]?).map takeable).getD false = false) : ∀ (f : Nat) (listed : Array Bool) (l : List (Nat × Bool)) (a : Act) (w : World),
    planFrom ops f listed = some l → Down ops listed → (listed.getD z false = false → S w) → wpPlanW P ops Q S z l a w → wpAnyW P ops Q S z f listed a w
  | 0, listed, l, a, w, hp, hd, hS, h => by
    unfold planFrom at hp
    split at hp
    · rename_i hr
      injection hp with hp
      subst hp
      exact ⟨hr, h⟩
    · cases hp
  | f + 1, listed, l, a, w, hp, hd, hS, h => by
    unfold planFrom at hp
    split at hp
    · rename_i i hf
      obtain ⟨l', hl', rfl⟩ := Option.map_eq_some_iff.1 hp
      obtain ⟨o, ho, v, hy, h⟩ := h
      have h1 := List.find?_some hf
      have h2 := List.mem_of_find?_eq_some hf
      simp only [Bool.and_eq_true] at h1
      have hiz : i ≠ z := fun e => by rw [e, hzt] at h1; exact absurd h1.1 (by simp)
      have hin := hn i (Array.getElem?_eq_some_iff.1 ho).1 hiz
      have hzl : listed.getD z false = false := by
        cases hc : listed.getD z false
        · rfl
        · have := needs_listed hd (hd z hc) i hin
          rw [(not_listed h2).1] at this
          cases this
      refine wpAnyW_first ho (Region.noSelect_spec hs) (fun c a w => hQ c a w _ _) hin hiz f listed a w (Region.free_spec ho h1.2) hd h2 hy (hS hzl) (wpAnyW_of_plan hs hQ hn hzt f _ l' _ w hl' (hd.set h2) (fun _ => hS hzl) h)
    · split at hp
      · rename_i hr
        injection hp with hp
        subst hp
        exact ⟨fun _ => h, by rw [hr]; intro i hi; cases hi⟩
      · rename_i i hr
        obtain ⟨l', hl', rfl⟩ := Option.map_eq_some_iff.1 hp
        obtain ⟨o, ho, h⟩ := h
        have hir : i ∈ Region.ready .any ops listed := by rw [hr]; exact List.mem_singleton_self _
        refine ⟨fun e => (by rw [e] at hir; cases hir), fun j hj => ?_⟩
        rw [hr] at hj
        obtain rfl := List.mem_singleton.1 hj
        refine wpOp_mono (fun a' w' h' => ⟨h'.1, wpAnyW_of_plan hs hQ hn hzt f _ l' a' w' hl' (hd.set hir) (fun e => ?_) h'.2⟩) h
        rcases h'.1 with rfl | hS'
        · exfalso
          have := (not_listed hir).2
          simp [this] at e
        · exact hS'
      · cases hp

def wpLexW (P : Program) (ops : Array Oper) (Q : Exit → Act → World → Prop) (S : World → Prop) : List Oper → List Bool → Act → World → Prop
  | [], _, a, w => Q .normal a w
  | o :: os, true :: bs, a, w => ∃ v, YieldsIf P ops S o v a ∧ wpLexW P ops Q S os bs (a.put o.dst v) w
  | o :: os, false :: bs, a, w => if Region.wanted o (yielded ops a.tmps) = true then o.wp P a w (fun a' w' => (os = [] ∨ S w') ∧ wpLexW P ops Q S os bs a' w') Q else (os = [] ∨ S w) ∧ wpLexW P ops Q S os bs (a.put o.dst undef) w
  | _ :: _, [], _, _ => False
theorem wpPlanW_of_lex : ∀ (l : List Oper) (bs : List Bool) (k : Nat) (a : Act) (w : World), k + l.length = z + 1 → (∀ j, l[j]? = ops[k + j]?) → wpLexW P ops Q S l bs a w → wpPlanW P ops Q S z ((List.range' k l.length).zip bs) a w
  | [], _, _, _, _, _, _, h => h
  | o :: os, true :: bs, k, a, w, hz, hl, h => by
    obtain ⟨v, hy, h⟩ := h
    exact ⟨o, by simpa using (hl 0).symm, v, hy, wpPlanW_of_lex os bs (k + 1) _ _ (by simp at hz; omega) (fun j => by have := hl (j + 1); simpa [Nat.add_assoc, Nat.add_comm 1 j] using this) h⟩
  | o :: os, false :: bs, k, a, w, hz, hl, h => by
    have ho : ops[k]? = some o := by simpa using (hl 0).symm
    have hl' : ∀ j, os[j]? = ops[k + 1 + j]? := fun j => by have := hl (j + 1); simpa [Nat.add_assoc, Nat.add_comm 1 j] using this
    have hz' : k + 1 + os.length = z + 1 := by simp at hz; omega
    have hkz : os = [] → k = z := by rintro rfl; simpa using hz'
    refine ⟨o, ho, ?_⟩
    unfold wpOp
    simp only [ho]
    unfold wpLexW at h
    split at h
    · rename_i hw
      rw [if_pos hw]
      refine .inl (Oper.wp_mono ?_ h)
      exact fun a' w' h' => ⟨h'.1.imp hkz id, wpPlanW_of_lex os bs (k + 1) _ _ hz' hl' h'.2⟩
    · rename_i hw
      rw [if_neg hw]
      exact ⟨h.1.imp hkz id, wpPlanW_of_lex os bs (k + 1) _ _ hz' hl' h.2⟩
  | _ :: _, [], _, _, _, _, _, h => h.elim

theorem wp_region_lew {id : Nat} {a : Act} {w : World} {ops : List Oper} (S : World → Prop) (bs : List Bool) (hm : P.follows .mixedOrders = true) (hp : plan ops.toArray = some ((List.range' 0 ops.length).zip bs)) (hn : lastNeeds ops.toArray = true) (hne : ops ≠ []) (hS : S w.drew)
    (h : wpLexW P ops.toArray (NoPanic Q) S ops bs a w.drew) : (Code.region id ops.toArray true).wp P Q a w := by
  unfold plan at hp
  split at hp
  · rename_i hs
    have hlen : 0 < ops.length := List.length_pos_iff.2 hne
    simp only [lastNeeds, Bool.and_eq_true, List.all_eq_true, List.mem_range, Bool.or_eq_true, beq_iff_eq, Bool.not_eq_true'] at hn
    refine wp_region_noPanic (wp_region_any hm (wpAny_of_weak (z := ops.toArray.size - 1) (S := S) _ _ _ _ ?_))
    refine wpAnyW_of_plan (Q := NoPanic Q) hs (fun c a w d v h => h) (fun i hi hiz => ?_) hn.2 _ _ _ a _ hp (fun j hj => ?_) (fun _ => hS) (wpPlanW_of_lex ops bs 0 a _ (by simp; omega) (by simp) h)
    · exact List.contains_iff_mem.1 ((hn.1 i hi).resolve_left hiz)
    · rcases Nat.lt_or_ge j ops.length with h' | h'
      · simp [h'] at hj
      · simp [h'] at hj
  · cases hp
/-- The same in the plan's own order, where it is not the text's. -/
def pick (ops : List Oper) (pl : List (Nat × Bool)) : List Oper := pl.filterMap fun p => ops[p.1]?
def inside (n : Nat) (pl : List (Nat × Bool)) : Bool := pl.all fun p => decide (p.1 < n)
theorem wpPlanW_of_pick {ops : List Oper} : ∀ (pl : List (Nat × Bool)) (a : Act) (w : World), inside ops.length pl = true → (pl.getLast?.map (·.1) = some z ∨ pl = []) → wpLexW P ops.toArray Q S (pick ops pl) (pl.map (·.2)) a w → wpPlanW P ops.toArray Q S z pl a w
  | [], _, _, _, _, h => h
  | (i, b) :: pl, a, w, hin, hz, h => by
    simp only [inside, List.all_cons, Bool.and_eq_true, decide_eq_true_eq] at hin
    have hi : ops[i]? = some ops[i] := List.getElem?_eq_getElem hin.1
    have ho : ops.toArray[i]? = some ops[i] := by rw [List.getElem?_toArray]; exact hi
    have hp : pick ops ((i, b) :: pl) = ops[i] :: pick ops pl := by unfold pick; rw [List.filterMap_cons]; simp [hi]
    rw [hp, List.map_cons] at h
    have hz' : pl.getLast?.map (·.1) = some z ∨ pl = [] := by
      cases pl with
      | nil => exact .inr rfl
      | cons p pl =>
        rcases hz with hz | hz
        · left; rwa [List.getLast?_cons_cons] at hz
        · cases hz
    have hkz : pick ops pl = [] → i = z := by
      intro e
      cases pl with
      | nil =>
        rcases hz with hz | hz
        · simpa using hz
        · cases hz
      | cons p pl =>
        exfalso
        have h2 := hin.2
        simp only [List.all_cons, Bool.and_eq_true, decide_eq_true_eq] at h2
        unfold pick at e
        rw [List.filterMap_cons, List.getElem?_eq_getElem h2.1] at e
        cases e
    cases b with
    | true =>
      obtain ⟨v, hy, h⟩ := h
      exact ⟨_, ho, v, hy, wpPlanW_of_pick pl _ _ hin.2 hz' h⟩
    | false =>
      refine ⟨_, ho, ?_⟩
      unfold wpOp
      simp only [ho]
      unfold wpLexW at h
      split at h
      · rename_i hw
        rw [if_pos hw]
        refine .inl (Oper.wp_mono ?_ h)
        exact fun a' w' h' => ⟨h'.1.imp hkz id, wpPlanW_of_pick pl _ _ hin.2 hz' h'.2⟩
      · rename_i hw
        rw [if_neg hw]
        exact ⟨h.1.imp hkz id, wpPlanW_of_pick pl _ _ hin.2 hz' h.2⟩
theorem wp_region_pick {id : Nat} {a : Act} {w : World} {ops : List Oper} (S : World → Prop) (pl : List (Nat × Bool)) (hm : P.follows .mixedOrders = true) (hp : plan ops.toArray = some pl) (hn : (lastNeeds ops.toArray && inside ops.length pl && (pl.getLast?.map (·.1) == some (ops.toArray.size - 1))) = true) (hS : S w.drew)
    (h : wpLexW P ops.toArray (NoPanic Q) S (pick ops pl) (pl.map (·.2)) a w.drew) : (Code.region id ops.toArray true).wp P Q a w := by
  unfold plan at hp
  split at hp
  · rename_i hs
    simp only [lastNeeds, Bool.and_eq_true, List.all_eq_true, List.mem_range, Bool.or_eq_true, beq_iff_eq, Bool.not_eq_true'] at hn
    obtain ⟨⟨hn, hin⟩, hz⟩ := hn
    refine wp_region_noPanic (wp_region_any hm (wpAny_of_weak (z := ops.toArray.size - 1) (S := S) _ _ _ _ ?_))
    refine wpAnyW_of_plan (Q := NoPanic Q) hs (fun c a w d v h => h) (fun i hi hiz => ?_) hn.2 _ _ _ a _ hp (fun j hj => ?_) (fun _ => hS) (wpPlanW_of_pick pl a _ hin (.inl hz) h)
    · exact List.contains_iff_mem.1 ((hn.1 i hi).resolve_left hiz)
    · rcases Nat.lt_or_ge j ops.length with h' | h'
      · simp [h'] at hj
      · simp [h'] at hj
  · cases hp
theorem lew_nil {bs : List Bool} {a : Act} {w : World} (h : Q .normal a w) : wpLexW P ops (NoPanic Q) S [] bs a w := h
theorem lew_take {os : List Oper} {bs : List Bool} {a : Act} {w : World} {o : Oper} {v : Value} (hw : Region.wanted o (yielded ops a.tmps) = true)
    (hv : ∀ w, S w → (execOp a.eval o).run P w = .ok (.value v) w) (h : wpLexW P ops Q S os bs (a.put o.dst v) w) : wpLexW P ops Q S (o :: os) (true :: bs) a w := ⟨v, .inl ⟨hw, hv⟩, h⟩
theorem lew_skip {os : List Oper} {bs : List Bool} {a : Act} {w : World} {o : Oper} (hw : Region.wanted o (yielded ops a.tmps) = false)
    (h : wpLexW P ops Q S os bs (a.put o.dst undef) w) : wpLexW P ops Q S (o :: os) (true :: bs) a w := ⟨undef, .inr ⟨hw, rfl⟩, h⟩
theorem lew_run {os : List Oper} {bs : List Bool} {a : Act} {w : World} {o : Oper} (hw : Region.wanted o (yielded ops a.tmps) = true)
    (h : ∀ K : Act → World → Prop, Shut (∀ a' w', (os = [] ∨ S w') → wpLexW P ops Q S os bs a' w' → K a' w') → o.wp P a w K Q) : wpLexW P ops Q S (o :: os) (false :: bs) a w := by
  unfold wpLexW
  rw [if_pos hw]
  exact h _ fun a' w' hS hp => ⟨hS, hp⟩
end
end Go.Proofs.Ytdkpfggfkhnjfaa

/- The laws' marking functions write running numbers into slices, cells and heaps of the call's own and turn nothing else; the holding functions then find them. For numbers below 2^40. -/
namespace Go.Proofs.Ytdkpfggfkhnjfaa
open Go.RowKit
theorem grown_trans {a b c : World} {r : Option Nat} (h : a.grownBy b r) (k : b.grownBy c r) : a.grownBy c r :=
  ⟨k.os.trans h.os, k.tape.trans h.tape, k.output.trans h.output, Nat.le_trans h.size k.size, fun i hi hne => (k.block i (Nat.lt_of_lt_of_le hi h.size) hne).trans (h.block i hi hne)⟩
def marks (k : Int) : Nat → List Int
  | 0 => []
  | n + 1 => marks k n ++ [k + n]
theorem marks_length (k : Int) : ∀ n, (marks k n).length = n
  | 0 => rfl
  | n + 1 => by simp [marks, marks_length k n]
theorem marks_at (k : Int) : ∀ (n i : Nat), i < n → (marks k n)[i]? = some (k + i)
  | n + 1, i, h => by
    rcases Nat.lt_or_ge i n with hi | hi
    · rw [marks, List.getElem?_append_left (by rw [marks_length]; exact hi), marks_at k n i hi]
    · obtain rfl : i = n := by omega
      rw [marks, List.getElem?_append_right (by rw [marks_length]; exact Nat.le_refl _), marks_length]; simp
theorem own_ne {w : World} {lo lo' : Nat} {e e' : TypeId} {s s' n n' : Nat} {v v' : Value} {ys ys' : List Value} (h : w.ownsRow lo e s v n ys) (h' : w.ownsRow lo' e' s' v' n' ys') (hne : e ≠ e') {k : Nat} (hk : v.ownBlock = some k) : v'.ownBlock ≠ some k := by
  intro hk'
  rcases h.2 with ⟨rfl, _⟩ | ⟨g, cap, cur, rfl, _, hg, _⟩
  · simp [Value.ownBlock] at hk
  rcases h'.2 with ⟨rfl, _⟩ | ⟨g', cap', cur', rfl, _, hg', _⟩
  · simp [Value.ownBlock] at hk'
  simp [Value.ownBlock] at hk hk'
  subst hk hk'
  rw [hg] at hg'
  injection hg' with hg'
  injection hg' with _ he
  exact hne he

theorem mark_set (k : Int) (xs : List Int) (j : Nat) (hj : j < xs.length) : ((marks k j ++ xs.drop j).map (Value.int .i64)).set j (.int .i64 (k + j)) = (marks k (j + 1) ++ xs.drop (j + 1)).map (Value.int .i64) := by
  rw [List.drop_eq_getElem_cons hj, List.map_append, List.set_append_right _ _ (by simp [marks_length]), marks]
  simp only [List.map_cons, List.length_map, marks_length, Nat.sub_self, List.set_cons_zero, List.map_append, List.append_assoc, List.cons_append, List.nil_append]

theorem Only.below {w w' : World} {lo hi : Nat} (h : Only lo hi w w') (hl : lo ≤ w.heap.size) : Below lo w w' := ⟨h.os, h.tape, h.output, h.size, fun k hk => h.block k (by omega) (.inl hk)⟩
theorem Only.grownI {w w' : World} {lo hi : Nat} {v : Value} {xs : List Int} (ho : OwI w lo hi v xs) (hg : w.grownBy w' v.ownBlock) : Only lo hi w w' :=
  ⟨hg.os, hg.tape, hg.output, hg.size, fun k hk hn => hg.block k hk fun e => by have := ho.lt k e.symm; have := (ho.own.lt k e.symm).1; omega⟩
theorem keepo {w w' : World} {lo hi : Nat} {p : Addr} {v : Value} (h : w.cell? p = some v) (hO : Only lo hi w w') (hp : p.block < lo) (hs : p.block < w.heap.size) : w'.cell? p = some v :=
  (World.cell?_of_block (hO.block p.block hs (.inl hp))).trans h
theorem OwI.only {w w' : World} {lo hi lo' hi' : Nat} {v : Value} {xs : List Int} (ho : OwI w lo hi v xs) (hO : Only lo' hi' w w') (h : hi ≤ lo' ∨ hi' ≤ lo) : OwI w' lo hi v xs :=
  ho.keep1 fun k e => hO.block k (ho.own.lt k e).2 (by have := ho.lt k e; have := (ho.own.lt k e).1; omega)
theorem OwI.rdI {w : World} {lo hi : Nat} {A : Option Addr} {n c : Nat} {xs : List Int} (ho : OwI w lo hi (.slice A n c) xs) : RdI w hi A n c xs := by
  obtain ⟨A', c', e, hr⟩ := ho.form
  injection e with e1 e2 e3
  subst e1 e2 e3
  exact hr

/-- What marking a row of cells adds to the running number, and what the cells then are. -/
def kAdd : List Cel → Nat
  | [] => 0
  | c :: cs => c.refs.length + 2 + kAdd cs
def mCel (k : Int) (c : Cel) : Cel := ⟨k % 3 == 0, k + 1, marks (k + 2) c.refs.length⟩
def mCells (k : Int) : List Cel → List Cel
  | [] => []
  | c :: cs => mCel k c :: mCells (k + (c.refs.length + 2 : Nat)) cs
def mHeap (k : Int) (h : Hp) : Hp := ⟨mCells k h.cells, marks (k + kAdd h.cells) h.roots.length⟩
def kHeap (h : Hp) : Nat := kAdd h.cells + h.roots.length
theorem kAdd_append : ∀ (xs ys : List Cel), kAdd (xs ++ ys) = kAdd xs + kAdd ys
  | [], _ => by simp [kAdd]
  | c :: cs, ys => by simp [kAdd, kAdd_append cs ys]; omega
theorem kAdd_ge : ∀ cs : List Cel, 2 * cs.length ≤ kAdd cs
  | [] => by simp [kAdd]
  | c :: cs => by have := kAdd_ge cs; simp [kAdd] at *; omega
theorem kAdd_bulk : ∀ cs : List Cel, kAdd cs ≤ 2 * cellsBulk cs
  | [] => by simp [kAdd]
  | c :: cs => by have := kAdd_bulk cs; simp [kAdd, cellsBulk] at *; omega
theorem kAdd_take (cs : List Cel) (i : Nat) : kAdd (cs.take i) ≤ kAdd cs := by
  have := kAdd_append (cs.take i) (cs.drop i)
  rw [List.take_append_drop] at this
  omega
theorem kAdd_succ {cs : List Cel} {i : Nat} {c : Cel} (h : Hid (cs[i]? = some c)) : kAdd (cs.take (i + 1)) = kAdd (cs.take i) + (c.refs.length + 2) := by
  obtain ⟨hi, rfl⟩ := List.getElem?_eq_some_iff.1 h.out
  rw [List.take_succ_eq_append_getElem hi, kAdd_append]; simp [kAdd]
theorem mCells_length : ∀ (k : Int) (cs : List Cel), (mCells k cs).length = cs.length
  | _, [] => rfl
  | k, c :: cs => by simp [mCells, mCells_length _ cs]
theorem mCells_snoc : ∀ (k : Int) (cs : List Cel) (c : Cel), mCells k (cs ++ [c]) = mCells k cs ++ [mCel (k + kAdd cs) c]
  | k, [], c => by simp [mCells, kAdd]
  | k, d :: cs, c => by
    rw [List.cons_append, mCells, mCells_snoc _ cs c, mCells, kAdd, List.cons_append, show k + ((d.refs.length + 2 : Nat) : Int) + (kAdd cs : Int) = k + ((d.refs.length + 2 + kAdd cs : Nat) : Int) by omega]
theorem mCells_set {k : Int} {cs : List Cel} {i : Nat} {c : Cel} (h : Hid (cs[i]? = some c)) : (mCells k (cs.take i) ++ cs.drop i).set i (mCel (k + kAdd (cs.take i)) c) = mCells k (cs.take (i + 1)) ++ cs.drop (i + 1) := by
  obtain ⟨hi, rfl⟩ := List.getElem?_eq_some_iff.1 h.out
  have hl : (mCells k (cs.take i)).length = i := by rw [mCells_length, List.length_take]; omega
  rw [List.take_succ_eq_append_getElem hi, mCells_snoc, List.set_append_right _ _ (by omega), hl, Nat.sub_self, List.drop_eq_getElem_cons hi, List.set_cons_zero, List.append_assoc]
  rfl
theorem mCells_here {k : Int} {cs : List Cel} {i : Nat} {c : Cel} (h : Hid (cs[i]? = some c)) : (mCells k (cs.take i) ++ cs.drop i)[i]? = some c := by
  obtain ⟨hi, rfl⟩ := List.getElem?_eq_some_iff.1 h.out
  have hl : (mCells k (cs.take i)).length = i := by rw [mCells_length, List.length_take]; omega
  rw [List.getElem?_append_right (by omega), hl, Nat.sub_self, List.drop_eq_getElem_cons hi]; rfl

section
variable {w w' w0 : World} {lo hi : Nat} {rvs : List Value} {cs : List Cel}
theorem cellVals_set2 : ∀ (cs : List Cel) (rvs : List Value) (i : Nat) (c : Cel) (u : Bool) (d : Int), rvs.length = cs.length → cs[i]? = some c →
    cellVals (cs.set i ⟨u, d, c.refs⟩) rvs = ((cellVals cs rvs).set (i * 3) (.bool u)).set (i * 3 + 1) (.int .i64 d)
  | [], _, _, _, _, _, _, h => by simp at h
  | _ :: _, [], _, _, _, _, h, _ => by simp at h
  | c :: cs, rv :: rvs, 0, c', u, d, _, h => by simp at h; subst h; simp [cellVals]
  | c :: cs, rv :: rvs, i + 1, c', u, d, hl, h => by
    have := cellVals_set2 cs rvs i c' u d (by simpa using hl) (by simpa using h)
    have e : (i + 1) * 3 = i * 3 + 3 := by omega
    rw [e, List.set_cons_succ, cellVals, this]
    simp [cellVals]
theorem cellVals_refs : ∀ (cs : List Cel) (rvs : List Value) (i : Nat) (c : Cel) (xs : List Int), cs[i]? = some c → cellVals (cs.set i ⟨c.used, c.data, xs⟩) rvs = cellVals cs rvs
  | [], _, _, _, _, h => by simp at h
  | _ :: _, [], _, _, _, _ => by simp [cellVals]
  | c :: cs, rv :: rvs, 0, c', xs, h => by simp at h; subst h; simp [cellVals]
  | c :: cs, rv :: rvs, i + 1, c', xs, h => by
    have := cellVals_refs cs rvs i c' xs (by simpa using h)
    rw [List.set_cons_succ, cellVals, this, cellVals]
theorem OwC.put {g n cap : Nat} {i : Nat} {c : Cel} (ho : OwC w lo hi (.slice (some ⟨g, 0, none⟩) n cap) rvs cs) (hn : n = cs.length) (hc : cs[i]? = some c) (u : Bool) (d : Int) :
    OwC ((w.setCell ⟨g, i * 3, none⟩ (.bool u)).setCell ⟨g, i * 3 + 1, none⟩ (.int .i64 d)) lo hi (.slice (some ⟨g, 0, none⟩) n cap) rvs (cs.set i ⟨u, d, c.refs⟩) := by
  subst hn
  obtain ⟨s1, g1⟩ := ho.own.stored (i * 3) (.bool u)
  obtain ⟨s2, g2⟩ := s1.stored (i * 3 + 1) (.int .i64 d)
  rw [← cellVals_set2 cs rvs i c u d ho.same hc] at s2
  refine ⟨by rw [List.length_set]; exact ho.same, by rw [List.length_set]; exact s2, ho.lt, fun i' rv c' h1 h2 => ?_, ho.apart⟩
  have key : ∀ c0, cs[i']? = some c0 → OwI ((w.setCell ⟨g, i * 3, none⟩ (.bool u)).setCell ⟨g, i * 3 + 1, none⟩ (.int .i64 d)) lo hi rv c0.refs := fun c0 h0 =>
    (ho.refs i' rv c0 h1 h0).keep1 fun k hk => by
      have hne : k ≠ g := fun e => own_ne (ho.refs i' rv c0 h1 h0).own ho.own (by decide) hk (by rw [e]; rfl)
      rw [Below.heap_setCell _ _ _ k (by exact hne), Below.heap_setCell _ _ _ k (by exact hne)]
  rw [List.getElem?_set] at h2
  split at h2
  · rename_i e
    subst e
    split at h2
    · injection h2 with h2; subst h2; exact key c hc
    · cases h2
  · exact key c' h2
theorem OwC.turn {v rv : Value} {i : Nat} {c : Cel} {xs : List Int} (ho : OwC w lo hi v rvs cs) (hrv : rvs[i]? = some rv) (hc : cs[i]? = some c) (hk : OwI w' lo hi rv xs) (hg : w.grownBy w' rv.ownBlock) :
    OwC w' lo hi v rvs (cs.set i ⟨c.used, c.data, xs⟩) := by
  refine ⟨by rw [List.length_set]; exact ho.same, ?_, ho.lt, fun i' rv' c' h1 h2 => ?_, ho.apart⟩
  · rw [List.length_set, cellVals_refs _ _ _ _ _ hc]
    refine own_keep ho.own fun k e => hg.block k (ho.own.lt k e).2 fun e' => ?_
    exact own_ne ho.own (ho.refs i rv c hrv hc).own (by decide) e e'.symm
  · rw [List.getElem?_set] at h2
    split at h2
    · rename_i e
      subst e
      split at h2
      · injection h2 with h2; subst h2
        rw [hrv] at h1
        injection h1 with h1
        subst h1
        exact hk
      · cases h2
    · rename_i e
      refine (ho.refs i' rv' c' h1 h2).keep1 fun k e' => hg.block k ((ho.refs i' rv' c' h1 h2).own.lt k e').2 fun e2 => ?_
      rcases ho.apart i i' rv rv' e hrv h1 with a | a
      · rw [← e2] at a; cases a
      · exact a (e2.symm.trans e'.symm)
theorem Only.trans {w1 w2 w3 : World} (h : Only lo hi w1 w2) (k : Only lo hi w2 w3) : Only lo hi w1 w3 :=
  ⟨k.os.trans h.os, k.tape.trans h.tape, k.output.trans h.output, Nat.le_trans h.size k.size, fun i hi hn => (k.block i (Nat.lt_of_lt_of_le hi h.size) hn).trans (h.block i hi hn)⟩
/-- Only blocks of P have turned. -/
structure Turn (P : Nat → Prop) (w w' : World) : Prop where
  os : w'.os = w.os
  tape : w'.tape = w.tape
  output : w'.output = w.output
  size : w.heap.size ≤ w'.heap.size
  block : ∀ k, k < w.heap.size → ¬ P k → w'.heap[k]? = w.heap[k]?
theorem Turn.refl (P : Nat → Prop) (w : World) : Turn P w w := ⟨rfl, rfl, rfl, Nat.le_refl _, fun _ _ _ => rfl⟩
theorem Turn.grown {P : Nat → Prop} (h : Turn P w0 w) {r : Option Nat} (hg : w.grownBy w' r) (hr : ∀ k, r = some k → P k) : Turn P w0 w' :=
  ⟨hg.os.trans h.os, hg.tape.trans h.tape, hg.output.trans h.output, Nat.le_trans h.size hg.size, fun k hk hn => (hg.block k (Nat.lt_of_lt_of_le hk h.size) fun e => hn (hr k e.symm)).trans (h.block k hk hn)⟩
theorem Turn.setCell {P : Nat → Prop} (h : Turn P w0 w) {p : Addr} (u : Value) (h1 : P p.block) : Turn P w0 (w.setCell p u) :=
  ⟨h.os, h.tape, h.output, by simpa using h.size, fun k hk hn => (Below.heap_setCell w p u k (fun e => hn (e ▸ h1))).trans (h.block k hk hn)⟩
theorem Turn.trans {P : Nat → Prop} {w1 w2 w3 : World} (h : Turn P w1 w2) (k : Turn P w2 w3) : Turn P w1 w3 :=
  ⟨k.os.trans h.os, k.tape.trans h.tape, k.output.trans h.output, Nat.le_trans h.size k.size, fun i hi hn => (k.block i (Nat.lt_of_lt_of_le hi h.size) hn).trans (h.block i hi hn)⟩
theorem Turn.wide {P R : Nat → Prop} (h : Turn P w w') (hw : ∀ k, P k → R k) : Turn R w w' := ⟨h.os, h.tape, h.output, h.size, fun k hk hn => h.block k hk fun e => hn (hw k e)⟩
theorem Turn.only {P : Nat → Prop} (h : Turn P w w') (hp : ∀ k, P k → lo ≤ k ∧ k < hi) : Only lo hi w w' :=
  ⟨h.os, h.tape, h.output, h.size, fun k hk hn => h.block k hk fun e => by have := hp k e; omega⟩
def CellBlocks (v : Value) (rvs : List Value) (k : Nat) : Prop := v.ownBlock = some k ∨ ∃ x ∈ rvs, x.ownBlock = some k
theorem OwC.blocks {v : Value} (ho : OwC w lo hi v rvs cs) (k : Nat) (hk : CellBlocks v rvs k) : (lo ≤ k ∧ k < hi) ∧ k < w.heap.size := by
  rcases hk with h | ⟨x, hx, h⟩
  · exact ⟨⟨(ho.own.lt k h).1, ho.lt k h⟩, (ho.own.lt k h).2⟩
  · obtain ⟨i, hi, rfl⟩ := List.mem_iff_getElem.1 hx
    have hr := ho.refs i _ (cs[i]'(by rw [← ho.same]; exact hi)) (List.getElem?_eq_getElem hi) (List.getElem?_eq_getElem _)
    exact ⟨⟨(hr.own.lt k h).1, hr.lt k h⟩, (hr.own.lt k h).2⟩
end

theorem OwC.keepB {w w' : World} {lo hi : Nat} {rvs : List Value} {cs : List Cel} {v : Value} (ho : OwC w lo hi v rvs cs) (hk : ∀ k, CellBlocks v rvs k → w'.heap[k]? = w.heap[k]?) : OwC w' lo hi v rvs cs :=
  ⟨ho.same, own_keep ho.own fun k e => hk k (.inl e), ho.lt, fun i rv c h1 h2 => (ho.refs i rv c h1 h2).keep1 fun k e => hk k (.inr ⟨rv, List.mem_of_getElem? h1, e⟩), ho.apart⟩
theorem apart_ne {a b : Value} (h : Apart a b) {k : Nat} (hk : a.ownBlock = some k) : b.ownBlock ≠ some k := by
  intro e
  rcases h with h | h
  · rw [hk] at h; cases h
  · exact h (hk.trans e.symm)
end Go.Proofs.Ytdkpfggfkhnjfaa

/- Copies of slices and heaps: clone, copyHeap, l7Copy: each makes what it was handed. -/
namespace Go.Proofs.Ytdkpfggfkhnjfaa
open Go.RowKit
theorem run_pushA {w : World} {lo B : Nat} {v : Value} {xs ys : List Int} {A : Option Addr} {n c : Nat} (hown : w.ownsRow lo 3 1 v xs.length (xs.map (Value.int .i64))) (hr : RdI w B A n c ys) (hb : xs.length + n ≤ 1099511627776) (hlo : lo ≤ w.heap.size) (ty : TypeId) :
    ∃ v' w', (Builtin.append_ #[27, 27] ty #[v, .slice A n c]).run Try.prog w = .ok v' w' ∧ OwI w' lo w'.heap.size v' (xs ++ ys) ∧ w.grownBy w' v.ownBlock := by
  obtain ⟨i0, hi, hz0, hz1, hz2⟩ := info_parts Try.infoInt
  have l1 := RdI.le1 hr; have l2 := RdI.le2 hr
  rcases Nat.eq_zero_or_pos n with h0 | h0
  · subst h0
    obtain rfl : ys = [] := List.length_eq_zero_iff.1 (by omega)
    have hs : Src Try.prog i0.size 27 (.slice A 0 c) 0 [] w := by
      cases A with
      | none => exact Src.ofNil w Try.underlying27 c
      | some a => exact Src.ofSlice w Try.underlying27 a 0 c [] (by simp) (by simp) (by simp)
    have hold : OwI w lo w.heap.size v (xs ++ []) := by rw [List.append_nil]; exact ⟨hown, fun k e => (hown.lt k e).2⟩
    rcases hown.2 with ⟨rfl, _⟩ | ⟨g, cap, cur, rfl, _, _, hc, _⟩
    · exact ⟨_, w, run_append_nothing w _ _ ty 3 i0 Try.underlying27 hi none 0 0 (Nat.le_refl _) _ hs, hold, World.grownBy.refl _ _⟩
    · exact ⟨_, w, run_append_nothing w _ _ ty 3 i0 Try.underlying27 hi (some ⟨g, 0, none⟩) _ cap hc _ hs, hold, World.grownBy.refl _ _⟩
  · obtain ⟨b, o, rfl, hbb, hc⟩ := hr.rd h0
    obtain ⟨v', w', hrun, ho, hg, -, -⟩ := run_append_own_at (P := Try.prog) w lo 27 ty 3 i0 (.int .i64 0) 1 8 Try.underlying27 hi hz0 hz1 hz2 rfl (by omega) v xs.length _ hown ⟨b, o, none⟩ n c (ys.map (Value.int .i64)) (by simp; omega)
      (fun j u hu => by rw [show (⟨b, o, none⟩ : Addr).add j = ⟨b, o + j, none⟩ from Addr.add_lit _ _ _]; exact hc j u hu) (mapI_oneCell ys) (by unfold maxLen; omega) (by omega) hlo
    refine ⟨v', w', hrun, ?_, hg⟩
    have hlen : xs.length + n = (xs ++ ys).length := by simp; omega
    rw [hlen, ← List.map_append] at ho
    exact ⟨ho, fun k e => (ho.lt k e).2⟩
theorem wpList_pushA {w : World} {ops : Array Oper} {rest : List Oper} {o : Oper} {a : Act} {Q : Exit → Act → World → Prop} (hgd : o.guard = none) (s x : Operand)
    (hop : o.op = .call { callee := .builtin .append, args := #[s, x], argTypes := #[27, 27] })
    (lo : Nat) (v : Value) (xs : List Int) (hs : a.eval s = v) (hown : w.ownsRow lo 3 1 v xs.length (xs.map (Value.int .i64)))
    {B : Nat} {A : Option Addr} {n c : Nat} {ys : List Int} (hx : a.eval x = .slice A n c) (hr : RdI w B A n c ys) (hb : xs.length + n ≤ 1099511627776) (hlo : lo ≤ w.heap.size)
    (h : ∀ v' w', OwI w' lo w'.heap.size v' (xs ++ ys) → w.grownBy w' v.ownBlock → wpList Try.prog ops Q rest (a.put o.dst v') w') : wpList Try.prog ops Q (o :: rest) a w := by
  refine wpList_plain hgd fun K hK => ?_
  obtain ⟨v', w', hrun, ho, hg⟩ := run_pushA hown hr hb hlo o.type
  unfold Oper.wp execOp
  simp only [hop, resolve, invoke, builtin, Sem.run_bind, Sem.run_pure, Result.andThen_ok, List.map_toArray, List.map_cons, List.map_nil, hs, hx, hrun]
  exact hK _ _ (h v' w' ho hg)

theorem wp_pushA {w : World} {o : Oper} {a : Act} {K : Act → World → Prop} {Q : Exit → Act → World → Prop} (s x : Operand)
    (hop : o.op = .call { callee := .builtin .append, args := #[s, x], argTypes := #[27, 27] })
    (lo : Nat) (v : Value) (xs : List Int) (hs : a.eval s = v) (hown : w.ownsRow lo 3 1 v xs.length (xs.map (Value.int .i64)))
    {B : Nat} {A : Option Addr} {n c : Nat} {ys : List Int} (hx : a.eval x = .slice A n c) (hr : RdI w B A n c ys) (hb : xs.length + n ≤ 1099511627776) (hlo : lo ≤ w.heap.size)
    (h : ∀ v' w', OwI w' lo w'.heap.size v' (xs ++ ys) → w.grownBy w' v.ownBlock → K (a.put o.dst v') w') : o.wp Try.prog a w K Q := by
  obtain ⟨v', w', hrun, ho, hg⟩ := run_pushA hown hr hb hlo o.type
  unfold Oper.wp execOp
  simp only [hop, resolve, invoke, builtin, Sem.run_bind, Sem.run_pure, Result.andThen_ok, List.map_toArray, List.map_cons, List.map_nil, hs, hx, hrun]
  exact h v' w' ho hg
theorem clone_any (w : World) (B : Nat) (A : Option Addr) (n c : Nat) (xs : List Int) (hr : RdI w B A n c xs) (hn : n ≤ 1048576) :
    Calls Try.prog 66 #[.slice A n c] w (MadeI w xs) := by
  have hr := hr.top
  obtain ⟨i0, hi, hz0, hz1, hz2⟩ := info_parts Try.infoInt
  go_enter Try.func66, Try.ntmps66
  go_wp2_with (at_make; refine wpList_make_own _ rfl _ _ _ rfl w.heap.size 3 i0 (.int .i64 0) 1 Try.underlying27 hi hz0 hz1 .i64 .i64 _ n rfl rfl rfl (by rw [hz2]; omega) (by unfold maxLen; omega) (Nat.le_refl _) ?_)
  intro w2 hown hg
  have hb1 : Below w.heap.size w w2 := (Below.refl _ _).grown hg (Nat.le_refl _) (by simp)
  have hz := hb1.size
  go_wp2_with (at_builtin; go_loud (refine wpList_pushA rfl (.tmp 5) (.tmp 6) rfl w.heap.size _ [] rfl hown rfl (hr.below hb1) (by simp; omega) hz ?_; intro v3 w3 ho3 hg3))
  go_ret
  exact ⟨_, rfl, by simpa using ho3, hb1.grown hg3 hz fun k hk => (hown.lt k hk).1⟩
theorem apart_symm {a b : Value} (h : Apart a b) : Apart b a := by
  unfold Apart at *
  cases hb : b.ownBlock with
  | none => exact .inl rfl
  | some k =>
    refine .inr fun e => ?_
    rcases h with h | h
    · rw [h] at e; cases e
    · exact h (by rw [hb]; exact e.symm)
theorem OwC.push {w w' : World} {lo hi : Nat} {v v' : Value} {rvs : List Value} {cs : List Cel} (ho : OwC w lo hi v rvs cs) {c : Cel} {rv : Value} (hrv : OwI w lo w.heap.size rv c.refs) (hap : ∀ x ∈ rvs, Apart rv x)
    (hown : w'.ownsRow lo 49 3 v' (cs.length + 1) (cellVals cs rvs ++ [.bool c.used, .int .i64 c.data, rv])) (hg : w.grownBy w' v.ownBlock) (hhi : hi ≤ w.heap.size) : OwC w' lo w'.heap.size v' (rvs ++ [rv]) (cs ++ [c]) := by
  have hsame := ho.same
  refine ⟨by simp [hsame], by rw [cellVals_snoc _ _ _ _ hsame, List.length_append]; exact hown, fun k e => (hown.lt k e).2, fun i q d h1 h2 => ?_, fun i j a b hij h1 h2 => ?_⟩
  · have keep : ∀ {q : Value} {xs : List Int}, OwI w lo w.heap.size q xs → OwI w' lo w'.heap.size q xs := fun {q xs} hq =>
      (hq.keep1 fun k e => hg.block k (hq.own.lt k e).2 fun e' => own_ne ho.own hq.own (by decide) e'.symm e).wide (Nat.le_refl _) hg.size
    rcases snoc_cases h1 with ⟨hi1, h1⟩ | ⟨hi1, rfl⟩
    · rcases snoc_cases h2 with ⟨_, h2⟩ | ⟨hi2, _⟩
      · exact keep ((ho.refs i q d h1 h2).wide (Nat.le_refl _) hhi)
      · omega
    · rcases snoc_cases h2 with ⟨hi2, _⟩ | ⟨_, rfl⟩
      · omega
      · exact keep hrv
  · rcases snoc_cases h1 with ⟨hi1, k1⟩ | ⟨hi1, rfl⟩ <;> rcases snoc_cases h2 with ⟨hj, k2⟩ | ⟨hj, rfl⟩
    · exact ho.apart i j a b hij k1 k2
    · exact apart_symm (hap a (List.mem_of_getElem? k1))
    · exact hap b (List.mem_of_getElem? k2)
    · omega
theorem run_pushC {w : World} {lo hi : Nat} {v : Value} {rvs : List Value} {cs : List Cel} (ho : OwC w lo hi v rvs cs) (hhi : hi ≤ w.heap.size) {g : Nat} {c : Cel} {rv : Value} (hrv : OwI w lo w.heap.size rv c.refs) (hap : ∀ x ∈ rvs, Apart rv x) (hone : rv.oneCell' = true)
    (hb : w.heap[g]? = some (.cells #[.bool c.used, .int .i64 c.data, rv] 49)) (hn : cs.length + 1 ≤ 1099511627776) (hlo : lo ≤ w.heap.size) (ty : TypeId) (k : Nat) :
    ∃ v' w', (Builtin.append_ #[26, 26] ty #[v, .slice (some ⟨g, 0, none⟩) 1 k]).run Try.prog w = .ok v' w' ∧ OwC w' lo w'.heap.size v' (rvs ++ [rv]) (cs ++ [c]) ∧ w.grownBy w' v.ownBlock := by
  obtain ⟨i0, hi0, hz0, hz1, hz2⟩ := info_parts Try.infoCell
  obtain ⟨v', w', hrun, hown, hg, -, -⟩ := run_append_own_at (P := Try.prog) w lo 26 ty 49 i0 (.agg #[.bool false, .int .i64 0, .slice none 0 0]) 3 40 Try.underlying26 hi0 hz0 hz1 hz2 rfl (by omega) v cs.length _ ho.own ⟨g, 0, none⟩ 1 k [.bool c.used, .int .i64 c.data, rv] rfl
    (World.news_of_block hb) (by simp [hone]; exact ⟨rfl, rfl⟩) (by unfold maxLen; omega) (by omega) hlo
  exact ⟨v', w', hrun, ho.push hrv hap hown hg hhi, hg⟩
theorem wp_pushC {w : World} {o : Oper} {a : Act} {K : Act → World → Prop} {Q : Exit → Act → World → Prop} (s x : Operand)
    (hop : o.op = .call { callee := .builtin .append, args := #[s, x], argTypes := #[26, 26] })
    {lo hi : Nat} {v : Value} {rvs : List Value} {cs : List Cel} (hs : a.eval s = v) (ho : OwC w lo hi v rvs cs) (hhi : hi ≤ w.heap.size) {g k : Nat} {c : Cel} {rv : Value} (hx : a.eval x = .slice (some ⟨g, 0, none⟩) 1 k) (hrv : OwI w lo w.heap.size rv c.refs) (hap : ∀ x ∈ rvs, Apart rv x) (hone : rv.oneCell' = true)
    (hb : w.heap[g]? = some (.cells #[.bool c.used, .int .i64 c.data, rv] 49)) (hn : cs.length + 1 ≤ 1099511627776) (hlo : lo ≤ w.heap.size)
    (h : ∀ v' w', OwC w' lo w'.heap.size v' (rvs ++ [rv]) (cs ++ [c]) → w.grownBy w' v.ownBlock → K (a.put o.dst v') w') : o.wp Try.prog a w K Q := by
  obtain ⟨v', w', hrun, h1, hg⟩ := run_pushC ho hhi hrv hap hone hb hn hlo o.type k
  unfold Oper.wp execOp
  simp only [hop, resolve, invoke, builtin, Sem.run_bind, Sem.run_pure, Result.andThen_ok, List.map_toArray, List.map_cons, List.map_nil, hs, hx, hrun]
  exact h v' w' h1 hg
end Go.Proofs.Ytdkpfggfkhnjfaa

/- What a call owns while it runs: boxes, rows and heaps in blocks that do not meet, beside memory that is as it was. No program is walked here; no condition. -/
namespace Go.Proofs.Ytdkpfggfkhnjfaa
open Go.RowKit

theorem drew_size (w : World) : w.drew.heap.size = w.heap.size := rfl
theorem take_snoc' {α : Type} {l : List α} {k : Nat} {x : α} (h : Hid (l[k]? = some x)) : l.take (k + 1) = l.take k ++ [x] := by
  obtain ⟨hk, rfl⟩ := List.getElem?_eq_some_iff.1 h.out
  exact List.take_succ_eq_append_getElem hk
theorem nil_or_snoc {α : Type} (l : List α) : l = [] ∨ ∃ l' x, l = l' ++ [x] := by
  rcases List.eq_nil_or_concat l with h | ⟨l', x, h⟩
  · exact .inl h
  · exact .inr ⟨l', x, by rw [h, List.concat_eq_append]⟩
inductive OB where
  | box (g : Nat) (vs : List Value) (t : TypeId)
  | row (e : TypeId) (size : Nat) (v : Value) (n : Nat) (ys : List Value)
  | cells (v : Value) (rvs : List Value) (cs : List Cel)
abbrev OB.ints (v : Value) (xs : List Int) : OB := .row 3 1 v xs.length (xs.map (Value.int .i64))
abbrev OB.bools (v : Value) (bs : List Bool) : OB := .row 4 1 v bs.length (bs.map Value.bool)
def OB.blks : OB → Nat → Prop
  | .box g _ _, k => k = g
  | .row _ _ v _ _, k => v.ownBlock = some k
  | .cells v rvs _, k => CellBlocks v rvs k
def OB.holds (lo : Nat) (w : World) : OB → Prop
  | .box g vs t => lo ≤ g ∧ w.heap[g]? = some (.cells vs.toArray t (0, 0))
  | .row e size v n ys => w.ownsRow lo e size v n ys
  | .cells v rvs cs => OwC w lo w.heap.size v rvs cs
section
variable {lo : Nat} {w0 w w' : World} {X X' Y : OB} {L : List OB}
theorem OB.holds.lt (h : X.holds lo w) : ∀ k, X.blks k → lo ≤ k ∧ k < w.heap.size := by
  intro k hk
  cases X with
  | box g vs t => simp only [OB.blks] at hk; subst hk; exact ⟨h.1, (Array.getElem?_eq_some_iff.1 h.2).1⟩
  | row e s v n ys => exact World.ownsRow.lt h k hk
  | cells v rvs cs => exact ⟨(OwC.blocks h k hk).1.1, (OwC.blocks h k hk).2⟩
theorem OwC.keepW {lo hi hi' : Nat} {v : Value} {rvs : List Value} {cs : List Cel} (ho : OwC w lo hi v rvs cs) (hk : ∀ k, CellBlocks v rvs k → w'.heap[k]? = w.heap[k]?) (hh : hi ≤ hi') : OwC w' lo hi' v rvs cs := (ho.keepB hk).wide (Nat.le_refl _) hh
theorem OB.holds.keep (h : X.holds lo w) (hk : ∀ k, X.blks k → w'.heap[k]? = w.heap[k]?) (hs : w.heap.size ≤ w'.heap.size) : X.holds lo w' := by
  cases X with
  | box g vs t => exact ⟨h.1, (hk g rfl).trans h.2⟩
  | row e s v n ys => exact own_keep h hk
  | cells v rvs cs => exact OwC.keepW h hk hs

/-- What a call owns. -/
structure Owns (lo : Nat) (w0 w : World) (L : List OB) : Prop where
  below : Below lo w0 w
  le : lo ≤ w.heap.size
  holds : ∀ (i : Nat) (X : OB), L[i]? = some X → X.holds lo w
  apart : ∀ (i j : Nat) (X Y : OB), i ≠ j → L[i]? = some X → L[j]? = some Y → ∀ k, X.blks k → ¬ Y.blks k
theorem Owns.nil (w : World) : Owns w.heap.size w w [] := ⟨Below.refl _ _, Nat.le_refl _, fun i X h => by simp at h, fun i j X Y _ h => by simp at h⟩
theorem Owns.nilAt {lo : Nat} (h : lo ≤ w.heap.size) : Owns lo w w [] := ⟨Below.refl _ _, h, fun i X h => by simp at h, fun i j X Y _ h => by simp at h⟩
theorem Owns.call (h : Owns lo w0 w L) (hb : Below w.heap.size w w') : Owns lo w0 w' L :=
  ⟨h.below.trans (hb.mono h.le), Nat.le_trans h.le hb.size, fun i X hX => (h.holds i X hX).keep (fun k hk => hb.block k ((h.holds i X hX).lt k hk).2) hb.size, h.apart⟩
theorem Owns.alloc (h : Owns lo w0 w L) (o : Obj) : Owns lo w0 (w.alloc o) L := h.call (below_alloc w o)
theorem Owns.drew (h : Owns lo w0 w L) : Owns lo w0 w.drew L := h.call (Below.refl _ _).drew
theorem Owns.drewN (h : Owns lo w0 w L) (n : Nat) : Owns lo w0 (w.drewN n) L := h.call (below_drewN (Below.refl _ _) n)
/-- Something new is owned. -/
theorem Owns.new (h : Owns lo w0 w L) (hb : Below w.heap.size w w') (hX : X.holds lo w') (hn : ∀ k, X.blks k → w.heap.size ≤ k) : Owns lo w0 w' (X :: L) := by
  have h' := h.call hb
  refine ⟨h'.below, h'.le, fun i Y hY => ?_, fun i j Y Z hij hY hZ k hk => ?_⟩
  · cases i with
    | zero => simp at hY; subst hY; exact hX
    | succ i => exact h'.holds i Y (by simpa using hY)
  · cases i with
    | zero =>
      simp at hY; subst hY
      cases j with
      | zero => exact absurd rfl hij
      | succ j =>
        intro hz
        have := ((h.holds j Z (by simpa using hZ)).lt k hz).2
        have := hn k hk
        omega
    | succ i =>
      cases j with
      | zero =>
        simp at hZ; subst hZ
        intro hz
        have := ((h.holds i Y (by simpa using hY)).lt k hk).2
        have := hn k hz
        omega
      | succ j => exact h'.apart i j Y Z (by omega) (by simpa using hY) (by simpa using hZ) k hk
theorem Owns.box (h : Owns lo w0 w L) (vs : List Value) (t : TypeId) : Owns lo w0 (w.alloc (.cells vs.toArray t)) (.box w.heap.size vs t :: L) :=
  h.new (below_alloc _ _) ⟨h.le, heap1 w _⟩ fun k hk => by simp only [OB.blks] at hk; omega
theorem Owns.row {e : TypeId} {s n : Nat} {v : Value} {ys : List Value} (h : Owns lo w0 w L) (hb : Below w.heap.size w w') (ho : w'.ownsRow w.heap.size e s v n ys) : Owns lo w0 w' (.row e s v n ys :: L) :=
  h.new hb (own_lo ho h.le) fun k hk => (ho.lt k hk).1
/-- A literal or an empty row. -/
theorem Owns.lit (h : Owns lo w0 w L) (vs : List Value) (t : TypeId) (hm : vs.length ≤ maxLen) : Owns lo w0 (w.alloc (.cells vs.toArray t)) (.row t 1 (.slice (some ⟨w.heap.size, 0, none⟩) vs.length vs.length) vs.length vs :: L) :=
  h.row (below_alloc _ _) (own_lit w t _ vs (Nat.le_refl _) hm)
theorem Owns.litI (h : Owns lo w0 w L) (xs : List Int) (hm : xs.length ≤ maxLen) : Owns lo w0 (w.alloc (.cells (xs.map (Value.int .i64)).toArray 3)) (.ints (.slice (some ⟨w.heap.size, 0, none⟩) xs.length xs.length) xs :: L) := by
  have := h.lit (xs.map (Value.int .i64)) 3 (by simpa using hm)
  simpa using this
theorem Owns.noInts (h : Owns lo w0 w L) : Owns lo w0 w (.ints (.slice none 0 0) [] :: L) := h.row (Below.refl _ _) (World.ownsRow_nil _ _ _ _)
theorem Owns.noBools (h : Owns lo w0 w L) : Owns lo w0 w (.bools (.slice none 0 0) [] :: L) := h.row (Below.refl _ _) (World.ownsRow_nil _ _ _ _)
theorem OwC.nil (w : World) (lo hi : Nat) : OwC w lo hi (.slice none 0 0) [] [] := ⟨rfl, World.ownsRow_nil _ _ _ _, fun k e => by simp [Value.ownBlock] at e, fun i q c e => by simp at e, fun i j a b _ e => by simp at e⟩
theorem Owns.noCells (h : Owns lo w0 w L) : Owns lo w0 w (.cells (.slice none 0 0) [] [] :: L) :=
  h.new (Below.refl _ _) (OwC.nil w _ _) fun k hk => by simp [OB.blks, CellBlocks, Value.ownBlock] at hk
theorem Owns.madeI {v : Value} {xs : List Int} (h : Owns lo w0 w L) (ho : OwI w' w.heap.size w'.heap.size v xs) (hb : Below w.heap.size w w') : Owns lo w0 w' (.ints v xs :: L) := h.row hb ho.own
theorem Owns.madeB {v : Value} {bs : List Bool} (h : Owns lo w0 w L) (ho : OwB w' w.heap.size w'.heap.size v bs) (hb : Below w.heap.size w w') : Owns lo w0 w' (.bools v bs :: L) := h.row hb ho.own
theorem Owns.madeC {v : Value} {rvs : List Value} {cs : List Cel} (h : Owns lo w0 w L) (ho : OwC w' w.heap.size w'.heap.size v rvs cs) (hb : Below w.heap.size w w') : Owns lo w0 w' (.cells v rvs cs :: L) :=
  h.new hb (ho.wide h.le (Nat.le_refl _)) fun k hk => (ho.blocks k hk).1.1
/-- Two new things at once. -/
theorem Owns.new2 (h : Owns lo w0 w L) (hb : Below w.heap.size w w') (hX : X.holds lo w') (hn : ∀ k, X.blks k → w.heap.size ≤ k) (hY : Y.holds lo w') (hm : ∀ k, Y.blks k → w.heap.size ≤ k) (ha : ∀ k, X.blks k → ¬ Y.blks k) : Owns lo w0 w' (X :: Y :: L) := by
  have h' := h.new hb hY hm
  refine ⟨h'.below, h'.le, fun i Z hZ => ?_, fun i j Z T hij hZ hT k hk => ?_⟩
  · cases i with
    | zero => simp at hZ; subst hZ; exact hX
    | succ i => exact h'.holds i Z (by simpa using hZ)
  · have key : ∀ (j : Nat) (T : OB), (Y :: L)[j]? = some T → ∀ k, X.blks k → ¬ T.blks k := fun j T hT k hk => by
      cases j with
      | zero => simp at hT; subst hT; exact ha k hk
      | succ j =>
        intro ht
        have := ((h.holds j T (by simpa using hT)).lt k ht).2
        have := hn k hk
        omega
    cases i with
    | zero =>
      simp at hZ; subst hZ
      cases j with
      | zero => exact absurd rfl hij
      | succ j => exact key j T (by simpa using hT) k hk
    | succ i =>
      cases j with
      | zero =>
        simp at hT; subst hT
        exact fun ht => key i Z (by simpa using hZ) k ht hk
      | succ j => exact h'.apart i j Z T (by omega) (by simpa using hZ) (by simpa using hT) k hk
theorem Owns.madeH {v : Value} {h0 : Hp} (h : Owns lo w0 w L) (ho : OwH w' w.heap.size w'.heap.size v h0) (hb : Below w.heap.size w w') :
    ∃ cv rvs rv, v = .agg #[cv, rv] ∧ Owns lo w0 w' (.cells cv rvs h0.cells :: .ints rv h0.roots :: L) := by
  obtain ⟨cv, rvs, rv, rfl, hC, hR, hA⟩ := ho
  refine ⟨cv, rvs, rv, rfl, h.new2 hb (hC.wide h.le (Nat.le_refl _)) (fun k hk => (hC.blocks k hk).1.1) (own_lo hR.own h.le) (fun k hk => (hR.own.lt k hk).1) fun k hk hr => ?_⟩
  rcases hk with e | ⟨x, hx, e⟩
  · exact own_ne hC.own hR.own (by decide) e hr
  · exact apart_ne (hA x hx) hr e
/-- The i-th thing turns. -/
theorem Owns.turn (h : Owns lo w0 w L) (i : Nat) (hX : L[i]? = some X) (hT : Turn X.blks w w') (hH : X'.holds lo w') (hb : ∀ k, X'.blks k → X.blks k ∨ w.heap.size ≤ k) : Owns lo w0 w' (L.set i X') := by
  have hXh := h.holds i X hX
  have hle := Nat.le_trans h.le hT.size
  have hi : i < L.length := (List.getElem?_eq_some_iff.1 hX).1
  refine ⟨h.below.trans ⟨hT.os, hT.tape, hT.output, hT.size, fun k hk => hT.block k (by have := h.le; omega) fun e => by have := (hXh.lt k e).1; omega⟩, hle, fun j Y hY => ?_, fun a b Y Z hab hY hZ k hk => ?_⟩
  · rw [List.getElem?_set] at hY
    split at hY
    · (try rw [if_pos hi] at hY); injection hY with hY; subst hY; exact hH
    · rename_i hne
      exact (h.holds j Y hY).keep (fun k hk => hT.block k ((h.holds j Y hY).lt k hk).2 (h.apart j i Y X (fun e => hne e.symm) hY hX k hk)) hT.size
  · rw [List.getElem?_set] at hY hZ
    split at hY
    · rename_i e1
      (try rw [if_pos hi] at hY); injection hY with hY; subst hY
      split at hZ
      · rename_i e2; exact absurd (e1.symm.trans e2) hab
      · rename_i hne
        intro hz
        rcases hb k hk with h1 | h1
        · exact h.apart i b X Z (by omega) hX hZ k h1 hz
        · have := ((h.holds b Z hZ).lt k hz).2; omega
    · rename_i hne
      split at hZ
      · (try rw [if_pos hi] at hZ); injection hZ with hZ; subst hZ
        intro hz
        rcases hb k hz with h1 | h1
        · exact h.apart a i Y X (by omega) hY hX k hk h1
        · have := ((h.holds a Y hY).lt k hk).2; omega
      · exact h.apart a b Y Z hab hY hZ k hk
theorem turn_set {P : Nat → Prop} {p : Addr} {u : Value} (hp : P p.block) : Turn P w (w.setCell p u) := (Turn.refl P w).setCell u hp
theorem turn_grown {P : Nat → Prop} {r : Option Nat} (hg : w.grownBy w' r) (hr : ∀ k, r = some k → P k) : Turn P w w' := (Turn.refl P w).grown hg hr
theorem Owns.putBox {g : Nat} {vs : List Value} {t : TypeId} (h : Owns lo w0 w L) (i : Nat) (hX : L[i]? = some (.box g vs t)) (j : Nat) (u : Value) : Owns lo w0 (w.setCell ⟨g, j, none⟩ u) (L.set i (.box g (vs.set j u) t)) := by
  have hXh := h.holds i _ hX
  refine h.turn i hX (turn_set rfl) ⟨hXh.1, ?_⟩ fun k hk => .inl hk
  have := heap_setCell_same w g j vs.toArray t u hXh.2
  simpa using this
theorem Owns.putRow {e : TypeId} {s g n c : Nat} {ys : List Value} (h : Owns lo w0 w L) (i : Nat) (hX : L[i]? = some (.row e s (.slice (some ⟨g, 0, none⟩) n c) n ys)) (j : Nat) (u : Value) :
    Owns lo w0 (w.setCell ⟨g, j, none⟩ u) (L.set i (.row e s (.slice (some ⟨g, 0, none⟩) n c) n (ys.set j u))) := by
  have hXh : w.ownsRow lo e s _ n ys := h.holds i _ hX
  exact h.turn i hX (turn_set rfl) (hXh.stored j u).1 fun k hk => .inl hk
theorem Owns.grow {e : TypeId} {s n n' : Nat} {v v' : Value} {ys ys' : List Value} (h : Owns lo w0 w L) (i : Nat) (hX : L[i]? = some (.row e s v n ys)) (ho : w'.ownsRow lo e s v' n' ys') (hg : w.grownBy w' v.ownBlock) (hv : v'.ownBlock = v.ownBlock ∨ v'.ownBlock = some w.heap.size) :
    Owns lo w0 w' (L.set i (.row e s v' n' ys')) :=
  h.turn i hX (turn_grown hg fun k hk => hk) ho fun k hk => by
    simp only [OB.blks] at hk ⊢
    rcases hv with hv | hv
    · exact .inl (hv ▸ hk)
    · right; rw [hv] at hk; injection hk with hk; omega
theorem Owns.shrink {e : TypeId} {s g n c : Nat} {ys : List Value} (h : Owns lo w0 w L) (i : Nat) (hX : L[i]? = some (.row e s (.slice (some ⟨g, 0, none⟩) n c) n ys)) (k : Nat) (hk : k ≤ n) :
    Owns lo w0 w (L.set i (.row e s (.slice (some ⟨g, 0, none⟩) k c) k (ys.take (k * s)))) := by
  have ho : w.ownsRow lo e s _ n ys := h.holds i _ hX
  have hks : k * s ≤ n * s := Nat.mul_le_mul_right _ hk
  refine h.turn i hX (Turn.refl _ _) (X' := .row e s (.slice (some ⟨g, 0, none⟩) k c) k (ys.take (k * s))) ⟨by rw [List.length_take, ho.1]; omega, ?_⟩ fun q hq => .inl hq
  rcases ho.2 with ⟨h', _⟩ | ⟨g', c', cur, h', hb, hg, hn, hm, hs, ht⟩
  · cases h'
  · injection h' with h1 h2 h3
    subst h3
    refine .inr ⟨g', c, cur, by rw [h1], hb, hg, by omega, hm, hs, ?_⟩
    rw [← ht, List.take_take, Nat.min_eq_left hks]
/-- Some things are let go of, or told in another order. -/
theorem Owns.pick (h : Owns lo w0 w L) (f : Nat → Nat) {L' : List OB} (hf : ∀ i X, L'[i]? = some X → L[f i]? = some X) (hi : ∀ i j, i < L'.length → j < L'.length → f i = f j → i = j) : Owns lo w0 w L' :=
  ⟨h.below, h.le, fun i X hX => h.holds _ X (hf i X hX), fun i j X Y hij hX hY => h.apart (f i) (f j) X Y (fun e => hij (hi i j (List.getElem?_eq_some_iff.1 hX).1 (List.getElem?_eq_some_iff.1 hY).1 e)) (hf i X hX) (hf j Y hY)⟩
theorem Owns.drop (h : Owns lo w0 w L) (n : Nat) : Owns lo w0 w (L.drop n) := h.pick (n + ·) (fun i X hX => by rwa [List.getElem?_drop] at hX) fun i j _ _ e => by omega
theorem Owns.take (h : Owns lo w0 w L) (n : Nat) : Owns lo w0 w (L.take n) := h.pick id (fun i X hX => by
  rw [List.getElem?_take] at hX
  split at hX
  · exact hX
  · cases hX) fun i j _ _ e => e
theorem Owns.erase (h : Owns lo w0 w L) (n : Nat) : Owns lo w0 w (L.eraseIdx n) := h.pick (fun i => if i < n then i else i + 1) (fun i X hX => by
  rw [List.getElem?_eraseIdx] at hX
  split at hX <;> (rename_i hc; simp only [hc, if_true, if_false]; exact hX)) fun i j _ _ e => by
  split at e <;> split at e <;> omega
theorem Owns.swap {X Y : OB} (h : Owns lo w0 w (X :: Y :: L)) : Owns lo w0 w (Y :: X :: L) := h.pick (fun i => if i = 0 then 1 else if i = 1 then 0 else i) (fun i Z hZ => by
  cases i with
  | zero => simpa using hZ
  | succ i => cases i with
    | zero => simpa using hZ
    | succ i => simpa using hZ) fun i j _ _ e => by
  split at e <;> split at e <;> (try split at e) <;> (try split at e) <;> omega
/-- Told in another order, some left out: l lists the places. -/
theorem Owns.order (h : Owns lo w0 w L) (l : List Nat) {L' : List OB} (hl : l.Nodup) (hL : l.map (fun i => L[i]?) = L'.map some) : Owns lo w0 w L' := by
  have hlen : l.length = L'.length := by have := congrArg List.length hL; simpa using this
  refine h.pick (fun i => l.getD i 0) (fun i X hX => ?_) fun i j hi hj e => ?_
  · have h1 : (l.map (fun i => L[i]?))[i]? = some (some X) := by rw [hL, List.getElem?_map, hX]; rfl
    rw [List.getElem?_map] at h1
    obtain ⟨j, h2, h3⟩ := Option.map_eq_some_iff.1 h1
    simp only [List.getD, h2, Option.getD_some]
    exact h3
  · have hi' : i < l.length := by omega
    have hj' : j < l.length := by omega
    simp only [List.getD, List.getElem?_eq_getElem hi', List.getElem?_eq_getElem hj', Option.getD_some] at e
    exact (List.getElem_inj hl).1 e
theorem Owns.places (h : Owns lo w0 w L) (l : List Nat) (hl : l.Nodup) (hi : ∀ i ∈ l, i < L.length) : Owns lo w0 w (l.filterMap fun i => L[i]?) := by
  refine h.order l hl ?_
  clear hl
  induction l with
  | nil => rfl
  | cons i l ih =>
    have hlt := hi i (by simp)
    rw [List.map_cons, List.filterMap_cons, List.getElem?_eq_getElem hlt, List.map_cons, ih fun j hj => hi j (by simp [hj])]
/-- The same owner, told from a later world: for a piece that needs nothing from before. -/
theorem Owns.start (h : Owns lo w0 w L) : Owns lo w w L := ⟨Below.refl _ _, h.le, h.holds, h.apart⟩
theorem Owns.join {w1 : World} (hb : Below lo w0 w1) (h : Owns lo w1 w L) : Owns lo w0 w L := ⟨hb.trans h.below, h.le, h.holds, h.apart⟩
end

/-! ### Facts out of it -/
section
variable {lo : Nat} {w0 w w' : World} {L : List OB}
theorem Owns.cell {g : Nat} {vs : List Value} {t : TypeId} (h : Owns lo w0 w L) (i : Nat) (hX : L[i]? = some (.box g vs t)) {j : Nat} {u : Value} (hu : vs[j]? = some u) : w.cell? ⟨g, j, none⟩ = some u := by
  have := (h.holds i _ hX).2
  simp [World.cell?, this, hu]
theorem Owns.frozen {g : Nat} {vs : List Value} {t : TypeId} (h : Owns lo w0 w L) (i : Nat) (hX : L[i]? = some (.box g vs t)) (j : Nat) : w.frozen? ⟨g, j, none⟩ = false := by
  have := (h.holds i _ hX).2
  simp [World.frozen?, this]
theorem Owns.boxLt {g : Nat} {vs : List Value} {t : TypeId} (h : Owns lo w0 w L) (i : Nat) (hX : L[i]? = some (.box g vs t)) : lo ≤ g ∧ g < w.heap.size := (h.holds i _ hX).lt g rfl
theorem Owns.box1 {g : Nat} {a : Value} {t : TypeId} (h : Owns lo w0 w L) (i : Nat) (hX : L[i]? = some (.box g [a] t)) : w.cell? ⟨g, 0, none⟩ = some a ∧ w.frozen? ⟨g, 0, none⟩ = false := ⟨h.cell i hX rfl, h.frozen i hX _⟩
theorem Owns.box2 {g : Nat} {a b : Value} {t : TypeId} (h : Owns lo w0 w L) (i : Nat) (hX : L[i]? = some (.box g [a, b] t)) : w.cell? ⟨g, 0, none⟩ = some a ∧ w.cell? ⟨g, 1, none⟩ = some b ∧ w.frozen? ⟨g, 0, none⟩ = false ∧ w.frozen? ⟨g, 1, none⟩ = false := ⟨h.cell i hX rfl, h.cell i hX rfl, h.frozen i hX _, h.frozen i hX _⟩
theorem Owns.box3 {g : Nat} {a b c : Value} {t : TypeId} (h : Owns lo w0 w L) (i : Nat) (hX : L[i]? = some (.box g [a, b, c] t)) : w.cell? ⟨g, 0, none⟩ = some a ∧ w.cell? ⟨g, 1, none⟩ = some b ∧ w.cell? ⟨g, 2, none⟩ = some c ∧ w.frozen? ⟨g, 0, none⟩ = false ∧ w.frozen? ⟨g, 1, none⟩ = false ∧ w.frozen? ⟨g, 2, none⟩ = false :=
  ⟨h.cell i hX rfl, h.cell i hX rfl, h.cell i hX rfl, h.frozen i hX _, h.frozen i hX _, h.frozen i hX _⟩
theorem Owns.ro {p : Addr} {u : Value} (h : Owns lo w0 w L) (hc : w0.cell? p = some u) (hp : p.block < lo) : w.cell? p = some u := (h.below.cell hp).trans hc
theorem Owns.own {e : TypeId} {s n : Nat} {v : Value} {ys : List Value} (h : Owns lo w0 w L) (i : Nat) (hX : L[i]? = some (.row e s v n ys)) : w.ownsRow lo e s v n ys := h.holds i _ hX
theorem Owns.owI {v : Value} {xs : List Int} (h : Owns lo w0 w L) (i : Nat) (hX : L[i]? = some (.ints v xs)) : OwI w lo w.heap.size v xs := ⟨h.own i hX, fun k e => ((h.own i hX).lt k e).2⟩
theorem Owns.owB {v : Value} {bs : List Bool} (h : Owns lo w0 w L) (i : Nat) (hX : L[i]? = some (.bools v bs)) : OwB w lo w.heap.size v bs := ⟨h.own i hX, fun k e => ((h.own i hX).lt k e).2⟩
theorem Owns.owC {v : Value} {rvs : List Value} {cs : List Cel} (h : Owns lo w0 w L) (i : Nat) (hX : L[i]? = some (.cells v rvs cs)) : OwC w lo w.heap.size v rvs cs := h.holds i _ hX
theorem Owns.formI {v : Value} {xs : List Int} (h : Owns lo w0 w L) (i : Nat) (hX : L[i]? = some (.ints v xs)) : ∃ A c, v = .slice A xs.length c ∧ RdI w w.heap.size A xs.length c xs := (h.owI i hX).form
theorem Owns.formB {v : Value} {bs : List Bool} (h : Owns lo w0 w L) (i : Nat) (hX : L[i]? = some (.bools v bs)) : ∃ A c, v = .slice A bs.length c ∧ RdB w w.heap.size A bs.length c bs := (h.owB i hX).form
theorem Owns.formC {v : Value} {rvs : List Value} {cs : List Cel} (h : Owns lo w0 w L) (i : Nat) (hX : L[i]? = some (.cells v rvs cs)) : ∃ A c, v = .slice A cs.length c ∧ RdC w w.heap.size A cs.length c cs := (h.owC i hX).form
/-- A row with an element has a block. -/
theorem Owns.rowAt {e : TypeId} {s n : Nat} {v : Value} {ys : List Value} (h : Owns lo w0 w L) (i : Nat) (hX : L[i]? = some (.row e s v n ys)) (hn : 0 < n) : ∃ g c, v = .slice (some ⟨g, 0, none⟩) n c ∧ n ≤ c ∧ c ≤ maxLen ∧ lo ≤ g ∧ g < w.heap.size := by
  have ho := h.own i hX
  rcases ho.2 with ⟨_, h0⟩ | ⟨g, c, cur, rfl, hb, hg, hn, hm, _⟩
  · omega
  · exact ⟨g, c, rfl, hn, hm, hb, (Array.getElem?_eq_some_iff.1 hg).1⟩
theorem Owns.elem {e : TypeId} {s g n c : Nat} {ys : List Value} (h : Owns lo w0 w L) (i : Nat) (hX : L[i]? = some (.row e s (.slice (some ⟨g, 0, none⟩) n c) n ys)) {j : Nat} {u : Value} (hu : ys[j]? = some u) : w.cell? ⟨g, j, none⟩ = some u ∧ w.frozen? ⟨g, j, none⟩ = false := by
  have ho := h.own i hX
  have hj : j < n * s := by rw [← ho.1]; exact (List.getElem?_eq_some_iff.1 hu).1
  exact ⟨(ho.cellAt j hj).trans hu, ho.frozenAt j⟩
/-- A literal block as a list to be read. -/
theorem rdV_lit {w : World} {g c : Nat} {e : TypeId} {ys : List Value} (hg : w.heap[g]? = some (.cells ys.toArray e (0, 0))) (hc : ys.length ≤ c) (hm : c ≤ maxLen) : RdV w w.heap.size (some ⟨g, 0, none⟩) ys.length c ys :=
  ⟨rfl, hc, hm, fun _ => ⟨g, 0, rfl, (Array.getElem?_eq_some_iff.1 hg).1, fun j u hu => by simp [World.cell?, hg, hu]⟩⟩
theorem rdI_one {w : World} {g c : Nat} {x : Int} (hg : w.heap[g]? = some (.cells #[.int .i64 x] 3 (0, 0))) (hc : 1 ≤ c) (hm : c ≤ maxLen) : RdI w w.heap.size (some ⟨g, 0, none⟩) 1 c [x] := rdV_lit (ys := [.int .i64 x]) hg hc hm
theorem rdB_one {w : World} {g c : Nat} {x : Bool} (hg : w.heap[g]? = some (.cells #[.bool x] 4 (0, 0))) (hc : 1 ≤ c) (hm : c ≤ maxLen) : RdB w w.heap.size (some ⟨g, 0, none⟩) 1 c [x] := rdV_lit (ys := [.bool x]) hg hc hm
theorem one_le_maxLen : 1 ≤ maxLen := by unfold maxLen; omega
theorem rdI_new (w : World) (x : Int) (g : Nat) (hg : w.heap.size = g) : RdI (w.alloc (.cells #[.int .i64 x] 3)) (w.alloc (.cells #[.int .i64 x] 3)).heap.size (some ⟨g, 0, none⟩) 1 1 [x] := by
  subst hg
  exact rdI_one (heap1 w _) (Nat.le_refl _) one_le_maxLen
theorem rdB_new (w : World) (x : Bool) (g : Nat) (hg : w.heap.size = g) : RdB (w.alloc (.cells #[.bool x] 4)) (w.alloc (.cells #[.bool x] 4)).heap.size (some ⟨g, 0, none⟩) 1 1 [x] := by
  subst hg
  exact rdB_one (heap1 w _) (Nat.le_refl _) one_le_maxLen
end

/-! ### make, of numbers and of marks -/
theorem Try.infoBool : (Try.prog.info? 4).map (fun i => (i.zero, i.size, i.bytes)) = some (some (.bool false), 1, 1) := by kernel_rfl
section
variable {lo : Nat} {w0 w w' : World} {L : List OB}
theorem grown_below (hg : w.grownBy w' none) : Below w.heap.size w w' := (Below.refl _ _).grown hg (Nat.le_refl _) fun k e => by cases e
theorem Owns.mkB (h : Owns lo w0 w L) {n : Nat} {v : Value} (ho : w'.ownsRow w.heap.size 4 1 v n (madeCells #[Value.bool false] (n * 1)).toList) (hg : w.grownBy w' none) : Owns lo w0 w' (.row 4 1 v n ((List.replicate n false).map Value.bool) :: L) := by
  have e : (madeCells #[Value.bool false] (n * 1)).toList = (List.replicate n false).map Value.bool := by rw [Nat.mul_one, toList_madeCells_one, List.map_replicate]
  rw [e] at ho
  exact h.row (grown_below hg) ho
theorem Owns.mkI (h : Owns lo w0 w L) {n : Nat} {v : Value} (ho : w'.ownsRow w.heap.size 3 1 v n (madeCells #[Value.int .i64 0] (n * 1)).toList) (hg : w.grownBy w' none) : Owns lo w0 w' (.row 3 1 v n ((List.replicate n (0 : Int)).map (Value.int .i64)) :: L) := by
  have e : (madeCells #[Value.int .i64 0] (n * 1)).toList = (List.replicate n (0 : Int)).map (Value.int .i64) := by rw [Nat.mul_one, toList_madeCells_one, List.map_replicate]
  rw [e] at ho
  exact h.row (grown_below hg) ho
end
/-! ### append, on something that is owned -/
section
variable {lo : Nat} {w0 w : World} {L : List OB}
theorem run_pushV {e se : TypeId} {i0 : TypeInfo} {z : Value} {by_ : Nat} (hu : Try.prog.underlying se = some (.slice e)) (hi : Try.prog.info? e = some i0) (hz0 : i0.zero = some z) (hz1 : i0.size = 1) (hz2 : i0.bytes = by_) (hzs : z.cells.size = 1) (hby : by_ ≤ 64)
    {v : Value} {n0 : Nat} {xs : List Value} (hown : w.ownsRow lo e 1 v n0 xs) {B : Nat} {A : Option Addr} {n c : Nat} {ys : List Value} (hr : RdV w B A n c ys) (h1 : ∀ u ∈ ys, u.oneCell' = true) (hb : n0 + n ≤ 1099511627776) (hlo : lo ≤ w.heap.size) (ty : TypeId) :
    ∃ v' w', (Builtin.append_ #[se, se] ty #[v, .slice A n c]).run Try.prog w = .ok v' w' ∧ w'.ownsRow lo e 1 v' (n0 + n) (xs ++ ys) ∧ w.grownBy w' v.ownBlock ∧ (v'.ownBlock = v.ownBlock ∨ v'.ownBlock = some w.heap.size) := by
  have hl := hr.len
  rcases Nat.eq_zero_or_pos n with h0 | h0
  · subst h0
    obtain rfl : ys = [] := List.length_eq_zero_iff.1 hl.symm
    have hs : Src Try.prog i0.size se (.slice A 0 c) 0 [] w := by
      cases A with
      | none => exact Src.ofNil w hu c
      | some a => exact Src.ofSlice w hu a 0 c [] (by simp) (by simp) (by simp)
    have hold : w.ownsRow lo e 1 v (n0 + 0) (xs ++ []) := by rw [List.append_nil]; exact hown
    rcases hown.2 with ⟨rfl, rfl⟩ | ⟨g, cap, cur, rfl, _, _, hc, _⟩
    · exact ⟨_, w, run_append_nothing w _ _ ty e i0 hu hi none 0 0 (Nat.le_refl _) _ hs, hold, World.grownBy.refl _ _, .inl rfl⟩
    · exact ⟨_, w, run_append_nothing w _ _ ty e i0 hu hi (some ⟨g, 0, none⟩) _ cap hc _ hs, hold, World.grownBy.refl _ _, .inl rfl⟩
  · obtain ⟨b, o, rfl, hbb, hc⟩ := hr.rd h0
    obtain ⟨v', w', hrun, ho, hg, -, hat⟩ := run_append_own_at (P := Try.prog) w lo se ty e i0 z 1 by_ hu hi hz0 hz1 hz2 hzs (by omega) v n0 _ hown ⟨b, o, none⟩ n c ys (by omega)
      (fun j u hu => by rw [show (⟨b, o, none⟩ : Addr).add j = ⟨b, o + j, none⟩ from Addr.add_lit _ _ _]; exact hc j u hu) h1 (by unfold maxLen; omega) (by have : (n0 + n) * by_ ≤ (n0 + n) * 64 := Nat.mul_le_mul_left _ hby; omega) hlo
    exact ⟨v', w', hrun, ho, hg, hat⟩
theorem run_pushOI (h : Owns lo w0 w L) (i : Nat) {v : Value} {xs : List Int} (hX : L[i]? = some (.ints v xs)) {B : Nat} {A : Option Addr} {n c : Nat} {ys : List Int} (hr : RdI w B A n c ys) (hb : xs.length + n ≤ 1099511627776) (ty : TypeId) :
    ∃ A' c' w', (Builtin.append_ #[27, 27] ty #[v, .slice A n c]).run Try.prog w = .ok (.slice A' (xs ++ ys).length c') w' ∧ Owns lo w0 w' (L.set i (.ints (.slice A' (xs ++ ys).length c') (xs ++ ys))) := by
  obtain ⟨i0, hi, hz0, hz1, hz2⟩ := info_parts Try.infoInt
  obtain ⟨v', w', hrun, ho, hg, hat⟩ := run_pushV Try.underlying27 hi hz0 hz1 hz2 rfl (by omega) (h.own i hX) hr (mapI_oneCell ys) (by simpa using hb) h.le ty
  have hl : xs.length + n = (xs ++ ys).length := by have := RdI.le1 hr; have := RdI.le2 hr; simp; omega
  rw [hl, ← List.map_append] at ho
  obtain ⟨A', c', rfl, -⟩ := OwI.form ⟨ho, fun k e => (ho.lt k e).2⟩
  exact ⟨A', c', w', hrun, h.grow i hX ho hg hat⟩
theorem mapB_oneCell (ys : List Bool) : ∀ u ∈ ys.map Value.bool, u.oneCell' = true := by
  intro u hu
  obtain ⟨b, _, rfl⟩ := List.mem_map.1 hu
  rfl
theorem wp_pushO {o : Oper} {a : Act} {K : Act → World → Prop} {Q : Exit → Act → World → Prop} (s x : Operand)
    (hop : o.op = .call { callee := .builtin .append, args := #[s, x], argTypes := #[27, 27] })
    (h : Owns lo w0 w L) (i : Nat) {v : Value} {xs : List Int} (hX : L[i]? = some (.ints v xs)) (hs : a.eval s = v) {B : Nat} {A : Option Addr} {n c : Nat} {ys : List Int} (hx : a.eval x = .slice A n c) (hr : RdI w B A n c ys) (hb : xs.length + n ≤ 1099511627776)
    (hK : ∀ A' c' w', Owns lo w0 w' (L.set i (.ints (.slice A' (xs ++ ys).length c') (xs ++ ys))) → K (a.put o.dst (.slice A' (xs ++ ys).length c')) w') : o.wp Try.prog a w K Q := by
  obtain ⟨A', c', w', hrun, hO⟩ := run_pushOI h i hX hr hb o.type
  unfold Oper.wp execOp
  simp only [hop, resolve, invoke, builtin, Sem.run_bind, Sem.run_pure, Result.andThen_ok, List.map_toArray, List.map_cons, List.map_nil, hs, hx, hrun]
  exact hK A' c' w' hO
theorem wpList_pushO {ops : Array Oper} {rest : List Oper} {o : Oper} {a : Act} {Q : Exit → Act → World → Prop} (hgd : o.guard = none) (s x : Operand)
    (hop : o.op = .call { callee := .builtin .append, args := #[s, x], argTypes := #[27, 27] })
    (h : Owns lo w0 w L) (i : Nat) {v : Value} {xs : List Int} (hX : L[i]? = some (.ints v xs)) (hs : a.eval s = v) {B : Nat} {A : Option Addr} {n c : Nat} {ys : List Int} (hx : a.eval x = .slice A n c) (hr : RdI w B A n c ys) (hb : xs.length + n ≤ 1099511627776)
    (hK : ∀ A' c' w', Owns lo w0 w' (L.set i (.ints (.slice A' (xs ++ ys).length c') (xs ++ ys))) → wpList Try.prog ops Q rest (a.put o.dst (.slice A' (xs ++ ys).length c')) w') : wpList Try.prog ops Q (o :: rest) a w :=
  wpList_plain hgd fun _ hK' => wp_pushO s x hop h i hX hs hx hr hb fun A' c' w' hO => hK' _ _ (hK A' c' w' hO)
theorem step_pushO {ops : Array Oper} {o : Oper} {a : Act} {K : Act → World → Prop} {Q : Exit → Act → World → Prop} {E : Prop} (hgd : o.guard = none) (s x : Operand)
    (hop : o.op = .call { callee := .builtin .append, args := #[s, x], argTypes := #[27, 27] })
    (h : Owns lo w0 w L) (i : Nat) {v : Value} {xs : List Int} (hX : L[i]? = some (.ints v xs)) (hs : a.eval s = v) {B : Nat} {A : Option Addr} {n c : Nat} {ys : List Int} (hx : a.eval x = .slice A n c) (hr : RdI w B A n c ys) (hb : xs.length + n ≤ 1099511627776)
    (hK : ∀ A' c' w', Owns lo w0 w' (L.set i (.ints (.slice A' (xs ++ ys).length c') (xs ++ ys))) → K (a.put o.dst (.slice A' (xs ++ ys).length c')) w') :
    if Region.wanted o (yielded ops a.tmps) = true then Oper.wp Try.prog o a w K Q else E := by
  rw [if_pos (by simp [Region.wanted, hgd])]
  exact wp_pushO s x hop h i hX hs hx hr hb hK
/-- A cell goes to the end of the cells: its references become theirs. -/
theorem Owns.pushC (h : Owns lo w0 w L) (i j : Nat) {v : Value} {rvs : List Value} {cs : List Cel} {rv : Value} {c : Cel} (hX : L[i]? = some (.cells v rvs cs)) (hY : L[j]? = some (.ints rv c.refs)) (hone : rv.oneCell' = true)
    {g k : Nat} (hb : w.heap[g]? = some (.cells #[.bool c.used, .int .i64 c.data, rv] 49)) (hn : cs.length + 1 ≤ 1099511627776) (ty : TypeId) :
    ∃ A' c' w', (Builtin.append_ #[26, 26] ty #[v, .slice (some ⟨g, 0, none⟩) 1 k]).run Try.prog w = .ok (.slice A' (cs ++ [c]).length c') w' ∧ Owns lo w0 w' ((L.set i (.cells (.slice A' (cs ++ [c]).length c') (rvs ++ [rv]) (cs ++ [c]))).eraseIdx j) := by
  have hij : i ≠ j := by
    rintro rfl
    rw [hX] at hY; cases hY
  have hC := h.owC i hX
  have hR := h.owI j hY
  obtain ⟨i0, hi0, hz0, hz1, hz2⟩ := info_parts Try.infoCell
  obtain ⟨v', w', hrun, hown, hg, -, hat⟩ := run_append_own_at (P := Try.prog) w lo 26 ty 49 i0 (.agg #[.bool false, .int .i64 0, .slice none 0 0]) 3 40 Try.underlying26 hi0 hz0 hz1 hz2 rfl (by omega) v cs.length _ hC.own ⟨g, 0, none⟩ 1 k [.bool c.used, .int .i64 c.data, rv] rfl
    (World.news_of_block hb) (by simp [hone]; exact ⟨rfl, rfl⟩) (by unfold maxLen; omega) (by omega) h.le
  have hap : ∀ x ∈ rvs, Apart rv x := fun x hx => by
    unfold Apart
    cases hrv : rv.ownBlock with
    | none => exact .inl rfl
    | some q =>
      refine .inr fun e => ?_
      exact h.apart j i _ _ (Ne.symm hij) hY hX q hrv (.inr ⟨x, hx, e.symm⟩)
  have hnew := hC.push hR hap hown hg (Nat.le_refl _)
  obtain ⟨A', c', rfl, -⟩ := hnew.form
  refine ⟨A', c', w', hrun, ?_⟩
  have hle := Nat.le_trans h.le hg.size
  have hT : Turn (fun q => v.ownBlock = some q) w w' := turn_grown hg fun q e => e
  have hi : i < L.length := (List.getElem?_eq_some_iff.1 hX).1
  -- the new thing's blocks
  have hblk : ∀ q, CellBlocks (.slice A' (cs ++ [c]).length c') (rvs ++ [rv]) q → CellBlocks v rvs q ∨ rv.ownBlock = some q ∨ w.heap.size ≤ q := fun q hq => by
    rcases hq with e | ⟨x, hx, e⟩
    · rcases hat with ha | ha
      · exact .inl (.inl (ha ▸ e))
      · right; right; rw [ha] at e; injection e with e; omega
    · rcases List.mem_append.1 hx with hx | hx
      · exact .inl (.inr ⟨x, hx, e⟩)
      · rw [List.mem_singleton.1 hx] at e; exact .inr (.inl e)
  have hfree : ∀ (a : Nat) (Z : OB), a ≠ i → L[a]? = some Z → ∀ q, Z.blks q → ¬ v.ownBlock = some q := fun a Z ha hZ q hq e => h.apart a i Z _ ha hZ hX q hq (.inl e)
  let f : Nat → Nat := fun a => if a < j then a else a + 1
  have hget : ∀ (a : Nat) (Z : OB), ((L.set i (.cells (.slice A' (cs ++ [c]).length c') (rvs ++ [rv]) (cs ++ [c]))).eraseIdx j)[a]? = some Z → f a ≠ j ∧ ((f a = i ∧ Z = .cells (.slice A' (cs ++ [c]).length c') (rvs ++ [rv]) (cs ++ [c])) ∨ (f a ≠ i ∧ L[f a]? = some Z)) := fun a Z hZ => by
    have hZ' : (L.set i (.cells (.slice A' (cs ++ [c]).length c') (rvs ++ [rv]) (cs ++ [c])))[f a]? = some Z := by
      rw [List.getElem?_eraseIdx] at hZ
      simp only [f]
      split at hZ <;> (rename_i hc; simp only [hc, if_true, if_false]; exact hZ)
    refine ⟨by simp only [f]; split <;> omega, ?_⟩
    rw [List.getElem?_set] at hZ'
    split at hZ'
    · rename_i e
      (try rw [if_pos (by omega)] at hZ')
      injection hZ' with hZ'
      exact .inl ⟨e.symm, hZ'.symm⟩
    · rename_i e
      exact .inr ⟨fun e' => e e'.symm, hZ'⟩
  refine ⟨h.below.grown hg h.le fun q e => (hC.own.lt q e).1, hle, fun a Z hZ => ?_, fun a b Z T hab hZ hT' q hq => ?_⟩
  · obtain ⟨hne, ⟨h1, rfl⟩ | ⟨h1, h2⟩⟩ := hget a Z hZ
    · exact hnew
    · exact (h.holds _ Z h2).keep (fun q hq => hT.block q ((h.holds _ Z h2).lt q hq).2 (hfree _ Z h1 h2 q hq)) hg.size
  · have hfab : f a ≠ f b := fun e => hab (by simp only [f] at e; split at e <;> split at e <;> omega)
    have key : ∀ (a : Nat) (Z : OB), f a ≠ j → f a ≠ i → L[f a]? = some Z → ∀ q, Z.blks q → ¬ CellBlocks (.slice A' (cs ++ [c]).length c') (rvs ++ [rv]) q := fun a Z h1 h2 h3 q hq hc => by
      rcases hblk q hc with hc | hc | hc
      · exact h.apart _ i Z _ h2 h3 hX q hq hc
      · exact h.apart _ j Z _ h1 h3 hY q hq hc
      · have := ((h.holds _ Z h3).lt q hq).2; omega
    obtain ⟨hne, ⟨h1, rfl⟩ | ⟨h1, h2⟩⟩ := hget a Z hZ <;> obtain ⟨hne', ⟨h3, rfl⟩ | ⟨h3, h4⟩⟩ := hget b T hT'
    · omega
    · exact fun ht => key b T hne' h3 h4 q ht hq
    · exact key a Z hne h1 h2 q hq
    · exact h.apart _ _ Z T hfab h2 h4 q hq
theorem wp_pushCO {o : Oper} {a : Act} {K : Act → World → Prop} {Q : Exit → Act → World → Prop} (s x : Operand)
    (hop : o.op = .call { callee := .builtin .append, args := #[s, x], argTypes := #[26, 26] })
    (h : Owns lo w0 w L) (i j : Nat) {v : Value} {rvs : List Value} {cs : List Cel} {rv : Value} {c : Cel} (hX : L[i]? = some (.cells v rvs cs)) (hY : L[j]? = some (.ints rv c.refs)) (hone : rv.oneCell' = true)
    (hs : a.eval s = v) {g k : Nat} (hx : a.eval x = .slice (some ⟨g, 0, none⟩) 1 k) (hb : w.heap[g]? = some (.cells #[.bool c.used, .int .i64 c.data, rv] 49)) (hn : cs.length + 1 ≤ 1099511627776)
    (hK : ∀ A' c' w', Owns lo w0 w' ((L.set i (.cells (.slice A' (cs ++ [c]).length c') (rvs ++ [rv]) (cs ++ [c]))).eraseIdx j) → K (a.put o.dst (.slice A' (cs ++ [c]).length c')) w') : o.wp Try.prog a w K Q := by
  obtain ⟨A', c', w', hrun, hO⟩ := h.pushC i j hX hY hone (k := k) hb hn o.type
  unfold Oper.wp execOp
  simp only [hop, resolve, invoke, builtin, Sem.run_bind, Sem.run_pure, Result.andThen_ok, List.map_toArray, List.map_cons, List.map_nil, hs, hx, hrun]
  exact hK A' c' w' hO
theorem wpList_pushCO {ops : Array Oper} {rest : List Oper} {o : Oper} {a : Act} {Q : Exit → Act → World → Prop} (hgd : o.guard = none) (s x : Operand)
    (hop : o.op = .call { callee := .builtin .append, args := #[s, x], argTypes := #[26, 26] })
    (h : Owns lo w0 w L) (i j : Nat) {v : Value} {rvs : List Value} {cs : List Cel} {rv : Value} {c : Cel} (hX : L[i]? = some (.cells v rvs cs)) (hY : L[j]? = some (.ints rv c.refs)) (hone : rv.oneCell' = true)
    (hs : a.eval s = v) {g k : Nat} (hx : a.eval x = .slice (some ⟨g, 0, none⟩) 1 k) (hb : w.heap[g]? = some (.cells #[.bool c.used, .int .i64 c.data, rv] 49)) (hn : cs.length + 1 ≤ 1099511627776)
    (hK : ∀ A' c' w', Owns lo w0 w' ((L.set i (.cells (.slice A' (cs ++ [c]).length c') (rvs ++ [rv]) (cs ++ [c]))).eraseIdx j) → wpList Try.prog ops Q rest (a.put o.dst (.slice A' (cs ++ [c]).length c')) w') : wpList Try.prog ops Q (o :: rest) a w :=
  wpList_plain hgd fun _ hK' => wp_pushCO s x hop h i j hX hY hone hs hx hb hn fun A' c' w' hO => hK' _ _ (hK A' c' w' hO)
end

/-! ### make at a step of a region that draws its order -/
theorem upon_ok {P : Program} {o : Oper} {a : Act} {K : Act → World → Prop} {Q : Exit → Act → World → Prop} {r : Result Value} {v : Value} {w' : World} (hr : r = .ok v w') (h : K (a.put o.dst v) w') : Oper.upon P o a K Q (r.andThen fun a w' => Result.ok (Next.value a) w') := by
  subst hr
  exact h
theorem run_makeC {lo : Nat} {w0 w : World} {L : List OB} (h : Owns lo w0 w L) (kl kc : IntKind) (n : Nat) (hn : n ≤ 1048577) :
    ∃ w', (Instr.makeSlice 26 (.int kl 0) (.int kc (n : Int))).run Try.prog w = .ok (.slice (some ⟨w.heap.size, 0, none⟩) 0 n) w' ∧ Owns lo w0 w' (.cells (.slice (some ⟨w.heap.size, 0, none⟩) 0 n) [] [] :: L) ∧ Below w.heap.size w w' := by
  obtain ⟨i0, hi, hz0, hz1, hz2⟩ := info_parts Try.infoCell
  obtain ⟨w', hrun, ho, hg⟩ := run_make_own (P := Try.prog) w w.heap.size 26 49 i0 (.agg #[.bool false, .int .i64 0, .slice none 0 0]) 3 Try.underlying26 hi hz0 hz1 kl kc n (by rw [hz2]; omega) (by unfold maxLen; omega) (Nat.le_refl _)
  have hb := grown_below hg
  exact ⟨w', hrun, h.madeC ⟨rfl, ho, fun k e => (ho.lt k e).2, fun i q c e => by simp at e, fun i j a b _ e => by simp at e⟩ hb, hb⟩
theorem upon_makeC {lo : Nat} {w0 w : World} {L : List OB} {o : Oper} {a : Act} {K : Act → World → Prop} {Q : Exit → Act → World → Prop}
    (h : Owns lo w0 w L) (kl kc : IntKind) (C : Int) (n : Nat) (hC : C = (n : Int)) (hn : n ≤ 1048577)
    (hK : ∀ g w', Owns lo w0 w' (.cells (.slice (some ⟨g, 0, none⟩) 0 n) [] [] :: L) → Below w.heap.size w w' → K (a.put o.dst (.slice (some ⟨g, 0, none⟩) 0 n)) w') :
    Oper.upon Try.prog o a K Q ((Sem.run Try.prog (Instr.makeSlice 26 (.int kl 0) (.int kc C)) w).andThen fun a w' => Result.ok (Next.value a) w') := by
  subst hC
  have h1 := run_makeC h kl kc n hn
  generalize (Sem.run Try.prog (Instr.makeSlice 26 (.int kl 0) (.int kc (n : Int))) w) = r at *
  obtain ⟨w', h2, h3, h4⟩ := h1
  exact upon_ok h2 (hK _ w' h3 h4)
/-! ### What a call hands back -/
theorem Owns.toI {w w' : World} {L : List OB} (h : Owns w.heap.size w w' L) (i : Nat) {v : Value} {xs : List Int} (hX : L[i]? = some (.ints v xs)) : MadeI w xs (.returned v) w' := ⟨v, rfl, h.owI i hX, h.below⟩
theorem Owns.toB {w w' : World} {L : List OB} (h : Owns w.heap.size w w' L) (i : Nat) {v : Value} {bs : List Bool} (hX : L[i]? = some (.bools v bs)) : MadeB w bs (.returned v) w' := ⟨v, rfl, h.owB i hX, h.below⟩
theorem Owns.toOwH {lo : Nat} {w0 w' : World} {L : List OB} (h : Owns lo w0 w' L) (i j : Nat) {cv rv : Value} {rvs : List Value} {cs : List Cel} {rs : List Int} (hX : L[i]? = some (.cells cv rvs cs)) (hY : L[j]? = some (.ints rv rs)) : OwH w' lo w'.heap.size (.agg #[cv, rv]) ⟨cs, rs⟩ := by
  have hij : i ≠ j := by
    rintro rfl
    rw [hX] at hY; cases hY
  refine ⟨cv, rvs, rv, rfl, h.owC i hX, h.owI j hY, fun x hx => ?_⟩
  unfold Apart
  cases hrv : rv.ownBlock with
  | none => exact .inl rfl
  | some q => exact .inr fun e => h.apart j i _ _ (Ne.symm hij) hY hX q hrv (.inr ⟨x, hx, e.symm⟩)
theorem Owns.toH {w w' : World} {L : List OB} (h : Owns w.heap.size w w' L) (i j : Nat) {cv rv : Value} {rvs : List Value} {cs : List Cel} {rs : List Int} (hX : L[i]? = some (.cells cv rvs cs)) (hY : L[j]? = some (.ints rv rs)) : MadeH w ⟨cs, rs⟩ (.returned (.agg #[cv, rv])) w' :=
  ⟨_, rfl, h.toOwH i j hX hY, h.below⟩
end Go.Proofs.Ytdkpfggfkhnjfaa

/- A region that draws its order, as a tree: what only reads goes first; where several others may come up, each is walked. The condition S need not hold behind a last operation that needs all others. No condition. -/
namespace Go.Proofs.Ytdkpfggfkhnjfaa
open Go.RowKit
inductive PT where
  | done
  | take (i : Nat) (t : PT)
  | alt (i : Nat) (t : PT) (more : PT)
  | stop
  | bad
/-- no: operations that are not to be taken first, though they only read (what they read, the region itself makes). -/
def planT (ops : Array Oper) (no : List Nat) : Nat → Array Bool → PT
  | 0, listed => match Region.ready .any ops listed with
    | [] => .done
    | _ => .bad
  | f + 1, listed =>
    match (Region.ready .any ops listed).find? fun i => ((ops[i]?).map takeable).getD false && !no.contains i && Region.free .any ops listed i with
    | some i => .take i (planT ops no f (listed.setIfInBounds i true))
    | none =>
      match Region.ready .any ops listed with
      | [] => .done
      | i :: rs => (i :: rs).foldr (fun i more => .alt i (planT ops no f (listed.setIfInBounds i true)) more) .stop
inductive PO where
  | done
  | take (o : Oper) (t : PO)
  | alt (o : Oper) (last : Bool) (t : PO) (more : PO)
  | stop
  | bad
def fillT (ops : List Oper) (z : Nat) : PT → PO
  | .done => .done
  | .take i t => match ops[i]? with
    | some o => .take o (fillT ops z t)
    | none => .bad
  | .alt i t more => match ops[i]? with
    | some o => .alt o (i == z) (fillT ops z t) (fillT ops z more)
    | none => .bad
  | .stop => .stop
  | .bad => .bad
def wpPO (P : Program) (ops : Array Oper) (Q : Exit → Act → World → Prop) (S : World → Prop) : PO → Act → World → Prop
  | .done, a, w => Q .normal a w
  | .take o t, a, w => ∃ v, YieldsIf P ops S o v a ∧ wpPO P ops Q S t (a.put o.dst v) w
  | .alt o last t more, a, w => (if Region.wanted o (yielded ops a.tmps) = true then o.wp P a w (fun a' w' => (last = true ∨ S w') ∧ wpPO P ops Q S t a' w') Q else (last = true ∨ S w) ∧ wpPO P ops Q S t (a.put o.dst undef) w) ∧ wpPO P ops Q S more a w
  | .stop, _, _ => True
  | .bad, _, _ => False
section
variable {P : Program} {ops : Array Oper} {Q : Exit → Act → World → Prop} {S : World → Prop} {z : Nat} {no : List Nat}
theorem wpAnyW_first' {i : Nat} {oi : Oper} {v : Value} (hi : ops[i]? = some oi) (hsel : ∀ (j : Nat) (o : Oper) cs b, ops[j]? = some o → o.op ≠ .select cs b)
    (hQ : ∀ c a w, Q (.panic c) (a.put oi.dst v) w → Q (.panic c) a w) (hz : ∀ listed : Array Bool, Down ops listed → i ∈ Region.ready .any ops listed → ∀ j ∈ Region.ready .any ops listed, j ≠ z) : ∀ (f : Nat) (listed : Array Bool) (a : Act) (w : World),
      (∀ j oj, ops[j]? = some oj → j ≠ i → listed.getD j true = false → (∀ e ∈ oj.after, Region.binds .any e = true → e.on ≠ i) → oi.apart ops oj = true) →
      Down ops listed → i ∈ Region.ready .any ops listed → YieldsIf P ops S oi v a → S w → wpAnyW P ops Q S z f (listed.setIfInBounds i true) (a.put oi.dst v) w → wpAnyW P ops Q S z (f + 1) listed a w
  | 0, listed, a, w, _, _, hr, hy, hS, H => by
    refine ⟨fun h => (by rw [h] at hr; cases hr), fun j hj => ?_⟩
    by_cases hji : j = i
    · subst hji; exact hy.wpOp hi hS ⟨.inr hS, H⟩
    have hj2 := ready_mono hj hji
    rw [H.1] at hj2; cases hj2
  | f + 1, listed, a, w, hfree, hd, hr, hy, hS, H => by
    refine ⟨fun h => (by rw [h] at hr; cases hr), fun j hj => ?_⟩
    by_cases hji : j = i
    · subst hji; exact hy.wpOp hi hS ⟨.inr hS, H⟩
    have hjz : j ≠ z := hz listed hd hr j hj
    have hj2 := ready_mono hj hji
    obtain ⟨hun, oj, hoj, hall⟩ := mem_ready.1 hj
    have hnot : ∀ e ∈ oj.after, Region.binds .any e = true → e.on ≠ i := fun e he hb heq => by
      have h1 := hall e he hb
      have h0 := (mem_ready.1 hr).1
      rw [heq] at h1
      rcases Nat.lt_or_ge i listed.size with h' | h'
      · simp [h'] at h0 h1; rw [h0] at h1; cases h1
      · simp [Array.getElem?_eq_none h'] at h1
    have h2 := wpOp_putIf hoj (hfree j oj hoj hji hun hnot) (fun cs b => hsel i oi cs b hi) (fun cs b => hsel j oj cs b hoj) hQ hy (H.2 j hj2)
    refine wpOp_mono (fun a' w' h3 => ?_) h2
    obtain ⟨hy', hS', hrest⟩ := h3
    have hSw : S w' := hS'.resolve_left hjz
    refine ⟨.inr hSw, wpAnyW_first' hi hsel hQ hz f _ a' w' (fun k ok hk hki hu hno => ?_) (hd.set hj) (ready_mono hr (Ne.symm hji)) hy' hSw ?_⟩
    · refine hfree k ok hk hki ?_ hno
      by_cases hjk : j = k
      · subst hjk; exact hun
      · rw [getD_set_ne true hjk] at hu; exact hu
    · rw [Array.setIfInBounds_comm _ _ hji]
      exact hrest
theorem alts_mem {l : List Oper} {T : Nat → PT} : ∀ (rs : List Nat) (a : Act) (w : World), wpPO P ops Q S (fillT l z (rs.foldr (fun i more => .alt i (T i) more) .stop)) a w →
    ∀ i ∈ rs, ∃ o, l[i]? = some o ∧ (if Region.wanted o (yielded ops a.tmps) = true then o.wp P a w (fun a' w' => ((i == z) = true ∨ S w') ∧ wpPO P ops Q S (fillT l z (T i)) a' w') Q else ((i == z) = true ∨ S w) ∧ wpPO P ops Q S (fillT l z (T i)) (a.put o.dst undef) w)
  | [], _, _, _, i, hi => by cases hi
  | j :: rs, a, w, h, i, hi => by
    rw [List.foldr_cons, fillT] at h
    split at h
    · rename_i o ho
      obtain ⟨h1, h2⟩ := h
      rcases List.mem_cons.1 hi with rfl | hi
      · exact ⟨o, ho, h1⟩
      · exact alts_mem rs a w h2 i hi
    · exact h.elim
theorem wpAnyW_of_tree {l : List Oper} (hl : ops = l.toArray) (hs : Region.noSelect ops = true) (hQ : ∀ c a w d v, Q (.panic c) (Act.put a d v) w → Q (.panic c) a w)
    (hzz : ops.size ≤ z ∨ ((∀ i, i < ops.size → i ≠ z → i ∈ needs ops z) ∧ ((ops[z]?).map takeable).getD false = false)) : ∀ (f : Nat) (listed : Array Bool) (a : Act) (w : World),
    Down ops listed → (z < ops.size → listed.getD z false = true ∨ S w) → (ops.size ≤ z → S w) → wpPO P ops Q S (fillT l z (planT ops no f listed)) a w → wpAnyW P ops Q S z f listed a w
  | 0, listed, a, w, hd, hS, hS', h => by
    unfold planT at h
    split at h
    · rename_i hr; exact ⟨hr, h⟩
    · exact h.elim
  | f + 1, listed, a, w, hd, hS, hS', h => by
    unfold planT at h
    split at h
    · rename_i i hf
      rw [fillT] at h
      split at h
      · rename_i o ho
        obtain ⟨v, hy, h⟩ := h
        have h1 := List.find?_some hf
        have h2 := List.mem_of_find?_eq_some hf
        simp only [Bool.and_eq_true] at h1
        have ho' : ops[i]? = some o := by rw [hl, List.getElem?_toArray]; exact ho
        have hi := (Array.getElem?_eq_some_iff.1 ho').1
        have hz : ∀ listed : Array Bool, Down ops listed → i ∈ Region.ready .any ops listed → ∀ j ∈ Region.ready .any ops listed, j ≠ z := fun L hdL hiL j hj e => by
          subst e
          obtain ⟨-, oj, hoj, -⟩ := mem_ready.1 hj
          have hjs := (Array.getElem?_eq_some_iff.1 hoj).1
          rcases hzz with hzz | ⟨hn, hzt⟩
          · omega
          · have hij : i ≠ j := fun e => by rw [e, hzt] at h1; exact absurd h1.1.1 (by simp)
            have := needs_listed hdL (ready_befores hj) i (hn i hi hij)
            rw [(not_listed hiL).1] at this
            cases this
        have hSw : S w := by
          rcases Nat.lt_or_ge z ops.size with hzs | hzs
          · rcases hS hzs with h3 | h3
            · exfalso
              rcases hzz with hzz | ⟨hn, hzt⟩
              · omega
              · have hij : i ≠ z := fun e => by rw [e, hzt] at h1; exact absurd h1.1.1 (by simp)
                have := needs_listed hd (hd z h3) i (hn i hi hij)
                rw [(not_listed h2).1] at this
                cases this
            · exact h3
          · exact hS' hzs
        refine wpAnyW_first' ho' (Region.noSelect_spec hs) (fun c a w => hQ c a w _ _) hz f listed a w (Region.free_spec ho' h1.2) hd h2 hy hSw (wpAnyW_of_tree hl hs hQ hzz f _ _ w (hd.set h2) (fun _ => .inr hSw) (fun _ => hSw) h)
      · exact h.elim
    · split at h
      · rename_i hr
        exact ⟨fun _ => h, by rw [hr]; intro i hi; cases hi⟩
      · rename_i j rs hr
        refine ⟨fun e => (by rw [e] at hr; cases hr), fun i hi => ?_⟩
        have hi' := hi
        rw [hr] at hi
        obtain ⟨o, ho, h3⟩ := alts_mem (j :: rs) a w h i hi
        have ho' : ops[i]? = some o := by rw [hl, List.getElem?_toArray]; exact ho
        have his := (Array.getElem?_eq_some_iff.1 ho').1
        have next : ∀ a' w', ((i == z) = true ∨ S w') ∧ wpPO P ops Q S (fillT l z (planT ops no f (listed.setIfInBounds i true))) a' w' → (i = z ∨ S w') ∧ wpAnyW P ops Q S z f (listed.setIfInBounds i true) a' w' := fun a' w' h' => by
          have hSz : i = z ∨ S w' := h'.1.imp (fun e => by simpa using e) id
          refine ⟨hSz, wpAnyW_of_tree hl hs hQ hzz f _ a' w' (hd.set hi') (fun hzs => ?_) (fun hzs => ?_) h'.2⟩
          · rcases hSz with e | e
            · left; subst e
              have := (not_listed hi').2
              simp [this]
            · exact .inr e
          · rcases hSz with e | e
            · omega
            · exact e
        unfold wpOp
        simp only [ho']
        split at h3
        · rename_i hw
          rw [if_pos hw]
          exact .inl (Oper.wp_mono next h3)
        · rename_i hw
          rw [if_neg hw]
          exact next _ _ h3
def treeOk (ops : Array Oper) (z : Nat) : Bool := Region.noSelect ops && (decide (ops.size ≤ z) || ((List.range ops.size).all (fun i => i == z || (needs ops z).contains i) && !((ops[z]?).map takeable).getD false))
theorem wp_region_tree {id : Nat} {a : Act} {w : World} {l : List Oper} (S : World → Prop) (z : Nat) (no : List Nat) (t : PT) (hm : P.follows .mixedOrders = true) (hp : planT l.toArray no l.toArray.size (Array.replicate l.toArray.size false) = t) (hn : treeOk l.toArray z = true) (hS : S w.drew)
    (h : wpPO P l.toArray (NoPanic Q) S (fillT l z t) a w.drew) : (Code.region id l.toArray true).wp P Q a w := by
  simp only [treeOk, Bool.and_eq_true, Bool.or_eq_true, decide_eq_true_eq, List.all_eq_true, List.mem_range, beq_iff_eq, Bool.not_eq_true'] at hn
  subst hp
  refine wp_region_noPanic (wp_region_any hm (wpAny_of_weak (z := z) (S := S) _ _ _ _ ?_))
  refine wpAnyW_of_tree (Q := NoPanic Q) rfl hn.1 (fun c a w d v h => h) (hn.2.imp (fun h => h) fun h => ⟨fun i hi hiz => List.contains_iff_mem.1 ((h.1 i hi).resolve_left hiz), h.2⟩) _ _ a _ (fun j hj => ?_) (fun _ => .inr hS) (fun _ => hS) h
  rcases Nat.lt_or_ge j l.length with h' | h'
  · simp [h'] at hj
  · simp [h'] at hj
theorem po_done {a : Act} {w : World} (h : Q .normal a w) : wpPO P ops (NoPanic Q) S .done a w := h
theorem po_take {t : PO} {a : Act} {w : World} {o : Oper} {v : Value} (hw : Region.wanted o (yielded ops a.tmps) = true)
    (hv : ∀ w, S w → (execOp a.eval o).run P w = .ok (.value v) w) (h : wpPO P ops Q S t (a.put o.dst v) w) : wpPO P ops Q S (.take o t) a w := ⟨v, .inl ⟨hw, hv⟩, h⟩
theorem po_skip {t : PO} {a : Act} {w : World} {o : Oper} (hw : Region.wanted o (yielded ops a.tmps) = false)
    (h : wpPO P ops Q S t (a.put o.dst undef) w) : wpPO P ops Q S (.take o t) a w := ⟨undef, .inr ⟨hw, rfl⟩, h⟩
theorem po_run {t more : PO} {last : Bool} {a : Act} {w : World} {o : Oper} (hw : Region.wanted o (yielded ops a.tmps) = true)
    (h : ∀ K : Act → World → Prop, Shut (∀ a' w', (last = true ∨ S w') → wpPO P ops Q S t a' w' → K a' w') → o.wp P a w K Q) (hm : wpPO P ops Q S more a w) : wpPO P ops Q S (.alt o last t more) a w := by
  refine ⟨?_, hm⟩
  rw [if_pos hw]
  exact h _ fun a' w' hS hp => ⟨hS, hp⟩
theorem po_no {t more : PO} {last : Bool} {a : Act} {w : World} {o : Oper} (hw : Region.wanted o (yielded ops a.tmps) = false) (hS : last = true ∨ S w)
    (h : wpPO P ops Q S t (a.put o.dst undef) w) (hm : wpPO P ops Q S more a w) : wpPO P ops Q S (.alt o last t more) a w := by
  refine ⟨?_, hm⟩
  rw [if_neg (by simp [hw])]
  exact ⟨hS, h⟩
theorem po_stop {a : Act} {w : World} : wpPO P ops Q S .stop a w := trivial
end
end Go.Proofs.Ytdkpfggfkhnjfaa

/- The laws' holding functions find the running numbers in cells and heaps that were marked. -/
namespace Go.Proofs.Ytdkpfggfkhnjfaa
open Go.RowKit
theorem mCells_at : ∀ (k : Int) (cs : List Cel) (j : Nat) (c : Cel), cs[j]? = some c → (mCells k cs)[j]? = some (mCel (k + kAdd (cs.take j)) c)
  | _, [], _, _, h => by simp at h
  | k, d :: cs, 0, c, h => by simp at h; subst h; simp [mCells, kAdd]
  | k, d :: cs, j + 1, c, h => by
    have := mCells_at (k + (d.refs.length + 2 : Nat)) cs j c (by simpa using h)
    rw [mCells, List.getElem?_cons_succ, this, List.take_succ_cons, kAdd, show k + ((d.refs.length + 2 : Nat) : Int) + (kAdd (cs.take j) : Int) = k + ((d.refs.length + 2 + kAdd (cs.take j) : Nat) : Int) by omega]

end Go.Proofs.Ytdkpfggfkhnjfaa

/- Marking what a call owns (rows, cells, heaps); what a callee made is owned too; heaps that are owned can be read. -/
namespace Go.Proofs.Ytdkpfggfkhnjfaa
open Go.RowKit
section
variable {lo : Nat} {w0 w : World} {L : List OB}
end
section
variable {lo lo' : Nat} {w0 w w' : World} {X : OB} {L M : List OB}
theorem OB.holds.low (h : X.holds lo w) (hl : lo' ≤ lo) : X.holds lo' w := by
  cases X with
  | box g vs t => exact ⟨Nat.le_trans hl h.1, h.2⟩
  | row e s v n ys => exact own_lo h hl
  | cells v rvs cs => exact OwC.wide h hl (Nat.le_refl _)
theorem Owns.merge (h : Owns lo w0 w L) (k : Owns w.heap.size w w' M) : Owns lo w0 w' (M ++ L) := by
  have hc := h.call k.below
  refine ⟨hc.below, hc.le, fun i X hX => ?_, fun i j X Y hij hX hY b hb hb' => ?_⟩
  · rcases Nat.lt_or_ge i M.length with hi | hi
    · rw [List.getElem?_append_left hi] at hX; exact (k.holds i X hX).low h.le
    · rw [List.getElem?_append_right hi] at hX; exact hc.holds _ X hX
  · rcases Nat.lt_or_ge i M.length with hi | hi
    · rw [List.getElem?_append_left hi] at hX
      rcases Nat.lt_or_ge j M.length with hj | hj
      · rw [List.getElem?_append_left hj] at hY; exact k.apart i j X Y hij hX hY b hb hb'
      · rw [List.getElem?_append_right hj] at hY
        have h1 := ((k.holds i X hX).lt b hb).1
        have h2 := ((h.holds _ Y hY).lt b hb').2
        omega
    · rw [List.getElem?_append_right hi] at hX
      rcases Nat.lt_or_ge j M.length with hj | hj
      · rw [List.getElem?_append_left hj] at hY
        have h1 := ((k.holds j Y hY).lt b hb').1
        have h2 := ((h.holds _ X hX).lt b hb).2
        omega
      · rw [List.getElem?_append_right hj] at hY; exact hc.apart _ _ X Y (by omega) hX hY b hb hb'
theorem Owns.rdH (h : Owns lo w0 w L) (i j : Nat) {cv rv : Value} {rvs : List Value} {cs : List Cel} {rs : List Int} (hX : L[i]? = some (.cells cv rvs cs)) (hY : L[j]? = some (.ints rv rs)) : RdH w w.heap.size (.agg #[cv, rv]) ⟨cs, rs⟩ := by
  obtain ⟨A, a, rfl, h1⟩ := h.formC i hX
  obtain ⟨C, c, rfl, h2⟩ := h.formI j hY
  exact ⟨_, _, _, _, _, _, rfl, h1, h2⟩
end
end Go.Proofs.Ytdkpfggfkhnjfaa

/- How the arguments of the laws are opened: a value that can be read as data of type []int or laws.Heap reads as a list or a heap; and it reads so still behind a call that turns nothing old. No condition. -/
namespace Go.Proofs.Ytdkpfggfkhnjfaa
open Go.RowKit Go.ChangeShapes Go.WideShapes Go.Deep Go.Joins
section
variable {H : Type} {enc : TypeId × Value → H} {P : Program}
theorem post_below {f : Func} {s : ChangeSpec} {apart fresh handsOn again : Bool} {W W' : World} {args : Array Value} {v : Value} {ds gs : List (DataW H)} {before pa pv : List MemPlace}
    (hW : DataW.Whole enc P f.params.toList s.vars apart W args.toList ds gs before)
    (hres : ∀ (b : Nat) (sp : Nat → Bool) (hd : Bool), DataW.TrodAll enc P W' b sp hd f.resultTypes.toList (v.resultList f.resultTypes.size) (s.fn H (ds ++ gs)).results [])
    (hargs : ∀ sp : Nat → Bool, (∀ p ∈ before, sp p.block = true) → DataW.TrodAll enc P W' 0 sp true f.params.toList args.toList (s.fn H (ds ++ gs)).args pa)
    (hvars : ∀ sp : Nat → Bool, (∀ p ∈ before, sp p.block = true) → DataW.TrodVars enc P W' sp s.vars (s.fn H (ds ++ gs)).vars pv)
    (hps : before = pa ++ pv) (hb : Below W.heap.size W W')
    (hok : ∀ (j : Nat) (t : TypeId) (r : Value), f.resultTypes[j]? = some t → (v.resultList f.resultTypes.size)[j]? = some r → Value.okWide P W' .any 0 t r) :
    s.post enc P f apart fresh handsOn again W args v W' := by
  have hlt : ∀ p ∈ before, p.block < W.heap.size := fun p hp => hW.lt p hp
  have hold : ∀ p ∈ before, (fun b => decide (b < W.heap.size)) p.block = true := fun p hp => by simpa using hlt p hp
  refine ⟨ds, gs, before, [], pa, pv, hW, hres _ _ _, hargs _ hold, hvars _ hold, World.keptBut_mono (fun p hp => ⟨hp, ?_⟩) (hb.frame (· ∈ before)), fun _ => ?_⟩
  · rw [hps, List.mem_append] at hp
    exact Or.inr hp
  · obtain ⟨_, _, _, _, _, hz, hn⟩ := hW
    refine ⟨hok, _, _, ([] ++ pa) ++ pv, ⟨[] ++ pa, pv, trodAll_append (hargs _ (fun _ _ => rfl)) (hres _ _ _), hvars _ (fun _ _ => rfl), rfl, ?_, ?_⟩, ?_⟩
    · intro b off hp
      have hin : MemPlace.cell b off ∈ before := by rw [hps]; simpa using hp
      rw [hb.frozen (hlt _ hin)]
      exact hz b off hin
    · intro ha
      have := hn ha
      rw [hps] at this
      simpa using this
    · intro p hp _
      rw [hps]
      simpa using hp

theorem trodAll_stays (hl : laidOutB P = true) {W W' : World} (hb : Below W.heap.size W W') : ∀ {ts : List TypeId} {vs : List Value} {ds : List (DataW H)} {ps : List MemPlace},
    (∀ t ∈ ts, P.readableRec t = true ∧ t < P.types.size) → DataW.TrodAll enc P W 0 (fun _ => true) true ts vs ds ps → (∀ p ∈ ps, p.block < W.heap.size) →
    ∀ sp : Nat → Bool, (∀ p ∈ ps, sp p.block = true) → DataW.TrodAll enc P W' 0 sp true ts vs ds ps
  | [], vs, ds, ps, _, h, _, sp, _ => by
    obtain ⟨rfl, rfl, rfl⟩ := trodAll_nil h
    exact trodAll_mk0
  | t :: ts, vs, ds, ps, hr, h, hlt, sp, hsp => by
    obtain ⟨v, vs', d, ds', p, q, rfl, rfl, rfl, h0, h1⟩ := trodAll_cons h
    refine trodAll_cons_mk (WideElems.Trod_stays hl (hr t (by simp)).1 (hr t (by simp)).2 h0 (fun x hx => hb.same (hlt x (by simp [hx]))) (fun x hx => hsp x (by simp [hx])))
      (trodAll_stays hl hb (fun t ht => hr t (by simp [ht])) h1 (fun x hx => hlt x (by simp [hx])) sp (fun x hx => hsp x (by simp [hx])))

variable {w : World} {base : Nat} {spare : Nat → Bool} {held : Bool}
theorem open_slice_fields {t e : TypeId} {fs : Array Field} {fuel : Nat} {cs : List Value} {x : DataW H × List MemPlace} (ht : P.underlying t = some (.slice e)) (he : P.underlying e = some (.struct fs))
    (hone : oneCellFields P fs = true) (hC : P.cellsOf e = fs.size) (h : DataW.trod enc P w base spare held fuel t cs = some x) :
    (cs = [.slice none 0 0]) ∨
    ∃ (a : Addr) (len cap m : Nat), cs = [.slice (some a) len cap] ∧ len ≤ cap ∧ cap ≤ maxLen ∧ m = (if spare a.block then cap else len) ∧
      ∀ i, i < m → ∃ (n : Nat), ∀ (j : Nat) (f : Field), fs[j]? = some f → ∃ (v : Value) (y : DataW H × List MemPlace), w.cell? (a.add (i * fs.size + j)) = some v ∧ DataW.trod enc P w base spare held n f.type [v] = some y := by
  rcases open_slice ht h with h0 | ⟨a, len, cap, m, n, D, Pl, hcs, hb, hl, hm, hmm, hx, hi⟩
  · exact .inl h0.1
  · refine .inr ⟨a, len, cap, m, hcs, hl, hm, hmm, fun i him => ?_⟩
    obtain ⟨cs', hc, ht'⟩ := hi i him
    rw [hC] at hc
    obtain ⟨ys, n', hn', hy, hlen, hyl, hf⟩ := DataW.trod_struct he ht'
    obtain ⟨_, hcl, hat⟩ := World.cells?_some hc
    refine ⟨n', fun j f hj => ?_⟩
    obtain ⟨ho, hk⟩ := hone_of hone j f hj
    have hjl : j < fs.size := (Array.getElem?_eq_some_iff.1 hj).1
    have hcell := hat j hjl
    have hv : cs'[j]? = some (cs'[j]'(by omega)) := List.getElem?_eq_getElem (by omega)
    have h1 := hf j f hj
    rw [ho, hk] at h1
    have hone' : (cs'.drop j).take 1 = [cs'[j]'(by omega)] := by
      rw [List.drop_eq_getElem_cons (by omega)]
      rfl
    rw [hone'] at h1
    have hys : ys[j]? = some (ys[j]'(by omega)) := List.getElem?_eq_getElem (by omega)
    refine ⟨_, _, ?_, h1.trans hys⟩
    rw [← Go.Deep.add_add, hcell, hv]
theorem spot_none {w : World} {b o : Nat} {s : Option Nat} {v : Value} (h : w.cell? ⟨b, o, s⟩ = some v) : s = none := by
  cases s with
  | none => rfl
  | some x => simp [World.cell?] at h; split at h <;> simp at h
end

/-- A number of the kind int. -/
def I64 (x : Int) : Prop := -9223372036854775808 ≤ x ∧ x ≤ 9223372036854775807
theorem i64_of_wf {x : Int} (h : (Lit.int .i64 x).wf = true) : I64 x := by simpa [I64, Lit.wf, IntKind.min, IntKind.max, IntKind.signed, IntKind.bits] using h

section
variable {H : Type} {enc : TypeId × Value → H} {w : World} {base : Nat} {held : Bool}
theorem Try.cellsInt : Try.prog.cellsOf 3 = 1 := by kernel_rfl
set_option maxRecDepth 100000 in
theorem open_ints_trod {fuel : Nat} {v : Value} {x : DataW H × List MemPlace} (h : DataW.trod enc Try.prog w base (fun _ => true) held fuel 27 [v] = some x) :
    ∃ A n c xs, v = .slice A n c ∧ RdI w w.heap.size A n c xs ∧ ∀ x ∈ xs, I64 x := by
  rcases open_ints Try.underlying27 Try.underlying3 Try.cellsInt h with ⟨hcs, _⟩ | ⟨a, len, cap, zs, hcs, _, hl, hm, hz, _, hcell, hwf⟩
  · simp only [List.cons.injEq, and_true] at hcs
    subst hcs
    exact ⟨none, 0, 0, [], rfl, rdV_nil _ _, fun x hx => absurd hx (by simp)⟩
  · simp only [List.cons.injEq, and_true] at hcs
    subst hcs
    simp only [if_true] at hz
    refine ⟨some a, len, cap, zs.take len, rfl, ⟨by simp; omega, hl, hm, fun hn => ?_⟩, fun x hx => i64_of_wf (hwf x (List.mem_of_mem_take hx))⟩
    obtain ⟨b, o, s⟩ := a
    have h0 := hcell 0 (by omega)
    obtain rfl := spot_none (s := s) (by simpa [Addr.add] using h0)
    have hat : ∀ j u, ((zs.take len).map (Value.int .i64))[j]? = some u → w.cell? ⟨b, o + j, none⟩ = some u := by
      intro j u hu
      obtain ⟨hj, hju⟩ := List.getElem?_eq_some_iff.1 hu
      have hj' : j < len := by simp at hj; omega
      have hj2 : j < zs.length := by omega
      have := hcell j (by omega)
      rw [Addr.add_lit] at this
      rw [this, ← hju]
      simp [List.getD, hj2]
    exact ⟨b, o, rfl, lt_of_cell (hat 0 _ (List.getElem?_eq_getElem (by simp; omega))), hat⟩
set_option maxRecDepth 100000 in
theorem open_ints_arg {v : Value} {d : DataW H} {p : List MemPlace} (hv : Value.okWide Try.prog w .any base 27 v) (h : DataW.Trod enc Try.prog w 0 (fun _ => true) held 27 v d p) :
    ∃ A n c xs, v = .slice A n c ∧ RdI w w.heap.size A n c xs ∧ ∀ x ∈ xs, I64 x := by
  obtain ⟨a0, len, cap, rfl⟩ := okWide_slice Try.underlying27 hv
  obtain ⟨fuel, hf⟩ := h
  exact open_ints_trod (v := .slice a0 len cap) (by simpa [Value.cells] using hf)

/-- All numbers in a heap are of the kind int. -/
def HpI (h : Hp) : Prop := (∀ c ∈ h.cells, I64 c.data ∧ ∀ x ∈ c.refs, I64 x) ∧ ∀ x ∈ h.roots, I64 x
/-- For every index something: a list. -/
theorem list_of_ex {α : Type} {p : Nat → α → Prop} : ∀ n, (∀ i, i < n → ∃ x, p i x) → ∃ l : List α, l.length = n ∧ ∀ (i : Nat) (x : α), l[i]? = some x → p i x
  | 0, _ => ⟨[], rfl, fun i x h => by simp at h⟩
  | n + 1, h => by
    obtain ⟨l, hl, hp⟩ := list_of_ex n fun i hi => h i (by omega)
    obtain ⟨x, hx⟩ := h n (by omega)
    refine ⟨l ++ [x], by simp [hl], fun i y hy => ?_⟩
    rcases Nat.lt_or_ge i l.length with hi | hi
    · rw [List.getElem?_append_left hi] at hy; exact hp i y hy
    · rw [List.getElem?_append_right hi] at hy
      have e : i = n := by
        rcases Nat.eq_zero_or_pos (i - l.length) with h0 | h0
        · omega
        · obtain ⟨m, hm⟩ : ∃ m, i - l.length = m + 1 := ⟨i - l.length - 1, by omega⟩
          rw [hm] at hy; simp at hy
      subst e
      simp [hl] at hy
      subst hy
      exact hx
end
end Go.Proofs.Ytdkpfggfkhnjfaa
