/- Slices of pairs: what they read as, and the laws' size, copy and equality functions over them, for sizes up to 2^20. -/
import Derived.Test.YtnpehidhoekfcaaSz
import Derived.Test.YtnpehidhoekfcaaZ0
import Derived.Test.YtnpehidhoekfcaaEq
namespace Go.Proofs.Ytnpehidhoekfcaa
open Go.RowKit
structure RdP (w : World) (B : Nat) (A : Option Addr) (n c : Nat) (ps : List (Int × Int)) : Prop where
  len : n = ps.length
  cap : n ≤ c
  mx : c ≤ maxLen
  rd : 0 < n → ∃ b o, A = some ⟨b, o, none⟩ ∧ b < B ∧ ∀ (j : Nat) (p : Int × Int), ps[j]? = some p → w.cell? ⟨b, o + j * 2, none⟩ = some (.int .i64 p.1) ∧ w.cell? ⟨b, o + j * 2 + 1, none⟩ = some (.int .i64 p.2)
section
variable {w w' : World} {B B' : Nat} {A : Option Addr} {n c : Nat} {ps : List (Int × Int)}
theorem RdP.below (h : RdP w B A n c ps) (hb : Below B w w') : RdP w' B A n c ps :=
  ⟨h.len, h.cap, h.mx, fun hn => by
    obtain ⟨b, o, hA, hlt, hc⟩ := h.rd hn
    refine ⟨b, o, hA, hlt, fun j l hj => ?_⟩
    obtain ⟨h1, h2⟩ := hc j l hj
    exact ⟨(hb.cell (p := ⟨b, _, none⟩) hlt).trans h1, (hb.cell (p := ⟨b, _, none⟩) hlt).trans h2⟩⟩
theorem RdP.mono (h : RdP w B A n c ps) (hb : B ≤ B') : RdP w B' A n c ps :=
  ⟨h.len, h.cap, h.mx, fun hn => by
    obtain ⟨b, o, hA, hlt, hc⟩ := h.rd hn
    exact ⟨b, o, hA, by omega, hc⟩⟩
theorem RdP.top (h : RdP w B A n c ps) : RdP w w.heap.size A n c ps :=
  ⟨h.len, h.cap, h.mx, fun hn => by
    obtain ⟨b, o, hA, hlt, hc⟩ := h.rd hn
    have hl : 0 < ps.length := by have := h.len; omega
    exact ⟨b, o, hA, lt_of_cell (hc 0 _ (List.getElem?_eq_getElem hl)).1, hc⟩⟩
theorem RdP.at_ (h : RdP w B A n c ps) {k : Nat} (hk : k < n) : ∃ b o x y, A = some ⟨b, o, none⟩ ∧ b < B ∧ Hid (ps[k]? = some (x, y)) ∧ w.cell? ⟨b, o + k * 2, none⟩ = some (.int .i64 x) ∧ w.cell? ⟨b, o + k * 2 + 1, none⟩ = some (.int .i64 y) := by
  obtain ⟨b, o, hA, hlt, hc⟩ := h.rd (by omega)
  have hl : k < ps.length := by have := h.len; omega
  obtain ⟨h1, h2⟩ := hc k _ (List.getElem?_eq_getElem hl)
  exact ⟨b, o, ps[k].1, ps[k].2, hA, hlt, List.getElem?_eq_getElem hl, h1, h2⟩
theorem RdP.le1 (h : RdP w B A n c ps) : n ≤ ps.length := by have := h.len; omega
theorem RdP.le2 (h : RdP w B A n c ps) : ps.length ≤ n := by have := h.len; omega
end

def pairVals : List (Int × Int) → List Value
  | [] => []
  | p :: ps => .int .i64 p.1 :: .int .i64 p.2 :: pairVals ps
theorem pairVals_length : ∀ ps, (pairVals ps).length = ps.length * 2
  | [] => rfl
  | p :: ps => by simp [pairVals, pairVals_length ps]; omega
theorem pairVals_at : ∀ (ps : List (Int × Int)) (i : Nat) (p : Int × Int), ps[i]? = some p → (pairVals ps)[i * 2]? = some (.int .i64 p.1) ∧ (pairVals ps)[i * 2 + 1]? = some (.int .i64 p.2)
  | [], _, _, h => by simp at h
  | q :: ps, 0, p, h => by simp at h; subst h; simp [pairVals]
  | q :: ps, i + 1, p, h => by
    have := pairVals_at ps i p (by simpa using h)
    have e0 : (i + 1) * 2 = i * 2 + 2 := by omega
    rw [e0]
    simpa [pairVals] using this
theorem pairVals_snoc : ∀ (ps : List (Int × Int)) (p : Int × Int), pairVals (ps ++ [p]) = pairVals ps ++ [.int .i64 p.1, .int .i64 p.2]
  | [], _ => rfl
  | q :: ps, p => by simp [pairVals, pairVals_snoc ps p]
def zpairs : Nat → List Value
  | 0 => []
  | m + 1 => .int .i64 0 :: .int .i64 0 :: zpairs m
theorem zpairs_eq : ∀ m, zpairs m = List.replicate (m * 2) (.int .i64 0)
  | 0 => rfl
  | m + 1 => by rw [zpairs, zpairs_eq m, show (m + 1) * 2 = m * 2 + 1 + 1 by omega, List.replicate_succ, List.replicate_succ]
theorem made_zpairs (n : Nat) : (madeCells #[Value.int .i64 0, .int .i64 0] (n * 2)).toList = zpairs n := by
  rw [zpairs_eq]
  apply List.ext_getElem?
  intro j
  by_cases hj : j < n * 2
  · have h3 : j % 2 < 2 := Nat.mod_lt _ (by omega)
    have e : j % 2 = 0 ∨ j % 2 = 1 := by omega
    rcases e with e | e <;> simp [madeCells, hj, e]
  · simp [madeCells, hj]
theorem fill2 (ps : List (Int × Int)) (k n : Nat) (x y : Int) (hk : Hid (ps[k]? = some (x, y))) (hn : k < n) :
    ((pairVals (ps.take k) ++ zpairs (n - k)).set (k * 2) (.int .i64 x)).set (k * 2 + 1) (.int .i64 y) = pairVals (ps.take (k + 1)) ++ zpairs (n - (k + 1)) := by
  obtain ⟨hk', he⟩ := List.getElem?_eq_some_iff.1 hk.out
  have hL : (pairVals (ps.take k)).length = k * 2 := by rw [pairVals_length, List.length_take]; omega
  rw [List.take_succ_eq_append_getElem hk', pairVals_snoc, he]
  generalize pairVals (ps.take k) = L at *
  have e : n - k = (n - (k + 1)) + 1 := by omega
  rw [e]
  rw [List.set_append_right _ _ (by omega), List.set_append_right _ _ (by omega)]
  rw [hL, show k * 2 - k * 2 = 0 by omega, show k * 2 + 1 - k * 2 = 1 by omega]
  simp [zpairs]

structure OwP (w : World) (lo hi : Nat) (v : Value) (ps : List (Int × Int)) : Prop where
  own : w.ownsRow lo 57 2 v ps.length (pairVals ps)
  lt : ∀ k, v.ownBlock = some k → k < hi
section
variable {w w' : World} {lo hi lo' hi' : Nat} {v : Value} {ps : List (Int × Int)}
theorem OwP.keep (ho : OwP w lo hi v ps) (hk : ∀ k, lo ≤ k → k < hi → w'.heap[k]? = w.heap[k]?) : OwP w' lo hi v ps :=
  ⟨own_keep ho.own fun k e => hk k (ho.own.lt k e).1 (ho.lt k e), ho.lt⟩
theorem OwP.below (ho : OwP w lo hi v ps) {B : Nat} (hb : Below B w w') (hB : hi ≤ B) : OwP w' lo hi v ps := ho.keep fun k _ h => hb.block k (by omega)
theorem OwP.form (ho : OwP w lo hi v ps) : ∃ A c, v = .slice A ps.length c ∧ RdP w hi A ps.length c ps := by
  rcases ho.own.2 with ⟨rfl, h0⟩ | ⟨g, cap, cur, rfl, hb, hg, hn, hm, hs, ht⟩
  · exact ⟨none, 0, by rw [h0], rfl, by omega, zero_le_maxLen, fun h => by omega⟩
  · refine ⟨_, cap, rfl, rfl, hn, hm, fun h => ⟨g, 0, rfl, ho.lt g rfl, fun j l hl => ?_⟩⟩
    obtain ⟨e1, e2⟩ := pairVals_at ps j l hl
    have c1 := ho.own.cells (g := g) rfl _ _ e1
    have c2 := ho.own.cells (g := g) rfl _ _ e2
    rw [add_lit0] at c1 c2
    exact ⟨by simpa using c1, by simpa using c2⟩
end
def MadeP (w : World) (ps : List (Int × Int)) (e : Ending) (w' : World) : Prop := ∃ v, e = .returned v ∧ OwP w' w.heap.size w'.heap.size v ps ∧ Below w.heap.size w w'

theorem Try.infoPair : (Try.prog.info? 57).map (fun i => (i.zero, i.size, i.bytes)) = some (some (.agg #[.int .i64 0, .int .i64 0]), 2, 16) := by kernel_rfl

end Go.Proofs.Ytnpehidhoekfcaa
