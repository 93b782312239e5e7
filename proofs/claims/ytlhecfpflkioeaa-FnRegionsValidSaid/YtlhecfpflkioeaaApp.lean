/- append on a slice of ints that the call itself has made, as a law of the walk; small facts on lists for the loops that append. -/
import Derived.Test.YtlhecfpflkioeaaTo
import Derived.Deep.AppendLies
namespace Go.Proofs.Ytlhecfpflkioeaa
open Go.RowKit
theorem mapI_oneCell (ys : List Int) : ∀ u ∈ ys.map (Value.int .i64), u.oneCell' = true := ints_oneCell .i64 ys
theorem news_at {w : World} {g : Nat} {ys : List Value} {t : TypeId} (hg : w.heap[g]? = some (.cells ys.toArray t (0, 0))) : ∀ j u, ys[j]? = some u → w.cell? ((⟨g, 0, none⟩ : Addr).add j) = some u := by
  intro j u hu
  rw [add_lit0, cell_of_row w g j _ t (0, 0) hg]
  simpa using hu

theorem wpList_pushI {w : World} {ops : Array Oper} {rest : List Oper} {o : Oper} {a : Act} {Q : Exit → Act → World → Prop} (hgd : o.guard = none) (s x : Operand)
    (hop : o.op = .call { callee := .builtin .append, args := #[s, x], argTypes := #[24, 24] })
    (lo : Nat) (v : Value) (xs : List Int) (hs : a.eval s = v) (hown : w.ownsRow lo 3 1 v xs.length (xs.map (Value.int .i64)))
    (g : Nat) (ys : List Int) (m c : Nat) (hx : a.eval x = .slice (some ⟨g, 0, none⟩) m c) (hm : m = ys.length) (hg : w.heap[g]? = some (.cells (ys.map (Value.int .i64)).toArray 3 (0, 0)))
    (hb : xs.length + ys.length ≤ 1099511627776) (hlo : lo ≤ w.heap.size)
    (h : ∀ v' w', OwI w' lo w'.heap.size v' (xs ++ ys) → w.grownBy w' v.ownBlock → wpList Try.prog ops Q rest (a.put o.dst v') w') : wpList Try.prog ops Q (o :: rest) a w := by
  obtain ⟨i0, hi, hz0, hz1, hz2⟩ := info_parts Try.infoInt
  subst hm
  refine wpList_append_own w hgd s x 24 hop lo 3 i0 (.int .i64 0) 1 8 Try.underlying24 hi hz0 hz1 hz2 rfl (by omega) v xs.length (xs.map (Value.int .i64)) hs hown ⟨g, 0, none⟩ ys.length c (ys.map (Value.int .i64)) hx (by simp) (news_at hg) (mapI_oneCell ys)
    (by unfold maxLen; omega) (by omega) hlo ?_
  intro v' w' ho hg' _
  refine h v' w' ⟨by simpa using ho, fun k hk => (ho.lt k hk).2⟩ hg'

theorem below_row {B lo : Nat} {a w w' : World} {e : TypeId} {size n : Nat} {v : Value} {ys : List Value} (hb : Below B a w) (ho : w.ownsRow lo e size v n ys) (hg : w.grownBy w' v.ownBlock) (hB : B ≤ lo) (hs : B ≤ w.heap.size) : Below B a w' :=
  hb.grown hg hs fun k hk => by have := (ho.lt k hk).1; omega
/-- A row, empty, that is a literal '[]int{}'. -/
theorem own_empty (w : World) (t : TypeId) (lo size : Nat) (h : lo ≤ w.heap.size) : (w.alloc (.cells #[] t)).ownsRow lo t size (.slice (some ⟨w.heap.size, 0, none⟩) 0 0) 0 [] :=
  World.ownsRow_lit w #[] 0 h zero_le_maxLen (by simp)
theorem own_lit (w : World) (t : TypeId) (lo : Nat) (xs : List Value) (h : lo ≤ w.heap.size) (hm : xs.length ≤ maxLen) : (w.alloc (.cells xs.toArray t)).ownsRow lo t 1 (.slice (some ⟨w.heap.size, 0, none⟩) xs.length xs.length) xs.length xs := by
  have := World.ownsRow_lit (e := t) (size := 1) w xs.toArray xs.length h hm (by simp)
  simpa using this
end Go.Proofs.Ytlhecfpflkioeaa
