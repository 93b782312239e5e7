/- Tables: what can be read of them, and the laws' functions on them (size, copy, comparison). -/
import Derived.Test.YtjpfgbckmcjjaaaZ0
import Derived.Test.YtjpfgbckmcjjaaaSz
import Derived.Test.YtjpfgbckmcjjaaaEq
namespace Go.Proofs.Ytjpfgbckmcjjaaa
open Go.RowKit
structure Tbl where
  store : Hp
  hands : List Int
def RdT (w : World) (B : Nat) (v : Value) (t : Tbl) : Prop :=
  ∃ A n c A' n' c' E q f, v = .agg #[.slice A n c, .slice A' n' c', .slice E q f] ∧ RdC w B A n c t.store.cells ∧ RdI w B A' n' c' t.store.roots ∧ RdI w B E q f t.hands
theorem RdT.below {w w' : World} {B : Nat} {v : Value} {t : Tbl} (hh : RdT w B v t) (hb : Below B w w') : RdT w' B v t :=
  let ⟨A, n, c, A', n', c', E, q, f, e, h1, h2, h3⟩ := hh
  ⟨A, n, c, A', n', c', E, q, f, e, h1.below hb, h2.below hb, h3.below hb⟩
theorem RdT.mono {w : World} {B B' : Nat} {v : Value} {t : Tbl} (hh : RdT w B v t) (hb : B ≤ B') : RdT w B' v t :=
  let ⟨A, n, c, A', n', c', E, q, f, e, h1, h2, h3⟩ := hh
  ⟨A, n, c, A', n', c', E, q, f, e, h1.mono hb, h2.mono hb, h3.mono hb⟩
theorem RdT.top {w : World} {B : Nat} {v : Value} {t : Tbl} (hh : RdT w B v t) : RdT w w.heap.size v t :=
  let ⟨A, n, c, A', n', c', E, q, f, e, h1, h2, h3⟩ := hh
  ⟨A, n, c, A', n', c', E, q, f, e, h1.top, h2.top, h3.top⟩
def tblBulk (t : Tbl) : Nat := cellsBulk t.store.cells + t.store.roots.length + t.hands.length
/-- A call makes a table: three parts of its own. -/
def OwT (w : World) (lo : Nat) (w0 : World) (v : Value) (t : Tbl) (L : List OB) : Prop :=
  ∃ cv rvs rv hv, v = .agg #[cv, rv, hv] ∧ Owns lo w0 w (.cells cv rvs t.store.cells :: .ints rv t.store.roots :: .ints hv t.hands :: L)
def MadeT (w : World) (t : Tbl) (e : Ending) (w' : World) : Prop := ∃ v, e = .returned v ∧ OwT w' w.heap.size w v t []
def T0 (t : Tbl) : Nat := cellsBulk t.store.cells + t.store.roots.length
end Go.Proofs.Ytjpfgbckmcjjaaa
