/- A table among the arguments of a law reads as a table. No program is walked. -/
import Derived.Test.YtoekikeomgfaiaaOpen
import Derived.Test.YtoekikeomgfaiaaTb
namespace Go.Proofs.Ytoekikeomgfaiaa
open Go.RowKit Go.ChangeShapes Go.WideShapes Go.Deep Go.Joins
section
variable {H : Type} {enc : TypeId × Value → H} {w : World} {base : Nat} {held : Bool}
theorem Try.cellsLTable : Try.prog.cellsOf 46 = 3 := by kernel_rfl
theorem Try.cellsLInts : Try.prog.cellsOf 23 = 1 := by kernel_rfl
theorem Try.cellsLCells : Try.prog.cellsOf 22 = 1 := by kernel_rfl
set_option maxRecDepth 100000 in
theorem open_table_arg {v : Value} {d : DataW H} {p : List MemPlace} (hv : Value.okWide Try.prog w .any base 46 v) (h : DataW.Trod enc Try.prog w 0 (fun _ => true) held 46 v d p) :
    ∃ t, RdT w w.heap.size v t ∧ HpI t.store := by
  obtain ⟨cs, rfl, hsz⟩ := okWide_struct Try.underlying46 hv
  obtain ⟨c0, c1, c2, rfl⟩ := array3 (hsz.trans Try.cellsLTable)
  obtain ⟨fuel, hf⟩ := h
  obtain ⟨y0, y1, n, -, -, h0, h1⟩ := trod_struct2 Try.underlying46 hf
  have k0 : DataW.trod enc Try.prog w 0 (fun _ => true) held n 25 [c0, c1] = some y0 := by simpa [Value.cells, Try.cellsLHeap] using h0
  have k1 : DataW.trod enc Try.prog w 0 (fun _ => true) held n 23 [c2] = some y1 := by simpa [Value.cells, Try.cellsLInts] using h1
  obtain ⟨z0, z1, n2, -, -, g0, g1⟩ := trod_struct2 Try.underlying25 k0
  have j0 : DataW.trod enc Try.prog w 0 (fun _ => true) held n2 22 [c0] = some z0 := by simpa [Try.cellsLCells] using g0
  have j1 : DataW.trod enc Try.prog w 0 (fun _ => true) held n2 23 [c1] = some z1 := by simpa [Try.cellsLInts] using g1
  obtain ⟨A, m, c, cs, rfl, hC, hI⟩ := open_cells_trod j0
  obtain ⟨A', m', c', xs, rfl, hR, hX⟩ := open_ints_trod j1
  obtain ⟨E, q, f, hs, rfl, hE, -⟩ := open_ints_trod k1
  exact ⟨⟨⟨cs, xs⟩, hs⟩, ⟨A, m, c, A', m', c', E, q, f, rfl, hC, hR, hE⟩, hI, hX⟩
end
end Go.Proofs.Ytoekikeomgfaiaa
