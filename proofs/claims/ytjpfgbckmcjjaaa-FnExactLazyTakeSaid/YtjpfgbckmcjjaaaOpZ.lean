/- A lazy heap among the arguments of a law reads as a lazy heap; how many marks a lazy heap takes. No program is walked. -/
import Derived.Test.YtjpfgbckmcjjaaaZo
import Derived.Test.YtjpfgbckmcjjaaaLr
import Derived.Test.YtjpfgbckmcjjaaaDrL
import Derived.Deep.Strs
namespace Go.Proofs.Ytjpfgbckmcjjaaa
open Go.RowKit Go.ChangeShapes Go.WideShapes Go.Deep Go.Joins
theorem Owns.box4 {lo : Nat} {w0 w : World} {L : List OB} {g : Nat} {a b c d : Value} {t : TypeId} (h : Owns lo w0 w L) (i : Nat) (hX : L[i]? = some (.box g [a, b, c, d] t)) : w.cell? ⟨g, 0, none⟩ = some a ∧ w.cell? ⟨g, 1, none⟩ = some b ∧ w.cell? ⟨g, 2, none⟩ = some c ∧ w.cell? ⟨g, 3, none⟩ = some d ∧ w.frozen? ⟨g, 0, none⟩ = false ∧ w.frozen? ⟨g, 1, none⟩ = false ∧ w.frozen? ⟨g, 2, none⟩ = false ∧ w.frozen? ⟨g, 3, none⟩ = false := Go.Proofs.Ytjpfgbckmcjjaaa.box4 h i hX
theorem mTake_len (l : Lz) : kLzz (mTake l).1 ≤ 16777216 := by
  unfold kLzz
  cases e : mLzValid l
  · rw [mTake_no e]; simp [kHeap, kAdd]
  · have h1 := (take_valid e).1
    have h2 := heapOk_k (lzOk_iff.1 h1).ok
    have h3 := (smz_valid h1).marks
    omega
section
variable {H : Type} {enc : TypeId × Value → H} {w : World} {base : Nat} {held : Bool}
set_option maxRecDepth 100000 in
theorem open_lazy_arg {v : Value} {d : DataW H} {p : List MemPlace} (hv : Value.okWide Try.prog w .any base 64 v) (h : DataW.Trod enc Try.prog w 0 (fun _ => true) held 64 v d p) :
    ∃ l, RdZ w w.heap.size v l := by
  obtain ⟨cs, rfl, hsz⟩ := okWide_struct Try.underlying64 hv
  obtain ⟨c0, c1, c2, c3, rfl⟩ : ∃ c0 c1 c2 c3, cs = #[c0, c1, c2, c3] := by
    have hl := hsz.trans Try.cellsZLazy
    obtain ⟨l⟩ := cs
    match l, hl with
    | [a, b, c, d], _ => exact ⟨a, b, c, d, rfl⟩
  obtain ⟨fuel, hf⟩ := h
  obtain ⟨y0, y1, y2, n, -, -, h0, h1, h2⟩ := trod_struct3 Try.underlying64 hf
  have k0 : DataW.trod enc Try.prog w 0 (fun _ => true) held n 62 [c0, c1] = some y0 := by simpa [Value.cells, Try.cellsZHeap] using h0
  have k1 : DataW.trod enc Try.prog w 0 (fun _ => true) held n 35 [c2] = some y1 := by simpa [Value.cells, Try.cellsZHeap, Try.cellsZBools] using h1
  have k2 : DataW.trod enc Try.prog w 0 (fun _ => true) held n 3 [c3] = some y2 := by simpa [Value.cells, Try.cellsZHeap, Try.cellsZBools, Try.cellsZInt] using h2
  obtain ⟨z0, z1, n2, -, -, g0, g1⟩ := trod_struct2 Try.underlying62 k0
  have j0 : DataW.trod enc Try.prog w 0 (fun _ => true) held n2 60 [c0] = some z0 := by simpa [Try.cellsZCells] using g0
  have j1 : DataW.trod enc Try.prog w 0 (fun _ => true) held n2 24 [c1] = some z1 := by simpa [Try.cellsZInts, Try.cellsZCells] using g1
  obtain ⟨A, m, c, cs, rfl, hC, hI⟩ := open_cells_trod j0
  obtain ⟨A', m', c', xs, rfl, hR, hX⟩ := open_ints_trod j1
  obtain ⟨E, q, f, bs, rfl, hE⟩ := open_bools_trod k1
  obtain ⟨z, e1, _, hz⟩ := DataW.trod_int Try.underlying3 k2
  simp only [List.cons.injEq, and_true] at e1
  subst e1
  exact ⟨⟨⟨cs, xs⟩, bs, z⟩, ⟨A, m, c, A', m', c', E, q, f, rfl, hC, hR, hE⟩⟩
end
theorem lzBulk_k {l : Lz} (h : (lzBulk l : Int) ≤ 1048576) : kLzz l ≤ 16777216 := by
  unfold lzBulk at h
  unfold kLzz kHeap
  have := kAdd_bulk l.store.cells
  omega
end Go.Proofs.Ytjpfgbckmcjjaaa
