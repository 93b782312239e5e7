/-
  No cell of these rows narrows 'for every input' (looked for: loops, veiled, ifaces, maps, wideKeys, modest, calm, conditions, laid).
  DERIVED. THE GIVEN ROWS OF THIS SEAT. 7 by the template 'for every input the law returns true; each argument reads behind the call as it read before'; 0 by the template 'total and deterministic' (their statements: YtoekikeomgfaiaaTotals.lean).
  GIVEN WITH THE SEED: the statements are not yours to turn. If you find one false, say at which input.
  Laid BY PROGRAM, IN A SANDBOX (cutbox-rows.mjs): the forced cells as the released guide's own fill.sh prints them over the translation 0f80c20fc269eb7e… (all of the seat's roots in one cut). By AI agents, Wed Nov 11 2026. No macro, syntax, notation, axiom, sorry.
-/
import Derived.Test.YtoekikeomgfaiaaChecked
import GoSem.Claim
import GoSem.ClaimJoined
import GoSem.ClaimMapViews
import Derived.JoinedTies
import Derived.KernelRfl
namespace Go.Proofs.Ytoekikeomgfaiaa
/- THE CELL 'sum', in the pinned program and in every row, IS THE sha256 OF THE DUMP (.gsa) THAT YtoekikeomgfaiaaProg.lean LOADS. Nothing in Lean hashes anything: it is a label: what it is worth is what the hold of that sum in a sandbox is worth. -/
noncomputable def Try.pinned : Pinned := { name := "ytoekikeomgfaiaa", sum := "0f80c20fc269eb7ef9fdad6bc37ff42929dc71e975d74cda2a6b23f7b383ba0f", checked := Try.checked }
namespace Rows
def none {H : Type} : Left H := { results := [], args := [] }

/-- 'laws.FnExactDropRegion': WHATEVER THE INPUT: true; the input reads as it did. -/
def fnExactDropRegionSpec : ChangeSpec := { name := "fnExactDropRegion", fn := fun _ => fun
  | [d1, d2, d3] => { results := [.lit (.bool true)], args := [d1, d2, d3] }
  | _ => none }
def fnExactDropRegionRow : OpenClaim := { program := "ytoekikeomgfaiaa", sum := "0f80c20fc269eb7ef9fdad6bc37ff42929dc71e975d74cda2a6b23f7b383ba0f", func := "loop.example/memorymanagers/laws.FnExactDropRegion", spec := "fnExactDropRegion", apart := false }
def FnExactDropRegionSaid : Prop := fnExactDropRegionRow.holds Try.pinned (OpenSpec.ofChange fnExactDropRegionSpec)

/-- ITS FALSE NEIGHBOUR: 'it returns false'. Refute it at one input. -/
def fnExactDropRegionWrong : ChangeSpec := { name := "fnExactDropRegion", fn := fun _ => fun
  | [d1, d2, d3] => { results := [.lit (.bool false)], args := [d1, d2, d3] }
  | _ => none }
def FnExactDropRegionWrongFalsely : Prop := fnExactDropRegionRow.holds Try.pinned (OpenSpec.ofChange fnExactDropRegionWrong)

/-- 'laws.FnExactLoadImage': WHATEVER THE INPUT: true; the input reads as it did. -/
def fnExactLoadImageSpec : ChangeSpec := { name := "fnExactLoadImage", fn := fun _ => fun
  | [d] => { results := [.lit (.bool true)], args := [d] }
  | _ => none }
def fnExactLoadImageRow : OpenClaim := { program := "ytoekikeomgfaiaa", sum := "0f80c20fc269eb7ef9fdad6bc37ff42929dc71e975d74cda2a6b23f7b383ba0f", func := "loop.example/memorymanagers/laws.FnExactLoadImage", spec := "fnExactLoadImage", apart := false }
def FnExactLoadImageSaid : Prop := fnExactLoadImageRow.holds Try.pinned (OpenSpec.ofChange fnExactLoadImageSpec)

/-- ITS FALSE NEIGHBOUR: 'it returns false'. Refute it at one input. -/
def fnExactLoadImageWrong : ChangeSpec := { name := "fnExactLoadImage", fn := fun _ => fun
  | [d] => { results := [.lit (.bool false)], args := [d] }
  | _ => none }
def FnExactLoadImageWrongFalsely : Prop := fnExactLoadImageRow.holds Try.pinned (OpenSpec.ofChange fnExactLoadImageWrong)

/-- 'laws.FnExactImageSum': WHATEVER THE INPUT: true; the input reads as it did. -/
def fnExactImageSumSpec : ChangeSpec := { name := "fnExactImageSum", fn := fun _ => fun
  | [d] => { results := [.lit (.bool true)], args := [d] }
  | _ => none }
def fnExactImageSumRow : OpenClaim := { program := "ytoekikeomgfaiaa", sum := "0f80c20fc269eb7ef9fdad6bc37ff42929dc71e975d74cda2a6b23f7b383ba0f", func := "loop.example/memorymanagers/laws.FnExactImageSum", spec := "fnExactImageSum", apart := false }
def FnExactImageSumSaid : Prop := fnExactImageSumRow.holds Try.pinned (OpenSpec.ofChange fnExactImageSumSpec)

/-- ITS FALSE NEIGHBOUR: 'it returns false'. Refute it at one input. -/
def fnExactImageSumWrong : ChangeSpec := { name := "fnExactImageSum", fn := fun _ => fun
  | [d] => { results := [.lit (.bool false)], args := [d] }
  | _ => none }
def FnExactImageSumWrongFalsely : Prop := fnExactImageSumRow.holds Try.pinned (OpenSpec.ofChange fnExactImageSumWrong)

/-- 'laws.FnExactMoveImage': WHATEVER THE INPUT: true; the input reads as it did. -/
def fnExactMoveImageSpec : ChangeSpec := { name := "fnExactMoveImage", fn := fun _ => fun
  | [d1, d2] => { results := [.lit (.bool true)], args := [d1, d2] }
  | _ => none }
def fnExactMoveImageRow : OpenClaim := { program := "ytoekikeomgfaiaa", sum := "0f80c20fc269eb7ef9fdad6bc37ff42929dc71e975d74cda2a6b23f7b383ba0f", func := "loop.example/memorymanagers/laws.FnExactMoveImage", spec := "fnExactMoveImage", apart := false }
def FnExactMoveImageSaid : Prop := fnExactMoveImageRow.holds Try.pinned (OpenSpec.ofChange fnExactMoveImageSpec)

/-- ITS FALSE NEIGHBOUR: 'it returns false'. Refute it at one input. -/
def fnExactMoveImageWrong : ChangeSpec := { name := "fnExactMoveImage", fn := fun _ => fun
  | [d1, d2] => { results := [.lit (.bool false)], args := [d1, d2] }
  | _ => none }
def FnExactMoveImageWrongFalsely : Prop := fnExactMoveImageRow.holds Try.pinned (OpenSpec.ofChange fnExactMoveImageWrong)

/-- 'laws.FnExactTableHeap': WHATEVER THE INPUT: true; the input reads as it did. -/
def fnExactTableHeapSpec : ChangeSpec := { name := "fnExactTableHeap", fn := fun _ => fun
  | [d] => { results := [.lit (.bool true)], args := [d] }
  | _ => none }
def fnExactTableHeapRow : OpenClaim := { program := "ytoekikeomgfaiaa", sum := "0f80c20fc269eb7ef9fdad6bc37ff42929dc71e975d74cda2a6b23f7b383ba0f", func := "loop.example/memorymanagers/laws.FnExactTableHeap", spec := "fnExactTableHeap", apart := false }
def FnExactTableHeapSaid : Prop := fnExactTableHeapRow.holds Try.pinned (OpenSpec.ofChange fnExactTableHeapSpec)

/-- ITS FALSE NEIGHBOUR: 'it returns false'. Refute it at one input. -/
def fnExactTableHeapWrong : ChangeSpec := { name := "fnExactTableHeap", fn := fun _ => fun
  | [d] => { results := [.lit (.bool false)], args := [d] }
  | _ => none }
def FnExactTableHeapWrongFalsely : Prop := fnExactTableHeapRow.holds Try.pinned (OpenSpec.ofChange fnExactTableHeapWrong)

/-- 'laws.FnExactMoveCells': WHATEVER THE INPUT: true; the input reads as it did. -/
def fnExactMoveCellsSpec : ChangeSpec := { name := "fnExactMoveCells", fn := fun _ => fun
  | [d1, d2, d3] => { results := [.lit (.bool true)], args := [d1, d2, d3] }
  | _ => none }
def fnExactMoveCellsRow : OpenClaim := { program := "ytoekikeomgfaiaa", sum := "0f80c20fc269eb7ef9fdad6bc37ff42929dc71e975d74cda2a6b23f7b383ba0f", func := "loop.example/memorymanagers/laws.FnExactMoveCells", spec := "fnExactMoveCells", apart := false }
def FnExactMoveCellsSaid : Prop := fnExactMoveCellsRow.holds Try.pinned (OpenSpec.ofChange fnExactMoveCellsSpec)

/-- ITS FALSE NEIGHBOUR: 'it returns false'. Refute it at one input. -/
def fnExactMoveCellsWrong : ChangeSpec := { name := "fnExactMoveCells", fn := fun _ => fun
  | [d1, d2, d3] => { results := [.lit (.bool false)], args := [d1, d2, d3] }
  | _ => none }
def FnExactMoveCellsWrongFalsely : Prop := fnExactMoveCellsRow.holds Try.pinned (OpenSpec.ofChange fnExactMoveCellsWrong)

/-- 'laws.FnExactPackTable': WHATEVER THE INPUT: true; the input reads as it did. -/
def fnExactPackTableSpec : ChangeSpec := { name := "fnExactPackTable", fn := fun _ => fun
  | [d] => { results := [.lit (.bool true)], args := [d] }
  | _ => none }
def fnExactPackTableRow : OpenClaim := { program := "ytoekikeomgfaiaa", sum := "0f80c20fc269eb7ef9fdad6bc37ff42929dc71e975d74cda2a6b23f7b383ba0f", func := "loop.example/memorymanagers/laws.FnExactPackTable", spec := "fnExactPackTable", apart := false }
def FnExactPackTableSaid : Prop := fnExactPackTableRow.holds Try.pinned (OpenSpec.ofChange fnExactPackTableSpec)

/-- ITS FALSE NEIGHBOUR: 'it returns false'. Refute it at one input. -/
def fnExactPackTableWrong : ChangeSpec := { name := "fnExactPackTable", fn := fun _ => fun
  | [d] => { results := [.lit (.bool false)], args := [d] }
  | _ => none }
def FnExactPackTableWrongFalsely : Prop := fnExactPackTableRow.holds Try.pinned (OpenSpec.ofChange fnExactPackTableWrong)

/- THE SECOND FORM. 'bulk': how many values and letters a reading holds, each counted each time it is reached (what is shared counts as often as it is met; a slice's spare places count too). A statement '..UptoSaid' is the law's where the arguments, and the package variables that the reading takes, are together of bulk at most 1048576: NARROWER than '..Said'. Prove '..Said' where nothing that the law and all that it calls make is longer than what came in: it says more and counts as full. Else prove '..UptoSaid'. A law counts once. -/
mutual
def uptoBulk {H : Type} : DataW H → Nat
  | .lit (.string bytes) => bytes.length + 1
  | .lit _ => 1
  | .nil => 1
  | .ptr d => uptoBulk d + 1
  | .slice elems spare => uptoBulkAll elems + uptoBulkAll spare + 1
  | .agg parts => uptoBulkAll parts + 1
  | .iface _ d => uptoBulk d + 1
  | .map entries => uptoBulkEntries entries + 1
  | .held _ => 1
def uptoBulkAll {H : Type} : List (DataW H) → Nat
  | [] => 0
  | d :: r => uptoBulk d + uptoBulkAll r
def uptoBulkEntries {H : Type} : List (Lit × DataW H) → Nat
  | [] => 0
  | x :: r => uptoBulkEntry x + uptoBulkEntries r
def uptoBulkEntry {H : Type} : Lit × DataW H → Nat
  | (.string bytes, d) => bytes.length + uptoBulk d + 1
  | (_, d) => uptoBulk d + 1
 end
def uptoSmall : (H : Type) → List (DataW H) → Bool := fun _ ds => decide (uptoBulkAll ds ≤ 1048576)
def OpenSpec.upto (s : _root_.Go.ChangeSpec) : _root_.Go.OpenSpec := { _root_.Go.OpenSpec.ofChange s with cond := some uptoSmall }

/-- 'laws.FnExactDropRegion', WHERE WHAT IT READS IS OF BULK AT MOST 1048576: true; the input reads as it did. -/
def fnExactDropRegionUptoRow : OpenClaim := { program := "ytoekikeomgfaiaa", sum := "0f80c20fc269eb7ef9fdad6bc37ff42929dc71e975d74cda2a6b23f7b383ba0f", func := "loop.example/memorymanagers/laws.FnExactDropRegion", spec := "fnExactDropRegion", apart := false, narrowed := true }
def FnExactDropRegionUptoSaid : Prop := fnExactDropRegionUptoRow.holds Try.pinned (OpenSpec.upto fnExactDropRegionSpec)

/-- 'laws.FnExactLoadImage', WHERE WHAT IT READS IS OF BULK AT MOST 1048576: true; the input reads as it did. -/
def fnExactLoadImageUptoRow : OpenClaim := { program := "ytoekikeomgfaiaa", sum := "0f80c20fc269eb7ef9fdad6bc37ff42929dc71e975d74cda2a6b23f7b383ba0f", func := "loop.example/memorymanagers/laws.FnExactLoadImage", spec := "fnExactLoadImage", apart := false, narrowed := true }
def FnExactLoadImageUptoSaid : Prop := fnExactLoadImageUptoRow.holds Try.pinned (OpenSpec.upto fnExactLoadImageSpec)

/-- 'laws.FnExactImageSum', WHERE WHAT IT READS IS OF BULK AT MOST 1048576: true; the input reads as it did. -/
def fnExactImageSumUptoRow : OpenClaim := { program := "ytoekikeomgfaiaa", sum := "0f80c20fc269eb7ef9fdad6bc37ff42929dc71e975d74cda2a6b23f7b383ba0f", func := "loop.example/memorymanagers/laws.FnExactImageSum", spec := "fnExactImageSum", apart := false, narrowed := true }
def FnExactImageSumUptoSaid : Prop := fnExactImageSumUptoRow.holds Try.pinned (OpenSpec.upto fnExactImageSumSpec)

/-- 'laws.FnExactMoveImage', WHERE WHAT IT READS IS OF BULK AT MOST 1048576: true; the input reads as it did. -/
def fnExactMoveImageUptoRow : OpenClaim := { program := "ytoekikeomgfaiaa", sum := "0f80c20fc269eb7ef9fdad6bc37ff42929dc71e975d74cda2a6b23f7b383ba0f", func := "loop.example/memorymanagers/laws.FnExactMoveImage", spec := "fnExactMoveImage", apart := false, narrowed := true }
def FnExactMoveImageUptoSaid : Prop := fnExactMoveImageUptoRow.holds Try.pinned (OpenSpec.upto fnExactMoveImageSpec)

/-- 'laws.FnExactTableHeap', WHERE WHAT IT READS IS OF BULK AT MOST 1048576: true; the input reads as it did. -/
def fnExactTableHeapUptoRow : OpenClaim := { program := "ytoekikeomgfaiaa", sum := "0f80c20fc269eb7ef9fdad6bc37ff42929dc71e975d74cda2a6b23f7b383ba0f", func := "loop.example/memorymanagers/laws.FnExactTableHeap", spec := "fnExactTableHeap", apart := false, narrowed := true }
def FnExactTableHeapUptoSaid : Prop := fnExactTableHeapUptoRow.holds Try.pinned (OpenSpec.upto fnExactTableHeapSpec)

/-- 'laws.FnExactMoveCells', WHERE WHAT IT READS IS OF BULK AT MOST 1048576: true; the input reads as it did. -/
def fnExactMoveCellsUptoRow : OpenClaim := { program := "ytoekikeomgfaiaa", sum := "0f80c20fc269eb7ef9fdad6bc37ff42929dc71e975d74cda2a6b23f7b383ba0f", func := "loop.example/memorymanagers/laws.FnExactMoveCells", spec := "fnExactMoveCells", apart := false, narrowed := true }
def FnExactMoveCellsUptoSaid : Prop := fnExactMoveCellsUptoRow.holds Try.pinned (OpenSpec.upto fnExactMoveCellsSpec)

/-- 'laws.FnExactPackTable', WHERE WHAT IT READS IS OF BULK AT MOST 1048576: true; the input reads as it did. -/
def fnExactPackTableUptoRow : OpenClaim := { program := "ytoekikeomgfaiaa", sum := "0f80c20fc269eb7ef9fdad6bc37ff42929dc71e975d74cda2a6b23f7b383ba0f", func := "loop.example/memorymanagers/laws.FnExactPackTable", spec := "fnExactPackTable", apart := false, narrowed := true }
def FnExactPackTableUptoSaid : Prop := fnExactPackTableUptoRow.holds Try.pinned (OpenSpec.upto fnExactPackTableSpec)

end Rows
end Go.Proofs.Ytoekikeomgfaiaa
