/-
  No cell of these rows narrows 'for every input' (looked for: loops, veiled, ifaces, maps, wideKeys, modest, calm, conditions, laid).
  DERIVED. THE GIVEN ROWS OF THIS SEAT. 6 by the template 'for every input the law returns true; each argument reads behind the call as it read before'; 0 by the template 'total and deterministic' (their statements: YtnpehidhoekfcaaTotals.lean).
  GIVEN WITH THE SEED: the statements are not yours to turn. If you find one false, say at which input.
  Laid BY PROGRAM, IN A SANDBOX (cutbox-rows.mjs): the forced cells as the released guide's own fill.sh prints them over the translation 185abe95cf52a9e2… (all of the seat's roots in one cut). By AI agents, Wed Nov 11 2026. No macro, syntax, notation, axiom, sorry.
-/
import Derived.Test.YtnpehidhoekfcaaChecked
import GoSem.Claim
import GoSem.ClaimJoined
import GoSem.ClaimMapViews
import Derived.JoinedTies
import Derived.KernelRfl
namespace Go.Proofs.Ytnpehidhoekfcaa
/- THE CELL 'sum', in the pinned program and in every row, IS THE sha256 OF THE DUMP (.gsa) THAT YtnpehidhoekfcaaProg.lean LOADS. Nothing in Lean hashes anything: it is a label: what it is worth is what the hold of that sum in a sandbox is worth. -/
noncomputable def Try.pinned : Pinned := { name := "ytnpehidhoekfcaa", sum := "185abe95cf52a9e281848bdc598fb1ed7fe1fbf73f108bdc71238bd33edbdf41", checked := Try.checked }
namespace Rows
def none {H : Type} : Left H := { results := [], args := [] }

/-- 'laws.FnLoadImage': WHATEVER THE INPUT: true; the input reads as it did. -/
def fnLoadImageSpec : ChangeSpec := { name := "fnLoadImage", fn := fun _ => fun
  | [d] => { results := [.lit (.bool true)], args := [d] }
  | _ => none }
def fnLoadImageRow : OpenClaim := { program := "ytnpehidhoekfcaa", sum := "185abe95cf52a9e281848bdc598fb1ed7fe1fbf73f108bdc71238bd33edbdf41", func := "loop.example/memorymanagers/laws.FnLoadImage", spec := "fnLoadImage", apart := false }
def FnLoadImageSaid : Prop := fnLoadImageRow.holds Try.pinned (OpenSpec.ofChange fnLoadImageSpec)

/-- ITS FALSE NEIGHBOUR: 'it returns false'. Refute it at one input. -/
def fnLoadImageWrong : ChangeSpec := { name := "fnLoadImage", fn := fun _ => fun
  | [d] => { results := [.lit (.bool false)], args := [d] }
  | _ => none }
def FnLoadImageWrongFalsely : Prop := fnLoadImageRow.holds Try.pinned (OpenSpec.ofChange fnLoadImageWrong)

/-- 'laws.FnMoveImage': WHATEVER THE INPUT: true; the input reads as it did. -/
def fnMoveImageSpec : ChangeSpec := { name := "fnMoveImage", fn := fun _ => fun
  | [d] => { results := [.lit (.bool true)], args := [d] }
  | _ => none }
def fnMoveImageRow : OpenClaim := { program := "ytnpehidhoekfcaa", sum := "185abe95cf52a9e281848bdc598fb1ed7fe1fbf73f108bdc71238bd33edbdf41", func := "loop.example/memorymanagers/laws.FnMoveImage", spec := "fnMoveImage", apart := false }
def FnMoveImageSaid : Prop := fnMoveImageRow.holds Try.pinned (OpenSpec.ofChange fnMoveImageSpec)

/-- ITS FALSE NEIGHBOUR: 'it returns false'. Refute it at one input. -/
def fnMoveImageWrong : ChangeSpec := { name := "fnMoveImage", fn := fun _ => fun
  | [d] => { results := [.lit (.bool false)], args := [d] }
  | _ => none }
def FnMoveImageWrongFalsely : Prop := fnMoveImageRow.holds Try.pinned (OpenSpec.ofChange fnMoveImageWrong)

/-- 'laws.FnImageSum': WHATEVER THE INPUT: true; the input reads as it did. -/
def fnImageSumSpec : ChangeSpec := { name := "fnImageSum", fn := fun _ => fun
  | [d] => { results := [.lit (.bool true)], args := [d] }
  | _ => none }
def fnImageSumRow : OpenClaim := { program := "ytnpehidhoekfcaa", sum := "185abe95cf52a9e281848bdc598fb1ed7fe1fbf73f108bdc71238bd33edbdf41", func := "loop.example/memorymanagers/laws.FnImageSum", spec := "fnImageSum", apart := false }
def FnImageSumSaid : Prop := fnImageSumRow.holds Try.pinned (OpenSpec.ofChange fnImageSumSpec)

/-- ITS FALSE NEIGHBOUR: 'it returns false'. Refute it at one input. -/
def fnImageSumWrong : ChangeSpec := { name := "fnImageSum", fn := fun _ => fun
  | [d] => { results := [.lit (.bool false)], args := [d] }
  | _ => none }
def FnImageSumWrongFalsely : Prop := fnImageSumRow.holds Try.pinned (OpenSpec.ofChange fnImageSumWrong)

/-- 'laws.FnTableValid': WHATEVER THE INPUT: true; the input reads as it did. -/
def fnTableValidSpec : ChangeSpec := { name := "fnTableValid", fn := fun _ => fun
  | [d] => { results := [.lit (.bool true)], args := [d] }
  | _ => none }
def fnTableValidRow : OpenClaim := { program := "ytnpehidhoekfcaa", sum := "185abe95cf52a9e281848bdc598fb1ed7fe1fbf73f108bdc71238bd33edbdf41", func := "loop.example/memorymanagers/laws.FnTableValid", spec := "fnTableValid", apart := false }
def FnTableValidSaid : Prop := fnTableValidRow.holds Try.pinned (OpenSpec.ofChange fnTableValidSpec)

/-- ITS FALSE NEIGHBOUR: 'it returns false'. Refute it at one input. -/
def fnTableValidWrong : ChangeSpec := { name := "fnTableValid", fn := fun _ => fun
  | [d] => { results := [.lit (.bool false)], args := [d] }
  | _ => none }
def FnTableValidWrongFalsely : Prop := fnTableValidRow.holds Try.pinned (OpenSpec.ofChange fnTableValidWrong)

/-- 'laws.FnTableHeap': WHATEVER THE INPUT: true; the input reads as it did. -/
def fnTableHeapSpec : ChangeSpec := { name := "fnTableHeap", fn := fun _ => fun
  | [d] => { results := [.lit (.bool true)], args := [d] }
  | _ => none }
def fnTableHeapRow : OpenClaim := { program := "ytnpehidhoekfcaa", sum := "185abe95cf52a9e281848bdc598fb1ed7fe1fbf73f108bdc71238bd33edbdf41", func := "loop.example/memorymanagers/laws.FnTableHeap", spec := "fnTableHeap", apart := false }
def FnTableHeapSaid : Prop := fnTableHeapRow.holds Try.pinned (OpenSpec.ofChange fnTableHeapSpec)

/-- ITS FALSE NEIGHBOUR: 'it returns false'. Refute it at one input. -/
def fnTableHeapWrong : ChangeSpec := { name := "fnTableHeap", fn := fun _ => fun
  | [d] => { results := [.lit (.bool false)], args := [d] }
  | _ => none }
def FnTableHeapWrongFalsely : Prop := fnTableHeapRow.holds Try.pinned (OpenSpec.ofChange fnTableHeapWrong)

/-- 'laws.FnPairsKept': WHATEVER THE INPUT: true; the input reads as it did. -/
def fnPairsKeptSpec : ChangeSpec := { name := "fnPairsKept", fn := fun _ => fun
  | [d] => { results := [.lit (.bool true)], args := [d] }
  | _ => none }
def fnPairsKeptRow : OpenClaim := { program := "ytnpehidhoekfcaa", sum := "185abe95cf52a9e281848bdc598fb1ed7fe1fbf73f108bdc71238bd33edbdf41", func := "loop.example/memorymanagers/laws.FnPairsKept", spec := "fnPairsKept", unfollowed := true, recurses := true, apart := false }
def FnPairsKeptSaid : Prop := fnPairsKeptRow.holds Try.pinned (OpenSpec.ofChange fnPairsKeptSpec)

/-- ITS FALSE NEIGHBOUR: 'it returns false'. Refute it at one input. -/
def fnPairsKeptWrong : ChangeSpec := { name := "fnPairsKept", fn := fun _ => fun
  | [d] => { results := [.lit (.bool false)], args := [d] }
  | _ => none }
def FnPairsKeptWrongFalsely : Prop := fnPairsKeptRow.holds Try.pinned (OpenSpec.ofChange fnPairsKeptWrong)

/- THE SECOND FORM. 'bulk': how many values and letters a reading holds, each counted each time it is reached (what is shared counts as often as it is met; a slice's spare places count too). A statement '..UptoSaid' is the law's where the arguments, and the package variables that the reading takes, are together of bulk at most 1048576: NARROWER than '..Said'. Prove '..Said' where nothing that the law and all that it calls make is longer than what came in: it says more and counts as full. Else prove '..UptoSaid'. A law counts once. -/
mutual
def uptoBulk {H : Type} : DataW H → Nat
  | .lit (.string bytes) => bytes.length + 1
  | .lit _ => 1
  | .nil => 1
  | .ptr d => uptoBulk d + 1
  | .slice elems spare => uptoBulkAll elems + uptoBulkAll spare + 1
  | .agg parts => uptoBulkAll parts + 1
  | .iface _ d => uptoBulk d + 1
  | .map entries => uptoBulkEntries entries + 1
  | .held _ => 1
def uptoBulkAll {H : Type} : List (DataW H) → Nat
  | [] => 0
  | d :: r => uptoBulk d + uptoBulkAll r
def uptoBulkEntries {H : Type} : List (Lit × DataW H) → Nat
  | [] => 0
  | x :: r => uptoBulkEntry x + uptoBulkEntries r
def uptoBulkEntry {H : Type} : Lit × DataW H → Nat
  | (.string bytes, d) => bytes.length + uptoBulk d + 1
  | (_, d) => uptoBulk d + 1
 end
def uptoSmall : (H : Type) → List (DataW H) → Bool := fun _ ds => decide (uptoBulkAll ds ≤ 1048576)
def OpenSpec.upto (s : _root_.Go.ChangeSpec) : _root_.Go.OpenSpec := { _root_.Go.OpenSpec.ofChange s with cond := some uptoSmall }

/-- 'laws.FnLoadImage', WHERE WHAT IT READS IS OF BULK AT MOST 1048576: true; the input reads as it did. -/
def fnLoadImageUptoRow : OpenClaim := { program := "ytnpehidhoekfcaa", sum := "185abe95cf52a9e281848bdc598fb1ed7fe1fbf73f108bdc71238bd33edbdf41", func := "loop.example/memorymanagers/laws.FnLoadImage", spec := "fnLoadImage", apart := false, narrowed := true }
def FnLoadImageUptoSaid : Prop := fnLoadImageUptoRow.holds Try.pinned (OpenSpec.upto fnLoadImageSpec)

/-- 'laws.FnMoveImage', WHERE WHAT IT READS IS OF BULK AT MOST 1048576: true; the input reads as it did. -/
def fnMoveImageUptoRow : OpenClaim := { program := "ytnpehidhoekfcaa", sum := "185abe95cf52a9e281848bdc598fb1ed7fe1fbf73f108bdc71238bd33edbdf41", func := "loop.example/memorymanagers/laws.FnMoveImage", spec := "fnMoveImage", apart := false, narrowed := true }
def FnMoveImageUptoSaid : Prop := fnMoveImageUptoRow.holds Try.pinned (OpenSpec.upto fnMoveImageSpec)

/-- 'laws.FnImageSum', WHERE WHAT IT READS IS OF BULK AT MOST 1048576: true; the input reads as it did. -/
def fnImageSumUptoRow : OpenClaim := { program := "ytnpehidhoekfcaa", sum := "185abe95cf52a9e281848bdc598fb1ed7fe1fbf73f108bdc71238bd33edbdf41", func := "loop.example/memorymanagers/laws.FnImageSum", spec := "fnImageSum", apart := false, narrowed := true }
def FnImageSumUptoSaid : Prop := fnImageSumUptoRow.holds Try.pinned (OpenSpec.upto fnImageSumSpec)

/-- 'laws.FnTableValid', WHERE WHAT IT READS IS OF BULK AT MOST 1048576: true; the input reads as it did. -/
def fnTableValidUptoRow : OpenClaim := { program := "ytnpehidhoekfcaa", sum := "185abe95cf52a9e281848bdc598fb1ed7fe1fbf73f108bdc71238bd33edbdf41", func := "loop.example/memorymanagers/laws.FnTableValid", spec := "fnTableValid", apart := false, narrowed := true }
def FnTableValidUptoSaid : Prop := fnTableValidUptoRow.holds Try.pinned (OpenSpec.upto fnTableValidSpec)

/-- 'laws.FnTableHeap', WHERE WHAT IT READS IS OF BULK AT MOST 1048576: true; the input reads as it did. -/
def fnTableHeapUptoRow : OpenClaim := { program := "ytnpehidhoekfcaa", sum := "185abe95cf52a9e281848bdc598fb1ed7fe1fbf73f108bdc71238bd33edbdf41", func := "loop.example/memorymanagers/laws.FnTableHeap", spec := "fnTableHeap", apart := false, narrowed := true }
def FnTableHeapUptoSaid : Prop := fnTableHeapUptoRow.holds Try.pinned (OpenSpec.upto fnTableHeapSpec)

/-- 'laws.FnPairsKept', WHERE WHAT IT READS IS OF BULK AT MOST 1048576: true; the input reads as it did. -/
def fnPairsKeptUptoRow : OpenClaim := { program := "ytnpehidhoekfcaa", sum := "185abe95cf52a9e281848bdc598fb1ed7fe1fbf73f108bdc71238bd33edbdf41", func := "loop.example/memorymanagers/laws.FnPairsKept", spec := "fnPairsKept", unfollowed := true, recurses := true, apart := false, narrowed := true }
def FnPairsKeptUptoSaid : Prop := fnPairsKeptUptoRow.holds Try.pinned (OpenSpec.upto fnPairsKeptSpec)

end Rows
end Go.Proofs.Ytnpehidhoekfcaa
