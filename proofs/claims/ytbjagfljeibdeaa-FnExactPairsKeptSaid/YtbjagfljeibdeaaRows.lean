/-
  No cell of these rows narrows 'for every input' (looked for: loops, veiled, ifaces, maps, wideKeys, modest, calm, conditions, laid).
  DERIVED. THE GIVEN ROWS OF THIS SEAT. 6 by the template 'for every input the law returns true; each argument reads behind the call as it read before'; 0 by the template 'total and deterministic' (their statements: YtbjagfljeibdeaaTotals.lean).
  GIVEN WITH THE SEED: the statements are not yours to turn. If you find one false, say at which input.
  Laid BY PROGRAM, IN A SANDBOX (cutbox-rows.mjs): the forced cells as the released guide's own fill.sh prints them over the translation 5a965ad5761df5d1… (all of the seat's roots in one cut). By AI agents, Wed Nov 11 2026. No macro, syntax, notation, axiom, sorry.
-/
import Derived.Test.YtbjagfljeibdeaaChecked
import GoSem.Claim
import GoSem.ClaimJoined
import GoSem.ClaimMapViews
import Derived.JoinedTies
import Derived.KernelRfl
namespace Go.Proofs.Ytbjagfljeibdeaa
/- THE CELL 'sum', in the pinned program and in every row, IS THE sha256 OF THE DUMP (.gsa) THAT YtbjagfljeibdeaaProg.lean LOADS. Nothing in Lean hashes anything: it is a label: what it is worth is what the hold of that sum in a sandbox is worth. -/
noncomputable def Try.pinned : Pinned := { name := "ytbjagfljeibdeaa", sum := "5a965ad5761df5d1ad2bc5e81b2531da6c0aedd9a3f6df2c20ccb9ba4b703f6d", checked := Try.checked }
namespace Rows
def none {H : Type} : Left H := { results := [], args := [] }

/-- 'laws.FnExactKeptWatched': WHATEVER THE INPUT: true; the input reads as it did. -/
def fnExactKeptWatchedSpec : ChangeSpec := { name := "fnExactKeptWatched", fn := fun _ => fun
  | [d1, d2] => { results := [.lit (.bool true)], args := [d1, d2] }
  | _ => none }
def fnExactKeptWatchedRow : OpenClaim := { program := "ytbjagfljeibdeaa", sum := "5a965ad5761df5d1ad2bc5e81b2531da6c0aedd9a3f6df2c20ccb9ba4b703f6d", func := "loop.example/memorymanagers/laws.FnExactKeptWatched", spec := "fnExactKeptWatched", unfollowed := true, recurses := true, apart := false }
def FnExactKeptWatchedSaid : Prop := fnExactKeptWatchedRow.holds Try.pinned (OpenSpec.ofChange fnExactKeptWatchedSpec)

/-- ITS FALSE NEIGHBOUR: 'it returns false'. Refute it at one input. -/
def fnExactKeptWatchedWrong : ChangeSpec := { name := "fnExactKeptWatched", fn := fun _ => fun
  | [d1, d2] => { results := [.lit (.bool false)], args := [d1, d2] }
  | _ => none }
def FnExactKeptWatchedWrongFalsely : Prop := fnExactKeptWatchedRow.holds Try.pinned (OpenSpec.ofChange fnExactKeptWatchedWrong)

/-- 'laws.FnExactReadyCells': WHATEVER THE INPUT: true; the input reads as it did. -/
def fnExactReadyCellsSpec : ChangeSpec := { name := "fnExactReadyCells", fn := fun _ => fun
  | [d1, d2] => { results := [.lit (.bool true)], args := [d1, d2] }
  | _ => none }
def fnExactReadyCellsRow : OpenClaim := { program := "ytbjagfljeibdeaa", sum := "5a965ad5761df5d1ad2bc5e81b2531da6c0aedd9a3f6df2c20ccb9ba4b703f6d", func := "loop.example/memorymanagers/laws.FnExactReadyCells", spec := "fnExactReadyCells", unfollowed := true, recurses := true, apart := false }
def FnExactReadyCellsSaid : Prop := fnExactReadyCellsRow.holds Try.pinned (OpenSpec.ofChange fnExactReadyCellsSpec)

/-- ITS FALSE NEIGHBOUR: 'it returns false'. Refute it at one input. -/
def fnExactReadyCellsWrong : ChangeSpec := { name := "fnExactReadyCells", fn := fun _ => fun
  | [d1, d2] => { results := [.lit (.bool false)], args := [d1, d2] }
  | _ => none }
def FnExactReadyCellsWrongFalsely : Prop := fnExactReadyCellsRow.holds Try.pinned (OpenSpec.ofChange fnExactReadyCellsWrong)

/-- 'laws.FnExactFinalOrder': WHATEVER THE INPUT: true; the input reads as it did. -/
def fnExactFinalOrderSpec : ChangeSpec := { name := "fnExactFinalOrder", fn := fun _ => fun
  | [d1, d2] => { results := [.lit (.bool true)], args := [d1, d2] }
  | _ => none }
def fnExactFinalOrderRow : OpenClaim := { program := "ytbjagfljeibdeaa", sum := "5a965ad5761df5d1ad2bc5e81b2531da6c0aedd9a3f6df2c20ccb9ba4b703f6d", func := "loop.example/memorymanagers/laws.FnExactFinalOrder", spec := "fnExactFinalOrder", unfollowed := true, recurses := true, apart := false }
def FnExactFinalOrderSaid : Prop := fnExactFinalOrderRow.holds Try.pinned (OpenSpec.ofChange fnExactFinalOrderSpec)

/-- ITS FALSE NEIGHBOUR: 'it returns false'. Refute it at one input. -/
def fnExactFinalOrderWrong : ChangeSpec := { name := "fnExactFinalOrder", fn := fun _ => fun
  | [d1, d2] => { results := [.lit (.bool false)], args := [d1, d2] }
  | _ => none }
def FnExactFinalOrderWrongFalsely : Prop := fnExactFinalOrderRow.holds Try.pinned (OpenSpec.ofChange fnExactFinalOrderWrong)

/-- 'laws.FnExactPairsKept': WHATEVER THE INPUT: true; the input reads as it did. -/
def fnExactPairsKeptSpec : ChangeSpec := { name := "fnExactPairsKept", fn := fun _ => fun
  | [d1, d2] => { results := [.lit (.bool true)], args := [d1, d2] }
  | _ => none }
def fnExactPairsKeptRow : OpenClaim := { program := "ytbjagfljeibdeaa", sum := "5a965ad5761df5d1ad2bc5e81b2531da6c0aedd9a3f6df2c20ccb9ba4b703f6d", func := "loop.example/memorymanagers/laws.FnExactPairsKept", spec := "fnExactPairsKept", unfollowed := true, recurses := true, apart := false }
def FnExactPairsKeptSaid : Prop := fnExactPairsKeptRow.holds Try.pinned (OpenSpec.ofChange fnExactPairsKeptSpec)

/-- ITS FALSE NEIGHBOUR: 'it returns false'. Refute it at one input. -/
def fnExactPairsKeptWrong : ChangeSpec := { name := "fnExactPairsKept", fn := fun _ => fun
  | [d1, d2] => { results := [.lit (.bool false)], args := [d1, d2] }
  | _ => none }
def FnExactPairsKeptWrongFalsely : Prop := fnExactPairsKeptRow.holds Try.pinned (OpenSpec.ofChange fnExactPairsKeptWrong)

/-- 'laws.FnExactDropRegion': WHATEVER THE INPUT: true; the input reads as it did. -/
def fnExactDropRegionSpec : ChangeSpec := { name := "fnExactDropRegion", fn := fun _ => fun
  | [d1, d2, d3] => { results := [.lit (.bool true)], args := [d1, d2, d3] }
  | _ => none }
def fnExactDropRegionRow : OpenClaim := { program := "ytbjagfljeibdeaa", sum := "5a965ad5761df5d1ad2bc5e81b2531da6c0aedd9a3f6df2c20ccb9ba4b703f6d", func := "loop.example/memorymanagers/laws.FnExactDropRegion", spec := "fnExactDropRegion", apart := false }
def FnExactDropRegionSaid : Prop := fnExactDropRegionRow.holds Try.pinned (OpenSpec.ofChange fnExactDropRegionSpec)

/-- ITS FALSE NEIGHBOUR: 'it returns false'. Refute it at one input. -/
def fnExactDropRegionWrong : ChangeSpec := { name := "fnExactDropRegion", fn := fun _ => fun
  | [d1, d2, d3] => { results := [.lit (.bool false)], args := [d1, d2, d3] }
  | _ => none }
def FnExactDropRegionWrongFalsely : Prop := fnExactDropRegionRow.holds Try.pinned (OpenSpec.ofChange fnExactDropRegionWrong)

/-- 'laws.FnExactLoadImage': WHATEVER THE INPUT: true; the input reads as it did. -/
def fnExactLoadImageSpec : ChangeSpec := { name := "fnExactLoadImage", fn := fun _ => fun
  | [d] => { results := [.lit (.bool true)], args := [d] }
  | _ => none }
def fnExactLoadImageRow : OpenClaim := { program := "ytbjagfljeibdeaa", sum := "5a965ad5761df5d1ad2bc5e81b2531da6c0aedd9a3f6df2c20ccb9ba4b703f6d", func := "loop.example/memorymanagers/laws.FnExactLoadImage", spec := "fnExactLoadImage", apart := false }
def FnExactLoadImageSaid : Prop := fnExactLoadImageRow.holds Try.pinned (OpenSpec.ofChange fnExactLoadImageSpec)

/-- ITS FALSE NEIGHBOUR: 'it returns false'. Refute it at one input. -/
def fnExactLoadImageWrong : ChangeSpec := { name := "fnExactLoadImage", fn := fun _ => fun
  | [d] => { results := [.lit (.bool false)], args := [d] }
  | _ => none }
def FnExactLoadImageWrongFalsely : Prop := fnExactLoadImageRow.holds Try.pinned (OpenSpec.ofChange fnExactLoadImageWrong)

/- THE SECOND FORM. 'bulk': how many values and letters a reading holds, each counted each time it is reached (what is shared counts as often as it is met; a slice's spare places count too). A statement '..UptoSaid' is the law's where the arguments, and the package variables that the reading takes, are together of bulk at most 1048576: NARROWER than '..Said'. Prove '..Said' where nothing that the law and all that it calls make is longer than what came in: it says more and counts as full. Else prove '..UptoSaid'. A law counts once. -/
mutual
def uptoBulk {H : Type} : DataW H → Nat
  | .lit (.string bytes) => bytes.length + 1
  | .lit _ => 1
  | .nil => 1
  | .ptr d => uptoBulk d + 1
  | .slice elems spare => uptoBulkAll elems + uptoBulkAll spare + 1
  | .agg parts => uptoBulkAll parts + 1
  | .iface _ d => uptoBulk d + 1
  | .map entries => uptoBulkEntries entries + 1
  | .held _ => 1
def uptoBulkAll {H : Type} : List (DataW H) → Nat
  | [] => 0
  | d :: r => uptoBulk d + uptoBulkAll r
def uptoBulkEntries {H : Type} : List (Lit × DataW H) → Nat
  | [] => 0
  | x :: r => uptoBulkEntry x + uptoBulkEntries r
def uptoBulkEntry {H : Type} : Lit × DataW H → Nat
  | (.string bytes, d) => bytes.length + uptoBulk d + 1
  | (_, d) => uptoBulk d + 1
 end
def uptoSmall : (H : Type) → List (DataW H) → Bool := fun _ ds => decide (uptoBulkAll ds ≤ 1048576)
def OpenSpec.upto (s : _root_.Go.ChangeSpec) : _root_.Go.OpenSpec := { _root_.Go.OpenSpec.ofChange s with cond := some uptoSmall }

/-- 'laws.FnExactKeptWatched', WHERE WHAT IT READS IS OF BULK AT MOST 1048576: true; the input reads as it did. -/
def fnExactKeptWatchedUptoRow : OpenClaim := { program := "ytbjagfljeibdeaa", sum := "5a965ad5761df5d1ad2bc5e81b2531da6c0aedd9a3f6df2c20ccb9ba4b703f6d", func := "loop.example/memorymanagers/laws.FnExactKeptWatched", spec := "fnExactKeptWatched", unfollowed := true, recurses := true, apart := false, narrowed := true }
def FnExactKeptWatchedUptoSaid : Prop := fnExactKeptWatchedUptoRow.holds Try.pinned (OpenSpec.upto fnExactKeptWatchedSpec)

/-- 'laws.FnExactReadyCells', WHERE WHAT IT READS IS OF BULK AT MOST 1048576: true; the input reads as it did. -/
def fnExactReadyCellsUptoRow : OpenClaim := { program := "ytbjagfljeibdeaa", sum := "5a965ad5761df5d1ad2bc5e81b2531da6c0aedd9a3f6df2c20ccb9ba4b703f6d", func := "loop.example/memorymanagers/laws.FnExactReadyCells", spec := "fnExactReadyCells", unfollowed := true, recurses := true, apart := false, narrowed := true }
def FnExactReadyCellsUptoSaid : Prop := fnExactReadyCellsUptoRow.holds Try.pinned (OpenSpec.upto fnExactReadyCellsSpec)

/-- 'laws.FnExactFinalOrder', WHERE WHAT IT READS IS OF BULK AT MOST 1048576: true; the input reads as it did. -/
def fnExactFinalOrderUptoRow : OpenClaim := { program := "ytbjagfljeibdeaa", sum := "5a965ad5761df5d1ad2bc5e81b2531da6c0aedd9a3f6df2c20ccb9ba4b703f6d", func := "loop.example/memorymanagers/laws.FnExactFinalOrder", spec := "fnExactFinalOrder", unfollowed := true, recurses := true, apart := false, narrowed := true }
def FnExactFinalOrderUptoSaid : Prop := fnExactFinalOrderUptoRow.holds Try.pinned (OpenSpec.upto fnExactFinalOrderSpec)

/-- 'laws.FnExactPairsKept', WHERE WHAT IT READS IS OF BULK AT MOST 1048576: true; the input reads as it did. -/
def fnExactPairsKeptUptoRow : OpenClaim := { program := "ytbjagfljeibdeaa", sum := "5a965ad5761df5d1ad2bc5e81b2531da6c0aedd9a3f6df2c20ccb9ba4b703f6d", func := "loop.example/memorymanagers/laws.FnExactPairsKept", spec := "fnExactPairsKept", unfollowed := true, recurses := true, apart := false, narrowed := true }
def FnExactPairsKeptUptoSaid : Prop := fnExactPairsKeptUptoRow.holds Try.pinned (OpenSpec.upto fnExactPairsKeptSpec)

/-- 'laws.FnExactDropRegion', WHERE WHAT IT READS IS OF BULK AT MOST 1048576: true; the input reads as it did. -/
def fnExactDropRegionUptoRow : OpenClaim := { program := "ytbjagfljeibdeaa", sum := "5a965ad5761df5d1ad2bc5e81b2531da6c0aedd9a3f6df2c20ccb9ba4b703f6d", func := "loop.example/memorymanagers/laws.FnExactDropRegion", spec := "fnExactDropRegion", apart := false, narrowed := true }
def FnExactDropRegionUptoSaid : Prop := fnExactDropRegionUptoRow.holds Try.pinned (OpenSpec.upto fnExactDropRegionSpec)

/-- 'laws.FnExactLoadImage', WHERE WHAT IT READS IS OF BULK AT MOST 1048576: true; the input reads as it did. -/
def fnExactLoadImageUptoRow : OpenClaim := { program := "ytbjagfljeibdeaa", sum := "5a965ad5761df5d1ad2bc5e81b2531da6c0aedd9a3f6df2c20ccb9ba4b703f6d", func := "loop.example/memorymanagers/laws.FnExactLoadImage", spec := "fnExactLoadImage", apart := false, narrowed := true }
def FnExactLoadImageUptoSaid : Prop := fnExactLoadImageUptoRow.holds Try.pinned (OpenSpec.upto fnExactLoadImageSpec)

end Rows
end Go.Proofs.Ytbjagfljeibdeaa
