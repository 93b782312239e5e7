/-
  No cell of these rows narrows 'for every input' (looked for: loops, veiled, ifaces, maps, wideKeys, modest, calm, conditions, laid).
  DERIVED. THE GIVEN ROWS OF THIS SEAT. 12 by the template 'for every input the law returns true; each argument reads behind the call as it read before'; 0 by the template 'total and deterministic' (their statements: YteflbjchnfebaaaTotals.lean).
  GIVEN WITH THE SEED: the statements are not yours to turn. If you find one false, say at which input.
  Laid BY PROGRAM, IN A SANDBOX (cutbox-rows.mjs): the forced cells as the released guide's own fill.sh prints them over the translation f4e0abd22e486d2b… (all of the seat's roots in one cut). By AI agents, Wed Nov 11 2026. No macro, syntax, notation, axiom, sorry.
-/
import Derived.Test.YteflbjchnfebaaaChecked
import GoSem.Claim
import GoSem.ClaimJoined
import GoSem.ClaimMapViews
import Derived.JoinedTies
import Derived.KernelRfl
namespace Go.Proofs.Yteflbjchnfebaaa
/- THE CELL 'sum', in the pinned program and in every row, IS THE sha256 OF THE DUMP (.gsa) THAT YteflbjchnfebaaaProg.lean LOADS. Nothing in Lean hashes anything: it is a label: what it is worth is what the hold of that sum in a sandbox is worth. -/
noncomputable def Try.pinned : Pinned := { name := "yteflbjchnfebaaa", sum := "f4e0abd22e486d2b32e7d49a96856228331f11b4a538b7fe52d59113efbeebb0", checked := Try.checked }
namespace Rows
def none {H : Type} : Left H := { results := [], args := [] }

/-- 'laws.FnExactWeakValid': WHATEVER THE INPUT: true; the input reads as it did. -/
def fnExactWeakValidSpec : ChangeSpec := { name := "fnExactWeakValid", fn := fun _ => fun
  | [d1, d2] => { results := [.lit (.bool true)], args := [d1, d2] }
  | _ => none }
def fnExactWeakValidRow : OpenClaim := { program := "yteflbjchnfebaaa", sum := "f4e0abd22e486d2b32e7d49a96856228331f11b4a538b7fe52d59113efbeebb0", func := "loop.example/memorymanagers/laws.FnExactWeakValid", spec := "fnExactWeakValid", apart := false }
def FnExactWeakValidSaid : Prop := fnExactWeakValidRow.holds Try.pinned (OpenSpec.ofChange fnExactWeakValidSpec)

/-- ITS FALSE NEIGHBOUR: 'it returns false'. Refute it at one input. -/
def fnExactWeakValidWrong : ChangeSpec := { name := "fnExactWeakValid", fn := fun _ => fun
  | [d1, d2] => { results := [.lit (.bool false)], args := [d1, d2] }
  | _ => none }
def FnExactWeakValidWrongFalsely : Prop := fnExactWeakValidRow.holds Try.pinned (OpenSpec.ofChange fnExactWeakValidWrong)

/-- 'laws.FnExactWatchedValid': WHATEVER THE INPUT: true; the input reads as it did. -/
def fnExactWatchedValidSpec : ChangeSpec := { name := "fnExactWatchedValid", fn := fun _ => fun
  | [d1, d2] => { results := [.lit (.bool true)], args := [d1, d2] }
  | _ => none }
def fnExactWatchedValidRow : OpenClaim := { program := "yteflbjchnfebaaa", sum := "f4e0abd22e486d2b32e7d49a96856228331f11b4a538b7fe52d59113efbeebb0", func := "loop.example/memorymanagers/laws.FnExactWatchedValid", spec := "fnExactWatchedValid", apart := false }
def FnExactWatchedValidSaid : Prop := fnExactWatchedValidRow.holds Try.pinned (OpenSpec.ofChange fnExactWatchedValidSpec)

/-- ITS FALSE NEIGHBOUR: 'it returns false'. Refute it at one input. -/
def fnExactWatchedValidWrong : ChangeSpec := { name := "fnExactWatchedValid", fn := fun _ => fun
  | [d1, d2] => { results := [.lit (.bool false)], args := [d1, d2] }
  | _ => none }
def FnExactWatchedValidWrongFalsely : Prop := fnExactWatchedValidRow.holds Try.pinned (OpenSpec.ofChange fnExactWatchedValidWrong)

/-- 'laws.FnExactRegionsValid': WHATEVER THE INPUT: true; the input reads as it did. -/
def fnExactRegionsValidSpec : ChangeSpec := { name := "fnExactRegionsValid", fn := fun _ => fun
  | [d1, d2] => { results := [.lit (.bool true)], args := [d1, d2] }
  | _ => none }
def fnExactRegionsValidRow : OpenClaim := { program := "yteflbjchnfebaaa", sum := "f4e0abd22e486d2b32e7d49a96856228331f11b4a538b7fe52d59113efbeebb0", func := "loop.example/memorymanagers/laws.FnExactRegionsValid", spec := "fnExactRegionsValid", apart := false }
def FnExactRegionsValidSaid : Prop := fnExactRegionsValidRow.holds Try.pinned (OpenSpec.ofChange fnExactRegionsValidSpec)

/-- ITS FALSE NEIGHBOUR: 'it returns false'. Refute it at one input. -/
def fnExactRegionsValidWrong : ChangeSpec := { name := "fnExactRegionsValid", fn := fun _ => fun
  | [d1, d2] => { results := [.lit (.bool false)], args := [d1, d2] }
  | _ => none }
def FnExactRegionsValidWrongFalsely : Prop := fnExactRegionsValidRow.holds Try.pinned (OpenSpec.ofChange fnExactRegionsValidWrong)

/-- 'laws.FnExactPairsValid': WHATEVER THE INPUT: true; the input reads as it did. -/
def fnExactPairsValidSpec : ChangeSpec := { name := "fnExactPairsValid", fn := fun _ => fun
  | [d1, d2] => { results := [.lit (.bool true)], args := [d1, d2] }
  | _ => none }
def fnExactPairsValidRow : OpenClaim := { program := "yteflbjchnfebaaa", sum := "f4e0abd22e486d2b32e7d49a96856228331f11b4a538b7fe52d59113efbeebb0", func := "loop.example/memorymanagers/laws.FnExactPairsValid", spec := "fnExactPairsValid", apart := false }
def FnExactPairsValidSaid : Prop := fnExactPairsValidRow.holds Try.pinned (OpenSpec.ofChange fnExactPairsValidSpec)

/-- ITS FALSE NEIGHBOUR: 'it returns false'. Refute it at one input. -/
def fnExactPairsValidWrong : ChangeSpec := { name := "fnExactPairsValid", fn := fun _ => fun
  | [d1, d2] => { results := [.lit (.bool false)], args := [d1, d2] }
  | _ => none }
def FnExactPairsValidWrongFalsely : Prop := fnExactPairsValidRow.holds Try.pinned (OpenSpec.ofChange fnExactPairsValidWrong)

/-- 'laws.FnExactSaveImage': WHATEVER THE INPUT: true; the input reads as it did. -/
def fnExactSaveImageSpec : ChangeSpec := { name := "fnExactSaveImage", fn := fun _ => fun
  | [d1, d2] => { results := [.lit (.bool true)], args := [d1, d2] }
  | _ => none }
def fnExactSaveImageRow : OpenClaim := { program := "yteflbjchnfebaaa", sum := "f4e0abd22e486d2b32e7d49a96856228331f11b4a538b7fe52d59113efbeebb0", func := "loop.example/memorymanagers/laws.FnExactSaveImage", spec := "fnExactSaveImage", apart := false }
def FnExactSaveImageSaid : Prop := fnExactSaveImageRow.holds Try.pinned (OpenSpec.ofChange fnExactSaveImageSpec)

/-- ITS FALSE NEIGHBOUR: 'it returns false'. Refute it at one input. -/
def fnExactSaveImageWrong : ChangeSpec := { name := "fnExactSaveImage", fn := fun _ => fun
  | [d1, d2] => { results := [.lit (.bool false)], args := [d1, d2] }
  | _ => none }
def FnExactSaveImageWrongFalsely : Prop := fnExactSaveImageRow.holds Try.pinned (OpenSpec.ofChange fnExactSaveImageWrong)

/-- 'laws.FnExactImageSum': WHATEVER THE INPUT: true; the input reads as it did. -/
def fnExactImageSumSpec : ChangeSpec := { name := "fnExactImageSum", fn := fun _ => fun
  | [d] => { results := [.lit (.bool true)], args := [d] }
  | _ => none }
def fnExactImageSumRow : OpenClaim := { program := "yteflbjchnfebaaa", sum := "f4e0abd22e486d2b32e7d49a96856228331f11b4a538b7fe52d59113efbeebb0", func := "loop.example/memorymanagers/laws.FnExactImageSum", spec := "fnExactImageSum", apart := false }
def FnExactImageSumSaid : Prop := fnExactImageSumRow.holds Try.pinned (OpenSpec.ofChange fnExactImageSumSpec)

/-- ITS FALSE NEIGHBOUR: 'it returns false'. Refute it at one input. -/
def fnExactImageSumWrong : ChangeSpec := { name := "fnExactImageSum", fn := fun _ => fun
  | [d] => { results := [.lit (.bool false)], args := [d] }
  | _ => none }
def FnExactImageSumWrongFalsely : Prop := fnExactImageSumRow.holds Try.pinned (OpenSpec.ofChange fnExactImageSumWrong)

/-- 'laws.FnExactRegionSizes': WHATEVER THE INPUT: true; the input reads as it did. -/
def fnExactRegionSizesSpec : ChangeSpec := { name := "fnExactRegionSizes", fn := fun _ => fun
  | [d1, d2] => { results := [.lit (.bool true)], args := [d1, d2] }
  | _ => none }
def fnExactRegionSizesRow : OpenClaim := { program := "yteflbjchnfebaaa", sum := "f4e0abd22e486d2b32e7d49a96856228331f11b4a538b7fe52d59113efbeebb0", func := "loop.example/memorymanagers/laws.FnExactRegionSizes", spec := "fnExactRegionSizes", apart := false }
def FnExactRegionSizesSaid : Prop := fnExactRegionSizesRow.holds Try.pinned (OpenSpec.ofChange fnExactRegionSizesSpec)

/-- ITS FALSE NEIGHBOUR: 'it returns false'. Refute it at one input. -/
def fnExactRegionSizesWrong : ChangeSpec := { name := "fnExactRegionSizes", fn := fun _ => fun
  | [d1, d2] => { results := [.lit (.bool false)], args := [d1, d2] }
  | _ => none }
def FnExactRegionSizesWrongFalsely : Prop := fnExactRegionSizesRow.holds Try.pinned (OpenSpec.ofChange fnExactRegionSizesWrong)

/-- 'laws.FnExactMoveImage': WHATEVER THE INPUT: true; the input reads as it did. -/
def fnExactMoveImageSpec : ChangeSpec := { name := "fnExactMoveImage", fn := fun _ => fun
  | [d1, d2] => { results := [.lit (.bool true)], args := [d1, d2] }
  | _ => none }
def fnExactMoveImageRow : OpenClaim := { program := "yteflbjchnfebaaa", sum := "f4e0abd22e486d2b32e7d49a96856228331f11b4a538b7fe52d59113efbeebb0", func := "loop.example/memorymanagers/laws.FnExactMoveImage", spec := "fnExactMoveImage", apart := false }
def FnExactMoveImageSaid : Prop := fnExactMoveImageRow.holds Try.pinned (OpenSpec.ofChange fnExactMoveImageSpec)

/-- ITS FALSE NEIGHBOUR: 'it returns false'. Refute it at one input. -/
def fnExactMoveImageWrong : ChangeSpec := { name := "fnExactMoveImage", fn := fun _ => fun
  | [d1, d2] => { results := [.lit (.bool false)], args := [d1, d2] }
  | _ => none }
def FnExactMoveImageWrongFalsely : Prop := fnExactMoveImageRow.holds Try.pinned (OpenSpec.ofChange fnExactMoveImageWrong)

/-- 'laws.FnExactTableValid': WHATEVER THE INPUT: true; the input reads as it did. -/
def fnExactTableValidSpec : ChangeSpec := { name := "fnExactTableValid", fn := fun _ => fun
  | [d] => { results := [.lit (.bool true)], args := [d] }
  | _ => none }
def fnExactTableValidRow : OpenClaim := { program := "yteflbjchnfebaaa", sum := "f4e0abd22e486d2b32e7d49a96856228331f11b4a538b7fe52d59113efbeebb0", func := "loop.example/memorymanagers/laws.FnExactTableValid", spec := "fnExactTableValid", apart := false }
def FnExactTableValidSaid : Prop := fnExactTableValidRow.holds Try.pinned (OpenSpec.ofChange fnExactTableValidSpec)

/-- ITS FALSE NEIGHBOUR: 'it returns false'. Refute it at one input. -/
def fnExactTableValidWrong : ChangeSpec := { name := "fnExactTableValid", fn := fun _ => fun
  | [d] => { results := [.lit (.bool false)], args := [d] }
  | _ => none }
def FnExactTableValidWrongFalsely : Prop := fnExactTableValidRow.holds Try.pinned (OpenSpec.ofChange fnExactTableValidWrong)

/-- 'laws.FnExactWantedRegions': WHATEVER THE INPUT: true; the input reads as it did. -/
def fnExactWantedRegionsSpec : ChangeSpec := { name := "fnExactWantedRegions", fn := fun _ => fun
  | [d1, d2] => { results := [.lit (.bool true)], args := [d1, d2] }
  | _ => none }
def fnExactWantedRegionsRow : OpenClaim := { program := "yteflbjchnfebaaa", sum := "f4e0abd22e486d2b32e7d49a96856228331f11b4a538b7fe52d59113efbeebb0", func := "loop.example/memorymanagers/laws.FnExactWantedRegions", spec := "fnExactWantedRegions", unfollowed := true, recurses := true, apart := false }
def FnExactWantedRegionsSaid : Prop := fnExactWantedRegionsRow.holds Try.pinned (OpenSpec.ofChange fnExactWantedRegionsSpec)

/-- ITS FALSE NEIGHBOUR: 'it returns false'. Refute it at one input. -/
def fnExactWantedRegionsWrong : ChangeSpec := { name := "fnExactWantedRegions", fn := fun _ => fun
  | [d1, d2] => { results := [.lit (.bool false)], args := [d1, d2] }
  | _ => none }
def FnExactWantedRegionsWrongFalsely : Prop := fnExactWantedRegionsRow.holds Try.pinned (OpenSpec.ofChange fnExactWantedRegionsWrong)

/-- 'laws.FnExactTableOf': WHATEVER THE INPUT: true; the input reads as it did. -/
def fnExactTableOfSpec : ChangeSpec := { name := "fnExactTableOf", fn := fun _ => fun
  | [d] => { results := [.lit (.bool true)], args := [d] }
  | _ => none }
def fnExactTableOfRow : OpenClaim := { program := "yteflbjchnfebaaa", sum := "f4e0abd22e486d2b32e7d49a96856228331f11b4a538b7fe52d59113efbeebb0", func := "loop.example/memorymanagers/laws.FnExactTableOf", spec := "fnExactTableOf", apart := false }
def FnExactTableOfSaid : Prop := fnExactTableOfRow.holds Try.pinned (OpenSpec.ofChange fnExactTableOfSpec)

/-- ITS FALSE NEIGHBOUR: 'it returns false'. Refute it at one input. -/
def fnExactTableOfWrong : ChangeSpec := { name := "fnExactTableOf", fn := fun _ => fun
  | [d] => { results := [.lit (.bool false)], args := [d] }
  | _ => none }
def FnExactTableOfWrongFalsely : Prop := fnExactTableOfRow.holds Try.pinned (OpenSpec.ofChange fnExactTableOfWrong)

/-- 'laws.FnExactClearWeak': WHATEVER THE INPUT: true; the input reads as it did. -/
def fnExactClearWeakSpec : ChangeSpec := { name := "fnExactClearWeak", fn := fun _ => fun
  | [d1, d2] => { results := [.lit (.bool true)], args := [d1, d2] }
  | _ => none }
def fnExactClearWeakRow : OpenClaim := { program := "yteflbjchnfebaaa", sum := "f4e0abd22e486d2b32e7d49a96856228331f11b4a538b7fe52d59113efbeebb0", func := "loop.example/memorymanagers/laws.FnExactClearWeak", spec := "fnExactClearWeak", unfollowed := true, recurses := true, apart := false }
def FnExactClearWeakSaid : Prop := fnExactClearWeakRow.holds Try.pinned (OpenSpec.ofChange fnExactClearWeakSpec)

/-- ITS FALSE NEIGHBOUR: 'it returns false'. Refute it at one input. -/
def fnExactClearWeakWrong : ChangeSpec := { name := "fnExactClearWeak", fn := fun _ => fun
  | [d1, d2] => { results := [.lit (.bool false)], args := [d1, d2] }
  | _ => none }
def FnExactClearWeakWrongFalsely : Prop := fnExactClearWeakRow.holds Try.pinned (OpenSpec.ofChange fnExactClearWeakWrong)

/- THE SECOND FORM. 'bulk': how many values and letters a reading holds, each counted each time it is reached (what is shared counts as often as it is met; a slice's spare places count too). A statement '..UptoSaid' is the law's where the arguments, and the package variables that the reading takes, are together of bulk at most 1048576: NARROWER than '..Said'. Prove '..Said' where nothing that the law and all that it calls make is longer than what came in: it says more and counts as full. Else prove '..UptoSaid'. A law counts once. -/
mutual
def uptoBulk {H : Type} : DataW H → Nat
  | .lit (.string bytes) => bytes.length + 1
  | .lit _ => 1
  | .nil => 1
  | .ptr d => uptoBulk d + 1
  | .slice elems spare => uptoBulkAll elems + uptoBulkAll spare + 1
  | .agg parts => uptoBulkAll parts + 1
  | .iface _ d => uptoBulk d + 1
  | .map entries => uptoBulkEntries entries + 1
  | .held _ => 1
def uptoBulkAll {H : Type} : List (DataW H) → Nat
  | [] => 0
  | d :: r => uptoBulk d + uptoBulkAll r
def uptoBulkEntries {H : Type} : List (Lit × DataW H) → Nat
  | [] => 0
  | x :: r => uptoBulkEntry x + uptoBulkEntries r
def uptoBulkEntry {H : Type} : Lit × DataW H → Nat
  | (.string bytes, d) => bytes.length + uptoBulk d + 1
  | (_, d) => uptoBulk d + 1
 end
def uptoSmall : (H : Type) → List (DataW H) → Bool := fun _ ds => decide (uptoBulkAll ds ≤ 1048576)
def OpenSpec.upto (s : _root_.Go.ChangeSpec) : _root_.Go.OpenSpec := { _root_.Go.OpenSpec.ofChange s with cond := some uptoSmall }

/-- 'laws.FnExactWeakValid', WHERE WHAT IT READS IS OF BULK AT MOST 1048576: true; the input reads as it did. -/
def fnExactWeakValidUptoRow : OpenClaim := { program := "yteflbjchnfebaaa", sum := "f4e0abd22e486d2b32e7d49a96856228331f11b4a538b7fe52d59113efbeebb0", func := "loop.example/memorymanagers/laws.FnExactWeakValid", spec := "fnExactWeakValid", apart := false, narrowed := true }
def FnExactWeakValidUptoSaid : Prop := fnExactWeakValidUptoRow.holds Try.pinned (OpenSpec.upto fnExactWeakValidSpec)

/-- 'laws.FnExactWatchedValid', WHERE WHAT IT READS IS OF BULK AT MOST 1048576: true; the input reads as it did. -/
def fnExactWatchedValidUptoRow : OpenClaim := { program := "yteflbjchnfebaaa", sum := "f4e0abd22e486d2b32e7d49a96856228331f11b4a538b7fe52d59113efbeebb0", func := "loop.example/memorymanagers/laws.FnExactWatchedValid", spec := "fnExactWatchedValid", apart := false, narrowed := true }
def FnExactWatchedValidUptoSaid : Prop := fnExactWatchedValidUptoRow.holds Try.pinned (OpenSpec.upto fnExactWatchedValidSpec)

/-- 'laws.FnExactRegionsValid', WHERE WHAT IT READS IS OF BULK AT MOST 1048576: true; the input reads as it did. -/
def fnExactRegionsValidUptoRow : OpenClaim := { program := "yteflbjchnfebaaa", sum := "f4e0abd22e486d2b32e7d49a96856228331f11b4a538b7fe52d59113efbeebb0", func := "loop.example/memorymanagers/laws.FnExactRegionsValid", spec := "fnExactRegionsValid", apart := false, narrowed := true }
def FnExactRegionsValidUptoSaid : Prop := fnExactRegionsValidUptoRow.holds Try.pinned (OpenSpec.upto fnExactRegionsValidSpec)

/-- 'laws.FnExactPairsValid', WHERE WHAT IT READS IS OF BULK AT MOST 1048576: true; the input reads as it did. -/
def fnExactPairsValidUptoRow : OpenClaim := { program := "yteflbjchnfebaaa", sum := "f4e0abd22e486d2b32e7d49a96856228331f11b4a538b7fe52d59113efbeebb0", func := "loop.example/memorymanagers/laws.FnExactPairsValid", spec := "fnExactPairsValid", apart := false, narrowed := true }
def FnExactPairsValidUptoSaid : Prop := fnExactPairsValidUptoRow.holds Try.pinned (OpenSpec.upto fnExactPairsValidSpec)

/-- 'laws.FnExactSaveImage', WHERE WHAT IT READS IS OF BULK AT MOST 1048576: true; the input reads as it did. -/
def fnExactSaveImageUptoRow : OpenClaim := { program := "yteflbjchnfebaaa", sum := "f4e0abd22e486d2b32e7d49a96856228331f11b4a538b7fe52d59113efbeebb0", func := "loop.example/memorymanagers/laws.FnExactSaveImage", spec := "fnExactSaveImage", apart := false, narrowed := true }
def FnExactSaveImageUptoSaid : Prop := fnExactSaveImageUptoRow.holds Try.pinned (OpenSpec.upto fnExactSaveImageSpec)

/-- 'laws.FnExactImageSum', WHERE WHAT IT READS IS OF BULK AT MOST 1048576: true; the input reads as it did. -/
def fnExactImageSumUptoRow : OpenClaim := { program := "yteflbjchnfebaaa", sum := "f4e0abd22e486d2b32e7d49a96856228331f11b4a538b7fe52d59113efbeebb0", func := "loop.example/memorymanagers/laws.FnExactImageSum", spec := "fnExactImageSum", apart := false, narrowed := true }
def FnExactImageSumUptoSaid : Prop := fnExactImageSumUptoRow.holds Try.pinned (OpenSpec.upto fnExactImageSumSpec)

/-- 'laws.FnExactRegionSizes', WHERE WHAT IT READS IS OF BULK AT MOST 1048576: true; the input reads as it did. -/
def fnExactRegionSizesUptoRow : OpenClaim := { program := "yteflbjchnfebaaa", sum := "f4e0abd22e486d2b32e7d49a96856228331f11b4a538b7fe52d59113efbeebb0", func := "loop.example/memorymanagers/laws.FnExactRegionSizes", spec := "fnExactRegionSizes", apart := false, narrowed := true }
def FnExactRegionSizesUptoSaid : Prop := fnExactRegionSizesUptoRow.holds Try.pinned (OpenSpec.upto fnExactRegionSizesSpec)

/-- 'laws.FnExactMoveImage', WHERE WHAT IT READS IS OF BULK AT MOST 1048576: true; the input reads as it did. -/
def fnExactMoveImageUptoRow : OpenClaim := { program := "yteflbjchnfebaaa", sum := "f4e0abd22e486d2b32e7d49a96856228331f11b4a538b7fe52d59113efbeebb0", func := "loop.example/memorymanagers/laws.FnExactMoveImage", spec := "fnExactMoveImage", apart := false, narrowed := true }
def FnExactMoveImageUptoSaid : Prop := fnExactMoveImageUptoRow.holds Try.pinned (OpenSpec.upto fnExactMoveImageSpec)

/-- 'laws.FnExactTableValid', WHERE WHAT IT READS IS OF BULK AT MOST 1048576: true; the input reads as it did. -/
def fnExactTableValidUptoRow : OpenClaim := { program := "yteflbjchnfebaaa", sum := "f4e0abd22e486d2b32e7d49a96856228331f11b4a538b7fe52d59113efbeebb0", func := "loop.example/memorymanagers/laws.FnExactTableValid", spec := "fnExactTableValid", apart := false, narrowed := true }
def FnExactTableValidUptoSaid : Prop := fnExactTableValidUptoRow.holds Try.pinned (OpenSpec.upto fnExactTableValidSpec)

/-- 'laws.FnExactWantedRegions', WHERE WHAT IT READS IS OF BULK AT MOST 1048576: true; the input reads as it did. -/
def fnExactWantedRegionsUptoRow : OpenClaim := { program := "yteflbjchnfebaaa", sum := "f4e0abd22e486d2b32e7d49a96856228331f11b4a538b7fe52d59113efbeebb0", func := "loop.example/memorymanagers/laws.FnExactWantedRegions", spec := "fnExactWantedRegions", unfollowed := true, recurses := true, apart := false, narrowed := true }
def FnExactWantedRegionsUptoSaid : Prop := fnExactWantedRegionsUptoRow.holds Try.pinned (OpenSpec.upto fnExactWantedRegionsSpec)

/-- 'laws.FnExactTableOf', WHERE WHAT IT READS IS OF BULK AT MOST 1048576: true; the input reads as it did. -/
def fnExactTableOfUptoRow : OpenClaim := { program := "yteflbjchnfebaaa", sum := "f4e0abd22e486d2b32e7d49a96856228331f11b4a538b7fe52d59113efbeebb0", func := "loop.example/memorymanagers/laws.FnExactTableOf", spec := "fnExactTableOf", apart := false, narrowed := true }
def FnExactTableOfUptoSaid : Prop := fnExactTableOfUptoRow.holds Try.pinned (OpenSpec.upto fnExactTableOfSpec)

/-- 'laws.FnExactClearWeak', WHERE WHAT IT READS IS OF BULK AT MOST 1048576: true; the input reads as it did. -/
def fnExactClearWeakUptoRow : OpenClaim := { program := "yteflbjchnfebaaa", sum := "f4e0abd22e486d2b32e7d49a96856228331f11b4a538b7fe52d59113efbeebb0", func := "loop.example/memorymanagers/laws.FnExactClearWeak", spec := "fnExactClearWeak", unfollowed := true, recurses := true, apart := false, narrowed := true }
def FnExactClearWeakUptoSaid : Prop := fnExactClearWeakUptoRow.holds Try.pinned (OpenSpec.upto fnExactClearWeakSpec)

end Rows
end Go.Proofs.Yteflbjchnfebaaa
