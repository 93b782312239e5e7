/-
  No cell of these rows narrows 'for every input' (looked for: loops, veiled, ifaces, maps, wideKeys, modest, calm, conditions, laid).
  DERIVED. THE GIVEN ROWS OF THIS SEAT. 6 by the template 'for every input the law returns true; each argument reads behind the call as it read before'; 0 by the template 'total and deterministic' (their statements: YtmhcajjlhiopmaaTotals.lean).
  GIVEN WITH THE SEED: the statements are not yours to turn. If you find one false, say at which input.
  Laid BY PROGRAM, IN A SANDBOX (cutbox-rows.mjs): the forced cells as the released guide's own fill.sh prints them over the translation 38316cf2a9b40ad8… (all of the seat's roots in one cut). By AI agents, Wed Nov 11 2026. No macro, syntax, notation, axiom, sorry.
-/
import Derived.Test.YtmhcajjlhiopmaaChecked
import GoSem.Claim
import GoSem.ClaimJoined
import GoSem.ClaimMapViews
import Derived.JoinedTies
import Derived.KernelRfl
namespace Go.Proofs.Ytmhcajjlhiopmaa
/- THE CELL 'sum', in the pinned program and in every row, IS THE sha256 OF THE DUMP (.gsa) THAT YtmhcajjlhiopmaaProg.lean LOADS. Nothing in Lean hashes anything: it is a label: what it is worth is what the hold of that sum in a sandbox is worth. -/
noncomputable def Try.pinned : Pinned := { name := "ytmhcajjlhiopmaa", sum := "38316cf2a9b40ad892ef16c68821b4c4f946b800769739334123398e6174565d", checked := Try.checked }
namespace Rows
def none {H : Type} : Left H := { results := [], args := [] }

/-- 'laws.FnWantedRegions': WHATEVER THE INPUT: true; the input reads as it did. -/
def fnWantedRegionsSpec : ChangeSpec := { name := "fnWantedRegions", fn := fun _ => fun
  | [d] => { results := [.lit (.bool true)], args := [d] }
  | _ => none }
def fnWantedRegionsRow : OpenClaim := { program := "ytmhcajjlhiopmaa", sum := "38316cf2a9b40ad892ef16c68821b4c4f946b800769739334123398e6174565d", func := "loop.example/memorymanagers/laws.FnWantedRegions", spec := "fnWantedRegions", unfollowed := true, recurses := true, apart := false }
def FnWantedRegionsSaid : Prop := fnWantedRegionsRow.holds Try.pinned (OpenSpec.ofChange fnWantedRegionsSpec)

/-- ITS FALSE NEIGHBOUR: 'it returns false'. Refute it at one input. -/
def fnWantedRegionsWrong : ChangeSpec := { name := "fnWantedRegions", fn := fun _ => fun
  | [d] => { results := [.lit (.bool false)], args := [d] }
  | _ => none }
def FnWantedRegionsWrongFalsely : Prop := fnWantedRegionsRow.holds Try.pinned (OpenSpec.ofChange fnWantedRegionsWrong)

/-- 'laws.FnSaveImage': WHATEVER THE INPUT: true; the input reads as it did. -/
def fnSaveImageSpec : ChangeSpec := { name := "fnSaveImage", fn := fun _ => fun
  | [d] => { results := [.lit (.bool true)], args := [d] }
  | _ => none }
def fnSaveImageRow : OpenClaim := { program := "ytmhcajjlhiopmaa", sum := "38316cf2a9b40ad892ef16c68821b4c4f946b800769739334123398e6174565d", func := "loop.example/memorymanagers/laws.FnSaveImage", spec := "fnSaveImage", apart := false }
def FnSaveImageSaid : Prop := fnSaveImageRow.holds Try.pinned (OpenSpec.ofChange fnSaveImageSpec)

/-- ITS FALSE NEIGHBOUR: 'it returns false'. Refute it at one input. -/
def fnSaveImageWrong : ChangeSpec := { name := "fnSaveImage", fn := fun _ => fun
  | [d] => { results := [.lit (.bool false)], args := [d] }
  | _ => none }
def FnSaveImageWrongFalsely : Prop := fnSaveImageRow.holds Try.pinned (OpenSpec.ofChange fnSaveImageWrong)

/-- 'laws.FnReadyCells': WHATEVER THE INPUT: true; the input reads as it did. -/
def fnReadyCellsSpec : ChangeSpec := { name := "fnReadyCells", fn := fun _ => fun
  | [d] => { results := [.lit (.bool true)], args := [d] }
  | _ => none }
def fnReadyCellsRow : OpenClaim := { program := "ytmhcajjlhiopmaa", sum := "38316cf2a9b40ad892ef16c68821b4c4f946b800769739334123398e6174565d", func := "loop.example/memorymanagers/laws.FnReadyCells", spec := "fnReadyCells", unfollowed := true, recurses := true, apart := false }
def FnReadyCellsSaid : Prop := fnReadyCellsRow.holds Try.pinned (OpenSpec.ofChange fnReadyCellsSpec)

/-- ITS FALSE NEIGHBOUR: 'it returns false'. Refute it at one input. -/
def fnReadyCellsWrong : ChangeSpec := { name := "fnReadyCells", fn := fun _ => fun
  | [d] => { results := [.lit (.bool false)], args := [d] }
  | _ => none }
def FnReadyCellsWrongFalsely : Prop := fnReadyCellsRow.holds Try.pinned (OpenSpec.ofChange fnReadyCellsWrong)

/-- 'laws.FnDropRegion': WHATEVER THE INPUT: true; the input reads as it did. -/
def fnDropRegionSpec : ChangeSpec := { name := "fnDropRegion", fn := fun _ => fun
  | [d] => { results := [.lit (.bool true)], args := [d] }
  | _ => none }
def fnDropRegionRow : OpenClaim := { program := "ytmhcajjlhiopmaa", sum := "38316cf2a9b40ad892ef16c68821b4c4f946b800769739334123398e6174565d", func := "loop.example/memorymanagers/laws.FnDropRegion", spec := "fnDropRegion", apart := false }
def FnDropRegionSaid : Prop := fnDropRegionRow.holds Try.pinned (OpenSpec.ofChange fnDropRegionSpec)

/-- ITS FALSE NEIGHBOUR: 'it returns false'. Refute it at one input. -/
def fnDropRegionWrong : ChangeSpec := { name := "fnDropRegion", fn := fun _ => fun
  | [d] => { results := [.lit (.bool false)], args := [d] }
  | _ => none }
def FnDropRegionWrongFalsely : Prop := fnDropRegionRow.holds Try.pinned (OpenSpec.ofChange fnDropRegionWrong)

/-- 'laws.FnRegionSizes': WHATEVER THE INPUT: true; the input reads as it did. -/
def fnRegionSizesSpec : ChangeSpec := { name := "fnRegionSizes", fn := fun _ => fun
  | [d] => { results := [.lit (.bool true)], args := [d] }
  | _ => none }
def fnRegionSizesRow : OpenClaim := { program := "ytmhcajjlhiopmaa", sum := "38316cf2a9b40ad892ef16c68821b4c4f946b800769739334123398e6174565d", func := "loop.example/memorymanagers/laws.FnRegionSizes", spec := "fnRegionSizes", unfollowed := true, recurses := true, apart := false }
def FnRegionSizesSaid : Prop := fnRegionSizesRow.holds Try.pinned (OpenSpec.ofChange fnRegionSizesSpec)

/-- ITS FALSE NEIGHBOUR: 'it returns false'. Refute it at one input. -/
def fnRegionSizesWrong : ChangeSpec := { name := "fnRegionSizes", fn := fun _ => fun
  | [d] => { results := [.lit (.bool false)], args := [d] }
  | _ => none }
def FnRegionSizesWrongFalsely : Prop := fnRegionSizesRow.holds Try.pinned (OpenSpec.ofChange fnRegionSizesWrong)

/-- 'laws.FnRegionRoot': WHATEVER THE INPUT: true; the input reads as it did. -/
def fnRegionRootSpec : ChangeSpec := { name := "fnRegionRoot", fn := fun _ => fun
  | [d] => { results := [.lit (.bool true)], args := [d] }
  | _ => none }
def fnRegionRootRow : OpenClaim := { program := "ytmhcajjlhiopmaa", sum := "38316cf2a9b40ad892ef16c68821b4c4f946b800769739334123398e6174565d", func := "loop.example/memorymanagers/laws.FnRegionRoot", spec := "fnRegionRoot", unfollowed := true, recurses := true, apart := false }
def FnRegionRootSaid : Prop := fnRegionRootRow.holds Try.pinned (OpenSpec.ofChange fnRegionRootSpec)

/-- ITS FALSE NEIGHBOUR: 'it returns false'. Refute it at one input. -/
def fnRegionRootWrong : ChangeSpec := { name := "fnRegionRoot", fn := fun _ => fun
  | [d] => { results := [.lit (.bool false)], args := [d] }
  | _ => none }
def FnRegionRootWrongFalsely : Prop := fnRegionRootRow.holds Try.pinned (OpenSpec.ofChange fnRegionRootWrong)

/- THE SECOND FORM. 'bulk': how many values and letters a reading holds, each counted each time it is reached (what is shared counts as often as it is met; a slice's spare places count too). A statement '..UptoSaid' is the law's where the arguments, and the package variables that the reading takes, are together of bulk at most 1048576: NARROWER than '..Said'. Prove '..Said' where nothing that the law and all that it calls make is longer than what came in: it says more and counts as full. Else prove '..UptoSaid'. A law counts once. -/
mutual
def uptoBulk {H : Type} : DataW H → Nat
  | .lit (.string bytes) => bytes.length + 1
  | .lit _ => 1
  | .nil => 1
  | .ptr d => uptoBulk d + 1
  | .slice elems spare => uptoBulkAll elems + uptoBulkAll spare + 1
  | .agg parts => uptoBulkAll parts + 1
  | .iface _ d => uptoBulk d + 1
  | .map entries => uptoBulkEntries entries + 1
  | .held _ => 1
def uptoBulkAll {H : Type} : List (DataW H) → Nat
  | [] => 0
  | d :: r => uptoBulk d + uptoBulkAll r
def uptoBulkEntries {H : Type} : List (Lit × DataW H) → Nat
  | [] => 0
  | x :: r => uptoBulkEntry x + uptoBulkEntries r
def uptoBulkEntry {H : Type} : Lit × DataW H → Nat
  | (.string bytes, d) => bytes.length + uptoBulk d + 1
  | (_, d) => uptoBulk d + 1
 end
def uptoSmall : (H : Type) → List (DataW H) → Bool := fun _ ds => decide (uptoBulkAll ds ≤ 1048576)
def OpenSpec.upto (s : _root_.Go.ChangeSpec) : _root_.Go.OpenSpec := { _root_.Go.OpenSpec.ofChange s with cond := some uptoSmall }

/-- 'laws.FnWantedRegions', WHERE WHAT IT READS IS OF BULK AT MOST 1048576: true; the input reads as it did. -/
def fnWantedRegionsUptoRow : OpenClaim := { program := "ytmhcajjlhiopmaa", sum := "38316cf2a9b40ad892ef16c68821b4c4f946b800769739334123398e6174565d", func := "loop.example/memorymanagers/laws.FnWantedRegions", spec := "fnWantedRegions", unfollowed := true, recurses := true, apart := false, narrowed := true }
def FnWantedRegionsUptoSaid : Prop := fnWantedRegionsUptoRow.holds Try.pinned (OpenSpec.upto fnWantedRegionsSpec)

/-- 'laws.FnSaveImage', WHERE WHAT IT READS IS OF BULK AT MOST 1048576: true; the input reads as it did. -/
def fnSaveImageUptoRow : OpenClaim := { program := "ytmhcajjlhiopmaa", sum := "38316cf2a9b40ad892ef16c68821b4c4f946b800769739334123398e6174565d", func := "loop.example/memorymanagers/laws.FnSaveImage", spec := "fnSaveImage", apart := false, narrowed := true }
def FnSaveImageUptoSaid : Prop := fnSaveImageUptoRow.holds Try.pinned (OpenSpec.upto fnSaveImageSpec)

/-- 'laws.FnReadyCells', WHERE WHAT IT READS IS OF BULK AT MOST 1048576: true; the input reads as it did. -/
def fnReadyCellsUptoRow : OpenClaim := { program := "ytmhcajjlhiopmaa", sum := "38316cf2a9b40ad892ef16c68821b4c4f946b800769739334123398e6174565d", func := "loop.example/memorymanagers/laws.FnReadyCells", spec := "fnReadyCells", unfollowed := true, recurses := true, apart := false, narrowed := true }
def FnReadyCellsUptoSaid : Prop := fnReadyCellsUptoRow.holds Try.pinned (OpenSpec.upto fnReadyCellsSpec)

/-- 'laws.FnDropRegion', WHERE WHAT IT READS IS OF BULK AT MOST 1048576: true; the input reads as it did. -/
def fnDropRegionUptoRow : OpenClaim := { program := "ytmhcajjlhiopmaa", sum := "38316cf2a9b40ad892ef16c68821b4c4f946b800769739334123398e6174565d", func := "loop.example/memorymanagers/laws.FnDropRegion", spec := "fnDropRegion", apart := false, narrowed := true }
def FnDropRegionUptoSaid : Prop := fnDropRegionUptoRow.holds Try.pinned (OpenSpec.upto fnDropRegionSpec)

/-- 'laws.FnRegionSizes', WHERE WHAT IT READS IS OF BULK AT MOST 1048576: true; the input reads as it did. -/
def fnRegionSizesUptoRow : OpenClaim := { program := "ytmhcajjlhiopmaa", sum := "38316cf2a9b40ad892ef16c68821b4c4f946b800769739334123398e6174565d", func := "loop.example/memorymanagers/laws.FnRegionSizes", spec := "fnRegionSizes", unfollowed := true, recurses := true, apart := false, narrowed := true }
def FnRegionSizesUptoSaid : Prop := fnRegionSizesUptoRow.holds Try.pinned (OpenSpec.upto fnRegionSizesSpec)

/-- 'laws.FnRegionRoot', WHERE WHAT IT READS IS OF BULK AT MOST 1048576: true; the input reads as it did. -/
def fnRegionRootUptoRow : OpenClaim := { program := "ytmhcajjlhiopmaa", sum := "38316cf2a9b40ad892ef16c68821b4c4f946b800769739334123398e6174565d", func := "loop.example/memorymanagers/laws.FnRegionRoot", spec := "fnRegionRoot", unfollowed := true, recurses := true, apart := false, narrowed := true }
def FnRegionRootUptoSaid : Prop := fnRegionRootUptoRow.holds Try.pinned (OpenSpec.upto fnRegionRootSpec)

end Rows
end Go.Proofs.Ytmhcajjlhiopmaa
