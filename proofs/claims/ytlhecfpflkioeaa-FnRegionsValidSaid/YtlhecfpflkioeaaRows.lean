/-
  No cell of these rows narrows 'for every input' (looked for: loops, veiled, ifaces, maps, wideKeys, modest, calm, conditions, laid).
  DERIVED. THE GIVEN ROWS OF THIS SEAT. 6 by the template 'for every input the law returns true; each argument reads behind the call as it read before'; 0 by the template 'total and deterministic' (their statements: YtlhecfpflkioeaaTotals.lean).
  GIVEN WITH THE SEED: the statements are not yours to turn. If you find one false, say at which input.
  Laid BY PROGRAM, IN A SANDBOX (cutbox-rows.mjs): the forced cells as the released guide's own fill.sh prints them over the translation f09843baf1d513cf… (all of the seat's roots in one cut). By AI agents, Wed Nov 11 2026. No macro, syntax, notation, axiom, sorry.
-/
import Derived.Test.YtlhecfpflkioeaaChecked
import GoSem.Claim
import GoSem.ClaimJoined
import GoSem.ClaimMapViews
import Derived.JoinedTies
import Derived.KernelRfl
namespace Go.Proofs.Ytlhecfpflkioeaa
/- THE CELL 'sum', in the pinned program and in every row, IS THE sha256 OF THE DUMP (.gsa) THAT YtlhecfpflkioeaaProg.lean LOADS. Nothing in Lean hashes anything: it is a label: what it is worth is what the hold of that sum in a sandbox is worth. -/
noncomputable def Try.pinned : Pinned := { name := "ytlhecfpflkioeaa", sum := "f09843baf1d513cf7b9d2f20a6182fad60adeda38bb5d8172217eb03a846508a", checked := Try.checked }
namespace Rows
def none {H : Type} : Left H := { results := [], args := [] }

/-- 'laws.FnWeakValid': WHATEVER THE INPUT: true; the input reads as it did. -/
def fnWeakValidSpec : ChangeSpec := { name := "fnWeakValid", fn := fun _ => fun
  | [d] => { results := [.lit (.bool true)], args := [d] }
  | _ => none }
def fnWeakValidRow : OpenClaim := { program := "ytlhecfpflkioeaa", sum := "f09843baf1d513cf7b9d2f20a6182fad60adeda38bb5d8172217eb03a846508a", func := "loop.example/memorymanagers/laws.FnWeakValid", spec := "fnWeakValid", apart := false }
def FnWeakValidSaid : Prop := fnWeakValidRow.holds Try.pinned (OpenSpec.ofChange fnWeakValidSpec)

/-- ITS FALSE NEIGHBOUR: 'it returns false'. Refute it at one input. -/
def fnWeakValidWrong : ChangeSpec := { name := "fnWeakValid", fn := fun _ => fun
  | [d] => { results := [.lit (.bool false)], args := [d] }
  | _ => none }
def FnWeakValidWrongFalsely : Prop := fnWeakValidRow.holds Try.pinned (OpenSpec.ofChange fnWeakValidWrong)

/-- 'laws.FnWatchedValid': WHATEVER THE INPUT: true; the input reads as it did. -/
def fnWatchedValidSpec : ChangeSpec := { name := "fnWatchedValid", fn := fun _ => fun
  | [d] => { results := [.lit (.bool true)], args := [d] }
  | _ => none }
def fnWatchedValidRow : OpenClaim := { program := "ytlhecfpflkioeaa", sum := "f09843baf1d513cf7b9d2f20a6182fad60adeda38bb5d8172217eb03a846508a", func := "loop.example/memorymanagers/laws.FnWatchedValid", spec := "fnWatchedValid", apart := false }
def FnWatchedValidSaid : Prop := fnWatchedValidRow.holds Try.pinned (OpenSpec.ofChange fnWatchedValidSpec)

/-- ITS FALSE NEIGHBOUR: 'it returns false'. Refute it at one input. -/
def fnWatchedValidWrong : ChangeSpec := { name := "fnWatchedValid", fn := fun _ => fun
  | [d] => { results := [.lit (.bool false)], args := [d] }
  | _ => none }
def FnWatchedValidWrongFalsely : Prop := fnWatchedValidRow.holds Try.pinned (OpenSpec.ofChange fnWatchedValidWrong)

/-- 'laws.FnPairsValid': WHATEVER THE INPUT: true; the input reads as it did. -/
def fnPairsValidSpec : ChangeSpec := { name := "fnPairsValid", fn := fun _ => fun
  | [d] => { results := [.lit (.bool true)], args := [d] }
  | _ => none }
def fnPairsValidRow : OpenClaim := { program := "ytlhecfpflkioeaa", sum := "f09843baf1d513cf7b9d2f20a6182fad60adeda38bb5d8172217eb03a846508a", func := "loop.example/memorymanagers/laws.FnPairsValid", spec := "fnPairsValid", apart := false }
def FnPairsValidSaid : Prop := fnPairsValidRow.holds Try.pinned (OpenSpec.ofChange fnPairsValidSpec)

/-- ITS FALSE NEIGHBOUR: 'it returns false'. Refute it at one input. -/
def fnPairsValidWrong : ChangeSpec := { name := "fnPairsValid", fn := fun _ => fun
  | [d] => { results := [.lit (.bool false)], args := [d] }
  | _ => none }
def FnPairsValidWrongFalsely : Prop := fnPairsValidRow.holds Try.pinned (OpenSpec.ofChange fnPairsValidWrong)

/-- 'laws.FnRegionsValid': WHATEVER THE INPUT: true; the input reads as it did. -/
def fnRegionsValidSpec : ChangeSpec := { name := "fnRegionsValid", fn := fun _ => fun
  | [d] => { results := [.lit (.bool true)], args := [d] }
  | _ => none }
def fnRegionsValidRow : OpenClaim := { program := "ytlhecfpflkioeaa", sum := "f09843baf1d513cf7b9d2f20a6182fad60adeda38bb5d8172217eb03a846508a", func := "loop.example/memorymanagers/laws.FnRegionsValid", spec := "fnRegionsValid", apart := false }
def FnRegionsValidSaid : Prop := fnRegionsValidRow.holds Try.pinned (OpenSpec.ofChange fnRegionsValidSpec)

/-- ITS FALSE NEIGHBOUR: 'it returns false'. Refute it at one input. -/
def fnRegionsValidWrong : ChangeSpec := { name := "fnRegionsValid", fn := fun _ => fun
  | [d] => { results := [.lit (.bool false)], args := [d] }
  | _ => none }
def FnRegionsValidWrongFalsely : Prop := fnRegionsValidRow.holds Try.pinned (OpenSpec.ofChange fnRegionsValidWrong)

/-- 'laws.FnClearWeak': WHATEVER THE INPUT: true; the input reads as it did. -/
def fnClearWeakSpec : ChangeSpec := { name := "fnClearWeak", fn := fun _ => fun
  | [d] => { results := [.lit (.bool true)], args := [d] }
  | _ => none }
def fnClearWeakRow : OpenClaim := { program := "ytlhecfpflkioeaa", sum := "f09843baf1d513cf7b9d2f20a6182fad60adeda38bb5d8172217eb03a846508a", func := "loop.example/memorymanagers/laws.FnClearWeak", spec := "fnClearWeak", unfollowed := true, recurses := true, apart := false }
def FnClearWeakSaid : Prop := fnClearWeakRow.holds Try.pinned (OpenSpec.ofChange fnClearWeakSpec)

/-- ITS FALSE NEIGHBOUR: 'it returns false'. Refute it at one input. -/
def fnClearWeakWrong : ChangeSpec := { name := "fnClearWeak", fn := fun _ => fun
  | [d] => { results := [.lit (.bool false)], args := [d] }
  | _ => none }
def FnClearWeakWrongFalsely : Prop := fnClearWeakRow.holds Try.pinned (OpenSpec.ofChange fnClearWeakWrong)

/-- 'laws.FnTableOf': WHATEVER THE INPUT: true; the input reads as it did. -/
def fnTableOfSpec : ChangeSpec := { name := "fnTableOf", fn := fun _ => fun
  | [d] => { results := [.lit (.bool true)], args := [d] }
  | _ => none }
def fnTableOfRow : OpenClaim := { program := "ytlhecfpflkioeaa", sum := "f09843baf1d513cf7b9d2f20a6182fad60adeda38bb5d8172217eb03a846508a", func := "loop.example/memorymanagers/laws.FnTableOf", spec := "fnTableOf", apart := false }
def FnTableOfSaid : Prop := fnTableOfRow.holds Try.pinned (OpenSpec.ofChange fnTableOfSpec)

/-- ITS FALSE NEIGHBOUR: 'it returns false'. Refute it at one input. -/
def fnTableOfWrong : ChangeSpec := { name := "fnTableOf", fn := fun _ => fun
  | [d] => { results := [.lit (.bool false)], args := [d] }
  | _ => none }
def FnTableOfWrongFalsely : Prop := fnTableOfRow.holds Try.pinned (OpenSpec.ofChange fnTableOfWrong)

/- THE SECOND FORM. 'bulk': how many values and letters a reading holds, each counted each time it is reached (what is shared counts as often as it is met; a slice's spare places count too). A statement '..UptoSaid' is the law's where the arguments, and the package variables that the reading takes, are together of bulk at most 1048576: NARROWER than '..Said'. Prove '..Said' where nothing that the law and all that it calls make is longer than what came in: it says more and counts as full. Else prove '..UptoSaid'. A law counts once. -/
mutual
def uptoBulk {H : Type} : DataW H → Nat
  | .lit (.string bytes) => bytes.length + 1
  | .lit _ => 1
  | .nil => 1
  | .ptr d => uptoBulk d + 1
  | .slice elems spare => uptoBulkAll elems + uptoBulkAll spare + 1
  | .agg parts => uptoBulkAll parts + 1
  | .iface _ d => uptoBulk d + 1
  | .map entries => uptoBulkEntries entries + 1
  | .held _ => 1
def uptoBulkAll {H : Type} : List (DataW H) → Nat
  | [] => 0
  | d :: r => uptoBulk d + uptoBulkAll r
def uptoBulkEntries {H : Type} : List (Lit × DataW H) → Nat
  | [] => 0
  | x :: r => uptoBulkEntry x + uptoBulkEntries r
def uptoBulkEntry {H : Type} : Lit × DataW H → Nat
  | (.string bytes, d) => bytes.length + uptoBulk d + 1
  | (_, d) => uptoBulk d + 1
 end
def uptoSmall : (H : Type) → List (DataW H) → Bool := fun _ ds => decide (uptoBulkAll ds ≤ 1048576)
def OpenSpec.upto (s : _root_.Go.ChangeSpec) : _root_.Go.OpenSpec := { _root_.Go.OpenSpec.ofChange s with cond := some uptoSmall }

/-- 'laws.FnWeakValid', WHERE WHAT IT READS IS OF BULK AT MOST 1048576: true; the input reads as it did. -/
def fnWeakValidUptoRow : OpenClaim := { program := "ytlhecfpflkioeaa", sum := "f09843baf1d513cf7b9d2f20a6182fad60adeda38bb5d8172217eb03a846508a", func := "loop.example/memorymanagers/laws.FnWeakValid", spec := "fnWeakValid", apart := false, narrowed := true }
def FnWeakValidUptoSaid : Prop := fnWeakValidUptoRow.holds Try.pinned (OpenSpec.upto fnWeakValidSpec)

/-- 'laws.FnWatchedValid', WHERE WHAT IT READS IS OF BULK AT MOST 1048576: true; the input reads as it did. -/
def fnWatchedValidUptoRow : OpenClaim := { program := "ytlhecfpflkioeaa", sum := "f09843baf1d513cf7b9d2f20a6182fad60adeda38bb5d8172217eb03a846508a", func := "loop.example/memorymanagers/laws.FnWatchedValid", spec := "fnWatchedValid", apart := false, narrowed := true }
def FnWatchedValidUptoSaid : Prop := fnWatchedValidUptoRow.holds Try.pinned (OpenSpec.upto fnWatchedValidSpec)

/-- 'laws.FnPairsValid', WHERE WHAT IT READS IS OF BULK AT MOST 1048576: true; the input reads as it did. -/
def fnPairsValidUptoRow : OpenClaim := { program := "ytlhecfpflkioeaa", sum := "f09843baf1d513cf7b9d2f20a6182fad60adeda38bb5d8172217eb03a846508a", func := "loop.example/memorymanagers/laws.FnPairsValid", spec := "fnPairsValid", apart := false, narrowed := true }
def FnPairsValidUptoSaid : Prop := fnPairsValidUptoRow.holds Try.pinned (OpenSpec.upto fnPairsValidSpec)

/-- 'laws.FnRegionsValid', WHERE WHAT IT READS IS OF BULK AT MOST 1048576: true; the input reads as it did. -/
def fnRegionsValidUptoRow : OpenClaim := { program := "ytlhecfpflkioeaa", sum := "f09843baf1d513cf7b9d2f20a6182fad60adeda38bb5d8172217eb03a846508a", func := "loop.example/memorymanagers/laws.FnRegionsValid", spec := "fnRegionsValid", apart := false, narrowed := true }
def FnRegionsValidUptoSaid : Prop := fnRegionsValidUptoRow.holds Try.pinned (OpenSpec.upto fnRegionsValidSpec)

/-- 'laws.FnClearWeak', WHERE WHAT IT READS IS OF BULK AT MOST 1048576: true; the input reads as it did. -/
def fnClearWeakUptoRow : OpenClaim := { program := "ytlhecfpflkioeaa", sum := "f09843baf1d513cf7b9d2f20a6182fad60adeda38bb5d8172217eb03a846508a", func := "loop.example/memorymanagers/laws.FnClearWeak", spec := "fnClearWeak", unfollowed := true, recurses := true, apart := false, narrowed := true }
def FnClearWeakUptoSaid : Prop := fnClearWeakUptoRow.holds Try.pinned (OpenSpec.upto fnClearWeakSpec)

/-- 'laws.FnTableOf', WHERE WHAT IT READS IS OF BULK AT MOST 1048576: true; the input reads as it did. -/
def fnTableOfUptoRow : OpenClaim := { program := "ytlhecfpflkioeaa", sum := "f09843baf1d513cf7b9d2f20a6182fad60adeda38bb5d8172217eb03a846508a", func := "loop.example/memorymanagers/laws.FnTableOf", spec := "fnTableOf", apart := false, narrowed := true }
def FnTableOfUptoSaid : Prop := fnTableOfUptoRow.holds Try.pinned (OpenSpec.upto fnTableOfSpec)

end Rows
end Go.Proofs.Ytlhecfpflkioeaa
