/-
  No cell of these rows narrows 'for every input' (looked for: loops, veiled, ifaces, maps, wideKeys, modest, calm, conditions, laid).
  DERIVED. THE GIVEN ROWS OF THIS SEAT. 6 by the template 'for every input the law returns true; each argument reads behind the call as it read before'; 0 by the template 'total and deterministic' (their statements: YtpafdaooddbpkaaTotals.lean).
  GIVEN WITH THE SEED: the statements are not yours to turn. If you find one false, say at which input.
  Laid BY PROGRAM, IN A SANDBOX (cutbox-rows.mjs): the forced cells as the released guide's own fill.sh prints them over the translation dff9a3c25c615dbe… (all of the seat's roots in one cut). By AI agents, Wed Nov 11 2026. No macro, syntax, notation, axiom, sorry.
-/
import Derived.Test.YtpafdaooddbpkaaChecked
import GoSem.Claim
import GoSem.ClaimJoined
import GoSem.ClaimMapViews
import Derived.JoinedTies
import Derived.KernelRfl
namespace Go.Proofs.Ytpafdaooddbpkaa
/- THE CELL 'sum', in the pinned program and in every row, IS THE sha256 OF THE DUMP (.gsa) THAT YtpafdaooddbpkaaProg.lean LOADS. Nothing in Lean hashes anything: it is a label: what it is worth is what the hold of that sum in a sandbox is worth. -/
noncomputable def Try.pinned : Pinned := { name := "ytpafdaooddbpkaa", sum := "dff9a3c25c615dbe52b3cffa51d4c5418e989a54ffe9164702aa10bdd2460fb9", checked := Try.checked }
namespace Rows
def none {H : Type} : Left H := { results := [], args := [] }

/-- 'laws.FnPeakLive': WHATEVER THE INPUT: true; the input reads as it did. -/
def fnPeakLiveSpec : ChangeSpec := { name := "fnPeakLive", fn := fun _ => fun
  | [d] => { results := [.lit (.bool true)], args := [d] }
  | _ => none }
def fnPeakLiveRow : OpenClaim := { program := "ytpafdaooddbpkaa", sum := "dff9a3c25c615dbe52b3cffa51d4c5418e989a54ffe9164702aa10bdd2460fb9", func := "loop.example/memorymanagers/laws.FnPeakLive", spec := "fnPeakLive", unfollowed := true, recurses := true, apart := false }
def FnPeakLiveSaid : Prop := fnPeakLiveRow.holds Try.pinned (OpenSpec.ofChange fnPeakLiveSpec)

/-- ITS FALSE NEIGHBOUR: 'it returns false'. Refute it at one input. -/
def fnPeakLiveWrong : ChangeSpec := { name := "fnPeakLive", fn := fun _ => fun
  | [d] => { results := [.lit (.bool false)], args := [d] }
  | _ => none }
def FnPeakLiveWrongFalsely : Prop := fnPeakLiveRow.holds Try.pinned (OpenSpec.ofChange fnPeakLiveWrong)

/-- 'laws.FnLimitPeak': WHATEVER THE INPUT: true; the input reads as it did. -/
def fnLimitPeakSpec : ChangeSpec := { name := "fnLimitPeak", fn := fun _ => fun
  | [d] => { results := [.lit (.bool true)], args := [d] }
  | _ => none }
def fnLimitPeakRow : OpenClaim := { program := "ytpafdaooddbpkaa", sum := "dff9a3c25c615dbe52b3cffa51d4c5418e989a54ffe9164702aa10bdd2460fb9", func := "loop.example/memorymanagers/laws.FnLimitPeak", spec := "fnLimitPeak", unfollowed := true, recurses := true, apart := false }
def FnLimitPeakSaid : Prop := fnLimitPeakRow.holds Try.pinned (OpenSpec.ofChange fnLimitPeakSpec)

/-- ITS FALSE NEIGHBOUR: 'it returns false'. Refute it at one input. -/
def fnLimitPeakWrong : ChangeSpec := { name := "fnLimitPeak", fn := fun _ => fun
  | [d] => { results := [.lit (.bool false)], args := [d] }
  | _ => none }
def FnLimitPeakWrongFalsely : Prop := fnLimitPeakRow.holds Try.pinned (OpenSpec.ofChange fnLimitPeakWrong)

/-- 'laws.FnRunSweep': WHATEVER THE INPUT: true; the input reads as it did. -/
def fnRunSweepSpec : ChangeSpec := { name := "fnRunSweep", fn := fun _ => fun
  | [d] => { results := [.lit (.bool true)], args := [d] }
  | _ => none }
def fnRunSweepRow : OpenClaim := { program := "ytpafdaooddbpkaa", sum := "dff9a3c25c615dbe52b3cffa51d4c5418e989a54ffe9164702aa10bdd2460fb9", func := "loop.example/memorymanagers/laws.FnRunSweep", spec := "fnRunSweep", unfollowed := true, recurses := true, apart := false }
def FnRunSweepSaid : Prop := fnRunSweepRow.holds Try.pinned (OpenSpec.ofChange fnRunSweepSpec)

/-- ITS FALSE NEIGHBOUR: 'it returns false'. Refute it at one input. -/
def fnRunSweepWrong : ChangeSpec := { name := "fnRunSweep", fn := fun _ => fun
  | [d] => { results := [.lit (.bool false)], args := [d] }
  | _ => none }
def FnRunSweepWrongFalsely : Prop := fnRunSweepRow.holds Try.pinned (OpenSpec.ofChange fnRunSweepWrong)

/-- 'laws.FnLeastLimit': WHATEVER THE INPUT: true; the input reads as it did. -/
def fnLeastLimitSpec : ChangeSpec := { name := "fnLeastLimit", fn := fun _ => fun
  | [d] => { results := [.lit (.bool true)], args := [d] }
  | _ => none }
def fnLeastLimitRow : OpenClaim := { program := "ytpafdaooddbpkaa", sum := "dff9a3c25c615dbe52b3cffa51d4c5418e989a54ffe9164702aa10bdd2460fb9", func := "loop.example/memorymanagers/laws.FnLeastLimit", spec := "fnLeastLimit", unfollowed := true, recurses := true, apart := false }
def FnLeastLimitSaid : Prop := fnLeastLimitRow.holds Try.pinned (OpenSpec.ofChange fnLeastLimitSpec)

/-- ITS FALSE NEIGHBOUR: 'it returns false'. Refute it at one input. -/
def fnLeastLimitWrong : ChangeSpec := { name := "fnLeastLimit", fn := fun _ => fun
  | [d] => { results := [.lit (.bool false)], args := [d] }
  | _ => none }
def FnLeastLimitWrongFalsely : Prop := fnLeastLimitRow.holds Try.pinned (OpenSpec.ofChange fnLeastLimitWrong)

/-- 'laws.FnExactLeastLimit': WHATEVER THE INPUT: true; the input reads as it did. -/
def fnExactLeastLimitSpec : ChangeSpec := { name := "fnExactLeastLimit", fn := fun _ => fun
  | [d] => { results := [.lit (.bool true)], args := [d] }
  | _ => none }
def fnExactLeastLimitRow : OpenClaim := { program := "ytpafdaooddbpkaa", sum := "dff9a3c25c615dbe52b3cffa51d4c5418e989a54ffe9164702aa10bdd2460fb9", func := "loop.example/memorymanagers/laws.FnExactLeastLimit", spec := "fnExactLeastLimit", unfollowed := true, recurses := true, apart := false }
def FnExactLeastLimitSaid : Prop := fnExactLeastLimitRow.holds Try.pinned (OpenSpec.ofChange fnExactLeastLimitSpec)

/-- ITS FALSE NEIGHBOUR: 'it returns false'. Refute it at one input. -/
def fnExactLeastLimitWrong : ChangeSpec := { name := "fnExactLeastLimit", fn := fun _ => fun
  | [d] => { results := [.lit (.bool false)], args := [d] }
  | _ => none }
def FnExactLeastLimitWrongFalsely : Prop := fnExactLeastLimitRow.holds Try.pinned (OpenSpec.ofChange fnExactLeastLimitWrong)

/-- 'laws.FnExactPeakLive': WHATEVER THE INPUT: true; the input reads as it did. -/
def fnExactPeakLiveSpec : ChangeSpec := { name := "fnExactPeakLive", fn := fun _ => fun
  | [d] => { results := [.lit (.bool true)], args := [d] }
  | _ => none }
def fnExactPeakLiveRow : OpenClaim := { program := "ytpafdaooddbpkaa", sum := "dff9a3c25c615dbe52b3cffa51d4c5418e989a54ffe9164702aa10bdd2460fb9", func := "loop.example/memorymanagers/laws.FnExactPeakLive", spec := "fnExactPeakLive", unfollowed := true, recurses := true, apart := false }
def FnExactPeakLiveSaid : Prop := fnExactPeakLiveRow.holds Try.pinned (OpenSpec.ofChange fnExactPeakLiveSpec)

/-- ITS FALSE NEIGHBOUR: 'it returns false'. Refute it at one input. -/
def fnExactPeakLiveWrong : ChangeSpec := { name := "fnExactPeakLive", fn := fun _ => fun
  | [d] => { results := [.lit (.bool false)], args := [d] }
  | _ => none }
def FnExactPeakLiveWrongFalsely : Prop := fnExactPeakLiveRow.holds Try.pinned (OpenSpec.ofChange fnExactPeakLiveWrong)

/- THE SECOND FORM. 'bulk': how many values and letters a reading holds, each counted each time it is reached (what is shared counts as often as it is met; a slice's spare places count too). A statement '..UptoSaid' is the law's where the arguments, and the package variables that the reading takes, are together of bulk at most 1048576: NARROWER than '..Said'. Prove '..Said' where nothing that the law and all that it calls make is longer than what came in: it says more and counts as full. Else prove '..UptoSaid'. A law counts once. -/
mutual
def uptoBulk {H : Type} : DataW H → Nat
  | .lit (.string bytes) => bytes.length + 1
  | .lit _ => 1
  | .nil => 1
  | .ptr d => uptoBulk d + 1
  | .slice elems spare => uptoBulkAll elems + uptoBulkAll spare + 1
  | .agg parts => uptoBulkAll parts + 1
  | .iface _ d => uptoBulk d + 1
  | .map entries => uptoBulkEntries entries + 1
  | .held _ => 1
def uptoBulkAll {H : Type} : List (DataW H) → Nat
  | [] => 0
  | d :: r => uptoBulk d + uptoBulkAll r
def uptoBulkEntries {H : Type} : List (Lit × DataW H) → Nat
  | [] => 0
  | x :: r => uptoBulkEntry x + uptoBulkEntries r
def uptoBulkEntry {H : Type} : Lit × DataW H → Nat
  | (.string bytes, d) => bytes.length + uptoBulk d + 1
  | (_, d) => uptoBulk d + 1
 end
def uptoSmall : (H : Type) → List (DataW H) → Bool := fun _ ds => decide (uptoBulkAll ds ≤ 1048576)
def OpenSpec.upto (s : _root_.Go.ChangeSpec) : _root_.Go.OpenSpec := { _root_.Go.OpenSpec.ofChange s with cond := some uptoSmall }

/-- 'laws.FnPeakLive', WHERE WHAT IT READS IS OF BULK AT MOST 1048576: true; the input reads as it did. -/
def fnPeakLiveUptoRow : OpenClaim := { program := "ytpafdaooddbpkaa", sum := "dff9a3c25c615dbe52b3cffa51d4c5418e989a54ffe9164702aa10bdd2460fb9", func := "loop.example/memorymanagers/laws.FnPeakLive", spec := "fnPeakLive", unfollowed := true, recurses := true, apart := false, narrowed := true }
def FnPeakLiveUptoSaid : Prop := fnPeakLiveUptoRow.holds Try.pinned (OpenSpec.upto fnPeakLiveSpec)

/-- 'laws.FnLimitPeak', WHERE WHAT IT READS IS OF BULK AT MOST 1048576: true; the input reads as it did. -/
def fnLimitPeakUptoRow : OpenClaim := { program := "ytpafdaooddbpkaa", sum := "dff9a3c25c615dbe52b3cffa51d4c5418e989a54ffe9164702aa10bdd2460fb9", func := "loop.example/memorymanagers/laws.FnLimitPeak", spec := "fnLimitPeak", unfollowed := true, recurses := true, apart := false, narrowed := true }
def FnLimitPeakUptoSaid : Prop := fnLimitPeakUptoRow.holds Try.pinned (OpenSpec.upto fnLimitPeakSpec)

/-- 'laws.FnRunSweep', WHERE WHAT IT READS IS OF BULK AT MOST 1048576: true; the input reads as it did. -/
def fnRunSweepUptoRow : OpenClaim := { program := "ytpafdaooddbpkaa", sum := "dff9a3c25c615dbe52b3cffa51d4c5418e989a54ffe9164702aa10bdd2460fb9", func := "loop.example/memorymanagers/laws.FnRunSweep", spec := "fnRunSweep", unfollowed := true, recurses := true, apart := false, narrowed := true }
def FnRunSweepUptoSaid : Prop := fnRunSweepUptoRow.holds Try.pinned (OpenSpec.upto fnRunSweepSpec)

/-- 'laws.FnLeastLimit', WHERE WHAT IT READS IS OF BULK AT MOST 1048576: true; the input reads as it did. -/
def fnLeastLimitUptoRow : OpenClaim := { program := "ytpafdaooddbpkaa", sum := "dff9a3c25c615dbe52b3cffa51d4c5418e989a54ffe9164702aa10bdd2460fb9", func := "loop.example/memorymanagers/laws.FnLeastLimit", spec := "fnLeastLimit", unfollowed := true, recurses := true, apart := false, narrowed := true }
def FnLeastLimitUptoSaid : Prop := fnLeastLimitUptoRow.holds Try.pinned (OpenSpec.upto fnLeastLimitSpec)

/-- 'laws.FnExactLeastLimit', WHERE WHAT IT READS IS OF BULK AT MOST 1048576: true; the input reads as it did. -/
def fnExactLeastLimitUptoRow : OpenClaim := { program := "ytpafdaooddbpkaa", sum := "dff9a3c25c615dbe52b3cffa51d4c5418e989a54ffe9164702aa10bdd2460fb9", func := "loop.example/memorymanagers/laws.FnExactLeastLimit", spec := "fnExactLeastLimit", unfollowed := true, recurses := true, apart := false, narrowed := true }
def FnExactLeastLimitUptoSaid : Prop := fnExactLeastLimitUptoRow.holds Try.pinned (OpenSpec.upto fnExactLeastLimitSpec)

/-- 'laws.FnExactPeakLive', WHERE WHAT IT READS IS OF BULK AT MOST 1048576: true; the input reads as it did. -/
def fnExactPeakLiveUptoRow : OpenClaim := { program := "ytpafdaooddbpkaa", sum := "dff9a3c25c615dbe52b3cffa51d4c5418e989a54ffe9164702aa10bdd2460fb9", func := "loop.example/memorymanagers/laws.FnExactPeakLive", spec := "fnExactPeakLive", unfollowed := true, recurses := true, apart := false, narrowed := true }
def FnExactPeakLiveUptoSaid : Prop := fnExactPeakLiveUptoRow.holds Try.pinned (OpenSpec.upto fnExactPeakLiveSpec)

end Rows
end Go.Proofs.Ytpafdaooddbpkaa
