/-
  No cell of these rows narrows 'for every input' (looked for: loops, veiled, ifaces, maps, wideKeys, modest, calm, conditions, laid).
  DERIVED. THE GIVEN ROWS OF THIS SEAT. 4 by the template 'for every input the law returns true; each argument reads behind the call as it read before'; 0 by the template 'total and deterministic' (their statements: YtpglhmlebcigfaaTotals.lean).
  GIVEN WITH THE SEED: the statements are not yours to turn. If you find one false, say at which input.
  Laid BY PROGRAM, IN A SANDBOX (cutbox-rows.mjs): the forced cells as the released guide's own fill.sh prints them over the translation 25349409dec093b3… (all of the seat's roots in one cut). By AI agents, Wed Nov 11 2026. No macro, syntax, notation, axiom, sorry.
-/
import Derived.Test.YtpglhmlebcigfaaChecked
import GoSem.Claim
import GoSem.ClaimJoined
import GoSem.ClaimMapViews
import Derived.JoinedTies
import Derived.KernelRfl
namespace Go.Proofs.Ytpglhmlebcigfaa
/- THE CELL 'sum', in the pinned program and in every row, IS THE sha256 OF THE DUMP (.gsa) THAT YtpglhmlebcigfaaProg.lean LOADS. Nothing in Lean hashes anything: it is a label: what it is worth is what the hold of that sum in a sandbox is worth. -/
noncomputable def Try.pinned : Pinned := { name := "ytpglhmlebcigfaa", sum := "25349409dec093b3d3b4b85ff8b38dd1bde695fae18b5ac68347444efc478c34", checked := Try.checked }
namespace Rows
def none {H : Type} : Left H := { results := [], args := [] }

/-- 'laws.FnFinalOrder': WHATEVER THE INPUT: true; the input reads as it did. -/
def fnFinalOrderSpec : ChangeSpec := { name := "fnFinalOrder", fn := fun _ => fun
  | [d] => { results := [.lit (.bool true)], args := [d] }
  | _ => none }
def fnFinalOrderRow : OpenClaim := { program := "ytpglhmlebcigfaa", sum := "25349409dec093b3d3b4b85ff8b38dd1bde695fae18b5ac68347444efc478c34", func := "loop.example/memorymanagers/laws.FnFinalOrder", spec := "fnFinalOrder", unfollowed := true, recurses := true, apart := false }
def FnFinalOrderSaid : Prop := fnFinalOrderRow.holds Try.pinned (OpenSpec.ofChange fnFinalOrderSpec)

/-- ITS FALSE NEIGHBOUR: 'it returns false'. Refute it at one input. -/
def fnFinalOrderWrong : ChangeSpec := { name := "fnFinalOrder", fn := fun _ => fun
  | [d] => { results := [.lit (.bool false)], args := [d] }
  | _ => none }
def FnFinalOrderWrongFalsely : Prop := fnFinalOrderRow.holds Try.pinned (OpenSpec.ofChange fnFinalOrderWrong)

/-- 'laws.FnWeakRoots': WHATEVER THE INPUT: true; the input reads as it did. -/
def fnWeakRootsSpec : ChangeSpec := { name := "fnWeakRoots", fn := fun _ => fun
  | [d] => { results := [.lit (.bool true)], args := [d] }
  | _ => none }
def fnWeakRootsRow : OpenClaim := { program := "ytpglhmlebcigfaa", sum := "25349409dec093b3d3b4b85ff8b38dd1bde695fae18b5ac68347444efc478c34", func := "loop.example/memorymanagers/laws.FnWeakRoots", spec := "fnWeakRoots", unfollowed := true, recurses := true, apart := false }
def FnWeakRootsSaid : Prop := fnWeakRootsRow.holds Try.pinned (OpenSpec.ofChange fnWeakRootsSpec)

/-- ITS FALSE NEIGHBOUR: 'it returns false'. Refute it at one input. -/
def fnWeakRootsWrong : ChangeSpec := { name := "fnWeakRoots", fn := fun _ => fun
  | [d] => { results := [.lit (.bool false)], args := [d] }
  | _ => none }
def FnWeakRootsWrongFalsely : Prop := fnWeakRootsRow.holds Try.pinned (OpenSpec.ofChange fnWeakRootsWrong)

/-- 'laws.FnFinalLive': WHATEVER THE INPUT: true; the input reads as it did. -/
def fnFinalLiveSpec : ChangeSpec := { name := "fnFinalLive", fn := fun _ => fun
  | [d] => { results := [.lit (.bool true)], args := [d] }
  | _ => none }
def fnFinalLiveRow : OpenClaim := { program := "ytpglhmlebcigfaa", sum := "25349409dec093b3d3b4b85ff8b38dd1bde695fae18b5ac68347444efc478c34", func := "loop.example/memorymanagers/laws.FnFinalLive", spec := "fnFinalLive", unfollowed := true, recurses := true, apart := false }
def FnFinalLiveSaid : Prop := fnFinalLiveRow.holds Try.pinned (OpenSpec.ofChange fnFinalLiveSpec)

/-- ITS FALSE NEIGHBOUR: 'it returns false'. Refute it at one input. -/
def fnFinalLiveWrong : ChangeSpec := { name := "fnFinalLive", fn := fun _ => fun
  | [d] => { results := [.lit (.bool false)], args := [d] }
  | _ => none }
def FnFinalLiveWrongFalsely : Prop := fnFinalLiveRow.holds Try.pinned (OpenSpec.ofChange fnFinalLiveWrong)

/-- 'laws.FnExactCollectWeak': WHATEVER THE INPUT: true; the input reads as it did. -/
def fnExactCollectWeakSpec : ChangeSpec := { name := "fnExactCollectWeak", fn := fun _ => fun
  | [d1, d2] => { results := [.lit (.bool true)], args := [d1, d2] }
  | _ => none }
def fnExactCollectWeakRow : OpenClaim := { program := "ytpglhmlebcigfaa", sum := "25349409dec093b3d3b4b85ff8b38dd1bde695fae18b5ac68347444efc478c34", func := "loop.example/memorymanagers/laws.FnExactCollectWeak", spec := "fnExactCollectWeak", unfollowed := true, recurses := true, apart := false }
def FnExactCollectWeakSaid : Prop := fnExactCollectWeakRow.holds Try.pinned (OpenSpec.ofChange fnExactCollectWeakSpec)

/-- ITS FALSE NEIGHBOUR: 'it returns false'. Refute it at one input. -/
def fnExactCollectWeakWrong : ChangeSpec := { name := "fnExactCollectWeak", fn := fun _ => fun
  | [d1, d2] => { results := [.lit (.bool false)], args := [d1, d2] }
  | _ => none }
def FnExactCollectWeakWrongFalsely : Prop := fnExactCollectWeakRow.holds Try.pinned (OpenSpec.ofChange fnExactCollectWeakWrong)

/- THE SECOND FORM. 'bulk': how many values and letters a reading holds, each counted each time it is reached (what is shared counts as often as it is met; a slice's spare places count too). A statement '..UptoSaid' is the law's where the arguments, and the package variables that the reading takes, are together of bulk at most 1048576: NARROWER than '..Said'. Prove '..Said' where nothing that the law and all that it calls make is longer than what came in: it says more and counts as full. Else prove '..UptoSaid'. A law counts once. -/
mutual
def uptoBulk {H : Type} : DataW H → Nat
  | .lit (.string bytes) => bytes.length + 1
  | .lit _ => 1
  | .nil => 1
  | .ptr d => uptoBulk d + 1
  | .slice elems spare => uptoBulkAll elems + uptoBulkAll spare + 1
  | .agg parts => uptoBulkAll parts + 1
  | .iface _ d => uptoBulk d + 1
  | .map entries => uptoBulkEntries entries + 1
  | .held _ => 1
def uptoBulkAll {H : Type} : List (DataW H) → Nat
  | [] => 0
  | d :: r => uptoBulk d + uptoBulkAll r
def uptoBulkEntries {H : Type} : List (Lit × DataW H) → Nat
  | [] => 0
  | x :: r => uptoBulkEntry x + uptoBulkEntries r
def uptoBulkEntry {H : Type} : Lit × DataW H → Nat
  | (.string bytes, d) => bytes.length + uptoBulk d + 1
  | (_, d) => uptoBulk d + 1
 end
def uptoSmall : (H : Type) → List (DataW H) → Bool := fun _ ds => decide (uptoBulkAll ds ≤ 1048576)
def OpenSpec.upto (s : _root_.Go.ChangeSpec) : _root_.Go.OpenSpec := { _root_.Go.OpenSpec.ofChange s with cond := some uptoSmall }

/-- 'laws.FnFinalOrder', WHERE WHAT IT READS IS OF BULK AT MOST 1048576: true; the input reads as it did. -/
def fnFinalOrderUptoRow : OpenClaim := { program := "ytpglhmlebcigfaa", sum := "25349409dec093b3d3b4b85ff8b38dd1bde695fae18b5ac68347444efc478c34", func := "loop.example/memorymanagers/laws.FnFinalOrder", spec := "fnFinalOrder", unfollowed := true, recurses := true, apart := false, narrowed := true }
def FnFinalOrderUptoSaid : Prop := fnFinalOrderUptoRow.holds Try.pinned (OpenSpec.upto fnFinalOrderSpec)

/-- 'laws.FnWeakRoots', WHERE WHAT IT READS IS OF BULK AT MOST 1048576: true; the input reads as it did. -/
def fnWeakRootsUptoRow : OpenClaim := { program := "ytpglhmlebcigfaa", sum := "25349409dec093b3d3b4b85ff8b38dd1bde695fae18b5ac68347444efc478c34", func := "loop.example/memorymanagers/laws.FnWeakRoots", spec := "fnWeakRoots", unfollowed := true, recurses := true, apart := false, narrowed := true }
def FnWeakRootsUptoSaid : Prop := fnWeakRootsUptoRow.holds Try.pinned (OpenSpec.upto fnWeakRootsSpec)

/-- 'laws.FnFinalLive', WHERE WHAT IT READS IS OF BULK AT MOST 1048576: true; the input reads as it did. -/
def fnFinalLiveUptoRow : OpenClaim := { program := "ytpglhmlebcigfaa", sum := "25349409dec093b3d3b4b85ff8b38dd1bde695fae18b5ac68347444efc478c34", func := "loop.example/memorymanagers/laws.FnFinalLive", spec := "fnFinalLive", unfollowed := true, recurses := true, apart := false, narrowed := true }
def FnFinalLiveUptoSaid : Prop := fnFinalLiveUptoRow.holds Try.pinned (OpenSpec.upto fnFinalLiveSpec)

/-- 'laws.FnExactCollectWeak', WHERE WHAT IT READS IS OF BULK AT MOST 1048576: true; the input reads as it did. -/
def fnExactCollectWeakUptoRow : OpenClaim := { program := "ytpglhmlebcigfaa", sum := "25349409dec093b3d3b4b85ff8b38dd1bde695fae18b5ac68347444efc478c34", func := "loop.example/memorymanagers/laws.FnExactCollectWeak", spec := "fnExactCollectWeak", unfollowed := true, recurses := true, apart := false, narrowed := true }
def FnExactCollectWeakUptoSaid : Prop := fnExactCollectWeakUptoRow.holds Try.pinned (OpenSpec.upto fnExactCollectWeakSpec)

end Rows
end Go.Proofs.Ytpglhmlebcigfaa
