/-
  No cell of these rows narrows 'for every input' (looked for: loops, veiled, ifaces, maps, wideKeys, modest, calm, conditions, laid).
  DERIVED. THE GIVEN ROWS OF THIS SEAT. 4 by the template 'for every input the law returns true; each argument reads behind the call as it read before'; 0 by the template 'total and deterministic' (their statements: YtgppgjgcnpimiaaGreatTotals.lean).
  GIVEN WITH THE SEED: the statements are not yours to turn. If you find one false, say at which input.
  Laid BY PROGRAM, IN A SANDBOX (cutbox-rows.mjs): the forced cells as the released guide's own fill.sh prints them over the translation 9ec49604471c4106… (all of the seat's roots in one cut). By AI agents, Wed Nov 11 2026. No macro, syntax, notation, axiom, sorry.
-/
import Derived.Test.YtgppgjgcnpimiaaGreatChecked
import GoSem.Claim
import GoSem.ClaimJoined
import GoSem.ClaimMapViews
import Derived.JoinedTies
import Derived.KernelRfl
namespace Go.Proofs.YtgppgjgcnpimiaaGreat
/- THE CELL 'sum', in the pinned program and in every row, IS THE sha256 OF THE DUMP (.gsa) THAT YtgppgjgcnpimiaaGreatProg.lean LOADS. Nothing in Lean hashes anything: it is a label: what it is worth is what the hold of that sum in a sandbox is worth. -/
noncomputable def Tryz.pinned : Pinned := { name := "ytgppgjgcnpimiaagreat", sum := "9ec49604471c4106d28977776538518f434cc3da3e9b0d00d798fae0dc09176f", checked := Tryz.checked }
namespace Rows
def none {H : Type} : Left H := { results := [], args := [] }

/-- 'laws.FnRunManager': WHATEVER THE INPUT: true; the input reads as it did. -/
def fnRunManagerSpec : ChangeSpec := { name := "fnRunManager", fn := fun _ => fun
  | [d] => { results := [.lit (.bool true)], args := [d] }
  | _ => none }
def fnRunManagerRow : OpenClaim := { program := "ytgppgjgcnpimiaagreat", sum := "9ec49604471c4106d28977776538518f434cc3da3e9b0d00d798fae0dc09176f", func := "loop.example/memorymanagers/laws.FnRunManager", spec := "fnRunManager", unfollowed := true, recurses := true, apart := false }
def FnRunManagerSaid : Prop := fnRunManagerRow.holds Tryz.pinned (OpenSpec.ofChange fnRunManagerSpec)

/-- ITS FALSE NEIGHBOUR: 'it returns false'. Refute it at one input. -/
def fnRunManagerWrong : ChangeSpec := { name := "fnRunManager", fn := fun _ => fun
  | [d] => { results := [.lit (.bool false)], args := [d] }
  | _ => none }
def FnRunManagerWrongFalsely : Prop := fnRunManagerRow.holds Tryz.pinned (OpenSpec.ofChange fnRunManagerWrong)

/-- 'laws.FnExactRunManager': WHATEVER THE INPUT: true; the input reads as it did. -/
def fnExactRunManagerSpec : ChangeSpec := { name := "fnExactRunManager", fn := fun _ => fun
  | [d1, d2, d3] => { results := [.lit (.bool true)], args := [d1, d2, d3] }
  | _ => none }
def fnExactRunManagerRow : OpenClaim := { program := "ytgppgjgcnpimiaagreat", sum := "9ec49604471c4106d28977776538518f434cc3da3e9b0d00d798fae0dc09176f", func := "loop.example/memorymanagers/laws.FnExactRunManager", spec := "fnExactRunManager", unfollowed := true, recurses := true, apart := false }
def FnExactRunManagerSaid : Prop := fnExactRunManagerRow.holds Tryz.pinned (OpenSpec.ofChange fnExactRunManagerSpec)

/-- ITS FALSE NEIGHBOUR: 'it returns false'. Refute it at one input. -/
def fnExactRunManagerWrong : ChangeSpec := { name := "fnExactRunManager", fn := fun _ => fun
  | [d1, d2, d3] => { results := [.lit (.bool false)], args := [d1, d2, d3] }
  | _ => none }
def FnExactRunManagerWrongFalsely : Prop := fnExactRunManagerRow.holds Tryz.pinned (OpenSpec.ofChange fnExactRunManagerWrong)

/-- 'laws.FnSameManagers': WHATEVER THE INPUT: true; the input reads as it did. -/
def fnSameManagersSpec : ChangeSpec := { name := "fnSameManagers", fn := fun _ => fun
  | [d] => { results := [.lit (.bool true)], args := [d] }
  | _ => none }
def fnSameManagersRow : OpenClaim := { program := "ytgppgjgcnpimiaagreat", sum := "9ec49604471c4106d28977776538518f434cc3da3e9b0d00d798fae0dc09176f", func := "loop.example/memorymanagers/laws.FnSameManagers", spec := "fnSameManagers", unfollowed := true, recurses := true, apart := false }
def FnSameManagersSaid : Prop := fnSameManagersRow.holds Tryz.pinned (OpenSpec.ofChange fnSameManagersSpec)

/-- ITS FALSE NEIGHBOUR: 'it returns false'. Refute it at one input. -/
def fnSameManagersWrong : ChangeSpec := { name := "fnSameManagers", fn := fun _ => fun
  | [d] => { results := [.lit (.bool false)], args := [d] }
  | _ => none }
def FnSameManagersWrongFalsely : Prop := fnSameManagersRow.holds Tryz.pinned (OpenSpec.ofChange fnSameManagersWrong)

/-- 'laws.FnExactSameManagers': WHATEVER THE INPUT: true; the input reads as it did. -/
def fnExactSameManagersSpec : ChangeSpec := { name := "fnExactSameManagers", fn := fun _ => fun
  | [d1, d2] => { results := [.lit (.bool true)], args := [d1, d2] }
  | _ => none }
def fnExactSameManagersRow : OpenClaim := { program := "ytgppgjgcnpimiaagreat", sum := "9ec49604471c4106d28977776538518f434cc3da3e9b0d00d798fae0dc09176f", func := "loop.example/memorymanagers/laws.FnExactSameManagers", spec := "fnExactSameManagers", unfollowed := true, recurses := true, apart := false }
def FnExactSameManagersSaid : Prop := fnExactSameManagersRow.holds Tryz.pinned (OpenSpec.ofChange fnExactSameManagersSpec)

/-- ITS FALSE NEIGHBOUR: 'it returns false'. Refute it at one input. -/
def fnExactSameManagersWrong : ChangeSpec := { name := "fnExactSameManagers", fn := fun _ => fun
  | [d1, d2] => { results := [.lit (.bool false)], args := [d1, d2] }
  | _ => none }
def FnExactSameManagersWrongFalsely : Prop := fnExactSameManagersRow.holds Tryz.pinned (OpenSpec.ofChange fnExactSameManagersWrong)

/- THE SECOND FORM. 'bulk': how many values and letters a reading holds, each counted each time it is reached (what is shared counts as often as it is met; a slice's spare places count too). A statement '..UptoSaid' is the law's where the arguments, and the package variables that the reading takes, are together of bulk at most 1048576: NARROWER than '..Said'. Prove '..Said' where nothing that the law and all that it calls make is longer than what came in: it says more and counts as full. Else prove '..UptoSaid'. A law counts once. -/
mutual
def uptoBulk {H : Type} : DataW H → Nat
  | .lit (.string bytes) => bytes.length + 1
  | .lit _ => 1
  | .nil => 1
  | .ptr d => uptoBulk d + 1
  | .slice elems spare => uptoBulkAll elems + uptoBulkAll spare + 1
  | .agg parts => uptoBulkAll parts + 1
  | .iface _ d => uptoBulk d + 1
  | .map entries => uptoBulkEntries entries + 1
  | .held _ => 1
def uptoBulkAll {H : Type} : List (DataW H) → Nat
  | [] => 0
  | d :: r => uptoBulk d + uptoBulkAll r
def uptoBulkEntries {H : Type} : List (Lit × DataW H) → Nat
  | [] => 0
  | x :: r => uptoBulkEntry x + uptoBulkEntries r
def uptoBulkEntry {H : Type} : Lit × DataW H → Nat
  | (.string bytes, d) => bytes.length + uptoBulk d + 1
  | (_, d) => uptoBulk d + 1
 end
def uptoSmall : (H : Type) → List (DataW H) → Bool := fun _ ds => decide (uptoBulkAll ds ≤ 1048576)
def OpenSpec.upto (s : _root_.Go.ChangeSpec) : _root_.Go.OpenSpec := { _root_.Go.OpenSpec.ofChange s with cond := some uptoSmall }

/-- 'laws.FnRunManager', WHERE WHAT IT READS IS OF BULK AT MOST 1048576: true; the input reads as it did. -/
def fnRunManagerUptoRow : OpenClaim := { program := "ytgppgjgcnpimiaagreat", sum := "9ec49604471c4106d28977776538518f434cc3da3e9b0d00d798fae0dc09176f", func := "loop.example/memorymanagers/laws.FnRunManager", spec := "fnRunManager", unfollowed := true, recurses := true, apart := false, narrowed := true }
def FnRunManagerUptoSaid : Prop := fnRunManagerUptoRow.holds Tryz.pinned (OpenSpec.upto fnRunManagerSpec)

/-- 'laws.FnExactRunManager', WHERE WHAT IT READS IS OF BULK AT MOST 1048576: true; the input reads as it did. -/
def fnExactRunManagerUptoRow : OpenClaim := { program := "ytgppgjgcnpimiaagreat", sum := "9ec49604471c4106d28977776538518f434cc3da3e9b0d00d798fae0dc09176f", func := "loop.example/memorymanagers/laws.FnExactRunManager", spec := "fnExactRunManager", unfollowed := true, recurses := true, apart := false, narrowed := true }
def FnExactRunManagerUptoSaid : Prop := fnExactRunManagerUptoRow.holds Tryz.pinned (OpenSpec.upto fnExactRunManagerSpec)

/-- 'laws.FnSameManagers', WHERE WHAT IT READS IS OF BULK AT MOST 1048576: true; the input reads as it did. -/
def fnSameManagersUptoRow : OpenClaim := { program := "ytgppgjgcnpimiaagreat", sum := "9ec49604471c4106d28977776538518f434cc3da3e9b0d00d798fae0dc09176f", func := "loop.example/memorymanagers/laws.FnSameManagers", spec := "fnSameManagers", unfollowed := true, recurses := true, apart := false, narrowed := true }
def FnSameManagersUptoSaid : Prop := fnSameManagersUptoRow.holds Tryz.pinned (OpenSpec.upto fnSameManagersSpec)

/-- 'laws.FnExactSameManagers', WHERE WHAT IT READS IS OF BULK AT MOST 1048576: true; the input reads as it did. -/
def fnExactSameManagersUptoRow : OpenClaim := { program := "ytgppgjgcnpimiaagreat", sum := "9ec49604471c4106d28977776538518f434cc3da3e9b0d00d798fae0dc09176f", func := "loop.example/memorymanagers/laws.FnExactSameManagers", spec := "fnExactSameManagers", unfollowed := true, recurses := true, apart := false, narrowed := true }
def FnExactSameManagersUptoSaid : Prop := fnExactSameManagersUptoRow.holds Tryz.pinned (OpenSpec.upto fnExactSameManagersSpec)

end Rows
end Go.Proofs.YtgppgjgcnpimiaaGreat
