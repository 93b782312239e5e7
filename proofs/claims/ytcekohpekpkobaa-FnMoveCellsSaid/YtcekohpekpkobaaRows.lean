/-
  No cell of these rows narrows 'for every input' (looked for: loops, veiled, ifaces, maps, wideKeys, modest, calm, conditions, laid).
  DERIVED. THE GIVEN ROWS OF THIS SEAT. 3 by the template 'for every input the law returns true; each argument reads behind the call as it read before'; 0 by the template 'total and deterministic' (their statements: YtcekohpekpkobaaTotals.lean).
  GIVEN WITH THE SEED: the statements are not yours to turn. If you find one false, say at which input.
  Laid BY PROGRAM, IN A SANDBOX (cutbox-rows.mjs): the forced cells as the released guide's own fill.sh prints them over the translation aa7bd1947c040854… (all of the seat's roots in one cut). By AI agents, Wed Nov 11 2026. No macro, syntax, notation, axiom, sorry.
-/
import Derived.Test.YtcekohpekpkobaaChecked
import GoSem.Claim
import GoSem.ClaimJoined
import GoSem.ClaimMapViews
import Derived.JoinedTies
import Derived.KernelRfl
namespace Go.Proofs.Ytcekohpekpkobaa
/- THE CELL 'sum', in the pinned program and in every row, IS THE sha256 OF THE DUMP (.gsa) THAT YtcekohpekpkobaaProg.lean LOADS. Nothing in Lean hashes anything: it is a label: what it is worth is what the hold of that sum in a sandbox is worth. -/
noncomputable def Try.pinned : Pinned := { name := "ytcekohpekpkobaa", sum := "aa7bd1947c04085425a1c89ebf814950e450a26f95592dbfe24db406a59e030e", checked := Try.checked }
namespace Rows
def none {H : Type} : Left H := { results := [], args := [] }

/-- 'laws.FnMoveCells': WHATEVER THE INPUT: true; the input reads as it did. -/
def fnMoveCellsSpec : ChangeSpec := { name := "fnMoveCells", fn := fun _ => fun
  | [d] => { results := [.lit (.bool true)], args := [d] }
  | _ => none }
def fnMoveCellsRow : OpenClaim := { program := "ytcekohpekpkobaa", sum := "aa7bd1947c04085425a1c89ebf814950e450a26f95592dbfe24db406a59e030e", func := "loop.example/memorymanagers/laws.FnMoveCells", spec := "fnMoveCells", unfollowed := true, recurses := true, apart := false }
def FnMoveCellsSaid : Prop := fnMoveCellsRow.holds Try.pinned (OpenSpec.ofChange fnMoveCellsSpec)

/-- ITS FALSE NEIGHBOUR: 'it returns false'. Refute it at one input. -/
def fnMoveCellsWrong : ChangeSpec := { name := "fnMoveCells", fn := fun _ => fun
  | [d] => { results := [.lit (.bool false)], args := [d] }
  | _ => none }
def FnMoveCellsWrongFalsely : Prop := fnMoveCellsRow.holds Try.pinned (OpenSpec.ofChange fnMoveCellsWrong)

/-- 'laws.FnPackTable': WHATEVER THE INPUT: true; the input reads as it did. -/
def fnPackTableSpec : ChangeSpec := { name := "fnPackTable", fn := fun _ => fun
  | [d] => { results := [.lit (.bool true)], args := [d] }
  | _ => none }
def fnPackTableRow : OpenClaim := { program := "ytcekohpekpkobaa", sum := "aa7bd1947c04085425a1c89ebf814950e450a26f95592dbfe24db406a59e030e", func := "loop.example/memorymanagers/laws.FnPackTable", spec := "fnPackTable", unfollowed := true, recurses := true, apart := false }
def FnPackTableSaid : Prop := fnPackTableRow.holds Try.pinned (OpenSpec.ofChange fnPackTableSpec)

/-- ITS FALSE NEIGHBOUR: 'it returns false'. Refute it at one input. -/
def fnPackTableWrong : ChangeSpec := { name := "fnPackTable", fn := fun _ => fun
  | [d] => { results := [.lit (.bool false)], args := [d] }
  | _ => none }
def FnPackTableWrongFalsely : Prop := fnPackTableRow.holds Try.pinned (OpenSpec.ofChange fnPackTableWrong)

/-- 'laws.FnTableMoves': WHATEVER THE INPUT: true; the input reads as it did. -/
def fnTableMovesSpec : ChangeSpec := { name := "fnTableMoves", fn := fun _ => fun
  | [d] => { results := [.lit (.bool true)], args := [d] }
  | _ => none }
def fnTableMovesRow : OpenClaim := { program := "ytcekohpekpkobaa", sum := "aa7bd1947c04085425a1c89ebf814950e450a26f95592dbfe24db406a59e030e", func := "loop.example/memorymanagers/laws.FnTableMoves", spec := "fnTableMoves", unfollowed := true, recurses := true, apart := false }
def FnTableMovesSaid : Prop := fnTableMovesRow.holds Try.pinned (OpenSpec.ofChange fnTableMovesSpec)

/-- ITS FALSE NEIGHBOUR: 'it returns false'. Refute it at one input. -/
def fnTableMovesWrong : ChangeSpec := { name := "fnTableMoves", fn := fun _ => fun
  | [d] => { results := [.lit (.bool false)], args := [d] }
  | _ => none }
def FnTableMovesWrongFalsely : Prop := fnTableMovesRow.holds Try.pinned (OpenSpec.ofChange fnTableMovesWrong)

/- THE SECOND FORM. 'bulk': how many values and letters a reading holds, each counted each time it is reached (what is shared counts as often as it is met; a slice's spare places count too). A statement '..UptoSaid' is the law's where the arguments, and the package variables that the reading takes, are together of bulk at most 1048576: NARROWER than '..Said'. Prove '..Said' where nothing that the law and all that it calls make is longer than what came in: it says more and counts as full. Else prove '..UptoSaid'. A law counts once. -/
mutual
def uptoBulk {H : Type} : DataW H → Nat
  | .lit (.string bytes) => bytes.length + 1
  | .lit _ => 1
  | .nil => 1
  | .ptr d => uptoBulk d + 1
  | .slice elems spare => uptoBulkAll elems + uptoBulkAll spare + 1
  | .agg parts => uptoBulkAll parts + 1
  | .iface _ d => uptoBulk d + 1
  | .map entries => uptoBulkEntries entries + 1
  | .held _ => 1
def uptoBulkAll {H : Type} : List (DataW H) → Nat
  | [] => 0
  | d :: r => uptoBulk d + uptoBulkAll r
def uptoBulkEntries {H : Type} : List (Lit × DataW H) → Nat
  | [] => 0
  | x :: r => uptoBulkEntry x + uptoBulkEntries r
def uptoBulkEntry {H : Type} : Lit × DataW H → Nat
  | (.string bytes, d) => bytes.length + uptoBulk d + 1
  | (_, d) => uptoBulk d + 1
 end
def uptoSmall : (H : Type) → List (DataW H) → Bool := fun _ ds => decide (uptoBulkAll ds ≤ 1048576)
def OpenSpec.upto (s : _root_.Go.ChangeSpec) : _root_.Go.OpenSpec := { _root_.Go.OpenSpec.ofChange s with cond := some uptoSmall }

/-- 'laws.FnMoveCells', WHERE WHAT IT READS IS OF BULK AT MOST 1048576: true; the input reads as it did. -/
def fnMoveCellsUptoRow : OpenClaim := { program := "ytcekohpekpkobaa", sum := "aa7bd1947c04085425a1c89ebf814950e450a26f95592dbfe24db406a59e030e", func := "loop.example/memorymanagers/laws.FnMoveCells", spec := "fnMoveCells", unfollowed := true, recurses := true, apart := false, narrowed := true }
def FnMoveCellsUptoSaid : Prop := fnMoveCellsUptoRow.holds Try.pinned (OpenSpec.upto fnMoveCellsSpec)

/-- 'laws.FnPackTable', WHERE WHAT IT READS IS OF BULK AT MOST 1048576: true; the input reads as it did. -/
def fnPackTableUptoRow : OpenClaim := { program := "ytcekohpekpkobaa", sum := "aa7bd1947c04085425a1c89ebf814950e450a26f95592dbfe24db406a59e030e", func := "loop.example/memorymanagers/laws.FnPackTable", spec := "fnPackTable", unfollowed := true, recurses := true, apart := false, narrowed := true }
def FnPackTableUptoSaid : Prop := fnPackTableUptoRow.holds Try.pinned (OpenSpec.upto fnPackTableSpec)

/-- 'laws.FnTableMoves', WHERE WHAT IT READS IS OF BULK AT MOST 1048576: true; the input reads as it did. -/
def fnTableMovesUptoRow : OpenClaim := { program := "ytcekohpekpkobaa", sum := "aa7bd1947c04085425a1c89ebf814950e450a26f95592dbfe24db406a59e030e", func := "loop.example/memorymanagers/laws.FnTableMoves", spec := "fnTableMoves", unfollowed := true, recurses := true, apart := false, narrowed := true }
def FnTableMovesUptoSaid : Prop := fnTableMovesUptoRow.holds Try.pinned (OpenSpec.upto fnTableMovesSpec)

end Rows
end Go.Proofs.Ytcekohpekpkobaa
