/-
  No cell of these rows narrows 'for every input' (looked for: loops, veiled, ifaces, maps, wideKeys, modest, calm, conditions, laid).
  DERIVED. THE GIVEN ROWS OF THIS SEAT. 6 by the template 'for every input the law returns true; each argument reads behind the call as it read before'; 0 by the template 'total and deterministic' (their statements: YtjpfgbckmcjjaaaTotals.lean).
  GIVEN WITH THE SEED: the statements are not yours to turn. If you find one false, say at which input.
  Laid BY PROGRAM, IN A SANDBOX (cutbox-rows.mjs): the forced cells as the released guide's own fill.sh prints them over the translation 92950d836a390cda… (all of the seat's roots in one cut). By AI agents, Wed Nov 11 2026. No macro, syntax, notation, axiom, sorry.
-/
import Derived.Test.YtjpfgbckmcjjaaaChecked
import GoSem.Claim
import GoSem.ClaimJoined
import GoSem.ClaimMapViews
import Derived.JoinedTies
import Derived.KernelRfl
namespace Go.Proofs.Ytjpfgbckmcjjaaa
/- THE CELL 'sum', in the pinned program and in every row, IS THE sha256 OF THE DUMP (.gsa) THAT YtjpfgbckmcjjaaaProg.lean LOADS. Nothing in Lean hashes anything: it is a label: what it is worth is what the hold of that sum in a sandbox is worth. -/
noncomputable def Try.pinned : Pinned := { name := "ytjpfgbckmcjjaaa", sum := "92950d836a390cdaf29e0bdad2332d610a2b8acfd65e8f7d411e3d5d13980775", checked := Try.checked }
namespace Rows
def none {H : Type} : Left H := { results := [], args := [] }

/-- 'laws.FnCollectWeak': WHATEVER THE INPUT: true; the input reads as it did. -/
def fnCollectWeakSpec : ChangeSpec := { name := "fnCollectWeak", fn := fun _ => fun
  | [d] => { results := [.lit (.bool true)], args := [d] }
  | _ => none }
def fnCollectWeakRow : OpenClaim := { program := "ytjpfgbckmcjjaaa", sum := "92950d836a390cdaf29e0bdad2332d610a2b8acfd65e8f7d411e3d5d13980775", func := "loop.example/memorymanagers/laws.FnCollectWeak", spec := "fnCollectWeak", unfollowed := true, recurses := true, apart := false }
def FnCollectWeakSaid : Prop := fnCollectWeakRow.holds Try.pinned (OpenSpec.ofChange fnCollectWeakSpec)

/-- ITS FALSE NEIGHBOUR: 'it returns false'. Refute it at one input. -/
def fnCollectWeakWrong : ChangeSpec := { name := "fnCollectWeak", fn := fun _ => fun
  | [d] => { results := [.lit (.bool false)], args := [d] }
  | _ => none }
def FnCollectWeakWrongFalsely : Prop := fnCollectWeakRow.holds Try.pinned (OpenSpec.ofChange fnCollectWeakWrong)

/-- 'laws.FnKeptWatched': WHATEVER THE INPUT: true; the input reads as it did. -/
def fnKeptWatchedSpec : ChangeSpec := { name := "fnKeptWatched", fn := fun _ => fun
  | [d] => { results := [.lit (.bool true)], args := [d] }
  | _ => none }
def fnKeptWatchedRow : OpenClaim := { program := "ytjpfgbckmcjjaaa", sum := "92950d836a390cdaf29e0bdad2332d610a2b8acfd65e8f7d411e3d5d13980775", func := "loop.example/memorymanagers/laws.FnKeptWatched", spec := "fnKeptWatched", unfollowed := true, recurses := true, apart := false }
def FnKeptWatchedSaid : Prop := fnKeptWatchedRow.holds Try.pinned (OpenSpec.ofChange fnKeptWatchedSpec)

/-- ITS FALSE NEIGHBOUR: 'it returns false'. Refute it at one input. -/
def fnKeptWatchedWrong : ChangeSpec := { name := "fnKeptWatched", fn := fun _ => fun
  | [d] => { results := [.lit (.bool false)], args := [d] }
  | _ => none }
def FnKeptWatchedWrongFalsely : Prop := fnKeptWatchedRow.holds Try.pinned (OpenSpec.ofChange fnKeptWatchedWrong)

/-- 'laws.FnImageView': WHATEVER THE INPUT: true; the input reads as it did. -/
def fnImageViewSpec : ChangeSpec := { name := "fnImageView", fn := fun _ => fun
  | [d] => { results := [.lit (.bool true)], args := [d] }
  | _ => none }
def fnImageViewRow : OpenClaim := { program := "ytjpfgbckmcjjaaa", sum := "92950d836a390cdaf29e0bdad2332d610a2b8acfd65e8f7d411e3d5d13980775", func := "loop.example/memorymanagers/laws.FnImageView", spec := "fnImageView", unfollowed := true, recurses := true, apart := false }
def FnImageViewSaid : Prop := fnImageViewRow.holds Try.pinned (OpenSpec.ofChange fnImageViewSpec)

/-- ITS FALSE NEIGHBOUR: 'it returns false'. Refute it at one input. -/
def fnImageViewWrong : ChangeSpec := { name := "fnImageView", fn := fun _ => fun
  | [d] => { results := [.lit (.bool false)], args := [d] }
  | _ => none }
def FnImageViewWrongFalsely : Prop := fnImageViewRow.holds Try.pinned (OpenSpec.ofChange fnImageViewWrong)

/-- 'laws.FnLazyAll': WHATEVER THE INPUT: true; the input reads as it did. -/
def fnLazyAllSpec : ChangeSpec := { name := "fnLazyAll", fn := fun _ => fun
  | [d] => { results := [.lit (.bool true)], args := [d] }
  | _ => none }
def fnLazyAllRow : OpenClaim := { program := "ytjpfgbckmcjjaaa", sum := "92950d836a390cdaf29e0bdad2332d610a2b8acfd65e8f7d411e3d5d13980775", func := "loop.example/memorymanagers/laws.FnLazyAll", spec := "fnLazyAll", unfollowed := true, recurses := true, apart := false }
def FnLazyAllSaid : Prop := fnLazyAllRow.holds Try.pinned (OpenSpec.ofChange fnLazyAllSpec)

/-- ITS FALSE NEIGHBOUR: 'it returns false'. Refute it at one input. -/
def fnLazyAllWrong : ChangeSpec := { name := "fnLazyAll", fn := fun _ => fun
  | [d] => { results := [.lit (.bool false)], args := [d] }
  | _ => none }
def FnLazyAllWrongFalsely : Prop := fnLazyAllRow.holds Try.pinned (OpenSpec.ofChange fnLazyAllWrong)

/-- 'laws.FnLazyTake': WHATEVER THE INPUT: true; the input reads as it did. -/
def fnLazyTakeSpec : ChangeSpec := { name := "fnLazyTake", fn := fun _ => fun
  | [d] => { results := [.lit (.bool true)], args := [d] }
  | _ => none }
def fnLazyTakeRow : OpenClaim := { program := "ytjpfgbckmcjjaaa", sum := "92950d836a390cdaf29e0bdad2332d610a2b8acfd65e8f7d411e3d5d13980775", func := "loop.example/memorymanagers/laws.FnLazyTake", spec := "fnLazyTake", unfollowed := true, recurses := true, apart := false }
def FnLazyTakeSaid : Prop := fnLazyTakeRow.holds Try.pinned (OpenSpec.ofChange fnLazyTakeSpec)

/-- ITS FALSE NEIGHBOUR: 'it returns false'. Refute it at one input. -/
def fnLazyTakeWrong : ChangeSpec := { name := "fnLazyTake", fn := fun _ => fun
  | [d] => { results := [.lit (.bool false)], args := [d] }
  | _ => none }
def FnLazyTakeWrongFalsely : Prop := fnLazyTakeRow.holds Try.pinned (OpenSpec.ofChange fnLazyTakeWrong)

/-- 'laws.FnExactLazyTake': WHATEVER THE INPUT: true; the input reads as it did. -/
def fnExactLazyTakeSpec : ChangeSpec := { name := "fnExactLazyTake", fn := fun _ => fun
  | [d] => { results := [.lit (.bool true)], args := [d] }
  | _ => none }
def fnExactLazyTakeRow : OpenClaim := { program := "ytjpfgbckmcjjaaa", sum := "92950d836a390cdaf29e0bdad2332d610a2b8acfd65e8f7d411e3d5d13980775", func := "loop.example/memorymanagers/laws.FnExactLazyTake", spec := "fnExactLazyTake", unfollowed := true, recurses := true, apart := false }
def FnExactLazyTakeSaid : Prop := fnExactLazyTakeRow.holds Try.pinned (OpenSpec.ofChange fnExactLazyTakeSpec)

/-- ITS FALSE NEIGHBOUR: 'it returns false'. Refute it at one input. -/
def fnExactLazyTakeWrong : ChangeSpec := { name := "fnExactLazyTake", fn := fun _ => fun
  | [d] => { results := [.lit (.bool false)], args := [d] }
  | _ => none }
def FnExactLazyTakeWrongFalsely : Prop := fnExactLazyTakeRow.holds Try.pinned (OpenSpec.ofChange fnExactLazyTakeWrong)

/- THE SECOND FORM. 'bulk': how many values and letters a reading holds, each counted each time it is reached (what is shared counts as often as it is met; a slice's spare places count too). A statement '..UptoSaid' is the law's where the arguments, and the package variables that the reading takes, are together of bulk at most 1048576: NARROWER than '..Said'. Prove '..Said' where nothing that the law and all that it calls make is longer than what came in: it says more and counts as full. Else prove '..UptoSaid'. A law counts once. -/
mutual
def uptoBulk {H : Type} : DataW H → Nat
  | .lit (.string bytes) => bytes.length + 1
  | .lit _ => 1
  | .nil => 1
  | .ptr d => uptoBulk d + 1
  | .slice elems spare => uptoBulkAll elems + uptoBulkAll spare + 1
  | .agg parts => uptoBulkAll parts + 1
  | .iface _ d => uptoBulk d + 1
  | .map entries => uptoBulkEntries entries + 1
  | .held _ => 1
def uptoBulkAll {H : Type} : List (DataW H) → Nat
  | [] => 0
  | d :: r => uptoBulk d + uptoBulkAll r
def uptoBulkEntries {H : Type} : List (Lit × DataW H) → Nat
  | [] => 0
  | x :: r => uptoBulkEntry x + uptoBulkEntries r
def uptoBulkEntry {H : Type} : Lit × DataW H → Nat
  | (.string bytes, d) => bytes.length + uptoBulk d + 1
  | (_, d) => uptoBulk d + 1
 end
def uptoSmall : (H : Type) → List (DataW H) → Bool := fun _ ds => decide (uptoBulkAll ds ≤ 1048576)
def OpenSpec.upto (s : _root_.Go.ChangeSpec) : _root_.Go.OpenSpec := { _root_.Go.OpenSpec.ofChange s with cond := some uptoSmall }

/-- 'laws.FnCollectWeak', WHERE WHAT IT READS IS OF BULK AT MOST 1048576: true; the input reads as it did. -/
def fnCollectWeakUptoRow : OpenClaim := { program := "ytjpfgbckmcjjaaa", sum := "92950d836a390cdaf29e0bdad2332d610a2b8acfd65e8f7d411e3d5d13980775", func := "loop.example/memorymanagers/laws.FnCollectWeak", spec := "fnCollectWeak", unfollowed := true, recurses := true, apart := false, narrowed := true }
def FnCollectWeakUptoSaid : Prop := fnCollectWeakUptoRow.holds Try.pinned (OpenSpec.upto fnCollectWeakSpec)

/-- 'laws.FnKeptWatched', WHERE WHAT IT READS IS OF BULK AT MOST 1048576: true; the input reads as it did. -/
def fnKeptWatchedUptoRow : OpenClaim := { program := "ytjpfgbckmcjjaaa", sum := "92950d836a390cdaf29e0bdad2332d610a2b8acfd65e8f7d411e3d5d13980775", func := "loop.example/memorymanagers/laws.FnKeptWatched", spec := "fnKeptWatched", unfollowed := true, recurses := true, apart := false, narrowed := true }
def FnKeptWatchedUptoSaid : Prop := fnKeptWatchedUptoRow.holds Try.pinned (OpenSpec.upto fnKeptWatchedSpec)

/-- 'laws.FnImageView', WHERE WHAT IT READS IS OF BULK AT MOST 1048576: true; the input reads as it did. -/
def fnImageViewUptoRow : OpenClaim := { program := "ytjpfgbckmcjjaaa", sum := "92950d836a390cdaf29e0bdad2332d610a2b8acfd65e8f7d411e3d5d13980775", func := "loop.example/memorymanagers/laws.FnImageView", spec := "fnImageView", unfollowed := true, recurses := true, apart := false, narrowed := true }
def FnImageViewUptoSaid : Prop := fnImageViewUptoRow.holds Try.pinned (OpenSpec.upto fnImageViewSpec)

/-- 'laws.FnLazyAll', WHERE WHAT IT READS IS OF BULK AT MOST 1048576: true; the input reads as it did. -/
def fnLazyAllUptoRow : OpenClaim := { program := "ytjpfgbckmcjjaaa", sum := "92950d836a390cdaf29e0bdad2332d610a2b8acfd65e8f7d411e3d5d13980775", func := "loop.example/memorymanagers/laws.FnLazyAll", spec := "fnLazyAll", unfollowed := true, recurses := true, apart := false, narrowed := true }
def FnLazyAllUptoSaid : Prop := fnLazyAllUptoRow.holds Try.pinned (OpenSpec.upto fnLazyAllSpec)

/-- 'laws.FnLazyTake', WHERE WHAT IT READS IS OF BULK AT MOST 1048576: true; the input reads as it did. -/
def fnLazyTakeUptoRow : OpenClaim := { program := "ytjpfgbckmcjjaaa", sum := "92950d836a390cdaf29e0bdad2332d610a2b8acfd65e8f7d411e3d5d13980775", func := "loop.example/memorymanagers/laws.FnLazyTake", spec := "fnLazyTake", unfollowed := true, recurses := true, apart := false, narrowed := true }
def FnLazyTakeUptoSaid : Prop := fnLazyTakeUptoRow.holds Try.pinned (OpenSpec.upto fnLazyTakeSpec)

/-- 'laws.FnExactLazyTake', WHERE WHAT IT READS IS OF BULK AT MOST 1048576: true; the input reads as it did. -/
def fnExactLazyTakeUptoRow : OpenClaim := { program := "ytjpfgbckmcjjaaa", sum := "92950d836a390cdaf29e0bdad2332d610a2b8acfd65e8f7d411e3d5d13980775", func := "loop.example/memorymanagers/laws.FnExactLazyTake", spec := "fnExactLazyTake", unfollowed := true, recurses := true, apart := false, narrowed := true }
def FnExactLazyTakeUptoSaid : Prop := fnExactLazyTakeUptoRow.holds Try.pinned (OpenSpec.upto fnExactLazyTakeSpec)

end Rows
end Go.Proofs.Ytjpfgbckmcjjaaa
