/- The reference's UsedCells: how many cells of a valid heap are used, and how many can be reached. For every heap that can be read. -/
import Derived.Test.YtdkpfggfkhnjfaaZ3
import Derived.Test.YtdkpfggfkhnjfaaZ1
namespace Go.Proofs.Ytdkpfggfkhnjfaa
open Go.RowKit
theorem b1_nat (b : Bool) (n : Nat) : ((n + (if b then 1 else 0) : Nat) : Int) = if b then (n : Int) + 1 else (n : Int) := by cases b <;> simp
end Go.Proofs.Ytdkpfggfkhnjfaa
