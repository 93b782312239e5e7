/- What the law FnRunCopy draws: a program and a limit. For every code that can be read. Printed by gengrc.py. -/
import Derived.Test.YtdkpfggfkhnjfaaJo
namespace Go.Proofs.Ytdkpfggfkhnjfaa
open Go.RowKit
set_option maxHeartbeats 1600000 in
theorem DrawRunCopy_any (w : World) (A : Option Addr) (n c : Nat) (bs : List Int) (hr : RdY w w.heap.size A n c bs) :
    Calls Try.prog 4 #[.slice A n c] w (DrawnQL w) := by
  have H := Owns.nil w
  go_enter Try.func4, Try.ntmps4
  go_wp2_with fail
  refine (open_own H A n c bs hr).mono ?_
  rintro e w1 ⟨g, A1, n1, c1, bs1, rfl, hU, H1⟩
  clear H hr
  go_wp2_with fail
  refine (job_own H1 0 rfl hU (by omega)).mono ?_
  rintro e w2 ⟨v, cs, x, p1, rfl, hl, hx0, hx1, H2⟩
  obtain ⟨A2, c2, rfl, -⟩ := H2.formQ 0 rfl
  have HS : Hid (DrawnQL w (.returned (.tuple #[.slice A2 cs.length c2, .int .i64 x])) w2) := Go.Lib.hid ⟨_, cs, x, rfl, hl, hx0, hx1, H2.take 1⟩
  clear H1 H2 hU
  go_wp2
  exact bodyPost_ret (v := .tuple #[.slice A2 cs.length c2, .int .i64 x]) (by simp [results, Try.results4, go_sem]) rfl HS.out
end Go.Proofs.Ytdkpfggfkhnjfaa
