/- Programs drawn from a code. For every code that can be read. -/
import Derived.Test.YtpafdaooddbpkaaQA
import Derived.Test.YtpafdaooddbpkaaOo
namespace Go.Proofs.Ytpafdaooddbpkaa
open Go.RowKit
def DrawnQ (w : World) (e : Ending) (w' : World) : Prop := ∃ v cs, e = .returned v ∧ cs.length ≤ 41 ∧ Owns w.heap.size w w' [.cmds v cs]
set_option maxHeartbeats 1600000 in
theorem DrawPeakLive_any (w : World) (A : Option Addr) (n c : Nat) (bs : List Int) (hr : RdY w w.heap.size A n c bs) :
    Calls Try.prog 9 #[.slice A n c] w (DrawnQ w) := by
  have H := Owns.nil w
  go_enter Try.func9, Try.ntmps9
  go_wp2_with fail
  refine (open_own H A n c bs hr).mono ?_
  rintro e w1 ⟨g, A1, n1, c1, bs1, rfl, hU, H1⟩
  clear H hr
  go_wp2_with fail
  refine (program_any H1 0 rfl hU (by omega) 12 (by omega) (by omega)).mono ?_
  rintro e w2 ⟨v, cs, p1, rfl, hl, -, -, H2⟩
  have HS : Hid (DrawnQ w (.returned v) w2) := Go.Lib.hid ⟨v, cs, rfl, hl, H2.take 1⟩
  clear H1 H2 hU
  go_wp2
  go_ret
  exact HS.out
set_option maxHeartbeats 1600000 in
theorem DrawLeastLimit_any (w : World) (A : Option Addr) (n c : Nat) (bs : List Int) (hr : RdY w w.heap.size A n c bs) :
    Calls Try.prog 21 #[.slice A n c] w (DrawnQ w) := by
  have H := Owns.nil w
  go_enter Try.func21, Try.ntmps21
  go_wp2_with fail
  refine (open_own H A n c bs hr).mono ?_
  rintro e w1 ⟨g, A1, n1, c1, bs1, rfl, hU, H1⟩
  clear H hr
  go_wp2_with fail
  refine (program_any H1 0 rfl hU (by omega) 12 (by omega) (by omega)).mono ?_
  rintro e w2 ⟨v, cs, p1, rfl, hl, -, -, H2⟩
  have HS : Hid (DrawnQ w (.returned v) w2) := Go.Lib.hid ⟨v, cs, rfl, hl, H2.take 1⟩
  clear H1 H2 hU
  go_wp2
  go_ret
  exact HS.out
end Go.Proofs.Ytpafdaooddbpkaa
