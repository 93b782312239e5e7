/- Runs with a limit of cells, step by step. No program. -/
import Derived.Test.YtpafdaooddbpkaaS3
namespace Go.Proofs.Ytpafdaooddbpkaa
open Go.RowKit
theorem stepSw_good {h : Hp} {L : Nat} {o : Cmd} (g : Good h) (hc : cmdOk o = true) (hL : L ≤ 40) : Good (stepSw h L o).1 := by
  cases hp : possB h o
  · rw [stepSw_no hp]; exact g
  by_cases h1 : o.op = 1
  · by_cases hf : mFree h < L
    · rw [stepSw_room h1 hf]; exact mDo_good g hc hp (mFree_le h) fun _ => by omega
    · by_cases hf2 : mFree (mCollect h) < L
      · rw [stepSw_swept h1 hf hf2]; exact mDo_good (mCollect_good g) hc (poss_new h1) (mFree_le _) fun _ => by omega
      · rw [stepSw_full h1 hf hf2]; exact mCollect_good g
  · rw [stepSw_other hp h1]; exact mDo_good g hc hp (Nat.zero_le _) fun k => absurd k h1
theorem runSw_at {L : Nat} {h : Hp} {cs : List Cmd} {k : Nat} {p : Cmd} (hx : Hid (cs[k]? = some p)) : runSw L h (cs.drop k) = if (stepSw h L p).2 = false ∧ p.op = 1 then ((stepSw h L p).1, false) else runSw L (stepSw h L p).1 (cs.drop (k + 1)) := by
  obtain ⟨hk, rfl⟩ := List.getElem?_eq_some_iff.1 hx.out
  rw [List.drop_eq_getElem_cons hk]
  rfl
theorem runSw_stop {L : Nat} {h : Hp} {cs : List Cmd} {k : Nat} {p : Cmd} {r : Hp × Bool} (hx : Hid (cs[k]? = some p)) (hr : runSw L h (cs.drop k) = r) (h1 : (stepSw h L p).2 = false) (h2 : p.op = 1) : r = ((stepSw h L p).1, false) := by
  rw [← hr, runSw_at hx, if_pos ⟨h1, h2⟩]
theorem runSw_go {L : Nat} {h : Hp} {cs : List Cmd} {k : Nat} {p : Cmd} {r : Hp × Bool} (hx : Hid (cs[k]? = some p)) (hr : runSw L h (cs.drop k) = r) (hn : ¬ ((stepSw h L p).2 = false ∧ p.op = 1)) : runSw L (stepSw h L p).1 (cs.drop (k + 1)) = r := by
  rw [← hr, runSw_at hx, if_neg hn]
theorem runSw_out {L : Nat} {h : Hp} {cs : List Cmd} {k : Nat} {r : Hp × Bool} (hk : cs.length ≤ k) (hr : runSw L h (cs.drop k) = r) : r = (h, true) := by
  rw [← hr, List.drop_of_length_le hk]; rfl
/-- A step that is possible and yet does not happen makes a cell. -/
theorem stepSw_new {h : Hp} {L : Nat} {o : Cmd} (hp : possB h o = true) (hb : (stepSw h L o).2 = false) : o.op = 1 := by
  by_cases h1 : o.op = 1
  · exact h1
  · rw [stepSw_other hp h1] at hb; cases hb
end Go.Proofs.Ytpafdaooddbpkaa
