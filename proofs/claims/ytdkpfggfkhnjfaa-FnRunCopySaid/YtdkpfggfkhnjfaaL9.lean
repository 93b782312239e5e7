/- The reference's l9Name: the number of a cell in an order. For every order that can be read. -/
import Derived.Test.YtdkpfggfkhnjfaaVc
namespace Go.Proofs.Ytdkpfggfkhnjfaa
open Go.RowKit
theorem nameI_at {o : List Int} {k : Nat} {r : Int} (hb : ∀ i, i < k → o[i]? ≠ some r) (hk : o[k]? = some r) : nameI o r = (k : Int) := by
  obtain ⟨hl, he⟩ := List.getElem?_eq_some_iff.1 hk
  have hm : r ∈ o := List.mem_of_getElem? hk
  unfold nameI
  rw [if_pos hm]
  have h1 : o.idxOf r ≤ k := by
    rcases Nat.lt_or_ge k (o.idxOf r) with q | q
    · have := List.not_of_lt_findIdx (p := fun x => x == r) (xs := o) q
      rw [he] at this
      simp at this
    · exact q
  have h2 : ¬ o.idxOf r < k := fun q => by
    have hlt : o.idxOf r < o.length := by omega
    have := List.findIdx_getElem (p := fun x => x == r) (xs := o) (w := hlt)
    refine hb _ q ?_
    rw [List.getElem?_eq_getElem hlt]
    have h3 : o[o.idxOf r] = r := beq_iff_eq.1 this
    rw [h3]
  omega
theorem nameI_none {o : List Int} {r : Int} (hb : ∀ i, i < o.length → o[i]? ≠ some r) : nameI o r = -1 := by
  refine nameI_out fun hm => ?_
  obtain ⟨i, hi, he⟩ := List.mem_iff_getElem.1 hm
  exact hb i hi (by rw [List.getElem?_eq_getElem hi, he])
set_option maxHeartbeats 1600000 in
theorem l9Name_any (w : World) (B : Nat) (A : Option Addr) (n c : Nat) (o : List Int) (r : Int) (hr : RdI w B A n c o) (hn : n ≤ 1048576) :
    Calls Try.prog 62 #[.slice A n c, .int .i64 r] w fun e w' => e = .returned (.int .i64 (nameI o r)) ∧ Below w.heap.size w w' := by
  have hr := hr.top
  have l1 := RdI.le1 hr; have l2 := RdI.le2 hr
  have H := Owns.nil w
  go_enter Try.func62, Try.ntmps62
  go_wp2_with fail
  go_loopw [5] (fun i wr => ∃ k : Nat, i = .int .i64 k ∧ k ≤ n ∧ Hid (∀ i, i < k → o[i]? ≠ some r) ∧ Owns w.heap.size w wr []) (fun i _ => n - (intOf i).toNat)
  case atStart => exact ⟨0, rfl, Nat.zero_le _, Go.Lib.hid fun i hi => by omega, H⟩
  case round =>
    clear H
    obtain ⟨k, rfl, hk, hb, H⟩ := hrel
    by_cases hlt : k < n
    · obtain ⟨bb, oo, x, rfl, hbb, hx, q1⟩ := RdI.at_ hr hlt
      have q2 := H.ro q1 hbb
      clear q1
      by_cases e : x = r
      · have HF : Hid (nameI o r = (k : Int)) := Go.Lib.hid (nameI_at hb.out (by rw [← e]; exact hx.out))
        have k1 : (x == r) = true := by simp [e]
        have HB := H.below
        clear H e hb
        go_wp2
        go_ret
        exact ⟨ret_i HF.out.symm, HB⟩
      · have HN : Hid (∀ i, i < k + 1 → o[i]? ≠ some r) := Go.Lib.hid fun i hi => by
          by_cases q : i = k
          · subst q
            rw [hx.out]
            intro h
            injection h with h
            exact e h
          · exact hb.out i (by omega)
        have k1 : (x == r) = false := by simp [e]
        clear e hb
        go_wp2
        go_roundw
        case rel => exact ⟨k + 1, by go_num, by omega, HN, H⟩
        case measure => simp [intOf]; omega
    · have HF : Hid (nameI o r = -1) := Go.Lib.hid (nameI_none fun i hi => hb.out i (by omega))
      have HB := H.below
      clear H hb
      go_wp2
      go_ret
      exact ⟨ret_i HF.out.symm, HB⟩
end Go.Proofs.Ytdkpfggfkhnjfaa
