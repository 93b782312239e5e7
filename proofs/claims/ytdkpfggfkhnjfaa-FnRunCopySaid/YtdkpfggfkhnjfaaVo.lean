/- The program's ViewOf makes mView; its SameView tells whether two heaps show the same. For every heap that can be read. -/
import Derived.Test.YtdkpfggfkhnjfaaOm
import Derived.Test.YtdkpfggfkhnjfaaIi
namespace Go.Proofs.Ytdkpfggfkhnjfaa
open Go.RowKit
theorem nameI_snoc {o : List Int} {x : Int} (hx : x ∉ o) (r : Int) : nameI (o ++ [x]) r = if r = x then ((o.length : Nat) : Int) else nameI o r := by
  unfold nameI
  by_cases e : r = x
  · subst e
    rw [if_pos (by simp), if_pos rfl, List.idxOf_append]
    rw [if_neg hx]; simp
  · rw [if_neg e]
    by_cases hm : r ∈ o
    · rw [if_pos (by simp [hm]), if_pos hm, List.idxOf_append, if_pos hm]
    · rw [if_neg (by simp [hm, e]), if_neg hm]
theorem nameI_nil (r : Int) : nameI [] r = -1 := rfl
/-- The list of the numbers of n cells in an order. -/
def numL (o : List Int) (n : Nat) : List Int := (List.range n).map fun c : Nat => nameI o (c : Int)
theorem numL_len (o : List Int) (n : Nat) : (numL o n).length = n := by simp [numL]
theorem numL_at {o : List Int} {n c : Nat} (h : c < n) : (numL o n)[c]? = some (nameI o (c : Int)) := by simp [numL, List.getElem?_range h]
theorem numL_succ {o : List Int} {n k q : Nat} (hd : o.Nodup) (hx : Hid (o[k]? = some (q : Int))) : numL (o.take (k + 1)) n = (numL (o.take k) n).set q (k : Int) := by
  obtain ⟨hk, hq⟩ := List.getElem?_eq_some_iff.1 hx.out
  have hn : (q : Int) ∉ o.take k := by
    have h1 := List.Nodup.sublist (List.take_sublist (k + 1) o) hd
    rw [take_snoc' hx, List.nodup_append] at h1
    intro hm
    exact h1.2.2 _ hm _ (by simp) rfl
  apply List.ext_getElem?
  intro c
  rw [take_snoc' hx, List.getElem?_set]
  rcases Nat.lt_or_ge c n with hc | hc
  · rw [numL_at hc, nameI_snoc hn, List.length_take, numL_at hc, numL_len]
    by_cases e : q = c
    · subst e
      rw [if_pos rfl, if_pos rfl, if_pos hc, show min k o.length = k by omega]
    · rw [if_neg (by omega), if_neg e]
  · rw [List.getElem?_eq_none (by rw [numL_len]; exact hc), List.getElem?_eq_none (by rw [numL_len]; exact hc), numL_len]
    split
    · rw [if_neg (by omega)]
    · rfl
set_option maxHeartbeats 1600000 in
set_option maxRecDepth 20000 in
theorem numbersIn_any (w : World) (B : Nat) (A : Option Addr) (n c : Nat) (o : List Int) (m : Nat) (hr : RdI w B A n c o) (hm : m ≤ 1048576) (hd : o.Nodup) (hO : ∀ x ∈ o, 0 ≤ x ∧ x < m) :
    Calls Try.prog 45 #[.slice A n c, .int .i64 m] w (MadeI w (numL o m)) := by
  have hr := hr.top
  have l1 := RdI.le1 hr; have l2 := RdI.le2 hr
  have hm1 := hr.mx; have hcap1 := hr.cap
  unfold maxLen at hm1
  have hlen := nodup_len m o hd hO
  have HN : Hid (o.Nodup) := Go.Lib.hid hd
  have HO := Go.Lib.hid hO
  obtain ⟨i0, hi, hz0, hz1, hz2⟩ := info_parts Try.infoInt
  clear hd hO
  go_enter Try.func45, Try.ntmps45
  go_wp2_with (at_make; refine wpList_make_full _ rfl _ _ _ rfl w.heap.size 3 i0 (.int .i64 0) 1 Try.underlying27 hi hz0 hz1 .i64 .i64 _ _ m rfl rfl rfl rfl (by rw [hz2]; omega) (by unfold maxLen; omega) (Nat.le_refl _) ?_)
  intro w1 hown hg
  have H1 := (Owns.nil w).mkI (by simpa using hown) hg
  clear hown hg
  go_wp2_with fail
  go_loopw [13] (fun i wr => ∃ k : Nat, i = .int .i64 k ∧ k ≤ m ∧ Owns w.heap.size w wr [.row 3 1 (.slice (some ⟨w.heap.size, 0, none⟩) m m) m ((List.replicate k (-1 : Int) ++ List.replicate (m - k) (0 : Int)).map (Value.int .i64))]) (fun i _ => m - (intOf i).toNat)
  case atStart => exact ⟨0, rfl, Nat.zero_le _, by simpa using H1⟩
  case round =>
    clear H1
    obtain ⟨k, rfl, hk, H⟩ := hrel
    by_cases hlt : k < m
    · have e1 : ((List.replicate k (-1 : Int) ++ List.replicate (m - k) (0 : Int)).map (Value.int .i64)).set k (.int .i64 (-1)) = (List.replicate (k + 1) (-1 : Int) ++ List.replicate (m - (k + 1)) (0 : Int)).map (Value.int .i64) := by
        rw [← List.map_set]
        congr 1
        rw [show m - k = (m - (k + 1)) + 1 by omega, List.replicate_succ, List.set_append_right _ _ (by simp)]
        simp [List.replicate_succ', List.append_assoc]
      obtain ⟨y0, yf⟩ := H.elem 0 rfl (j := k) (u := .int .i64 0) (by
        rw [List.getElem?_map, List.getElem?_append_right (by simp), List.getElem?_replicate, if_pos (by simp; omega)]; rfl)
      have H2 := H.putRow 0 rfl k (.int .i64 (-1))
      simp only [List.set_cons_zero] at H2
      rw [e1] at H2
      have HO2 := Go.Lib.hid H2
      clear H2 H e1
      go_wp2
      go_roundw
      case rel => exact ⟨k + 1, by go_num, by omega, HO2.out⟩
      case measure => simp [intOf]; omega
    · have e2 : (List.replicate k (-1 : Int) ++ List.replicate (m - k) (0 : Int)) = numL (o.take 0) m := by
        rw [show k = m by omega, Nat.sub_self, List.take_zero]
        unfold numL
        simp only [nameI_nil, List.replicate_zero, List.append_nil]
        apply List.ext_getElem?
        intro c
        rw [List.getElem?_replicate, List.getElem?_map]
        by_cases hc : c < m
        · rw [if_pos hc, List.getElem?_range hc]; rfl
        · rw [if_neg hc, List.getElem?_eq_none (by simpa using hc)]; rfl
      rw [e2] at H
      have H3 := H
      clear H e2
      go_wp2_with fail
      clear hlt hk
      go_loopw [22] (fun i wr => ∃ k : Nat, i = .int .i64 k ∧ k ≤ n ∧ Owns w.heap.size w wr [.row 3 1 (.slice (some ⟨w.heap.size, 0, none⟩) m m) m ((numL (o.take k) m).map (Value.int .i64))]) (fun i _ => n - (intOf i).toNat)
      case atStart => exact ⟨0, rfl, Nat.zero_le _, H3⟩
      case round =>
        clear H3
        obtain ⟨k, rfl, hk, H⟩ := hrel
        by_cases hlt : k < n
        · obtain ⟨b, ob, x, rfl, hbb, hx, q1⟩ := RdI.at_ hr hlt
          obtain ⟨hp0, hp1⟩ := HO.out x (List.mem_of_getElem? hx.out)
          obtain ⟨q, rfl⟩ := Int.eq_ofNat_of_zero_le hp0
          have hq : q < m := by omega
          have g1 := H.ro q1 hbb
          have HS := Go.Lib.hid (numL_succ (n := m) HN.out hx)
          obtain ⟨y0, yf⟩ := H.elem 0 rfl (j := q) (u := .int .i64 (nameI (o.take k) (q : Int))) (by rw [List.getElem?_map, numL_at hq]; rfl)
          have H2 := H.putRow 0 rfl q (.int .i64 (k : Int))
          simp only [List.set_cons_zero] at H2
          rw [← List.map_set] at H2
          have HO2 := Go.Lib.hid H2
          have i1 : (0 : Int) ≤ (q : Int) := by omega
          have i2 : (q : Int) < (m : Int) := by omega
          clear H2 H q1
          go_wp2
          go_roundw
          case rel => exact ⟨k + 1, by go_num, by omega, by rw [HS.out]; exact HO2.out⟩
          case measure => simp [intOf]; omega
        · rw [List.take_of_length_le (by omega)] at H
          have ho := H.own 0 rfl
          have hO : OwI wr w.heap.size wr.heap.size (.slice (some ⟨w.heap.size, 0, none⟩) m m) (numL o m) := ⟨by rw [numL_len]; exact ho, fun q e => (ho.lt q e).2⟩
          have HD := H.below
          have HS := Go.Lib.hid (And.intro hO HD)
          clear H ho hO HD
          go_wp2
          go_ret
          exact ⟨_, rfl, HS.out.1, HS.out.2⟩
/-- A list of references told by a list of numbers. -/
theorem renamed_any (w : World) (B B' : Nat) (A A' : Option Addr) (n c n' c' : Nat) (rs N : List Int) (g : Int → Int) (hr : RdI w B A n c rs) (hN : RdI w B' A' n' c' N) (hn : rs.length ≤ 1000) (hneg : ∀ r ∈ rs, r < 0 → g r = r) (hpos : ∀ r ∈ rs, 0 ≤ r → N[r.toNat]? = some (g r)) :
    Calls Try.prog 46 #[.slice A n c, .slice A' n' c'] w (MadeI w (rs.map g)) := by
  have hr := hr.top
  have hN := hN.top
  have l1 := RdI.le1 hr; have l2 := RdI.le2 hr
  have l3 := RdI.le1 hN; have l4 := RdI.le2 hN
  have hm1 := hr.mx; have hcap1 := hr.cap
  unfold maxLen at hm1
  have HNe := Go.Lib.hid hneg
  have HPo := Go.Lib.hid hpos
  have H1 := (Owns.nil w).litI [] zero_le_maxLen
  clear hneg hpos
  go_enter Try.func46, Try.ntmps46
  go_wp2_with fail
  go_loopw [5, 11] (fun v i wr => ∃ k : Nat, i = .int .i64 k ∧ k ≤ n ∧ Owns w.heap.size w wr [.ints v ((rs.take k).map g)]) (fun _ i _ => n - (intOf i).toNat)
  case atStart => exact ⟨0, rfl, Nat.zero_le _, H1⟩
  case round =>
    clear H1
    obtain ⟨k, rfl, hk, H⟩ := hrel
    have hkl : ((rs.take k).map g).length ≤ 1000 := by simp; omega
    by_cases hlt : k < n
    · obtain ⟨b, ob, x, rfl, hbb, hx, q1⟩ := RdI.at_ hr hlt
      have g1 := H.ro q1 hbb
      have HS : Hid ((rs.take (k + 1)).map g = (rs.take k).map g ++ [g x]) := Go.Lib.hid (by rw [take_snoc' hx, List.map_append]; rfl)
      have hmem := List.mem_of_getElem? hx.out
      generalize (rs.take k).map g = p at *
      obtain ⟨Cp, kp, rfl, -⟩ := H.formI 0 rfl
      by_cases c0 : x < 0
      · have hgx := HNe.out x hmem c0
        have HG := Go.Lib.hid hgx
        have H3 := H.alloc (.cells #[.int .i64 x] 3)
        have hz2 := H.le
        clear hgx hmem
        go_wp2_with (at_builtin; go_loud (refine wpList_pushO rfl (.tmp 21) (.tmp 23) rfl H3 0 rfl rfl rfl (rdI_new _ _ _ (by simp)) (by omega) ?_; intro A3 k3 w3 H4))
        simp only [List.set_cons_zero, List.length_append, List.length_cons, List.length_nil, Nat.zero_add] at H4
        go_roundw
        case rel => exact ⟨k + 1, by go_num, by omega, by rw [HS.out, HG.out]; exact H4⟩
        case measure => simp [intOf]; omega
      · obtain ⟨q, rfl⟩ := Int.eq_ofNat_of_zero_le (by omega : 0 ≤ x)
        have hat := HPo.out _ hmem (by omega)
        rw [Int.toNat_natCast] at hat
        have hql := (List.getElem?_eq_some_iff.1 hat).1
        obtain ⟨b2, o2, y, rfl, hbb2, hy, q2⟩ := RdI.at_ hN (k := q) (by omega)
        have hyg : y = g (q : Int) := by have := hy.out; rw [hat] at this; injection this with this; exact this.symm
        have HG := Go.Lib.hid hyg
        have g2 := H.ro q2 hbb2
        have H3 := H.alloc (.cells #[.int .i64 y] 3)
        have hz2 := H.le
        have i1 : (0 : Int) ≤ (q : Int) := by omega
        have i2 : (q : Int) < (n' : Int) := by omega
        clear hyg hmem hat q1 q2 c0
        go_wp2_with (at_builtin; go_loud (refine wpList_pushO rfl (.tmp 21) (.tmp 23) rfl H3 0 rfl rfl rfl (rdI_new _ _ _ (by simp)) (by omega) ?_; intro A3 k3 w3 H4))
        simp only [List.set_cons_zero, List.length_append, List.length_cons, List.length_nil, Nat.zero_add] at H4
        go_roundw
        case rel => exact ⟨k + 1, by go_num, by omega, by rw [HS.out, ← HG.out]; exact H4⟩
        case measure => simp [intOf]; omega
    · rw [List.take_of_length_le (by omega)] at H
      obtain ⟨Cp, kp, rfl, -⟩ := H.formI 0 rfl
      have HO2 := Go.Lib.hid H
      clear H
      go_wp2
      go_ret
      exact HO2.out.toI 0 rfl
end Go.Proofs.Ytdkpfggfkhnjfaa
