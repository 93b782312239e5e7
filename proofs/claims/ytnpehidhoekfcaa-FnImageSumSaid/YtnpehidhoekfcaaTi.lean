/- The program's heap of a table: every handle is replaced by the cell that it tells. -/
import Derived.Test.YtnpehidhoekfcaaTb
namespace Go.Proofs.Ytnpehidhoekfcaa
open Go.RowKit
def tellR (hs : List Int) (r : Int) : Int := if r = -1 then -1 else if r < 0 ∨ (hs.length : Int) ≤ r then -2 else hs.getD r.toNat 0
def tellC (hs : List Int) (c : Cel) : Cel := ⟨c.used, c.data, c.refs.map (tellR hs)⟩
def tellH (t : Tbl) : Hp := ⟨t.store.cells.map (tellC t.hands), t.store.roots.map (tellR t.hands)⟩
theorem tellR_nil (hs : List Int) : tellR hs (-1) = -1 := by simp [tellR]
theorem tellR_no {hs : List Int} {r : Int} (h0 : r ≠ -1) (h : r < 0 ∨ (hs.length : Int) ≤ r) : tellR hs r = -2 := by unfold tellR; rw [if_neg h0, if_pos h]
theorem tellR_at {hs : List Int} {q : Nat} {x : Int} (h : Hid (hs[q]? = some x)) : tellR hs (q : Int) = x := by
  have hq : q < hs.length := (List.getElem?_eq_some_iff.1 h.out).1
  unfold tellR
  rw [if_neg (by omega), if_neg (by omega), Int.toNat_natCast, getD_of h]
theorem mapI_snoc {f : Int → Int} {xs : List Int} {k : Nat} {x : Int} (h : Hid (xs[k]? = some x)) : (xs.take (k + 1)).map f = (xs.take k).map f ++ [f x] := by
  rw [take_snoc' h, List.map_append]; rfl
set_option maxHeartbeats 1600000 in
theorem told_any (w : World) (B B' : Nat) (v : Value) (t : Tbl) (A : Option Addr) (n c : Nat) (xs : List Int) (hh : RdT w B v t) (hr : RdI w B' A n c xs) (hn : xs.length ≤ 1048576) (hn2 : t.hands.length ≤ 1048576) :
    Calls Try.prog 74 #[v, .slice A n c] w (MadeI w (xs.map (tellR t.hands))) := by
  obtain ⟨D, m, d, D', m', d', E, q, f, rfl, hC, hR, hE⟩ := hh.top
  have hr := hr.top
  have l1 := RdI.le1 hr; have l2 := RdI.le2 hr
  have l3 := RdI.le1 hE; have l4 := RdI.le2 hE
  have H1 := ((Owns.nil w).box [.slice D m d, .slice D' m' d', .slice E q f] 42).litI [] zero_le_maxLen
  simp only [List.length_nil, World.size_alloc] at H1
  go_enter Try.func74, Try.ntmps74
  go_wp2_with fail
  go_loopw [5, 11] (fun v i wr => ∃ k : Nat, i = .int .i64 k ∧ k ≤ n ∧ Owns w.heap.size w wr [.ints v ((xs.take k).map (tellR t.hands)), .box w.heap.size [.slice D m d, .slice D' m' d', .slice E q f] 42]) (fun _ i _ => n - (intOf i).toNat)
  case atStart => exact ⟨0, rfl, Nat.zero_le _, H1⟩
  case round =>
    clear H1
    obtain ⟨k, rfl, hk, H⟩ := hrel
    by_cases hlt : k < n
    · obtain ⟨b, o, x, rfl, hbb, hx, q1⟩ := RdI.at_ hr hlt
      have g1 := H.ro q1 hbb
      have HX := mapI_snoc (f := tellR t.hands) hx
      have hlen : ((xs.take k).map (tellR t.hands)).length ≤ 1048576 := by simp; omega
      obtain ⟨a0, a1, a2, -, -, -⟩ := H.box3 1 rfl
      obtain ⟨C5, k5, rfl, -⟩ := H.formI 0 rfl
      generalize (xs.take k).map (tellR t.hands) = X at *
      by_cases c1 : x = -1
      · subst c1
        rw [tellR_nil] at HX
        have HU := Go.Lib.hid HX
        clear HX
        have H4 := H.alloc (.cells #[.int .i64 (-1)] 3)
        go_wp2_with (at_builtin; go_loud (refine wpList_pushO rfl (.tmp 33) (.tmp 35) rfl H4 0 rfl rfl rfl (rdI_new _ _ _ (by simp)) (by omega) ?_; intro A3 k3 w3 H5))
        simp only [List.set_cons_zero, List.length_append, List.length_cons, List.length_nil, Nat.zero_add] at H5
        go_roundw
        case rel => exact ⟨k + 1, by go_num, by omega, by rw [HU.out]; exact H5⟩
        case measure => simp [intOf]; omega
      by_cases c2 : x < 0 ∨ (q : Int) ≤ x
      · rw [tellR_no c1 (by omega)] at HX
        have HU := Go.Lib.hid HX
        clear HX
        have H4 := H.alloc (.cells #[.int .i64 (-2)] 3)
        rcases c2 with c2 | c2
        · go_wp2_with (at_builtin; go_loud (refine wpList_pushO rfl (.tmp 33) (.tmp 35) rfl H4 0 rfl rfl rfl (rdI_new _ _ _ (by simp)) (by omega) ?_; intro A3 k3 w3 H5))
          simp only [List.set_cons_zero, List.length_append, List.length_cons, List.length_nil, Nat.zero_add] at H5
          go_roundw
          case rel => exact ⟨k + 1, by go_num, by omega, by rw [HU.out]; exact H5⟩
          case measure => simp [intOf]; omega
        · go_wp2_with (at_builtin; go_loud (refine wpList_pushO rfl (.tmp 33) (.tmp 35) rfl H4 0 rfl rfl rfl (rdI_new _ _ _ (by simp)) (by omega) ?_; intro A3 k3 w3 H5))
          simp only [List.set_cons_zero, List.length_append, List.length_cons, List.length_nil, Nat.zero_add] at H5
          go_roundw
          case rel => exact ⟨k + 1, by go_num, by omega, by rw [HU.out]; exact H5⟩
          case measure => simp [intOf]; omega
      · obtain ⟨p, rfl⟩ := Int.eq_ofNat_of_zero_le (by omega : 0 ≤ x)
        obtain ⟨b2, o2, y, rfl, hbb2, hy, q2⟩ := RdI.at_ hE (show p < q by omega)
        have g2 := H.ro q2 hbb2
        rw [tellR_at hy] at HX
        have HU := Go.Lib.hid HX
        clear HX
        have H4 := H.alloc (.cells #[.int .i64 y] 3)
        go_wp2_with (at_builtin; go_loud (refine wpList_pushO rfl (.tmp 33) (.tmp 35) rfl H4 0 rfl rfl rfl (rdI_new _ _ _ (by simp)) (by omega) ?_; intro A3 k3 w3 H5))
        simp only [List.set_cons_zero, List.length_append, List.length_cons, List.length_nil, Nat.zero_add] at H5
        go_roundw
        case rel => exact ⟨k + 1, by go_num, by omega, by rw [HU.out]; exact H5⟩
        case measure => simp [intOf]; omega
    · rw [List.take_of_length_le (by omega)] at H
      go_wp2
      go_ret
      exact H.toI 0 rfl
end Go.Proofs.Ytnpehidhoekfcaa
