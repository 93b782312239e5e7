/- The drawing of four regions that are asked for, for every code that can be read. -/
import Derived.Test.YtmhcajjlhiopmaaOo
namespace Go.Proofs.Ytmhcajjlhiopmaa
open Go.RowKit
/-- Some numbers were drawn; they may be what is left of a slice without its first. -/
def DrewW (lo : Nat) (w0 : World) (L : List OB) (i g : Nat) (A : Option Addr) (n c p : Nat) (e : Ending) (w' : World) : Prop :=
  ∃ (v v0 : Value) (xs xs0 : List Int) (p' : Nat), e = .returned v ∧ TailOf v v0 xs xs0 ∧ xs0.length = 4 ∧ p ≤ p' ∧ p' ≤ p + 20 ∧ Owns lo w0 w' (.ints v0 xs0 :: L.set i (.rdr g A n c p'))
theorem DrewW.same {lo : Nat} {w0 : World} {L : List OB} {i g : Nat} {A : Option Addr} {n c p : Nat} {w' : World} {v : Value} {xs : List Int} {p' : Nat} (h : Owns lo w0 w' (.ints v xs :: L.set i (.rdr g A n c p'))) (hl : xs.length = 4) (h1 : p ≤ p') (h2 : p' ≤ p + 20) : DrewW lo w0 L i g A n c p (.returned v) w' :=
  ⟨v, v, xs, xs, p', rfl, .inl ⟨rfl, rfl⟩, hl, h1, h2, h⟩
theorem DrewW.tail {lo : Nat} {w0 : World} {L : List OB} {i g : Nat} {A : Option Addr} {n c p : Nat} {w' : World} {b k : Nat} {xs : List Int} {p' : Nat} (h : Owns lo w0 w' (.ints (.slice (some ⟨b, 0, none⟩) xs.length k) xs :: L.set i (.rdr g A n c p'))) (hl : xs.length = 4) (h1 : p ≤ p') (h2 : p' ≤ p + 20) : DrewW lo w0 L i g A n c p (.returned (.slice (some ⟨b, 1, none⟩) (xs.length - 1) (k - 1))) w' :=
  ⟨_, _, xs.drop 1, xs, p', rfl, .inr ⟨b, xs.length, k, rfl, rfl, rfl, by omega⟩, hl, h1, h2, h⟩
set_option maxHeartbeats 3200000 in
set_option maxRecDepth 20000 in
theorem wants_own {lo : Nat} {w0 w : World} {L : List OB} {g : Nat} {A : Option Addr} {n c p : Nat} (h : Owns lo w0 w L) (i : Nat) (hX : L[i]? = some (.rdr g A n c p)) {bs : List Int} (hr : RdU w0 lo A n c bs) (hp : p ≤ 700000) :
    Calls Try.prog 35 #[.pointer (some ⟨g, 0, none⟩)] w (DrewW lo w0 L i g A n c p) := by
  have e : L.set i (.rdr g A n c p) = L := by
    obtain ⟨hi, he⟩ := List.getElem?_eq_some_iff.1 hX
    rw [← he]; exact List.set_getElem_self hi
  rw [← e] at h
  have H2 := h.litI [] zero_le_maxLen
  simp only [List.map_nil, List.length_nil] at H2
  clear h e
  go_enter Try.func35, Try.ntmps35
  go_wp2_with fail
  go_loopw [3, 4] (fun v3 v4 wr => ∃ (v : Value) (k : Nat) (xs : List Int), v3 = v ∧ v4 = .int .i64 k ∧ k ≤ 4 ∧ xs.length ≤ k ∧ k ≤ xs.length ∧ Owns lo w0 wr (.ints v xs :: L.set i (.rdr g A n c (p + k)))) (fun _ v4 _ => 4 - (intOf v4).toNat)
  case atStart => exact ⟨_, 0, [], rfl, rfl, by omega, Nat.le_refl _, Nat.le_refl _, H2⟩
  case round =>
    clear H2
    obtain ⟨v, k, xs, hv, rfl, hk, hl, hl', H⟩ := hrel
    obtain rfl := hv.symm
    by_cases hk4 : k < 4
    · go_wp2_with fail
      refine (pick_own H (i + 1) (set_get hX _) hr (by omega) 6 (by unfold I64; omega)).mono ?_
      rintro e w3 ⟨y, rfl, hy, H4⟩
      simp only [List.set_cons_succ, List.set_set] at H4
      clear H
      have H5 := H4.litI [(y : Int)] one_le_maxLen
      simp only [List.map_cons, List.map_nil, List.length_cons, List.length_nil, Nat.zero_add] at H5
      go_wp2_with (at_builtin; go_loud (refine wpList_pushO rfl (.tmp 10) (.tmp 13) rfl H5 1 rfl rfl rfl (rdI_new _ _ _ rfl) (by simp; omega) ?_; intro A3 k3 w5 H6; simp only [List.set_cons_zero, List.set_cons_succ] at H6))
      have H7 := H6.erase 0
      simp only [List.eraseIdx_cons_zero] at H7
      go_roundw
      case rel => exact ⟨_, k + 1, xs ++ [(y : Int)], rfl, by go_num, by omega, by simp; omega, by simp; omega, by simpa [Nat.add_assoc] using H7⟩
      case measure => simp [intOf]; omega
    · obtain rfl : k = 4 := by omega
      clear hk hk4
      obtain ⟨gX, cX, rfl, hc1, hc2, -, -⟩ := H.rowAt 0 rfl (by omega)
      unfold maxLen at hc2
      have hl1 : xs.length ≤ 4 := by omega
      have hl2 : 4 ≤ xs.length := by omega
      have hl0 : Hid (xs.length = 4) := Go.Lib.hid (by omega)
      clear hl hl'
      go_wp2_with fail
      refine (odd_own H (i + 1) (set_get hX _) hr (by omega) 12 (by omega) (by omega)).mono ?_
      rintro e w4 ⟨bo, rfl, H4⟩
      simp only [List.set_cons_succ, List.set_set] at H4
      clear H
      cases bo
      · go_wp2_with fail
        refine (odd_own H4 (i + 1) (set_get hX _) hr (by omega) 24 (by omega) (by omega)).mono ?_
        rintro e w5 ⟨b2, rfl, H5⟩
        simp only [List.set_cons_succ, List.set_set] at H5
        clear H4
        cases b2
        · have HS := Go.Lib.hid (DrewW.same (p := p) H5 hl0.out (by omega) (by omega))
          clear H5 hX
          go_wp2
          go_ret
          exact HS.out
        · have HS := Go.Lib.hid (DrewW.tail (p := p) H5 hl0.out (by omega) (by omega))
          clear H5 hX
          go_wp2
          go_ret
          exact HS.out
      · have H5 := H4.litI [-1, 6] (by show 2 ≤ maxLen; unfold maxLen; omega)
        simp only [List.map_cons, List.map_nil, List.length_cons, List.length_nil, Nat.zero_add, Nat.reduceAdd] at H5
        clear H4
        go_wp2_with fail
        refine (pick_own H5 (i + 2) (set_get hX _) hr (by omega) 2 (by unfold I64; omega)).mono ?_
        rintro e w5 ⟨j, rfl, hj, H6⟩
        replace hj : j < 2 := by omega
        have i1 : (j : Int) < 2 := by omega
        have i2 : (0 : Int) ≤ (j : Int) := by omega
        simp only [List.set_cons_succ, List.set_set] at H6
        clear H5
        obtain ⟨v2, hv2⟩ : ∃ v, ([-1, 6] : List Int)[j]? = some v := ⟨_, List.getElem?_eq_getElem (by simp; omega)⟩
        obtain ⟨zz, -⟩ := H6.elem 0 rfl (j := j) (u := .int .i64 v2) (by rw [List.getElem?_map, hv2]; rfl)
        obtain ⟨xr, hxr⟩ : ∃ x, Hid (xs[0]? = some x) := ⟨_, Go.Lib.hid (List.getElem?_eq_getElem (by omega))⟩
        obtain ⟨q0, q1⟩ := H6.intAt 1 rfl rfl hxr
        have HQ := H6.setInt 1 rfl rfl 0 v2
        simp only [List.set_cons_zero, List.set_cons_succ] at HQ
        have HE := HQ.erase 0
        simp only [List.eraseIdx_cons_zero] at HE
        have hl3 : Hid ((xs.set 0 v2).length = 4) := Go.Lib.hid (by rw [List.length_set]; exact hl0.out)
        clear H6 HQ hv2 hxr
        go_wp2_with fail
        refine (odd_own HE (i + 1) (set_get hX _) hr (by omega) 24 (by omega) (by omega)).mono ?_
        rintro e w6 ⟨b2, rfl, H7⟩
        simp only [List.set_cons_succ, List.set_set] at H7
        clear HE zz q0 q1
        have hls : xs.length = (xs.set 0 v2).length := by rw [List.length_set]
        rw [hls] at H7 hl1 hl2 hc1 ⊢
        generalize xs.set 0 v2 = ys at *
        cases b2
        · have HS := Go.Lib.hid (DrewW.same (p := p) H7 hl3.out (by omega) (by omega))
          clear H7 hX hls
          go_wp2
          go_ret
          exact HS.out
        · have HS := Go.Lib.hid (DrewW.tail (p := p) H7 hl3.out (by omega) (by omega))
          clear H7 hX hls
          go_wp2
          go_ret
          exact HS.out
end Go.Proofs.Ytmhcajjlhiopmaa
