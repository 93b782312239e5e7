/- The drawing of an image, for every code that can be read. -/
import Derived.Test.YtnpehidhoekfcaaBa
import Derived.Test.YtnpehidhoekfcaaLd
import Derived.Test.YtnpehidhoekfcaaSv
namespace Go.Proofs.Ytnpehidhoekfcaa
open Go.RowKit
/-- Some numbers were drawn. -/
def DrewI (lo : Nat) (w0 : World) (L : List OB) (i g : Nat) (A : Option Addr) (n c p : Nat) (e : Ending) (w' : World) : Prop :=
  ∃ (v : Value) (xs : List Int) (p' : Nat), e = .returned v ∧ (∀ x ∈ xs, I64 x) ∧ xs.length ≤ 300 ∧ p ≤ p' ∧ p' ≤ p + 3000 ∧ Owns lo w0 w' (.ints v xs :: L.set i (.rdr g A n c p'))
theorem mSaveImage_small (h : Hp) (base : Int) : (mSaveImage h base).length ≤ 206 := by
  cases hy : heapOk h
  · rw [mSave_no1 hy]; simp
  by_cases hb : base < 0 ∨ 10000 < base
  · rw [mSave_no2 hb]; simp
  rw [mSave_yes hy (by omega) (by omega)]
  have h1 := heapOk_cells hy
  have h2 := heapOk_roots4 hy
  have h3 := saveCell_len base h.cells h.cells (by
    simp only [heapOk, Bool.and_eq_true, List.all_eq_true] at hy
    exact hy.1.2)
  simp only [saveAll, List.length_cons, List.length_append, List.length_map]
  omega
theorem save_in {h : Hp} {b : Int} : ∀ x ∈ mSaveImage h b, 0 ≤ x ∧ x ≤ 10101 := by
  intro x hx
  have hi := img_of_save rfl (List.length_pos_of_mem hx)
  exact ldOk_in hi.yes x hx
theorem Owns.cutI {lo : Nat} {w0 w : World} {L : List OB} {g n c : Nat} {xs : List Int} (h : Owns lo w0 w L) (i : Nat) (hX : L[i]? = some (.ints (.slice (some ⟨g, 0, none⟩) n c) xs)) (hn : n = xs.length) (k : Nat) (hk : k ≤ n) :
    Owns lo w0 w (L.set i (.ints (.slice (some ⟨g, 0, none⟩) k c) (xs.take k))) := by
  subst hn
  have h1 := h.shrink i hX k hk
  rw [Nat.mul_one, ← List.map_take] at h1
  have e : (xs.take k).length = k := by rw [List.length_take]; omega
  unfold OB.ints
  rw [e]
  exact h1
theorem i64_set {xs : List Int} {k : Nat} {v : Int} (h : ∀ x ∈ xs, I64 x) (hv : I64 v) : ∀ x ∈ xs.set k v, I64 x := fun x hx => (List.mem_or_eq_of_mem_set hx).elim (h x) fun e => e ▸ hv
set_option maxHeartbeats 3200000 in
set_option maxRecDepth 20000 in
theorem image_own {lo : Nat} {w0 w : World} {L : List OB} {g : Nat} {A : Option Addr} {n c p : Nat} (h : Owns lo w0 w L) (i : Nat) (hX : L[i]? = some (.rdr g A n c p)) {bs : List Int} (hr : RdU w0 lo A n c bs) (hp : p ≤ 600000) (N : Int) (hN0 : 1 ≤ N) (hN1 : N ≤ 1000) :
    Calls Try.prog 36 #[.pointer (some ⟨g, 0, none⟩), .int .i64 N] w (DrewI lo w0 L i g A n c p) := by
  go_enter Try.func36, Try.ntmps36
  go_wp2_with fail
  refine (heap_own h i hX hr (by omega) 0 (by omega) (by omega)).mono ?_
  rintro e w1 ⟨T, cv, rvs, rv, rv0, rs0, p1, rfl, hS, ht, hp1, hp2, H1⟩
  obtain ⟨C, kC, rfl, -⟩ := H1.formC 0 rfl
  obtain ⟨R0, kR0, e0, -⟩ := H1.formI 1 rfl
  obtain ⟨R, nR, kR, rfl⟩ := ht.form e0
  have HT := Go.Lib.hid ht
  clear e0 h hS ht
  go_wp2_with fail
  refine (base_own H1 (i + 2) (set_get hX _) hr (by omega) 0 (by omega) (by omega)).mono ?_
  rintro e w2 ⟨b, p2, rfl, hb0, hb1, -, hp3, hp4, H2⟩
  simp only [List.set_cons_succ, List.set_set] at H2
  clear H1
  go_wp2_with fail
  refine (specSaveImage_any _ _ _ T b (H2.rdHx 0 1 rfl rfl HT.out) (by unfold I64; omega)).mono ?_
  rintro e w3 ⟨v3, rfl, ho3, hb3⟩
  obtain ⟨X, hX3⟩ : ∃ X, X = mSaveImage T b := ⟨_, rfl⟩
  rw [← hX3] at ho3
  have HI : Hid (∀ x ∈ X, 0 ≤ x ∧ x ≤ 10101) := Go.Lib.hid (by rw [hX3]; exact save_in)
  have hl : X.length ≤ 206 := by rw [hX3]; exact mSaveImage_small _ _
  have HI6 : Hid (∀ x ∈ X, I64 x) := Go.Lib.hid fun x hx => by have := HI.out x hx; unfold I64; omega
  have H3 := ((H2.madeI ho3 hb3).erase 1).erase 1
  simp only [List.eraseIdx_cons_zero, List.eraseIdx_cons_succ] at H3
  clear H2 ho3 hb3 hX3 HT
  obtain ⟨A3, k3, rfl, -⟩ := H3.formI 0 rfl
  by_cases h0 : X.length = 0
  · obtain rfl : X = [] := List.length_eq_zero_iff.1 h0
    have HS : Hid (DrewI lo w0 L i g A n c p (.returned (.slice A3 ([] : List Int).length k3)) w3) := Go.Lib.hid ⟨_, [], p2, rfl, HI6.out, by simp, by omega, by omega, H3⟩
    clear H3 hX h0
    go_wp2
    go_ret
    exact HS.out
  have i0 : (0 : Int) < (X.length : Int) := by omega
  go_wp2_with fail
  refine (odd_own H3 (i + 1) (set_get hX _) hr (by omega) N (by omega) (by omega)).mono ?_
  rintro e w4 ⟨bo, rfl, H4⟩
  simp only [List.set_cons_succ, List.set_set] at H4
  clear H3
  cases bo
  · have HS : Hid (DrewI lo w0 L i g A n c p (.returned (.slice A3 X.length k3)) w4) := Go.Lib.hid ⟨_, X, _, rfl, HI6.out, by omega, by omega, by omega, H4⟩
    clear H4 hX h0
    go_wp2
    go_ret
    exact HS.out
  obtain ⟨gX, cX, eX, hc1, hc2, -, -⟩ := H4.rowAt 0 rfl (by omega)
  simp only [Value.slice.injEq] at eX
  obtain ⟨rfl, -, rfl⟩ := eX
  unfold maxLen at hc2
  have m1 : min (256 : Int) (X.length : Int) = (X.length : Int) := by omega
  have m2 : ¬ ((X.length : Int) < 256) → False := by omega
  go_wp2_with fail
  refine (pick_own H4 (i + 1) (set_get hX _) hr (by omega) (X.length : Int) (by unfold I64; omega)).mono ?_
  rintro e w5 ⟨k, rfl, hk, H5⟩
  replace hk : k < X.length := by omega
  have j1 : (0 : Int) ≤ (k : Int) := by omega
  have j2 : (k : Int) < (X.length : Int) := by omega
  simp only [List.set_cons_succ, List.set_set] at H5
  clear H4 m1 m2
  go_wp2_with fail
  refine (pick_own H5 (i + 1) (set_get hX _) hr (by omega) 5 (by unfold I64; omega)).mono ?_
  rintro e w6 ⟨y, rfl, hy, H6⟩
  replace hy : y < 5 := by omega
  simp only [List.set_cons_succ, List.set_set] at H6
  clear H5
  obtain ⟨x, hx⟩ : ∃ x, Hid (X[k]? = some x) := ⟨_, Go.Lib.hid (List.getElem?_eq_getElem hk)⟩
  have hxb := HI.out x (List.mem_of_getElem? hx.out)
  obtain ⟨q0, q1⟩ := H6.intAt 0 rfl rfl hx
  have hy5 : y = 0 ∨ y = 1 ∨ y = 2 ∨ y = 3 ∨ y = 4 := by omega
  clear hy
  rcases hy5 with rfl | rfl | rfl | rfl | rfl
  · have t1 : IntKind.i64.wrap (x + 1) = x + 1 := IntWalk.i64_in _ (by omega)
    have HE := H6.setInt 0 rfl rfl k (x + 1)
    simp only [List.set_cons_zero] at HE
    have HS : Hid (DrewI lo w0 L i g A n c p (.returned (.slice (some ⟨gX, 0, none⟩) X.length k3)) _) := Go.Lib.hid ⟨_, X.set k (x + 1), _, rfl, i64_set HI6.out (by unfold I64; omega), by rw [List.length_set]; omega, by omega, by omega, HE⟩
    clear HE H6 hX hx h0
    go_wp2
    go_ret
    exact HS.out
  · have t1 : IntKind.i64.wrap (x - 1) = x - 1 := IntWalk.i64_in _ (by omega)
    have HE := H6.setInt 0 rfl rfl k (x - 1)
    simp only [List.set_cons_zero] at HE
    have HS : Hid (DrewI lo w0 L i g A n c p (.returned (.slice (some ⟨gX, 0, none⟩) X.length k3)) _) := Go.Lib.hid ⟨_, X.set k (x - 1), _, rfl, i64_set HI6.out (by unfold I64; omega), by rw [List.length_set]; omega, by omega, by omega, HE⟩
    clear HE H6 hX hx h0
    go_wp2
    go_ret
    exact HS.out
  · have hkc : k ≤ k3 := by omega
    have HE := H6.cutI 0 rfl rfl k (by omega)
    simp only [List.set_cons_zero] at HE
    have HS : Hid (DrewI lo w0 L i g A n c p (.returned (.slice (some ⟨gX, 0, none⟩) k k3)) w6) := Go.Lib.hid ⟨_, X.take k, _, rfl, fun z hz => HI6.out z (List.mem_of_mem_take hz), by rw [List.length_take]; omega, by omega, by omega, HE⟩
    clear HE H6 hX hx h0 q0 q1
    go_wp2
    go_ret
    exact HS.out
  · have HA := H6.litI [0] one_le_maxLen
    simp only [List.map_cons, List.map_nil, List.length_cons, List.length_nil, Nat.zero_add] at HA
    have HI7 : Hid (∀ z ∈ X ++ [0], I64 z) := Go.Lib.hid fun z hz => (List.mem_append.1 hz).elim (HI6.out z) fun h => by simp at h; subst h; unfold I64; omega
    clear H6 q0 q1 hx hxb
    go_wp2_with (at_builtin; go_loud (refine wpList_pushO rfl (.tmp 62) (.tmp 63) rfl HA 1 rfl rfl rfl (rdI_new _ _ _ rfl) (by simp; omega) ?_; intro A4 k4 w7 HB; simp only [List.set_cons_zero, List.set_cons_succ] at HB; have HE := HB.erase 0; simp only [List.eraseIdx_cons_zero, List.length_append, List.length_cons, List.length_nil, Nat.zero_add] at HE; clear HA HB; have HS : Hid (DrewI lo w0 L i g A n c p (.returned (.slice A4 (X.length + 1) k4)) w7) := Go.Lib.hid ⟨_, X ++ [0], _, rfl, HI7.out, by simp; omega, by omega, by omega, HE⟩; clear HE))
    go_ret
    exact HS.out
  · have HA := H6.litI [9223372036854775807, -9223372036854775808] two_le_maxLen
    simp only [List.map_cons, List.map_nil, List.length_cons, List.length_nil, Nat.zero_add, Nat.reduceAdd] at HA
    clear H6 q0 q1
    go_wp2_with fail
    refine (pick_own HA (i + 2) (set_get hX _) hr (by omega) 2 (by unfold I64; omega)).mono ?_
    rintro e w7 ⟨j, rfl, hj, H7⟩
    replace hj : j < 2 := by omega
    have i1 : (j : Int) < 2 := by omega
    have i2 : (0 : Int) ≤ (j : Int) := by omega
    simp only [List.set_cons_succ, List.set_set] at H7
    clear HA
    obtain ⟨v2, hv2⟩ : ∃ v, ([9223372036854775807, -9223372036854775808] : List Int)[j]? = some v := ⟨_, List.getElem?_eq_getElem (by simp; omega)⟩
    obtain ⟨zz, -⟩ := H7.elem 0 rfl (j := j) (u := .int .i64 v2) (by rw [List.getElem?_map, hv2]; rfl)
    obtain ⟨q0, q1⟩ := H7.intAt 1 rfl rfl hx
    have hv : I64 v2 := by rcases two_in hv2 with rfl | rfl <;> unfold I64 <;> omega
    have HQ := H7.setInt 1 rfl rfl k v2
    simp only [List.set_cons_zero, List.set_cons_succ] at HQ
    have HE := HQ.erase 0
    simp only [List.eraseIdx_cons_zero] at HE
    have HS : Hid (DrewI lo w0 L i g A n c p (.returned (.slice (some ⟨gX, 0, none⟩) X.length k3)) _) := Go.Lib.hid ⟨_, X.set k v2, _, rfl, i64_set HI6.out hv, by rw [List.length_set]; omega, by omega, by omega, HE⟩
    clear HE HQ H7 hX hx h0 hv2 hv
    go_wp2
    go_ret
    exact HS.out
end Go.Proofs.Ytnpehidhoekfcaa
