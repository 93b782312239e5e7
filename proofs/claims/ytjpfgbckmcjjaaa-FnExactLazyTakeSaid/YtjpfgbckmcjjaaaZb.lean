/- Lazy heaps: the laws' functions on them (size, copy, comparison). -/
import Derived.Test.YtjpfgbckmcjjaaaLs
import Derived.Test.YtjpfgbckmcjjaaaZ1
import Derived.Test.YtjpfgbckmcjjaaaZ0
import Derived.Test.YtjpfgbckmcjjaaaBl
namespace Go.Proofs.Ytjpfgbckmcjjaaa
open Go.RowKit
def lzBulk (l0 : Lz) : Nat := cellsBulk l0.store.cells + l0.store.roots.length + l0.marks.length
def Z0n (l0 : Lz) : Nat := cellsBulk l0.store.cells + l0.store.roots.length
theorem szBools_any (A : Option Addr) (n c : Nat) (l : Int) (w : World) (hn : n ≤ maxLen) (h0 : 0 ≤ l) (h1 : l ≤ 1048576) :
    Calls Try.prog 89 #[.slice A n c, .int .i64 l] w fun e w' => e = .returned (.int .i64 (szI n l)) ∧ w = w' := by
  unfold maxLen at hn
  by_cases h : (n : Int) ≤ l
  · go_enter Try.func89, Try.ntmps89
    go_wp2
    go_ret
    exact ⟨ret_i (szI_yes h).symm, rfl⟩
  · go_enter Try.func89, Try.ntmps89
    go_wp2
    go_ret
    exact ⟨ret_i (szI_no (by omega)).symm, rfl⟩
/-- What toBoolS has filledB after k rounds. -/
def filledB (xs : List Bool) (k : Nat) : List Value := (xs.take k).map (Value.bool) ++ List.replicate (xs.length - k) (.bool false)
theorem filledB_zero (xs : List Bool) : filledB xs 0 = List.replicate xs.length (.bool false) := by simp [filledB]
theorem filledB_end {xs : List Bool} {k : Nat} (h : xs.length ≤ k) : filledB xs k = xs.map (Value.bool) := by
  simp [filledB, List.take_of_length_le h, show xs.length - k = 0 by omega]
theorem filledB_succ {xs : List Bool} {k : Nat} {x : Bool} (h : Hid (xs[k]? = some x)) : (filledB xs k).set k (.bool x) = filledB xs (k + 1) := by
  obtain ⟨hk, rfl⟩ := List.getElem?_eq_some_iff.1 h.out
  unfold filledB
  have e : xs.length - k = (xs.length - (k + 1)) + 1 := by omega
  rw [e, List.replicate_succ, List.take_succ_eq_append_getElem hk, List.map_append, List.append_assoc]
  rw [List.set_append_right _ _ (by simp; omega)]
  simp [show k - min k xs.length = 0 by omega]
theorem filledB_at {xs : List Bool} {k : Nat} (h : k < xs.length) : (filledB xs k)[k]? = some (.bool false) := by
  unfold filledB
  rw [List.getElem?_append_right (by simp; omega)]
  rw [List.getElem?_replicate]; simp [show k - min k xs.length = 0 by omega]; omega

theorem toBools_any (w : World) (B : Nat) (A : Option Addr) (n c : Nat) (xs : List Bool) (h : RdB w B A n c xs) (hn : n ≤ 1048576) :
    Calls Try.prog 91 #[.slice A n c] w (MadeB w xs) := by
  have h := h.top
  have l1 := RdB.le1 h; have l2 := RdB.le2 h
  obtain ⟨i0, hi, hz0, hz1, hz2⟩ := info_parts Try.infoBool
  go_enter Try.func91, Try.ntmps91
  go_wp2_with (at_make; refine wpList_make_full _ rfl _ _ _ rfl w.heap.size 4 i0 (.bool false) 1 Try.underlying35 hi hz0 hz1 .i64 .i64 _ _ n rfl rfl rfl rfl (by rw [hz2]; omega) (by unfold maxLen; omega) (Nat.le_refl _) ?_)
  intro w1 hown hg
  have hb1 : Below w.heap.size w w1 := (Below.refl _ _).grown hg (Nat.le_refl _) (by simp)
  have hown0 : w1.ownsRow w.heap.size 4 1 (.slice (some ⟨w.heap.size, 0, none⟩) n n) n (filledB xs 0) := by
    rw [filledB_zero, show xs.length = n by omega]
    have e : (madeCells #[Value.bool false] n).toList = List.replicate n (.bool false) := toList_madeCells_one _ n
    rwa [e] at hown
  clear hown hg
  go_wp2_with fail
  go_loopw [4] (fun i wr => ∃ k : Nat, i = .int .i64 k ∧ k ≤ n ∧ wr.ownsRow w.heap.size 4 1 (.slice (some ⟨w.heap.size, 0, none⟩) n n) n (filledB xs k) ∧ Below w.heap.size w wr) (fun i _ => n - (intOf i).toNat)
  case atStart => exact ⟨0, rfl, Nat.zero_le _, hown0, hb1⟩
  case round =>
    obtain ⟨k, rfl, hk, hown, hb⟩ := hrel
    clear hown0 hb1
    by_cases hlt : k < n
    · obtain ⟨b, o, x, rfl, hbb, hx, g1⟩ := RdB.at_ (h.below hb) hlt
      have k1 := hown.cellAt k (by omega)
      rw [filledB_at (by omega)] at k1
      have k2 := hown.frozenAt k
      obtain ⟨s1, s2⟩ := hown.stored k (.bool x)
      rw [filledB_succ hx] at s1
      have hb3 : Below w.heap.size w (wr.setCell ⟨w.heap.size, k, none⟩ (.bool x)) := hb.setCell (Nat.le_refl _) _
      go_wp2
      go_roundw
      case rel => exact ⟨k + 1, by go_num, by omega, s1, hb3⟩
      case measure => simp [intOf]; omega
    · rw [filledB_end (by omega)] at hown
      go_wp2
      go_ret
      obtain rfl : n = xs.length := by omega
      exact ⟨_, rfl, ⟨hown, fun k hk => by have := hown.lt k hk; omega⟩, hb⟩

theorem szLazy_any (w : World) (B : Nat) (v : Value) (l0 : Lz) (l : Int) (hh : RdZ w B v l0) (h0 : 0 ≤ l) (h1 : l ≤ 1048576) :
    Calls Try.prog 42 #[v, .int .i64 l] w fun e w' => e = .returned (.int .i64 (szI (lzBulk l0) l)) ∧ Below w.heap.size w w' := by
  have hh' := hh.top
  obtain ⟨D, m, d, D', m', d', E, q, f, rfl, hC, hR, hE⟩ := hh.top
  have hm : q ≤ maxLen := Nat.le_trans hE.cap hE.mx
  obtain rfl : q = l0.marks.length := by have := RdB.le1 hE; have := RdB.le2 hE; omega
  have H1 := (Owns.nil w).box [.slice D m d, .slice D' m' d', .slice E l0.marks.length f, .int .i64 l0.at_] 64
  obtain ⟨a0, a1, a2, a3, -, -, -, -⟩ := box4 H1 0 rfl
  have hR2 : RdH w w.heap.size (.agg #[.slice D m d, .slice D' m' d']) l0.store := ⟨_, _, _, _, _, _, rfl, hC, hR⟩
  go_enter Try.func42, Try.ntmps42
  go_wp2_with fail
  refine (szHeap_any _ _ _ l0.store l (hR2.below H1.below) h0 h1).mono ?_
  rintro e w1 ⟨rfl, hb1⟩
  have H2 := H1.call hb1
  clear a0 a1 a2 a3
  obtain ⟨a0, a1, a2, a3, -, -, -, -⟩ := box4 H2 0 rfl
  have HE := fun hq => Go.Lib.hid (show _ = szI (lzBulk l0) l from szI_add (cellsBulk l0.store.cells + l0.store.roots.length) l0.marks.length l hq)
  have HN : (Z0n l0 : Int) > l → Hid (szI (lzBulk l0) l = -1) := fun hq => Go.Lib.hid (szI_no (by unfold Z0n at hq; unfold lzBulk; omega))
  unfold Z0n at HN
  generalize cellsBulk l0.store.cells + l0.store.roots.length = T at *
  have HB := H2.below
  clear H1 H2
  by_cases hq : (T : Int) ≤ l
  · rw [szI_yes hq]
    replace HE := HE hq
    go_wp2_with fail
    refine (szBools_any E l0.marks.length f _ _ hm (by omega) (by omega)).mono ?_
    rintro e w2 ⟨rfl, hw2⟩
    obtain rfl := hw2
    by_cases hq2 : (l0.marks.length : Int) ≤ l - T
    · rw [szI_yes hq2]
      go_wp2
      go_ret
      exact ⟨ret_i (by rw [← HE.out, szI_yes hq2]), HB⟩
    · rw [szI_no (by omega)]
      go_wp2
      go_ret
      exact ⟨ret_i (by rw [← HE.out, szI_no (by omega)]), HB⟩
  · rw [szI_no (by omega)]
    go_wp2
    go_ret
    exact ⟨ret_i (HN (by omega)).out.symm, HB⟩
theorem eqLazy_any (w : World) (B B' : Nat) (u v : Value) (l0 : Lz) (h1 : RdZ w B u l0) (h2 : RdZ w B' v l0) :
    Calls Try.prog 44 #[u, v] w fun e w' => e = .returned (.bool true) ∧ Below w.heap.size w w' := by
  obtain ⟨D, m, d, D', m', d', E, q, f, rfl, hC, hR, hE⟩ := h1.top
  obtain ⟨P, r, s, P', r', s', F, i, j, rfl, kC, kR, kE⟩ := h2.top
  obtain ⟨z, hz⟩ : ∃ z, z = l0.at_ := ⟨_, rfl⟩
  rw [← hz]
  clear hz
  have H1 := ((Owns.nil w).box [.slice D m d, .slice D' m' d', .slice E q f, .int .i64 z] 50).box [.slice P r s, .slice P' r' s', .slice F i j, .int .i64 z] 50
  simp only [List.set_cons_zero, List.set_cons_succ, List.eraseIdx_cons_zero, List.eraseIdx_cons_succ, List.drop_succ_cons, List.drop_zero, List.take_succ_cons, List.take_zero, List.length_append, List.length_cons, List.length_nil, List.nil_append, Nat.zero_add, World.size_alloc] at H1
  obtain ⟨a0, a1, a2, a3, -, -, -, -⟩ := box4 H1 0 rfl
  obtain ⟨b0, b1, b2, b3, -, -, -, -⟩ := box4 H1 1 rfl
  have hR2 : RdH w w.heap.size (.agg #[.slice D m d, .slice D' m' d']) l0.store := ⟨_, _, _, _, _, _, rfl, hC, hR⟩
  have kR2 : RdH w w.heap.size (.agg #[.slice P r s, .slice P' r' s']) l0.store := ⟨_, _, _, _, _, _, rfl, kC, kR⟩
  go_enter Try.func44, Try.ntmps44
  go_wp2_with fail
  refine (eqHeap_any _ _ _ _ _ l0.store (hR2.below H1.below) (kR2.below H1.below)).mono ?_
  rintro e w1 ⟨rfl, hb1⟩
  have H2 := H1.call hb1
  clear a0 a1 a2 a3 b0 b1 b2 b3 H1
  obtain ⟨a0, a1, a2, a3, -, -, -, -⟩ := box4 H2 0 rfl
  obtain ⟨b0, b1, b2, b3, -, -, -, -⟩ := box4 H2 1 rfl
  go_wp2_with fail
  refine (eqBools_any _ _ _ _ _ _ _ _ _ l0.marks (hE.below H2.below) (kE.below H2.below)).mono ?_
  rintro e w2 ⟨rfl, hb2⟩
  have H3 := H2.call hb2
  clear a0 a1 a2 a3 b0 b1 b2 b3 H2
  obtain ⟨a0, a1, a2, a3, -, -, -, -⟩ := box4 H3 0 rfl
  obtain ⟨b0, b1, b2, b3, -, -, -, -⟩ := box4 H3 1 rfl
  have HB := H3.below
  clear H3
  go_wp2_with fail
  try go_quiet (fail)
  try go_wp2
  go_ret
  first | exact ⟨rfl, HB⟩ | exact ⟨rfl, below_drewN HB _⟩
theorem toLazy_any (w : World) (B : Nat) (v : Value) (l0 : Lz) (hh : RdZ w B v l0) (hs : Small l0.store) (hs2 : l0.marks.length ≤ 1048576) :
    Calls Try.prog 43 #[v] w (MadeZ w l0) := by
  obtain ⟨D, m, d, D', m', d', E, q, f, rfl, hC, hR, hE⟩ := hh.top
  obtain rfl : q = l0.marks.length := by have := RdB.le1 hE; have := RdB.le2 hE; omega
  obtain ⟨z, hz⟩ : ∃ z, z = l0.at_ := ⟨_, rfl⟩
  have HZ := Go.Lib.hid hz
  rw [← hz]
  clear hz
  have H1 := (((Owns.nil w).box [.slice D m d, .slice D' m' d', .slice E l0.marks.length f, .int .i64 z] 64).box [.slice none 0 0, .slice none 0 0, .slice none 0 0, .int .i64 0] 50).box [.slice none 0 0, .slice none 0 0, .slice none 0 0, .int .i64 0] 50
  simp only [List.set_cons_zero, List.set_cons_succ, List.eraseIdx_cons_zero, List.eraseIdx_cons_succ, List.drop_succ_cons, List.drop_zero, List.take_succ_cons, List.take_zero, List.length_append, List.length_cons, List.length_nil, List.nil_append, Nat.zero_add, World.size_alloc] at H1
  obtain ⟨a0, a1, a2, a3, -, -, -, -⟩ := box4 H1 2 rfl
  obtain ⟨b0, b1, b2, b3, b4, b5, b6, b7⟩ := box4 H1 1 rfl
  obtain ⟨c0, c1, c2, c3, c4, c5, c6, c7⟩ := box4 H1 0 rfl
  have hR2 : RdH w w.heap.size (.agg #[.slice D m d, .slice D' m' d']) l0.store := ⟨_, _, _, _, _, _, rfl, hC, hR⟩
  go_enter Try.func43, Try.ntmps43
  go_wp2_with fail
  refine (toHeap_any _ _ _ l0.store (hR2.below H1.below) hs).mono ?_
  rintro e w1 ⟨v1, rfl, ho, hb1⟩
  obtain ⟨cv, rvs, rv, rfl, H2⟩ := H1.madeH ho hb1
  clear H1 ho hb1 a0 a1 a2 a3 b0 b1 b2 b3 b4 b5 b6 b7 c0 c1 c2 c3 c4 c5 c6 c7
  obtain ⟨A2, k2, rfl, -⟩ := H2.formC 0 rfl
  obtain ⟨A3, k3, rfl, -⟩ := H2.formI 1 rfl
  obtain ⟨c0, c1, c2, c3, c4, c5, c6, c7⟩ := box4 H2 2 rfl
  have H3 := (H2.putBox 2 rfl 0 (.slice A2 l0.store.cells.length k2)).putBox 2 rfl 1 (.slice A3 l0.store.roots.length k3)
  simp only [List.set_cons_zero, List.set_cons_succ, List.eraseIdx_cons_zero, List.eraseIdx_cons_succ, List.drop_succ_cons, List.drop_zero, List.take_succ_cons, List.take_zero, List.length_append, List.length_cons, List.length_nil, List.nil_append, Nat.zero_add, World.size_alloc] at H3
  obtain ⟨a0, a1, a2, a3, -, -, -, -⟩ := box4 H3 4 rfl
  go_wp2_with fail
  refine (toBools_any _ _ E l0.marks.length f l0.marks (hE.below H3.below) hs2).mono ?_
  rintro e w2 ⟨hv, rfl, ho, hb2⟩
  have H4 := H3.madeB ho hb2
  obtain ⟨A4, k4, rfl, -⟩ := H4.formB 0 rfl
  clear H2 H3 ho hb2 a0 a1 a2 a3 c0 c1 c2 c3 c4 c5 c6 c7
  obtain ⟨c0, c1, c2, c3, c4, c5, c6, c7⟩ := box4 H4 3 rfl
  have H5a := H4.putBox 3 rfl 2 (.slice A4 l0.marks.length k4)
  simp only [List.set_cons_zero, List.set_cons_succ, List.eraseIdx_cons_zero, List.eraseIdx_cons_succ, List.drop_succ_cons, List.drop_zero, List.take_succ_cons, List.take_zero, List.length_append, List.length_cons, List.length_nil, List.nil_append, Nat.zero_add, World.size_alloc] at H5a
  obtain ⟨g0, g1, g2, g3, g4, g5, g6, g7⟩ := box4 H5a 3 rfl
  obtain ⟨a0, a1, a2, a3, -, -, -, -⟩ := box4 H5a 5 rfl
  have H5 := H5a.putBox 3 rfl 3 (.int .i64 z)
  simp only [List.set_cons_zero, List.set_cons_succ, List.eraseIdx_cons_zero, List.eraseIdx_cons_succ, List.drop_succ_cons, List.drop_zero, List.take_succ_cons, List.take_zero, List.length_append, List.length_cons, List.length_nil, List.nil_append, Nat.zero_add, World.size_alloc] at H5
  obtain ⟨b0, b1, b2, b3, b4, b5, b6, b7⟩ := box4 H5 4 rfl
  obtain ⟨d0, d1, d2, d3, d4, d5, d6, d7⟩ := box4 H5 3 rfl
  have H6 := (((H5.putBox 4 rfl 0 (.slice A2 l0.store.cells.length k2)).putBox 4 rfl 1 (.slice A3 l0.store.roots.length k3)).putBox 4 rfl 2 (.slice A4 l0.marks.length k4)).putBox 4 rfl 3 (.int .i64 z)
  simp only [List.set_cons_zero, List.set_cons_succ, List.eraseIdx_cons_zero, List.eraseIdx_cons_succ, List.drop_succ_cons, List.drop_zero, List.take_succ_cons, List.take_zero, List.length_append, List.length_cons, List.length_nil, List.nil_append, Nat.zero_add, World.size_alloc] at H6
  obtain ⟨e0, e1, e2, e3, -, -, -, -⟩ := box4 H6 4 rfl
  have HS : Hid (MadeZ w l0 (.returned (.agg #[.slice A2 l0.store.cells.length k2, .slice A3 l0.store.roots.length k3, .slice A4 l0.marks.length k4, .int .i64 z])) _) := Go.Lib.hid ⟨_, _, _, _, by rw [HZ.out], H6.order [1, 2, 0] (by decide) rfl⟩
  clear H4 H5a H5 H6
  go_wp2
  exact bodyPost_ret (v := .agg #[.slice A2 l0.store.cells.length k2, .slice A3 l0.store.roots.length k3, .slice A4 l0.marks.length k4, .int .i64 z]) (by simp [results, Try.results43, go_sem, e0, e1, e2, e3]) rfl HS.out
end Go.Proofs.Ytjpfgbckmcjjaaa
