/- The laws' copying functions make slices, cells and heaps of their own that read as the ones that were given: for sizes up to 2^20. -/
import Derived.Test.YtoekikeomgfaiaaOwn
import Derived.Test.YtoekikeomgfaiaaChecked
namespace Go.Proofs.Ytoekikeomgfaiaa
open Go.RowKit
theorem Try.infoInt : (Try.prog.info? 3).map (fun i => (i.zero, i.size, i.bytes)) = some (some (.int .i64 0), 1, 8) := by kernel_rfl
theorem Try.infoCell : (Try.prog.info? 64).map (fun i => (i.zero, i.size, i.bytes)) = some (some (.agg #[.bool false, .int .i64 0, .slice none 0 0]), 3, 40) := by kernel_rfl

/-- What toIntS has filled after k rounds. -/
def filled (xs : List Int) (k : Nat) : List Value := (xs.take k).map (Value.int .i64) ++ List.replicate (xs.length - k) (.int .i64 0)
theorem filled_zero (xs : List Int) : filled xs 0 = List.replicate xs.length (.int .i64 0) := by simp [filled]
theorem filled_end {xs : List Int} {k : Nat} (h : xs.length ≤ k) : filled xs k = xs.map (Value.int .i64) := by
  simp [filled, List.take_of_length_le h, show xs.length - k = 0 by omega]
theorem filled_succ {xs : List Int} {k : Nat} {x : Int} (h : Hid (xs[k]? = some x)) : (filled xs k).set k (.int .i64 x) = filled xs (k + 1) := by
  obtain ⟨hk, rfl⟩ := List.getElem?_eq_some_iff.1 h.out
  unfold filled
  have e : xs.length - k = (xs.length - (k + 1)) + 1 := by omega
  rw [e, List.replicate_succ, List.take_succ_eq_append_getElem hk, List.map_append, List.append_assoc]
  rw [List.set_append_right _ _ (by simp; omega)]
  simp [show k - min k xs.length = 0 by omega]
theorem filled_at {xs : List Int} {k : Nat} (h : k < xs.length) : (filled xs k)[k]? = some (.int .i64 0) := by
  unfold filled
  rw [List.getElem?_append_right (by simp; omega)]
  rw [List.getElem?_replicate]; simp [show k - min k xs.length = 0 by omega]; omega

theorem toInts_any (w : World) (B : Nat) (A : Option Addr) (n c : Nat) (xs : List Int) (h : RdI w B A n c xs) (hn : n ≤ 1048576) :
    Calls Try.prog 13 #[.slice A n c] w (MadeI w xs) := by
  have h := h.top
  have l1 := RdI.le1 h; have l2 := RdI.le2 h
  obtain ⟨i0, hi, hz0, hz1, hz2⟩ := info_parts Try.infoInt
  go_enter Try.func13, Try.ntmps13
  go_wp2_with (at_make; refine wpList_make_full _ rfl _ _ _ rfl w.heap.size 3 i0 (.int .i64 0) 1 Try.underlying23 hi hz0 hz1 .i64 .i64 _ _ n rfl rfl rfl rfl (by rw [hz2]; omega) (by unfold maxLen; omega) (Nat.le_refl _) ?_)
  intro w1 hown hg
  have hb1 : Below w.heap.size w w1 := (Below.refl _ _).grown hg (Nat.le_refl _) (by simp)
  have hown0 : w1.ownsRow w.heap.size 3 1 (.slice (some ⟨w.heap.size, 0, none⟩) n n) n (filled xs 0) := by
    rw [filled_zero, show xs.length = n by omega]
    have e : (madeCells #[Value.int .i64 0] n).toList = List.replicate n (.int .i64 0) := toList_madeCells_one _ n
    rwa [e] at hown
  clear hown hg
  go_wp2_with fail
  go_loopw [4] (fun i wr => ∃ k : Nat, i = .int .i64 k ∧ k ≤ n ∧ wr.ownsRow w.heap.size 3 1 (.slice (some ⟨w.heap.size, 0, none⟩) n n) n (filled xs k) ∧ Below w.heap.size w wr) (fun i _ => n - (intOf i).toNat)
  case atStart => exact ⟨0, rfl, Nat.zero_le _, hown0, hb1⟩
  case round =>
    obtain ⟨k, rfl, hk, hown, hb⟩ := hrel
    clear hown0 hb1
    by_cases hlt : k < n
    · obtain ⟨b, o, x, rfl, hbb, hx, g1⟩ := RdI.at_ (h.below hb) hlt
      have k1 := hown.cellAt k (by omega)
      rw [filled_at (by omega)] at k1
      have k2 := hown.frozenAt k
      obtain ⟨s1, s2⟩ := hown.stored k (.int .i64 x)
      rw [filled_succ hx] at s1
      have hb3 : Below w.heap.size w (wr.setCell ⟨w.heap.size, k, none⟩ (.int .i64 x)) := hb.setCell (Nat.le_refl _) _
      go_wp2
      go_roundw
      case rel => exact ⟨k + 1, by go_num, by omega, s1, hb3⟩
      case measure => simp [intOf]; omega
    · rw [filled_end (by omega)] at hown
      go_wp2
      go_ret
      obtain rfl : n = xs.length := by omega
      exact ⟨_, rfl, ⟨hown, fun k hk => by have := hown.lt k hk; omega⟩, hb⟩

theorem toCell_any (w : World) (B : Nat) (v : Value) (l : Cel) (h : RdL w B v l) (hn : l.refs.length ≤ 1048576) :
    Calls Try.prog 69 #[v] w (MadeL w l) := by
  obtain ⟨A, n, k, rfl, hr⟩ := h.top
  have l1 := RdI.le1 hr; have l2 := RdI.le2 hr
  go_enter Try.func69, Try.ntmps69
  go_wp2_with fail
  refine (toInts_any _ _ A n k l.refs (hr.below (((below_alloc _ _).alloc (by simp) _).alloc (by simp <;> omega) _)) (by omega)).mono ?_
  rintro e w1 ⟨v, rfl, ho, hb1⟩
  have hz := hb1.size
  simp only [World.size_alloc] at hz hb1 ho
  obtain ⟨_, q1, q2⟩ := heap3 w (.cells #[.bool l.used, .int .i64 l.data, .slice A n k] 89) (.cells #[.bool false, .int .i64 0, .slice none 0 0] 64) (.cells #[.bool l.used, .int .i64 l.data, .slice none 0 0] 64)
  obtain ⟨a0, a1, a2, f0, f1, f2⟩ := blk3 ((hb1.block _ (by omega)).trans q1)
  obtain ⟨b0, b1, b2, e0, e1, e2⟩ := blk3 ((hb1.block _ (by omega)).trans q2)
  clear q1 q2
  obtain ⟨A2, k2, rfl, _⟩ := ho.form
  go_wp2
  refine bodyPost_ret (v := .agg #[.bool l.used, .int .i64 l.data, .slice A2 l.refs.length k2]) (by simp [results, Try.results69, go_sem, a0, a1, a2]) rfl ⟨_, rfl, ?_, ?_⟩
  · refine OwI.wide ?_ (by omega : w.heap.size ≤ w.heap.size + 1 + 1 + 1) (Nat.le_refl _)
    simp only [World.size_setCell]
    repeat (refine OwI.setCell ?_ (by simp <;> omega) _)
    exact ho
  · repeat (refine Below.setCell ?_ (by simp <;> omega) _)
    exact (((below_alloc _ _).alloc (by simp) _).alloc (by simp <;> omega) _).trans (hb1.mono (by omega))

theorem snoc_cases {α : Type} {l : List α} {x y : α} {i : Nat} (h : (l ++ [x])[i]? = some y) : (i < l.length ∧ l[i]? = some y) ∨ (i = l.length ∧ y = x) := by
  rcases Nat.lt_or_ge i l.length with hi | hi
  · rw [List.getElem?_append_left hi] at h; exact .inl ⟨hi, h⟩
  · rw [List.getElem?_append_right hi] at h
    have : i - l.length = 0 := by
      rcases Nat.eq_zero_or_pos (i - l.length) with h0 | h0
      · exact h0
      · obtain ⟨m, hm⟩ : ∃ m, i - l.length = m + 1 := ⟨i - l.length - 1, by omega⟩
        rw [hm] at h; simp at h
    rw [this] at h; simp at h
    exact .inr ⟨by omega, h.symm⟩
/-- What toCellS has made after k rounds. -/
structure CellsTo (wr : World) (lo g n : Nat) (cs : List Cel) (k : Nat) (rvs : List Value) : Prop where
  len : rvs.length = k
  own : wr.ownsRow lo 64 3 (.slice (some ⟨g, 0, none⟩) n n) n (cellVals (cs.take k) rvs ++ zcells (n - k))
  refs : ∀ (i : Nat) (rv : Value) (c : Cel), rvs[i]? = some rv → cs[i]? = some c → OwI wr (g + 1) wr.heap.size rv c.refs
  apart : ∀ (i j : Nat) (a b : Value), i ≠ j → rvs[i]? = some a → rvs[j]? = some b → Apart a b
theorem CellsTo.lt {wr : World} {lo g n : Nat} {cs : List Cel} {k : Nat} {rvs : List Value} (h : CellsTo wr lo g n cs k rvs) : lo ≤ g ∧ g < wr.heap.size := h.own.lt g rfl

set_option maxHeartbeats 400000 in
theorem toCells_any (w : World) (B : Nat) (A : Option Addr) (n c : Nat) (cs : List Cel) (h : RdC w B A n c cs) (hn : n ≤ 1048576) (hr : ∀ x ∈ cs, x.refs.length ≤ 1048576) :
    Calls Try.prog 43 #[.slice A n c] w (MadeC w cs) := by
  have h := h.top
  have l1 := h.le1; have l2 := h.le2
  obtain ⟨i0, hi, hz0, hz1, hz2⟩ := info_parts Try.infoCell
  go_enter Try.func43, Try.ntmps43
  go_wp2_with (at_make; refine wpList_make_full _ rfl _ _ _ rfl w.heap.size 64 i0 (.agg #[.bool false, .int .i64 0, .slice none 0 0]) 3 Try.underlying27 hi hz0 hz1 .i64 .i64 _ _ n rfl rfl rfl rfl (by rw [hz2]; omega) (by unfold maxLen; omega) (Nat.le_refl _) ?_)
  intro w1 hown hg
  have hb1 : Below w.heap.size w w1 := (Below.refl _ _).grown hg (Nat.le_refl _) (by simp)
  have hT : CellsTo w1 w.heap.size w.heap.size n cs 0 [] := ⟨rfl, by
    have e : (madeCells #[Value.bool false, .int .i64 0, .slice none 0 0] (n * 3)).toList = cellVals (cs.take 0) [] ++ zcells (n - 0) := made_zcells n
    rwa [← e], fun i rv c h => by simp at h, fun i j a b _ h => by simp at h⟩
  clear hown hg
  go_wp2_with fail
  go_loopw [4] (fun i wr => ∃ (k : Nat) (rvs : List Value), i = .int .i64 k ∧ k ≤ n ∧ CellsTo wr w.heap.size w.heap.size n cs k rvs ∧ Below w.heap.size w wr) (fun i _ => n - (intOf i).toNat)
  case atStart => exact ⟨0, [], rfl, Nat.zero_le _, hT, hb1⟩
  case round =>
    obtain ⟨k, rvs, rfl, hk, hT, hb⟩ := hrel
    clear hb1
    have hz := hT.lt.2
    by_cases hlt : k < n
    · obtain ⟨b, o, x, A2, n2, c2, rfl, hbb, hx, g1, g2, g3, hrr⟩ := (h.below hb).at_ hlt
      go_wp2_with fail
      refine (toCell_any _ _ _ x ⟨_, _, _, rfl, hrr⟩ (hr x (List.mem_of_getElem? hx.out))).mono ?_
      rintro e w2 ⟨rv, rfl, ho, hb2⟩
      obtain ⟨A4, c4, rfl, _⟩ := ho.form
      have hz2 := hb2.size
      have own2 : w2.ownsRow w.heap.size 64 3 (.slice (some ⟨w.heap.size, 0, none⟩) n n) n (cellVals (cs.take k) rvs ++ zcells (n - k)) := own_keep hT.own fun q hq => hb2.block q (by have := hT.own.lt q hq; omega)
      obtain ⟨u0, p0⟩ := own_some own2 (j := k * 3) (by omega)
      obtain ⟨u1, p1⟩ := own_some own2 (j := k * 3 + 1) (by omega)
      obtain ⟨u2, p2⟩ := own_some own2 (j := k * 3 + 2) (by omega)
      have q0 := own2.frozenAt (k * 3)
      have q1 := own2.frozenAt (k * 3 + 1)
      have q2 := own2.frozenAt (k * 3 + 2)
      have s3 := ((((own2.stored (k * 3) (.bool x.used)).1).stored (k * 3 + 1) (.int .i64 x.data)).1.stored (k * 3 + 2) (.slice A4 x.refs.length c4)).1
      rw [fill3 cs rvs k n x _ hx hT.len hlt] at s3
      have S3 := Go.Lib.hid s3
      clear s3
      have hT3 : CellsTo (((w2.setCell ⟨w.heap.size, k * 3, none⟩ (.bool x.used)).setCell ⟨w.heap.size, k * 3 + 1, none⟩ (.int .i64 x.data)).setCell ⟨w.heap.size, k * 3 + 2, none⟩ (.slice A4 x.refs.length c4)) w.heap.size w.heap.size n cs (k + 1) (rvs ++ [.slice A4 x.refs.length c4]) := by
        refine ⟨by simp [hT.len], S3.out, fun i rv c h1 h2 => ?_, fun i j a b hij h1 h2 => ?_⟩
        · simp only [World.size_setCell]
          refine OwI.setCell (OwI.setCell (OwI.setCell ?_ (.inl (by simp)) _) (.inl (by simp)) _) (.inl (by simp)) _
          rcases snoc_cases h1 with ⟨_, h3⟩ | ⟨h3, rfl⟩
          · exact ((hT.refs i rv c h3 h2).below hb2 (Nat.le_refl _)).wide (Nat.le_refl _) hz2
          · rw [h3, hT.len] at h2
            obtain rfl := hid_inj hx h2
            exact ho.wide (by omega) (Nat.le_refl _)
        · rcases snoc_cases h1 with ⟨_, h3⟩ | ⟨h3, rfl⟩ <;> rcases snoc_cases h2 with ⟨_, h4⟩ | ⟨h4, rfl⟩
          · exact hT.apart i j a b hij h3 h4
          · have hi' : i < cs.length := by have := hT.len; omega
            have hlow := (hT.refs i a _ h3 (List.getElem?_eq_getElem hi')).lt
            exact apart_lt hlow (fun q hq => (ho.own.lt q hq).1)
          · have hj' : j < cs.length := by have := hT.len; omega
            have hlow := (hT.refs j b _ h4 (List.getElem?_eq_getElem hj')).lt
            exact apart_gt (fun q hq => (ho.own.lt q hq).1) hlow
          · exact absurd (h3.trans h4.symm) hij
      have hb3 := ((((hb.trans (hb2.mono (by omega))).setCell (p := ⟨w.heap.size, k * 3, none⟩) (Nat.le_refl _) (.bool x.used)).setCell (p := ⟨w.heap.size, k * 3 + 1, none⟩) (Nat.le_refl _) (.int .i64 x.data)).setCell (p := ⟨w.heap.size, k * 3 + 2, none⟩) (Nat.le_refl _) (.slice A4 x.refs.length c4))
      clear S3 own2
      go_wp2
      go_roundw
      case rel => exact ⟨k + 1, _, by go_num, by omega, hT3, hb3⟩
      case measure => simp [intOf]; omega
    · obtain rfl : k = n := by omega
      obtain rfl : k = cs.length := by omega
      have hO : OwC wr w.heap.size wr.heap.size (.slice (some ⟨w.heap.size, 0, none⟩) cs.length cs.length) rvs cs := by
        refine ⟨hT.len, ?_, fun q hq => by have := hT.own.lt q hq; omega, fun i rv c h1 h2 => (hT.refs i rv c h1 h2).wide (by omega) (Nat.le_refl _), hT.apart⟩
        have := hT.own
        rwa [List.take_length, Nat.sub_self, zcells, List.append_nil] at this
      go_wp2
      go_ret
      exact ⟨_, rvs, rfl, hO, hb⟩

def Small (h : Hp) : Prop := cellsBulk h.cells + h.roots.length ≤ 1048576
theorem refs_le_bulk : ∀ {cs : List Cel} {x : Cel}, x ∈ cs → x.refs.length ≤ cellsBulk cs
  | c :: cs, x, h => by
    rcases List.mem_cons.1 h with rfl | h
    · simp [cellsBulk]; omega
    · have := refs_le_bulk h; simp [cellsBulk] at this ⊢; omega
theorem len_le_bulk (cs : List Cel) : cs.length ≤ cellsBulk cs := by unfold cellsBulk; omega

set_option maxHeartbeats 400000 in
theorem toHeap_any (w : World) (B : Nat) (v : Value) (h : Hp) (hh : RdH w B v h) (hs : Small h) :
    Calls Try.prog 12 #[v] w (MadeH w h) := by
  obtain ⟨A, n, c, A', n', c', rfl, hC, hR⟩ := hh.top
  have l1 := hC.le1; have l2 := hC.le2; have l1' := RdI.le1 hR; have l2' := RdI.le2 hR
  have lb := len_le_bulk h.cells
  unfold Small at hs
  go_enter Try.func12, Try.ntmps12
  go_wp2_with fail
  refine (toCells_any _ _ A n c h.cells (hC.below (((below_alloc _ _).alloc (by simp) _).alloc (by simp <;> omega) _)) (by omega) (fun x hx => by have := refs_le_bulk hx; omega)).mono ?_
  rintro e w1 ⟨cv, rvs, rfl, ho, hb1⟩
  have hz := hb1.size
  simp only [World.size_alloc] at hz hb1 ho
  obtain ⟨q0, q1, q2⟩ := heap3 w (.cells #[.slice A n c, .slice A' n' c'] 25) (.cells #[.slice none 0 0, .slice none 0 0] 29) (.cells #[.slice none 0 0, .slice none 0 0] 29)
  replace q0 := (hb1.block _ (by omega)).trans q0
  replace q1 := (hb1.block _ (by omega)).trans q1
  replace q2 := (hb1.block _ (by omega)).trans q2
  obtain ⟨z0, z1, y0, y1⟩ := blk2 q0
  obtain ⟨b0, b1, e0, e1⟩ := blk2 q2
  have Q := Go.Lib.hid (And.intro q1 q2)
  clear q0 q1 q2
  obtain ⟨A2, k2, rfl, _⟩ := ho.form
  have hbw : Below w.heap.size w w1 := (((below_alloc _ _).alloc (by simp) _).alloc (by simp <;> omega) _).trans (hb1.mono (by omega))
  clear hb1
  go_wp2_with fail
  have hb2 : Below w.heap.size w (w1.setCell ⟨w.heap.size + 1 + 1, 0, none⟩ (.slice A2 h.cells.length k2)) := hbw.setCell (by simp <;> omega) _
  refine (toInts_any _ _ A' n' c' h.roots (hR.below hb2) (by omega)).mono ?_
  rintro e w3 ⟨rv, rfl, ho3, hb3⟩
  have hz3 := hb3.size
  simp only [World.size_setCell] at hz3 hb3 ho3
  obtain ⟨A3, k3, rfl, _⟩ := ho3.form
  obtain ⟨q1, q2⟩ := Q.out
  replace q1 := (hb3.block _ (by omega)).trans (set_far (p := ⟨w.heap.size + 1 + 1, 0, none⟩) (.slice A2 h.cells.length k2) q1 (by simp))
  replace q2 := (hb3.block _ (by omega)).trans (set2a (.slice A2 h.cells.length k2) q2)
  obtain ⟨c0, c1, d0, d1⟩ := blk2 q1
  obtain ⟨m0, m1, j0, j1⟩ := blk2 q2
  clear q1 q2 b0 b1 e0 e1 z0 z1 y0 y1
  have hbf : Below w.heap.size w w3 := hb2.trans (hb3.mono (by omega))
  have HO : OwC w3 (w.heap.size + 1 + 1 + 1) w1.heap.size (.slice A2 h.cells.length k2) rvs h.cells :=
    (ho.setCell (p := ⟨w.heap.size + 1 + 1, 0, none⟩) (.inl (by simp)) (.slice A2 h.cells.length k2)).below hb3 (Nat.le_refl _)
  clear ho hb3 hb2
  go_wp2
  refine bodyPost_ret (v := .agg #[.slice A2 h.cells.length k2, .slice A3 h.roots.length k3]) (by simp [results, Try.results12, go_sem, c0, c1]) rfl ⟨_, rfl, ?_, ?_⟩
  · simp only [World.size_setCell]
    refine ⟨_, rvs, _, rfl, ?_, ?_, ?_⟩
    · refine OwC.wide ?_ (by omega : w.heap.size ≤ w.heap.size + 1 + 1 + 1) hz3
      repeat (refine OwC.setCell ?_ (by simp <;> omega) _)
      exact HO
    · refine OwI.wide ?_ (by omega : w.heap.size ≤ w1.heap.size) (Nat.le_refl _)
      repeat (refine OwI.setCell ?_ (by simp <;> omega) _)
      exact ho3
    · intro x hx
      obtain ⟨i, hi⟩ := List.getElem?_of_mem hx
      have hi' : i < h.cells.length := by rw [← HO.same]; exact (List.getElem?_eq_some_iff.1 hi).1
      exact apart_gt (fun q hq => (ho3.own.lt q hq).1) (HO.refs i x _ hi (List.getElem?_eq_getElem hi')).lt
  · repeat (refine Below.setCell ?_ (by simp <;> omega) _)
    exact hbf
end Go.Proofs.Ytoekikeomgfaiaa
