/- RegionSizes, the program's and the reference's: both make the list mRegionSizes, for every heap and list that can be read. -/
import Derived.Test.YtmhcajjlhiopmaaRg
import Derived.Test.YtmhcajjlhiopmaaZ0
import Derived.StillTailTactics
namespace Go.Proofs.Ytmhcajjlhiopmaa
open Go.RowKit
def sizesTo (cs : List Cel) (rs : List Int) : Nat → List Int
  | 0 => List.replicate 6 0
  | k + 1 => if (cs.getD k noCel).used then (sizesTo cs rs k).set (rs.getD k 0).toNat ((sizesTo cs rs k).getD (rs.getD k 0).toNat 0 + 1) else sizesTo cs rs k
def mRegionSizes (h : Hp) (rs : List Int) : List Int := if mRegionsValid h rs then sizesTo h.cells rs h.cells.length else []
theorem sizesTo_length (cs : List Cel) (rs : List Int) : ∀ k, (sizesTo cs rs k).length = 6
  | 0 => rfl
  | k + 1 => by unfold sizesTo; split <;> simp [sizesTo_length cs rs k]
section
variable {cs : List Cel} {rs : List Int} {k : Nat} {l : Cel} {q : Nat}
theorem sizesTo_no (hl : Hid (cs[k]? = some l)) (h : l.used = false) : sizesTo cs rs (k + 1) = sizesTo cs rs k := by
  rw [sizesTo, getD_of hl, h]; rfl
theorem sizesTo_yes (hl : Hid (cs[k]? = some l)) (hr : Hid (rs[k]? = some (q : Int))) (h : l.used = true) : sizesTo cs rs (k + 1) = (sizesTo cs rs k).set q ((sizesTo cs rs k).getD q 0 + 1) := by
  rw [sizesTo, getD_of hl, getD_of hr, h]; simp
theorem sizesTo_small : ∀ (k q : Nat), 0 ≤ (sizesTo cs rs k).getD q 0 ∧ (sizesTo cs rs k).getD q 0 ≤ k
  | 0, q => by
    have : (sizesTo cs rs 0).getD q 0 = 0 := by
      rw [sizesTo, List.getD, List.getElem?_replicate]; split <;> rfl
    omega
  | k + 1, q => by
    have h1 := sizesTo_small k q
    unfold sizesTo
    split
    · have h2 := sizesTo_small k (rs.getD k 0).toNat
      simp only [List.getD, List.getElem?_set] at *
      split
      · split
        · simp; omega
        · simp; omega
      · omega
    · omega
theorem rgAt_range (hl : Hid (cs[k]? = some l)) {r : Int} (hr : Hid (rs[k]? = some r)) (h : rgAt cs rs k = true) : 0 ≤ r ∧ r ≤ 5 := by
  rw [rgAt_eq hl hr] at h; simp at h; omega
end
theorem mRegionSizes_len (h : Hp) (rs : List Int) : (mRegionSizes h rs).length ≤ 1048576 := by unfold mRegionSizes; split <;> simp [sizesTo_length]
theorem mRegions_all {h : Hp} {rs : List Int} (hv : mRegionsValid h rs = true) : rs.length = h.cells.length ∧ h.cells.length ≤ 40 ∧ ∀ k, k < h.cells.length → rgAt h.cells rs k = true := by
  simp only [mRegionsValid, Bool.and_eq_true, decide_eq_true_eq, List.all_eq_true] at hv
  refine ⟨hv.1.2, ?_, fun k hk => hv.2 k (List.mem_range.2 hk)⟩
  have := hv.1.1
  simp [heapOk] at this; omega

/-- The sizes lie in the block that the call has made. -/
theorem sizes_at {w : World} {lo g : Nat} {s : List Int} (ho : w.ownsRow lo 3 1 (.slice (some ⟨g, 0, none⟩) 6 6) 6 (s.map (Value.int .i64))) (hl : s.length = 6) {q : Nat} (hq : q < 6) : w.cell? ⟨g, q, none⟩ = some (.int .i64 (s.getD q 0)) := by
  rw [ho.cellAt q (by omega)]
  simp [List.getD, show q < s.length by omega]

set_option maxHeartbeats 1600000 in
theorem implRegionSizes_any (w : World) (B B' : Nat) (v : Value) (h : Hp) (A : Option Addr) (n c : Nat) (rs : List Int) (hh : RdH w B v h) (hr : RdI w B' A n c rs) :
    Calls Try.prog 30 #[v, .slice A n c] w (MadeI w (mRegionSizes h rs)) := by
  have hr := hr.top
  have hh' := hh.top
  obtain ⟨D, m, d, D', m', d', rfl, hC, hR⟩ := hh.top
  have l1 := RdI.le1 hr; have l2 := RdI.le2 hr
  have l3 := hC.le1; have l4 := hC.le2
  obtain ⟨i0, hi, hz0, hz1, hz2⟩ := info_parts Try.infoInt
  go_enter Try.func30, Try.ntmps30
  go_wp2_with fail
  refine (implRegionsValid_any _ _ _ _ h A n c rs (hh'.below (below_alloc _ _)) (hr.below (below_alloc _ _))).mono ?_
  rintro e w1 ⟨rfl, hb⟩
  obtain ⟨a0, a1, hbw, hz⟩ := box2 (hb.mono (by simp))
  cases hy : mRegionsValid h rs
  · have HF : Hid (mRegionSizes h rs = []) := Go.Lib.hid (by simp [mRegionSizes, hy])
    clear hy
    go_wp2
    go_ret
    rw [HF.out]
    exact ⟨_, rfl, ⟨World.ownsRow_nil _ _ _ _, fun k hk => by simp [Value.ownBlock] at hk⟩, hbw⟩
  have HE : Hid (mRegionSizes h rs = sizesTo h.cells rs h.cells.length) := Go.Lib.hid (by simp [mRegionSizes, hy])
  obtain ⟨v1, v2, V3⟩ := mRegions_all hy
  have v1' : n = m := by omega
  subst v1'
  clear hy v1
  have V := Go.Lib.hid V3
  clear V3
  go_wp2_with (at_make; refine wpList_make_full _ rfl _ _ _ rfl w1.heap.size 3 i0 (.int .i64 0) 1 Try.underlying24 hi hz0 hz1 .i64 .i64 _ _ 6 rfl rfl rfl rfl (by rw [hz2]; omega) (by unfold maxLen; omega) (Nat.le_refl _) ?_)
  intro w2 hown hg
  have hb1 : Below w1.heap.size w1 w2 := (Below.refl _ _).grown hg (Nat.le_refl _) (by simp)
  have hown0 : w2.ownsRow w1.heap.size 3 1 (.slice (some ⟨w1.heap.size, 0, none⟩) 6 6) 6 ((sizesTo h.cells rs 0).map (Value.int .i64)) := by
    have e : (madeCells #[Value.int .i64 0] 6).toList = (sizesTo h.cells rs 0).map (Value.int .i64) := toList_madeCells_one _ 6
    rwa [← e]
  clear hown hg
  have A0 := Go.Lib.hid (And.intro a0 a1)
  replace a0 := keept a0 hb1
  replace a1 := keept a1 hb1
  go_wp2_with fail
  clear a0 a1
  go_loopw [16] (fun i wr => ∃ (k : Nat), i = .int .i64 k ∧ k ≤ n ∧ wr.ownsRow w1.heap.size 3 1 (.slice (some ⟨w1.heap.size, 0, none⟩) 6 6) 6 ((sizesTo h.cells rs k).map (Value.int .i64)) ∧ Below w1.heap.size w1 wr) (fun i _ => n - (intOf i).toNat)
  case atStart => exact ⟨0, rfl, Nat.zero_le _, hown0, hb1⟩
  case round =>
    clear hown0 hb1
    obtain ⟨k, rfl, hk, ho, hb1⟩ := hrel
    have hzr := (ho.lt w1.heap.size rfl).2
    have hbr := hbw.trans (hb1.mono (by omega))
    by_cases hlt : k < n
    · obtain ⟨b, o, l, A2, n2, c2, rfl, hbb, hx, g1, g2, g3, hrf⟩ := (hC.below hbr).at_ hlt
      obtain ⟨b2, o2, r, rfl, hbb2, hx2, g4⟩ := RdI.at_ (hr.below hbr) hlt
      obtain ⟨r0, r5⟩ := rgAt_range hx hx2 (V.out k (by omega))
      obtain ⟨q, rfl⟩ := Int.eq_ofNat_of_zero_le r0
      have hq : q < 6 := by omega
      have hbb' : b < wr.heap.size := by omega
      have hbb2' : b2 < wr.heap.size := by omega
      have hsm := sizesTo_small (cs := h.cells) (rs := rs) k q
      cases hu : l.used
      · have E := Go.Lib.hid (sizesTo_no (rs := rs) hx hu)
        rw [hu] at g1
        clear hu
        have ho2 := Go.Lib.hid (ho.alloc (.cells #[.bool false, .int .i64 l.data, .slice A2 n2 c2] 33))
        clear ho
        go_wp2
        go_roundw
        case rel => exact ⟨k + 1, by go_num, by omega, by rw [E.out]; exact ho2.out, hb1.alloc (by omega) _⟩
        case measure => simp [intOf]; omega
      · have E := Go.Lib.hid (sizesTo_yes hx hx2 hu)
        rw [hu] at g1
        clear hu
        have ho2 := ho.alloc (.cells #[.bool true, .int .i64 l.data, .slice A2 n2 c2] 33)
        have k1 := sizes_at ho2 (sizesTo_length _ _ k) hq
        have k2 := ho2.frozenAt q
        have s1 := (ho.stored q (.int .i64 ((sizesTo h.cells rs k).getD q 0 + 1))).1
        rw [← List.map_set, ← E.out] at s1
        have S := Go.Lib.hid (s1.alloc (.cells #[.bool true, .int .i64 l.data, .slice A2 n2 c2] 33))
        clear s1 ho2 ho
        generalize (sizesTo h.cells rs k).getD q 0 = y at *
        go_wp2
        go_roundw
        case rel => exact ⟨k + 1, by go_num, by omega, S.out, (hb1.setCell (by simp) _).alloc (by simp; omega) _⟩
        case measure => simp [intOf]; omega
    · obtain rfl : k = n := by omega
      obtain rfl : k = h.cells.length := by omega
      go_wp2
      go_ret
      rw [HE.out]
      refine ⟨_, rfl, ⟨?_, fun q hq => by have := ho.lt q hq; omega⟩, hbr⟩
      rw [sizesTo_length]
      exact own_lo ho hbw.size

set_option maxHeartbeats 1600000 in
set_option maxRecDepth 20000 in
theorem specRegionSizes_any (w : World) (B B' : Nat) (v : Value) (h : Hp) (A : Option Addr) (n c : Nat) (rs : List Int) (hh : RdH w B v h) (hr : RdI w B' A n c rs) :
    Calls Try.prog 31 #[v, .slice A n c] w (MadeI w (mRegionSizes h rs)) := by
  have hr := hr.top
  have hh' := hh.top
  obtain ⟨D, m, d, D', m', d', rfl, hC, hR⟩ := hh.top
  have l1 := RdI.le1 hr; have l2 := RdI.le2 hr
  have l3 := hC.le1; have l4 := hC.le2
  obtain ⟨i0, hi, hz0, hz1, hz2⟩ := info_parts Try.infoInt
  go_enter Try.func31, Try.ntmps31
  go_wp2_with fail
  refine (specRegionsValid_any _ _ _ _ h A n c rs (hh'.below (below_alloc _ _)) (hr.below (below_alloc _ _))).mono ?_
  rintro e w1 ⟨rfl, hb⟩
  obtain ⟨a0, a1, hbw, hz⟩ := box2 (hb.mono (by simp))
  cases hy : mRegionsValid h rs
  · have HF : Hid (mRegionSizes h rs = []) := Go.Lib.hid (by simp [mRegionSizes, hy])
    clear hy
    go_wp2
    go_ret
    rw [HF.out]
    exact ⟨_, rfl, ⟨own_empty _ _ _ _ hbw.size, fun k hk => by simp [Value.ownBlock] at hk; simp; omega⟩, hbw.alloc hbw.size _⟩
  have HE : Hid (mRegionSizes h rs = sizesTo h.cells rs h.cells.length) := Go.Lib.hid (by simp [mRegionSizes, hy])
  obtain ⟨v1, v2, V3⟩ := mRegions_all hy
  have v1' : n = m := by omega
  subst v1'
  clear hy v1
  have V := Go.Lib.hid V3
  clear V3
  go_wp2_with (at_make; refine wpList_make_full _ rfl _ _ _ rfl w1.heap.size 3 i0 (.int .i64 0) 1 Try.underlying24 hi hz0 hz1 .i64 .i64 _ _ 6 rfl rfl rfl rfl (by rw [hz2]; omega) (by unfold maxLen; omega) (Nat.le_refl _) ?_)
  intro w2 hown hg
  have hb1 : Below w1.heap.size w1 w2 := (Below.refl _ _).grown hg (Nat.le_refl _) (by simp)
  have hown0 : w2.ownsRow w1.heap.size 3 1 (.slice (some ⟨w1.heap.size, 0, none⟩) 6 6) 6 ((sizesTo h.cells rs 0).map (Value.int .i64)) := by
    have e : (madeCells #[Value.int .i64 0] 6).toList = (sizesTo h.cells rs 0).map (Value.int .i64) := toList_madeCells_one _ 6
    rwa [← e]
  clear hown hg
  have A0 := Go.Lib.hid (And.intro a0 a1)
  clear a0 a1
  go_wp2_with fail
  go_loopw [6] (fun i wr => ∃ (k : Nat), i = .int .i64 k ∧ k ≤ n ∧ wr.ownsRow w1.heap.size 3 1 (.slice (some ⟨w1.heap.size, 0, none⟩) 6 6) 6 ((sizesTo h.cells rs k).map (Value.int .i64)) ∧ Below w1.heap.size w1 wr) (fun i _ => n - (intOf i).toNat)
  case atStart => exact ⟨0, rfl, Nat.zero_le _, hown0, hb1⟩
  case round =>
    clear hown0 hb1
    obtain ⟨k, rfl, hk, ho, hb1⟩ := hrel
    have hzr := (ho.lt w1.heap.size rfl).2
    have hbr := hbw.trans (hb1.mono (by omega))
    have a0 := keept A0.out.1 hb1
    have a1 := keept A0.out.2 hb1
    by_cases hlt : k < n
    · obtain ⟨b, o, l, A2, n2, c2, rfl, hbb, hx, g1, g2, g3, hrf⟩ := (hC.below hbr).at_ hlt
      obtain ⟨b2, o2, r, rfl, hbb2, hx2, g4⟩ := RdI.at_ (hr.below hbr) hlt
      obtain ⟨r0, r5⟩ := rgAt_range hx hx2 (V.out k (by omega))
      obtain ⟨q, rfl⟩ := Int.eq_ofNat_of_zero_le r0
      have hq : q < 6 := by omega
      have hsm := sizesTo_small (cs := h.cells) (rs := rs) k q
      cases hu : l.used
      · have E := Go.Lib.hid (sizesTo_no (rs := rs) hx hu)
        rw [hu] at g1
        clear hu
        have S := Go.Lib.hid ho
        clear ho
        go_wp2
        go_roundw
        case rel => exact ⟨k + 1, by go_num, by omega, by rw [E.out]; exact S.out, hb1⟩
        case measure => simp [intOf]; omega
      · have E := Go.Lib.hid (sizesTo_yes hx hx2 hu)
        rw [hu] at g1
        clear hu g2 g3
        have k1 := sizes_at ho (sizesTo_length _ _ k) hq
        have hod : wr.drew.ownsRow w1.heap.size 3 1 (.slice (some ⟨w1.heap.size, 0, none⟩) 6 6) 6 ((sizesTo h.cells rs k).map (Value.int .i64)) := own_keep ho fun _ _ => rfl
        have d1 := sizes_at hod (sizesTo_length _ _ k) hq
        have d2 := hod.frozenAt q
        have s1 := (hod.stored q (.int .i64 ((sizesTo h.cells rs k).getD q 0 + 1))).1
        rw [← List.map_set, ← E.out] at s1
        have S := Go.Lib.hid s1
        clear s1 hod ho
        generalize (sizesTo h.cells rs k).getD q 0 = y at *
        go_wp2_with fail
        have j1 : (0 : Int) ≤ (q : Int) := by omega
        have j2 : (q : Int) < 6 := by omega
        have j3 : (q : Int) < ((6 : Nat) : Int) := by omega
        go_still_tail 14, (by kernel_rfl)
        change wpList _ _ _ _ _ wr.drew
        generalize hwd : wr.drew = wd at *
        go_wp2
        go_roundw
        case rel => exact ⟨k + 1, by go_num, by omega, S.out, by rw [← hwd]; exact hb1.drew.setCell (by simp) _⟩
        case measure => simp [intOf]; omega
    · obtain rfl : k = n := by omega
      obtain rfl : k = h.cells.length := by omega
      go_wp2
      go_ret
      rw [HE.out]
      refine ⟨_, rfl, ⟨?_, fun q hq => by have := ho.lt q hq; omega⟩, hbr⟩
      rw [sizesTo_length]
      exact own_lo ho hbw.size
end Go.Proofs.Ytmhcajjlhiopmaa
