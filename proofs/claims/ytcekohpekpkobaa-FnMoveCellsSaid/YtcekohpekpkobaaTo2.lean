/- TableOf, the program's and the reference's: both make mTableOf, for every heap that can be read. -/
import Derived.Test.YtcekohpekpkobaaZ1
import Derived.Test.YtcekohpekpkobaaCpS
import Derived.Test.YtcekohpekpkobaaCpI
namespace Go.Proofs.Ytcekohpekpkobaa
open Go.RowKit
def upTo (k : Nat) : List Int := (List.range k).map fun c : Nat => (c : Int)
theorem upTo_succ (k : Nat) : upTo (k + 1) = upTo k ++ [(k : Int)] := by simp [upTo, List.range_succ]
theorem upTo_len (k : Nat) : (upTo k).length = k := by simp [upTo]
def mTableOf (h : Hp) : Tbl := if heapOk h then ⟨h, upTo h.cells.length⟩ else ⟨⟨[], []⟩, []⟩
theorem mTabOf_no {h : Hp} (h0 : heapOk h = false) : mTableOf h = ⟨⟨[], []⟩, []⟩ := by simp [mTableOf, h0]
theorem mTabOf_yes {h : Hp} (h0 : heapOk h = true) : mTableOf h = ⟨h, upTo h.cells.length⟩ := by simp [mTableOf, h0]
theorem Owns.toT {w w' : World} {L : List OB} (h : Owns w.heap.size w w' L) (i j k : Nat) {cv rv hv : Value} {rvs : List Value} {cs : List Cel} {rs hs : List Int} (hl : [i, j, k].Nodup) (hX : L[i]? = some (.cells cv rvs cs)) (hY : L[j]? = some (.ints rv rs)) (hZ : L[k]? = some (.ints hv hs)) : MadeT w ⟨⟨cs, rs⟩, hs⟩ (.returned (.agg #[cv, rv, hv])) w' :=
  ⟨_, rfl, cv, rvs, rv, hv, rfl, h.order [i, j, k] hl (by simp [hX, hY, hZ])⟩
set_option maxHeartbeats 1600000 in
theorem specTableOf_any (w : World) (B : Nat) (v : Value) (h : Hp) (hh : RdH w B v h) (hn : h.cells.length ≤ 1048576) (hn2 : h.roots.length ≤ 1048576) (hn3 : ∀ c ∈ h.cells, c.refs.length ≤ 1048576) :
    Calls Try.prog 41 #[v] w (MadeT w (mTableOf h)) := by
  have hh' := hh.top
  obtain ⟨D, m, d, D', m', d', rfl, hC, hR⟩ := hh.top
  have l3 := hC.le1; have l4 := hC.le2
  have H1 := ((Owns.nil w).box [.slice D m d, .slice D' m' d'] 26).box [.slice none 0 0, .slice none 0 0, .slice none 0 0] 28
  simp only [World.size_alloc] at H1
  go_enter Try.func41, Try.ntmps41
  go_wp2_with fail
  refine (specHeapValid_any _ _ _ h (hh'.below H1.below)).mono ?_
  rintro e w1 ⟨rfl, hb⟩
  have H2 := H1.call hb
  clear H1 hb
  obtain ⟨a0, a1, -, -⟩ := H2.box2 1 rfl
  obtain ⟨b0, b1, b2, b3, b4, b5⟩ := H2.box3 0 rfl
  cases hy : heapOk h
  · have HF := Go.Lib.hid (mTabOf_no hy)
    clear hy
    have H3 := ((((H2.putBox 0 rfl 0 (.slice none 0 0)).putBox 0 rfl 1 (.slice none 0 0)).putBox 0 rfl 2 (.slice none 0 0)).noInts).noInts.noCells
    simp only [List.set_cons_zero, List.set_cons_succ] at H3
    obtain ⟨c0, c1, c2, -, -, -⟩ := H3.box3 3 rfl
    have HS := Go.Lib.hid H3
    clear H3 H2
    go_wp2
    refine bodyPost_ret (v := .agg #[.slice none 0 0, .slice none 0 0, .slice none 0 0]) (by simp [results, Try.results41, go_sem, c0, c1, c2]) rfl ?_
    rw [HF.out]
    exact HS.out.toT 0 1 2 (by decide) rfl rfl rfl
  · obtain ⟨s4, -⟩ := heapOk_small hy
    have HF := Go.Lib.hid (mTabOf_yes hy)
    clear hy
    go_wp2_with fail
    refine (l7Copy_any _ _ _ h (hh'.below H2.below) hn hn2 hn3).mono ?_
    rintro e w2 ⟨v1, rfl, ho, hb⟩
    obtain ⟨cv, rvs, rv, rfl, H3⟩ := H2.madeH ho hb
    obtain ⟨C, kC, rfl, -⟩ := H3.formC 0 rfl
    obtain ⟨R, kR, rfl, -⟩ := H3.formI 1 rfl
    have H4 := ((H3.litI [] zero_le_maxLen).box [.slice C h.cells.length kC, .slice R h.roots.length kR, .slice (some ⟨w2.heap.size, 0, none⟩) 0 0] 28).swap
    simp only [List.length_nil, World.size_alloc] at H4
    clear H2 H3 ho hb a0 a1 b0 b1 b2 b3 b4 b5
    obtain ⟨a0, a1, -, -⟩ := H4.box2 5 rfl
    go_wp2_with fail
    go_loopw [4] (fun i wr => ∃ (k : Nat) (hv : Value), i = .int .i64 k ∧ k ≤ m ∧ Owns w.heap.size w wr [.ints hv (upTo k), .box (w2.heap.size + 1) [.slice C h.cells.length kC, .slice R h.roots.length kR, hv] 28, .cells (.slice C h.cells.length kC) rvs h.cells, .ints (.slice R h.roots.length kR) h.roots, .box (w.heap.size + 1) [.slice none 0 0, .slice none 0 0, .slice none 0 0] 28, .box w.heap.size [.slice D m d, .slice D' m' d'] 26]) (fun i _ => m - (intOf i).toNat)
    case atStart => exact ⟨0, _, rfl, Nat.zero_le _, H4⟩
    case round =>
      clear H4 a0 a1
      obtain ⟨k, hv, rfl, hk, H⟩ := hrel
      obtain ⟨b0, b1, b2, -, -, -⟩ := H.box3 1 rfl
      obtain ⟨a0, a1, -, -⟩ := H.box2 5 rfl
      by_cases hlt : k < m
      · have HU := Go.Lib.hid (upTo_succ k)
        have hl1 : (upTo k).length ≤ k := by rw [upTo_len]; omega
        have hl2 : k ≤ (upTo k).length := by rw [upTo_len]; omega
        obtain ⟨C5, k5, rfl, -⟩ := H.formI 0 rfl
        generalize upTo k = X at *
        have H5 := H.alloc (.cells #[.int .i64 k] 3)
        go_wp2_with (at_builtin; go_loud (refine wpList_pushO rfl (.tmp 21) (.tmp 23) rfl H5 0 rfl rfl rfl (rdI_new _ _ _ (by simp)) (by omega) ?_; intro A3 k3 w3 H6; clear b0 b1 b2; obtain ⟨b0, b1, b2, b3, b4, b5⟩ := H6.box3 1 rfl))
        simp only [List.set_cons_zero, List.length_append, List.length_cons, List.length_nil, Nat.zero_add] at H6
        have H7 := H6.putBox 1 rfl 2 (.slice A3 (X.length + 1) k3)
        simp only [List.set_cons_zero, List.set_cons_succ] at H7
        go_roundw
        case rel => exact ⟨k + 1, _, by go_num, by omega, by rw [HU.out]; exact H7⟩
        case measure => simp [intOf]; omega
      · obtain rfl : k = h.cells.length := by omega
        obtain ⟨C5, k5, rfl, -⟩ := H.formI 0 rfl
        obtain ⟨c0, c1, c2, c3, c4, c5⟩ := H.box3 4 rfl
        generalize upTo h.cells.length = X at *
        have H7 := ((H.putBox 4 rfl 0 (.slice C h.cells.length kC)).putBox 4 rfl 1 (.slice R h.roots.length kR)).putBox 4 rfl 2 (.slice C5 X.length k5)
        simp only [List.set_cons_zero, List.set_cons_succ] at H7
        obtain ⟨d0, d1, d2, -, -, -⟩ := H7.box3 4 rfl
        have HS := Go.Lib.hid H7
        clear H7 H
        go_wp2
        refine bodyPost_ret (v := .agg #[.slice C h.cells.length kC, .slice R h.roots.length kR, .slice C5 X.length k5]) (by simp [results, Try.results41, go_sem, d0, d1, d2]) rfl ?_
        rw [HF.out]
        exact HS.out.toT 2 3 0 (by decide) rfl rfl rfl
end Go.Proofs.Ytcekohpekpkobaa
