/- Marking tables that a call owns; tables that hold their marks. -/
import Derived.Test.YtoekikeomgfaiaaTb
import Derived.Test.YtoekikeomgfaiaaMh
namespace Go.Proofs.Ytoekikeomgfaiaa
open Go.RowKit
def mTbl (k : Int) (t : Tbl) : Tbl := ⟨mHeap k t.store, marks (k + kHeap t.store) t.hands.length⟩
def kTbl (t : Tbl) : Nat := kHeap t.store + t.hands.length
theorem markTable_own {lo : Nat} {w0 w : World} {v : Value} {t : Tbl} {L : List OB} (h : OwT w lo w0 v t L) (k : Int) (h0 : 0 ≤ k) (h1 : k + kTbl t ≤ 1099511627776) :
    Calls Try.prog 32 #[v, .int .i64 k] w fun e w' => e = .returned (.int .i64 (k + kTbl t)) ∧ OwT w' lo w0 v (mTbl k t) L := by
  obtain ⟨cv, rvs, rv, hv, rfl, H⟩ := h
  have hK : Hid (kTbl t = kHeap t.store + t.hands.length) := Go.Lib.hid rfl
  rw [hK.out] at h1
  obtain ⟨C, c, rfl, -⟩ := H.formC 0 rfl
  obtain ⟨R, r, rfl, -⟩ := H.formI 1 rfl
  obtain ⟨E, f, rfl, -⟩ := H.formI 2 rfl
  have H1 := H.box [.slice C t.store.cells.length c, .slice R t.store.roots.length r, .slice E t.hands.length f] 50
  obtain ⟨a0, a1, a2, -, -, -⟩ := H1.box3 0 rfl
  go_enter Try.func32, Try.ntmps32
  go_wp2_with fail
  refine (markHeap_own H1 1 2 (by decide) rfl rfl k h0 (by show k + kHeap t.store ≤ _; omega)).mono ?_
  rintro e w1 ⟨rfl, H2⟩
  have hk2 : Hid (kHeap ⟨t.store.cells, t.store.roots⟩ = kHeap t.store) := Go.Lib.hid rfl
  rw [hk2.out]
  simp only [List.set_cons_zero, List.set_cons_succ] at H2
  clear a0 a1 a2
  obtain ⟨a0, a1, a2, -, -, -⟩ := H2.box3 0 rfl
  go_wp2_with fail
  refine (H2.markI 3 rfl (k + kHeap t.store) (by omega) (by omega)).mono ?_
  rintro e w2 ⟨rfl, H3⟩
  have H4 := H3.drop 1
  have HT : Hid (OwT w2 lo w0 (.agg #[.slice C t.store.cells.length c, .slice R t.store.roots.length r, .slice E t.hands.length f]) (mTbl k t) L) := Go.Lib.hid ⟨_, rvs, _, _, rfl, H4⟩
  clear a0 a1 a2 H2 H3 H4
  go_wp2
  go_ret
  exact ⟨ret_i (by rw [hK.out]; omega), HT.out⟩
theorem heldTable_any (w : World) (B : Nat) (v : Value) (t : Tbl) (k : Int) (hh : RdT w B v (mTbl k t)) (h0 : 0 ≤ k) (h1 : k + kTbl t ≤ 1099511627776) :
    Calls Try.prog 35 #[v, .int .i64 k] w fun e w' => e = .returned (.int .i64 (k + kTbl t)) ∧ Below w.heap.size w w' := by
  have hK : Hid (kTbl t = kHeap t.store + t.hands.length) := Go.Lib.hid rfl
  rw [hK.out] at h1
  obtain ⟨D, m, d, D', m', d', E, q, f, rfl, hC, hR, hE⟩ := hh.top
  have H1 := (Owns.nil w).box [.slice D m d, .slice D' m' d', .slice E q f] 50
  obtain ⟨a0, a1, a2, -, -, -⟩ := H1.box3 0 rfl
  have hR2 : RdH w w.heap.size (.agg #[.slice D m d, .slice D' m' d']) (mHeap k t.store) := ⟨_, _, _, _, _, _, rfl, hC, hR⟩
  have hE2 : RdI w w.heap.size E q f (marks (k + kHeap t.store) t.hands.length) := hE
  clear hh hE
  go_enter Try.func35, Try.ntmps35
  go_wp2_with fail
  refine (heldHeap_any _ _ _ t.store k (hR2.below H1.below) h0 (by omega)).mono ?_
  rintro e w1 ⟨rfl, hb⟩
  have H2 := H1.call hb
  clear a0 a1 a2 H1
  obtain ⟨a0, a1, a2, -, -, -⟩ := H2.box3 0 rfl
  go_wp2_with fail
  refine (heldInts_any _ _ _ _ _ (k + kHeap t.store) t.hands.length (hE2.below H2.below) (by omega) (by omega)).mono ?_
  rintro e w2 ⟨rfl, hw2⟩
  obtain rfl := hw2
  have HB := H2.below
  go_wp2
  go_ret
  exact ⟨ret_i (by rw [hK.out]; omega), HB⟩
end Go.Proofs.Ytoekikeomgfaiaa
