/- Tables: what can be read of them, and the laws' functions on them (size, copy, comparison). -/
import Derived.Test.YtoekikeomgfaiaaSt
import Derived.Test.YtoekikeomgfaiaaSz
import Derived.Test.YtoekikeomgfaiaaEq
import Derived.Test.YtoekikeomgfaiaaTo
namespace Go.Proofs.Ytoekikeomgfaiaa
open Go.RowKit
structure Tbl where
  store : Hp
  hands : List Int
def RdT (w : World) (B : Nat) (v : Value) (t : Tbl) : Prop :=
  ∃ A n c A' n' c' E q f, v = .agg #[.slice A n c, .slice A' n' c', .slice E q f] ∧ RdC w B A n c t.store.cells ∧ RdI w B A' n' c' t.store.roots ∧ RdI w B E q f t.hands
theorem RdT.below {w w' : World} {B : Nat} {v : Value} {t : Tbl} (hh : RdT w B v t) (hb : Below B w w') : RdT w' B v t :=
  let ⟨A, n, c, A', n', c', E, q, f, e, h1, h2, h3⟩ := hh
  ⟨A, n, c, A', n', c', E, q, f, e, h1.below hb, h2.below hb, h3.below hb⟩
theorem RdT.mono {w : World} {B B' : Nat} {v : Value} {t : Tbl} (hh : RdT w B v t) (hb : B ≤ B') : RdT w B' v t :=
  let ⟨A, n, c, A', n', c', E, q, f, e, h1, h2, h3⟩ := hh
  ⟨A, n, c, A', n', c', E, q, f, e, h1.mono hb, h2.mono hb, h3.mono hb⟩
theorem RdT.top {w : World} {B : Nat} {v : Value} {t : Tbl} (hh : RdT w B v t) : RdT w w.heap.size v t :=
  let ⟨A, n, c, A', n', c', E, q, f, e, h1, h2, h3⟩ := hh
  ⟨A, n, c, A', n', c', E, q, f, e, h1.top, h2.top, h3.top⟩
def tblBulk (t : Tbl) : Nat := cellsBulk t.store.cells + t.store.roots.length + t.hands.length
/-- A call makes a table: three parts of its own. -/
def OwT (w : World) (lo : Nat) (w0 : World) (v : Value) (t : Tbl) (L : List OB) : Prop :=
  ∃ cv rvs rv hv, v = .agg #[cv, rv, hv] ∧ Owns lo w0 w (.cells cv rvs t.store.cells :: .ints rv t.store.roots :: .ints hv t.hands :: L)
def MadeT (w : World) (t : Tbl) (e : Ending) (w' : World) : Prop := ∃ v, e = .returned v ∧ OwT w' w.heap.size w v t []
def T0 (t : Tbl) : Nat := cellsBulk t.store.cells + t.store.roots.length
theorem szTable_any (w : World) (B : Nat) (v : Value) (t : Tbl) (l : Int) (hh : RdT w B v t) (h0 : 0 ≤ l) (h1 : l ≤ 1048576) :
    Calls Try.prog 27 #[v, .int .i64 l] w fun e w' => e = .returned (.int .i64 (szI (tblBulk t) l)) ∧ Below w.heap.size w w' := by
  have hh' := hh.top
  obtain ⟨D, m, d, D', m', d', E, q, f, rfl, hC, hR, hE⟩ := hh.top
  have hm : q ≤ maxLen := Nat.le_trans hE.cap hE.mx
  obtain rfl : q = t.hands.length := by have := hE.le1; have := hE.le2; omega
  have H1 := (Owns.nil w).box [.slice D m d, .slice D' m' d', .slice E t.hands.length f] 46
  obtain ⟨a0, a1, a2, -, -, -⟩ := H1.box3 0 rfl
  have hR2 : RdH w w.heap.size (.agg #[.slice D m d, .slice D' m' d']) t.store := ⟨_, _, _, _, _, _, rfl, hC, hR⟩
  go_enter Try.func27, Try.ntmps27
  go_wp2_with fail
  refine (szHeap_any _ _ _ t.store l (hR2.below H1.below) h0 h1).mono ?_
  rintro e w1 ⟨rfl, hb1⟩
  have H2 := H1.call hb1
  clear a0 a1 a2
  obtain ⟨a0, a1, a2, -, -, -⟩ := H2.box3 0 rfl
  have HE := fun hq => Go.Lib.hid (show _ = szI (tblBulk t) l from szI_add (cellsBulk t.store.cells + t.store.roots.length) t.hands.length l hq)
  have HN : (T0 t : Int) > l → Hid (szI (tblBulk t) l = -1) := fun hq => Go.Lib.hid (szI_no (by unfold T0 at hq; unfold tblBulk; omega))
  unfold T0 at HN
  generalize cellsBulk t.store.cells + t.store.roots.length = T at *
  have HB := H2.below
  clear H1 H2
  by_cases hq : (T : Int) ≤ l
  · rw [szI_yes hq]
    replace HE := HE hq
    go_wp2_with fail
    refine (szInts_any E t.hands.length f _ _ hm (by omega) (by omega)).mono ?_
    rintro e w2 ⟨rfl, hw2⟩
    obtain rfl := hw2
    by_cases hq2 : (t.hands.length : Int) ≤ l - T
    · rw [szI_yes hq2]
      go_wp2
      go_ret
      exact ⟨ret_i (by rw [← HE.out, szI_yes hq2]), HB⟩
    · rw [szI_no (by omega)]
      go_wp2
      go_ret
      exact ⟨ret_i (by rw [← HE.out, szI_no (by omega)]), HB⟩
  · rw [szI_no (by omega)]
    go_wp2
    go_ret
    exact ⟨ret_i (HN (by omega)).out.symm, HB⟩
theorem eqTable_any (w : World) (B B' : Nat) (u v : Value) (t : Tbl) (h1 : RdT w B u t) (h2 : RdT w B' v t) :
    Calls Try.prog 31 #[u, v] w fun e w' => e = .returned (.bool true) ∧ Below w.heap.size w w' := by
  obtain ⟨D, m, d, D', m', d', E, q, f, rfl, hC, hR, hE⟩ := h1.top
  obtain ⟨P, r, s, P', r', s', F, i, j, rfl, kC, kR, kE⟩ := h2.top
  have H1 := ((Owns.nil w).box [.slice D m d, .slice D' m' d', .slice E q f] 50).box [.slice P r s, .slice P' r' s', .slice F i j] 50
  simp only [World.size_alloc] at H1
  obtain ⟨a0, a1, a2, -, -, -⟩ := H1.box3 0 rfl
  obtain ⟨b0, b1, b2, -, -, -⟩ := H1.box3 1 rfl
  have hR2 : RdH w w.heap.size (.agg #[.slice D m d, .slice D' m' d']) t.store := ⟨_, _, _, _, _, _, rfl, hC, hR⟩
  have kR2 : RdH w w.heap.size (.agg #[.slice P r s, .slice P' r' s']) t.store := ⟨_, _, _, _, _, _, rfl, kC, kR⟩
  go_enter Try.func31, Try.ntmps31
  go_wp2_with fail
  refine (eqHeap_any _ _ _ _ _ t.store (hR2.below H1.below) (kR2.below H1.below)).mono ?_
  rintro e w1 ⟨rfl, hb1⟩
  have H2 := H1.call hb1
  clear a0 a1 a2 b0 b1 b2 H1
  obtain ⟨a0, a1, a2, -, -, -⟩ := H2.box3 0 rfl
  obtain ⟨b0, b1, b2, -, -, -⟩ := H2.box3 1 rfl
  go_wp2_with fail
  refine (eqInts_any _ _ _ _ _ _ _ _ _ t.hands (hE.below H2.below) (kE.below H2.below)).mono ?_
  rintro e w2 ⟨rfl, hb2⟩
  have HB := (H2.call hb2).below
  go_wp2
  go_ret
  exact ⟨rfl, HB⟩
theorem toTable_any (w : World) (B : Nat) (v : Value) (t : Tbl) (hh : RdT w B v t) (hs : Small t.store) (hs2 : t.hands.length ≤ 1048576) :
    Calls Try.prog 29 #[v] w (MadeT w t) := by
  obtain ⟨D, m, d, D', m', d', E, q, f, rfl, hC, hR, hE⟩ := hh.top
  obtain rfl : q = t.hands.length := by have := hE.le1; have := hE.le2; omega
  have H1 := (((Owns.nil w).box [.slice D m d, .slice D' m' d', .slice E t.hands.length f] 46).box [.slice none 0 0, .slice none 0 0, .slice none 0 0] 50).box [.slice none 0 0, .slice none 0 0, .slice none 0 0] 50
  simp only [World.size_alloc] at H1
  obtain ⟨a0, a1, a2, -, -, -⟩ := H1.box3 2 rfl
  obtain ⟨b0, b1, b2, b3, b4, b5⟩ := H1.box3 1 rfl
  obtain ⟨c0, c1, c2, c3, c4, c5⟩ := H1.box3 0 rfl
  have hR2 : RdH w w.heap.size (.agg #[.slice D m d, .slice D' m' d']) t.store := ⟨_, _, _, _, _, _, rfl, hC, hR⟩
  go_enter Try.func29, Try.ntmps29
  go_wp2_with fail
  refine (toHeap_any _ _ _ t.store (hR2.below H1.below) hs).mono ?_
  rintro e w1 ⟨v1, rfl, ho, hb1⟩
  obtain ⟨cv, rvs, rv, rfl, H2⟩ := H1.madeH ho hb1
  clear H1 ho hb1 a0 a1 a2 b0 b1 b2 b3 b4 b5 c0 c1 c2 c3 c4 c5
  obtain ⟨A2, k2, rfl, -⟩ := H2.formC 0 rfl
  obtain ⟨A3, k3, rfl, -⟩ := H2.formI 1 rfl
  obtain ⟨c0, c1, c2, c3, c4, c5⟩ := H2.box3 2 rfl
  have H3 := (H2.putBox 2 rfl 0 (.slice A2 t.store.cells.length k2)).putBox 2 rfl 1 (.slice A3 t.store.roots.length k3)
  simp only [List.set_cons_zero, List.set_cons_succ] at H3
  obtain ⟨a0, a1, a2, -, -, -⟩ := H3.box3 4 rfl
  go_wp2_with fail
  refine (toInts_any _ _ E t.hands.length f t.hands (hE.below H3.below) hs2).mono ?_
  rintro e w2 ⟨hv, rfl, ho, hb2⟩
  have H4 := H3.madeI ho hb2
  obtain ⟨A4, k4, rfl, -⟩ := H4.formI 0 rfl
  clear H2 H3 ho hb2 a0 a1 a2 c0 c1 c2 c3 c4 c5
  obtain ⟨c0, c1, c2, c3, c4, c5⟩ := H4.box3 3 rfl
  have H5 := H4.putBox 3 rfl 2 (.slice A4 t.hands.length k4)
  simp only [List.set_cons_zero, List.set_cons_succ] at H5
  obtain ⟨b0, b1, b2, b3, b4, b5⟩ := H5.box3 4 rfl
  obtain ⟨d0, d1, d2, d3, d4, d5⟩ := H5.box3 3 rfl
  have H6 := ((H5.putBox 4 rfl 0 (.slice A2 t.store.cells.length k2)).putBox 4 rfl 1 (.slice A3 t.store.roots.length k3)).putBox 4 rfl 2 (.slice A4 t.hands.length k4)
  simp only [List.set_cons_zero, List.set_cons_succ] at H6
  obtain ⟨e0, e1, e2, -, -, -⟩ := H6.box3 4 rfl
  go_wp2
  refine bodyPost_ret (v := .agg #[.slice A2 t.store.cells.length k2, .slice A3 t.store.roots.length k3, .slice A4 t.hands.length k4]) (by simp [results, Try.results29, go_sem, e0, e1, e2]) rfl ⟨_, rfl, _, _, _, _, rfl, H6.order [1, 2, 0] (by decide) rfl⟩
end Go.Proofs.Ytoekikeomgfaiaa
