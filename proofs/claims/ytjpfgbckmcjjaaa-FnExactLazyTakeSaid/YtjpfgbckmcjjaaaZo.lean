/- Marking lazy heaps that a call owns; lazy heaps that hold their marks; a lazy heap among the arguments of a law. -/
import Derived.Test.YtjpfgbckmcjjaaaZb
import Derived.Test.YtjpfgbckmcjjaaaZ0
import Derived.Deep.Grids
namespace Go.Proofs.Ytjpfgbckmcjjaaa
open Go.RowKit
def OwZ (w : World) (lo : Nat) (w0 : World) (v : Value) (l0 : Lz) (L : List OB) : Prop :=
  ∃ cv rvs rv mv, v = .agg #[cv, rv, mv, .int .i64 l0.at_] ∧ Owns lo w0 w (.cells cv rvs l0.store.cells :: .ints rv l0.store.roots :: .bools mv l0.marks :: L)
def mLzz (k : Int) (l0 : Lz) : Lz := ⟨mHeap k l0.store, markB (k + kHeap l0.store) l0.marks.length, l0.at_⟩
def kLzz (l0 : Lz) : Nat := kHeap l0.store + l0.marks.length
theorem Owns.markBI {lo : Nat} {w0 w : World} {L : List OB} (h : Owns lo w0 w L) (i : Nat) {v : Value} {xs : List Bool} (hX : L[i]? = some (.bools v xs)) (k : Int) (h0 : 0 ≤ k) (h1 : k + xs.length ≤ 1099511627776) :
    Calls Try.prog 95 #[v, .int .i64 k] w fun e w' => e = .returned (.int .i64 (k + xs.length)) ∧ Owns lo w0 w' (L.set i (.bools v (markB k xs.length))) :=
  (markBools_any w lo w.heap.size v xs k (h.owB i hX) h0 h1).mono fun e w' ⟨he, ho, hg⟩ => ⟨he, h.grow i hX ho.own hg (.inl rfl)⟩
theorem markLazy_own {lo : Nat} {w0 w : World} {v : Value} {l0 : Lz} {L : List OB} (h : OwZ w lo w0 v l0 L) (k : Int) (h0 : 0 ≤ k) (h1 : k + kLzz l0 ≤ 1099511627776) :
    Calls Try.prog 45 #[v, .int .i64 k] w fun e w' => e = .returned (.int .i64 (k + kLzz l0)) ∧ OwZ w' lo w0 v (mLzz k l0) L := by
  obtain ⟨cv, rvs, rv, hv, rfl, H⟩ := h
  have hK : Hid (kLzz l0 = kHeap l0.store + l0.marks.length) := Go.Lib.hid rfl
  rw [hK.out] at h1
  obtain ⟨C, c, rfl, -⟩ := H.formC 0 rfl
  obtain ⟨R, r, rfl, -⟩ := H.formI 1 rfl
  obtain ⟨E, f, rfl, -⟩ := H.formB 2 rfl
  have H1 := H.box [.slice C l0.store.cells.length c, .slice R l0.store.roots.length r, .slice E l0.marks.length f, .int .i64 l0.at_] 50
  obtain ⟨a0, a1, a2, a3, -, -, -, -⟩ := box4 H1 0 rfl
  go_enter Try.func45, Try.ntmps45
  go_wp2_with fail
  refine (markHeap_own H1 1 2 (by decide) rfl rfl k h0 (by show k + kHeap l0.store ≤ _; omega)).mono ?_
  rintro e w1 ⟨rfl, H2⟩
  have hk2 : Hid (kHeap ⟨l0.store.cells, l0.store.roots⟩ = kHeap l0.store) := Go.Lib.hid rfl
  rw [hk2.out]
  simp only [List.set_cons_zero, List.set_cons_succ] at H2
  clear a0 a1 a2 a3
  obtain ⟨a0, a1, a2, a3, -, -, -, -⟩ := box4 H2 0 rfl
  go_wp2_with fail
  refine (H2.markBI 3 rfl (k + kHeap l0.store) (by omega) (by omega)).mono ?_
  rintro e w2 ⟨rfl, H3⟩
  have H4 := H3.drop 1
  have HT : Hid (OwZ w2 lo w0 (.agg #[.slice C l0.store.cells.length c, .slice R l0.store.roots.length r, .slice E l0.marks.length f, .int .i64 l0.at_]) (mLzz k l0) L) := Go.Lib.hid ⟨_, rvs, _, _, rfl, H4⟩
  clear a0 a1 a2 a3 H2 H3 H4
  go_wp2
  go_ret
  exact ⟨ret_i (by rw [hK.out]; omega), HT.out⟩
theorem heldLazy_any (w : World) (B : Nat) (v : Value) (l0 : Lz) (k : Int) (hh : RdZ w B v (mLzz k l0)) (h0 : 0 ≤ k) (h1 : k + kLzz l0 ≤ 1099511627776) :
    Calls Try.prog 46 #[v, .int .i64 k] w fun e w' => e = .returned (.int .i64 (k + kLzz l0)) ∧ Below w.heap.size w w' := by
  have hK : Hid (kLzz l0 = kHeap l0.store + l0.marks.length) := Go.Lib.hid rfl
  rw [hK.out] at h1
  obtain ⟨D, m, d, D', m', d', E, q, f, rfl, hC, hR, hE⟩ := hh.top
  have H1 := (Owns.nil w).box [.slice D m d, .slice D' m' d', .slice E q f, .int .i64 (mLzz k l0).at_] 50
  obtain ⟨a0, a1, a2, a3, -, -, -, -⟩ := box4 H1 0 rfl
  have hR2 : RdH w w.heap.size (.agg #[.slice D m d, .slice D' m' d']) (mHeap k l0.store) := ⟨_, _, _, _, _, _, rfl, hC, hR⟩
  have hE2 : RdB w w.heap.size E q f (markB (k + kHeap l0.store) l0.marks.length) := hE
  clear hh hE
  go_enter Try.func46, Try.ntmps46
  go_wp2_with fail
  refine (heldHeap_any _ _ _ l0.store k (hR2.below H1.below) h0 (by omega)).mono ?_
  rintro e w1 ⟨rfl, hb⟩
  have H2 := H1.call hb
  clear a0 a1 a2 a3 H1
  obtain ⟨a0, a1, a2, a3, -, -, -, -⟩ := box4 H2 0 rfl
  go_wp2_with fail
  refine (heldBools_any _ _ _ _ _ (k + kHeap l0.store) l0.marks.length (hE2.below H2.below) (by omega) (by omega)).mono ?_
  rintro e w2 ⟨rfl, hw2⟩
  obtain rfl := hw2
  have HB := H2.below
  go_wp2
  go_ret
  exact ⟨ret_i (by rw [hK.out]; omega), HB⟩
section
open Go.ChangeShapes Go.WideShapes Go.Deep Go.Joins
variable {H : Type} {enc : TypeId × Value → H} {w : World} {base : Nat} {held : Bool}
theorem Try.cellsZLazy : Try.prog.cellsOf 64 = 4 := by kernel_rfl
theorem Try.cellsZHeap : Try.prog.cellsOf 62 = 2 := by kernel_rfl
theorem Try.cellsZInt : Try.prog.cellsOf 3 = 1 := by kernel_rfl
theorem Try.cellsZBool : Try.prog.cellsOf 4 = 1 := by kernel_rfl
theorem Try.cellsZInts : Try.prog.cellsOf 24 = 1 := by kernel_rfl
theorem Try.cellsZBools : Try.prog.cellsOf 35 = 1 := by kernel_rfl
theorem Try.cellsZCells : Try.prog.cellsOf 60 = 1 := by kernel_rfl
set_option maxRecDepth 100000 in
theorem open_bools_trod {fuel : Nat} {v : Value} {x : DataW H × List MemPlace} (h : DataW.trod enc Try.prog w base (fun _ => true) held fuel 35 [v] = some x) :
    ∃ A n c bs, v = .slice A n c ∧ RdB w w.heap.size A n c bs := by
  rcases open_bools Try.underlying35 Try.underlying4 Try.cellsZBool h with ⟨hcs, _⟩ | ⟨a, len, cap, Bf, hcs, _, hl, hm, _, hcell⟩
  · simp only [List.cons.injEq, and_true] at hcs
    subst hcs
    exact ⟨none, 0, 0, [], rfl, rdV_nil _ _⟩
  · simp only [List.cons.injEq, and_true] at hcs
    subst hcs
    refine ⟨some a, len, cap, (List.range len).map Bf, rfl, ⟨by simp, hl, hm, fun hn => ?_⟩⟩
    obtain ⟨b, o, s⟩ := a
    have h0 := hcell 0 (by omega)
    obtain rfl := spot_none (s := s) (by simpa [Addr.add] using h0)
    have hat : ∀ j u, (((List.range len).map Bf).map Value.bool)[j]? = some u → w.cell? ⟨b, o + j, none⟩ = some u := by
      intro j u hu
      obtain ⟨hj, hju⟩ := List.getElem?_eq_some_iff.1 hu
      have hj' : j < len := by simpa using hj
      have := hcell j (by omega)
      rw [Addr.add_lit] at this
      rw [this, ← hju]
      simp
    exact ⟨b, o, rfl, lt_of_cell (hat 0 _ (List.getElem?_eq_getElem (by simp; omega))), hat⟩
end
end Go.Proofs.Ytjpfgbckmcjjaaa
