/- TableValid, the program's: it returns mTableValid, for every table that can be read. -/
import Derived.Test.YtnpehidhoekfcaaTh
import Derived.Test.YtnpehidhoekfcaaSet
import Derived.Test.YtnpehidhoekfcaaHvI
namespace Go.Proofs.Ytnpehidhoekfcaa
open Go.RowKit
def handAt (hs : List Int) (k : Nat) : Bool := decide (0 ≤ hs.getD k 0) && decide (hs.getD k 0 < hs.length) && !(hs.take k).contains (hs.getD k 0)
def permB (hs : List Int) : Bool := (List.range hs.length).all (handAt hs)
def mTableValid (t : Tbl) : Bool := decide (t.hands.length = t.store.cells.length) && decide (t.hands.length ≤ 40) && permB t.hands && heapOk (tellH t)
theorem mTab_no1 {t : Tbl} (h : t.hands.length ≠ t.store.cells.length) : mTableValid t = false := by simp [mTableValid, h]
theorem mTab_no2 {t : Tbl} (h : 40 < t.hands.length) : mTableValid t = false := by
  have : decide (t.hands.length ≤ 40) = false := by simp; omega
  simp [mTableValid, this]
theorem permB_no {hs : List Int} {k : Nat} (hk : k < hs.length) (h : handAt hs k = false) : permB hs = false := by
  unfold permB
  rw [List.all_eq_false]
  exact ⟨k, List.mem_range.2 hk, by rw [h]; exact Bool.false_ne_true⟩
theorem permB_yes {hs : List Int} (h : ∀ k, k < hs.length → handAt hs k = true) : permB hs = true := by
  unfold permB
  rw [List.all_eq_true]
  exact fun k hk => h k (List.mem_range.1 hk)
theorem mTab_no3 {t : Tbl} {k : Nat} (hk : k < t.hands.length) (h : handAt t.hands k = false) : mTableValid t = false := by
  simp [mTableValid, permB_no hk h]
theorem mTab_yes {t : Tbl} (h1 : t.hands.length = t.store.cells.length) (h2 : t.hands.length ≤ 40) (h : ∀ k, k < t.hands.length → handAt t.hands k = true) : mTableValid t = heapOk (tellH t) := by
  simp [mTableValid, h1, permB_yes h]; omega
theorem handAt_no {hs : List Int} {k : Nat} {x : Int} (hx : Hid (hs[k]? = some x)) (h : x < 0 ∨ (hs.length : Int) ≤ x) : handAt hs k = false := by
  unfold handAt
  rw [getD_of hx]
  rcases h with h | h
  · have : decide (0 ≤ x) = false := by simp; omega
    rw [this]; rfl
  · have : decide (x < (hs.length : Int)) = false := by simp; omega
    rw [this]; simp
theorem handAt_met {hs : List Int} {k : Nat} {x : Int} (hx : Hid (hs[k]? = some x)) (h : (hs.take k).contains x = true) : handAt hs k = false := by
  unfold handAt
  rw [getD_of hx, h]; simp
theorem handAt_yes {hs : List Int} {k : Nat} {x : Int} (hx : Hid (hs[k]? = some x)) (h0 : 0 ≤ x) (h1 : x < (hs.length : Int)) (h : (hs.take k).contains x = false) : handAt hs k = true := by
  unfold handAt
  rw [getD_of hx, h]; simp [h0, h1]
theorem hands_succ {hs : List Int} {k : Nat} (h : ∀ j, j < k → handAt hs j = true) (hk : handAt hs k = true) : ∀ j, j < k + 1 → handAt hs j = true := by
  intro j hj
  rcases Nat.lt_or_ge j k with h1 | h1
  · exact h j h1
  · obtain rfl : j = k := by omega
    exact hk
theorem contains_snoc {hs : List Int} {k : Nat} {x y : Int} (hx : Hid (hs[k]? = some x)) : (hs.take (k + 1)).contains y = ((hs.take k).contains y || decide (y = x)) := by
  rw [take_snoc' hx]
  simp only [List.contains_append, List.contains_cons, List.contains_nil, Bool.or_false]
  congr 1
set_option maxHeartbeats 1600000 in
set_option maxRecDepth 20000 in
theorem implTableValid_any (w : World) (B : Nat) (v : Value) (t : Tbl) (hh : RdT w B v t) (hn : t.store.cells.length ≤ 1048576) (hn2 : t.store.roots.length ≤ 1048576) (hn3 : ∀ c ∈ t.store.cells, c.refs.length ≤ 1048576) (hn4 : t.hands.length ≤ 1048576) :
    Calls Try.prog 23 #[v] w fun e w' => e = .returned (.bool (mTableValid t)) ∧ Below w.heap.size w w' := by
  have hh' := hh.top
  obtain ⟨D, m, d, D', m', d', E, q, f, rfl, hC, hR, hE⟩ := hh.top
  have l3 := hC.le1; have l4 := hC.le2
  have l5 := RdI.le1 hE; have l6 := RdI.le2 hE
  have H1 := (Owns.nil w).box [.slice D m d, .slice D' m' d', .slice E q f] 42
  obtain ⟨a0, a1, a2, -, -, -⟩ := H1.box3 0 rfl
  by_cases c1 : q = m
  rotate_left
  · have HF := Go.Lib.hid (mTab_no1 (t := t) (by omega))
    have k1 : ((q : Int) != (m : Int)) = true := by simp; omega
    have HB := H1.below
    go_enter Try.func23, Try.ntmps23
    go_wp2
    go_ret
    exact ⟨ret_b HF.out.symm, HB⟩
  subst c1
  by_cases c2 : 40 < q
  · have HF := Go.Lib.hid (mTab_no2 (t := t) (by omega))
    have HB := H1.below
    go_enter Try.func23, Try.ntmps23
    go_wp2
    go_ret
    exact ⟨ret_b HF.out.symm, HB⟩
  have H2 := H1.box [.int .u64 (0 : Nat)] 80
  simp only [World.size_alloc] at H2
  go_enter Try.func23, Try.ntmps23
  go_wp2_with fail
  go_loopw [23] (fun i wr => ∃ k M : Nat, i = .int .i64 k ∧ k ≤ q ∧ M < 2 ^ 64 ∧ (∀ x, hasB M x = (t.hands.take k).contains x) ∧ (∀ j, j < k → handAt t.hands j = true) ∧ Owns w.heap.size w wr [.box (w.heap.size + 1) [.int .u64 M] 80, .box w.heap.size [.slice D q d, .slice D' m' d', .slice E q f] 42]) (fun i _ => q - (intOf i).toNat)
  case atStart => exact ⟨0, 0, rfl, Nat.zero_le _, by decide, fun x => by simp [hasB], fun j hj => by omega, H2⟩
  case round =>
    clear H1 H2 a0 a1 a2
    obtain ⟨k, M, rfl, hk, hM, hS, hall, H⟩ := hrel
    obtain ⟨a0, a1, a2, -, -, -⟩ := H.box3 1 rfl
    obtain ⟨x0, xf⟩ := H.box1 0 rfl
    by_cases hlt : k < q
    · obtain ⟨b, o, x, rfl, hbb, hx, q1⟩ := RdI.at_ hE hlt
      have g1 := H.ro q1 hbb
      have HS := fun y => contains_snoc (y := y) hx
      by_cases c3 : x < 0
      · have HF := Go.Lib.hid (mTab_no3 (by omega) (handAt_no hx (.inl c3)))
        have HB := H.below
        clear hall hS HS hM
        go_wp2
        go_ret
        exact ⟨ret_b HF.out.symm, HB⟩
      by_cases c4 : (q : Int) ≤ x
      · have HF := Go.Lib.hid (mTab_no3 (by omega) (handAt_no hx (.inr (by omega))))
        have HB := H.below
        clear hall hS HS hM
        go_wp2
        go_ret
        exact ⟨ret_b HF.out.symm, HB⟩
      cases c5 : (t.hands.take k).contains x
      · have HA := Go.Lib.hid (hands_succ hall (handAt_yes hx (by omega) (by omega) c5))
        have HH := Go.Lib.hid ((hS x).trans c5)
        have HN : Hid (∀ y, hasB (addB M x) y = (t.hands.take (k + 1)).contains y) := Go.Lib.hid fun y => by rw [addB_has (by omega), hS y, HS]
        have HM := Go.Lib.hid hM
        have HL := Go.Lib.hid (addB_lt (r := x) hM (by omega) (by omega))
        clear hall hS HS hM c5
        go_wp2_with fail
        refine (has_any _ x _ HM.out).mono ?_
        rintro e w5 ⟨rfl, hw5⟩
        obtain rfl := hw5
        rw [HH.out]
        go_wp2_with fail
        refine (add_own H 0 rfl x HM.out (by omega) (by omega)).mono ?_
        rintro e w6 ⟨⟨u, rfl⟩, H3⟩
        clear x0 xf a0 a1 a2 g1
        go_wp2
        go_roundw
        case rel => exact ⟨k + 1, addB M x, by go_num, by omega, HL.out, HN.out, HA.out, H3⟩
        case measure => simp [intOf]; omega
      · have HF := Go.Lib.hid (mTab_no3 (by omega) (handAt_met hx c5))
        have HH := Go.Lib.hid ((hS x).trans c5)
        have HM := Go.Lib.hid hM
        have HB := H.below
        clear hall hS HS hM c5
        go_wp2_with fail
        refine (has_any _ x _ HM.out).mono ?_
        rintro e w5 ⟨rfl, hw5⟩
        obtain rfl := hw5
        rw [HH.out]
        go_wp2
        go_ret
        exact ⟨ret_b HF.out.symm, HB⟩
    · have HF := Go.Lib.hid (mTab_yes (t := t) (by omega) (by omega) fun j hj => hall j (by omega))
      clear hall hS hM
      go_wp2_with fail
      refine (tabHeap_any _ _ _ t (hh'.below H.below) hn hn2 hn3 hn4).mono ?_
      rintro e w3 ⟨v3, rfl, ho, hb⟩
      have HB := H.below.trans (hb.mono H.below.size)
      go_wp2_with fail
      refine (heapValid_any _ _ _ (tellH t) ho.rd).mono ?_
      rintro e w4 ⟨rfl, hb4⟩
      have HB2 := HB.trans (hb4.mono HB.size)
      clear x0 xf a0 a1 a2
      go_wp2
      go_ret
      exact ⟨ret_b HF.out.symm, HB2⟩
end Go.Proofs.Ytnpehidhoekfcaa
