/- The reference's SaveImage makes the list mSaveImage, for every heap that can be read and every base. -/
import Derived.Test.YtjpfgbckmcjjaaaRg
import Derived.Test.YtjpfgbckmcjjaaaZ0
namespace Go.Proofs.Ytjpfgbckmcjjaaa
open Go.RowKit
def saveRef (base x : Int) : Int := if x < 0 then 0 else base + x + 1
def saveCell (base : Int) (c : Cel) : List Int := if c.used then (((c.refs.length : Int) + 1) :: c.data :: c.refs.map (saveRef base)) else [0]
def saveAll (h : Hp) (base : Int) : List Int := base :: (h.cells.length : Int) :: (h.roots.map (saveRef base) ++ h.cells.flatMap (saveCell base))
def baseOk (base : Int) : Bool := decide (0 ≤ base) && decide (base ≤ 10000)
def mSaveImage (h : Hp) (base : Int) : List Int := if heapOk h && baseOk base then saveAll h base else []
theorem mSave_no1 {h : Hp} {base : Int} (h1 : heapOk h = false) : mSaveImage h base = [] := by simp [mSaveImage, h1]
theorem mSave_no2 {h : Hp} {base : Int} (h1 : base < 0 ∨ 10000 < base) : mSaveImage h base = [] := by unfold mSaveImage baseOk; rw [if_neg]; simp; intros; omega
theorem mSave_yes {h : Hp} {base : Int} (h1 : heapOk h = true) (h2 : 0 ≤ base) (h3 : base ≤ 10000) : mSaveImage h base = saveAll h base := by simp [mSaveImage, baseOk, h1, h2, h3]
theorem heapOk_cells {h : Hp} (h0 : heapOk h = true) : h.cells.length ≤ 40 := by simp [heapOk] at h0; omega
theorem heapOk_roots4 {h : Hp} (h0 : heapOk h = true) : h.roots.length = 4 := by simp [heapOk] at h0; omega
theorem heapOk_cell {h : Hp} (h0 : heapOk h = true) {k : Nat} {l : Cel} (hl : Hid (h.cells[k]? = some l)) : l.refs.length ≤ 3 ∧ 0 ≤ l.data ∧ l.data ≤ 99 := by
  have hc : cellOk h.cells l = true := by
    simp only [heapOk, Bool.and_eq_true, List.all_eq_true] at h0
    exact h0.1.2 l (List.mem_of_getElem? hl.out)
  unfold cellOk at hc
  split at hc
  · simp only [Bool.and_eq_true, decide_eq_true_eq] at hc; omega
  · simp only [Bool.and_eq_true, decide_eq_true_eq, beq_iff_eq] at hc; omega

theorem l24Save_any (x base : Int) (w : World) (h1 : x ≤ 100) (h2 : 0 ≤ base) (h3 : base ≤ 10000) :
    Calls Try.prog 76 #[.int .i64 x, .int .i64 base] w fun e w' => e = .returned (.int .i64 (saveRef base x)) ∧ w = w' := by
  by_cases h : x < 0
  · have HF : Hid (saveRef base x = 0) := Go.Lib.hid (by simp [saveRef, h])
    go_enter Try.func76, Try.ntmps76
    go_wp2
    go_ret
    exact ⟨ret_i HF.out.symm, rfl⟩
  · have HF : Hid (saveRef base x = base + x + 1) := Go.Lib.hid (by simp [saveRef, h])
    go_enter Try.func76, Try.ntmps76
    go_wp2
    go_ret
    exact ⟨ret_i HF.out.symm, rfl⟩

theorem take_map_succ {α β : Type} {f : α → β} {l : List α} {k : Nat} {x : α} (h : Hid (l[k]? = some x)) : (l.take (k + 1)).map f = (l.take k).map f ++ [f x] := by
  obtain ⟨hk, rfl⟩ := List.getElem?_eq_some_iff.1 h.out
  rw [List.take_succ_eq_append_getElem hk, List.map_append]; rfl
theorem take_flat_succ {α β : Type} {f : α → List β} {l : List α} {k : Nat} {x : α} (h : Hid (l[k]? = some x)) : (l.take (k + 1)).flatMap f = (l.take k).flatMap f ++ f x := by
  obtain ⟨hk, rfl⟩ := List.getElem?_eq_some_iff.1 h.out
  rw [List.take_succ_eq_append_getElem hk, List.flatMap_append]; simp

/-- The list that has been made so far. -/
structure Out (lo : Nat) (w0 wr : World) (v : Value) (xs : List Int) (m : Nat) : Prop where
  own : OwI wr lo wr.heap.size v xs
  below : Below lo w0 wr
  small : xs.length ≤ m
theorem own_hi {w : World} {lo : Nat} {v : Value} {xs : List Int} (h : w.ownsRow lo 3 1 v xs.length (xs.map (Value.int .i64))) : OwI w lo w.heap.size v xs := ⟨h, fun k e => (h.lt k e).2⟩
theorem Out.alloc {lo : Nat} {w0 wr : World} {v : Value} {xs : List Int} {m : Nat} (h : Out lo w0 wr v xs m) (hz : lo ≤ wr.heap.size) (o : Obj) : Out lo w0 (wr.alloc o) v xs m :=
  ⟨own_hi (h.own.own.alloc o), h.below.alloc hz o, h.small⟩
theorem Out.push {lo : Nat} {w0 wr w3 : World} {v v1 : Value} {X ys : List Int} {m m' : Nat} (h : Out lo w0 wr v X m) (hz : lo ≤ wr.heap.size) (ho : OwI w3 lo w3.heap.size v1 (X ++ ys)) (hg : wr.grownBy w3 v.ownBlock) (hm : m + ys.length ≤ m') : Out lo w0 w3 v1 (X ++ ys) m' :=
  ⟨ho, h.below.grown hg hz fun k e => (h.own.own.lt k e).1, by have := h.small; simp; omega⟩
theorem box_far {w w' : World} {lo s n b : Nat} {e t : TypeId} {v : Value} {ys : List Value} {cur : Array Value} {q : Nat × Nat} (ho : w.ownsRow lo e s v n ys) (hb : w.heap[b]? = some (.cells cur t q)) (hne : t ≠ e) (hg : w.grownBy w' v.ownBlock) : w'.heap[b]? = some (.cells cur t q) := by
  refine (hg.block b (Array.getElem?_eq_some_iff.1 hb).1 fun k => ?_).trans hb
  rcases ho.2 with ⟨rfl, _⟩ | ⟨g, cap, cu, rfl, _, hx, _⟩
  · simp [Value.ownBlock] at k
  · simp [Value.ownBlock] at k
    subst k
    rw [hb] at hx
    injection hx with hx
    injection hx with _ hx
    exact hne hx
theorem Out.start {lo : Nat} {w0 wr : World} {v : Value} {X : List Int} {m : Nat} (h : Out lo w0 wr v X m) : Out lo wr wr v X m := ⟨h.own, Below.refl _ _, h.small⟩
theorem Out.join {lo : Nat} {w0 wr w3 : World} {v : Value} {X : List Int} {m m' : Nat} (hb : Below lo w0 wr) (h : Out lo wr w3 v X m) (hm : m ≤ m') : Out lo w0 w3 v X m' := ⟨h.own, hb.trans h.below, Nat.le_trans h.small hm⟩
theorem box_alloc {w : World} {b : Nat} {o : Obj} (h : w.heap[b]? = some o) (o' : Obj) : (w.alloc o').heap[b]? = some o := ((below_alloc w o').block b (Array.getElem?_eq_some_iff.1 h).1).trans h
theorem saveCell_no {base : Int} {c : Cel} (h : c.used = false) : saveCell base c = [0] := by simp [saveCell, h]
theorem saveCell_yes {base : Int} {c : Cel} (h : c.used = true) : saveCell base c = [(c.refs.length : Int) + 1, c.data] ++ c.refs.map (saveRef base) := by simp [saveCell, h]

set_option maxHeartbeats 3200000 in
set_option maxRecDepth 20000 in
theorem specSaveImage_any (w : World) (B : Nat) (v : Value) (h : Hp) (base : Int) (hh : RdH w B v h) (_ : I64 base) :
    Calls Try.prog 28 #[v, .int .i64 base] w (MadeI w (mSaveImage h base)) := by
  have hh' := hh.top
  obtain ⟨D, m, d, D', m', d', rfl, hC, hR⟩ := hh.top
  have hm1 := hC.mx; have hcap1 := hC.cap
  have l3 := hC.le1; have l4 := hC.le2
  have l5 := RdI.le1 hR; have l6 := RdI.le2 hR
  unfold maxLen at hm1
  go_enter Try.func28, Try.ntmps28
  go_wp2_with fail
  refine (specHeapValid_any _ _ _ h (hh'.below (below_alloc _ _))).mono ?_
  rintro e w1 ⟨rfl, hb⟩
  obtain ⟨a0, a1, hbw, hz⟩ := box2 (hb.mono (by simp))
  cases hy : heapOk h
  · have HF := Go.Lib.hid (mSave_no1 (base := base) hy)
    clear hy
    go_wp2
    go_ret
    rw [HF.out]
    exact ⟨_, rfl, ⟨own_empty _ _ _ _ hbw.size, fun k hk => by simp [Value.ownBlock] at hk; simp; omega⟩, hbw.alloc hbw.size _⟩
  have HY := Go.Lib.hid hy
  clear hy
  by_cases hbase : base < 0 ∨ 10000 < base
  · have HF := Go.Lib.hid (mSave_no2 (h := h) hbase)
    go_wp2_with fail
    refine (l1In_no _ _ _ _ hbase).mono ?_
    rintro e w2 ⟨rfl, hw2⟩
    obtain rfl := hw2.symm
    go_wp2
    go_ret
    rw [HF.out]
    exact ⟨_, rfl, ⟨own_empty _ _ _ _ hbw.size, fun k hk => by simp [Value.ownBlock] at hk; simp; omega⟩, hbw.alloc hbw.size _⟩
  have k3 : (0 : Int) ≤ base := by omega
  have k4 : base ≤ 10000 := by omega
  clear hbase
  have HE := Go.Lib.hid (mSave_yes HY.out k3 k4)
  have s1 := heapOk_cells HY.out
  have s2 : h.roots.length ≤ 4 := by have := heapOk_roots4 HY.out; omega
  go_wp2_with fail
  refine (l1In_yes _ _ _ _ k3 k4).mono ?_
  rintro e w2 ⟨rfl, hw2⟩
  obtain rfl := hw2.symm
  have hO : Out w1.heap.size w1 (w1.alloc (.cells #[.int .i64 base, .int .i64 m] 3)) (.slice (some ⟨w1.heap.size, 0, none⟩) 2 2) ([base, (h.cells.length : Int)] ++ (h.roots.take 0).map (saveRef base)) 10 := by
    refine ⟨own_hi ?_, below_alloc _ _, by simp⟩
    have := own_lit w1 3 w1.heap.size [Value.int .i64 base, .int .i64 m] (Nat.le_refl _) (by simp [maxLen])
    rw [show h.cells.length = m by omega]
    exact this
  have A0 := Go.Lib.hid (And.intro a0 a1)
  go_wp2_with fail
  go_loopw [5, 6] (fun v i wr => ∃ (k : Nat), i = .int .i64 k ∧ k ≤ m' ∧ Out w1.heap.size w1 wr v ([base, (h.cells.length : Int)] ++ (h.roots.take k).map (saveRef base)) (10 + k)) (fun _ i _ => m' - (intOf i).toNat)
  case atStart => exact ⟨0, rfl, Nat.zero_le _, hO⟩
  case round =>
    clear hO a0 a1
    obtain ⟨k, rfl, hk, hO⟩ := hrel
    have a0 := keept A0.out.1 hO.below
    have a1 := keept A0.out.2 hO.below
    have hzr := hO.below.size
    by_cases hlt : k < m'
    · obtain ⟨b, o, x, rfl, hbb, hx, g1⟩ := RdI.at_ (hR.below (hbw.trans (hO.below.mono (by omega)))) hlt
      have hrange := heapOk_roots HY.out hx
      have E1 := take_map_succ (f := saveRef base) hx
      generalize hX : [base, (h.cells.length : Int)] ++ (h.roots.take k).map (saveRef base) = X at hO
      have E2 : [base, (h.cells.length : Int)] ++ (h.roots.take (k + 1)).map (saveRef base) = X ++ [saveRef base x] := by rw [E1, ← List.append_assoc, hX]
      have HX := Go.Lib.hid E2
      clear hX E1 E2
      go_wp2_with fail
      refine (l24Save_any _ _ _ (by omega) k3 k4).mono ?_
      rintro e w2 ⟨rfl, hw2⟩
      obtain rfl := hw2
      generalize saveRef base x = y at *
      have hO1 := hO.alloc hzr (.cells #[.int .i64 y] 3)
      have hsm := hO1.small
      go_wp2_with (at_builtin; go_loud (refine wpList_pushI rfl (.tmp 31) (.tmp 39) rfl w1.heap.size _ X rfl hO1.own.own wr.heap.size [y] 1 1 rfl rfl (heap1 wr _) (by simp; omega) (by simp; omega) ?_; intro v1 w3 ho3 hg3))
      have hO2 := hO1.push (m' := 10 + (k + 1)) (by simp; omega) ho3 hg3 (by simp; omega)
      rw [← HX.out] at hO2
      clear hO hO1 ho3 hg3 a0 a1 g1
      have S := Go.Lib.hid hO2
      clear hO2
      go_wp2_with fail
      go_roundw
      case rel => exact ⟨k + 1, by go_num, by omega, S.out⟩
      case measure => simp [intOf]; omega
    · obtain ⟨wo, hwo⟩ : ∃ wo : World, wo = wr := ⟨_, rfl⟩
      obtain rfl := hwo
      rw [show h.roots.take k = h.roots from List.take_of_length_le (by omega)] at hO
      have hO' : Out w1.heap.size w1 wo _ (([base, (h.cells.length : Int)] ++ h.roots.map (saveRef base)) ++ (h.cells.take 0).flatMap (saveCell base)) (20 + 10 * 0) := ⟨by simpa using hO.own, hO.below, by simp; omega⟩
      clear hO
      go_wp2_with fail
      go_loopw [5, 7] (fun v i wr => ∃ (k : Nat), i = .int .i64 k ∧ k ≤ m ∧ Out w1.heap.size w1 wr v (([base, (h.cells.length : Int)] ++ h.roots.map (saveRef base)) ++ (h.cells.take k).flatMap (saveCell base)) (20 + 10 * k)) (fun _ i _ => m - (intOf i).toNat)
      case atStart => exact ⟨0, rfl, Nat.zero_le _, hO'⟩
      case round =>
        clear hO' a0 a1
        obtain ⟨k, rfl, hk, hO⟩ := hrel
        have a0 := keept A0.out.1 hO.below
        have a1 := keept A0.out.2 hO.below
        have hzr := hO.below.size
        have hbr := hbw.trans (hO.below.mono (by omega))
        by_cases hlt : k < m
        · obtain ⟨b, o, l, A2, n2, c2, rfl, hbb, hx, g1, g2, g3, hrf⟩ := (hC.below hbr).at_ hlt
          obtain ⟨q1, q2, q3⟩ := heapOk_cell HY.out hx
          have r1 := RdI.le1 hrf; have r2 := RdI.le2 hrf
          have E1 := take_flat_succ (f := saveCell base) hx
          generalize hX : ([base, (h.cells.length : Int)] ++ h.roots.map (saveRef base)) ++ (h.cells.take k).flatMap (saveCell base) = X at hO
          have E2 : ([base, (h.cells.length : Int)] ++ h.roots.map (saveRef base)) ++ (h.cells.take (k + 1)).flatMap (saveCell base) = X ++ saveCell base l := by rw [E1, ← List.append_assoc, hX]
          clear hX E1
          cases hu : l.used
          · rw [saveCell_no hu] at E2
            have HX := Go.Lib.hid E2
            rw [hu] at g1
            clear E2 hu
            have hO1 := (hO.alloc hzr (.cells #[.bool false, .int .i64 l.data, .slice A2 n2 c2] 40)).alloc (by simp; omega) (.cells #[.int .i64 0] 3)
            have hsm := hO1.small
            go_wp2_with (at_builtin; go_loud (refine wpList_pushI rfl (.tmp 56) (.tmp 57) rfl w1.heap.size _ X rfl hO1.own.own _ [0] 1 1 rfl rfl (heap2 wr _ _).2 (by simp; omega) (by simp; omega) ?_; intro v1 w3 ho3 hg3))
            have hO2 := hO1.push (m' := 20 + 10 * (k + 1)) (by simp; omega) ho3 hg3 (by simp; omega)
            rw [← HX.out] at hO2
            clear hO hO1 ho3 hg3 a0 a1 g1 g2 g3
            have S := Go.Lib.hid hO2
            clear hO2
            go_wp2_with fail
            go_roundw
            case rel => exact ⟨k + 1, by go_num, by omega, S.out⟩
            case measure => simp [intOf]; omega
          · rw [saveCell_yes hu] at E2
            have HX := Go.Lib.hid E2
            rw [hu] at g1
            clear E2 hu
            obtain ⟨wo2, hwo2⟩ : ∃ wo : World, wo = wr := ⟨_, rfl⟩
            obtain rfl := hwo2
            rw [show l.refs.length = n2 by omega] at HX
            have hbd := hO.below
            have hO1 := (hO.start.alloc hzr (.cells #[.bool true, .int .i64 l.data, .slice A2 n2 c2] 40)).alloc (by simp; omega) (.cells #[.int .i64 ((n2 : Int) + 1), .int .i64 l.data] 3)
            have hsm := hO1.small
            go_wp2_with (at_builtin; go_loud (refine wpList_pushI rfl (.tmp 59) (.tmp 66) rfl w1.heap.size _ X rfl hO1.own.own _ [(n2 : Int) + 1, l.data] 2 2 rfl rfl (heap2 wo2 _ _).2 (by simp; omega) (by simp; omega) ?_; intro v1 w3 ho3 hg3))
            have hO2 := hO1.push (m' := 22 + 10 * k + 0) (by simp; omega) ho3 hg3 (by simp; omega)
            have hbox := box_far hO1.own.own (heap2 wo2 _ _).1 (by decide) hg3
            clear hO hO1 ho3 hg3 a0 a1 g1 g2 g3
            have hO3 : Out w1.heap.size wo2 w3 v1 (X ++ [(n2 : Int) + 1, l.data] ++ (l.refs.take 0).map (saveRef base)) (22 + 10 * k + 0) := by simpa using hO2
            clear hO2
            obtain ⟨c0, c1, c2', -, -, -⟩ := blk3 hbox
            have HB := Go.Lib.hid hbox
            clear hbox
            go_wp2_with fail
            go_loopw [5, 9] (fun v i wr => ∃ (j : Nat), i = .int .i64 j ∧ j ≤ n2 ∧ Out w1.heap.size wo2 wr v (X ++ [(n2 : Int) + 1, l.data] ++ (l.refs.take j).map (saveRef base)) (22 + 10 * k + j) ∧ wr.heap[wo2.heap.size]? = some (.cells #[.bool true, .int .i64 l.data, .slice A2 n2 c2] 40)) (fun _ i _ => n2 - (intOf i).toNat)
            case atStart => exact ⟨0, rfl, Nat.zero_le _, hO3, HB.out⟩
            case round =>
              clear hO3 c0 c1 c2'
              obtain ⟨j, rfl, hj, hO, hbox⟩ := hrel
              obtain ⟨c0, c1, c2', -, -, -⟩ := blk3 hbox
              have hzj := hO.below.size
              have HB2 := Go.Lib.hid hbox
              clear hbox
              by_cases hltj : j < n2
              · obtain ⟨b2, o2, x, rfl, hbb2, hx2, g4⟩ := RdI.at_ (hrf.below (hO.below.mono (by omega))) hltj
                have hrange := heapOk_refs HY.out hx hx2
                have E1 := take_map_succ (f := saveRef base) hx2
                generalize hY : X ++ [(n2 : Int) + 1, l.data] ++ (l.refs.take j).map (saveRef base) = Y at hO
                have E2 : X ++ [(n2 : Int) + 1, l.data] ++ (l.refs.take (j + 1)).map (saveRef base) = Y ++ [saveRef base x] := by rw [E1, ← List.append_assoc, hY]
                have HY2 := Go.Lib.hid E2
                clear hY E1 E2
                go_wp2_with fail
                refine (l24Save_any _ _ _ (by omega) k3 k4).mono ?_
                rintro e w2 ⟨rfl, hw2⟩
                obtain rfl := hw2
                generalize saveRef base x = y at *
                have hO1 := hO.alloc (by omega) (.cells #[.int .i64 y] 3)
                have hsm2 := hO1.small
                go_wp2_with (at_builtin; go_loud (refine wpList_pushI rfl (.tmp 75) (.tmp 83) rfl w1.heap.size _ Y rfl hO1.own.own wr.heap.size [y] 1 1 rfl rfl (heap1 wr _) (by simp; omega) (by simp; omega) ?_; intro v2 w4 ho4 hg4))
                have hO2 := hO1.push (m' := 22 + 10 * k + (j + 1)) (by simp; omega) ho4 hg4 (by simp; omega)
                have hbox := box_far hO1.own.own (box_alloc HB2.out _) (by decide) hg4
                rw [← HY2.out] at hO2
                clear hO hO1 ho4 hg4 c0 c1 c2' g4
                have S := Go.Lib.hid (And.intro hO2 hbox)
                clear hO2 hbox
                go_wp2_with fail
                go_roundw
                case rel => exact ⟨j + 1, by go_num, by omega, S.out⟩
                case measure => simp [intOf]; omega
              · rw [List.take_of_length_le (by omega)] at hO
                have hO2 := Out.join (m' := 20 + 10 * (k + 1)) hbd hO (by omega)
                rw [List.append_assoc, ← HX.out] at hO2
                clear hO
                have S := Go.Lib.hid hO2
                clear hO2
                go_wp2_with fail
                go_roundw
                case rel => exact ⟨k + 1, by go_num, by omega, S.out⟩
                case measure => simp [intOf]; omega
        · go_wp2
          go_ret
          rw [List.take_of_length_le (by omega)] at hO
          rw [HE.out]
          exact ⟨_, rfl, by simpa [saveAll] using hO.own.wide hbw.size (Nat.le_refl _), hbr⟩
end Go.Proofs.Ytjpfgbckmcjjaaa
