/- PairsValid, the program's and the reference's: both return mPairsValid, for every heap and list of pairs that can be read. -/
import Derived.Test.YtnpehidhoekfcaaWt
import Derived.Test.YtnpehidhoekfcaaPp
import Derived.Test.YtnpehidhoekfcaaZ0
namespace Go.Proofs.Ytnpehidhoekfcaa
open Go.RowKit
def pairOk (cs : List Cel) (p : Int × Int) : Bool := usedB cs p.1 && usedB cs p.2
def mPairsValid (h : Hp) (ps : List (Int × Int)) : Bool := heapOk h && decide (ps.length ≤ 40) && ps.all (pairOk h.cells)
section
variable {h : Hp} {ps : List (Int × Int)}
theorem mPairs_no1 (h1 : heapOk h = false) : mPairsValid h ps = false := by simp [mPairsValid, h1]
theorem mPairs_no2 (h1 : 40 < ps.length) : mPairsValid h ps = false := by simp [mPairsValid]; omega
theorem mPairs_no3 (h1 : ps.all (pairOk h.cells) = false) : mPairsValid h ps = false := by unfold mPairsValid; rw [h1, Bool.and_false]
theorem mPairs_yes (h0 : heapOk h = true) (h2 : ps.length ≤ 40) (h1 : ps.all (pairOk h.cells) = true) : mPairsValid h ps = true := by unfold mPairsValid; rw [h0, h1]; simp [h2]
theorem pairOk_mk (cs : List Cel) (x y : Int) : pairOk cs (x, y) = (usedB cs x && usedB cs y) := rfl
end

set_option maxHeartbeats 1600000 in
theorem implPairsValid_any (w : World) (B B' : Nat) (v : Value) (h : Hp) (A : Option Addr) (n c : Nat) (ps : List (Int × Int)) (hh : RdH w B v h) (hr : RdP w B' A n c ps) :
    Calls Try.prog 57 #[v, .slice A n c] w fun e w' => e = .returned (.bool (mPairsValid h ps)) ∧ Below w.heap.size w w' := by
  have hr := hr.top
  have hh' := hh.top
  obtain ⟨D, m, d, D', m', d', rfl, hC, hR⟩ := hh.top
  have l1 := hr.le1; have l2 := hr.le2
  go_enter Try.func57, Try.ntmps57
  go_wp2_with fail
  refine (heapValid_any _ _ _ h (hh'.below (below_alloc _ _))).mono ?_
  rintro e w1 ⟨rfl, hb⟩
  obtain ⟨a0, a1, hbw, hz⟩ := box2 (hb.mono (by simp))
  cases hy : heapOk h
  · have HF := Go.Lib.hid (mPairs_no1 (ps := ps) hy)
    clear hy
    go_wp2
    go_ret
    exact ⟨ret_b HF.out.symm, hbw⟩
  have HY := Go.Lib.hid hy
  clear hy
  by_cases c1 : n ≤ 40
  · go_wp2_with fail
    go_loopw [17] (fun i wr => ∃ k : Nat, i = .int .i64 k ∧ k ≤ n ∧ (ps.take k).all (pairOk h.cells) = true ∧ Below (w.heap.size + 1) (w.alloc (.cells #[.slice D m d, .slice D' m' d'] 27)) wr) (fun i _ => n - (intOf i).toNat)
    case atStart => exact ⟨0, rfl, Nat.zero_le _, by simp, hb.mono (by simp)⟩
    case round =>
      clear a0 a1 hbw hz
      obtain ⟨k, rfl, hk, hall, hb⟩ := hrel
      obtain ⟨a0, a1, hbw, hz⟩ := box2 hb
      by_cases hlt : k < n
      · obtain ⟨b, o, x, y, rfl, hbb, hx, g1, g2⟩ := (hr.below hbw).at_ hlt
        have hbb' : b < wr.heap.size := by omega
        obtain ⟨b0, b1, _, _⟩ := blk2 (heap1 wr (.cells #[.int .i64 x, .int .i64 y] 57))
        go_wp2_with fail
        have hbx : Below w.heap.size w (wr.alloc (.cells #[.int .i64 x, .int .i64 y] 57)) := hbw.alloc (by omega) _
        refine (isUsed_any _ _ _ h _ (hh'.below hbx)).mono ?_
        rintro e w2 ⟨rfl, hb2⟩
        rw [HY.out, Bool.true_and]
        have hz2 := hb2.size
        simp only [World.size_alloc] at hz2
        have hb3 := (hb.alloc (by omega : w.heap.size + 1 ≤ wr.heap.size) (.cells #[.int .i64 x, .int .i64 y] 57)).trans (hb2.mono (by simp; omega))
        replace b0 := keept b0 hb2
        replace b1 := keept b1 hb2
        clear a0 a1 g1 g2
        obtain ⟨a0, a1, hbw', hz'⟩ := box2 hb3
        cases hy : usedB h.cells x
        · have HF := Go.Lib.hid (mPairs_no3 (h := h) (all_no hx (by rw [pairOk_mk, hy]; rfl)))
          clear hy
          go_wp2
          go_ret
          exact ⟨ret_b HF.out.symm, hbw'⟩
        have HX := Go.Lib.hid hy
        clear hy
        go_wp2_with fail
        refine (isUsed_any _ _ _ h _ (hh'.below hbw')).mono ?_
        rintro e w3 ⟨rfl, hb4⟩
        rw [HY.out, Bool.true_and]
        have hb5 := hb3.trans (hb4.mono (by omega))
        cases hy : usedB h.cells y
        · have HF := Go.Lib.hid (mPairs_no3 (h := h) (all_no hx (by rw [pairOk_mk, hy, HX.out]; rfl)))
          clear hy
          go_wp2
          go_ret
          exact ⟨ret_b HF.out.symm, (box2 hb5).2.2.1⟩
        · have hall' := all_succ hall hx (by rw [pairOk_mk, hy, HX.out]; rfl)
          clear hy
          go_wp2
          go_roundw
          case rel => exact ⟨k + 1, by go_num, by omega, hall', hb5⟩
          case measure => simp [intOf]; omega
      · have HF := Go.Lib.hid (mPairs_yes HY.out (by omega) (all_end hall (by omega)))
        go_wp2
        go_ret
        exact ⟨ret_b HF.out.symm, hbw⟩
  · have HF := Go.Lib.hid (mPairs_no2 (h := h) (ps := ps) (by omega))
    go_wp2
    go_ret
    exact ⟨ret_b HF.out.symm, hbw⟩

theorem leads_used {cs : List Cel} {x : Int} (h : 0 ≤ x) : leadsB cs x = usedB cs x := by
  have : (x == -1) = false := by simp; omega
  simp [leadsB, usedB, this]
theorem usedB_neg {cs : List Cel} {x : Int} (h : x < 0) : usedB cs x = false := usedB_out (.inl h)
theorem pair_no1 {cs : List Cel} {x y : Int} (h : ([x, y] : List Int).all (leadsB cs) = false) : pairOk cs (x, y) = false := by
  rw [pairOk_mk]
  simp only [List.all_cons, List.all_nil, Bool.and_true] at h
  cases hx : usedB cs x
  · rfl
  · cases hy : usedB cs y
    · rfl
    · have x0 : 0 ≤ x := Int.not_lt.1 fun c => by rw [usedB_neg c] at hx; cases hx
      have y0 : 0 ≤ y := Int.not_lt.1 fun c => by rw [usedB_neg c] at hy; cases hy
      rw [leads_used x0, leads_used y0, hx, hy] at h
      cases h
theorem pair_yes {cs : List Cel} {x y : Int} (h : ([x, y] : List Int).all (leadsB cs) = true) (x0 : 0 ≤ x) (y0 : 0 ≤ y) : pairOk cs (x, y) = true := by
  rw [pairOk_mk]
  simp only [List.all_cons, List.all_nil, Bool.and_true] at h
  rwa [leads_used x0, leads_used y0] at h
theorem rd_two (w : World) (x y : Int) (t : TypeId) : RdI (w.alloc (.cells #[.int .i64 x, .int .i64 y] t)) (w.heap.size + 1) (some ⟨w.heap.size, 0, none⟩) 2 2 [x, y] := by
  obtain ⟨b0, b1, _, _⟩ := blk2 (heap1 w (.cells #[.int .i64 x, .int .i64 y] t))
  refine ⟨rfl, Nat.le_refl _, by unfold maxLen; omega, fun _ => ⟨w.heap.size, 0, rfl, Nat.lt_succ_self _, fun j u hu => ?_⟩⟩
  match j, hu with
  | 0, hu => simp at hu; subst hu; exact b0
  | 1, hu => simp at hu; subst hu; exact b1
  | j + 2, hu => simp at hu

set_option maxHeartbeats 3200000 in
theorem specPairsValid_any (w : World) (B B' : Nat) (v : Value) (h : Hp) (A : Option Addr) (n c : Nat) (ps : List (Int × Int)) (hh : RdH w B v h) (hr : RdP w B' A n c ps) :
    Calls Try.prog 33 #[v, .slice A n c] w fun e w' => e = .returned (.bool (mPairsValid h ps)) ∧ Below w.heap.size w w' := by
  have hr := hr.top
  have hh' := hh.top
  obtain ⟨D, m, d, D', m', d', rfl, hC, hR⟩ := hh.top
  have hm := hr.mx; have hcap := hr.cap
  have l1 := hr.le1; have l2 := hr.le2
  unfold maxLen at hm
  go_enter Try.func33, Try.ntmps33
  go_wp2_with fail
  go_loopw [5] (fun i wr => ∃ k : Nat, i = .int .i64 k ∧ k ≤ n ∧ (ps.take k).all (pairOk h.cells) = true ∧ Below (w.heap.size + 1) (w.alloc (.cells #[.slice D m d, .slice D' m' d'] 27)) wr) (fun i _ => n - (intOf i).toNat)
  case atStart => exact ⟨0, rfl, Nat.zero_le _, by simp, Below.refl _ _⟩
  case round =>
    obtain ⟨k, rfl, hk, hall, hb⟩ := hrel
    obtain ⟨a0, a1, hbw, hz⟩ := box2 hb
    by_cases hlt : k < n
    · obtain ⟨b, o, x, y, rfl, hbb, hx, g1, g2⟩ := (hr.below hbw).at_ hlt
      have i1 : (0 : Int) ≤ (k : Int) := by omega
      have i2 : (k : Int) < (n : Int) := by omega
      have hbd : Below w.heap.size w (wr.drew.alloc (.cells #[.int .i64 x, .int .i64 y] 3)) := hbw.drew.alloc (by simp; omega) _
      have hbd' : Below (w.heap.size + 1) (w.alloc (.cells #[.slice D m d, .slice D' m' d'] 27)) (wr.drew.alloc (.cells #[.int .i64 x, .int .i64 y] 3)) := hb.drew.alloc (by simp; omega) _
      have n0 := World.new_ne wr _ a0
      have n1 := World.new_ne wr _ a1
      have n2 := World.new_ne wr _ g1
      have n3 := World.new_ne wr _ g2
      have hw := below_alloc wr.drew (.cells #[.int .i64 x, .int .i64 y] 3)
      have W0 := keept (w := wr.drew) a0 hw
      have W1 := keept (w := wr.drew) a1 hw
      have W2 := keept (w := wr.drew) g1 hw
      have W3 := keept (w := wr.drew) g2 hw
      cases hq : ([x, y] : List Int).all (leadsB h.cells)
      · have HF := Go.Lib.hid (mPairs_no3 (h := h) (all_no hx (pair_no1 hq)))
        go_wp2_with fail
        refine wp_region_lex (fun w' => w'.cell? ⟨w.heap.size, 0, none⟩ = some (.slice D m d) ∧ w'.cell? ⟨w.heap.size, 1, none⟩ = some (.slice D' m' d') ∧
          w'.cell? ⟨b, o + k * 2, none⟩ = some (.int .i64 x) ∧ w'.cell? ⟨b, o + k * 2 + 1, none⟩ = some (.int .i64 y)) ([true, true, true, true, true, true, true, true, true, true, true, false, false, true, true, true, true, true, true, true, true, true, true, true, true, true, true, true, true, true]) (by kernel_rfl) (by kernel_rfl) ⟨a0, a1, g1, g2⟩ ?_
        repeat (first
          | (with_reducible refine lex_take (v := ?_) ?_ (fun w' hS' => ?_) ?_
             rotate_left
             · (go_simp; done)
             · ((try dsimp only at hS'); go_simp; try with_reducible rfl)
             simp only [Act.put, List.setIfInBounds_toArray, List.set_cons_zero, List.set_cons_succ])
          | (with_reducible refine lex_skip ?_ ?_
             · (go_simp; done)
             simp only [Act.put, List.setIfInBounds_toArray, List.set_cons_zero, List.set_cons_succ]))
        with_reducible refine lex_run ?_ (fun K hK => ?_)
        · (go_simp; done)
        go_simp
        refine hK.out _ _ ⟨W0, W1, W2, W3⟩ ?_
        clear hK K
        with_reducible refine lex_run ?_ (fun K hK => ?_)
        · (go_simp; done)
        go_simp
        refine (l7Refs_any _ _ _ _ h _ _ _ [x, y] (hh'.below hbd) (rd_two wr.drew x y _)).mono ?_
        rintro e w2 ⟨rfl, hb2⟩
        rw [hq]
        refine hK.out _ _ ⟨keept W0 hb2, keept W1 hb2, keept W2 hb2, keept W3 hb2⟩ ?_
        clear hK K
        repeat (first
          | (with_reducible refine lex_take (v := ?_) ?_ (fun w' hS' => ?_) ?_
             rotate_left
             · (go_simp; done)
             · ((try dsimp only at hS'); go_simp; try with_reducible rfl)
             simp only [Act.put, List.setIfInBounds_toArray, List.set_cons_zero, List.set_cons_succ])
          | (with_reducible refine lex_skip ?_ ?_
             · (go_simp; done)
             simp only [Act.put, List.setIfInBounds_toArray, List.set_cons_zero, List.set_cons_succ]))
        refine lex_nil ?_
        clear hq W0 W1 W2 W3 a0 a1 g1 g2
        go_wp2
        go_ret
        exact ⟨ret_b HF.out.symm, hbd.trans (hb2.mono (by simp; omega))⟩
      by_cases c1 : x < 0
      · have HF := Go.Lib.hid (mPairs_no3 (h := h) (all_no hx (by rw [pairOk_mk, usedB_neg c1]; rfl)))
        have d1 : decide (x < 0) = true := decide_eq_true c1
        go_wp2_with fail
        refine wp_region_lex (fun w' => w'.cell? ⟨w.heap.size, 0, none⟩ = some (.slice D m d) ∧ w'.cell? ⟨w.heap.size, 1, none⟩ = some (.slice D' m' d') ∧
          w'.cell? ⟨b, o + k * 2, none⟩ = some (.int .i64 x) ∧ w'.cell? ⟨b, o + k * 2 + 1, none⟩ = some (.int .i64 y)) ([true, true, true, true, true, true, true, true, true, true, true, false, false, true, true, true, true, true, true, true, true, true, true, true, true, true, true, true, true, true]) (by kernel_rfl) (by kernel_rfl) ⟨a0, a1, g1, g2⟩ ?_
        repeat (first
          | (with_reducible refine lex_take (v := ?_) ?_ (fun w' hS' => ?_) ?_
             rotate_left
             · (go_simp; done)
             · ((try dsimp only at hS'); go_simp; try with_reducible rfl)
             simp only [Act.put, List.setIfInBounds_toArray, List.set_cons_zero, List.set_cons_succ])
          | (with_reducible refine lex_skip ?_ ?_
             · (go_simp; done)
             simp only [Act.put, List.setIfInBounds_toArray, List.set_cons_zero, List.set_cons_succ]))
        with_reducible refine lex_run ?_ (fun K hK => ?_)
        · (go_simp; done)
        go_simp
        refine hK.out _ _ ⟨W0, W1, W2, W3⟩ ?_
        clear hK K
        with_reducible refine lex_run ?_ (fun K hK => ?_)
        · (go_simp; done)
        go_simp
        refine (l7Refs_any _ _ _ _ h _ _ _ [x, y] (hh'.below hbd) (rd_two wr.drew x y _)).mono ?_
        rintro e w2 ⟨rfl, hb2⟩
        rw [hq]
        refine hK.out _ _ ⟨keept W0 hb2, keept W1 hb2, keept W2 hb2, keept W3 hb2⟩ ?_
        clear hK K
        repeat (first
          | (with_reducible refine lex_take (v := ?_) ?_ (fun w' hS' => ?_) ?_
             rotate_left
             · (go_simp; done)
             · ((try dsimp only at hS'); go_simp; try with_reducible rfl)
             simp only [Act.put, List.setIfInBounds_toArray, List.set_cons_zero, List.set_cons_succ])
          | (with_reducible refine lex_skip ?_ ?_
             · (go_simp; done)
             simp only [Act.put, List.setIfInBounds_toArray, List.set_cons_zero, List.set_cons_succ]))
        refine lex_nil ?_
        clear hq W0 W1 W2 W3 a0 a1 g1 g2
        go_wp2
        go_ret
        exact ⟨ret_b HF.out.symm, hbd.trans (hb2.mono (by simp; omega))⟩
      have d1 : decide (x < 0) = false := decide_eq_false c1
      by_cases c2 : y < 0
      · have HF := Go.Lib.hid (mPairs_no3 (h := h) (all_no hx (by rw [pairOk_mk, usedB_neg c2, Bool.and_false])))
        have d2 : decide (y < 0) = true := decide_eq_true c2
        go_wp2_with fail
        refine wp_region_lex (fun w' => w'.cell? ⟨w.heap.size, 0, none⟩ = some (.slice D m d) ∧ w'.cell? ⟨w.heap.size, 1, none⟩ = some (.slice D' m' d') ∧
          w'.cell? ⟨b, o + k * 2, none⟩ = some (.int .i64 x) ∧ w'.cell? ⟨b, o + k * 2 + 1, none⟩ = some (.int .i64 y)) ([true, true, true, true, true, true, true, true, true, true, true, false, false, true, true, true, true, true, true, true, true, true, true, true, true, true, true, true, true, true]) (by kernel_rfl) (by kernel_rfl) ⟨a0, a1, g1, g2⟩ ?_
        repeat (first
          | (with_reducible refine lex_take (v := ?_) ?_ (fun w' hS' => ?_) ?_
             rotate_left
             · (go_simp; done)
             · ((try dsimp only at hS'); go_simp; try with_reducible rfl)
             simp only [Act.put, List.setIfInBounds_toArray, List.set_cons_zero, List.set_cons_succ])
          | (with_reducible refine lex_skip ?_ ?_
             · (go_simp; done)
             simp only [Act.put, List.setIfInBounds_toArray, List.set_cons_zero, List.set_cons_succ]))
        with_reducible refine lex_run ?_ (fun K hK => ?_)
        · (go_simp; done)
        go_simp
        refine hK.out _ _ ⟨W0, W1, W2, W3⟩ ?_
        clear hK K
        with_reducible refine lex_run ?_ (fun K hK => ?_)
        · (go_simp; done)
        go_simp
        refine (l7Refs_any _ _ _ _ h _ _ _ [x, y] (hh'.below hbd) (rd_two wr.drew x y _)).mono ?_
        rintro e w2 ⟨rfl, hb2⟩
        rw [hq]
        refine hK.out _ _ ⟨keept W0 hb2, keept W1 hb2, keept W2 hb2, keept W3 hb2⟩ ?_
        clear hK K
        repeat (first
          | (with_reducible refine lex_take (v := ?_) ?_ (fun w' hS' => ?_) ?_
             rotate_left
             · (go_simp; done)
             · ((try dsimp only at hS'); go_simp; try with_reducible rfl)
             simp only [Act.put, List.setIfInBounds_toArray, List.set_cons_zero, List.set_cons_succ])
          | (with_reducible refine lex_skip ?_ ?_
             · (go_simp; done)
             simp only [Act.put, List.setIfInBounds_toArray, List.set_cons_zero, List.set_cons_succ]))
        refine lex_nil ?_
        clear hq W0 W1 W2 W3 a0 a1 g1 g2
        go_wp2
        go_ret
        exact ⟨ret_b HF.out.symm, hbd.trans (hb2.mono (by simp; omega))⟩
      · have d2 : decide (y < 0) = false := decide_eq_false c2
        have hall' := all_succ hall hx (pair_yes hq (by omega) (by omega))
        go_wp2_with fail
        refine wp_region_lex (fun w' => w'.cell? ⟨w.heap.size, 0, none⟩ = some (.slice D m d) ∧ w'.cell? ⟨w.heap.size, 1, none⟩ = some (.slice D' m' d') ∧
          w'.cell? ⟨b, o + k * 2, none⟩ = some (.int .i64 x) ∧ w'.cell? ⟨b, o + k * 2 + 1, none⟩ = some (.int .i64 y)) ([true, true, true, true, true, true, true, true, true, true, true, false, false, true, true, true, true, true, true, true, true, true, true, true, true, true, true, true, true, true]) (by kernel_rfl) (by kernel_rfl) ⟨a0, a1, g1, g2⟩ ?_
        repeat (first
          | (with_reducible refine lex_take (v := ?_) ?_ (fun w' hS' => ?_) ?_
             rotate_left
             · (go_simp; done)
             · ((try dsimp only at hS'); go_simp; try with_reducible rfl)
             simp only [Act.put, List.setIfInBounds_toArray, List.set_cons_zero, List.set_cons_succ])
          | (with_reducible refine lex_skip ?_ ?_
             · (go_simp; done)
             simp only [Act.put, List.setIfInBounds_toArray, List.set_cons_zero, List.set_cons_succ]))
        with_reducible refine lex_run ?_ (fun K hK => ?_)
        · (go_simp; done)
        go_simp
        refine hK.out _ _ ⟨W0, W1, W2, W3⟩ ?_
        clear hK K
        with_reducible refine lex_run ?_ (fun K hK => ?_)
        · (go_simp; done)
        go_simp
        refine (l7Refs_any _ _ _ _ h _ _ _ [x, y] (hh'.below hbd) (rd_two wr.drew x y _)).mono ?_
        rintro e w2 ⟨rfl, hb2⟩
        rw [hq]
        refine hK.out _ _ ⟨keept W0 hb2, keept W1 hb2, keept W2 hb2, keept W3 hb2⟩ ?_
        clear hK K
        repeat (first
          | (with_reducible refine lex_take (v := ?_) ?_ (fun w' hS' => ?_) ?_
             rotate_left
             · (go_simp; done)
             · ((try dsimp only at hS'); go_simp; try with_reducible rfl)
             simp only [Act.put, List.setIfInBounds_toArray, List.set_cons_zero, List.set_cons_succ])
          | (with_reducible refine lex_skip ?_ ?_
             · (go_simp; done)
             simp only [Act.put, List.setIfInBounds_toArray, List.set_cons_zero, List.set_cons_succ]))
        refine lex_nil ?_
        clear hq W0 W1 W2 W3 a0 a1 g1 g2
        go_wp2
        go_roundw
        case rel => exact ⟨k + 1, by go_num, by omega, hall', hbd'.trans (hb2.mono (by simp; omega))⟩
        case measure => simp [intOf]; omega
    · have hall' := all_end hall (by omega : ps.length ≤ k)
      go_wp2_with fail
      refine (specHeapValid_any _ _ _ h (hh'.below hbw)).mono ?_
      rintro e w3 ⟨rfl, hb3⟩
      cases hy : heapOk h
      · have HF := Go.Lib.hid (mPairs_no1 (ps := ps) hy)
        clear hy hall hall'
        go_wp2
        go_ret
        exact ⟨ret_b HF.out.symm, hbw.trans (hb3.mono (by omega))⟩
      by_cases c1 : n ≤ 40
      · have HF := Go.Lib.hid (mPairs_yes hy (by omega) hall')
        clear hy hall hall'
        go_wp2
        go_ret
        exact ⟨ret_b (by rw [HF.out]; simp <;> omega), hbw.trans (hb3.mono (by omega))⟩
      · have HF := Go.Lib.hid (mPairs_no2 (h := h) (ps := ps) (by omega))
        clear hy hall hall'
        go_wp2
        go_ret
        exact ⟨ret_b (by rw [HF.out]; simp <;> omega), hbw.trans (hb3.mono (by omega))⟩
end Go.Proofs.Ytnpehidhoekfcaa
