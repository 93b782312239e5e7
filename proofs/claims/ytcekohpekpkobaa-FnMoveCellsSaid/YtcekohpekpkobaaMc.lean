/- MoveCells, the program's: copying a table, and the exchange of two cells and their handles. -/
import Derived.Test.YtcekohpekpkobaaSp
import Derived.Test.YtcekohpekpkobaaZ1
import Derived.Test.YtcekohpekpkobaaCpI
import Derived.Test.YtcekohpekpkobaaZ0
namespace Go.Proofs.Ytcekohpekpkobaa
open Go.RowKit
/-- A call makes a table: three parts of its own. -/
def MadeTp (w : World) (t : Tbl) (e : Ending) (w' : World) : Prop := ∃ cv rvs rv hv, e = .returned (.agg #[cv, rv, hv]) ∧ Owns w.heap.size w w' [.cells cv rvs t.store.cells, .ints rv t.store.roots, .ints hv t.hands]
set_option maxHeartbeats 1600000 in
set_option maxRecDepth 20000 in
theorem copyTable_any (w : World) (B : Nat) (v : Value) (t : Tbl) (hh : RdT w B v t) (hn : t.store.cells.length ≤ 1048576) (hn2 : t.store.roots.length ≤ 1048576) (hn3 : ∀ c ∈ t.store.cells, c.refs.length ≤ 1048576) (hn4 : t.hands.length ≤ 1048576) :
    Calls Try.prog 23 #[v] w (MadeTp w t) := by
  obtain ⟨D, m, d, D', m', d', E, q, f, rfl, hC, hR, hE⟩ := hh.top
  have HN3 := Go.Lib.hid hn3
  clear hn3
  have H := ((Owns.nil w).box [.slice D m d, .slice D' m' d', .slice E q f] 28).box [.slice none 0 0, .slice none 0 0, .slice none 0 0] 28
  simp only [World.size_alloc] at H
  have hst : RdH w w.heap.size (.agg #[.slice D m d, .slice D' m' d']) t.store := ⟨_, _, _, _, _, _, rfl, hC, hR⟩
  have hq : q ≤ 1048576 := by have := RdI.le1 hE; omega
  go_enter Try.func23, Try.ntmps23
  go_wp2_with fail
  have HX := H.drew
  have H0 := Go.Lib.hid H
  clear H
  obtain ⟨a0, a1, a2, -, -, -⟩ := HX.box3 1 rfl
  refine wp_region_tree (fun w' => w'.cell? ⟨w.heap.size, 0, none⟩ = some (.slice D m d) ∧ w'.cell? ⟨w.heap.size, 1, none⟩ = some (.slice D' m' d') ∧ w'.cell? ⟨w.heap.size, 2, none⟩ = some (.slice E q f)) 7 [] (.take 0 (.take 1 (.take 3 (.take 4 (.alt 2 (.alt 5 (.take 6 (.alt 7 (.done) (.stop))) (.stop)) (.stop)))))) (by kernel_rfl) (by kernel_rfl) (by kernel_rfl) (⟨a0, a1, a2⟩) ?_
  simp only [fillT, List.getElem?_cons_zero, List.getElem?_cons_succ, Nat.reduceBEq]
  repeat (first
    | (with_reducible refine po_take (v := ?_) ?_ (fun w' hS' => ?_) ?_
       rotate_left
       · (go_simp; done)
       · ((try dsimp only at hS'); go_simp; try with_reducible rfl)
       simp only [Act.put, List.setIfInBounds_toArray, List.set_cons_zero, List.set_cons_succ])
    | (with_reducible refine po_skip ?_ ?_
       · (go_simp; done)
       simp only [Act.put, List.setIfInBounds_toArray, List.set_cons_zero, List.set_cons_succ]))
  with_reducible refine po_run ?_ (fun K hK => ?_) ?_
  · (go_simp; done)
  rotate_left
  · exact po_stop
  go_simp
  refine (copyHeap_any _ _ _ t.store (hst.below HX.below) hn hn2 HN3.out).mono ?_
  rintro e w1 ⟨v1, rfl, ho, hb⟩
  obtain ⟨cv, rvs, rv, rfl, K⟩ := HX.madeH ho hb
  obtain ⟨C, kC, rfl, -⟩ := K.formC 0 rfl
  obtain ⟨R, kR, rfl, -⟩ := K.formI 1 rfl
  clear HX ho hb a0 a1 a2
  have HX := K
  clear K
  obtain ⟨a0, a1, a2, -, -, -⟩ := HX.box3 3 rfl
  refine hK.out _ _ (.inr (⟨a0, a1, a2⟩)) ?_
  clear hK K
  with_reducible refine po_run ?_ (fun K hK => ?_) ?_
  · (go_simp; done)
  rotate_left
  · exact po_stop
  go_simp
  refine (clone_any _ _ E q f t.hands (hE.below HX.below) hq).mono ?_
  rintro e w2 ⟨hv, rfl, ho, hb⟩
  have K := HX.madeI ho hb
  obtain ⟨V, kV, rfl, -⟩ := K.formI 0 rfl
  clear HX ho hb a0 a1 a2
  have HX := K
  clear K
  obtain ⟨a0, a1, a2, -, -, -⟩ := HX.box3 4 rfl
  refine hK.out _ _ (.inr (⟨a0, a1, a2⟩)) ?_
  clear hK K
  repeat (first
    | (with_reducible refine po_take (v := ?_) ?_ (fun w' hS' => ?_) ?_
       rotate_left
       · (go_simp; done)
       · ((try dsimp only at hS'); go_simp; try with_reducible rfl)
       simp only [Act.put, List.setIfInBounds_toArray, List.set_cons_zero, List.set_cons_succ])
    | (with_reducible refine po_skip ?_ ?_
       · (go_simp; done)
       simp only [Act.put, List.setIfInBounds_toArray, List.set_cons_zero, List.set_cons_succ]))
  with_reducible refine po_run ?_ (fun K hK => ?_) ?_
  · (go_simp; done)
  rotate_left
  · exact po_stop
  obtain ⟨y0, y1, y2, y3, y4, y5⟩ := HX.box3 3 rfl
  go_simp
  have HZ := (((HX.putBox 3 rfl 0 (.slice C t.store.cells.length kC)).putBox 3 rfl 1 (.slice R t.store.roots.length kR)).putBox 3 rfl 2 (.slice V t.hands.length kV))
  simp only [List.set_cons_zero, List.set_cons_succ] at HZ
  clear HX a0 a1 a2
  refine hK.out _ _ (.inl rfl) ?_
  clear hK K
  refine po_done ?_
  obtain ⟨z0, z1, z2, -, -, -⟩ := HZ.box3 3 rfl
  have HS : Hid (MadeTp w t (.returned (.agg #[.slice C t.store.cells.length kC, .slice R t.store.roots.length kR, .slice V t.hands.length kV])) _) := Go.Lib.hid ⟨_, rvs, _, _, rfl, HZ.order [1, 2, 0] (by decide) rfl⟩
  clear HZ H0
  go_wp2
  exact bodyPost_ret (v := .agg #[.slice C t.store.cells.length kC, .slice R t.store.roots.length kR, .slice V t.hands.length kV]) (by simp [results, Try.results23, go_sem, z0, z1, z2]) rfl HS.out
def swH (a b : Nat) (x : Int) : Int := if x = a then b else if x = b then a else x
def swCells (cs : List Cel) (a b : Nat) : List Cel := (cs.set a (cs.getD b noCel)).set b (cs.getD a noCel)
def mMoved (t : Tbl) (a b : Nat) : Tbl := ⟨⟨swCells t.store.cells a b, t.store.roots⟩, t.hands.map (swH a b)⟩
def mMoveOk (t : Tbl) (a b : Int) : Bool := mTableValid t && (decide (0 ≤ a) && decide (a < t.hands.length) && decide (0 ≤ b) && decide (b < t.hands.length))
def mMove (t : Tbl) (a b : Int) : Tbl := if mMoveOk t a b then mMoved t a.toNat b.toNat else ⟨⟨[], []⟩, []⟩
theorem swCells_len (cs : List Cel) (a b : Nat) : (swCells cs a b).length = cs.length := by simp [swCells]
theorem swCells_of {cs : List Cel} {a b : Nat} {la lb : Cel} (ha : Hid (cs[a]? = some la)) (hb : Hid (cs[b]? = some lb)) : (cs.set a lb).set b la = swCells cs a b := by unfold swCells; rw [getD_of ha, getD_of hb]
theorem mapT_keep {f : Int → Int} {xs : List Int} {k : Nat} {x : Int} (h : Hid (xs[k]? = some x)) (hf : f x = x) : (xs.take (k + 1)).map f ++ xs.drop (k + 1) = (xs.take k).map f ++ xs.drop k := by
  rw [← mapT_turn h, hf]
  exact List.ext_getElem? fun i => by
    rw [List.getElem?_set]
    by_cases e : k = i
    · subst e
      have := mapT_here (f := f) h
      rw [if_pos rfl, this]
      have hl := (List.getElem?_eq_some_iff.1 this).1
      rw [if_pos hl]
    · rw [if_neg e]
set_option maxHeartbeats 3200000 in
set_option maxRecDepth 20000 in
theorem exchange_own {lo : Nat} {w0 w : World} {M : List OB} {g : Nat} {C R E : Value} {rvs : List Value} {cs : List Cel} {rs hs : List Int} (h : Owns lo w0 w (.box g [C, R, E] 28 :: .cells C rvs cs :: .ints R rs :: .ints E hs :: M)) (a b : Nat) (ha : a < cs.length) (hb : b < cs.length) (_hcl : cs.length ≤ 1048576) (hhl : hs.length ≤ 1048576) :
    Calls Try.prog 24 #[.pointer (some ⟨g, 0, none⟩), .int .i64 a, .int .i64 b] w fun e w' => e = .returned (.tuple #[]) ∧ ∃ rvs', Owns lo w0 w' (.box g [C, R, E] 28 :: .cells C rvs' (swCells cs a b) :: .ints R rs :: .ints E (hs.map (swH a b)) :: M) := by
  obtain ⟨AE, kE, rfl, -⟩ := h.formI 3 rfl
  obtain ⟨la, hla⟩ : ∃ l, Hid (cs[a]? = some l) := ⟨_, Go.Lib.hid (List.getElem?_eq_getElem ha)⟩
  obtain ⟨lb, hlb⟩ : ∃ l, Hid (cs[b]? = some l) := ⟨_, Go.Lib.hid (List.getElem?_eq_getElem hb)⟩
  obtain ⟨gC, cC, Aa, ca, eC, hra, u0, u1, u2, f0, f1, f2, -, -⟩ := h.cellW 1 rfl hla
  obtain rfl := eC
  obtain ⟨gC', cC', Ab, cb, eC, hrb, v0, v1, v2, g0, g1, g2, -, -⟩ := h.cellW 1 rfl hlb
  simp only [Value.slice.injEq, Option.some.injEq, Addr.mk.injEq, and_true, true_and] at eC
  obtain ⟨rfl, rfl⟩ := eC
  obtain ⟨x0, x1, x2, -, -, -⟩ := h.box3 0 rfl
  go_enter Try.func24, Try.ntmps24
  go_wp2_with fail
  obtain ⟨p1, p2, p3, t0, t1, t2, t3, t4, t5⟩ := h.after3 (a := a) 1 rfl rfl hb (.bool lb.used) (.int .i64 lb.data) (.slice Ab lb.refs.length cb)
  have HZ := h.swapCells 1 rfl rfl hla.out hlb.out hra.out hrb.out
  rw [swCells_of hla hlb] at HZ
  simp only [List.set_cons_zero, List.set_cons_succ] at HZ
  unfold putCell3 at HZ
  refine wp_region_tree (fun _ => True) 15 [7, 11] (.take 0 (.take 1 (.take 2 (.take 3 (.take 4 (.take 5 (.take 6 (.take 8 (.take 9 (.take 10 (.alt 7 (.alt 11 (.take 12 (.alt 13 (.take 14 (.alt 15 (.done) (.stop))) (.stop))) (.stop)) (.alt 11 (.alt 7 (.take 12 (.alt 13 (.take 14 (.alt 15 (.done) (.stop))) (.stop))) (.stop)) (.stop))))))))))))) (by kernel_rfl) (by kernel_rfl) (by kernel_rfl) (trivial) ?_
  simp only [fillT, List.getElem?_cons_zero, List.getElem?_cons_succ, Nat.reduceBEq]
  repeat (first
    | (with_reducible refine po_take (v := ?_) ?_ (fun w' hS' => ?_) ?_
       rotate_left
       · (go_simp; done)
       · ((try dsimp only at hS'); go_simp; try with_reducible rfl)
       simp only [Act.put, List.setIfInBounds_toArray, List.set_cons_zero, List.set_cons_succ])
    | (with_reducible refine po_skip ?_ ?_
       · (go_simp; done)
       simp only [Act.put, List.setIfInBounds_toArray, List.set_cons_zero, List.set_cons_succ]))
  with_reducible refine po_run ?_ (fun K hK => ?_) ?_
  · (go_simp; done)
  · -- operation 7 first
    go_simp
    refine hK.out _ _ (.inr (trivial)) ?_
    clear hK K
    with_reducible refine po_run ?_ (fun K hK => ?_) ?_
    · (go_simp; done)
    rotate_left
    · exact po_stop
    go_simp
    refine hK.out _ _ (.inr (trivial)) ?_
    clear hK K
    repeat (first
      | (with_reducible refine po_take (v := ?_) ?_ (fun w' hS' => ?_) ?_
         rotate_left
         · (go_simp; done)
         · ((try dsimp only at hS'); go_simp; try with_reducible rfl)
         simp only [Act.put, List.setIfInBounds_toArray, List.set_cons_zero, List.set_cons_succ])
      | (with_reducible refine po_skip ?_ ?_
         · (go_simp; done)
         simp only [Act.put, List.setIfInBounds_toArray, List.set_cons_zero, List.set_cons_succ]))
    with_reducible refine po_run ?_ (fun K hK => ?_) ?_
    · (go_simp; done)
    rotate_left
    · exact po_stop
    go_simp
    refine hK.out _ _ (.inr (trivial)) ?_
    clear hK K
    repeat (first
      | (with_reducible refine po_take (v := ?_) ?_ (fun w' hS' => ?_) ?_
         rotate_left
         · (go_simp; done)
         · ((try dsimp only at hS'); go_simp; try with_reducible rfl)
         simp only [Act.put, List.setIfInBounds_toArray, List.set_cons_zero, List.set_cons_succ])
      | (with_reducible refine po_skip ?_ ?_
         · (go_simp; done)
         simp only [Act.put, List.setIfInBounds_toArray, List.set_cons_zero, List.set_cons_succ]))
    with_reducible refine po_run ?_ (fun K hK => ?_) ?_
    · (go_simp; done)
    rotate_left
    · exact po_stop
    go_simp
    refine hK.out _ _ (.inl rfl) ?_
    clear hK K
    refine po_done ?_
    obtain ⟨x0, x1, x2, -, -, -⟩ := HZ.box3 0 rfl
    have HX := HZ.drew
    have H0 := Go.Lib.hid h
    clear h HZ u0 u1 u2 f0 f1 f2 v0 v1 v2 g0 g1 g2 t0 t1 t2 t3 t4 t5
    go_wp2_with fail
    go_loopw [7, 8, 33] (fun v7 v8 i wr => ∃ (k : Nat) (X : List Int), i = .int .i64 k ∧ k ≤ hs.length ∧ X = (hs.take k).map (swH a b) ++ hs.drop k ∧ Owns lo w0 wr (.box g [.slice (some ⟨gC, 0, none⟩) cs.length cC, R, .slice AE hs.length kE] 28 :: .cells (.slice (some ⟨gC, 0, none⟩) cs.length cC) ((rvs.set a (.slice Ab lb.refs.length cb)).set b (.slice Aa la.refs.length ca)) (swCells cs a b) :: .ints R rs :: .ints (.slice AE hs.length kE) X :: M)) (fun _ _ i _ => hs.length - (intOf i).toNat)
    case atStart => exact ⟨0, hs, rfl, Nat.zero_le _, by simp, HX⟩
    case round =>
      clear HX x0 x1 x2
      obtain ⟨k, X, rfl, hk, hXX, H⟩ := hrel
      obtain ⟨x0, x1, x2, -, -, -⟩ := H.box3 0 rfl
      have hXl : hs.length = X.length := by rw [hXX]; simp; omega
      by_cases hlt : k < hs.length
      · obtain ⟨x, hx⟩ : ∃ x, Hid (hs[k]? = some x) := ⟨_, Go.Lib.hid (List.getElem?_eq_getElem hlt)⟩
        have hXk : Hid (X[k]? = some x) := Go.Lib.hid (by rw [hXX]; exact mapT_here hx)
        obtain ⟨gE, cE, eE, -, -, -, -⟩ := H.rowAt 3 rfl (show 0 < X.length by omega)
        simp only [Value.slice.injEq] at eE
        obtain ⟨rfl, -, rfl⟩ := eE
        obtain ⟨y0, y1⟩ := H.intAt 3 rfl hXl hXk
        by_cases ea : x = (a : Int)
        · have e1 : (x == (a : Int)) = true := by simp [ea]
          have hsw : swH a b x = (b : Int) := by simp [swH, ea]
          clear ea
          have HE := Go.Lib.hid (show X.set k ((b : Int)) = (hs.take (k + 1)).map (swH a b) ++ hs.drop (k + 1) by rw [hXX, ← hsw]; exact mapT_turn hx)
          have H2 := H.setInt 3 rfl hXl k ((b : Int))
          simp only [List.set_cons_zero, List.set_cons_succ] at H2
          clear hsw hXX H
          go_wp2_with fail
          go_roundw
          case rel => exact ⟨k + 1, _, by go_num, by omega, HE.out, H2⟩
          case measure => simp [intOf]; omega
        · have e1 : (x == (a : Int)) = false := by simp [ea]
          by_cases eb : x = (b : Int)
          · have e2 : (x == (b : Int)) = true := by simp [eb]
            have hsw : swH a b x = (a : Int) := by unfold swH; rw [if_neg ea, if_pos eb]
            clear ea eb
            have HE := Go.Lib.hid (show X.set k ((a : Int)) = (hs.take (k + 1)).map (swH a b) ++ hs.drop (k + 1) by rw [hXX, ← hsw]; exact mapT_turn hx)
            have H2 := H.setInt 3 rfl hXl k ((a : Int))
            simp only [List.set_cons_zero, List.set_cons_succ] at H2
            clear hsw hXX H
            go_wp2_with fail
            go_roundw
            case rel => exact ⟨k + 1, _, by go_num, by omega, HE.out, H2⟩
            case measure => simp [intOf]; omega
          · have e2 : (x == (b : Int)) = false := by simp [eb]
            have hsw : swH a b x = x := by unfold swH; rw [if_neg ea, if_neg eb]
            have HE := Go.Lib.hid (show X = (hs.take (k + 1)).map (swH a b) ++ hs.drop (k + 1) by rw [hXX]; exact (mapT_keep hx hsw).symm)
            clear ea eb hsw hXX
            go_wp2_with fail
            go_roundw
            case rel => exact ⟨k + 1, X, by go_num, by omega, HE.out, H⟩
            case measure => simp [intOf]; omega
      · have HE : Hid (X = hs.map (swH a b)) := Go.Lib.hid (by rw [hXX, List.take_of_length_le (by omega), List.drop_of_length_le (by omega), List.append_nil])
        clear hXX hXl
        go_wp2
        first | refine bodyPost_end (results_none rfl _ _ _) rfl ?_ | refine bodyPost_ret (results_none rfl _ _ _) rfl ?_
        exact ⟨rfl, _, by rw [← HE.out]; exact H⟩
  with_reducible refine po_run ?_ (fun K hK => ?_) ?_
  · (go_simp; done)
  rotate_left
  · exact po_stop
  go_simp
  refine hK.out _ _ (.inr (trivial)) ?_
  clear hK K
  with_reducible refine po_run ?_ (fun K hK => ?_) ?_
  · (go_simp; done)
  rotate_left
  · exact po_stop
  go_simp
  refine hK.out _ _ (.inr (trivial)) ?_
  clear hK K
  repeat (first
    | (with_reducible refine po_take (v := ?_) ?_ (fun w' hS' => ?_) ?_
       rotate_left
       · (go_simp; done)
       · ((try dsimp only at hS'); go_simp; try with_reducible rfl)
       simp only [Act.put, List.setIfInBounds_toArray, List.set_cons_zero, List.set_cons_succ])
    | (with_reducible refine po_skip ?_ ?_
       · (go_simp; done)
       simp only [Act.put, List.setIfInBounds_toArray, List.set_cons_zero, List.set_cons_succ]))
  with_reducible refine po_run ?_ (fun K hK => ?_) ?_
  · (go_simp; done)
  rotate_left
  · exact po_stop
  go_simp
  refine hK.out _ _ (.inr (trivial)) ?_
  clear hK K
  repeat (first
    | (with_reducible refine po_take (v := ?_) ?_ (fun w' hS' => ?_) ?_
       rotate_left
       · (go_simp; done)
       · ((try dsimp only at hS'); go_simp; try with_reducible rfl)
       simp only [Act.put, List.setIfInBounds_toArray, List.set_cons_zero, List.set_cons_succ])
    | (with_reducible refine po_skip ?_ ?_
       · (go_simp; done)
       simp only [Act.put, List.setIfInBounds_toArray, List.set_cons_zero, List.set_cons_succ]))
  with_reducible refine po_run ?_ (fun K hK => ?_) ?_
  · (go_simp; done)
  rotate_left
  · exact po_stop
  go_simp
  refine hK.out _ _ (.inl rfl) ?_
  clear hK K
  refine po_done ?_
  obtain ⟨x0, x1, x2, -, -, -⟩ := HZ.box3 0 rfl
  have HX := HZ.drew
  have H0 := Go.Lib.hid h
  clear h HZ u0 u1 u2 f0 f1 f2 v0 v1 v2 g0 g1 g2 t0 t1 t2 t3 t4 t5
  go_wp2_with fail
  go_loopw [7, 8, 33] (fun v7 v8 i wr => ∃ (k : Nat) (X : List Int), i = .int .i64 k ∧ k ≤ hs.length ∧ X = (hs.take k).map (swH a b) ++ hs.drop k ∧ Owns lo w0 wr (.box g [.slice (some ⟨gC, 0, none⟩) cs.length cC, R, .slice AE hs.length kE] 28 :: .cells (.slice (some ⟨gC, 0, none⟩) cs.length cC) ((rvs.set a (.slice Ab lb.refs.length cb)).set b (.slice Aa la.refs.length ca)) (swCells cs a b) :: .ints R rs :: .ints (.slice AE hs.length kE) X :: M)) (fun _ _ i _ => hs.length - (intOf i).toNat)
  case atStart => exact ⟨0, hs, rfl, Nat.zero_le _, by simp, HX⟩
  case round =>
    clear HX x0 x1 x2
    obtain ⟨k, X, rfl, hk, hXX, H⟩ := hrel
    obtain ⟨x0, x1, x2, -, -, -⟩ := H.box3 0 rfl
    have hXl : hs.length = X.length := by rw [hXX]; simp; omega
    by_cases hlt : k < hs.length
    · obtain ⟨x, hx⟩ : ∃ x, Hid (hs[k]? = some x) := ⟨_, Go.Lib.hid (List.getElem?_eq_getElem hlt)⟩
      have hXk : Hid (X[k]? = some x) := Go.Lib.hid (by rw [hXX]; exact mapT_here hx)
      obtain ⟨gE, cE, eE, -, -, -, -⟩ := H.rowAt 3 rfl (show 0 < X.length by omega)
      simp only [Value.slice.injEq] at eE
      obtain ⟨rfl, -, rfl⟩ := eE
      obtain ⟨y0, y1⟩ := H.intAt 3 rfl hXl hXk
      by_cases ea : x = (a : Int)
      · have e1 : (x == (a : Int)) = true := by simp [ea]
        have hsw : swH a b x = (b : Int) := by simp [swH, ea]
        clear ea
        have HE := Go.Lib.hid (show X.set k ((b : Int)) = (hs.take (k + 1)).map (swH a b) ++ hs.drop (k + 1) by rw [hXX, ← hsw]; exact mapT_turn hx)
        have H2 := H.setInt 3 rfl hXl k ((b : Int))
        simp only [List.set_cons_zero, List.set_cons_succ] at H2
        clear hsw hXX H
        go_wp2_with fail
        go_roundw
        case rel => exact ⟨k + 1, _, by go_num, by omega, HE.out, H2⟩
        case measure => simp [intOf]; omega
      · have e1 : (x == (a : Int)) = false := by simp [ea]
        by_cases eb : x = (b : Int)
        · have e2 : (x == (b : Int)) = true := by simp [eb]
          have hsw : swH a b x = (a : Int) := by unfold swH; rw [if_neg ea, if_pos eb]
          clear ea eb
          have HE := Go.Lib.hid (show X.set k ((a : Int)) = (hs.take (k + 1)).map (swH a b) ++ hs.drop (k + 1) by rw [hXX, ← hsw]; exact mapT_turn hx)
          have H2 := H.setInt 3 rfl hXl k ((a : Int))
          simp only [List.set_cons_zero, List.set_cons_succ] at H2
          clear hsw hXX H
          go_wp2_with fail
          go_roundw
          case rel => exact ⟨k + 1, _, by go_num, by omega, HE.out, H2⟩
          case measure => simp [intOf]; omega
        · have e2 : (x == (b : Int)) = false := by simp [eb]
          have hsw : swH a b x = x := by unfold swH; rw [if_neg ea, if_neg eb]
          have HE := Go.Lib.hid (show X = (hs.take (k + 1)).map (swH a b) ++ hs.drop (k + 1) by rw [hXX]; exact (mapT_keep hx hsw).symm)
          clear ea eb hsw hXX
          go_wp2_with fail
          go_roundw
          case rel => exact ⟨k + 1, X, by go_num, by omega, HE.out, H⟩
          case measure => simp [intOf]; omega
    · have HE : Hid (X = hs.map (swH a b)) := Go.Lib.hid (by rw [hXX, List.take_of_length_le (by omega), List.drop_of_length_le (by omega), List.append_nil])
      clear hXX hXl
      go_wp2
      first | refine bodyPost_end (results_none rfl _ _ _) rfl ?_ | refine bodyPost_ret (results_none rfl _ _ _) rfl ?_
      exact ⟨rfl, _, by rw [← HE.out]; exact H⟩
set_option maxHeartbeats 3200000 in
set_option maxRecDepth 20000 in
theorem implMoveCells_any (w : World) (B : Nat) (v : Value) (t : Tbl) (a b : Int) (hh : RdT w B v t) (hn : t.store.cells.length ≤ 1048576) (hn2 : t.store.roots.length ≤ 1048576) (hn3 : ∀ c ∈ t.store.cells, c.refs.length ≤ 1048576) (hn4 : t.hands.length ≤ 1048576) :
    Calls Try.prog 7 #[v, .int .i64 a, .int .i64 b] w (MadeTp w (mMove t a b)) := by
  have hh' := hh.top
  obtain ⟨D, m, d, D', m', d', E, q, f, rfl, hC, hR, hE⟩ := hh.top
  obtain rfl : q = t.hands.length := by have := RdI.le1 hE; have := RdI.le2 hE; omega
  have HN3 := Go.Lib.hid hn3
  clear hn3
  have H := ((Owns.nil w).box [.slice D m d, .slice D' m' d', .slice E t.hands.length f] 28).box [.slice none 0 0, .slice none 0 0, .slice none 0 0] 28
  simp only [World.size_alloc] at H
  obtain ⟨a0, a1, a2, -, -, -⟩ := H.box3 1 rfl
  go_enter Try.func7, Try.ntmps7
  go_wp2_with fail
  refine (implTableValid_any _ _ _ t (hh'.below H.below) hn hn2 HN3.out hn4).mono ?_
  rintro e w1 ⟨rfl, hb⟩
  replace H := H.call hb
  clear hb a0 a1 a2
  obtain ⟨a0, a1, a2, -, -, -⟩ := H.box3 1 rfl
  obtain ⟨y0, y1, y2, y3, y4, y5⟩ := H.box3 0 rfl
  cases hv : mTableValid t
  · have HF : Hid (mMove t a b = ⟨⟨[], []⟩, []⟩) := Go.Lib.hid (by unfold mMove; rw [if_neg]; simp [mMoveOk, hv])
    have HZ := (((((H.putBox 0 rfl 0 (.slice none 0 0)).putBox 0 rfl 1 (.slice none 0 0)).putBox 0 rfl 2 (.slice none 0 0)).noInts).noInts).noCells
    simp only [List.set_cons_zero, List.set_cons_succ] at HZ
    obtain ⟨z0, z1, z2, -, -, -⟩ := HZ.box3 3 rfl
    have HS : Hid (MadeTp w (mMove t a b) (.returned (.agg #[.slice none 0 0, .slice none 0 0, .slice none 0 0])) _) := Go.Lib.hid (by rw [HF.out]; exact ⟨_, [], _, _, rfl, HZ.take 3⟩)
    clear H HZ hv
    go_wp2
    exact bodyPost_ret (v := .agg #[.slice none 0 0, .slice none 0 0, .slice none 0 0]) (by simp [results, Try.results7, go_sem, z0, z1, z2]) rfl HS.out
  by_cases c1 : a < 0
  · have HF : Hid (mMove t a b = ⟨⟨[], []⟩, []⟩) := Go.Lib.hid (by unfold mMove; rw [if_neg]; simp [mMoveOk]; omega)
    have HZ := (((((H.putBox 0 rfl 0 (.slice none 0 0)).putBox 0 rfl 1 (.slice none 0 0)).putBox 0 rfl 2 (.slice none 0 0)).noInts).noInts).noCells
    simp only [List.set_cons_zero, List.set_cons_succ] at HZ
    obtain ⟨z0, z1, z2, -, -, -⟩ := HZ.box3 3 rfl
    have HS : Hid (MadeTp w (mMove t a b) (.returned (.agg #[.slice none 0 0, .slice none 0 0, .slice none 0 0])) _) := Go.Lib.hid (by rw [HF.out]; exact ⟨_, [], _, _, rfl, HZ.take 3⟩)
    clear H HZ hv
    go_wp2
    exact bodyPost_ret (v := .agg #[.slice none 0 0, .slice none 0 0, .slice none 0 0]) (by simp [results, Try.results7, go_sem, z0, z1, z2]) rfl HS.out
  by_cases c2 : b < 0
  · have HF : Hid (mMove t a b = ⟨⟨[], []⟩, []⟩) := Go.Lib.hid (by unfold mMove; rw [if_neg]; simp [mMoveOk]; omega)
    have HZ := (((((H.putBox 0 rfl 0 (.slice none 0 0)).putBox 0 rfl 1 (.slice none 0 0)).putBox 0 rfl 2 (.slice none 0 0)).noInts).noInts).noCells
    simp only [List.set_cons_zero, List.set_cons_succ] at HZ
    obtain ⟨z0, z1, z2, -, -, -⟩ := HZ.box3 3 rfl
    have HS : Hid (MadeTp w (mMove t a b) (.returned (.agg #[.slice none 0 0, .slice none 0 0, .slice none 0 0])) _) := Go.Lib.hid (by rw [HF.out]; exact ⟨_, [], _, _, rfl, HZ.take 3⟩)
    clear H HZ hv
    go_wp2
    exact bodyPost_ret (v := .agg #[.slice none 0 0, .slice none 0 0, .slice none 0 0]) (by simp [results, Try.results7, go_sem, z0, z1, z2]) rfl HS.out
  by_cases c3 : (t.hands.length : Int) ≤ a
  · have HF : Hid (mMove t a b = ⟨⟨[], []⟩, []⟩) := Go.Lib.hid (by unfold mMove; rw [if_neg]; simp [mMoveOk]; omega)
    have HZ := (((((H.putBox 0 rfl 0 (.slice none 0 0)).putBox 0 rfl 1 (.slice none 0 0)).putBox 0 rfl 2 (.slice none 0 0)).noInts).noInts).noCells
    simp only [List.set_cons_zero, List.set_cons_succ] at HZ
    obtain ⟨z0, z1, z2, -, -, -⟩ := HZ.box3 3 rfl
    have HS : Hid (MadeTp w (mMove t a b) (.returned (.agg #[.slice none 0 0, .slice none 0 0, .slice none 0 0])) _) := Go.Lib.hid (by rw [HF.out]; exact ⟨_, [], _, _, rfl, HZ.take 3⟩)
    clear H HZ hv
    go_wp2
    exact bodyPost_ret (v := .agg #[.slice none 0 0, .slice none 0 0, .slice none 0 0]) (by simp [results, Try.results7, go_sem, z0, z1, z2]) rfl HS.out
  by_cases c4 : (t.hands.length : Int) ≤ b
  · have HF : Hid (mMove t a b = ⟨⟨[], []⟩, []⟩) := Go.Lib.hid (by unfold mMove; rw [if_neg]; simp [mMoveOk]; omega)
    have HZ := (((((H.putBox 0 rfl 0 (.slice none 0 0)).putBox 0 rfl 1 (.slice none 0 0)).putBox 0 rfl 2 (.slice none 0 0)).noInts).noInts).noCells
    simp only [List.set_cons_zero, List.set_cons_succ] at HZ
    obtain ⟨z0, z1, z2, -, -, -⟩ := HZ.box3 3 rfl
    have HS : Hid (MadeTp w (mMove t a b) (.returned (.agg #[.slice none 0 0, .slice none 0 0, .slice none 0 0])) _) := Go.Lib.hid (by rw [HF.out]; exact ⟨_, [], _, _, rfl, HZ.take 3⟩)
    clear H HZ hv
    go_wp2
    exact bodyPost_ret (v := .agg #[.slice none 0 0, .slice none 0 0, .slice none 0 0]) (by simp [results, Try.results7, go_sem, z0, z1, z2]) rfl HS.out
  obtain ⟨an, rfl⟩ := Int.eq_ofNat_of_zero_le (show 0 ≤ a by omega)
  obtain ⟨bn, rfl⟩ := Int.eq_ofNat_of_zero_le (show 0 ≤ b by omega)
  have HF : Hid (mMove t an bn = mMoved t an bn) := Go.Lib.hid (by
    unfold mMove; rw [if_pos]; rfl
    simp [mMoveOk, hv]; omega)
  have hlen : t.hands.length = t.store.cells.length := by
    simp only [mTableValid, Bool.and_eq_true, decide_eq_true_eq] at hv
    exact hv.1.1.1
  have hal : an < t.store.cells.length := by omega
  have hbl : bn < t.store.cells.length := by omega
  clear hv hlen
  go_wp2_with fail
  refine (copyTable_any _ _ _ t (hh'.below H.below) hn hn2 HN3.out hn4).mono ?_
  rintro e w2 ⟨cv, rvs, rv, hv, rfl, K⟩
  replace K := H.merge K
  simp only [List.cons_append, List.nil_append] at K
  clear H a0 a1 a2 y0 y1 y2 y3 y4 y5
  have H2 := K.box [cv, rv, hv] 28
  clear K
  obtain ⟨C, kC, rfl, -⟩ := H2.formC 1 rfl
  obtain ⟨R, kR, rfl, -⟩ := H2.formI 2 rfl
  obtain ⟨V, kV, rfl, -⟩ := H2.formI 3 rfl
  go_wp2_with fail
  refine (exchange_own H2 an bn hal hbl hn hn4).mono ?_
  rintro e w3 ⟨rfl, rvs', H3⟩
  clear H2
  obtain ⟨x0, x1, x2, -, -, -⟩ := H3.box3 0 rfl
  obtain ⟨y0, y1, y2, y3, y4, y5⟩ := H3.box3 4 rfl
  have HZ := ((H3.putBox 4 rfl 0 (.slice C t.store.cells.length kC)).putBox 4 rfl 1 (.slice R t.store.roots.length kR)).putBox 4 rfl 2 (.slice V t.hands.length kV)
  simp only [List.set_cons_zero, List.set_cons_succ] at HZ
  obtain ⟨z0, z1, z2, -, -, -⟩ := HZ.box3 4 rfl
  have HS : Hid (MadeTp w (mMove t an bn) (.returned (.agg #[.slice C t.store.cells.length kC, .slice R t.store.roots.length kR, .slice V t.hands.length kV])) _) := Go.Lib.hid (by rw [HF.out]; exact ⟨_, rvs', _, _, rfl, HZ.order [1, 2, 3] (by decide) rfl⟩)
  clear H3 HZ
  go_wp2
  exact bodyPost_ret (v := .agg #[.slice C t.store.cells.length kC, .slice R t.store.roots.length kR, .slice V t.hands.length kV]) (by simp [results, Try.results7, go_sem, z0, z1, z2]) rfl HS.out
end Go.Proofs.Ytcekohpekpkobaa
