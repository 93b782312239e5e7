/- A table and two numbers drawn from a code; the law FnMoveCells' walk. For every code that can be read. -/
import Derived.Test.YtcekohpekpkobaaTd
import Derived.Test.YtcekohpekpkobaaAl
import Derived.Test.YtcekohpekpkobaaSn
import Derived.Test.YtcekohpekpkobaaMg
import Derived.Test.YtcekohpekpkobaaVt
import Derived.Test.YtcekohpekpkobaaVi
import Derived.Test.YtcekohpekpkobaaMs
namespace Go.Proofs.Ytcekohpekpkobaa
open Go.RowKit
theorem tab_big {t : Tbl} (h : mTableValid t = true) : t.store.cells.length ≤ 1048576 ∧ t.store.roots.length ≤ 1048576 ∧ (∀ c ∈ t.store.cells, c.refs.length ≤ 1048576) ∧ t.hands.length ≤ 1048576 := by
  obtain ⟨h1, h2, h3⟩ := tab_len h
  refine ⟨by omega, by omega, fun c hc => ?_, by omega⟩
  obtain ⟨i, hi⟩ := List.getElem?_of_mem hc
  have := (refs3 (tab_heap h) (c := i) (l := tellC t.hands c) (by show (t.store.cells.map _)[i]? = _; rw [List.getElem?_map, hi]; rfl)).1
  simp only [tellC, List.length_map] at this
  omega
/-- A table and two numbers, of the call's own. -/
def DrawnTab (w : World) (e : Ending) (w' : World) : Prop :=
  ∃ (t : Tbl) (cv : Value) (rvs : List Value) (rv hv hv0 : Value) (hs0 : List Int) (a b : Int), e = .returned (.tuple #[.agg #[cv, rv, hv], .int .i64 a, .int .i64 b]) ∧ SmT t ∧ TailT hv hv0 t.hands hs0 ∧ Owns w.heap.size w w' [.cells cv rvs t.store.cells, .ints rv t.store.roots, .ints hv0 hs0]
set_option maxHeartbeats 3200000 in
set_option maxRecDepth 20000 in
theorem DrawMoveCells_any (w : World) (A : Option Addr) (n c : Nat) (bs : List Int) (hr : RdY w w.heap.size A n c bs) :
    Calls Try.prog 6 #[.slice A n c] w (DrawnTab w) := by
  have H := (Owns.nil w).box [.slice none 0 0, .slice none 0 0, .slice none 0 0] 28
  go_enter Try.func6, Try.ntmps6
  go_wp2_with fail
  refine (open_own H A n c bs hr).mono ?_
  rintro e w1 ⟨g, A1, n1, c1, bs1, rfl, hU, H1⟩
  clear H hr
  go_wp2_with fail
  refine (table_own H1 0 rfl hU (by omega) 14 (by omega) (by omega)).mono ?_
  rintro e w2 ⟨t, cv, rvs, rv, hv, hv0, hs0, p1, rfl, hS, ht, hp0, hp1, H2⟩
  simp only [List.set_cons_zero] at H2
  clear H1
  obtain ⟨C, kC, rfl, -⟩ := H2.formC 0 rfl
  obtain ⟨R, kR, rfl, -⟩ := H2.formI 1 rfl
  obtain ⟨E0, kE0, e0, -⟩ := H2.formI 2 rfl
  obtain ⟨E, nE, kE, rfl⟩ := ht.form e0
  clear e0
  have hbg := hS.big.1
  have H3 := H2.box [.slice C t.store.cells.length kC, .slice R t.store.roots.length kR, .slice E nE kE] 28
  clear H2
  obtain ⟨y0, y1, y2, -, -, -⟩ := H3.box3 0 rfl
  go_wp2_with fail
  refine (pick_own H3 4 rfl hU (by omega) ((t.store.cells.length : Int) + 1) (by unfold I64; omega)).mono ?_
  rintro e w3 ⟨q1, rfl, hq1, H4⟩
  replace hq1 : (q1 : Int) < (t.store.cells.length : Int) + 1 := by omega
  simp only [List.set_cons_zero, List.set_cons_succ] at H4
  clear H3 y0 y1 y2
  go_wp2_with fail
  refine (pick_own H4 4 rfl hU (by omega) 14 (by unfold I64; omega)).mono ?_
  rintro e w4 ⟨q2, rfl, hq2, H5⟩
  replace hq2 : (q2 : Int) < 14 := by omega
  simp only [List.set_cons_zero, List.set_cons_succ] at H5
  clear H4
  obtain ⟨y0, y1, y2, -, -, -⟩ := H5.box3 0 rfl
  by_cases c13 : q2 = 13
  · -- the quotient is 1
    subst c13
    go_wp2_with fail
    have HX := H5.drew
    have H0 := Go.Lib.hid H5
    clear H5 y0 y1 y2
    obtain ⟨y0, y1, y2, -, -, -⟩ := HX.box3 0 rfl
    have hw : IntKind.i64.wrap ((t.store.cells.length : Int) + 1) = (t.store.cells.length : Int) + 1 := by rw [IntKind.wrap_i64]; omega
    refine wp_region_tree (fun w' => w'.cell? ⟨w2.heap.size, 0, none⟩ = some (.slice C t.store.cells.length kC) ∧ w'.cell? ⟨w2.heap.size, 1, none⟩ = some (.slice R t.store.roots.length kR) ∧ w'.cell? ⟨w2.heap.size, 2, none⟩ = some (.slice E nE kE)) 12 [] (.take 0 (.take 1 (.take 2 (.take 3 (.take 4 (.take 5 (.take 6 (.take 7 (.alt 8 (.alt 9 (.take 10 (.take 11 (.done))) (.stop)) (.stop)))))))))) (by kernel_rfl) (by kernel_rfl) (by kernel_rfl) (⟨y0, y1, y2⟩) ?_
    simp only [fillT, List.getElem?_cons_zero, List.getElem?_cons_succ, Nat.reduceBEq]
    repeat (first
      | (with_reducible refine po_take (v := ?_) ?_ (fun w' hS' => ?_) ?_
         rotate_left
         · (go_simp; done)
         · ((try dsimp only at hS'); go_simp; try with_reducible rfl)
         simp only [Act.put, List.setIfInBounds_toArray, List.set_cons_zero, List.set_cons_succ])
      | (with_reducible refine po_skip ?_ ?_
         · (go_simp; done)
         simp only [Act.put, List.setIfInBounds_toArray, List.set_cons_zero, List.set_cons_succ]))
    with_reducible refine po_run ?_ (fun K hK => ?_) ?_
    · (go_simp; done)
    rotate_left
    · exact po_stop
    go_simp
    clear hw
    refine (pick_own HX 4 rfl hU (by omega) ((t.store.cells.length : Int) + 1) (by unfold I64; omega)).mono ?_
    rintro e w5 ⟨q3, rfl, hq3, HY⟩
    simp only [List.set_cons_zero, List.set_cons_succ] at HY
    clear HX y0 y1 y2
    have HX := HY
    clear HY
    obtain ⟨y0, y1, y2, -, -, -⟩ := HX.box3 0 rfl
    refine hK.out _ _ (.inr (⟨y0, y1, y2⟩)) ?_
    clear hK K
    with_reducible refine po_run ?_ (fun K hK => ?_) ?_
    · (go_simp; done)
    rotate_left
    · exact po_stop
    obtain ⟨v0, v1, v2, v3, v4, v5⟩ := HX.box3 5 rfl
    go_simp
    have HZ := ((HX.putBox 5 rfl 0 (.slice C t.store.cells.length kC)).putBox 5 rfl 1 (.slice R t.store.roots.length kR)).putBox 5 rfl 2 (.slice E nE kE)
    simp only [List.set_cons_zero, List.set_cons_succ] at HZ
    clear y0 y1 y2
    obtain ⟨y0, y1, y2, -, -, -⟩ := HZ.box3 0 rfl
    refine hK.out _ _ (.inr (⟨y0, y1, y2⟩)) ?_
    clear hK K
    repeat (first
      | (with_reducible refine po_take (v := ?_) ?_ (fun w' hS' => ?_) ?_
         rotate_left
         · (go_simp; done)
         · ((try dsimp only at hS'); go_simp; try with_reducible rfl)
         simp only [Act.put, List.setIfInBounds_toArray, List.set_cons_zero, List.set_cons_succ])
      | (with_reducible refine po_skip ?_ ?_
         · (go_simp; done)
         simp only [Act.put, List.setIfInBounds_toArray, List.set_cons_zero, List.set_cons_succ]))
    refine po_done ?_
    obtain ⟨z0, z1, z2, -, -, -⟩ := HZ.box3 5 rfl
    have HE := HZ.places [1, 2, 3] (by decide) (by simp)
    simp only [List.filterMap_cons, List.filterMap_nil, List.getElem?_cons_zero, List.getElem?_cons_succ] at HE
    have HS : Hid (DrawnTab w (.returned (.tuple #[.agg #[.slice C t.store.cells.length kC, .slice R t.store.roots.length kR, .slice E nE kE], .int .i64 ((q1 : Int) - 1), .int .i64 (q3 : Int)])) _) := Go.Lib.hid ⟨t, _, rvs, _, _, _, _, _, _, rfl, hS, ht, HE⟩
    clear HX HZ HE H0 hS ht y0 y1 y2 v0 v1 v2 v3 v4 v5
    go_wp2
    exact bodyPost_ret (v := .tuple #[.agg #[.slice C t.store.cells.length kC, .slice R t.store.roots.length kR, .slice E nE kE], .int .i64 ((q1 : Int) - 1), .int .i64 (q3 : Int)]) (by simp [results, Try.results6, go_sem, z0, z1, z2]) rfl HS.out
  · -- the quotient is 0
    have f1 : Int.tdiv (q2 : Int) 13 = 0 := Int.tdiv_eq_zero_of_lt (by omega) (by omega)
    have f2 : (q2 : Int) / 13 = 0 := by omega
    clear c13
    go_wp2_with fail
    have HX := H5.drew
    have H0 := Go.Lib.hid H5
    clear H5 y0 y1 y2
    obtain ⟨y0, y1, y2, -, -, -⟩ := HX.box3 0 rfl
    have hw : IntKind.i64.wrap ((t.store.cells.length : Int) + 1) = (t.store.cells.length : Int) + 1 := by rw [IntKind.wrap_i64]; omega
    refine wp_region_tree (fun w' => w'.cell? ⟨w2.heap.size, 0, none⟩ = some (.slice C t.store.cells.length kC) ∧ w'.cell? ⟨w2.heap.size, 1, none⟩ = some (.slice R t.store.roots.length kR) ∧ w'.cell? ⟨w2.heap.size, 2, none⟩ = some (.slice E nE kE)) 12 [] (.take 0 (.take 1 (.take 2 (.take 3 (.take 4 (.take 5 (.take 6 (.take 7 (.alt 8 (.alt 9 (.take 10 (.take 11 (.done))) (.stop)) (.stop)))))))))) (by kernel_rfl) (by kernel_rfl) (by kernel_rfl) (⟨y0, y1, y2⟩) ?_
    simp only [fillT, List.getElem?_cons_zero, List.getElem?_cons_succ, Nat.reduceBEq]
    repeat (first
      | (with_reducible refine po_take (v := ?_) ?_ (fun w' hS' => ?_) ?_
         rotate_left
         · (go_simp; done)
         · ((try dsimp only at hS'); go_simp; try with_reducible rfl)
         simp only [Act.put, List.setIfInBounds_toArray, List.set_cons_zero, List.set_cons_succ])
      | (with_reducible refine po_skip ?_ ?_
         · (go_simp; done)
         simp only [Act.put, List.setIfInBounds_toArray, List.set_cons_zero, List.set_cons_succ]))
    with_reducible refine po_run ?_ (fun K hK => ?_) ?_
    · (go_simp; done)
    rotate_left
    · exact po_stop
    go_simp
    clear hw
    refine (pick_own HX 4 rfl hU (by omega) ((t.store.cells.length : Int) + 1) (by unfold I64; omega)).mono ?_
    rintro e w5 ⟨q3, rfl, hq3, HY⟩
    simp only [List.set_cons_zero, List.set_cons_succ] at HY
    clear HX y0 y1 y2
    have HX := HY
    clear HY
    obtain ⟨y0, y1, y2, -, -, -⟩ := HX.box3 0 rfl
    refine hK.out _ _ (.inr (⟨y0, y1, y2⟩)) ?_
    clear hK K
    with_reducible refine po_run ?_ (fun K hK => ?_) ?_
    · (go_simp; done)
    rotate_left
    · exact po_stop
    obtain ⟨v0, v1, v2, v3, v4, v5⟩ := HX.box3 5 rfl
    go_simp
    have HZ := ((HX.putBox 5 rfl 0 (.slice C t.store.cells.length kC)).putBox 5 rfl 1 (.slice R t.store.roots.length kR)).putBox 5 rfl 2 (.slice E nE kE)
    simp only [List.set_cons_zero, List.set_cons_succ] at HZ
    clear y0 y1 y2
    obtain ⟨y0, y1, y2, -, -, -⟩ := HZ.box3 0 rfl
    refine hK.out _ _ (.inr (⟨y0, y1, y2⟩)) ?_
    clear hK K
    repeat (first
      | (with_reducible refine po_take (v := ?_) ?_ (fun w' hS' => ?_) ?_
         rotate_left
         · (go_simp; done)
         · ((try dsimp only at hS'); go_simp; try with_reducible rfl)
         simp only [Act.put, List.setIfInBounds_toArray, List.set_cons_zero, List.set_cons_succ])
      | (with_reducible refine po_skip ?_ ?_
         · (go_simp; done)
         simp only [Act.put, List.setIfInBounds_toArray, List.set_cons_zero, List.set_cons_succ]))
    refine po_done ?_
    obtain ⟨z0, z1, z2, -, -, -⟩ := HZ.box3 5 rfl
    have HE := HZ.places [1, 2, 3] (by decide) (by simp)
    simp only [List.filterMap_cons, List.filterMap_nil, List.getElem?_cons_zero, List.getElem?_cons_succ] at HE
    have HS : Hid (DrawnTab w (.returned (.tuple #[.agg #[.slice C t.store.cells.length kC, .slice R t.store.roots.length kR, .slice E nE kE], .int .i64 (q1 : Int), .int .i64 (q3 : Int)])) _) := Go.Lib.hid ⟨t, _, rvs, _, _, _, _, _, _, rfl, hS, ht, HE⟩
    clear HX HZ HE H0 hS ht y0 y1 y2 v0 v1 v2 v3 v4 v5
    go_wp2
    exact bodyPost_ret (v := .tuple #[.agg #[.slice C t.store.cells.length kC, .slice R t.store.roots.length kR, .slice E nE kE], .int .i64 (q1 : Int), .int .i64 (q3 : Int)]) (by simp [results, Try.results6, go_sem, z0, z1, z2]) rfl HS.out
theorem Owns.cellRef {lo : Nat} {w0 w : World} {L : List OB} (h : Owns lo w0 w L) (i : Nat) {g n cC : Nat} {rvs : List Value} {cs : List Cel} (hX : L[i]? = some (.cells (.slice (some ⟨g, 0, none⟩) n cC) rvs cs)) {k : Nat} {l : Cel} {rv : Value} (hc : Hid (cs[k]? = some l)) (hr : Hid (rvs[k]? = some rv)) : w.cell? ⟨g, k * 3 + 2, none⟩ = some rv := by
  have ho := h.owC i hX
  obtain ⟨-, -, v3⟩ := cellVals_at cs rvs k l rv hc.out hr.out
  have h3 := ho.own.cells (g := g) rfl _ _ v3
  rw [add_lit0] at h3
  simpa only [Nat.zero_add] using h3
/-- What the law says of two cells that change places. -/
theorem move_facts {t : Tbl} {a b : Int} (h : mMoveOk t a b = true) : ∃ an bn : Nat, a = an ∧ b = bn ∧ an < t.store.cells.length ∧ bn < t.store.cells.length ∧ mTableValid t = true ∧ mMove t a b = mMoved t an bn := by
  have h0 := h
  unfold mMoveOk at h
  simp only [Bool.and_eq_true, decide_eq_true_eq] at h
  have hl := (tab_len h.1).1
  refine ⟨a.toNat, b.toNat, by omega, by omega, by omega, by omega, h.1, ?_⟩
  unfold mMove
  rw [if_pos h0]
theorem move_again {t : Tbl} {an bn : Nat} (hv : mTableValid t = true) (ha : an < t.store.cells.length) (hb : bn < t.store.cells.length) : mMove (mMoved t an bn) (an : Int) (bn : Int) = t := by
  have h1 := mMoved_valid hv ha hb
  obtain ⟨l1, l2⟩ := mMoved_len t an bn
  have hl := (tab_len hv).1
  have h2 : mMoveOk (mMoved t an bn) (an : Int) (bn : Int) = true := by
    unfold mMoveOk
    rw [h1]
    simp; omega
  unfold mMove
  rw [if_pos h2, Int.toNat_natCast, Int.toNat_natCast]
  exact moved_back ha hb
theorem RdI.asList {w : World} {B : Nat} {A : Option Addr} {n c : Nat} {xs ys : List Int} (h : RdI w B A n c xs) (e : xs = ys) : RdI w B A n c ys := e ▸ h
set_option maxHeartbeats 6400000 in
set_option maxRecDepth 20000 in
theorem lawMoveCells_any (w : World) {A : Option Addr} {n c : Nat} {bs : List Int} (hr : RdY w w.heap.size A n c bs) :
    Calls Try.prog 3 #[.slice A n c] w fun e w' => e = .returned (.bool true) ∧ Below w.heap.size w w' := by
  by_cases s0 : 1048576 < n
  · go_enter Try.func3, Try.ntmps3
    go_wp2
    go_ret
    exact ⟨rfl, Below.refl _ _⟩
  go_enter Try.func3, Try.ntmps3
  go_wp2_with fail
  refine (DrawMoveCells_any w A n c bs hr).mono ?_
  rintro e w1 ⟨t, cv, rvs, rv, hv, hv0, hs0, a, b, rfl, hS, ht, H1⟩
  obtain ⟨C, kC, rfl, -⟩ := H1.formC 0 rfl
  obtain ⟨R, kR, rfl, -⟩ := H1.formI 1 rfl
  obtain ⟨E0, kE0, e0, -⟩ := H1.formI 2 rfl
  obtain ⟨E, nE, kE, rfl⟩ := ht.form e0
  have HT := Go.Lib.hid ht
  have HBg := Go.Lib.hid hS.big
  clear e0 ht hS hr s0
  have H := H1.box [.slice C t.store.cells.length kC, .slice R t.store.roots.length kR, .slice E nE kE] 28
  clear H1
  obtain ⟨x0, x1, x2, -, -, -⟩ := H.box3 0 rfl
  obtain ⟨X, hX⟩ : ∃ X, X = mMove t a b := ⟨_, rfl⟩
  have HXe := Go.Lib.hid hX
  clear hX
  go_wp2_with fail
  refine (implMoveCells_any _ _ _ t a b (H.rdTx 1 2 3 rfl rfl rfl HT.out) HBg.out.1 HBg.out.2.1 HBg.out.2.2.1 HBg.out.2.2.2).mono ?_
  rintro e w2 ⟨cv2, rvs2, rv2, hv2, rfl, K⟩
  rw [← HXe.out] at K
  have H2 := H.merge K
  simp only [List.cons_append, List.nil_append] at H2
  clear H K x0 x1 x2
  obtain ⟨C2, kC2, rfl, -⟩ := H2.formC 0 rfl
  obtain ⟨R2, kR2, rfl, -⟩ := H2.formI 1 rfl
  obtain ⟨E2, kE2, rfl, -⟩ := H2.formI 2 rfl
  have H3 := H2.box [.slice C2 X.store.cells.length kC2, .slice R2 X.store.roots.length kR2, .slice E2 X.hands.length kE2] 28
  clear H2
  go_wp2_with fail
  have HX := H3.drew
  have H0 := Go.Lib.hid H3
  clear H3
  obtain ⟨x0, x1, x2, -, -, -⟩ := HX.box3 4 rfl
  obtain ⟨y0, y1, y2, -, -, -⟩ := HX.box3 0 rfl
  refine wp_region_tree (fun w' => (w'.cell? ⟨w1.heap.size, 0, none⟩ = some (.slice C t.store.cells.length kC) ∧ w'.cell? ⟨w1.heap.size, 1, none⟩ = some (.slice R t.store.roots.length kR) ∧ w'.cell? ⟨w1.heap.size, 2, none⟩ = some (.slice E nE kE)) ∧ w'.cell? ⟨w2.heap.size, 0, none⟩ = some (.slice C2 X.store.cells.length kC2) ∧ w'.cell? ⟨w2.heap.size, 1, none⟩ = some (.slice R2 X.store.roots.length kR2) ∧ w'.cell? ⟨w2.heap.size, 2, none⟩ = some (.slice E2 X.hands.length kE2)) 7 [] (.take 0 (.take 1 (.take 2 (.take 3 (.alt 4 (.alt 5 (.take 6 (.done)) (.stop)) (.stop)))))) (by kernel_rfl) (by kernel_rfl) (by kernel_rfl) (⟨⟨x0, x1, x2⟩, y0, y1, y2⟩) ?_
  simp only [fillT, List.getElem?_cons_zero, List.getElem?_cons_succ, Nat.reduceBEq]
  repeat (first
    | (with_reducible refine po_take (v := ?_) ?_ (fun w' hS' => ?_) ?_
       rotate_left
       · (go_simp; done)
       · ((try dsimp only at hS'); go_simp; try with_reducible rfl)
       simp only [Act.put, List.setIfInBounds_toArray, List.set_cons_zero, List.set_cons_succ])
    | (with_reducible refine po_skip ?_ ?_
       · (go_simp; done)
       simp only [Act.put, List.setIfInBounds_toArray, List.set_cons_zero, List.set_cons_succ]))
  with_reducible refine po_run ?_ (fun K hK => ?_) ?_
  · (go_simp; done)
  rotate_left
  · exact po_stop
  go_simp
  refine (specMoveCells_any _ _ _ t a b (HX.rdTx 5 6 7 rfl rfl rfl HT.out) HBg.out.1 HBg.out.2.1 HBg.out.2.2.1 HBg.out.2.2.2).mono ?_
  rintro e w3 ⟨cv3, rvs3, rv3, hv3, rfl, K⟩
  rw [← HXe.out] at K
  replace K := HX.merge K
  simp only [List.cons_append, List.nil_append] at K
  clear HX x0 x1 x2 y0 y1 y2
  have HX := K
  clear K
  obtain ⟨C3, kC3, rfl, -⟩ := HX.formC 0 rfl
  obtain ⟨R3, kR3, rfl, -⟩ := HX.formI 1 rfl
  obtain ⟨E3, kE3, rfl, -⟩ := HX.formI 2 rfl
  obtain ⟨x0, x1, x2, -, -, -⟩ := HX.box3 7 rfl
  obtain ⟨y0, y1, y2, -, -, -⟩ := HX.box3 3 rfl
  refine hK.out _ _ (.inr (⟨⟨x0, x1, x2⟩, y0, y1, y2⟩)) ?_
  clear hK K
  with_reducible refine po_run ?_ (fun K hK => ?_) ?_
  · (go_simp; done)
  rotate_left
  · exact po_stop
  go_simp
  refine (sameTable_yes _ _ _ _ _ X (HX.rdT 4 5 6 rfl rfl rfl) (HX.rdT 0 1 2 rfl rfl rfl)).mono ?_
  rintro e w4 ⟨rfl, hb⟩
  replace HX := (HX.call hb).drop 3
  simp only [List.drop_succ_cons, List.drop_zero] at HX
  clear hb x0 x1 x2 y0 y1 y2
  obtain ⟨x0, x1, x2, -, -, -⟩ := HX.box3 4 rfl
  obtain ⟨y0, y1, y2, -, -, -⟩ := HX.box3 0 rfl
  refine hK.out _ _ (.inr (⟨⟨x0, x1, x2⟩, y0, y1, y2⟩)) ?_
  clear hK K
  repeat (first
    | (with_reducible refine po_take (v := ?_) ?_ (fun w' hS' => ?_) ?_
       rotate_left
       · (go_simp; done)
       · ((try dsimp only at hS'); go_simp; try with_reducible rfl)
       simp only [Act.put, List.setIfInBounds_toArray, List.set_cons_zero, List.set_cons_succ])
    | (with_reducible refine po_skip ?_ ?_
       · (go_simp; done)
       simp only [Act.put, List.setIfInBounds_toArray, List.set_cons_zero, List.set_cons_succ]))
  refine po_done ?_
  have H1 := HX
  clear HX H0
  cases hy : mMoveOk t a b
  · have e1 : X = ⟨⟨[], []⟩, []⟩ := by rw [HXe.out]; unfold mMove; rw [hy]; rfl
    subst e1
    simp only [List.length_nil] at H1 y0 y1 y2
    clear hy
    go_wp2_with fail
    refine (alive_any _).mono ?_
    rintro e w8 ⟨rfl, hb⟩
    have HB := (H1.call hb).below
    clear H1 hb
    go_wp2
    go_ret
    exact ⟨rfl, HB⟩
  · obtain ⟨an, bn, ea, eb, ha, hb, hv, hm⟩ := move_facts hy
    subst ea eb
    have hX : X = mMoved t an bn := HXe.out.trans hm
    have f1 := mMoved_valid hv ha hb
    have f2 := moved_view hv ha hb
    have f3 := move_again hv ha hb
    have f4 : (mMoved t an bn).store.cells[an]? = t.store.cells[bn]? := swCells_a ha hb
    have f5 : (mMoved t an bn).store.roots = t.store.roots := rfl
    rw [← hX] at f1 f2 f3 f4 f5
    have hr4 : X.store.roots.length = 4 := (tab_len f1).2.2
    have hl40 : X.store.cells.length = t.store.cells.length := by rw [hX]; exact (mMoved_len t an bn).1
    obtain ⟨lb, hlb⟩ : ∃ l, t.store.cells[bn]? = some l := ⟨_, List.getElem?_eq_getElem hb⟩
    rw [hlb] at f4
    have hlx := Go.Lib.hid f4
    have hlt := Go.Lib.hid hlb
    obtain ⟨gx, cxC, Ax, cx, eC, hrx, -, -, -, -, -, -, -, -⟩ := H1.cellW 1 rfl hlx
    simp only [Value.slice.injEq] at eC
    obtain ⟨rfl, -, rfl⟩ := eC
    obtain ⟨gt, ctC, At, ct, eC, hrt, -, -, -, -, -, -, -, -⟩ := H1.cellW 5 rfl hlt
    simp only [Value.slice.injEq] at eC
    obtain ⟨rfl, -, rfl⟩ := eC
    have HBx := Go.Lib.hid (tab_big f1)
    have HPv := Go.Lib.hid f1
    have HBack := Go.Lib.hid f3
    have HRo := Go.Lib.hid f5
    have hz1 := tab_heap f1
    have hz2 := tab_heap hv
    obtain ⟨Zx, hZx⟩ : ∃ Z, Z = tellH X := ⟨_, rfl⟩
    obtain ⟨Zt, hZt⟩ : ∃ Z, Z = tellH t := ⟨_, rfl⟩
    rw [← hZx] at f2 hz1
    rw [← hZt] at f2 hz2
    have HZx : Hid (mTableHeap X = Zx) := Go.Lib.hid (by rw [hZx]; exact mTHp_yes f1)
    have HZt : Hid (mTableHeap t = Zt) := Go.Lib.hid (by rw [hZt]; exact mTHp_yes hv)
    have HZ1 := Go.Lib.hid hz1
    have HZ2 := Go.Lib.hid hz2
    have HZ3 := Go.Lib.hid f2
    have hne : ((X.store.roots.length : Int) == 0) = false := by rw [hr4]; rfl
    have i1 : (0 : Int) ≤ (an : Int) := by omega
    have i2 : (an : Int) < (X.store.cells.length : Int) := by omega
    have i3 : (0 : Int) ≤ (bn : Int) := by omega
    have i4 : (bn : Int) < (t.store.cells.length : Int) := by omega
    have hr5 : 0 < X.store.roots.length := by omega
    clear hy hX f1 f2 f3 f4 f5 hr4 hlb hv hm hz1 hz2 hZx hZt hl40
    go_wp2_with fail
    have HX := H1.drew
    clear H1 x0 x1 x2 y0 y1 y2
    obtain ⟨x0, x1, x2, -, -, -⟩ := HX.box3 4 rfl
    obtain ⟨y0, y1, y2, -, -, -⟩ := HX.box3 0 rfl
    have ux := HX.cellRef 1 rfl hlx hrx
    have ut := HX.cellRef 5 rfl hlt hrt
    refine wp_region_tree (fun w' => ((w'.cell? ⟨w1.heap.size, 0, none⟩ = some (.slice (some ⟨gt, 0, none⟩) t.store.cells.length kC) ∧ w'.cell? ⟨w1.heap.size, 1, none⟩ = some (.slice R t.store.roots.length kR) ∧ w'.cell? ⟨w1.heap.size, 2, none⟩ = some (.slice E nE kE)) ∧ w'.cell? ⟨w2.heap.size, 0, none⟩ = some (.slice (some ⟨gx, 0, none⟩) X.store.cells.length kC2) ∧ w'.cell? ⟨w2.heap.size, 1, none⟩ = some (.slice R2 X.store.roots.length kR2) ∧ w'.cell? ⟨w2.heap.size, 2, none⟩ = some (.slice E2 X.hands.length kE2)) ∧ w'.cell? ⟨gx, an * 3 + 2, none⟩ = some (.slice Ax lb.refs.length cx) ∧ w'.cell? ⟨gt, bn * 3 + 2, none⟩ = some (.slice At lb.refs.length ct)) 44 [] (.take 0 (.alt 1 (.take 2 (.take 3 (.take 5 (.alt 4 (.alt 6 (.alt 7 (.take 8 (.take 9 (.take 10 (.take 11 (.take 12 (.take 13 (.take 14 (.take 15 (.alt 16 (.take 17 (.take 18 (.take 19 (.take 20 (.take 21 (.take 22 (.take 23 (.take 24 (.take 25 (.take 26 (.take 27 (.take 28 (.take 29 (.take 30 (.take 31 (.take 32 (.alt 33 (.take 34 (.take 35 (.take 36 (.take 37 (.take 38 (.take 40 (.alt 39 (.alt 41 (.take 42 (.take 43 (.done))) (.stop)) (.stop)))))))) (.stop)))))))))))))))))) (.stop)))))))))) (.stop)) (.stop)) (.stop))))) (.stop))) (by kernel_rfl) (by kernel_rfl) (by kernel_rfl) (⟨⟨⟨x0, x1, x2⟩, y0, y1, y2⟩, ux, ut⟩) ?_
    simp only [fillT, List.getElem?_cons_zero, List.getElem?_cons_succ, Nat.reduceBEq]
    repeat (first
      | (with_reducible refine po_take (v := ?_) ?_ (fun w' hS' => ?_) ?_
         rotate_left
         · (go_simp; done)
         · ((try dsimp only at hS'); go_simp; try with_reducible rfl)
         simp only [Act.put, List.setIfInBounds_toArray, List.set_cons_zero, List.set_cons_succ])
      | (with_reducible refine po_skip ?_ ?_
         · (go_simp; done)
         simp only [Act.put, List.setIfInBounds_toArray, List.set_cons_zero, List.set_cons_succ]))
    with_reducible refine po_run ?_ (fun K hK => ?_) ?_
    · (go_simp; done)
    rotate_left
    · exact po_stop
    go_simp
    refine (implTableValid_any _ _ _ X (HX.rdT 1 2 3 rfl rfl rfl) HBx.out.1 HBx.out.2.1 HBx.out.2.2.1 HBx.out.2.2.2).mono ?_
    rintro e w11 ⟨rfl, hb⟩
    rw [HPv.out]
    replace HX := HX.call hb
    clear hb x0 x1 x2 y0 y1 y2 ux ut
    obtain ⟨x0, x1, x2, -, -, -⟩ := HX.box3 4 rfl
    obtain ⟨y0, y1, y2, -, -, -⟩ := HX.box3 0 rfl
    have ux := HX.cellRef 1 rfl hlx hrx
    have ut := HX.cellRef 5 rfl hlt hrt
    refine hK.out _ _ (.inr (⟨⟨⟨x0, x1, x2⟩, y0, y1, y2⟩, ux, ut⟩)) ?_
    clear hK K
    repeat (first
      | (with_reducible refine po_take (v := ?_) ?_ (fun w' hS' => ?_) ?_
         rotate_left
         · (go_simp; done)
         · ((try dsimp only at hS'); go_simp; try with_reducible rfl)
         simp only [Act.put, List.setIfInBounds_toArray, List.set_cons_zero, List.set_cons_succ])
      | (with_reducible refine po_skip ?_ ?_
         · (go_simp; done)
         simp only [Act.put, List.setIfInBounds_toArray, List.set_cons_zero, List.set_cons_succ]))
    with_reducible refine po_run ?_ (fun K hK => ?_) ?_
    · (go_simp; done)
    rotate_left
    · exact po_stop
    go_simp
    refine (implTableHeap_any _ _ _ X (HX.rdT 1 2 3 rfl rfl rfl) HBx.out.1 HBx.out.2.1 HBx.out.2.2.1 HBx.out.2.2.2).mono ?_
    rintro e w12 ⟨cv7, rvs7, rv7, rfl, K⟩
    rw [HZx.out] at K
    replace K := HX.merge K
    simp only [List.cons_append, List.nil_append] at K
    clear HX x0 x1 x2 y0 y1 y2 ux ut
    have HX := K
    clear K
    obtain ⟨C7, kC7, rfl, -⟩ := HX.formC 0 rfl
    obtain ⟨R7, kR7, rfl, -⟩ := HX.formI 1 rfl
    obtain ⟨x0, x1, x2, -, -, -⟩ := HX.box3 6 rfl
    obtain ⟨y0, y1, y2, -, -, -⟩ := HX.box3 2 rfl
    have ux := HX.cellRef 3 rfl hlx hrx
    have ut := HX.cellRef 7 rfl hlt hrt
    refine hK.out _ _ (.inr (⟨⟨⟨x0, x1, x2⟩, y0, y1, y2⟩, ux, ut⟩)) ?_
    clear hK K
    with_reducible refine po_run ?_ (fun K hK => ?_) ?_
    · (go_simp; done)
    rotate_left
    · exact po_stop
    go_simp
    refine (implTableHeap_any _ _ _ t (HX.rdTx 7 8 9 rfl rfl rfl HT.out) HBg.out.1 HBg.out.2.1 HBg.out.2.2.1 HBg.out.2.2.2).mono ?_
    rintro e w13 ⟨cv8, rvs8, rv8, rfl, K⟩
    rw [HZt.out] at K
    replace K := HX.merge K
    simp only [List.cons_append, List.nil_append] at K
    clear HX x0 x1 x2 y0 y1 y2 ux ut
    have HX := K
    clear K
    obtain ⟨C8, kC8, rfl, -⟩ := HX.formC 0 rfl
    obtain ⟨R8, kR8, rfl, -⟩ := HX.formI 1 rfl
    obtain ⟨x0, x1, x2, -, -, -⟩ := HX.box3 8 rfl
    obtain ⟨y0, y1, y2, -, -, -⟩ := HX.box3 4 rfl
    have ux := HX.cellRef 5 rfl hlx hrx
    have ut := HX.cellRef 9 rfl hlt hrt
    refine hK.out _ _ (.inr (⟨⟨⟨x0, x1, x2⟩, y0, y1, y2⟩, ux, ut⟩)) ?_
    clear hK K
    with_reducible refine po_run ?_ (fun K hK => ?_) ?_
    · (go_simp; done)
    rotate_left
    · exact po_stop
    go_simp
    refine (sameView_yes _ _ _ _ _ Zx Zt (HX.rdH 2 3 rfl rfl) (HX.rdH 0 1 rfl rfl) HZ1.out HZ2.out HZ3.out).mono ?_
    rintro e w14 ⟨rfl, hb⟩
    replace HX := (HX.call hb).drop 4
    simp only [List.drop_succ_cons, List.drop_zero] at HX
    clear hb x0 x1 x2 y0 y1 y2 ux ut
    obtain ⟨x0, x1, x2, -, -, -⟩ := HX.box3 4 rfl
    obtain ⟨y0, y1, y2, -, -, -⟩ := HX.box3 0 rfl
    have ux := HX.cellRef 1 rfl hlx hrx
    have ut := HX.cellRef 5 rfl hlt hrt
    refine hK.out _ _ (.inr (⟨⟨⟨x0, x1, x2⟩, y0, y1, y2⟩, ux, ut⟩)) ?_
    clear hK K
    repeat (first
      | (with_reducible refine po_take (v := ?_) ?_ (fun w' hS' => ?_) ?_
         rotate_left
         · (go_simp; done)
         · ((try dsimp only at hS'); go_simp; try with_reducible rfl)
         simp only [Act.put, List.setIfInBounds_toArray, List.set_cons_zero, List.set_cons_succ])
      | (with_reducible refine po_skip ?_ ?_
         · (go_simp; done)
         simp only [Act.put, List.setIfInBounds_toArray, List.set_cons_zero, List.set_cons_succ]))
    with_reducible refine po_run ?_ (fun K hK => ?_) ?_
    · (go_simp; done)
    rotate_left
    · exact po_stop
    go_simp
    refine (sameInts_yes _ _ _ _ _ _ _ _ _ t.store.roots (RdI.asList (HX.owI 2 rfl).rdI HRo.out) (HX.owI 6 rfl).rdI).mono ?_
    rintro e w15 ⟨rfl, hb⟩
    replace HX := HX.call hb
    clear hb x0 x1 x2 y0 y1 y2 ux ut
    obtain ⟨x0, x1, x2, -, -, -⟩ := HX.box3 4 rfl
    obtain ⟨y0, y1, y2, -, -, -⟩ := HX.box3 0 rfl
    have ux := HX.cellRef 1 rfl hlx hrx
    have ut := HX.cellRef 5 rfl hlt hrt
    refine hK.out _ _ (.inr (⟨⟨⟨x0, x1, x2⟩, y0, y1, y2⟩, ux, ut⟩)) ?_
    clear hK K
    repeat (first
      | (with_reducible refine po_take (v := ?_) ?_ (fun w' hS' => ?_) ?_
         rotate_left
         · (go_simp; done)
         · ((try dsimp only at hS'); go_simp; try with_reducible rfl)
         simp only [Act.put, List.setIfInBounds_toArray, List.set_cons_zero, List.set_cons_succ])
      | (with_reducible refine po_skip ?_ ?_
         · (go_simp; done)
         simp only [Act.put, List.setIfInBounds_toArray, List.set_cons_zero, List.set_cons_succ]))
    with_reducible refine po_run ?_ (fun K hK => ?_) ?_
    · (go_simp; done)
    rotate_left
    · exact po_stop
    go_simp
    refine (sameInts_yes _ _ _ _ _ _ _ _ _ lb.refs ((HX.owC 1 rfl).refs an _ lb hrx.out hlx.out).rdI ((HX.owC 5 rfl).refs bn _ lb hrt.out hlt.out).rdI).mono ?_
    rintro e w16 ⟨rfl, hb⟩
    replace HX := HX.call hb
    clear hb x0 x1 x2 y0 y1 y2 ux ut
    obtain ⟨x0, x1, x2, -, -, -⟩ := HX.box3 4 rfl
    obtain ⟨y0, y1, y2, -, -, -⟩ := HX.box3 0 rfl
    have ux := HX.cellRef 1 rfl hlx hrx
    have ut := HX.cellRef 5 rfl hlt hrt
    refine hK.out _ _ (.inr (⟨⟨⟨x0, x1, x2⟩, y0, y1, y2⟩, ux, ut⟩)) ?_
    clear hK K
    repeat (first
      | (with_reducible refine po_take (v := ?_) ?_ (fun w' hS' => ?_) ?_
         rotate_left
         · (go_simp; done)
         · ((try dsimp only at hS'); go_simp; try with_reducible rfl)
         simp only [Act.put, List.setIfInBounds_toArray, List.set_cons_zero, List.set_cons_succ])
      | (with_reducible refine po_skip ?_ ?_
         · (go_simp; done)
         simp only [Act.put, List.setIfInBounds_toArray, List.set_cons_zero, List.set_cons_succ]))
    with_reducible refine po_run ?_ (fun K hK => ?_) ?_
    · (go_simp; done)
    rotate_left
    · exact po_stop
    go_simp
    refine (implMoveCells_any _ _ _ X (an : Int) (bn : Int) (HX.rdT 1 2 3 rfl rfl rfl) HBx.out.1 HBx.out.2.1 HBx.out.2.2.1 HBx.out.2.2.2).mono ?_
    rintro e w17 ⟨cv9, rvs9, rv9, hv9, rfl, K⟩
    rw [HBack.out] at K
    replace K := HX.merge K
    simp only [List.cons_append, List.nil_append] at K
    clear HX x0 x1 x2 y0 y1 y2 ux ut
    have HX := K
    clear K
    obtain ⟨C9, kC9, rfl, -⟩ := HX.formC 0 rfl
    obtain ⟨R9, kR9, rfl, -⟩ := HX.formI 1 rfl
    obtain ⟨E9, kE9, rfl, -⟩ := HX.formI 2 rfl
    obtain ⟨x0, x1, x2, -, -, -⟩ := HX.box3 7 rfl
    obtain ⟨y0, y1, y2, -, -, -⟩ := HX.box3 3 rfl
    have ux := HX.cellRef 4 rfl hlx hrx
    have ut := HX.cellRef 8 rfl hlt hrt
    refine hK.out _ _ (.inr (⟨⟨⟨x0, x1, x2⟩, y0, y1, y2⟩, ux, ut⟩)) ?_
    clear hK K
    with_reducible refine po_run ?_ (fun K hK => ?_) ?_
    · (go_simp; done)
    rotate_left
    · exact po_stop
    go_simp
    refine (sameTable_yes _ _ _ _ _ t (HX.rdT 0 1 2 rfl rfl rfl) (HX.rdTx 8 9 10 rfl rfl rfl HT.out)).mono ?_
    rintro e w18 ⟨rfl, hb⟩
    replace HX := HX.call hb
    clear hb x0 x1 x2 y0 y1 y2 ux ut
    obtain ⟨x0, x1, x2, -, -, -⟩ := HX.box3 7 rfl
    obtain ⟨y0, y1, y2, -, -, -⟩ := HX.box3 3 rfl
    have ux := HX.cellRef 4 rfl hlx hrx
    have ut := HX.cellRef 8 rfl hlt hrt
    refine hK.out _ _ (.inr (⟨⟨⟨x0, x1, x2⟩, y0, y1, y2⟩, ux, ut⟩)) ?_
    clear hK K
    repeat (first
      | (with_reducible refine po_take (v := ?_) ?_ (fun w' hS' => ?_) ?_
         rotate_left
         · (go_simp; done)
         · ((try dsimp only at hS'); go_simp; try with_reducible rfl)
         simp only [Act.put, List.setIfInBounds_toArray, List.set_cons_zero, List.set_cons_succ])
      | (with_reducible refine po_skip ?_ ?_
         · (go_simp; done)
         simp only [Act.put, List.setIfInBounds_toArray, List.set_cons_zero, List.set_cons_succ]))
    refine po_done ?_
    have HC := HX.below
    clear HX x0 x1 x2 y0 y1 y2 ux ut
    go_wp2
    go_ret
    exact ⟨rfl, HC⟩
end Go.Proofs.Ytcekohpekpkobaa
