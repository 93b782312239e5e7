/- A heap and a base drawn from a code; the law FnSaveImage's walk. For every code that can be read. -/
import Derived.Test.YtmhcajjlhiopmaaBa
import Derived.Test.YtmhcajjlhiopmaaAl
import Derived.Test.YtmhcajjlhiopmaaSm
import Derived.Test.YtmhcajjlhiopmaaLdI
namespace Go.Proofs.Ytmhcajjlhiopmaa
open Go.RowKit
/-- A heap and a number of the call's own. -/
def DrawnHB (w : World) (e : Ending) (w' : World) : Prop :=
  ∃ (h : Hp) (cv : Value) (rvs : List Value) (rv rv0 : Value) (rs0 : List Int) (b : Int), e = .returned (.tuple #[.agg #[cv, rv], .int .i64 b]) ∧ SmG h ∧ TailOf rv rv0 h.roots rs0 ∧ -1 ≤ b ∧ b ≤ 10001 ∧ Owns w.heap.size w w' [.cells cv rvs h.cells, .ints rv0 rs0]
set_option maxHeartbeats 1600000 in
set_option maxRecDepth 20000 in
theorem DrawSaveImage_any (w : World) (A : Option Addr) (n c : Nat) (bs : List Int) (hr : RdY w w.heap.size A n c bs) :
    Calls Try.prog 15 #[.slice A n c] w (DrawnHB w) := by
  have H := (Owns.nil w).box [.slice none 0 0, .slice none 0 0] 26
  go_enter Try.func15, Try.ntmps15
  go_wp2_with fail
  refine (open_own H A n c bs hr).mono ?_
  rintro e w1 ⟨g, A1, n1, c1, bs1, rfl, hU, H1⟩
  clear H hr
  go_wp2_with fail
  refine (heap_own H1 0 rfl hU (by omega) 14 (by omega) (by omega)).mono ?_
  rintro e w2 ⟨T, cv, rvs, rv, rv0, rs0, p1, rfl, hS, ht, hp1, hp2, H2⟩
  simp only [List.set_cons_zero] at H2
  clear H1
  obtain ⟨C, kC, rfl, -⟩ := H2.formC 0 rfl
  obtain ⟨R0, kR0, e0, -⟩ := H2.formI 1 rfl
  obtain ⟨R, nR, kR, rfl⟩ := ht.form e0
  clear e0
  have HA := H2.box [.slice C T.cells.length kC, .slice R nR kR] 26
  clear H2
  go_wp2_with fail
  have HX := HA.drew
  have H0 := Go.Lib.hid HA
  have HTl := Go.Lib.hid ht
  have HSm := Go.Lib.hid hS
  clear HA ht hS
  obtain ⟨x0, x1, -, -⟩ := HX.box2 0 rfl
  refine wp_region_tree (fun w' => w'.cell? ⟨w2.heap.size, 0, none⟩ = some (.slice C T.cells.length kC) ∧ w'.cell? ⟨w2.heap.size, 1, none⟩ = some (.slice R nR kR)) 5 [] (.take 0 (.take 1 (.alt 2 (.alt 3 (.take 4 (.done)) (.stop)) (.stop)))) (by kernel_rfl) (by kernel_rfl) (by kernel_rfl) (⟨x0, x1⟩) ?_
  simp only [fillT, List.getElem?_cons_zero, List.getElem?_cons_succ, Nat.reduceBEq]
  repeat (first
    | (with_reducible refine po_take (v := ?_) ?_ (fun w' hS' => ?_) ?_
       rotate_left
       · (go_simp; done)
       · ((try dsimp only at hS'); go_simp; try with_reducible rfl)
       simp only [Act.put, List.setIfInBounds_toArray, List.set_cons_zero, List.set_cons_succ])
    | (with_reducible refine po_skip ?_ ?_
       · (go_simp; done)
       simp only [Act.put, List.setIfInBounds_toArray, List.set_cons_zero, List.set_cons_succ]))
  with_reducible refine po_run ?_ (fun K hK => ?_) ?_
  · (go_simp; done)
  rotate_left
  · exact po_stop
  try (revert x0 x1 HX; generalize World.drew _ = wd; intro HX x0 x1)
  go_simp
  refine (base_own HX 3 rfl hU (by omega) 9 (by omega) (by omega)).mono ?_
  rintro e w3 ⟨b, p3, rfl, hb0, hb1, -, -, -, HY⟩
  simp only [List.set_cons_zero, List.set_cons_succ] at HY
  clear HX x0 x1
  have HX := HY
  clear HY
  obtain ⟨x0, x1, -, -⟩ := HX.box2 0 rfl
  refine hK.out _ _ (.inr (⟨x0, x1⟩)) ?_
  clear hK K
  with_reducible refine po_run ?_ (fun K hK => ?_) ?_
  · (go_simp; done)
  rotate_left
  · exact po_stop
  obtain ⟨y0, y1, y2, y3⟩ := HX.box2 4 rfl
  go_simp
  have HZ := (HX.putBox 4 rfl 0 (.slice C T.cells.length kC)).putBox 4 rfl 1 (.slice R nR kR)
  simp only [List.set_cons_zero, List.set_cons_succ] at HZ
  clear HX x0 x1 y0 y1 y2 y3
  have HX := HZ
  clear HZ
  obtain ⟨x0, x1, -, -⟩ := HX.box2 0 rfl
  refine hK.out _ _ (.inr (⟨x0, x1⟩)) ?_
  clear hK K
  repeat (first
    | (with_reducible refine po_take (v := ?_) ?_ (fun w' hS' => ?_) ?_
       rotate_left
       · (go_simp; done)
       · ((try dsimp only at hS'); go_simp; try with_reducible rfl)
       simp only [Act.put, List.setIfInBounds_toArray, List.set_cons_zero, List.set_cons_succ])
    | (with_reducible refine po_skip ?_ ?_
       · (go_simp; done)
       simp only [Act.put, List.setIfInBounds_toArray, List.set_cons_zero, List.set_cons_succ]))
  refine po_done ?_
  obtain ⟨z0, z1, -, -⟩ := HX.box2 4 rfl
  have HE := (HX.erase 0).take 2
  simp only [List.eraseIdx_cons_zero, List.take_succ_cons, List.take_zero] at HE
  have HS : Hid (DrawnHB w (.returned (.tuple #[.agg #[.slice C T.cells.length kC, .slice R nR kR], .int .i64 b])) _) := Go.Lib.hid ⟨T, _, rvs, _, _, _, b, rfl, HSm.out, HTl.out, hb0, hb1, HE⟩
  clear HX H0 HE x0 x1
  go_wp2
  exact bodyPost_ret (v := .tuple #[.agg #[.slice C T.cells.length kC, .slice R nR kR], .int .i64 b]) (by simp [results, Try.results15, go_sem, z0, z1]) rfl HS.out
set_option maxHeartbeats 6400000 in
set_option maxRecDepth 20000 in
theorem lawSaveImage_any (w : World) {A : Option Addr} {n c : Nat} {bs : List Int} (hr : RdY w w.heap.size A n c bs) :
    Calls Try.prog 4 #[.slice A n c] w fun e w' => e = .returned (.bool true) ∧ Below w.heap.size w w' := by
  by_cases s0 : 1048576 < n
  · go_enter Try.func4, Try.ntmps4
    go_wp2
    go_ret
    exact ⟨rfl, Below.refl _ _⟩
  go_enter Try.func4, Try.ntmps4
  go_wp2_with fail
  refine (DrawSaveImage_any w A n c bs hr).mono ?_
  rintro e w1 ⟨T, cv, rvs, rv, rv0, rs0, b, rfl, hS, ht, hb0, hb1, H1⟩
  obtain ⟨C, kC, rfl, -⟩ := H1.formC 0 rfl
  obtain ⟨R0, kR0, e0, -⟩ := H1.formI 1 rfl
  obtain ⟨R, nR, kR, rfl⟩ := ht.form e0
  have HT := Go.Lib.hid ht
  clear e0 ht hS hr s0
  have H := H1.box [.slice C T.cells.length kC, .slice R nR kR] 26
  clear H1
  obtain ⟨x0, x1, -, -⟩ := H.box2 0 rfl
  go_wp2_with fail
  refine (implSaveImage_any _ _ _ T b (H.rdHx 1 2 rfl rfl HT.out) (by unfold I64; omega)).mono ?_
  rintro e w2 ⟨v2, rfl, ho2, hb2⟩
  obtain ⟨X, hX⟩ : ∃ X, X = mSaveImage T b := ⟨_, rfl⟩
  rw [← hX] at ho2
  have HXe := Go.Lib.hid hX
  clear hX
  have H2 := H.madeI ho2 hb2
  clear H ho2 hb2 x0 x1
  obtain ⟨A2, k2, rfl, -⟩ := H2.formI 0 rfl
  obtain ⟨x0, x1, -, -⟩ := H2.box2 1 rfl
  go_wp2_with fail
  refine (specSaveImage_any _ _ _ T b (H2.rdHx 2 3 rfl rfl HT.out) (by unfold I64; omega)).mono ?_
  rintro e w3 ⟨v3, rfl, ho3, hb3⟩
  rw [← HXe.out] at ho3
  have H3 := H2.madeI ho3 hb3
  clear H2 ho3 hb3 x0 x1
  obtain ⟨A3, k3, rfl, -⟩ := H3.formI 0 rfl
  go_wp2_with fail
  refine (sameInts_yes _ _ _ _ _ _ _ _ _ X (H3.owI 1 rfl).rdI (H3.owI 0 rfl).rdI).mono ?_
  rintro e w4 ⟨rfl, hb4⟩
  have H4 := (H3.call hb4).erase 0
  simp only [List.eraseIdx_cons_zero] at H4
  clear H3 hb4
  obtain ⟨x0, x1, -, -⟩ := H4.box2 1 rfl
  go_wp2_with fail
  refine (specHeapValid_any _ _ _ T (H4.rdHx 2 3 rfl rfl HT.out)).mono ?_
  rintro e w5 ⟨rfl, hb5⟩
  have H5 := H4.call hb5
  clear H4 hb5 x0 x1
  cases hy : heapOk T
  · obtain rfl : X = [] := by rw [HXe.out]; exact mSave_no1 hy
    clear hy
    go_wp2_with fail
    refine (alive_any _).mono ?_
    rintro e w8 ⟨rfl, hb⟩
    have HB := (H5.call hb).below
    clear H5 hb
    go_wp2
    go_ret
    exact ⟨rfl, HB⟩
  by_cases hb2 : b < 0
  · obtain rfl : X = [] := by rw [HXe.out]; exact mSave_no2 (.inl hb2)
    clear hy
    go_wp2_with fail
    refine (alive_any _).mono ?_
    rintro e w8 ⟨rfl, hb⟩
    have HB := (H5.call hb).below
    clear H5 hb
    go_wp2
    go_ret
    exact ⟨rfl, HB⟩
  by_cases hb3 : 10000 < b
  · obtain rfl : X = [] := by rw [HXe.out]; exact mSave_no2 (.inr hb3)
    clear hy
    go_wp2_with fail
    refine (alive_any _).mono ?_
    rintro e w8 ⟨rfl, hb⟩
    have HB := (H5.call hb).below
    clear H5 hb
    go_wp2
    go_ret
    exact ⟨rfl, HB⟩
  have hi : IsImg T b X := ⟨hy, by omega, by omega, by rw [HXe.out]; exact (mSave_yes hy (by omega) (by omega)).symm⟩
  have hH : mLoadH X = T := by rw [(mLoad_yes hi.yes).1]; exact hi.heap
  have hB : mLoadB X = b := by rw [(mLoad_yes hi.yes).2]; exact hi.facts.1
  have hO : ldOk X = true := hi.yes
  have hI : ∀ x ∈ X, I64 x := fun x hx => by have := ldOk_in hi.yes x hx; unfold I64; omega
  clear hi hy
  go_wp2_with fail
  refine (implLoadImage_any _ _ _ _ _ X (H5.owI 0 rfl).rdI hI).mono ?_
  rintro e w6 ⟨cv6, rvs6, rv6, rfl, K⟩
  rw [hH] at K
  rw [hB, hO]
  have H6 := H5.merge K
  simp only [List.cons_append, List.nil_append] at H6
  clear H5 K hI hH hB hO
  obtain ⟨C6, k6, rfl, -⟩ := H6.formC 0 rfl
  obtain ⟨R6, kR6, rfl, -⟩ := H6.formI 1 rfl
  have H7 := H6.box [.slice C6 T.cells.length k6, .slice R6 T.roots.length kR6] 26
  clear H6
  obtain ⟨x0, x1, -, -⟩ := H7.box2 0 rfl
  obtain ⟨y0, y1, -, -⟩ := H7.box2 4 rfl
  go_wp2_with fail
  refine (sameHeap_yes _ _ _ _ _ T (H7.rdHx 1 2 rfl rfl (.inl ⟨rfl, rfl⟩)) (H7.rdHx 5 6 rfl rfl HT.out)).mono ?_
  rintro e w8 ⟨rfl, hb8⟩
  have HB := (H7.call hb8).below
  clear H7 hb8 x0 x1 y0 y1
  go_wp2
  go_ret
  exact ⟨rfl, HB⟩
end Go.Proofs.Ytmhcajjlhiopmaa
