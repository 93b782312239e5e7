/- A heap and a base drawn from a code; the law FnSaveImage's walk. For every code that can be read. -/
import Derived.Test.YtjpfgbckmcjjaaaBa
import Derived.Test.YtjpfgbckmcjjaaaAl
import Derived.Test.YtjpfgbckmcjjaaaSm
import Derived.Test.YtjpfgbckmcjjaaaLdI
namespace Go.Proofs.Ytjpfgbckmcjjaaa
open Go.RowKit
/-- A heap and a number of the call's own. -/
def DrawnHB (w : World) (e : Ending) (w' : World) : Prop :=
  ∃ (h : Hp) (cv : Value) (rvs : List Value) (rv rv0 : Value) (rs0 : List Int) (b : Int), e = .returned (.tuple #[.agg #[cv, rv], .int .i64 b]) ∧ SmG h ∧ TailOf rv rv0 h.roots rs0 ∧ -1 ≤ b ∧ b ≤ 10001 ∧ Owns w.heap.size w w' [.cells cv rvs h.cells, .ints rv0 rs0]
set_option maxHeartbeats 1600000 in
set_option maxRecDepth 20000 in
theorem DrawSaveImage_any (w : World) (A : Option Addr) (n c : Nat) (bs : List Int) (hr : RdY w w.heap.size A n c bs) :
    Calls Try.prog 26 #[.slice A n c] w (DrawnHB w) := by
  have H := (Owns.nil w).box [.slice none 0 0, .slice none 0 0] 26
  go_enter Try.func26, Try.ntmps26
  go_wp2_with fail
  refine (open_own H A n c bs hr).mono ?_
  rintro e w1 ⟨g, A1, n1, c1, bs1, rfl, hU, H1⟩
  clear H hr
  go_wp2_with fail
  refine (heap_own H1 0 rfl hU (by omega) 14 (by omega) (by omega)).mono ?_
  rintro e w2 ⟨T, cv, rvs, rv, rv0, rs0, p1, rfl, hS, ht, hp1, hp2, H2⟩
  simp only [List.set_cons_zero] at H2
  clear H1
  obtain ⟨C, kC, rfl, -⟩ := H2.formC 0 rfl
  obtain ⟨R0, kR0, e0, -⟩ := H2.formI 1 rfl
  obtain ⟨R, nR, kR, rfl⟩ := ht.form e0
  clear e0
  have HA := H2.box [.slice C T.cells.length kC, .slice R nR kR] 26
  clear H2
  go_wp2_with fail
  have HX := HA.drew
  have H0 := Go.Lib.hid HA
  have HTl := Go.Lib.hid ht
  have HSm := Go.Lib.hid hS
  clear HA ht hS
  obtain ⟨x0, x1, -, -⟩ := HX.box2 0 rfl
  refine wp_region_tree (fun w' => w'.cell? ⟨w2.heap.size, 0, none⟩ = some (.slice C T.cells.length kC) ∧ w'.cell? ⟨w2.heap.size, 1, none⟩ = some (.slice R nR kR)) 5 [] (.take 0 (.take 1 (.alt 2 (.alt 3 (.take 4 (.done)) (.stop)) (.stop)))) (by kernel_rfl) (by kernel_rfl) (by kernel_rfl) (⟨x0, x1⟩) ?_
  simp only [fillT, List.getElem?_cons_zero, List.getElem?_cons_succ, Nat.reduceBEq]
  repeat (first
    | (with_reducible refine po_take (v := ?_) ?_ (fun w' hS' => ?_) ?_
       rotate_left
       · (go_simp; done)
       · ((try dsimp only at hS'); go_simp; try with_reducible rfl)
       simp only [Act.put, List.setIfInBounds_toArray, List.set_cons_zero, List.set_cons_succ])
    | (with_reducible refine po_skip ?_ ?_
       · (go_simp; done)
       simp only [Act.put, List.setIfInBounds_toArray, List.set_cons_zero, List.set_cons_succ]))
  with_reducible refine po_run ?_ (fun K hK => ?_) ?_
  · (go_simp; done)
  rotate_left
  · exact po_stop
  try (revert x0 x1 HX; generalize World.drew _ = wd; intro HX x0 x1)
  go_simp
  refine (base_own HX 3 rfl hU (by omega) 9 (by omega) (by omega)).mono ?_
  rintro e w3 ⟨b, p3, rfl, hb0, hb1, -, -, -, HY⟩
  simp only [List.set_cons_zero, List.set_cons_succ] at HY
  clear HX x0 x1
  have HX := HY
  clear HY
  obtain ⟨x0, x1, -, -⟩ := HX.box2 0 rfl
  refine hK.out _ _ (.inr (⟨x0, x1⟩)) ?_
  clear hK K
  with_reducible refine po_run ?_ (fun K hK => ?_) ?_
  · (go_simp; done)
  rotate_left
  · exact po_stop
  obtain ⟨y0, y1, y2, y3⟩ := HX.box2 4 rfl
  go_simp
  have HZ := (HX.putBox 4 rfl 0 (.slice C T.cells.length kC)).putBox 4 rfl 1 (.slice R nR kR)
  simp only [List.set_cons_zero, List.set_cons_succ, List.eraseIdx_cons_zero, List.eraseIdx_cons_succ, List.drop_succ_cons, List.drop_zero, List.take_succ_cons, List.take_zero, List.length_append, List.length_cons, List.length_nil, List.nil_append, Nat.zero_add, World.size_alloc] at HZ
  clear HX x0 x1 y0 y1 y2 y3
  have HX := HZ
  clear HZ
  obtain ⟨x0, x1, -, -⟩ := HX.box2 0 rfl
  refine hK.out _ _ (.inr (⟨x0, x1⟩)) ?_
  clear hK K
  repeat (first
    | (with_reducible refine po_take (v := ?_) ?_ (fun w' hS' => ?_) ?_
       rotate_left
       · (go_simp; done)
       · ((try dsimp only at hS'); go_simp; try with_reducible rfl)
       simp only [Act.put, List.setIfInBounds_toArray, List.set_cons_zero, List.set_cons_succ])
    | (with_reducible refine po_skip ?_ ?_
       · (go_simp; done)
       simp only [Act.put, List.setIfInBounds_toArray, List.set_cons_zero, List.set_cons_succ]))
  refine po_done ?_
  obtain ⟨z0, z1, -, -⟩ := HX.box2 4 rfl
  have HE := (HX.erase 0).take 2
  simp only [List.set_cons_zero, List.set_cons_succ, List.eraseIdx_cons_zero, List.eraseIdx_cons_succ, List.drop_succ_cons, List.drop_zero, List.take_succ_cons, List.take_zero, List.length_append, List.length_cons, List.length_nil, List.nil_append, Nat.zero_add, World.size_alloc] at HE
  have HS : Hid (DrawnHB w (.returned (.tuple #[.agg #[.slice C T.cells.length kC, .slice R nR kR], .int .i64 b])) _) := Go.Lib.hid ⟨T, _, rvs, _, _, _, b, rfl, HSm.out, HTl.out, hb0, hb1, HE⟩
  clear HX H0 HE x0 x1
  go_wp2
  exact bodyPost_ret (v := .tuple #[.agg #[.slice C T.cells.length kC, .slice R nR kR], .int .i64 b]) (by simp [results, Try.results26, go_sem, z0, z1]) rfl HS.out
end Go.Proofs.Ytjpfgbckmcjjaaa
