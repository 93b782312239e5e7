/- The law FnExactTableValid returns true for every table that can be read, and leaves it as it was. -/
import Derived.Test.YteflbjchnfebaaaTs
import Derived.Test.YteflbjchnfebaaaTb
import Derived.Test.YteflbjchnfebaaaOpT
namespace Go.Proofs.Yteflbjchnfebaaa
open Go.RowKit
theorem OwT.rd {w w0 : World} {lo : Nat} {v : Value} {t : Tbl} (h : OwT w lo w0 v t []) : RdT w w.heap.size v t ∧ Below lo w0 w := by
  obtain ⟨cv, rvs, rv, hv, rfl, H⟩ := h
  obtain ⟨A, a, rfl, h1⟩ := H.formC 0 rfl
  obtain ⟨C, c, rfl, h2⟩ := H.formI 1 rfl
  obtain ⟨E, e, rfl, h3⟩ := H.formI 2 rfl
  exact ⟨⟨_, _, _, _, _, _, _, _, _, rfl, h1, h2, h3⟩, H.below⟩
set_option maxHeartbeats 1600000 in
theorem lawTableValid_any (w : World) {B0 : Nat} {v0a : Value} {t0 : Tbl} (hh0 : RdT w B0 v0a t0) :
    Calls Try.prog 11 #[v0a] w fun e w' => e = .returned (.bool true) ∧ Below w.heap.size w w' := by
  have hh' := hh0.top
  obtain ⟨D, m, d, D', m', d', E, q, f, rfl, hC, hR, hE⟩ := hh0.top
  have H1 := (Owns.nil w).box [.slice D m d, .slice D' m' d', .slice E q f] 53
  obtain ⟨a0, a1, a2, -, -, -⟩ := H1.box3 0 rfl
  go_enter Try.func11, Try.ntmps11
  go_wp2_with fail
  refine (szTable_any _ _ _ t0 _ (hh'.below H1.below) (by omega) (by omega)).mono ?_
  rintro e w1 ⟨rfl, hb⟩
  have H2 := H1.call hb
  clear H1 hb a0 a1 a2
  obtain ⟨a0, a1, a2, -, -, -⟩ := H2.box3 0 rfl
  by_cases c2 : ((tblBulk t0 : Nat) : Int) ≤ 1048576
  rotate_left
  · have HB := H2.below
    rw [szI_no (by omega)]
    go_wp2
    go_ret
    exact ⟨rfl, HB⟩
  rw [szI_yes c2]
  have hs : Small t0.store := by unfold Small; unfold tblBulk at c2; omega
  have hs1 : t0.store.cells.length ≤ 1048576 := by have := len_le_bulk t0.store.cells; unfold tblBulk at c2; omega
  have hs2 : t0.store.roots.length ≤ 1048576 := by unfold tblBulk at c2; omega
  have hs3 : ∀ c ∈ t0.store.cells, c.refs.length ≤ 1048576 := fun c hc => by have := refs_le_bulk hc; unfold tblBulk at c2; omega
  have hs4 : t0.hands.length ≤ 1048576 := by unfold tblBulk at c2; omega
  have HS3 := Go.Lib.hid hs3
  clear hs3
  go_wp2_with fail
  refine (toTable_any _ _ _ t0 (hh'.below H2.below) hs hs4).mono ?_
  rintro e w2 ⟨v1, rfl, ho⟩
  obtain ⟨r1, hb⟩ := ho.rd
  have H3 := H2.call hb
  clear H2 hb ho a0 a1 a2
  obtain ⟨a0, a1, a2, -, -, -⟩ := H3.box3 0 rfl
  go_wp2_with fail
  refine (specTableValid_any _ _ _ t0 r1 hs1 hs2 HS3.out hs4).mono ?_
  rintro e w3 ⟨rfl, hb⟩
  have H4 := H3.call hb
  clear H3 hb a0 a1 a2
  obtain ⟨a0, a1, a2, -, -, -⟩ := H4.box3 0 rfl
  go_wp2_with fail
  refine (toTable_any _ _ _ t0 (hh'.below H4.below) hs hs4).mono ?_
  rintro e w4 ⟨v2, rfl, ho⟩
  obtain ⟨r2, hb⟩ := ho.rd
  have H5 := H4.call hb
  have r2' := r2
  obtain ⟨P, i, j, P', i', j', F, k, l, rfl, -, -, -⟩ := r2
  have H6 := H5.box [.slice P i j, .slice P' i' j', .slice F k l] 57
  have r3 := r2'.below (below_alloc w4 (.cells #[.slice P i j, .slice P' i' j', .slice F k l] 57))
  clear H4 H5 hb ho a0 a1 a2 r2'
  obtain ⟨b0, b1, b2, -, -, -⟩ := H6.box3 0 rfl
  go_wp2_with fail
  refine (implTableValid_any _ _ _ t0 r3 hs1 hs2 HS3.out hs4).mono ?_
  rintro e w5 ⟨rfl, hb⟩
  have H7 := H6.call hb
  have r4 := r3.below (hb.mono (by simp))
  clear H6 hb b0 b1 b2 r3
  have HX := H7.drew
  obtain ⟨b0, b1, b2, -, -, -⟩ := HX.box3 0 rfl
  obtain ⟨a0, a1, a2, -, -, -⟩ := HX.box3 1 rfl
  generalize mTableValid t0 = ans at *
  go_wp2_with fail
  refine wp_region_tree (fun w' => (w'.cell? ⟨w4.heap.size, 0, none⟩ = some (.slice P i j) ∧ w'.cell? ⟨w4.heap.size, 1, none⟩ = some (.slice P' i' j') ∧ w'.cell? ⟨w4.heap.size, 2, none⟩ = some (.slice F k l)) ∧ w'.cell? ⟨w.heap.size, 0, none⟩ = some (.slice D m d) ∧ w'.cell? ⟨w.heap.size, 1, none⟩ = some (.slice D' m' d') ∧ w'.cell? ⟨w.heap.size, 2, none⟩ = some (.slice E q f)) 5 [] (.take 0 (.take 1 (.alt 2 (.alt 3 (.take 4 (.done)) (.stop)) (.stop)))) (by kernel_rfl) (by kernel_rfl) (by kernel_rfl) (⟨⟨b0, b1, b2⟩, a0, a1, a2⟩) ?_
  simp only [fillT, List.getElem?_cons_zero, List.getElem?_cons_succ, Nat.reduceBEq]
  repeat (first
    | (with_reducible refine po_take (v := ?_) ?_ (fun w' hS' => ?_) ?_
       rotate_left
       · (go_simp; done)
       · ((try dsimp only at hS'); go_simp; try with_reducible rfl)
       simp only [Act.put, List.setIfInBounds_toArray, List.set_cons_zero, List.set_cons_succ])
    | (with_reducible refine po_skip ?_ ?_
       · (go_simp; done)
       simp only [Act.put, List.setIfInBounds_toArray, List.set_cons_zero, List.set_cons_succ]))
  with_reducible refine po_run ?_ (fun K hK => ?_) ?_
  · (go_simp; done)
  rotate_left
  · exact po_stop
  go_simp
  refine (toTable_any _ _ _ t0 (hh'.below HX.below) hs hs4).mono ?_
  rintro e w6 ⟨v3, rfl, ho⟩
  obtain ⟨r5, hb⟩ := ho.rd
  replace HX := HX.call hb
  have r6 := (r4.below (Below.refl _ _).drew).below (hb.mono (Nat.le_of_lt (H7.boxLt 0 rfl).2))
  refine hK.out _ _ (.inr (⟨⟨keept b0 hb, keept b1 hb, keept b2 hb⟩, keept a0 hb, keept a1 hb, keept a2 hb⟩)) ?_
  clear hK K
  replace b0 := keept b0 hb
  replace b1 := keept b1 hb
  replace b2 := keept b2 hb
  replace a0 := keept a0 hb
  replace a1 := keept a1 hb
  replace a2 := keept a2 hb
  with_reducible refine po_run ?_ (fun K hK => ?_) ?_
  · (go_simp; done)
  rotate_left
  · exact po_stop
  go_simp
  refine (eqTable_any _ _ _ _ _ t0 r6 r5).mono ?_
  rintro e w7 ⟨rfl, hb3⟩
  replace HX := HX.call hb3
  refine hK.out _ _ (.inr (⟨⟨keept b0 hb3, keept b1 hb3, keept b2 hb3⟩, keept a0 hb3, keept a1 hb3, keept a2 hb3⟩)) ?_
  clear hK K
  repeat (first
    | (with_reducible refine po_take (v := ?_) ?_ (fun w' hS' => ?_) ?_
       rotate_left
       · (go_simp; done)
       · ((try dsimp only at hS'); go_simp; try with_reducible rfl)
       simp only [Act.put, List.setIfInBounds_toArray, List.set_cons_zero, List.set_cons_succ])
    | (with_reducible refine po_skip ?_ ?_
       · (go_simp; done)
       simp only [Act.put, List.setIfInBounds_toArray, List.set_cons_zero, List.set_cons_succ]))
  refine po_done ?_
  have HB := HX.below
  go_wp2
  go_ret
  exact ⟨rfl, HB⟩
end Go.Proofs.Yteflbjchnfebaaa
