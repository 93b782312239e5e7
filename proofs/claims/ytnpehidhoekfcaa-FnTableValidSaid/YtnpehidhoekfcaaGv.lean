/- A table drawn from a code; the law FnTableValid's walk. For every code that can be read. -/
import Derived.Test.YtnpehidhoekfcaaTd
import Derived.Test.YtnpehidhoekfcaaAl
import Derived.Test.YtnpehidhoekfcaaTs
namespace Go.Proofs.Ytnpehidhoekfcaa
open Go.RowKit
theorem mTab_less {t : Tbl} (h : mTableValid t = true) (h0 : 0 < t.hands.length) : mTableValid ⟨t.store, t.hands.drop 1⟩ = false := by
  refine mTab_no1 ?_
  have h1 : t.hands.length = t.store.cells.length := by
    simp only [mTableValid, Bool.and_eq_true, decide_eq_true_eq] at h
    exact h.1.1.1
  show (t.hands.drop 1).length ≠ t.store.cells.length
  rw [List.length_drop]
  omega
set_option maxHeartbeats 1600000 in
set_option maxRecDepth 20000 in
theorem DrawTableValid_any (w : World) (A : Option Addr) (n c : Nat) (bs : List Int) (hr : RdY w w.heap.size A n c bs) :
    Calls Try.prog 22 #[.slice A n c] w (DrawnT w) := by
  have H := (Owns.nil w).box [.slice none 0 0, .slice none 0 0, .slice none 0 0] 42
  go_enter Try.func22, Try.ntmps22
  go_wp2_with fail
  refine (open_own H A n c bs hr).mono ?_
  rintro e w1 ⟨g, A1, n1, c1, bs1, rfl, hU, H1⟩
  clear H hr
  go_wp2_with fail
  refine (table_own H1 0 rfl hU (by omega) 2 (by omega) (by omega)).mono ?_
  rintro e w2 ⟨t, cv, rvs, rv, hv, hv0, hs0, p1, rfl, hS, ht, -, -, H2⟩
  simp only [List.set_cons_zero] at H2
  clear H1 hU
  obtain ⟨C, kC, rfl, -⟩ := H2.formC 0 rfl
  obtain ⟨R, kR, rfl, -⟩ := H2.formI 1 rfl
  obtain ⟨E0, kE0, e0, -⟩ := H2.formI 2 rfl
  obtain ⟨E, nE, kE, rfl⟩ := ht.form e0
  clear e0
  obtain ⟨y0, y1, y2, y3, y4, y5⟩ := H2.box3 4 rfl
  have HZ := ((H2.putBox 4 rfl 0 (.slice C t.store.cells.length kC)).putBox 4 rfl 1 (.slice R t.store.roots.length kR)).putBox 4 rfl 2 (.slice E nE kE)
  simp only [List.set_cons_zero, List.set_cons_succ] at HZ
  obtain ⟨z0, z1, z2, -, -, -⟩ := HZ.box3 4 rfl
  have HS : Hid (DrawnT w (.returned (.agg #[.slice C t.store.cells.length kC, .slice R t.store.roots.length kR, .slice E nE kE])) _) := Go.Lib.hid ⟨t, _, rvs, _, _, _, _, rfl, hS, ht, HZ.take 3⟩
  clear H2 HZ hS ht
  go_wp2
  exact bodyPost_ret (v := .agg #[.slice C t.store.cells.length kC, .slice R t.store.roots.length kR, .slice E nE kE]) (by simp [results, Try.results22, go_sem, z0, z1, z2]) rfl HS.out
set_option maxHeartbeats 6400000 in
set_option maxRecDepth 20000 in
theorem lawTableValid_any (w : World) {A : Option Addr} {n c : Nat} {bs : List Int} (hr : RdY w w.heap.size A n c bs) :
    Calls Try.prog 6 #[.slice A n c] w fun e w' => e = .returned (.bool true) ∧ Below w.heap.size w w' := by
  by_cases s0 : 1048576 < n
  · go_enter Try.func6, Try.ntmps6
    go_wp2
    go_ret
    exact ⟨rfl, Below.refl _ _⟩
  go_enter Try.func6, Try.ntmps6
  go_wp2_with fail
  refine (DrawTableValid_any w A n c bs hr).mono ?_
  rintro e w1 ⟨t, cv, rvs, rv, hv, hv0, hs0, rfl, hS, ht, H1⟩
  obtain ⟨C, kC, rfl, -⟩ := H1.formC 0 rfl
  obtain ⟨R, kR, rfl, -⟩ := H1.formI 1 rfl
  obtain ⟨E0, kE0, e0, -⟩ := H1.formI 2 rfl
  obtain ⟨E, nE, kE, rfl⟩ := ht.form e0
  have HT := Go.Lib.hid ht
  have HBg := Go.Lib.hid hS.big
  obtain ⟨hE1, hE2⟩ := tab_lens H1 2 rfl ht
  clear e0 ht hS hr s0
  have H := H1.box [.slice C t.store.cells.length kC, .slice R t.store.roots.length kR, .slice E nE kE] 42
  clear H1
  obtain ⟨x0, x1, x2, -, -, -⟩ := H.box3 0 rfl
  go_wp2_with fail
  refine (implTableValid_any _ _ _ t (H.rdTx 1 2 3 rfl rfl rfl HT.out) HBg.out.1 HBg.out.2.1 HBg.out.2.2.1 HBg.out.2.2.2).mono ?_
  rintro e w2 ⟨rfl, hb⟩
  replace H := H.call hb
  clear hb x0 x1 x2
  obtain ⟨x0, x1, x2, -, -, -⟩ := H.box3 0 rfl
  go_wp2_with fail
  refine (specTableValid_any _ _ _ t (H.rdTx 1 2 3 rfl rfl rfl HT.out) HBg.out.1 HBg.out.2.1 HBg.out.2.2.1 HBg.out.2.2.2).mono ?_
  rintro e w3 ⟨rfl, hb⟩
  replace H := H.call hb
  clear hb x0 x1 x2
  obtain ⟨x0, x1, x2, -, -, -⟩ := H.box3 0 rfl
  cases hy : mTableValid t
  · clear hy
    go_wp2_with fail
    refine (alive_any _).mono ?_
    rintro e w8 ⟨rfl, hb⟩
    have HB := (H.call hb).below
    clear H hb
    go_wp2
    go_ret
    exact ⟨rfl, HB⟩
  by_cases h0 : nE = 0
  · subst h0
    clear hy
    go_wp2_with fail
    refine (alive_any _).mono ?_
    rintro e w8 ⟨rfl, hb⟩
    have HB := (H.call hb).below
    clear H hb
    go_wp2
    go_ret
    exact ⟨rfl, HB⟩
  · have HL := Go.Lib.hid (mTab_less hy (by omega))
    obtain ⟨_, _, _, _, _, _, _, _, _, e, rC, rR, rE⟩ := H.rdTx 1 2 3 rfl rfl rfl HT.out
    simp only [Value.agg.injEq, Array.mk.injEq, List.cons.injEq, Value.slice.injEq, and_true] at e
    obtain ⟨⟨rfl, rfl, rfl⟩, ⟨rfl, rfl, rfl⟩, rfl, rfl, rfl⟩ := e
    have hcap := rE.cap
    obtain ⟨b, o, rfl, hbb, -⟩ := rE.rd (by omega)
    by_cases hk1 : kE = 1
    · subst hk1
      obtain rfl : nE = 1 := by omega
      have hd : t.hands.drop 1 = [] := List.drop_eq_nil_of_le (by omega)
      have HRd : Hid (RdT w3 w3.heap.size (.agg #[.slice C t.store.cells.length kC, .slice R t.store.roots.length kR, .slice (some ⟨b, o, none⟩) 0 0]) ⟨t.store, t.hands.drop 1⟩) := Go.Lib.hid ⟨_, _, _, _, _, _, _, _, _, rfl, rC, rR, by show RdI w3 w3.heap.size _ 0 0 (t.hands.drop 1); rw [hd]; exact ⟨rfl, Nat.le_refl _, Nat.zero_le _, fun h => by omega⟩⟩
      clear hy rC rR rE hbb hd hcap
      go_wp2_with fail
      have HX := H.drew
      have H0 := Go.Lib.hid H
      clear H
      refine wp_region_tree (fun w' => w'.cell? ⟨w1.heap.size, 0, none⟩ = some (.slice C t.store.cells.length kC) ∧ w'.cell? ⟨w1.heap.size, 1, none⟩ = some (.slice R t.store.roots.length kR) ∧ w'.cell? ⟨w1.heap.size, 2, none⟩ = some (.slice (some ⟨b, o, none⟩) 1 1)) 9 [] (.take 0 (.take 1 (.take 2 (.take 3 (.take 4 (.take 5 (.alt 6 (.take 7 (.take 8 (.done))) (.stop)))))))) (by kernel_rfl) (by kernel_rfl) (by kernel_rfl) (⟨x0, x1, x2⟩) ?_
      simp only [fillT, List.getElem?_cons_zero, List.getElem?_cons_succ, Nat.reduceBEq]
      repeat (first
        | (with_reducible refine po_take (v := ?_) ?_ (fun w' hS' => ?_) ?_
           rotate_left
           · (go_simp; done)
           · ((try dsimp only at hS'); go_simp; try with_reducible rfl)
           simp only [Act.put, List.setIfInBounds_toArray, List.set_cons_zero, List.set_cons_succ])
        | (with_reducible refine po_skip ?_ ?_
           · (go_simp; done)
           simp only [Act.put, List.setIfInBounds_toArray, List.set_cons_zero, List.set_cons_succ]))
      with_reducible refine po_run ?_ (fun K hK => ?_) ?_
      · (go_simp; done)
      rotate_left
      · exact po_stop
      go_simp
      refine (implTableValid_any _ _ _ ⟨t.store, t.hands.drop 1⟩ (HRd.out.below (Below.refl _ _).drew) HBg.out.1 HBg.out.2.1 HBg.out.2.2.1 (by have := HBg.out.2.2.2; show (List.drop _ _).length ≤ 1048576; rw [List.length_drop]; omega)).mono ?_
      rintro e w4 ⟨rfl, hb⟩
      rw [HL.out]
      replace HX := HX.call hb
      refine hK.out _ _ (.inr (⟨keepd x0 hb, keepd x1 hb, keepd x2 hb⟩)) ?_
      clear hK K
      repeat (first
        | (with_reducible refine po_take (v := ?_) ?_ (fun w' hS' => ?_) ?_
           rotate_left
           · (go_simp; done)
           · ((try dsimp only at hS'); go_simp; try with_reducible rfl)
           simp only [Act.put, List.setIfInBounds_toArray, List.set_cons_zero, List.set_cons_succ])
        | (with_reducible refine po_skip ?_ ?_
           · (go_simp; done)
           simp only [Act.put, List.setIfInBounds_toArray, List.set_cons_zero, List.set_cons_succ]))
      refine po_done ?_
      have HB := HX.below
      clear HX H0 x0 x1 x2 hb
      go_wp2
      go_ret
      exact ⟨rfl, HB⟩
    · have HRd : Hid (RdT w3 w3.heap.size (.agg #[.slice C t.store.cells.length kC, .slice R t.store.roots.length kR, .slice (some ⟨b, o + 1, none⟩) (nE - 1) (kE - 1)]) ⟨t.store, t.hands.drop 1⟩) := Go.Lib.hid ⟨_, _, _, _, _, _, _, _, _, rfl, rC, rR, rE.drop1 (by omega)⟩
      have j1 : (0 : Int) < (nE : Int) := by omega
      have j2 : 1 ≤ nE := by omega
      have j3 : 2 ≤ kE := by omega
      have j6 : ¬ kE - 1 = 0 := by omega
      have j4 : (1 : Int) ≤ (nE : Int) := by omega
      have j5 : (nE : Int) ≤ (kE : Int) := by omega
      clear hy rC rR rE hbb
      go_wp2_with fail
      have HX := H.drew
      have H0 := Go.Lib.hid H
      clear H
      refine wp_region_tree (fun w' => w'.cell? ⟨w1.heap.size, 0, none⟩ = some (.slice C t.store.cells.length kC) ∧ w'.cell? ⟨w1.heap.size, 1, none⟩ = some (.slice R t.store.roots.length kR) ∧ w'.cell? ⟨w1.heap.size, 2, none⟩ = some (.slice (some ⟨b, o, none⟩) nE kE)) 9 [] (.take 0 (.take 1 (.take 2 (.take 3 (.take 4 (.take 5 (.alt 6 (.take 7 (.take 8 (.done))) (.stop)))))))) (by kernel_rfl) (by kernel_rfl) (by kernel_rfl) (⟨x0, x1, x2⟩) ?_
      simp only [fillT, List.getElem?_cons_zero, List.getElem?_cons_succ, Nat.reduceBEq]
      repeat (first
        | (with_reducible refine po_take (v := ?_) ?_ (fun w' hS' => ?_) ?_
           rotate_left
           · (go_simp; done)
           · ((try dsimp only at hS'); go_simp; try with_reducible rfl)
           simp only [Act.put, List.setIfInBounds_toArray, List.set_cons_zero, List.set_cons_succ])
        | (with_reducible refine po_skip ?_ ?_
           · (go_simp; done)
           simp only [Act.put, List.setIfInBounds_toArray, List.set_cons_zero, List.set_cons_succ]))
      with_reducible refine po_run ?_ (fun K hK => ?_) ?_
      · (go_simp; done)
      rotate_left
      · exact po_stop
      go_simp
      refine (implTableValid_any _ _ _ ⟨t.store, t.hands.drop 1⟩ (HRd.out.below (Below.refl _ _).drew) HBg.out.1 HBg.out.2.1 HBg.out.2.2.1 (by have := HBg.out.2.2.2; show (List.drop _ _).length ≤ 1048576; rw [List.length_drop]; omega)).mono ?_
      rintro e w4 ⟨rfl, hb⟩
      rw [HL.out]
      replace HX := HX.call hb
      refine hK.out _ _ (.inr (⟨keepd x0 hb, keepd x1 hb, keepd x2 hb⟩)) ?_
      clear hK K
      repeat (first
        | (with_reducible refine po_take (v := ?_) ?_ (fun w' hS' => ?_) ?_
           rotate_left
           · (go_simp; done)
           · ((try dsimp only at hS'); go_simp; try with_reducible rfl)
           simp only [Act.put, List.setIfInBounds_toArray, List.set_cons_zero, List.set_cons_succ])
        | (with_reducible refine po_skip ?_ ?_
           · (go_simp; done)
           simp only [Act.put, List.setIfInBounds_toArray, List.set_cons_zero, List.set_cons_succ]))
      refine po_done ?_
      have HB := HX.below
      clear HX H0 x0 x1 x2 hb
      go_wp2
      go_ret
      exact ⟨rfl, HB⟩
end Go.Proofs.Ytnpehidhoekfcaa
