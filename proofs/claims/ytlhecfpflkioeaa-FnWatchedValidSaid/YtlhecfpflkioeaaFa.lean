/- The law FnWatchedValid's walk, for every code that can be read. -/
import Derived.Test.YtlhecfpflkioeaaFw
import Derived.Test.YtlhecfpflkioeaaWa
import Derived.Test.YtlhecfpflkioeaaWt
namespace Go.Proofs.Ytlhecfpflkioeaa
open Go.RowKit
theorem RdI.dropN {w : World} {B b o n c : Nat} {xs : List Int} (h : RdI w B (some ⟨b, o, none⟩) n c xs) (k : Nat) (hk : k ≤ n) : RdI w B (some ⟨b, o + k, none⟩) (n - k) (c - k) (xs.drop k) := by
  have hl := h.len
  have hc := h.cap
  have hm := h.mx
  simp only [List.length_map] at hl
  refine ⟨by simp; omega, by omega, by omega, fun h1 => ?_⟩
  obtain ⟨b', o', e, hlt, hcell⟩ := h.rd (by omega)
  injection e with e; injection e with e1 e2; subst e1 e2
  refine ⟨b, o + k, rfl, hlt, fun j u hu => ?_⟩
  have := hcell (k + j) u (by rw [← hu, List.map_drop, List.getElem?_drop])
  rw [← this]
  congr 2
  omega
theorem mWat_get {h : Hp} {xs : List Int} (h0 : mWatchedValid h xs = true) {k : Nat} (hk : k < xs.length) : watchAt h.cells xs k = true := by
  simp only [mWatchedValid, Bool.and_eq_true, List.all_eq_true] at h0
  exact h0.2 k (List.mem_range.2 hk)
theorem watchAt_lt {cs : List Cel} {xs : List Int} {k : Nat} (h : watchAt cs xs (k + 1) = true) : xs.getD k 0 < xs.getD (k + 1) 0 := by
  unfold watchAt at h
  simp at h
  simpa [List.getD_eq_getElem?_getD] using h.2
theorem watch_asc {cs : List Cel} {xs : List Int} (h : ∀ k, k < xs.length → watchAt cs xs k = true) : ∀ k, k < xs.length → xs.getD 0 0 ≤ xs.getD k 0
  | 0, _ => Int.le_refl _
  | k + 1, hk => by
    have h1 := watch_asc h k (by omega)
    have h2 := watchAt_lt (h (k + 1) hk)
    omega
theorem mWat_bad {h : Hp} {xs : List Int} (h0 : mWatchedValid h xs = true) (hx : 0 < xs.length) : mWatchedValid h (xs ++ [xs.getD 0 0]) = false := by
  cases hb : mWatchedValid h (xs ++ [xs.getD 0 0])
  · rfl
  · exfalso
    have h1 := mWat_get hb (k := xs.length) (by simp)
    obtain ⟨m, hm⟩ : ∃ m, xs.length = m + 1 := ⟨xs.length - 1, by omega⟩
    rw [hm] at h1
    have h2 := watchAt_lt h1
    have h3 := watch_asc (fun k hk => mWat_get h0 hk) m (by omega)
    have e1 : (xs ++ [xs.getD 0 0]).getD m 0 = xs.getD m 0 := by
      simp only [List.getD_eq_getElem?_getD]; rw [List.getElem?_append_left (by omega)]
    have e2 : (xs ++ [xs.getD 0 0]).getD (m + 1) 0 = xs.getD 0 0 := by
      simp only [List.getD_eq_getElem?_getD]; rw [List.getElem?_append_right (by omega)]; simp [hm]
    rw [e1, e2] at h2
    omega
theorem mWat_drop {h : Hp} {xs : List Int} (h0 : mWatchedValid h xs = true) (q : Nat) : mWatchedValid h (xs.drop q) = true := by
  have hg := fun k (hk : k < xs.length) => mWat_get h0 hk
  simp only [mWatchedValid, Bool.and_eq_true, List.all_eq_true] at h0 ⊢
  refine ⟨h0.1, fun k hk => ?_⟩
  have hk := List.mem_range.1 hk
  rw [List.length_drop] at hk
  have e : ∀ j, (xs.drop q).getD j 0 = xs.getD (q + j) 0 := fun j => by simp only [List.getD_eq_getElem?_getD, List.getElem?_drop]
  have h1 := hg (q + k) (by omega)
  cases k with
  | zero =>
    unfold watchAt at h1 ⊢
    simp only [e, Nat.add_zero] at h1 ⊢
    simp at h1 ⊢
    exact h1.1
  | succ k =>
    have h2 := watchAt_lt (show watchAt h.cells xs (q + k + 1) = true from h1)
    unfold watchAt at h1 ⊢
    simp only [e] at h1 ⊢
    simp at h1 ⊢
    refine ⟨h1.1, ?_⟩
    simpa [List.getD_eq_getElem?_getD, Nat.add_assoc] using h2
set_option maxHeartbeats 1600000 in
theorem DrawWatchedValid_any (w : World) (A : Option Addr) (n c : Nat) (bs : List Int) (hr : RdY w w.heap.size A n c bs) :
    Calls Try.prog 13 #[.slice A n c] w (DrawnHI w) := by
  have H := (Owns.nil w).box [.slice none 0 0, .slice none 0 0] 26
  go_enter Try.func13, Try.ntmps13
  go_wp2_with fail
  refine (open_own H A n c bs hr).mono ?_
  rintro e w1 ⟨g, A1, n1, c1, bs1, rfl, hU, H1⟩
  clear H hr
  go_wp2_with fail
  refine (watched_own H1 0 rfl hU (by omega) 4 (by omega) (by omega)).mono ?_
  rintro e w2 ⟨T, cv, rvs, rv, rv0, v, rs0, xs, p1, rfl, hS, ht, hxl, -, -, H2⟩
  simp only [List.set_cons_zero] at H2
  clear H1 hU
  obtain ⟨C, kC, rfl, -⟩ := H2.formC 1 rfl
  obtain ⟨R0, kR0, e0, -⟩ := H2.formI 2 rfl
  obtain ⟨R, nR, kR, rfl⟩ := ht.form e0
  clear e0
  obtain ⟨y0, y1, y2, y3⟩ := H2.box2 4 rfl
  have HZ := (H2.putBox 4 rfl 0 (.slice C T.cells.length kC)).putBox 4 rfl 1 (.slice R nR kR)
  simp only [List.set_cons_zero, List.set_cons_succ] at HZ
  obtain ⟨z0, z1, -, -⟩ := HZ.box2 4 rfl
  obtain ⟨z2, -, -, -⟩ := (H2.putBox 4 rfl 0 (.slice C T.cells.length kC)).box2 4 rfl
  have HS : Hid (DrawnHI w (.returned (.tuple #[.agg #[.slice C T.cells.length kC, .slice R nR kR], v])) _) := Go.Lib.hid ⟨T, _, rvs, _, _, _, _, xs, rfl, hS, ht, hxl, HZ.take 3⟩
  clear H2 HZ hS ht
  go_wp2
  exact bodyPost_ret (v := .tuple #[.agg #[.slice C T.cells.length kC, .slice R nR kR], v]) (by simp [results, Try.results13, go_sem, z0, z1]) rfl HS.out
set_option maxHeartbeats 6400000 in
set_option maxRecDepth 20000 in
theorem lawWatchedValid_any (w : World) {A : Option Addr} {n c : Nat} {bs : List Int} (hr : RdY w w.heap.size A n c bs) :
    Calls Try.prog 4 #[.slice A n c] w fun e w' => e = .returned (.bool true) ∧ Below w.heap.size w w' := by
  by_cases s0 : 1048576 < n
  · go_enter Try.func4, Try.ntmps4
    go_wp2
    go_ret
    exact ⟨rfl, Below.refl _ _⟩
  go_enter Try.func4, Try.ntmps4
  go_wp2_with fail
  refine (DrawWatchedValid_any w A n c bs hr).mono ?_
  rintro e w1 ⟨T, cv, rvs, rv, rv0, v, rs0, xs, rfl, hS, ht, hxl, H1⟩
  obtain ⟨C, kC, rfl, -⟩ := H1.formC 1 rfl
  obtain ⟨R0, kR0, e0, -⟩ := H1.formI 2 rfl
  obtain ⟨R, nR, kR, rfl⟩ := ht.form e0
  obtain ⟨V, kV, rfl, rV⟩ := H1.formI 0 rfl
  have HT := Go.Lib.hid ht
  have HS := Go.Lib.hid hS
  have hcap := rV.cap
  have hmx := rV.mx
  unfold maxLen at hmx
  clear e0 ht hS rV hr s0
  have H := H1.box [.slice C T.cells.length kC, .slice R nR kR] 26
  clear H1
  obtain ⟨x0, x1, -, -⟩ := H.box2 0 rfl
  go_wp2_with fail
  refine (implWatchedValid_any _ _ _ _ T _ _ _ xs (H.rdHx 2 3 rfl rfl HT.out) (H.owI 1 rfl).rdI).mono ?_
  rintro e w2 ⟨rfl, hb⟩
  replace H := H.call hb
  clear hb x0 x1
  obtain ⟨x0, x1, -, -⟩ := H.box2 0 rfl
  go_wp2_with fail
  refine (specWatchedValid_any _ _ _ _ T _ _ _ xs (H.rdHx 2 3 rfl rfl HT.out) (H.owI 1 rfl).rdI).mono ?_
  rintro e w3 ⟨rfl, hb⟩
  replace H := H.call hb
  clear hb x0 x1
  obtain ⟨x0, x1, -, -⟩ := H.box2 0 rfl
  cases ok : mWatchedValid T xs
  · clear ok
    go_wp2_with fail
    refine (alive_any _).mono ?_
    rintro e w8 ⟨rfl, hb⟩
    replace H := H.call hb
    have HB := H.below
    clear H hb
    go_wp2
    go_ret
    exact ⟨rfl, HB⟩
  by_cases hx0 : xs.length = 0
  · have e1 : ((xs.length : Int) == 0) = true := by simp [hx0]
    clear ok hx0
    go_wp2_with fail
    refine (alive_any _).mono ?_
    rintro e w8 ⟨rfl, hb⟩
    replace H := H.call hb
    have HB := H.below
    clear H hb
    go_wp2
    go_ret
    exact ⟨rfl, HB⟩
  have e1 : ((xs.length : Int) == 0) = false := beq_eq_false_iff_ne.2 (by omega)
  have hxp : 0 < xs.length := by omega
  obtain ⟨q, hq⟩ : ∃ q, q = xs.length / 2 := ⟨_, rfl⟩
  have hq1 : q ≤ xs.length := by omega
  obtain ⟨gV, cV, eV, hcc, -, -, -⟩ := H.rowAt 1 rfl hxp
  simp only [Value.slice.injEq] at eV
  obtain ⟨rfl, -, rfl⟩ := eV
  have hq2 : q ≤ kV := by omega
  have hq3 : ¬ kV = q := by omega
  obtain ⟨z, hz0⟩ : ∃ z, Hid (xs[0]? = some z) := ⟨_, Go.Lib.hid (List.getElem?_eq_getElem hxp)⟩
  have HBad : Hid (mWatchedValid T (xs ++ [z]) = false) := Go.Lib.hid (by have := mWat_bad ok hxp; rwa [getD_of hz0] at this)
  have HDr := Go.Lib.hid (mWat_drop ok q)
  have t1 : (xs.length : Int).tdiv 2 = (q : Int) := by rw [hq]; rfl
  have t2 : IntKind.i64.wrap (q : Int) = (q : Int) := IntWalk.i64_in _ (by omega)
  clear hq ok hx0
  go_wp2_with fail
  have HX := H.drew
  have H0 := Go.Lib.hid H
  clear H x0 x1
  obtain ⟨x0, x1, -, -⟩ := HX.box2 0 rfl
  obtain ⟨y0, -⟩ := HX.intAt 1 rfl rfl hz0
  refine wp_region_tree (fun w' => w'.cell? ⟨w1.heap.size, 0, none⟩ = some (.slice C T.cells.length kC) ∧ w'.cell? ⟨w1.heap.size, 1, none⟩ = some (.slice R nR kR) ∧ w'.cell? ⟨gV, 0, none⟩ = some (.int .i64 z)) 21 [] (.take 0 (.take 1 (.take 2 (.take 3 (.take 4 (.take 5 (.alt 6 (.take 7 (.take 8 (.take 10 (.take 12 (.take 13 (.take 14 (.alt 9 (.alt 11 (.alt 15 (.alt 16 (.alt 17 (.take 18 (.take 19 (.take 20 (.done)))) (.stop)) (.stop)) (.stop)) (.alt 15 (.alt 11 (.alt 16 (.alt 17 (.take 18 (.take 19 (.take 20 (.done)))) (.stop)) (.stop)) (.stop)) (.stop))) (.alt 15 (.alt 9 (.alt 11 (.alt 16 (.alt 17 (.take 18 (.take 19 (.take 20 (.done)))) (.stop)) (.stop)) (.stop)) (.stop)) (.stop))))))))) (.stop)))))))) (by kernel_rfl) (by kernel_rfl) (by kernel_rfl) (⟨x0, x1, y0⟩) ?_
  simp only [fillT, List.getElem?_cons_zero, List.getElem?_cons_succ, Nat.reduceBEq]
  repeat (first
    | (with_reducible refine po_take (v := ?_) ?_ (fun w' hS' => ?_) ?_
       rotate_left
       · (go_simp; done)
       · ((try dsimp only at hS'); go_simp; try with_reducible rfl)
       simp only [Act.put, List.setIfInBounds_toArray, List.set_cons_zero, List.set_cons_succ])
    | (with_reducible refine po_skip ?_ ?_
       · (go_simp; done)
       simp only [Act.put, List.setIfInBounds_toArray, List.set_cons_zero, List.set_cons_succ]))
  with_reducible refine po_run ?_ (fun K hK => ?_) ?_
  · (go_simp; done)
  rotate_left
  · exact po_stop
  have hrd := RdI.dropN (HX.owI 1 rfl).rdI q hq1
  rw [Nat.zero_add] at hrd
  go_simp
  refine (implWatchedValid_any _ _ _ _ T _ _ _ (xs.drop q) (HX.rdHx 2 3 rfl rfl HT.out) hrd).mono ?_
  rintro e w4 ⟨rfl, hb⟩
  rw [HDr.out]
  replace HX := HX.call hb
  clear hb hrd
  clear x0 x1 y0
  obtain ⟨x0, x1, -, -⟩ := HX.box2 0 rfl
  obtain ⟨y0, -⟩ := HX.intAt (1 + 0) rfl rfl hz0
  refine hK.out _ _ (.inr (⟨x0, x1, y0⟩)) ?_
  clear hK K
  repeat (first
    | (with_reducible refine po_take (v := ?_) ?_ (fun w' hS' => ?_) ?_
       rotate_left
       · (go_simp; done)
       · ((try dsimp only at hS'); go_simp; try with_reducible rfl)
       simp only [Act.put, List.setIfInBounds_toArray, List.set_cons_zero, List.set_cons_succ])
    | (with_reducible refine po_skip ?_ ?_
       · (go_simp; done)
       simp only [Act.put, List.setIfInBounds_toArray, List.set_cons_zero, List.set_cons_succ]))
  with_reducible refine po_run ?_ (fun K hK => ?_) ?_
  · (go_simp; done)
  · -- operation 9 first
    try (revert x0 x1 y0 HX; generalize World.drew _ = wd; intro HX x0 x1 y0)
    go_simp
    replace HX := HX.litI [] zero_le_maxLen
    try simp only [List.map_nil, List.length_nil] at HX
    clear x0 x1 y0
    obtain ⟨x0, x1, -, -⟩ := HX.box2 1 rfl
    obtain ⟨y0, -⟩ := HX.intAt (1 + 1) rfl rfl hz0
    refine hK.out _ _ (.inr (⟨x0, x1, y0⟩)) ?_
    clear hK K
    revert x0 x1 y0 HX
    generalize World.alloc _ _ = wz
    intro HX x0 x1 y0
    with_reducible refine po_run ?_ (fun K hK => ?_) ?_
    · (go_simp; done)
    · -- operation 11 first
      refine wp_pushO (.tmp 39) (.tmp 40) rfl HX 0 rfl rfl rfl (HX.owI 2 rfl).rdI (by simp; omega) ?_
      intro A3 k3 w5 HY
      simp only [List.set_cons_zero, List.nil_append] at HY
      simp only [List.nil_append]
      replace HX := HY
      clear HY
      clear x0 x1 y0
      obtain ⟨x0, x1, -, -⟩ := HX.box2 1 rfl
      obtain ⟨y0, -⟩ := HX.intAt (1 + 1) rfl rfl hz0
      refine hK.out _ _ (.inr (⟨x0, x1, y0⟩)) ?_
      clear hK K
      with_reducible refine po_run ?_ (fun K hK => ?_) ?_
      · (go_simp; done)
      rotate_left
      · exact po_stop
      try (revert x0 x1 y0 HX; generalize World.drew _ = wd; intro HX x0 x1 y0)
      go_simp
      replace HX := HX.litI [z] one_le_maxLen
      try simp only [List.map_cons, List.map_nil, List.length_cons, List.length_nil, Nat.zero_add] at HX
      clear x0 x1 y0
      obtain ⟨x0, x1, -, -⟩ := HX.box2 2 rfl
      obtain ⟨y0, -⟩ := HX.intAt (1 + 2) rfl rfl hz0
      refine hK.out _ _ (.inr (⟨x0, x1, y0⟩)) ?_
      clear hK K
      revert x0 x1 y0 HX
      generalize World.alloc _ _ = wz
      intro HX x0 x1 y0
      with_reducible refine po_run ?_ (fun K hK => ?_) ?_
      · (go_simp; done)
      rotate_left
      · exact po_stop
      refine wp_pushO (.tmp 41) (.tmp 45) rfl HX 1 rfl rfl rfl (HX.owI 0 rfl).rdI (by simp; omega) ?_
      intro A4 k4 w6 HY
      simp only [List.set_cons_zero, List.set_cons_succ] at HY
      replace HX := HY
      clear HY
      clear x0 x1 y0
      obtain ⟨x0, x1, -, -⟩ := HX.box2 2 rfl
      obtain ⟨y0, -⟩ := HX.intAt (1 + 2) rfl rfl hz0
      refine hK.out _ _ (.inr (⟨x0, x1, y0⟩)) ?_
      clear hK K
      with_reducible refine po_run ?_ (fun K hK => ?_) ?_
      · (go_simp; done)
      rotate_left
      · exact po_stop
      have hrd := (HX.owI 1 rfl).rdI
      rw [show (xs ++ [z]).length = xs.length + 1 by simp] at hrd
      go_simp
      refine (implWatchedValid_any _ _ _ _ T _ _ _ (xs ++ [z]) (HX.rdHx 4 5 rfl rfl HT.out) hrd).mono ?_
      rintro e w7 ⟨rfl, hb⟩
      rw [HBad.out]
      replace HX := HX.call hb
      clear hb hrd
      clear x0 x1 y0
      obtain ⟨x0, x1, -, -⟩ := HX.box2 2 rfl
      obtain ⟨y0, -⟩ := HX.intAt (1 + 2) rfl rfl hz0
      refine hK.out _ _ (.inr (⟨x0, x1, y0⟩)) ?_
      clear hK K
      repeat (first
        | (with_reducible refine po_take (v := ?_) ?_ (fun w' hS' => ?_) ?_
           rotate_left
           · (go_simp; done)
           · ((try dsimp only at hS'); go_simp; try with_reducible rfl)
           simp only [Act.put, List.setIfInBounds_toArray, List.set_cons_zero, List.set_cons_succ])
        | (with_reducible refine po_skip ?_ ?_
           · (go_simp; done)
           simp only [Act.put, List.setIfInBounds_toArray, List.set_cons_zero, List.set_cons_succ]))
      refine po_done ?_
      have HB := HX.below
      clear HX H0 x0 x1 y0 t1 t2
      go_wp2
      go_ret
      exact ⟨rfl, HB⟩
    with_reducible refine po_run ?_ (fun K hK => ?_) ?_
    · (go_simp; done)
    rotate_left
    · exact po_stop
    try (revert x0 x1 y0 HX; generalize World.drew _ = wd; intro HX x0 x1 y0)
    go_simp
    replace HX := HX.litI [z] one_le_maxLen
    try simp only [List.map_cons, List.map_nil, List.length_cons, List.length_nil, Nat.zero_add] at HX
    clear x0 x1 y0
    obtain ⟨x0, x1, -, -⟩ := HX.box2 2 rfl
    obtain ⟨y0, -⟩ := HX.intAt (1 + 2) rfl rfl hz0
    refine hK.out _ _ (.inr (⟨x0, x1, y0⟩)) ?_
    clear hK K
    revert x0 x1 y0 HX
    generalize World.alloc _ _ = wz
    intro HX x0 x1 y0
    with_reducible refine po_run ?_ (fun K hK => ?_) ?_
    · (go_simp; done)
    rotate_left
    · exact po_stop
    refine wp_pushO (.tmp 39) (.tmp 40) rfl HX 1 rfl rfl rfl (HX.owI 3 rfl).rdI (by simp; omega) ?_
    intro A3 k3 w5 HY
    simp only [List.set_cons_zero, List.set_cons_succ, List.nil_append] at HY
    simp only [List.nil_append]
    replace HX := HY
    clear HY
    clear x0 x1 y0
    obtain ⟨x0, x1, -, -⟩ := HX.box2 2 rfl
    obtain ⟨y0, -⟩ := HX.intAt (1 + 2) rfl rfl hz0
    refine hK.out _ _ (.inr (⟨x0, x1, y0⟩)) ?_
    clear hK K
    with_reducible refine po_run ?_ (fun K hK => ?_) ?_
    · (go_simp; done)
    rotate_left
    · exact po_stop
    refine wp_pushO (.tmp 41) (.tmp 45) rfl HX 1 rfl rfl rfl (HX.owI 0 rfl).rdI (by simp; omega) ?_
    intro A4 k4 w6 HY
    simp only [List.set_cons_zero, List.set_cons_succ] at HY
    replace HX := HY
    clear HY
    clear x0 x1 y0
    obtain ⟨x0, x1, -, -⟩ := HX.box2 2 rfl
    obtain ⟨y0, -⟩ := HX.intAt (1 + 2) rfl rfl hz0
    refine hK.out _ _ (.inr (⟨x0, x1, y0⟩)) ?_
    clear hK K
    with_reducible refine po_run ?_ (fun K hK => ?_) ?_
    · (go_simp; done)
    rotate_left
    · exact po_stop
    have hrd := (HX.owI 1 rfl).rdI
    rw [show (xs ++ [z]).length = xs.length + 1 by simp] at hrd
    go_simp
    refine (implWatchedValid_any _ _ _ _ T _ _ _ (xs ++ [z]) (HX.rdHx 4 5 rfl rfl HT.out) hrd).mono ?_
    rintro e w7 ⟨rfl, hb⟩
    rw [HBad.out]
    replace HX := HX.call hb
    clear hb hrd
    clear x0 x1 y0
    obtain ⟨x0, x1, -, -⟩ := HX.box2 2 rfl
    obtain ⟨y0, -⟩ := HX.intAt (1 + 2) rfl rfl hz0
    refine hK.out _ _ (.inr (⟨x0, x1, y0⟩)) ?_
    clear hK K
    repeat (first
      | (with_reducible refine po_take (v := ?_) ?_ (fun w' hS' => ?_) ?_
         rotate_left
         · (go_simp; done)
         · ((try dsimp only at hS'); go_simp; try with_reducible rfl)
         simp only [Act.put, List.setIfInBounds_toArray, List.set_cons_zero, List.set_cons_succ])
      | (with_reducible refine po_skip ?_ ?_
         · (go_simp; done)
         simp only [Act.put, List.setIfInBounds_toArray, List.set_cons_zero, List.set_cons_succ]))
    refine po_done ?_
    have HB := HX.below
    clear HX H0 x0 x1 y0 t1 t2
    go_wp2
    go_ret
    exact ⟨rfl, HB⟩
  with_reducible refine po_run ?_ (fun K hK => ?_) ?_
  · (go_simp; done)
  rotate_left
  · exact po_stop
  try (revert x0 x1 y0 HX; generalize World.drew _ = wd; intro HX x0 x1 y0)
  go_simp
  replace HX := HX.litI [z] one_le_maxLen
  try simp only [List.map_cons, List.map_nil, List.length_cons, List.length_nil, Nat.zero_add] at HX
  clear x0 x1 y0
  obtain ⟨x0, x1, -, -⟩ := HX.box2 1 rfl
  obtain ⟨y0, -⟩ := HX.intAt (1 + 1) rfl rfl hz0
  refine hK.out _ _ (.inr (⟨x0, x1, y0⟩)) ?_
  clear hK K
  revert x0 x1 y0 HX
  generalize World.alloc _ _ = wz
  intro HX x0 x1 y0
  with_reducible refine po_run ?_ (fun K hK => ?_) ?_
  · (go_simp; done)
  rotate_left
  · exact po_stop
  try (revert x0 x1 y0 HX; generalize World.drew _ = wd; intro HX x0 x1 y0)
  go_simp
  replace HX := HX.litI [] zero_le_maxLen
  try simp only [List.map_nil, List.length_nil] at HX
  clear x0 x1 y0
  obtain ⟨x0, x1, -, -⟩ := HX.box2 2 rfl
  obtain ⟨y0, -⟩ := HX.intAt (1 + 2) rfl rfl hz0
  refine hK.out _ _ (.inr (⟨x0, x1, y0⟩)) ?_
  clear hK K
  revert x0 x1 y0 HX
  generalize World.alloc _ _ = wz
  intro HX x0 x1 y0
  with_reducible refine po_run ?_ (fun K hK => ?_) ?_
  · (go_simp; done)
  rotate_left
  · exact po_stop
  refine wp_pushO (.tmp 39) (.tmp 40) rfl HX 0 rfl rfl rfl (HX.owI 3 rfl).rdI (by simp; omega) ?_
  intro A3 k3 w5 HY
  simp only [List.set_cons_zero, List.nil_append] at HY
  simp only [List.nil_append]
  replace HX := HY
  clear HY
  clear x0 x1 y0
  obtain ⟨x0, x1, -, -⟩ := HX.box2 2 rfl
  obtain ⟨y0, -⟩ := HX.intAt (1 + 2) rfl rfl hz0
  refine hK.out _ _ (.inr (⟨x0, x1, y0⟩)) ?_
  clear hK K
  with_reducible refine po_run ?_ (fun K hK => ?_) ?_
  · (go_simp; done)
  rotate_left
  · exact po_stop
  refine wp_pushO (.tmp 41) (.tmp 45) rfl HX 0 rfl rfl rfl (HX.owI 1 rfl).rdI (by simp; omega) ?_
  intro A4 k4 w6 HY
  simp only [List.set_cons_zero] at HY
  replace HX := HY
  clear HY
  clear x0 x1 y0
  obtain ⟨x0, x1, -, -⟩ := HX.box2 2 rfl
  obtain ⟨y0, -⟩ := HX.intAt (1 + 2) rfl rfl hz0
  refine hK.out _ _ (.inr (⟨x0, x1, y0⟩)) ?_
  clear hK K
  with_reducible refine po_run ?_ (fun K hK => ?_) ?_
  · (go_simp; done)
  rotate_left
  · exact po_stop
  have hrd := (HX.owI 0 rfl).rdI
  rw [show (xs ++ [z]).length = xs.length + 1 by simp] at hrd
  go_simp
  refine (implWatchedValid_any _ _ _ _ T _ _ _ (xs ++ [z]) (HX.rdHx 4 5 rfl rfl HT.out) hrd).mono ?_
  rintro e w7 ⟨rfl, hb⟩
  rw [HBad.out]
  replace HX := HX.call hb
  clear hb hrd
  clear x0 x1 y0
  obtain ⟨x0, x1, -, -⟩ := HX.box2 2 rfl
  obtain ⟨y0, -⟩ := HX.intAt (1 + 2) rfl rfl hz0
  refine hK.out _ _ (.inr (⟨x0, x1, y0⟩)) ?_
  clear hK K
  repeat (first
    | (with_reducible refine po_take (v := ?_) ?_ (fun w' hS' => ?_) ?_
       rotate_left
       · (go_simp; done)
       · ((try dsimp only at hS'); go_simp; try with_reducible rfl)
       simp only [Act.put, List.setIfInBounds_toArray, List.set_cons_zero, List.set_cons_succ])
    | (with_reducible refine po_skip ?_ ?_
       · (go_simp; done)
       simp only [Act.put, List.setIfInBounds_toArray, List.set_cons_zero, List.set_cons_succ]))
  refine po_done ?_
  have HB := HX.below
  clear HX H0 x0 x1 y0 t1 t2
  go_wp2
  go_ret
  exact ⟨rfl, HB⟩
end Go.Proofs.Ytlhecfpflkioeaa
