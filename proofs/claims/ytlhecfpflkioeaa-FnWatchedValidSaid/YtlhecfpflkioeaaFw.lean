/- A heap with weak references drawn from a code; the law FnWeakValid's walk. For every code that can be read. -/
import Derived.Test.YtlhecfpflkioeaaWd
import Derived.Test.YtlhecfpflkioeaaBo
import Derived.Test.YtlhecfpflkioeaaAl
import Derived.Test.YtlhecfpflkioeaaWk
namespace Go.Proofs.Ytlhecfpflkioeaa
open Go.RowKit
/-- A reader is owned besides what was. -/
def OpenedO (lo : Nat) (w0 : World) (L : List OB) (e : Ending) (w' : World) : Prop :=
  ∃ (g : Nat) (A : Option Addr) (n c : Nat) (bs : List Int), e = .returned (.pointer (some ⟨g, 0, none⟩)) ∧ RdU w0 lo A n c bs ∧ Owns lo w0 w' (.rdr g A n c 0 :: L)
set_option maxHeartbeats 800000 in
theorem open_own {lo : Nat} {w0 w : World} {L : List OB} (h : Owns lo w0 w L) (A : Option Addr) (n c : Nat) (bs : List Int) (hr : RdY w0 lo A n c bs) :
    Calls Try.prog 36 #[.slice A n c] w (OpenedO lo w0 L) := by
  have hcap := hr.rd.cap
  have hmx := hr.rd.mx
  unfold maxLen at hmx
  by_cases h2 : 2000 < n
  · have hU := hr.cut 2000 (by omega)
    have HS : Hid (OpenedO lo w0 L (.returned (.pointer (some ⟨w.heap.size, 0, none⟩))) (w.alloc (.cells #[.slice A 2000 c, .int .i64 0] 75))) :=
      Go.Lib.hid ⟨w.heap.size, A, 2000, c, _, rfl, ⟨hU.rd, by omega, hU.u8⟩, h.box [.slice A 2000 c, .int .i64 0] 75⟩
    have f1 : 2000 ≤ c := by omega
    clear hr hU h
    go_enter Try.func36, Try.ntmps36
    go_wp2
    go_ret
    exact HS.out
  · have HS : Hid (OpenedO lo w0 L (.returned (.pointer (some ⟨w.heap.size, 0, none⟩))) (w.alloc (.cells #[.slice A n c, .int .i64 0] 75))) :=
      Go.Lib.hid ⟨w.heap.size, A, n, c, _, rfl, ⟨hr.rd, by omega, hr.u8⟩, h.box [.slice A n c, .int .i64 0] 75⟩
    clear hr h
    go_enter Try.func36, Try.ntmps36
    go_wp2
    go_ret
    exact HS.out
/-- A heap and some numbers, of the call's own. -/
def DrawnHI (w : World) (e : Ending) (w' : World) : Prop :=
  ∃ (h : Hp) (cv : Value) (rvs : List Value) (rv rv0 v : Value) (rs0 xs : List Int), e = .returned (.tuple #[.agg #[cv, rv], v]) ∧ SmG h ∧ TailOf rv rv0 h.roots rs0 ∧ xs.length ≤ 60 ∧ Owns w.heap.size w w' [.ints v xs, .cells cv rvs h.cells, .ints rv0 rs0]
set_option maxHeartbeats 1600000 in
theorem DrawWeakValid_any (w : World) (A : Option Addr) (n c : Nat) (bs : List Int) (hr : RdY w w.heap.size A n c bs) :
    Calls Try.prog 9 #[.slice A n c] w (DrawnHI w) := by
  have H := (Owns.nil w).box [.slice none 0 0, .slice none 0 0] 26
  go_enter Try.func9, Try.ntmps9
  go_wp2_with fail
  refine (open_own H A n c bs hr).mono ?_
  rintro e w1 ⟨g, A1, n1, c1, bs1, rfl, hU, H1⟩
  clear H hr
  go_wp2_with fail
  refine (weak_own H1 0 rfl hU (by omega) 4 (by omega) (by omega)).mono ?_
  rintro e w2 ⟨T, cv, rvs, rv, rv0, v, rs0, xs, p1, rfl, hS, ht, hxl, -, -, H2⟩
  simp only [List.set_cons_zero] at H2
  clear H1 hU
  obtain ⟨C, kC, rfl, -⟩ := H2.formC 1 rfl
  obtain ⟨R0, kR0, e0, -⟩ := H2.formI 2 rfl
  obtain ⟨R, nR, kR, rfl⟩ := ht.form e0
  clear e0
  obtain ⟨y0, y1, y2, y3⟩ := H2.box2 4 rfl
  have HZ := (H2.putBox 4 rfl 0 (.slice C T.cells.length kC)).putBox 4 rfl 1 (.slice R nR kR)
  simp only [List.set_cons_zero, List.set_cons_succ] at HZ
  obtain ⟨z0, z1, -, -⟩ := HZ.box2 4 rfl
  obtain ⟨z2, -, -, -⟩ := (H2.putBox 4 rfl 0 (.slice C T.cells.length kC)).box2 4 rfl
  have HS : Hid (DrawnHI w (.returned (.tuple #[.agg #[.slice C T.cells.length kC, .slice R nR kR], v])) _) := Go.Lib.hid ⟨T, _, rvs, _, _, _, _, xs, rfl, hS, ht, hxl, HZ.take 3⟩
  clear H2 HZ hS ht
  go_wp2
  exact bodyPost_ret (v := .tuple #[.agg #[.slice C T.cells.length kC, .slice R nR kR], v]) (by simp [results, Try.results9, go_sem, z0, z1]) rfl HS.out
theorem mWeak_take {h : Hp} {xs : List Int} (h0 : mWeakValid h xs = true) (k : Nat) : mWeakValid h (xs.take k) = true := by
  simp only [mWeakValid, Bool.and_eq_true, decide_eq_true_eq, List.all_eq_true] at h0 ⊢
  exact ⟨⟨h0.1.1, by rw [List.length_take]; omega⟩, fun x hx => h0.2 x (List.mem_of_mem_take hx)⟩
theorem mWeak_bad (h : Hp) (xs : List Int) : mWeakValid h (xs ++ [(h.cells.length : Int)]) = false := by
  have e : leadsB h.cells (h.cells.length : Int) = false := leadsB_out (by omega) (.inr (by omega))
  simp [mWeakValid, e]
theorem RdI.cut {w : World} {B : Nat} {A : Option Addr} {n c : Nat} {xs : List Int} (h : RdI w B A n c xs) (m : Nat) (hm : m ≤ n) : RdI w B A m c (xs.take m) := by
  have hl := h.len
  simp only [List.length_map] at hl
  refine ⟨by simp; omega, by have := h.cap; omega, h.mx, fun h0 => ?_⟩
  obtain ⟨b, o, hA, hlt, hc⟩ := h.rd (by omega)
  refine ⟨b, o, hA, hlt, fun j u hj => hc j u ?_⟩
  rw [List.map_take] at hj
  rw [List.getElem?_take] at hj
  split at hj
  · exact hj
  · cases hj
set_option maxHeartbeats 6400000 in
set_option maxRecDepth 20000 in
theorem lawWeakValid_any (w : World) {A : Option Addr} {n c : Nat} {bs : List Int} (hr : RdY w w.heap.size A n c bs) :
    Calls Try.prog 3 #[.slice A n c] w fun e w' => e = .returned (.bool true) ∧ Below w.heap.size w w' := by
  by_cases s0 : 1048576 < n
  · go_enter Try.func3, Try.ntmps3
    go_wp2
    go_ret
    exact ⟨rfl, Below.refl _ _⟩
  go_enter Try.func3, Try.ntmps3
  go_wp2_with fail
  refine (DrawWeakValid_any w A n c bs hr).mono ?_
  rintro e w1 ⟨T, cv, rvs, rv, rv0, v, rs0, xs, rfl, hS, ht, hxl, H1⟩
  obtain ⟨C, kC, rfl, -⟩ := H1.formC 1 rfl
  obtain ⟨R0, kR0, e0, -⟩ := H1.formI 2 rfl
  obtain ⟨R, nR, kR, rfl⟩ := ht.form e0
  obtain ⟨V, kV, rfl, rV⟩ := H1.formI 0 rfl
  have HT := Go.Lib.hid ht
  have HS := Go.Lib.hid hS
  have hcap := rV.cap
  have hmx := rV.mx
  unfold maxLen at hmx
  clear e0 ht hS rV hr s0
  have H := H1.box [.slice C T.cells.length kC, .slice R nR kR] 26
  clear H1
  obtain ⟨x0, x1, -, -⟩ := H.box2 0 rfl
  go_wp2_with fail
  refine (implWeakValid_any _ _ _ _ T _ _ _ xs (H.rdHx 2 3 rfl rfl HT.out) (H.owI 1 rfl).rdI).mono ?_
  rintro e w2 ⟨rfl, hb⟩
  replace H := H.call hb
  clear hb x0 x1
  obtain ⟨x0, x1, -, -⟩ := H.box2 0 rfl
  go_wp2_with fail
  refine (specWeakValid_any _ _ _ _ T _ _ _ xs (H.rdHx 2 3 rfl rfl HT.out) (H.owI 1 rfl).rdI).mono ?_
  rintro e w3 ⟨rfl, hb⟩
  replace H := H.call hb
  clear hb x0 x1
  obtain ⟨x0, x1, -, -⟩ := H.box2 0 rfl
  have HBad := Go.Lib.hid (mWeak_bad T xs)
  obtain ⟨q, hq⟩ : ∃ q, q = xs.length / 2 := ⟨_, rfl⟩
  have hq1 : q ≤ xs.length := by omega
  have hq2 : q ≤ kV := by omega
  have t1 : (xs.length : Int).tdiv 2 = (q : Int) := by rw [hq]; rfl
  have t2 : IntKind.i64.wrap (q : Int) = (q : Int) := IntWalk.i64_in _ (by omega)
  clear hq
  cases ok : mWeakValid T xs
  · clear ok t1 t2 hq1 hq2
    go_wp2_with fail
    have HX := H.drew
    have H0 := Go.Lib.hid H
    clear H x0 x1
    obtain ⟨x0, x1, -, -⟩ := HX.box2 0 rfl
    refine wp_region_tree (fun w' => w'.cell? ⟨w1.heap.size, 0, none⟩ = some (.slice C T.cells.length kC) ∧ w'.cell? ⟨w1.heap.size, 1, none⟩ = some (.slice R nR kR)) 28 [] (.take 0 (.take 1 (.take 2 (.take 3 (.take 4 (.take 5 (.take 6 (.take 7 (.take 8 (.alt 9 (.take 10 (.take 11 (.take 12 (.take 14 (.take 16 (.take 17 (.take 18 (.alt 13 (.alt 15 (.alt 19 (.alt 20 (.alt 21 (.take 22 (.take 23 (.take 24 (.alt 25 (.take 26 (.take 27 (.done))) (.stop))))) (.stop)) (.stop)) (.stop)) (.alt 19 (.alt 15 (.alt 20 (.alt 21 (.take 22 (.take 23 (.take 24 (.alt 25 (.take 26 (.take 27 (.done))) (.stop))))) (.stop)) (.stop)) (.stop)) (.stop))) (.alt 19 (.alt 13 (.alt 15 (.alt 20 (.alt 21 (.take 22 (.take 23 (.take 24 (.alt 25 (.take 26 (.take 27 (.done))) (.stop))))) (.stop)) (.stop)) (.stop)) (.stop)) (.stop)))))))))) (.stop))))))))))) (by kernel_rfl) (by kernel_rfl) (by kernel_rfl) (⟨x0, x1⟩) ?_
    simp only [fillT, List.getElem?_cons_zero, List.getElem?_cons_succ, Nat.reduceBEq]
    repeat (first
      | (with_reducible refine po_take (v := ?_) ?_ (fun w' hS' => ?_) ?_
         rotate_left
         · (go_simp; done)
         · ((try dsimp only at hS'); go_simp; try with_reducible rfl)
         simp only [Act.put, List.setIfInBounds_toArray, List.set_cons_zero, List.set_cons_succ])
      | (with_reducible refine po_skip ?_ ?_
         · (go_simp; done)
         simp only [Act.put, List.setIfInBounds_toArray, List.set_cons_zero, List.set_cons_succ]))
    with_reducible refine po_no ?_ ?_ ?_ ?_
    · (go_simp; done)
    · exact .inr (⟨x0, x1⟩)
    rotate_left
    · exact po_stop
    simp only [Act.put, List.setIfInBounds_toArray, List.set_cons_zero, List.set_cons_succ]
    repeat (first
      | (with_reducible refine po_take (v := ?_) ?_ (fun w' hS' => ?_) ?_
         rotate_left
         · (go_simp; done)
         · ((try dsimp only at hS'); go_simp; try with_reducible rfl)
         simp only [Act.put, List.setIfInBounds_toArray, List.set_cons_zero, List.set_cons_succ])
      | (with_reducible refine po_skip ?_ ?_
         · (go_simp; done)
         simp only [Act.put, List.setIfInBounds_toArray, List.set_cons_zero, List.set_cons_succ]))
    with_reducible refine po_run ?_ (fun K hK => ?_) ?_
    · (go_simp; done)
    · -- operation 13 first
      try (revert x0 x1 HX; generalize World.drew _ = wd; intro HX x0 x1)
      go_simp
      replace HX := HX.litI [] zero_le_maxLen
      try simp only [List.map_nil, List.length_nil] at HX
      clear x0 x1
      obtain ⟨x0, x1, -, -⟩ := HX.box2 1 rfl
      refine hK.out _ _ (.inr (⟨x0, x1⟩)) ?_
      clear hK K
      revert x0 x1 HX
      generalize World.alloc _ _ = wz
      intro HX x0 x1
      with_reducible refine po_run ?_ (fun K hK => ?_) ?_
      · (go_simp; done)
      · -- operation 15 first
        refine wp_pushO (.tmp 35) (.tmp 36) rfl HX 0 rfl rfl rfl (HX.owI 2 rfl).rdI (by simp; omega) ?_
        intro A3 k3 w5 HY
        simp only [List.set_cons_zero, List.nil_append] at HY
        simp only [List.nil_append]
        replace HX := HY
        clear HY
        clear x0 x1
        obtain ⟨x0, x1, -, -⟩ := HX.box2 1 rfl
        refine hK.out _ _ (.inr (⟨x0, x1⟩)) ?_
        clear hK K
        with_reducible refine po_run ?_ (fun K hK => ?_) ?_
        · (go_simp; done)
        rotate_left
        · exact po_stop
        try (revert x0 x1 HX; generalize World.drew _ = wd; intro HX x0 x1)
        go_simp
        replace HX := HX.litI [(T.cells.length : Int)] one_le_maxLen
        try simp only [List.map_cons, List.map_nil, List.length_cons, List.length_nil, Nat.zero_add] at HX
        clear x0 x1
        obtain ⟨x0, x1, -, -⟩ := HX.box2 2 rfl
        refine hK.out _ _ (.inr (⟨x0, x1⟩)) ?_
        clear hK K
        revert x0 x1 HX
        generalize World.alloc _ _ = wz
        intro HX x0 x1
        with_reducible refine po_run ?_ (fun K hK => ?_) ?_
        · (go_simp; done)
        rotate_left
        · exact po_stop
        refine wp_pushO (.tmp 37) (.tmp 41) rfl HX 1 rfl rfl rfl (HX.owI 0 rfl).rdI (by simp; omega) ?_
        intro A4 k4 w6 HY
        simp only [List.set_cons_zero, List.set_cons_succ] at HY
        replace HX := HY
        clear HY
        clear x0 x1
        obtain ⟨x0, x1, -, -⟩ := HX.box2 2 rfl
        refine hK.out _ _ (.inr (⟨x0, x1⟩)) ?_
        clear hK K
        with_reducible refine po_run ?_ (fun K hK => ?_) ?_
        · (go_simp; done)
        rotate_left
        · exact po_stop
        have hrd := (HX.owI 1 rfl).rdI
        rw [show (xs ++ [(T.cells.length : Int)]).length = xs.length + 1 by simp] at hrd
        go_simp
        refine (implWeakValid_any _ _ _ _ T _ _ _ (xs ++ [(T.cells.length : Int)]) (HX.rdHx 4 5 rfl rfl HT.out) hrd).mono ?_
        rintro e w7 ⟨rfl, hb⟩
        rw [HBad.out]
        replace HX := HX.call hb
        clear hb hrd
        clear x0 x1
        obtain ⟨x0, x1, -, -⟩ := HX.box2 2 rfl
        refine hK.out _ _ (.inr (⟨x0, x1⟩)) ?_
        clear hK K
        repeat (first
          | (with_reducible refine po_take (v := ?_) ?_ (fun w' hS' => ?_) ?_
             rotate_left
             · (go_simp; done)
             · ((try dsimp only at hS'); go_simp; try with_reducible rfl)
             simp only [Act.put, List.setIfInBounds_toArray, List.set_cons_zero, List.set_cons_succ])
          | (with_reducible refine po_skip ?_ ?_
             · (go_simp; done)
             simp only [Act.put, List.setIfInBounds_toArray, List.set_cons_zero, List.set_cons_succ]))
        with_reducible refine po_run ?_ (fun K hK => ?_) ?_
        · (go_simp; done)
        rotate_left
        · exact po_stop
        go_simp
        refine (alive_any _).mono ?_
        rintro e w8 ⟨rfl, hb⟩
        replace HX := HX.call hb
        clear hb
        clear x0 x1
        obtain ⟨x0, x1, -, -⟩ := HX.box2 2 rfl
        refine hK.out _ _ (.inr (⟨x0, x1⟩)) ?_
        clear hK K
        repeat (first
          | (with_reducible refine po_take (v := ?_) ?_ (fun w' hS' => ?_) ?_
             rotate_left
             · (go_simp; done)
             · ((try dsimp only at hS'); go_simp; try with_reducible rfl)
             simp only [Act.put, List.setIfInBounds_toArray, List.set_cons_zero, List.set_cons_succ])
          | (with_reducible refine po_skip ?_ ?_
             · (go_simp; done)
             simp only [Act.put, List.setIfInBounds_toArray, List.set_cons_zero, List.set_cons_succ]))
        refine po_done ?_
        have HB := HX.below
        clear HX H0 x0 x1
        go_wp2
        go_ret
        exact ⟨rfl, HB⟩
      with_reducible refine po_run ?_ (fun K hK => ?_) ?_
      · (go_simp; done)
      rotate_left
      · exact po_stop
      try (revert x0 x1 HX; generalize World.drew _ = wd; intro HX x0 x1)
      go_simp
      replace HX := HX.litI [(T.cells.length : Int)] one_le_maxLen
      try simp only [List.map_cons, List.map_nil, List.length_cons, List.length_nil, Nat.zero_add] at HX
      clear x0 x1
      obtain ⟨x0, x1, -, -⟩ := HX.box2 2 rfl
      refine hK.out _ _ (.inr (⟨x0, x1⟩)) ?_
      clear hK K
      revert x0 x1 HX
      generalize World.alloc _ _ = wz
      intro HX x0 x1
      with_reducible refine po_run ?_ (fun K hK => ?_) ?_
      · (go_simp; done)
      rotate_left
      · exact po_stop
      refine wp_pushO (.tmp 35) (.tmp 36) rfl HX 1 rfl rfl rfl (HX.owI 3 rfl).rdI (by simp; omega) ?_
      intro A3 k3 w5 HY
      simp only [List.set_cons_zero, List.set_cons_succ, List.nil_append] at HY
      simp only [List.nil_append]
      replace HX := HY
      clear HY
      clear x0 x1
      obtain ⟨x0, x1, -, -⟩ := HX.box2 2 rfl
      refine hK.out _ _ (.inr (⟨x0, x1⟩)) ?_
      clear hK K
      with_reducible refine po_run ?_ (fun K hK => ?_) ?_
      · (go_simp; done)
      rotate_left
      · exact po_stop
      refine wp_pushO (.tmp 37) (.tmp 41) rfl HX 1 rfl rfl rfl (HX.owI 0 rfl).rdI (by simp; omega) ?_
      intro A4 k4 w6 HY
      simp only [List.set_cons_zero, List.set_cons_succ] at HY
      replace HX := HY
      clear HY
      clear x0 x1
      obtain ⟨x0, x1, -, -⟩ := HX.box2 2 rfl
      refine hK.out _ _ (.inr (⟨x0, x1⟩)) ?_
      clear hK K
      with_reducible refine po_run ?_ (fun K hK => ?_) ?_
      · (go_simp; done)
      rotate_left
      · exact po_stop
      have hrd := (HX.owI 1 rfl).rdI
      rw [show (xs ++ [(T.cells.length : Int)]).length = xs.length + 1 by simp] at hrd
      go_simp
      refine (implWeakValid_any _ _ _ _ T _ _ _ (xs ++ [(T.cells.length : Int)]) (HX.rdHx 4 5 rfl rfl HT.out) hrd).mono ?_
      rintro e w7 ⟨rfl, hb⟩
      rw [HBad.out]
      replace HX := HX.call hb
      clear hb hrd
      clear x0 x1
      obtain ⟨x0, x1, -, -⟩ := HX.box2 2 rfl
      refine hK.out _ _ (.inr (⟨x0, x1⟩)) ?_
      clear hK K
      repeat (first
        | (with_reducible refine po_take (v := ?_) ?_ (fun w' hS' => ?_) ?_
           rotate_left
           · (go_simp; done)
           · ((try dsimp only at hS'); go_simp; try with_reducible rfl)
           simp only [Act.put, List.setIfInBounds_toArray, List.set_cons_zero, List.set_cons_succ])
        | (with_reducible refine po_skip ?_ ?_
           · (go_simp; done)
           simp only [Act.put, List.setIfInBounds_toArray, List.set_cons_zero, List.set_cons_succ]))
      with_reducible refine po_run ?_ (fun K hK => ?_) ?_
      · (go_simp; done)
      rotate_left
      · exact po_stop
      go_simp
      refine (alive_any _).mono ?_
      rintro e w8 ⟨rfl, hb⟩
      replace HX := HX.call hb
      clear hb
      clear x0 x1
      obtain ⟨x0, x1, -, -⟩ := HX.box2 2 rfl
      refine hK.out _ _ (.inr (⟨x0, x1⟩)) ?_
      clear hK K
      repeat (first
        | (with_reducible refine po_take (v := ?_) ?_ (fun w' hS' => ?_) ?_
           rotate_left
           · (go_simp; done)
           · ((try dsimp only at hS'); go_simp; try with_reducible rfl)
           simp only [Act.put, List.setIfInBounds_toArray, List.set_cons_zero, List.set_cons_succ])
        | (with_reducible refine po_skip ?_ ?_
           · (go_simp; done)
           simp only [Act.put, List.setIfInBounds_toArray, List.set_cons_zero, List.set_cons_succ]))
      refine po_done ?_
      have HB := HX.below
      clear HX H0 x0 x1
      go_wp2
      go_ret
      exact ⟨rfl, HB⟩
    with_reducible refine po_run ?_ (fun K hK => ?_) ?_
    · (go_simp; done)
    rotate_left
    · exact po_stop
    try (revert x0 x1 HX; generalize World.drew _ = wd; intro HX x0 x1)
    go_simp
    replace HX := HX.litI [(T.cells.length : Int)] one_le_maxLen
    try simp only [List.map_cons, List.map_nil, List.length_cons, List.length_nil, Nat.zero_add] at HX
    clear x0 x1
    obtain ⟨x0, x1, -, -⟩ := HX.box2 1 rfl
    refine hK.out _ _ (.inr (⟨x0, x1⟩)) ?_
    clear hK K
    revert x0 x1 HX
    generalize World.alloc _ _ = wz
    intro HX x0 x1
    with_reducible refine po_run ?_ (fun K hK => ?_) ?_
    · (go_simp; done)
    rotate_left
    · exact po_stop
    try (revert x0 x1 HX; generalize World.drew _ = wd; intro HX x0 x1)
    go_simp
    replace HX := HX.litI [] zero_le_maxLen
    try simp only [List.map_nil, List.length_nil] at HX
    clear x0 x1
    obtain ⟨x0, x1, -, -⟩ := HX.box2 2 rfl
    refine hK.out _ _ (.inr (⟨x0, x1⟩)) ?_
    clear hK K
    revert x0 x1 HX
    generalize World.alloc _ _ = wz
    intro HX x0 x1
    with_reducible refine po_run ?_ (fun K hK => ?_) ?_
    · (go_simp; done)
    rotate_left
    · exact po_stop
    refine wp_pushO (.tmp 35) (.tmp 36) rfl HX 0 rfl rfl rfl (HX.owI 3 rfl).rdI (by simp; omega) ?_
    intro A3 k3 w5 HY
    simp only [List.set_cons_zero, List.nil_append] at HY
    simp only [List.nil_append]
    replace HX := HY
    clear HY
    clear x0 x1
    obtain ⟨x0, x1, -, -⟩ := HX.box2 2 rfl
    refine hK.out _ _ (.inr (⟨x0, x1⟩)) ?_
    clear hK K
    with_reducible refine po_run ?_ (fun K hK => ?_) ?_
    · (go_simp; done)
    rotate_left
    · exact po_stop
    refine wp_pushO (.tmp 37) (.tmp 41) rfl HX 0 rfl rfl rfl (HX.owI 1 rfl).rdI (by simp; omega) ?_
    intro A4 k4 w6 HY
    simp only [List.set_cons_zero] at HY
    replace HX := HY
    clear HY
    clear x0 x1
    obtain ⟨x0, x1, -, -⟩ := HX.box2 2 rfl
    refine hK.out _ _ (.inr (⟨x0, x1⟩)) ?_
    clear hK K
    with_reducible refine po_run ?_ (fun K hK => ?_) ?_
    · (go_simp; done)
    rotate_left
    · exact po_stop
    have hrd := (HX.owI 0 rfl).rdI
    rw [show (xs ++ [(T.cells.length : Int)]).length = xs.length + 1 by simp] at hrd
    go_simp
    refine (implWeakValid_any _ _ _ _ T _ _ _ (xs ++ [(T.cells.length : Int)]) (HX.rdHx 4 5 rfl rfl HT.out) hrd).mono ?_
    rintro e w7 ⟨rfl, hb⟩
    rw [HBad.out]
    replace HX := HX.call hb
    clear hb hrd
    clear x0 x1
    obtain ⟨x0, x1, -, -⟩ := HX.box2 2 rfl
    refine hK.out _ _ (.inr (⟨x0, x1⟩)) ?_
    clear hK K
    repeat (first
      | (with_reducible refine po_take (v := ?_) ?_ (fun w' hS' => ?_) ?_
         rotate_left
         · (go_simp; done)
         · ((try dsimp only at hS'); go_simp; try with_reducible rfl)
         simp only [Act.put, List.setIfInBounds_toArray, List.set_cons_zero, List.set_cons_succ])
      | (with_reducible refine po_skip ?_ ?_
         · (go_simp; done)
         simp only [Act.put, List.setIfInBounds_toArray, List.set_cons_zero, List.set_cons_succ]))
    with_reducible refine po_run ?_ (fun K hK => ?_) ?_
    · (go_simp; done)
    rotate_left
    · exact po_stop
    go_simp
    refine (alive_any _).mono ?_
    rintro e w8 ⟨rfl, hb⟩
    replace HX := HX.call hb
    clear hb
    clear x0 x1
    obtain ⟨x0, x1, -, -⟩ := HX.box2 2 rfl
    refine hK.out _ _ (.inr (⟨x0, x1⟩)) ?_
    clear hK K
    repeat (first
      | (with_reducible refine po_take (v := ?_) ?_ (fun w' hS' => ?_) ?_
         rotate_left
         · (go_simp; done)
         · ((try dsimp only at hS'); go_simp; try with_reducible rfl)
         simp only [Act.put, List.setIfInBounds_toArray, List.set_cons_zero, List.set_cons_succ])
      | (with_reducible refine po_skip ?_ ?_
         · (go_simp; done)
         simp only [Act.put, List.setIfInBounds_toArray, List.set_cons_zero, List.set_cons_succ]))
    refine po_done ?_
    have HB := HX.below
    clear HX H0 x0 x1
    go_wp2
    go_ret
    exact ⟨rfl, HB⟩
  · have HTk := Go.Lib.hid (mWeak_take ok q)
    clear ok
    go_wp2_with fail
    have HX := H.drew
    have H0 := Go.Lib.hid H
    clear H x0 x1
    obtain ⟨x0, x1, -, -⟩ := HX.box2 0 rfl
    refine wp_region_tree (fun w' => w'.cell? ⟨w1.heap.size, 0, none⟩ = some (.slice C T.cells.length kC) ∧ w'.cell? ⟨w1.heap.size, 1, none⟩ = some (.slice R nR kR)) 28 [] (.take 0 (.take 1 (.take 2 (.take 3 (.take 4 (.take 5 (.take 6 (.take 7 (.take 8 (.alt 9 (.take 10 (.take 11 (.take 12 (.take 14 (.take 16 (.take 17 (.take 18 (.alt 13 (.alt 15 (.alt 19 (.alt 20 (.alt 21 (.take 22 (.take 23 (.take 24 (.alt 25 (.take 26 (.take 27 (.done))) (.stop))))) (.stop)) (.stop)) (.stop)) (.alt 19 (.alt 15 (.alt 20 (.alt 21 (.take 22 (.take 23 (.take 24 (.alt 25 (.take 26 (.take 27 (.done))) (.stop))))) (.stop)) (.stop)) (.stop)) (.stop))) (.alt 19 (.alt 13 (.alt 15 (.alt 20 (.alt 21 (.take 22 (.take 23 (.take 24 (.alt 25 (.take 26 (.take 27 (.done))) (.stop))))) (.stop)) (.stop)) (.stop)) (.stop)) (.stop)))))))))) (.stop))))))))))) (by kernel_rfl) (by kernel_rfl) (by kernel_rfl) (⟨x0, x1⟩) ?_
    simp only [fillT, List.getElem?_cons_zero, List.getElem?_cons_succ, Nat.reduceBEq]
    repeat (first
      | (with_reducible refine po_take (v := ?_) ?_ (fun w' hS' => ?_) ?_
         rotate_left
         · (go_simp; done)
         · ((try dsimp only at hS'); go_simp; try with_reducible rfl)
         simp only [Act.put, List.setIfInBounds_toArray, List.set_cons_zero, List.set_cons_succ])
      | (with_reducible refine po_skip ?_ ?_
         · (go_simp; done)
         simp only [Act.put, List.setIfInBounds_toArray, List.set_cons_zero, List.set_cons_succ]))
    with_reducible refine po_run ?_ (fun K hK => ?_) ?_
    · (go_simp; done)
    rotate_left
    · exact po_stop
    go_simp
    refine (implWeakValid_any _ _ _ _ T _ _ _ (xs.take q) (HX.rdHx 2 3 rfl rfl HT.out) ((HX.owI 1 rfl).rdI.cut q hq1)).mono ?_
    rintro e w4 ⟨rfl, hb⟩
    rw [HTk.out]
    replace HX := HX.call hb
    clear hb x0 x1
    obtain ⟨x0, x1, -, -⟩ := HX.box2 0 rfl
    refine hK.out _ _ (.inr (⟨x0, x1⟩)) ?_
    clear hK K
    repeat (first
      | (with_reducible refine po_take (v := ?_) ?_ (fun w' hS' => ?_) ?_
         rotate_left
         · (go_simp; done)
         · ((try dsimp only at hS'); go_simp; try with_reducible rfl)
         simp only [Act.put, List.setIfInBounds_toArray, List.set_cons_zero, List.set_cons_succ])
      | (with_reducible refine po_skip ?_ ?_
         · (go_simp; done)
         simp only [Act.put, List.setIfInBounds_toArray, List.set_cons_zero, List.set_cons_succ]))
    with_reducible refine po_run ?_ (fun K hK => ?_) ?_
    · (go_simp; done)
    · -- operation 13 first
      try (revert x0 x1 HX; generalize World.drew _ = wd; intro HX x0 x1)
      go_simp
      replace HX := HX.litI [] zero_le_maxLen
      try simp only [List.map_nil, List.length_nil] at HX
      clear x0 x1
      obtain ⟨x0, x1, -, -⟩ := HX.box2 1 rfl
      refine hK.out _ _ (.inr (⟨x0, x1⟩)) ?_
      clear hK K
      revert x0 x1 HX
      generalize World.alloc _ _ = wz
      intro HX x0 x1
      with_reducible refine po_run ?_ (fun K hK => ?_) ?_
      · (go_simp; done)
      · -- operation 15 first
        refine wp_pushO (.tmp 35) (.tmp 36) rfl HX 0 rfl rfl rfl (HX.owI 2 rfl).rdI (by simp; omega) ?_
        intro A3 k3 w5 HY
        simp only [List.set_cons_zero, List.nil_append] at HY
        simp only [List.nil_append]
        replace HX := HY
        clear HY
        clear x0 x1
        obtain ⟨x0, x1, -, -⟩ := HX.box2 1 rfl
        refine hK.out _ _ (.inr (⟨x0, x1⟩)) ?_
        clear hK K
        with_reducible refine po_run ?_ (fun K hK => ?_) ?_
        · (go_simp; done)
        rotate_left
        · exact po_stop
        try (revert x0 x1 HX; generalize World.drew _ = wd; intro HX x0 x1)
        go_simp
        replace HX := HX.litI [(T.cells.length : Int)] one_le_maxLen
        try simp only [List.map_cons, List.map_nil, List.length_cons, List.length_nil, Nat.zero_add] at HX
        clear x0 x1
        obtain ⟨x0, x1, -, -⟩ := HX.box2 2 rfl
        refine hK.out _ _ (.inr (⟨x0, x1⟩)) ?_
        clear hK K
        revert x0 x1 HX
        generalize World.alloc _ _ = wz
        intro HX x0 x1
        with_reducible refine po_run ?_ (fun K hK => ?_) ?_
        · (go_simp; done)
        rotate_left
        · exact po_stop
        refine wp_pushO (.tmp 37) (.tmp 41) rfl HX 1 rfl rfl rfl (HX.owI 0 rfl).rdI (by simp; omega) ?_
        intro A4 k4 w6 HY
        simp only [List.set_cons_zero, List.set_cons_succ] at HY
        replace HX := HY
        clear HY
        clear x0 x1
        obtain ⟨x0, x1, -, -⟩ := HX.box2 2 rfl
        refine hK.out _ _ (.inr (⟨x0, x1⟩)) ?_
        clear hK K
        with_reducible refine po_run ?_ (fun K hK => ?_) ?_
        · (go_simp; done)
        rotate_left
        · exact po_stop
        have hrd := (HX.owI 1 rfl).rdI
        rw [show (xs ++ [(T.cells.length : Int)]).length = xs.length + 1 by simp] at hrd
        go_simp
        refine (implWeakValid_any _ _ _ _ T _ _ _ (xs ++ [(T.cells.length : Int)]) (HX.rdHx 4 5 rfl rfl HT.out) hrd).mono ?_
        rintro e w7 ⟨rfl, hb⟩
        rw [HBad.out]
        replace HX := HX.call hb
        clear hb hrd
        clear x0 x1
        obtain ⟨x0, x1, -, -⟩ := HX.box2 2 rfl
        refine hK.out _ _ (.inr (⟨x0, x1⟩)) ?_
        clear hK K
        repeat (first
          | (with_reducible refine po_take (v := ?_) ?_ (fun w' hS' => ?_) ?_
             rotate_left
             · (go_simp; done)
             · ((try dsimp only at hS'); go_simp; try with_reducible rfl)
             simp only [Act.put, List.setIfInBounds_toArray, List.set_cons_zero, List.set_cons_succ])
          | (with_reducible refine po_skip ?_ ?_
             · (go_simp; done)
             simp only [Act.put, List.setIfInBounds_toArray, List.set_cons_zero, List.set_cons_succ]))
        with_reducible refine po_run ?_ (fun K hK => ?_) ?_
        · (go_simp; done)
        rotate_left
        · exact po_stop
        go_simp
        refine (alive_any _).mono ?_
        rintro e w8 ⟨rfl, hb⟩
        replace HX := HX.call hb
        clear hb
        clear x0 x1
        obtain ⟨x0, x1, -, -⟩ := HX.box2 2 rfl
        refine hK.out _ _ (.inr (⟨x0, x1⟩)) ?_
        clear hK K
        repeat (first
          | (with_reducible refine po_take (v := ?_) ?_ (fun w' hS' => ?_) ?_
             rotate_left
             · (go_simp; done)
             · ((try dsimp only at hS'); go_simp; try with_reducible rfl)
             simp only [Act.put, List.setIfInBounds_toArray, List.set_cons_zero, List.set_cons_succ])
          | (with_reducible refine po_skip ?_ ?_
             · (go_simp; done)
             simp only [Act.put, List.setIfInBounds_toArray, List.set_cons_zero, List.set_cons_succ]))
        refine po_done ?_
        have HB := HX.below
        clear HX H0 x0 x1
        go_wp2
        go_ret
        exact ⟨rfl, HB⟩
      with_reducible refine po_run ?_ (fun K hK => ?_) ?_
      · (go_simp; done)
      rotate_left
      · exact po_stop
      try (revert x0 x1 HX; generalize World.drew _ = wd; intro HX x0 x1)
      go_simp
      replace HX := HX.litI [(T.cells.length : Int)] one_le_maxLen
      try simp only [List.map_cons, List.map_nil, List.length_cons, List.length_nil, Nat.zero_add] at HX
      clear x0 x1
      obtain ⟨x0, x1, -, -⟩ := HX.box2 2 rfl
      refine hK.out _ _ (.inr (⟨x0, x1⟩)) ?_
      clear hK K
      revert x0 x1 HX
      generalize World.alloc _ _ = wz
      intro HX x0 x1
      with_reducible refine po_run ?_ (fun K hK => ?_) ?_
      · (go_simp; done)
      rotate_left
      · exact po_stop
      refine wp_pushO (.tmp 35) (.tmp 36) rfl HX 1 rfl rfl rfl (HX.owI 3 rfl).rdI (by simp; omega) ?_
      intro A3 k3 w5 HY
      simp only [List.set_cons_zero, List.set_cons_succ, List.nil_append] at HY
      simp only [List.nil_append]
      replace HX := HY
      clear HY
      clear x0 x1
      obtain ⟨x0, x1, -, -⟩ := HX.box2 2 rfl
      refine hK.out _ _ (.inr (⟨x0, x1⟩)) ?_
      clear hK K
      with_reducible refine po_run ?_ (fun K hK => ?_) ?_
      · (go_simp; done)
      rotate_left
      · exact po_stop
      refine wp_pushO (.tmp 37) (.tmp 41) rfl HX 1 rfl rfl rfl (HX.owI 0 rfl).rdI (by simp; omega) ?_
      intro A4 k4 w6 HY
      simp only [List.set_cons_zero, List.set_cons_succ] at HY
      replace HX := HY
      clear HY
      clear x0 x1
      obtain ⟨x0, x1, -, -⟩ := HX.box2 2 rfl
      refine hK.out _ _ (.inr (⟨x0, x1⟩)) ?_
      clear hK K
      with_reducible refine po_run ?_ (fun K hK => ?_) ?_
      · (go_simp; done)
      rotate_left
      · exact po_stop
      have hrd := (HX.owI 1 rfl).rdI
      rw [show (xs ++ [(T.cells.length : Int)]).length = xs.length + 1 by simp] at hrd
      go_simp
      refine (implWeakValid_any _ _ _ _ T _ _ _ (xs ++ [(T.cells.length : Int)]) (HX.rdHx 4 5 rfl rfl HT.out) hrd).mono ?_
      rintro e w7 ⟨rfl, hb⟩
      rw [HBad.out]
      replace HX := HX.call hb
      clear hb hrd
      clear x0 x1
      obtain ⟨x0, x1, -, -⟩ := HX.box2 2 rfl
      refine hK.out _ _ (.inr (⟨x0, x1⟩)) ?_
      clear hK K
      repeat (first
        | (with_reducible refine po_take (v := ?_) ?_ (fun w' hS' => ?_) ?_
           rotate_left
           · (go_simp; done)
           · ((try dsimp only at hS'); go_simp; try with_reducible rfl)
           simp only [Act.put, List.setIfInBounds_toArray, List.set_cons_zero, List.set_cons_succ])
        | (with_reducible refine po_skip ?_ ?_
           · (go_simp; done)
           simp only [Act.put, List.setIfInBounds_toArray, List.set_cons_zero, List.set_cons_succ]))
      with_reducible refine po_run ?_ (fun K hK => ?_) ?_
      · (go_simp; done)
      rotate_left
      · exact po_stop
      go_simp
      refine (alive_any _).mono ?_
      rintro e w8 ⟨rfl, hb⟩
      replace HX := HX.call hb
      clear hb
      clear x0 x1
      obtain ⟨x0, x1, -, -⟩ := HX.box2 2 rfl
      refine hK.out _ _ (.inr (⟨x0, x1⟩)) ?_
      clear hK K
      repeat (first
        | (with_reducible refine po_take (v := ?_) ?_ (fun w' hS' => ?_) ?_
           rotate_left
           · (go_simp; done)
           · ((try dsimp only at hS'); go_simp; try with_reducible rfl)
           simp only [Act.put, List.setIfInBounds_toArray, List.set_cons_zero, List.set_cons_succ])
        | (with_reducible refine po_skip ?_ ?_
           · (go_simp; done)
           simp only [Act.put, List.setIfInBounds_toArray, List.set_cons_zero, List.set_cons_succ]))
      refine po_done ?_
      have HB := HX.below
      clear HX H0 x0 x1
      go_wp2
      go_ret
      exact ⟨rfl, HB⟩
    with_reducible refine po_run ?_ (fun K hK => ?_) ?_
    · (go_simp; done)
    rotate_left
    · exact po_stop
    try (revert x0 x1 HX; generalize World.drew _ = wd; intro HX x0 x1)
    go_simp
    replace HX := HX.litI [(T.cells.length : Int)] one_le_maxLen
    try simp only [List.map_cons, List.map_nil, List.length_cons, List.length_nil, Nat.zero_add] at HX
    clear x0 x1
    obtain ⟨x0, x1, -, -⟩ := HX.box2 1 rfl
    refine hK.out _ _ (.inr (⟨x0, x1⟩)) ?_
    clear hK K
    revert x0 x1 HX
    generalize World.alloc _ _ = wz
    intro HX x0 x1
    with_reducible refine po_run ?_ (fun K hK => ?_) ?_
    · (go_simp; done)
    rotate_left
    · exact po_stop
    try (revert x0 x1 HX; generalize World.drew _ = wd; intro HX x0 x1)
    go_simp
    replace HX := HX.litI [] zero_le_maxLen
    try simp only [List.map_nil, List.length_nil] at HX
    clear x0 x1
    obtain ⟨x0, x1, -, -⟩ := HX.box2 2 rfl
    refine hK.out _ _ (.inr (⟨x0, x1⟩)) ?_
    clear hK K
    revert x0 x1 HX
    generalize World.alloc _ _ = wz
    intro HX x0 x1
    with_reducible refine po_run ?_ (fun K hK => ?_) ?_
    · (go_simp; done)
    rotate_left
    · exact po_stop
    refine wp_pushO (.tmp 35) (.tmp 36) rfl HX 0 rfl rfl rfl (HX.owI 3 rfl).rdI (by simp; omega) ?_
    intro A3 k3 w5 HY
    simp only [List.set_cons_zero, List.nil_append] at HY
    simp only [List.nil_append]
    replace HX := HY
    clear HY
    clear x0 x1
    obtain ⟨x0, x1, -, -⟩ := HX.box2 2 rfl
    refine hK.out _ _ (.inr (⟨x0, x1⟩)) ?_
    clear hK K
    with_reducible refine po_run ?_ (fun K hK => ?_) ?_
    · (go_simp; done)
    rotate_left
    · exact po_stop
    refine wp_pushO (.tmp 37) (.tmp 41) rfl HX 0 rfl rfl rfl (HX.owI 1 rfl).rdI (by simp; omega) ?_
    intro A4 k4 w6 HY
    simp only [List.set_cons_zero] at HY
    replace HX := HY
    clear HY
    clear x0 x1
    obtain ⟨x0, x1, -, -⟩ := HX.box2 2 rfl
    refine hK.out _ _ (.inr (⟨x0, x1⟩)) ?_
    clear hK K
    with_reducible refine po_run ?_ (fun K hK => ?_) ?_
    · (go_simp; done)
    rotate_left
    · exact po_stop
    have hrd := (HX.owI 0 rfl).rdI
    rw [show (xs ++ [(T.cells.length : Int)]).length = xs.length + 1 by simp] at hrd
    go_simp
    refine (implWeakValid_any _ _ _ _ T _ _ _ (xs ++ [(T.cells.length : Int)]) (HX.rdHx 4 5 rfl rfl HT.out) hrd).mono ?_
    rintro e w7 ⟨rfl, hb⟩
    rw [HBad.out]
    replace HX := HX.call hb
    clear hb hrd
    clear x0 x1
    obtain ⟨x0, x1, -, -⟩ := HX.box2 2 rfl
    refine hK.out _ _ (.inr (⟨x0, x1⟩)) ?_
    clear hK K
    repeat (first
      | (with_reducible refine po_take (v := ?_) ?_ (fun w' hS' => ?_) ?_
         rotate_left
         · (go_simp; done)
         · ((try dsimp only at hS'); go_simp; try with_reducible rfl)
         simp only [Act.put, List.setIfInBounds_toArray, List.set_cons_zero, List.set_cons_succ])
      | (with_reducible refine po_skip ?_ ?_
         · (go_simp; done)
         simp only [Act.put, List.setIfInBounds_toArray, List.set_cons_zero, List.set_cons_succ]))
    with_reducible refine po_run ?_ (fun K hK => ?_) ?_
    · (go_simp; done)
    rotate_left
    · exact po_stop
    go_simp
    refine (alive_any _).mono ?_
    rintro e w8 ⟨rfl, hb⟩
    replace HX := HX.call hb
    clear hb
    clear x0 x1
    obtain ⟨x0, x1, -, -⟩ := HX.box2 2 rfl
    refine hK.out _ _ (.inr (⟨x0, x1⟩)) ?_
    clear hK K
    repeat (first
      | (with_reducible refine po_take (v := ?_) ?_ (fun w' hS' => ?_) ?_
         rotate_left
         · (go_simp; done)
         · ((try dsimp only at hS'); go_simp; try with_reducible rfl)
         simp only [Act.put, List.setIfInBounds_toArray, List.set_cons_zero, List.set_cons_succ])
      | (with_reducible refine po_skip ?_ ?_
         · (go_simp; done)
         simp only [Act.put, List.setIfInBounds_toArray, List.set_cons_zero, List.set_cons_succ]))
    refine po_done ?_
    have HB := HX.below
    clear HX H0 x0 x1
    go_wp2
    go_ret
    exact ⟨rfl, HB⟩
end Go.Proofs.Ytlhecfpflkioeaa
