/- A heap with pairs drawn from a code; the law FnPairsValid's walk. For every code that can be read. -/
import Derived.Test.YtlhecfpflkioeaaPd
import Derived.Test.YtlhecfpflkioeaaAl
import Derived.Test.YtlhecfpflkioeaaPr
namespace Go.Proofs.Ytlhecfpflkioeaa
open Go.RowKit
set_option maxHeartbeats 1600000 in
theorem DrawPairsValid_any (w : World) (A : Option Addr) (n c : Nat) (bs : List Int) (hr : RdY w w.heap.size A n c bs) :
    Calls Try.prog 16 #[.slice A n c] w (DrawnHP w) := by
  have H := (Owns.nil w).box [.slice none 0 0, .slice none 0 0] 26
  go_enter Try.func16, Try.ntmps16
  go_wp2_with fail
  refine (open_own H A n c bs hr).mono ?_
  rintro e w1 ⟨g, A1, n1, c1, bs1, rfl, hU, H1⟩
  clear H hr
  go_wp2_with fail
  refine (pairs_own H1 0 rfl hU (by omega) 4 (by omega) (by omega)).mono ?_
  rintro e w2 ⟨T, cv, rvs, rv, rv0, v, rs0, xs, p1, rfl, hS, ht, hxl, -, -, H2⟩
  simp only [List.set_cons_zero] at H2
  clear H1 hU
  obtain ⟨C, kC, rfl, -⟩ := H2.formC 1 rfl
  obtain ⟨R0, kR0, e0, -⟩ := H2.formI 2 rfl
  obtain ⟨R, nR, kR, rfl⟩ := ht.form e0
  clear e0
  obtain ⟨y0, y1, y2, y3⟩ := H2.box2 4 rfl
  have HZ := (H2.putBox 4 rfl 0 (.slice C T.cells.length kC)).putBox 4 rfl 1 (.slice R nR kR)
  simp only [List.set_cons_zero, List.set_cons_succ] at HZ
  obtain ⟨z0, z1, -, -⟩ := HZ.box2 4 rfl
  obtain ⟨z2, -, -, -⟩ := (H2.putBox 4 rfl 0 (.slice C T.cells.length kC)).box2 4 rfl
  have HS : Hid (DrawnHP w (.returned (.tuple #[.agg #[.slice C T.cells.length kC, .slice R nR kR], v])) _) := Go.Lib.hid ⟨T, _, rvs, _, _, _, _, xs, rfl, hS, ht, hxl, HZ.take 3⟩
  clear H2 HZ hS ht
  go_wp2
  exact bodyPost_ret (v := .tuple #[.agg #[.slice C T.cells.length kC, .slice R nR kR], v]) (by simp [results, Try.results16, go_sem, z0, z1]) rfl HS.out
theorem mPairs_take {h : Hp} {xs : List (Int × Int)} (h0 : mPairsValid h xs = true) (k : Nat) : mPairsValid h (xs.take k) = true := by
  simp only [mPairsValid, Bool.and_eq_true, decide_eq_true_eq, List.all_eq_true] at h0 ⊢
  exact ⟨⟨h0.1.1, by rw [List.length_take]; omega⟩, fun x hx => h0.2 x (List.mem_of_mem_take hx)⟩
theorem mPairs_bad (h : Hp) (xs : List (Int × Int)) : mPairsValid h (xs ++ [(-1, 0)]) = false := by
  have e : usedB h.cells (-1) = false := by simp [usedB]
  simp [mPairsValid, pairOk, e]
theorem RdP.cut {w : World} {B : Nat} {A : Option Addr} {n c : Nat} {xs : List (Int × Int)} (h : RdP w B A n c xs) (m : Nat) (hm : m ≤ n) : RdP w B A m c (xs.take m) := by
  have hl := h.len
  refine ⟨by simp; omega, by have := h.cap; omega, h.mx, fun h0 => ?_⟩
  obtain ⟨b, o, hA, hlt, hc⟩ := h.rd (by omega)
  refine ⟨b, o, hA, hlt, fun j u hj => hc j u ?_⟩
  rw [List.getElem?_take] at hj
  split at hj
  · exact hj
  · cases hj
theorem pairVals_cell {w : World} {b o : Nat} {qs : List (Int × Int)} (hc : ∀ (j : Nat) (p : Int × Int), qs[j]? = some p → w.cell? ⟨b, o + j * 2, none⟩ = some (.int .i64 p.1) ∧ w.cell? ⟨b, o + j * 2 + 1, none⟩ = some (.int .i64 p.2)) (j : Nat) (u : Value) (hu : (pairVals qs)[j]? = some u) : w.cell? ⟨b, o + j, none⟩ = some u := by
  have hj := (List.getElem?_eq_some_iff.1 hu).1
  rw [pairVals_length] at hj
  have hq : qs[j / 2]? = some (qs[j / 2]'(by omega)) := List.getElem?_eq_getElem (by omega)
  obtain ⟨h1, h2⟩ := hc _ _ hq
  obtain ⟨e1, e2⟩ := pairVals_at qs _ _ hq
  rcases (by omega : j = j / 2 * 2 ∨ j = j / 2 * 2 + 1) with e | e
  · rw [← e] at h1 e1
    rw [h1, ← e1, hu]
  · rw [← e] at e2
    rw [Nat.add_assoc, ← e] at h2
    rw [h2, ← e2, hu]
theorem pairVals_app : ∀ ps qs : List (Int × Int), pairVals (ps ++ qs) = pairVals ps ++ pairVals qs
  | [], _ => rfl
  | p :: ps, qs => by simp [pairVals, pairVals_app ps qs]
theorem pairs_oneCell {qs : List (Int × Int)} : ∀ u ∈ pairVals qs, u.oneCell' = true := by
  induction qs with
  | nil => intro u hu; cases hu
  | cons q qs ih =>
    intro u hu
    simp only [pairVals, List.mem_cons] at hu
    rcases hu with rfl | rfl | hu
    · rfl
    · rfl
    · exact ih u hu
section
variable {lo : Nat} {w0 w : World} {L : List OB}
theorem Owns.pushPs (h : Owns lo w0 w L) (i : Nat) {v : Value} {ps : List (Int × Int)} (hX : L[i]? = some (.pairs v ps)) {B : Nat} {A : Option Addr} {n c : Nat} {qs : List (Int × Int)} (hr : RdP w B A n c qs) (hb : ps.length + n ≤ 1099511627776) (ty : TypeId) :
    ∃ A' c' w', (Builtin.append_ #[32, 32] ty #[v, .slice A n c]).run Try.prog w = .ok (.slice A' (ps ++ qs).length c') w' ∧ Owns lo w0 w' (L.set i (.pairs (.slice A' (ps ++ qs).length c') (ps ++ qs))) := by
  obtain ⟨i0, hi0, hz0, hz1, hz2⟩ := info_parts Try.infoPair
  have hown : w.ownsRow lo 37 2 v ps.length (pairVals ps) := h.own i hX
  have hl := hr.len
  have key : ∃ v' w', (Builtin.append_ #[32, 32] ty #[v, .slice A n c]).run Try.prog w = .ok v' w' ∧ w'.ownsRow lo 37 2 v' (ps ++ qs).length (pairVals (ps ++ qs)) ∧ w.grownBy w' v.ownBlock ∧ (v'.ownBlock = v.ownBlock ∨ v'.ownBlock = some w.heap.size) := by
    rcases Nat.eq_zero_or_pos n with h0 | h0
    · subst h0
      obtain rfl : qs = [] := List.length_eq_zero_iff.1 hl.symm
      have hs : Src Try.prog i0.size 32 (.slice A 0 c) 0 [] w := by
        cases A with
        | none => exact Src.ofNil w Try.underlying32 c
        | some a => exact Src.ofSlice w Try.underlying32 a 0 c [] (by simp) (by simp) (by simp)
      rw [List.append_nil]
      rcases hown.2 with ⟨rfl, h2⟩ | ⟨g, cap, cur, rfl, _, _, hc, _⟩
      · rw [h2] at hown ⊢
        exact ⟨_, w, run_append_nothing w _ _ ty 37 i0 Try.underlying32 hi0 none 0 0 (Nat.le_refl _) _ hs, hown, World.grownBy.refl _ _, .inl rfl⟩
      · exact ⟨_, w, run_append_nothing w _ _ ty 37 i0 Try.underlying32 hi0 (some ⟨g, 0, none⟩) _ cap hc _ hs, hown, World.grownBy.refl _ _, .inl rfl⟩
    · obtain ⟨b, o, rfl, hbb, hc⟩ := hr.rd h0
      obtain ⟨v', w', hrun, ho, hg, -, hat⟩ := run_append_own_at (P := Try.prog) w lo 32 ty 37 i0 (.agg #[.int .i64 0, .int .i64 0]) 2 16 Try.underlying32 hi0 hz0 hz1 hz2 rfl (by omega) v ps.length _ hown ⟨b, o, none⟩ n c (pairVals qs) (by rw [pairVals_length]; omega)
        (fun j u hu => by rw [show (⟨b, o, none⟩ : Addr).add j = ⟨b, o + j, none⟩ from Addr.add_lit _ _ _]; exact pairVals_cell hc j u hu) pairs_oneCell (by unfold maxLen; omega) (by omega) h.le
      have e : ps.length + n = (ps ++ qs).length := by simp; omega
      rw [e, ← pairVals_app] at ho
      exact ⟨v', w', hrun, ho, hg, hat⟩
  obtain ⟨v', w', hrun, ho, hg, hat⟩ := key
  obtain ⟨A', c', rfl, -⟩ := OwP.form ⟨ho, fun k e => (ho.lt k e).2⟩
  exact ⟨A', c', w', hrun, h.grow i hX ho hg hat⟩
theorem wp_pushPs {o : Oper} {a : Act} {K : Act → World → Prop} {Q : Exit → Act → World → Prop} (s x : Operand)
    (hop : o.op = .call { callee := .builtin .append, args := #[s, x], argTypes := #[32, 32] })
    (h : Owns lo w0 w L) (i : Nat) {v : Value} {ps : List (Int × Int)} (hX : L[i]? = some (.pairs v ps)) (hs : a.eval s = v) {B : Nat} {A : Option Addr} {n c : Nat} {qs : List (Int × Int)} (hx : a.eval x = .slice A n c) (hr : RdP w B A n c qs) (hb : ps.length + n ≤ 1099511627776)
    (hK : ∀ A' c' w', Owns lo w0 w' (L.set i (.pairs (.slice A' (ps ++ qs).length c') (ps ++ qs))) → K (a.put o.dst (.slice A' (ps ++ qs).length c')) w') : o.wp Try.prog a w K Q := by
  obtain ⟨A', c', w', hrun, hO⟩ := h.pushPs i hX hr hb o.type
  unfold Oper.wp execOp
  simp only [hop, resolve, invoke, builtin, Sem.run_bind, Sem.run_pure, Result.andThen_ok, List.map_toArray, List.map_cons, List.map_nil, hs, hx, hrun]
  exact hK A' c' w' hO
end
set_option maxHeartbeats 6400000 in
set_option maxRecDepth 20000 in
theorem lawPairsValid_any (w : World) {A : Option Addr} {n c : Nat} {bs : List Int} (hr : RdY w w.heap.size A n c bs) :
    Calls Try.prog 5 #[.slice A n c] w fun e w' => e = .returned (.bool true) ∧ Below w.heap.size w w' := by
  by_cases s0 : 1048576 < n
  · go_enter Try.func5, Try.ntmps5
    go_wp2
    go_ret
    exact ⟨rfl, Below.refl _ _⟩
  go_enter Try.func5, Try.ntmps5
  go_wp2_with fail
  refine (DrawPairsValid_any w A n c bs hr).mono ?_
  rintro e w1 ⟨T, cv, rvs, rv, rv0, v, rs0, xs, rfl, hS, ht, hxl, H1⟩
  obtain ⟨C, kC, rfl, -⟩ := H1.formC 1 rfl
  obtain ⟨R0, kR0, e0, -⟩ := H1.formI 2 rfl
  obtain ⟨R, nR, kR, rfl⟩ := ht.form e0
  obtain ⟨V, kV, rfl, rV⟩ := H1.formP 0 rfl
  have HT := Go.Lib.hid ht
  have HS := Go.Lib.hid hS
  have hcap := rV.cap
  have hmx := rV.mx
  unfold maxLen at hmx
  clear e0 ht hS rV hr s0
  have H := H1.box [.slice C T.cells.length kC, .slice R nR kR] 26
  clear H1
  obtain ⟨x0, x1, -, -⟩ := H.box2 0 rfl
  go_wp2_with fail
  refine (implPairsValid_any _ _ _ _ T _ _ _ xs (H.rdHx 2 3 rfl rfl HT.out) (H.rdP 1 rfl)).mono ?_
  rintro e w2 ⟨rfl, hb⟩
  replace H := H.call hb
  clear hb x0 x1
  obtain ⟨x0, x1, -, -⟩ := H.box2 0 rfl
  go_wp2_with fail
  refine (specPairsValid_any _ _ _ _ T _ _ _ xs (H.rdHx 2 3 rfl rfl HT.out) (H.rdP 1 rfl)).mono ?_
  rintro e w3 ⟨rfl, hb⟩
  replace H := H.call hb
  clear hb x0 x1
  obtain ⟨x0, x1, -, -⟩ := H.box2 0 rfl
  have HBad := Go.Lib.hid (mPairs_bad T xs)
  obtain ⟨q, hq⟩ : ∃ q, q = xs.length / 2 := ⟨_, rfl⟩
  have hq1 : q ≤ xs.length := by omega
  have hq2 : q ≤ kV := by omega
  have t1 : (xs.length : Int).tdiv 2 = (q : Int) := by rw [hq]; rfl
  have t2 : IntKind.i64.wrap (q : Int) = (q : Int) := IntWalk.i64_in _ (by omega)
  clear hq
  cases ok : mPairsValid T xs
  · clear ok t1 t2 hq1 hq2
    go_wp2_with fail
    have HX := H.drew
    have H0 := Go.Lib.hid H
    clear H x0 x1
    obtain ⟨x0, x1, -, -⟩ := HX.box2 0 rfl
    refine wp_region_tree (fun w' => w'.cell? ⟨w1.heap.size, 0, none⟩ = some (.slice C T.cells.length kC) ∧ w'.cell? ⟨w1.heap.size, 1, none⟩ = some (.slice R nR kR)) 26 [] (.take 0 (.take 1 (.take 2 (.take 3 (.take 4 (.take 5 (.take 6 (.take 7 (.take 8 (.alt 9 (.take 10 (.take 11 (.take 12 (.take 14 (.take 16 (.alt 13 (.alt 15 (.alt 17 (.alt 18 (.alt 19 (.take 20 (.take 21 (.take 22 (.alt 23 (.take 24 (.take 25 (.done))) (.stop))))) (.stop)) (.stop)) (.stop)) (.alt 17 (.alt 15 (.alt 18 (.alt 19 (.take 20 (.take 21 (.take 22 (.alt 23 (.take 24 (.take 25 (.done))) (.stop))))) (.stop)) (.stop)) (.stop)) (.stop))) (.alt 17 (.alt 13 (.alt 15 (.alt 18 (.alt 19 (.take 20 (.take 21 (.take 22 (.alt 23 (.take 24 (.take 25 (.done))) (.stop))))) (.stop)) (.stop)) (.stop)) (.stop)) (.stop)))))))) (.stop))))))))))) (by kernel_rfl) (by kernel_rfl) (by kernel_rfl) (⟨x0, x1⟩) ?_
    simp only [fillT, List.getElem?_cons_zero, List.getElem?_cons_succ, Nat.reduceBEq]
    repeat (first
      | (with_reducible refine po_take (v := ?_) ?_ (fun w' hS' => ?_) ?_
         rotate_left
         · (go_simp; done)
         · ((try dsimp only at hS'); go_simp; try with_reducible rfl)
         simp only [Act.put, List.setIfInBounds_toArray, List.set_cons_zero, List.set_cons_succ])
      | (with_reducible refine po_skip ?_ ?_
         · (go_simp; done)
         simp only [Act.put, List.setIfInBounds_toArray, List.set_cons_zero, List.set_cons_succ]))
    with_reducible refine po_no ?_ ?_ ?_ ?_
    · (go_simp; done)
    · exact .inr (⟨x0, x1⟩)
    rotate_left
    · exact po_stop
    simp only [Act.put, List.setIfInBounds_toArray, List.set_cons_zero, List.set_cons_succ]
    repeat (first
      | (with_reducible refine po_take (v := ?_) ?_ (fun w' hS' => ?_) ?_
         rotate_left
         · (go_simp; done)
         · ((try dsimp only at hS'); go_simp; try with_reducible rfl)
         simp only [Act.put, List.setIfInBounds_toArray, List.set_cons_zero, List.set_cons_succ])
      | (with_reducible refine po_skip ?_ ?_
         · (go_simp; done)
         simp only [Act.put, List.setIfInBounds_toArray, List.set_cons_zero, List.set_cons_succ]))
    with_reducible refine po_run ?_ (fun K hK => ?_) ?_
    · (go_simp; done)
    · -- operation 13 first
      try (revert x0 x1 HX; generalize World.drew _ = wd; intro HX x0 x1)
      go_simp
      replace HX := HX.litP [] zero_le_maxLen
      try simp only [pairVals, List.length_nil] at HX
      clear x0 x1
      obtain ⟨x0, x1, -, -⟩ := HX.box2 1 rfl
      refine hK.out _ _ (.inr (⟨x0, x1⟩)) ?_
      clear hK K
      revert x0 x1 HX
      generalize World.alloc _ _ = wz
      intro HX x0 x1
      with_reducible refine po_run ?_ (fun K hK => ?_) ?_
      · (go_simp; done)
      · -- operation 15 first
        refine wp_pushPs (.tmp 35) (.tmp 36) rfl HX 0 rfl rfl rfl (HX.rdP 2 rfl) (by simp; omega) ?_
        intro A3 k3 w5 HY
        simp only [List.set_cons_zero, List.nil_append] at HY
        simp only [List.nil_append]
        replace HX := HY
        clear HY
        clear x0 x1
        obtain ⟨x0, x1, -, -⟩ := HX.box2 1 rfl
        refine hK.out _ _ (.inr (⟨x0, x1⟩)) ?_
        clear hK K
        with_reducible refine po_run ?_ (fun K hK => ?_) ?_
        · (go_simp; done)
        rotate_left
        · exact po_stop
        try (revert x0 x1 HX; generalize World.drew _ = wd; intro HX x0 x1)
        go_simp
        replace HX := HX.litP [(-1, 0)] one_le_maxLen
        try simp only [pairVals, List.length_cons, List.length_nil, Nat.zero_add] at HX
        clear x0 x1
        obtain ⟨x0, x1, -, -⟩ := HX.box2 2 rfl
        refine hK.out _ _ (.inr (⟨x0, x1⟩)) ?_
        clear hK K
        revert x0 x1 HX
        generalize World.alloc _ _ = wz
        intro HX x0 x1
        with_reducible refine po_run ?_ (fun K hK => ?_) ?_
        · (go_simp; done)
        rotate_left
        · exact po_stop
        refine wp_pushPs (.tmp 37) (.tmp 39) rfl HX 1 rfl rfl rfl (HX.rdP 0 rfl) (by simp; omega) ?_
        intro A4 k4 w6 HY
        simp only [List.set_cons_zero, List.set_cons_succ] at HY
        replace HX := HY
        clear HY
        clear x0 x1
        obtain ⟨x0, x1, -, -⟩ := HX.box2 2 rfl
        refine hK.out _ _ (.inr (⟨x0, x1⟩)) ?_
        clear hK K
        with_reducible refine po_run ?_ (fun K hK => ?_) ?_
        · (go_simp; done)
        rotate_left
        · exact po_stop
        have hrd := (HX.rdP 1 rfl)
        rw [show (xs ++ [((-1 : Int), (0 : Int))]).length = xs.length + 1 by simp] at hrd
        go_simp
        refine (implPairsValid_any _ _ _ _ T _ _ _ (xs ++ [(-1, 0)]) (HX.rdHx 4 5 rfl rfl HT.out) hrd).mono ?_
        rintro e w7 ⟨rfl, hb⟩
        rw [HBad.out]
        replace HX := HX.call hb
        clear hb hrd
        clear x0 x1
        obtain ⟨x0, x1, -, -⟩ := HX.box2 2 rfl
        refine hK.out _ _ (.inr (⟨x0, x1⟩)) ?_
        clear hK K
        repeat (first
          | (with_reducible refine po_take (v := ?_) ?_ (fun w' hS' => ?_) ?_
             rotate_left
             · (go_simp; done)
             · ((try dsimp only at hS'); go_simp; try with_reducible rfl)
             simp only [Act.put, List.setIfInBounds_toArray, List.set_cons_zero, List.set_cons_succ])
          | (with_reducible refine po_skip ?_ ?_
             · (go_simp; done)
             simp only [Act.put, List.setIfInBounds_toArray, List.set_cons_zero, List.set_cons_succ]))
        with_reducible refine po_run ?_ (fun K hK => ?_) ?_
        · (go_simp; done)
        rotate_left
        · exact po_stop
        go_simp
        refine (alive_any _).mono ?_
        rintro e w8 ⟨rfl, hb⟩
        replace HX := HX.call hb
        clear hb
        clear x0 x1
        obtain ⟨x0, x1, -, -⟩ := HX.box2 2 rfl
        refine hK.out _ _ (.inr (⟨x0, x1⟩)) ?_
        clear hK K
        repeat (first
          | (with_reducible refine po_take (v := ?_) ?_ (fun w' hS' => ?_) ?_
             rotate_left
             · (go_simp; done)
             · ((try dsimp only at hS'); go_simp; try with_reducible rfl)
             simp only [Act.put, List.setIfInBounds_toArray, List.set_cons_zero, List.set_cons_succ])
          | (with_reducible refine po_skip ?_ ?_
             · (go_simp; done)
             simp only [Act.put, List.setIfInBounds_toArray, List.set_cons_zero, List.set_cons_succ]))
        refine po_done ?_
        have HB := HX.below
        clear HX H0 x0 x1
        go_wp2
        go_ret
        exact ⟨rfl, HB⟩
      with_reducible refine po_run ?_ (fun K hK => ?_) ?_
      · (go_simp; done)
      rotate_left
      · exact po_stop
      try (revert x0 x1 HX; generalize World.drew _ = wd; intro HX x0 x1)
      go_simp
      replace HX := HX.litP [(-1, 0)] one_le_maxLen
      try simp only [pairVals, List.length_cons, List.length_nil, Nat.zero_add] at HX
      clear x0 x1
      obtain ⟨x0, x1, -, -⟩ := HX.box2 2 rfl
      refine hK.out _ _ (.inr (⟨x0, x1⟩)) ?_
      clear hK K
      revert x0 x1 HX
      generalize World.alloc _ _ = wz
      intro HX x0 x1
      with_reducible refine po_run ?_ (fun K hK => ?_) ?_
      · (go_simp; done)
      rotate_left
      · exact po_stop
      refine wp_pushPs (.tmp 35) (.tmp 36) rfl HX 1 rfl rfl rfl (HX.rdP 3 rfl) (by simp; omega) ?_
      intro A3 k3 w5 HY
      simp only [List.set_cons_zero, List.set_cons_succ, List.nil_append] at HY
      simp only [List.nil_append]
      replace HX := HY
      clear HY
      clear x0 x1
      obtain ⟨x0, x1, -, -⟩ := HX.box2 2 rfl
      refine hK.out _ _ (.inr (⟨x0, x1⟩)) ?_
      clear hK K
      with_reducible refine po_run ?_ (fun K hK => ?_) ?_
      · (go_simp; done)
      rotate_left
      · exact po_stop
      refine wp_pushPs (.tmp 37) (.tmp 39) rfl HX 1 rfl rfl rfl (HX.rdP 0 rfl) (by simp; omega) ?_
      intro A4 k4 w6 HY
      simp only [List.set_cons_zero, List.set_cons_succ] at HY
      replace HX := HY
      clear HY
      clear x0 x1
      obtain ⟨x0, x1, -, -⟩ := HX.box2 2 rfl
      refine hK.out _ _ (.inr (⟨x0, x1⟩)) ?_
      clear hK K
      with_reducible refine po_run ?_ (fun K hK => ?_) ?_
      · (go_simp; done)
      rotate_left
      · exact po_stop
      have hrd := (HX.rdP 1 rfl)
      rw [show (xs ++ [((-1 : Int), (0 : Int))]).length = xs.length + 1 by simp] at hrd
      go_simp
      refine (implPairsValid_any _ _ _ _ T _ _ _ (xs ++ [(-1, 0)]) (HX.rdHx 4 5 rfl rfl HT.out) hrd).mono ?_
      rintro e w7 ⟨rfl, hb⟩
      rw [HBad.out]
      replace HX := HX.call hb
      clear hb hrd
      clear x0 x1
      obtain ⟨x0, x1, -, -⟩ := HX.box2 2 rfl
      refine hK.out _ _ (.inr (⟨x0, x1⟩)) ?_
      clear hK K
      repeat (first
        | (with_reducible refine po_take (v := ?_) ?_ (fun w' hS' => ?_) ?_
           rotate_left
           · (go_simp; done)
           · ((try dsimp only at hS'); go_simp; try with_reducible rfl)
           simp only [Act.put, List.setIfInBounds_toArray, List.set_cons_zero, List.set_cons_succ])
        | (with_reducible refine po_skip ?_ ?_
           · (go_simp; done)
           simp only [Act.put, List.setIfInBounds_toArray, List.set_cons_zero, List.set_cons_succ]))
      with_reducible refine po_run ?_ (fun K hK => ?_) ?_
      · (go_simp; done)
      rotate_left
      · exact po_stop
      go_simp
      refine (alive_any _).mono ?_
      rintro e w8 ⟨rfl, hb⟩
      replace HX := HX.call hb
      clear hb
      clear x0 x1
      obtain ⟨x0, x1, -, -⟩ := HX.box2 2 rfl
      refine hK.out _ _ (.inr (⟨x0, x1⟩)) ?_
      clear hK K
      repeat (first
        | (with_reducible refine po_take (v := ?_) ?_ (fun w' hS' => ?_) ?_
           rotate_left
           · (go_simp; done)
           · ((try dsimp only at hS'); go_simp; try with_reducible rfl)
           simp only [Act.put, List.setIfInBounds_toArray, List.set_cons_zero, List.set_cons_succ])
        | (with_reducible refine po_skip ?_ ?_
           · (go_simp; done)
           simp only [Act.put, List.setIfInBounds_toArray, List.set_cons_zero, List.set_cons_succ]))
      refine po_done ?_
      have HB := HX.below
      clear HX H0 x0 x1
      go_wp2
      go_ret
      exact ⟨rfl, HB⟩
    with_reducible refine po_run ?_ (fun K hK => ?_) ?_
    · (go_simp; done)
    rotate_left
    · exact po_stop
    try (revert x0 x1 HX; generalize World.drew _ = wd; intro HX x0 x1)
    go_simp
    replace HX := HX.litP [(-1, 0)] one_le_maxLen
    try simp only [pairVals, List.length_cons, List.length_nil, Nat.zero_add] at HX
    clear x0 x1
    obtain ⟨x0, x1, -, -⟩ := HX.box2 1 rfl
    refine hK.out _ _ (.inr (⟨x0, x1⟩)) ?_
    clear hK K
    revert x0 x1 HX
    generalize World.alloc _ _ = wz
    intro HX x0 x1
    with_reducible refine po_run ?_ (fun K hK => ?_) ?_
    · (go_simp; done)
    rotate_left
    · exact po_stop
    try (revert x0 x1 HX; generalize World.drew _ = wd; intro HX x0 x1)
    go_simp
    replace HX := HX.litP [] zero_le_maxLen
    try simp only [pairVals, List.length_nil] at HX
    clear x0 x1
    obtain ⟨x0, x1, -, -⟩ := HX.box2 2 rfl
    refine hK.out _ _ (.inr (⟨x0, x1⟩)) ?_
    clear hK K
    revert x0 x1 HX
    generalize World.alloc _ _ = wz
    intro HX x0 x1
    with_reducible refine po_run ?_ (fun K hK => ?_) ?_
    · (go_simp; done)
    rotate_left
    · exact po_stop
    refine wp_pushPs (.tmp 35) (.tmp 36) rfl HX 0 rfl rfl rfl (HX.rdP 3 rfl) (by simp; omega) ?_
    intro A3 k3 w5 HY
    simp only [List.set_cons_zero, List.nil_append] at HY
    simp only [List.nil_append]
    replace HX := HY
    clear HY
    clear x0 x1
    obtain ⟨x0, x1, -, -⟩ := HX.box2 2 rfl
    refine hK.out _ _ (.inr (⟨x0, x1⟩)) ?_
    clear hK K
    with_reducible refine po_run ?_ (fun K hK => ?_) ?_
    · (go_simp; done)
    rotate_left
    · exact po_stop
    refine wp_pushPs (.tmp 37) (.tmp 39) rfl HX 0 rfl rfl rfl (HX.rdP 1 rfl) (by simp; omega) ?_
    intro A4 k4 w6 HY
    simp only [List.set_cons_zero] at HY
    replace HX := HY
    clear HY
    clear x0 x1
    obtain ⟨x0, x1, -, -⟩ := HX.box2 2 rfl
    refine hK.out _ _ (.inr (⟨x0, x1⟩)) ?_
    clear hK K
    with_reducible refine po_run ?_ (fun K hK => ?_) ?_
    · (go_simp; done)
    rotate_left
    · exact po_stop
    have hrd := (HX.rdP 0 rfl)
    rw [show (xs ++ [((-1 : Int), (0 : Int))]).length = xs.length + 1 by simp] at hrd
    go_simp
    refine (implPairsValid_any _ _ _ _ T _ _ _ (xs ++ [(-1, 0)]) (HX.rdHx 4 5 rfl rfl HT.out) hrd).mono ?_
    rintro e w7 ⟨rfl, hb⟩
    rw [HBad.out]
    replace HX := HX.call hb
    clear hb hrd
    clear x0 x1
    obtain ⟨x0, x1, -, -⟩ := HX.box2 2 rfl
    refine hK.out _ _ (.inr (⟨x0, x1⟩)) ?_
    clear hK K
    repeat (first
      | (with_reducible refine po_take (v := ?_) ?_ (fun w' hS' => ?_) ?_
         rotate_left
         · (go_simp; done)
         · ((try dsimp only at hS'); go_simp; try with_reducible rfl)
         simp only [Act.put, List.setIfInBounds_toArray, List.set_cons_zero, List.set_cons_succ])
      | (with_reducible refine po_skip ?_ ?_
         · (go_simp; done)
         simp only [Act.put, List.setIfInBounds_toArray, List.set_cons_zero, List.set_cons_succ]))
    with_reducible refine po_run ?_ (fun K hK => ?_) ?_
    · (go_simp; done)
    rotate_left
    · exact po_stop
    go_simp
    refine (alive_any _).mono ?_
    rintro e w8 ⟨rfl, hb⟩
    replace HX := HX.call hb
    clear hb
    clear x0 x1
    obtain ⟨x0, x1, -, -⟩ := HX.box2 2 rfl
    refine hK.out _ _ (.inr (⟨x0, x1⟩)) ?_
    clear hK K
    repeat (first
      | (with_reducible refine po_take (v := ?_) ?_ (fun w' hS' => ?_) ?_
         rotate_left
         · (go_simp; done)
         · ((try dsimp only at hS'); go_simp; try with_reducible rfl)
         simp only [Act.put, List.setIfInBounds_toArray, List.set_cons_zero, List.set_cons_succ])
      | (with_reducible refine po_skip ?_ ?_
         · (go_simp; done)
         simp only [Act.put, List.setIfInBounds_toArray, List.set_cons_zero, List.set_cons_succ]))
    refine po_done ?_
    have HB := HX.below
    clear HX H0 x0 x1
    go_wp2
    go_ret
    exact ⟨rfl, HB⟩
  · have HTk := Go.Lib.hid (mPairs_take ok q)
    clear ok
    go_wp2_with fail
    have HX := H.drew
    have H0 := Go.Lib.hid H
    clear H x0 x1
    obtain ⟨x0, x1, -, -⟩ := HX.box2 0 rfl
    refine wp_region_tree (fun w' => w'.cell? ⟨w1.heap.size, 0, none⟩ = some (.slice C T.cells.length kC) ∧ w'.cell? ⟨w1.heap.size, 1, none⟩ = some (.slice R nR kR)) 26 [] (.take 0 (.take 1 (.take 2 (.take 3 (.take 4 (.take 5 (.take 6 (.take 7 (.take 8 (.alt 9 (.take 10 (.take 11 (.take 12 (.take 14 (.take 16 (.alt 13 (.alt 15 (.alt 17 (.alt 18 (.alt 19 (.take 20 (.take 21 (.take 22 (.alt 23 (.take 24 (.take 25 (.done))) (.stop))))) (.stop)) (.stop)) (.stop)) (.alt 17 (.alt 15 (.alt 18 (.alt 19 (.take 20 (.take 21 (.take 22 (.alt 23 (.take 24 (.take 25 (.done))) (.stop))))) (.stop)) (.stop)) (.stop)) (.stop))) (.alt 17 (.alt 13 (.alt 15 (.alt 18 (.alt 19 (.take 20 (.take 21 (.take 22 (.alt 23 (.take 24 (.take 25 (.done))) (.stop))))) (.stop)) (.stop)) (.stop)) (.stop)) (.stop)))))))) (.stop))))))))))) (by kernel_rfl) (by kernel_rfl) (by kernel_rfl) (⟨x0, x1⟩) ?_
    simp only [fillT, List.getElem?_cons_zero, List.getElem?_cons_succ, Nat.reduceBEq]
    repeat (first
      | (with_reducible refine po_take (v := ?_) ?_ (fun w' hS' => ?_) ?_
         rotate_left
         · (go_simp; done)
         · ((try dsimp only at hS'); go_simp; try with_reducible rfl)
         simp only [Act.put, List.setIfInBounds_toArray, List.set_cons_zero, List.set_cons_succ])
      | (with_reducible refine po_skip ?_ ?_
         · (go_simp; done)
         simp only [Act.put, List.setIfInBounds_toArray, List.set_cons_zero, List.set_cons_succ]))
    with_reducible refine po_run ?_ (fun K hK => ?_) ?_
    · (go_simp; done)
    rotate_left
    · exact po_stop
    go_simp
    refine (implPairsValid_any _ _ _ _ T _ _ _ (xs.take q) (HX.rdHx 2 3 rfl rfl HT.out) ((HX.rdP 1 rfl).cut q hq1)).mono ?_
    rintro e w4 ⟨rfl, hb⟩
    rw [HTk.out]
    replace HX := HX.call hb
    clear hb x0 x1
    obtain ⟨x0, x1, -, -⟩ := HX.box2 0 rfl
    refine hK.out _ _ (.inr (⟨x0, x1⟩)) ?_
    clear hK K
    repeat (first
      | (with_reducible refine po_take (v := ?_) ?_ (fun w' hS' => ?_) ?_
         rotate_left
         · (go_simp; done)
         · ((try dsimp only at hS'); go_simp; try with_reducible rfl)
         simp only [Act.put, List.setIfInBounds_toArray, List.set_cons_zero, List.set_cons_succ])
      | (with_reducible refine po_skip ?_ ?_
         · (go_simp; done)
         simp only [Act.put, List.setIfInBounds_toArray, List.set_cons_zero, List.set_cons_succ]))
    with_reducible refine po_run ?_ (fun K hK => ?_) ?_
    · (go_simp; done)
    · -- operation 13 first
      try (revert x0 x1 HX; generalize World.drew _ = wd; intro HX x0 x1)
      go_simp
      replace HX := HX.litP [] zero_le_maxLen
      try simp only [pairVals, List.length_nil] at HX
      clear x0 x1
      obtain ⟨x0, x1, -, -⟩ := HX.box2 1 rfl
      refine hK.out _ _ (.inr (⟨x0, x1⟩)) ?_
      clear hK K
      revert x0 x1 HX
      generalize World.alloc _ _ = wz
      intro HX x0 x1
      with_reducible refine po_run ?_ (fun K hK => ?_) ?_
      · (go_simp; done)
      · -- operation 15 first
        refine wp_pushPs (.tmp 35) (.tmp 36) rfl HX 0 rfl rfl rfl (HX.rdP 2 rfl) (by simp; omega) ?_
        intro A3 k3 w5 HY
        simp only [List.set_cons_zero, List.nil_append] at HY
        simp only [List.nil_append]
        replace HX := HY
        clear HY
        clear x0 x1
        obtain ⟨x0, x1, -, -⟩ := HX.box2 1 rfl
        refine hK.out _ _ (.inr (⟨x0, x1⟩)) ?_
        clear hK K
        with_reducible refine po_run ?_ (fun K hK => ?_) ?_
        · (go_simp; done)
        rotate_left
        · exact po_stop
        try (revert x0 x1 HX; generalize World.drew _ = wd; intro HX x0 x1)
        go_simp
        replace HX := HX.litP [(-1, 0)] one_le_maxLen
        try simp only [pairVals, List.length_cons, List.length_nil, Nat.zero_add] at HX
        clear x0 x1
        obtain ⟨x0, x1, -, -⟩ := HX.box2 2 rfl
        refine hK.out _ _ (.inr (⟨x0, x1⟩)) ?_
        clear hK K
        revert x0 x1 HX
        generalize World.alloc _ _ = wz
        intro HX x0 x1
        with_reducible refine po_run ?_ (fun K hK => ?_) ?_
        · (go_simp; done)
        rotate_left
        · exact po_stop
        refine wp_pushPs (.tmp 37) (.tmp 39) rfl HX 1 rfl rfl rfl (HX.rdP 0 rfl) (by simp; omega) ?_
        intro A4 k4 w6 HY
        simp only [List.set_cons_zero, List.set_cons_succ] at HY
        replace HX := HY
        clear HY
        clear x0 x1
        obtain ⟨x0, x1, -, -⟩ := HX.box2 2 rfl
        refine hK.out _ _ (.inr (⟨x0, x1⟩)) ?_
        clear hK K
        with_reducible refine po_run ?_ (fun K hK => ?_) ?_
        · (go_simp; done)
        rotate_left
        · exact po_stop
        have hrd := (HX.rdP 1 rfl)
        rw [show (xs ++ [((-1 : Int), (0 : Int))]).length = xs.length + 1 by simp] at hrd
        go_simp
        refine (implPairsValid_any _ _ _ _ T _ _ _ (xs ++ [(-1, 0)]) (HX.rdHx 4 5 rfl rfl HT.out) hrd).mono ?_
        rintro e w7 ⟨rfl, hb⟩
        rw [HBad.out]
        replace HX := HX.call hb
        clear hb hrd
        clear x0 x1
        obtain ⟨x0, x1, -, -⟩ := HX.box2 2 rfl
        refine hK.out _ _ (.inr (⟨x0, x1⟩)) ?_
        clear hK K
        repeat (first
          | (with_reducible refine po_take (v := ?_) ?_ (fun w' hS' => ?_) ?_
             rotate_left
             · (go_simp; done)
             · ((try dsimp only at hS'); go_simp; try with_reducible rfl)
             simp only [Act.put, List.setIfInBounds_toArray, List.set_cons_zero, List.set_cons_succ])
          | (with_reducible refine po_skip ?_ ?_
             · (go_simp; done)
             simp only [Act.put, List.setIfInBounds_toArray, List.set_cons_zero, List.set_cons_succ]))
        with_reducible refine po_run ?_ (fun K hK => ?_) ?_
        · (go_simp; done)
        rotate_left
        · exact po_stop
        go_simp
        refine (alive_any _).mono ?_
        rintro e w8 ⟨rfl, hb⟩
        replace HX := HX.call hb
        clear hb
        clear x0 x1
        obtain ⟨x0, x1, -, -⟩ := HX.box2 2 rfl
        refine hK.out _ _ (.inr (⟨x0, x1⟩)) ?_
        clear hK K
        repeat (first
          | (with_reducible refine po_take (v := ?_) ?_ (fun w' hS' => ?_) ?_
             rotate_left
             · (go_simp; done)
             · ((try dsimp only at hS'); go_simp; try with_reducible rfl)
             simp only [Act.put, List.setIfInBounds_toArray, List.set_cons_zero, List.set_cons_succ])
          | (with_reducible refine po_skip ?_ ?_
             · (go_simp; done)
             simp only [Act.put, List.setIfInBounds_toArray, List.set_cons_zero, List.set_cons_succ]))
        refine po_done ?_
        have HB := HX.below
        clear HX H0 x0 x1
        go_wp2
        go_ret
        exact ⟨rfl, HB⟩
      with_reducible refine po_run ?_ (fun K hK => ?_) ?_
      · (go_simp; done)
      rotate_left
      · exact po_stop
      try (revert x0 x1 HX; generalize World.drew _ = wd; intro HX x0 x1)
      go_simp
      replace HX := HX.litP [(-1, 0)] one_le_maxLen
      try simp only [pairVals, List.length_cons, List.length_nil, Nat.zero_add] at HX
      clear x0 x1
      obtain ⟨x0, x1, -, -⟩ := HX.box2 2 rfl
      refine hK.out _ _ (.inr (⟨x0, x1⟩)) ?_
      clear hK K
      revert x0 x1 HX
      generalize World.alloc _ _ = wz
      intro HX x0 x1
      with_reducible refine po_run ?_ (fun K hK => ?_) ?_
      · (go_simp; done)
      rotate_left
      · exact po_stop
      refine wp_pushPs (.tmp 35) (.tmp 36) rfl HX 1 rfl rfl rfl (HX.rdP 3 rfl) (by simp; omega) ?_
      intro A3 k3 w5 HY
      simp only [List.set_cons_zero, List.set_cons_succ, List.nil_append] at HY
      simp only [List.nil_append]
      replace HX := HY
      clear HY
      clear x0 x1
      obtain ⟨x0, x1, -, -⟩ := HX.box2 2 rfl
      refine hK.out _ _ (.inr (⟨x0, x1⟩)) ?_
      clear hK K
      with_reducible refine po_run ?_ (fun K hK => ?_) ?_
      · (go_simp; done)
      rotate_left
      · exact po_stop
      refine wp_pushPs (.tmp 37) (.tmp 39) rfl HX 1 rfl rfl rfl (HX.rdP 0 rfl) (by simp; omega) ?_
      intro A4 k4 w6 HY
      simp only [List.set_cons_zero, List.set_cons_succ] at HY
      replace HX := HY
      clear HY
      clear x0 x1
      obtain ⟨x0, x1, -, -⟩ := HX.box2 2 rfl
      refine hK.out _ _ (.inr (⟨x0, x1⟩)) ?_
      clear hK K
      with_reducible refine po_run ?_ (fun K hK => ?_) ?_
      · (go_simp; done)
      rotate_left
      · exact po_stop
      have hrd := (HX.rdP 1 rfl)
      rw [show (xs ++ [((-1 : Int), (0 : Int))]).length = xs.length + 1 by simp] at hrd
      go_simp
      refine (implPairsValid_any _ _ _ _ T _ _ _ (xs ++ [(-1, 0)]) (HX.rdHx 4 5 rfl rfl HT.out) hrd).mono ?_
      rintro e w7 ⟨rfl, hb⟩
      rw [HBad.out]
      replace HX := HX.call hb
      clear hb hrd
      clear x0 x1
      obtain ⟨x0, x1, -, -⟩ := HX.box2 2 rfl
      refine hK.out _ _ (.inr (⟨x0, x1⟩)) ?_
      clear hK K
      repeat (first
        | (with_reducible refine po_take (v := ?_) ?_ (fun w' hS' => ?_) ?_
           rotate_left
           · (go_simp; done)
           · ((try dsimp only at hS'); go_simp; try with_reducible rfl)
           simp only [Act.put, List.setIfInBounds_toArray, List.set_cons_zero, List.set_cons_succ])
        | (with_reducible refine po_skip ?_ ?_
           · (go_simp; done)
           simp only [Act.put, List.setIfInBounds_toArray, List.set_cons_zero, List.set_cons_succ]))
      with_reducible refine po_run ?_ (fun K hK => ?_) ?_
      · (go_simp; done)
      rotate_left
      · exact po_stop
      go_simp
      refine (alive_any _).mono ?_
      rintro e w8 ⟨rfl, hb⟩
      replace HX := HX.call hb
      clear hb
      clear x0 x1
      obtain ⟨x0, x1, -, -⟩ := HX.box2 2 rfl
      refine hK.out _ _ (.inr (⟨x0, x1⟩)) ?_
      clear hK K
      repeat (first
        | (with_reducible refine po_take (v := ?_) ?_ (fun w' hS' => ?_) ?_
           rotate_left
           · (go_simp; done)
           · ((try dsimp only at hS'); go_simp; try with_reducible rfl)
           simp only [Act.put, List.setIfInBounds_toArray, List.set_cons_zero, List.set_cons_succ])
        | (with_reducible refine po_skip ?_ ?_
           · (go_simp; done)
           simp only [Act.put, List.setIfInBounds_toArray, List.set_cons_zero, List.set_cons_succ]))
      refine po_done ?_
      have HB := HX.below
      clear HX H0 x0 x1
      go_wp2
      go_ret
      exact ⟨rfl, HB⟩
    with_reducible refine po_run ?_ (fun K hK => ?_) ?_
    · (go_simp; done)
    rotate_left
    · exact po_stop
    try (revert x0 x1 HX; generalize World.drew _ = wd; intro HX x0 x1)
    go_simp
    replace HX := HX.litP [(-1, 0)] one_le_maxLen
    try simp only [pairVals, List.length_cons, List.length_nil, Nat.zero_add] at HX
    clear x0 x1
    obtain ⟨x0, x1, -, -⟩ := HX.box2 1 rfl
    refine hK.out _ _ (.inr (⟨x0, x1⟩)) ?_
    clear hK K
    revert x0 x1 HX
    generalize World.alloc _ _ = wz
    intro HX x0 x1
    with_reducible refine po_run ?_ (fun K hK => ?_) ?_
    · (go_simp; done)
    rotate_left
    · exact po_stop
    try (revert x0 x1 HX; generalize World.drew _ = wd; intro HX x0 x1)
    go_simp
    replace HX := HX.litP [] zero_le_maxLen
    try simp only [pairVals, List.length_nil] at HX
    clear x0 x1
    obtain ⟨x0, x1, -, -⟩ := HX.box2 2 rfl
    refine hK.out _ _ (.inr (⟨x0, x1⟩)) ?_
    clear hK K
    revert x0 x1 HX
    generalize World.alloc _ _ = wz
    intro HX x0 x1
    with_reducible refine po_run ?_ (fun K hK => ?_) ?_
    · (go_simp; done)
    rotate_left
    · exact po_stop
    refine wp_pushPs (.tmp 35) (.tmp 36) rfl HX 0 rfl rfl rfl (HX.rdP 3 rfl) (by simp; omega) ?_
    intro A3 k3 w5 HY
    simp only [List.set_cons_zero, List.nil_append] at HY
    simp only [List.nil_append]
    replace HX := HY
    clear HY
    clear x0 x1
    obtain ⟨x0, x1, -, -⟩ := HX.box2 2 rfl
    refine hK.out _ _ (.inr (⟨x0, x1⟩)) ?_
    clear hK K
    with_reducible refine po_run ?_ (fun K hK => ?_) ?_
    · (go_simp; done)
    rotate_left
    · exact po_stop
    refine wp_pushPs (.tmp 37) (.tmp 39) rfl HX 0 rfl rfl rfl (HX.rdP 1 rfl) (by simp; omega) ?_
    intro A4 k4 w6 HY
    simp only [List.set_cons_zero] at HY
    replace HX := HY
    clear HY
    clear x0 x1
    obtain ⟨x0, x1, -, -⟩ := HX.box2 2 rfl
    refine hK.out _ _ (.inr (⟨x0, x1⟩)) ?_
    clear hK K
    with_reducible refine po_run ?_ (fun K hK => ?_) ?_
    · (go_simp; done)
    rotate_left
    · exact po_stop
    have hrd := (HX.rdP 0 rfl)
    rw [show (xs ++ [((-1 : Int), (0 : Int))]).length = xs.length + 1 by simp] at hrd
    go_simp
    refine (implPairsValid_any _ _ _ _ T _ _ _ (xs ++ [(-1, 0)]) (HX.rdHx 4 5 rfl rfl HT.out) hrd).mono ?_
    rintro e w7 ⟨rfl, hb⟩
    rw [HBad.out]
    replace HX := HX.call hb
    clear hb hrd
    clear x0 x1
    obtain ⟨x0, x1, -, -⟩ := HX.box2 2 rfl
    refine hK.out _ _ (.inr (⟨x0, x1⟩)) ?_
    clear hK K
    repeat (first
      | (with_reducible refine po_take (v := ?_) ?_ (fun w' hS' => ?_) ?_
         rotate_left
         · (go_simp; done)
         · ((try dsimp only at hS'); go_simp; try with_reducible rfl)
         simp only [Act.put, List.setIfInBounds_toArray, List.set_cons_zero, List.set_cons_succ])
      | (with_reducible refine po_skip ?_ ?_
         · (go_simp; done)
         simp only [Act.put, List.setIfInBounds_toArray, List.set_cons_zero, List.set_cons_succ]))
    with_reducible refine po_run ?_ (fun K hK => ?_) ?_
    · (go_simp; done)
    rotate_left
    · exact po_stop
    go_simp
    refine (alive_any _).mono ?_
    rintro e w8 ⟨rfl, hb⟩
    replace HX := HX.call hb
    clear hb
    clear x0 x1
    obtain ⟨x0, x1, -, -⟩ := HX.box2 2 rfl
    refine hK.out _ _ (.inr (⟨x0, x1⟩)) ?_
    clear hK K
    repeat (first
      | (with_reducible refine po_take (v := ?_) ?_ (fun w' hS' => ?_) ?_
         rotate_left
         · (go_simp; done)
         · ((try dsimp only at hS'); go_simp; try with_reducible rfl)
         simp only [Act.put, List.setIfInBounds_toArray, List.set_cons_zero, List.set_cons_succ])
      | (with_reducible refine po_skip ?_ ?_
         · (go_simp; done)
         simp only [Act.put, List.setIfInBounds_toArray, List.set_cons_zero, List.set_cons_succ]))
    refine po_done ?_
    have HB := HX.below
    clear HX H0 x0 x1
    go_wp2
    go_ret
    exact ⟨rfl, HB⟩
end Go.Proofs.Ytlhecfpflkioeaa
