/- Rows of pairs of a call's own; the drawing of a heap with pairs, for every code that can be read. -/
import Derived.Test.YtnpehidhoekfcaaOo
import Derived.Test.YtnpehidhoekfcaaPp
namespace Go.Proofs.Ytnpehidhoekfcaa
open Go.RowKit
abbrev OB.pairs (v : Value) (ps : List (Int × Int)) : OB := .row 57 2 v ps.length (pairVals ps)
section
variable {lo : Nat} {w0 w w' : World} {L : List OB}
theorem Owns.owP (h : Owns lo w0 w L) (i : Nat) {v : Value} {ps : List (Int × Int)} (hX : L[i]? = some (.pairs v ps)) : OwP w lo w.heap.size v ps := ⟨h.own i hX, fun k e => ((h.own i hX).lt k e).2⟩
theorem Owns.formP (h : Owns lo w0 w L) (i : Nat) {v : Value} {ps : List (Int × Int)} (hX : L[i]? = some (.pairs v ps)) : ∃ A c, v = .slice A ps.length c ∧ RdP w w.heap.size A ps.length c ps := (h.owP i hX).form
theorem Owns.rdP (h : Owns lo w0 w L) (i : Nat) {A : Option Addr} {n c : Nat} {ps : List (Int × Int)} (hX : L[i]? = some (.pairs (.slice A n c) ps)) : RdP w w.heap.size A n c ps := by
  obtain ⟨A', c', e, hr⟩ := h.formP i hX
  injection e with e1 e2 e3
  subst e1 e2 e3
  exact hr
theorem Owns.litP (h : Owns lo w0 w L) (ps : List (Int × Int)) (hm : ps.length ≤ maxLen) : Owns lo w0 (w.alloc (.cells (pairVals ps).toArray 57)) (.pairs (.slice (some ⟨w.heap.size, 0, none⟩) ps.length ps.length) ps :: L) :=
  h.row (below_alloc _ _) (World.ownsRow_lit (e := 57) (size := 2) w (pairVals ps).toArray ps.length (Nat.le_refl _) hm (by simp [pairVals_length]))
theorem Owns.pairAt (h : Owns lo w0 w L) (i : Nat) {g n c : Nat} {ps : List (Int × Int)} (hX : L[i]? = some (.row 57 2 (.slice (some ⟨g, 0, none⟩) n c) n (pairVals ps))) {j : Nat} {x y : Int} (hj : ps[j]? = some (x, y)) : w.cell? ⟨g, j * 2, none⟩ = some (.int .i64 x) ∧ w.cell? ⟨g, j * 2 + 1, none⟩ = some (.int .i64 y) := by
  obtain ⟨e1, e2⟩ := pairVals_at ps j _ hj
  exact ⟨(h.elem i hX e1).1, (h.elem i hX e2).1⟩
theorem Owns.pushP (h : Owns lo w0 w L) (i : Nat) {v : Value} {ps : List (Int × Int)} {q : Int × Int} (hX : L[i]? = some (.pairs v ps)) {g k : Nat}
    (hb : w.heap[g]? = some (.cells #[.int .i64 q.1, .int .i64 q.2] 57)) (hn : ps.length + 1 ≤ 1099511627776) (ty : TypeId) :
    ∃ A' c' w', (Builtin.append_ #[47, 47] ty #[v, .slice (some ⟨g, 0, none⟩) 1 k]).run Try.prog w = .ok (.slice A' (ps ++ [q]).length c') w' ∧ Owns lo w0 w' (L.set i (.pairs (.slice A' (ps ++ [q]).length c') (ps ++ [q]))) := by
  obtain ⟨i0, hi0, hz0, hz1, hz2⟩ := info_parts Try.infoPair
  obtain ⟨v', w', hrun, hown, hg, -, hat⟩ := run_append_own_at (P := Try.prog) w lo 47 ty 57 i0 (.agg #[.int .i64 0, .int .i64 0]) 2 16 Try.underlying47 hi0 hz0 hz1 hz2 rfl (by omega) v ps.length _ (h.own i hX) ⟨g, 0, none⟩ 1 k [.int .i64 q.1, .int .i64 q.2] rfl
    (World.news_of_block hb) (by simp; exact ⟨rfl, rfl⟩) (by unfold maxLen; omega) (by omega) h.le
  have e : ps.length + 1 = (ps ++ [q]).length := by simp
  rw [← pairVals_snoc, e] at hown
  obtain ⟨A', c', rfl, -⟩ := OwP.form ⟨hown, fun k e => (hown.lt k e).2⟩
  exact ⟨A', c', w', hrun, h.grow i hX hown hg hat⟩
theorem wp_pushPO {o : Oper} {a : Act} {K : Act → World → Prop} {Q : Exit → Act → World → Prop} (s x : Operand)
    (hop : o.op = .call { callee := .builtin .append, args := #[s, x], argTypes := #[47, 47] })
    (h : Owns lo w0 w L) (i : Nat) {v : Value} {ps : List (Int × Int)} {q : Int × Int} (hX : L[i]? = some (.pairs v ps))
    (hs : a.eval s = v) {g k : Nat} (hx : a.eval x = .slice (some ⟨g, 0, none⟩) 1 k) (hb : w.heap[g]? = some (.cells #[.int .i64 q.1, .int .i64 q.2] 57)) (hn : ps.length + 1 ≤ 1099511627776)
    (hK : ∀ A' c' w', Owns lo w0 w' (L.set i (.pairs (.slice A' (ps ++ [q]).length c') (ps ++ [q]))) → K (a.put o.dst (.slice A' (ps ++ [q]).length c')) w') : o.wp Try.prog a w K Q := by
  obtain ⟨A', c', w', hrun, hO⟩ := h.pushP i hX (k := k) hb hn o.type
  unfold Oper.wp execOp
  simp only [hop, resolve, invoke, builtin, Sem.run_bind, Sem.run_pure, Result.andThen_ok, List.map_toArray, List.map_cons, List.map_nil, hs, hx, hrun]
  exact hK A' c' w' hO
theorem wpList_pushPO {ops : Array Oper} {rest : List Oper} {o : Oper} {a : Act} {Q : Exit → Act → World → Prop} (hgd : o.guard = none) (s x : Operand)
    (hop : o.op = .call { callee := .builtin .append, args := #[s, x], argTypes := #[47, 47] })
    (h : Owns lo w0 w L) (i : Nat) {v : Value} {ps : List (Int × Int)} {q : Int × Int} (hX : L[i]? = some (.pairs v ps))
    (hs : a.eval s = v) {g k : Nat} (hx : a.eval x = .slice (some ⟨g, 0, none⟩) 1 k) (hb : w.heap[g]? = some (.cells #[.int .i64 q.1, .int .i64 q.2] 57)) (hn : ps.length + 1 ≤ 1099511627776)
    (hK : ∀ A' c' w', Owns lo w0 w' (L.set i (.pairs (.slice A' (ps ++ [q]).length c') (ps ++ [q]))) → wpList Try.prog ops Q rest (a.put o.dst (.slice A' (ps ++ [q]).length c')) w') : wpList Try.prog ops Q (o :: rest) a w :=
  wpList_plain hgd fun _ hK' => wp_pushPO s x hop h i hX hs hx hb hn fun A' c' w' hO => hK' _ _ (hK A' c' w' hO)
end
/-- A heap and pairs were drawn. -/
def DrewHP (lo : Nat) (w0 : World) (L : List OB) (i g : Nat) (A : Option Addr) (n c p : Nat) (e : Ending) (w' : World) : Prop :=
  ∃ (h : Hp) (cv : Value) (rvs : List Value) (rv rv0 v : Value) (rs0 : List Int) (ps : List (Int × Int)) (p' : Nat), e = .returned (.tuple #[.agg #[cv, rv], v]) ∧ SmG h ∧ TailOf rv rv0 h.roots rs0 ∧ ps.length ≤ 60 ∧ p ≤ p' ∧ p' ≤ p + 2000 ∧ Owns lo w0 w' (.pairs v ps :: .cells cv rvs h.cells :: .ints rv0 rs0 :: L.set i (.rdr g A n c p'))
/-- A heap and pairs, of the call's own. -/
def DrawnHP (w : World) (e : Ending) (w' : World) : Prop :=
  ∃ (h : Hp) (cv : Value) (rvs : List Value) (rv rv0 v : Value) (rs0 : List Int) (ps : List (Int × Int)), e = .returned (.tuple #[.agg #[cv, rv], v]) ∧ SmG h ∧ TailOf rv rv0 h.roots rs0 ∧ ps.length ≤ 60 ∧ Owns w.heap.size w w' [.pairs v ps, .cells cv rvs h.cells, .ints rv0 rs0]
set_option maxHeartbeats 6400000 in
set_option maxRecDepth 20000 in
theorem pairs_own {lo : Nat} {w0 w : World} {L : List OB} {g : Nat} {A : Option Addr} {n c p : Nat} (h : Owns lo w0 w L) (i : Nat) (hX : L[i]? = some (.rdr g A n c p)) {bs : List Int} (hr : RdU w0 lo A n c bs) (hp : p ≤ 600000) (N : Int) (hN0 : 1 ≤ N) (hN1 : N ≤ 1000) :
    Calls Try.prog 56 #[.pointer (some ⟨g, 0, none⟩), .int .i64 N] w (DrewHP lo w0 L i g A n c p) := by
  have H := h.box [.slice none 0 0, .slice none 0 0] 27
  clear h
  go_enter Try.func56, Try.ntmps56
  go_wp2_with fail
  refine (heap_own H (i + 1) hX hr (by omega) N (by omega) hN1).mono ?_
  rintro e w1 ⟨T, cv, rvs, rv, rv0, rs0, p1, rfl, hS, ht, hp1, hp2, H1⟩
  simp only [List.set_cons_succ] at H1
  obtain ⟨C, kC, rfl, -⟩ := H1.formC 0 rfl
  obtain ⟨R0, kR0, e0, -⟩ := H1.formI 1 rfl
  obtain ⟨R, nR, kR, rfl⟩ := ht.form e0
  clear e0 H
  have H2 := (H1.box [.slice C T.cells.length kC, .slice R nR kR] 27).litP [] zero_le_maxLen
  clear H1
  simp only [pairVals, List.length_nil, World.size_alloc] at H2
  have HT := Go.Lib.hid ht
  have hlen := hS.len
  have HS := Go.Lib.hid hS
  clear ht hS
  go_wp2_with fail
  refine (pick_own H2 (i + 5) (set_get hX _) hr (by omega) 7 (by unfold I64; omega)).mono ?_
  rintro e w2 ⟨x, rfl, hx7, H3⟩
  replace hx7 : (x : Int) < 7 := by omega
  simp only [List.set_cons_succ, List.set_set] at H3
  clear H2
  go_wp2_with fail
  go_loopw [7, 8, 9, 10] (fun v7 v8 _ _ wr => ∃ (v : Value) (k : Nat) (ps : List (Int × Int)) (p' : Nat), v7 = v ∧ v8 = .int .i64 k ∧ k ≤ x ∧ ps.length + k ≤ x ∧ p ≤ p' ∧ p' + 2 * k ≤ p + 1001 + 2 * x ∧ Owns lo w0 wr (.pairs v ps :: .box w1.heap.size [.slice C T.cells.length kC, .slice R nR kR] 27 :: .cells (.slice C T.cells.length kC) rvs T.cells :: .ints rv0 rs0 :: .box w.heap.size [.slice none 0 0, .slice none 0 0] 27 :: L.set i (.rdr g A n c p'))) (fun _ v8 _ _ _ => (intOf v8).toNat)
  case atStart => exact ⟨_, x, [], p1 + 1, rfl, rfl, Nat.le_refl _, by simp, by omega, by omega, H3⟩
  case round =>
    have hx6 : x ≤ 6 := by omega
    clear H3 hp1 hp2 hx7
    obtain ⟨v, k, ps, p2, hv, rfl, hk, hl, hp1, hp2, H⟩ := hrel
    obtain rfl := hv.symm
    obtain ⟨x0, x1, x2, x3⟩ := H.box2 1 rfl
    by_cases hk0 : k = 0
    · subst hk0
      go_wp2_with fail
      refine (odd_own H (i + 5) (set_get hX _) hr (by omega) N (by omega) (by omega)).mono ?_
      rintro e w6 ⟨bo, rfl, H6⟩
      simp only [List.set_cons_succ, List.set_set] at H6
      clear H x0 x1 x2 x3
      obtain ⟨x0, x1, x2, x3⟩ := H6.box2 1 rfl
      cases bo
      · obtain ⟨w0_, w1_, -, -⟩ := H6.box2 1 rfl
        obtain ⟨y0, y1, y2, y3⟩ := H6.box2 4 rfl
        have HZ := (((H6.putBox 4 rfl 0 (.slice C T.cells.length kC)).putBox 4 rfl 1 (.slice R nR kR)).erase 1)
        simp only [List.set_cons_zero, List.set_cons_succ, List.eraseIdx_cons_zero, List.eraseIdx_cons_succ] at HZ
        obtain ⟨z0, z1, -, -⟩ := HZ.box2 3 rfl
        have HZ2 := HZ.erase 3
        simp only [List.eraseIdx_cons_zero, List.eraseIdx_cons_succ] at HZ2
        obtain ⟨z2, -, -, -⟩ := (H6.putBox 4 rfl 0 (.slice C T.cells.length kC)).box2 4 rfl
        have HSF : Hid (DrewHP lo w0 L i g A n c p (.returned (.tuple #[.agg #[.slice C T.cells.length kC, .slice R nR kR], v])) _) := Go.Lib.hid ⟨T, _, rvs, _, _, _, _, ps, (p2 + 1), rfl, HS.out, HT.out, by omega, by omega, by omega, HZ2⟩
        clear H6 HZ HZ2
        go_wp2
        exact bodyPost_ret (v := .tuple #[.agg #[.slice C T.cells.length kC, .slice R nR kR], v]) (by simp [results, Try.results56, go_sem, z0, z1]) rfl HSF.out
      · go_wp2_with fail
        have HX := H6.drew
        have H0 := Go.Lib.hid H6
        clear H6 x0 x1 x2 x3
        obtain ⟨x0, x1, -, -⟩ := HX.box2 1 rfl
        refine wp_region_tree (fun w' => w'.cell? ⟨w1.heap.size, 0, none⟩ = some (.slice C T.cells.length kC) ∧ w'.cell? ⟨w1.heap.size, 1, none⟩ = some (.slice R nR kR)) 14 [10] (.take 0 (.take 1 (.take 2 (.take 3 (.take 4 (.take 5 (.take 7 (.alt 6 (.alt 8 (.take 9 (.alt 10 (.alt 11 (.alt 12 (.take 13 (.done)) (.stop)) (.stop)) (.stop))) (.stop)) (.alt 8 (.alt 6 (.take 9 (.alt 10 (.alt 11 (.alt 12 (.take 13 (.done)) (.stop)) (.stop)) (.stop))) (.stop)) (.stop)))))))))) (by kernel_rfl) (by kernel_rfl) (by kernel_rfl) (⟨x0, x1⟩) ?_
        simp only [fillT, List.getElem?_cons_zero, List.getElem?_cons_succ, Nat.reduceBEq]
        repeat (first
          | (with_reducible refine po_take (v := ?_) ?_ (fun w' hS' => ?_) ?_
             rotate_left
             · (go_simp; done)
             · ((try dsimp only at hS'); go_simp; try with_reducible rfl)
             simp only [Act.put, List.setIfInBounds_toArray, List.set_cons_zero, List.set_cons_succ])
          | (with_reducible refine po_skip ?_ ?_
             · (go_simp; done)
             simp only [Act.put, List.setIfInBounds_toArray, List.set_cons_zero, List.set_cons_succ]))
        with_reducible refine po_run ?_ (fun K hK => ?_) ?_
        · (go_simp; done)
        · -- operation 6 first
          try (revert x0 x1 HX; generalize World.drew _ = wd; intro HX x0 x1)
          go_simp
          replace HX := HX.litP [(-1, 0), (0, (T.cells.length : Int))] (by show 2 ≤ maxLen; unfold maxLen; omega)
          try simp only [pairVals, List.length_cons, List.length_nil, Nat.zero_add, Nat.reduceAdd] at HX
          clear x0 x1
          obtain ⟨x0, x1, -, -⟩ := HX.box2 2 rfl
          refine hK.out _ _ (.inr (⟨x0, x1⟩)) ?_
          clear hK K
          revert x0 x1 HX
          generalize World.alloc _ _ = wz
          intro HX x0 x1
          with_reducible refine po_run ?_ (fun K hK => ?_) ?_
          · (go_simp; done)
          rotate_left
          · exact po_stop
          try (revert x0 x1 HX; generalize World.drew _ = wd; intro HX x0 x1)
          go_simp
          refine (pick_own HX (i + 6) (set_get hX _) hr (by omega) 2 (by unfold I64; omega)).mono ?_
          rintro e waj ⟨j2, rfl, hj2, HY⟩
          replace hj2 : j2 < 2 := by omega
          have hj2' : (j2 : Int) < 2 := by omega
          simp only [List.set_cons_succ, List.set_set] at HY
          clear HX x0 x1
          have HX := HY
          clear HY
          obtain ⟨x0, x1, -, -⟩ := HX.box2 2 rfl
          refine hK.out _ _ (.inr (⟨x0, x1⟩)) ?_
          clear hK K
          repeat (first
            | (with_reducible refine po_take (v := ?_) ?_ (fun w' hS' => ?_) ?_
               rotate_left
               · (go_simp; done)
               · ((try dsimp only at hS'); go_simp; try with_reducible rfl)
               simp only [Act.put, List.setIfInBounds_toArray, List.set_cons_zero, List.set_cons_succ])
            | (with_reducible refine po_skip ?_ ?_
               · (go_simp; done)
               simp only [Act.put, List.setIfInBounds_toArray, List.set_cons_zero, List.set_cons_succ]))
          with_reducible refine po_run ?_ (fun K hK => ?_) ?_
          · (go_simp; done)
          rotate_left
          · exact po_stop
          obtain ⟨q1, q2, hv2⟩ : ∃ q1 q2, ([(-1, 0), (0, (T.cells.length : Int))] : List (Int × Int))[j2]? = some (q1, q2) := ⟨_, _, List.getElem?_eq_getElem (by simp; omega)⟩
          obtain ⟨zz, zy⟩ := HX.pairAt 0 rfl (j := j2) hv2
          go_simp
          clear zz zy
          refine hK.out _ _ (.inr (⟨x0, x1⟩)) ?_
          clear hK K
          with_reducible refine po_run ?_ (fun K hK => ?_) ?_
          · (go_simp; done)
          rotate_left
          · exact po_stop
          go_simp
          replace HX := HX.box [.int .i64 q1, .int .i64 q2] 57
          try simp only [World.size_alloc, drew_size] at HX
          clear x0 x1
          obtain ⟨x0, x1, -, -⟩ := HX.box2 3 rfl
          refine hK.out _ _ (.inr (⟨x0, x1⟩)) ?_
          clear hK K
          revert x0 x1 HX
          generalize World.alloc _ _ = wz
          intro HX x0 x1
          with_reducible refine po_run ?_ (fun K hK => ?_) ?_
          · (go_simp; done)
          rotate_left
          · exact po_stop
          refine wp_pushPO (q := (q1, q2)) (.tmp 60) (.tmp 71) rfl HX 2 rfl rfl rfl (HX.holds 0 _ rfl).2 (by omega) ?_
          intro A3 k3 w9 HY
          simp only [List.set_cons_zero, List.set_cons_succ] at HY
          clear HX x0 x1
          have HX := HY
          clear HY
          obtain ⟨x0, x1, -, -⟩ := HX.box2 3 rfl
          refine hK.out _ _ (.inr (⟨x0, x1⟩)) ?_
          clear hK K
          repeat (first
            | (with_reducible refine po_take (v := ?_) ?_ (fun w' hS' => ?_) ?_
               rotate_left
               · (go_simp; done)
               · ((try dsimp only at hS'); go_simp; try with_reducible rfl)
               simp only [Act.put, List.setIfInBounds_toArray, List.set_cons_zero, List.set_cons_succ])
            | (with_reducible refine po_skip ?_ ?_
               · (go_simp; done)
               simp only [Act.put, List.setIfInBounds_toArray, List.set_cons_zero, List.set_cons_succ]))
          refine po_done ?_
          have HE := (HX.erase 0).erase 0
          simp only [List.eraseIdx_cons_zero, List.length_append, List.length_cons, List.length_nil, Nat.zero_add] at HE
          clear HX H0 x0 x1
          obtain ⟨w0_, w1_, -, -⟩ := HE.box2 1 rfl
          obtain ⟨y0, y1, y2, y3⟩ := HE.box2 4 rfl
          have HZ := (((HE.putBox 4 rfl 0 (.slice C T.cells.length kC)).putBox 4 rfl 1 (.slice R nR kR)).erase 1)
          simp only [List.set_cons_zero, List.set_cons_succ, List.eraseIdx_cons_zero, List.eraseIdx_cons_succ] at HZ
          obtain ⟨z0, z1, -, -⟩ := HZ.box2 3 rfl
          have HZ2 := HZ.erase 3
          simp only [List.eraseIdx_cons_zero, List.eraseIdx_cons_succ] at HZ2
          obtain ⟨z2, -, -, -⟩ := (HE.putBox 4 rfl 0 (.slice C T.cells.length kC)).box2 4 rfl
          have HSF : Hid (DrewHP lo w0 L i g A n c p (.returned (.tuple #[.agg #[.slice C T.cells.length kC, .slice R nR kR], .slice A3 (ps.length + 1) k3])) _) := Go.Lib.hid ⟨T, _, rvs, _, _, _, _, (ps ++ [(q1, q2)]), (p2 + 2), rfl, HS.out, HT.out, by simp; omega, by omega, by omega, HZ2⟩
          clear HE HZ HZ2
          go_wp2
          exact bodyPost_ret (v := .tuple #[.agg #[.slice C T.cells.length kC, .slice R nR kR], .slice A3 (ps.length + 1) k3]) (by simp [results, Try.results56, go_sem, z0, z1]) rfl HSF.out
        with_reducible refine po_run ?_ (fun K hK => ?_) ?_
        · (go_simp; done)
        rotate_left
        · exact po_stop
        try (revert x0 x1 HX; generalize World.drew _ = wd; intro HX x0 x1)
        go_simp
        refine (pick_own HX (i + 5) (set_get hX _) hr (by omega) 2 (by unfold I64; omega)).mono ?_
        rintro e waj ⟨j2, rfl, hj2, HY⟩
        replace hj2 : j2 < 2 := by omega
        have hj2' : (j2 : Int) < 2 := by omega
        simp only [List.set_cons_succ, List.set_set] at HY
        clear HX x0 x1
        have HX := HY
        clear HY
        obtain ⟨x0, x1, -, -⟩ := HX.box2 1 rfl
        refine hK.out _ _ (.inr (⟨x0, x1⟩)) ?_
        clear hK K
        with_reducible refine po_run ?_ (fun K hK => ?_) ?_
        · (go_simp; done)
        rotate_left
        · exact po_stop
        try (revert x0 x1 HX; generalize World.drew _ = wd; intro HX x0 x1)
        go_simp
        replace HX := HX.litP [(-1, 0), (0, (T.cells.length : Int))] (by show 2 ≤ maxLen; unfold maxLen; omega)
        try simp only [pairVals, List.length_cons, List.length_nil, Nat.zero_add, Nat.reduceAdd] at HX
        clear x0 x1
        obtain ⟨x0, x1, -, -⟩ := HX.box2 2 rfl
        refine hK.out _ _ (.inr (⟨x0, x1⟩)) ?_
        clear hK K
        revert x0 x1 HX
        generalize World.alloc _ _ = wz
        intro HX x0 x1
        repeat (first
          | (with_reducible refine po_take (v := ?_) ?_ (fun w' hS' => ?_) ?_
             rotate_left
             · (go_simp; done)
             · ((try dsimp only at hS'); go_simp; try with_reducible rfl)
             simp only [Act.put, List.setIfInBounds_toArray, List.set_cons_zero, List.set_cons_succ])
          | (with_reducible refine po_skip ?_ ?_
             · (go_simp; done)
             simp only [Act.put, List.setIfInBounds_toArray, List.set_cons_zero, List.set_cons_succ]))
        with_reducible refine po_run ?_ (fun K hK => ?_) ?_
        · (go_simp; done)
        rotate_left
        · exact po_stop
        obtain ⟨q1, q2, hv2⟩ : ∃ q1 q2, ([(-1, 0), (0, (T.cells.length : Int))] : List (Int × Int))[j2]? = some (q1, q2) := ⟨_, _, List.getElem?_eq_getElem (by simp; omega)⟩
        obtain ⟨zz, zy⟩ := HX.pairAt 0 rfl (j := j2) hv2
        go_simp
        clear zz zy
        refine hK.out _ _ (.inr (⟨x0, x1⟩)) ?_
        clear hK K
        with_reducible refine po_run ?_ (fun K hK => ?_) ?_
        · (go_simp; done)
        rotate_left
        · exact po_stop
        go_simp
        replace HX := HX.box [.int .i64 q1, .int .i64 q2] 57
        try simp only [World.size_alloc, drew_size] at HX
        clear x0 x1
        obtain ⟨x0, x1, -, -⟩ := HX.box2 3 rfl
        refine hK.out _ _ (.inr (⟨x0, x1⟩)) ?_
        clear hK K
        revert x0 x1 HX
        generalize World.alloc _ _ = wz
        intro HX x0 x1
        with_reducible refine po_run ?_ (fun K hK => ?_) ?_
        · (go_simp; done)
        rotate_left
        · exact po_stop
        refine wp_pushPO (q := (q1, q2)) (.tmp 60) (.tmp 71) rfl HX 2 rfl rfl rfl (HX.holds 0 _ rfl).2 (by omega) ?_
        intro A3 k3 w9 HY
        simp only [List.set_cons_zero, List.set_cons_succ] at HY
        clear HX x0 x1
        have HX := HY
        clear HY
        obtain ⟨x0, x1, -, -⟩ := HX.box2 3 rfl
        refine hK.out _ _ (.inr (⟨x0, x1⟩)) ?_
        clear hK K
        repeat (first
          | (with_reducible refine po_take (v := ?_) ?_ (fun w' hS' => ?_) ?_
             rotate_left
             · (go_simp; done)
             · ((try dsimp only at hS'); go_simp; try with_reducible rfl)
             simp only [Act.put, List.setIfInBounds_toArray, List.set_cons_zero, List.set_cons_succ])
          | (with_reducible refine po_skip ?_ ?_
             · (go_simp; done)
             simp only [Act.put, List.setIfInBounds_toArray, List.set_cons_zero, List.set_cons_succ]))
        refine po_done ?_
        have HE := (HX.erase 0).erase 0
        simp only [List.eraseIdx_cons_zero, List.length_append, List.length_cons, List.length_nil, Nat.zero_add] at HE
        clear HX H0 x0 x1
        obtain ⟨w0_, w1_, -, -⟩ := HE.box2 1 rfl
        obtain ⟨y0, y1, y2, y3⟩ := HE.box2 4 rfl
        have HZ := (((HE.putBox 4 rfl 0 (.slice C T.cells.length kC)).putBox 4 rfl 1 (.slice R nR kR)).erase 1)
        simp only [List.set_cons_zero, List.set_cons_succ, List.eraseIdx_cons_zero, List.eraseIdx_cons_succ] at HZ
        obtain ⟨z0, z1, -, -⟩ := HZ.box2 3 rfl
        have HZ2 := HZ.erase 3
        simp only [List.eraseIdx_cons_zero, List.eraseIdx_cons_succ] at HZ2
        obtain ⟨z2, -, -, -⟩ := (HE.putBox 4 rfl 0 (.slice C T.cells.length kC)).box2 4 rfl
        have HSF : Hid (DrewHP lo w0 L i g A n c p (.returned (.tuple #[.agg #[.slice C T.cells.length kC, .slice R nR kR], .slice A3 (ps.length + 1) k3])) _) := Go.Lib.hid ⟨T, _, rvs, _, _, _, _, (ps ++ [(q1, q2)]), (p2 + 2), rfl, HS.out, HT.out, by simp; omega, by omega, by omega, HZ2⟩
        clear HE HZ HZ2
        go_wp2
        exact bodyPost_ret (v := .tuple #[.agg #[.slice C T.cells.length kC, .slice R nR kR], .slice A3 (ps.length + 1) k3]) (by simp [results, Try.results56, go_sem, z0, z1]) rfl HSF.out
    by_cases hc0 : 0 < T.cells.length
    rotate_left
    · have hk1 : 0 < k := by omega
      have hc1 : ¬ (0 : Int) < (T.cells.length : Int) := by omega
      go_wp2_with fail
      refine (odd_own H (i + 5) (set_get hX _) hr (by omega) N (by omega) (by omega)).mono ?_
      rintro e w6 ⟨bo, rfl, H6⟩
      simp only [List.set_cons_succ, List.set_set] at H6
      clear H x0 x1 x2 x3
      obtain ⟨x0, x1, x2, x3⟩ := H6.box2 1 rfl
      cases bo
      · obtain ⟨w0_, w1_, -, -⟩ := H6.box2 1 rfl
        obtain ⟨y0, y1, y2, y3⟩ := H6.box2 4 rfl
        have HZ := (((H6.putBox 4 rfl 0 (.slice C T.cells.length kC)).putBox 4 rfl 1 (.slice R nR kR)).erase 1)
        simp only [List.set_cons_zero, List.set_cons_succ, List.eraseIdx_cons_zero, List.eraseIdx_cons_succ] at HZ
        obtain ⟨z0, z1, -, -⟩ := HZ.box2 3 rfl
        have HZ2 := HZ.erase 3
        simp only [List.eraseIdx_cons_zero, List.eraseIdx_cons_succ] at HZ2
        obtain ⟨z2, -, -, -⟩ := (H6.putBox 4 rfl 0 (.slice C T.cells.length kC)).box2 4 rfl
        have HSF : Hid (DrewHP lo w0 L i g A n c p (.returned (.tuple #[.agg #[.slice C T.cells.length kC, .slice R nR kR], v])) _) := Go.Lib.hid ⟨T, _, rvs, _, _, _, _, ps, (p2 + 1), rfl, HS.out, HT.out, by omega, by omega, by omega, HZ2⟩
        clear H6 HZ HZ2
        go_wp2
        exact bodyPost_ret (v := .tuple #[.agg #[.slice C T.cells.length kC, .slice R nR kR], v]) (by simp [results, Try.results56, go_sem, z0, z1]) rfl HSF.out
      · go_wp2_with fail
        have HX := H6.drew
        have H0 := Go.Lib.hid H6
        clear H6 x0 x1 x2 x3
        obtain ⟨x0, x1, -, -⟩ := HX.box2 1 rfl
        refine wp_region_tree (fun w' => w'.cell? ⟨w1.heap.size, 0, none⟩ = some (.slice C T.cells.length kC) ∧ w'.cell? ⟨w1.heap.size, 1, none⟩ = some (.slice R nR kR)) 14 [10] (.take 0 (.take 1 (.take 2 (.take 3 (.take 4 (.take 5 (.take 7 (.alt 6 (.alt 8 (.take 9 (.alt 10 (.alt 11 (.alt 12 (.take 13 (.done)) (.stop)) (.stop)) (.stop))) (.stop)) (.alt 8 (.alt 6 (.take 9 (.alt 10 (.alt 11 (.alt 12 (.take 13 (.done)) (.stop)) (.stop)) (.stop))) (.stop)) (.stop)))))))))) (by kernel_rfl) (by kernel_rfl) (by kernel_rfl) (⟨x0, x1⟩) ?_
        simp only [fillT, List.getElem?_cons_zero, List.getElem?_cons_succ, Nat.reduceBEq]
        repeat (first
          | (with_reducible refine po_take (v := ?_) ?_ (fun w' hS' => ?_) ?_
             rotate_left
             · (go_simp; done)
             · ((try dsimp only at hS'); go_simp; try with_reducible rfl)
             simp only [Act.put, List.setIfInBounds_toArray, List.set_cons_zero, List.set_cons_succ])
          | (with_reducible refine po_skip ?_ ?_
             · (go_simp; done)
             simp only [Act.put, List.setIfInBounds_toArray, List.set_cons_zero, List.set_cons_succ]))
        with_reducible refine po_run ?_ (fun K hK => ?_) ?_
        · (go_simp; done)
        · -- operation 6 first
          try (revert x0 x1 HX; generalize World.drew _ = wd; intro HX x0 x1)
          go_simp
          replace HX := HX.litP [(-1, 0), (0, (T.cells.length : Int))] (by show 2 ≤ maxLen; unfold maxLen; omega)
          try simp only [pairVals, List.length_cons, List.length_nil, Nat.zero_add, Nat.reduceAdd] at HX
          clear x0 x1
          obtain ⟨x0, x1, -, -⟩ := HX.box2 2 rfl
          refine hK.out _ _ (.inr (⟨x0, x1⟩)) ?_
          clear hK K
          revert x0 x1 HX
          generalize World.alloc _ _ = wz
          intro HX x0 x1
          with_reducible refine po_run ?_ (fun K hK => ?_) ?_
          · (go_simp; done)
          rotate_left
          · exact po_stop
          try (revert x0 x1 HX; generalize World.drew _ = wd; intro HX x0 x1)
          go_simp
          refine (pick_own HX (i + 6) (set_get hX _) hr (by omega) 2 (by unfold I64; omega)).mono ?_
          rintro e waj ⟨j2, rfl, hj2, HY⟩
          replace hj2 : j2 < 2 := by omega
          have hj2' : (j2 : Int) < 2 := by omega
          simp only [List.set_cons_succ, List.set_set] at HY
          clear HX x0 x1
          have HX := HY
          clear HY
          obtain ⟨x0, x1, -, -⟩ := HX.box2 2 rfl
          refine hK.out _ _ (.inr (⟨x0, x1⟩)) ?_
          clear hK K
          repeat (first
            | (with_reducible refine po_take (v := ?_) ?_ (fun w' hS' => ?_) ?_
               rotate_left
               · (go_simp; done)
               · ((try dsimp only at hS'); go_simp; try with_reducible rfl)
               simp only [Act.put, List.setIfInBounds_toArray, List.set_cons_zero, List.set_cons_succ])
            | (with_reducible refine po_skip ?_ ?_
               · (go_simp; done)
               simp only [Act.put, List.setIfInBounds_toArray, List.set_cons_zero, List.set_cons_succ]))
          with_reducible refine po_run ?_ (fun K hK => ?_) ?_
          · (go_simp; done)
          rotate_left
          · exact po_stop
          obtain ⟨q1, q2, hv2⟩ : ∃ q1 q2, ([(-1, 0), (0, (T.cells.length : Int))] : List (Int × Int))[j2]? = some (q1, q2) := ⟨_, _, List.getElem?_eq_getElem (by simp; omega)⟩
          obtain ⟨zz, zy⟩ := HX.pairAt 0 rfl (j := j2) hv2
          go_simp
          clear zz zy
          refine hK.out _ _ (.inr (⟨x0, x1⟩)) ?_
          clear hK K
          with_reducible refine po_run ?_ (fun K hK => ?_) ?_
          · (go_simp; done)
          rotate_left
          · exact po_stop
          go_simp
          replace HX := HX.box [.int .i64 q1, .int .i64 q2] 57
          try simp only [World.size_alloc, drew_size] at HX
          clear x0 x1
          obtain ⟨x0, x1, -, -⟩ := HX.box2 3 rfl
          refine hK.out _ _ (.inr (⟨x0, x1⟩)) ?_
          clear hK K
          revert x0 x1 HX
          generalize World.alloc _ _ = wz
          intro HX x0 x1
          with_reducible refine po_run ?_ (fun K hK => ?_) ?_
          · (go_simp; done)
          rotate_left
          · exact po_stop
          refine wp_pushPO (q := (q1, q2)) (.tmp 60) (.tmp 71) rfl HX 2 rfl rfl rfl (HX.holds 0 _ rfl).2 (by omega) ?_
          intro A3 k3 w9 HY
          simp only [List.set_cons_zero, List.set_cons_succ] at HY
          clear HX x0 x1
          have HX := HY
          clear HY
          obtain ⟨x0, x1, -, -⟩ := HX.box2 3 rfl
          refine hK.out _ _ (.inr (⟨x0, x1⟩)) ?_
          clear hK K
          repeat (first
            | (with_reducible refine po_take (v := ?_) ?_ (fun w' hS' => ?_) ?_
               rotate_left
               · (go_simp; done)
               · ((try dsimp only at hS'); go_simp; try with_reducible rfl)
               simp only [Act.put, List.setIfInBounds_toArray, List.set_cons_zero, List.set_cons_succ])
            | (with_reducible refine po_skip ?_ ?_
               · (go_simp; done)
               simp only [Act.put, List.setIfInBounds_toArray, List.set_cons_zero, List.set_cons_succ]))
          refine po_done ?_
          have HE := (HX.erase 0).erase 0
          simp only [List.eraseIdx_cons_zero, List.length_append, List.length_cons, List.length_nil, Nat.zero_add] at HE
          clear HX H0 x0 x1
          obtain ⟨w0_, w1_, -, -⟩ := HE.box2 1 rfl
          obtain ⟨y0, y1, y2, y3⟩ := HE.box2 4 rfl
          have HZ := (((HE.putBox 4 rfl 0 (.slice C T.cells.length kC)).putBox 4 rfl 1 (.slice R nR kR)).erase 1)
          simp only [List.set_cons_zero, List.set_cons_succ, List.eraseIdx_cons_zero, List.eraseIdx_cons_succ] at HZ
          obtain ⟨z0, z1, -, -⟩ := HZ.box2 3 rfl
          have HZ2 := HZ.erase 3
          simp only [List.eraseIdx_cons_zero, List.eraseIdx_cons_succ] at HZ2
          obtain ⟨z2, -, -, -⟩ := (HE.putBox 4 rfl 0 (.slice C T.cells.length kC)).box2 4 rfl
          have HSF : Hid (DrewHP lo w0 L i g A n c p (.returned (.tuple #[.agg #[.slice C T.cells.length kC, .slice R nR kR], .slice A3 (ps.length + 1) k3])) _) := Go.Lib.hid ⟨T, _, rvs, _, _, _, _, (ps ++ [(q1, q2)]), (p2 + 2), rfl, HS.out, HT.out, by simp; omega, by omega, by omega, HZ2⟩
          clear HE HZ HZ2
          go_wp2
          exact bodyPost_ret (v := .tuple #[.agg #[.slice C T.cells.length kC, .slice R nR kR], .slice A3 (ps.length + 1) k3]) (by simp [results, Try.results56, go_sem, z0, z1]) rfl HSF.out
        with_reducible refine po_run ?_ (fun K hK => ?_) ?_
        · (go_simp; done)
        rotate_left
        · exact po_stop
        try (revert x0 x1 HX; generalize World.drew _ = wd; intro HX x0 x1)
        go_simp
        refine (pick_own HX (i + 5) (set_get hX _) hr (by omega) 2 (by unfold I64; omega)).mono ?_
        rintro e waj ⟨j2, rfl, hj2, HY⟩
        replace hj2 : j2 < 2 := by omega
        have hj2' : (j2 : Int) < 2 := by omega
        simp only [List.set_cons_succ, List.set_set] at HY
        clear HX x0 x1
        have HX := HY
        clear HY
        obtain ⟨x0, x1, -, -⟩ := HX.box2 1 rfl
        refine hK.out _ _ (.inr (⟨x0, x1⟩)) ?_
        clear hK K
        with_reducible refine po_run ?_ (fun K hK => ?_) ?_
        · (go_simp; done)
        rotate_left
        · exact po_stop
        try (revert x0 x1 HX; generalize World.drew _ = wd; intro HX x0 x1)
        go_simp
        replace HX := HX.litP [(-1, 0), (0, (T.cells.length : Int))] (by show 2 ≤ maxLen; unfold maxLen; omega)
        try simp only [pairVals, List.length_cons, List.length_nil, Nat.zero_add, Nat.reduceAdd] at HX
        clear x0 x1
        obtain ⟨x0, x1, -, -⟩ := HX.box2 2 rfl
        refine hK.out _ _ (.inr (⟨x0, x1⟩)) ?_
        clear hK K
        revert x0 x1 HX
        generalize World.alloc _ _ = wz
        intro HX x0 x1
        repeat (first
          | (with_reducible refine po_take (v := ?_) ?_ (fun w' hS' => ?_) ?_
             rotate_left
             · (go_simp; done)
             · ((try dsimp only at hS'); go_simp; try with_reducible rfl)
             simp only [Act.put, List.setIfInBounds_toArray, List.set_cons_zero, List.set_cons_succ])
          | (with_reducible refine po_skip ?_ ?_
             · (go_simp; done)
             simp only [Act.put, List.setIfInBounds_toArray, List.set_cons_zero, List.set_cons_succ]))
        with_reducible refine po_run ?_ (fun K hK => ?_) ?_
        · (go_simp; done)
        rotate_left
        · exact po_stop
        obtain ⟨q1, q2, hv2⟩ : ∃ q1 q2, ([(-1, 0), (0, (T.cells.length : Int))] : List (Int × Int))[j2]? = some (q1, q2) := ⟨_, _, List.getElem?_eq_getElem (by simp; omega)⟩
        obtain ⟨zz, zy⟩ := HX.pairAt 0 rfl (j := j2) hv2
        go_simp
        clear zz zy
        refine hK.out _ _ (.inr (⟨x0, x1⟩)) ?_
        clear hK K
        with_reducible refine po_run ?_ (fun K hK => ?_) ?_
        · (go_simp; done)
        rotate_left
        · exact po_stop
        go_simp
        replace HX := HX.box [.int .i64 q1, .int .i64 q2] 57
        try simp only [World.size_alloc, drew_size] at HX
        clear x0 x1
        obtain ⟨x0, x1, -, -⟩ := HX.box2 3 rfl
        refine hK.out _ _ (.inr (⟨x0, x1⟩)) ?_
        clear hK K
        revert x0 x1 HX
        generalize World.alloc _ _ = wz
        intro HX x0 x1
        with_reducible refine po_run ?_ (fun K hK => ?_) ?_
        · (go_simp; done)
        rotate_left
        · exact po_stop
        refine wp_pushPO (q := (q1, q2)) (.tmp 60) (.tmp 71) rfl HX 2 rfl rfl rfl (HX.holds 0 _ rfl).2 (by omega) ?_
        intro A3 k3 w9 HY
        simp only [List.set_cons_zero, List.set_cons_succ] at HY
        clear HX x0 x1
        have HX := HY
        clear HY
        obtain ⟨x0, x1, -, -⟩ := HX.box2 3 rfl
        refine hK.out _ _ (.inr (⟨x0, x1⟩)) ?_
        clear hK K
        repeat (first
          | (with_reducible refine po_take (v := ?_) ?_ (fun w' hS' => ?_) ?_
             rotate_left
             · (go_simp; done)
             · ((try dsimp only at hS'); go_simp; try with_reducible rfl)
             simp only [Act.put, List.setIfInBounds_toArray, List.set_cons_zero, List.set_cons_succ])
          | (with_reducible refine po_skip ?_ ?_
             · (go_simp; done)
             simp only [Act.put, List.setIfInBounds_toArray, List.set_cons_zero, List.set_cons_succ]))
        refine po_done ?_
        have HE := (HX.erase 0).erase 0
        simp only [List.eraseIdx_cons_zero, List.length_append, List.length_cons, List.length_nil, Nat.zero_add] at HE
        clear HX H0 x0 x1
        obtain ⟨w0_, w1_, -, -⟩ := HE.box2 1 rfl
        obtain ⟨y0, y1, y2, y3⟩ := HE.box2 4 rfl
        have HZ := (((HE.putBox 4 rfl 0 (.slice C T.cells.length kC)).putBox 4 rfl 1 (.slice R nR kR)).erase 1)
        simp only [List.set_cons_zero, List.set_cons_succ, List.eraseIdx_cons_zero, List.eraseIdx_cons_succ] at HZ
        obtain ⟨z0, z1, -, -⟩ := HZ.box2 3 rfl
        have HZ2 := HZ.erase 3
        simp only [List.eraseIdx_cons_zero, List.eraseIdx_cons_succ] at HZ2
        obtain ⟨z2, -, -, -⟩ := (HE.putBox 4 rfl 0 (.slice C T.cells.length kC)).box2 4 rfl
        have HSF : Hid (DrewHP lo w0 L i g A n c p (.returned (.tuple #[.agg #[.slice C T.cells.length kC, .slice R nR kR], .slice A3 (ps.length + 1) k3])) _) := Go.Lib.hid ⟨T, _, rvs, _, _, _, _, (ps ++ [(q1, q2)]), (p2 + 2), rfl, HS.out, HT.out, by simp; omega, by omega, by omega, HZ2⟩
        clear HE HZ HZ2
        go_wp2
        exact bodyPost_ret (v := .tuple #[.agg #[.slice C T.cells.length kC, .slice R nR kR], .slice A3 (ps.length + 1) k3]) (by simp [results, Try.results56, go_sem, z0, z1]) rfl HSF.out
    · obtain ⟨k', rfl⟩ : ∃ k', k = k' + 1 := ⟨k - 1, by omega⟩
      clear hk0
      have hc1 : (0 : Int) < (T.cells.length : Int) := by omega
      go_wp2_with fail
      refine (pick_own H (i + 5) (set_get hX _) hr (by omega) (T.cells.length : Int) (by unfold I64; omega)).mono ?_
      rintro e w3 ⟨a, rfl, ha, H4⟩
      replace ha : a < T.cells.length := by omega
      simp only [List.set_cons_succ, List.set_set] at H4
      clear H x0 x1 x2 x3
      obtain ⟨x0, x1, x2, x3⟩ := H4.box2 1 rfl
      go_wp2_with fail
      refine (pick_own H4 (i + 5) (set_get hX _) hr (by omega) (T.cells.length : Int) (by unfold I64; omega)).mono ?_
      rintro e w4 ⟨b, rfl, hb, H5⟩
      replace hb : b < T.cells.length := by omega
      simp only [List.set_cons_succ, List.set_set] at H5
      clear H4 x0 x1 x2 x3
      obtain ⟨x0, x1, x2, x3⟩ := H5.box2 1 rfl
      obtain ⟨l, hl1⟩ : ∃ l, Hid (T.cells[a]? = some l) := ⟨_, Go.Lib.hid (List.getElem?_eq_getElem ha)⟩
      obtain ⟨l2, hl2⟩ : ∃ l, Hid (T.cells[b]? = some l) := ⟨_, Go.Lib.hid (List.getElem?_eq_getElem hb)⟩
      obtain ⟨gC, cC, A1, c1, eC, -, u1, -, -, -, -, -, -, -⟩ := H5.cellW 2 rfl hl1
      simp only [Value.slice.injEq] at eC
      obtain ⟨rfl, -, rfl⟩ := eC
      obtain ⟨gC', cC', A2, c2, eC, -, u2, -, -, -, -, -, -, -⟩ := H5.cellW 2 rfl hl2
      simp only [Value.slice.injEq, Option.some.injEq, Addr.mk.injEq, and_true] at eC
      obtain ⟨rfl, -, rfl⟩ := eC
      cases hu : l.used
      · rw [hu] at u1
        clear hu
        go_wp2_with fail
        go_roundw
        case rel => exact ⟨_, k', ps, p2 + 2, rfl, by go_num, by omega, by omega, by omega, by omega, H5⟩
        case measure => simp [intOf]
      rw [hu] at u1
      clear hu
      cases hu : l2.used
      · rw [hu] at u2
        clear hu
        go_wp2_with fail
        go_roundw
        case rel => exact ⟨_, k', ps, p2 + 2, rfl, by go_num, by omega, by omega, by omega, by omega, H5⟩
        case measure => simp [intOf]
      rw [hu] at u2
      clear hu
      have H6 := H5.alloc (.cells #[.int .i64 (a : Int), .int .i64 (b : Int)] 57)
      go_wp2_with (at_builtin; go_loud (refine wpList_pushPO (q := ((a : Int), (b : Int))) rfl (.tmp 51) (.tmp 55) rfl H6 0 rfl rfl rfl (heap1 _ _) (by omega) ?_; intro A3 k3 w5 H7; simp only [List.set_cons_zero] at H7))
      go_roundw
      case rel => exact ⟨_, k', ps ++ [((a : Int), (b : Int))], p2 + 2, rfl, by go_num, by omega, by simp; omega, by omega, by omega, by simpa using H7⟩
      case measure => simp [intOf]
end Go.Proofs.Ytnpehidhoekfcaa
