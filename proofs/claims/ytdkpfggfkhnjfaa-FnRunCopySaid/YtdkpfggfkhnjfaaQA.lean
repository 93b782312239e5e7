/- A program drawn with one odd in some: any instructions, at most 41. For every code that can be read. -/
import Derived.Test.YtdkpfggfkhnjfaaQ
import Derived.Test.YtdkpfggfkhnjfaaDcA
namespace Go.Proofs.Ytdkpfggfkhnjfaa
open Go.RowKit
/-- A program was drawn, valid or not. -/
def DrewPA (lo : Nat) (w0 : World) (L : List OB) (i g : Nat) (A : Option Addr) (n c p : Nat) (e : Ending) (w' : World) : Prop :=
  ∃ (v : Value) (cs : List Cmd) (p' : Nat), e = .returned v ∧ cs.length ≤ 41 ∧ p ≤ p' ∧ p' ≤ p + 500 ∧ Owns lo w0 w' (.cmds v cs :: L.set i (.rdr g A n c p'))
theorem cmdVals_take : ∀ (m : Nat) (ps : List Cmd), cmdVals (ps.take m) = (cmdVals ps).take (m * 4)
  | 0, ps => by simp [cmdVals]
  | m + 1, [] => by simp [cmdVals]
  | m + 1, p :: ps => by
    rw [List.take_succ_cons, show (m + 1) * 4 = m * 4 + 1 + 1 + 1 + 1 by omega]
    simp only [cmdVals, List.take_succ_cons, cmdVals_take m ps]
theorem zeros_cmd : ∀ m : Nat, cmdVals (List.replicate m ⟨0, 0, 0, 0⟩) = List.replicate (m * 4) (Value.int .i64 0)
  | 0 => by simp [cmdVals]
  | m + 1 => by
    rw [List.replicate_succ, cmdVals, zeros_cmd m, show (m + 1) * 4 = m * 4 + 1 + 1 + 1 + 1 by omega]
    simp only [List.replicate_succ]
section
variable {lo : Nat} {w0 w : World} {L : List OB}
theorem Owns.cutQ (h : Owns lo w0 w L) (i : Nat) {g c : Nat} {cs : List Cmd} (hX : L[i]? = some (.cmds (.slice (some ⟨g, 0, none⟩) cs.length c) cs)) {m : Nat} (hm : m ≤ cs.length) : Owns lo w0 w (L.set i (.cmds (.slice (some ⟨g, 0, none⟩) m c) (cs.take m))) := by
  have h2 := h.shrink i hX m hm
  rw [← cmdVals_take] at h2
  have e : (cs.take m).length = m := by rw [List.length_take]; omega
  show Owns lo w0 w (L.set i (.row 46 4 (.slice (some ⟨g, 0, none⟩) m c) (cs.take m).length (cmdVals (cs.take m))))
  rw [e]
  exact h2
end
theorem wp_pushQO {lo : Nat} {w0 w : World} {L : List OB} {o : Oper} {a : Act} {K : Act → World → Prop} {Q : Exit → Act → World → Prop} (s x : Operand)
    (hop : o.op = .call { callee := .builtin .append, args := #[s, x], argTypes := #[23, 23] })
    (h : Owns lo w0 w L) (i : Nat) {v : Value} {cs : List Cmd} {q : Cmd} (hX : L[i]? = some (.cmds v cs))
    (hs : a.eval s = v) {g k : Nat} (hx : a.eval x = .slice (some ⟨g, 0, none⟩) 1 k) (hb : w.heap[g]? = some (.cells #[.int .i64 q.op, .int .i64 q.a, .int .i64 q.b, .int .i64 q.c] 46)) (hn : cs.length + 1 ≤ 1099511627776)
    (hK : ∀ A' c' w', Owns lo w0 w' (L.set i (.cmds (.slice A' (cs ++ [q]).length c') (cs ++ [q]))) → K (a.put o.dst (.slice A' (cs ++ [q]).length c')) w') : o.wp Try.prog a w K Q := by
  obtain ⟨A', c', w', hrun, hO⟩ := h.pushQ i hX (k := k) hb hn o.type
  unfold Oper.wp execOp
  simp only [hop, resolve, invoke, builtin, Sem.run_bind, Sem.run_pure, Result.andThen_ok, List.map_toArray, List.map_cons, List.map_nil, hs, hx, hrun]
  exact hK A' c' w' hO
set_option maxHeartbeats 3200000 in
set_option maxRecDepth 20000 in
theorem program_any {lo : Nat} {w0 w : World} {L : List OB} {g : Nat} {A : Option Addr} {n c p : Nat} (h : Owns lo w0 w L) (i : Nat) (hX : L[i]? = some (.rdr g A n c p)) {bs : List Int} (hr : RdU w0 lo A n c bs) (hp : p ≤ 800000) (N : Int) (hN0 : 1 ≤ N) (hN1 : N ≤ 1000) :
    Calls Try.prog 31 #[.pointer (some ⟨g, 0, none⟩), .int .i64 N] w (DrewPA lo w0 L i g A n c p) := by
  have H1 : Owns lo w0 (w.alloc (.cells #[] 46)) (.cmds (.slice (some ⟨w.heap.size, 0, none⟩) 0 0) [] :: L) :=
    h.row (below_alloc _ _) (World.ownsRow_lit (e := 46) (size := 4) w #[] 0 (Nat.le_refl _) zero_le_maxLen (by simp))
  go_enter Try.func31, Try.ntmps31
  go_wp2_with fail
  refine (pick_own H1 (i + 1) hX hr (by omega) 41 (by unfold I64; omega)).mono ?_
  rintro e w1 ⟨x, rfl, hx, H2⟩
  replace hx : (x : Int) < 41 := by omega
  simp only [List.set_cons_succ] at H2
  go_wp2_with fail
  go_loopw [5, 6] (fun v5 i6 wr => ∃ (v : Value) (k : Nat) (cs : List Cmd) (p' : Nat), v5 = v ∧ i6 = .int .i64 k ∧ k ≤ x ∧ cs.length + k = x ∧ p ≤ p' ∧ p' ≤ p + 1 + 8 * cs.length ∧ Owns lo w0 wr (.cmds v cs :: L.set i (.rdr g A n c p'))) (fun _ i _ => (intOf i).toNat)
  case atStart => exact ⟨_, x, [], p + 1, rfl, rfl, Nat.le_refl _, by simp, by omega, by simp, H2⟩
  case round =>
    clear H1 H2
    obtain ⟨v, k, cs, p', hv, rfl, hk, hl, hp1, hp2, H⟩ := hrel
    obtain rfl := hv.symm
    by_cases hk0 : k = 0
    · subst hk0
      have hl40 : cs.length ≤ 40 := by omega
      clear hk hl
      go_wp2_with fail
      refine (odd_own H (i + 1) (set_get hX _) hr (by omega) N hN0 hN1).mono ?_
      rintro e w2 ⟨bo, rfl, H2⟩
      simp only [List.set_cons_succ, List.set_set] at H2
      clear H
      cases bo
      · have HS : Hid (DrewPA lo w0 L i g A n c p (.returned v) w2) := Go.Lib.hid ⟨v, cs, p' + 1, rfl, by omega, by omega, by omega, H2⟩
        clear H2
        go_wp2
        go_ret
        exact HS.out
      · go_wp2_with fail
        refine (pick_own H2 (i + 1) (set_get hX _) hr (by omega) 2 (by unfold I64; omega)).mono ?_
        rintro e w3 ⟨x3, rfl, hx3, H3⟩
        simp only [List.set_cons_succ, List.set_set] at H3
        clear H2
        by_cases c3 : x3 = 0
        · subst c3
          rcases Nat.eq_zero_or_pos cs.length with c0 | c0
          · obtain rfl : cs = [] := List.length_eq_zero_iff.1 c0
            obtain ⟨A2, c2, rfl, hA2⟩ := H3.formQ 0 rfl
            have hc2 := hA2.cap
            clear hA2
            have H4 := H3
            clear H3 c0
            simp only [List.length_nil] at H4 hc2 ⊢
            go_wp2_with fail
            have HX := H4.drew
            clear H4
            refine wp_region_tree (fun _ => True) 10 [] (.take 0 (.take 1 (.take 2 (.take 5 (.alt 3 (.take 4 (.alt 6 (.alt 7 (.alt 8 (.take 9 (.done)) (.stop)) (.stop)) (.stop))) (.alt 6 (.alt 3 (.take 4 (.alt 7 (.alt 8 (.take 9 (.done)) (.stop)) (.stop))) (.alt 7 (.alt 3 (.take 4 (.alt 8 (.take 9 (.done)) (.stop))) (.stop)) (.stop))) (.stop))))))) (by kernel_rfl) (by kernel_rfl) (by kernel_rfl) (trivial) ?_
            simp only [fillT, List.getElem?_cons_zero, List.getElem?_cons_succ, Nat.reduceBEq]
            repeat (first
              | (with_reducible refine po_take (v := ?_) ?_ (fun w' hS' => ?_) ?_
                 rotate_left
                 · (go_simp; done)
                 · ((try dsimp only at hS'); go_simp; try with_reducible rfl)
                 simp only [Act.put, List.setIfInBounds_toArray, List.set_cons_zero, List.set_cons_succ])
              | (with_reducible refine po_skip ?_ ?_
                 · (go_simp; done)
                 simp only [Act.put, List.setIfInBounds_toArray, List.set_cons_zero, List.set_cons_succ]))
            with_reducible refine po_run ?_ (fun K hK => ?_) ?_
            · (go_simp; done)
            · -- operation 3 first
              try (revert HX; generalize World.drew _ = wd; intro HX)
              go_simp
              refine hK.out _ _ (.inr (trivial)) ?_
              clear hK K
              repeat (first
                | (with_reducible refine po_take (v := ?_) ?_ (fun w' hS' => ?_) ?_
                   rotate_left
                   · (go_simp; done)
                   · ((try dsimp only at hS'); go_simp; try with_reducible rfl)
                   simp only [Act.put, List.setIfInBounds_toArray, List.set_cons_zero, List.set_cons_succ])
                | (with_reducible refine po_skip ?_ ?_
                   · (go_simp; done)
                   simp only [Act.put, List.setIfInBounds_toArray, List.set_cons_zero, List.set_cons_succ]))
              with_reducible refine po_run ?_ (fun K hK => ?_) ?_
              · (go_simp; done)
              rotate_left
              · exact po_stop
              try (revert HX; generalize World.drew _ = wd; intro HX)
              go_simp
              refine (command_any HX (i + 1) (set_get hX _) hr (by omega)).mono ?_
              rintro e w5 ⟨o, p5, rfl, hp5, hp6, HY⟩
              simp only [List.set_cons_succ, List.set_set] at HY
              clear HX
              have HX := HY
              clear HY
              refine hK.out _ _ (.inr (trivial)) ?_
              clear hK K
              with_reducible refine po_run ?_ (fun K hK => ?_) ?_
              · (go_simp; done)
              rotate_left
              · exact po_stop
              try (revert HX; generalize World.drew _ = wd; intro HX)
              go_simp
              have HG := heap1 w5 (.cells #[.int .i64 o.op, .int .i64 o.a, .int .i64 o.b, .int .i64 o.c] 46)
              replace HX := HX.alloc (.cells #[.int .i64 o.op, .int .i64 o.a, .int .i64 o.b, .int .i64 o.c] 46)
              refine hK.out _ _ (.inr (trivial)) ?_
              clear hK K
              with_reducible refine po_run ?_ (fun K hK => ?_) ?_
              · (go_simp; done)
              rotate_left
              · exact po_stop
              refine wp_pushQO (.tmp 29) (.tmp 32) rfl HX 0 rfl rfl rfl HG (by simp) ?_
              intro A6 k6 w6 HY
              simp only [List.set_cons_zero] at HY
              refine hK.out _ _ (.inr (trivial)) ?_
              clear hK K
              repeat (first
                | (with_reducible refine po_take (v := ?_) ?_ (fun w' hS' => ?_) ?_
                   rotate_left
                   · (go_simp; done)
                   · ((try dsimp only at hS'); go_simp; try with_reducible rfl)
                   simp only [Act.put, List.setIfInBounds_toArray, List.set_cons_zero, List.set_cons_succ])
                | (with_reducible refine po_skip ?_ ?_
                   · (go_simp; done)
                   simp only [Act.put, List.setIfInBounds_toArray, List.set_cons_zero, List.set_cons_succ]))
              refine po_done ?_
              have HS : Hid (DrewPA lo w0 L i g A n c p (.returned (.slice A6 ([] ++ [o]).length k6)) w6) := Go.Lib.hid ⟨_, [] ++ [o], _, rfl, by simp, by omega, by omega, HY⟩
              clear HX HY HG
              go_wp2
              go_ret
              exact HS.out
            with_reducible refine po_run ?_ (fun K hK => ?_) ?_
            · (go_simp; done)
            rotate_left
            · exact po_stop
            try (revert HX; generalize World.drew _ = wd; intro HX)
            go_simp
            refine (command_any HX (i + 1) (set_get hX _) hr (by omega)).mono ?_
            rintro e w5 ⟨o, p5, rfl, hp5, hp6, HY⟩
            simp only [List.set_cons_succ, List.set_set] at HY
            clear HX
            have HX := HY
            clear HY
            refine hK.out _ _ (.inr (trivial)) ?_
            clear hK K
            with_reducible refine po_run ?_ (fun K hK => ?_) ?_
            · (go_simp; done)
            · -- operation 3 first
              try (revert HX; generalize World.drew _ = wd; intro HX)
              go_simp
              refine hK.out _ _ (.inr (trivial)) ?_
              clear hK K
              repeat (first
                | (with_reducible refine po_take (v := ?_) ?_ (fun w' hS' => ?_) ?_
                   rotate_left
                   · (go_simp; done)
                   · ((try dsimp only at hS'); go_simp; try with_reducible rfl)
                   simp only [Act.put, List.setIfInBounds_toArray, List.set_cons_zero, List.set_cons_succ])
                | (with_reducible refine po_skip ?_ ?_
                   · (go_simp; done)
                   simp only [Act.put, List.setIfInBounds_toArray, List.set_cons_zero, List.set_cons_succ]))
              with_reducible refine po_run ?_ (fun K hK => ?_) ?_
              · (go_simp; done)
              rotate_left
              · exact po_stop
              try (revert HX; generalize World.drew _ = wd; intro HX)
              go_simp
              have HG := heap1 w5 (.cells #[.int .i64 o.op, .int .i64 o.a, .int .i64 o.b, .int .i64 o.c] 46)
              replace HX := HX.alloc (.cells #[.int .i64 o.op, .int .i64 o.a, .int .i64 o.b, .int .i64 o.c] 46)
              refine hK.out _ _ (.inr (trivial)) ?_
              clear hK K
              with_reducible refine po_run ?_ (fun K hK => ?_) ?_
              · (go_simp; done)
              rotate_left
              · exact po_stop
              refine wp_pushQO (.tmp 29) (.tmp 32) rfl HX 0 rfl rfl rfl HG (by simp) ?_
              intro A6 k6 w6 HY
              simp only [List.set_cons_zero] at HY
              refine hK.out _ _ (.inr (trivial)) ?_
              clear hK K
              repeat (first
                | (with_reducible refine po_take (v := ?_) ?_ (fun w' hS' => ?_) ?_
                   rotate_left
                   · (go_simp; done)
                   · ((try dsimp only at hS'); go_simp; try with_reducible rfl)
                   simp only [Act.put, List.setIfInBounds_toArray, List.set_cons_zero, List.set_cons_succ])
                | (with_reducible refine po_skip ?_ ?_
                   · (go_simp; done)
                   simp only [Act.put, List.setIfInBounds_toArray, List.set_cons_zero, List.set_cons_succ]))
              refine po_done ?_
              have HS : Hid (DrewPA lo w0 L i g A n c p (.returned (.slice A6 ([] ++ [o]).length k6)) w6) := Go.Lib.hid ⟨_, [] ++ [o], _, rfl, by simp, by omega, by omega, HY⟩
              clear HX HY HG
              go_wp2
              go_ret
              exact HS.out
            with_reducible refine po_run ?_ (fun K hK => ?_) ?_
            · (go_simp; done)
            rotate_left
            · exact po_stop
            try (revert HX; generalize World.drew _ = wd; intro HX)
            go_simp
            have HG := heap1 w5 (.cells #[.int .i64 o.op, .int .i64 o.a, .int .i64 o.b, .int .i64 o.c] 46)
            replace HX := HX.alloc (.cells #[.int .i64 o.op, .int .i64 o.a, .int .i64 o.b, .int .i64 o.c] 46)
            refine hK.out _ _ (.inr (trivial)) ?_
            clear hK K
            with_reducible refine po_run ?_ (fun K hK => ?_) ?_
            · (go_simp; done)
            rotate_left
            · exact po_stop
            try (revert HX; generalize World.drew _ = wd; intro HX)
            go_simp
            refine hK.out _ _ (.inr (trivial)) ?_
            clear hK K
            repeat (first
              | (with_reducible refine po_take (v := ?_) ?_ (fun w' hS' => ?_) ?_
                 rotate_left
                 · (go_simp; done)
                 · ((try dsimp only at hS'); go_simp; try with_reducible rfl)
                 simp only [Act.put, List.setIfInBounds_toArray, List.set_cons_zero, List.set_cons_succ])
              | (with_reducible refine po_skip ?_ ?_
                 · (go_simp; done)
                 simp only [Act.put, List.setIfInBounds_toArray, List.set_cons_zero, List.set_cons_succ]))
            with_reducible refine po_run ?_ (fun K hK => ?_) ?_
            · (go_simp; done)
            rotate_left
            · exact po_stop
            refine wp_pushQO (.tmp 29) (.tmp 32) rfl HX 0 rfl rfl rfl HG (by simp) ?_
            intro A6 k6 w6 HY
            simp only [List.set_cons_zero] at HY
            refine hK.out _ _ (.inr (trivial)) ?_
            clear hK K
            repeat (first
              | (with_reducible refine po_take (v := ?_) ?_ (fun w' hS' => ?_) ?_
                 rotate_left
                 · (go_simp; done)
                 · ((try dsimp only at hS'); go_simp; try with_reducible rfl)
                 simp only [Act.put, List.setIfInBounds_toArray, List.set_cons_zero, List.set_cons_succ])
              | (with_reducible refine po_skip ?_ ?_
                 · (go_simp; done)
                 simp only [Act.put, List.setIfInBounds_toArray, List.set_cons_zero, List.set_cons_succ]))
            refine po_done ?_
            have HS : Hid (DrewPA lo w0 L i g A n c p (.returned (.slice A6 ([] ++ [o]).length k6)) w6) := Go.Lib.hid ⟨_, [] ++ [o], _, rfl, by simp, by omega, by omega, HY⟩
            clear HX HY HG
            go_wp2
            go_ret
            exact HS.out
          rcases Nat.lt_or_ge 9 cs.length with c9 | c9
          rotate_left
          · obtain ⟨gq, cq, rfl, hcq, -, -, -⟩ := H3.rowAt 0 rfl (by omega)
            have hlt : ¬ (9 < (cs.length : Int)) := by omega
            have hcq2 : (cs.length : Int) ≤ (cq : Int) := by omega
            have H4 := H3
            clear H3 c0
            go_wp2_with fail
            have HX := H4.drew
            clear H4
            refine wp_region_tree (fun _ => True) 10 [] (.take 0 (.take 1 (.take 2 (.take 5 (.alt 3 (.take 4 (.alt 6 (.alt 7 (.alt 8 (.take 9 (.done)) (.stop)) (.stop)) (.stop))) (.alt 6 (.alt 3 (.take 4 (.alt 7 (.alt 8 (.take 9 (.done)) (.stop)) (.stop))) (.alt 7 (.alt 3 (.take 4 (.alt 8 (.take 9 (.done)) (.stop))) (.stop)) (.stop))) (.stop))))))) (by kernel_rfl) (by kernel_rfl) (by kernel_rfl) (trivial) ?_
            simp only [fillT, List.getElem?_cons_zero, List.getElem?_cons_succ, Nat.reduceBEq]
            repeat (first
              | (with_reducible refine po_take (v := ?_) ?_ (fun w' hS' => ?_) ?_
                 rotate_left
                 · (go_simp; done)
                 · ((try dsimp only at hS'); go_simp; try with_reducible rfl)
                 simp only [Act.put, List.setIfInBounds_toArray, List.set_cons_zero, List.set_cons_succ])
              | (with_reducible refine po_skip ?_ ?_
                 · (go_simp; done)
                 simp only [Act.put, List.setIfInBounds_toArray, List.set_cons_zero, List.set_cons_succ]))
            with_reducible refine po_run ?_ (fun K hK => ?_) ?_
            · (go_simp; done)
            · -- operation 3 first
              try (revert HX; generalize World.drew _ = wd; intro HX)
              go_simp
              rw [if_neg (show ¬ (9 : Int) < (cs.length : Int) by omega)]
              refine hK.out _ _ (.inr (trivial)) ?_
              clear hK K
              repeat (first
                | (with_reducible refine po_take (v := ?_) ?_ (fun w' hS' => ?_) ?_
                   rotate_left
                   · (go_simp; done)
                   · ((try dsimp only at hS'); go_simp; try with_reducible rfl)
                   simp only [Act.put, List.setIfInBounds_toArray, List.set_cons_zero, List.set_cons_succ])
                | (with_reducible refine po_skip ?_ ?_
                   · (go_simp; done)
                   simp only [Act.put, List.setIfInBounds_toArray, List.set_cons_zero, List.set_cons_succ]))
              with_reducible refine po_run ?_ (fun K hK => ?_) ?_
              · (go_simp; done)
              rotate_left
              · exact po_stop
              try (revert HX; generalize World.drew _ = wd; intro HX)
              go_simp
              refine (command_any HX (i + 1) (set_get hX _) hr (by omega)).mono ?_
              rintro e w5 ⟨o, p5, rfl, hp5, hp6, HY⟩
              simp only [List.set_cons_succ, List.set_set] at HY
              clear HX
              have HX := HY
              clear HY
              refine hK.out _ _ (.inr (trivial)) ?_
              clear hK K
              with_reducible refine po_run ?_ (fun K hK => ?_) ?_
              · (go_simp; done)
              rotate_left
              · exact po_stop
              try (revert HX; generalize World.drew _ = wd; intro HX)
              go_simp
              have HG := heap1 w5 (.cells #[.int .i64 o.op, .int .i64 o.a, .int .i64 o.b, .int .i64 o.c] 46)
              replace HX := HX.alloc (.cells #[.int .i64 o.op, .int .i64 o.a, .int .i64 o.b, .int .i64 o.c] 46)
              refine hK.out _ _ (.inr (trivial)) ?_
              clear hK K
              with_reducible refine po_run ?_ (fun K hK => ?_) ?_
              · (go_simp; done)
              rotate_left
              · exact po_stop
              refine wp_pushQO (.tmp 29) (.tmp 32) rfl HX 0 rfl rfl rfl HG (by omega) ?_
              intro A6 k6 w6 HY
              simp only [List.set_cons_zero] at HY
              rw [show Value.slice A6 (cs ++ [o]).length k6 = .slice A6 (cs.length + 1) k6 from by simp] at HY
              refine hK.out _ _ (.inr (trivial)) ?_
              clear hK K
              repeat (first
                | (with_reducible refine po_take (v := ?_) ?_ (fun w' hS' => ?_) ?_
                   rotate_left
                   · (go_simp; done)
                   · ((try dsimp only at hS'); go_simp; try with_reducible rfl)
                   simp only [Act.put, List.setIfInBounds_toArray, List.set_cons_zero, List.set_cons_succ])
                | (with_reducible refine po_skip ?_ ?_
                   · (go_simp; done)
                   simp only [Act.put, List.setIfInBounds_toArray, List.set_cons_zero, List.set_cons_succ]))
              refine po_done ?_
              have HS : Hid (DrewPA lo w0 L i g A n c p (.returned (.slice A6 (cs.length + 1) k6)) w6) := Go.Lib.hid ⟨_, cs ++ [o], _, rfl, by simp; omega, by omega, by omega, HY⟩
              clear HX HY HG
              go_wp2
              go_ret
              exact HS.out
            with_reducible refine po_run ?_ (fun K hK => ?_) ?_
            · (go_simp; done)
            rotate_left
            · exact po_stop
            try (revert HX; generalize World.drew _ = wd; intro HX)
            go_simp
            refine (command_any HX (i + 1) (set_get hX _) hr (by omega)).mono ?_
            rintro e w5 ⟨o, p5, rfl, hp5, hp6, HY⟩
            simp only [List.set_cons_succ, List.set_set] at HY
            clear HX
            have HX := HY
            clear HY
            refine hK.out _ _ (.inr (trivial)) ?_
            clear hK K
            with_reducible refine po_run ?_ (fun K hK => ?_) ?_
            · (go_simp; done)
            · -- operation 3 first
              try (revert HX; generalize World.drew _ = wd; intro HX)
              go_simp
              rw [if_neg (show ¬ (9 : Int) < (cs.length : Int) by omega)]
              refine hK.out _ _ (.inr (trivial)) ?_
              clear hK K
              repeat (first
                | (with_reducible refine po_take (v := ?_) ?_ (fun w' hS' => ?_) ?_
                   rotate_left
                   · (go_simp; done)
                   · ((try dsimp only at hS'); go_simp; try with_reducible rfl)
                   simp only [Act.put, List.setIfInBounds_toArray, List.set_cons_zero, List.set_cons_succ])
                | (with_reducible refine po_skip ?_ ?_
                   · (go_simp; done)
                   simp only [Act.put, List.setIfInBounds_toArray, List.set_cons_zero, List.set_cons_succ]))
              with_reducible refine po_run ?_ (fun K hK => ?_) ?_
              · (go_simp; done)
              rotate_left
              · exact po_stop
              try (revert HX; generalize World.drew _ = wd; intro HX)
              go_simp
              have HG := heap1 w5 (.cells #[.int .i64 o.op, .int .i64 o.a, .int .i64 o.b, .int .i64 o.c] 46)
              replace HX := HX.alloc (.cells #[.int .i64 o.op, .int .i64 o.a, .int .i64 o.b, .int .i64 o.c] 46)
              refine hK.out _ _ (.inr (trivial)) ?_
              clear hK K
              with_reducible refine po_run ?_ (fun K hK => ?_) ?_
              · (go_simp; done)
              rotate_left
              · exact po_stop
              refine wp_pushQO (.tmp 29) (.tmp 32) rfl HX 0 rfl rfl rfl HG (by omega) ?_
              intro A6 k6 w6 HY
              simp only [List.set_cons_zero] at HY
              rw [show Value.slice A6 (cs ++ [o]).length k6 = .slice A6 (cs.length + 1) k6 from by simp] at HY
              refine hK.out _ _ (.inr (trivial)) ?_
              clear hK K
              repeat (first
                | (with_reducible refine po_take (v := ?_) ?_ (fun w' hS' => ?_) ?_
                   rotate_left
                   · (go_simp; done)
                   · ((try dsimp only at hS'); go_simp; try with_reducible rfl)
                   simp only [Act.put, List.setIfInBounds_toArray, List.set_cons_zero, List.set_cons_succ])
                | (with_reducible refine po_skip ?_ ?_
                   · (go_simp; done)
                   simp only [Act.put, List.setIfInBounds_toArray, List.set_cons_zero, List.set_cons_succ]))
              refine po_done ?_
              have HS : Hid (DrewPA lo w0 L i g A n c p (.returned (.slice A6 (cs.length + 1) k6)) w6) := Go.Lib.hid ⟨_, cs ++ [o], _, rfl, by simp; omega, by omega, by omega, HY⟩
              clear HX HY HG
              go_wp2
              go_ret
              exact HS.out
            with_reducible refine po_run ?_ (fun K hK => ?_) ?_
            · (go_simp; done)
            rotate_left
            · exact po_stop
            try (revert HX; generalize World.drew _ = wd; intro HX)
            go_simp
            have HG := heap1 w5 (.cells #[.int .i64 o.op, .int .i64 o.a, .int .i64 o.b, .int .i64 o.c] 46)
            replace HX := HX.alloc (.cells #[.int .i64 o.op, .int .i64 o.a, .int .i64 o.b, .int .i64 o.c] 46)
            refine hK.out _ _ (.inr (trivial)) ?_
            clear hK K
            with_reducible refine po_run ?_ (fun K hK => ?_) ?_
            · (go_simp; done)
            rotate_left
            · exact po_stop
            try (revert HX; generalize World.drew _ = wd; intro HX)
            go_simp
            rw [if_neg (show ¬ (9 : Int) < (cs.length : Int) by omega)]
            refine hK.out _ _ (.inr (trivial)) ?_
            clear hK K
            repeat (first
              | (with_reducible refine po_take (v := ?_) ?_ (fun w' hS' => ?_) ?_
                 rotate_left
                 · (go_simp; done)
                 · ((try dsimp only at hS'); go_simp; try with_reducible rfl)
                 simp only [Act.put, List.setIfInBounds_toArray, List.set_cons_zero, List.set_cons_succ])
              | (with_reducible refine po_skip ?_ ?_
                 · (go_simp; done)
                 simp only [Act.put, List.setIfInBounds_toArray, List.set_cons_zero, List.set_cons_succ]))
            with_reducible refine po_run ?_ (fun K hK => ?_) ?_
            · (go_simp; done)
            rotate_left
            · exact po_stop
            refine wp_pushQO (.tmp 29) (.tmp 32) rfl HX 0 rfl rfl rfl HG (by omega) ?_
            intro A6 k6 w6 HY
            simp only [List.set_cons_zero] at HY
            rw [show Value.slice A6 (cs ++ [o]).length k6 = .slice A6 (cs.length + 1) k6 from by simp] at HY
            refine hK.out _ _ (.inr (trivial)) ?_
            clear hK K
            repeat (first
              | (with_reducible refine po_take (v := ?_) ?_ (fun w' hS' => ?_) ?_
                 rotate_left
                 · (go_simp; done)
                 · ((try dsimp only at hS'); go_simp; try with_reducible rfl)
                 simp only [Act.put, List.setIfInBounds_toArray, List.set_cons_zero, List.set_cons_succ])
              | (with_reducible refine po_skip ?_ ?_
                 · (go_simp; done)
                 simp only [Act.put, List.setIfInBounds_toArray, List.set_cons_zero, List.set_cons_succ]))
            refine po_done ?_
            have HS : Hid (DrewPA lo w0 L i g A n c p (.returned (.slice A6 (cs.length + 1) k6)) w6) := Go.Lib.hid ⟨_, cs ++ [o], _, rfl, by simp; omega, by omega, by omega, HY⟩
            clear HX HY HG
            go_wp2
            go_ret
            exact HS.out
          · obtain ⟨gq, cq, rfl, hcq, -, -, -⟩ := H3.rowAt 0 rfl (by omega)
            have hlt : 9 < (cs.length : Int) := by omega
            have hcq2 : (9 : Int) ≤ (cq : Int) := by omega
            have H4 := H3.cutQ 0 rfl (m := 9) (by omega)
            simp only [List.set_cons_zero] at H4
            have hl9 : (cs.take 9).length = 9 := by rw [List.length_take]; omega
            clear H3 c0
            generalize cs.take 9 = cs9 at *
            go_wp2_with fail
            have HX := H4.drew
            clear H4
            refine wp_region_tree (fun _ => True) 10 [] (.take 0 (.take 1 (.take 2 (.take 5 (.alt 3 (.take 4 (.alt 6 (.alt 7 (.alt 8 (.take 9 (.done)) (.stop)) (.stop)) (.stop))) (.alt 6 (.alt 3 (.take 4 (.alt 7 (.alt 8 (.take 9 (.done)) (.stop)) (.stop))) (.alt 7 (.alt 3 (.take 4 (.alt 8 (.take 9 (.done)) (.stop))) (.stop)) (.stop))) (.stop))))))) (by kernel_rfl) (by kernel_rfl) (by kernel_rfl) (trivial) ?_
            simp only [fillT, List.getElem?_cons_zero, List.getElem?_cons_succ, Nat.reduceBEq]
            repeat (first
              | (with_reducible refine po_take (v := ?_) ?_ (fun w' hS' => ?_) ?_
                 rotate_left
                 · (go_simp; done)
                 · ((try dsimp only at hS'); go_simp; try with_reducible rfl)
                 simp only [Act.put, List.setIfInBounds_toArray, List.set_cons_zero, List.set_cons_succ])
              | (with_reducible refine po_skip ?_ ?_
                 · (go_simp; done)
                 simp only [Act.put, List.setIfInBounds_toArray, List.set_cons_zero, List.set_cons_succ]))
            with_reducible refine po_run ?_ (fun K hK => ?_) ?_
            · (go_simp; done)
            · -- operation 3 first
              try (revert HX; generalize World.drew _ = wd; intro HX)
              go_simp
              try rw [if_pos (show (9 : Int) < (cs.length : Int) by omega)]
              refine hK.out _ _ (.inr (trivial)) ?_
              clear hK K
              repeat (first
                | (with_reducible refine po_take (v := ?_) ?_ (fun w' hS' => ?_) ?_
                   rotate_left
                   · (go_simp; done)
                   · ((try dsimp only at hS'); go_simp; try with_reducible rfl)
                   simp only [Act.put, List.setIfInBounds_toArray, List.set_cons_zero, List.set_cons_succ])
                | (with_reducible refine po_skip ?_ ?_
                   · (go_simp; done)
                   simp only [Act.put, List.setIfInBounds_toArray, List.set_cons_zero, List.set_cons_succ]))
              with_reducible refine po_run ?_ (fun K hK => ?_) ?_
              · (go_simp; done)
              rotate_left
              · exact po_stop
              try (revert HX; generalize World.drew _ = wd; intro HX)
              go_simp
              refine (command_any HX (i + 1) (set_get hX _) hr (by omega)).mono ?_
              rintro e w5 ⟨o, p5, rfl, hp5, hp6, HY⟩
              simp only [List.set_cons_succ, List.set_set] at HY
              clear HX
              have HX := HY
              clear HY
              refine hK.out _ _ (.inr (trivial)) ?_
              clear hK K
              with_reducible refine po_run ?_ (fun K hK => ?_) ?_
              · (go_simp; done)
              rotate_left
              · exact po_stop
              try (revert HX; generalize World.drew _ = wd; intro HX)
              go_simp
              have HG := heap1 w5 (.cells #[.int .i64 o.op, .int .i64 o.a, .int .i64 o.b, .int .i64 o.c] 46)
              replace HX := HX.alloc (.cells #[.int .i64 o.op, .int .i64 o.a, .int .i64 o.b, .int .i64 o.c] 46)
              refine hK.out _ _ (.inr (trivial)) ?_
              clear hK K
              with_reducible refine po_run ?_ (fun K hK => ?_) ?_
              · (go_simp; done)
              rotate_left
              · exact po_stop
              refine wp_pushQO (.tmp 29) (.tmp 32) rfl HX 0 rfl rfl rfl HG (by omega) ?_
              intro A6 k6 w6 HY
              simp only [List.set_cons_zero] at HY
              rw [show Value.slice A6 (cs9 ++ [o]).length k6 = .slice A6 10 k6 from by simp [hl9]] at HY
              refine hK.out _ _ (.inr (trivial)) ?_
              clear hK K
              repeat (first
                | (with_reducible refine po_take (v := ?_) ?_ (fun w' hS' => ?_) ?_
                   rotate_left
                   · (go_simp; done)
                   · ((try dsimp only at hS'); go_simp; try with_reducible rfl)
                   simp only [Act.put, List.setIfInBounds_toArray, List.set_cons_zero, List.set_cons_succ])
                | (with_reducible refine po_skip ?_ ?_
                   · (go_simp; done)
                   simp only [Act.put, List.setIfInBounds_toArray, List.set_cons_zero, List.set_cons_succ]))
              refine po_done ?_
              have HS : Hid (DrewPA lo w0 L i g A n c p (.returned (.slice A6 10 k6)) w6) := Go.Lib.hid ⟨_, cs9 ++ [o], _, rfl, by simp; omega, by omega, by omega, HY⟩
              clear HX HY HG
              go_wp2
              go_ret
              exact HS.out
            with_reducible refine po_run ?_ (fun K hK => ?_) ?_
            · (go_simp; done)
            rotate_left
            · exact po_stop
            try (revert HX; generalize World.drew _ = wd; intro HX)
            go_simp
            refine (command_any HX (i + 1) (set_get hX _) hr (by omega)).mono ?_
            rintro e w5 ⟨o, p5, rfl, hp5, hp6, HY⟩
            simp only [List.set_cons_succ, List.set_set] at HY
            clear HX
            have HX := HY
            clear HY
            refine hK.out _ _ (.inr (trivial)) ?_
            clear hK K
            with_reducible refine po_run ?_ (fun K hK => ?_) ?_
            · (go_simp; done)
            · -- operation 3 first
              try (revert HX; generalize World.drew _ = wd; intro HX)
              go_simp
              try rw [if_pos (show (9 : Int) < (cs.length : Int) by omega)]
              refine hK.out _ _ (.inr (trivial)) ?_
              clear hK K
              repeat (first
                | (with_reducible refine po_take (v := ?_) ?_ (fun w' hS' => ?_) ?_
                   rotate_left
                   · (go_simp; done)
                   · ((try dsimp only at hS'); go_simp; try with_reducible rfl)
                   simp only [Act.put, List.setIfInBounds_toArray, List.set_cons_zero, List.set_cons_succ])
                | (with_reducible refine po_skip ?_ ?_
                   · (go_simp; done)
                   simp only [Act.put, List.setIfInBounds_toArray, List.set_cons_zero, List.set_cons_succ]))
              with_reducible refine po_run ?_ (fun K hK => ?_) ?_
              · (go_simp; done)
              rotate_left
              · exact po_stop
              try (revert HX; generalize World.drew _ = wd; intro HX)
              go_simp
              have HG := heap1 w5 (.cells #[.int .i64 o.op, .int .i64 o.a, .int .i64 o.b, .int .i64 o.c] 46)
              replace HX := HX.alloc (.cells #[.int .i64 o.op, .int .i64 o.a, .int .i64 o.b, .int .i64 o.c] 46)
              refine hK.out _ _ (.inr (trivial)) ?_
              clear hK K
              with_reducible refine po_run ?_ (fun K hK => ?_) ?_
              · (go_simp; done)
              rotate_left
              · exact po_stop
              refine wp_pushQO (.tmp 29) (.tmp 32) rfl HX 0 rfl rfl rfl HG (by omega) ?_
              intro A6 k6 w6 HY
              simp only [List.set_cons_zero] at HY
              rw [show Value.slice A6 (cs9 ++ [o]).length k6 = .slice A6 10 k6 from by simp [hl9]] at HY
              refine hK.out _ _ (.inr (trivial)) ?_
              clear hK K
              repeat (first
                | (with_reducible refine po_take (v := ?_) ?_ (fun w' hS' => ?_) ?_
                   rotate_left
                   · (go_simp; done)
                   · ((try dsimp only at hS'); go_simp; try with_reducible rfl)
                   simp only [Act.put, List.setIfInBounds_toArray, List.set_cons_zero, List.set_cons_succ])
                | (with_reducible refine po_skip ?_ ?_
                   · (go_simp; done)
                   simp only [Act.put, List.setIfInBounds_toArray, List.set_cons_zero, List.set_cons_succ]))
              refine po_done ?_
              have HS : Hid (DrewPA lo w0 L i g A n c p (.returned (.slice A6 10 k6)) w6) := Go.Lib.hid ⟨_, cs9 ++ [o], _, rfl, by simp; omega, by omega, by omega, HY⟩
              clear HX HY HG
              go_wp2
              go_ret
              exact HS.out
            with_reducible refine po_run ?_ (fun K hK => ?_) ?_
            · (go_simp; done)
            rotate_left
            · exact po_stop
            try (revert HX; generalize World.drew _ = wd; intro HX)
            go_simp
            have HG := heap1 w5 (.cells #[.int .i64 o.op, .int .i64 o.a, .int .i64 o.b, .int .i64 o.c] 46)
            replace HX := HX.alloc (.cells #[.int .i64 o.op, .int .i64 o.a, .int .i64 o.b, .int .i64 o.c] 46)
            refine hK.out _ _ (.inr (trivial)) ?_
            clear hK K
            with_reducible refine po_run ?_ (fun K hK => ?_) ?_
            · (go_simp; done)
            rotate_left
            · exact po_stop
            try (revert HX; generalize World.drew _ = wd; intro HX)
            go_simp
            try rw [if_pos (show (9 : Int) < (cs.length : Int) by omega)]
            refine hK.out _ _ (.inr (trivial)) ?_
            clear hK K
            repeat (first
              | (with_reducible refine po_take (v := ?_) ?_ (fun w' hS' => ?_) ?_
                 rotate_left
                 · (go_simp; done)
                 · ((try dsimp only at hS'); go_simp; try with_reducible rfl)
                 simp only [Act.put, List.setIfInBounds_toArray, List.set_cons_zero, List.set_cons_succ])
              | (with_reducible refine po_skip ?_ ?_
                 · (go_simp; done)
                 simp only [Act.put, List.setIfInBounds_toArray, List.set_cons_zero, List.set_cons_succ]))
            with_reducible refine po_run ?_ (fun K hK => ?_) ?_
            · (go_simp; done)
            rotate_left
            · exact po_stop
            refine wp_pushQO (.tmp 29) (.tmp 32) rfl HX 0 rfl rfl rfl HG (by omega) ?_
            intro A6 k6 w6 HY
            simp only [List.set_cons_zero] at HY
            rw [show Value.slice A6 (cs9 ++ [o]).length k6 = .slice A6 10 k6 from by simp [hl9]] at HY
            refine hK.out _ _ (.inr (trivial)) ?_
            clear hK K
            repeat (first
              | (with_reducible refine po_take (v := ?_) ?_ (fun w' hS' => ?_) ?_
                 rotate_left
                 · (go_simp; done)
                 · ((try dsimp only at hS'); go_simp; try with_reducible rfl)
                 simp only [Act.put, List.setIfInBounds_toArray, List.set_cons_zero, List.set_cons_succ])
              | (with_reducible refine po_skip ?_ ?_
                 · (go_simp; done)
                 simp only [Act.put, List.setIfInBounds_toArray, List.set_cons_zero, List.set_cons_succ]))
            refine po_done ?_
            have HS : Hid (DrewPA lo w0 L i g A n c p (.returned (.slice A6 10 k6)) w6) := Go.Lib.hid ⟨_, cs9 ++ [o], _, rfl, by simp; omega, by omega, by omega, HY⟩
            clear HX HY HG
            go_wp2
            go_ret
            exact HS.out
        · have hx31 : x3 = 1 := by omega
          subst hx31
          clear c3 hx3
          obtain ⟨i0, hi0, hz0, hz1, hz2⟩ := info_parts Try.infoCmd
          go_wp2_with (at_make; refine wpList_make_full _ rfl _ _ _ rfl w3.heap.size 46 i0 (.agg #[.int .i64 0, .int .i64 0, .int .i64 0, .int .i64 0]) 4 Try.underlying23 hi0 hz0 hz1 .i64 .i64 _ _ 41 rfl rfl rfl rfl (by rw [hz2]; omega) (by unfold maxLen; omega) (Nat.le_refl _) ?_)
          intro w4 hown hg
          have HM : Owns lo w0 w4 (.cmds (.slice (some ⟨w3.heap.size, 0, none⟩) 41 41) (List.replicate 41 ⟨0, 0, 0, 0⟩) :: .cmds v cs :: L.set i (.rdr g A n c (p' + 1 + 1))) := by
            refine H3.row (grown_below hg) ?_
            rw [zeros_cmd]
            have e : (madeCells #[Value.int .i64 0, .int .i64 0, .int .i64 0, .int .i64 0] (41 * 4)).toList = List.replicate (41 * 4) (Value.int .i64 0) := by kernel_rfl
            rw [← e]
            exact hown
          have HS : Hid (DrewPA lo w0 L i g A n c p (.returned (.slice (some ⟨w3.heap.size, 0, none⟩) 41 41)) w4) := Go.Lib.hid ⟨_, _, _, rfl, by simp, by omega, by omega, HM.erase 1⟩
          clear HM H3 hown hg
          go_wp2
          go_ret
          exact HS.out
    · obtain ⟨k', rfl⟩ : ∃ k', k = k' + 1 := ⟨k - 1, by omega⟩
      go_wp2_with fail
      refine (command_own H (i + 1) (set_get hX _) hr (by omega)).mono ?_
      rintro e w2 ⟨o, p2, rfl, ho, hp3, hp4, H2⟩
      simp only [List.set_cons_succ, List.set_set] at H2
      have H3 := H2.alloc (.cells #[.int .i64 o.op, .int .i64 o.a, .int .i64 o.b, .int .i64 o.c] 46)
      clear H H2 ho
      go_wp2_with (at_builtin; go_loud (refine wpList_pushQO rfl (.tmp 14) (.tmp 17) rfl H3 0 rfl rfl rfl (heap1 w2 _) (by omega) ?_; intro A3 k3 w3 H4))
      simp only [List.set_cons_zero] at H4
      rw [show (cs ++ [o]).length = cs.length + 1 by simp] at H4
      clear H3
      go_wp2_with fail
      go_roundw
      case rel => exact ⟨_, k', cs ++ [o], p2, rfl, by go_num, by omega, by simp; omega, by omega, by simp; omega, H4⟩
      case measure => simp [intOf]
end Go.Proofs.Ytdkpfggfkhnjfaa
