/- An instruction drawn with one odd in one: it is any instruction; the reader is further. For every code that can be read. -/
import Derived.Test.YtdkpfggfkhnjfaaDc
import Derived.Deep.CutBlock
namespace Go.Proofs.Ytdkpfggfkhnjfaa
open Go.RowKit
/-- Any instruction was drawn. -/
def DrewA (lo : Nat) (w0 : World) (L : List OB) (i g : Nat) (A : Option Addr) (n c p : Nat) (e : Ending) (w' : World) : Prop :=
  ∃ (o : Cmd) (p' : Nat), e = .returned (cmdV o) ∧ p ≤ p' ∧ p' ≤ p + 20 ∧ Owns lo w0 w' (L.set i (.rdr g A n c p'))
set_option maxHeartbeats 12800000 in
set_option maxRecDepth 20000 in
theorem command_any {lo : Nat} {w0 w : World} {L : List OB} {g : Nat} {A : Option Addr} {n c p : Nat} (h : Owns lo w0 w L) (i : Nat) (hX : L[i]? = some (.rdr g A n c p)) {bs : List Int} (hr : RdU w0 lo A n c bs) (hp : p ≤ 900000) :
    Calls Try.prog 56 #[.pointer (some ⟨g, 0, none⟩), .int .i64 1] w (DrewA lo w0 L i g A n c p) := by
  have H1 := h.box [.int .i64 0, .int .i64 0, .int .i64 0, .int .i64 0] 46
  go_enter Try.func56, Try.ntmps56
  go_upto_region 1 with fail
  go_cut [5] (fun s5 wx => ∃ (q : Nat) (t : Int) (a : Nat), s5 = .pointer (some ⟨q, 0, none⟩) ∧ (t = 1 ∨ t = 2 ∨ t = 3 ∨ t = 4 ∨ t = 5 ∨ t = 6) ∧ a < 4 ∧ Owns lo w0 wx (.box q [.int .i64 t, .int .i64 a, .int .i64 0, .int .i64 0] 46 :: .box w.heap.size [.int .i64 0, .int .i64 0, .int .i64 0, .int .i64 0] 46 :: L.set i (.rdr g A n c (p + 2))))
  case first =>
    have HX := H1.drew
    refine wp_region_tree (fun _ => True) 9 [4] (.take 1 (.take 5 (.alt 0 (.alt 2 (.take 3 (.alt 4 (.alt 6 (.take 7 (.alt 8 (.alt 9 (.done) (.stop)) (.stop))) (.alt 8 (.alt 6 (.take 7 (.alt 9 (.done) (.stop))) (.stop)) (.stop))) (.alt 6 (.alt 4 (.take 7 (.alt 8 (.alt 9 (.done) (.stop)) (.stop))) (.alt 8 (.alt 4 (.take 7 (.alt 9 (.done) (.stop))) (.stop)) (.stop))) (.alt 8 (.alt 4 (.alt 6 (.take 7 (.alt 9 (.done) (.stop))) (.stop)) (.alt 6 (.alt 4 (.take 7 (.alt 9 (.done) (.stop))) (.stop)) (.stop))) (.stop))))) (.alt 8 (.alt 2 (.take 3 (.alt 4 (.alt 6 (.take 7 (.alt 9 (.done) (.stop))) (.stop)) (.alt 6 (.alt 4 (.take 7 (.alt 9 (.done) (.stop))) (.stop)) (.stop)))) (.stop)) (.stop))) (.alt 2 (.alt 0 (.take 3 (.alt 4 (.alt 6 (.take 7 (.alt 8 (.alt 9 (.done) (.stop)) (.stop))) (.alt 8 (.alt 6 (.take 7 (.alt 9 (.done) (.stop))) (.stop)) (.stop))) (.alt 6 (.alt 4 (.take 7 (.alt 8 (.alt 9 (.done) (.stop)) (.stop))) (.alt 8 (.alt 4 (.take 7 (.alt 9 (.done) (.stop))) (.stop)) (.stop))) (.alt 8 (.alt 4 (.alt 6 (.take 7 (.alt 9 (.done) (.stop))) (.stop)) (.alt 6 (.alt 4 (.take 7 (.alt 9 (.done) (.stop))) (.stop)) (.stop))) (.stop))))) (.alt 6 (.alt 0 (.take 3 (.alt 4 (.take 7 (.alt 8 (.alt 9 (.done) (.stop)) (.stop))) (.alt 8 (.alt 4 (.take 7 (.alt 9 (.done) (.stop))) (.stop)) (.stop)))) (.alt 8 (.alt 0 (.take 3 (.alt 4 (.take 7 (.alt 9 (.done) (.stop))) (.stop))) (.stop)) (.stop))) (.alt 8 (.alt 0 (.take 3 (.alt 4 (.alt 6 (.take 7 (.alt 9 (.done) (.stop))) (.stop)) (.alt 6 (.alt 4 (.take 7 (.alt 9 (.done) (.stop))) (.stop)) (.stop)))) (.alt 6 (.alt 0 (.take 3 (.alt 4 (.take 7 (.alt 9 (.done) (.stop))) (.stop))) (.stop)) (.stop))) (.stop)))) (.alt 8 (.alt 0 (.alt 2 (.take 3 (.alt 4 (.alt 6 (.take 7 (.alt 9 (.done) (.stop))) (.stop)) (.alt 6 (.alt 4 (.take 7 (.alt 9 (.done) (.stop))) (.stop)) (.stop)))) (.stop)) (.alt 2 (.alt 0 (.take 3 (.alt 4 (.alt 6 (.take 7 (.alt 9 (.done) (.stop))) (.stop)) (.alt 6 (.alt 4 (.take 7 (.alt 9 (.done) (.stop))) (.stop)) (.stop)))) (.alt 6 (.alt 0 (.take 3 (.alt 4 (.take 7 (.alt 9 (.done) (.stop))) (.stop))) (.stop)) (.stop))) (.stop))) (.stop)))))) (by kernel_rfl) (by kernel_rfl) (by kernel_rfl) (trivial) ?_
    simp only [fillT, List.getElem?_cons_zero, List.getElem?_cons_succ, Nat.reduceBEq]
    repeat (first
      | (with_reducible refine po_take (v := ?_) ?_ (fun w' hS' => ?_) ?_
         rotate_left
         · (go_simp; done)
         · ((try dsimp only at hS'); go_simp; try with_reducible rfl)
         simp only [Act.put, List.setIfInBounds_toArray, List.set_cons_zero, List.set_cons_succ])
      | (with_reducible refine po_skip ?_ ?_
         · (go_simp; done)
         simp only [Act.put, List.setIfInBounds_toArray, List.set_cons_zero, List.set_cons_succ]))
    with_reducible refine po_run ?_ (fun K hK => ?_) ?_
    · (go_simp; done)
    · -- operation 0 first
      try (revert HX; generalize World.drew _ = wd; intro HX)
      go_simp
      replace HX := HX.litI opTbl (by decide)
      try simp only [opTbl, List.map_cons, List.map_nil, List.length_cons, List.length_nil, Nat.zero_add, Nat.reduceAdd] at HX
      refine hK.out _ _ (.inr (trivial)) ?_
      clear hK K
      revert HX
      generalize World.alloc _ _ = wz
      intro HX
      with_reducible refine po_run ?_ (fun K hK => ?_) ?_
      · (go_simp; done)
      · -- operation 2 first
        try (revert HX; generalize World.drew _ = wd; intro HX)
        go_simp
        refine (pick_own HX (i + 2) hX hr (by omega) 10 (by unfold I64; omega)).mono ?_
        rintro e wa ⟨x1, rfl, hx1, HY⟩
        replace hx1 : x1 < 10 := by omega
        have hy1 : (x1 : Int) < 10 := by omega
        obtain ⟨t, ht, hmem⟩ := opTbl_at hx1
        simp only [List.set_cons_succ] at HY
        replace HX := HY
        clear HY
        refine hK.out _ _ (.inr (trivial)) ?_
        clear hK K
        repeat (first
          | (with_reducible refine po_take (v := ?_) ?_ (fun w' hS' => ?_) ?_
             rotate_left
             · (go_simp; done)
             · ((try dsimp only at hS'); go_simp; try with_reducible rfl)
             simp only [Act.put, List.setIfInBounds_toArray, List.set_cons_zero, List.set_cons_succ])
          | (with_reducible refine po_skip ?_ ?_
             · (go_simp; done)
             simp only [Act.put, List.setIfInBounds_toArray, List.set_cons_zero, List.set_cons_succ]))
        with_reducible refine po_run ?_ (fun K hK => ?_) ?_
        · (go_simp; done)
        · -- operation 4 first
          obtain ⟨z0, -⟩ := HX.elem 0 rfl (j := x1) (u := .int .i64 t) (by rw [List.getElem?_map, ht]; rfl)
          go_simp
          clear z0
          refine hK.out _ _ (.inr (trivial)) ?_
          clear hK K
          with_reducible refine po_run ?_ (fun K hK => ?_) ?_
          · (go_simp; done)
          · -- operation 6 first
            go_simp
            refine (pick_own HX (i + 2) (set_get hX _) hr (by omega) 4 (by unfold I64; omega)).mono ?_
            rintro e wb ⟨x2, rfl, hx2, HY⟩
            replace hx2 : x2 < 4 := by omega
            simp only [List.set_cons_succ, List.set_set] at HY
            replace HX := HY
            clear HY
            refine hK.out _ _ (.inr (trivial)) ?_
            clear hK K
            repeat (first
              | (with_reducible refine po_take (v := ?_) ?_ (fun w' hS' => ?_) ?_
                 rotate_left
                 · (go_simp; done)
                 · ((try dsimp only at hS'); go_simp; try with_reducible rfl)
                 simp only [Act.put, List.setIfInBounds_toArray, List.set_cons_zero, List.set_cons_succ])
              | (with_reducible refine po_skip ?_ ?_
                 · (go_simp; done)
                 simp only [Act.put, List.setIfInBounds_toArray, List.set_cons_zero, List.set_cons_succ]))
            with_reducible refine po_run ?_ (fun K hK => ?_) ?_
            · (go_simp; done)
            rotate_left
            · exact po_stop
            try (revert HX; generalize World.drew _ = wd; intro HX)
            go_simp
            replace HX := HX.box [.int .i64 0, .int .i64 0, .int .i64 0, .int .i64 0] 46
            try simp only [World.size_alloc, drew_size, opTbl, List.map_cons, List.map_nil, List.length_cons, List.length_nil, Nat.zero_add, Nat.reduceAdd] at HX
            refine hK.out _ _ (.inr (trivial)) ?_
            clear hK K
            revert HX
            generalize World.alloc _ _ = wz
            intro HX
            with_reducible refine po_run ?_ (fun K hK => ?_) ?_
            · (go_simp; done)
            rotate_left
            · exact po_stop
            obtain ⟨e0, e1, e2, e3, e4, e5, e6, e7⟩ := box4 HX 0 rfl
            go_simp
            replace HX := (((HX.putBox 0 rfl 0 (.int .i64 t)).putBox 0 rfl 1 (.int .i64 (x2 : Int))).putBox 0 rfl 2 (.int .i64 0)).putBox 0 rfl 3 (.int .i64 0)
            simp only [List.set_cons_zero, List.set_cons_succ] at HX
            clear e0 e1 e2 e3 e4 e5 e6 e7
            refine hK.out _ _ (.inl rfl) ?_
            clear hK K
            refine po_done ?_
            go_wp2_with fail
            go_meet
            exact ⟨_, t, x2, rfl, hmem, hx2, HX.erase 1⟩
          with_reducible refine po_run ?_ (fun K hK => ?_) ?_
          · (go_simp; done)
          rotate_left
          · exact po_stop
          try (revert HX; generalize World.drew _ = wd; intro HX)
          go_simp
          replace HX := HX.box [.int .i64 0, .int .i64 0, .int .i64 0, .int .i64 0] 46
          try simp only [World.size_alloc, drew_size, opTbl, List.map_cons, List.map_nil, List.length_cons, List.length_nil, Nat.zero_add, Nat.reduceAdd] at HX
          refine hK.out _ _ (.inr (trivial)) ?_
          clear hK K
          revert HX
          generalize World.alloc _ _ = wz
          intro HX
          with_reducible refine po_run ?_ (fun K hK => ?_) ?_
          · (go_simp; done)
          rotate_left
          · exact po_stop
          go_simp
          refine (pick_own HX (i + 3) (set_get hX _) hr (by omega) 4 (by unfold I64; omega)).mono ?_
          rintro e wb ⟨x2, rfl, hx2, HY⟩
          replace hx2 : x2 < 4 := by omega
          simp only [List.set_cons_succ, List.set_set] at HY
          replace HX := HY
          clear HY
          refine hK.out _ _ (.inr (trivial)) ?_
          clear hK K
          repeat (first
            | (with_reducible refine po_take (v := ?_) ?_ (fun w' hS' => ?_) ?_
               rotate_left
               · (go_simp; done)
               · ((try dsimp only at hS'); go_simp; try with_reducible rfl)
               simp only [Act.put, List.setIfInBounds_toArray, List.set_cons_zero, List.set_cons_succ])
            | (with_reducible refine po_skip ?_ ?_
               · (go_simp; done)
               simp only [Act.put, List.setIfInBounds_toArray, List.set_cons_zero, List.set_cons_succ]))
          with_reducible refine po_run ?_ (fun K hK => ?_) ?_
          · (go_simp; done)
          rotate_left
          · exact po_stop
          obtain ⟨e0, e1, e2, e3, e4, e5, e6, e7⟩ := box4 HX 0 rfl
          go_simp
          replace HX := (((HX.putBox 0 rfl 0 (.int .i64 t)).putBox 0 rfl 1 (.int .i64 (x2 : Int))).putBox 0 rfl 2 (.int .i64 0)).putBox 0 rfl 3 (.int .i64 0)
          simp only [List.set_cons_zero, List.set_cons_succ] at HX
          clear e0 e1 e2 e3 e4 e5 e6 e7
          refine hK.out _ _ (.inl rfl) ?_
          clear hK K
          refine po_done ?_
          go_wp2_with fail
          go_meet
          exact ⟨_, t, x2, rfl, hmem, hx2, HX.erase 1⟩
        with_reducible refine po_run ?_ (fun K hK => ?_) ?_
        · (go_simp; done)
        · -- operation 6 first
          go_simp
          refine (pick_own HX (i + 2) (set_get hX _) hr (by omega) 4 (by unfold I64; omega)).mono ?_
          rintro e wb ⟨x2, rfl, hx2, HY⟩
          replace hx2 : x2 < 4 := by omega
          simp only [List.set_cons_succ, List.set_set] at HY
          replace HX := HY
          clear HY
          refine hK.out _ _ (.inr (trivial)) ?_
          clear hK K
          with_reducible refine po_run ?_ (fun K hK => ?_) ?_
          · (go_simp; done)
          · -- operation 4 first
            obtain ⟨z0, -⟩ := HX.elem 0 rfl (j := x1) (u := .int .i64 t) (by rw [List.getElem?_map, ht]; rfl)
            go_simp
            clear z0
            refine hK.out _ _ (.inr (trivial)) ?_
            clear hK K
            repeat (first
              | (with_reducible refine po_take (v := ?_) ?_ (fun w' hS' => ?_) ?_
                 rotate_left
                 · (go_simp; done)
                 · ((try dsimp only at hS'); go_simp; try with_reducible rfl)
                 simp only [Act.put, List.setIfInBounds_toArray, List.set_cons_zero, List.set_cons_succ])
              | (with_reducible refine po_skip ?_ ?_
                 · (go_simp; done)
                 simp only [Act.put, List.setIfInBounds_toArray, List.set_cons_zero, List.set_cons_succ]))
            with_reducible refine po_run ?_ (fun K hK => ?_) ?_
            · (go_simp; done)
            rotate_left
            · exact po_stop
            try (revert HX; generalize World.drew _ = wd; intro HX)
            go_simp
            replace HX := HX.box [.int .i64 0, .int .i64 0, .int .i64 0, .int .i64 0] 46
            try simp only [World.size_alloc, drew_size, opTbl, List.map_cons, List.map_nil, List.length_cons, List.length_nil, Nat.zero_add, Nat.reduceAdd] at HX
            refine hK.out _ _ (.inr (trivial)) ?_
            clear hK K
            revert HX
            generalize World.alloc _ _ = wz
            intro HX
            with_reducible refine po_run ?_ (fun K hK => ?_) ?_
            · (go_simp; done)
            rotate_left
            · exact po_stop
            obtain ⟨e0, e1, e2, e3, e4, e5, e6, e7⟩ := box4 HX 0 rfl
            go_simp
            replace HX := (((HX.putBox 0 rfl 0 (.int .i64 t)).putBox 0 rfl 1 (.int .i64 (x2 : Int))).putBox 0 rfl 2 (.int .i64 0)).putBox 0 rfl 3 (.int .i64 0)
            simp only [List.set_cons_zero, List.set_cons_succ] at HX
            clear e0 e1 e2 e3 e4 e5 e6 e7
            refine hK.out _ _ (.inl rfl) ?_
            clear hK K
            refine po_done ?_
            go_wp2_with fail
            go_meet
            exact ⟨_, t, x2, rfl, hmem, hx2, HX.erase 1⟩
          with_reducible refine po_run ?_ (fun K hK => ?_) ?_
          · (go_simp; done)
          rotate_left
          · exact po_stop
          try (revert HX; generalize World.drew _ = wd; intro HX)
          go_simp
          replace HX := HX.box [.int .i64 0, .int .i64 0, .int .i64 0, .int .i64 0] 46
          try simp only [World.size_alloc, drew_size, opTbl, List.map_cons, List.map_nil, List.length_cons, List.length_nil, Nat.zero_add, Nat.reduceAdd] at HX
          refine hK.out _ _ (.inr (trivial)) ?_
          clear hK K
          revert HX
          generalize World.alloc _ _ = wz
          intro HX
          with_reducible refine po_run ?_ (fun K hK => ?_) ?_
          · (go_simp; done)
          rotate_left
          · exact po_stop
          obtain ⟨z0, -⟩ := HX.elem 1 rfl (j := x1) (u := .int .i64 t) (by rw [List.getElem?_map, ht]; rfl)
          go_simp
          clear z0
          refine hK.out _ _ (.inr (trivial)) ?_
          clear hK K
          repeat (first
            | (with_reducible refine po_take (v := ?_) ?_ (fun w' hS' => ?_) ?_
               rotate_left
               · (go_simp; done)
               · ((try dsimp only at hS'); go_simp; try with_reducible rfl)
               simp only [Act.put, List.setIfInBounds_toArray, List.set_cons_zero, List.set_cons_succ])
            | (with_reducible refine po_skip ?_ ?_
               · (go_simp; done)
               simp only [Act.put, List.setIfInBounds_toArray, List.set_cons_zero, List.set_cons_succ]))
          with_reducible refine po_run ?_ (fun K hK => ?_) ?_
          · (go_simp; done)
          rotate_left
          · exact po_stop
          obtain ⟨e0, e1, e2, e3, e4, e5, e6, e7⟩ := box4 HX 0 rfl
          go_simp
          replace HX := (((HX.putBox 0 rfl 0 (.int .i64 t)).putBox 0 rfl 1 (.int .i64 (x2 : Int))).putBox 0 rfl 2 (.int .i64 0)).putBox 0 rfl 3 (.int .i64 0)
          simp only [List.set_cons_zero, List.set_cons_succ] at HX
          clear e0 e1 e2 e3 e4 e5 e6 e7
          refine hK.out _ _ (.inl rfl) ?_
          clear hK K
          refine po_done ?_
          go_wp2_with fail
          go_meet
          exact ⟨_, t, x2, rfl, hmem, hx2, HX.erase 1⟩
        with_reducible refine po_run ?_ (fun K hK => ?_) ?_
        · (go_simp; done)
        rotate_left
        · exact po_stop
        try (revert HX; generalize World.drew _ = wd; intro HX)
        go_simp
        replace HX := HX.box [.int .i64 0, .int .i64 0, .int .i64 0, .int .i64 0] 46
        try simp only [World.size_alloc, drew_size, opTbl, List.map_cons, List.map_nil, List.length_cons, List.length_nil, Nat.zero_add, Nat.reduceAdd] at HX
        refine hK.out _ _ (.inr (trivial)) ?_
        clear hK K
        revert HX
        generalize World.alloc _ _ = wz
        intro HX
        with_reducible refine po_run ?_ (fun K hK => ?_) ?_
        · (go_simp; done)
        · -- operation 4 first
          obtain ⟨z0, -⟩ := HX.elem 1 rfl (j := x1) (u := .int .i64 t) (by rw [List.getElem?_map, ht]; rfl)
          go_simp
          clear z0
          refine hK.out _ _ (.inr (trivial)) ?_
          clear hK K
          with_reducible refine po_run ?_ (fun K hK => ?_) ?_
          · (go_simp; done)
          rotate_left
          · exact po_stop
          go_simp
          refine (pick_own HX (i + 3) (set_get hX _) hr (by omega) 4 (by unfold I64; omega)).mono ?_
          rintro e wb ⟨x2, rfl, hx2, HY⟩
          replace hx2 : x2 < 4 := by omega
          simp only [List.set_cons_succ, List.set_set] at HY
          replace HX := HY
          clear HY
          refine hK.out _ _ (.inr (trivial)) ?_
          clear hK K
          repeat (first
            | (with_reducible refine po_take (v := ?_) ?_ (fun w' hS' => ?_) ?_
               rotate_left
               · (go_simp; done)
               · ((try dsimp only at hS'); go_simp; try with_reducible rfl)
               simp only [Act.put, List.setIfInBounds_toArray, List.set_cons_zero, List.set_cons_succ])
            | (with_reducible refine po_skip ?_ ?_
               · (go_simp; done)
               simp only [Act.put, List.setIfInBounds_toArray, List.set_cons_zero, List.set_cons_succ]))
          with_reducible refine po_run ?_ (fun K hK => ?_) ?_
          · (go_simp; done)
          rotate_left
          · exact po_stop
          obtain ⟨e0, e1, e2, e3, e4, e5, e6, e7⟩ := box4 HX 0 rfl
          go_simp
          replace HX := (((HX.putBox 0 rfl 0 (.int .i64 t)).putBox 0 rfl 1 (.int .i64 (x2 : Int))).putBox 0 rfl 2 (.int .i64 0)).putBox 0 rfl 3 (.int .i64 0)
          simp only [List.set_cons_zero, List.set_cons_succ] at HX
          clear e0 e1 e2 e3 e4 e5 e6 e7
          refine hK.out _ _ (.inl rfl) ?_
          clear hK K
          refine po_done ?_
          go_wp2_with fail
          go_meet
          exact ⟨_, t, x2, rfl, hmem, hx2, HX.erase 1⟩
        with_reducible refine po_run ?_ (fun K hK => ?_) ?_
        · (go_simp; done)
        rotate_left
        · exact po_stop
        go_simp
        refine (pick_own HX (i + 3) (set_get hX _) hr (by omega) 4 (by unfold I64; omega)).mono ?_
        rintro e wb ⟨x2, rfl, hx2, HY⟩
        replace hx2 : x2 < 4 := by omega
        simp only [List.set_cons_succ, List.set_set] at HY
        replace HX := HY
        clear HY
        refine hK.out _ _ (.inr (trivial)) ?_
        clear hK K
        with_reducible refine po_run ?_ (fun K hK => ?_) ?_
        · (go_simp; done)
        rotate_left
        · exact po_stop
        obtain ⟨z0, -⟩ := HX.elem 1 rfl (j := x1) (u := .int .i64 t) (by rw [List.getElem?_map, ht]; rfl)
        go_simp
        clear z0
        refine hK.out _ _ (.inr (trivial)) ?_
        clear hK K
        repeat (first
          | (with_reducible refine po_take (v := ?_) ?_ (fun w' hS' => ?_) ?_
             rotate_left
             · (go_simp; done)
             · ((try dsimp only at hS'); go_simp; try with_reducible rfl)
             simp only [Act.put, List.setIfInBounds_toArray, List.set_cons_zero, List.set_cons_succ])
          | (with_reducible refine po_skip ?_ ?_
             · (go_simp; done)
             simp only [Act.put, List.setIfInBounds_toArray, List.set_cons_zero, List.set_cons_succ]))
        with_reducible refine po_run ?_ (fun K hK => ?_) ?_
        · (go_simp; done)
        rotate_left
        · exact po_stop
        obtain ⟨e0, e1, e2, e3, e4, e5, e6, e7⟩ := box4 HX 0 rfl
        go_simp
        replace HX := (((HX.putBox 0 rfl 0 (.int .i64 t)).putBox 0 rfl 1 (.int .i64 (x2 : Int))).putBox 0 rfl 2 (.int .i64 0)).putBox 0 rfl 3 (.int .i64 0)
        simp only [List.set_cons_zero, List.set_cons_succ] at HX
        clear e0 e1 e2 e3 e4 e5 e6 e7
        refine hK.out _ _ (.inl rfl) ?_
        clear hK K
        refine po_done ?_
        go_wp2_with fail
        go_meet
        exact ⟨_, t, x2, rfl, hmem, hx2, HX.erase 1⟩
      with_reducible refine po_run ?_ (fun K hK => ?_) ?_
      · (go_simp; done)
      rotate_left
      · exact po_stop
      try (revert HX; generalize World.drew _ = wd; intro HX)
      go_simp
      replace HX := HX.box [.int .i64 0, .int .i64 0, .int .i64 0, .int .i64 0] 46
      try simp only [World.size_alloc, drew_size, opTbl, List.map_cons, List.map_nil, List.length_cons, List.length_nil, Nat.zero_add, Nat.reduceAdd] at HX
      refine hK.out _ _ (.inr (trivial)) ?_
      clear hK K
      revert HX
      generalize World.alloc _ _ = wz
      intro HX
      with_reducible refine po_run ?_ (fun K hK => ?_) ?_
      · (go_simp; done)
      rotate_left
      · exact po_stop
      try (revert HX; generalize World.drew _ = wd; intro HX)
      go_simp
      refine (pick_own HX (i + 3) hX hr (by omega) 10 (by unfold I64; omega)).mono ?_
      rintro e wa ⟨x1, rfl, hx1, HY⟩
      replace hx1 : x1 < 10 := by omega
      have hy1 : (x1 : Int) < 10 := by omega
      obtain ⟨t, ht, hmem⟩ := opTbl_at hx1
      simp only [List.set_cons_succ] at HY
      replace HX := HY
      clear HY
      refine hK.out _ _ (.inr (trivial)) ?_
      clear hK K
      repeat (first
        | (with_reducible refine po_take (v := ?_) ?_ (fun w' hS' => ?_) ?_
           rotate_left
           · (go_simp; done)
           · ((try dsimp only at hS'); go_simp; try with_reducible rfl)
           simp only [Act.put, List.setIfInBounds_toArray, List.set_cons_zero, List.set_cons_succ])
        | (with_reducible refine po_skip ?_ ?_
           · (go_simp; done)
           simp only [Act.put, List.setIfInBounds_toArray, List.set_cons_zero, List.set_cons_succ]))
      with_reducible refine po_run ?_ (fun K hK => ?_) ?_
      · (go_simp; done)
      · -- operation 4 first
        obtain ⟨z0, -⟩ := HX.elem 1 rfl (j := x1) (u := .int .i64 t) (by rw [List.getElem?_map, ht]; rfl)
        go_simp
        clear z0
        refine hK.out _ _ (.inr (trivial)) ?_
        clear hK K
        with_reducible refine po_run ?_ (fun K hK => ?_) ?_
        · (go_simp; done)
        rotate_left
        · exact po_stop
        go_simp
        refine (pick_own HX (i + 3) (set_get hX _) hr (by omega) 4 (by unfold I64; omega)).mono ?_
        rintro e wb ⟨x2, rfl, hx2, HY⟩
        replace hx2 : x2 < 4 := by omega
        simp only [List.set_cons_succ, List.set_set] at HY
        replace HX := HY
        clear HY
        refine hK.out _ _ (.inr (trivial)) ?_
        clear hK K
        repeat (first
          | (with_reducible refine po_take (v := ?_) ?_ (fun w' hS' => ?_) ?_
             rotate_left
             · (go_simp; done)
             · ((try dsimp only at hS'); go_simp; try with_reducible rfl)
             simp only [Act.put, List.setIfInBounds_toArray, List.set_cons_zero, List.set_cons_succ])
          | (with_reducible refine po_skip ?_ ?_
             · (go_simp; done)
             simp only [Act.put, List.setIfInBounds_toArray, List.set_cons_zero, List.set_cons_succ]))
        with_reducible refine po_run ?_ (fun K hK => ?_) ?_
        · (go_simp; done)
        rotate_left
        · exact po_stop
        obtain ⟨e0, e1, e2, e3, e4, e5, e6, e7⟩ := box4 HX 0 rfl
        go_simp
        replace HX := (((HX.putBox 0 rfl 0 (.int .i64 t)).putBox 0 rfl 1 (.int .i64 (x2 : Int))).putBox 0 rfl 2 (.int .i64 0)).putBox 0 rfl 3 (.int .i64 0)
        simp only [List.set_cons_zero, List.set_cons_succ] at HX
        clear e0 e1 e2 e3 e4 e5 e6 e7
        refine hK.out _ _ (.inl rfl) ?_
        clear hK K
        refine po_done ?_
        go_wp2_with fail
        go_meet
        exact ⟨_, t, x2, rfl, hmem, hx2, HX.erase 1⟩
      with_reducible refine po_run ?_ (fun K hK => ?_) ?_
      · (go_simp; done)
      rotate_left
      · exact po_stop
      go_simp
      refine (pick_own HX (i + 3) (set_get hX _) hr (by omega) 4 (by unfold I64; omega)).mono ?_
      rintro e wb ⟨x2, rfl, hx2, HY⟩
      replace hx2 : x2 < 4 := by omega
      simp only [List.set_cons_succ, List.set_set] at HY
      replace HX := HY
      clear HY
      refine hK.out _ _ (.inr (trivial)) ?_
      clear hK K
      with_reducible refine po_run ?_ (fun K hK => ?_) ?_
      · (go_simp; done)
      rotate_left
      · exact po_stop
      obtain ⟨z0, -⟩ := HX.elem 1 rfl (j := x1) (u := .int .i64 t) (by rw [List.getElem?_map, ht]; rfl)
      go_simp
      clear z0
      refine hK.out _ _ (.inr (trivial)) ?_
      clear hK K
      repeat (first
        | (with_reducible refine po_take (v := ?_) ?_ (fun w' hS' => ?_) ?_
           rotate_left
           · (go_simp; done)
           · ((try dsimp only at hS'); go_simp; try with_reducible rfl)
           simp only [Act.put, List.setIfInBounds_toArray, List.set_cons_zero, List.set_cons_succ])
        | (with_reducible refine po_skip ?_ ?_
           · (go_simp; done)
           simp only [Act.put, List.setIfInBounds_toArray, List.set_cons_zero, List.set_cons_succ]))
      with_reducible refine po_run ?_ (fun K hK => ?_) ?_
      · (go_simp; done)
      rotate_left
      · exact po_stop
      obtain ⟨e0, e1, e2, e3, e4, e5, e6, e7⟩ := box4 HX 0 rfl
      go_simp
      replace HX := (((HX.putBox 0 rfl 0 (.int .i64 t)).putBox 0 rfl 1 (.int .i64 (x2 : Int))).putBox 0 rfl 2 (.int .i64 0)).putBox 0 rfl 3 (.int .i64 0)
      simp only [List.set_cons_zero, List.set_cons_succ] at HX
      clear e0 e1 e2 e3 e4 e5 e6 e7
      refine hK.out _ _ (.inl rfl) ?_
      clear hK K
      refine po_done ?_
      go_wp2_with fail
      go_meet
      exact ⟨_, t, x2, rfl, hmem, hx2, HX.erase 1⟩
    with_reducible refine po_run ?_ (fun K hK => ?_) ?_
    · (go_simp; done)
    · -- operation 2 first
      try (revert HX; generalize World.drew _ = wd; intro HX)
      go_simp
      refine (pick_own HX (i + 1) hX hr (by omega) 10 (by unfold I64; omega)).mono ?_
      rintro e wa ⟨x1, rfl, hx1, HY⟩
      replace hx1 : x1 < 10 := by omega
      have hy1 : (x1 : Int) < 10 := by omega
      obtain ⟨t, ht, hmem⟩ := opTbl_at hx1
      simp only [List.set_cons_succ] at HY
      replace HX := HY
      clear HY
      refine hK.out _ _ (.inr (trivial)) ?_
      clear hK K
      with_reducible refine po_run ?_ (fun K hK => ?_) ?_
      · (go_simp; done)
      · -- operation 0 first
        try (revert HX; generalize World.drew _ = wd; intro HX)
        go_simp
        replace HX := HX.litI opTbl (by decide)
        try simp only [opTbl, List.map_cons, List.map_nil, List.length_cons, List.length_nil, Nat.zero_add, Nat.reduceAdd] at HX
        refine hK.out _ _ (.inr (trivial)) ?_
        clear hK K
        revert HX
        generalize World.alloc _ _ = wz
        intro HX
        repeat (first
          | (with_reducible refine po_take (v := ?_) ?_ (fun w' hS' => ?_) ?_
             rotate_left
             · (go_simp; done)
             · ((try dsimp only at hS'); go_simp; try with_reducible rfl)
             simp only [Act.put, List.setIfInBounds_toArray, List.set_cons_zero, List.set_cons_succ])
          | (with_reducible refine po_skip ?_ ?_
             · (go_simp; done)
             simp only [Act.put, List.setIfInBounds_toArray, List.set_cons_zero, List.set_cons_succ]))
        with_reducible refine po_run ?_ (fun K hK => ?_) ?_
        · (go_simp; done)
        · -- operation 4 first
          obtain ⟨z0, -⟩ := HX.elem 0 rfl (j := x1) (u := .int .i64 t) (by rw [List.getElem?_map, ht]; rfl)
          go_simp
          clear z0
          refine hK.out _ _ (.inr (trivial)) ?_
          clear hK K
          with_reducible refine po_run ?_ (fun K hK => ?_) ?_
          · (go_simp; done)
          · -- operation 6 first
            go_simp
            refine (pick_own HX (i + 2) (set_get hX _) hr (by omega) 4 (by unfold I64; omega)).mono ?_
            rintro e wb ⟨x2, rfl, hx2, HY⟩
            replace hx2 : x2 < 4 := by omega
            simp only [List.set_cons_succ, List.set_set] at HY
            replace HX := HY
            clear HY
            refine hK.out _ _ (.inr (trivial)) ?_
            clear hK K
            repeat (first
              | (with_reducible refine po_take (v := ?_) ?_ (fun w' hS' => ?_) ?_
                 rotate_left
                 · (go_simp; done)
                 · ((try dsimp only at hS'); go_simp; try with_reducible rfl)
                 simp only [Act.put, List.setIfInBounds_toArray, List.set_cons_zero, List.set_cons_succ])
              | (with_reducible refine po_skip ?_ ?_
                 · (go_simp; done)
                 simp only [Act.put, List.setIfInBounds_toArray, List.set_cons_zero, List.set_cons_succ]))
            with_reducible refine po_run ?_ (fun K hK => ?_) ?_
            · (go_simp; done)
            rotate_left
            · exact po_stop
            try (revert HX; generalize World.drew _ = wd; intro HX)
            go_simp
            replace HX := HX.box [.int .i64 0, .int .i64 0, .int .i64 0, .int .i64 0] 46
            try simp only [World.size_alloc, drew_size, opTbl, List.map_cons, List.map_nil, List.length_cons, List.length_nil, Nat.zero_add, Nat.reduceAdd] at HX
            refine hK.out _ _ (.inr (trivial)) ?_
            clear hK K
            revert HX
            generalize World.alloc _ _ = wz
            intro HX
            with_reducible refine po_run ?_ (fun K hK => ?_) ?_
            · (go_simp; done)
            rotate_left
            · exact po_stop
            obtain ⟨e0, e1, e2, e3, e4, e5, e6, e7⟩ := box4 HX 0 rfl
            go_simp
            replace HX := (((HX.putBox 0 rfl 0 (.int .i64 t)).putBox 0 rfl 1 (.int .i64 (x2 : Int))).putBox 0 rfl 2 (.int .i64 0)).putBox 0 rfl 3 (.int .i64 0)
            simp only [List.set_cons_zero, List.set_cons_succ] at HX
            clear e0 e1 e2 e3 e4 e5 e6 e7
            refine hK.out _ _ (.inl rfl) ?_
            clear hK K
            refine po_done ?_
            go_wp2_with fail
            go_meet
            exact ⟨_, t, x2, rfl, hmem, hx2, HX.erase 1⟩
          with_reducible refine po_run ?_ (fun K hK => ?_) ?_
          · (go_simp; done)
          rotate_left
          · exact po_stop
          try (revert HX; generalize World.drew _ = wd; intro HX)
          go_simp
          replace HX := HX.box [.int .i64 0, .int .i64 0, .int .i64 0, .int .i64 0] 46
          try simp only [World.size_alloc, drew_size, opTbl, List.map_cons, List.map_nil, List.length_cons, List.length_nil, Nat.zero_add, Nat.reduceAdd] at HX
          refine hK.out _ _ (.inr (trivial)) ?_
          clear hK K
          revert HX
          generalize World.alloc _ _ = wz
          intro HX
          with_reducible refine po_run ?_ (fun K hK => ?_) ?_
          · (go_simp; done)
          rotate_left
          · exact po_stop
          go_simp
          refine (pick_own HX (i + 3) (set_get hX _) hr (by omega) 4 (by unfold I64; omega)).mono ?_
          rintro e wb ⟨x2, rfl, hx2, HY⟩
          replace hx2 : x2 < 4 := by omega
          simp only [List.set_cons_succ, List.set_set] at HY
          replace HX := HY
          clear HY
          refine hK.out _ _ (.inr (trivial)) ?_
          clear hK K
          repeat (first
            | (with_reducible refine po_take (v := ?_) ?_ (fun w' hS' => ?_) ?_
               rotate_left
               · (go_simp; done)
               · ((try dsimp only at hS'); go_simp; try with_reducible rfl)
               simp only [Act.put, List.setIfInBounds_toArray, List.set_cons_zero, List.set_cons_succ])
            | (with_reducible refine po_skip ?_ ?_
               · (go_simp; done)
               simp only [Act.put, List.setIfInBounds_toArray, List.set_cons_zero, List.set_cons_succ]))
          with_reducible refine po_run ?_ (fun K hK => ?_) ?_
          · (go_simp; done)
          rotate_left
          · exact po_stop
          obtain ⟨e0, e1, e2, e3, e4, e5, e6, e7⟩ := box4 HX 0 rfl
          go_simp
          replace HX := (((HX.putBox 0 rfl 0 (.int .i64 t)).putBox 0 rfl 1 (.int .i64 (x2 : Int))).putBox 0 rfl 2 (.int .i64 0)).putBox 0 rfl 3 (.int .i64 0)
          simp only [List.set_cons_zero, List.set_cons_succ] at HX
          clear e0 e1 e2 e3 e4 e5 e6 e7
          refine hK.out _ _ (.inl rfl) ?_
          clear hK K
          refine po_done ?_
          go_wp2_with fail
          go_meet
          exact ⟨_, t, x2, rfl, hmem, hx2, HX.erase 1⟩
        with_reducible refine po_run ?_ (fun K hK => ?_) ?_
        · (go_simp; done)
        · -- operation 6 first
          go_simp
          refine (pick_own HX (i + 2) (set_get hX _) hr (by omega) 4 (by unfold I64; omega)).mono ?_
          rintro e wb ⟨x2, rfl, hx2, HY⟩
          replace hx2 : x2 < 4 := by omega
          simp only [List.set_cons_succ, List.set_set] at HY
          replace HX := HY
          clear HY
          refine hK.out _ _ (.inr (trivial)) ?_
          clear hK K
          with_reducible refine po_run ?_ (fun K hK => ?_) ?_
          · (go_simp; done)
          · -- operation 4 first
            obtain ⟨z0, -⟩ := HX.elem 0 rfl (j := x1) (u := .int .i64 t) (by rw [List.getElem?_map, ht]; rfl)
            go_simp
            clear z0
            refine hK.out _ _ (.inr (trivial)) ?_
            clear hK K
            repeat (first
              | (with_reducible refine po_take (v := ?_) ?_ (fun w' hS' => ?_) ?_
                 rotate_left
                 · (go_simp; done)
                 · ((try dsimp only at hS'); go_simp; try with_reducible rfl)
                 simp only [Act.put, List.setIfInBounds_toArray, List.set_cons_zero, List.set_cons_succ])
              | (with_reducible refine po_skip ?_ ?_
                 · (go_simp; done)
                 simp only [Act.put, List.setIfInBounds_toArray, List.set_cons_zero, List.set_cons_succ]))
            with_reducible refine po_run ?_ (fun K hK => ?_) ?_
            · (go_simp; done)
            rotate_left
            · exact po_stop
            try (revert HX; generalize World.drew _ = wd; intro HX)
            go_simp
            replace HX := HX.box [.int .i64 0, .int .i64 0, .int .i64 0, .int .i64 0] 46
            try simp only [World.size_alloc, drew_size, opTbl, List.map_cons, List.map_nil, List.length_cons, List.length_nil, Nat.zero_add, Nat.reduceAdd] at HX
            refine hK.out _ _ (.inr (trivial)) ?_
            clear hK K
            revert HX
            generalize World.alloc _ _ = wz
            intro HX
            with_reducible refine po_run ?_ (fun K hK => ?_) ?_
            · (go_simp; done)
            rotate_left
            · exact po_stop
            obtain ⟨e0, e1, e2, e3, e4, e5, e6, e7⟩ := box4 HX 0 rfl
            go_simp
            replace HX := (((HX.putBox 0 rfl 0 (.int .i64 t)).putBox 0 rfl 1 (.int .i64 (x2 : Int))).putBox 0 rfl 2 (.int .i64 0)).putBox 0 rfl 3 (.int .i64 0)
            simp only [List.set_cons_zero, List.set_cons_succ] at HX
            clear e0 e1 e2 e3 e4 e5 e6 e7
            refine hK.out _ _ (.inl rfl) ?_
            clear hK K
            refine po_done ?_
            go_wp2_with fail
            go_meet
            exact ⟨_, t, x2, rfl, hmem, hx2, HX.erase 1⟩
          with_reducible refine po_run ?_ (fun K hK => ?_) ?_
          · (go_simp; done)
          rotate_left
          · exact po_stop
          try (revert HX; generalize World.drew _ = wd; intro HX)
          go_simp
          replace HX := HX.box [.int .i64 0, .int .i64 0, .int .i64 0, .int .i64 0] 46
          try simp only [World.size_alloc, drew_size, opTbl, List.map_cons, List.map_nil, List.length_cons, List.length_nil, Nat.zero_add, Nat.reduceAdd] at HX
          refine hK.out _ _ (.inr (trivial)) ?_
          clear hK K
          revert HX
          generalize World.alloc _ _ = wz
          intro HX
          with_reducible refine po_run ?_ (fun K hK => ?_) ?_
          · (go_simp; done)
          rotate_left
          · exact po_stop
          obtain ⟨z0, -⟩ := HX.elem 1 rfl (j := x1) (u := .int .i64 t) (by rw [List.getElem?_map, ht]; rfl)
          go_simp
          clear z0
          refine hK.out _ _ (.inr (trivial)) ?_
          clear hK K
          repeat (first
            | (with_reducible refine po_take (v := ?_) ?_ (fun w' hS' => ?_) ?_
               rotate_left
               · (go_simp; done)
               · ((try dsimp only at hS'); go_simp; try with_reducible rfl)
               simp only [Act.put, List.setIfInBounds_toArray, List.set_cons_zero, List.set_cons_succ])
            | (with_reducible refine po_skip ?_ ?_
               · (go_simp; done)
               simp only [Act.put, List.setIfInBounds_toArray, List.set_cons_zero, List.set_cons_succ]))
          with_reducible refine po_run ?_ (fun K hK => ?_) ?_
          · (go_simp; done)
          rotate_left
          · exact po_stop
          obtain ⟨e0, e1, e2, e3, e4, e5, e6, e7⟩ := box4 HX 0 rfl
          go_simp
          replace HX := (((HX.putBox 0 rfl 0 (.int .i64 t)).putBox 0 rfl 1 (.int .i64 (x2 : Int))).putBox 0 rfl 2 (.int .i64 0)).putBox 0 rfl 3 (.int .i64 0)
          simp only [List.set_cons_zero, List.set_cons_succ] at HX
          clear e0 e1 e2 e3 e4 e5 e6 e7
          refine hK.out _ _ (.inl rfl) ?_
          clear hK K
          refine po_done ?_
          go_wp2_with fail
          go_meet
          exact ⟨_, t, x2, rfl, hmem, hx2, HX.erase 1⟩
        with_reducible refine po_run ?_ (fun K hK => ?_) ?_
        · (go_simp; done)
        rotate_left
        · exact po_stop
        try (revert HX; generalize World.drew _ = wd; intro HX)
        go_simp
        replace HX := HX.box [.int .i64 0, .int .i64 0, .int .i64 0, .int .i64 0] 46
        try simp only [World.size_alloc, drew_size, opTbl, List.map_cons, List.map_nil, List.length_cons, List.length_nil, Nat.zero_add, Nat.reduceAdd] at HX
        refine hK.out _ _ (.inr (trivial)) ?_
        clear hK K
        revert HX
        generalize World.alloc _ _ = wz
        intro HX
        with_reducible refine po_run ?_ (fun K hK => ?_) ?_
        · (go_simp; done)
        · -- operation 4 first
          obtain ⟨z0, -⟩ := HX.elem 1 rfl (j := x1) (u := .int .i64 t) (by rw [List.getElem?_map, ht]; rfl)
          go_simp
          clear z0
          refine hK.out _ _ (.inr (trivial)) ?_
          clear hK K
          with_reducible refine po_run ?_ (fun K hK => ?_) ?_
          · (go_simp; done)
          rotate_left
          · exact po_stop
          go_simp
          refine (pick_own HX (i + 3) (set_get hX _) hr (by omega) 4 (by unfold I64; omega)).mono ?_
          rintro e wb ⟨x2, rfl, hx2, HY⟩
          replace hx2 : x2 < 4 := by omega
          simp only [List.set_cons_succ, List.set_set] at HY
          replace HX := HY
          clear HY
          refine hK.out _ _ (.inr (trivial)) ?_
          clear hK K
          repeat (first
            | (with_reducible refine po_take (v := ?_) ?_ (fun w' hS' => ?_) ?_
               rotate_left
               · (go_simp; done)
               · ((try dsimp only at hS'); go_simp; try with_reducible rfl)
               simp only [Act.put, List.setIfInBounds_toArray, List.set_cons_zero, List.set_cons_succ])
            | (with_reducible refine po_skip ?_ ?_
               · (go_simp; done)
               simp only [Act.put, List.setIfInBounds_toArray, List.set_cons_zero, List.set_cons_succ]))
          with_reducible refine po_run ?_ (fun K hK => ?_) ?_
          · (go_simp; done)
          rotate_left
          · exact po_stop
          obtain ⟨e0, e1, e2, e3, e4, e5, e6, e7⟩ := box4 HX 0 rfl
          go_simp
          replace HX := (((HX.putBox 0 rfl 0 (.int .i64 t)).putBox 0 rfl 1 (.int .i64 (x2 : Int))).putBox 0 rfl 2 (.int .i64 0)).putBox 0 rfl 3 (.int .i64 0)
          simp only [List.set_cons_zero, List.set_cons_succ] at HX
          clear e0 e1 e2 e3 e4 e5 e6 e7
          refine hK.out _ _ (.inl rfl) ?_
          clear hK K
          refine po_done ?_
          go_wp2_with fail
          go_meet
          exact ⟨_, t, x2, rfl, hmem, hx2, HX.erase 1⟩
        with_reducible refine po_run ?_ (fun K hK => ?_) ?_
        · (go_simp; done)
        rotate_left
        · exact po_stop
        go_simp
        refine (pick_own HX (i + 3) (set_get hX _) hr (by omega) 4 (by unfold I64; omega)).mono ?_
        rintro e wb ⟨x2, rfl, hx2, HY⟩
        replace hx2 : x2 < 4 := by omega
        simp only [List.set_cons_succ, List.set_set] at HY
        replace HX := HY
        clear HY
        refine hK.out _ _ (.inr (trivial)) ?_
        clear hK K
        with_reducible refine po_run ?_ (fun K hK => ?_) ?_
        · (go_simp; done)
        rotate_left
        · exact po_stop
        obtain ⟨z0, -⟩ := HX.elem 1 rfl (j := x1) (u := .int .i64 t) (by rw [List.getElem?_map, ht]; rfl)
        go_simp
        clear z0
        refine hK.out _ _ (.inr (trivial)) ?_
        clear hK K
        repeat (first
          | (with_reducible refine po_take (v := ?_) ?_ (fun w' hS' => ?_) ?_
             rotate_left
             · (go_simp; done)
             · ((try dsimp only at hS'); go_simp; try with_reducible rfl)
             simp only [Act.put, List.setIfInBounds_toArray, List.set_cons_zero, List.set_cons_succ])
          | (with_reducible refine po_skip ?_ ?_
             · (go_simp; done)
             simp only [Act.put, List.setIfInBounds_toArray, List.set_cons_zero, List.set_cons_succ]))
        with_reducible refine po_run ?_ (fun K hK => ?_) ?_
        · (go_simp; done)
        rotate_left
        · exact po_stop
        obtain ⟨e0, e1, e2, e3, e4, e5, e6, e7⟩ := box4 HX 0 rfl
        go_simp
        replace HX := (((HX.putBox 0 rfl 0 (.int .i64 t)).putBox 0 rfl 1 (.int .i64 (x2 : Int))).putBox 0 rfl 2 (.int .i64 0)).putBox 0 rfl 3 (.int .i64 0)
        simp only [List.set_cons_zero, List.set_cons_succ] at HX
        clear e0 e1 e2 e3 e4 e5 e6 e7
        refine hK.out _ _ (.inl rfl) ?_
        clear hK K
        refine po_done ?_
        go_wp2_with fail
        go_meet
        exact ⟨_, t, x2, rfl, hmem, hx2, HX.erase 1⟩
      with_reducible refine po_run ?_ (fun K hK => ?_) ?_
      · (go_simp; done)
      · -- operation 6 first
        go_simp
        refine (pick_own HX (i + 1) (set_get hX _) hr (by omega) 4 (by unfold I64; omega)).mono ?_
        rintro e wb ⟨x2, rfl, hx2, HY⟩
        replace hx2 : x2 < 4 := by omega
        simp only [List.set_cons_succ, List.set_set] at HY
        replace HX := HY
        clear HY
        refine hK.out _ _ (.inr (trivial)) ?_
        clear hK K
        with_reducible refine po_run ?_ (fun K hK => ?_) ?_
        · (go_simp; done)
        · -- operation 0 first
          try (revert HX; generalize World.drew _ = wd; intro HX)
          go_simp
          replace HX := HX.litI opTbl (by decide)
          try simp only [opTbl, List.map_cons, List.map_nil, List.length_cons, List.length_nil, Nat.zero_add, Nat.reduceAdd] at HX
          refine hK.out _ _ (.inr (trivial)) ?_
          clear hK K
          revert HX
          generalize World.alloc _ _ = wz
          intro HX
          repeat (first
            | (with_reducible refine po_take (v := ?_) ?_ (fun w' hS' => ?_) ?_
               rotate_left
               · (go_simp; done)
               · ((try dsimp only at hS'); go_simp; try with_reducible rfl)
               simp only [Act.put, List.setIfInBounds_toArray, List.set_cons_zero, List.set_cons_succ])
            | (with_reducible refine po_skip ?_ ?_
               · (go_simp; done)
               simp only [Act.put, List.setIfInBounds_toArray, List.set_cons_zero, List.set_cons_succ]))
          with_reducible refine po_run ?_ (fun K hK => ?_) ?_
          · (go_simp; done)
          · -- operation 4 first
            obtain ⟨z0, -⟩ := HX.elem 0 rfl (j := x1) (u := .int .i64 t) (by rw [List.getElem?_map, ht]; rfl)
            go_simp
            clear z0
            refine hK.out _ _ (.inr (trivial)) ?_
            clear hK K
            repeat (first
              | (with_reducible refine po_take (v := ?_) ?_ (fun w' hS' => ?_) ?_
                 rotate_left
                 · (go_simp; done)
                 · ((try dsimp only at hS'); go_simp; try with_reducible rfl)
                 simp only [Act.put, List.setIfInBounds_toArray, List.set_cons_zero, List.set_cons_succ])
              | (with_reducible refine po_skip ?_ ?_
                 · (go_simp; done)
                 simp only [Act.put, List.setIfInBounds_toArray, List.set_cons_zero, List.set_cons_succ]))
            with_reducible refine po_run ?_ (fun K hK => ?_) ?_
            · (go_simp; done)
            rotate_left
            · exact po_stop
            try (revert HX; generalize World.drew _ = wd; intro HX)
            go_simp
            replace HX := HX.box [.int .i64 0, .int .i64 0, .int .i64 0, .int .i64 0] 46
            try simp only [World.size_alloc, drew_size, opTbl, List.map_cons, List.map_nil, List.length_cons, List.length_nil, Nat.zero_add, Nat.reduceAdd] at HX
            refine hK.out _ _ (.inr (trivial)) ?_
            clear hK K
            revert HX
            generalize World.alloc _ _ = wz
            intro HX
            with_reducible refine po_run ?_ (fun K hK => ?_) ?_
            · (go_simp; done)
            rotate_left
            · exact po_stop
            obtain ⟨e0, e1, e2, e3, e4, e5, e6, e7⟩ := box4 HX 0 rfl
            go_simp
            replace HX := (((HX.putBox 0 rfl 0 (.int .i64 t)).putBox 0 rfl 1 (.int .i64 (x2 : Int))).putBox 0 rfl 2 (.int .i64 0)).putBox 0 rfl 3 (.int .i64 0)
            simp only [List.set_cons_zero, List.set_cons_succ] at HX
            clear e0 e1 e2 e3 e4 e5 e6 e7
            refine hK.out _ _ (.inl rfl) ?_
            clear hK K
            refine po_done ?_
            go_wp2_with fail
            go_meet
            exact ⟨_, t, x2, rfl, hmem, hx2, HX.erase 1⟩
          with_reducible refine po_run ?_ (fun K hK => ?_) ?_
          · (go_simp; done)
          rotate_left
          · exact po_stop
          try (revert HX; generalize World.drew _ = wd; intro HX)
          go_simp
          replace HX := HX.box [.int .i64 0, .int .i64 0, .int .i64 0, .int .i64 0] 46
          try simp only [World.size_alloc, drew_size, opTbl, List.map_cons, List.map_nil, List.length_cons, List.length_nil, Nat.zero_add, Nat.reduceAdd] at HX
          refine hK.out _ _ (.inr (trivial)) ?_
          clear hK K
          revert HX
          generalize World.alloc _ _ = wz
          intro HX
          with_reducible refine po_run ?_ (fun K hK => ?_) ?_
          · (go_simp; done)
          rotate_left
          · exact po_stop
          obtain ⟨z0, -⟩ := HX.elem 1 rfl (j := x1) (u := .int .i64 t) (by rw [List.getElem?_map, ht]; rfl)
          go_simp
          clear z0
          refine hK.out _ _ (.inr (trivial)) ?_
          clear hK K
          repeat (first
            | (with_reducible refine po_take (v := ?_) ?_ (fun w' hS' => ?_) ?_
               rotate_left
               · (go_simp; done)
               · ((try dsimp only at hS'); go_simp; try with_reducible rfl)
               simp only [Act.put, List.setIfInBounds_toArray, List.set_cons_zero, List.set_cons_succ])
            | (with_reducible refine po_skip ?_ ?_
               · (go_simp; done)
               simp only [Act.put, List.setIfInBounds_toArray, List.set_cons_zero, List.set_cons_succ]))
          with_reducible refine po_run ?_ (fun K hK => ?_) ?_
          · (go_simp; done)
          rotate_left
          · exact po_stop
          obtain ⟨e0, e1, e2, e3, e4, e5, e6, e7⟩ := box4 HX 0 rfl
          go_simp
          replace HX := (((HX.putBox 0 rfl 0 (.int .i64 t)).putBox 0 rfl 1 (.int .i64 (x2 : Int))).putBox 0 rfl 2 (.int .i64 0)).putBox 0 rfl 3 (.int .i64 0)
          simp only [List.set_cons_zero, List.set_cons_succ] at HX
          clear e0 e1 e2 e3 e4 e5 e6 e7
          refine hK.out _ _ (.inl rfl) ?_
          clear hK K
          refine po_done ?_
          go_wp2_with fail
          go_meet
          exact ⟨_, t, x2, rfl, hmem, hx2, HX.erase 1⟩
        with_reducible refine po_run ?_ (fun K hK => ?_) ?_
        · (go_simp; done)
        rotate_left
        · exact po_stop
        try (revert HX; generalize World.drew _ = wd; intro HX)
        go_simp
        replace HX := HX.box [.int .i64 0, .int .i64 0, .int .i64 0, .int .i64 0] 46
        try simp only [World.size_alloc, drew_size, opTbl, List.map_cons, List.map_nil, List.length_cons, List.length_nil, Nat.zero_add, Nat.reduceAdd] at HX
        refine hK.out _ _ (.inr (trivial)) ?_
        clear hK K
        revert HX
        generalize World.alloc _ _ = wz
        intro HX
        with_reducible refine po_run ?_ (fun K hK => ?_) ?_
        · (go_simp; done)
        rotate_left
        · exact po_stop
        try (revert HX; generalize World.drew _ = wd; intro HX)
        go_simp
        replace HX := HX.litI opTbl (by decide)
        try simp only [opTbl, List.map_cons, List.map_nil, List.length_cons, List.length_nil, Nat.zero_add, Nat.reduceAdd] at HX
        refine hK.out _ _ (.inr (trivial)) ?_
        clear hK K
        revert HX
        generalize World.alloc _ _ = wz
        intro HX
        repeat (first
          | (with_reducible refine po_take (v := ?_) ?_ (fun w' hS' => ?_) ?_
             rotate_left
             · (go_simp; done)
             · ((try dsimp only at hS'); go_simp; try with_reducible rfl)
             simp only [Act.put, List.setIfInBounds_toArray, List.set_cons_zero, List.set_cons_succ])
          | (with_reducible refine po_skip ?_ ?_
             · (go_simp; done)
             simp only [Act.put, List.setIfInBounds_toArray, List.set_cons_zero, List.set_cons_succ]))
        with_reducible refine po_run ?_ (fun K hK => ?_) ?_
        · (go_simp; done)
        rotate_left
        · exact po_stop
        obtain ⟨z0, -⟩ := HX.elem 0 rfl (j := x1) (u := .int .i64 t) (by rw [List.getElem?_map, ht]; rfl)
        go_simp
        clear z0
        refine hK.out _ _ (.inr (trivial)) ?_
        clear hK K
        repeat (first
          | (with_reducible refine po_take (v := ?_) ?_ (fun w' hS' => ?_) ?_
             rotate_left
             · (go_simp; done)
             · ((try dsimp only at hS'); go_simp; try with_reducible rfl)
             simp only [Act.put, List.setIfInBounds_toArray, List.set_cons_zero, List.set_cons_succ])
          | (with_reducible refine po_skip ?_ ?_
             · (go_simp; done)
             simp only [Act.put, List.setIfInBounds_toArray, List.set_cons_zero, List.set_cons_succ]))
        with_reducible refine po_run ?_ (fun K hK => ?_) ?_
        · (go_simp; done)
        rotate_left
        · exact po_stop
        obtain ⟨e0, e1, e2, e3, e4, e5, e6, e7⟩ := box4 HX 1 rfl
        go_simp
        replace HX := (((HX.putBox 1 rfl 0 (.int .i64 t)).putBox 1 rfl 1 (.int .i64 (x2 : Int))).putBox 1 rfl 2 (.int .i64 0)).putBox 1 rfl 3 (.int .i64 0)
        simp only [List.set_cons_zero, List.set_cons_succ] at HX
        clear e0 e1 e2 e3 e4 e5 e6 e7
        refine hK.out _ _ (.inl rfl) ?_
        clear hK K
        refine po_done ?_
        go_wp2_with fail
        go_meet
        exact ⟨_, t, x2, rfl, hmem, hx2, HX.erase 0⟩
      with_reducible refine po_run ?_ (fun K hK => ?_) ?_
      · (go_simp; done)
      rotate_left
      · exact po_stop
      try (revert HX; generalize World.drew _ = wd; intro HX)
      go_simp
      replace HX := HX.box [.int .i64 0, .int .i64 0, .int .i64 0, .int .i64 0] 46
      try simp only [World.size_alloc, drew_size, opTbl, List.map_cons, List.map_nil, List.length_cons, List.length_nil, Nat.zero_add, Nat.reduceAdd] at HX
      refine hK.out _ _ (.inr (trivial)) ?_
      clear hK K
      revert HX
      generalize World.alloc _ _ = wz
      intro HX
      with_reducible refine po_run ?_ (fun K hK => ?_) ?_
      · (go_simp; done)
      · -- operation 0 first
        try (revert HX; generalize World.drew _ = wd; intro HX)
        go_simp
        replace HX := HX.litI opTbl (by decide)
        try simp only [opTbl, List.map_cons, List.map_nil, List.length_cons, List.length_nil, Nat.zero_add, Nat.reduceAdd] at HX
        refine hK.out _ _ (.inr (trivial)) ?_
        clear hK K
        revert HX
        generalize World.alloc _ _ = wz
        intro HX
        repeat (first
          | (with_reducible refine po_take (v := ?_) ?_ (fun w' hS' => ?_) ?_
             rotate_left
             · (go_simp; done)
             · ((try dsimp only at hS'); go_simp; try with_reducible rfl)
             simp only [Act.put, List.setIfInBounds_toArray, List.set_cons_zero, List.set_cons_succ])
          | (with_reducible refine po_skip ?_ ?_
             · (go_simp; done)
             simp only [Act.put, List.setIfInBounds_toArray, List.set_cons_zero, List.set_cons_succ]))
        with_reducible refine po_run ?_ (fun K hK => ?_) ?_
        · (go_simp; done)
        · -- operation 4 first
          obtain ⟨z0, -⟩ := HX.elem 0 rfl (j := x1) (u := .int .i64 t) (by rw [List.getElem?_map, ht]; rfl)
          go_simp
          clear z0
          refine hK.out _ _ (.inr (trivial)) ?_
          clear hK K
          with_reducible refine po_run ?_ (fun K hK => ?_) ?_
          · (go_simp; done)
          rotate_left
          · exact po_stop
          go_simp
          refine (pick_own HX (i + 3) (set_get hX _) hr (by omega) 4 (by unfold I64; omega)).mono ?_
          rintro e wb ⟨x2, rfl, hx2, HY⟩
          replace hx2 : x2 < 4 := by omega
          simp only [List.set_cons_succ, List.set_set] at HY
          replace HX := HY
          clear HY
          refine hK.out _ _ (.inr (trivial)) ?_
          clear hK K
          repeat (first
            | (with_reducible refine po_take (v := ?_) ?_ (fun w' hS' => ?_) ?_
               rotate_left
               · (go_simp; done)
               · ((try dsimp only at hS'); go_simp; try with_reducible rfl)
               simp only [Act.put, List.setIfInBounds_toArray, List.set_cons_zero, List.set_cons_succ])
            | (with_reducible refine po_skip ?_ ?_
               · (go_simp; done)
               simp only [Act.put, List.setIfInBounds_toArray, List.set_cons_zero, List.set_cons_succ]))
          with_reducible refine po_run ?_ (fun K hK => ?_) ?_
          · (go_simp; done)
          rotate_left
          · exact po_stop
          obtain ⟨e0, e1, e2, e3, e4, e5, e6, e7⟩ := box4 HX 1 rfl
          go_simp
          replace HX := (((HX.putBox 1 rfl 0 (.int .i64 t)).putBox 1 rfl 1 (.int .i64 (x2 : Int))).putBox 1 rfl 2 (.int .i64 0)).putBox 1 rfl 3 (.int .i64 0)
          simp only [List.set_cons_zero, List.set_cons_succ] at HX
          clear e0 e1 e2 e3 e4 e5 e6 e7
          refine hK.out _ _ (.inl rfl) ?_
          clear hK K
          refine po_done ?_
          go_wp2_with fail
          go_meet
          exact ⟨_, t, x2, rfl, hmem, hx2, HX.erase 0⟩
        with_reducible refine po_run ?_ (fun K hK => ?_) ?_
        · (go_simp; done)
        rotate_left
        · exact po_stop
        go_simp
        refine (pick_own HX (i + 3) (set_get hX _) hr (by omega) 4 (by unfold I64; omega)).mono ?_
        rintro e wb ⟨x2, rfl, hx2, HY⟩
        replace hx2 : x2 < 4 := by omega
        simp only [List.set_cons_succ, List.set_set] at HY
        replace HX := HY
        clear HY
        refine hK.out _ _ (.inr (trivial)) ?_
        clear hK K
        with_reducible refine po_run ?_ (fun K hK => ?_) ?_
        · (go_simp; done)
        rotate_left
        · exact po_stop
        obtain ⟨z0, -⟩ := HX.elem 0 rfl (j := x1) (u := .int .i64 t) (by rw [List.getElem?_map, ht]; rfl)
        go_simp
        clear z0
        refine hK.out _ _ (.inr (trivial)) ?_
        clear hK K
        repeat (first
          | (with_reducible refine po_take (v := ?_) ?_ (fun w' hS' => ?_) ?_
             rotate_left
             · (go_simp; done)
             · ((try dsimp only at hS'); go_simp; try with_reducible rfl)
             simp only [Act.put, List.setIfInBounds_toArray, List.set_cons_zero, List.set_cons_succ])
          | (with_reducible refine po_skip ?_ ?_
             · (go_simp; done)
             simp only [Act.put, List.setIfInBounds_toArray, List.set_cons_zero, List.set_cons_succ]))
        with_reducible refine po_run ?_ (fun K hK => ?_) ?_
        · (go_simp; done)
        rotate_left
        · exact po_stop
        obtain ⟨e0, e1, e2, e3, e4, e5, e6, e7⟩ := box4 HX 1 rfl
        go_simp
        replace HX := (((HX.putBox 1 rfl 0 (.int .i64 t)).putBox 1 rfl 1 (.int .i64 (x2 : Int))).putBox 1 rfl 2 (.int .i64 0)).putBox 1 rfl 3 (.int .i64 0)
        simp only [List.set_cons_zero, List.set_cons_succ] at HX
        clear e0 e1 e2 e3 e4 e5 e6 e7
        refine hK.out _ _ (.inl rfl) ?_
        clear hK K
        refine po_done ?_
        go_wp2_with fail
        go_meet
        exact ⟨_, t, x2, rfl, hmem, hx2, HX.erase 0⟩
      with_reducible refine po_run ?_ (fun K hK => ?_) ?_
      · (go_simp; done)
      rotate_left
      · exact po_stop
      go_simp
      refine (pick_own HX (i + 2) (set_get hX _) hr (by omega) 4 (by unfold I64; omega)).mono ?_
      rintro e wb ⟨x2, rfl, hx2, HY⟩
      replace hx2 : x2 < 4 := by omega
      simp only [List.set_cons_succ, List.set_set] at HY
      replace HX := HY
      clear HY
      refine hK.out _ _ (.inr (trivial)) ?_
      clear hK K
      with_reducible refine po_run ?_ (fun K hK => ?_) ?_
      · (go_simp; done)
      rotate_left
      · exact po_stop
      try (revert HX; generalize World.drew _ = wd; intro HX)
      go_simp
      replace HX := HX.litI opTbl (by decide)
      try simp only [opTbl, List.map_cons, List.map_nil, List.length_cons, List.length_nil, Nat.zero_add, Nat.reduceAdd] at HX
      refine hK.out _ _ (.inr (trivial)) ?_
      clear hK K
      revert HX
      generalize World.alloc _ _ = wz
      intro HX
      repeat (first
        | (with_reducible refine po_take (v := ?_) ?_ (fun w' hS' => ?_) ?_
           rotate_left
           · (go_simp; done)
           · ((try dsimp only at hS'); go_simp; try with_reducible rfl)
           simp only [Act.put, List.setIfInBounds_toArray, List.set_cons_zero, List.set_cons_succ])
        | (with_reducible refine po_skip ?_ ?_
           · (go_simp; done)
           simp only [Act.put, List.setIfInBounds_toArray, List.set_cons_zero, List.set_cons_succ]))
      with_reducible refine po_run ?_ (fun K hK => ?_) ?_
      · (go_simp; done)
      rotate_left
      · exact po_stop
      obtain ⟨z0, -⟩ := HX.elem 0 rfl (j := x1) (u := .int .i64 t) (by rw [List.getElem?_map, ht]; rfl)
      go_simp
      clear z0
      refine hK.out _ _ (.inr (trivial)) ?_
      clear hK K
      repeat (first
        | (with_reducible refine po_take (v := ?_) ?_ (fun w' hS' => ?_) ?_
           rotate_left
           · (go_simp; done)
           · ((try dsimp only at hS'); go_simp; try with_reducible rfl)
           simp only [Act.put, List.setIfInBounds_toArray, List.set_cons_zero, List.set_cons_succ])
        | (with_reducible refine po_skip ?_ ?_
           · (go_simp; done)
           simp only [Act.put, List.setIfInBounds_toArray, List.set_cons_zero, List.set_cons_succ]))
      with_reducible refine po_run ?_ (fun K hK => ?_) ?_
      · (go_simp; done)
      rotate_left
      · exact po_stop
      obtain ⟨e0, e1, e2, e3, e4, e5, e6, e7⟩ := box4 HX 1 rfl
      go_simp
      replace HX := (((HX.putBox 1 rfl 0 (.int .i64 t)).putBox 1 rfl 1 (.int .i64 (x2 : Int))).putBox 1 rfl 2 (.int .i64 0)).putBox 1 rfl 3 (.int .i64 0)
      simp only [List.set_cons_zero, List.set_cons_succ] at HX
      clear e0 e1 e2 e3 e4 e5 e6 e7
      refine hK.out _ _ (.inl rfl) ?_
      clear hK K
      refine po_done ?_
      go_wp2_with fail
      go_meet
      exact ⟨_, t, x2, rfl, hmem, hx2, HX.erase 0⟩
    with_reducible refine po_run ?_ (fun K hK => ?_) ?_
    · (go_simp; done)
    rotate_left
    · exact po_stop
    try (revert HX; generalize World.drew _ = wd; intro HX)
    go_simp
    replace HX := HX.box [.int .i64 0, .int .i64 0, .int .i64 0, .int .i64 0] 46
    try simp only [World.size_alloc, drew_size, opTbl, List.map_cons, List.map_nil, List.length_cons, List.length_nil, Nat.zero_add, Nat.reduceAdd] at HX
    refine hK.out _ _ (.inr (trivial)) ?_
    clear hK K
    revert HX
    generalize World.alloc _ _ = wz
    intro HX
    with_reducible refine po_run ?_ (fun K hK => ?_) ?_
    · (go_simp; done)
    · -- operation 0 first
      try (revert HX; generalize World.drew _ = wd; intro HX)
      go_simp
      replace HX := HX.litI opTbl (by decide)
      try simp only [opTbl, List.map_cons, List.map_nil, List.length_cons, List.length_nil, Nat.zero_add, Nat.reduceAdd] at HX
      refine hK.out _ _ (.inr (trivial)) ?_
      clear hK K
      revert HX
      generalize World.alloc _ _ = wz
      intro HX
      with_reducible refine po_run ?_ (fun K hK => ?_) ?_
      · (go_simp; done)
      rotate_left
      · exact po_stop
      try (revert HX; generalize World.drew _ = wd; intro HX)
      go_simp
      refine (pick_own HX (i + 3) hX hr (by omega) 10 (by unfold I64; omega)).mono ?_
      rintro e wa ⟨x1, rfl, hx1, HY⟩
      replace hx1 : x1 < 10 := by omega
      have hy1 : (x1 : Int) < 10 := by omega
      obtain ⟨t, ht, hmem⟩ := opTbl_at hx1
      simp only [List.set_cons_succ] at HY
      replace HX := HY
      clear HY
      refine hK.out _ _ (.inr (trivial)) ?_
      clear hK K
      repeat (first
        | (with_reducible refine po_take (v := ?_) ?_ (fun w' hS' => ?_) ?_
           rotate_left
           · (go_simp; done)
           · ((try dsimp only at hS'); go_simp; try with_reducible rfl)
           simp only [Act.put, List.setIfInBounds_toArray, List.set_cons_zero, List.set_cons_succ])
        | (with_reducible refine po_skip ?_ ?_
           · (go_simp; done)
           simp only [Act.put, List.setIfInBounds_toArray, List.set_cons_zero, List.set_cons_succ]))
      with_reducible refine po_run ?_ (fun K hK => ?_) ?_
      · (go_simp; done)
      · -- operation 4 first
        obtain ⟨z0, -⟩ := HX.elem 0 rfl (j := x1) (u := .int .i64 t) (by rw [List.getElem?_map, ht]; rfl)
        go_simp
        clear z0
        refine hK.out _ _ (.inr (trivial)) ?_
        clear hK K
        with_reducible refine po_run ?_ (fun K hK => ?_) ?_
        · (go_simp; done)
        rotate_left
        · exact po_stop
        go_simp
        refine (pick_own HX (i + 3) (set_get hX _) hr (by omega) 4 (by unfold I64; omega)).mono ?_
        rintro e wb ⟨x2, rfl, hx2, HY⟩
        replace hx2 : x2 < 4 := by omega
        simp only [List.set_cons_succ, List.set_set] at HY
        replace HX := HY
        clear HY
        refine hK.out _ _ (.inr (trivial)) ?_
        clear hK K
        repeat (first
          | (with_reducible refine po_take (v := ?_) ?_ (fun w' hS' => ?_) ?_
             rotate_left
             · (go_simp; done)
             · ((try dsimp only at hS'); go_simp; try with_reducible rfl)
             simp only [Act.put, List.setIfInBounds_toArray, List.set_cons_zero, List.set_cons_succ])
          | (with_reducible refine po_skip ?_ ?_
             · (go_simp; done)
             simp only [Act.put, List.setIfInBounds_toArray, List.set_cons_zero, List.set_cons_succ]))
        with_reducible refine po_run ?_ (fun K hK => ?_) ?_
        · (go_simp; done)
        rotate_left
        · exact po_stop
        obtain ⟨e0, e1, e2, e3, e4, e5, e6, e7⟩ := box4 HX 1 rfl
        go_simp
        replace HX := (((HX.putBox 1 rfl 0 (.int .i64 t)).putBox 1 rfl 1 (.int .i64 (x2 : Int))).putBox 1 rfl 2 (.int .i64 0)).putBox 1 rfl 3 (.int .i64 0)
        simp only [List.set_cons_zero, List.set_cons_succ] at HX
        clear e0 e1 e2 e3 e4 e5 e6 e7
        refine hK.out _ _ (.inl rfl) ?_
        clear hK K
        refine po_done ?_
        go_wp2_with fail
        go_meet
        exact ⟨_, t, x2, rfl, hmem, hx2, HX.erase 0⟩
      with_reducible refine po_run ?_ (fun K hK => ?_) ?_
      · (go_simp; done)
      rotate_left
      · exact po_stop
      go_simp
      refine (pick_own HX (i + 3) (set_get hX _) hr (by omega) 4 (by unfold I64; omega)).mono ?_
      rintro e wb ⟨x2, rfl, hx2, HY⟩
      replace hx2 : x2 < 4 := by omega
      simp only [List.set_cons_succ, List.set_set] at HY
      replace HX := HY
      clear HY
      refine hK.out _ _ (.inr (trivial)) ?_
      clear hK K
      with_reducible refine po_run ?_ (fun K hK => ?_) ?_
      · (go_simp; done)
      rotate_left
      · exact po_stop
      obtain ⟨z0, -⟩ := HX.elem 0 rfl (j := x1) (u := .int .i64 t) (by rw [List.getElem?_map, ht]; rfl)
      go_simp
      clear z0
      refine hK.out _ _ (.inr (trivial)) ?_
      clear hK K
      repeat (first
        | (with_reducible refine po_take (v := ?_) ?_ (fun w' hS' => ?_) ?_
           rotate_left
           · (go_simp; done)
           · ((try dsimp only at hS'); go_simp; try with_reducible rfl)
           simp only [Act.put, List.setIfInBounds_toArray, List.set_cons_zero, List.set_cons_succ])
        | (with_reducible refine po_skip ?_ ?_
           · (go_simp; done)
           simp only [Act.put, List.setIfInBounds_toArray, List.set_cons_zero, List.set_cons_succ]))
      with_reducible refine po_run ?_ (fun K hK => ?_) ?_
      · (go_simp; done)
      rotate_left
      · exact po_stop
      obtain ⟨e0, e1, e2, e3, e4, e5, e6, e7⟩ := box4 HX 1 rfl
      go_simp
      replace HX := (((HX.putBox 1 rfl 0 (.int .i64 t)).putBox 1 rfl 1 (.int .i64 (x2 : Int))).putBox 1 rfl 2 (.int .i64 0)).putBox 1 rfl 3 (.int .i64 0)
      simp only [List.set_cons_zero, List.set_cons_succ] at HX
      clear e0 e1 e2 e3 e4 e5 e6 e7
      refine hK.out _ _ (.inl rfl) ?_
      clear hK K
      refine po_done ?_
      go_wp2_with fail
      go_meet
      exact ⟨_, t, x2, rfl, hmem, hx2, HX.erase 0⟩
    with_reducible refine po_run ?_ (fun K hK => ?_) ?_
    · (go_simp; done)
    rotate_left
    · exact po_stop
    try (revert HX; generalize World.drew _ = wd; intro HX)
    go_simp
    refine (pick_own HX (i + 2) hX hr (by omega) 10 (by unfold I64; omega)).mono ?_
    rintro e wa ⟨x1, rfl, hx1, HY⟩
    replace hx1 : x1 < 10 := by omega
    have hy1 : (x1 : Int) < 10 := by omega
    obtain ⟨t, ht, hmem⟩ := opTbl_at hx1
    simp only [List.set_cons_succ] at HY
    replace HX := HY
    clear HY
    refine hK.out _ _ (.inr (trivial)) ?_
    clear hK K
    with_reducible refine po_run ?_ (fun K hK => ?_) ?_
    · (go_simp; done)
    · -- operation 0 first
      try (revert HX; generalize World.drew _ = wd; intro HX)
      go_simp
      replace HX := HX.litI opTbl (by decide)
      try simp only [opTbl, List.map_cons, List.map_nil, List.length_cons, List.length_nil, Nat.zero_add, Nat.reduceAdd] at HX
      refine hK.out _ _ (.inr (trivial)) ?_
      clear hK K
      revert HX
      generalize World.alloc _ _ = wz
      intro HX
      repeat (first
        | (with_reducible refine po_take (v := ?_) ?_ (fun w' hS' => ?_) ?_
           rotate_left
           · (go_simp; done)
           · ((try dsimp only at hS'); go_simp; try with_reducible rfl)
           simp only [Act.put, List.setIfInBounds_toArray, List.set_cons_zero, List.set_cons_succ])
        | (with_reducible refine po_skip ?_ ?_
           · (go_simp; done)
           simp only [Act.put, List.setIfInBounds_toArray, List.set_cons_zero, List.set_cons_succ]))
      with_reducible refine po_run ?_ (fun K hK => ?_) ?_
      · (go_simp; done)
      · -- operation 4 first
        obtain ⟨z0, -⟩ := HX.elem 0 rfl (j := x1) (u := .int .i64 t) (by rw [List.getElem?_map, ht]; rfl)
        go_simp
        clear z0
        refine hK.out _ _ (.inr (trivial)) ?_
        clear hK K
        with_reducible refine po_run ?_ (fun K hK => ?_) ?_
        · (go_simp; done)
        rotate_left
        · exact po_stop
        go_simp
        refine (pick_own HX (i + 3) (set_get hX _) hr (by omega) 4 (by unfold I64; omega)).mono ?_
        rintro e wb ⟨x2, rfl, hx2, HY⟩
        replace hx2 : x2 < 4 := by omega
        simp only [List.set_cons_succ, List.set_set] at HY
        replace HX := HY
        clear HY
        refine hK.out _ _ (.inr (trivial)) ?_
        clear hK K
        repeat (first
          | (with_reducible refine po_take (v := ?_) ?_ (fun w' hS' => ?_) ?_
             rotate_left
             · (go_simp; done)
             · ((try dsimp only at hS'); go_simp; try with_reducible rfl)
             simp only [Act.put, List.setIfInBounds_toArray, List.set_cons_zero, List.set_cons_succ])
          | (with_reducible refine po_skip ?_ ?_
             · (go_simp; done)
             simp only [Act.put, List.setIfInBounds_toArray, List.set_cons_zero, List.set_cons_succ]))
        with_reducible refine po_run ?_ (fun K hK => ?_) ?_
        · (go_simp; done)
        rotate_left
        · exact po_stop
        obtain ⟨e0, e1, e2, e3, e4, e5, e6, e7⟩ := box4 HX 1 rfl
        go_simp
        replace HX := (((HX.putBox 1 rfl 0 (.int .i64 t)).putBox 1 rfl 1 (.int .i64 (x2 : Int))).putBox 1 rfl 2 (.int .i64 0)).putBox 1 rfl 3 (.int .i64 0)
        simp only [List.set_cons_zero, List.set_cons_succ] at HX
        clear e0 e1 e2 e3 e4 e5 e6 e7
        refine hK.out _ _ (.inl rfl) ?_
        clear hK K
        refine po_done ?_
        go_wp2_with fail
        go_meet
        exact ⟨_, t, x2, rfl, hmem, hx2, HX.erase 0⟩
      with_reducible refine po_run ?_ (fun K hK => ?_) ?_
      · (go_simp; done)
      rotate_left
      · exact po_stop
      go_simp
      refine (pick_own HX (i + 3) (set_get hX _) hr (by omega) 4 (by unfold I64; omega)).mono ?_
      rintro e wb ⟨x2, rfl, hx2, HY⟩
      replace hx2 : x2 < 4 := by omega
      simp only [List.set_cons_succ, List.set_set] at HY
      replace HX := HY
      clear HY
      refine hK.out _ _ (.inr (trivial)) ?_
      clear hK K
      with_reducible refine po_run ?_ (fun K hK => ?_) ?_
      · (go_simp; done)
      rotate_left
      · exact po_stop
      obtain ⟨z0, -⟩ := HX.elem 0 rfl (j := x1) (u := .int .i64 t) (by rw [List.getElem?_map, ht]; rfl)
      go_simp
      clear z0
      refine hK.out _ _ (.inr (trivial)) ?_
      clear hK K
      repeat (first
        | (with_reducible refine po_take (v := ?_) ?_ (fun w' hS' => ?_) ?_
           rotate_left
           · (go_simp; done)
           · ((try dsimp only at hS'); go_simp; try with_reducible rfl)
           simp only [Act.put, List.setIfInBounds_toArray, List.set_cons_zero, List.set_cons_succ])
        | (with_reducible refine po_skip ?_ ?_
           · (go_simp; done)
           simp only [Act.put, List.setIfInBounds_toArray, List.set_cons_zero, List.set_cons_succ]))
      with_reducible refine po_run ?_ (fun K hK => ?_) ?_
      · (go_simp; done)
      rotate_left
      · exact po_stop
      obtain ⟨e0, e1, e2, e3, e4, e5, e6, e7⟩ := box4 HX 1 rfl
      go_simp
      replace HX := (((HX.putBox 1 rfl 0 (.int .i64 t)).putBox 1 rfl 1 (.int .i64 (x2 : Int))).putBox 1 rfl 2 (.int .i64 0)).putBox 1 rfl 3 (.int .i64 0)
      simp only [List.set_cons_zero, List.set_cons_succ] at HX
      clear e0 e1 e2 e3 e4 e5 e6 e7
      refine hK.out _ _ (.inl rfl) ?_
      clear hK K
      refine po_done ?_
      go_wp2_with fail
      go_meet
      exact ⟨_, t, x2, rfl, hmem, hx2, HX.erase 0⟩
    with_reducible refine po_run ?_ (fun K hK => ?_) ?_
    · (go_simp; done)
    rotate_left
    · exact po_stop
    go_simp
    refine (pick_own HX (i + 2) (set_get hX _) hr (by omega) 4 (by unfold I64; omega)).mono ?_
    rintro e wb ⟨x2, rfl, hx2, HY⟩
    replace hx2 : x2 < 4 := by omega
    simp only [List.set_cons_succ, List.set_set] at HY
    replace HX := HY
    clear HY
    refine hK.out _ _ (.inr (trivial)) ?_
    clear hK K
    with_reducible refine po_run ?_ (fun K hK => ?_) ?_
    · (go_simp; done)
    rotate_left
    · exact po_stop
    try (revert HX; generalize World.drew _ = wd; intro HX)
    go_simp
    replace HX := HX.litI opTbl (by decide)
    try simp only [opTbl, List.map_cons, List.map_nil, List.length_cons, List.length_nil, Nat.zero_add, Nat.reduceAdd] at HX
    refine hK.out _ _ (.inr (trivial)) ?_
    clear hK K
    revert HX
    generalize World.alloc _ _ = wz
    intro HX
    repeat (first
      | (with_reducible refine po_take (v := ?_) ?_ (fun w' hS' => ?_) ?_
         rotate_left
         · (go_simp; done)
         · ((try dsimp only at hS'); go_simp; try with_reducible rfl)
         simp only [Act.put, List.setIfInBounds_toArray, List.set_cons_zero, List.set_cons_succ])
      | (with_reducible refine po_skip ?_ ?_
         · (go_simp; done)
         simp only [Act.put, List.setIfInBounds_toArray, List.set_cons_zero, List.set_cons_succ]))
    with_reducible refine po_run ?_ (fun K hK => ?_) ?_
    · (go_simp; done)
    rotate_left
    · exact po_stop
    obtain ⟨z0, -⟩ := HX.elem 0 rfl (j := x1) (u := .int .i64 t) (by rw [List.getElem?_map, ht]; rfl)
    go_simp
    clear z0
    refine hK.out _ _ (.inr (trivial)) ?_
    clear hK K
    repeat (first
      | (with_reducible refine po_take (v := ?_) ?_ (fun w' hS' => ?_) ?_
         rotate_left
         · (go_simp; done)
         · ((try dsimp only at hS'); go_simp; try with_reducible rfl)
         simp only [Act.put, List.setIfInBounds_toArray, List.set_cons_zero, List.set_cons_succ])
      | (with_reducible refine po_skip ?_ ?_
         · (go_simp; done)
         simp only [Act.put, List.setIfInBounds_toArray, List.set_cons_zero, List.set_cons_succ]))
    with_reducible refine po_run ?_ (fun K hK => ?_) ?_
    · (go_simp; done)
    rotate_left
    · exact po_stop
    obtain ⟨e0, e1, e2, e3, e4, e5, e6, e7⟩ := box4 HX 1 rfl
    go_simp
    replace HX := (((HX.putBox 1 rfl 0 (.int .i64 t)).putBox 1 rfl 1 (.int .i64 (x2 : Int))).putBox 1 rfl 2 (.int .i64 0)).putBox 1 rfl 3 (.int .i64 0)
    simp only [List.set_cons_zero, List.set_cons_succ] at HX
    clear e0 e1 e2 e3 e4 e5 e6 e7
    refine hK.out _ _ (.inl rfl) ?_
    clear hK K
    refine po_done ?_
    go_wp2_with fail
    go_meet
    exact ⟨_, t, x2, rfl, hmem, hx2, HX.erase 0⟩
  case rest =>
    obtain ⟨q, t, a, rfl, hmem, ha, H2⟩ := hcut
    clear h H1
    have H := H2
    clear H2
    obtain ⟨b0, b1, b2, b3, b4, b5, b6, b7⟩ := box4 H 0 rfl
    go_upto_block 0 with fail
    go_cut [] (fun wx => ∃ (b d : Int) (p' : Nat), p ≤ p' ∧ p' ≤ p + 8 ∧ Owns lo w0 wx (.box q [.int .i64 t, .int .i64 a, .int .i64 b, .int .i64 d] 46 :: .box w.heap.size [.int .i64 0, .int .i64 0, .int .i64 0, .int .i64 0] 46 :: L.set i (.rdr g A n c p')))
    case first =>
      rcases hmem with rfl | rfl | rfl | rfl | rfl | rfl
      · -- a new cell
        go_wp2_with fail
        refine (pick_own H (i + 2) (set_get hX _) hr (by omega) 4 (by unfold I64; omega)).mono ?_
        rintro e w1 ⟨x1, rfl, hx1, H'⟩
        replace hx1 : (x1 : Int) < 4 := by omega
        simp only [List.set_cons_succ, List.set_set] at H'
        replace H := H'
        clear H' b0 b1 b2 b3 b4 b5 b6 b7
        obtain ⟨b0, b1, b2, b3, b4, b5, b6, b7⟩ := box4 H 0 rfl
        go_wp2_with fail
        refine (pick_own H (i + 2) (set_get hX _) hr (by omega) 3 (by unfold I64; omega)).mono ?_
        rintro e w2 ⟨x2, rfl, hx2, H'⟩
        replace hx2 : (x2 : Int) < 3 := by omega
        simp only [List.set_cons_succ, List.set_set] at H'
        replace H := H'
        clear H' b0 b1 b2 b3 b4 b5 b6 b7
        obtain ⟨b0, b1, b2, b3, b4, b5, b6, b7⟩ := box4 H 0 rfl
        replace H := H.litI [(x1 : Int), 1 + (x2 : Int)] (by show 2 ≤ maxLen; unfold maxLen; omega)
        simp only [List.map_cons, List.map_nil, List.length_cons, List.length_nil, Nat.zero_add, Nat.reduceAdd] at H
        clear b0 b1 b2 b3 b4 b5 b6 b7
        go_wp2_with fail
        refine (pick_own H (i + 3) (set_get hX _) hr (by omega) 2 (by unfold I64; omega)).mono ?_
        rintro e w3 ⟨x3, rfl, hx3, H'⟩
        replace hx3 : (x3 : Int) < 2 := by omega
        simp only [List.set_cons_succ, List.set_set] at H'
        replace H := H'
        clear H'
        obtain ⟨B, hB, hB0, hB3⟩ : ∃ B : Int, ([(x1 : Int), 1 + (x2 : Int)])[x3]? = some B ∧ 0 ≤ B ∧ B ≤ 3 := by
          have : x3 = 0 ∨ x3 = 1 := by omega
          rcases this with rfl | rfl
          · exact ⟨_, rfl, by omega, by omega⟩
          · exact ⟨_, rfl, by omega, by omega⟩
        obtain ⟨z0, -⟩ := H.elem 0 rfl (j := x3) (u := .int .i64 B) (by rw [List.getElem?_map, hB]; rfl)
        have H3 := H.erase 0
        simp only [List.eraseIdx_cons_zero] at H3
        obtain ⟨b0, b1, b2, b3, b4, b5, b6, b7⟩ := box4 H 1 rfl
        clear hB
        have P := H3.putBox 0 rfl 2 (.int .i64 B)
        simp only [List.set_cons_zero, List.set_cons_succ] at P
        clear H H3
        have H := P
        clear P
        go_wp2_with fail
        refine (pick_own H (i + 2) (set_get hX _) hr (by omega) 100 (by unfold I64; omega)).mono ?_
        rintro e w4 ⟨x4, rfl, hx4, H'⟩
        replace hx4 : (x4 : Int) < 100 := by omega
        simp only [List.set_cons_succ, List.set_set] at H'
        clear H z0 b0 b1 b2 b3 b4 b5 b6 b7
        have H := H'
        clear H'
        obtain ⟨b0, b1, b2, b3, b4, b5, b6, b7⟩ := box4 H 0 rfl
        have P := H.putBox 0 rfl 3 (.int .i64 (x4 : Int))
        simp only [List.set_cons_zero, List.set_cons_succ] at P
        clear H
        have H := P
        clear P
        obtain ⟨c0, c1, c2, c3, -, -, -, -⟩ := box4 H 0 rfl
        go_wp2_with fail
        go_meet
        exact ⟨_, _, p + 6, by omega, by omega, H⟩
      · -- get, set
        go_wp2_with fail
        refine (pick_own H (i + 2) (set_get hX _) hr (by omega) 4 (by unfold I64; omega)).mono ?_
        rintro e w1 ⟨x1, rfl, hx1, H'⟩
        replace hx1 : (x1 : Int) < 4 := by omega
        simp only [List.set_cons_succ, List.set_set] at H'
        replace H := H'
        clear H' b0 b1 b2 b3 b4 b5 b6 b7
        obtain ⟨b0, b1, b2, b3, b4, b5, b6, b7⟩ := box4 H 0 rfl
        have P := H.putBox 0 rfl 2 (.int .i64 (x1 : Int))
        simp only [List.set_cons_zero, List.set_cons_succ] at P
        clear H
        have H := P
        clear P
        obtain ⟨c0, c1, c2, c3, -, -, -, -⟩ := box4 H 0 rfl
        go_wp2_with fail
        refine (pick_own H (i + 2) (set_get hX _) hr (by omega) 3 (by unfold I64; omega)).mono ?_
        rintro e w2 ⟨x2, rfl, hx2, H'⟩
        replace hx2 : (x2 : Int) < 3 := by omega
        simp only [List.set_cons_succ, List.set_set] at H'
        replace H := H'
        clear H' b0 b1 b2 b3 b4 b5 b6 b7
        obtain ⟨b0, b1, b2, b3, b4, b5, b6, b7⟩ := box4 H 0 rfl
        go_wp2_with fail
        refine (pick_own H (i + 2) (set_get hX _) hr (by omega) (1 + (x2 : Int)) (by unfold I64; omega)).mono ?_
        rintro e w3 ⟨x3, rfl, hx3, H'⟩
        replace hx3 : (x3 : Int) < 3 := by omega
        simp only [List.set_cons_succ, List.set_set] at H'
        replace H := H'
        clear H' b0 b1 b2 b3 b4 b5 b6 b7
        obtain ⟨b0, b1, b2, b3, b4, b5, b6, b7⟩ := box4 H 0 rfl
        have P := H.putBox 0 rfl 3 (.int .i64 (x3 : Int))
        simp only [List.set_cons_zero, List.set_cons_succ] at P
        clear H
        have H := P
        clear P
        obtain ⟨c0, c1, c2, c3, -, -, -, -⟩ := box4 H 0 rfl
        go_wp2_with fail
        go_meet
        exact ⟨_, _, p + 5, by omega, by omega, H⟩
      · -- get, set
        go_wp2_with fail
        refine (pick_own H (i + 2) (set_get hX _) hr (by omega) 4 (by unfold I64; omega)).mono ?_
        rintro e w1 ⟨x1, rfl, hx1, H'⟩
        replace hx1 : (x1 : Int) < 4 := by omega
        simp only [List.set_cons_succ, List.set_set] at H'
        replace H := H'
        clear H' b0 b1 b2 b3 b4 b5 b6 b7
        obtain ⟨b0, b1, b2, b3, b4, b5, b6, b7⟩ := box4 H 0 rfl
        have P := H.putBox 0 rfl 2 (.int .i64 (x1 : Int))
        simp only [List.set_cons_zero, List.set_cons_succ] at P
        clear H
        have H := P
        clear P
        obtain ⟨c0, c1, c2, c3, -, -, -, -⟩ := box4 H 0 rfl
        go_wp2_with fail
        refine (pick_own H (i + 2) (set_get hX _) hr (by omega) 3 (by unfold I64; omega)).mono ?_
        rintro e w2 ⟨x2, rfl, hx2, H'⟩
        replace hx2 : (x2 : Int) < 3 := by omega
        simp only [List.set_cons_succ, List.set_set] at H'
        replace H := H'
        clear H' b0 b1 b2 b3 b4 b5 b6 b7
        obtain ⟨b0, b1, b2, b3, b4, b5, b6, b7⟩ := box4 H 0 rfl
        go_wp2_with fail
        refine (pick_own H (i + 2) (set_get hX _) hr (by omega) (1 + (x2 : Int)) (by unfold I64; omega)).mono ?_
        rintro e w3 ⟨x3, rfl, hx3, H'⟩
        replace hx3 : (x3 : Int) < 3 := by omega
        simp only [List.set_cons_succ, List.set_set] at H'
        replace H := H'
        clear H' b0 b1 b2 b3 b4 b5 b6 b7
        obtain ⟨b0, b1, b2, b3, b4, b5, b6, b7⟩ := box4 H 0 rfl
        have P := H.putBox 0 rfl 3 (.int .i64 (x3 : Int))
        simp only [List.set_cons_zero, List.set_cons_succ] at P
        clear H
        have H := P
        clear P
        obtain ⟨c0, c1, c2, c3, -, -, -, -⟩ := box4 H 0 rfl
        go_wp2_with fail
        go_meet
        exact ⟨_, _, p + 5, by omega, by omega, H⟩
      · -- copy
        go_wp2_with fail
        refine (pick_own H (i + 2) (set_get hX _) hr (by omega) 4 (by unfold I64; omega)).mono ?_
        rintro e w1 ⟨x1, rfl, hx1, H'⟩
        replace hx1 : (x1 : Int) < 4 := by omega
        simp only [List.set_cons_succ, List.set_set] at H'
        replace H := H'
        clear H' b0 b1 b2 b3 b4 b5 b6 b7
        obtain ⟨b0, b1, b2, b3, b4, b5, b6, b7⟩ := box4 H 0 rfl
        have P := H.putBox 0 rfl 2 (.int .i64 (x1 : Int))
        simp only [List.set_cons_zero, List.set_cons_succ] at P
        clear H
        have H := P
        clear P
        obtain ⟨c0, c1, c2, c3, -, -, -, -⟩ := box4 H 0 rfl
        go_wp2_with fail
        go_meet
        exact ⟨_, _, p + 3, by omega, by omega, H⟩
      · -- drop
        go_wp2_with fail
        go_meet
        exact ⟨_, _, p + 2, by omega, by omega, H⟩
      · -- data
        go_wp2_with fail
        refine (pick_own H (i + 2) (set_get hX _) hr (by omega) 100 (by unfold I64; omega)).mono ?_
        rintro e w1 ⟨x1, rfl, hx1, H'⟩
        replace hx1 : (x1 : Int) < 100 := by omega
        simp only [List.set_cons_succ, List.set_set] at H'
        replace H := H'
        clear H' b0 b1 b2 b3 b4 b5 b6 b7
        obtain ⟨b0, b1, b2, b3, b4, b5, b6, b7⟩ := box4 H 0 rfl
        have P := H.putBox 0 rfl 2 (.int .i64 (x1 : Int))
        simp only [List.set_cons_zero, List.set_cons_succ] at P
        clear H
        have H := P
        clear P
        obtain ⟨c0, c1, c2, c3, -, -, -, -⟩ := box4 H 0 rfl
        go_wp2_with fail
        go_meet
        exact ⟨_, _, p + 3, by omega, by omega, H⟩
    case rest =>
      obtain ⟨b, d, p', hp0, hp1, K⟩ := hcut
      clear H b0 b1 b2 b3 b4 b5 b6 b7
      have H := K
      clear K
      obtain ⟨b0, b1, b2, b3, b4, b5, b6, b7⟩ := box4 H 0 rfl
      go_wp2_with fail
      refine (odd_own H (i + 2) (set_get hX _) hr (by omega) 1 (by omega) (by omega)).mono ?_
      rintro e w5 ⟨bo, rfl, H'⟩
      simp only [List.set_cons_succ, List.set_set] at H'
      clear H b0 b1 b2 b3 b4 b5 b6 b7
      have H := H'
      clear H'
      obtain ⟨b0, b1, b2, b3, b4, b5, b6, b7⟩ := box4 H 0 rfl
      cases bo
      · -- nothing odd
        obtain ⟨y0, y1, y2, y3, y4, y5, y6, y7⟩ := box4 H 1 rfl
        have HZ := (((H.putBox 1 rfl 0 (.int .i64 t)).putBox 1 rfl 1 (.int .i64 (a : Int))).putBox 1 rfl 2 (.int .i64 b)).putBox 1 rfl 3 (.int .i64 d)
        simp only [List.set_cons_zero, List.set_cons_succ] at HZ
        obtain ⟨z0, z1, z2, z3, -, -, -, -⟩ := box4 HZ 1 rfl
        have HS : Hid (DrewA lo w0 L i g A n c p (.returned (.agg #[.int .i64 t, .int .i64 (a : Int), .int .i64 b, .int .i64 d])) _) := Go.Lib.hid ⟨⟨t, (a : Int), b, d⟩, p' + 1, rfl, by omega, by omega, HZ.drop 2⟩
        clear H HZ
        go_wp2
        exact bodyPost_ret (v := .agg #[.int .i64 t, .int .i64 (a : Int), .int .i64 b, .int .i64 d]) (by simp [results, Try.results56, go_sem, z0, z1, z2, z3]) rfl HS.out
      · go_wp2_with fail
        refine (pick_own H (i + 2) (set_get hX _) hr (by omega) 4 (by unfold I64; omega)).mono ?_
        rintro e w6 ⟨x6, rfl, hx6, H'⟩
        simp only [List.set_cons_succ, List.set_set] at H'
        clear H b0 b1 b2 b3 b4 b5 b6 b7
        have H := H'
        clear H'
        obtain ⟨b0, b1, b2, b3, b4, b5, b6, b7⟩ := box4 H 0 rfl
        have h4 : x6 = 0 ∨ x6 = 1 ∨ x6 = 2 ∨ x6 = 3 := by omega
        clear hx6
        rcases h4 with rfl | rfl | rfl | rfl
        · -- the word 0
          replace H := H.litI [(0 : Int), 7] (by show 2 ≤ maxLen; unfold maxLen; omega)
          simp only [List.map_cons, List.map_nil, List.length_cons, List.length_nil, Nat.zero_add, Nat.reduceAdd] at H
          clear b0 b1 b2 b3 b4 b5 b6 b7
          go_wp2_with fail
          refine (pick_own H (i + 3) (set_get hX _) hr (by omega) 2 (by unfold I64; omega)).mono ?_
          rintro e w7 ⟨x7, rfl, hx7, H'⟩
          replace hx7 : (x7 : Int) < 2 := by omega
          simp only [List.set_cons_succ, List.set_set] at H'
          clear H
          have H := H'
          clear H'
          obtain ⟨B, hB⟩ : ∃ B : Int, ([(0 : Int), 7])[x7]? = some B := by
            have : x7 = 0 ∨ x7 = 1 := by omega
            rcases this with rfl | rfl
            · exact ⟨_, rfl⟩
            · exact ⟨_, rfl⟩
          obtain ⟨u0, -⟩ := H.elem 0 rfl (j := x7) (u := .int .i64 B) (by rw [List.getElem?_map, hB]; rfl)
          have H3 := H.erase 0
          simp only [List.eraseIdx_cons_zero] at H3
          obtain ⟨b0, b1, b2, b3, b4, b5, b6, b7⟩ := box4 H 1 rfl
          clear hB
          have P := H3.putBox 0 rfl 0 (.int .i64 B)
          simp only [List.set_cons_zero] at P
          obtain ⟨c0, c1, c2, c3, -, -, -, -⟩ := box4 P 0 rfl
          clear H H3
          obtain ⟨y0, y1, y2, y3, y4, y5, y6, y7⟩ := box4 P 1 rfl
          have HZ := (((P.putBox 1 rfl 0 (.int .i64 B)).putBox 1 rfl 1 (.int .i64 (a : Int))).putBox 1 rfl 2 (.int .i64 b)).putBox 1 rfl 3 (.int .i64 d)
          simp only [List.set_cons_zero, List.set_cons_succ] at HZ
          obtain ⟨z0, z1, z2, z3, -, -, -, -⟩ := box4 HZ 1 rfl
          have HS : Hid (DrewA lo w0 L i g A n c p (.returned (.agg #[.int .i64 B, .int .i64 (a : Int), .int .i64 b, .int .i64 d])) _) := Go.Lib.hid ⟨⟨B, (a : Int), b, d⟩, p' + 3, rfl, by omega, by omega, HZ.drop 2⟩
          clear P HZ
          go_wp2
          exact bodyPost_ret (v := .agg #[.int .i64 B, .int .i64 (a : Int), .int .i64 b, .int .i64 d]) (by simp [results, Try.results56, go_sem, z0, z1, z2, z3]) rfl HS.out
        · -- the word 1
          replace H := H.litI [((-1) : Int), 4] (by show 2 ≤ maxLen; unfold maxLen; omega)
          simp only [List.map_cons, List.map_nil, List.length_cons, List.length_nil, Nat.zero_add, Nat.reduceAdd] at H
          clear b0 b1 b2 b3 b4 b5 b6 b7
          go_wp2_with fail
          refine (pick_own H (i + 3) (set_get hX _) hr (by omega) 2 (by unfold I64; omega)).mono ?_
          rintro e w7 ⟨x7, rfl, hx7, H'⟩
          replace hx7 : (x7 : Int) < 2 := by omega
          simp only [List.set_cons_succ, List.set_set] at H'
          clear H
          have H := H'
          clear H'
          obtain ⟨B, hB⟩ : ∃ B : Int, ([((-1) : Int), 4])[x7]? = some B := by
            have : x7 = 0 ∨ x7 = 1 := by omega
            rcases this with rfl | rfl
            · exact ⟨_, rfl⟩
            · exact ⟨_, rfl⟩
          obtain ⟨u0, -⟩ := H.elem 0 rfl (j := x7) (u := .int .i64 B) (by rw [List.getElem?_map, hB]; rfl)
          have H3 := H.erase 0
          simp only [List.eraseIdx_cons_zero] at H3
          obtain ⟨b0, b1, b2, b3, b4, b5, b6, b7⟩ := box4 H 1 rfl
          clear hB
          have P := H3.putBox 0 rfl 1 (.int .i64 B)
          simp only [List.set_cons_zero, List.set_cons_succ] at P
          obtain ⟨c0, c1, c2, c3, -, -, -, -⟩ := box4 P 0 rfl
          clear H H3
          obtain ⟨y0, y1, y2, y3, y4, y5, y6, y7⟩ := box4 P 1 rfl
          have HZ := (((P.putBox 1 rfl 0 (.int .i64 t)).putBox 1 rfl 1 (.int .i64 B)).putBox 1 rfl 2 (.int .i64 b)).putBox 1 rfl 3 (.int .i64 d)
          simp only [List.set_cons_zero, List.set_cons_succ] at HZ
          obtain ⟨z0, z1, z2, z3, -, -, -, -⟩ := box4 HZ 1 rfl
          have HS : Hid (DrewA lo w0 L i g A n c p (.returned (.agg #[.int .i64 t, .int .i64 B, .int .i64 b, .int .i64 d])) _) := Go.Lib.hid ⟨⟨t, B, b, d⟩, p' + 3, rfl, by omega, by omega, HZ.drop 2⟩
          clear P HZ
          go_wp2
          exact bodyPost_ret (v := .agg #[.int .i64 t, .int .i64 B, .int .i64 b, .int .i64 d]) (by simp [results, Try.results56, go_sem, z0, z1, z2, z3]) rfl HS.out
        · -- the word 2
          replace H := H.litI [((-1) : Int), 100] (by show 2 ≤ maxLen; unfold maxLen; omega)
          simp only [List.map_cons, List.map_nil, List.length_cons, List.length_nil, Nat.zero_add, Nat.reduceAdd] at H
          clear b0 b1 b2 b3 b4 b5 b6 b7
          go_wp2_with fail
          refine (pick_own H (i + 3) (set_get hX _) hr (by omega) 2 (by unfold I64; omega)).mono ?_
          rintro e w7 ⟨x7, rfl, hx7, H'⟩
          replace hx7 : (x7 : Int) < 2 := by omega
          simp only [List.set_cons_succ, List.set_set] at H'
          clear H
          have H := H'
          clear H'
          obtain ⟨B, hB⟩ : ∃ B : Int, ([((-1) : Int), 100])[x7]? = some B := by
            have : x7 = 0 ∨ x7 = 1 := by omega
            rcases this with rfl | rfl
            · exact ⟨_, rfl⟩
            · exact ⟨_, rfl⟩
          obtain ⟨u0, -⟩ := H.elem 0 rfl (j := x7) (u := .int .i64 B) (by rw [List.getElem?_map, hB]; rfl)
          have H3 := H.erase 0
          simp only [List.eraseIdx_cons_zero] at H3
          obtain ⟨b0, b1, b2, b3, b4, b5, b6, b7⟩ := box4 H 1 rfl
          clear hB
          have P := H3.putBox 0 rfl 2 (.int .i64 B)
          simp only [List.set_cons_zero, List.set_cons_succ] at P
          obtain ⟨c0, c1, c2, c3, -, -, -, -⟩ := box4 P 0 rfl
          clear H H3
          obtain ⟨y0, y1, y2, y3, y4, y5, y6, y7⟩ := box4 P 1 rfl
          have HZ := (((P.putBox 1 rfl 0 (.int .i64 t)).putBox 1 rfl 1 (.int .i64 (a : Int))).putBox 1 rfl 2 (.int .i64 B)).putBox 1 rfl 3 (.int .i64 d)
          simp only [List.set_cons_zero, List.set_cons_succ] at HZ
          obtain ⟨z0, z1, z2, z3, -, -, -, -⟩ := box4 HZ 1 rfl
          have HS : Hid (DrewA lo w0 L i g A n c p (.returned (.agg #[.int .i64 t, .int .i64 (a : Int), .int .i64 B, .int .i64 d])) _) := Go.Lib.hid ⟨⟨t, (a : Int), B, d⟩, p' + 3, rfl, by omega, by omega, HZ.drop 2⟩
          clear P HZ
          go_wp2
          exact bodyPost_ret (v := .agg #[.int .i64 t, .int .i64 (a : Int), .int .i64 B, .int .i64 d]) (by simp [results, Try.results56, go_sem, z0, z1, z2, z3]) rfl HS.out
        · -- the word 3
          replace H := H.litI [((-1) : Int), 100] (by show 2 ≤ maxLen; unfold maxLen; omega)
          simp only [List.map_cons, List.map_nil, List.length_cons, List.length_nil, Nat.zero_add, Nat.reduceAdd] at H
          clear b0 b1 b2 b3 b4 b5 b6 b7
          go_wp2_with fail
          refine (pick_own H (i + 3) (set_get hX _) hr (by omega) 2 (by unfold I64; omega)).mono ?_
          rintro e w7 ⟨x7, rfl, hx7, H'⟩
          replace hx7 : (x7 : Int) < 2 := by omega
          simp only [List.set_cons_succ, List.set_set] at H'
          clear H
          have H := H'
          clear H'
          obtain ⟨B, hB⟩ : ∃ B : Int, ([((-1) : Int), 100])[x7]? = some B := by
            have : x7 = 0 ∨ x7 = 1 := by omega
            rcases this with rfl | rfl
            · exact ⟨_, rfl⟩
            · exact ⟨_, rfl⟩
          obtain ⟨u0, -⟩ := H.elem 0 rfl (j := x7) (u := .int .i64 B) (by rw [List.getElem?_map, hB]; rfl)
          have H3 := H.erase 0
          simp only [List.eraseIdx_cons_zero] at H3
          obtain ⟨b0, b1, b2, b3, b4, b5, b6, b7⟩ := box4 H 1 rfl
          clear hB
          have P := H3.putBox 0 rfl 3 (.int .i64 B)
          simp only [List.set_cons_zero, List.set_cons_succ] at P
          obtain ⟨c0, c1, c2, c3, -, -, -, -⟩ := box4 P 0 rfl
          clear H H3
          obtain ⟨y0, y1, y2, y3, y4, y5, y6, y7⟩ := box4 P 1 rfl
          have HZ := (((P.putBox 1 rfl 0 (.int .i64 t)).putBox 1 rfl 1 (.int .i64 (a : Int))).putBox 1 rfl 2 (.int .i64 b)).putBox 1 rfl 3 (.int .i64 B)
          simp only [List.set_cons_zero, List.set_cons_succ] at HZ
          obtain ⟨z0, z1, z2, z3, -, -, -, -⟩ := box4 HZ 1 rfl
          have HS : Hid (DrewA lo w0 L i g A n c p (.returned (.agg #[.int .i64 t, .int .i64 (a : Int), .int .i64 b, .int .i64 B])) _) := Go.Lib.hid ⟨⟨t, (a : Int), b, B⟩, p' + 3, rfl, by omega, by omega, HZ.drop 2⟩
          clear P HZ
          go_wp2
          exact bodyPost_ret (v := .agg #[.int .i64 t, .int .i64 (a : Int), .int .i64 b, .int .i64 B]) (by simp [results, Try.results56, go_sem, z0, z1, z2, z3]) rfl HS.out
end Go.Proofs.Ytdkpfggfkhnjfaa
