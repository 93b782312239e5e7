/- The drawing of a heap: a heap of few cells of the call's own, for every code that can be read. -/
import Derived.Test.YtjpfgbckmcjjaaaSw
namespace Go.Proofs.Ytjpfgbckmcjjaaa
open Go.RowKit
structure SmG (h : Hp) : Prop where
  len : h.cells.length ≤ 41
  roots : h.roots.length ≤ 4
  refs : ∀ c ∈ h.cells, c.refs.length ≤ 3
structure Sm4 (h : Hp) : Prop where
  len : h.cells.length ≤ 40
  roots : h.roots.length = 4
  refs : ∀ c ∈ h.cells, c.refs.length ≤ 3
theorem Good.sm4 {h : Hp} (g : Good h) : Sm4 h := ⟨g.len, g.roots, fun c hc => by
  have := g.cell c hc
  rw [cellOk_iff] at this
  rcases this with k | k
  · exact k.2.2.2.2
  · rw [k.2.2]; simp⟩
theorem Sm4.set {h : Hp} (s : Sm4 h) {k : Nat} {l : Cel} (hl : h.cells[k]? = some l) (j : Nat) (x : Int) : Sm4 ⟨h.cells.set k ⟨l.used, l.data, l.refs.set j x⟩, h.roots⟩ :=
  ⟨by simpa using s.len, s.roots, fun c hc => (mem_set' hc).elim (fun e => by rw [e]; simpa using s.refs l (List.mem_of_getElem? hl)) (s.refs c)⟩
/-- The roots may be what is left of a slice without its first. -/
def TailOf (rv rv0 : Value) (rs rs0 : List Int) : Prop := (rv = rv0 ∧ rs = rs0) ∨ ∃ g n c, rv0 = .slice (some ⟨g, 0, none⟩) n c ∧ rv = .slice (some ⟨g, 1, none⟩) (n - 1) (c - 1) ∧ rs = rs0.drop 1 ∧ 0 < n
theorem Owns.rot3 {lo : Nat} {w0 w : World} {X Y Z : OB} {L : List OB} (h : Owns lo w0 w (X :: Y :: Z :: L)) : Owns lo w0 w (Z :: X :: Y :: L) :=
  h.pick (fun i => if i = 0 then 2 else if i = 1 then 0 else if i = 2 then 1 else i) (fun i T hT => by
    match i, hT with
    | 0, hT => simpa using hT
    | 1, hT => simpa using hT
    | 2, hT => simpa using hT
    | i + 3, hT => simpa using hT) fun i j _ _ e => by
    split at e <;> split at e <;> (try split at e) <;> (try split at e) <;> (try split at e) <;> (try split at e) <;> omega
/-- A heap was drawn. -/
def DrewH (lo : Nat) (w0 : World) (L : List OB) (i g : Nat) (A : Option Addr) (n c p : Nat) (e : Ending) (w' : World) : Prop :=
  ∃ (h : Hp) (cv : Value) (rvs : List Value) (rv rv0 : Value) (rs0 : List Int) (p' : Nat), e = .returned (.agg #[cv, rv]) ∧ SmG h ∧ TailOf rv rv0 h.roots rs0 ∧ p ≤ p' ∧ p' ≤ p + 1000 ∧ Owns lo w0 w' (.cells cv rvs h.cells :: .ints rv0 rs0 :: L.set i (.rdr g A n c p'))
set_option maxHeartbeats 6400000 in
set_option maxRecDepth 20000 in
theorem heap_own {lo : Nat} {w0 w : World} {L : List OB} {g : Nat} {A : Option Addr} {n c p : Nat} (h : Owns lo w0 w L) (i : Nat) (hX : L[i]? = some (.rdr g A n c p)) {bs : List Int} (hr : RdU w0 lo A n c bs) (hp : p ≤ 700000) (N : Int) (hN0 : 0 ≤ N) (hN1 : N ≤ 1000) :
    Calls Try.prog 72 #[.pointer (some ⟨g, 0, none⟩), .int .i64 N] w (DrewH lo w0 L i g A n c p) := by
  have H := h.box [.slice none 0 0, .slice none 0 0] 26
  clear h
  go_enter Try.func72, Try.ntmps72
  go_wp2_with fail
  refine (program_own H (i + 1) hX hr (by omega)).mono ?_
  rintro e w1 ⟨v, cs, p1, rfl, hok, hcl, hp1, hp2, H1⟩
  simp only [List.set_cons_succ] at H1
  obtain ⟨Q, kQ, rfl, rQ⟩ := H1.formQ 0 rfl
  have hcs : cmdsOk cs = true := by simp only [cmdsOk, Bool.and_eq_true, List.all_eq_true, decide_eq_true_eq]; exact ⟨hok, hcl⟩
  have HG := Go.Lib.hid (show Good (mRun cs) by rw [mRun_yes hcs]; exact runTo_good cs hok)
  clear hcs hok H
  go_wp2_with fail
  refine (specRunHeap_any _ _ _ _ _ cs rQ).mono ?_
  rintro e w2 ⟨cv, rvs, rv, rfl, K⟩
  replace K := H1.merge K
  simp only [List.cons_append, List.nil_append] at K
  obtain ⟨T, hT⟩ : ∃ T, T = mRun cs := ⟨_, rfl⟩
  rw [← hT] at K HG
  clear hT H1 rQ
  obtain ⟨C, kC, rfl, -⟩ := K.formC 0 rfl
  obtain ⟨R, kR, rfl, -⟩ := K.formI 1 rfl
  have H2 := (K.box [.slice C T.cells.length kC, .slice R T.roots.length kR] 26).erase 3
  clear K
  simp only [List.eraseIdx_cons_succ, List.eraseIdx_cons_zero] at H2
  obtain ⟨x0, x1, -, -⟩ := H2.box2 0 rfl
  go_wp2_with fail
  refine (pick_own H2 (i + 4) (set_get hX _) hr (by omega) 3 (by unfold I64; omega)).mono ?_
  rintro e w3 ⟨x, rfl, hx3, H3⟩
  simp only [List.set_cons_succ, List.set_set] at H3
  replace hx3 : (x : Int) < 3 := by omega
  clear H2 x0 x1
  go_upto_if 14 with fail
  go_cut [15] (fun s15 wx => ∃ (C R : Option Addr) (kC kR : Nat) (rvs : List Value) (T : Hp) (p' : Nat), Sm4 T ∧ p ≤ p' ∧ p' ≤ p + 401 ∧ Owns lo w0 wx (.box w2.heap.size [.slice C T.cells.length kC, .slice R T.roots.length kR] 26 :: .cells (.slice C T.cells.length kC) rvs T.cells :: .ints (.slice R T.roots.length kR) T.roots :: .box w.heap.size [.slice none 0 0, .slice none 0 0] 26 :: L.set i (.rdr g A n c p')))
  case first =>
    obtain ⟨x0, x1, x2, x3⟩ := H3.box2 0 rfl
    by_cases e : x = 0
    · subst e
      go_wp2_with fail
      refine (specCollect_any _ _ _ T (H3.rdH 1 2 rfl rfl)).mono ?_
      rintro e w4 ⟨cv, rvs', rv, rfl, K⟩
      replace K := H3.merge K
      simp only [List.cons_append, List.nil_append] at K
      obtain ⟨T', hT⟩ : ∃ T', T' = mCollect T := ⟨_, rfl⟩
      rw [← hT] at K
      have HG' : Hid (Good T') := Go.Lib.hid (by rw [hT]; exact mCollect_good HG.out)
      clear hT H3 x0 x1 x2 x3
      obtain ⟨C', kC', rfl, -⟩ := K.formC 0 rfl
      obtain ⟨R', kR', rfl, -⟩ := K.formI 1 rfl
      obtain ⟨x0, x1, x2, x3⟩ := K.box2 2 rfl
      have HZ := ((((K.putBox 2 rfl 0 (.slice C' T'.cells.length kC')).putBox 2 rfl 1 (.slice R' T'.roots.length kR')).erase 3).erase 3)
      simp only [List.set_cons_zero, List.set_cons_succ, List.eraseIdx_cons_zero, List.eraseIdx_cons_succ] at HZ
      have HY := HZ.rot3
      clear K HZ
      go_wp2_with fail
      go_meet
      exact ⟨C', R', kC', kR', rvs', T', p1 + 1, HG'.out.sm4, by omega, by omega, HY⟩
    · have e1 : ((x : Int) == 0) = false := by simp; omega
      clear e
      go_wp2_with fail
      go_meet
      exact ⟨C, R, kC, kR, rvs, T, p1 + 1, HG.out.sm4, by omega, by omega, H3⟩
  case rest =>
    clear H3 HG
    obtain ⟨C, R, kC, kR, rvs, T, p2, hS, hp3, hp4, H⟩ := hcut
    clear hp1 hp2
    go_wp2_with fail
    refine (pick_own H (i + 4) (set_get hX _) hr (by omega) 6 (by unfold I64; omega)).mono ?_
    rintro e w5 ⟨y, rfl, hy6, H5⟩
    simp only [List.set_cons_succ, List.set_set] at H5
    replace hy6 : (y : Int) < 6 := by omega
    clear H
    go_wp2_with fail
    go_loopw [6, 7, 8] (fun v6 v7 v8 wr => ∃ (k : Nat) (C R : Option Addr) (kC kR : Nat) (rvs : List Value) (T : Hp) (p' : Nat), v6 = .int .i64 k ∧ k ≤ y ∧ Sm4 T ∧ p ≤ p' ∧ p' + 3 * k ≤ p + 402 + 3 * y ∧ Owns lo w0 wr (.box w2.heap.size [.slice C T.cells.length kC, .slice R T.roots.length kR] 26 :: .cells (.slice C T.cells.length kC) rvs T.cells :: .ints (.slice R T.roots.length kR) T.roots :: .box w.heap.size [.slice none 0 0, .slice none 0 0] 26 :: L.set i (.rdr g A n c p'))) (fun v6 _ _ _ => (intOf v6).toNat)
    case atStart => exact ⟨y, C, R, kC, kR, rvs, T, p2 + 1, rfl, Nat.le_refl _, hS, by omega, by omega, H5⟩
    case round =>
      have hy5 : y ≤ 5 := by omega
      clear H5 hS hp3 hp4 hy6
      obtain ⟨k, C, R, kC, kR, rvs, T, p3, rfl, hk, hS, hp3, hp4, H⟩ := hrel
      obtain ⟨x0, x1, x2, x3⟩ := H.box2 0 rfl
      have hlen := hS.len
      by_cases hk0 : k = 0 ∨ T.cells.length = 0
      · by_cases hk1 : k = 0
        · subst hk1
          clear hk0
          have HS := Go.Lib.hid hS
          have hlen40 := hS.len
          clear hS
          have hr4 : T.roots.length ≤ 4 := by have := HS.out.roots; omega
          have hr4' : 4 ≤ T.roots.length := by have := HS.out.roots; omega
          by_cases hN : N = 0
          · subst hN
            go_wp2_with fail
            refine (odd_zero _ _).mono ?_
            rintro e w' ⟨rfl, hw⟩
            obtain rfl := hw
            obtain ⟨w0_, w1_, -, -⟩ := H.box2 0 rfl
            obtain ⟨y0, y1, y2, y3⟩ := H.box2 3 rfl
            have HZ := (((H.putBox 3 rfl 0 (.slice C T.cells.length kC)).putBox 3 rfl 1 (.slice R T.roots.length kR)).erase 0)
            simp only [List.set_cons_zero, List.set_cons_succ, List.eraseIdx_cons_zero] at HZ
            obtain ⟨z0, z1, -, -⟩ := HZ.box2 2 rfl
            have HZ2 := HZ.erase 2
            simp only [List.eraseIdx_cons_zero, List.eraseIdx_cons_succ] at HZ2
            obtain ⟨z2, -, -, -⟩ := (H.putBox 3 rfl 0 (.slice C T.cells.length kC)).box2 3 rfl
            have HSF : Hid (DrewH lo w0 L i g A n c p (.returned (.agg #[.slice C T.cells.length kC, .slice R T.roots.length kR])) _) := Go.Lib.hid ⟨T, _, rvs, _, _, _, p3, rfl, ⟨by have := HS.out.len; omega, by have := HS.out.roots; omega, HS.out.refs⟩, .inl ⟨rfl, rfl⟩, by omega, by omega, HZ2⟩
            clear H HZ HZ2
            go_wp2
            exact bodyPost_ret (v := .agg #[.slice C T.cells.length kC, .slice R T.roots.length kR]) (by simp [results, Try.results72, go_sem, z0, z1]) rfl HSF.out
          go_wp2_with fail
          refine (odd_own H (i + 4) (set_get hX _) hr (by omega) N (by omega) (by omega)).mono ?_
          rintro e w6 ⟨bo, rfl, H6⟩
          simp only [List.set_cons_succ, List.set_set] at H6
          clear H x0 x1 x2 x3
          obtain ⟨x0, x1, x2, x3⟩ := H6.box2 0 rfl
          cases bo
          · have H := H6
            clear H6
            obtain ⟨w0_, w1_, -, -⟩ := H.box2 0 rfl
            obtain ⟨y0, y1, y2, y3⟩ := H.box2 3 rfl
            have HZ := (((H.putBox 3 rfl 0 (.slice C T.cells.length kC)).putBox 3 rfl 1 (.slice R T.roots.length kR)).erase 0)
            simp only [List.set_cons_zero, List.set_cons_succ, List.eraseIdx_cons_zero] at HZ
            obtain ⟨z0, z1, -, -⟩ := HZ.box2 2 rfl
            have HZ2 := HZ.erase 2
            simp only [List.eraseIdx_cons_zero, List.eraseIdx_cons_succ] at HZ2
            obtain ⟨z2, -, -, -⟩ := (H.putBox 3 rfl 0 (.slice C T.cells.length kC)).box2 3 rfl
            have HSF : Hid (DrewH lo w0 L i g A n c p (.returned (.agg #[.slice C T.cells.length kC, .slice R T.roots.length kR])) _) := Go.Lib.hid ⟨T, _, rvs, _, _, _, (p3 + 1), rfl, ⟨by have := HS.out.len; omega, by have := HS.out.roots; omega, HS.out.refs⟩, .inl ⟨rfl, rfl⟩, by omega, by omega, HZ2⟩
            clear H HZ HZ2
            go_wp2
            exact bodyPost_ret (v := .agg #[.slice C T.cells.length kC, .slice R T.roots.length kR]) (by simp [results, Try.results72, go_sem, z0, z1]) rfl HSF.out
          go_wp2_with fail
          refine (pick_own H6 (i + 4) (set_get hX _) hr (by omega) 5 (by unfold I64; omega)).mono ?_
          rintro e w7 ⟨z, rfl, hz5, H7⟩
          simp only [List.set_cons_succ, List.set_set] at H7
          replace hz5 : (z : Int) < 5 := by omega
          clear H6 x0 x1 x2 x3
          obtain ⟨x0, x1, x2, x3⟩ := H7.box2 0 rfl
          obtain ⟨gR, cR, eR, hc1, hc2, -, -⟩ := H7.rowAt 2 rfl (show 0 < T.roots.length by omega)
          simp only [Value.slice.injEq] at eR
          obtain ⟨rfl, -, rfl⟩ := eR
          have hz : z = 0 ∨ z = 1 ∨ z = 2 ∨ z = 3 ∨ z = 4 := by omega
          clear hz5
          rcases hz with rfl | rfl | rfl | rfl | rfl
          · -- a root less
            have HP := H7.putBox 0 rfl 1 (.slice (some ⟨gR, 1, none⟩) (T.roots.length - 1) (kR - 1))
            simp only [List.set_cons_zero, List.set_cons_succ] at HP
            have f1 : ¬ kR = 1 := by omega
            have f2 : 1 ≤ T.roots.length := by omega
            have f3 : 1 ≤ kR := by omega
            obtain ⟨w0_, w1_, -, -⟩ := HP.box2 0 rfl
            obtain ⟨y0, y1, y2, y3⟩ := HP.box2 3 rfl
            have HZ := (((HP.putBox 3 rfl 0 (.slice C T.cells.length kC)).putBox 3 rfl 1 (.slice (some ⟨gR, 1, none⟩) (T.roots.length - 1) (kR - 1))).erase 0)
            simp only [List.set_cons_zero, List.set_cons_succ, List.eraseIdx_cons_zero] at HZ
            obtain ⟨z0, z1, -, -⟩ := HZ.box2 2 rfl
            have HZ2 := HZ.erase 2
            simp only [List.eraseIdx_cons_zero, List.eraseIdx_cons_succ] at HZ2
            obtain ⟨z2, -, -, -⟩ := (HP.putBox 3 rfl 0 (.slice C T.cells.length kC)).box2 3 rfl
            have HSF : Hid (DrewH lo w0 L i g A n c p (.returned (.agg #[.slice C T.cells.length kC, .slice (some ⟨gR, 1, none⟩) (T.roots.length - 1) (kR - 1)])) _) := Go.Lib.hid ⟨⟨T.cells, T.roots.drop 1⟩, _, rvs, _, _, _, (p3 + 2), rfl, ⟨by have := HS.out.len; show T.cells.length ≤ 41; omega, by show (T.roots.drop 1).length ≤ 4; simp; omega, HS.out.refs⟩, .inr ⟨gR, _, _, rfl, rfl, rfl, by omega⟩, by omega, by omega, HZ2⟩
            clear HP HZ HZ2
            go_wp2
            exact bodyPost_ret (v := .agg #[.slice C T.cells.length kC, .slice (some ⟨gR, 1, none⟩) (T.roots.length - 1) (kR - 1)]) (by simp [results, Try.results72, go_sem, z0, z1]) rfl HSF.out
          · -- a bad root
            go_wp2_with fail
            have HX := H7.drew
            have H0 := Go.Lib.hid H7
            clear H7 x0 x1 x2 x3
            obtain ⟨x0, x1, -, -⟩ := HX.box2 0 rfl
            refine wp_region_tree (fun w' => w'.cell? ⟨w2.heap.size, 0, none⟩ = some (.slice C T.cells.length kC) ∧ w'.cell? ⟨w2.heap.size, 1, none⟩ = some (.slice (some ⟨gR, 0, none⟩) T.roots.length kR)) 13 [9, 11] (.take 0 (.take 1 (.take 2 (.take 4 (.take 5 (.take 6 (.take 8 (.alt 3 (.alt 7 (.alt 9 (.take 10 (.alt 11 (.take 12 (.alt 13 (.done) (.stop))) (.stop))) (.stop)) (.alt 9 (.alt 7 (.take 10 (.alt 11 (.take 12 (.alt 13 (.done) (.stop))) (.stop))) (.stop)) (.stop))) (.alt 7 (.alt 3 (.alt 9 (.take 10 (.alt 11 (.take 12 (.alt 13 (.done) (.stop))) (.stop))) (.stop)) (.stop)) (.stop)))))))))) (by kernel_rfl) (by kernel_rfl) (by kernel_rfl) (⟨x0, x1⟩) ?_
            simp only [fillT, List.getElem?_cons_zero, List.getElem?_cons_succ, Nat.reduceBEq]
            repeat (first
              | (with_reducible refine po_take (v := ?_) ?_ (fun w' hS' => ?_) ?_
                 rotate_left
                 · (go_simp; done)
                 · ((try dsimp only at hS'); go_simp; try with_reducible rfl)
                 simp only [Act.put, List.setIfInBounds_toArray, List.set_cons_zero, List.set_cons_succ])
              | (with_reducible refine po_skip ?_ ?_
                 · (go_simp; done)
                 simp only [Act.put, List.setIfInBounds_toArray, List.set_cons_zero, List.set_cons_succ]))
            with_reducible refine po_run ?_ (fun K hK => ?_) ?_
            · (go_simp; done)
            · -- operation 3 first
              try (revert x0 x1 HX; generalize World.drew _ = wd; intro HX x0 x1)
              go_simp
              refine (pick_own HX (i + 4) (set_get hX _) hr (by omega) 4 (by unfold I64; omega)).mono ?_
              rintro e waj1 ⟨j1, rfl, hj1, HY⟩
              replace hj1 : j1 < 4 := by omega
              have hjr : j1 < T.roots.length := by omega
              have hj1' : (j1 : Int) < 4 := by omega
              simp only [List.set_cons_succ, List.set_set] at HY
              clear HX x0 x1
              have HX := HY
              clear HY
              obtain ⟨x0, x1, -, -⟩ := HX.box2 0 rfl
              refine hK.out _ _ (.inr (⟨x0, x1⟩)) ?_
              clear hK K
              with_reducible refine po_run ?_ (fun K hK => ?_) ?_
              · (go_simp; done)
              · -- operation 7 first
                try (revert x0 x1 HX; generalize World.drew _ = wd; intro HX x0 x1)
                go_simp
                replace HX := HX.litI [-2, (T.cells.length : Int)] (by show 2 ≤ maxLen; unfold maxLen; omega)
                try simp only [List.map_cons, List.map_nil, List.length_cons, List.length_nil, Nat.zero_add, Nat.reduceAdd] at HX
                clear x0 x1
                obtain ⟨x0, x1, -, -⟩ := HX.box2 1 rfl
                refine hK.out _ _ (.inr (⟨x0, x1⟩)) ?_
                clear hK K
                revert x0 x1 HX
                generalize World.alloc _ _ = wz
                intro HX x0 x1
                with_reducible refine po_run ?_ (fun K hK => ?_) ?_
                · (go_simp; done)
                rotate_left
                · exact po_stop
                try (revert x0 x1 HX; generalize World.drew _ = wd; intro HX x0 x1)
                go_simp
                refine (pick_own HX (i + 5) (set_get hX _) hr (by omega) 2 (by unfold I64; omega)).mono ?_
                rintro e waj2 ⟨j2, rfl, hj2, HY⟩
                replace hj2 : j2 < 2 := by omega
                have hj2' : (j2 : Int) < 2 := by omega
                simp only [List.set_cons_succ, List.set_set] at HY
                clear HX x0 x1
                have HX := HY
                clear HY
                obtain ⟨x0, x1, -, -⟩ := HX.box2 1 rfl
                refine hK.out _ _ (.inr (⟨x0, x1⟩)) ?_
                clear hK K
                repeat (first
                  | (with_reducible refine po_take (v := ?_) ?_ (fun w' hS' => ?_) ?_
                     rotate_left
                     · (go_simp; done)
                     · ((try dsimp only at hS'); go_simp; try with_reducible rfl)
                     simp only [Act.put, List.setIfInBounds_toArray, List.set_cons_zero, List.set_cons_succ])
                  | (with_reducible refine po_skip ?_ ?_
                     · (go_simp; done)
                     simp only [Act.put, List.setIfInBounds_toArray, List.set_cons_zero, List.set_cons_succ]))
                with_reducible refine po_run ?_ (fun K hK => ?_) ?_
                · (go_simp; done)
                rotate_left
                · exact po_stop
                obtain ⟨v2, hv2⟩ : ∃ v, ([-2, (T.cells.length : Int)] : List Int)[j2]? = some v := ⟨_, List.getElem?_eq_getElem (by simp; omega)⟩
                obtain ⟨zz, -⟩ := HX.elem 0 rfl (j := j2) (u := .int .i64 v2) (by rw [List.getElem?_map, hv2]; rfl)
                go_simp
                clear zz
                refine hK.out _ _ (.inr (⟨x0, x1⟩)) ?_
                clear hK K
                repeat (first
                  | (with_reducible refine po_take (v := ?_) ?_ (fun w' hS' => ?_) ?_
                     rotate_left
                     · (go_simp; done)
                     · ((try dsimp only at hS'); go_simp; try with_reducible rfl)
                     simp only [Act.put, List.setIfInBounds_toArray, List.set_cons_zero, List.set_cons_succ])
                  | (with_reducible refine po_skip ?_ ?_
                     · (go_simp; done)
                     simp only [Act.put, List.setIfInBounds_toArray, List.set_cons_zero, List.set_cons_succ]))
                with_reducible refine po_run ?_ (fun K hK => ?_) ?_
                · (go_simp; done)
                rotate_left
                · exact po_stop
                obtain ⟨xr, hxr⟩ : ∃ x, Hid (T.roots[j1]? = some x) := ⟨_, Go.Lib.hid (List.getElem?_eq_getElem (by omega))⟩
                obtain ⟨q0, q1⟩ := HX.intAt 3 rfl rfl hxr
                go_simp
                have HQ := HX.setInt 3 rfl rfl j1 v2
                simp only [List.set_cons_zero, List.set_cons_succ] at HQ
                clear HX q0 q1 x0 x1
                refine hK.out _ _ (.inl rfl) ?_
                clear hK K
                refine po_done ?_
                have HE := HQ.erase 0
                simp only [List.eraseIdx_cons_zero] at HE
                clear HQ H0
                obtain ⟨w0_, w1_, -, -⟩ := HE.box2 0 rfl
                obtain ⟨y0, y1, y2, y3⟩ := HE.box2 3 rfl
                have HZ := (((HE.putBox 3 rfl 0 (.slice C T.cells.length kC)).putBox 3 rfl 1 (.slice (some ⟨gR, 0, none⟩) T.roots.length kR)).erase 0)
                simp only [List.set_cons_zero, List.set_cons_succ, List.eraseIdx_cons_zero] at HZ
                obtain ⟨z0, z1, -, -⟩ := HZ.box2 2 rfl
                have HZ2 := HZ.erase 2
                simp only [List.eraseIdx_cons_zero, List.eraseIdx_cons_succ] at HZ2
                obtain ⟨z2, -, -, -⟩ := (HE.putBox 3 rfl 0 (.slice C T.cells.length kC)).box2 3 rfl
                have HSF : Hid (DrewH lo w0 L i g A n c p (.returned (.agg #[.slice C T.cells.length kC, .slice (some ⟨gR, 0, none⟩) T.roots.length kR])) _) := Go.Lib.hid ⟨⟨T.cells, T.roots.set j1 v2⟩, _, rvs, _, _, _, (p3 + 4), rfl, ⟨by have := HS.out.len; show T.cells.length ≤ 41; omega, by show (T.roots.set j1 v2).length ≤ 4; rw [List.length_set]; omega, HS.out.refs⟩, .inl ⟨rfl, rfl⟩, by omega, by omega, HZ2⟩
                clear HE HZ HZ2
                go_wp2
                exact bodyPost_ret (v := .agg #[.slice C T.cells.length kC, .slice (some ⟨gR, 0, none⟩) T.roots.length kR]) (by simp [results, Try.results72, go_sem, z0, z1]) rfl HSF.out
              with_reducible refine po_run ?_ (fun K hK => ?_) ?_
              · (go_simp; done)
              rotate_left
              · exact po_stop
              try (revert x0 x1 HX; generalize World.drew _ = wd; intro HX x0 x1)
              go_simp
              refine (pick_own HX (i + 4) (set_get hX _) hr (by omega) 2 (by unfold I64; omega)).mono ?_
              rintro e waj2 ⟨j2, rfl, hj2, HY⟩
              replace hj2 : j2 < 2 := by omega
              have hj2' : (j2 : Int) < 2 := by omega
              simp only [List.set_cons_succ, List.set_set] at HY
              clear HX x0 x1
              have HX := HY
              clear HY
              obtain ⟨x0, x1, -, -⟩ := HX.box2 0 rfl
              refine hK.out _ _ (.inr (⟨x0, x1⟩)) ?_
              clear hK K
              with_reducible refine po_run ?_ (fun K hK => ?_) ?_
              · (go_simp; done)
              rotate_left
              · exact po_stop
              try (revert x0 x1 HX; generalize World.drew _ = wd; intro HX x0 x1)
              go_simp
              replace HX := HX.litI [-2, (T.cells.length : Int)] (by show 2 ≤ maxLen; unfold maxLen; omega)
              try simp only [List.map_cons, List.map_nil, List.length_cons, List.length_nil, Nat.zero_add, Nat.reduceAdd] at HX
              clear x0 x1
              obtain ⟨x0, x1, -, -⟩ := HX.box2 1 rfl
              refine hK.out _ _ (.inr (⟨x0, x1⟩)) ?_
              clear hK K
              revert x0 x1 HX
              generalize World.alloc _ _ = wz
              intro HX x0 x1
              repeat (first
                | (with_reducible refine po_take (v := ?_) ?_ (fun w' hS' => ?_) ?_
                   rotate_left
                   · (go_simp; done)
                   · ((try dsimp only at hS'); go_simp; try with_reducible rfl)
                   simp only [Act.put, List.setIfInBounds_toArray, List.set_cons_zero, List.set_cons_succ])
                | (with_reducible refine po_skip ?_ ?_
                   · (go_simp; done)
                   simp only [Act.put, List.setIfInBounds_toArray, List.set_cons_zero, List.set_cons_succ]))
              with_reducible refine po_run ?_ (fun K hK => ?_) ?_
              · (go_simp; done)
              rotate_left
              · exact po_stop
              obtain ⟨v2, hv2⟩ : ∃ v, ([-2, (T.cells.length : Int)] : List Int)[j2]? = some v := ⟨_, List.getElem?_eq_getElem (by simp; omega)⟩
              obtain ⟨zz, -⟩ := HX.elem 0 rfl (j := j2) (u := .int .i64 v2) (by rw [List.getElem?_map, hv2]; rfl)
              go_simp
              clear zz
              refine hK.out _ _ (.inr (⟨x0, x1⟩)) ?_
              clear hK K
              repeat (first
                | (with_reducible refine po_take (v := ?_) ?_ (fun w' hS' => ?_) ?_
                   rotate_left
                   · (go_simp; done)
                   · ((try dsimp only at hS'); go_simp; try with_reducible rfl)
                   simp only [Act.put, List.setIfInBounds_toArray, List.set_cons_zero, List.set_cons_succ])
                | (with_reducible refine po_skip ?_ ?_
                   · (go_simp; done)
                   simp only [Act.put, List.setIfInBounds_toArray, List.set_cons_zero, List.set_cons_succ]))
              with_reducible refine po_run ?_ (fun K hK => ?_) ?_
              · (go_simp; done)
              rotate_left
              · exact po_stop
              obtain ⟨xr, hxr⟩ : ∃ x, Hid (T.roots[j1]? = some x) := ⟨_, Go.Lib.hid (List.getElem?_eq_getElem (by omega))⟩
              obtain ⟨q0, q1⟩ := HX.intAt 3 rfl rfl hxr
              go_simp
              have HQ := HX.setInt 3 rfl rfl j1 v2
              simp only [List.set_cons_zero, List.set_cons_succ] at HQ
              clear HX q0 q1 x0 x1
              refine hK.out _ _ (.inl rfl) ?_
              clear hK K
              refine po_done ?_
              have HE := HQ.erase 0
              simp only [List.eraseIdx_cons_zero] at HE
              clear HQ H0
              obtain ⟨w0_, w1_, -, -⟩ := HE.box2 0 rfl
              obtain ⟨y0, y1, y2, y3⟩ := HE.box2 3 rfl
              have HZ := (((HE.putBox 3 rfl 0 (.slice C T.cells.length kC)).putBox 3 rfl 1 (.slice (some ⟨gR, 0, none⟩) T.roots.length kR)).erase 0)
              simp only [List.set_cons_zero, List.set_cons_succ, List.eraseIdx_cons_zero] at HZ
              obtain ⟨z0, z1, -, -⟩ := HZ.box2 2 rfl
              have HZ2 := HZ.erase 2
              simp only [List.eraseIdx_cons_zero, List.eraseIdx_cons_succ] at HZ2
              obtain ⟨z2, -, -, -⟩ := (HE.putBox 3 rfl 0 (.slice C T.cells.length kC)).box2 3 rfl
              have HSF : Hid (DrewH lo w0 L i g A n c p (.returned (.agg #[.slice C T.cells.length kC, .slice (some ⟨gR, 0, none⟩) T.roots.length kR])) _) := Go.Lib.hid ⟨⟨T.cells, T.roots.set j1 v2⟩, _, rvs, _, _, _, (p3 + 4), rfl, ⟨by have := HS.out.len; show T.cells.length ≤ 41; omega, by show (T.roots.set j1 v2).length ≤ 4; rw [List.length_set]; omega, HS.out.refs⟩, .inl ⟨rfl, rfl⟩, by omega, by omega, HZ2⟩
              clear HE HZ HZ2
              go_wp2
              exact bodyPost_ret (v := .agg #[.slice C T.cells.length kC, .slice (some ⟨gR, 0, none⟩) T.roots.length kR]) (by simp [results, Try.results72, go_sem, z0, z1]) rfl HSF.out
            with_reducible refine po_run ?_ (fun K hK => ?_) ?_
            · (go_simp; done)
            rotate_left
            · exact po_stop
            try (revert x0 x1 HX; generalize World.drew _ = wd; intro HX x0 x1)
            go_simp
            replace HX := HX.litI [-2, (T.cells.length : Int)] (by show 2 ≤ maxLen; unfold maxLen; omega)
            try simp only [List.map_cons, List.map_nil, List.length_cons, List.length_nil, Nat.zero_add, Nat.reduceAdd] at HX
            clear x0 x1
            obtain ⟨x0, x1, -, -⟩ := HX.box2 1 rfl
            refine hK.out _ _ (.inr (⟨x0, x1⟩)) ?_
            clear hK K
            revert x0 x1 HX
            generalize World.alloc _ _ = wz
            intro HX x0 x1
            with_reducible refine po_run ?_ (fun K hK => ?_) ?_
            · (go_simp; done)
            rotate_left
            · exact po_stop
            try (revert x0 x1 HX; generalize World.drew _ = wd; intro HX x0 x1)
            go_simp
            refine (pick_own HX (i + 5) (set_get hX _) hr (by omega) 4 (by unfold I64; omega)).mono ?_
            rintro e waj1 ⟨j1, rfl, hj1, HY⟩
            replace hj1 : j1 < 4 := by omega
            have hjr : j1 < T.roots.length := by omega
            have hj1' : (j1 : Int) < 4 := by omega
            simp only [List.set_cons_succ, List.set_set] at HY
            clear HX x0 x1
            have HX := HY
            clear HY
            obtain ⟨x0, x1, -, -⟩ := HX.box2 1 rfl
            refine hK.out _ _ (.inr (⟨x0, x1⟩)) ?_
            clear hK K
            with_reducible refine po_run ?_ (fun K hK => ?_) ?_
            · (go_simp; done)
            rotate_left
            · exact po_stop
            try (revert x0 x1 HX; generalize World.drew _ = wd; intro HX x0 x1)
            go_simp
            refine (pick_own HX (i + 5) (set_get hX _) hr (by omega) 2 (by unfold I64; omega)).mono ?_
            rintro e waj2 ⟨j2, rfl, hj2, HY⟩
            replace hj2 : j2 < 2 := by omega
            have hj2' : (j2 : Int) < 2 := by omega
            simp only [List.set_cons_succ, List.set_set] at HY
            clear HX x0 x1
            have HX := HY
            clear HY
            obtain ⟨x0, x1, -, -⟩ := HX.box2 1 rfl
            refine hK.out _ _ (.inr (⟨x0, x1⟩)) ?_
            clear hK K
            repeat (first
              | (with_reducible refine po_take (v := ?_) ?_ (fun w' hS' => ?_) ?_
                 rotate_left
                 · (go_simp; done)
                 · ((try dsimp only at hS'); go_simp; try with_reducible rfl)
                 simp only [Act.put, List.setIfInBounds_toArray, List.set_cons_zero, List.set_cons_succ])
              | (with_reducible refine po_skip ?_ ?_
                 · (go_simp; done)
                 simp only [Act.put, List.setIfInBounds_toArray, List.set_cons_zero, List.set_cons_succ]))
            with_reducible refine po_run ?_ (fun K hK => ?_) ?_
            · (go_simp; done)
            rotate_left
            · exact po_stop
            obtain ⟨v2, hv2⟩ : ∃ v, ([-2, (T.cells.length : Int)] : List Int)[j2]? = some v := ⟨_, List.getElem?_eq_getElem (by simp; omega)⟩
            obtain ⟨zz, -⟩ := HX.elem 0 rfl (j := j2) (u := .int .i64 v2) (by rw [List.getElem?_map, hv2]; rfl)
            go_simp
            clear zz
            refine hK.out _ _ (.inr (⟨x0, x1⟩)) ?_
            clear hK K
            repeat (first
              | (with_reducible refine po_take (v := ?_) ?_ (fun w' hS' => ?_) ?_
                 rotate_left
                 · (go_simp; done)
                 · ((try dsimp only at hS'); go_simp; try with_reducible rfl)
                 simp only [Act.put, List.setIfInBounds_toArray, List.set_cons_zero, List.set_cons_succ])
              | (with_reducible refine po_skip ?_ ?_
                 · (go_simp; done)
                 simp only [Act.put, List.setIfInBounds_toArray, List.set_cons_zero, List.set_cons_succ]))
            with_reducible refine po_run ?_ (fun K hK => ?_) ?_
            · (go_simp; done)
            rotate_left
            · exact po_stop
            obtain ⟨xr, hxr⟩ : ∃ x, Hid (T.roots[j1]? = some x) := ⟨_, Go.Lib.hid (List.getElem?_eq_getElem (by omega))⟩
            obtain ⟨q0, q1⟩ := HX.intAt 3 rfl rfl hxr
            go_simp
            have HQ := HX.setInt 3 rfl rfl j1 v2
            simp only [List.set_cons_zero, List.set_cons_succ] at HQ
            clear HX q0 q1 x0 x1
            refine hK.out _ _ (.inl rfl) ?_
            clear hK K
            refine po_done ?_
            have HE := HQ.erase 0
            simp only [List.eraseIdx_cons_zero] at HE
            clear HQ H0
            obtain ⟨w0_, w1_, -, -⟩ := HE.box2 0 rfl
            obtain ⟨y0, y1, y2, y3⟩ := HE.box2 3 rfl
            have HZ := (((HE.putBox 3 rfl 0 (.slice C T.cells.length kC)).putBox 3 rfl 1 (.slice (some ⟨gR, 0, none⟩) T.roots.length kR)).erase 0)
            simp only [List.set_cons_zero, List.set_cons_succ, List.eraseIdx_cons_zero] at HZ
            obtain ⟨z0, z1, -, -⟩ := HZ.box2 2 rfl
            have HZ2 := HZ.erase 2
            simp only [List.eraseIdx_cons_zero, List.eraseIdx_cons_succ] at HZ2
            obtain ⟨z2, -, -, -⟩ := (HE.putBox 3 rfl 0 (.slice C T.cells.length kC)).box2 3 rfl
            have HSF : Hid (DrewH lo w0 L i g A n c p (.returned (.agg #[.slice C T.cells.length kC, .slice (some ⟨gR, 0, none⟩) T.roots.length kR])) _) := Go.Lib.hid ⟨⟨T.cells, T.roots.set j1 v2⟩, _, rvs, _, _, _, (p3 + 4), rfl, ⟨by have := HS.out.len; show T.cells.length ≤ 41; omega, by show (T.roots.set j1 v2).length ≤ 4; rw [List.length_set]; omega, HS.out.refs⟩, .inl ⟨rfl, rfl⟩, by omega, by omega, HZ2⟩
            clear HE HZ HZ2
            go_wp2
            exact bodyPost_ret (v := .agg #[.slice C T.cells.length kC, .slice (some ⟨gR, 0, none⟩) T.roots.length kR]) (by simp [results, Try.results72, go_sem, z0, z1]) rfl HSF.out
          · -- a cell that is not used
            have H8 := H7.noInts.alloc (.cells #[.bool false, .int .i64 5, .slice none 0 0] 40)
            go_wp2_with (at_builtin; go_loud (refine wpList_pushCO rfl (.tmp 123) (.tmp 125) rfl H8 2 0 (c := ⟨false, 5, []⟩) (rv := .slice none 0 0) rfl rfl rfl rfl rfl (heap1 _ _) (by omega) ?_; intro A3 k3 w9 H9; simp only [List.set_cons_zero, List.set_cons_succ, List.eraseIdx_cons_zero, List.length_append, List.length_cons, List.length_nil, Nat.zero_add] at H9; obtain ⟨e0, e1, e2, e3⟩ := H9.box2 0 rfl; have HB := H9.putBox 0 rfl 0 (.slice A3 (T.cells.length + 1) k3); simp only [List.set_cons_zero] at HB; obtain ⟨w0_, w1_, -, -⟩ := HB.box2 0 rfl; obtain ⟨y0, y1, y2, y3⟩ := HB.box2 3 rfl; have HZ := (((HB.putBox 3 rfl 0 (.slice A3 (T.cells.length + 1) k3)).putBox 3 rfl 1 (.slice (some ⟨gR, 0, none⟩) T.roots.length kR)).erase 0); simp only [List.set_cons_zero, List.set_cons_succ, List.eraseIdx_cons_zero] at HZ; obtain ⟨z0, z1, -, -⟩ := HZ.box2 2 rfl; have HZ2 := HZ.erase 2; simp only [List.eraseIdx_cons_zero, List.eraseIdx_cons_succ] at HZ2; obtain ⟨z2, -, -, -⟩ := (HB.putBox 3 rfl 0 (.slice A3 (T.cells.length + 1) k3)).box2 3 rfl; have HSF : Hid (DrewH lo w0 L i g A n c p (.returned (.agg #[.slice A3 (T.cells.length + 1) k3, .slice (some ⟨gR, 0, none⟩) T.roots.length kR])) _) := Go.Lib.hid ⟨⟨T.cells ++ [⟨false, 5, []⟩], T.roots⟩, _, _, _, _, _, (p3 + 2), rfl, ⟨by have := HS.out.len; show (T.cells ++ [_]).length ≤ 41; simp; omega, hr4, fun q hq => (List.mem_append.1 hq).elim (HS.out.refs q) (fun hq => by rw [List.mem_singleton.1 hq]; simp)⟩, .inl ⟨rfl, rfl⟩, by omega, by omega, HZ2⟩))
            exact bodyPost_ret (v := .agg #[.slice A3 (T.cells.length + 1) k3, .slice (some ⟨gR, 0, none⟩) T.roots.length kR]) (by simp [results, Try.results72, go_sem, z0, z1]) rfl HSF.out
          · -- a reference too far
            have H8 := (H7.litI [(T.cells.length : Int) + 1] one_le_maxLen).alloc (.cells #[.bool true, .int .i64 0, .slice (some ⟨w7.heap.size, 0, none⟩) 1 1] 40)
            simp only [List.map_cons, List.map_nil, List.length_cons, List.length_nil, Nat.zero_add] at H8
            go_wp2_with (at_builtin; go_loud (refine wpList_pushCO rfl (.tmp 131) (.tmp 138) rfl H8 2 0 (c := ⟨true, 0, [(T.cells.length : Int) + 1]⟩) (rv := .slice (some ⟨w7.heap.size, 0, none⟩) 1 1) rfl rfl rfl rfl rfl (heap2 w7 _ _).2 (by omega) ?_; intro A3 k3 w9 H9; simp only [List.set_cons_zero, List.set_cons_succ, List.eraseIdx_cons_zero, List.length_append, List.length_cons, List.length_nil, Nat.zero_add] at H9; obtain ⟨e0, e1, e2, e3⟩ := H9.box2 0 rfl; have HB := H9.putBox 0 rfl 0 (.slice A3 (T.cells.length + 1) k3); simp only [List.set_cons_zero] at HB; obtain ⟨w0_, w1_, -, -⟩ := HB.box2 0 rfl; obtain ⟨y0, y1, y2, y3⟩ := HB.box2 3 rfl; have HZ := (((HB.putBox 3 rfl 0 (.slice A3 (T.cells.length + 1) k3)).putBox 3 rfl 1 (.slice (some ⟨gR, 0, none⟩) T.roots.length kR)).erase 0); simp only [List.set_cons_zero, List.set_cons_succ, List.eraseIdx_cons_zero] at HZ; obtain ⟨z0, z1, -, -⟩ := HZ.box2 2 rfl; have HZ2 := HZ.erase 2; simp only [List.eraseIdx_cons_zero, List.eraseIdx_cons_succ] at HZ2; obtain ⟨z2, -, -, -⟩ := (HB.putBox 3 rfl 0 (.slice A3 (T.cells.length + 1) k3)).box2 3 rfl; have HSF : Hid (DrewH lo w0 L i g A n c p (.returned (.agg #[.slice A3 (T.cells.length + 1) k3, .slice (some ⟨gR, 0, none⟩) T.roots.length kR])) _) := Go.Lib.hid ⟨⟨T.cells ++ [⟨true, 0, [(T.cells.length : Int) + 1]⟩], T.roots⟩, _, _, _, _, _, (p3 + 2), rfl, ⟨by have := HS.out.len; show (T.cells ++ [_]).length ≤ 41; simp; omega, hr4, fun q hq => (List.mem_append.1 hq).elim (HS.out.refs q) (fun hq => by rw [List.mem_singleton.1 hq]; simp)⟩, .inl ⟨rfl, rfl⟩, by omega, by omega, HZ2⟩))
            exact bodyPost_ret (v := .agg #[.slice A3 (T.cells.length + 1) k3, .slice (some ⟨gR, 0, none⟩) T.roots.length kR]) (by simp [results, Try.results72, go_sem, z0, z1]) rfl HSF.out
          · -- a bad number
            go_wp2_with fail
            have HX := H7.drew
            have H0 := Go.Lib.hid H7
            clear H7 x0 x1 x2 x3
            obtain ⟨x0, x1, -, -⟩ := HX.box2 0 rfl
            refine wp_region_tree (fun w' => w'.cell? ⟨w2.heap.size, 0, none⟩ = some (.slice C T.cells.length kC) ∧ w'.cell? ⟨w2.heap.size, 1, none⟩ = some (.slice (some ⟨gR, 0, none⟩) T.roots.length kR)) 11 [6] (.take 0 (.take 1 (.take 3 (.alt 2 (.alt 4 (.take 5 (.alt 6 (.take 7 (.alt 8 (.alt 9 (.take 10 (.alt 11 (.done) (.stop))) (.stop)) (.stop))) (.stop))) (.stop)) (.alt 4 (.alt 2 (.take 5 (.alt 6 (.take 7 (.alt 8 (.alt 9 (.take 10 (.alt 11 (.done) (.stop))) (.stop)) (.stop))) (.stop))) (.stop)) (.stop)))))) (by kernel_rfl) (by kernel_rfl) (by kernel_rfl) (⟨x0, x1⟩) ?_
            simp only [fillT, List.getElem?_cons_zero, List.getElem?_cons_succ, Nat.reduceBEq]
            repeat (first
              | (with_reducible refine po_take (v := ?_) ?_ (fun w' hS' => ?_) ?_
                 rotate_left
                 · (go_simp; done)
                 · ((try dsimp only at hS'); go_simp; try with_reducible rfl)
                 simp only [Act.put, List.setIfInBounds_toArray, List.set_cons_zero, List.set_cons_succ])
              | (with_reducible refine po_skip ?_ ?_
                 · (go_simp; done)
                 simp only [Act.put, List.setIfInBounds_toArray, List.set_cons_zero, List.set_cons_succ]))
            with_reducible refine po_run ?_ (fun K hK => ?_) ?_
            · (go_simp; done)
            · -- operation 2 first
              try (revert x0 x1 HX; generalize World.drew _ = wd; intro HX x0 x1)
              go_simp
              replace HX := HX.litI [-1, 100] (by show 2 ≤ maxLen; unfold maxLen; omega)
              try simp only [List.map_cons, List.map_nil, List.length_cons, List.length_nil, Nat.zero_add, Nat.reduceAdd] at HX
              clear x0 x1
              obtain ⟨x0, x1, -, -⟩ := HX.box2 1 rfl
              refine hK.out _ _ (.inr (⟨x0, x1⟩)) ?_
              clear hK K
              revert x0 x1 HX
              generalize World.alloc _ _ = wz
              intro HX x0 x1
              with_reducible refine po_run ?_ (fun K hK => ?_) ?_
              · (go_simp; done)
              rotate_left
              · exact po_stop
              try (revert x0 x1 HX; generalize World.drew _ = wd; intro HX x0 x1)
              go_simp
              refine (pick_own HX (i + 5) (set_get hX _) hr (by omega) 2 (by unfold I64; omega)).mono ?_
              rintro e waj2 ⟨j2, rfl, hj2, HY⟩
              replace hj2 : j2 < 2 := by omega
              have hj2' : (j2 : Int) < 2 := by omega
              simp only [List.set_cons_succ, List.set_set] at HY
              clear HX x0 x1
              have HX := HY
              clear HY
              obtain ⟨x0, x1, -, -⟩ := HX.box2 1 rfl
              refine hK.out _ _ (.inr (⟨x0, x1⟩)) ?_
              clear hK K
              repeat (first
                | (with_reducible refine po_take (v := ?_) ?_ (fun w' hS' => ?_) ?_
                   rotate_left
                   · (go_simp; done)
                   · ((try dsimp only at hS'); go_simp; try with_reducible rfl)
                   simp only [Act.put, List.setIfInBounds_toArray, List.set_cons_zero, List.set_cons_succ])
                | (with_reducible refine po_skip ?_ ?_
                   · (go_simp; done)
                   simp only [Act.put, List.setIfInBounds_toArray, List.set_cons_zero, List.set_cons_succ]))
              with_reducible refine po_run ?_ (fun K hK => ?_) ?_
              · (go_simp; done)
              rotate_left
              · exact po_stop
              obtain ⟨v2, hv2⟩ : ∃ v, ([-1, 100] : List Int)[j2]? = some v := ⟨_, List.getElem?_eq_getElem (by simp; omega)⟩
              obtain ⟨zz, -⟩ := HX.elem 0 rfl (j := j2) (u := .int .i64 v2) (by rw [List.getElem?_map, hv2]; rfl)
              go_simp
              clear zz
              refine hK.out _ _ (.inr (⟨x0, x1⟩)) ?_
              clear hK K
              repeat (first
                | (with_reducible refine po_take (v := ?_) ?_ (fun w' hS' => ?_) ?_
                   rotate_left
                   · (go_simp; done)
                   · ((try dsimp only at hS'); go_simp; try with_reducible rfl)
                   simp only [Act.put, List.setIfInBounds_toArray, List.set_cons_zero, List.set_cons_succ])
                | (with_reducible refine po_skip ?_ ?_
                   · (go_simp; done)
                   simp only [Act.put, List.setIfInBounds_toArray, List.set_cons_zero, List.set_cons_succ]))
              with_reducible refine po_run ?_ (fun K hK => ?_) ?_
              · (go_simp; done)
              rotate_left
              · exact po_stop
              try (revert x0 x1 HX; generalize World.drew _ = wd; intro HX x0 x1)
              go_simp
              replace HX := HX.box [.bool true, .int .i64 v2, .slice none 0 0] 40
              try simp only [World.size_alloc, drew_size, List.map_cons, List.map_nil, List.length_cons, List.length_nil, Nat.zero_add, Nat.reduceAdd] at HX
              clear x0 x1
              obtain ⟨x0, x1, -, -⟩ := HX.box2 2 rfl
              refine hK.out _ _ (.inr (⟨x0, x1⟩)) ?_
              clear hK K
              revert x0 x1 HX
              generalize World.alloc _ _ = wz
              intro HX x0 x1
              with_reducible refine po_run ?_ (fun K hK => ?_) ?_
              · (go_simp; done)
              rotate_left
              · exact po_stop
              have HN := HX.noInts
              refine wp_pushCO (.tmp 89) (.tmp 96) rfl HN 4 0 (c := ⟨true, v2, []⟩) (rv := .slice none 0 0) rfl rfl rfl rfl rfl (HX.holds 0 _ rfl).2 (by omega) ?_
              intro A3 k3 w9 HY
              simp only [List.set_cons_zero, List.set_cons_succ, List.eraseIdx_cons_zero, List.length_append, List.length_cons, List.length_nil, Nat.zero_add] at HY
              clear HX HN x0 x1
              have HX := HY
              clear HY
              obtain ⟨x0, x1, -, -⟩ := HX.box2 2 rfl
              refine hK.out _ _ (.inr (⟨x0, x1⟩)) ?_
              clear hK K
              repeat (first
                | (with_reducible refine po_take (v := ?_) ?_ (fun w' hS' => ?_) ?_
                   rotate_left
                   · (go_simp; done)
                   · ((try dsimp only at hS'); go_simp; try with_reducible rfl)
                   simp only [Act.put, List.setIfInBounds_toArray, List.set_cons_zero, List.set_cons_succ])
                | (with_reducible refine po_skip ?_ ?_
                   · (go_simp; done)
                   simp only [Act.put, List.setIfInBounds_toArray, List.set_cons_zero, List.set_cons_succ]))
              with_reducible refine po_run ?_ (fun K hK => ?_) ?_
              · (go_simp; done)
              rotate_left
              · exact po_stop
              obtain ⟨-, -, x2, x3⟩ := HX.box2 2 rfl
              go_simp
              have HQ := HX.putBox 2 rfl 0 (.slice A3 (T.cells.length + 1) k3)
              simp only [List.set_cons_zero, List.set_cons_succ] at HQ
              clear HX x0 x1 x2 x3
              refine hK.out _ _ (.inl rfl) ?_
              clear hK K
              refine po_done ?_
              have HE := (HQ.erase 0).erase 0
              simp only [List.eraseIdx_cons_zero] at HE
              clear HQ H0
              obtain ⟨w0_, w1_, -, -⟩ := HE.box2 0 rfl
              obtain ⟨y0, y1, y2, y3⟩ := HE.box2 3 rfl
              have HZ := (((HE.putBox 3 rfl 0 (.slice A3 (T.cells.length + 1) k3)).putBox 3 rfl 1 (.slice (some ⟨gR, 0, none⟩) T.roots.length kR)).erase 0)
              simp only [List.set_cons_zero, List.set_cons_succ, List.eraseIdx_cons_zero] at HZ
              obtain ⟨z0, z1, -, -⟩ := HZ.box2 2 rfl
              have HZ2 := HZ.erase 2
              simp only [List.eraseIdx_cons_zero, List.eraseIdx_cons_succ] at HZ2
              obtain ⟨z2, -, -, -⟩ := (HE.putBox 3 rfl 0 (.slice A3 (T.cells.length + 1) k3)).box2 3 rfl
              have HSF : Hid (DrewH lo w0 L i g A n c p (.returned (.agg #[.slice A3 (T.cells.length + 1) k3, .slice (some ⟨gR, 0, none⟩) T.roots.length kR])) _) := Go.Lib.hid ⟨⟨T.cells ++ [⟨true, v2, []⟩], T.roots⟩, _, _, _, _, _, (p3 + 3), rfl, ⟨by have := HS.out.len; show (T.cells ++ [_]).length ≤ 41; simp; omega, hr4, fun q hq => (List.mem_append.1 hq).elim (HS.out.refs q) (fun hq => by rw [List.mem_singleton.1 hq]; simp)⟩, .inl ⟨rfl, rfl⟩, by omega, by omega, HZ2⟩
              clear HE HZ HZ2
              go_wp2
              exact bodyPost_ret (v := .agg #[.slice A3 (T.cells.length + 1) k3, .slice (some ⟨gR, 0, none⟩) T.roots.length kR]) (by simp [results, Try.results72, go_sem, z0, z1]) rfl HSF.out
            with_reducible refine po_run ?_ (fun K hK => ?_) ?_
            · (go_simp; done)
            rotate_left
            · exact po_stop
            try (revert x0 x1 HX; generalize World.drew _ = wd; intro HX x0 x1)
            go_simp
            refine (pick_own HX (i + 4) (set_get hX _) hr (by omega) 2 (by unfold I64; omega)).mono ?_
            rintro e waj2 ⟨j2, rfl, hj2, HY⟩
            replace hj2 : j2 < 2 := by omega
            have hj2' : (j2 : Int) < 2 := by omega
            simp only [List.set_cons_succ, List.set_set] at HY
            clear HX x0 x1
            have HX := HY
            clear HY
            obtain ⟨x0, x1, -, -⟩ := HX.box2 0 rfl
            refine hK.out _ _ (.inr (⟨x0, x1⟩)) ?_
            clear hK K
            with_reducible refine po_run ?_ (fun K hK => ?_) ?_
            · (go_simp; done)
            rotate_left
            · exact po_stop
            try (revert x0 x1 HX; generalize World.drew _ = wd; intro HX x0 x1)
            go_simp
            replace HX := HX.litI [-1, 100] (by show 2 ≤ maxLen; unfold maxLen; omega)
            try simp only [List.map_cons, List.map_nil, List.length_cons, List.length_nil, Nat.zero_add, Nat.reduceAdd] at HX
            clear x0 x1
            obtain ⟨x0, x1, -, -⟩ := HX.box2 1 rfl
            refine hK.out _ _ (.inr (⟨x0, x1⟩)) ?_
            clear hK K
            revert x0 x1 HX
            generalize World.alloc _ _ = wz
            intro HX x0 x1
            repeat (first
              | (with_reducible refine po_take (v := ?_) ?_ (fun w' hS' => ?_) ?_
                 rotate_left
                 · (go_simp; done)
                 · ((try dsimp only at hS'); go_simp; try with_reducible rfl)
                 simp only [Act.put, List.setIfInBounds_toArray, List.set_cons_zero, List.set_cons_succ])
              | (with_reducible refine po_skip ?_ ?_
                 · (go_simp; done)
                 simp only [Act.put, List.setIfInBounds_toArray, List.set_cons_zero, List.set_cons_succ]))
            with_reducible refine po_run ?_ (fun K hK => ?_) ?_
            · (go_simp; done)
            rotate_left
            · exact po_stop
            obtain ⟨v2, hv2⟩ : ∃ v, ([-1, 100] : List Int)[j2]? = some v := ⟨_, List.getElem?_eq_getElem (by simp; omega)⟩
            obtain ⟨zz, -⟩ := HX.elem 0 rfl (j := j2) (u := .int .i64 v2) (by rw [List.getElem?_map, hv2]; rfl)
            go_simp
            clear zz
            refine hK.out _ _ (.inr (⟨x0, x1⟩)) ?_
            clear hK K
            repeat (first
              | (with_reducible refine po_take (v := ?_) ?_ (fun w' hS' => ?_) ?_
                 rotate_left
                 · (go_simp; done)
                 · ((try dsimp only at hS'); go_simp; try with_reducible rfl)
                 simp only [Act.put, List.setIfInBounds_toArray, List.set_cons_zero, List.set_cons_succ])
              | (with_reducible refine po_skip ?_ ?_
                 · (go_simp; done)
                 simp only [Act.put, List.setIfInBounds_toArray, List.set_cons_zero, List.set_cons_succ]))
            with_reducible refine po_run ?_ (fun K hK => ?_) ?_
            · (go_simp; done)
            rotate_left
            · exact po_stop
            try (revert x0 x1 HX; generalize World.drew _ = wd; intro HX x0 x1)
            go_simp
            replace HX := HX.box [.bool true, .int .i64 v2, .slice none 0 0] 40
            try simp only [World.size_alloc, drew_size, List.map_cons, List.map_nil, List.length_cons, List.length_nil, Nat.zero_add, Nat.reduceAdd] at HX
            clear x0 x1
            obtain ⟨x0, x1, -, -⟩ := HX.box2 2 rfl
            refine hK.out _ _ (.inr (⟨x0, x1⟩)) ?_
            clear hK K
            revert x0 x1 HX
            generalize World.alloc _ _ = wz
            intro HX x0 x1
            with_reducible refine po_run ?_ (fun K hK => ?_) ?_
            · (go_simp; done)
            rotate_left
            · exact po_stop
            have HN := HX.noInts
            refine wp_pushCO (.tmp 89) (.tmp 96) rfl HN 4 0 (c := ⟨true, v2, []⟩) (rv := .slice none 0 0) rfl rfl rfl rfl rfl (HX.holds 0 _ rfl).2 (by omega) ?_
            intro A3 k3 w9 HY
            simp only [List.set_cons_zero, List.set_cons_succ, List.eraseIdx_cons_zero, List.length_append, List.length_cons, List.length_nil, Nat.zero_add] at HY
            clear HX HN x0 x1
            have HX := HY
            clear HY
            obtain ⟨x0, x1, -, -⟩ := HX.box2 2 rfl
            refine hK.out _ _ (.inr (⟨x0, x1⟩)) ?_
            clear hK K
            repeat (first
              | (with_reducible refine po_take (v := ?_) ?_ (fun w' hS' => ?_) ?_
                 rotate_left
                 · (go_simp; done)
                 · ((try dsimp only at hS'); go_simp; try with_reducible rfl)
                 simp only [Act.put, List.setIfInBounds_toArray, List.set_cons_zero, List.set_cons_succ])
              | (with_reducible refine po_skip ?_ ?_
                 · (go_simp; done)
                 simp only [Act.put, List.setIfInBounds_toArray, List.set_cons_zero, List.set_cons_succ]))
            with_reducible refine po_run ?_ (fun K hK => ?_) ?_
            · (go_simp; done)
            rotate_left
            · exact po_stop
            obtain ⟨-, -, x2, x3⟩ := HX.box2 2 rfl
            go_simp
            have HQ := HX.putBox 2 rfl 0 (.slice A3 (T.cells.length + 1) k3)
            simp only [List.set_cons_zero, List.set_cons_succ] at HQ
            clear HX x0 x1 x2 x3
            refine hK.out _ _ (.inl rfl) ?_
            clear hK K
            refine po_done ?_
            have HE := (HQ.erase 0).erase 0
            simp only [List.eraseIdx_cons_zero] at HE
            clear HQ H0
            obtain ⟨w0_, w1_, -, -⟩ := HE.box2 0 rfl
            obtain ⟨y0, y1, y2, y3⟩ := HE.box2 3 rfl
            have HZ := (((HE.putBox 3 rfl 0 (.slice A3 (T.cells.length + 1) k3)).putBox 3 rfl 1 (.slice (some ⟨gR, 0, none⟩) T.roots.length kR)).erase 0)
            simp only [List.set_cons_zero, List.set_cons_succ, List.eraseIdx_cons_zero] at HZ
            obtain ⟨z0, z1, -, -⟩ := HZ.box2 2 rfl
            have HZ2 := HZ.erase 2
            simp only [List.eraseIdx_cons_zero, List.eraseIdx_cons_succ] at HZ2
            obtain ⟨z2, -, -, -⟩ := (HE.putBox 3 rfl 0 (.slice A3 (T.cells.length + 1) k3)).box2 3 rfl
            have HSF : Hid (DrewH lo w0 L i g A n c p (.returned (.agg #[.slice A3 (T.cells.length + 1) k3, .slice (some ⟨gR, 0, none⟩) T.roots.length kR])) _) := Go.Lib.hid ⟨⟨T.cells ++ [⟨true, v2, []⟩], T.roots⟩, _, _, _, _, _, (p3 + 3), rfl, ⟨by have := HS.out.len; show (T.cells ++ [_]).length ≤ 41; simp; omega, hr4, fun q hq => (List.mem_append.1 hq).elim (HS.out.refs q) (fun hq => by rw [List.mem_singleton.1 hq]; simp)⟩, .inl ⟨rfl, rfl⟩, by omega, by omega, HZ2⟩
            clear HE HZ HZ2
            go_wp2
            exact bodyPost_ret (v := .agg #[.slice A3 (T.cells.length + 1) k3, .slice (some ⟨gR, 0, none⟩) T.roots.length kR]) (by simp [results, Try.results72, go_sem, z0, z1]) rfl HSF.out
        · have hkp : 0 < k := by omega
          have hl0 : T.cells.length ≤ 0 := by omega
          clear hk0 hk1
          have HS := Go.Lib.hid hS
          have hlen40 := hS.len
          clear hS
          have hr4 : T.roots.length ≤ 4 := by have := HS.out.roots; omega
          have hr4' : 4 ≤ T.roots.length := by have := HS.out.roots; omega
          by_cases hN : N = 0
          · subst hN
            go_wp2_with fail
            refine (odd_zero _ _).mono ?_
            rintro e w' ⟨rfl, hw⟩
            obtain rfl := hw
            obtain ⟨w0_, w1_, -, -⟩ := H.box2 0 rfl
            obtain ⟨y0, y1, y2, y3⟩ := H.box2 3 rfl
            have HZ := (((H.putBox 3 rfl 0 (.slice C T.cells.length kC)).putBox 3 rfl 1 (.slice R T.roots.length kR)).erase 0)
            simp only [List.set_cons_zero, List.set_cons_succ, List.eraseIdx_cons_zero] at HZ
            obtain ⟨z0, z1, -, -⟩ := HZ.box2 2 rfl
            have HZ2 := HZ.erase 2
            simp only [List.eraseIdx_cons_zero, List.eraseIdx_cons_succ] at HZ2
            obtain ⟨z2, -, -, -⟩ := (H.putBox 3 rfl 0 (.slice C T.cells.length kC)).box2 3 rfl
            have HSF : Hid (DrewH lo w0 L i g A n c p (.returned (.agg #[.slice C T.cells.length kC, .slice R T.roots.length kR])) _) := Go.Lib.hid ⟨T, _, rvs, _, _, _, p3, rfl, ⟨by have := HS.out.len; omega, by have := HS.out.roots; omega, HS.out.refs⟩, .inl ⟨rfl, rfl⟩, by omega, by omega, HZ2⟩
            clear H HZ HZ2
            go_wp2
            exact bodyPost_ret (v := .agg #[.slice C T.cells.length kC, .slice R T.roots.length kR]) (by simp [results, Try.results72, go_sem, z0, z1]) rfl HSF.out
          go_wp2_with fail
          refine (odd_own H (i + 4) (set_get hX _) hr (by omega) N (by omega) (by omega)).mono ?_
          rintro e w6 ⟨bo, rfl, H6⟩
          simp only [List.set_cons_succ, List.set_set] at H6
          clear H x0 x1 x2 x3
          obtain ⟨x0, x1, x2, x3⟩ := H6.box2 0 rfl
          cases bo
          · have H := H6
            clear H6
            obtain ⟨w0_, w1_, -, -⟩ := H.box2 0 rfl
            obtain ⟨y0, y1, y2, y3⟩ := H.box2 3 rfl
            have HZ := (((H.putBox 3 rfl 0 (.slice C T.cells.length kC)).putBox 3 rfl 1 (.slice R T.roots.length kR)).erase 0)
            simp only [List.set_cons_zero, List.set_cons_succ, List.eraseIdx_cons_zero] at HZ
            obtain ⟨z0, z1, -, -⟩ := HZ.box2 2 rfl
            have HZ2 := HZ.erase 2
            simp only [List.eraseIdx_cons_zero, List.eraseIdx_cons_succ] at HZ2
            obtain ⟨z2, -, -, -⟩ := (H.putBox 3 rfl 0 (.slice C T.cells.length kC)).box2 3 rfl
            have HSF : Hid (DrewH lo w0 L i g A n c p (.returned (.agg #[.slice C T.cells.length kC, .slice R T.roots.length kR])) _) := Go.Lib.hid ⟨T, _, rvs, _, _, _, (p3 + 1), rfl, ⟨by have := HS.out.len; omega, by have := HS.out.roots; omega, HS.out.refs⟩, .inl ⟨rfl, rfl⟩, by omega, by omega, HZ2⟩
            clear H HZ HZ2
            go_wp2
            exact bodyPost_ret (v := .agg #[.slice C T.cells.length kC, .slice R T.roots.length kR]) (by simp [results, Try.results72, go_sem, z0, z1]) rfl HSF.out
          go_wp2_with fail
          refine (pick_own H6 (i + 4) (set_get hX _) hr (by omega) 5 (by unfold I64; omega)).mono ?_
          rintro e w7 ⟨z, rfl, hz5, H7⟩
          simp only [List.set_cons_succ, List.set_set] at H7
          replace hz5 : (z : Int) < 5 := by omega
          clear H6 x0 x1 x2 x3
          obtain ⟨x0, x1, x2, x3⟩ := H7.box2 0 rfl
          obtain ⟨gR, cR, eR, hc1, hc2, -, -⟩ := H7.rowAt 2 rfl (show 0 < T.roots.length by omega)
          simp only [Value.slice.injEq] at eR
          obtain ⟨rfl, -, rfl⟩ := eR
          have hz : z = 0 ∨ z = 1 ∨ z = 2 ∨ z = 3 ∨ z = 4 := by omega
          clear hz5
          rcases hz with rfl | rfl | rfl | rfl | rfl
          · -- a root less
            have HP := H7.putBox 0 rfl 1 (.slice (some ⟨gR, 1, none⟩) (T.roots.length - 1) (kR - 1))
            simp only [List.set_cons_zero, List.set_cons_succ] at HP
            have f1 : ¬ kR = 1 := by omega
            have f2 : 1 ≤ T.roots.length := by omega
            have f3 : 1 ≤ kR := by omega
            obtain ⟨w0_, w1_, -, -⟩ := HP.box2 0 rfl
            obtain ⟨y0, y1, y2, y3⟩ := HP.box2 3 rfl
            have HZ := (((HP.putBox 3 rfl 0 (.slice C T.cells.length kC)).putBox 3 rfl 1 (.slice (some ⟨gR, 1, none⟩) (T.roots.length - 1) (kR - 1))).erase 0)
            simp only [List.set_cons_zero, List.set_cons_succ, List.eraseIdx_cons_zero] at HZ
            obtain ⟨z0, z1, -, -⟩ := HZ.box2 2 rfl
            have HZ2 := HZ.erase 2
            simp only [List.eraseIdx_cons_zero, List.eraseIdx_cons_succ] at HZ2
            obtain ⟨z2, -, -, -⟩ := (HP.putBox 3 rfl 0 (.slice C T.cells.length kC)).box2 3 rfl
            have HSF : Hid (DrewH lo w0 L i g A n c p (.returned (.agg #[.slice C T.cells.length kC, .slice (some ⟨gR, 1, none⟩) (T.roots.length - 1) (kR - 1)])) _) := Go.Lib.hid ⟨⟨T.cells, T.roots.drop 1⟩, _, rvs, _, _, _, (p3 + 2), rfl, ⟨by have := HS.out.len; show T.cells.length ≤ 41; omega, by show (T.roots.drop 1).length ≤ 4; simp; omega, HS.out.refs⟩, .inr ⟨gR, _, _, rfl, rfl, rfl, by omega⟩, by omega, by omega, HZ2⟩
            clear HP HZ HZ2
            go_wp2
            exact bodyPost_ret (v := .agg #[.slice C T.cells.length kC, .slice (some ⟨gR, 1, none⟩) (T.roots.length - 1) (kR - 1)]) (by simp [results, Try.results72, go_sem, z0, z1]) rfl HSF.out
          · -- a bad root
            go_wp2_with fail
            have HX := H7.drew
            have H0 := Go.Lib.hid H7
            clear H7 x0 x1 x2 x3
            obtain ⟨x0, x1, -, -⟩ := HX.box2 0 rfl
            refine wp_region_tree (fun w' => w'.cell? ⟨w2.heap.size, 0, none⟩ = some (.slice C T.cells.length kC) ∧ w'.cell? ⟨w2.heap.size, 1, none⟩ = some (.slice (some ⟨gR, 0, none⟩) T.roots.length kR)) 13 [9, 11] (.take 0 (.take 1 (.take 2 (.take 4 (.take 5 (.take 6 (.take 8 (.alt 3 (.alt 7 (.alt 9 (.take 10 (.alt 11 (.take 12 (.alt 13 (.done) (.stop))) (.stop))) (.stop)) (.alt 9 (.alt 7 (.take 10 (.alt 11 (.take 12 (.alt 13 (.done) (.stop))) (.stop))) (.stop)) (.stop))) (.alt 7 (.alt 3 (.alt 9 (.take 10 (.alt 11 (.take 12 (.alt 13 (.done) (.stop))) (.stop))) (.stop)) (.stop)) (.stop)))))))))) (by kernel_rfl) (by kernel_rfl) (by kernel_rfl) (⟨x0, x1⟩) ?_
            simp only [fillT, List.getElem?_cons_zero, List.getElem?_cons_succ, Nat.reduceBEq]
            repeat (first
              | (with_reducible refine po_take (v := ?_) ?_ (fun w' hS' => ?_) ?_
                 rotate_left
                 · (go_simp; done)
                 · ((try dsimp only at hS'); go_simp; try with_reducible rfl)
                 simp only [Act.put, List.setIfInBounds_toArray, List.set_cons_zero, List.set_cons_succ])
              | (with_reducible refine po_skip ?_ ?_
                 · (go_simp; done)
                 simp only [Act.put, List.setIfInBounds_toArray, List.set_cons_zero, List.set_cons_succ]))
            with_reducible refine po_run ?_ (fun K hK => ?_) ?_
            · (go_simp; done)
            · -- operation 3 first
              try (revert x0 x1 HX; generalize World.drew _ = wd; intro HX x0 x1)
              go_simp
              refine (pick_own HX (i + 4) (set_get hX _) hr (by omega) 4 (by unfold I64; omega)).mono ?_
              rintro e waj1 ⟨j1, rfl, hj1, HY⟩
              replace hj1 : j1 < 4 := by omega
              have hjr : j1 < T.roots.length := by omega
              have hj1' : (j1 : Int) < 4 := by omega
              simp only [List.set_cons_succ, List.set_set] at HY
              clear HX x0 x1
              have HX := HY
              clear HY
              obtain ⟨x0, x1, -, -⟩ := HX.box2 0 rfl
              refine hK.out _ _ (.inr (⟨x0, x1⟩)) ?_
              clear hK K
              with_reducible refine po_run ?_ (fun K hK => ?_) ?_
              · (go_simp; done)
              · -- operation 7 first
                try (revert x0 x1 HX; generalize World.drew _ = wd; intro HX x0 x1)
                go_simp
                replace HX := HX.litI [-2, (T.cells.length : Int)] (by show 2 ≤ maxLen; unfold maxLen; omega)
                try simp only [List.map_cons, List.map_nil, List.length_cons, List.length_nil, Nat.zero_add, Nat.reduceAdd] at HX
                clear x0 x1
                obtain ⟨x0, x1, -, -⟩ := HX.box2 1 rfl
                refine hK.out _ _ (.inr (⟨x0, x1⟩)) ?_
                clear hK K
                revert x0 x1 HX
                generalize World.alloc _ _ = wz
                intro HX x0 x1
                with_reducible refine po_run ?_ (fun K hK => ?_) ?_
                · (go_simp; done)
                rotate_left
                · exact po_stop
                try (revert x0 x1 HX; generalize World.drew _ = wd; intro HX x0 x1)
                go_simp
                refine (pick_own HX (i + 5) (set_get hX _) hr (by omega) 2 (by unfold I64; omega)).mono ?_
                rintro e waj2 ⟨j2, rfl, hj2, HY⟩
                replace hj2 : j2 < 2 := by omega
                have hj2' : (j2 : Int) < 2 := by omega
                simp only [List.set_cons_succ, List.set_set] at HY
                clear HX x0 x1
                have HX := HY
                clear HY
                obtain ⟨x0, x1, -, -⟩ := HX.box2 1 rfl
                refine hK.out _ _ (.inr (⟨x0, x1⟩)) ?_
                clear hK K
                repeat (first
                  | (with_reducible refine po_take (v := ?_) ?_ (fun w' hS' => ?_) ?_
                     rotate_left
                     · (go_simp; done)
                     · ((try dsimp only at hS'); go_simp; try with_reducible rfl)
                     simp only [Act.put, List.setIfInBounds_toArray, List.set_cons_zero, List.set_cons_succ])
                  | (with_reducible refine po_skip ?_ ?_
                     · (go_simp; done)
                     simp only [Act.put, List.setIfInBounds_toArray, List.set_cons_zero, List.set_cons_succ]))
                with_reducible refine po_run ?_ (fun K hK => ?_) ?_
                · (go_simp; done)
                rotate_left
                · exact po_stop
                obtain ⟨v2, hv2⟩ : ∃ v, ([-2, (T.cells.length : Int)] : List Int)[j2]? = some v := ⟨_, List.getElem?_eq_getElem (by simp; omega)⟩
                obtain ⟨zz, -⟩ := HX.elem 0 rfl (j := j2) (u := .int .i64 v2) (by rw [List.getElem?_map, hv2]; rfl)
                go_simp
                clear zz
                refine hK.out _ _ (.inr (⟨x0, x1⟩)) ?_
                clear hK K
                repeat (first
                  | (with_reducible refine po_take (v := ?_) ?_ (fun w' hS' => ?_) ?_
                     rotate_left
                     · (go_simp; done)
                     · ((try dsimp only at hS'); go_simp; try with_reducible rfl)
                     simp only [Act.put, List.setIfInBounds_toArray, List.set_cons_zero, List.set_cons_succ])
                  | (with_reducible refine po_skip ?_ ?_
                     · (go_simp; done)
                     simp only [Act.put, List.setIfInBounds_toArray, List.set_cons_zero, List.set_cons_succ]))
                with_reducible refine po_run ?_ (fun K hK => ?_) ?_
                · (go_simp; done)
                rotate_left
                · exact po_stop
                obtain ⟨xr, hxr⟩ : ∃ x, Hid (T.roots[j1]? = some x) := ⟨_, Go.Lib.hid (List.getElem?_eq_getElem (by omega))⟩
                obtain ⟨q0, q1⟩ := HX.intAt 3 rfl rfl hxr
                go_simp
                have HQ := HX.setInt 3 rfl rfl j1 v2
                simp only [List.set_cons_zero, List.set_cons_succ] at HQ
                clear HX q0 q1 x0 x1
                refine hK.out _ _ (.inl rfl) ?_
                clear hK K
                refine po_done ?_
                have HE := HQ.erase 0
                simp only [List.eraseIdx_cons_zero] at HE
                clear HQ H0
                obtain ⟨w0_, w1_, -, -⟩ := HE.box2 0 rfl
                obtain ⟨y0, y1, y2, y3⟩ := HE.box2 3 rfl
                have HZ := (((HE.putBox 3 rfl 0 (.slice C T.cells.length kC)).putBox 3 rfl 1 (.slice (some ⟨gR, 0, none⟩) T.roots.length kR)).erase 0)
                simp only [List.set_cons_zero, List.set_cons_succ, List.eraseIdx_cons_zero] at HZ
                obtain ⟨z0, z1, -, -⟩ := HZ.box2 2 rfl
                have HZ2 := HZ.erase 2
                simp only [List.eraseIdx_cons_zero, List.eraseIdx_cons_succ] at HZ2
                obtain ⟨z2, -, -, -⟩ := (HE.putBox 3 rfl 0 (.slice C T.cells.length kC)).box2 3 rfl
                have HSF : Hid (DrewH lo w0 L i g A n c p (.returned (.agg #[.slice C T.cells.length kC, .slice (some ⟨gR, 0, none⟩) T.roots.length kR])) _) := Go.Lib.hid ⟨⟨T.cells, T.roots.set j1 v2⟩, _, rvs, _, _, _, (p3 + 4), rfl, ⟨by have := HS.out.len; show T.cells.length ≤ 41; omega, by show (T.roots.set j1 v2).length ≤ 4; rw [List.length_set]; omega, HS.out.refs⟩, .inl ⟨rfl, rfl⟩, by omega, by omega, HZ2⟩
                clear HE HZ HZ2
                go_wp2
                exact bodyPost_ret (v := .agg #[.slice C T.cells.length kC, .slice (some ⟨gR, 0, none⟩) T.roots.length kR]) (by simp [results, Try.results72, go_sem, z0, z1]) rfl HSF.out
              with_reducible refine po_run ?_ (fun K hK => ?_) ?_
              · (go_simp; done)
              rotate_left
              · exact po_stop
              try (revert x0 x1 HX; generalize World.drew _ = wd; intro HX x0 x1)
              go_simp
              refine (pick_own HX (i + 4) (set_get hX _) hr (by omega) 2 (by unfold I64; omega)).mono ?_
              rintro e waj2 ⟨j2, rfl, hj2, HY⟩
              replace hj2 : j2 < 2 := by omega
              have hj2' : (j2 : Int) < 2 := by omega
              simp only [List.set_cons_succ, List.set_set] at HY
              clear HX x0 x1
              have HX := HY
              clear HY
              obtain ⟨x0, x1, -, -⟩ := HX.box2 0 rfl
              refine hK.out _ _ (.inr (⟨x0, x1⟩)) ?_
              clear hK K
              with_reducible refine po_run ?_ (fun K hK => ?_) ?_
              · (go_simp; done)
              rotate_left
              · exact po_stop
              try (revert x0 x1 HX; generalize World.drew _ = wd; intro HX x0 x1)
              go_simp
              replace HX := HX.litI [-2, (T.cells.length : Int)] (by show 2 ≤ maxLen; unfold maxLen; omega)
              try simp only [List.map_cons, List.map_nil, List.length_cons, List.length_nil, Nat.zero_add, Nat.reduceAdd] at HX
              clear x0 x1
              obtain ⟨x0, x1, -, -⟩ := HX.box2 1 rfl
              refine hK.out _ _ (.inr (⟨x0, x1⟩)) ?_
              clear hK K
              revert x0 x1 HX
              generalize World.alloc _ _ = wz
              intro HX x0 x1
              repeat (first
                | (with_reducible refine po_take (v := ?_) ?_ (fun w' hS' => ?_) ?_
                   rotate_left
                   · (go_simp; done)
                   · ((try dsimp only at hS'); go_simp; try with_reducible rfl)
                   simp only [Act.put, List.setIfInBounds_toArray, List.set_cons_zero, List.set_cons_succ])
                | (with_reducible refine po_skip ?_ ?_
                   · (go_simp; done)
                   simp only [Act.put, List.setIfInBounds_toArray, List.set_cons_zero, List.set_cons_succ]))
              with_reducible refine po_run ?_ (fun K hK => ?_) ?_
              · (go_simp; done)
              rotate_left
              · exact po_stop
              obtain ⟨v2, hv2⟩ : ∃ v, ([-2, (T.cells.length : Int)] : List Int)[j2]? = some v := ⟨_, List.getElem?_eq_getElem (by simp; omega)⟩
              obtain ⟨zz, -⟩ := HX.elem 0 rfl (j := j2) (u := .int .i64 v2) (by rw [List.getElem?_map, hv2]; rfl)
              go_simp
              clear zz
              refine hK.out _ _ (.inr (⟨x0, x1⟩)) ?_
              clear hK K
              repeat (first
                | (with_reducible refine po_take (v := ?_) ?_ (fun w' hS' => ?_) ?_
                   rotate_left
                   · (go_simp; done)
                   · ((try dsimp only at hS'); go_simp; try with_reducible rfl)
                   simp only [Act.put, List.setIfInBounds_toArray, List.set_cons_zero, List.set_cons_succ])
                | (with_reducible refine po_skip ?_ ?_
                   · (go_simp; done)
                   simp only [Act.put, List.setIfInBounds_toArray, List.set_cons_zero, List.set_cons_succ]))
              with_reducible refine po_run ?_ (fun K hK => ?_) ?_
              · (go_simp; done)
              rotate_left
              · exact po_stop
              obtain ⟨xr, hxr⟩ : ∃ x, Hid (T.roots[j1]? = some x) := ⟨_, Go.Lib.hid (List.getElem?_eq_getElem (by omega))⟩
              obtain ⟨q0, q1⟩ := HX.intAt 3 rfl rfl hxr
              go_simp
              have HQ := HX.setInt 3 rfl rfl j1 v2
              simp only [List.set_cons_zero, List.set_cons_succ] at HQ
              clear HX q0 q1 x0 x1
              refine hK.out _ _ (.inl rfl) ?_
              clear hK K
              refine po_done ?_
              have HE := HQ.erase 0
              simp only [List.eraseIdx_cons_zero] at HE
              clear HQ H0
              obtain ⟨w0_, w1_, -, -⟩ := HE.box2 0 rfl
              obtain ⟨y0, y1, y2, y3⟩ := HE.box2 3 rfl
              have HZ := (((HE.putBox 3 rfl 0 (.slice C T.cells.length kC)).putBox 3 rfl 1 (.slice (some ⟨gR, 0, none⟩) T.roots.length kR)).erase 0)
              simp only [List.set_cons_zero, List.set_cons_succ, List.eraseIdx_cons_zero] at HZ
              obtain ⟨z0, z1, -, -⟩ := HZ.box2 2 rfl
              have HZ2 := HZ.erase 2
              simp only [List.eraseIdx_cons_zero, List.eraseIdx_cons_succ] at HZ2
              obtain ⟨z2, -, -, -⟩ := (HE.putBox 3 rfl 0 (.slice C T.cells.length kC)).box2 3 rfl
              have HSF : Hid (DrewH lo w0 L i g A n c p (.returned (.agg #[.slice C T.cells.length kC, .slice (some ⟨gR, 0, none⟩) T.roots.length kR])) _) := Go.Lib.hid ⟨⟨T.cells, T.roots.set j1 v2⟩, _, rvs, _, _, _, (p3 + 4), rfl, ⟨by have := HS.out.len; show T.cells.length ≤ 41; omega, by show (T.roots.set j1 v2).length ≤ 4; rw [List.length_set]; omega, HS.out.refs⟩, .inl ⟨rfl, rfl⟩, by omega, by omega, HZ2⟩
              clear HE HZ HZ2
              go_wp2
              exact bodyPost_ret (v := .agg #[.slice C T.cells.length kC, .slice (some ⟨gR, 0, none⟩) T.roots.length kR]) (by simp [results, Try.results72, go_sem, z0, z1]) rfl HSF.out
            with_reducible refine po_run ?_ (fun K hK => ?_) ?_
            · (go_simp; done)
            rotate_left
            · exact po_stop
            try (revert x0 x1 HX; generalize World.drew _ = wd; intro HX x0 x1)
            go_simp
            replace HX := HX.litI [-2, (T.cells.length : Int)] (by show 2 ≤ maxLen; unfold maxLen; omega)
            try simp only [List.map_cons, List.map_nil, List.length_cons, List.length_nil, Nat.zero_add, Nat.reduceAdd] at HX
            clear x0 x1
            obtain ⟨x0, x1, -, -⟩ := HX.box2 1 rfl
            refine hK.out _ _ (.inr (⟨x0, x1⟩)) ?_
            clear hK K
            revert x0 x1 HX
            generalize World.alloc _ _ = wz
            intro HX x0 x1
            with_reducible refine po_run ?_ (fun K hK => ?_) ?_
            · (go_simp; done)
            rotate_left
            · exact po_stop
            try (revert x0 x1 HX; generalize World.drew _ = wd; intro HX x0 x1)
            go_simp
            refine (pick_own HX (i + 5) (set_get hX _) hr (by omega) 4 (by unfold I64; omega)).mono ?_
            rintro e waj1 ⟨j1, rfl, hj1, HY⟩
            replace hj1 : j1 < 4 := by omega
            have hjr : j1 < T.roots.length := by omega
            have hj1' : (j1 : Int) < 4 := by omega
            simp only [List.set_cons_succ, List.set_set] at HY
            clear HX x0 x1
            have HX := HY
            clear HY
            obtain ⟨x0, x1, -, -⟩ := HX.box2 1 rfl
            refine hK.out _ _ (.inr (⟨x0, x1⟩)) ?_
            clear hK K
            with_reducible refine po_run ?_ (fun K hK => ?_) ?_
            · (go_simp; done)
            rotate_left
            · exact po_stop
            try (revert x0 x1 HX; generalize World.drew _ = wd; intro HX x0 x1)
            go_simp
            refine (pick_own HX (i + 5) (set_get hX _) hr (by omega) 2 (by unfold I64; omega)).mono ?_
            rintro e waj2 ⟨j2, rfl, hj2, HY⟩
            replace hj2 : j2 < 2 := by omega
            have hj2' : (j2 : Int) < 2 := by omega
            simp only [List.set_cons_succ, List.set_set] at HY
            clear HX x0 x1
            have HX := HY
            clear HY
            obtain ⟨x0, x1, -, -⟩ := HX.box2 1 rfl
            refine hK.out _ _ (.inr (⟨x0, x1⟩)) ?_
            clear hK K
            repeat (first
              | (with_reducible refine po_take (v := ?_) ?_ (fun w' hS' => ?_) ?_
                 rotate_left
                 · (go_simp; done)
                 · ((try dsimp only at hS'); go_simp; try with_reducible rfl)
                 simp only [Act.put, List.setIfInBounds_toArray, List.set_cons_zero, List.set_cons_succ])
              | (with_reducible refine po_skip ?_ ?_
                 · (go_simp; done)
                 simp only [Act.put, List.setIfInBounds_toArray, List.set_cons_zero, List.set_cons_succ]))
            with_reducible refine po_run ?_ (fun K hK => ?_) ?_
            · (go_simp; done)
            rotate_left
            · exact po_stop
            obtain ⟨v2, hv2⟩ : ∃ v, ([-2, (T.cells.length : Int)] : List Int)[j2]? = some v := ⟨_, List.getElem?_eq_getElem (by simp; omega)⟩
            obtain ⟨zz, -⟩ := HX.elem 0 rfl (j := j2) (u := .int .i64 v2) (by rw [List.getElem?_map, hv2]; rfl)
            go_simp
            clear zz
            refine hK.out _ _ (.inr (⟨x0, x1⟩)) ?_
            clear hK K
            repeat (first
              | (with_reducible refine po_take (v := ?_) ?_ (fun w' hS' => ?_) ?_
                 rotate_left
                 · (go_simp; done)
                 · ((try dsimp only at hS'); go_simp; try with_reducible rfl)
                 simp only [Act.put, List.setIfInBounds_toArray, List.set_cons_zero, List.set_cons_succ])
              | (with_reducible refine po_skip ?_ ?_
                 · (go_simp; done)
                 simp only [Act.put, List.setIfInBounds_toArray, List.set_cons_zero, List.set_cons_succ]))
            with_reducible refine po_run ?_ (fun K hK => ?_) ?_
            · (go_simp; done)
            rotate_left
            · exact po_stop
            obtain ⟨xr, hxr⟩ : ∃ x, Hid (T.roots[j1]? = some x) := ⟨_, Go.Lib.hid (List.getElem?_eq_getElem (by omega))⟩
            obtain ⟨q0, q1⟩ := HX.intAt 3 rfl rfl hxr
            go_simp
            have HQ := HX.setInt 3 rfl rfl j1 v2
            simp only [List.set_cons_zero, List.set_cons_succ] at HQ
            clear HX q0 q1 x0 x1
            refine hK.out _ _ (.inl rfl) ?_
            clear hK K
            refine po_done ?_
            have HE := HQ.erase 0
            simp only [List.eraseIdx_cons_zero] at HE
            clear HQ H0
            obtain ⟨w0_, w1_, -, -⟩ := HE.box2 0 rfl
            obtain ⟨y0, y1, y2, y3⟩ := HE.box2 3 rfl
            have HZ := (((HE.putBox 3 rfl 0 (.slice C T.cells.length kC)).putBox 3 rfl 1 (.slice (some ⟨gR, 0, none⟩) T.roots.length kR)).erase 0)
            simp only [List.set_cons_zero, List.set_cons_succ, List.eraseIdx_cons_zero] at HZ
            obtain ⟨z0, z1, -, -⟩ := HZ.box2 2 rfl
            have HZ2 := HZ.erase 2
            simp only [List.eraseIdx_cons_zero, List.eraseIdx_cons_succ] at HZ2
            obtain ⟨z2, -, -, -⟩ := (HE.putBox 3 rfl 0 (.slice C T.cells.length kC)).box2 3 rfl
            have HSF : Hid (DrewH lo w0 L i g A n c p (.returned (.agg #[.slice C T.cells.length kC, .slice (some ⟨gR, 0, none⟩) T.roots.length kR])) _) := Go.Lib.hid ⟨⟨T.cells, T.roots.set j1 v2⟩, _, rvs, _, _, _, (p3 + 4), rfl, ⟨by have := HS.out.len; show T.cells.length ≤ 41; omega, by show (T.roots.set j1 v2).length ≤ 4; rw [List.length_set]; omega, HS.out.refs⟩, .inl ⟨rfl, rfl⟩, by omega, by omega, HZ2⟩
            clear HE HZ HZ2
            go_wp2
            exact bodyPost_ret (v := .agg #[.slice C T.cells.length kC, .slice (some ⟨gR, 0, none⟩) T.roots.length kR]) (by simp [results, Try.results72, go_sem, z0, z1]) rfl HSF.out
          · -- a cell that is not used
            have H8 := H7.noInts.alloc (.cells #[.bool false, .int .i64 5, .slice none 0 0] 40)
            go_wp2_with (at_builtin; go_loud (refine wpList_pushCO rfl (.tmp 123) (.tmp 125) rfl H8 2 0 (c := ⟨false, 5, []⟩) (rv := .slice none 0 0) rfl rfl rfl rfl rfl (heap1 _ _) (by omega) ?_; intro A3 k3 w9 H9; simp only [List.set_cons_zero, List.set_cons_succ, List.eraseIdx_cons_zero, List.length_append, List.length_cons, List.length_nil, Nat.zero_add] at H9; obtain ⟨e0, e1, e2, e3⟩ := H9.box2 0 rfl; have HB := H9.putBox 0 rfl 0 (.slice A3 (T.cells.length + 1) k3); simp only [List.set_cons_zero] at HB; obtain ⟨w0_, w1_, -, -⟩ := HB.box2 0 rfl; obtain ⟨y0, y1, y2, y3⟩ := HB.box2 3 rfl; have HZ := (((HB.putBox 3 rfl 0 (.slice A3 (T.cells.length + 1) k3)).putBox 3 rfl 1 (.slice (some ⟨gR, 0, none⟩) T.roots.length kR)).erase 0); simp only [List.set_cons_zero, List.set_cons_succ, List.eraseIdx_cons_zero] at HZ; obtain ⟨z0, z1, -, -⟩ := HZ.box2 2 rfl; have HZ2 := HZ.erase 2; simp only [List.eraseIdx_cons_zero, List.eraseIdx_cons_succ] at HZ2; obtain ⟨z2, -, -, -⟩ := (HB.putBox 3 rfl 0 (.slice A3 (T.cells.length + 1) k3)).box2 3 rfl; have HSF : Hid (DrewH lo w0 L i g A n c p (.returned (.agg #[.slice A3 (T.cells.length + 1) k3, .slice (some ⟨gR, 0, none⟩) T.roots.length kR])) _) := Go.Lib.hid ⟨⟨T.cells ++ [⟨false, 5, []⟩], T.roots⟩, _, _, _, _, _, (p3 + 2), rfl, ⟨by have := HS.out.len; show (T.cells ++ [_]).length ≤ 41; simp; omega, hr4, fun q hq => (List.mem_append.1 hq).elim (HS.out.refs q) (fun hq => by rw [List.mem_singleton.1 hq]; simp)⟩, .inl ⟨rfl, rfl⟩, by omega, by omega, HZ2⟩))
            exact bodyPost_ret (v := .agg #[.slice A3 (T.cells.length + 1) k3, .slice (some ⟨gR, 0, none⟩) T.roots.length kR]) (by simp [results, Try.results72, go_sem, z0, z1]) rfl HSF.out
          · -- a reference too far
            have H8 := (H7.litI [(T.cells.length : Int) + 1] one_le_maxLen).alloc (.cells #[.bool true, .int .i64 0, .slice (some ⟨w7.heap.size, 0, none⟩) 1 1] 40)
            simp only [List.map_cons, List.map_nil, List.length_cons, List.length_nil, Nat.zero_add] at H8
            go_wp2_with (at_builtin; go_loud (refine wpList_pushCO rfl (.tmp 131) (.tmp 138) rfl H8 2 0 (c := ⟨true, 0, [(T.cells.length : Int) + 1]⟩) (rv := .slice (some ⟨w7.heap.size, 0, none⟩) 1 1) rfl rfl rfl rfl rfl (heap2 w7 _ _).2 (by omega) ?_; intro A3 k3 w9 H9; simp only [List.set_cons_zero, List.set_cons_succ, List.eraseIdx_cons_zero, List.length_append, List.length_cons, List.length_nil, Nat.zero_add] at H9; obtain ⟨e0, e1, e2, e3⟩ := H9.box2 0 rfl; have HB := H9.putBox 0 rfl 0 (.slice A3 (T.cells.length + 1) k3); simp only [List.set_cons_zero] at HB; obtain ⟨w0_, w1_, -, -⟩ := HB.box2 0 rfl; obtain ⟨y0, y1, y2, y3⟩ := HB.box2 3 rfl; have HZ := (((HB.putBox 3 rfl 0 (.slice A3 (T.cells.length + 1) k3)).putBox 3 rfl 1 (.slice (some ⟨gR, 0, none⟩) T.roots.length kR)).erase 0); simp only [List.set_cons_zero, List.set_cons_succ, List.eraseIdx_cons_zero] at HZ; obtain ⟨z0, z1, -, -⟩ := HZ.box2 2 rfl; have HZ2 := HZ.erase 2; simp only [List.eraseIdx_cons_zero, List.eraseIdx_cons_succ] at HZ2; obtain ⟨z2, -, -, -⟩ := (HB.putBox 3 rfl 0 (.slice A3 (T.cells.length + 1) k3)).box2 3 rfl; have HSF : Hid (DrewH lo w0 L i g A n c p (.returned (.agg #[.slice A3 (T.cells.length + 1) k3, .slice (some ⟨gR, 0, none⟩) T.roots.length kR])) _) := Go.Lib.hid ⟨⟨T.cells ++ [⟨true, 0, [(T.cells.length : Int) + 1]⟩], T.roots⟩, _, _, _, _, _, (p3 + 2), rfl, ⟨by have := HS.out.len; show (T.cells ++ [_]).length ≤ 41; simp; omega, hr4, fun q hq => (List.mem_append.1 hq).elim (HS.out.refs q) (fun hq => by rw [List.mem_singleton.1 hq]; simp)⟩, .inl ⟨rfl, rfl⟩, by omega, by omega, HZ2⟩))
            exact bodyPost_ret (v := .agg #[.slice A3 (T.cells.length + 1) k3, .slice (some ⟨gR, 0, none⟩) T.roots.length kR]) (by simp [results, Try.results72, go_sem, z0, z1]) rfl HSF.out
          · -- a bad number
            go_wp2_with fail
            have HX := H7.drew
            have H0 := Go.Lib.hid H7
            clear H7 x0 x1 x2 x3
            obtain ⟨x0, x1, -, -⟩ := HX.box2 0 rfl
            refine wp_region_tree (fun w' => w'.cell? ⟨w2.heap.size, 0, none⟩ = some (.slice C T.cells.length kC) ∧ w'.cell? ⟨w2.heap.size, 1, none⟩ = some (.slice (some ⟨gR, 0, none⟩) T.roots.length kR)) 11 [6] (.take 0 (.take 1 (.take 3 (.alt 2 (.alt 4 (.take 5 (.alt 6 (.take 7 (.alt 8 (.alt 9 (.take 10 (.alt 11 (.done) (.stop))) (.stop)) (.stop))) (.stop))) (.stop)) (.alt 4 (.alt 2 (.take 5 (.alt 6 (.take 7 (.alt 8 (.alt 9 (.take 10 (.alt 11 (.done) (.stop))) (.stop)) (.stop))) (.stop))) (.stop)) (.stop)))))) (by kernel_rfl) (by kernel_rfl) (by kernel_rfl) (⟨x0, x1⟩) ?_
            simp only [fillT, List.getElem?_cons_zero, List.getElem?_cons_succ, Nat.reduceBEq]
            repeat (first
              | (with_reducible refine po_take (v := ?_) ?_ (fun w' hS' => ?_) ?_
                 rotate_left
                 · (go_simp; done)
                 · ((try dsimp only at hS'); go_simp; try with_reducible rfl)
                 simp only [Act.put, List.setIfInBounds_toArray, List.set_cons_zero, List.set_cons_succ])
              | (with_reducible refine po_skip ?_ ?_
                 · (go_simp; done)
                 simp only [Act.put, List.setIfInBounds_toArray, List.set_cons_zero, List.set_cons_succ]))
            with_reducible refine po_run ?_ (fun K hK => ?_) ?_
            · (go_simp; done)
            · -- operation 2 first
              try (revert x0 x1 HX; generalize World.drew _ = wd; intro HX x0 x1)
              go_simp
              replace HX := HX.litI [-1, 100] (by show 2 ≤ maxLen; unfold maxLen; omega)
              try simp only [List.map_cons, List.map_nil, List.length_cons, List.length_nil, Nat.zero_add, Nat.reduceAdd] at HX
              clear x0 x1
              obtain ⟨x0, x1, -, -⟩ := HX.box2 1 rfl
              refine hK.out _ _ (.inr (⟨x0, x1⟩)) ?_
              clear hK K
              revert x0 x1 HX
              generalize World.alloc _ _ = wz
              intro HX x0 x1
              with_reducible refine po_run ?_ (fun K hK => ?_) ?_
              · (go_simp; done)
              rotate_left
              · exact po_stop
              try (revert x0 x1 HX; generalize World.drew _ = wd; intro HX x0 x1)
              go_simp
              refine (pick_own HX (i + 5) (set_get hX _) hr (by omega) 2 (by unfold I64; omega)).mono ?_
              rintro e waj2 ⟨j2, rfl, hj2, HY⟩
              replace hj2 : j2 < 2 := by omega
              have hj2' : (j2 : Int) < 2 := by omega
              simp only [List.set_cons_succ, List.set_set] at HY
              clear HX x0 x1
              have HX := HY
              clear HY
              obtain ⟨x0, x1, -, -⟩ := HX.box2 1 rfl
              refine hK.out _ _ (.inr (⟨x0, x1⟩)) ?_
              clear hK K
              repeat (first
                | (with_reducible refine po_take (v := ?_) ?_ (fun w' hS' => ?_) ?_
                   rotate_left
                   · (go_simp; done)
                   · ((try dsimp only at hS'); go_simp; try with_reducible rfl)
                   simp only [Act.put, List.setIfInBounds_toArray, List.set_cons_zero, List.set_cons_succ])
                | (with_reducible refine po_skip ?_ ?_
                   · (go_simp; done)
                   simp only [Act.put, List.setIfInBounds_toArray, List.set_cons_zero, List.set_cons_succ]))
              with_reducible refine po_run ?_ (fun K hK => ?_) ?_
              · (go_simp; done)
              rotate_left
              · exact po_stop
              obtain ⟨v2, hv2⟩ : ∃ v, ([-1, 100] : List Int)[j2]? = some v := ⟨_, List.getElem?_eq_getElem (by simp; omega)⟩
              obtain ⟨zz, -⟩ := HX.elem 0 rfl (j := j2) (u := .int .i64 v2) (by rw [List.getElem?_map, hv2]; rfl)
              go_simp
              clear zz
              refine hK.out _ _ (.inr (⟨x0, x1⟩)) ?_
              clear hK K
              repeat (first
                | (with_reducible refine po_take (v := ?_) ?_ (fun w' hS' => ?_) ?_
                   rotate_left
                   · (go_simp; done)
                   · ((try dsimp only at hS'); go_simp; try with_reducible rfl)
                   simp only [Act.put, List.setIfInBounds_toArray, List.set_cons_zero, List.set_cons_succ])
                | (with_reducible refine po_skip ?_ ?_
                   · (go_simp; done)
                   simp only [Act.put, List.setIfInBounds_toArray, List.set_cons_zero, List.set_cons_succ]))
              with_reducible refine po_run ?_ (fun K hK => ?_) ?_
              · (go_simp; done)
              rotate_left
              · exact po_stop
              try (revert x0 x1 HX; generalize World.drew _ = wd; intro HX x0 x1)
              go_simp
              replace HX := HX.box [.bool true, .int .i64 v2, .slice none 0 0] 40
              try simp only [World.size_alloc, drew_size, List.map_cons, List.map_nil, List.length_cons, List.length_nil, Nat.zero_add, Nat.reduceAdd] at HX
              clear x0 x1
              obtain ⟨x0, x1, -, -⟩ := HX.box2 2 rfl
              refine hK.out _ _ (.inr (⟨x0, x1⟩)) ?_
              clear hK K
              revert x0 x1 HX
              generalize World.alloc _ _ = wz
              intro HX x0 x1
              with_reducible refine po_run ?_ (fun K hK => ?_) ?_
              · (go_simp; done)
              rotate_left
              · exact po_stop
              have HN := HX.noInts
              refine wp_pushCO (.tmp 89) (.tmp 96) rfl HN 4 0 (c := ⟨true, v2, []⟩) (rv := .slice none 0 0) rfl rfl rfl rfl rfl (HX.holds 0 _ rfl).2 (by omega) ?_
              intro A3 k3 w9 HY
              simp only [List.set_cons_zero, List.set_cons_succ, List.eraseIdx_cons_zero, List.length_append, List.length_cons, List.length_nil, Nat.zero_add] at HY
              clear HX HN x0 x1
              have HX := HY
              clear HY
              obtain ⟨x0, x1, -, -⟩ := HX.box2 2 rfl
              refine hK.out _ _ (.inr (⟨x0, x1⟩)) ?_
              clear hK K
              repeat (first
                | (with_reducible refine po_take (v := ?_) ?_ (fun w' hS' => ?_) ?_
                   rotate_left
                   · (go_simp; done)
                   · ((try dsimp only at hS'); go_simp; try with_reducible rfl)
                   simp only [Act.put, List.setIfInBounds_toArray, List.set_cons_zero, List.set_cons_succ])
                | (with_reducible refine po_skip ?_ ?_
                   · (go_simp; done)
                   simp only [Act.put, List.setIfInBounds_toArray, List.set_cons_zero, List.set_cons_succ]))
              with_reducible refine po_run ?_ (fun K hK => ?_) ?_
              · (go_simp; done)
              rotate_left
              · exact po_stop
              obtain ⟨-, -, x2, x3⟩ := HX.box2 2 rfl
              go_simp
              have HQ := HX.putBox 2 rfl 0 (.slice A3 (T.cells.length + 1) k3)
              simp only [List.set_cons_zero, List.set_cons_succ] at HQ
              clear HX x0 x1 x2 x3
              refine hK.out _ _ (.inl rfl) ?_
              clear hK K
              refine po_done ?_
              have HE := (HQ.erase 0).erase 0
              simp only [List.eraseIdx_cons_zero] at HE
              clear HQ H0
              obtain ⟨w0_, w1_, -, -⟩ := HE.box2 0 rfl
              obtain ⟨y0, y1, y2, y3⟩ := HE.box2 3 rfl
              have HZ := (((HE.putBox 3 rfl 0 (.slice A3 (T.cells.length + 1) k3)).putBox 3 rfl 1 (.slice (some ⟨gR, 0, none⟩) T.roots.length kR)).erase 0)
              simp only [List.set_cons_zero, List.set_cons_succ, List.eraseIdx_cons_zero] at HZ
              obtain ⟨z0, z1, -, -⟩ := HZ.box2 2 rfl
              have HZ2 := HZ.erase 2
              simp only [List.eraseIdx_cons_zero, List.eraseIdx_cons_succ] at HZ2
              obtain ⟨z2, -, -, -⟩ := (HE.putBox 3 rfl 0 (.slice A3 (T.cells.length + 1) k3)).box2 3 rfl
              have HSF : Hid (DrewH lo w0 L i g A n c p (.returned (.agg #[.slice A3 (T.cells.length + 1) k3, .slice (some ⟨gR, 0, none⟩) T.roots.length kR])) _) := Go.Lib.hid ⟨⟨T.cells ++ [⟨true, v2, []⟩], T.roots⟩, _, _, _, _, _, (p3 + 3), rfl, ⟨by have := HS.out.len; show (T.cells ++ [_]).length ≤ 41; simp; omega, hr4, fun q hq => (List.mem_append.1 hq).elim (HS.out.refs q) (fun hq => by rw [List.mem_singleton.1 hq]; simp)⟩, .inl ⟨rfl, rfl⟩, by omega, by omega, HZ2⟩
              clear HE HZ HZ2
              go_wp2
              exact bodyPost_ret (v := .agg #[.slice A3 (T.cells.length + 1) k3, .slice (some ⟨gR, 0, none⟩) T.roots.length kR]) (by simp [results, Try.results72, go_sem, z0, z1]) rfl HSF.out
            with_reducible refine po_run ?_ (fun K hK => ?_) ?_
            · (go_simp; done)
            rotate_left
            · exact po_stop
            try (revert x0 x1 HX; generalize World.drew _ = wd; intro HX x0 x1)
            go_simp
            refine (pick_own HX (i + 4) (set_get hX _) hr (by omega) 2 (by unfold I64; omega)).mono ?_
            rintro e waj2 ⟨j2, rfl, hj2, HY⟩
            replace hj2 : j2 < 2 := by omega
            have hj2' : (j2 : Int) < 2 := by omega
            simp only [List.set_cons_succ, List.set_set] at HY
            clear HX x0 x1
            have HX := HY
            clear HY
            obtain ⟨x0, x1, -, -⟩ := HX.box2 0 rfl
            refine hK.out _ _ (.inr (⟨x0, x1⟩)) ?_
            clear hK K
            with_reducible refine po_run ?_ (fun K hK => ?_) ?_
            · (go_simp; done)
            rotate_left
            · exact po_stop
            try (revert x0 x1 HX; generalize World.drew _ = wd; intro HX x0 x1)
            go_simp
            replace HX := HX.litI [-1, 100] (by show 2 ≤ maxLen; unfold maxLen; omega)
            try simp only [List.map_cons, List.map_nil, List.length_cons, List.length_nil, Nat.zero_add, Nat.reduceAdd] at HX
            clear x0 x1
            obtain ⟨x0, x1, -, -⟩ := HX.box2 1 rfl
            refine hK.out _ _ (.inr (⟨x0, x1⟩)) ?_
            clear hK K
            revert x0 x1 HX
            generalize World.alloc _ _ = wz
            intro HX x0 x1
            repeat (first
              | (with_reducible refine po_take (v := ?_) ?_ (fun w' hS' => ?_) ?_
                 rotate_left
                 · (go_simp; done)
                 · ((try dsimp only at hS'); go_simp; try with_reducible rfl)
                 simp only [Act.put, List.setIfInBounds_toArray, List.set_cons_zero, List.set_cons_succ])
              | (with_reducible refine po_skip ?_ ?_
                 · (go_simp; done)
                 simp only [Act.put, List.setIfInBounds_toArray, List.set_cons_zero, List.set_cons_succ]))
            with_reducible refine po_run ?_ (fun K hK => ?_) ?_
            · (go_simp; done)
            rotate_left
            · exact po_stop
            obtain ⟨v2, hv2⟩ : ∃ v, ([-1, 100] : List Int)[j2]? = some v := ⟨_, List.getElem?_eq_getElem (by simp; omega)⟩
            obtain ⟨zz, -⟩ := HX.elem 0 rfl (j := j2) (u := .int .i64 v2) (by rw [List.getElem?_map, hv2]; rfl)
            go_simp
            clear zz
            refine hK.out _ _ (.inr (⟨x0, x1⟩)) ?_
            clear hK K
            repeat (first
              | (with_reducible refine po_take (v := ?_) ?_ (fun w' hS' => ?_) ?_
                 rotate_left
                 · (go_simp; done)
                 · ((try dsimp only at hS'); go_simp; try with_reducible rfl)
                 simp only [Act.put, List.setIfInBounds_toArray, List.set_cons_zero, List.set_cons_succ])
              | (with_reducible refine po_skip ?_ ?_
                 · (go_simp; done)
                 simp only [Act.put, List.setIfInBounds_toArray, List.set_cons_zero, List.set_cons_succ]))
            with_reducible refine po_run ?_ (fun K hK => ?_) ?_
            · (go_simp; done)
            rotate_left
            · exact po_stop
            try (revert x0 x1 HX; generalize World.drew _ = wd; intro HX x0 x1)
            go_simp
            replace HX := HX.box [.bool true, .int .i64 v2, .slice none 0 0] 40
            try simp only [World.size_alloc, drew_size, List.map_cons, List.map_nil, List.length_cons, List.length_nil, Nat.zero_add, Nat.reduceAdd] at HX
            clear x0 x1
            obtain ⟨x0, x1, -, -⟩ := HX.box2 2 rfl
            refine hK.out _ _ (.inr (⟨x0, x1⟩)) ?_
            clear hK K
            revert x0 x1 HX
            generalize World.alloc _ _ = wz
            intro HX x0 x1
            with_reducible refine po_run ?_ (fun K hK => ?_) ?_
            · (go_simp; done)
            rotate_left
            · exact po_stop
            have HN := HX.noInts
            refine wp_pushCO (.tmp 89) (.tmp 96) rfl HN 4 0 (c := ⟨true, v2, []⟩) (rv := .slice none 0 0) rfl rfl rfl rfl rfl (HX.holds 0 _ rfl).2 (by omega) ?_
            intro A3 k3 w9 HY
            simp only [List.set_cons_zero, List.set_cons_succ, List.eraseIdx_cons_zero, List.length_append, List.length_cons, List.length_nil, Nat.zero_add] at HY
            clear HX HN x0 x1
            have HX := HY
            clear HY
            obtain ⟨x0, x1, -, -⟩ := HX.box2 2 rfl
            refine hK.out _ _ (.inr (⟨x0, x1⟩)) ?_
            clear hK K
            repeat (first
              | (with_reducible refine po_take (v := ?_) ?_ (fun w' hS' => ?_) ?_
                 rotate_left
                 · (go_simp; done)
                 · ((try dsimp only at hS'); go_simp; try with_reducible rfl)
                 simp only [Act.put, List.setIfInBounds_toArray, List.set_cons_zero, List.set_cons_succ])
              | (with_reducible refine po_skip ?_ ?_
                 · (go_simp; done)
                 simp only [Act.put, List.setIfInBounds_toArray, List.set_cons_zero, List.set_cons_succ]))
            with_reducible refine po_run ?_ (fun K hK => ?_) ?_
            · (go_simp; done)
            rotate_left
            · exact po_stop
            obtain ⟨-, -, x2, x3⟩ := HX.box2 2 rfl
            go_simp
            have HQ := HX.putBox 2 rfl 0 (.slice A3 (T.cells.length + 1) k3)
            simp only [List.set_cons_zero, List.set_cons_succ] at HQ
            clear HX x0 x1 x2 x3
            refine hK.out _ _ (.inl rfl) ?_
            clear hK K
            refine po_done ?_
            have HE := (HQ.erase 0).erase 0
            simp only [List.eraseIdx_cons_zero] at HE
            clear HQ H0
            obtain ⟨w0_, w1_, -, -⟩ := HE.box2 0 rfl
            obtain ⟨y0, y1, y2, y3⟩ := HE.box2 3 rfl
            have HZ := (((HE.putBox 3 rfl 0 (.slice A3 (T.cells.length + 1) k3)).putBox 3 rfl 1 (.slice (some ⟨gR, 0, none⟩) T.roots.length kR)).erase 0)
            simp only [List.set_cons_zero, List.set_cons_succ, List.eraseIdx_cons_zero] at HZ
            obtain ⟨z0, z1, -, -⟩ := HZ.box2 2 rfl
            have HZ2 := HZ.erase 2
            simp only [List.eraseIdx_cons_zero, List.eraseIdx_cons_succ] at HZ2
            obtain ⟨z2, -, -, -⟩ := (HE.putBox 3 rfl 0 (.slice A3 (T.cells.length + 1) k3)).box2 3 rfl
            have HSF : Hid (DrewH lo w0 L i g A n c p (.returned (.agg #[.slice A3 (T.cells.length + 1) k3, .slice (some ⟨gR, 0, none⟩) T.roots.length kR])) _) := Go.Lib.hid ⟨⟨T.cells ++ [⟨true, v2, []⟩], T.roots⟩, _, _, _, _, _, (p3 + 3), rfl, ⟨by have := HS.out.len; show (T.cells ++ [_]).length ≤ 41; simp; omega, hr4, fun q hq => (List.mem_append.1 hq).elim (HS.out.refs q) (fun hq => by rw [List.mem_singleton.1 hq]; simp)⟩, .inl ⟨rfl, rfl⟩, by omega, by omega, HZ2⟩
            clear HE HZ HZ2
            go_wp2
            exact bodyPost_ret (v := .agg #[.slice A3 (T.cells.length + 1) k3, .slice (some ⟨gR, 0, none⟩) T.roots.length kR]) (by simp [results, Try.results72, go_sem, z0, z1]) rfl HSF.out
      · obtain ⟨k', rfl⟩ : ∃ k', k = k' + 1 := ⟨k - 1, by omega⟩
        have hl0 : 0 < T.cells.length := by omega
        have HS := Go.Lib.hid hS
        clear hk0 hS
        go_wp2_with fail
        refine (pick_own H (i + 4) (set_get hX _) hr (by omega) (T.cells.length : Int) (by unfold I64; omega)).mono ?_
        rintro e w6 ⟨at_, rfl, hat, H6⟩
        simp only [List.set_cons_succ, List.set_set] at H6
        replace hat : at_ < T.cells.length := by omega
        clear H x0 x1 x2 x3
        obtain ⟨x0, x1, x2, x3⟩ := H6.box2 0 rfl
        go_wp2_with fail
        refine (pick_own H6 (i + 4) (set_get hX _) hr (by omega) (T.cells.length : Int) (by unfold I64; omega)).mono ?_
        rintro e w7 ⟨tt_, rfl, hto, H7⟩
        simp only [List.set_cons_succ, List.set_set] at H7
        replace hto : tt_ < T.cells.length := by omega
        clear H6 x0 x1 x2 x3
        obtain ⟨x0, x1, x2, x3⟩ := H7.box2 0 rfl
        obtain ⟨l1, hl1⟩ : ∃ l, Hid (T.cells[at_]? = some l) := ⟨_, Go.Lib.hid (List.getElem?_eq_getElem hat)⟩
        obtain ⟨l2, hl2⟩ : ∃ l, Hid (T.cells[tt_]? = some l) := ⟨_, Go.Lib.hid (List.getElem?_eq_getElem hto)⟩
        obtain ⟨gC, cC, A1, c1, eC, hrv, u1, -, u2, -, -, -, hc1, hc2⟩ := H7.cellW 1 rfl hl1
        simp only [Value.slice.injEq] at eC
        obtain ⟨rfl, -, rfl⟩ := eC
        obtain ⟨gC', cC', A2, c2, eC, -, u3, -, -, -, -, -, -, -⟩ := H7.cellW 1 rfl hl2
        simp only [Value.slice.injEq, Option.some.injEq, Addr.mk.injEq, and_true, true_and] at eC
        obtain ⟨rfl, rfl⟩ := eC
        cases hu1 : l1.used
        · rw [hu1] at u1
          clear hu1
          go_wp2_with fail
          go_roundw
          case rel => exact ⟨k', _, R, _, kR, _, _, p3 + 2, by go_num, by omega, HS.out, by omega, by omega, H7⟩
          case measure => simp [intOf]
        rw [hu1] at u1
        cases hu2 : l2.used
        · rw [hu2] at u3
          clear hu2 hu1
          go_wp2_with fail
          go_roundw
          case rel => exact ⟨k', _, R, _, kR, _, _, p3 + 2, by go_num, by omega, HS.out, by omega, by omega, H7⟩
          case measure => simp [intOf]
        rw [hu2] at u3
        by_cases hrl : l1.refs.length = 0
        · have e1 : decide (0 < l1.refs.length) = false := by simp [hrl]
          rw [hrl] at u2 e1
          clear hrl hu1 hu2
          go_wp2_with fail
          go_roundw
          case rel => exact ⟨k', _, R, _, kR, _, _, p3 + 2, by go_num, by omega, HS.out, by omega, by omega, H7⟩
          case measure => simp [intOf]
        have hrp : 0 < l1.refs.length := by omega
        have hr3 : l1.refs.length ≤ 3 := HS.out.refs l1 (List.mem_of_getElem? hl1.out)
        obtain ⟨gF, rfl, -, -⟩ := H7.refAt 1 rfl hrv hl1 (Go.Lib.hid (List.getElem?_eq_getElem hrp))
        clear hrl hu1 hu2
        go_wp2_with fail
        have HX := H7.drew
        have H0 := Go.Lib.hid H7
        clear H7 x0 x1 x2 x3 u1 u2 u3
        obtain ⟨x0, x1, -, -⟩ := HX.box2 0 rfl
        obtain ⟨gC', cC', A1', c1', eC, hrv', -, -, u2, -, -, -, -, -⟩ := HX.cellW 1 rfl hl1
        simp only [Value.slice.injEq, Option.some.injEq, Addr.mk.injEq, and_true, true_and] at eC
        obtain ⟨rfl, rfl⟩ := eC
        have eV := hid_inj hrv hrv'
        simp only [Value.slice.injEq, true_and] at eV
        obtain ⟨rfl, rfl⟩ := eV
        refine wp_region_tree (fun w' => (w'.cell? ⟨w2.heap.size, 0, none⟩ = some (.slice (some ⟨gC, 0, none⟩) T.cells.length kC) ∧ w'.cell? ⟨w2.heap.size, 1, none⟩ = some (.slice R T.roots.length kR)) ∧ w'.cell? ⟨gC, at_ * 3 + 2, none⟩ = some (.slice (some ⟨gF, 0, none⟩) l1.refs.length c1)) 17 [] (.take 0 (.take 1 (.take 2 (.take 3 (.take 4 (.take 5 (.take 6 (.take 7 (.take 8 (.take 9 (.take 10 (.take 11 (.take 12 (.take 13 (.take 15 (.alt 14 (.take 16 (.alt 17 (.done) (.stop))) (.stop))))))))))))))))) (by kernel_rfl) (by kernel_rfl) (by kernel_rfl) (⟨⟨x0, x1⟩, u2⟩) ?_
        simp only [fillT, List.getElem?_cons_zero, List.getElem?_cons_succ, Nat.reduceBEq]
        repeat (first
          | (with_reducible refine po_take (v := ?_) ?_ (fun w' hS' => ?_) ?_
             rotate_left
             · (go_simp; done)
             · ((try dsimp only at hS'); go_simp; try with_reducible rfl)
             simp only [Act.put, List.setIfInBounds_toArray, List.set_cons_zero, List.set_cons_succ])
          | (with_reducible refine po_skip ?_ ?_
             · (go_simp; done)
             simp only [Act.put, List.setIfInBounds_toArray, List.set_cons_zero, List.set_cons_succ]))
        with_reducible refine po_run ?_ (fun K hK => ?_) ?_
        · (go_simp; done)
        rotate_left
        · exact po_stop
        go_simp
        refine (pick_own HX (i + 4) (set_get hX _) hr (by omega) (l1.refs.length : Int) (by unfold I64; omega)).mono ?_
        rintro e w8 ⟨j, rfl, hj, HY⟩
        replace hj : j < l1.refs.length := by omega
        simp only [List.set_cons_succ, List.set_set] at HY
        clear HX x0 x1 u2
        have HX := HY
        clear HY
        obtain ⟨x0, x1, -, -⟩ := HX.box2 0 rfl
        obtain ⟨gC'', cC'', A1'', c1'', eC, hrv'', -, -, u2, -, -, -, -, -⟩ := HX.cellW 1 rfl hl1
        simp only [Value.slice.injEq, Option.some.injEq, Addr.mk.injEq, and_true, true_and] at eC
        obtain ⟨rfl, rfl⟩ := eC
        have eV := hid_inj hrv hrv''
        simp only [Value.slice.injEq, true_and] at eV
        obtain ⟨rfl, rfl⟩ := eV
        refine hK.out _ _ (.inr (⟨⟨x0, x1⟩, u2⟩)) ?_
        clear hK K
        repeat (first
          | (with_reducible refine po_take (v := ?_) ?_ (fun w' hS' => ?_) ?_
             rotate_left
             · (go_simp; done)
             · ((try dsimp only at hS'); go_simp; try with_reducible rfl)
             simp only [Act.put, List.setIfInBounds_toArray, List.set_cons_zero, List.set_cons_succ])
          | (with_reducible refine po_skip ?_ ?_
             · (go_simp; done)
             simp only [Act.put, List.setIfInBounds_toArray, List.set_cons_zero, List.set_cons_succ]))
        with_reducible refine po_run ?_ (fun K hK => ?_) ?_
        · (go_simp; done)
        rotate_left
        · exact po_stop
        obtain ⟨gF', eF, e0, e1⟩ := HX.refAt 1 rfl hrv hl1 (Go.Lib.hid (List.getElem?_eq_getElem hj))
        simp only [Option.some.injEq, Addr.mk.injEq, and_true] at eF
        obtain rfl := eF
        go_simp
        have HZ := HX.putRef 1 rfl hrv.out hl1.out rfl j (tt_ : Int)
        simp only [List.set_cons_zero, List.set_cons_succ] at HZ
        clear HX e0 e1 x0 x1 u2
        refine hK.out _ _ (.inl rfl) ?_
        clear hK K
        refine po_done ?_
        have HE := Go.Lib.hid (HS.out.set hl1.out j (tt_ : Int))
        have hle : (T.cells.set at_ ⟨l1.used, l1.data, l1.refs.set j (tt_ : Int)⟩).length = T.cells.length := by simp
        rw [← hle] at HZ
        have HW := HZ
        clear HZ H0 hle
        go_wp2_with fail
        go_roundw
        case rel => exact ⟨k', _, R, _, kR, _, _, p3 + 3, by go_num, by omega, HE.out, by omega, by omega, HW⟩
        case measure => simp [intOf]
end Go.Proofs.Ytjpfgbckmcjjaaa
