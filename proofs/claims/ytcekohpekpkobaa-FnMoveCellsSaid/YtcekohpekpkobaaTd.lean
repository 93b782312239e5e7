/- The drawing of a table, for every code that can be read. -/
import Derived.Test.YtcekohpekpkobaaOo
import Derived.Test.YtcekohpekpkobaaMg
import Derived.Test.YtcekohpekpkobaaMs
import Derived.Test.YtcekohpekpkobaaTo2
namespace Go.Proofs.Ytcekohpekpkobaa
open Go.RowKit
/-- A small table; if it has a handle, there are four roots. -/
structure SmT (t : Tbl) : Prop where
  len : t.store.cells.length ≤ 41
  roots : t.store.roots.length ≤ 4
  refs : ∀ c ∈ t.store.cells, c.refs.length ≤ 3
  hands : t.hands.length ≤ 41
  four : 0 < t.hands.length → t.store.roots.length = 4
theorem SmT.of {h : Hp} (s : SmG h) : SmT (mTableOf h) := by
  have h1 := s.len; have h2 := s.roots; have h3 := s.refs
  cases hy : heapOk h
  · rw [mTabOf_no hy]
    exact ⟨by simp, by simp, fun c hc => by simp at hc, by simp, fun h => by simp at h⟩
  · rw [mTabOf_yes hy]
    exact ⟨h1, h2, h3, by show (upTo _).length ≤ 41; rw [upTo_len]; exact h1, fun _ => (heapOk_small hy).2⟩
theorem swCells_sub {cs : List Cel} {a b : Nat} {c : Cel} (h : c ∈ swCells cs a b) : c = noCel ∨ c ∈ cs := by
  have hg : ∀ k, cs.getD k noCel = noCel ∨ cs.getD k noCel ∈ cs := fun k => by
    rw [List.getD_eq_getElem?_getD]
    cases hk : cs[k]? with
    | none => exact .inl rfl
    | some x => exact .inr (List.mem_of_getElem? hk)
  unfold swCells at h
  rcases List.mem_or_eq_of_mem_set h with h | h
  · rcases List.mem_or_eq_of_mem_set h with h | h
    · exact .inr h
    · rw [h]; exact hg b
  · rw [h]; exact hg a
theorem SmT.move {t : Tbl} (s : SmT t) (a b : Int) : SmT (mMove t a b) := by
  unfold mMove
  split
  · refine ⟨?_, s.roots, ?_, ?_, ?_⟩
    · show (swCells _ _ _).length ≤ 41
      rw [swCells_len]; exact s.len
    · intro c hc
      rcases swCells_sub hc with rfl | h
      · simp [noCel]
      · exact s.refs c h
    · show (List.map _ _).length ≤ 41
      rw [List.length_map]; exact s.hands
    · intro h
      refine s.four ?_
      have : 0 < (t.hands.map (swH a.toNat b.toNat)).length := h
      rwa [List.length_map] at this
  · exact ⟨by simp, by simp, fun c hc => by simp at hc, by simp, fun h => by simp at h⟩
theorem SmT.put {t : Tbl} (s : SmT t) (v : Int) : SmT ⟨t.store, t.hands.set 0 v⟩ :=
  ⟨s.len, s.roots, s.refs, by show (List.set _ _ _).length ≤ 41; rw [List.length_set]; exact s.hands, fun h => s.four (by have h1 : 0 < (t.hands.set 0 v).length := h; rwa [List.length_set] at h1)⟩
theorem SmT.tail {t : Tbl} (s : SmT t) : SmT ⟨t.store, t.hands.drop 1⟩ :=
  ⟨s.len, s.roots, s.refs, by show (List.drop _ _).length ≤ 41; have := s.hands; rw [List.length_drop]; omega, fun h => s.four (by have h1 : 0 < (t.hands.drop 1).length := h; rw [List.length_drop] at h1; omega)⟩
theorem SmT.big {t : Tbl} (s : SmT t) : t.store.cells.length ≤ 1048576 ∧ t.store.roots.length ≤ 1048576 ∧ (∀ c ∈ t.store.cells, c.refs.length ≤ 1048576) ∧ t.hands.length ≤ 1048576 :=
  ⟨by have := s.len; omega, by have := s.roots; omega, fun c hc => by have := s.refs c hc; omega, by have := s.hands; omega⟩
theorem Owns.turn4 {lo : Nat} {w0 w : World} {X Y Z W : OB} {L : List OB} (h : Owns lo w0 w (X :: Y :: Z :: W :: L)) : Owns lo w0 w (Y :: Z :: W :: X :: L) :=
  h.pick (fun i => if i = 0 then 1 else if i = 1 then 2 else if i = 2 then 3 else if i = 3 then 0 else i) (fun i T hT => by
    match i, hT with
    | 0, hT => simpa using hT
    | 1, hT => simpa using hT
    | 2, hT => simpa using hT
    | 3, hT => simpa using hT
    | i + 4, hT => simpa using hT) fun i j _ _ e => by
    split at e <;> split at e <;> (try split at e) <;> (try split at e) <;> (try split at e) <;> (try split at e) <;> (try split at e) <;> (try split at e) <;> omega
/-- .. or of a slice of one, of which nothing is left. -/
def TailT (rv rv0 : Value) (rs rs0 : List Int) : Prop := TailOf rv rv0 rs rs0 ∨ ∃ g n c m, rv0 = .slice (some ⟨g, 0, none⟩) n c ∧ rv = .slice (some ⟨g, 0, none⟩) m 0 ∧ m = 0 ∧ rs = []
theorem TailT.form {rv rv0 : Value} {rs rs0 : List Int} (ht : TailT rv rv0 rs rs0) {A : Option Addr} {n c : Nat} (e : rv0 = .slice A n c) : ∃ A' n' c', rv = .slice A' n' c' := by
  rcases ht with ht | ⟨g, n, c, m, -, rfl, -, -⟩
  · exact ht.form e
  · exact ⟨_, _, _, rfl⟩
theorem Owns.rdTailT {lo : Nat} {w0 w : World} {L : List OB} {v0 : Value} {xs xs0 : List Int} {A : Option Addr} {n c : Nat} (h : Owns lo w0 w L) (i : Nat) (hX : L[i]? = some (.ints v0 xs0)) (ht : TailT (.slice A n c) v0 xs xs0) : RdI w w.heap.size A n c xs := by
  rcases ht with (⟨rfl, rfl⟩ | ⟨g, m, d, rfl, e, rfl, hm⟩) | ⟨g, m, d, k, rfl, e, rfl, rfl⟩
  · exact (h.owI i hX).rdI
  · simp only [Value.slice.injEq] at e
    obtain ⟨rfl, rfl, rfl⟩ := e
    exact ((h.owI i hX).rdI).drop1 hm
  · simp only [Value.slice.injEq] at e
    obtain ⟨rfl, rfl, rfl⟩ := e
    exact ⟨rfl, Nat.zero_le _, Nat.zero_le _, fun h => by omega⟩
/-- A table was drawn; the handles may be what is left of a slice without its first. -/
def DrewT (lo : Nat) (w0 : World) (L : List OB) (i g : Nat) (A : Option Addr) (n c p : Nat) (e : Ending) (w' : World) : Prop :=
  ∃ (t : Tbl) (cv : Value) (rvs : List Value) (rv hv hv0 : Value) (hs0 : List Int) (p' : Nat), e = .returned (.agg #[cv, rv, hv]) ∧ SmT t ∧ TailT hv hv0 t.hands hs0 ∧ p ≤ p' ∧ p' ≤ p + 3000 ∧ Owns lo w0 w' (.cells cv rvs t.store.cells :: .ints rv t.store.roots :: .ints hv0 hs0 :: L.set i (.rdr g A n c p'))
set_option maxHeartbeats 6400000 in
set_option maxRecDepth 20000 in
theorem table_own {lo : Nat} {w0 w : World} {L : List OB} {g : Nat} {A : Option Addr} {n c p : Nat} (h : Owns lo w0 w L) (i : Nat) (hX : L[i]? = some (.rdr g A n c p)) {bs : List Int} (hr : RdU w0 lo A n c bs) (hp : p ≤ 600000) (N : Int) (hN0 : 1 ≤ N) (hN1 : N ≤ 1000) :
    Calls Try.prog 21 #[.pointer (some ⟨g, 0, none⟩), .int .i64 N] w (DrewT lo w0 L i g A n c p) := by
  have H := h.box [.slice none 0 0, .slice none 0 0, .slice none 0 0] 28
  clear h
  go_enter Try.func21, Try.ntmps21
  go_wp2_with fail
  refine (heap_own H (i + 1) hX hr (by omega) 0 (by omega) (by omega)).mono ?_
  rintro e w1 ⟨T, cv, rvs, rv, rv0, rs0, p1, rfl, hS, ht, hp1, hp2, H1⟩
  simp only [List.set_cons_succ] at H1
  obtain ⟨C, kC, rfl, -⟩ := H1.formC 0 rfl
  obtain ⟨R0, kR0, e0, -⟩ := H1.formI 1 rfl
  obtain ⟨R, nR, kR, rfl⟩ := ht.form e0
  clear e0 H
  go_wp2_with fail
  refine (specTableOf_any _ _ _ T (H1.rdHx 0 1 rfl rfl ht) (by have := hS.len; omega) (by have := hS.roots; omega) (fun c hc => by have := hS.refs c hc; omega)).mono ?_
  rintro e w2 ⟨v2, rfl, K⟩
  obtain ⟨cv2, rvs2, rv2, hv2, rfl, H2⟩ := H1.mergeT K
  obtain ⟨t, htt⟩ : ∃ t, t = mTableOf T := ⟨_, rfl⟩
  have hSt : SmT t := by rw [htt]; exact SmT.of hS
  rw [← htt] at H2
  clear htt H1 K ht hS
  obtain ⟨C2, kC2, rfl, -⟩ := H2.formC 0 rfl
  obtain ⟨R2, kR2, rfl, -⟩ := H2.formI 1 rfl
  obtain ⟨E2, kE2, rfl, -⟩ := H2.formI 2 rfl
  have H3 := ((H2.box [.slice C2 t.store.cells.length kC2, .slice R2 t.store.roots.length kR2, .slice E2 t.hands.length kE2] 28).erase 4).erase 4
  simp only [List.eraseIdx_cons_zero, List.eraseIdx_cons_succ] at H3
  replace H3 := H3.turn4
  clear H2
  go_wp2_with fail
  refine (pick_own H3 (i + 5) (set_get hX _) hr (by omega) 5 (by unfold I64; omega)).mono ?_
  rintro e w3 ⟨y, rfl, hy5, H4⟩
  simp only [List.set_cons_succ, List.set_set] at H4
  replace hy5 : (y : Int) < 5 := by omega
  clear H3
  go_wp2_with fail
  go_loopw [6] (fun v6 wr => ∃ (k : Nat) (C R E : Option Addr) (kC kR kE : Nat) (rvs : List Value) (t : Tbl) (p' : Nat), v6 = .int .i64 k ∧ k ≤ y ∧ SmT t ∧ p ≤ p' ∧ p' + 2 * k ≤ p + 1001 + 2 * y ∧ Owns lo w0 wr (.cells (.slice C t.store.cells.length kC) rvs t.store.cells :: .ints (.slice R t.store.roots.length kR) t.store.roots :: .ints (.slice E t.hands.length kE) t.hands :: .box w2.heap.size [.slice C t.store.cells.length kC, .slice R t.store.roots.length kR, .slice E t.hands.length kE] 28 :: .box w.heap.size [.slice none 0 0, .slice none 0 0, .slice none 0 0] 28 :: L.set i (.rdr g A n c p'))) (fun v6 _ => (intOf v6).toNat)
  case atStart => exact ⟨y, C2, R2, E2, kC2, kR2, kE2, rvs2, t, p1 + 1, rfl, Nat.le_refl _, hSt, by omega, by omega, H4⟩
  case round =>
    have hy4 : y ≤ 4 := by omega
    clear H4 hSt hp1 hp2 hy5
    obtain ⟨k, C, R, E, kC, kR, kE, rvs, t, p3, rfl, hk, hSt, hp3, hp4, H⟩ := hrel
    obtain ⟨x0, x1, x2, -, -, -⟩ := H.box3 3 rfl
    have hlen := hSt.hands
    by_cases hk0 : 0 < k ∧ 0 < t.hands.length
    · obtain ⟨k', rfl⟩ : ∃ k', k = k' + 1 := ⟨k - 1, by omega⟩
      have j1 : (0 : Int) < (t.hands.length : Int) := by omega
      have j2 : (0 : Int) < ((k' + 1 : Nat) : Int) := by omega
      have HSt := Go.Lib.hid hSt
      have HBg := Go.Lib.hid hSt.big
      clear hk0 hSt
      go_wp2_with fail
      have HX := H.drew
      have H0 := Go.Lib.hid H
      clear H x0 x1 x2
      obtain ⟨x0, x1, x2, -, -, -⟩ := HX.box3 3 rfl
      refine wp_region_tree (fun w' => w'.cell? ⟨w2.heap.size, 0, none⟩ = some (.slice C t.store.cells.length kC) ∧ w'.cell? ⟨w2.heap.size, 1, none⟩ = some (.slice R t.store.roots.length kR) ∧ w'.cell? ⟨w2.heap.size, 2, none⟩ = some (.slice E t.hands.length kE)) 12 [] (.take 0 (.take 1 (.take 2 (.take 3 (.take 4 (.take 6 (.take 7 (.take 8 (.take 9 (.alt 5 (.alt 10 (.alt 11 (.alt 12 (.done) (.stop)) (.stop)) (.stop)) (.stop))))))))))) (by kernel_rfl) (by kernel_rfl) (by kernel_rfl) (⟨x0, x1, x2⟩) ?_
      simp only [fillT, List.getElem?_cons_zero, List.getElem?_cons_succ, Nat.reduceBEq]
      repeat (first
        | (with_reducible refine po_take (v := ?_) ?_ (fun w' hS' => ?_) ?_
           rotate_left
           · (go_simp; done)
           · ((try dsimp only at hS'); go_simp; try with_reducible rfl)
           simp only [Act.put, List.setIfInBounds_toArray, List.set_cons_zero, List.set_cons_succ])
        | (with_reducible refine po_skip ?_ ?_
           · (go_simp; done)
           simp only [Act.put, List.setIfInBounds_toArray, List.set_cons_zero, List.set_cons_succ]))
      with_reducible refine po_run ?_ (fun K hK => ?_) ?_
      · (go_simp; done)
      rotate_left
      · exact po_stop
      try (revert x0 x1 x2 HX; generalize World.drew _ = wd; intro HX x0 x1 x2)
      go_simp
      refine (pick_own HX (i + 5) (set_get hX _) hr (by omega) (t.hands.length : Int) (by unfold I64; omega)).mono ?_
      rintro e wa ⟨a, rfl, ha, HY⟩
      simp only [List.set_cons_succ, List.set_set] at HY
      clear HX x0 x1 x2
      have HX := HY
      clear HY
      obtain ⟨x0, x1, x2, -, -, -⟩ := HX.box3 3 rfl
      refine hK.out _ _ (.inr (⟨x0, x1, x2⟩)) ?_
      clear hK K
      with_reducible refine po_run ?_ (fun K hK => ?_) ?_
      · (go_simp; done)
      rotate_left
      · exact po_stop
      go_simp
      refine (pick_own HX (i + 5) (set_get hX _) hr (by omega) (t.hands.length : Int) (by unfold I64; omega)).mono ?_
      rintro e wb ⟨b, rfl, hb, HY⟩
      simp only [List.set_cons_succ, List.set_set] at HY
      clear HX x0 x1 x2
      have HX := HY
      clear HY
      obtain ⟨x0, x1, x2, -, -, -⟩ := HX.box3 3 rfl
      refine hK.out _ _ (.inr (⟨x0, x1, x2⟩)) ?_
      clear hK K
      with_reducible refine po_run ?_ (fun K hK => ?_) ?_
      · (go_simp; done)
      rotate_left
      · exact po_stop
      go_simp
      refine (specMoveCells_any _ _ _ t (a : Int) (b : Int) (HX.rdT 0 1 2 rfl rfl rfl) HBg.out.1 HBg.out.2.1 HBg.out.2.2.1 HBg.out.2.2.2).mono ?_
      rintro e wm ⟨cv3, rvs3, rv3, hv3, rfl, K⟩
      obtain ⟨u, hu⟩ : ∃ u, u = mMove t (a : Int) (b : Int) := ⟨_, rfl⟩
      have HSu : Hid (SmT u) := Go.Lib.hid (by rw [hu]; exact HSt.out.move _ _)
      rw [← hu] at K
      have HY := HX.merge K
      simp only [List.cons_append, List.nil_append] at HY
      clear HX K hu x0 x1 x2
      have HX := HY
      clear HY
      obtain ⟨C3, kC3, rfl, -⟩ := HX.formC 0 rfl
      obtain ⟨R3, kR3, rfl, -⟩ := HX.formI 1 rfl
      obtain ⟨E3, kE3, rfl, -⟩ := HX.formI 2 rfl
      obtain ⟨x0, x1, x2, -, -, -⟩ := HX.box3 6 rfl
      refine hK.out _ _ (.inr (⟨x0, x1, x2⟩)) ?_
      clear hK K
      with_reducible refine po_run ?_ (fun K hK => ?_) ?_
      · (go_simp; done)
      rotate_left
      · exact po_stop
      clear x0 x1 x2
      obtain ⟨y0, y1, y2, y3, y4, y5⟩ := HX.box3 6 rfl
      go_simp
      have HZ := (((((HX.putBox 6 rfl 0 (.slice C3 u.store.cells.length kC3)).putBox 6 rfl 1 (.slice R3 u.store.roots.length kR3)).putBox 6 rfl 2 (.slice E3 u.hands.length kE3)).erase 3).erase 3).erase 3
      simp only [List.set_cons_zero, List.set_cons_succ, List.eraseIdx_cons_zero, List.eraseIdx_cons_succ] at HZ
      clear y0 y1 y2 y3 y4 y5
      refine hK.out _ _ (.inl rfl) ?_
      clear hK K
      refine po_done ?_
      clear HX H0
      go_wp2
      go_roundw
      case rel => exact ⟨k', C3, R3, E3, kC3, kR3, kE3, rvs3, u, p3 + 2, by go_num, by omega, HSu.out, by omega, by omega, HZ⟩
      case measure => simp [intOf]
    · have hex : ∃ q : Bool, decide ((0 : Int) < (k : Int)) = q := ⟨_, rfl⟩
      have hp5 : p3 ≤ p + 1010 := by omega
      by_cases hh : 0 < t.hands.length
      · obtain rfl : k = 0 := by omega
        have j1 : (0 : Int) < (t.hands.length : Int) := by omega
        clear hk0 hex
        go_wp2_with fail
        refine (odd_own H (i + 5) (set_get hX _) hr (by omega) N (by omega) (by omega)).mono ?_
        rintro e w5 ⟨bo, rfl, H5⟩
        simp only [List.set_cons_succ, List.set_set] at H5
        clear H x0 x1 x2
        cases bo
        · clear hlen
          obtain ⟨x0, x1, x2, -, -, -⟩ := H5.box3 3 rfl
          obtain ⟨y0, y1, y2, y3, y4, y5⟩ := H5.box3 4 rfl
          have HZ1 := H5.putBox 4 rfl 0 (.slice C t.store.cells.length kC)
          have HZ2 := HZ1.putBox 4 rfl 1 (.slice R t.store.roots.length kR)
          have HZ3 := HZ2.putBox 4 rfl 2 (.slice E t.hands.length kE)
          simp only [List.set_cons_zero, List.set_cons_succ] at HZ1 HZ2 HZ3
          obtain ⟨z1, z2, -, -, -, -⟩ := HZ1.box3 4 rfl
          obtain ⟨z3, z4, -, -, -, -⟩ := HZ2.box3 4 rfl
          obtain ⟨z5, z6, z7, -, -, -⟩ := HZ3.box3 4 rfl
          have HE := (HZ3.erase 3).erase 3
          simp only [List.eraseIdx_cons_zero, List.eraseIdx_cons_succ] at HE
          have HSF : Hid (DrewT lo w0 L i g A n c p (.returned (.agg #[.slice C t.store.cells.length kC, .slice R t.store.roots.length kR, .slice E t.hands.length kE])) _) := Go.Lib.hid ⟨t, _, rvs, _, _, _, _, p3 + 1, rfl, hSt, .inl (.inl ⟨rfl, rfl⟩), by omega, by omega, HE⟩
          clear H5 HZ1 HZ2 HZ3 HE hX
          go_wp2
          exact bodyPost_ret (v := .agg #[.slice C t.store.cells.length kC, .slice R t.store.roots.length kR, .slice E t.hands.length kE]) (by simp [results, Try.results21, go_sem, z5, z6, z7]) rfl HSF.out
        · obtain ⟨x0, x1, x2, -, -, -⟩ := H5.box3 3 rfl
          go_wp2_with fail
          refine (pick_own H5 (i + 5) (set_get hX _) hr (by omega) 3 (by unfold I64; omega)).mono ?_
          rintro e w6 ⟨j, rfl, hj, H6⟩
          simp only [List.set_cons_succ, List.set_set] at H6
          clear H5 x0 x1 x2
          have hj3 : j = 0 ∨ j = 1 ∨ j = 2 := by omega
          clear hj
          obtain ⟨gE, cE, eE, hc1, hc2, -, -⟩ := H6.rowAt 2 rfl (by omega)
          simp only [Value.slice.injEq] at eE
          obtain ⟨rfl, -, rfl⟩ := eE
          unfold maxLen at hc2
          rcases hj3 with rfl | rfl | rfl
          · obtain ⟨x, hx⟩ : ∃ x, Hid (t.hands[0]? = some x) := ⟨_, Go.Lib.hid (List.getElem?_eq_getElem hh)⟩
            have HSt := Go.Lib.hid hSt
            clear hSt
            go_wp2_with fail
            have HX := H6.drew
            have H0 := Go.Lib.hid H6
            clear H6
            obtain ⟨x0, x1, x2, -, -, -⟩ := HX.box3 3 rfl
            obtain ⟨q0, q1⟩ := HX.intAt 2 rfl rfl hx
            refine wp_region_tree (fun w' => (w'.cell? ⟨w2.heap.size, 0, none⟩ = some (.slice C t.store.cells.length kC) ∧ w'.cell? ⟨w2.heap.size, 1, none⟩ = some (.slice R t.store.roots.length kR) ∧ w'.cell? ⟨w2.heap.size, 2, none⟩ = some (.slice (some ⟨gE, 0, none⟩) t.hands.length kE)) ∧ w'.cell? ⟨gE, 0, none⟩ = some (.int .i64 x)) 11 [9] (.take 0 (.take 1 (.take 2 (.take 3 (.take 4 (.take 6 (.alt 5 (.alt 7 (.take 8 (.alt 9 (.take 10 (.alt 11 (.done) (.stop))) (.stop))) (.stop)) (.alt 7 (.alt 5 (.take 8 (.alt 9 (.take 10 (.alt 11 (.done) (.stop))) (.stop))) (.stop)) (.stop))))))))) (by kernel_rfl) (by kernel_rfl) (by kernel_rfl) (⟨⟨x0, x1, x2⟩, q0⟩) ?_
            simp only [fillT, List.getElem?_cons_zero, List.getElem?_cons_succ, Nat.reduceBEq]
            repeat (first
              | (with_reducible refine po_take (v := ?_) ?_ (fun w' hS' => ?_) ?_
                 rotate_left
                 · (go_simp; done)
                 · ((try dsimp only at hS'); go_simp; try with_reducible rfl)
                 simp only [Act.put, List.setIfInBounds_toArray, List.set_cons_zero, List.set_cons_succ])
              | (with_reducible refine po_skip ?_ ?_
                 · (go_simp; done)
                 simp only [Act.put, List.setIfInBounds_toArray, List.set_cons_zero, List.set_cons_succ]))
            with_reducible refine po_run ?_ (fun K hK => ?_) ?_
            · (go_simp; done)
            · -- operation 5 first
              try (revert x0 x1 x2 q0 q1 HX; generalize World.drew _ = wd; intro HX x0 x1 x2 q0 q1)
              go_simp
              replace HX := HX.litI [-1, (t.hands.length : Int)] (by show 2 ≤ maxLen; unfold maxLen; omega)
              try simp only [List.map_cons, List.map_nil, List.length_cons, List.length_nil, Nat.zero_add, Nat.reduceAdd] at HX
              clear x0 x1 x2 q0 q1
              obtain ⟨x0, x1, x2, -, -, -⟩ := HX.box3 4 rfl
              obtain ⟨q0, q1⟩ := HX.intAt 3 rfl rfl hx
              refine hK.out _ _ (.inr (⟨⟨x0, x1, x2⟩, q0⟩)) ?_
              clear hK K
              revert x0 x1 x2 q0 q1 HX
              generalize World.alloc _ _ = wz
              intro HX x0 x1 x2 q0 q1
              with_reducible refine po_run ?_ (fun K hK => ?_) ?_
              · (go_simp; done)
              rotate_left
              · exact po_stop
              try (revert x0 x1 x2 q0 q1 HX; generalize World.drew _ = wd; intro HX x0 x1 x2 q0 q1)
              go_simp
              refine (pick_own HX (i + 6) (set_get hX _) hr (by omega) 2 (by unfold I64; omega)).mono ?_
              rintro e waj ⟨j2, rfl, hj2, HY⟩
              replace hj2 : j2 < 2 := by omega
              have hj2' : (j2 : Int) < 2 := by omega
              have hj2'' : (0 : Int) ≤ (j2 : Int) := by omega
              simp only [List.set_cons_succ, List.set_set] at HY
              clear HX x0 x1 x2 q0 q1
              have HX := HY
              clear HY
              obtain ⟨x0, x1, x2, -, -, -⟩ := HX.box3 4 rfl
              obtain ⟨q0, q1⟩ := HX.intAt 3 rfl rfl hx
              refine hK.out _ _ (.inr (⟨⟨x0, x1, x2⟩, q0⟩)) ?_
              clear hK K
              repeat (first
                | (with_reducible refine po_take (v := ?_) ?_ (fun w' hS' => ?_) ?_
                   rotate_left
                   · (go_simp; done)
                   · ((try dsimp only at hS'); go_simp; try with_reducible rfl)
                   simp only [Act.put, List.setIfInBounds_toArray, List.set_cons_zero, List.set_cons_succ])
                | (with_reducible refine po_skip ?_ ?_
                   · (go_simp; done)
                   simp only [Act.put, List.setIfInBounds_toArray, List.set_cons_zero, List.set_cons_succ]))
              with_reducible refine po_run ?_ (fun K hK => ?_) ?_
              · (go_simp; done)
              rotate_left
              · exact po_stop
              obtain ⟨v2, hv2⟩ : ∃ v, ([-1, (t.hands.length : Int)] : List Int)[j2]? = some v := ⟨_, List.getElem?_eq_getElem (by simp; omega)⟩
              obtain ⟨zz, -⟩ := HX.elem 0 rfl (j := j2) (u := .int .i64 v2) (by rw [List.getElem?_map, hv2]; rfl)
              go_simp
              clear zz
              refine hK.out _ _ (.inr (⟨⟨x0, x1, x2⟩, q0⟩)) ?_
              clear hK K
              repeat (first
                | (with_reducible refine po_take (v := ?_) ?_ (fun w' hS' => ?_) ?_
                   rotate_left
                   · (go_simp; done)
                   · ((try dsimp only at hS'); go_simp; try with_reducible rfl)
                   simp only [Act.put, List.setIfInBounds_toArray, List.set_cons_zero, List.set_cons_succ])
                | (with_reducible refine po_skip ?_ ?_
                   · (go_simp; done)
                   simp only [Act.put, List.setIfInBounds_toArray, List.set_cons_zero, List.set_cons_succ]))
              with_reducible refine po_run ?_ (fun K hK => ?_) ?_
              · (go_simp; done)
              rotate_left
              · exact po_stop
              go_simp
              have HQ := (HX.setInt 3 rfl rfl 0 v2).erase 0
              simp only [List.set_cons_zero, List.set_cons_succ, List.eraseIdx_cons_zero] at HQ
              refine hK.out _ _ (.inl rfl) ?_
              clear hK K
              refine po_done ?_
              clear x0 x1 x2 q0 q1 HX H0 hx hlen
              obtain ⟨x0, x1, x2, -, -, -⟩ := HQ.box3 3 rfl
              obtain ⟨y0, y1, y2, y3, y4, y5⟩ := HQ.box3 4 rfl
              have HZ1 := HQ.putBox 4 rfl 0 (.slice C t.store.cells.length kC)
              have HZ2 := HZ1.putBox 4 rfl 1 (.slice R t.store.roots.length kR)
              have HZ3 := HZ2.putBox 4 rfl 2 (.slice (some ⟨gE, 0, none⟩) t.hands.length kE)
              simp only [List.set_cons_zero, List.set_cons_succ] at HZ1 HZ2 HZ3
              obtain ⟨z1, z2, -, -, -, -⟩ := HZ1.box3 4 rfl
              obtain ⟨z3, z4, -, -, -, -⟩ := HZ2.box3 4 rfl
              obtain ⟨z5, z6, z7, -, -, -⟩ := HZ3.box3 4 rfl
              have HE := (HZ3.erase 3).erase 3
              simp only [List.eraseIdx_cons_zero, List.eraseIdx_cons_succ] at HE
              have HSF : Hid (DrewT lo w0 L i g A n c p (.returned (.agg #[.slice C t.store.cells.length kC, .slice R t.store.roots.length kR, .slice (some ⟨gE, 0, none⟩) t.hands.length kE])) _) := Go.Lib.hid ⟨⟨t.store, t.hands.set 0 v2⟩, _, rvs, _, _, _, _, p3 + 3, rfl, HSt.out.put v2, .inl (.inl ⟨rfl, rfl⟩), by omega, by omega, HE⟩
              clear HQ HZ1 HZ2 HZ3 HE hX
              go_wp2
              exact bodyPost_ret (v := .agg #[.slice C t.store.cells.length kC, .slice R t.store.roots.length kR, .slice (some ⟨gE, 0, none⟩) t.hands.length kE]) (by simp [results, Try.results21, go_sem, z5, z6, z7]) rfl HSF.out
            with_reducible refine po_run ?_ (fun K hK => ?_) ?_
            · (go_simp; done)
            rotate_left
            · exact po_stop
            try (revert x0 x1 x2 q0 q1 HX; generalize World.drew _ = wd; intro HX x0 x1 x2 q0 q1)
            go_simp
            refine (pick_own HX (i + 5) (set_get hX _) hr (by omega) 2 (by unfold I64; omega)).mono ?_
            rintro e waj ⟨j2, rfl, hj2, HY⟩
            replace hj2 : j2 < 2 := by omega
            have hj2' : (j2 : Int) < 2 := by omega
            have hj2'' : (0 : Int) ≤ (j2 : Int) := by omega
            simp only [List.set_cons_succ, List.set_set] at HY
            clear HX x0 x1 x2 q0 q1
            have HX := HY
            clear HY
            obtain ⟨x0, x1, x2, -, -, -⟩ := HX.box3 3 rfl
            obtain ⟨q0, q1⟩ := HX.intAt 2 rfl rfl hx
            refine hK.out _ _ (.inr (⟨⟨x0, x1, x2⟩, q0⟩)) ?_
            clear hK K
            with_reducible refine po_run ?_ (fun K hK => ?_) ?_
            · (go_simp; done)
            rotate_left
            · exact po_stop
            try (revert x0 x1 x2 q0 q1 HX; generalize World.drew _ = wd; intro HX x0 x1 x2 q0 q1)
            go_simp
            replace HX := HX.litI [-1, (t.hands.length : Int)] (by show 2 ≤ maxLen; unfold maxLen; omega)
            try simp only [List.map_cons, List.map_nil, List.length_cons, List.length_nil, Nat.zero_add, Nat.reduceAdd] at HX
            clear x0 x1 x2 q0 q1
            obtain ⟨x0, x1, x2, -, -, -⟩ := HX.box3 4 rfl
            obtain ⟨q0, q1⟩ := HX.intAt 3 rfl rfl hx
            refine hK.out _ _ (.inr (⟨⟨x0, x1, x2⟩, q0⟩)) ?_
            clear hK K
            revert x0 x1 x2 q0 q1 HX
            generalize World.alloc _ _ = wz
            intro HX x0 x1 x2 q0 q1
            repeat (first
              | (with_reducible refine po_take (v := ?_) ?_ (fun w' hS' => ?_) ?_
                 rotate_left
                 · (go_simp; done)
                 · ((try dsimp only at hS'); go_simp; try with_reducible rfl)
                 simp only [Act.put, List.setIfInBounds_toArray, List.set_cons_zero, List.set_cons_succ])
              | (with_reducible refine po_skip ?_ ?_
                 · (go_simp; done)
                 simp only [Act.put, List.setIfInBounds_toArray, List.set_cons_zero, List.set_cons_succ]))
            with_reducible refine po_run ?_ (fun K hK => ?_) ?_
            · (go_simp; done)
            rotate_left
            · exact po_stop
            obtain ⟨v2, hv2⟩ : ∃ v, ([-1, (t.hands.length : Int)] : List Int)[j2]? = some v := ⟨_, List.getElem?_eq_getElem (by simp; omega)⟩
            obtain ⟨zz, -⟩ := HX.elem 0 rfl (j := j2) (u := .int .i64 v2) (by rw [List.getElem?_map, hv2]; rfl)
            go_simp
            clear zz
            refine hK.out _ _ (.inr (⟨⟨x0, x1, x2⟩, q0⟩)) ?_
            clear hK K
            repeat (first
              | (with_reducible refine po_take (v := ?_) ?_ (fun w' hS' => ?_) ?_
                 rotate_left
                 · (go_simp; done)
                 · ((try dsimp only at hS'); go_simp; try with_reducible rfl)
                 simp only [Act.put, List.setIfInBounds_toArray, List.set_cons_zero, List.set_cons_succ])
              | (with_reducible refine po_skip ?_ ?_
                 · (go_simp; done)
                 simp only [Act.put, List.setIfInBounds_toArray, List.set_cons_zero, List.set_cons_succ]))
            with_reducible refine po_run ?_ (fun K hK => ?_) ?_
            · (go_simp; done)
            rotate_left
            · exact po_stop
            go_simp
            have HQ := (HX.setInt 3 rfl rfl 0 v2).erase 0
            simp only [List.set_cons_zero, List.set_cons_succ, List.eraseIdx_cons_zero] at HQ
            refine hK.out _ _ (.inl rfl) ?_
            clear hK K
            refine po_done ?_
            clear x0 x1 x2 q0 q1 HX H0 hx hlen
            obtain ⟨x0, x1, x2, -, -, -⟩ := HQ.box3 3 rfl
            obtain ⟨y0, y1, y2, y3, y4, y5⟩ := HQ.box3 4 rfl
            have HZ1 := HQ.putBox 4 rfl 0 (.slice C t.store.cells.length kC)
            have HZ2 := HZ1.putBox 4 rfl 1 (.slice R t.store.roots.length kR)
            have HZ3 := HZ2.putBox 4 rfl 2 (.slice (some ⟨gE, 0, none⟩) t.hands.length kE)
            simp only [List.set_cons_zero, List.set_cons_succ] at HZ1 HZ2 HZ3
            obtain ⟨z1, z2, -, -, -, -⟩ := HZ1.box3 4 rfl
            obtain ⟨z3, z4, -, -, -, -⟩ := HZ2.box3 4 rfl
            obtain ⟨z5, z6, z7, -, -, -⟩ := HZ3.box3 4 rfl
            have HE := (HZ3.erase 3).erase 3
            simp only [List.eraseIdx_cons_zero, List.eraseIdx_cons_succ] at HE
            have HSF : Hid (DrewT lo w0 L i g A n c p (.returned (.agg #[.slice C t.store.cells.length kC, .slice R t.store.roots.length kR, .slice (some ⟨gE, 0, none⟩) t.hands.length kE])) _) := Go.Lib.hid ⟨⟨t.store, t.hands.set 0 v2⟩, _, rvs, _, _, _, _, p3 + 3, rfl, HSt.out.put v2, .inl (.inl ⟨rfl, rfl⟩), by omega, by omega, HE⟩
            clear HQ HZ1 HZ2 HZ3 HE hX
            go_wp2
            exact bodyPost_ret (v := .agg #[.slice C t.store.cells.length kC, .slice R t.store.roots.length kR, .slice (some ⟨gE, 0, none⟩) t.hands.length kE]) (by simp [results, Try.results21, go_sem, z5, z6, z7]) rfl HSF.out
          · have hkE : 1 ≤ kE := by omega
            have hkl : 1 ≤ t.hands.length := by omega
            by_cases hk1 : kE = 1
            · subst hk1
              have hd : t.hands.drop 1 = [] := List.drop_eq_nil_of_le (by omega)
              obtain ⟨a0, a1, a2, a3, a4, a5⟩ := H6.box3 3 rfl
              obtain ⟨b0, b1, b2, b3, b4, b5⟩ := H6.box3 4 rfl
              have HP := H6.putBox 3 rfl 2 (.slice (some ⟨gE, 0, none⟩) 0 0)
              simp only [List.set_cons_zero, List.set_cons_succ] at HP
              have HTl : Hid (TailT (.slice (some ⟨gE, 0, none⟩) 0 0) (.slice (some ⟨gE, 0, none⟩) t.hands.length 1) (t.hands.drop 1) t.hands) := Go.Lib.hid (.inr ⟨gE, _, _, _, rfl, rfl, rfl, hd⟩)
              clear H6 hd
              obtain ⟨x0, x1, x2, -, -, -⟩ := HP.box3 3 rfl
              obtain ⟨y0, y1, y2, y3, y4, y5⟩ := HP.box3 4 rfl
              have HZ1 := HP.putBox 4 rfl 0 (.slice C t.store.cells.length kC)
              have HZ2 := HZ1.putBox 4 rfl 1 (.slice R t.store.roots.length kR)
              have HZ3 := HZ2.putBox 4 rfl 2 (.slice (some ⟨gE, 0, none⟩) 0 0)
              simp only [List.set_cons_zero, List.set_cons_succ] at HZ1 HZ2 HZ3
              obtain ⟨z1, z2, -, -, -, -⟩ := HZ1.box3 4 rfl
              obtain ⟨z3, z4, -, -, -, -⟩ := HZ2.box3 4 rfl
              obtain ⟨z5, z6, z7, -, -, -⟩ := HZ3.box3 4 rfl
              have HE := (HZ3.erase 3).erase 3
              simp only [List.eraseIdx_cons_zero, List.eraseIdx_cons_succ] at HE
              have HSF : Hid (DrewT lo w0 L i g A n c p (.returned (.agg #[.slice C t.store.cells.length kC, .slice R t.store.roots.length kR, .slice (some ⟨gE, 0, none⟩) 0 0])) _) := Go.Lib.hid ⟨⟨t.store, t.hands.drop 1⟩, _, rvs, _, _, _, _, p3 + 2, rfl, hSt.tail, HTl.out, by omega, by omega, HE⟩
              clear HP HZ1 HZ2 HZ3 HE hX
              go_wp2
              exact bodyPost_ret (v := .agg #[.slice C t.store.cells.length kC, .slice R t.store.roots.length kR, .slice (some ⟨gE, 0, none⟩) 0 0]) (by simp [results, Try.results21, go_sem, z5, z6, z7]) rfl HSF.out
            · have hk2 : 2 ≤ kE := by omega
              have hk3 : ¬ kE - 1 = 0 := by omega
              obtain ⟨a0, a1, a2, a3, a4, a5⟩ := H6.box3 3 rfl
              have HP := H6.putBox 3 rfl 2 (.slice (some ⟨gE, 1, none⟩) (t.hands.length - 1) (kE - 1))
              simp only [List.set_cons_zero, List.set_cons_succ] at HP
              clear H6
              obtain ⟨x0, x1, x2, -, -, -⟩ := HP.box3 3 rfl
              obtain ⟨y0, y1, y2, y3, y4, y5⟩ := HP.box3 4 rfl
              have HZ1 := HP.putBox 4 rfl 0 (.slice C t.store.cells.length kC)
              have HZ2 := HZ1.putBox 4 rfl 1 (.slice R t.store.roots.length kR)
              have HZ3 := HZ2.putBox 4 rfl 2 (.slice (some ⟨gE, 1, none⟩) (t.hands.length - 1) (kE - 1))
              simp only [List.set_cons_zero, List.set_cons_succ] at HZ1 HZ2 HZ3
              obtain ⟨z1, z2, -, -, -, -⟩ := HZ1.box3 4 rfl
              obtain ⟨z3, z4, -, -, -, -⟩ := HZ2.box3 4 rfl
              obtain ⟨z5, z6, z7, -, -, -⟩ := HZ3.box3 4 rfl
              have HE := (HZ3.erase 3).erase 3
              simp only [List.eraseIdx_cons_zero, List.eraseIdx_cons_succ] at HE
              have HSF : Hid (DrewT lo w0 L i g A n c p (.returned (.agg #[.slice C t.store.cells.length kC, .slice R t.store.roots.length kR, .slice (some ⟨gE, 1, none⟩) (t.hands.length - 1) (kE - 1)])) _) := Go.Lib.hid ⟨⟨t.store, t.hands.drop 1⟩, _, rvs, _, _, _, _, p3 + 2, rfl, hSt.tail, .inl (.inr ⟨gE, t.hands.length, kE, rfl, rfl, rfl, hh⟩), by omega, by omega, HE⟩
              clear HP HZ1 HZ2 HZ3 HE hX
              go_wp2
              exact bodyPost_ret (v := .agg #[.slice C t.store.cells.length kC, .slice R t.store.roots.length kR, .slice (some ⟨gE, 1, none⟩) (t.hands.length - 1) (kE - 1)]) (by simp [results, Try.results21, go_sem, z5, z6, z7]) rfl HSF.out
          · have hr4 := hSt.four hh
            obtain ⟨gR, cR, eR, hd1, hd2, -, -⟩ := H6.rowAt 1 rfl (by omega)
            simp only [Value.slice.injEq] at eR
            obtain ⟨rfl, -, rfl⟩ := eR
            unfold maxLen at hd2
            have hr1 : (0 : Int) < (t.store.roots.length : Int) := by omega
            have HSt : Hid (SmT ⟨⟨t.store.cells, t.store.roots.set 0 (t.hands.length : Int)⟩, t.hands⟩) := Go.Lib.hid ⟨hSt.len, by show (List.set _ _ _).length ≤ 4; rw [List.length_set]; exact hSt.roots, hSt.refs, hSt.hands, fun h => by show (List.set _ _ _).length = 4; rw [List.length_set]; exact hSt.four h⟩
            obtain ⟨x, hx⟩ : ∃ x, Hid (t.store.roots[0]? = some x) := ⟨_, Go.Lib.hid (List.getElem?_eq_getElem (by omega))⟩
            obtain ⟨q0, q1⟩ := H6.intAt 1 rfl rfl hx
            obtain ⟨a0, a1, a2, a3, a4, a5⟩ := H6.box3 3 rfl
            have HP := H6.setInt 1 rfl rfl 0 (t.hands.length : Int)
            simp only [List.set_cons_zero, List.set_cons_succ] at HP
            clear H6 hx hSt hr4
            obtain ⟨x0, x1, x2, -, -, -⟩ := HP.box3 3 rfl
            obtain ⟨y0, y1, y2, y3, y4, y5⟩ := HP.box3 4 rfl
            have HZ1 := HP.putBox 4 rfl 0 (.slice C t.store.cells.length kC)
            have HZ2 := HZ1.putBox 4 rfl 1 (.slice (some ⟨gR, 0, none⟩) t.store.roots.length kR)
            have HZ3 := HZ2.putBox 4 rfl 2 (.slice (some ⟨gE, 0, none⟩) t.hands.length kE)
            simp only [List.set_cons_zero, List.set_cons_succ] at HZ1 HZ2 HZ3
            obtain ⟨z1, z2, -, -, -, -⟩ := HZ1.box3 4 rfl
            obtain ⟨z3, z4, -, -, -, -⟩ := HZ2.box3 4 rfl
            obtain ⟨z5, z6, z7, -, -, -⟩ := HZ3.box3 4 rfl
            have HE := (HZ3.erase 3).erase 3
            simp only [List.eraseIdx_cons_zero, List.eraseIdx_cons_succ] at HE
            have HSF : Hid (DrewT lo w0 L i g A n c p (.returned (.agg #[.slice C t.store.cells.length kC, .slice (some ⟨gR, 0, none⟩) t.store.roots.length kR, .slice (some ⟨gE, 0, none⟩) t.hands.length kE])) _) := Go.Lib.hid ⟨⟨⟨t.store.cells, t.store.roots.set 0 (t.hands.length : Int)⟩, t.hands⟩, _, rvs, _, _, _, _, p3 + 2, rfl, HSt.out, .inl (.inl ⟨rfl, rfl⟩), by omega, by omega, HE⟩
            clear HP HZ1 HZ2 HZ3 HE hX
            go_wp2
            exact bodyPost_ret (v := .agg #[.slice C t.store.cells.length kC, .slice (some ⟨gR, 0, none⟩) t.store.roots.length kR, .slice (some ⟨gE, 0, none⟩) t.hands.length kE]) (by simp [results, Try.results21, go_sem, z5, z6, z7]) rfl HSF.out
      · have j1 : ¬ (0 : Int) < (t.hands.length : Int) := by omega
        clear hex hk0
        by_cases hkz : k = 0
        · subst hkz
          obtain ⟨x0, x1, x2, -, -, -⟩ := H.box3 3 rfl
          obtain ⟨y0, y1, y2, y3, y4, y5⟩ := H.box3 4 rfl
          have HZ1 := H.putBox 4 rfl 0 (.slice C t.store.cells.length kC)
          have HZ2 := HZ1.putBox 4 rfl 1 (.slice R t.store.roots.length kR)
          have HZ3 := HZ2.putBox 4 rfl 2 (.slice E t.hands.length kE)
          simp only [List.set_cons_zero, List.set_cons_succ] at HZ1 HZ2 HZ3
          obtain ⟨z1, z2, -, -, -, -⟩ := HZ1.box3 4 rfl
          obtain ⟨z3, z4, -, -, -, -⟩ := HZ2.box3 4 rfl
          obtain ⟨z5, z6, z7, -, -, -⟩ := HZ3.box3 4 rfl
          have HE := (HZ3.erase 3).erase 3
          simp only [List.eraseIdx_cons_zero, List.eraseIdx_cons_succ] at HE
          have HSF : Hid (DrewT lo w0 L i g A n c p (.returned (.agg #[.slice C t.store.cells.length kC, .slice R t.store.roots.length kR, .slice E t.hands.length kE])) _) := Go.Lib.hid ⟨t, _, rvs, _, _, _, _, p3, rfl, hSt, .inl (.inl ⟨rfl, rfl⟩), by omega, by omega, HE⟩
          clear H HZ1 HZ2 HZ3 HE hX
          go_wp2
          exact bodyPost_ret (v := .agg #[.slice C t.store.cells.length kC, .slice R t.store.roots.length kR, .slice E t.hands.length kE]) (by simp [results, Try.results21, go_sem, z5, z6, z7]) rfl HSF.out
        · have j2 : (0 : Int) < (k : Int) := by omega
          obtain ⟨x0, x1, x2, -, -, -⟩ := H.box3 3 rfl
          obtain ⟨y0, y1, y2, y3, y4, y5⟩ := H.box3 4 rfl
          have HZ1 := H.putBox 4 rfl 0 (.slice C t.store.cells.length kC)
          have HZ2 := HZ1.putBox 4 rfl 1 (.slice R t.store.roots.length kR)
          have HZ3 := HZ2.putBox 4 rfl 2 (.slice E t.hands.length kE)
          simp only [List.set_cons_zero, List.set_cons_succ] at HZ1 HZ2 HZ3
          obtain ⟨z1, z2, -, -, -, -⟩ := HZ1.box3 4 rfl
          obtain ⟨z3, z4, -, -, -, -⟩ := HZ2.box3 4 rfl
          obtain ⟨z5, z6, z7, -, -, -⟩ := HZ3.box3 4 rfl
          have HE := (HZ3.erase 3).erase 3
          simp only [List.eraseIdx_cons_zero, List.eraseIdx_cons_succ] at HE
          have HSF : Hid (DrewT lo w0 L i g A n c p (.returned (.agg #[.slice C t.store.cells.length kC, .slice R t.store.roots.length kR, .slice E t.hands.length kE])) _) := Go.Lib.hid ⟨t, _, rvs, _, _, _, _, p3, rfl, hSt, .inl (.inl ⟨rfl, rfl⟩), by omega, by omega, HE⟩
          clear H HZ1 HZ2 HZ3 HE hX
          go_wp2
          exact bodyPost_ret (v := .agg #[.slice C t.store.cells.length kC, .slice R t.store.roots.length kR, .slice E t.hands.length kE]) (by simp [results, Try.results21, go_sem, z5, z6, z7]) rfl HSF.out
theorem Owns.rdTx {lo : Nat} {w0 w : World} {L : List OB} (h : Owns lo w0 w L) (i j k : Nat) {cv rv hv0 : Value} {rvs : List Value} {cs : List Cel} {rs hs hs0 : List Int} {A : Option Addr} {n c : Nat} (hX : L[i]? = some (.cells cv rvs cs)) (hY : L[j]? = some (.ints rv rs)) (hZ : L[k]? = some (.ints hv0 hs0)) (ht : TailT (.slice A n c) hv0 hs hs0) : RdT w w.heap.size (.agg #[cv, rv, .slice A n c]) ⟨⟨cs, rs⟩, hs⟩ := by
  obtain ⟨A1, a, rfl, h1⟩ := h.formC i hX
  obtain ⟨A2, b, rfl, h2⟩ := h.formI j hY
  exact ⟨_, _, _, _, _, _, _, _, _, rfl, h1, h2, h.rdTailT k hZ ht⟩
/-- A table of the call's own. -/
def DrawnT (w : World) (e : Ending) (w' : World) : Prop :=
  ∃ (t : Tbl) (cv : Value) (rvs : List Value) (rv hv hv0 : Value) (hs0 : List Int), e = .returned (.agg #[cv, rv, hv]) ∧ SmT t ∧ TailT hv hv0 t.hands hs0 ∧ Owns w.heap.size w w' [.cells cv rvs t.store.cells, .ints rv t.store.roots, .ints hv0 hs0]
theorem tab_lens {lo : Nat} {w0 w : World} {L : List OB} (h : Owns lo w0 w L) (k : Nat) {hv0 : Value} {hs hs0 : List Int} {A : Option Addr} {n c : Nat} (hZ : L[k]? = some (.ints hv0 hs0)) (ht : TailT (.slice A n c) hv0 hs hs0) : n ≤ hs.length ∧ hs.length ≤ n :=
  ⟨RdI.le1 (h.rdTailT k hZ ht), RdI.le2 (h.rdTailT k hZ ht)⟩
end Go.Proofs.Ytcekohpekpkobaa
