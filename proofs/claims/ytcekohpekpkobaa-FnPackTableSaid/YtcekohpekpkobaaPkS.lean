/- PackTable, the reference's: for every table that can be read. -/
import Derived.Test.YtcekohpekpkobaaPkI
import Derived.Test.YtcekohpekpkobaaMs
import Derived.Test.YtcekohpekpkobaaMg
namespace Go.Proofs.Ytcekohpekpkobaa
open Go.RowKit
/-- The table that is being packed is read: it is the argument's, or what the last exchange made. -/
def PkX (w : World) (L : List OB) (cv rv hv : Value) (X : Tbl) : Prop :=
  RdT w w.heap.size (.agg #[cv, rv, hv]) X ∨ ∃ rvs, L = [.cells cv rvs X.store.cells, .ints rv X.store.roots, .ints hv X.hands]
theorem PkX.rd {w w' : World} {L Q : List OB} {cv rv hv : Value} {X : Tbl} (h : PkX w L cv rv hv X) (H : Owns w.heap.size w w' Q) (n : Nat) (hn : Q.drop n = L) : RdT w' w'.heap.size (.agg #[cv, rv, hv]) X := by
  rcases h with h | ⟨rvs, rfl⟩
  · exact (h.below H.below).top
  · have hq : ∀ i, Q[n + i]? = (Q.drop n)[i]? := fun i => List.getElem?_drop.symm
    exact H.rdT n (n + 1) (n + 2) (rvs := rvs) (by have := hq 0; rw [hn] at this; exact this) (by rw [hq 1, hn]; rfl) (by rw [hq 2, hn]; rfl)
theorem RdT.parts {w : World} {B : Nat} {D D' E : Option Addr} {m d m' d' q f : Nat} {X : Tbl} (h : RdT w B (.agg #[.slice D m d, .slice D' m' d', .slice E q f]) X) :
    RdC w B D m d X.store.cells ∧ RdI w B D' m' d' X.store.roots ∧ RdI w B E q f X.hands := by
  obtain ⟨_, _, _, _, _, _, _, _, _, e, h1, h2, h3⟩ := h
  simp only [Value.agg.injEq, Array.mk.injEq, List.cons.injEq, Value.slice.injEq, and_true] at e
  obtain ⟨⟨rfl, rfl, rfl⟩, ⟨rfl, rfl, rfl⟩, rfl, rfl, rfl⟩ := e
  exact ⟨h1, h2, h3⟩
theorem RdT.lens {w : World} {B : Nat} {D D' E : Option Addr} {m d m' d' q f : Nat} {X : Tbl} (h : RdT w B (.agg #[.slice D m d, .slice D' m' d', .slice E q f]) X) :
    m = X.store.cells.length ∧ q = X.hands.length := by
  obtain ⟨h1, h2, h3⟩ := h.parts
  exact ⟨h1.len, by have := RdI.le1 h3; have := RdI.le2 h3; omega⟩
set_option maxHeartbeats 6400000 in
set_option maxRecDepth 20000 in
theorem specPackTable_any (w : World) (B : Nat) (v : Value) (t : Tbl) (hh : RdT w B v t) (hn : t.store.cells.length ≤ 1048576) (hn2 : t.store.roots.length ≤ 1048576) (hn3 : ∀ c ∈ t.store.cells, c.refs.length ≤ 1048576) (hn4 : t.hands.length ≤ 1048576) :
    Calls Try.prog 17 #[v] w (MadeTN w (mPackT t) (mPackN t)) := by
  have hh' := hh.top
  obtain ⟨D, m, d, D', m', d', E, q, f, rfl, hC, hR, hE⟩ := hh.top
  have HN3 := Go.Lib.hid hn3
  clear hn3 hC hR hE
  have H := ((Owns.nil w).box [.slice D m d, .slice D' m' d', .slice E q f] 28).box [.slice none 0 0, .slice none 0 0, .slice none 0 0] 28
  simp only [World.size_alloc] at H
  obtain ⟨a0, a1, a2, -, -, -⟩ := H.box3 1 rfl
  go_enter Try.func17, Try.ntmps17
  go_wp2_with fail
  refine (specTableValid_any _ _ _ t (hh'.below H.below) hn hn2 HN3.out hn4).mono ?_
  rintro e w1 ⟨rfl, hb⟩
  replace H := H.call hb
  clear hb a0 a1 a2
  obtain ⟨a0, a1, a2, -, -, -⟩ := H.box3 1 rfl
  obtain ⟨y0, y1, y2, y3, y4, y5⟩ := H.box3 0 rfl
  cases hv : mTableValid t
  · have HF : Hid (mPackT t = ⟨⟨[], []⟩, []⟩ ∧ mPackN t = -1) := Go.Lib.hid (by simp [mPackT, mPackN, hv])
    have HZ := (((((H.putBox 0 rfl 0 (.slice none 0 0)).putBox 0 rfl 1 (.slice none 0 0)).putBox 0 rfl 2 (.slice none 0 0)).noInts).noInts).noCells
    simp only [List.set_cons_zero, List.set_cons_succ] at HZ
    obtain ⟨z0, z1, z2, -, -, -⟩ := HZ.box3 3 rfl
    have HS : Hid (MadeTN w (mPackT t) (mPackN t) (.returned (.tuple #[.agg #[.slice none 0 0, .slice none 0 0, .slice none 0 0], .int .i64 (-1)])) _) := Go.Lib.hid (by rw [HF.out.1, HF.out.2]; exact ⟨_, [], _, _, rfl, HZ.take 3⟩)
    clear H HZ hv
    go_wp2
    exact bodyPost_ret (v := .tuple #[.agg #[.slice none 0 0, .slice none 0 0, .slice none 0 0], .int .i64 (-1)]) (by simp [results, Try.results17, go_sem, z0, z1, z2]) rfl HS.out
  have HF : Hid (mPackT t = (packTo t t.store.cells.length).1 ∧ mPackN t = ((packTo t t.store.cells.length).2 : Nat)) := Go.Lib.hid (by simp [mPackT, mPackN, hv])
  have HV := Go.Lib.hid hv
  clear hv
  have H2 := H.box [.slice D m d, .slice D' m' d', .slice E q f] 28
  clear H
  go_wp2_with fail
  clear a0 a1 a2 y0 y1 y2 y3 y4 y5
  go_loopw [4, 6, 7] (fun v4 v6 _ wr => ∃ (k mv : Nat) (X : Tbl) (cv rv hv : Value) (L : List OB), v6 = .int .i64 k ∧ k ≤ t.store.cells.length ∧ v4 = .int .i64 mv ∧ packTo t k = (X, mv) ∧ PkX w L cv rv hv X ∧ Owns w.heap.size w wr (.box w1.heap.size [cv, rv, hv] 28 :: .box (w.heap.size + 1) [.slice none 0 0, .slice none 0 0, .slice none 0 0] 28 :: .box w.heap.size [.slice D m d, .slice D' m' d', .slice E q f] 28 :: L)) (fun _ v6 _ _ => t.store.cells.length - (intOf v6).toNat)
  case atStart => exact ⟨0, 0, t, _, _, _, [], rfl, Nat.zero_le _, rfl, rfl, .inl hh', H2⟩
  case round =>
    clear H2
    obtain ⟨k, mv, X, cv, rv, hv, L, rfl, hk, rfl, hX, hPk, H⟩ := hrel
    have HRd := hPk.rd H 3 rfl
    obtain ⟨G, p, c', G', p', c'', G'', p'', c3, e, -, -, -⟩ := id HRd
    simp only [Value.agg.injEq, Array.mk.injEq, List.cons.injEq, and_true] at e
    obtain ⟨rfl, rfl, rfl⟩ := e
    obtain ⟨rfl, rfl⟩ := HRd.lens
    obtain ⟨x0, x1, x2, -, -, -⟩ := H.box3 0 rfl
    have hl := packTo_len t k
    rw [hX] at hl
    simp only at hl
    have HX := Go.Lib.hid hX
    have HL := Go.Lib.hid hl.1
    have HL2 := Go.Lib.hid hl.2.1
    have hmv := hl.2.2
    have HXV : Hid (mTableValid X = true) := Go.Lib.hid (by have := packTo_valid HV.out k hk; rwa [hX] at this)
    have HSz := Go.Lib.hid (tab_refs HXV.out)
    have HHL : Hid (X.hands.length = t.store.cells.length) := Go.Lib.hid (by have h9 := HXV.out; simp only [mTableValid, Bool.and_eq_true, decide_eq_true_eq] at h9; rw [h9.1.1.1, HL.out])
    have hPk := Go.Lib.hid hPk
    have HRd := Go.Lib.hid HRd
    rw [HL.out] at x0
    clear hX hl
    by_cases hlt : k < t.store.cells.length
    · go_wp2_with fail
      clear x0 x1 x2
      go_loopw [7] (fun v7 wx => ∃ c : Nat, v7 = .int .i64 c ∧ k ≤ c ∧ c ≤ t.store.cells.length ∧ Hid (∀ i, k ≤ i → i < c → usedAt X i = false) ∧ Owns w.heap.size w wx (.box w1.heap.size [.slice G X.store.cells.length c', .slice G' p' c'', .slice G'' X.hands.length c3] 28 :: .box (w.heap.size + 1) [.slice none 0 0, .slice none 0 0, .slice none 0 0] 28 :: .box w.heap.size [.slice D m d, .slice D' m' d', .slice E q f] 28 :: L)) (fun v7 _ => t.store.cells.length - (intOf v7).toNat)
      case atStart => exact ⟨k, rfl, Nat.le_refl _, by omega, Go.Lib.hid fun i h1 h2 => by omega, H⟩
      case round =>
        clear H HRd
        obtain ⟨c, rfl, hc1, hc2, HN, H⟩ := hrel
        have HRd := Go.Lib.hid (hPk.out.rd H 3 rfl)
        obtain ⟨x0, x1, x2, -, -, -⟩ := H.box3 0 rfl
        rw [HL.out] at x0
        by_cases hlc : c < t.store.cells.length
        · obtain ⟨b, o, l2, A2, n2, k2, rfl, -, hl2, u2, -, -, -⟩ := HRd.out.parts.1.at_ (show c < X.store.cells.length by rw [HL.out]; exact hlc)
          have hU2 := usedAt_of hl2
          cases hu2 : l2.used
          · rw [hu2] at u2 hU2
            have HN2 : Hid (∀ i, k ≤ i → i < c + 1 → usedAt X i = false) := Go.Lib.hid fun i h1 h2 => by
              by_cases e : i = c
              · rw [e]; exact hU2
              · exact HN.out i h1 (by omega)
            clear hu2 hU2
            go_wp2_with fail
            go_roundw
            case rel => exact ⟨c + 1, by go_num, by omega, by omega, HN2, H⟩
            case measure => simp [intOf]; omega
          · rw [hu2] at u2 hU2
            have HE := Go.Lib.hid (packTo_succ HX.out)
            by_cases hck : c = k
            · subst hck
              rw [packStep_used hU2] at HE
              clear hu2 hU2
              go_wp2_with fail
              go_roundw
              case rel => exact ⟨c + 1, mv, X, _, _, _, L, by go_num, by omega, rfl, HE.out, hPk.out, H⟩
              case measure => simp [intOf]; omega
            · rw [packStep_some (HN.out k (Nat.le_refl _) (by omega)) (firstU_some (show k < c by omega) (by rw [HL.out]; exact hlc) hU2 fun i h1 h2 => HN.out i (by omega) h2)] at HE
              have hkc : k < c := by omega
              have HMv : Hid (mMove X k c = mMoved X k c) := Go.Lib.hid (by
                unfold mMove; rw [if_pos]; rfl
                have := HHL.out
                simp [mMoveOk, HXV.out]; omega)
              clear hu2 hU2 hck
              go_wp2_with fail
              have hrd := HRd.out
              rw [HL.out] at hrd
              refine (specMoveCells_any _ _ _ X k c hrd (by have := HSz.out.2.1; omega) (by have := HSz.out.2.2.1; omega) (fun c hc => by have := HSz.out.1 c hc; omega) (by have := HSz.out.2.2.2; omega)).mono ?_
              rintro e w5 ⟨cv', rvs', rv', hv', rfl, K⟩
              rw [HMv.out] at K
              have K2 := (H.merge K).take 6
              simp only [List.cons_append, List.nil_append, List.take_succ_cons, List.take_zero] at K2
              obtain ⟨C9, k9, rfl, -⟩ := K2.formC 0 rfl
              obtain ⟨R9, j9, rfl, -⟩ := K2.formI 1 rfl
              obtain ⟨V9, i9, rfl, -⟩ := K2.formI 2 rfl
              have H5 := ((K2.putBox 3 rfl 0 (.slice C9 (mMoved X k c).store.cells.length k9)).putBox 3 rfl 1 (.slice R9 (mMoved X k c).store.roots.length j9)).putBox 3 rfl 2 (.slice V9 (mMoved X k c).hands.length i9)
              simp only [List.set_cons_zero, List.set_cons_succ] at H5
              obtain ⟨y0, y1, y2, y3, y4, y5⟩ := K2.box3 3 rfl
              clear H K K2 x0 x1 x2 u2
              go_wp2_with fail
              go_roundw
              case rel => exact ⟨k + 1, mv + 1, mMoved X k c, _, _, _, [.cells _ rvs' (mMoved X k c).store.cells, .ints _ (mMoved X k c).store.roots, .ints _ (mMoved X k c).hands], by go_num, by omega, by go_num, HE.out, .inr ⟨rvs', rfl⟩, H5.order [3, 4, 5, 0, 1, 2] (by decide) rfl⟩
              case measure => simp [intOf]; omega
        · have HE := Go.Lib.hid (packTo_succ HX.out)
          rw [packStep_none (HN.out k (Nat.le_refl _) (by omega)) (firstU_none fun i h1 h2 => HN.out i (by omega) (by rw [HL.out] at h2; omega))] at HE
          go_wp2_with fail
          go_roundw
          case rel => exact ⟨k + 1, mv, X, _, _, _, L, by go_num, by omega, rfl, HE.out, hPk.out, H⟩
          case measure => simp [intOf]; omega
    · obtain rfl : k = t.store.cells.length := by omega
      have HS0 : Hid (mPackT t = X ∧ mPackN t = (mv : Int)) := Go.Lib.hid (by rw [HF.out.1, HF.out.2, HX.out]; exact ⟨rfl, rfl⟩)
      have hqn : X.hands.length ≤ 40 := HSz.out.2.2.2
      go_upto_region 14 with fail
      have HX := H.drew
      have H0 := Go.Lib.hid H
      clear H x0 x1 x2 HRd
      obtain ⟨a0, a1, a2, -, -, -⟩ := HX.box3 0 rfl
      refine wp_region_tree (fun w' => w'.cell? ⟨w1.heap.size, 0, none⟩ = some (.slice G X.store.cells.length c') ∧ w'.cell? ⟨w1.heap.size, 1, none⟩ = some (.slice G' p' c'') ∧ w'.cell? ⟨w1.heap.size, 2, none⟩ = some (.slice G'' X.hands.length c3)) 11 [] (.take 0 (.take 1 (.take 4 (.take 5 (.take 8 (.alt 2 (.alt 3 (.alt 6 (.take 7 (.alt 9 (.take 10 (.done)) (.stop))) (.stop)) (.stop)) (.alt 3 (.alt 2 (.alt 6 (.take 7 (.alt 9 (.take 10 (.done)) (.stop))) (.stop)) (.stop)) (.stop)))))))) (by kernel_rfl) (by kernel_rfl) (by kernel_rfl) (⟨a0, a1, a2⟩) ?_
      simp only [fillT, List.getElem?_cons_zero, List.getElem?_cons_succ, Nat.reduceBEq]
      repeat (first
        | (with_reducible refine po_take (v := ?_) ?_ (fun w' hS' => ?_) ?_
           rotate_left
           · (go_simp; done)
           · ((try dsimp only at hS'); go_simp; try with_reducible rfl)
           simp only [Act.put, List.setIfInBounds_toArray, List.set_cons_zero, List.set_cons_succ])
        | (with_reducible refine po_skip ?_ ?_
           · (go_simp; done)
           simp only [Act.put, List.setIfInBounds_toArray, List.set_cons_zero, List.set_cons_succ]))
      with_reducible refine po_run ?_ (fun K hK => ?_) ?_
      · (go_simp; done)
      · -- operation 2 first
        try (revert a0 a1 a2 HX; generalize World.drew _ = wd; intro HX a0 a1 a2)
        go_simp
        have hrt := hPk.out.rd HX (3 + 0) rfl
        refine (l7Copy_any _ _ _ X.store ⟨_, _, _, _, _, _, rfl, hrt.parts.1, hrt.parts.2.1⟩ (by have := HSz.out.2.1; omega) (by have := HSz.out.2.2.1; omega) (fun c hc => by have := HSz.out.1 c hc; omega)).mono ?_
        rintro e w2 ⟨v1, rfl, ho, hb⟩
        obtain ⟨cv, rvs, rv, rfl, K⟩ := HX.madeH ho hb
        obtain ⟨C, kC, rfl, -⟩ := K.formC 0 rfl
        obtain ⟨R, kR, rfl, -⟩ := K.formI 1 rfl
        clear HX ho hb hrt
        have HX := K
        clear K
        clear a0 a1 a2
        obtain ⟨a0, a1, a2, -, -, -⟩ := HX.box3 (2 + 0) rfl
        refine hK.out _ _ (.inr (⟨a0, a1, a2⟩)) ?_
        clear hK K
        with_reducible refine po_run ?_ (fun K hK => ?_) ?_
        · (go_simp; done)
        rotate_left
        · exact po_stop
        try (revert a0 a1 a2 HX; generalize World.drew _ = wd; intro HX a0 a1 a2)
        go_simp
        replace HX := HX.litI [] zero_le_maxLen
        try simp only [List.map_nil, List.length_nil] at HX
        clear a0 a1 a2
        obtain ⟨a0, a1, a2, -, -, -⟩ := HX.box3 (1 + 2 * 1) rfl
        refine hK.out _ _ (.inr (⟨a0, a1, a2⟩)) ?_
        clear hK K
        revert a0 a1 a2 HX
        generalize World.alloc _ _ = wz
        intro HX a0 a1 a2
        with_reducible refine po_run ?_ (fun K hK => ?_) ?_
        · (go_simp; done)
        rotate_left
        · exact po_stop
        have hrt := (hPk.out.rd HX (4 + 2 * 1) rfl).parts.2.2
        refine wp_pushO (.tmp 60) (.tmp 62) rfl HX (2 * 0) rfl rfl rfl hrt (by simp; omega) ?_
        intro V kV w5 HY
        simp only [List.nil_append] at HY
        simp only [List.nil_append]
        clear hrt
        replace HX := HY
        clear HY
        clear a0 a1 a2
        obtain ⟨a0, a1, a2, -, -, -⟩ := HX.box3 (1 + 2 * 1) rfl
        refine hK.out _ _ (.inr (⟨a0, a1, a2⟩)) ?_
        clear hK K
        repeat (first
          | (with_reducible refine po_take (v := ?_) ?_ (fun w' hS' => ?_) ?_
             rotate_left
             · (go_simp; done)
             · ((try dsimp only at hS'); go_simp; try with_reducible rfl)
             simp only [Act.put, List.setIfInBounds_toArray, List.set_cons_zero, List.set_cons_succ])
          | (with_reducible refine po_skip ?_ ?_
             · (go_simp; done)
             simp only [Act.put, List.setIfInBounds_toArray, List.set_cons_zero, List.set_cons_succ]))
        with_reducible refine po_run ?_ (fun K hK => ?_) ?_
        · (go_simp; done)
        rotate_left
        · exact po_stop
        obtain ⟨y0, y1, y2, y3, y4, y5⟩ := HX.box3 4 rfl
        go_simp
        have HQ := ((HX.putBox 4 rfl 0 (.slice C X.store.cells.length kC)).putBox 4 rfl 1 (.slice R X.store.roots.length kR)).putBox 4 rfl 2 (.slice V X.hands.length kV)
        clear HX y0 y1 y2 y3 y4 y5 a0 a1 a2
        simp only [List.set_cons_zero, List.set_cons_succ] at HQ
        obtain ⟨a0, a1, a2, -, -, -⟩ := HQ.box3 3 rfl
        refine hK.out _ _ (.inr (⟨a0, a1, a2⟩)) ?_
        clear hK K
        repeat (first
          | (with_reducible refine po_take (v := ?_) ?_ (fun w' hS' => ?_) ?_
             rotate_left
             · (go_simp; done)
             · ((try dsimp only at hS'); go_simp; try with_reducible rfl)
             simp only [Act.put, List.setIfInBounds_toArray, List.set_cons_zero, List.set_cons_succ])
          | (with_reducible refine po_skip ?_ ?_
             · (go_simp; done)
             simp only [Act.put, List.setIfInBounds_toArray, List.set_cons_zero, List.set_cons_succ]))
        refine po_done ?_
        clear H0 a0 a1 a2
        obtain ⟨z0, z1, z2, -, -, -⟩ := HQ.box3 4 rfl
        have HS : Hid (MadeTN w (mPackT t) (mPackN t) (.returned (.tuple #[.agg #[.slice C X.store.cells.length kC, .slice R X.store.roots.length kR, .slice V X.hands.length kV], .int .i64 mv])) _) := Go.Lib.hid (by rw [HS0.out.1, HS0.out.2]; exact ⟨_, rvs, _, _, rfl, HQ.order [1, 1 + 1, 2 * 0] (by decide) rfl⟩)
        clear HQ
        go_wp2
        exact bodyPost_ret (v := .tuple #[.agg #[.slice C X.store.cells.length kC, .slice R X.store.roots.length kR, .slice V X.hands.length kV], .int .i64 mv]) (by simp [results, Try.results17, go_sem, z0, z1, z2]) rfl HS.out
      with_reducible refine po_run ?_ (fun K hK => ?_) ?_
      · (go_simp; done)
      rotate_left
      · exact po_stop
      try (revert a0 a1 a2 HX; generalize World.drew _ = wd; intro HX a0 a1 a2)
      go_simp
      replace HX := HX.litI [] zero_le_maxLen
      try simp only [List.map_nil, List.length_nil] at HX
      clear a0 a1 a2
      obtain ⟨a0, a1, a2, -, -, -⟩ := HX.box3 (1 + 2 * 0) rfl
      refine hK.out _ _ (.inr (⟨a0, a1, a2⟩)) ?_
      clear hK K
      revert a0 a1 a2 HX
      generalize World.alloc _ _ = wz
      intro HX a0 a1 a2
      with_reducible refine po_run ?_ (fun K hK => ?_) ?_
      · (go_simp; done)
      rotate_left
      · exact po_stop
      try (revert a0 a1 a2 HX; generalize World.drew _ = wd; intro HX a0 a1 a2)
      go_simp
      have hrt := hPk.out.rd HX (3 + 1) rfl
      refine (l7Copy_any _ _ _ X.store ⟨_, _, _, _, _, _, rfl, hrt.parts.1, hrt.parts.2.1⟩ (by have := HSz.out.2.1; omega) (by have := HSz.out.2.2.1; omega) (fun c hc => by have := HSz.out.1 c hc; omega)).mono ?_
      rintro e w2 ⟨v1, rfl, ho, hb⟩
      obtain ⟨cv, rvs, rv, rfl, K⟩ := HX.madeH ho hb
      obtain ⟨C, kC, rfl, -⟩ := K.formC 0 rfl
      obtain ⟨R, kR, rfl, -⟩ := K.formI 1 rfl
      clear HX ho hb hrt
      have HX := K
      clear K
      clear a0 a1 a2
      obtain ⟨a0, a1, a2, -, -, -⟩ := HX.box3 (2 + 1) rfl
      refine hK.out _ _ (.inr (⟨a0, a1, a2⟩)) ?_
      clear hK K
      with_reducible refine po_run ?_ (fun K hK => ?_) ?_
      · (go_simp; done)
      rotate_left
      · exact po_stop
      have hrt := (hPk.out.rd HX (4 + 2 * 1) rfl).parts.2.2
      refine wp_pushO (.tmp 60) (.tmp 62) rfl HX (2 * 1) rfl rfl rfl hrt (by simp; omega) ?_
      intro V kV w5 HY
      simp only [List.set_cons_zero, List.set_cons_succ, List.nil_append] at HY
      simp only [List.nil_append]
      clear hrt
      replace HX := HY
      clear HY
      clear a0 a1 a2
      obtain ⟨a0, a1, a2, -, -, -⟩ := HX.box3 (1 + 2 * 1) rfl
      refine hK.out _ _ (.inr (⟨a0, a1, a2⟩)) ?_
      clear hK K
      repeat (first
        | (with_reducible refine po_take (v := ?_) ?_ (fun w' hS' => ?_) ?_
           rotate_left
           · (go_simp; done)
           · ((try dsimp only at hS'); go_simp; try with_reducible rfl)
           simp only [Act.put, List.setIfInBounds_toArray, List.set_cons_zero, List.set_cons_succ])
        | (with_reducible refine po_skip ?_ ?_
           · (go_simp; done)
           simp only [Act.put, List.setIfInBounds_toArray, List.set_cons_zero, List.set_cons_succ]))
      with_reducible refine po_run ?_ (fun K hK => ?_) ?_
      · (go_simp; done)
      rotate_left
      · exact po_stop
      obtain ⟨y0, y1, y2, y3, y4, y5⟩ := HX.box3 4 rfl
      go_simp
      have HQ := ((HX.putBox 4 rfl 0 (.slice C X.store.cells.length kC)).putBox 4 rfl 1 (.slice R X.store.roots.length kR)).putBox 4 rfl 2 (.slice V X.hands.length kV)
      clear HX y0 y1 y2 y3 y4 y5 a0 a1 a2
      simp only [List.set_cons_zero, List.set_cons_succ] at HQ
      obtain ⟨a0, a1, a2, -, -, -⟩ := HQ.box3 3 rfl
      refine hK.out _ _ (.inr (⟨a0, a1, a2⟩)) ?_
      clear hK K
      repeat (first
        | (with_reducible refine po_take (v := ?_) ?_ (fun w' hS' => ?_) ?_
           rotate_left
           · (go_simp; done)
           · ((try dsimp only at hS'); go_simp; try with_reducible rfl)
           simp only [Act.put, List.setIfInBounds_toArray, List.set_cons_zero, List.set_cons_succ])
        | (with_reducible refine po_skip ?_ ?_
           · (go_simp; done)
           simp only [Act.put, List.setIfInBounds_toArray, List.set_cons_zero, List.set_cons_succ]))
      refine po_done ?_
      clear H0 a0 a1 a2
      obtain ⟨z0, z1, z2, -, -, -⟩ := HQ.box3 4 rfl
      have HS : Hid (MadeTN w (mPackT t) (mPackN t) (.returned (.tuple #[.agg #[.slice C X.store.cells.length kC, .slice R X.store.roots.length kR, .slice V X.hands.length kV], .int .i64 mv])) _) := Go.Lib.hid (by rw [HS0.out.1, HS0.out.2]; exact ⟨_, rvs, _, _, rfl, HQ.order [0, 0 + 1, 2 * 1] (by decide) rfl⟩)
      clear HQ
      go_wp2
      exact bodyPost_ret (v := .tuple #[.agg #[.slice C X.store.cells.length kC, .slice R X.store.roots.length kR, .slice V X.hands.length kV], .int .i64 mv]) (by simp [results, Try.results17, go_sem, z0, z1, z2]) rfl HS.out
end Go.Proofs.Ytcekohpekpkobaa
