/- An image drawn from a code; the law FnImageSum's walk. For every code that can be read. -/
import Derived.Test.YtnpehidhoekfcaaIg
import Derived.Test.YtnpehidhoekfcaaAl
import Derived.Test.YtnpehidhoekfcaaSu
import Derived.Test.YtnpehidhoekfcaaIa
namespace Go.Proofs.Ytnpehidhoekfcaa
open Go.RowKit
/-- Some numbers of the call's own. -/
def DrawnIs (w : World) (e : Ending) (w' : World) : Prop :=
  ∃ (v : Value) (xs : List Int), e = .returned v ∧ (∀ x ∈ xs, I64 x) ∧ xs.length ≤ 300 ∧ Owns w.heap.size w w' [.ints v xs]
set_option maxHeartbeats 1600000 in
set_option maxRecDepth 20000 in
theorem DrawImageSum_any (w : World) (A : Option Addr) (n c : Nat) (bs : List Int) (hr : RdY w w.heap.size A n c bs) :
    Calls Try.prog 19 #[.slice A n c] w (DrawnIs w) := by
  go_enter Try.func19, Try.ntmps19
  go_wp2_with fail
  refine (open_own (Owns.nil w) A n c bs hr).mono ?_
  rintro e w1 ⟨g, A1, n1, c1, bs1, rfl, hU, H1⟩
  clear hr
  go_wp2_with fail
  refine (image_own H1 0 rfl hU (by omega) 6 (by omega) (by omega)).mono ?_
  rintro e w2 ⟨v, xs, p1, rfl, hI, hl, -, -, H2⟩
  simp only [List.set_cons_zero] at H2
  have HS : Hid (DrawnIs w (.returned v) w2) := Go.Lib.hid ⟨v, xs, rfl, hI, hl, H2.take 1⟩
  clear H1 H2 hU hI
  go_wp2
  go_ret
  exact HS.out
theorem setDatH_vals {h : Hp} {k : Nat} {l : Cel} {rvs : List Value} (hs : rvs.length = h.cells.length) (hl : h.cells[k]? = some l) (d : Int) : (cellVals h.cells rvs).set (k * 3 + 1) (.int .i64 d) = cellVals (setDatH h k l d).cells rvs := by
  have hk := (List.getElem?_eq_some_iff.1 hl).1
  have e1 := (cellVals_at h.cells rvs k l (rvs[k]'(by omega)) hl (List.getElem?_eq_getElem (by omega))).1
  have e2 : (cellVals h.cells rvs).set (k * 3) (.bool l.used) = cellVals h.cells rvs := by
    obtain ⟨h1, h2⟩ := List.getElem?_eq_some_iff.1 e1
    rw [← h2]; exact List.set_getElem_self h1
  have e3 := cellVals_set2 h.cells rvs k l l.used d hs hl
  rw [e2] at e3
  exact e3.symm
theorem setDatH_refs {h : Hp} {k : Nat} {l : Cel} (hl : h.cells[k]? = some l) (d : Int) : ∀ (j : Nat) (c' c : Cel), (setDatH h k l d).cells[j]? = some c' → h.cells[j]? = some c → c'.refs = c.refs := by
  intro j c' c h1 h2
  unfold setDatH at h1
  rw [List.getElem?_set] at h1
  split at h1
  · rename_i e
    subst e
    split at h1
    · rw [hl] at h2
      cases h1; cases h2; rfl
    · cases h1
  · rw [h1] at h2; cases h2; rfl
set_option maxHeartbeats 6400000 in
set_option maxRecDepth 20000 in
theorem lawImageSum_any (w : World) {A : Option Addr} {n c : Nat} {bs : List Int} (hr : RdY w w.heap.size A n c bs) :
    Calls Try.prog 5 #[.slice A n c] w fun e w' => e = .returned (.bool true) ∧ Below w.heap.size w w' := by
  by_cases s0 : 1048576 < n
  · go_enter Try.func5, Try.ntmps5
    go_wp2
    go_ret
    exact ⟨rfl, Below.refl _ _⟩
  go_enter Try.func5, Try.ntmps5
  go_wp2_with fail
  refine (DrawImageSum_any w A n c bs hr).mono ?_
  rintro e w1 ⟨v, xs, rfl, hI, hl, H⟩
  obtain ⟨V, kV, rfl, -⟩ := H.formI 0 rfl
  have HI := Go.Lib.hid hI
  clear hI hr s0
  obtain ⟨s, hs⟩ : ∃ s, s = mImageSum xs := ⟨_, rfl⟩
  have HSe := Go.Lib.hid hs
  clear hs
  go_wp2_with fail
  refine (implImageSum_any _ _ _ _ _ xs (H.owI 0 rfl).rdI HI.out).mono ?_
  rintro e w2 ⟨rfl, hb2⟩
  rw [← HSe.out]
  have H2 := H.call hb2
  clear H hb2
  go_wp2_with fail
  refine (specImageSum_any _ _ _ _ _ xs (H2.owI 0 rfl).rdI HI.out (by omega)).mono ?_
  rintro e w3 ⟨rfl, hb3⟩
  rw [← HSe.out]
  have H3 := H2.call hb3
  clear H2 hb3
  cases hok : ldOk xs
  · obtain rfl : s = -1 := HSe.out.trans (mSum_no hok)
    clear hok
    go_wp2_with fail
    refine (alive_any _).mono ?_
    rintro e w8 ⟨rfl, hb⟩
    have HB := (H3.call hb).below
    clear H3 hb
    go_wp2
    go_ret
    exact ⟨rfl, HB⟩
  · have hsv : s = sumUp xs := HSe.out.trans (mSum_yes hok)
    obtain ⟨hs0, hs1⟩ : 0 ≤ s ∧ s < 65521 := by rw [hsv]; exact sumUp_in xs
    have hi := ldOk_img hok
    obtain ⟨e1, e2⟩ := mLoad_yes hok
    obtain ⟨Z, hZ⟩ : ∃ Z, Z = ldHeap xs := ⟨_, rfl⟩
    obtain ⟨o, ho⟩ : ∃ o, o = ldBase xs := ⟨_, rfl⟩
    rw [← hZ] at hi e1
    rw [← ho] at hi e2
    have HL1 := Go.Lib.hid e1
    have HL2 := Go.Lib.hid e2
    have HOb : Hid (I64 o) := Go.Lib.hid (by have := hi.b0; have := hi.b1; unfold I64; omega)
    have h40 := (heapOk_small hi.ok).1
    have HD : Hid (∀ (k : Nat) (l : Cel), Z.cells[k]? = some l → l.used = true → 0 ≤ l.data ∧ l.data ≤ 99) := Go.Lib.hid fun k l hl hu => by
      have h1 := hi.ok
      simp only [heapOk, Bool.and_eq_true, List.all_eq_true] at h1
      have h2 := h1.1.2 l (List.mem_of_getElem? hl)
      unfold cellOk at h2
      rw [if_pos hu] at h2
      simp only [Bool.and_eq_true, decide_eq_true_eq] at h2
      exact h2.2.1
    have HSn : Hid (∀ (k : Nat) (l : Cel), Z.cells[k]? = some l → l.used = true → l.data ≠ 99 → mImageSum (mSaveImage (setDatH Z k l (l.data + 1)) o) ≠ s ∧ ∀ x ∈ mSaveImage (setDatH Z k l (l.data + 1)) o, I64 x) := Go.Lib.hid fun k l hl hu hd => by
      rw [HSe.out]; exact sum_next hi hl hu hd
    clear hok hsv hi e1 e2 hZ ho
    go_wp2_with fail
    refine (implLoadImage_any _ _ _ _ _ xs (H3.owI 0 rfl).rdI HI.out).mono ?_
    rintro e w4 ⟨cv4, rvs4, rv4, rfl, K⟩
    rw [HL1.out] at K
    rw [HL2.out]
    have H4 := H3.merge K
    simp only [List.cons_append, List.nil_append] at H4
    clear H3 K HL1 HL2
    obtain ⟨C4, k4, rfl, -⟩ := H4.formC 0 rfl
    obtain ⟨R4, kR4, rfl, -⟩ := H4.formI 1 rfl
    have H5 := H4.box [.slice C4 Z.cells.length k4, .slice R4 Z.roots.length kR4] 27
    clear H4
    go_wp2_with fail
    go_loopw [8] (fun i wr => ∃ k : Nat, i = .int .i64 k ∧ k ≤ Z.cells.length ∧ Owns w.heap.size w wr [.box w4.heap.size [.slice C4 Z.cells.length k4, .slice R4 Z.roots.length kR4] 27, .cells (.slice C4 Z.cells.length k4) rvs4 Z.cells, .ints (.slice R4 Z.roots.length kR4) Z.roots, .ints (.slice V xs.length kV) xs]) (fun i _ => Z.cells.length - (intOf i).toNat)
    case atStart => exact ⟨0, rfl, Nat.zero_le _, H5⟩
    case round =>
      clear H5
      obtain ⟨k, rfl, hk, H⟩ := hrel
      obtain ⟨x0, x1, -, -⟩ := H.box2 0 rfl
      by_cases hlt : k < Z.cells.length
      · obtain ⟨l, hl0⟩ : ∃ l, Hid (Z.cells[k]? = some l) := ⟨_, Go.Lib.hid (List.getElem?_eq_getElem hlt)⟩
        have hsame := Go.Lib.hid (H.owC 1 rfl).same
        obtain ⟨gC, cC, A3, c3, eC, -, u1, u2, -, -, -, -, -, -⟩ := H.cellW 1 rfl hl0
        simp only [Value.slice.injEq] at eC
        obtain ⟨rfl, -, rfl⟩ := eC
        have i1 : (0 : Int) ≤ (k : Int) := by omega
        have i2 : (k : Int) < (Z.cells.length : Int) := by omega
        cases hu : l.used
        · rw [hu] at u1
          clear hu
          go_wp2
          go_roundw
          case rel => first | exact ⟨k + 1, by go_num, by omega, H⟩ | exact ⟨k + 1, by go_num, by omega⟩
          case measure => simp [intOf]; omega
        · rw [hu] at u1
          by_cases hd : l.data = 99
          · rw [hd] at u2
            clear hu hd
            go_wp2
            go_roundw
            case rel => first | exact ⟨k + 1, by go_num, by omega, H⟩ | exact ⟨k + 1, by go_num, by omega⟩
            case measure => simp [intOf]; omega
          · obtain ⟨d0, d1⟩ := HD.out k l hl0.out hu
            obtain ⟨n1, n2⟩ := HSn.out k l hl0.out hu hd
            have HN1 := Go.Lib.hid n1
            have HN2 := Go.Lib.hid n2
            obtain ⟨d, hdd⟩ : ∃ d, d = l.data := ⟨_, rfl⟩
            have HDd := Go.Lib.hid hdd
            rw [← hdd] at u2 d0 d1 hd
            have t1 : IntKind.i64.wrap (d + 1) = d + 1 := IntWalk.i64_in _ (by omega)
            have e99 : (d == 99) = false := by rw [beq_eq_false_iff_ne]; exact hd
            clear hu n1 n2 hdd
            go_wp2_with fail
            have HX := H.drew
            have H0 := Go.Lib.hid H
            clear H x0 x1 u1
            obtain ⟨x0, x1, -, -⟩ := HX.box2 0 rfl
            refine wp_region_tree (fun w' => w'.cell? ⟨w4.heap.size, 0, none⟩ = some (.slice (some ⟨gC, 0, none⟩) Z.cells.length k4) ∧ w'.cell? ⟨w4.heap.size, 1, none⟩ = some (.slice R4 Z.roots.length kR4)) 8 [] (.take 1 (.take 2 (.take 4 (.take 5 (.alt 0 (.alt 3 (.take 6 (.alt 7 (.alt 8 (.done) (.stop)) (.stop))) (.alt 7 (.alt 3 (.take 6 (.alt 8 (.done) (.stop))) (.stop)) (.stop))) (.alt 7 (.alt 0 (.alt 3 (.take 6 (.alt 8 (.done) (.stop))) (.stop)) (.stop)) (.stop))))))) (by kernel_rfl) (by kernel_rfl) (by kernel_rfl) (⟨x0, x1⟩) ?_
            simp only [fillT, List.getElem?_cons_zero, List.getElem?_cons_succ, Nat.reduceBEq]
            repeat (first
              | (with_reducible refine po_take (v := ?_) ?_ (fun w' hS' => ?_) ?_
                 rotate_left
                 · (go_simp; done)
                 · ((try dsimp only at hS'); go_simp; try with_reducible rfl)
                 simp only [Act.put, List.setIfInBounds_toArray, List.set_cons_zero, List.set_cons_succ])
              | (with_reducible refine po_skip ?_ ?_
                 · (go_simp; done)
                 simp only [Act.put, List.setIfInBounds_toArray, List.set_cons_zero, List.set_cons_succ]))
            with_reducible refine po_run ?_ (fun K hK => ?_) ?_
            · (go_simp; done)
            · -- operation 0 first
              try (revert x0 x1 HX; generalize World.drew _ = wd; intro HX x0 x1)
              go_simp
              replace HX := HX.litC0
              clear x0 x1
              obtain ⟨x0, x1, -, -⟩ := HX.box2 1 rfl
              refine hK.out _ _ (.inr (⟨x0, x1⟩)) ?_
              clear hK K
              revert x0 x1 HX
              generalize World.alloc _ _ = wz
              intro HX x0 x1
              with_reducible refine po_run ?_ (fun K hK => ?_) ?_
              · (go_simp; done)
              · -- operation 3 first
                refine wp_pushAll (.tmp 57) (.tmp 59) rfl HX 0 2 rfl rfl (by omega) rfl rfl ?_
                intro A5 k5 w5 HY
                simp only [List.set_cons_zero, List.set_cons_succ] at HY
                clear HX x0 x1
                have HX := HY
                clear HY
                obtain ⟨x0, x1, -, -⟩ := HX.box2 1 rfl
                refine hK.out _ _ (.inr (⟨x0, x1⟩)) ?_
                clear hK K
                repeat (first
                  | (with_reducible refine po_take (v := ?_) ?_ (fun w' hS' => ?_) ?_
                     rotate_left
                     · (go_simp; done)
                     · ((try dsimp only at hS'); go_simp; try with_reducible rfl)
                     simp only [Act.put, List.setIfInBounds_toArray, List.set_cons_zero, List.set_cons_succ])
                  | (with_reducible refine po_skip ?_ ?_
                     · (go_simp; done)
                     simp only [Act.put, List.setIfInBounds_toArray, List.set_cons_zero, List.set_cons_succ]))
                with_reducible refine po_run ?_ (fun K hK => ?_) ?_
                · (go_simp; done)
                rotate_left
                · exact po_stop
                try (revert x0 x1 HX; generalize World.drew _ = wd; intro HX x0 x1)
                obtain ⟨gx, hgx⟩ := HX.sizeName
                go_simp
                replace HX := HX.box [.slice none 0 0, .slice none 0 0] 27
                clear x0 x1
                obtain ⟨x0, x1, -, -⟩ := HX.box2 2 rfl
                refine hK.out _ _ (.inr (⟨x0, x1⟩)) ?_
                clear hK K
                revert x0 x1 HX
                try rw [hgx]
                generalize World.alloc _ _ = wz
                intro HX x0 x1
                clear hgx
                with_reducible refine po_run ?_ (fun K hK => ?_) ?_
                · (go_simp; done)
                rotate_left
                · exact po_stop
                obtain ⟨y0, y1, y2, y3⟩ := HX.box2 0 rfl
                go_simp
                have HZ := (HX.putBox 0 rfl 0 (.slice A5 Z.cells.length k5)).putBox 0 rfl 1 (.slice R4 Z.roots.length kR4)
                simp only [List.set_cons_zero, List.set_cons_succ] at HZ
                clear HX x0 x1 y0 y1 y2 y3
                have HX := HZ
                clear HZ
                obtain ⟨x0, x1, -, -⟩ := HX.box2 2 rfl
                refine hK.out _ _ (.inr (⟨x0, x1⟩)) ?_
                clear hK K
                refine po_done ?_
                clear H0 x0 x1 u2
                revert HX
                generalize World.setCell _ _ _ = wq
                intro HX
                obtain ⟨gr, cr, er, -, -, -, -⟩ := HX.rowAt 1 rfl (by omega)
                simp only [Value.slice.injEq] at er
                obtain ⟨rfl, -, rfl⟩ := er
                obtain ⟨-, v2, -⟩ := cellVals_at Z.cells rvs4 k l (rvs4[k]'(by have := hsame.out; omega)) hl0.out (List.getElem?_eq_getElem _)
                rw [← HDd.out] at v2
                have H6 := HX
                clear HX
                go_wp2_with fail
                have HX := H6.drew
                have H6h := Go.Lib.hid H6
                clear H6
                obtain ⟨q0, q1⟩ := HX.elem 1 rfl (j := k * 3 + 1) v2
                obtain ⟨y0, y1, -, -⟩ := HX.box2 0 rfl
                obtain ⟨x0, x1, -, -⟩ := HX.box2 2 rfl
                obtain ⟨_, _, _, _, eC, -, -, u2, -, -, -, -, -, -⟩ := HX.cellW 3 rfl hl0
                simp only [Value.slice.injEq, Option.some.injEq, Addr.mk.injEq, and_true] at eC
                obtain ⟨⟨rfl, -⟩, -, rfl⟩ := eC
                rw [← HDd.out] at u2
                refine wp_region_tree (fun w' => w'.cell? ⟨gx, 0, none⟩ = some (.slice (some ⟨gr, 0, none⟩) Z.cells.length k5) ∧ w'.cell? ⟨w4.heap.size, 0, none⟩ = some (.slice (some ⟨gC, 0, none⟩) Z.cells.length k4) ∧ w'.cell? ⟨gC, k * 3 + 1, none⟩ = some (.int .i64 d)) 12 [] (.take 0 (.take 1 (.take 2 (.take 3 (.take 4 (.take 5 (.take 6 (.take 7 (.take 8 (.take 9 (.take 10 (.take 11 (.alt 12 (.done) (.stop)))))))))))))) (by kernel_rfl) (by kernel_rfl) (by kernel_rfl) (⟨y0, x0, u2⟩) ?_
                simp only [fillT, List.getElem?_cons_zero, List.getElem?_cons_succ, Nat.reduceBEq]
                repeat (first
                  | (with_reducible refine po_take (v := ?_) ?_ (fun w' hS' => ?_) ?_
                     rotate_left
                     · (go_simp; done)
                     · ((try dsimp only at hS'); go_simp; try with_reducible rfl)
                     simp only [Act.put, List.setIfInBounds_toArray, List.set_cons_zero, List.set_cons_succ])
                  | (with_reducible refine po_skip ?_ ?_
                     · (go_simp; done)
                     simp only [Act.put, List.setIfInBounds_toArray, List.set_cons_zero, List.set_cons_succ]))
                with_reducible refine po_run ?_ (fun K hK => ?_) ?_
                · (go_simp; done)
                rotate_left
                · exact po_stop
                go_simp
                have HP := (H6h.out.putRow 1 rfl (k * 3 + 1) (.int .i64 (d + 1))).drew
                simp only [List.set_cons_zero, List.set_cons_succ] at HP
                rw [setDatH_vals hsame.out hl0.out] at HP
                refine hK.out _ _ (.inl rfl) ?_
                clear hK K
                refine po_done ?_
                clear HX q0 q1 y0 y1 x0 x1 u2 v2 H6h
                revert HP
                generalize World.drew _ = wp'
                intro HP
                obtain ⟨y0, y1, -, -⟩ := HP.box2 0 rfl
                have hlen : Z.cells.length = (setDatH Z k l (d + 1)).cells.length := by simp [setDatH]
                obtain ⟨A6, c6, e6, rC⟩ := HP.rdRow 1 3 rfl rfl hlen hlen.symm (setDatH_refs hl0.out (d + 1))
                simp only [Value.slice.injEq] at e6
                obtain ⟨rfl, -, rfl⟩ := e6
                have HRd : Hid (RdH wp' wp'.heap.size (.agg #[.slice (some ⟨gr, 0, none⟩) Z.cells.length k5, .slice R4 Z.roots.length kR4]) (setDatH Z k l (d + 1))) := Go.Lib.hid ⟨_, _, _, _, _, _, rfl, rC, (HP.owI 4 rfl).rdI⟩
                clear rC hlen
                go_wp2_with fail
                refine (implSaveImage_any _ _ _ (setDatH Z k l (d + 1)) o HRd.out HOb.out).mono ?_
                rintro e w6 ⟨v6, rfl, ho6, hb6⟩
                rw [← HDd.out] at HN1 HN2
                obtain ⟨Y, hY⟩ : ∃ Y, Y = mSaveImage (setDatH Z k l (d + 1)) o := ⟨_, rfl⟩
                rw [← hY] at ho6 HN1 HN2
                have H7 := HP.madeI ho6 hb6
                clear HP ho6 hb6 hY y0 y1
                obtain ⟨A7, k7, rfl, -⟩ := H7.formI 0 rfl
                go_wp2_with fail
                refine (implImageSum_any _ _ _ _ _ Y (H7.owI 0 rfl).rdI HN2.out).mono ?_
                rintro e w7 ⟨rfl, hb7⟩
                obtain ⟨r, hr⟩ : ∃ r, r = mImageSum Y := ⟨_, rfl⟩
                rw [← hr] at HN1 ⊢
                have ers : (r == s) = false := by rw [beq_eq_false_iff_ne]; exact HN1.out
                have H8 := (H7.call hb7).drop 3
                simp only [List.drop_succ_cons, List.drop_zero] at H8
                clear H7 hb7 hr
                go_wp2
                go_roundw
                case rel => first | exact ⟨k + 1, by go_num, by omega, H8⟩ | exact ⟨k + 1, by go_num, by omega⟩
                case measure => simp [intOf]; omega
              with_reducible refine po_run ?_ (fun K hK => ?_) ?_
              · (go_simp; done)
              rotate_left
              · exact po_stop
              try (revert x0 x1 HX; generalize World.drew _ = wd; intro HX x0 x1)
              obtain ⟨gx, hgx⟩ := HX.sizeName
              go_simp
              replace HX := HX.box [.slice none 0 0, .slice none 0 0] 27
              clear x0 x1
              obtain ⟨x0, x1, -, -⟩ := HX.box2 2 rfl
              refine hK.out _ _ (.inr (⟨x0, x1⟩)) ?_
              clear hK K
              revert x0 x1 HX
              try rw [hgx]
              generalize World.alloc _ _ = wz
              intro HX x0 x1
              clear hgx
              with_reducible refine po_run ?_ (fun K hK => ?_) ?_
              · (go_simp; done)
              rotate_left
              · exact po_stop
              refine wp_pushAll (.tmp 57) (.tmp 59) rfl HX 1 3 rfl rfl (by omega) rfl rfl ?_
              intro A5 k5 w5 HY
              simp only [List.set_cons_zero, List.set_cons_succ] at HY
              clear HX x0 x1
              have HX := HY
              clear HY
              obtain ⟨x0, x1, -, -⟩ := HX.box2 2 rfl
              refine hK.out _ _ (.inr (⟨x0, x1⟩)) ?_
              clear hK K
              repeat (first
                | (with_reducible refine po_take (v := ?_) ?_ (fun w' hS' => ?_) ?_
                   rotate_left
                   · (go_simp; done)
                   · ((try dsimp only at hS'); go_simp; try with_reducible rfl)
                   simp only [Act.put, List.setIfInBounds_toArray, List.set_cons_zero, List.set_cons_succ])
                | (with_reducible refine po_skip ?_ ?_
                   · (go_simp; done)
                   simp only [Act.put, List.setIfInBounds_toArray, List.set_cons_zero, List.set_cons_succ]))
              with_reducible refine po_run ?_ (fun K hK => ?_) ?_
              · (go_simp; done)
              rotate_left
              · exact po_stop
              obtain ⟨y0, y1, y2, y3⟩ := HX.box2 0 rfl
              go_simp
              have HZ := (HX.putBox 0 rfl 0 (.slice A5 Z.cells.length k5)).putBox 0 rfl 1 (.slice R4 Z.roots.length kR4)
              simp only [List.set_cons_zero, List.set_cons_succ] at HZ
              clear HX x0 x1 y0 y1 y2 y3
              have HX := HZ
              clear HZ
              obtain ⟨x0, x1, -, -⟩ := HX.box2 2 rfl
              refine hK.out _ _ (.inr (⟨x0, x1⟩)) ?_
              clear hK K
              refine po_done ?_
              clear H0 x0 x1 u2
              revert HX
              generalize World.setCell _ _ _ = wq
              intro HX
              obtain ⟨gr, cr, er, -, -, -, -⟩ := HX.rowAt 1 rfl (by omega)
              simp only [Value.slice.injEq] at er
              obtain ⟨rfl, -, rfl⟩ := er
              obtain ⟨-, v2, -⟩ := cellVals_at Z.cells rvs4 k l (rvs4[k]'(by have := hsame.out; omega)) hl0.out (List.getElem?_eq_getElem _)
              rw [← HDd.out] at v2
              have H6 := HX
              clear HX
              go_wp2_with fail
              have HX := H6.drew
              have H6h := Go.Lib.hid H6
              clear H6
              obtain ⟨q0, q1⟩ := HX.elem 1 rfl (j := k * 3 + 1) v2
              obtain ⟨y0, y1, -, -⟩ := HX.box2 0 rfl
              obtain ⟨x0, x1, -, -⟩ := HX.box2 2 rfl
              obtain ⟨_, _, _, _, eC, -, -, u2, -, -, -, -, -, -⟩ := HX.cellW 3 rfl hl0
              simp only [Value.slice.injEq, Option.some.injEq, Addr.mk.injEq, and_true] at eC
              obtain ⟨⟨rfl, -⟩, -, rfl⟩ := eC
              rw [← HDd.out] at u2
              refine wp_region_tree (fun w' => w'.cell? ⟨gx, 0, none⟩ = some (.slice (some ⟨gr, 0, none⟩) Z.cells.length k5) ∧ w'.cell? ⟨w4.heap.size, 0, none⟩ = some (.slice (some ⟨gC, 0, none⟩) Z.cells.length k4) ∧ w'.cell? ⟨gC, k * 3 + 1, none⟩ = some (.int .i64 d)) 12 [] (.take 0 (.take 1 (.take 2 (.take 3 (.take 4 (.take 5 (.take 6 (.take 7 (.take 8 (.take 9 (.take 10 (.take 11 (.alt 12 (.done) (.stop)))))))))))))) (by kernel_rfl) (by kernel_rfl) (by kernel_rfl) (⟨y0, x0, u2⟩) ?_
              simp only [fillT, List.getElem?_cons_zero, List.getElem?_cons_succ, Nat.reduceBEq]
              repeat (first
                | (with_reducible refine po_take (v := ?_) ?_ (fun w' hS' => ?_) ?_
                   rotate_left
                   · (go_simp; done)
                   · ((try dsimp only at hS'); go_simp; try with_reducible rfl)
                   simp only [Act.put, List.setIfInBounds_toArray, List.set_cons_zero, List.set_cons_succ])
                | (with_reducible refine po_skip ?_ ?_
                   · (go_simp; done)
                   simp only [Act.put, List.setIfInBounds_toArray, List.set_cons_zero, List.set_cons_succ]))
              with_reducible refine po_run ?_ (fun K hK => ?_) ?_
              · (go_simp; done)
              rotate_left
              · exact po_stop
              go_simp
              have HP := (H6h.out.putRow 1 rfl (k * 3 + 1) (.int .i64 (d + 1))).drew
              simp only [List.set_cons_zero, List.set_cons_succ] at HP
              rw [setDatH_vals hsame.out hl0.out] at HP
              refine hK.out _ _ (.inl rfl) ?_
              clear hK K
              refine po_done ?_
              clear HX q0 q1 y0 y1 x0 x1 u2 v2 H6h
              revert HP
              generalize World.drew _ = wp'
              intro HP
              obtain ⟨y0, y1, -, -⟩ := HP.box2 0 rfl
              have hlen : Z.cells.length = (setDatH Z k l (d + 1)).cells.length := by simp [setDatH]
              obtain ⟨A6, c6, e6, rC⟩ := HP.rdRow 1 3 rfl rfl hlen hlen.symm (setDatH_refs hl0.out (d + 1))
              simp only [Value.slice.injEq] at e6
              obtain ⟨rfl, -, rfl⟩ := e6
              have HRd : Hid (RdH wp' wp'.heap.size (.agg #[.slice (some ⟨gr, 0, none⟩) Z.cells.length k5, .slice R4 Z.roots.length kR4]) (setDatH Z k l (d + 1))) := Go.Lib.hid ⟨_, _, _, _, _, _, rfl, rC, (HP.owI 4 rfl).rdI⟩
              clear rC hlen
              go_wp2_with fail
              refine (implSaveImage_any _ _ _ (setDatH Z k l (d + 1)) o HRd.out HOb.out).mono ?_
              rintro e w6 ⟨v6, rfl, ho6, hb6⟩
              rw [← HDd.out] at HN1 HN2
              obtain ⟨Y, hY⟩ : ∃ Y, Y = mSaveImage (setDatH Z k l (d + 1)) o := ⟨_, rfl⟩
              rw [← hY] at ho6 HN1 HN2
              have H7 := HP.madeI ho6 hb6
              clear HP ho6 hb6 hY y0 y1
              obtain ⟨A7, k7, rfl, -⟩ := H7.formI 0 rfl
              go_wp2_with fail
              refine (implImageSum_any _ _ _ _ _ Y (H7.owI 0 rfl).rdI HN2.out).mono ?_
              rintro e w7 ⟨rfl, hb7⟩
              obtain ⟨r, hr⟩ : ∃ r, r = mImageSum Y := ⟨_, rfl⟩
              rw [← hr] at HN1 ⊢
              have ers : (r == s) = false := by rw [beq_eq_false_iff_ne]; exact HN1.out
              have H8 := (H7.call hb7).drop 3
              simp only [List.drop_succ_cons, List.drop_zero] at H8
              clear H7 hb7 hr
              go_wp2
              go_roundw
              case rel => first | exact ⟨k + 1, by go_num, by omega, H8⟩ | exact ⟨k + 1, by go_num, by omega⟩
              case measure => simp [intOf]; omega
            with_reducible refine po_run ?_ (fun K hK => ?_) ?_
            · (go_simp; done)
            rotate_left
            · exact po_stop
            try (revert x0 x1 HX; generalize World.drew _ = wd; intro HX x0 x1)
            obtain ⟨gx, hgx⟩ := HX.sizeName
            go_simp
            replace HX := HX.box [.slice none 0 0, .slice none 0 0] 27
            clear x0 x1
            obtain ⟨x0, x1, -, -⟩ := HX.box2 1 rfl
            refine hK.out _ _ (.inr (⟨x0, x1⟩)) ?_
            clear hK K
            revert x0 x1 HX
            try rw [hgx]
            generalize World.alloc _ _ = wz
            intro HX x0 x1
            clear hgx
            with_reducible refine po_run ?_ (fun K hK => ?_) ?_
            · (go_simp; done)
            rotate_left
            · exact po_stop
            try (revert x0 x1 HX; generalize World.drew _ = wd; intro HX x0 x1)
            go_simp
            replace HX := HX.litC0
            clear x0 x1
            obtain ⟨x0, x1, -, -⟩ := HX.box2 2 rfl
            refine hK.out _ _ (.inr (⟨x0, x1⟩)) ?_
            clear hK K
            revert x0 x1 HX
            generalize World.alloc _ _ = wz
            intro HX x0 x1
            with_reducible refine po_run ?_ (fun K hK => ?_) ?_
            · (go_simp; done)
            rotate_left
            · exact po_stop
            refine wp_pushAll (.tmp 57) (.tmp 59) rfl HX 0 3 rfl rfl (by omega) rfl rfl ?_
            intro A5 k5 w5 HY
            simp only [List.set_cons_zero, List.set_cons_succ] at HY
            clear HX x0 x1
            have HX := HY
            clear HY
            obtain ⟨x0, x1, -, -⟩ := HX.box2 2 rfl
            refine hK.out _ _ (.inr (⟨x0, x1⟩)) ?_
            clear hK K
            repeat (first
              | (with_reducible refine po_take (v := ?_) ?_ (fun w' hS' => ?_) ?_
                 rotate_left
                 · (go_simp; done)
                 · ((try dsimp only at hS'); go_simp; try with_reducible rfl)
                 simp only [Act.put, List.setIfInBounds_toArray, List.set_cons_zero, List.set_cons_succ])
              | (with_reducible refine po_skip ?_ ?_
                 · (go_simp; done)
                 simp only [Act.put, List.setIfInBounds_toArray, List.set_cons_zero, List.set_cons_succ]))
            with_reducible refine po_run ?_ (fun K hK => ?_) ?_
            · (go_simp; done)
            rotate_left
            · exact po_stop
            obtain ⟨y0, y1, y2, y3⟩ := HX.box2 1 rfl
            go_simp
            have HZ := (HX.putBox 1 rfl 0 (.slice A5 Z.cells.length k5)).putBox 1 rfl 1 (.slice R4 Z.roots.length kR4)
            simp only [List.set_cons_zero, List.set_cons_succ] at HZ
            clear HX x0 x1 y0 y1 y2 y3
            have HX := HZ
            clear HZ
            obtain ⟨x0, x1, -, -⟩ := HX.box2 2 rfl
            refine hK.out _ _ (.inr (⟨x0, x1⟩)) ?_
            clear hK K
            refine po_done ?_
            replace HX := HX.swap
            clear H0 x0 x1 u2
            revert HX
            generalize World.setCell _ _ _ = wq
            intro HX
            obtain ⟨gr, cr, er, -, -, -, -⟩ := HX.rowAt 1 rfl (by omega)
            simp only [Value.slice.injEq] at er
            obtain ⟨rfl, -, rfl⟩ := er
            obtain ⟨-, v2, -⟩ := cellVals_at Z.cells rvs4 k l (rvs4[k]'(by have := hsame.out; omega)) hl0.out (List.getElem?_eq_getElem _)
            rw [← HDd.out] at v2
            have H6 := HX
            clear HX
            go_wp2_with fail
            have HX := H6.drew
            have H6h := Go.Lib.hid H6
            clear H6
            obtain ⟨q0, q1⟩ := HX.elem 1 rfl (j := k * 3 + 1) v2
            obtain ⟨y0, y1, -, -⟩ := HX.box2 0 rfl
            obtain ⟨x0, x1, -, -⟩ := HX.box2 2 rfl
            obtain ⟨_, _, _, _, eC, -, -, u2, -, -, -, -, -, -⟩ := HX.cellW 3 rfl hl0
            simp only [Value.slice.injEq, Option.some.injEq, Addr.mk.injEq, and_true] at eC
            obtain ⟨⟨rfl, -⟩, -, rfl⟩ := eC
            rw [← HDd.out] at u2
            refine wp_region_tree (fun w' => w'.cell? ⟨gx, 0, none⟩ = some (.slice (some ⟨gr, 0, none⟩) Z.cells.length k5) ∧ w'.cell? ⟨w4.heap.size, 0, none⟩ = some (.slice (some ⟨gC, 0, none⟩) Z.cells.length k4) ∧ w'.cell? ⟨gC, k * 3 + 1, none⟩ = some (.int .i64 d)) 12 [] (.take 0 (.take 1 (.take 2 (.take 3 (.take 4 (.take 5 (.take 6 (.take 7 (.take 8 (.take 9 (.take 10 (.take 11 (.alt 12 (.done) (.stop)))))))))))))) (by kernel_rfl) (by kernel_rfl) (by kernel_rfl) (⟨y0, x0, u2⟩) ?_
            simp only [fillT, List.getElem?_cons_zero, List.getElem?_cons_succ, Nat.reduceBEq]
            repeat (first
              | (with_reducible refine po_take (v := ?_) ?_ (fun w' hS' => ?_) ?_
                 rotate_left
                 · (go_simp; done)
                 · ((try dsimp only at hS'); go_simp; try with_reducible rfl)
                 simp only [Act.put, List.setIfInBounds_toArray, List.set_cons_zero, List.set_cons_succ])
              | (with_reducible refine po_skip ?_ ?_
                 · (go_simp; done)
                 simp only [Act.put, List.setIfInBounds_toArray, List.set_cons_zero, List.set_cons_succ]))
            with_reducible refine po_run ?_ (fun K hK => ?_) ?_
            · (go_simp; done)
            rotate_left
            · exact po_stop
            go_simp
            have HP := (H6h.out.putRow 1 rfl (k * 3 + 1) (.int .i64 (d + 1))).drew
            simp only [List.set_cons_zero, List.set_cons_succ] at HP
            rw [setDatH_vals hsame.out hl0.out] at HP
            refine hK.out _ _ (.inl rfl) ?_
            clear hK K
            refine po_done ?_
            clear HX q0 q1 y0 y1 x0 x1 u2 v2 H6h
            revert HP
            generalize World.drew _ = wp'
            intro HP
            obtain ⟨y0, y1, -, -⟩ := HP.box2 0 rfl
            have hlen : Z.cells.length = (setDatH Z k l (d + 1)).cells.length := by simp [setDatH]
            obtain ⟨A6, c6, e6, rC⟩ := HP.rdRow 1 3 rfl rfl hlen hlen.symm (setDatH_refs hl0.out (d + 1))
            simp only [Value.slice.injEq] at e6
            obtain ⟨rfl, -, rfl⟩ := e6
            have HRd : Hid (RdH wp' wp'.heap.size (.agg #[.slice (some ⟨gr, 0, none⟩) Z.cells.length k5, .slice R4 Z.roots.length kR4]) (setDatH Z k l (d + 1))) := Go.Lib.hid ⟨_, _, _, _, _, _, rfl, rC, (HP.owI 4 rfl).rdI⟩
            clear rC hlen
            go_wp2_with fail
            refine (implSaveImage_any _ _ _ (setDatH Z k l (d + 1)) o HRd.out HOb.out).mono ?_
            rintro e w6 ⟨v6, rfl, ho6, hb6⟩
            rw [← HDd.out] at HN1 HN2
            obtain ⟨Y, hY⟩ : ∃ Y, Y = mSaveImage (setDatH Z k l (d + 1)) o := ⟨_, rfl⟩
            rw [← hY] at ho6 HN1 HN2
            have H7 := HP.madeI ho6 hb6
            clear HP ho6 hb6 hY y0 y1
            obtain ⟨A7, k7, rfl, -⟩ := H7.formI 0 rfl
            go_wp2_with fail
            refine (implImageSum_any _ _ _ _ _ Y (H7.owI 0 rfl).rdI HN2.out).mono ?_
            rintro e w7 ⟨rfl, hb7⟩
            obtain ⟨r, hr⟩ : ∃ r, r = mImageSum Y := ⟨_, rfl⟩
            rw [← hr] at HN1 ⊢
            have ers : (r == s) = false := by rw [beq_eq_false_iff_ne]; exact HN1.out
            have H8 := (H7.call hb7).drop 3
            simp only [List.drop_succ_cons, List.drop_zero] at H8
            clear H7 hb7 hr
            go_wp2
            go_roundw
            case rel => first | exact ⟨k + 1, by go_num, by omega, H8⟩ | exact ⟨k + 1, by go_num, by omega⟩
            case measure => simp [intOf]; omega
      · have HB := H.below
        clear H
        go_wp2
        go_ret
        exact ⟨rfl, HB⟩
end Go.Proofs.Ytnpehidhoekfcaa
