/- The program's ViewOf makes what a program sees of a valid heap; its SameView says yes of two valid heaps that show the same. For all that can be read. -/
import Derived.Test.YtdkpfggfkhnjfaaVo
namespace Go.Proofs.Ytdkpfggfkhnjfaa
open Go.RowKit
theorem flat_take {α : Type} {o : List Int} {k : Nat} {x : Int} (f : Int → List α) (h : Hid (o[k]? = some x)) : (o.take (k + 1)).flatMap f = (o.take k).flatMap f ++ f x := by
  rw [take_snoc' h, List.flatMap_append]; simp
theorem flat_len (f : Int → List Int) (b : Nat) : ∀ o : List Int, (∀ x ∈ o, (f x).length ≤ b) → (o.flatMap f).length ≤ o.length * b
  | [], _ => by simp
  | a :: o, h => by
    have h1 := flat_len f b o fun x hx => h x (List.mem_cons_of_mem _ hx)
    have h2 := h a (by simp)
    rw [List.flatMap_cons, List.length_append, List.length_cons, Nat.succ_mul]; omega
theorem two_le_maxLen : 2 ≤ maxLen := by unfold maxLen; omega
theorem refs3 {h : Hp} (hok : heapOk h = true) {c : Nat} {l : Cel} (hl : h.cells[c]? = some l) : l.refs.length ≤ 3 ∧ ∀ r ∈ l.refs, r = -1 ∨ (0 ≤ r ∧ r.toNat < h.cells.length) := by
  have g : l.refs.length ≤ 3 := by
    have h2 := hok
    simp only [heapOk, Bool.and_eq_true, List.all_eq_true] at h2
    have h3 := h2.1.2 l (List.mem_of_getElem? hl)
    unfold cellOk at h3
    split at h3 <;> simp at h3
    · omega
    · rw [h3.2]; simp
  refine ⟨g, fun r hr => ?_⟩
  have h1 := (heapOk_leads hok).2 c l hl r hr
  by_cases h0 : 0 ≤ r
  · exact .inr ⟨h0, usedN_lt (leadsB_used h1 h0)⟩
  · refine .inl ?_
    unfold leadsB at h1
    rw [decide_eq_false h0] at h1
    simpa using h1
set_option maxHeartbeats 3200000 in
set_option maxRecDepth 20000 in
theorem viewOf_any (w : World) (B : Nat) (v : Value) (h : Hp) (hh : RdH w B v h) (hok : heapOk h = true) :
    Calls Try.prog 26 #[v] w (MadeI w (viewH h)) := by
  have hh' := hh.top
  obtain ⟨D, m, d, D', m', d', rfl, hC, hR⟩ := hh.top
  have l3 := hC.le1; have l4 := hC.le2
  have l1 := RdI.le1 hR; have l2 := RdI.le2 hR
  obtain ⟨s4, s5⟩ := heapOk_small hok
  have HOk := Go.Lib.hid hok
  obtain ⟨o, ho⟩ : ∃ o, o = ordH h := ⟨_, rfl⟩
  have HOr : Hid (∀ x ∈ o, 0 ≤ x ∧ x < h.cells.length) := Go.Lib.hid fun x hx => by rw [ho] at hx; exact ⟨(ordH_reach hok x hx).1, reach_lt (ordH_reach hok x hx)⟩
  have HNd : Hid o.Nodup := Go.Lib.hid (by rw [ho]; exact ordH_nodup h)
  have hol : o.length ≤ 40 := by have := ordH_len hok; rw [← ho] at this; omega
  have HOe := Go.Lib.hid ho
  have HVw : Hid (viewH h = h.roots.map (nameI o) ++ o.flatMap (viewC h.cells o)) := Go.Lib.hid (by rw [ho]; rfl)
  have HCl : Hid (∀ (c : Nat) (l : Cel), h.cells[c]? = some l → l.refs.length ≤ 3 ∧ ∀ r ∈ l.refs, r = -1 ∨ (0 ≤ r ∧ r.toNat < h.cells.length)) := Go.Lib.hid fun c l hl => refs3 hok hl
  have HRt : Hid (∀ r ∈ h.roots, r = -1 ∨ (0 ≤ r ∧ r.toNat < h.cells.length)) := Go.Lib.hid fun r hr => by
    have h1 := (heapOk_leads hok).1 r hr
    by_cases h0 : 0 ≤ r
    · exact .inr ⟨h0, usedN_lt (leadsB_used h1 h0)⟩
    · refine .inl ?_
      unfold leadsB at h1
      rw [decide_eq_false h0] at h1
      simpa using h1
  have HNeg : Hid (nameI o (-1) = -1) := Go.Lib.hid (by
    unfold nameI
    rw [if_neg]
    intro k
    have := (HOr.out _ k).1
    omega)
  have HLen : Hid (∀ k, (h.roots.map (nameI o) ++ (o.take k).flatMap (viewC h.cells o)).length ≤ 1000) := Go.Lib.hid fun k => by
    have h1 := flat_len (viewC h.cells o) 5 (o.take k) fun x hx => by
      have hx := List.mem_of_mem_take hx
      obtain ⟨p0, p1⟩ := HOr.out x hx
      have hl := (HCl.out x.toNat _ (List.getElem?_eq_getElem (by omega))).1
      unfold viewC cel
      rw [List.getD_eq_getElem?_getD, List.getElem?_eq_getElem (by omega : x.toNat < h.cells.length)]
      simpa using hl
    rw [List.length_take] at h1
    have : min k o.length ≤ 40 := by omega
    have h2 : min k o.length * 5 ≤ 40 * 5 := Nat.mul_le_mul_right 5 this
    rw [List.length_append, List.length_map]
    omega
  rw [HVw.out]
  clear hok ho HVw
  have H1 := (Owns.nil w).box [.slice D m d, .slice D' m' d'] 29
  go_enter Try.func26, Try.ntmps26
  go_wp2_with fail
  refine (heapValid_any _ _ _ h (hh'.below H1.below)).mono ?_
  rintro e w1 ⟨rfl, hb1⟩
  rw [HOk.out]
  have H2 := H1.call hb1
  obtain ⟨a0, a1, -, -⟩ := H2.box2 0 rfl
  clear H1 hb1
  go_wp2_with fail
  refine (metOrder_any _ _ _ h (hh'.below H2.below) HOk.out).mono ?_
  rintro e w2 ⟨v2, rfl, ho2, hb2⟩
  rw [← HOe.out] at ho2
  have H3 := H2.madeI ho2 hb2
  clear H2 ho2 hb2 a0 a1
  obtain ⟨O, kO, rfl, -⟩ := H3.formI 0 rfl
  obtain ⟨a0, a1, -, -⟩ := H3.box2 1 rfl
  go_wp2_with fail
  refine (numbersIn_any _ _ _ _ _ o m (H3.owI 0 rfl).rdI (by omega) HNd.out fun x hx => by have := HOr.out x hx; omega).mono ?_
  rintro e w3 ⟨v3, rfl, ho3, hb3⟩
  have H4 := H3.madeI ho3 hb3
  clear H3 ho3 hb3 a0 a1
  obtain ⟨N, hN⟩ : ∃ N, N = numL o m := ⟨_, rfl⟩
  rw [← hN] at H4
  have HN : Hid (∀ q, q < m → N[q]? = some (nameI o (q : Int))) := Go.Lib.hid fun q hq => by rw [hN]; exact numL_at hq
  clear hN
  obtain ⟨E, kE, rfl, -⟩ := H4.formI 0 rfl
  obtain ⟨a0, a1, -, -⟩ := H4.box2 2 rfl
  go_wp2_with fail
  refine (renamed_any _ _ _ _ _ _ _ _ _ h.roots N (nameI o) (hR.below H4.below) (H4.owI 0 rfl).rdI (by omega) (fun r hr h0 => ?_) fun r hr h0 => ?_).mono ?_
  · rcases HRt.out r hr with e | ⟨k, -⟩
    · rw [e]; exact HNeg.out
    · omega
  · rcases HRt.out r hr with e | ⟨k, k2⟩
    · omega
    · rw [HN.out _ (by omega), Int.toNat_of_nonneg k]
  rintro e w4 ⟨v4, rfl, ho4, hb4⟩
  have H5 := H4.madeI ho4 hb4
  clear H4 ho4 hb4 a0 a1
  have e0 : h.roots.map (nameI o) = h.roots.map (nameI o) ++ (o.take 0).flatMap (viewC h.cells o) := by simp
  rw [e0] at H5
  clear e0
  go_wp2_with fail
  go_loopw [5, 25] (fun v i wr => ∃ k : Nat, i = .int .i64 k ∧ k ≤ o.length ∧ Owns w.heap.size w wr [.ints v (h.roots.map (nameI o) ++ (o.take k).flatMap (viewC h.cells o)), .ints (.slice E N.length kE) N, .ints (.slice O o.length kO) o, .box w.heap.size [.slice D m d, .slice D' m' d'] 29]) (fun _ i _ => o.length - (intOf i).toNat)
  case atStart => exact ⟨0, rfl, Nat.zero_le _, H5⟩
  case round =>
    clear H5
    obtain ⟨k, rfl, hk, H⟩ := hrel
    have hlen := HLen.out k
    obtain ⟨a0, a1, -, -⟩ := H.box2 3 rfl
    by_cases hlt : k < o.length
    · obtain ⟨x, hx0⟩ : ∃ x, Hid (o[k]? = some x) := ⟨_, Go.Lib.hid (List.getElem?_eq_getElem hlt)⟩
      obtain ⟨hp0, hp1⟩ := HOr.out x (List.mem_of_getElem? hx0.out)
      obtain ⟨q, rfl⟩ := Int.eq_ofNat_of_zero_le hp0
      have hq : q < m := by omega
      obtain ⟨b, ob, l, A2, n2, c2, rfl, hbb, hx, q1, q2, q3, hrf⟩ := hC.at_ hq
      obtain ⟨gO, cO, eO, -, -, -, -⟩ := H.rowAt 2 rfl (by omega)
      simp only [Value.slice.injEq] at eO
      obtain ⟨rfl, -, rfl⟩ := eO
      obtain ⟨z0, -⟩ := H.elem 2 rfl (j := k) (u := .int .i64 (q : Int)) (by rw [List.getElem?_map, hx0.out]; rfl)
      have g1 := H.ro q1 hbb
      have g2 := H.ro q2 hbb
      have g3 := H.ro q3 hbb
      have r1 := RdI.le1 hrf; have r2 := RdI.le2 hrf
      have hn2 : n2 = l.refs.length := by omega
      have HF := Go.Lib.hid (HCl.out q l hx.out)
      have HS : Hid (h.roots.map (nameI o) ++ (o.take (k + 1)).flatMap (viewC h.cells o) = ((h.roots.map (nameI o) ++ (o.take k).flatMap (viewC h.cells o)) ++ [l.data, ((n2 : Nat) : Int)]) ++ l.refs.map (nameI o)) := Go.Lib.hid (by
        rw [flat_take _ hx0, hn2]
        unfold viewC
        rw [cel_at hx]
        simp)
      have hf3 := HF.out.1
      generalize h.roots.map (nameI o) ++ (o.take k).flatMap (viewC h.cells o) = p at *
      obtain ⟨P, kP, rfl, -⟩ := H.formI 0 rfl
      have i1 : (0 : Int) ≤ (k : Int) := by omega
      have i2 : (k : Int) < (o.length : Int) := by omega
      have i3 : (0 : Int) ≤ (q : Int) := by omega
      have i4 : (q : Int) < (m : Int) := by omega
      have HBox := H.box [.bool l.used, .int .i64 l.data, .slice A2 n2 c2] 49
      obtain ⟨b0, b1, b2, -, -, -⟩ := HBox.box3 0 rfl
      have H6 := HBox.litI [l.data, ((n2 : Nat) : Int)] two_le_maxLen
      have HRd := Go.Lib.hid ((H6.owI 0 rfl).rdI)
      simp only [List.map_cons, List.map_nil, List.length_cons, List.length_nil, Nat.zero_add, Nat.reduceAdd, World.size_alloc] at H6 HRd
      obtain ⟨c0, c1, c2', -, -, -⟩ := H6.box3 1 rfl
      clear hp0 hp1 hx0 H hn2 q1 q2 q3
      go_wp2_with (at_builtin; go_loud (refine wpList_pushO rfl (.tmp 34) (.tmp 40) rfl H6 2 rfl rfl rfl HRd.out (by omega) ?_; intro A3 k3 w5 H7; simp only [List.set_cons_zero, List.set_cons_succ] at H7; obtain ⟨d0, d1, d2, -, -, -⟩ := H7.box3 1 rfl))
      refine (renamed_any _ _ _ _ _ _ _ _ _ l.refs N (nameI o) (hrf.below H7.below) (H7.owI 3 rfl).rdI (by omega) (fun r hr h0 => ?_) fun r hr h0 => ?_).mono ?_
      · rcases HF.out.2 r hr with e | ⟨k, -⟩
        · rw [e]; exact HNeg.out
        · omega
      · rcases HF.out.2 r hr with e | ⟨k, k2⟩
        · omega
        · rw [HN.out _ (by omega), Int.toNat_of_nonneg k]
      rintro e w6 ⟨v6, rfl, ho6, hb6⟩
      obtain ⟨Y, hY⟩ : ∃ Y, Y = l.refs.map (nameI o) := ⟨_, rfl⟩
      have hl6 : Y.length ≤ 3 := by rw [hY]; simpa using hf3
      rw [← hY] at ho6 HS
      clear hY
      have H8 := H7.madeI ho6 hb6
      rw [show Value.slice A3 (p ++ [l.data, ((n2 : Nat) : Int)]).length k3 = .slice A3 (p.length + 2) k3 from by simp] at H8
      clear H7 ho6 hb6 d0 d1 d2 a0 a1 z0 g1 g2 g3 b0 b1 b2 c0 c1 c2' HRd H6 HBox
      obtain ⟨A6, k6, rfl, -⟩ := H8.formI 0 rfl
      have HRd := Go.Lib.hid ((H8.owI 0 rfl).rdI)
      have hp2 : (p ++ [l.data, ((n2 : Nat) : Int)]).length ≤ 1002 := by simp; omega
      go_wp2_with (at_builtin; go_loud (refine wpList_pushO rfl (.tmp 42) (.tmp 46) rfl H8 3 rfl rfl rfl HRd.out (by omega) ?_; intro A7 k7 w7 H9))
      have HE := H9.drop 3
      simp only [List.set_cons_zero, List.set_cons_succ, List.drop_succ_cons, List.drop_zero] at HE
      rw [show Value.slice A7 ((p ++ [l.data, ((n2 : Nat) : Int)]) ++ Y).length k7 = .slice A7 (p.length + (Y.length + 1 + 1)) k7 from by simp] at HE
      go_roundw
      case rel => exact ⟨k + 1, by go_num, by omega, by rw [HS.out]; exact HE⟩
      case measure => simp [intOf]; omega
    · rw [List.take_of_length_le (by omega)] at H
      obtain ⟨P, kP, rfl, -⟩ := H.formI 0 rfl
      have HO2 := Go.Lib.hid H
      clear H hlen
      go_wp2
      go_ret
      exact HO2.out.toI 0 rfl
set_option maxHeartbeats 3200000 in
set_option maxRecDepth 20000 in
theorem sameView_yes (w : World) (B B' : Nat) (u v : Value) (a b : Hp) (ha : RdH w B u a) (hb : RdH w B' v b) (oka : heapOk a = true) (okb : heapOk b = true) (he : mView a = mView b) :
    Calls Try.prog 10 #[u, v] w fun e w' => e = .returned (.bool true) ∧ Below w.heap.size w w' := by
  have ha' := ha.top
  have hb' := hb.top
  obtain ⟨D, m, d, D', m', d', rfl, hC, hR⟩ := ha.top
  obtain ⟨E, q, f, E', q', f', rfl, hC2, hR2⟩ := hb.top
  rw [mView_yes oka, mView_yes okb] at he
  obtain ⟨V, hV⟩ : ∃ V, V = viewH a := ⟨_, rfl⟩
  have HVa := Go.Lib.hid hV
  have HVb : Hid (V = viewH b) := Go.Lib.hid (hV.trans he)
  have HA := Go.Lib.hid oka
  have HB := Go.Lib.hid okb
  clear hV he oka okb
  have H1 := ((Owns.nil w).box [.slice D m d, .slice D' m' d'] 29).box [.slice E q f, .slice E' q' f'] 29
  simp only [World.size_alloc] at H1
  go_enter Try.func10, Try.ntmps10
  go_wp2_with fail
  have HX := H1.drew
  have H0 := Go.Lib.hid H1
  clear H1
  obtain ⟨x0, x1, -, -⟩ := HX.box2 1 rfl
  obtain ⟨y0, y1, -, -⟩ := HX.box2 0 rfl
  refine wp_region_tree (fun w' => (w'.cell? ⟨w.heap.size, 0, none⟩ = some (.slice D m d) ∧ w'.cell? ⟨w.heap.size, 1, none⟩ = some (.slice D' m' d')) ∧ w'.cell? ⟨w.heap.size + 1, 0, none⟩ = some (.slice E q f) ∧ w'.cell? ⟨w.heap.size + 1, 1, none⟩ = some (.slice E' q' f')) 14 [] (.take 0 (.alt 1 (.take 2 (.take 3 (.alt 4 (.take 5 (.take 6 (.take 7 (.take 9 (.alt 8 (.alt 10 (.alt 11 (.take 12 (.take 13 (.done))) (.stop)) (.stop)) (.stop)))))) (.stop)))) (.stop))) (by kernel_rfl) (by kernel_rfl) (by kernel_rfl) (⟨⟨x0, x1⟩, y0, y1⟩) ?_
  simp only [fillT, List.getElem?_cons_zero, List.getElem?_cons_succ, Nat.reduceBEq]
  repeat (first
    | (with_reducible refine po_take (v := ?_) ?_ (fun w' hS' => ?_) ?_
       rotate_left
       · (go_simp; done)
       · ((try dsimp only at hS'); go_simp; try with_reducible rfl)
       simp only [Act.put, List.setIfInBounds_toArray, List.set_cons_zero, List.set_cons_succ])
    | (with_reducible refine po_skip ?_ ?_
       · (go_simp; done)
       simp only [Act.put, List.setIfInBounds_toArray, List.set_cons_zero, List.set_cons_succ]))
  with_reducible refine po_run ?_ (fun K hK => ?_) ?_
  · (go_simp; done)
  rotate_left
  · exact po_stop
  go_simp
  refine (heapValid_any _ _ _ a (ha'.below HX.below)).mono ?_
  rintro e w1 ⟨rfl, hb1⟩
  rw [HA.out]
  replace HX := HX.call hb1
  clear hb1 x0 x1 y0 y1
  obtain ⟨x0, x1, -, -⟩ := HX.box2 1 rfl
  obtain ⟨y0, y1, -, -⟩ := HX.box2 0 rfl
  refine hK.out _ _ (.inr (⟨⟨x0, x1⟩, y0, y1⟩)) ?_
  clear hK K
  repeat (first
    | (with_reducible refine po_take (v := ?_) ?_ (fun w' hS' => ?_) ?_
       rotate_left
       · (go_simp; done)
       · ((try dsimp only at hS'); go_simp; try with_reducible rfl)
       simp only [Act.put, List.setIfInBounds_toArray, List.set_cons_zero, List.set_cons_succ])
    | (with_reducible refine po_skip ?_ ?_
       · (go_simp; done)
       simp only [Act.put, List.setIfInBounds_toArray, List.set_cons_zero, List.set_cons_succ]))
  with_reducible refine po_run ?_ (fun K hK => ?_) ?_
  · (go_simp; done)
  rotate_left
  · exact po_stop
  go_simp
  refine (heapValid_any _ _ _ b (hb'.below HX.below)).mono ?_
  rintro e w2 ⟨rfl, hb1⟩
  rw [HB.out]
  replace HX := HX.call hb1
  clear hb1 x0 x1 y0 y1
  obtain ⟨x0, x1, -, -⟩ := HX.box2 1 rfl
  obtain ⟨y0, y1, -, -⟩ := HX.box2 0 rfl
  refine hK.out _ _ (.inr (⟨⟨x0, x1⟩, y0, y1⟩)) ?_
  clear hK K
  repeat (first
    | (with_reducible refine po_take (v := ?_) ?_ (fun w' hS' => ?_) ?_
       rotate_left
       · (go_simp; done)
       · ((try dsimp only at hS'); go_simp; try with_reducible rfl)
       simp only [Act.put, List.setIfInBounds_toArray, List.set_cons_zero, List.set_cons_succ])
    | (with_reducible refine po_skip ?_ ?_
       · (go_simp; done)
       simp only [Act.put, List.setIfInBounds_toArray, List.set_cons_zero, List.set_cons_succ]))
  with_reducible refine po_run ?_ (fun K hK => ?_) ?_
  · (go_simp; done)
  rotate_left
  · exact po_stop
  go_simp
  refine (viewOf_any _ _ _ a (ha'.below HX.below) HA.out).mono ?_
  rintro e w3 ⟨va, rfl, ho, hb1⟩
  rw [← HVa.out] at ho
  replace HX := HX.madeI ho hb1
  clear ho hb1 x0 x1 y0 y1
  obtain ⟨VA, kA, rfl, -⟩ := HX.formI 0 rfl
  obtain ⟨x0, x1, -, -⟩ := HX.box2 (1 + 1) rfl
  obtain ⟨y0, y1, -, -⟩ := HX.box2 (0 + 1) rfl
  refine hK.out _ _ (.inr (⟨⟨x0, x1⟩, y0, y1⟩)) ?_
  clear hK K
  with_reducible refine po_run ?_ (fun K hK => ?_) ?_
  · (go_simp; done)
  rotate_left
  · exact po_stop
  go_simp
  refine (viewOf_any _ _ _ b (hb'.below HX.below) HB.out).mono ?_
  rintro e w4 ⟨vb, rfl, ho, hb1⟩
  rw [← HVb.out] at ho
  replace HX := HX.madeI ho hb1
  clear ho hb1 x0 x1 y0 y1
  obtain ⟨VB, kB, rfl, -⟩ := HX.formI 0 rfl
  obtain ⟨x0, x1, -, -⟩ := HX.box2 (2 + 1) rfl
  obtain ⟨y0, y1, -, -⟩ := HX.box2 (1 + 1) rfl
  refine hK.out _ _ (.inr (⟨⟨x0, x1⟩, y0, y1⟩)) ?_
  clear hK K
  with_reducible refine po_run ?_ (fun K hK => ?_) ?_
  · (go_simp; done)
  rotate_left
  · exact po_stop
  go_simp
  refine (same2_any _ _ _ _ _ _ _ _ _ V V (HX.owI 1 rfl).rdI (HX.owI 0 rfl).rdI).mono ?_
  rintro e w5 ⟨rfl, hb1⟩
  rw [decide_eq_true rfl]
  have HD := (HX.call hb1).below
  have HX := HX.call hb1
  clear hb1 x0 x1 y0 y1
  obtain ⟨x0, x1, -, -⟩ := HX.box2 3 rfl
  obtain ⟨y0, y1, -, -⟩ := HX.box2 2 rfl
  refine hK.out _ _ (.inr (⟨⟨x0, x1⟩, y0, y1⟩)) ?_
  clear hK K
  repeat (first
    | (with_reducible refine po_take (v := ?_) ?_ (fun w' hS' => ?_) ?_
       rotate_left
       · (go_simp; done)
       · ((try dsimp only at hS'); go_simp; try with_reducible rfl)
       simp only [Act.put, List.setIfInBounds_toArray, List.set_cons_zero, List.set_cons_succ])
    | (with_reducible refine po_skip ?_ ?_
       · (go_simp; done)
       simp only [Act.put, List.setIfInBounds_toArray, List.set_cons_zero, List.set_cons_succ]))
  refine po_done ?_
  clear HX H0 x0 x1 y0 y1
  go_wp2
  go_ret
  exact ⟨rfl, HD⟩
end Go.Proofs.Ytdkpfggfkhnjfaa
