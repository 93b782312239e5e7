/- The program's closure finds exactly what can be reached by cells of a set. -/
import Derived.Test.YtjpfgbckmcjjaaaZ1
namespace Go.Proofs.Ytjpfgbckmcjjaaa
open Go.RowKit
theorem visit1_no {S : Nat} {st : Nat × List Int} {r : Int} (h : hasB S r = false) : visit1 S st r = st := by simp [visit1, h]
theorem visit1_met {S : Nat} {st : Nat × List Int} {r : Int} (h : hasB st.1 r = true) : visit1 S st r = st := by simp [visit1, h]
theorem visit1_yes {S m : Nat} {ws : List Int} {r : Int} (h : hasB S r = true) (h2 : hasB m r = false) : visit1 S (m, ws) r = (addB m r, ws ++ [r]) := by simp [visit1, h, h2]
abbrev VisB (S m g1 g2 g3 : Nat) (v : Value) (ws : List Int) (L : List OB) : List OB :=
  .box g2 [.int .u64 m] 81 :: .box g3 [v] 24 :: .ints v ws :: .box g1 [.int .u64 S] 81 :: L
set_option maxHeartbeats 1600000 in
theorem visit_any {cs : List Cel} {fr : List Int} {lo : Nat} {w0 w : World} {L : List OB} {S m g1 g2 g3 : Nat} {v : Value} {ws : List Int} (H : Owns lo w0 w (VisB S m g1 g2 g3 v ws L)) {B : Nat} {A : Option Addr} {n c : Nat} {rs : List Int} (hr : RdI w0 B A n c rs) (hB : B ≤ lo)
    (hS : S < 2 ^ 64) (hM : Met cs S fr (m, ws)) (hR : ∀ r ∈ rs, hasB S r = true → Rch cs S.testBit fr r.toNat) :
    Calls Try.prog 105 #[.slice A n c, .pointer (some ⟨g1, 0, none⟩), .pointer (some ⟨g2, 0, none⟩), .pointer (some ⟨g3, 0, none⟩)] w fun e w' =>
      (∃ u, e = .returned u) ∧ ∃ v', Owns lo w0 w' (VisB S (visit S (m, ws) rs).1 g1 g2 g3 v' (visit S (m, ws) rs).2 L) := by
  have hm1 := hr.mx; have hcap1 := hr.cap
  have l1 := RdI.le1 hr; have l2 := RdI.le2 hr
  unfold maxLen at hm1
  go_enter Try.func105, Try.ntmps105
  go_wp2_with fail
  go_loopw [9] (fun i wr => ∃ (k : Nat) (v' : Value), i = .int .i64 k ∧ k ≤ n ∧ Owns lo w0 wr (VisB S (visit S (m, ws) (rs.take k)).1 g1 g2 g3 v' (visit S (m, ws) (rs.take k)).2 L)) (fun i _ => n - (intOf i).toNat)
  case atStart => exact ⟨0, v, rfl, Nat.zero_le _, H⟩
  case round =>
    clear H
    obtain ⟨k, v', rfl, hk, H⟩ := hrel
    have hM' := (hM.visit hS (rs.take k) (m, ws) fun r hr => hR r (List.mem_of_mem_take hr)).1
    by_cases hlt : k < n
    · obtain ⟨b, o, x, rfl, hbb, hx, q1⟩ := RdI.at_ hr hlt
      have hT := visit_take (S := S) (st := (m, ws)) hx
      generalize visit S (m, ws) (rs.take k) = st at *
      obtain ⟨m1, ws1⟩ := st
      have g1' := H.ro q1 (by show b < lo; omega)
      obtain ⟨x0, xf⟩ := H.box1 0 rfl
      obtain ⟨y0, yf⟩ := H.box1 1 rfl
      obtain ⟨z0, zf⟩ := H.box1 3 rfl
      have hml := hM'.lt
      have hro := hM'.room
      simp only at hml hro
      have HM := Go.Lib.hid hml
      have HS' := Go.Lib.hid hS
      clear hml q1 hM'
      have hS2 : S < 2 ^ 64 := hS
      clear hS
      cases hs : hasB S x
      · rw [visit1_no hs] at hT
        have HT := Go.Lib.hid hT
        have HH := Go.Lib.hid hs
        clear hT hs
        go_wp2_with fail
        refine (has_any S x wr HS'.out).mono ?_
        rintro e w2 ⟨rfl, rfl⟩
        rw [HH.out]
        go_wp2
        go_roundw
        case rel => exact ⟨k + 1, v', by go_num, by omega, by rw [HT.out]; exact H⟩
        case measure => simp [intOf]; omega
      · have HH := Go.Lib.hid hs
        cases hm : hasB m1 x
        · rw [visit1_yes hs hm] at hT
          have HT := Go.Lib.hid hT
          have HN := Go.Lib.hid hm
          obtain ⟨p0, p1⟩ := hasB_lt hS2 hs
          clear hT hs hm
          go_wp2_with fail
          refine (has_any S x wr HS'.out).mono ?_
          rintro e w2 ⟨rfl, hw2⟩
          obtain rfl := hw2
          rw [HH.out]
          go_wp2_with fail
          refine (has_any m1 x wr HM.out).mono ?_
          rintro e w2 ⟨rfl, hw2⟩
          obtain rfl := hw2
          rw [HN.out]
          go_wp2_with fail
          refine (add_own H 0 rfl x HM.out p0 p1).mono ?_
          rintro e w2 ⟨⟨u, rfl⟩, H2⟩
          clear x0 xf y0 yf z0 zf g1'
          simp only [List.set_cons_zero] at H2
          obtain ⟨y0, yf⟩ := H2.box1 1 rfl
          have H3 := H2.alloc (.cells #[.int .i64 x] 3)
          have y0' := H3.box1 1 rfl
          go_wp2_with (at_builtin; go_loud (refine wpList_pushO rfl (.tmp 24) (.tmp 26) rfl H3 2 rfl rfl rfl (rdI_one (heap1 w2 _) (Nat.le_refl _) one_le_maxLen) (by omega) ?_; intro A3 k3 w3 H4; obtain ⟨y1, yf1⟩ := H4.box1 1 rfl))
          simp only [List.set_cons_zero, List.set_cons_succ] at H4
          have H5 := H4.putBox 1 rfl 0 (.slice A3 (ws1 ++ [x]).length k3)
          simp only [List.set_cons_zero, List.set_cons_succ, List.length_append, List.length_cons, List.length_nil, Nat.zero_add] at H5
          have HO := Go.Lib.hid H5
          clear H2 H3 H4 H5 y0' H
          go_wp2
          go_roundw
          case rel => exact ⟨k + 1, _, by go_num, by omega, by rw [HT.out]; exact HO.out⟩
          case measure => simp [intOf]; omega
        · rw [visit1_met (st := (m1, ws1)) hm] at hT
          have HT := Go.Lib.hid hT
          have HN := Go.Lib.hid hm
          clear hT hs hm
          go_wp2_with fail
          refine (has_any S x wr HS'.out).mono ?_
          rintro e w2 ⟨rfl, hw2⟩
          obtain rfl := hw2
          rw [HH.out]
          go_wp2_with fail
          refine (has_any m1 x wr HM.out).mono ?_
          rintro e w2 ⟨rfl, hw2⟩
          obtain rfl := hw2
          rw [HN.out]
          go_wp2
          go_roundw
          case rel => exact ⟨k + 1, v', by go_num, by omega, by rw [HT.out]; exact H⟩
          case measure => simp [intOf]; omega
    · rw [List.take_of_length_le (by omega)] at H
      clear hM'
      go_wp2
      refine bodyPost_end (results_none rfl _ _ _) rfl ?_
      exact ⟨⟨_, rfl⟩, v', H⟩
set_option maxHeartbeats 1600000 in
theorem closure_any (w : World) (B B' : Nat) (v : Value) (h : Hp) (A : Option Addr) (n c : Nat) (fr : List Int) (S : Nat) (hh : RdH w B v h) (hr : RdI w B' A n c fr) (hS : S < 2 ^ 64) (hSn : ∀ c, S.testBit c = true → c < h.cells.length) :
    Calls Try.prog 60 #[v, .slice A n c, .int .u64 S] w fun e w' => e = .returned (.int .u64 (closM h.cells S fr)) ∧ Below w.heap.size w w' := by
  obtain ⟨D, m, d, D', m', d', rfl, hC, hR⟩ := hh.top
  have hr := hr.top
  have hm1 := hC.mx; have hcap1 := hC.cap
  have l3 := hC.le1; have l4 := hC.le2
  unfold maxLen at hm1
  have H1 := (((((Owns.nil w).box [.slice D m d, .slice D' m' d'] 26).box [.int .u64 S] 81).box [.int .u64 (0 : Nat)] 81).litI [] zero_le_maxLen)
  have H2 := H1.box [.slice (some ⟨w.heap.size + 1 + 1 + 1, 0, none⟩) 0 0] 24
  simp only [List.length_nil, World.size_alloc] at H2
  have H3 : Owns w.heap.size w _ (VisB S 0 (w.heap.size + 1) (w.heap.size + 1 + 1) (w.heap.size + 1 + 1 + 1 + 1) (.slice (some ⟨w.heap.size + 1 + 1 + 1, 0, none⟩) 0 0) [] [.box w.heap.size [.slice D m d, .slice D' m' d'] 26]) := H2.order [2, 0, 1, 3, 4] (by decide) rfl
  clear H1 H2
  go_enter Try.func60, Try.ntmps60
  go_wp2_with fail
  refine (visit_any (cs := h.cells) (fr := fr) H3 hr (Nat.le_refl _) hS met_start fun r hr hs => .base hr (hasB_pos hs).1 (hasB_pos hs).2).mono ?_
  rintro e w1 ⟨⟨u, rfl⟩, v1, H⟩
  have hM := clo_start (cs := h.cells) (fr := fr) hS
  clear H3
  generalize visit S (0, []) fr = st at *
  obtain ⟨m0, ws0⟩ := st
  go_wp2_with fail
  go_loopg [] (ws0.length + free m0) (fun gk wr => ∃ (m1 : Nat) (ws : List Int) (v' : Value), gk = ws.length + free m1 ∧ Clo h.cells S fr (m1, ws) ∧ Owns w.heap.size w wr (VisB S m1 (w.heap.size + 1) (w.heap.size + 1 + 1) (w.heap.size + 1 + 1 + 1 + 1) v' ws [.box w.heap.size [.slice D m d, .slice D' m' d'] 26]))
  case atStart => exact ⟨m0, ws0, v1, rfl, hM, H⟩
  case round =>
    clear hM H
    obtain ⟨m1, ws, v', rfl, hM, H⟩ := hrel
    obtain ⟨x0, xf⟩ := H.box1 0 rfl
    obtain ⟨y0, yf⟩ := H.box1 1 rfl
    obtain ⟨a0, a1, -, -⟩ := H.box2 4 rfl
    have hlen : ws.length ≤ 64 := by have := hM.room; simp only at this; omega
    rcases nil_or_snoc ws with rfl | ⟨ws', x, rfl⟩
    · obtain ⟨C1, k1, rfl, -⟩ := H.formI 2 rfl
      have HE := Go.Lib.hid (clo_end hS hM)
      have HD := H.below
      clear hM H
      go_wp2
      go_ret
      exact ⟨ret_i (by rw [← HE.out]), HD⟩
    · have hxs : hasB m1 x = true := hM.stack x (by simp)
      obtain ⟨p0, p1⟩ := hasB_lt hM.lt hxs
      obtain ⟨k, rfl⟩ := Int.eq_ofNat_of_zero_le p0
      have hk : k < m := by have := hSn k ((hM.rch k (by rwa [hasB_nat] at hxs)).inS); omega
      obtain ⟨b, o, l, A2, n2, c2, rfl, hbb, hx, q1, q2, q3, hrf⟩ := hC.at_ hk
      obtain ⟨g, cc, rfl, hc1, hc2, hg1, hg2⟩ := H.rowAt 2 rfl (by simp)
      obtain ⟨z0, zf⟩ := H.elem 2 rfl (j := ws'.length) (u := .int .i64 k) (by simp)
      have H2 := (H.shrink 2 rfl ws'.length (by simp)).putBox 1 rfl 0 (.slice (some ⟨g, 0, none⟩) ws'.length cc)
      have e1 : ((ws' ++ [(k : Int)]).map (Value.int .i64)).take (ws'.length * 1) = ws'.map (Value.int .i64) := by simp
      rw [e1] at H2
      have H3 : Owns w.heap.size w _ (VisB S m1 (w.heap.size + 1) (w.heap.size + 1 + 1) (w.heap.size + 1 + 1 + 1 + 1) (.slice (some ⟨g, 0, none⟩) ws'.length cc) ws' [.box w.heap.size [.slice (some ⟨b, o, none⟩) m d, .slice D' m' d'] 26]) := H2
      obtain ⟨hC2, hn2⟩ := clo_step hS hM hx.out
      have hM2 : Met h.cells S fr (m1, ws') := ⟨hM.rch, fun r hr => hM.stack r (by simp [hr]), hM.lt, by have := hM.room; simp at this ⊢; omega⟩
      have hrch : ∀ r ∈ l.refs, hasB S r = true → Rch h.cells S.testBit fr r.toNat := fun r hr hs => .step (hM.rch k (by rwa [hasB_nat] at hxs)) hx.out hr (hasB_pos hs).1 (hasB_pos hs).2
      simp only [List.length_append, List.length_cons, List.length_nil, Nat.zero_add] at y0 hc1 hlen
      have g3 := H3.ro q3 hbb
      obtain ⟨c0, c1, -, -⟩ := H3.box2 4 rfl
      have HC2 := Go.Lib.hid hC2
      clear H2 hM e1 q1 q2 q3 hxs hC2
      go_wp2_with fail
      refine (visit_any (cs := h.cells) (fr := fr) H3 hrf (Nat.le_refl _) hS hM2 hrch).mono ?_
      rintro e w2 ⟨⟨u, rfl⟩, v2, H4⟩
      have hC2 := HC2.out
      clear HC2
      generalize visit S (m1, ws') l.refs = st at *
      obtain ⟨m2, ws2⟩ := st
      clear g3 c0 c1 x0 xf y0 yf a0 a1 z0 zf
      go_wp2
      go_roundg (ws2.length + free m2)
      case measure => simp only [List.length_append, List.length_cons, List.length_nil]; omega
      case rel => exact ⟨m2, ws2, v2, rfl, hC2, H4⟩
theorem reachable_any (w : World) (B : Nat) (v : Value) (h : Hp) (hh : RdH w B v h) (hn : h.cells.length ≤ 64) :
    Calls Try.prog 66 #[v] w fun e w' => e = .returned (.int .u64 (closM h.cells (usedM h.cells) h.roots)) ∧ Below w.heap.size w w' := by
  have hh' := hh.top
  obtain ⟨D, m, d, D', m', d', rfl, hC, hR⟩ := hh.top
  obtain ⟨a0, a1, -, -⟩ := blk2 (heap1 w (.cells #[.slice D m d, .slice D' m' d'] 26))
  have hb1 := below_alloc w (.cells #[.slice D m d, .slice D' m' d'] 26)
  go_enter Try.func66, Try.ntmps66
  go_wp2_with fail
  refine wp_region_lex (fun w' => w'.cell? ⟨w.heap.size, 0, none⟩ = some (.slice D m d) ∧ w'.cell? ⟨w.heap.size, 1, none⟩ = some (.slice D' m' d')) ([true, true, true, true, false, false, true]) (by kernel_rfl) (by kernel_rfl) ⟨a0, a1⟩ ?_
  repeat (first
    | (with_reducible refine lex_take (v := ?_) ?_ (fun w' hS' => ?_) ?_
       rotate_left
       · (go_simp; done)
       · ((try dsimp only at hS'); go_simp; try with_reducible rfl)
       simp only [Act.put, List.setIfInBounds_toArray, List.set_cons_zero, List.set_cons_succ])
    | (with_reducible refine lex_skip ?_ ?_
       · (go_simp; done)
       simp only [Act.put, List.setIfInBounds_toArray, List.set_cons_zero, List.set_cons_succ]))
  with_reducible refine lex_run ?_ (fun K hK => ?_)
  · (go_simp; done)
  go_simp
  refine (usedSet_any _ _ _ h (hh'.below hb1.drew) hn).mono ?_
  rintro e w2 ⟨rfl, hb2⟩
  have b0 := keepd a0 hb2
  have b1 := keepd a1 hb2
  have hb3 := hb1.drew.trans (hb2.mono (by simp))
  refine hK.out _ _ ⟨b0, b1⟩ ?_
  clear hK K
  repeat (first
    | (with_reducible refine lex_take (v := ?_) ?_ (fun w' hS' => ?_) ?_
       rotate_left
       · (go_simp; done)
       · ((try dsimp only at hS'); go_simp; try with_reducible rfl)
       simp only [Act.put, List.setIfInBounds_toArray, List.set_cons_zero, List.set_cons_succ])
    | (with_reducible refine lex_skip ?_ ?_
       · (go_simp; done)
       simp only [Act.put, List.setIfInBounds_toArray, List.set_cons_zero, List.set_cons_succ]))
  with_reducible refine lex_run ?_ (fun K hK => ?_)
  · (go_simp; done)
  go_simp
  refine (closure_any _ _ _ _ h _ _ _ h.roots (usedM h.cells) (hh'.below hb3) (hR.below hb3) (usedM_lt _) fun c hc => usedN_lt (by rwa [usedM_bit hn] at hc)).mono ?_
  rintro e w4 ⟨rfl, hb4⟩
  refine hK.out _ _ ⟨keept b0 hb4, keept b1 hb4⟩ ?_
  clear hK K
  repeat (first
    | (with_reducible refine lex_take (v := ?_) ?_ (fun w' hS' => ?_) ?_
       rotate_left
       · (go_simp; done)
       · ((try dsimp only at hS'); go_simp; try with_reducible rfl)
       simp only [Act.put, List.setIfInBounds_toArray, List.set_cons_zero, List.set_cons_succ])
    | (with_reducible refine lex_skip ?_ ?_
       · (go_simp; done)
       simp only [Act.put, List.setIfInBounds_toArray, List.set_cons_zero, List.set_cons_succ]))
  refine lex_nil ?_
  have HB := hb3.trans (hb4.mono hb3.size)
  clear b0 b1 a0 a1 hb2 hb3 hb4 hb1
  go_wp2
  go_ret
  exact ⟨rfl, HB⟩
end Go.Proofs.Ytjpfgbckmcjjaaa
