/- Several texts in one: Li, Clo, Ra, Bl, Uc. Each says ahead of its part what it proves. No condition but those. -/
import Derived.Test.YtdkpfggfkhnjfaaZ1
import Derived.Test.YtdkpfggfkhnjfaaZ0
/- The program's list of a set: for every one of some cells whether it is in the set. -/
namespace Go.Proofs.Ytdkpfggfkhnjfaa
open Go.RowKit
theorem mapB_turn {f : Nat → Bool} {k n : Nat} (h : k < n) : ((List.range k).map f ++ List.replicate (n - k) false).set k (f k) = (List.range (k + 1)).map f ++ List.replicate (n - (k + 1)) false := by
  have e : n - k = (n - (k + 1)) + 1 := by omega
  rw [e, List.replicate_succ, List.range_succ, List.map_append, List.set_append_right _ _ (by simp)]
  simp
theorem mapB_here {f : Nat → Bool} {k n : Nat} (h : k < n) : ((List.range k).map f ++ List.replicate (n - k) false)[k]? = some false := by
  rw [List.getElem?_append_right (by simp)]
  simp only [List.length_map, List.length_range, Nat.sub_self]
  rw [List.getElem?_replicate, if_pos (by omega)]
theorem list_any (m n : Nat) (w : World) (hm : m < 2 ^ 64) (hn : n ≤ 1048576) :
    Calls Try.prog 53 #[.int .u64 m, .int .i64 n] w (MadeB w ((List.range n).map m.testBit)) := by
  obtain ⟨i0, hi, hz0, hz1, hz2⟩ := info_parts Try.infoBool
  have HM := Go.Lib.hid hm
  clear hm
  go_enter Try.func53, Try.ntmps53
  go_wp2_with (at_make; refine wpList_make_full _ rfl _ _ _ rfl w.heap.size 4 i0 (.bool false) 1 Try.underlying74 hi hz0 hz1 .i64 .i64 _ _ n rfl rfl rfl rfl (by rw [hz2]; omega) (by unfold maxLen; omega) (Nat.le_refl _) ?_)
  intro w1 hown hg
  have H1 := (Owns.nil w).mkB (by simpa using hown) hg
  clear hown hg
  go_wp2_with fail
  go_loopw [11] (fun i wr => ∃ k : Nat, i = .int .i64 k ∧ k ≤ n ∧ Owns w.heap.size w wr [.row 4 1 (.slice (some ⟨w.heap.size, 0, none⟩) n n) n (((List.range k).map m.testBit ++ List.replicate (n - k) false).map Value.bool)]) (fun i _ => n - (intOf i).toNat)
  case atStart => exact ⟨0, rfl, Nat.zero_le _, H1⟩
  case round =>
    clear H1
    obtain ⟨k, rfl, hk, H⟩ := hrel
    by_cases hlt : k < n
    · have hT := mapB_turn (f := m.testBit) hlt
      obtain ⟨y0, yf⟩ := H.elem 0 rfl (j := k) (u := .bool false) (by rw [List.getElem?_map, mapB_here hlt]; rfl)
      have H2 := H.putRow 0 rfl k (.bool (m.testBit k))
      simp only [List.set_cons_zero] at H2
      rw [show ((List.map m.testBit (List.range k) ++ List.replicate (n - k) false).map Value.bool).set k (.bool (m.testBit k)) = ((List.map m.testBit (List.range k) ++ List.replicate (n - k) false).set k (m.testBit k)).map Value.bool from by rw [List.map_set], hT] at H2
      have HB := Go.Lib.hid (hasB_nat m k)
      have HH := Go.Lib.hid H2
      clear hT H2 H
      generalize m.testBit k = bk at *
      go_wp2_with fail
      refine (has_any m k _ HM.out).mono ?_
      rintro e w2 ⟨rfl, hw2⟩
      obtain rfl := hw2
      rw [HB.out]
      go_wp2
      go_roundw
      case rel => exact ⟨k + 1, by go_num, by omega, HH.out⟩
      case measure => simp [intOf]; omega
    · obtain rfl : k = n := by omega
      rw [Nat.sub_self, List.replicate_zero, List.append_nil] at H
      have ho := H.own 0 rfl
      have hO : OwB wr w.heap.size wr.heap.size (.slice (some ⟨w.heap.size, 0, none⟩) k k) ((List.range k).map m.testBit) := ⟨by rw [List.length_map, List.length_range]; exact ho, fun q e => (ho.lt q e).2⟩
      have HD := H.below
      clear H ho
      go_wp2
      go_ret
      exact ⟨_, rfl, hO, HD⟩
theorem list_clos {h : Hp} {fr : List Int} {n : Nat} (hn : n = h.cells.length) (h64 : h.cells.length ≤ 64) : (List.range n).map (closM h.cells (usedM h.cells) fr).testBit = reachL h.cells fr := by
  subst hn
  unfold reachL
  rw [show (closM h.cells (usedM h.cells) fr).testBit = reachB h.cells fr from funext fun c => closM_used h64 c]
end Go.Proofs.Ytdkpfggfkhnjfaa

/- The program's closure finds exactly what can be reached by cells of a set. -/
namespace Go.Proofs.Ytdkpfggfkhnjfaa
open Go.RowKit
theorem visit1_no {S : Nat} {st : Nat × List Int} {r : Int} (h : hasB S r = false) : visit1 S st r = st := by simp [visit1, h]
theorem visit1_met {S : Nat} {st : Nat × List Int} {r : Int} (h : hasB st.1 r = true) : visit1 S st r = st := by simp [visit1, h]
theorem visit1_yes {S m : Nat} {ws : List Int} {r : Int} (h : hasB S r = true) (h2 : hasB m r = false) : visit1 S (m, ws) r = (addB m r, ws ++ [r]) := by simp [visit1, h, h2]
abbrev VisB (S m g1 g2 g3 : Nat) (v : Value) (ws : List Int) (L : List OB) : List OB :=
  .box g2 [.int .u64 m] 76 :: .box g3 [v] 27 :: .ints v ws :: .box g1 [.int .u64 S] 76 :: L
set_option maxHeartbeats 1600000 in
theorem visit_any {cs : List Cel} {fr : List Int} {lo : Nat} {w0 w : World} {L : List OB} {S m g1 g2 g3 : Nat} {v : Value} {ws : List Int} (H : Owns lo w0 w (VisB S m g1 g2 g3 v ws L)) {B : Nat} {A : Option Addr} {n c : Nat} {rs : List Int} (hr : RdI w0 B A n c rs) (hB : B ≤ lo)
    (hS : S < 2 ^ 64) (hM : Met cs S fr (m, ws)) (hR : ∀ r ∈ rs, hasB S r = true → Rch cs S.testBit fr r.toNat) :
    Calls Try.prog 79 #[.slice A n c, .pointer (some ⟨g1, 0, none⟩), .pointer (some ⟨g2, 0, none⟩), .pointer (some ⟨g3, 0, none⟩)] w fun e w' =>
      (∃ u, e = .returned u) ∧ ∃ v', Owns lo w0 w' (VisB S (visit S (m, ws) rs).1 g1 g2 g3 v' (visit S (m, ws) rs).2 L) := by
  have hm1 := hr.mx; have hcap1 := hr.cap
  have l1 := RdI.le1 hr; have l2 := RdI.le2 hr
  unfold maxLen at hm1
  go_enter Try.func79, Try.ntmps79
  go_wp2_with fail
  go_loopw [9] (fun i wr => ∃ (k : Nat) (v' : Value), i = .int .i64 k ∧ k ≤ n ∧ Owns lo w0 wr (VisB S (visit S (m, ws) (rs.take k)).1 g1 g2 g3 v' (visit S (m, ws) (rs.take k)).2 L)) (fun i _ => n - (intOf i).toNat)
  case atStart => exact ⟨0, v, rfl, Nat.zero_le _, H⟩
  case round =>
    clear H
    obtain ⟨k, v', rfl, hk, H⟩ := hrel
    have hM' := (hM.visit hS (rs.take k) (m, ws) fun r hr => hR r (List.mem_of_mem_take hr)).1
    by_cases hlt : k < n
    · obtain ⟨b, o, x, rfl, hbb, hx, q1⟩ := RdI.at_ hr hlt
      have hT := visit_take (S := S) (st := (m, ws)) hx
      generalize visit S (m, ws) (rs.take k) = st at *
      obtain ⟨m1, ws1⟩ := st
      have g1' := H.ro q1 (by show b < lo; omega)
      obtain ⟨x0, xf⟩ := H.box1 0 rfl
      obtain ⟨y0, yf⟩ := H.box1 1 rfl
      obtain ⟨z0, zf⟩ := H.box1 3 rfl
      have hml := hM'.lt
      have hro := hM'.room
      simp only at hml hro
      have HM := Go.Lib.hid hml
      have HS' := Go.Lib.hid hS
      clear hml q1 hM'
      have hS2 : S < 2 ^ 64 := hS
      clear hS
      cases hs : hasB S x
      · rw [visit1_no hs] at hT
        have HT := Go.Lib.hid hT
        have HH := Go.Lib.hid hs
        clear hT hs
        go_wp2_with fail
        refine (has_any S x wr HS'.out).mono ?_
        rintro e w2 ⟨rfl, rfl⟩
        rw [HH.out]
        go_wp2
        go_roundw
        case rel => exact ⟨k + 1, v', by go_num, by omega, by rw [HT.out]; exact H⟩
        case measure => simp [intOf]; omega
      · have HH := Go.Lib.hid hs
        cases hm : hasB m1 x
        · rw [visit1_yes hs hm] at hT
          have HT := Go.Lib.hid hT
          have HN := Go.Lib.hid hm
          obtain ⟨p0, p1⟩ := hasB_lt hS2 hs
          clear hT hs hm
          go_wp2_with fail
          refine (has_any S x wr HS'.out).mono ?_
          rintro e w2 ⟨rfl, hw2⟩
          obtain rfl := hw2
          rw [HH.out]
          go_wp2_with fail
          refine (has_any m1 x wr HM.out).mono ?_
          rintro e w2 ⟨rfl, hw2⟩
          obtain rfl := hw2
          rw [HN.out]
          go_wp2_with fail
          refine (add_own H 0 rfl x HM.out p0 p1).mono ?_
          rintro e w2 ⟨⟨u, rfl⟩, H2⟩
          clear x0 xf y0 yf z0 zf g1'
          simp only [List.set_cons_zero] at H2
          obtain ⟨y0, yf⟩ := H2.box1 1 rfl
          have H3 := H2.alloc (.cells #[.int .i64 x] 3)
          have y0' := H3.box1 1 rfl
          go_wp2_with (at_builtin; go_loud (refine wpList_pushO rfl (.tmp 24) (.tmp 26) rfl H3 2 rfl rfl rfl (rdI_one (heap1 w2 _) (Nat.le_refl _) one_le_maxLen) (by omega) ?_; intro A3 k3 w3 H4; obtain ⟨y1, yf1⟩ := H4.box1 1 rfl))
          simp only [List.set_cons_zero, List.set_cons_succ] at H4
          have H5 := H4.putBox 1 rfl 0 (.slice A3 (ws1 ++ [x]).length k3)
          simp only [List.set_cons_zero, List.set_cons_succ, List.length_append, List.length_cons, List.length_nil, Nat.zero_add] at H5
          have HO := Go.Lib.hid H5
          clear H2 H3 H4 H5 y0' H
          go_wp2
          go_roundw
          case rel => exact ⟨k + 1, _, by go_num, by omega, by rw [HT.out]; exact HO.out⟩
          case measure => simp [intOf]; omega
        · rw [visit1_met (st := (m1, ws1)) hm] at hT
          have HT := Go.Lib.hid hT
          have HN := Go.Lib.hid hm
          clear hT hs hm
          go_wp2_with fail
          refine (has_any S x wr HS'.out).mono ?_
          rintro e w2 ⟨rfl, hw2⟩
          obtain rfl := hw2
          rw [HH.out]
          go_wp2_with fail
          refine (has_any m1 x wr HM.out).mono ?_
          rintro e w2 ⟨rfl, hw2⟩
          obtain rfl := hw2
          rw [HN.out]
          go_wp2
          go_roundw
          case rel => exact ⟨k + 1, v', by go_num, by omega, by rw [HT.out]; exact H⟩
          case measure => simp [intOf]; omega
    · rw [List.take_of_length_le (by omega)] at H
      clear hM'
      go_wp2
      refine bodyPost_end (results_none rfl _ _ _) rfl ?_
      exact ⟨⟨_, rfl⟩, v', H⟩
set_option maxHeartbeats 1600000 in
theorem closure_any (w : World) (B B' : Nat) (v : Value) (h : Hp) (A : Option Addr) (n c : Nat) (fr : List Int) (S : Nat) (hh : RdH w B v h) (hr : RdI w B' A n c fr) (hS : S < 2 ^ 64) (hSn : ∀ c, S.testBit c = true → c < h.cells.length) :
    Calls Try.prog 78 #[v, .slice A n c, .int .u64 S] w fun e w' => e = .returned (.int .u64 (closM h.cells S fr)) ∧ Below w.heap.size w w' := by
  obtain ⟨D, m, d, D', m', d', rfl, hC, hR⟩ := hh.top
  have hr := hr.top
  have hm1 := hC.mx; have hcap1 := hC.cap
  have l3 := hC.le1; have l4 := hC.le2
  unfold maxLen at hm1
  have H1 := (((((Owns.nil w).box [.slice D m d, .slice D' m' d'] 29).box [.int .u64 S] 76).box [.int .u64 (0 : Nat)] 76).litI [] zero_le_maxLen)
  have H2 := H1.box [.slice (some ⟨w.heap.size + 1 + 1 + 1, 0, none⟩) 0 0] 27
  simp only [List.length_nil, World.size_alloc] at H2
  have H3 : Owns w.heap.size w _ (VisB S 0 (w.heap.size + 1) (w.heap.size + 1 + 1) (w.heap.size + 1 + 1 + 1 + 1) (.slice (some ⟨w.heap.size + 1 + 1 + 1, 0, none⟩) 0 0) [] [.box w.heap.size [.slice D m d, .slice D' m' d'] 29]) := H2.order [2, 0, 1, 3, 4] (by decide) rfl
  clear H1 H2
  go_enter Try.func78, Try.ntmps78
  go_wp2_with fail
  refine (visit_any (cs := h.cells) (fr := fr) H3 hr (Nat.le_refl _) hS met_start fun r hr hs => .base hr (hasB_pos hs).1 (hasB_pos hs).2).mono ?_
  rintro e w1 ⟨⟨u, rfl⟩, v1, H⟩
  have hM := clo_start (cs := h.cells) (fr := fr) hS
  clear H3
  generalize visit S (0, []) fr = st at *
  obtain ⟨m0, ws0⟩ := st
  go_wp2_with fail
  go_loopg [] (ws0.length + free m0) (fun gk wr => ∃ (m1 : Nat) (ws : List Int) (v' : Value), gk = ws.length + free m1 ∧ Clo h.cells S fr (m1, ws) ∧ Owns w.heap.size w wr (VisB S m1 (w.heap.size + 1) (w.heap.size + 1 + 1) (w.heap.size + 1 + 1 + 1 + 1) v' ws [.box w.heap.size [.slice D m d, .slice D' m' d'] 29]))
  case atStart => exact ⟨m0, ws0, v1, rfl, hM, H⟩
  case round =>
    clear hM H
    obtain ⟨m1, ws, v', rfl, hM, H⟩ := hrel
    obtain ⟨x0, xf⟩ := H.box1 0 rfl
    obtain ⟨y0, yf⟩ := H.box1 1 rfl
    obtain ⟨a0, a1, -, -⟩ := H.box2 4 rfl
    have hlen : ws.length ≤ 64 := by have := hM.room; simp only at this; omega
    rcases nil_or_snoc ws with rfl | ⟨ws', x, rfl⟩
    · obtain ⟨C1, k1, rfl, -⟩ := H.formI 2 rfl
      have HE := Go.Lib.hid (clo_end hS hM)
      have HD := H.below
      clear hM H
      go_wp2
      go_ret
      exact ⟨ret_i (by rw [← HE.out]), HD⟩
    · have hxs : hasB m1 x = true := hM.stack x (by simp)
      obtain ⟨p0, p1⟩ := hasB_lt hM.lt hxs
      obtain ⟨k, rfl⟩ := Int.eq_ofNat_of_zero_le p0
      have hk : k < m := by have := hSn k ((hM.rch k (by rwa [hasB_nat] at hxs)).inS); omega
      obtain ⟨b, o, l, A2, n2, c2, rfl, hbb, hx, q1, q2, q3, hrf⟩ := hC.at_ hk
      obtain ⟨g, cc, rfl, hc1, hc2, hg1, hg2⟩ := H.rowAt 2 rfl (by simp)
      obtain ⟨z0, zf⟩ := H.elem 2 rfl (j := ws'.length) (u := .int .i64 k) (by simp)
      have H2 := (H.shrink 2 rfl ws'.length (by simp)).putBox 1 rfl 0 (.slice (some ⟨g, 0, none⟩) ws'.length cc)
      have e1 : ((ws' ++ [(k : Int)]).map (Value.int .i64)).take (ws'.length * 1) = ws'.map (Value.int .i64) := by simp
      rw [e1] at H2
      have H3 : Owns w.heap.size w _ (VisB S m1 (w.heap.size + 1) (w.heap.size + 1 + 1) (w.heap.size + 1 + 1 + 1 + 1) (.slice (some ⟨g, 0, none⟩) ws'.length cc) ws' [.box w.heap.size [.slice (some ⟨b, o, none⟩) m d, .slice D' m' d'] 29]) := H2
      obtain ⟨hC2, hn2⟩ := clo_step hS hM hx.out
      have hM2 : Met h.cells S fr (m1, ws') := ⟨hM.rch, fun r hr => hM.stack r (by simp [hr]), hM.lt, by have := hM.room; simp at this ⊢; omega⟩
      have hrch : ∀ r ∈ l.refs, hasB S r = true → Rch h.cells S.testBit fr r.toNat := fun r hr hs => .step (hM.rch k (by rwa [hasB_nat] at hxs)) hx.out hr (hasB_pos hs).1 (hasB_pos hs).2
      simp only [List.length_append, List.length_cons, List.length_nil, Nat.zero_add] at y0 hc1 hlen
      have g3 := H3.ro q3 hbb
      obtain ⟨c0, c1, -, -⟩ := H3.box2 4 rfl
      have HC2 := Go.Lib.hid hC2
      clear H2 hM e1 q1 q2 q3 hxs hC2
      go_wp2_with fail
      refine (visit_any (cs := h.cells) (fr := fr) H3 hrf (Nat.le_refl _) hS hM2 hrch).mono ?_
      rintro e w2 ⟨⟨u, rfl⟩, v2, H4⟩
      have hC2 := HC2.out
      clear HC2
      generalize visit S (m1, ws') l.refs = st at *
      obtain ⟨m2, ws2⟩ := st
      clear g3 c0 c1 x0 xf y0 yf a0 a1 z0 zf
      go_wp2
      go_roundg (ws2.length + free m2)
      case measure => simp only [List.length_append, List.length_cons, List.length_nil]; omega
      case rel => exact ⟨m2, ws2, v2, rfl, hC2, H4⟩
theorem reachable_any (w : World) (B : Nat) (v : Value) (h : Hp) (hh : RdH w B v h) (hn : h.cells.length ≤ 64) :
    Calls Try.prog 67 #[v] w fun e w' => e = .returned (.int .u64 (closM h.cells (usedM h.cells) h.roots)) ∧ Below w.heap.size w w' := by
  have hh' := hh.top
  obtain ⟨D, m, d, D', m', d', rfl, hC, hR⟩ := hh.top
  obtain ⟨a0, a1, -, -⟩ := blk2 (heap1 w (.cells #[.slice D m d, .slice D' m' d'] 29))
  have hb1 := below_alloc w (.cells #[.slice D m d, .slice D' m' d'] 29)
  go_enter Try.func67, Try.ntmps67
  go_wp2_with fail
  refine wp_region_lex (fun w' => w'.cell? ⟨w.heap.size, 0, none⟩ = some (.slice D m d) ∧ w'.cell? ⟨w.heap.size, 1, none⟩ = some (.slice D' m' d')) ([true, true, true, true, false, false, true]) (by kernel_rfl) (by kernel_rfl) ⟨a0, a1⟩ ?_
  repeat (first
    | (with_reducible refine lex_take (v := ?_) ?_ (fun w' hS' => ?_) ?_
       rotate_left
       · (go_simp; done)
       · ((try dsimp only at hS'); go_simp; try with_reducible rfl)
       simp only [Act.put, List.setIfInBounds_toArray, List.set_cons_zero, List.set_cons_succ])
    | (with_reducible refine lex_skip ?_ ?_
       · (go_simp; done)
       simp only [Act.put, List.setIfInBounds_toArray, List.set_cons_zero, List.set_cons_succ]))
  with_reducible refine lex_run ?_ (fun K hK => ?_)
  · (go_simp; done)
  go_simp
  refine (usedSet_any _ _ _ h (hh'.below hb1.drew) hn).mono ?_
  rintro e w2 ⟨rfl, hb2⟩
  have b0 := keepd a0 hb2
  have b1 := keepd a1 hb2
  have hb3 := hb1.drew.trans (hb2.mono (by simp))
  refine hK.out _ _ ⟨b0, b1⟩ ?_
  clear hK K
  repeat (first
    | (with_reducible refine lex_take (v := ?_) ?_ (fun w' hS' => ?_) ?_
       rotate_left
       · (go_simp; done)
       · ((try dsimp only at hS'); go_simp; try with_reducible rfl)
       simp only [Act.put, List.setIfInBounds_toArray, List.set_cons_zero, List.set_cons_succ])
    | (with_reducible refine lex_skip ?_ ?_
       · (go_simp; done)
       simp only [Act.put, List.setIfInBounds_toArray, List.set_cons_zero, List.set_cons_succ]))
  with_reducible refine lex_run ?_ (fun K hK => ?_)
  · (go_simp; done)
  go_simp
  refine (closure_any _ _ _ _ h _ _ _ h.roots (usedM h.cells) (hh'.below hb3) (hR.below hb3) (usedM_lt _) fun c hc => usedN_lt (by rwa [usedM_bit hn] at hc)).mono ?_
  rintro e w4 ⟨rfl, hb4⟩
  refine hK.out _ _ ⟨keept b0 hb4, keept b1 hb4⟩ ?_
  clear hK K
  repeat (first
    | (with_reducible refine lex_take (v := ?_) ?_ (fun w' hS' => ?_) ?_
       rotate_left
       · (go_simp; done)
       · ((try dsimp only at hS'); go_simp; try with_reducible rfl)
       simp only [Act.put, List.setIfInBounds_toArray, List.set_cons_zero, List.set_cons_succ])
    | (with_reducible refine lex_skip ?_ ?_
       · (go_simp; done)
       simp only [Act.put, List.setIfInBounds_toArray, List.set_cons_zero, List.set_cons_succ]))
  refine lex_nil ?_
  have HB := hb3.trans (hb4.mono hb3.size)
  clear b0 b1 a0 a1 hb2 hb3 hb4 hb1
  go_wp2
  go_ret
  exact ⟨rfl, HB⟩
end Go.Proofs.Ytdkpfggfkhnjfaa

/- Reachable, the program's: for every heap that can be read. -/
namespace Go.Proofs.Ytdkpfggfkhnjfaa
open Go.RowKit
set_option maxHeartbeats 1600000 in
set_option maxRecDepth 20000 in
theorem implReachable_any (w : World) (B : Nat) (v : Value) (h : Hp) (hh : RdH w B v h) :
    Calls Try.prog 54 #[v] w (MadeB w (mReachable h)) := by
  have hh' := hh.top
  obtain ⟨D, m, d, D', m', d', rfl, hC, hR⟩ := hh.top
  have l3 := hC.le1; have l4 := hC.le2
  have H1 := (Owns.nil w).box [.slice D m d, .slice D' m' d'] 29
  go_enter Try.func54, Try.ntmps54
  go_wp2_with fail
  refine (heapValid_any _ _ _ h (hh'.below H1.below)).mono ?_
  rintro e w1 ⟨rfl, hb1⟩
  have H2 := H1.call hb1
  obtain ⟨a0, a1, -, -⟩ := H2.box2 0 rfl
  clear H1 hb1
  cases hy : heapOk h
  · have HF := Go.Lib.hid (mReachable_no hy)
    clear hy
    go_wp2
    go_ret
    rw [HF.out]
    exact H2.noBools.toB 0 rfl
  · obtain ⟨s4, -⟩ := heapOk_small hy
    have HF := Go.Lib.hid (mReachable_yes hy)
    have HL := Go.Lib.hid (list_clos (h := h) (fr := h.roots) (n := m) (by omega) (by omega))
    have HM := Go.Lib.hid (closM_lt h.cells (usedM h.cells) h.roots)
    clear hy
    have HX := H2.drew
    obtain ⟨b0, b1, -, -⟩ := HX.box2 0 rfl
    go_wp2_with fail
    refine wp_region_tree (fun w' => w'.cell? ⟨w.heap.size, 0, none⟩ = some (.slice D m d) ∧ w'.cell? ⟨w.heap.size, 1, none⟩ = some (.slice D' m' d')) 7 [] (.take 0 (.take 2 (.take 3 (.take 4 (.alt 1 (.alt 5 (.take 6 (.done)) (.stop)) (.stop)))))) (by kernel_rfl) (by kernel_rfl) (by kernel_rfl) (⟨b0, b1⟩) ?_
    simp only [fillT, List.getElem?_cons_zero, List.getElem?_cons_succ, Nat.reduceBEq]
    repeat (first
      | (with_reducible refine po_take (v := ?_) ?_ (fun w' hS' => ?_) ?_
         rotate_left
         · (go_simp; done)
         · ((try dsimp only at hS'); go_simp; try with_reducible rfl)
         simp only [Act.put, List.setIfInBounds_toArray, List.set_cons_zero, List.set_cons_succ])
      | (with_reducible refine po_skip ?_ ?_
         · (go_simp; done)
         simp only [Act.put, List.setIfInBounds_toArray, List.set_cons_zero, List.set_cons_succ]))
    with_reducible refine po_run ?_ (fun K hK => ?_) ?_
    · (go_simp; done)
    rotate_left
    · exact po_stop
    go_simp
    refine (reachable_any _ _ _ h (hh'.below HX.below) (by omega)).mono ?_
    rintro e w7 ⟨rfl, hb⟩
    replace HX := HX.call hb
    replace b0 := keept b0 hb
    replace b1 := keept b1 hb
    refine hK.out _ _ (.inr (⟨b0, b1⟩)) ?_
    clear hK K
    with_reducible refine po_run ?_ (fun K hK => ?_) ?_
    · (go_simp; done)
    rotate_left
    · exact po_stop
    go_simp
    refine (list_any _ m _ HM.out (by omega)).mono ?_
    rintro e w9 ⟨v9, rfl, ho9, hb⟩
    rw [HL.out, ← HF.out] at ho9
    replace HX := HX.madeB ho9 hb
    refine hK.out _ _ (.inr (⟨keept b0 hb, keept b1 hb⟩)) ?_
    clear hK K
    repeat (first
      | (with_reducible refine po_take (v := ?_) ?_ (fun w' hS' => ?_) ?_
         rotate_left
         · (go_simp; done)
         · ((try dsimp only at hS'); go_simp; try with_reducible rfl)
         simp only [Act.put, List.setIfInBounds_toArray, List.set_cons_zero, List.set_cons_succ])
      | (with_reducible refine po_skip ?_ ?_
         · (go_simp; done)
         simp only [Act.put, List.setIfInBounds_toArray, List.set_cons_zero, List.set_cons_succ]))
    refine po_done ?_
    clear b0 b1 a0 a1 ho9 hb
    go_wp2
    go_ret
    exact HX.toB 0 rfl
end Go.Proofs.Ytdkpfggfkhnjfaa

/- The laws' equality, marking and holding functions on slices of bools. For numbers below 2^40. -/
namespace Go.Proofs.Ytdkpfggfkhnjfaa
open Go.RowKit
def markB (k : Int) : Nat → List Bool
  | 0 => []
  | n + 1 => markB k n ++ [(k + n) % 3 == 0]
theorem markB_length (k : Int) : ∀ n, (markB k n).length = n
  | 0 => rfl
  | n + 1 => by simp [markB, markB_length k n]
theorem markB_at (k : Int) : ∀ (n i : Nat), i < n → (markB k n)[i]? = some ((k + i) % 3 == 0)
  | n + 1, i, h => by
    rcases Nat.lt_or_ge i n with hi | hi
    · rw [markB, List.getElem?_append_left (by rw [markB_length]; exact hi), markB_at k n i hi]
    · obtain rfl : i = n := by omega
      rw [markB, List.getElem?_append_right (by rw [markB_length]; exact Nat.le_refl _), markB_length]; simp
theorem markB_set (k : Int) (xs : List Bool) (j : Nat) (hj : j < xs.length) : ((markB k j ++ xs.drop j).map Value.bool).set j (.bool ((k + j) % 3 == 0)) = (markB k (j + 1) ++ xs.drop (j + 1)).map Value.bool := by
  rw [List.drop_eq_getElem_cons hj, List.map_append, List.set_append_right _ _ (by simp [markB_length]), markB]
  simp only [List.map_cons, List.length_map, markB_length, Nat.sub_self, List.set_cons_zero, List.map_append, List.append_assoc, List.cons_append, List.nil_append]
theorem OwB.only {w w' : World} {lo hi lo' hi' : Nat} {v : Value} {xs : List Bool} (ho : OwB w lo hi v xs) (hO : Only lo' hi' w w') (h : hi ≤ lo' ∨ hi' ≤ lo) : OwB w' lo hi v xs :=
  ⟨own_keep ho.own fun k e => hO.block k (ho.own.lt k e).2 (by have := ho.lt k e; have := (ho.own.lt k e).1; omega), ho.lt⟩
theorem OwB.rdB {w : World} {lo hi : Nat} {A : Option Addr} {n c : Nat} {xs : List Bool} (ho : OwB w lo hi (.slice A n c) xs) : RdB w hi A n c xs := by
  obtain ⟨A', c', e, hr⟩ := ho.form
  injection e with e1 e2 e3
  subst e1 e2 e3
  exact hr
theorem Only.grownB {w w' : World} {lo hi : Nat} {v : Value} {xs : List Bool} (ho : OwB w lo hi v xs) (hg : w.grownBy w' v.ownBlock) : Only lo hi w w' :=
  ⟨hg.os, hg.tape, hg.output, hg.size, fun k hk hn => hg.block k hk fun e => by have := ho.lt k e.symm; have := (ho.own.lt k e.symm).1; omega⟩
end Go.Proofs.Ytdkpfggfkhnjfaa

/- The program's UsedCells: how many cells of a valid heap are used. For every heap that can be read. -/
namespace Go.Proofs.Ytdkpfggfkhnjfaa
open Go.RowKit
def usedTo (cs : List Cel) (k : Nat) : Nat := ((List.range k).filter (usedN cs)).length
theorem usedTo_succ (cs : List Cel) (k : Nat) : usedTo cs (k + 1) = usedTo cs k + (if usedN cs k then 1 else 0) := by
  unfold usedTo
  rw [List.range_succ, List.filter_append, List.length_append]
  cases h : usedN cs k <;> simp [h]
def cntB (bs : List Bool) : Nat := (bs.filter id).length
theorem cntB_succ {bs : List Bool} {k : Nat} {b : Bool} (h : Hid (bs[k]? = some b)) : cntB (bs.take (k + 1)) = cntB (bs.take k) + (if b then 1 else 0) := by
  unfold cntB
  rw [take_snoc' h, List.filter_append, List.length_append]
  cases b <;> rfl
theorem cntB_le (bs : List Bool) : cntB bs ≤ bs.length := List.length_filter_le _ _
theorem cntB_used {cs : List Cel} (h64 : cs.length ≤ 64) : cntB ((List.range cs.length).map (usedM cs).testBit) = usedTo cs cs.length := by
  unfold cntB usedTo
  rw [List.filter_map, List.length_map]
  congr 2
  funext c
  show (usedM cs).testBit c = usedN cs c
  exact usedM_bit h64 c
theorem mReachable_len (h : Hp) : (mReachable h).length ≤ 1048576 := by
  cases hy : heapOk h
  · rw [mReachable_no hy]; simp
  · rw [mReachable_yes hy]
    have := (heapOk_small hy).1
    unfold reachL
    simp; omega
theorem count_any (w : World) (B : Nat) (A : Option Addr) (n c : Nat) (bs : List Bool) (hr : RdB w B A n c bs) (hn : n ≤ 1048576) :
    Calls Try.prog 51 #[.slice A n c] w fun e w' => e = .returned (.int .i64 (cntB bs : Nat)) ∧ Below w.heap.size w w' := by
  have hlen : n = bs.length := by have := hr.len; simpa using this
  have hr := hr.top
  have H := Owns.nil w
  go_enter Try.func51, Try.ntmps51
  go_wp2_with fail
  go_loopw [3, 8] (fun v i wr => ∃ k : Nat, v = .int .i64 (cntB (bs.take k) : Nat) ∧ i = .int .i64 k ∧ k ≤ n ∧ Below w.heap.size w wr) (fun _ i _ => n - (intOf i).toNat)
  case atStart => exact ⟨0, by simp [cntB], rfl, Nat.zero_le _, H.below⟩
  case round =>
    clear H
    obtain ⟨k, rfl, rfl, hk, hb⟩ := hrel
    by_cases hlt : k < n
    · obtain ⟨bk, hbk⟩ : ∃ x, Hid (bs[k]? = some x) := ⟨_, Go.Lib.hid (List.getElem?_eq_getElem (by omega))⟩
      obtain ⟨b, o, rfl, hbb, hc⟩ := hr.rd (by omega)
      have g1 := hb.cell (p := ⟨b, o + k, none⟩) hbb
      rw [hc k (.bool bk) (by rw [List.getElem?_map, hbk.out]; rfl)] at g1
      clear hc
      have hle := cntB_le (bs.take k)
      rw [List.length_take] at hle
      have hs := cntB_succ hbk
      obtain ⟨m, hm⟩ : ∃ m, m = cntB (bs.take k) := ⟨_, rfl⟩
      rw [← hm] at hle hs ⊢
      have hm1 : m ≤ 1048576 := by omega
      have hS := Go.Lib.hid hs
      clear hm hs hle
      cases bk
      · go_wp2
        go_roundw
        case rel => exact ⟨k + 1, by rw [hS.out]; simp, by go_num, by omega, hb⟩
        case measure => simp [intOf]; omega
      · go_wp2
        go_roundw
        case rel => exact ⟨k + 1, by rw [hS.out]; simp, by go_num, by omega, hb⟩
        case measure => simp [intOf]; omega
    · have e : bs.take k = bs := List.take_of_length_le (by omega)
      rw [e]
      go_wp2
      go_ret
      exact ⟨rfl, hb⟩
set_option maxHeartbeats 1600000 in
set_option maxRecDepth 20000 in
theorem implUsedCells_any (w : World) (B : Nat) (v : Value) (h : Hp) (hh : RdH w B v h) (hok : heapOk h = true) :
    Calls Try.prog 30 #[v] w fun e w' => (∃ y : Int, e = .returned (.tuple #[.int .i64 (usedTo h.cells h.cells.length : Nat), .int .i64 y])) ∧ Below w.heap.size w w' := by
  have hh' := hh.top
  obtain ⟨D, m, d, D', m', d', rfl, hC, hR⟩ := hh.top
  have l3 := hC.le1; have l4 := hC.le2
  obtain ⟨s4, -⟩ := heapOk_small hok
  have h64 : h.cells.length ≤ 64 := by omega
  have hm64 : m ≤ 1048576 := by omega
  have H1 := (Owns.nil w).box [.slice D m d, .slice D' m' d'] 29
  go_enter Try.func30, Try.ntmps30
  go_wp2_with fail
  refine (heapValid_any _ _ _ h (hh'.below H1.below)).mono ?_
  rintro e w1 ⟨rfl, hb1⟩
  rw [hok]
  clear hok
  have H2 := H1.call hb1
  clear H1 hb1
  obtain ⟨S, hS⟩ : ∃ S, S = usedM h.cells := ⟨_, rfl⟩
  have HM : Hid (S < 2 ^ 64) := Go.Lib.hid (by rw [hS]; exact usedM_lt h.cells)
  have hml : m = h.cells.length := by omega
  obtain ⟨Z, hZ⟩ : ∃ Z, Z = (List.range m).map S.testBit := ⟨_, rfl⟩
  have HU : Hid (cntB Z = usedTo h.cells h.cells.length) := Go.Lib.hid (by rw [hZ, hml, hS]; exact cntB_used (by omega))
  have hZl : Z.length ≤ 1048576 := by rw [hZ]; simp; omega
  have HZ := Go.Lib.hid hZ
  obtain ⟨Y, hY⟩ : ∃ Y, Y = mReachable h := ⟨_, rfl⟩
  have hYl : Y.length ≤ 1048576 := by rw [hY]; exact mReachable_len h
  have HY := Go.Lib.hid hY
  have HSM := Go.Lib.hid hS
  clear hZ hY hS hml
  have HX := H2.drew
  obtain ⟨b0, b1, -, -⟩ := HX.box2 0 rfl
  go_wp2_with fail
  refine wp_region_tree (fun w' => w'.cell? ⟨w.heap.size, 0, none⟩ = some (.slice D m d) ∧ w'.cell? ⟨w.heap.size, 1, none⟩ = some (.slice D' m' d')) 12 [] (.take 0 (.take 2 (.take 3 (.take 4 (.take 7 (.alt 1 (.alt 5 (.alt 6 (.alt 8 (.alt 9 (.take 10 (.take 11 (.done))) (.stop)) (.stop)) (.stop)) (.stop)) (.stop))))))) (by kernel_rfl) (by kernel_rfl) (by kernel_rfl) (⟨b0, b1⟩) ?_
  simp only [fillT, List.getElem?_cons_zero, List.getElem?_cons_succ, Nat.reduceBEq]
  repeat (first
    | (with_reducible refine po_take (v := ?_) ?_ (fun w' hS' => ?_) ?_
       rotate_left
       · (go_simp; done)
       · ((try dsimp only at hS'); go_simp; try with_reducible rfl)
       simp only [Act.put, List.setIfInBounds_toArray, List.set_cons_zero, List.set_cons_succ])
    | (with_reducible refine po_skip ?_ ?_
       · (go_simp; done)
       simp only [Act.put, List.setIfInBounds_toArray, List.set_cons_zero, List.set_cons_succ]))
  with_reducible refine po_run ?_ (fun K hK => ?_) ?_
  · (go_simp; done)
  rotate_left
  · exact po_stop
  go_simp
  refine (usedSet_any _ _ _ h (hh'.below HX.below) h64).mono ?_
  rintro e w7 ⟨he, hb⟩
  rw [← HSM.out] at he
  subst he
  replace HX := HX.call hb
  clear hb b0 b1
  obtain ⟨b0, b1, -, -⟩ := HX.box2 0 rfl
  refine hK.out _ _ (.inr (⟨b0, b1⟩)) ?_
  clear hK K
  with_reducible refine po_run ?_ (fun K hK => ?_) ?_
  · (go_simp; done)
  rotate_left
  · exact po_stop
  go_simp
  refine (list_any _ m _ HM.out hm64).mono ?_
  rintro e w9 ⟨v9, rfl, ho9, hb9⟩
  rw [← HZ.out] at ho9
  replace HX := HX.madeB ho9 hb9
  obtain ⟨V9, k9, rfl, -⟩ := HX.formB 0 rfl
  clear ho9 hb9 b0 b1
  obtain ⟨b0, b1, -, -⟩ := HX.box2 1 rfl
  refine hK.out _ _ (.inr (⟨b0, b1⟩)) ?_
  clear hK K
  with_reducible refine po_run ?_ (fun K hK => ?_) ?_
  · (go_simp; done)
  rotate_left
  · exact po_stop
  go_simp
  refine (count_any _ _ _ _ _ _ (HX.owB 0 rfl).rdB hZl).mono ?_
  rintro e w10 ⟨rfl, hb⟩
  replace HX := HX.call hb
  clear hb b0 b1
  obtain ⟨b0, b1, -, -⟩ := HX.box2 1 rfl
  refine hK.out _ _ (.inr (⟨b0, b1⟩)) ?_
  clear hK K
  with_reducible refine po_run ?_ (fun K hK => ?_) ?_
  · (go_simp; done)
  rotate_left
  · exact po_stop
  go_simp
  refine (implReachable_any _ _ _ h (hh'.below HX.below)).mono ?_
  rintro e w11 ⟨v11, rfl, ho11, hb11⟩
  rw [← HY.out] at ho11
  replace HX := HX.madeB ho11 hb11
  obtain ⟨V11, k11, rfl, -⟩ := HX.formB 0 rfl
  clear ho11 hb11 b0 b1
  obtain ⟨b0, b1, -, -⟩ := HX.box2 2 rfl
  refine hK.out _ _ (.inr (⟨b0, b1⟩)) ?_
  clear hK K
  with_reducible refine po_run ?_ (fun K hK => ?_) ?_
  · (go_simp; done)
  rotate_left
  · exact po_stop
  go_simp
  refine (count_any _ _ _ _ _ _ (HX.owB 0 rfl).rdB hYl).mono ?_
  rintro e w12 ⟨rfl, hb⟩
  replace HX := HX.call hb
  clear hb b0 b1
  obtain ⟨b0, b1, -, -⟩ := HX.box2 2 rfl
  refine hK.out _ _ (.inr (⟨b0, b1⟩)) ?_
  clear hK K
  repeat (first
    | (with_reducible refine po_take (v := ?_) ?_ (fun w' hS' => ?_) ?_
       rotate_left
       · (go_simp; done)
       · ((try dsimp only at hS'); go_simp; try with_reducible rfl)
       simp only [Act.put, List.setIfInBounds_toArray, List.set_cons_zero, List.set_cons_succ])
    | (with_reducible refine po_skip ?_ ?_
       · (go_simp; done)
       simp only [Act.put, List.setIfInBounds_toArray, List.set_cons_zero, List.set_cons_succ]))
  refine po_done ?_
  have HB := HX.below
  clear b0 b1 HX
  rw [HU.out]
  go_wp2
  exact bodyPost_ret (v := .tuple #[.int .i64 ((usedTo h.cells h.cells.length : Nat) : Int), .int .i64 ((cntB Y : Nat) : Int)]) (by simp [results, Try.results30, go_sem]) rfl ⟨⟨_, rfl⟩, HB⟩
end Go.Proofs.Ytdkpfggfkhnjfaa
