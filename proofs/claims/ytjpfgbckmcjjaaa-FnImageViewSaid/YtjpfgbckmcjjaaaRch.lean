/- The reference's l7Reach marks exactly what can be reached, in a valid heap. -/
import Derived.Test.YtjpfgbckmcjjaaaRr
import Derived.Test.YtjpfgbckmcjjaaaSet
namespace Go.Proofs.Ytjpfgbckmcjjaaa
open Go.RowKit
set_option maxHeartbeats 3200000 in
set_option maxRecDepth 20000 in
theorem l7Reach_any (w : World) (B B' : Nat) (v : Value) (h : Hp) (A : Option Addr) (n c : Nat) (fr : List Int) (hh : RdH w B v h) (hr : RdI w B' A n c fr) (hn : h.cells.length ≤ 1048576) (hf : ∀ r ∈ fr, leadsB h.cells r = true) (hv : ∀ (c : Nat) (l : Cel), h.cells[c]? = some l → ∀ r ∈ l.refs, leadsB h.cells r = true) :
    Calls Try.prog 64 #[v, .slice A n c] w (MadeB w (reachL h.cells fr)) := by
  obtain ⟨D, m, d, D', m', d', rfl, hC, hR⟩ := hh.top
  have hr := hr.top
  have hm1 := hC.mx; have hcap1 := hC.cap
  have l3 := hC.le1; have l4 := hC.le2
  have hm2 := hr.mx; have hcap2 := hr.cap
  have l1 := RdI.le1 hr; have l2 := RdI.le2 hr
  unfold maxLen at hm1 hm2
  obtain ⟨i0, hi, hz0, hz1, hz2⟩ := info_parts Try.infoBool
  have H1 := (Owns.nil w).box [.slice D m d, .slice D' m' d'] 26
  obtain ⟨a0, a1, -, -⟩ := H1.box2 0 rfl
  go_enter Try.func64, Try.ntmps64
  go_wp2_with (at_make; refine wpList_make_full _ rfl _ _ _ rfl (w.heap.size + 1) 4 i0 (.bool false) 1 Try.underlying35 hi hz0 hz1 .i64 .i64 _ _ m rfl rfl rfl rfl (by rw [hz2]; omega) (by unfold maxLen; omega) (by simp) ?_)
  intro w1 hown hg
  have H2 := (H1.mkB (by simpa using hown) hg).litI [] zero_le_maxLen
  obtain rfl : m = h.cells.length := by omega
  clear H1 hown hg a0 a1
  go_wp2_with fail
  go_loopw [6, 7] (fun v i wr => ∃ k : Nat, i = .int .i64 k ∧ k ≤ n ∧ Owns w.heap.size w wr [.ints v (rvs (List.replicate h.cells.length false, []) (fr.take k)).2, .row 4 1 (.slice (some ⟨w.heap.size + 1, 0, none⟩) h.cells.length h.cells.length) h.cells.length ((rvs (List.replicate h.cells.length false, []) (fr.take k)).1.map Value.bool), .box w.heap.size [.slice D h.cells.length d, .slice D' m' d'] 26]) (fun _ i _ => n - (intOf i).toNat)
  case atStart => exact ⟨0, rfl, Nat.zero_le _, H2⟩
  case round =>
    clear H2
    obtain ⟨k, rfl, hk, H⟩ := hrel
    by_cases hlt : k < n
    · obtain ⟨b, o, x, rfl, hbb, hx, q1⟩ := RdI.at_ hr hlt
      have hT := rvs_take (st := (List.replicate h.cells.length false, [])) hx
      have hI := (RI.many (fr := fr) (fr.take k) _ (RI.start h.cells fr) fun r hr h0 => .base (List.mem_of_mem_take hr) h0 (leadsB_used (hf r (List.mem_of_mem_take hr)) h0)).1
      have hlx := hf x (List.mem_of_getElem? hx.out)
      generalize rvs (List.replicate h.cells.length false, []) (fr.take k) = st at *
      obtain ⟨bs, ls⟩ := st
      have g1 := H.ro q1 hbb
      obtain ⟨C6, k6, rfl, -⟩ := H.formI 0 rfl
      have hlen : ls.length ≤ 1048576 := by have := hI.room; simp only at this; omega
      simp only at H
      by_cases c0 : x < 0
      · have HT : Hid (rv1 (bs, ls) x = (bs, ls)) := Go.Lib.hid (by unfold rv1; rw [if_neg]; simp; omega)
        rw [HT.out] at hT
        have HU := Go.Lib.hid hT
        clear hT
        go_wp2
        go_roundw
        case rel => exact ⟨k + 1, by go_num, by omega, by rw [HU.out]; exact H⟩
        case measure => simp [intOf]; omega
      obtain ⟨q, rfl⟩ := Int.eq_ofNat_of_zero_le (by omega : 0 ≤ x)
      have hqm : q < h.cells.length := by have := usedN_lt (leadsB_used hlx (by omega)); simp at this; omega
      have hqb : q < bs.length := by have := hI.len; simp only at this; omega
      obtain ⟨y0, yf⟩ := H.elem 1 rfl (j := q) (u := .bool bs[q]) (by rw [List.getElem?_map, List.getElem?_eq_getElem hqb]; rfl)
      cases hbq : bs[q]
      · rw [hbq] at y0
        have HT : Hid (rv1 (bs, ls) (q : Int) = (bs.set q true, ls ++ [(q : Int)])) := Go.Lib.hid (by unfold rv1; rw [if_pos]; rfl; exact ⟨by omega, by rw [← hbq]; exact List.getElem?_eq_getElem hqb⟩)
        rw [HT.out] at hT
        have HU := Go.Lib.hid hT
        have H2 := H.putRow 1 rfl q (.bool true)
        simp only [List.set_cons_zero, List.set_cons_succ] at H2
        have e1 : (bs.map Value.bool).set q (.bool true) = (bs.set q true).map Value.bool := by rw [List.map_set]
        rw [e1] at H2
        have g2 := H2.ro q1 hbb
        have H3 := H2.alloc (.cells #[.int .i64 q] 3)
        have hz2 := H2.le
        clear hT hbq e1 c0
        go_wp2_with (at_builtin; go_loud (refine wpList_pushO rfl (.tmp 43) (.tmp 48) rfl H3 0 rfl rfl rfl (rdI_new _ _ _ (by simp)) (by omega) ?_; intro A3 k3 w3 H4))
        simp only [List.set_cons_zero, List.length_append, List.length_cons, List.length_nil, Nat.zero_add] at H4
        go_roundw
        case rel => exact ⟨k + 1, by go_num, by omega, by rw [HU.out]; exact H4⟩
        case measure => simp [intOf]; omega
      · rw [hbq] at y0
        have HT : Hid (rv1 (bs, ls) (q : Int) = (bs, ls)) := Go.Lib.hid (by
          unfold rv1; rw [if_neg]; rintro ⟨-, e⟩
          rw [List.getElem?_eq_getElem (by simpa using hqb)] at e
          injection e with e; simp [hbq] at e)
        rw [HT.out] at hT
        have HU := Go.Lib.hid hT
        clear hT hbq c0
        go_wp2
        go_roundw
        case rel => exact ⟨k + 1, by go_num, by omega, by rw [HU.out]; exact H⟩
        case measure => simp [intOf]; omega
    · have hJ := rj_start hf
      rw [List.take_of_length_le (by omega)] at H
      generalize rvs (List.replicate h.cells.length false, []) fr = st at *
      obtain ⟨bs0, ls0⟩ := st
      obtain ⟨C6, k6, rfl, -⟩ := H.formI 0 rfl
      obtain ⟨wo, hwo⟩ : ∃ wo : World, wo = wr := ⟨_, rfl⟩
      obtain rfl := hwo
      go_wp2_with fail
      go_loopw [6, 8] (fun v i wr => ∃ (k : Nat) (st : List Bool × List Int), i = .int .i64 k ∧ k ≤ st.2.length ∧ RJ h.cells fr st k ∧ Owns w.heap.size w wr [.ints v (st).2, .row 4 1 (.slice (some ⟨w.heap.size + 1, 0, none⟩) h.cells.length h.cells.length) h.cells.length ((st).1.map Value.bool), .box w.heap.size [.slice D h.cells.length d, .slice D' m' d'] 26]) (fun _ i _ => h.cells.length - (intOf i).toNat)
      case atStart => exact ⟨0, (bs0, ls0), rfl, Nat.zero_le _, hJ, H⟩
      case round =>
        clear H hJ
        obtain ⟨k, ⟨bs1, ls1⟩, rfl, hk, hJ, H⟩ := hrel
        simp only at hk H
        have hlen1 : ls1.length ≤ h.cells.length := by have := hJ.room; simp only at this; omega
        obtain ⟨C6, k6, rfl, -⟩ := H.formI 0 rfl
        by_cases hlt2 : k < ls1.length
        · obtain ⟨g, cc, e0, hc1, hc2, hg1, hg2⟩ := H.rowAt 0 rfl (by omega)
          injection e0 with e0 _ e3
          subst e0 e3
          obtain ⟨z0, zf⟩ := H.elem 0 rfl (j := k) (u := .int .i64 ls1[k]) (by rw [List.getElem?_map, List.getElem?_eq_getElem hlt2]; rfl)
          have hxm := List.getElem_mem hlt2
          have hlk : ls1[k]? = some ls1[k] := List.getElem?_eq_getElem hlt2
          generalize ls1[k] = x at *
          obtain ⟨x0, hxt⟩ := hJ.mem x hxm
          obtain ⟨q, rfl⟩ := Int.eq_ofNat_of_zero_le x0
          have hqm : q < h.cells.length := by have := hJ.len; simp only at this hxt; have := (List.getElem?_eq_some_iff.1 hxt).1; simp at this; omega
          obtain ⟨b, o, l, A2, n2, c2, rfl, hbb, hx, q1, q2, q3, hrf⟩ := hC.at_ hqm
          have g3 := H.ro q3 hbb
          obtain ⟨a0, a1, -, -⟩ := H.box2 2 rfl
          have hvl := hv q l hx.out
          have hst := rj_step hJ hlk (l := l) (by simpa using hx.out) hvl
          have hrc := rj_rch hJ hlk (l := l) (by simpa using hx.out) hvl
          have r1 := RdI.le1 hrf; have r2 := RdI.le2 hrf
          have r3 := hrf.mx; have r4 := hrf.cap
          unfold maxLen at r3
          have HJ := Go.Lib.hid hJ
          have HST := Go.Lib.hid hst
          have i1 : (0 : Int) ≤ (k : Int) := by omega
          have i2 : (k : Int) < (ls1.length : Int) := by omega
          have i3 : (0 : Int) ≤ (q : Int) := by omega
          have i4 : (q : Int) < (h.cells.length : Int) := by omega
          clear hlk hxt hJ hst q1 q2
          go_wp2_with fail
          go_quiet (fail)
          rename_i nq _
          have Hq := H.drewN nq
          clear H z0 zf g3 a0 a1
          generalize wr.drewN nq = wq at *
          go_wp2_with fail
          go_loopw [6, 10] (fun v i wr => ∃ j : Nat, i = .int .i64 j ∧ j ≤ n2 ∧ Owns w.heap.size w wr [.ints v (rvs (bs1, ls1) (l.refs.take j)).2, .row 4 1 (.slice (some ⟨w.heap.size + 1, 0, none⟩) h.cells.length h.cells.length) h.cells.length ((rvs (bs1, ls1) (l.refs.take j)).1.map Value.bool), .box w.heap.size [.slice (some ⟨b, o, none⟩) h.cells.length d, .slice D' m' d'] 26]) (fun _ i _ => n2 - (intOf i).toNat)
          case atStart => exact ⟨0, rfl, Nat.zero_le _, Hq⟩
          case round =>
            clear Hq
            obtain ⟨j, rfl, hj, H⟩ := hrel
            by_cases hltj : j < n2
            · obtain ⟨b2, o2, x, rfl, hbb2, hx2, p1⟩ := RdI.at_ hrf hltj
              have hT := rvs_take (st := (bs1, ls1)) hx2
              have hI := (RI.many (fr := fr) (l.refs.take j) (bs1, ls1) HJ.out.toRI fun r hr h0 => hrc r (List.mem_of_mem_take hr) h0).1
              have hlx := hvl x (List.mem_of_getElem? hx2.out)
              generalize rvs (bs1, ls1) (l.refs.take j) = st at *
              obtain ⟨bs, ls⟩ := st
              have g1 := H.ro p1 hbb2
              obtain ⟨C7, k7, rfl, -⟩ := H.formI 0 rfl
              have hlen : ls.length ≤ 1048576 := by have := hI.room; simp only at this; omega
              simp only at H
              by_cases c0 : x < 0
              · have HT : Hid (rv1 (bs, ls) x = (bs, ls)) := Go.Lib.hid (by unfold rv1; rw [if_neg]; simp; omega)
                rw [HT.out] at hT
                have HU := Go.Lib.hid hT
                clear hT
                go_wp2
                go_roundw
                case rel => exact ⟨j + 1, by go_num, by omega, by rw [HU.out]; exact H⟩
                case measure => simp [intOf]; omega
              obtain ⟨q', rfl⟩ := Int.eq_ofNat_of_zero_le (by omega : 0 ≤ x)
              have hqm : q' < h.cells.length := by have := usedN_lt (leadsB_used hlx (by omega)); simp at this; omega
              have hqb : q' < bs.length := by have := hI.len; simp only at this; omega
              obtain ⟨y0, yf⟩ := H.elem 1 rfl (j := q') (u := .bool bs[q']) (by rw [List.getElem?_map, List.getElem?_eq_getElem hqb]; rfl)
              cases hbq : bs[q']
              · rw [hbq] at y0
                have HT : Hid (rv1 (bs, ls) (q' : Int) = (bs.set q' true, ls ++ [(q' : Int)])) := Go.Lib.hid (by unfold rv1; rw [if_pos]; rfl; exact ⟨by omega, by rw [← hbq]; exact List.getElem?_eq_getElem hqb⟩)
                rw [HT.out] at hT
                have HU := Go.Lib.hid hT
                have H2 := H.putRow 1 rfl q' (.bool true)
                simp only [List.set_cons_zero, List.set_cons_succ] at H2
                have e1 : (bs.map Value.bool).set q' (.bool true) = (bs.set q' true).map Value.bool := by rw [List.map_set]
                rw [e1] at H2
                have g2 := H2.ro p1 hbb2
                have H3 := H2.alloc (.cells #[.int .i64 q'] 3)
                have hz2 := H2.le
                clear hT hbq e1 c0
                go_wp2_with (at_builtin; go_loud (refine wpList_pushO rfl (.tmp 92) (.tmp 97) rfl H3 0 rfl rfl rfl (rdI_new _ _ _ (by simp)) (by omega) ?_; intro A3 k3 w3 H4))
                simp only [List.set_cons_zero, List.length_append, List.length_cons, List.length_nil, Nat.zero_add] at H4
                go_roundw
                case rel => exact ⟨j + 1, by go_num, by omega, by rw [HU.out]; exact H4⟩
                case measure => simp [intOf]; omega
              · rw [hbq] at y0
                have HT : Hid (rv1 (bs, ls) (q' : Int) = (bs, ls)) := Go.Lib.hid (by
                  unfold rv1; rw [if_neg]; rintro ⟨-, e⟩
                  rw [List.getElem?_eq_getElem (by simpa using hqb)] at e
                  injection e with e; simp [hbq] at e)
                rw [HT.out] at hT
                have HU := Go.Lib.hid hT
                clear hT hbq c0
                go_wp2
                go_roundw
                case rel => exact ⟨j + 1, by go_num, by omega, by rw [HU.out]; exact H⟩
                case measure => simp [intOf]; omega
            · have HK : Hid (k + 1 ≤ (rvs (bs1, ls1) l.refs).2.length) := Go.Lib.hid (by
                obtain ⟨-, -, -, ext, e⟩ := RI.many (fr := fr) l.refs (bs1, ls1) HJ.out.toRI hrc
                rw [e]; simp; omega)
              rw [List.take_of_length_le (by omega)] at H
              go_wp2
              go_roundw
              case rel => exact ⟨k + 1, _, by go_num, HK.out, HST.out, H⟩
              case measure => simp [intOf]; omega
        · have HE := Go.Lib.hid (rj_end hJ (by simpa using hlt2))
          have HO := Go.Lib.hid H
          clear H hJ
          go_wp2
          go_ret
          have hE : bs1 = reachL h.cells fr := HE.out
          have H := HO.out
          rw [hE] at H
          have hl := reachL_length h.cells fr
          have ho := H.own 1 rfl
          exact ⟨_, rfl, ⟨by rw [hl]; exact ho, fun k e => (ho.lt k e).2⟩, H.below⟩
theorem heapOk_small {h : Hp} (h0 : heapOk h = true) : h.cells.length ≤ 40 ∧ h.roots.length = 4 := by simp [heapOk] at h0; omega
end Go.Proofs.Ytjpfgbckmcjjaaa
