/- The reference's MetOrder: it makes mMetOrder, for every heap that can be read. -/
import Derived.Test.YtdkpfggfkhnjfaaZ1
namespace Go.Proofs.Ytdkpfggfkhnjfaa
open Go.RowKit
theorem rv1_ord {cs : List Cel} {fr : List Int} {st : List Bool × List Int} {r : Int} (h : RI cs fr st) (hr : 0 ≤ r → Rch cs (usedN cs) fr r.toNat) : (rv1 st r).2 = ord1 st.2 r := by
  unfold rv1 ord1
  by_cases h0 : 0 ≤ r
  · have hlt := usedN_lt (hr h0).inS
    rw [← h.len] at hlt
    cases hb : st.1[r.toNat] with
    | false =>
      have e : st.1[r.toNat]? = some false := by rw [List.getElem?_eq_getElem hlt, hb]
      have hn : r ∉ st.2 := fun hm => by
        have := (h.mem r hm).2
        rw [e] at this; cases this
      rw [if_pos ⟨h0, e⟩, if_pos ⟨h0, hn⟩]
    | true =>
      have e : st.1[r.toNat]? = some true := by rw [List.getElem?_eq_getElem hlt, hb]
      have hm : r ∈ st.2 := by have := h.back _ e; rwa [Int.toNat_of_nonneg h0] at this
      rw [if_neg (by rintro ⟨-, k⟩; rw [e] at k; cases k), if_neg (by rintro ⟨-, k⟩; exact k hm)]
  · rw [if_neg (by omega), if_neg (by omega)]
theorem rvs_ord {cs : List Cel} {fr : List Int} : ∀ (rs : List Int) (st : List Bool × List Int), RI cs fr st → (∀ r ∈ rs, 0 ≤ r → Rch cs (usedN cs) fr r.toNat) → (rvs st rs).2 = ordL st.2 rs
  | [], st, _, _ => rfl
  | r :: rs, st, h, hr => by
    show (rvs (rv1 st r) rs).2 = ordL (ord1 st.2 r) rs
    rw [rvs_ord rs _ (h.one (hr r (by simp))).1 fun x hx => hr x (by simp [hx]), rv1_ord h (hr r (by simp))]
theorem oj_start {h : Hp} (h0 : heapOk h = true) : (rvs (List.replicate h.cells.length false, []) h.roots).2 = ordL [] h.roots :=
  rvs_ord h.roots _ (RI.start h.cells h.roots) fun r hr hp => .base hr hp (leadsB_used ((heapOk_leads h0).1 r hr) hp)
theorem oj_step {h : Hp} {st : List Bool × List Int} {k : Nat} {x : Int} {l : Cel} (hv : ∀ r ∈ l.refs, leadsB h.cells r = true) (hJ : RJ h.cells h.roots st k) (hx : st.2[k]? = some x) (hl : h.cells[x.toNat]? = some l) (he : st.2 = ordS h.cells k (ordL [] h.roots)) : (rvs st l.refs).2 = ordS h.cells (k + 1) (ordL [] h.roots) := by
  rw [rvs_ord l.refs st hJ.toRI (rj_rch hJ hx hl hv), he]
  rw [he] at hx
  rw [ordS_succ (Go.Lib.hid hx)]
  unfold cel
  rw [List.getD_eq_getElem?_getD, hl]; rfl
set_option maxHeartbeats 3200000 in
set_option maxRecDepth 20000 in
theorem l9Order_any (w : World) (B : Nat) (v : Value) (h : Hp) (hh : RdH w B v h) (hok : heapOk h = true) :
    Calls Try.prog 38 #[v] w (MadeI w (ordH h)) := by
  obtain ⟨D, m, d, D', m', d', rfl, hC, hR⟩ := hh.top
  have hm1 := hC.mx; have hcap1 := hC.cap
  have l3 := hC.le1; have l4 := hC.le2
  have hm2 := hR.mx; have hcap2 := hR.cap
  have l1 := RdI.le1 hR; have l2 := RdI.le2 hR
  unfold maxLen at hm1 hm2
  have hn40 : h.cells.length ≤ 40 := (heapOk_small hok).1
  have hr4 : h.roots.length ≤ 4 := by have := (heapOk_small hok).2; omega
  have hf := (heapOk_leads hok).1
  have hv := (heapOk_leads hok).2
  have HOs := Go.Lib.hid (oj_start hok)
  obtain ⟨i0, hi, hz0, hz1, hz2⟩ := info_parts Try.infoBool
  have H1 := (Owns.nil w).box [.slice D m d, .slice D' m' d'] 29
  have H1 := H1.litI [] zero_le_maxLen
  obtain ⟨a0, a1, -, -⟩ := H1.box2 1 rfl
  clear hok
  go_enter Try.func38, Try.ntmps38
  go_wp2_with (at_make; refine wpList_make_full _ rfl _ _ _ rfl (w.heap.size + 2) 4 i0 (.bool false) 1 Try.underlying74 hi hz0 hz1 .i64 .i64 _ _ m rfl rfl rfl rfl (by rw [hz2]; omega) (by unfold maxLen; omega) (by simp) ?_)
  intro w1 hown hg
  have H2 := H1.mkB (by simpa using hown) hg
  simp only [List.length_nil, World.size_alloc] at H2
  obtain rfl : m = h.cells.length := by omega
  clear H1 hown hg a0 a1
  go_wp2_with fail
  go_loopw [3, 5] (fun v i wr => ∃ k : Nat, i = .int .i64 k ∧ k ≤ m' ∧ Owns w.heap.size w wr [.row 4 1 (.slice (some ⟨w.heap.size + 2, 0, none⟩) h.cells.length h.cells.length) h.cells.length ((rvs (List.replicate h.cells.length false, []) (h.roots.take k)).1.map Value.bool), .ints v (rvs (List.replicate h.cells.length false, []) (h.roots.take k)).2, .box w.heap.size [.slice D h.cells.length d, .slice D' m' d'] 29]) (fun _ i _ => m' - (intOf i).toNat)
  case atStart => exact ⟨0, rfl, Nat.zero_le _, H2⟩
  case round =>
    clear H2
    obtain ⟨k, rfl, hk, H⟩ := hrel
    obtain ⟨a0, a1, -, -⟩ := H.box2 2 rfl
    by_cases hlt : k < m'
    · obtain ⟨b, o, x, rfl, hbb, hx, q1⟩ := RdI.at_ hR hlt
      have hT := rvs_take (st := (List.replicate h.cells.length false, [])) hx
      have hI := (RI.many (fr := h.roots) (h.roots.take k) _ (RI.start h.cells h.roots) fun r hr h0 => .base (List.mem_of_mem_take hr) h0 (leadsB_used (hf r (List.mem_of_mem_take hr)) h0)).1
      have hlx := hf x (List.mem_of_getElem? hx.out)
      generalize rvs (List.replicate h.cells.length false, []) (h.roots.take k) = st at *
      obtain ⟨bs, ls⟩ := st
      have g1 := H.ro q1 hbb
      obtain ⟨C6, k6, rfl, -⟩ := H.formI 1 rfl
      have hlen : ls.length ≤ 1048576 := by have := hI.room; simp only at this; omega
      simp only at H
      by_cases c0 : x < 0
      · have HT : Hid (rv1 (bs, ls) x = (bs, ls)) := Go.Lib.hid (by unfold rv1; rw [if_neg]; simp; omega)
        rw [HT.out] at hT
        have HU := Go.Lib.hid hT
        clear hT
        go_wp2
        go_roundw
        case rel => exact ⟨k + 1, by go_num, by omega, by rw [HU.out]; exact H⟩
        case measure => simp [intOf]; omega
      obtain ⟨q, rfl⟩ := Int.eq_ofNat_of_zero_le (by omega : 0 ≤ x)
      have hqm : q < h.cells.length := by have := usedN_lt (leadsB_used hlx (by omega)); simp at this; omega
      have hqb : q < bs.length := by have := hI.len; simp only at this; omega
      obtain ⟨y0, yf⟩ := H.elem 0 rfl (j := q) (u := .bool bs[q]) (by rw [List.getElem?_map, List.getElem?_eq_getElem hqb]; rfl)
      cases hbq : bs[q]
      · rw [hbq] at y0
        have HT : Hid (rv1 (bs, ls) (q : Int) = (bs.set q true, ls ++ [(q : Int)])) := Go.Lib.hid (by unfold rv1; rw [if_pos]; rfl; exact ⟨by omega, by rw [← hbq]; exact List.getElem?_eq_getElem hqb⟩)
        rw [HT.out] at hT
        have HU := Go.Lib.hid hT
        have H2 := H.putRow 0 rfl q (.bool true)
        simp only [List.set_cons_zero] at H2
        have e1 : (bs.map Value.bool).set q (.bool true) = (bs.set q true).map Value.bool := by rw [List.map_set]
        rw [e1] at H2
        have g2 := H2.ro q1 hbb
        have H3 := H2.alloc (.cells #[.int .i64 q] 3)
        have hz2 := H2.le
        clear hT hbq e1 c0
        go_wp2_with (at_builtin; go_loud (refine wpList_pushO rfl (.tmp 40) (.tmp 42) rfl H3 1 rfl rfl rfl (rdI_new _ _ _ (by simp)) (by omega) ?_; intro A3 k3 w3 H4))
        simp only [List.set_cons_zero, List.set_cons_succ, List.length_append, List.length_cons, List.length_nil, Nat.zero_add] at H4
        go_roundw
        case rel => exact ⟨k + 1, by go_num, by omega, by rw [HU.out]; exact H4⟩
        case measure => simp [intOf]; omega
      · rw [hbq] at y0
        have HT : Hid (rv1 (bs, ls) (q : Int) = (bs, ls)) := Go.Lib.hid (by
          unfold rv1; rw [if_neg]; rintro ⟨-, e⟩
          rw [List.getElem?_eq_getElem (by simpa using hqb)] at e
          injection e with e; simp [hbq] at e)
        rw [HT.out] at hT
        have HU := Go.Lib.hid hT
        clear hT hbq c0
        go_wp2
        go_roundw
        case rel => exact ⟨k + 1, by go_num, by omega, by rw [HU.out]; exact H⟩
        case measure => simp [intOf]; omega
    · have hJ := rj_start hf
      rw [List.take_of_length_le (by omega)] at H
      have hOs := HOs.out
      clear HOs
      generalize rvs (List.replicate h.cells.length false, []) h.roots = st at *
      obtain ⟨bs0, ls0⟩ := st
      obtain ⟨C6, k6, rfl, -⟩ := H.formI 1 rfl
      have HOs := Go.Lib.hid hOs
      clear hOs
      go_wp2_with fail
      clear a0 a1 hlt hk
      go_loopw [3, 7] (fun v i wr => ∃ (k : Nat) (st : List Bool × List Int), i = .int .i64 k ∧ k ≤ st.2.length ∧ Hid (st.2 = ordS h.cells k (ordL [] h.roots)) ∧ RJ h.cells h.roots st k ∧ Owns w.heap.size w wr [.row 4 1 (.slice (some ⟨w.heap.size + 2, 0, none⟩) h.cells.length h.cells.length) h.cells.length ((st).1.map Value.bool), .ints v (st).2, .box w.heap.size [.slice D h.cells.length d, .slice D' m' d'] 29]) (fun _ i _ => h.cells.length - (intOf i).toNat)
      case atStart => exact ⟨0, (bs0, ls0), rfl, Nat.zero_le _, HOs, hJ, H⟩
      case round =>
        clear H hJ HOs
        obtain ⟨k, ⟨bs1, ls1⟩, rfl, hk, hE, hJ, H⟩ := hrel
        simp only at hk H hE
        have hlen1 : ls1.length ≤ h.cells.length := by have := hJ.room; simp only at this; omega
        obtain ⟨C6, k6, rfl, -⟩ := H.formI 1 rfl
        by_cases hlt2 : k < ls1.length
        · obtain ⟨g, cc, e0, hc1, hc2, hg1, hg2⟩ := H.rowAt 1 rfl (by omega)
          injection e0 with e0 _ e3
          subst e0 e3
          obtain ⟨z0, zf⟩ := H.elem 1 rfl (j := k) (u := .int .i64 ls1[k]) (by rw [List.getElem?_map, List.getElem?_eq_getElem hlt2]; rfl)
          have hxm := List.getElem_mem hlt2
          have hlk : ls1[k]? = some ls1[k] := List.getElem?_eq_getElem hlt2
          generalize ls1[k] = x at *
          obtain ⟨x0, hxt⟩ := hJ.mem x hxm
          obtain ⟨q, rfl⟩ := Int.eq_ofNat_of_zero_le x0
          have hqm : q < h.cells.length := by have := hJ.len; simp only at this hxt; have := (List.getElem?_eq_some_iff.1 hxt).1; simp at this; omega
          obtain ⟨b, o, l, A2, n2, c2, rfl, hbb, hx, q1, q2, q3, hrf⟩ := hC.at_ hqm
          have g3 := H.ro q3 hbb
          obtain ⟨a0, a1, -, -⟩ := H.box2 2 rfl
          have hvl := hv q l hx.out
          have hst := rj_step hJ hlk (l := l) (by simpa using hx.out) hvl
          have hrc := rj_rch hJ hlk (l := l) (by simpa using hx.out) hvl
          have HES := Go.Lib.hid (oj_step hvl hJ hlk (by simpa using hx.out) hE.out)
          have r1 := RdI.le1 hrf; have r2 := RdI.le2 hrf
          have r3 := hrf.mx; have r4 := hrf.cap
          unfold maxLen at r3
          have HJ := Go.Lib.hid hJ
          have HST := Go.Lib.hid hst
          have i1 : (0 : Int) ≤ (k : Int) := by omega
          have i2 : (k : Int) < (ls1.length : Int) := by omega
          have i3 : (0 : Int) ≤ (q : Int) := by omega
          have i4 : (q : Int) < (h.cells.length : Int) := by omega
          clear hlk hxt hJ hst q1 q2 hE
          go_wp2_with fail
          go_quiet (fail)
          rename_i nq _
          have Hq := H.drewN nq
          clear H z0 zf g3 a0 a1
          generalize wr.drewN nq = wq at *
          go_wp2_with fail
          go_loopw [3, 9] (fun v i wr => ∃ j : Nat, i = .int .i64 j ∧ j ≤ n2 ∧ Owns w.heap.size w wr [.row 4 1 (.slice (some ⟨w.heap.size + 2, 0, none⟩) h.cells.length h.cells.length) h.cells.length ((rvs (bs1, ls1) (l.refs.take j)).1.map Value.bool), .ints v (rvs (bs1, ls1) (l.refs.take j)).2, .box w.heap.size [.slice (some ⟨b, o, none⟩) h.cells.length d, .slice D' m' d'] 29]) (fun _ i _ => n2 - (intOf i).toNat)
          case atStart => exact ⟨0, rfl, Nat.zero_le _, Hq⟩
          case round =>
            clear Hq
            obtain ⟨j, rfl, hj, H⟩ := hrel
            by_cases hltj : j < n2
            · obtain ⟨b2, o2, x, rfl, hbb2, hx2, p1⟩ := RdI.at_ hrf hltj
              have hT := rvs_take (st := (bs1, ls1)) hx2
              have hI := (RI.many (fr := h.roots) (l.refs.take j) (bs1, ls1) HJ.out.toRI fun r hr h0 => hrc r (List.mem_of_mem_take hr) h0).1
              have hlx := hvl x (List.mem_of_getElem? hx2.out)
              generalize rvs (bs1, ls1) (l.refs.take j) = st at *
              obtain ⟨bs, ls⟩ := st
              have g1 := H.ro p1 hbb2
              obtain ⟨C7, k7, rfl, -⟩ := H.formI 1 rfl
              have hlen : ls.length ≤ 1048576 := by have := hI.room; simp only at this; omega
              simp only at H
              by_cases c0 : x < 0
              · have HT : Hid (rv1 (bs, ls) x = (bs, ls)) := Go.Lib.hid (by unfold rv1; rw [if_neg]; simp; omega)
                rw [HT.out] at hT
                have HU := Go.Lib.hid hT
                clear hT
                go_wp2
                go_roundw
                case rel => exact ⟨j + 1, by go_num, by omega, by rw [HU.out]; exact H⟩
                case measure => simp [intOf]; omega
              obtain ⟨q', rfl⟩ := Int.eq_ofNat_of_zero_le (by omega : 0 ≤ x)
              have hqm : q' < h.cells.length := by have := usedN_lt (leadsB_used hlx (by omega)); simp at this; omega
              have hqb : q' < bs.length := by have := hI.len; simp only at this; omega
              obtain ⟨y0, yf⟩ := H.elem 0 rfl (j := q') (u := .bool bs[q']) (by rw [List.getElem?_map, List.getElem?_eq_getElem hqb]; rfl)
              cases hbq : bs[q']
              · rw [hbq] at y0
                have HT : Hid (rv1 (bs, ls) (q' : Int) = (bs.set q' true, ls ++ [(q' : Int)])) := Go.Lib.hid (by unfold rv1; rw [if_pos]; rfl; exact ⟨by omega, by rw [← hbq]; exact List.getElem?_eq_getElem hqb⟩)
                rw [HT.out] at hT
                have HU := Go.Lib.hid hT
                have H2 := H.putRow 0 rfl q' (.bool true)
                simp only [List.set_cons_zero] at H2
                have e1 : (bs.map Value.bool).set q' (.bool true) = (bs.set q' true).map Value.bool := by rw [List.map_set]
                rw [e1] at H2
                have g2 := H2.ro p1 hbb2
                have H3 := H2.alloc (.cells #[.int .i64 q'] 3)
                have hz2 := H2.le
                clear hT hbq e1 c0
                go_wp2_with (at_builtin; go_loud (refine wpList_pushO rfl (.tmp 81) (.tmp 83) rfl H3 1 rfl rfl rfl (rdI_new _ _ _ (by simp)) (by omega) ?_; intro A3 k3 w3 H4))
                simp only [List.set_cons_zero, List.set_cons_succ, List.length_append, List.length_cons, List.length_nil, Nat.zero_add] at H4
                go_roundw
                case rel => exact ⟨j + 1, by go_num, by omega, by rw [HU.out]; exact H4⟩
                case measure => simp [intOf]; omega
              · rw [hbq] at y0
                have HT : Hid (rv1 (bs, ls) (q' : Int) = (bs, ls)) := Go.Lib.hid (by
                  unfold rv1; rw [if_neg]; rintro ⟨-, e⟩
                  rw [List.getElem?_eq_getElem (by simpa using hqb)] at e
                  injection e with e; simp [hbq] at e)
                rw [HT.out] at hT
                have HU := Go.Lib.hid hT
                clear hT hbq c0
                go_wp2
                go_roundw
                case rel => exact ⟨j + 1, by go_num, by omega, by rw [HU.out]; exact H⟩
                case measure => simp [intOf]; omega
            · have HK : Hid (k + 1 ≤ (rvs (bs1, ls1) l.refs).2.length) := Go.Lib.hid (by
                obtain ⟨-, -, -, ext, e⟩ := RI.many (fr := h.roots) l.refs (bs1, ls1) HJ.out.toRI hrc
                rw [e]; simp; omega)
              rw [List.take_of_length_le (by omega)] at H
              go_wp2
              go_roundw
              case rel => exact ⟨k + 1, _, by go_num, HK.out, HES, HST.out, H⟩
              case measure => simp [intOf]; omega
        · have hle : (ordS h.cells k (ordL [] h.roots)).length ≤ k := by rw [← hE.out]; omega
          have HE := Go.Lib.hid (ordH_end hle (by omega))
          have HE2 : Hid (ls1 = ordH h) := Go.Lib.hid (hE.out.trans HE.out)
          have HO := Go.Lib.hid H
          clear H hJ hle HE hE
          go_wp2
          go_ret
          have H := HO.out
          have hE := HE2.out
          subst hE
          exact H.toI 1 rfl
theorem mMetOrder_len (h : Hp) : (mMetOrder h).length ≤ 40 := by
  unfold mMetOrder
  split
  · rename_i k
    have := ordH_len k
    have := (heapOk_small k).1
    omega
  · simp
end Go.Proofs.Ytdkpfggfkhnjfaa
