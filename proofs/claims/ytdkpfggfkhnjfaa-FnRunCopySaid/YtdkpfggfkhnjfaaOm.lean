/- The program's MetOrder: it makes mMetOrder, for every heap that can be read. -/
import Derived.Test.YtdkpfggfkhnjfaaZ1
import Derived.Test.YtdkpfggfkhnjfaaZ4
import Derived.Test.YtdkpfggfkhnjfaaZ0
namespace Go.Proofs.Ytdkpfggfkhnjfaa
open Go.RowKit
def ordM (o : List Int) : Nat := o.foldl addB 0
theorem ordM_snoc (o : List Int) (x : Int) : ordM (o ++ [x]) = addB (ordM o) x := by simp [ordM]
theorem foldM_has : ∀ (o : List Int) (m : Nat), (∀ x ∈ o, 0 ≤ x) → ∀ r, hasB (o.foldl addB m) r = (hasB m r || decide (r ∈ o))
  | [], m, _, r => by simp
  | a :: o, m, h, r => by
    rw [List.foldl_cons, foldM_has o _ (fun x hx => h x (List.mem_cons_of_mem _ hx)) r, addB_has (h a (by simp))]
    by_cases e : r = a
    · simp [e]
    · simp [e]
theorem hasB_zero (r : Int) : hasB 0 r = false := by simp [hasB]
theorem ordM_has {o : List Int} (h : ∀ x ∈ o, 0 ≤ x) (r : Int) : hasB (ordM o) r = decide (r ∈ o) := by
  unfold ordM
  rw [foldM_has o 0 h r, hasB_zero, Bool.false_or]
theorem foldM_lt : ∀ (o : List Int) (m : Nat), m < 2 ^ 64 → (∀ x ∈ o, 0 ≤ x ∧ x < 64) → o.foldl addB m < 2 ^ 64
  | [], m, h, _ => h
  | a :: o, m, h, k => foldM_lt o _ (addB_lt h (k a (by simp)).1 (k a (by simp)).2) fun x hx => k x (List.mem_cons_of_mem _ hx)
theorem ordM_lt {o : List Int} (k : ∀ x ∈ o, 0 ≤ x ∧ x < 64) : ordM o < 2 ^ 64 := foldM_lt o 0 (by omega) k
abbrev OrdB (g1 g2 : Nat) (v : Value) (o : List Int) (L : List OB) : List OB :=
  .box g1 [.int .u64 (ordM o)] 76 :: .box g2 [v] 27 :: .ints v o :: L
set_option maxHeartbeats 1600000 in
theorem visitO_any {lo : Nat} {w0 w : World} {L : List OB} {g1 g2 : Nat} {v : Value} {o : List Int} (H : Owns lo w0 w (OrdB g1 g2 v o L)) {B : Nat} {A : Option Addr} {n c : Nat} {rs : List Int} (hr : RdI w0 B A n c rs) (hB : B ≤ lo)
    (hO : ∀ x ∈ o, 0 ≤ x ∧ x < 64) (hR : ∀ r ∈ rs, 0 ≤ r → r < 64) (hl : o.length + n ≤ 100) :
    Calls Try.prog 58 #[.slice A n c, .pointer (some ⟨g1, 0, none⟩), .pointer (some ⟨g2, 0, none⟩)] w fun e w' =>
      (∃ u, e = .returned u) ∧ ∃ v', Owns lo w0 w' (OrdB g1 g2 v' (ordL o rs) L) := by
  have hm1 := hr.mx; have hcap1 := hr.cap
  have l1 := RdI.le1 hr; have l2 := RdI.le2 hr
  unfold maxLen at hm1
  go_enter Try.func58, Try.ntmps58
  go_wp2_with fail
  go_loopw [8] (fun i wr => ∃ (k : Nat) (v' : Value), i = .int .i64 k ∧ k ≤ n ∧ Owns lo w0 wr (OrdB g1 g2 v' (ordL o (rs.take k)) L)) (fun i _ => n - (intOf i).toNat)
  case atStart => exact ⟨0, v, rfl, Nat.zero_le _, H⟩
  case round =>
    clear H
    obtain ⟨k, v', rfl, hk, H⟩ := hrel
    have hall : ∀ x ∈ ordL o (rs.take k), 0 ≤ x ∧ x < 64 := fun x hx => by
      rcases (ordL_mem _ _).1 hx with hx | ⟨h1, h2⟩
      · exact hO x hx
      · exact ⟨h2, hR x (List.mem_of_mem_take h1) h2⟩
    have hlen : (ordL o (rs.take k)).length ≤ o.length + k := by
      have : ∀ (rs o : List Int), (ordL o rs).length ≤ o.length + rs.length := by
        intro rs
        induction rs with
        | nil => intro o; simp [ordL]
        | cons r rs ih =>
          intro o
          have h1 := ih (ord1 o r)
          have h2 : (ord1 o r).length ≤ o.length + 1 := by unfold ord1; split <;> simp
          show (ordL (ord1 o r) rs).length ≤ _
          simp only [List.length_cons]; omega
      have h3 := this (rs.take k) o
      rw [List.length_take] at h3; omega
    by_cases hlt : k < n
    · obtain ⟨b, ob, x, rfl, hbb, hx, q1⟩ := RdI.at_ hr hlt
      have hT := ordL_take (o := o) hx
      have hxr := hR x (List.mem_of_getElem? hx.out)
      generalize ordL o (rs.take k) = p at *
      have g1' := H.ro q1 (by show b < lo; omega)
      obtain ⟨x0, xf⟩ := H.box1 0 rfl
      obtain ⟨y0, yf⟩ := H.box1 1 rfl
      have HM := Go.Lib.hid (ordM_lt hall)
      have HH := Go.Lib.hid (ordM_has (fun x hx => (hall x hx).1) x)
      clear q1
      by_cases c0 : x < 0
      · rw [ord1_no (.inl c0)] at hT
        have HT := Go.Lib.hid hT
        clear hT hall
        go_wp2
        go_roundw
        case rel => exact ⟨k + 1, v', by go_num, by omega, by rw [HT.out]; exact H⟩
        case measure => simp [intOf]; omega
      have x0' : 0 ≤ x := by omega
      have x1' : x < 64 := hxr x0'
      by_cases hm : x ∈ p
      · rw [ord1_no (.inr hm)] at hT
        have HT := Go.Lib.hid hT
        have HY : Hid (hasB (ordM p) x = true) := Go.Lib.hid (by rw [HH.out]; simp [hm])
        clear hT hall hm HH hxr
        go_wp2_with fail
        refine (has_any (ordM p) x wr HM.out).mono ?_
        rintro e w2 ⟨rfl, hw2⟩
        obtain rfl := hw2
        rw [HY.out]
        go_wp2
        go_roundw
        case rel => exact ⟨k + 1, v', by go_num, by omega, by rw [HT.out]; exact H⟩
        case measure => simp [intOf]; omega
      · rw [ord1_yes x0' hm] at hT
        have HT := Go.Lib.hid hT
        have HY : Hid (hasB (ordM p) x = false) := Go.Lib.hid (by rw [HH.out]; simp [hm])
        have HZ := Go.Lib.hid (ordM_snoc p x)
        clear hT hall hm HH hxr
        go_wp2_with fail
        refine (has_any (ordM p) x wr HM.out).mono ?_
        rintro e w2 ⟨rfl, hw2⟩
        obtain rfl := hw2
        rw [HY.out]
        go_wp2_with fail
        refine (add_own H 0 rfl x HM.out x0' x1').mono ?_
        rintro e w2 ⟨⟨u, rfl⟩, H2⟩
        rw [← HZ.out] at H2
        clear x0 xf y0 yf g1'
        simp only [List.set_cons_zero] at H2
        obtain ⟨y0, yf⟩ := H2.box1 1 rfl
        have H3 := H2.alloc (.cells #[.int .i64 x] 3)
        have y0' := H3.box1 1 rfl
        go_wp2_with (at_builtin; go_loud (refine wpList_pushO rfl (.tmp 22) (.tmp 24) rfl H3 2 rfl rfl rfl (rdI_one (heap1 w2 _) (Nat.le_refl _) one_le_maxLen) (by omega) ?_; intro A3 k3 w3 H4; obtain ⟨y1, yf1⟩ := H4.box1 1 rfl))
        simp only [List.set_cons_zero, List.set_cons_succ] at H4
        have H5 := H4.putBox 1 rfl 0 (.slice A3 (p ++ [x]).length k3)
        simp only [List.set_cons_zero, List.set_cons_succ, List.length_append, List.length_cons, List.length_nil, Nat.zero_add] at H5
        have HO := Go.Lib.hid H5
        clear H2 H3 H4 H5 y0' H
        go_wp2
        go_roundw
        case rel => exact ⟨k + 1, _, by go_num, by omega, by rw [HT.out]; exact HO.out⟩
        case measure => simp [intOf]; omega
    · rw [List.take_of_length_le (by omega)] at H
      clear hall hlen
      go_wp2
      refine bodyPost_end (results_none rfl _ _ _) rfl ?_
      exact ⟨⟨_, rfl⟩, v', H⟩
set_option maxHeartbeats 3200000 in
set_option maxRecDepth 20000 in
theorem metOrder_any (w : World) (B : Nat) (v : Value) (h : Hp) (hh : RdH w B v h) (hok : heapOk h = true) :
    Calls Try.prog 35 #[v] w (MadeI w (ordH h)) := by
  obtain ⟨D, m, d, D', m', d', rfl, hC, hR⟩ := hh.top
  have hm1 := hC.mx; have hcap1 := hC.cap
  have l3 := hC.le1; have l4 := hC.le2
  unfold maxLen at hm1
  obtain ⟨s4, s5⟩ := heapOk_small hok
  have l1 := RdI.le1 hR; have l2 := RdI.le2 hR
  have HReach : Hid (∀ k, ∀ x ∈ ordS h.cells k (ordL [] h.roots), 0 ≤ x ∧ x < h.cells.length) := Go.Lib.hid fun k x hx => ⟨(ordS_reach hok k x hx).1, reach_lt (ordS_reach hok k x hx)⟩
  have HLen : Hid (∀ k, (ordS h.cells k (ordL [] h.roots)).length ≤ h.cells.length) := Go.Lib.hid fun k => ordS_len hok k
  have HRt : Hid (∀ r ∈ h.roots, 0 ≤ r → r < 64) := Go.Lib.hid fun r hr h0 => by have := reach_lt (rchI_root hok r hr h0); omega
  have HRf : Hid (∀ (c : Nat) (l : Cel), h.cells[c]? = some l → l.refs.length ≤ 3 ∧ ∀ r ∈ l.refs, 0 ≤ r → r < 64) := Go.Lib.hid fun c l hl => by
    refine ⟨?_, fun r hr h0 => by have := usedN_lt (leadsB_used ((heapOk_leads hok).2 c l hl r hr) h0); omega⟩
    have h2 := hok
    simp only [heapOk, Bool.and_eq_true, List.all_eq_true] at h2
    have h3 := h2.1.2 l (List.mem_of_getElem? hl)
    unfold cellOk at h3
    split at h3 <;> simp at h3
    · omega
    · rw [h3.2]; simp
  clear hok
  have H1 := ((((Owns.nil w).box [.slice D m d, .slice D' m' d'] 29).litI [] zero_le_maxLen).box [.slice (some ⟨w.heap.size + 1, 0, none⟩) 0 0] 27).box [.int .u64 (0 : Nat)] 76
  simp only [List.length_nil, World.size_alloc] at H1
  have H3 : Owns w.heap.size w _ (OrdB (w.heap.size + 1 + 1 + 1) (w.heap.size + 1 + 1) (.slice (some ⟨w.heap.size + 1, 0, none⟩) 0 0) [] [.box w.heap.size [.slice D m d, .slice D' m' d'] 29]) := H1.order [0, 1, 2, 3] (by decide) rfl
  clear H1
  go_enter Try.func35, Try.ntmps35
  go_wp2_with fail
  refine (visitO_any H3 hR (Nat.le_refl _) (fun x hx => by simp at hx) HRt.out (by simp; omega)).mono ?_
  rintro e w1 ⟨⟨u, rfl⟩, v1, H⟩
  clear H3
  have hS0 : Hid (ordL [] h.roots = ordS h.cells 0 (ordL [] h.roots)) := Go.Lib.hid rfl
  rw [hS0.out] at H
  clear hS0
  go_wp2_with fail
  go_loopw [6] (fun i wr => ∃ (k : Nat) (v' : Value), i = .int .i64 k ∧ k ≤ (ordS h.cells k (ordL [] h.roots)).length ∧ Owns w.heap.size w wr (OrdB (w.heap.size + 1 + 1 + 1) (w.heap.size + 1 + 1) v' (ordS h.cells k (ordL [] h.roots)) [.box w.heap.size [.slice D m d, .slice D' m' d'] 29])) (fun i _ => h.cells.length - (intOf i).toNat)
  case atStart => exact ⟨0, v1, rfl, Nat.zero_le _, H⟩
  case round =>
    clear H
    obtain ⟨k, v', rfl, hk, H⟩ := hrel
    have hlen := HLen.out k
    have hall := HReach.out k
    have hnext : ∀ c, (ordS h.cells k (ordL [] h.roots))[k]? = some c → Hid (ordS h.cells (k + 1) (ordL [] h.roots) = ordL (ordS h.cells k (ordL [] h.roots)) (cel h.cells c).refs) := fun c hc => Go.Lib.hid (ordS_succ (Go.Lib.hid hc))
    have hstop : (ordS h.cells k (ordL [] h.roots)).length ≤ k → Hid (ordS h.cells k (ordL [] h.roots) = ordH h) := fun hq => Go.Lib.hid (ordH_end hq (by omega))
    have hgrow : Hid ((ordS h.cells k (ordL [] h.roots)).length ≤ (ordS h.cells (k + 1) (ordL [] h.roots)).length) := Go.Lib.hid (by
      cases hq : (ordS h.cells k (ordL [] h.roots))[k]? with
      | none => simp only [ordS, hq]; exact Nat.le_refl _
      | some c =>
        obtain ⟨e2, h2⟩ := ordL_ext (cel h.cells c).refs (ordS h.cells k (ordL [] h.roots))
        simp only [ordS, hq]; rw [h2]; simp)
    generalize ordS h.cells k (ordL [] h.roots) = p at *
    obtain ⟨y0, yf⟩ := H.box1 1 rfl
    obtain ⟨a0, a1, -, -⟩ := H.box2 3 rfl
    by_cases hlt : k < p.length
    · obtain ⟨x, hx0⟩ : ∃ x, Hid (p[k]? = some x) := ⟨_, Go.Lib.hid (List.getElem?_eq_getElem hlt)⟩
      obtain ⟨hp0, hp1⟩ := hall x (List.mem_of_getElem? hx0.out)
      obtain ⟨q, rfl⟩ := Int.eq_ofNat_of_zero_le hp0
      have hq : q < m := by omega
      obtain ⟨b, o, l, A2, n2, c2, rfl, hbb, hx, q1, q2, q3, hrf⟩ := hC.at_ hq
      obtain ⟨g, cc, rfl, hc1, hc2, hg1, hg2⟩ := H.rowAt 2 rfl (by omega)
      obtain ⟨z0, zf⟩ := H.elem 2 rfl (j := k) (u := .int .i64 (q : Int)) (by rw [List.getElem?_map, hx0.out]; rfl)
      have g3 := H.ro q3 hbb
      have r1 := RdI.le1 hrf; have r2 := RdI.le2 hrf
      have HF := Go.Lib.hid (HRf.out q l hx.out)
      have hf3 := HF.out.1
      have HN := hnext _ hx0.out
      have hce : Hid ((cel h.cells (q : Int)).refs = l.refs) := Go.Lib.hid (by rw [cel_at hx])
      rw [hce.out] at HN
      have HAll : Hid (∀ x ∈ p, 0 ≤ x ∧ x < 64) := Go.Lib.hid fun x hx => by have := hall x hx; omega
      have i1 : (0 : Int) ≤ (k : Int) := by omega
      have i2 : (k : Int) < (p.length : Int) := by omega
      have i3 : (0 : Int) ≤ (q : Int) := by omega
      have i4 : (q : Int) < (m : Int) := by omega
      clear hx0 hnext hstop hall q1 q2 hce hp0 hp1
      have HX := H.drew
      have H0 := Go.Lib.hid H
      clear H
      go_wp2_with fail
      refine wp_region_tree (fun w' => ((w'.cell? ⟨w.heap.size, 0, none⟩ = some (.slice (some ⟨b, o, none⟩) m d) ∧ w'.cell? ⟨w.heap.size, 1, none⟩ = some (.slice D' m' d')) ∧ w'.cell? ⟨w.heap.size + 1 + 1, 0, none⟩ = some (.slice (some ⟨g, 0, none⟩) p.length cc)) ∧ w'.cell? ⟨g, k, none⟩ = some (.int .i64 (q : Int)) ∧ w'.cell? ⟨b, o + q * 3 + 2, none⟩ = some (.slice A2 n2 c2)) 10 [] (.take 0 (.take 1 (.take 2 (.take 3 (.take 4 (.take 5 (.take 6 (.take 7 (.take 8 (.take 9 (.alt 10 (.done) (.stop)))))))))))) (by kernel_rfl) (by kernel_rfl) (by kernel_rfl) (⟨⟨⟨a0, a1⟩, y0⟩, z0, g3⟩) ?_
      simp only [fillT, List.getElem?_cons_zero, List.getElem?_cons_succ, Nat.reduceBEq]
      repeat (first
        | (with_reducible refine po_take (v := ?_) ?_ (fun w' hS' => ?_) ?_
           rotate_left
           · (go_simp; done)
           · ((try dsimp only at hS'); go_simp; try with_reducible rfl)
           simp only [Act.put, List.setIfInBounds_toArray, List.set_cons_zero, List.set_cons_succ])
        | (with_reducible refine po_skip ?_ ?_
           · (go_simp; done)
           simp only [Act.put, List.setIfInBounds_toArray, List.set_cons_zero, List.set_cons_succ]))
      with_reducible refine po_run ?_ (fun K hK => ?_) ?_
      · (go_simp; done)
      rotate_left
      · exact po_stop
      go_simp
      refine (visitO_any HX hrf (Nat.le_refl _) HAll.out HF.out.2 (by omega)).mono ?_
      rintro e w2 ⟨⟨u, rfl⟩, v2, H4⟩
      refine hK.out _ _ (.inl rfl) ?_
      clear hK K
      refine po_done ?_
      rw [← HN.out] at H4
      have hg := hgrow.out
      clear H0 HX a0 a1 y0 yf z0 zf g3
      go_wp2
      go_roundw
      case rel => exact ⟨k + 1, v2, by go_num, by omega, H4⟩
      case measure => simp [intOf]; omega
    · have HE := hstop (by omega)
      obtain ⟨C1, k1, rfl, -⟩ := H.formI 2 rfl
      have HO := Go.Lib.hid H
      clear H hstop hnext hgrow hall
      go_wp2
      go_ret
      have H := HO.out
      have hE := HE.out
      subst hE
      exact H.toI 2 rfl
end Go.Proofs.Ytdkpfggfkhnjfaa
