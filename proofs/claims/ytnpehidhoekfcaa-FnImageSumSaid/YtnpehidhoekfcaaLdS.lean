/- LoadImage, the reference's: it makes mLoadH, mLoadB and ldOk too, for every list that can be read. -/
import Derived.Test.YtnpehidhoekfcaaLdI
import Derived.Test.YtnpehidhoekfcaaSv
namespace Go.Proofs.Ytnpehidhoekfcaa
open Go.RowKit
theorem ld_cell {l : List Int} (h : ldOk l = true) {k : Nat} (hk : k < (ldN l).toNat) : ∃ c tl, c ∈ (ldHeap l).cells ∧ (ldSt l k).1 = saveCell (ldBase l) c ++ tl := by
  have i := ldOk_img h
  obtain ⟨-, e2, -, -, e5⟩ := i.facts
  have hk' : k < (ldHeap l).cells.length := by omega
  refine ⟨(ldHeap l).cells[k], ((ldHeap l).cells.drop (k + 1)).flatMap (saveCell (ldBase l)), List.getElem_mem _, ?_⟩
  rw [e5 k (by omega), List.drop_eq_getElem_cons hk', List.flatMap_cons]
theorem ld_used {l : List Int} (h : ldOk l = true) {k : Nat} (hk : k < (ldN l).toNat) : (ldSt l k).1 ≠ [] ∧ 0 ≤ (ldSt l k).1.getD 0 0 ∧ (ldSt l k).1.getD 0 0 ≤ 4 ∧ ∀ m : Nat, (ldSt l k).1.getD 0 0 = (m : Int) + 1 → m + 2 ≤ (ldSt l k).1.length ∧ ∀ j, j < m → 0 ≤ (ldSt l k).1.getD (2 + j) 0 ∧ (ldSt l k).1.getD (2 + j) 0 ≤ 10040 := by
  have i := ldOk_img h
  obtain ⟨c, tl, hc, e⟩ := ld_cell h hk
  obtain ⟨q, hq⟩ := List.getElem?_of_mem hc
  obtain ⟨q1, q2, q3⟩ := heapOk_cell i.ok (Go.Lib.hid hq)
  have hl := (heapOk_leads i.ok).2 q c hq
  have hn := heapOk_cells i.ok
  rw [e]
  cases hu : c.used
  · rw [saveCell_no hu]
    refine ⟨by simp, by simp, by simp, fun m hm => ?_⟩
    simp at hm; omega
  · rw [saveCell_yes hu]
    have e0 : (([(c.refs.length : Int) + 1, c.data] ++ c.refs.map (saveRef (ldBase l))) ++ tl).getD 0 0 = (c.refs.length : Int) + 1 := rfl
    rw [e0]
    refine ⟨by simp, by omega, by omega, fun m hm => ⟨by simp; omega, fun j hj => ?_⟩⟩
    have hjl : j < c.refs.length := by omega
    have e1 : (([(c.refs.length : Int) + 1, c.data] ++ c.refs.map (saveRef (ldBase l))) ++ tl).getD (2 + j) 0 = saveRef (ldBase l) c.refs[j] := by
      rw [List.getD_eq_getElem?_getD, List.getElem?_append_left (by simp; omega), List.getElem?_append_right (by simp)]
      have : 2 + j - [(c.refs.length : Int) + 1, c.data].length = j := by simp
      rw [this, List.getElem?_map, List.getElem?_eq_getElem hjl]; rfl
    rw [e1]
    have h1 := hl _ (List.getElem_mem hjl)
    have h2 := heapOk_lead i.ok h1
    have h3 : c.refs[j] < 0 ∨ c.refs[j] ≤ 39 := by
      by_cases hn0 : c.refs[j] < 0
      · exact .inl hn0
      · have := usedN_lt (leadsB_used h1 (by omega)); omega
    have h4 := i.b0; have h5 := i.b1
    unfold saveRef
    split <;> omega
theorem ld_root {l : List Int} (h : ldOk l = true) {k : Nat} (hk : k < 4) : 0 ≤ l.getD (2 + k) 0 ∧ l.getD (2 + k) 0 ≤ 10040 := by
  have i := ldOk_img h
  obtain ⟨-, -, e3, -, -⟩ := i.facts
  have h4 := heapOk_roots4 i.ok
  have hn := heapOk_cells i.ok
  have e : l.getD (2 + k) 0 = (l.drop 2).getD k 0 := by simp [List.getD_eq_getElem?_getD]
  rw [e, e3]
  have hkl : k < (ldHeap l).roots.length := by omega
  have e1 : ((ldHeap l).roots.map (saveRef (ldBase l)) ++ (ldHeap l).cells.flatMap (saveCell (ldBase l))).getD k 0 = saveRef (ldBase l) (ldHeap l).roots[k] := by
    rw [List.getD_eq_getElem?_getD, List.getElem?_append_left (by simp; omega), List.getElem?_map, List.getElem?_eq_getElem hkl]; rfl
  rw [e1]
  have h1 := (heapOk_leads i.ok).1 _ (List.getElem_mem hkl)
  have h3 : (ldHeap l).roots[k] < 0 ∨ (ldHeap l).roots[k] ≤ 39 := by
    by_cases hn0 : (ldHeap l).roots[k] < 0
    · exact .inl hn0
    · have := usedN_lt (leadsB_used h1 (by omega)); omega
  have h4 := i.b0; have h5 := i.b1
  unfold saveRef
  split <;> omega
theorem no_of {l : List Int} (h : ldOk l = true → False) : ldOk l = false := by
  cases hy : ldOk l
  · rfl
  · exact (h hy).elim
theorem ld_fin {l : List Int} {k : Nat} (hk : k = (ldN l).toNat ∨ (k < (ldN l).toNat ∧ (ldSt l k).1 = [])) (h6 : 6 ≤ l.length) : ldOk l = decide (mSaveImage ⟨(ldSt l k).2, refsW (ldBase l) 4 (l.drop 2)⟩ (ldBase l) = l) ∧ (ldOk l = true → ldHeap l = ⟨(ldSt l k).2, refsW (ldBase l) 4 (l.drop 2)⟩) := by
  by_cases e : mSaveImage ⟨(ldSt l k).2, refsW (ldBase l) 4 (l.drop 2)⟩ (ldBase l) = l
  · have i := img_of_save e (by omega)
    exact ⟨by rw [decide_eq_true e, i.yes], fun _ => i.heap⟩
  · rw [decide_eq_false e]
    have hno : ldOk l = false := no_of fun h => by
      rcases hk with rfl | ⟨h1, h2⟩
      · have i := ldOk_img h
        exact e ((mSave_yes i.ok i.b0 i.b1).trans i.eq)
      · exact (ld_used h h1).1 h2
    exact ⟨hno, fun h => by rw [hno] at h; cases h⟩
theorem l24Load_any (x base : Int) (w : World) (h0 : 0 ≤ x) (h1 : x ≤ 10040) (h2 : 0 ≤ base) (h3 : base ≤ 10000) :
    Calls Try.prog 43 #[.int .i64 x, .int .i64 base] w fun e w' => e = .returned (.int .i64 (loadW base x)) ∧ w = w' := by
  by_cases h : x = 0
  · subst h
    have HF : Hid (loadW base 0 = -1) := Go.Lib.hid (by unfold loadW; rw [if_pos rfl]; unfold wrap64; decide)
    go_enter Try.func43, Try.ntmps43
    go_wp2
    go_ret
    exact ⟨ret_i HF.out.symm, rfl⟩
  · have HF : Hid (loadW base x = x - base - 1) := Go.Lib.hid (by unfold loadW; rw [if_neg h]; unfold wrap64; omega)
    go_enter Try.func43, Try.ntmps43
    go_wp2
    go_ret
    exact ⟨ret_i HF.out.symm, rfl⟩
set_option maxHeartbeats 3200000 in
set_option maxRecDepth 20000 in
theorem specLoadImage_any (w : World) (B : Nat) (A : Option Addr) (n c : Nat) (xs : List Int) (hr : RdI w B A n c xs) (hI : ∀ x ∈ xs, I64 x) (hn : n ≤ 1048576) :
    Calls Try.prog 11 #[.slice A n c] w (MadeHIB w (mLoadH xs) (mLoadB xs) (ldOk xs)) := by
  have hr := hr.top
  have hla := Nat.le_of_eq (RdI.len0 hr); have hlb := Nat.le_of_eq (RdI.len0 hr).symm
  have H1 := (Owns.nil w).box [.slice none 0 0, .slice none 0 0] 27
  by_cases q1 : n < 6
  · have HF := Go.Lib.hid (ldOk_no1 (l := xs) (by omega))
    go_enter Try.func11, Try.ntmps11
    obtain ⟨b0, b1, b2, b3⟩ := H1.box2 0 rfl
    have HZ := (H1.noInts).noCells
    obtain ⟨z0, z1, -, -⟩ := HZ.box2 2 rfl
    have HS : Hid (MadeHIB w (mLoadH xs) (mLoadB xs) (ldOk xs) (.returned (.tuple #[.agg #[.slice none 0 0, .slice none 0 0], .int .i64 0, .bool false])) _) := Go.Lib.hid (by rw [HF.out, (mLoad_no HF.out).1, (mLoad_no HF.out).2]; exact ⟨_, [], _, rfl, HZ.take 2⟩)
    clear HZ H1
    go_wp2
    exact bodyPost_ret (v := .tuple #[.agg #[.slice none 0 0, .slice none 0 0], .int .i64 0, .bool false]) (by simp [results, Try.results11, go_sem, z0, z1]) rfl HS.out
  obtain ⟨b, o, x0, rfl, hbb, hx0, g0⟩ := RdI.at_ hr (k := 0) (by omega)
  obtain ⟨b', o', x1, e', -, hx1, g1⟩ := RdI.at_ hr (k := 1) (by omega)
  injection e' with e'; injection e' with e1' e2'; subst e1' e2'
  have hB : x0 = ldBase xs := (getD_of hx0).symm
  have hN : x1 = ldN xs := (getD_of hx1).symm
  have hIb : I64 (ldBase xs) := by rw [← hB]; exact hI _ (List.mem_of_getElem? hx0.out)
  subst hB hN
  have HI := Go.Lib.hid hI
  simp only [Nat.add_zero] at g0
  replace g0 := H1.ro g0 hbb
  replace g1 := H1.ro g1 hbb
  clear hI
  go_enter Try.func11, Try.ntmps11
  cases hb : baseOk (ldBase xs)
  · have HF := Go.Lib.hid (ldOk_no2 hb)
    have hb2 : ldBase xs < 0 ∨ 10000 < ldBase xs := by simp [baseOk] at hb; omega
    clear hb
    go_wp2_with fail
    refine (l1In_no _ _ _ _ hb2).mono ?_
    rintro e w1 ⟨rfl, hw1⟩
    rw [hw1]
    clear hb2 hw1 w1
    obtain ⟨b0, b1, b2, b3⟩ := H1.box2 0 rfl
    have HZ := (H1.noInts).noCells
    obtain ⟨z0, z1, -, -⟩ := HZ.box2 2 rfl
    have HS : Hid (MadeHIB w (mLoadH xs) (mLoadB xs) (ldOk xs) (.returned (.tuple #[.agg #[.slice none 0 0, .slice none 0 0], .int .i64 0, .bool false])) _) := Go.Lib.hid (by rw [HF.out, (mLoad_no HF.out).1, (mLoad_no HF.out).2]; exact ⟨_, [], _, rfl, HZ.take 2⟩)
    clear HZ H1
    go_wp2
    exact bodyPost_ret (v := .tuple #[.agg #[.slice none 0 0, .slice none 0 0], .int .i64 0, .bool false]) (by simp [results, Try.results11, go_sem, z0, z1]) rfl HS.out
  have HB := Go.Lib.hid hb
  have hb0 : 0 ≤ ldBase xs := by simp [baseOk] at hb; omega
  have hb1 : ldBase xs ≤ 10000 := by simp [baseOk] at hb; omega
  clear hb
  go_wp2_with fail
  refine (l1In_yes _ _ _ _ hb0 hb1).mono ?_
  rintro e w1 ⟨rfl, hw1⟩
  obtain rfl := hw1
  by_cases q2 : ldN xs < 0 ∨ 40 < ldN xs
  · have HF := Go.Lib.hid (ldOk_no3 q2)
    go_wp2_with fail
    refine (l1In_no _ _ _ _ q2).mono ?_
    rintro e w1 ⟨rfl, hw1⟩
    rw [hw1]
    clear q2 hw1 w1
    obtain ⟨b0, b1, b2, b3⟩ := H1.box2 0 rfl
    have HZ := (H1.noInts).noCells
    obtain ⟨z0, z1, -, -⟩ := HZ.box2 2 rfl
    have HS : Hid (MadeHIB w (mLoadH xs) (mLoadB xs) (ldOk xs) (.returned (.tuple #[.agg #[.slice none 0 0, .slice none 0 0], .int .i64 0, .bool false])) _) := Go.Lib.hid (by rw [HF.out, (mLoad_no HF.out).1, (mLoad_no HF.out).2]; exact ⟨_, [], _, rfl, HZ.take 2⟩)
    clear HZ H1
    go_wp2
    exact bodyPost_ret (v := .tuple #[.agg #[.slice none 0 0, .slice none 0 0], .int .i64 0, .bool false]) (by simp [results, Try.results11, go_sem, z0, z1]) rfl HS.out
  obtain ⟨N, hN⟩ := Int.eq_ofNat_of_zero_le (by omega : 0 ≤ ldN xs)
  have HN := Go.Lib.hid (show (ldN xs).toNat = N by omega)
  have HNI := Go.Lib.hid hN
  rw [hN] at g1
  have q4 : N ≤ 40 := by omega
  have q5 : (0 : Int) ≤ (N : Int) := by omega
  have q6 : (N : Int) ≤ 40 := by omega
  clear hN q2
  go_wp2_with fail
  refine (l1In_yes _ _ _ _ q5 q6).mono ?_
  rintro e w1 ⟨rfl, hw1⟩
  obtain rfl := hw1
  have H2 := (H1.box [.slice none 0 0, .slice none 0 0] 27).noInts
  simp only [World.size_alloc] at H2
  obtain ⟨y0, y1, y2, y3⟩ := H2.box2 1 rfl
  clear H1
  go_wp2_with fail
  clear y0 y1 y2 y3
  go_loopw [7] (fun i wr => ∃ (k : Nat) (rv : Value), i = .int .i64 k ∧ k ≤ 4 ∧ Owns w.heap.size w wr [.ints rv (refsW (ldBase xs) k (xs.drop 2)), .box (w.heap.size + 1) [.slice none 0 0, rv] 27, .box w.heap.size [.slice none 0 0, .slice none 0 0] 27]) (fun i _ => 4 - (intOf i).toNat)
  case atStart => exact ⟨0, _, rfl, Nat.zero_le _, H2⟩
  case round =>
    clear H2 g0 g1
    obtain ⟨k, rv, rfl, hk, H⟩ := hrel
    by_cases hlt : k < 4
    · obtain ⟨b', o', x, e', -, hx, gw⟩ := RdI.at_ hr (k := 2 + k) (by omega)
      injection e' with e'; injection e' with e1' e2'; subst e1' e2'
      have gx := H.ro gw hbb
      have hxd : xs.getD (2 + k) 0 = x := getD_of hx
      have f1 : (0 : Int) ≤ 2 + (k : Int) := by omega
      have f2 : 2 + (k : Int) < (n : Int) := by omega
      have f3 : (2 + (k : Int)).toNat = 2 + k := by omega
      have f4 : IntKind.i64.wrap (2 + (k : Int)) = 2 + (k : Int) := by rw [IntKind.wrap_i64]; omega
      by_cases c0 : x < 0 ∨ 10040 < x
      · have HF := Go.Lib.hid (no_of (l := xs) fun h => by have := ld_root h hlt; rw [hxd] at this; omega)
        clear hxd
        go_wp2_with fail
        refine (l1In_no _ _ _ _ c0).mono ?_
        rintro e w1 ⟨rfl, hw1⟩
        rw [hw1]
        clear c0 hw1 w1
        obtain ⟨b0, b1, b2, b3⟩ := H.box2 2 rfl
        have HZ := (((H.putBox 2 rfl 0 (.slice none 0 0)).putBox 2 rfl 1 (.slice none 0 0)).noInts).noCells
        simp only [List.set_cons_zero, List.set_cons_succ] at HZ
        obtain ⟨z0, z1, -, -⟩ := HZ.box2 4 rfl
        have HS : Hid (MadeHIB w (mLoadH xs) (mLoadB xs) (ldOk xs) (.returned (.tuple #[.agg #[.slice none 0 0, .slice none 0 0], .int .i64 0, .bool false])) _) := Go.Lib.hid (by rw [HF.out, (mLoad_no HF.out).1, (mLoad_no HF.out).2]; exact ⟨_, [], _, rfl, HZ.take 2⟩)
        clear HZ H
        go_wp2
        exact bodyPost_ret (v := .tuple #[.agg #[.slice none 0 0, .slice none 0 0], .int .i64 0, .bool false]) (by simp [results, Try.results11, go_sem, z0, z1]) rfl HS.out
      have c1 : 0 ≤ x := by omega
      have c2 : x ≤ 10040 := by omega
      have hU := refsW_succ (ldBase xs) k (xs.drop 2)
      have e0 : (xs.drop 2).getD k 0 = x := by rw [← hxd]; simp [List.getD_eq_getElem?_getD]
      rw [e0] at hU
      have HU := Go.Lib.hid hU
      have hl : (refsW (ldBase xs) k (xs.drop 2)).length ≤ 4 := by rw [refsW_len]; omega
      clear hU e0 hxd c0
      generalize refsW (ldBase xs) k (xs.drop 2) = X at *
      obtain ⟨C5, k5, rfl, -⟩ := H.formI 0 rfl
      have HX := H.drew
      obtain ⟨y0, y1, y2, y3⟩ := HX.box2 1 rfl
      have gx' := keepd gx (Below.refl _ _)
      go_wp2_with fail
      refine (l1In_yes _ _ _ _ c1 c2).mono ?_
      rintro e w1 ⟨rfl, hw1⟩
      obtain rfl := hw1
      go_wp2_with fail
      refine wp_region_tree (fun w' => w'.cell? ⟨w.heap.size + 1, 1, none⟩ = some (.slice C5 X.length k5) ∧ w'.cell? ⟨b, o + (2 + k), none⟩ = some (.int .i64 x)) 12 [] (.take 0 (.take 1 (.take 2 (.take 3 (.take 4 (.take 5 (.take 6 (.take 7 (.alt 8 (.alt 9 (.alt 10 (.take 11 (.alt 12 (.done) (.stop))) (.stop)) (.stop)) (.stop)))))))))) (by kernel_rfl) (by kernel_rfl) (by kernel_rfl) (⟨y1, gx'⟩) ?_
      simp only [fillT, List.getElem?_cons_zero, List.getElem?_cons_succ, Nat.reduceBEq]
      repeat (first
        | (with_reducible refine po_take (v := ?_) ?_ (fun w' hS' => ?_) ?_
           rotate_left
           · (go_simp; done)
           · ((try dsimp only at hS'); go_simp; try with_reducible rfl)
           simp only [Act.put, List.setIfInBounds_toArray, List.set_cons_zero, List.set_cons_succ])
        | (with_reducible refine po_skip ?_ ?_
           · (go_simp; done)
           simp only [Act.put, List.setIfInBounds_toArray, List.set_cons_zero, List.set_cons_succ]))
      with_reducible refine po_run ?_ (fun K hK => ?_) ?_
      · (go_simp; done)
      rotate_left
      · exact po_stop
      go_simp
      refine (l24Load_any _ _ _ c1 c2 hb0 hb1).mono ?_
      rintro e w2 ⟨rfl, hw2⟩
      obtain rfl := hw2
      refine hK.out _ _ (.inr (⟨y1, gx'⟩)) ?_
      clear hK K
      with_reducible refine po_run ?_ (fun K hK => ?_) ?_
      · (go_simp; done)
      rotate_left
      · exact po_stop
      go_simp
      have hba := below_alloc w1.drew (.cells #[.int .i64 (loadW (ldBase xs) x)] 3)
      replace HX := (H.alloc (.cells #[.int .i64 (loadW (ldBase xs) x)] 3)).drew
      replace y1 := keept y1 hba
      replace gx' := keept gx' hba
      refine hK.out _ _ (.inr (⟨y1, gx'⟩)) ?_
      clear hK K
      with_reducible refine po_run ?_ (fun K hK => ?_) ?_
      · (go_simp; done)
      rotate_left
      · exact po_stop
      refine wp_pushO (.tmp 50) (.tmp 58) rfl HX 0 rfl rfl rfl ((rdI_new w1 (loadW (ldBase xs) x) _ rfl).below (Below.refl _ _).drew) (by simp; omega) ?_
      clear HX y0 y1 y2 y3
      intro A6 k6 w6 HX
      obtain ⟨y0, y1, y2, y3⟩ := HX.box2 1 rfl
      replace gx' := HX.ro gw hbb
      simp only [List.set_cons_zero, List.length_append, List.length_cons, List.length_nil, Nat.zero_add] at HX
      refine hK.out _ _ (.inr (⟨y1, gx'⟩)) ?_
      clear hK K
      repeat (first
        | (with_reducible refine po_take (v := ?_) ?_ (fun w' hS' => ?_) ?_
           rotate_left
           · (go_simp; done)
           · ((try dsimp only at hS'); go_simp; try with_reducible rfl)
           simp only [Act.put, List.setIfInBounds_toArray, List.set_cons_zero, List.set_cons_succ])
        | (with_reducible refine po_skip ?_ ?_
           · (go_simp; done)
           simp only [Act.put, List.setIfInBounds_toArray, List.set_cons_zero, List.set_cons_succ]))
      with_reducible refine po_run ?_ (fun K hK => ?_) ?_
      · (go_simp; done)
      rotate_left
      · exact po_stop
      go_simp
      refine hK.out _ _ (.inl rfl) ?_
      clear hK K
      refine po_done ?_
      have HY := HX.putBox 1 rfl 1 (.slice A6 (X.length + 1) k6)
      simp only [List.set_cons_zero, List.set_cons_succ] at HY
      go_wp2
      go_roundw
      case rel => exact ⟨k + 1, _, by go_num, by omega, by rw [HU.out]; exact HY⟩
      case measure => simp [intOf]; omega
    · have hk4 : k = 4 := by omega
      rw [hk4] at H
      clear hk4
      obtain ⟨R, hR⟩ : ∃ R, Hid (refsW (ldBase xs) 4 (xs.drop 2) = R) := ⟨_, Go.Lib.hid rfl⟩
      rw [hR.out] at H
      obtain ⟨R1, k1, rfl, -⟩ := H.formI 0 rfl
      have H3 := H.noCells.places [0, 2, 1, 3] (by decide) (by simp); simp only [List.filterMap_cons, List.filterMap_nil, List.getElem?_cons_zero, List.getElem?_cons_succ] at H3
      have hd0 : xs.drop 6 = (ldSt xs 0).1 := rfl
      have h20 : (ldSt xs 0).2 = [] := rfl
      rw [← h20] at H3
      have HD0 := Go.Lib.hid hd0
      clear H hd0 h20
      go_wp2_with fail
      go_loopw [8, 9] (fun vat vk wr => ∃ (k at_ : Nat) (cv : Value) (rvs : List Value), vat = .int .i64 at_ ∧ vk = .int .i64 k ∧ k ≤ N ∧ at_ ≤ n ∧ Hid (xs.drop at_ = (ldSt xs k).1) ∧ Owns w.heap.size w wr [.cells cv rvs (ldSt xs k).2, .box (w.heap.size + 1) [cv, .slice R1 R.length k1] 27, .ints (.slice R1 R.length k1) R, .box w.heap.size [.slice none 0 0, .slice none 0 0] 27]) (fun _ i _ => N - (intOf i).toNat)
      case atStart => exact ⟨0, 6, _, [], rfl, rfl, Nat.zero_le _, by omega, HD0, H3⟩
      case round =>
        clear H3 HD0 hlt hk
        obtain ⟨k, at_, cv, rvs, rfl, rfl, hk, hat, hd, H⟩ := hrel
        obtain ⟨b', o', x1, e', -, hx1', gw1⟩ := RdI.at_ hr (k := 1) (by omega)
        injection e' with e'; injection e' with e1' e2'; subst e1' e2'
        have e9 : x1 = (N : Int) := by
          have h2 : ldN xs = x1 := getD_of hx1'
          have := HNI.out
          omega
        subst e9
        have g1 := H.ro gw1 hbb
        have hlen := stI_len (ldBase xs) (xs.drop 6) k
        have hl2 : (ldSt xs k).2.length ≤ 40 := by unfold ldSt; omega
        clear hlen hx1'
        by_cases hgo : k < N ∧ at_ < n
        · obtain ⟨hlt, hltn⟩ := hgo
          obtain ⟨b', o', x, e', -, hx, gw⟩ := RdI.at_ hr (k := at_) hltn
          injection e' with e'; injection e' with e1' e2'; subst e1' e2'
          have gx := H.ro gw hbb
          have hIx := HI.out x (List.mem_of_getElem? hx.out)
          have hu := fun h => ld_used (l := xs) h (k := k) (by rw [HN.out]; exact hlt)
          have HT := ldSt_succ xs k
          have hd2 := hd.out
          clear hd
          obtain ⟨ys, cs, hst⟩ : ∃ ys cs, ldSt xs k = (ys, cs) := ⟨_, _, rfl⟩
          rw [hst] at HT hd2 hu H hl2
          simp only at hd2 hu H hl2
          clear hst
          obtain ⟨C5, k5, rfl, -⟩ := H.formC 0 rfl
          obtain ⟨y0, y1, y2, y3⟩ := H.box2 1 rfl
          have hy0 : ys.getD 0 0 = x := by rw [← hd2, List.getD_eq_getElem?_getD, List.getElem?_drop, Nat.add_zero, hx.out]; rfl
          have hyl : ys.length = n - at_ := by rw [← hd2, List.length_drop]; omega
          have HNO : Hid (x ≤ 0 → ldSt xs (k + 1) = (ys.drop 1, cs ++ [noCel])) := Go.Lib.hid fun h1 => by rw [HT]; exact stepI_no (.inl (by rw [hy0]; exact h1))
          have HYES : Hid (∀ m : Nat, m ≤ 3 → x = (m : Int) + 1 → ldSt xs (k + 1) = ((ys.drop 2).drop m, cs ++ [⟨true, ys.getD 1 0, refsW (ldBase xs) m (ys.drop 2)⟩])) := Go.Lib.hid fun m h1 h2 => by rw [HT]; exact stepI_yes (by rw [hy0]; exact h2) h1
          have HDR : Hid (∀ j, ys.drop j = xs.drop (at_ + j)) := Go.Lib.hid fun j => by rw [← hd2, List.drop_drop]
          rw [hy0, hyl] at hu
          have HUS := Go.Lib.hid hu
          clear hu HT hd2 hy0 hyl
          by_cases p0 : x = -9223372036854775808
          · have HF := Go.Lib.hid (no_of (l := xs) fun h => by have := (HUS.out h).2.1; omega)
            subst p0
            have f1 : wrap64 (-9223372036854775809) = 9223372036854775807 := by unfold wrap64; decide
            have f1' : IntKind.i64.wrap (-9223372036854775809) = 9223372036854775807 := by rw [IntKind.wrap_i64]; decide
            clear HUS HYES HNO hIx
            obtain ⟨b0, b1, b2, b3⟩ := H.box2 3 rfl
            have HZ := (((H.putBox 3 rfl 0 (.slice none 0 0)).putBox 3 rfl 1 (.slice none 0 0)).noInts).noCells
            simp only [List.set_cons_zero, List.set_cons_succ] at HZ
            obtain ⟨z0, z1, -, -⟩ := HZ.box2 5 rfl
            have HS : Hid (MadeHIB w (mLoadH xs) (mLoadB xs) (ldOk xs) (.returned (.tuple #[.agg #[.slice none 0 0, .slice none 0 0], .int .i64 0, .bool false])) _) := Go.Lib.hid (by rw [HF.out, (mLoad_no HF.out).1, (mLoad_no HF.out).2]; exact ⟨_, [], _, rfl, HZ.take 2⟩)
            clear HZ H
            go_wp2
            exact bodyPost_ret (v := .tuple #[.agg #[.slice none 0 0, .slice none 0 0], .int .i64 0, .bool false]) (by simp [results, Try.results11, go_sem, z0, z1]) rfl HS.out
          have f1 : wrap64 (x - 1) = x - 1 := by unfold wrap64; unfold I64 at hIx; omega
          by_cases p1 : x ≤ 0
          · have HU := Go.Lib.hid (HNO.out p1)
            have HX1 := (H.noInts).box [.bool false, .int .i64 0, .slice none 0 0] 40
            clear HUS HYES HNO hIx
            go_wp2_with (at_builtin; go_loud (refine wpList_pushCO (c := noCel) (rv := .slice none 0 0) rfl (.tmp 82) (.tmp 84) rfl HX1 2 1 rfl rfl rfl rfl rfl (HX1.holds 0 _ rfl).2 (by omega) ?_; intro A6 c6 w6 H13; obtain ⟨t0, t1, tf, tg⟩ := H13.box2 2 rfl))
            simp only [List.set_cons_zero, List.set_cons_succ, List.eraseIdx_cons_zero, List.eraseIdx_cons_succ, List.length_append, List.length_cons, List.length_nil, Nat.zero_add] at H13
            have HH := Go.Lib.hid ((H13.putBox 2 rfl 0 (.slice A6 (cs.length + 1) c6)).places [1, 2, 3, 4] (by decide) (by simp))
            go_wp2_with fail
            go_roundw
            case rel => exact ⟨k + 1, at_ + 1, _, _, by go_num, by go_num, by omega, by omega, Go.Lib.hid (by rw [HU.out, HDR.out]), by rw [HU.out]; exact HH.out⟩
            case measure => simp [intOf]; omega
          obtain ⟨m, hm⟩ := Int.eq_ofNat_of_zero_le (by omega : 0 ≤ x - 1)
          obtain rfl : x = (m : Int) + 1 := by omega
          have hmb : m < 9223372036854775807 := by unfold I64 at hIx; omega
          clear f1
          clear hm p0 p1 HNO
          by_cases p3 : 3 < m ∨ n < at_ + 2 + m
          · have HF := Go.Lib.hid (no_of (l := xs) fun h => by
              have h1 := (HUS.out h).2.2
              have h2 := (h1.2 m rfl).1
              omega)
            clear HUS HYES hIx
            have f15 : ¬ (m : Int) < 0 := by omega
            by_cases p4 : 3 < m
            · have f13 : (3 : Int) < (m : Int) := by omega
              obtain ⟨b0, b1, b2, b3⟩ := H.box2 3 rfl
              have HZ := (((H.putBox 3 rfl 0 (.slice none 0 0)).putBox 3 rfl 1 (.slice none 0 0)).noInts).noCells
              simp only [List.set_cons_zero, List.set_cons_succ] at HZ
              obtain ⟨z0, z1, -, -⟩ := HZ.box2 5 rfl
              have HS : Hid (MadeHIB w (mLoadH xs) (mLoadB xs) (ldOk xs) (.returned (.tuple #[.agg #[.slice none 0 0, .slice none 0 0], .int .i64 0, .bool false])) _) := Go.Lib.hid (by rw [HF.out, (mLoad_no HF.out).1, (mLoad_no HF.out).2]; exact ⟨_, [], _, rfl, HZ.take 2⟩)
              clear HZ H
              go_wp2
              exact bodyPost_ret (v := .tuple #[.agg #[.slice none 0 0, .slice none 0 0], .int .i64 0, .bool false]) (by simp [results, Try.results11, go_sem, z0, z1]) rfl HS.out
            have f14 : ¬ (3 : Int) < (m : Int) := by omega
            have f12 : (n : Int) < (at_ : Int) + 2 + (m : Int) := by omega
            · obtain ⟨b0, b1, b2, b3⟩ := H.box2 3 rfl
              have HZ := (((H.putBox 3 rfl 0 (.slice none 0 0)).putBox 3 rfl 1 (.slice none 0 0)).noInts).noCells
              simp only [List.set_cons_zero, List.set_cons_succ] at HZ
              obtain ⟨z0, z1, -, -⟩ := HZ.box2 5 rfl
              have HS : Hid (MadeHIB w (mLoadH xs) (mLoadB xs) (ldOk xs) (.returned (.tuple #[.agg #[.slice none 0 0, .slice none 0 0], .int .i64 0, .bool false])) _) := Go.Lib.hid (by rw [HF.out, (mLoad_no HF.out).1, (mLoad_no HF.out).2]; exact ⟨_, [], _, rfl, HZ.take 2⟩)
              clear HZ H
              go_wp2
              exact bodyPost_ret (v := .tuple #[.agg #[.slice none 0 0, .slice none 0 0], .int .i64 0, .bool false]) (by simp [results, Try.results11, go_sem, z0, z1]) rfl HS.out
          have hm3 : m ≤ 3 := by omega
          have hmn : at_ + 2 + m ≤ n := by omega
          have f12 : ¬ (n : Int) < (at_ : Int) + 2 + (m : Int) := by omega
          have f13 : ¬ (3 : Int) < (m : Int) := by omega
          have HU := Go.Lib.hid (HYES.out m hm3 rfl)
          obtain ⟨b', o', dta, e', -, hdta, gdw⟩ := RdI.at_ hr (k := at_ + 1) (by omega)
          injection e' with e'; injection e' with e1' e2'; subst e1' e2'
          have gd := H.ro gdw hbb
          have e1 : ys.getD 1 0 = dta := by
            have h1 : ys.getD 1 0 = (ys.drop 1).getD 0 0 := by simp [List.getD_eq_getElem?_getD]
            rw [h1, HDR.out, List.getD_eq_getElem?_getD, List.getElem?_drop, Nat.add_zero, hdta.out]; rfl
          rw [e1] at HU
          have HRF : Hid (∀ j x2, j < m → xs[at_ + 2 + j]? = some x2 → ys.getD (2 + j) 0 = x2 ∧ (ys.drop 2).getD j 0 = x2) := Go.Lib.hid fun j x2 _ hx2 => by
            have h1 : ys.getD (2 + j) 0 = (ys.drop (2 + j)).getD 0 0 := by simp [List.getD_eq_getElem?_getD]
            have h2 : (ys.drop 2).getD j 0 = ys.getD (2 + j) 0 := by simp [List.getD_eq_getElem?_getD]
            have h3 : ys.getD (2 + j) 0 = x2 := by
              rw [h1, HDR.out, List.getD_eq_getElem?_getD, List.getElem?_drop, Nat.add_zero, show at_ + (2 + j) = at_ + 2 + j by omega, hx2]; rfl
            exact ⟨h3, h2.trans h3⟩
          have H5 := (H.box [.bool true, .int .i64 dta, .slice none 0 0] 40).noInts
          have f5 : (0 : Int) ≤ (at_ : Int) + 1 := by omega
          have f6 : (at_ : Int) + 1 < (n : Int) := by omega
          have f7 : ((at_ : Int) + 1).toNat = at_ + 1 := by omega
          clear HYES e1 p3 hIx gdw hdta
          go_wp2_with fail
          clear gd f5 f6 f7 y0 y1 y2 y3 gx g1
          go_loopw [12] (fun i wr' => ∃ (j : Nat) (rv : Value), i = .int .i64 j ∧ j ≤ m ∧ Owns w.heap.size w wr' [.ints rv (refsW (ldBase xs) j (ys.drop 2)), .box wr.heap.size [.bool true, .int .i64 dta, rv] 40, .cells (.slice C5 cs.length k5) rvs cs, .box (w.heap.size + 1) [.slice C5 cs.length k5, .slice R1 R.length k1] 27, .ints (.slice R1 R.length k1) R, .box w.heap.size [.slice none 0 0, .slice none 0 0] 27]) (fun i _ => m - (intOf i).toNat)
          case atStart => exact ⟨0, _, rfl, Nat.zero_le _, H5⟩
          case round =>
            clear H5 H
            obtain ⟨j, rv, rfl, hj, H⟩ := hrel
            have hZl : (refsW (ldBase xs) j (ys.drop 2)).length ≤ 4 := by rw [refsW_len]; omega
            by_cases hjm : j < m
            · obtain ⟨b', o', x2, e', -, hx2, gw2⟩ := RdI.at_ hr (k := at_ + 2 + j) (by omega)
              injection e' with e'; injection e' with e1' e2'; subst e1' e2'
              have gx2 := H.ro gw2 hbb
              obtain ⟨r1, r2⟩ := HRF.out j x2 hjm hx2.out
              have f5 : (0 : Int) ≤ (at_ : Int) + 2 + (j : Int) := by omega
              have f6 : (at_ : Int) + 2 + (j : Int) < (n : Int) := by omega
              have f7 : ((at_ : Int) + 2 + (j : Int)).toNat = at_ + 2 + j := by omega
              by_cases c0 : x2 < 0 ∨ 10040 < x2
              · have HF := Go.Lib.hid (no_of (l := xs) fun h => by
                  have h1 := (HUS.out h).2.2.2 m rfl
                  have h2 := h1.2 j hjm
                  rw [r1] at h2; omega)
                clear r1 r2
                go_wp2_with fail
                refine (l1In_no _ _ _ _ c0).mono ?_
                rintro e w1' ⟨rfl, hw1⟩
                rw [hw1]
                clear c0 hw1 w1'
                obtain ⟨b0, b1, b2, b3⟩ := H.box2 5 rfl
                have HZ := (((H.putBox 5 rfl 0 (.slice none 0 0)).putBox 5 rfl 1 (.slice none 0 0)).noInts).noCells
                simp only [List.set_cons_zero, List.set_cons_succ] at HZ
                obtain ⟨z0, z1, -, -⟩ := HZ.box2 7 rfl
                have HS : Hid (MadeHIB w (mLoadH xs) (mLoadB xs) (ldOk xs) (.returned (.tuple #[.agg #[.slice none 0 0, .slice none 0 0], .int .i64 0, .bool false])) _) := Go.Lib.hid (by rw [HF.out, (mLoad_no HF.out).1, (mLoad_no HF.out).2]; exact ⟨_, [], _, rfl, HZ.take 2⟩)
                clear HZ H
                go_wp2
                exact bodyPost_ret (v := .tuple #[.agg #[.slice none 0 0, .slice none 0 0], .int .i64 0, .bool false]) (by simp [results, Try.results11, go_sem, z0, z1]) rfl HS.out
              have c1 : 0 ≤ x2 := by omega
              have c2 : x2 ≤ 10040 := by omega
              have hU := refsW_succ (ldBase xs) j (ys.drop 2)
              rw [r2] at hU
              have HU2 := Go.Lib.hid hU
              clear hU r1 r2 c0
              generalize refsW (ldBase xs) j (ys.drop 2) = X at *
              obtain ⟨C7, k7, rfl, -⟩ := H.formI 0 rfl
              have HX := H.drew
              obtain ⟨y0, y1, y2, y3, y4, y5⟩ := HX.box3 1 rfl
              have gx' := keepd gx2 (Below.refl _ _)
              go_wp2_with fail
              refine (l1In_yes _ _ _ _ c1 c2).mono ?_
              rintro e w1' ⟨rfl, hw1⟩
              obtain rfl := hw1
              go_wp2_with fail
              have F8 := Go.Lib.hid (show IntKind.i64.wrap ((at_ : Int) + 2) = (at_ : Int) + 2 by rw [IntKind.wrap_i64]; omega)
              have F9 := Go.Lib.hid (show IntKind.i64.wrap ((at_ : Int) + 2 + (j : Int)) = (at_ : Int) + 2 + (j : Int) by rw [IntKind.wrap_i64]; omega)
              have f8 := F8.out
              have f9 := F9.out
              refine wp_region_tree (fun w' => w'.cell? ⟨wr.heap.size, 2, none⟩ = some (.slice C7 X.length k7) ∧ w'.cell? ⟨b, o + (at_ + 2 + j), none⟩ = some (.int .i64 x2)) 14 [] (.take 0 (.take 1 (.take 2 (.take 3 (.take 4 (.take 5 (.take 6 (.take 7 (.take 8 (.take 9 (.alt 10 (.alt 11 (.alt 12 (.take 13 (.alt 14 (.done) (.stop))) (.stop)) (.stop)) (.stop)))))))))))) (by kernel_rfl) (by kernel_rfl) (by kernel_rfl) (⟨y2, gx'⟩) ?_
              simp only [fillT, List.getElem?_cons_zero, List.getElem?_cons_succ, Nat.reduceBEq]
              repeat (first
                | (with_reducible refine po_take (v := ?_) ?_ (fun w' hS' => ?_) ?_
                   rotate_left
                   · (go_simp; done)
                   · ((try dsimp only at hS'); go_simp; try with_reducible rfl)
                   simp only [Act.put, List.setIfInBounds_toArray, List.set_cons_zero, List.set_cons_succ])
                | (with_reducible refine po_skip ?_ ?_
                   · (go_simp; done)
                   simp only [Act.put, List.setIfInBounds_toArray, List.set_cons_zero, List.set_cons_succ]))
              with_reducible refine po_run ?_ (fun K hK => ?_) ?_
              · (go_simp; done)
              rotate_left
              · exact po_stop
              go_simp
              clear f8 f9
              refine (l24Load_any _ _ _ c1 c2 hb0 hb1).mono ?_
              rintro e w2 ⟨rfl, hw2⟩
              obtain rfl := hw2
              refine hK.out _ _ (.inr (⟨y2, gx'⟩)) ?_
              clear hK K
              with_reducible refine po_run ?_ (fun K hK => ?_) ?_
              · (go_simp; done)
              rotate_left
              · exact po_stop
              go_simp
              have hba := below_alloc w1'.drew (.cells #[.int .i64 (loadW (ldBase xs) x2)] 3)
              replace HX := (H.alloc (.cells #[.int .i64 (loadW (ldBase xs) x2)] 3)).drew
              replace y2 := keept y2 hba
              replace gx' := keept gx' hba
              refine hK.out _ _ (.inr (⟨y2, gx'⟩)) ?_
              clear hK K
              with_reducible refine po_run ?_ (fun K hK => ?_) ?_
              · (go_simp; done)
              rotate_left
              · exact po_stop
              refine wp_pushO (.tmp 123) (.tmp 133) rfl HX 0 rfl rfl rfl ((rdI_new w1' (loadW (ldBase xs) x2) _ rfl).below (Below.refl _ _).drew) (by simp; omega) ?_
              clear HX y0 y1 y2 y3 y4 y5
              intro A6 k6 w6 HX
              obtain ⟨y0, y1, y2, y3, y4, y5⟩ := HX.box3 1 rfl
              replace gx' := HX.ro gw2 hbb
              simp only [List.set_cons_zero, List.length_append, List.length_cons, List.length_nil, Nat.zero_add] at HX
              refine hK.out _ _ (.inr (⟨y2, gx'⟩)) ?_
              clear hK K
              repeat (first
                | (with_reducible refine po_take (v := ?_) ?_ (fun w' hS' => ?_) ?_
                   rotate_left
                   · (go_simp; done)
                   · ((try dsimp only at hS'); go_simp; try with_reducible rfl)
                   simp only [Act.put, List.setIfInBounds_toArray, List.set_cons_zero, List.set_cons_succ])
                | (with_reducible refine po_skip ?_ ?_
                   · (go_simp; done)
                   simp only [Act.put, List.setIfInBounds_toArray, List.set_cons_zero, List.set_cons_succ]))
              with_reducible refine po_run ?_ (fun K hK => ?_) ?_
              · (go_simp; done)
              rotate_left
              · exact po_stop
              go_simp
              refine hK.out _ _ (.inl rfl) ?_
              clear hK K
              refine po_done ?_
              try clear f8 f9
              have HY := HX.putBox 1 rfl 2 (.slice A6 (X.length + 1) k6)
              simp only [List.set_cons_zero, List.set_cons_succ] at HY
              go_wp2
              go_roundw
              case rel => exact ⟨j + 1, _, by go_num, by omega, by rw [HU2.out]; exact HY⟩
              case measure => simp [intOf]; omega
            · obtain rfl : j = m := by omega
              generalize refsW (ldBase xs) j (ys.drop 2) = Z at *
              obtain ⟨C7, k7, rfl, -⟩ := H.formI 0 rfl
              obtain ⟨u0, u1, u2, -, -, -⟩ := H.box3 1 rfl
              obtain ⟨v0, v1, v2, v3⟩ := H.box2 3 rfl
              have HX1 := H.box [.bool true, .int .i64 dta, .slice C7 Z.length k7] 40
              clear H
              go_wp2_with (at_builtin; go_loud (refine wpList_pushCO (c := ⟨true, dta, Z⟩) (rv := .slice C7 Z.length k7) rfl (.tmp 137) (.tmp 139) rfl HX1 3 1 rfl rfl rfl rfl rfl (HX1.holds 0 _ rfl).2 (by omega) ?_; intro A6 c6 w6 H13; obtain ⟨t0, t1, tf, tg⟩ := H13.box2 3 rfl))
              simp only [List.set_cons_zero, List.set_cons_succ, List.eraseIdx_cons_zero, List.eraseIdx_cons_succ, List.length_append, List.length_cons, List.length_nil, Nat.zero_add] at H13
              have HH := Go.Lib.hid ((H13.putBox 3 rfl 0 (.slice A6 (cs.length + 1) c6)).places [2, 3, 4, 5] (by decide) (by simp))
              go_wp2_with fail
              go_roundw
              case rel => exact ⟨k + 1, at_ + 2 + j, _, _, by go_num, by go_num, by omega, by omega, Go.Lib.hid (by rw [HU.out, HDR.out, List.drop_drop, Nat.add_assoc]), by rw [HU.out]; exact HH.out⟩
              case measure => simp [intOf]; omega
        · have hk2 : k = (ldN xs).toNat ∨ (k < (ldN xs).toNat ∧ (ldSt xs k).1 = []) := by
            rw [HN.out]
            by_cases h1 : k < N
            · right; exact ⟨h1, by rw [← hd.out]; exact List.drop_of_length_le (by omega)⟩
            · left; omega
          obtain ⟨hF1, hF2⟩ := ld_fin hk2 (by omega)
          rw [hR.out] at hF1 hF2
          generalize (ldSt xs k).2 = cs at *
          obtain ⟨C5, k5, rfl, -⟩ := H.formC 0 rfl
          obtain ⟨y0, y1, y2, y3⟩ := H.box2 1 rfl
          have HF1 := Go.Lib.hid hF1
          have HF2 := Go.Lib.hid hF2
          clear hF1 hF2 hk2 hd
          have HSL := Go.Lib.hid (mSaveImage_len ⟨cs, R⟩ (ldBase xs))
          by_cases h1 : k < N
          · have h2 : ¬ at_ < n := by omega
            go_wp2_with fail
            refine (specSaveImage_any _ _ _ ⟨cs, R⟩ (ldBase xs) (H.rdH 0 2 rfl rfl) hIb).mono ?_
            rintro e w9 ⟨v9, rfl, ho, hb⟩
            have H4 := H.madeI ho hb
            clear H ho hb y0 y1 y2 y3 g1 h1
            obtain ⟨S, hS⟩ : ∃ S, Hid (mSaveImage ⟨cs, R⟩ (ldBase xs) = S) := ⟨_, Go.Lib.hid rfl⟩
            rw [hS.out] at H4
            have hSl := HSL.out
            rw [hS.out] at hSl
            have HF1' := Go.Lib.hid (show ldOk xs = decide (S = xs) from by rw [← hS.out]; exact HF1.out)
            obtain ⟨A9, k9, rfl, hr9⟩ := H4.formI 0 rfl
            by_cases c0 : S.length = n
            rotate_left
            · have HF := Go.Lib.hid (show ldOk xs = false from by rw [HF1'.out]; exact decide_eq_false fun e => c0 (by rw [e]; omega))
              have k1' : ((S.length : Int) != (n : Int)) = true := by simp; omega
              clear hr9
              obtain ⟨b0, b1, b2, b3⟩ := H4.box2 4 rfl
              have HZ := (((H4.putBox 4 rfl 0 (.slice none 0 0)).putBox 4 rfl 1 (.slice none 0 0)).noInts).noCells
              simp only [List.set_cons_zero, List.set_cons_succ] at HZ
              obtain ⟨z0, z1, -, -⟩ := HZ.box2 6 rfl
              have HS : Hid (MadeHIB w (mLoadH xs) (mLoadB xs) (ldOk xs) (.returned (.tuple #[.agg #[.slice none 0 0, .slice none 0 0], .int .i64 0, .bool false])) _) := Go.Lib.hid (by rw [HF.out, (mLoad_no HF.out).1, (mLoad_no HF.out).2]; exact ⟨_, [], _, rfl, HZ.take 2⟩)
              clear HZ H4
              go_wp2
              exact bodyPost_ret (v := .tuple #[.agg #[.slice none 0 0, .slice none 0 0], .int .i64 0, .bool false]) (by simp [results, Try.results11, go_sem, z0, z1]) rfl HS.out
            subst c0
            go_wp2_with fail
            go_loopw [14] (fun i wr => ∃ k : Nat, i = .int .i64 k ∧ k ≤ S.length ∧ S.take k = xs.take k ∧ Owns w.heap.size w wr [.ints (.slice A9 S.length k9) S, .cells (.slice C5 cs.length k5) rvs cs, .box (w.heap.size + 1) [.slice C5 cs.length k5, .slice R1 R.length k1] 27, .ints (.slice R1 R.length k1) R, .box w.heap.size [.slice none 0 0, .slice none 0 0] 27]) (fun i _ => S.length - (intOf i).toNat)
            case atStart => exact ⟨0, rfl, Nat.zero_le _, rfl, H4⟩
            case round =>
              clear H4 hr9
              obtain ⟨q, rfl, hq, he, H⟩ := hrel
              have hr9 := (H.owI 0 rfl).rdI
              by_cases hlq : q < S.length
              · obtain ⟨b', o', x, e', -, hx, gw⟩ := RdI.at_ hr hlq
                injection e' with e'; injection e' with e1' e2'; subst e1' e2'
                obtain ⟨b9, o9, y, rfl, hbb9, hy, gy⟩ := RdI.at_ hr9 hlq
                have gx' := keepd (H.ro gw hbb) (Below.refl _ _)
                have gy' := keepd gy (Below.refl _ _)
                by_cases c1 : y = x
                · subst c1
                  have HE := Go.Lib.hid (show S.take (q + 1) = xs.take (q + 1) from by rw [take_snoc' hx, take_snoc' hy, he])
                  clear he hr9
                  go_wp2_with fail
                  refine wp_region_tree (fun w' => w'.cell? ⟨b9, o9 + q, none⟩ = some (.int .i64 y) ∧ w'.cell? ⟨b, o + q, none⟩ = some (.int .i64 y)) 9 [] (.take 0 (.take 1 (.take 2 (.take 3 (.take 4 (.take 5 (.take 6 (.take 7 (.take 8 (.done)))))))))) (by kernel_rfl) (by kernel_rfl) (by kernel_rfl) (⟨gy', gx'⟩) ?_
                  simp only [fillT, List.getElem?_cons_zero, List.getElem?_cons_succ]
                  repeat (first
                    | (with_reducible refine po_take (v := ?_) ?_ (fun w' hS' => ?_) ?_
                       rotate_left
                       · (go_simp; done)
                       · ((try dsimp only at hS'); go_simp; try with_reducible rfl)
                       simp only [Act.put, List.setIfInBounds_toArray, List.set_cons_zero, List.set_cons_succ])
                    | (with_reducible refine po_skip ?_ ?_
                       · (go_simp; done)
                       simp only [Act.put, List.setIfInBounds_toArray, List.set_cons_zero, List.set_cons_succ]))
                  refine po_done ?_
                  go_wp2
                  go_roundw
                  case rel => exact ⟨q + 1, by go_num, by omega, HE.out, H.drew⟩
                  case measure => simp [intOf]; omega
                · have HF := Go.Lib.hid (show ldOk xs = false from by rw [HF1'.out]; exact decide_eq_false fun e => c1 (by have h1 := hx.out; rw [← e, hy.out] at h1; injection h1))
                  have k1' : (y != x) = true := by simp; exact c1
                  clear he hr9
                  go_wp2_with fail
                  refine wp_region_tree (fun w' => w'.cell? ⟨b9, o9 + q, none⟩ = some (.int .i64 y) ∧ w'.cell? ⟨b, o + q, none⟩ = some (.int .i64 x)) 9 [] (.take 0 (.take 1 (.take 2 (.take 3 (.take 4 (.take 5 (.take 6 (.take 7 (.take 8 (.done)))))))))) (by kernel_rfl) (by kernel_rfl) (by kernel_rfl) (⟨gy', gx'⟩) ?_
                  simp only [fillT, List.getElem?_cons_zero, List.getElem?_cons_succ]
                  repeat (first
                    | (with_reducible refine po_take (v := ?_) ?_ (fun w' hS' => ?_) ?_
                       rotate_left
                       · (go_simp; done)
                       · ((try dsimp only at hS'); go_simp; try with_reducible rfl)
                       simp only [Act.put, List.setIfInBounds_toArray, List.set_cons_zero, List.set_cons_succ])
                    | (with_reducible refine po_skip ?_ ?_
                       · (go_simp; done)
                       simp only [Act.put, List.setIfInBounds_toArray, List.set_cons_zero, List.set_cons_succ]))
                  refine po_done ?_
                  have H20 := H.drew
                  obtain ⟨b0', b1', b2', b3'⟩ := H.box2 4 rfl
                  have H19 := H.putBox 4 rfl 0 (.slice none 0 0)
                  obtain ⟨d0, -, -, -⟩ := H19.box2 4 rfl
                  obtain ⟨d1, d2, -, -⟩ := (H19.putBox 4 rfl 1 (.slice none 0 0)).box2 4 rfl
                  clear H H19 gx' gy' gy
                  obtain ⟨b0, b1, b2, b3⟩ := H20.box2 4 rfl
                  have HZ := (((H20.putBox 4 rfl 0 (.slice none 0 0)).putBox 4 rfl 1 (.slice none 0 0)).noInts).noCells
                  simp only [List.set_cons_zero, List.set_cons_succ] at HZ
                  obtain ⟨z0, z1, -, -⟩ := HZ.box2 6 rfl
                  have HS : Hid (MadeHIB w (mLoadH xs) (mLoadB xs) (ldOk xs) (.returned (.tuple #[.agg #[.slice none 0 0, .slice none 0 0], .int .i64 0, .bool false])) _) := Go.Lib.hid (by rw [HF.out, (mLoad_no HF.out).1, (mLoad_no HF.out).2]; exact ⟨_, [], _, rfl, HZ.take 2⟩)
                  clear HZ H20
                  go_wp2
                  exact bodyPost_ret (v := .tuple #[.agg #[.slice none 0 0, .slice none 0 0], .int .i64 0, .bool false]) (by simp [results, Try.results11, go_sem, d1, d2]) rfl HS.out
              · have hall : S = xs := by rwa [List.take_of_length_le (by omega), List.take_of_length_le (by omega)] at he
                have HF := Go.Lib.hid (show ldOk xs = true from by rw [HF1'.out]; exact decide_eq_true hall)
                clear he hall hr9
                obtain ⟨y0, y1, -, -⟩ := H.box2 2 rfl
                obtain ⟨b0, b1, b2, b3⟩ := H.box2 4 rfl
                have H21 := (H.putBox 4 rfl 0 (.slice C5 cs.length k5)).putBox 4 rfl 1 (.slice R1 R.length k1)
                simp only [List.set_cons_zero, List.set_cons_succ] at H21
                obtain ⟨z0, z1, -, -⟩ := H21.box2 4 rfl
                obtain ⟨z2, -, -, -⟩ := (H.putBox 4 rfl 0 (.slice C5 cs.length k5)).box2 4 rfl
                have HS : Hid (MadeHIB w (mLoadH xs) (mLoadB xs) (ldOk xs) (.returned (.tuple #[.agg #[.slice C5 cs.length k5, .slice R1 R.length k1], .int .i64 (ldBase xs), .bool true])) _) := Go.Lib.hid (by rw [(mLoad_yes HF.out).1, (mLoad_yes HF.out).2, HF.out, HF2.out HF.out]; exact ⟨_, _, _, rfl, H21.order [1, 3] (by decide) rfl⟩)
                clear H H21
                go_wp2
                exact bodyPost_ret (v := .tuple #[.agg #[.slice C5 cs.length k5, .slice R1 R.length k1], .int .i64 (ldBase xs), .bool true]) (by simp [results, Try.results11, go_sem, z0, z1]) rfl HS.out
          · clear hgo
            go_wp2_with fail
            refine (specSaveImage_any _ _ _ ⟨cs, R⟩ (ldBase xs) (H.rdH 0 2 rfl rfl) hIb).mono ?_
            rintro e w9 ⟨v9, rfl, ho, hb⟩
            have H4 := H.madeI ho hb
            clear H ho hb y0 y1 y2 y3 g1 h1
            obtain ⟨S, hS⟩ : ∃ S, Hid (mSaveImage ⟨cs, R⟩ (ldBase xs) = S) := ⟨_, Go.Lib.hid rfl⟩
            rw [hS.out] at H4
            have hSl := HSL.out
            rw [hS.out] at hSl
            have HF1' := Go.Lib.hid (show ldOk xs = decide (S = xs) from by rw [← hS.out]; exact HF1.out)
            obtain ⟨A9, k9, rfl, hr9⟩ := H4.formI 0 rfl
            by_cases c0 : S.length = n
            rotate_left
            · have HF := Go.Lib.hid (show ldOk xs = false from by rw [HF1'.out]; exact decide_eq_false fun e => c0 (by rw [e]; omega))
              have k1' : ((S.length : Int) != (n : Int)) = true := by simp; omega
              clear hr9
              obtain ⟨b0, b1, b2, b3⟩ := H4.box2 4 rfl
              have HZ := (((H4.putBox 4 rfl 0 (.slice none 0 0)).putBox 4 rfl 1 (.slice none 0 0)).noInts).noCells
              simp only [List.set_cons_zero, List.set_cons_succ] at HZ
              obtain ⟨z0, z1, -, -⟩ := HZ.box2 6 rfl
              have HS : Hid (MadeHIB w (mLoadH xs) (mLoadB xs) (ldOk xs) (.returned (.tuple #[.agg #[.slice none 0 0, .slice none 0 0], .int .i64 0, .bool false])) _) := Go.Lib.hid (by rw [HF.out, (mLoad_no HF.out).1, (mLoad_no HF.out).2]; exact ⟨_, [], _, rfl, HZ.take 2⟩)
              clear HZ H4
              go_wp2
              exact bodyPost_ret (v := .tuple #[.agg #[.slice none 0 0, .slice none 0 0], .int .i64 0, .bool false]) (by simp [results, Try.results11, go_sem, z0, z1]) rfl HS.out
            subst c0
            go_wp2_with fail
            go_loopw [14] (fun i wr => ∃ k : Nat, i = .int .i64 k ∧ k ≤ S.length ∧ S.take k = xs.take k ∧ Owns w.heap.size w wr [.ints (.slice A9 S.length k9) S, .cells (.slice C5 cs.length k5) rvs cs, .box (w.heap.size + 1) [.slice C5 cs.length k5, .slice R1 R.length k1] 27, .ints (.slice R1 R.length k1) R, .box w.heap.size [.slice none 0 0, .slice none 0 0] 27]) (fun i _ => S.length - (intOf i).toNat)
            case atStart => exact ⟨0, rfl, Nat.zero_le _, rfl, H4⟩
            case round =>
              clear H4 hr9
              obtain ⟨q, rfl, hq, he, H⟩ := hrel
              have hr9 := (H.owI 0 rfl).rdI
              by_cases hlq : q < S.length
              · obtain ⟨b', o', x, e', -, hx, gw⟩ := RdI.at_ hr hlq
                injection e' with e'; injection e' with e1' e2'; subst e1' e2'
                obtain ⟨b9, o9, y, rfl, hbb9, hy, gy⟩ := RdI.at_ hr9 hlq
                have gx' := keepd (H.ro gw hbb) (Below.refl _ _)
                have gy' := keepd gy (Below.refl _ _)
                by_cases c1 : y = x
                · subst c1
                  have HE := Go.Lib.hid (show S.take (q + 1) = xs.take (q + 1) from by rw [take_snoc' hx, take_snoc' hy, he])
                  clear he hr9
                  go_wp2_with fail
                  refine wp_region_tree (fun w' => w'.cell? ⟨b9, o9 + q, none⟩ = some (.int .i64 y) ∧ w'.cell? ⟨b, o + q, none⟩ = some (.int .i64 y)) 9 [] (.take 0 (.take 1 (.take 2 (.take 3 (.take 4 (.take 5 (.take 6 (.take 7 (.take 8 (.done)))))))))) (by kernel_rfl) (by kernel_rfl) (by kernel_rfl) (⟨gy', gx'⟩) ?_
                  simp only [fillT, List.getElem?_cons_zero, List.getElem?_cons_succ]
                  repeat (first
                    | (with_reducible refine po_take (v := ?_) ?_ (fun w' hS' => ?_) ?_
                       rotate_left
                       · (go_simp; done)
                       · ((try dsimp only at hS'); go_simp; try with_reducible rfl)
                       simp only [Act.put, List.setIfInBounds_toArray, List.set_cons_zero, List.set_cons_succ])
                    | (with_reducible refine po_skip ?_ ?_
                       · (go_simp; done)
                       simp only [Act.put, List.setIfInBounds_toArray, List.set_cons_zero, List.set_cons_succ]))
                  refine po_done ?_
                  go_wp2
                  go_roundw
                  case rel => exact ⟨q + 1, by go_num, by omega, HE.out, H.drew⟩
                  case measure => simp [intOf]; omega
                · have HF := Go.Lib.hid (show ldOk xs = false from by rw [HF1'.out]; exact decide_eq_false fun e => c1 (by have h1 := hx.out; rw [← e, hy.out] at h1; injection h1))
                  have k1' : (y != x) = true := by simp; exact c1
                  clear he hr9
                  go_wp2_with fail
                  refine wp_region_tree (fun w' => w'.cell? ⟨b9, o9 + q, none⟩ = some (.int .i64 y) ∧ w'.cell? ⟨b, o + q, none⟩ = some (.int .i64 x)) 9 [] (.take 0 (.take 1 (.take 2 (.take 3 (.take 4 (.take 5 (.take 6 (.take 7 (.take 8 (.done)))))))))) (by kernel_rfl) (by kernel_rfl) (by kernel_rfl) (⟨gy', gx'⟩) ?_
                  simp only [fillT, List.getElem?_cons_zero, List.getElem?_cons_succ]
                  repeat (first
                    | (with_reducible refine po_take (v := ?_) ?_ (fun w' hS' => ?_) ?_
                       rotate_left
                       · (go_simp; done)
                       · ((try dsimp only at hS'); go_simp; try with_reducible rfl)
                       simp only [Act.put, List.setIfInBounds_toArray, List.set_cons_zero, List.set_cons_succ])
                    | (with_reducible refine po_skip ?_ ?_
                       · (go_simp; done)
                       simp only [Act.put, List.setIfInBounds_toArray, List.set_cons_zero, List.set_cons_succ]))
                  refine po_done ?_
                  have H20 := H.drew
                  obtain ⟨b0', b1', b2', b3'⟩ := H.box2 4 rfl
                  have H19 := H.putBox 4 rfl 0 (.slice none 0 0)
                  obtain ⟨d0, -, -, -⟩ := H19.box2 4 rfl
                  obtain ⟨d1, d2, -, -⟩ := (H19.putBox 4 rfl 1 (.slice none 0 0)).box2 4 rfl
                  clear H H19 gx' gy' gy
                  obtain ⟨b0, b1, b2, b3⟩ := H20.box2 4 rfl
                  have HZ := (((H20.putBox 4 rfl 0 (.slice none 0 0)).putBox 4 rfl 1 (.slice none 0 0)).noInts).noCells
                  simp only [List.set_cons_zero, List.set_cons_succ] at HZ
                  obtain ⟨z0, z1, -, -⟩ := HZ.box2 6 rfl
                  have HS : Hid (MadeHIB w (mLoadH xs) (mLoadB xs) (ldOk xs) (.returned (.tuple #[.agg #[.slice none 0 0, .slice none 0 0], .int .i64 0, .bool false])) _) := Go.Lib.hid (by rw [HF.out, (mLoad_no HF.out).1, (mLoad_no HF.out).2]; exact ⟨_, [], _, rfl, HZ.take 2⟩)
                  clear HZ H20
                  go_wp2
                  exact bodyPost_ret (v := .tuple #[.agg #[.slice none 0 0, .slice none 0 0], .int .i64 0, .bool false]) (by simp [results, Try.results11, go_sem, d1, d2]) rfl HS.out
              · have hall : S = xs := by rwa [List.take_of_length_le (by omega), List.take_of_length_le (by omega)] at he
                have HF := Go.Lib.hid (show ldOk xs = true from by rw [HF1'.out]; exact decide_eq_true hall)
                clear he hall hr9
                obtain ⟨y0, y1, -, -⟩ := H.box2 2 rfl
                obtain ⟨b0, b1, b2, b3⟩ := H.box2 4 rfl
                have H21 := (H.putBox 4 rfl 0 (.slice C5 cs.length k5)).putBox 4 rfl 1 (.slice R1 R.length k1)
                simp only [List.set_cons_zero, List.set_cons_succ] at H21
                obtain ⟨z0, z1, -, -⟩ := H21.box2 4 rfl
                obtain ⟨z2, -, -, -⟩ := (H.putBox 4 rfl 0 (.slice C5 cs.length k5)).box2 4 rfl
                have HS : Hid (MadeHIB w (mLoadH xs) (mLoadB xs) (ldOk xs) (.returned (.tuple #[.agg #[.slice C5 cs.length k5, .slice R1 R.length k1], .int .i64 (ldBase xs), .bool true])) _) := Go.Lib.hid (by rw [(mLoad_yes HF.out).1, (mLoad_yes HF.out).2, HF.out, HF2.out HF.out]; exact ⟨_, _, _, rfl, H21.order [1, 3] (by decide) rfl⟩)
                clear H H21
                go_wp2
                exact bodyPost_ret (v := .tuple #[.agg #[.slice C5 cs.length k5, .slice R1 R.length k1], .int .i64 (ldBase xs), .bool true]) (by simp [results, Try.results11, go_sem, z0, z1]) rfl HS.out
end Go.Proofs.Ytnpehidhoekfcaa
