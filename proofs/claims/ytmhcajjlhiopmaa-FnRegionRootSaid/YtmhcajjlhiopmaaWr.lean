/- WantedRegions, the program's: it makes mWantedRegions, for every heap and list that can be read. -/
import Derived.Test.YtmhcajjlhiopmaaWp
import Derived.Test.YtmhcajjlhiopmaaRg
import Derived.Test.YtmhcajjlhiopmaaClo
import Derived.Test.YtmhcajjlhiopmaaZ0
import Derived.Test.YtmhcajjlhiopmaaRch
namespace Go.Proofs.Ytmhcajjlhiopmaa
open Go.RowKit
theorem mWanted_no1 {h : Hp} {ws : List Int} (h0 : heapOk h = false) : mWantedRegions h ws = [] := by simp [mWantedRegions, h0]
theorem mWanted_no2 {h : Hp} {ws : List Int} (h0 : ws.length ≠ 4) : mWantedRegions h ws = [] := by simp [mWantedRegions, h0]
theorem mWanted_no3 {h : Hp} {ws : List Int} {k : Nat} {x : Int} (hx : Hid (ws[k]? = some x)) (h0 : regB x = false) : mWantedRegions h ws = [] := by
  unfold mWantedRegions
  rw [if_neg]
  intro hc
  simp only [Bool.and_eq_true, List.all_eq_true] at hc
  have := hc.2 x (List.mem_of_getElem? hx.out)
  rw [h0] at this; cases this
theorem mWanted_yes {h : Hp} {ws : List Int} (h0 : heapOk h = true) (h1 : ws.length = 4) (h2 : ∀ j x, j < 4 → ws[j]? = some x → regB x = true) : mWantedRegions h ws = (List.range h.cells.length).map (wTo h ws 4) := by
  unfold mWantedRegions
  rw [if_pos]
  simp only [Bool.and_eq_true, List.all_eq_true, decide_eq_true_eq]
  refine ⟨⟨h0, h1⟩, fun x hx => ?_⟩
  obtain ⟨j, hj⟩ := List.getElem?_of_mem hx
  exact h2 j x (by have := (List.getElem?_eq_some_iff.1 hj).1; omega) hj
theorem int_min (q x : Int) : min q x = if x < q then x else q := by split <;> omega
theorem regB_yes {x : Int} (h : regB x = true) : 0 ≤ x ∧ x ≤ 5 := by simpa [regB] using h
theorem regB_no {x : Int} (h : regB x = false) : x < 0 ∨ 5 < x := by simp [regB] at h; omega
theorem regs_succ {ws : List Int} {k : Nat} {x : Int} (hx : Hid (ws[k]? = some x)) (h0 : regB x = true) (h : ∀ j x, j < k → ws[j]? = some x → regB x = true) : ∀ j x, j < k + 1 → ws[j]? = some x → regB x = true := by
  intro j y hj hy
  rcases Nat.lt_or_ge j k with h1 | h1
  · exact h j y h1 hy
  · obtain rfl : j = k := by omega
    rw [hx.out] at hy; injection hy with hy; subst hy; exact h0
def stT (h : Hp) (k : Nat) : List Int := (List.range h.cells.length).map fun c => if decide (c < k) && usedN h.cells c then (5 : Int) else 0
theorem stT_zero (h : Hp) : List.replicate h.cells.length (0 : Int) = stT h 0 := by
  unfold stT
  apply List.ext_getElem <;> simp
theorem map_set_range {f g : Nat → Int} {n k : Nat} {v : Int} (hv : g k = v) (he : ∀ c, c < n → c ≠ k → g c = f c) : ((List.range n).map f).set k v = (List.range n).map g := by
  apply List.ext_getElem (by simp)
  intro i h1 h2
  simp only [List.getElem_set, List.getElem_map, List.getElem_range]
  by_cases e : k = i
  · rw [if_pos e, ← e, hv]
  · rw [if_neg e]
    exact (he i (by simpa using h2) (Ne.symm e)).symm
theorem map_same_range {f g : Nat → Int} {n : Nat} (he : ∀ c, c < n → g c = f c) : (List.range n).map f = (List.range n).map g := by
  apply List.map_congr_left
  intro c hc
  exact (he c (List.mem_range.1 hc)).symm
theorem map_at_range {f : Nat → Int} {n k : Nat} (hk : k < n) : ((List.range n).map f)[k]? = some (f k) := by simp [List.getElem?_range hk]
theorem stT_free {h : Hp} {k : Nat} (hu : usedN h.cells k = false) : stT h (k + 1) = stT h k := by
  unfold stT
  refine (map_same_range fun c _ => ?_).symm
  by_cases e : c = k
  · subst e; simp [hu]
  · have : decide (c < k + 1) = decide (c < k) := by simp; omega
    rw [this]
theorem stT_used {h : Hp} {k : Nat} (hu : usedN h.cells k = true) : stT h (k + 1) = (stT h k).set k 5 := by
  unfold stT
  refine (map_set_range (by simp [hu]) fun c _ hc => ?_).symm
  have : decide (c < k + 1) = decide (c < k) := by simp; omega
  rw [this]
theorem stT_len (h : Hp) (k : Nat) : (stT h k).length = h.cells.length := by simp [stT]
theorem stT_end {h : Hp} {ws : List Int} {k : Nat} (hk : h.cells.length ≤ k) : stT h k = (List.range h.cells.length).map (wTo h ws 0) := by
  unfold stT
  refine map_same_range fun c hc => ?_
  have : decide (c < k) = true := by simp; omega
  rw [this, wTo]; simp
/-- The list while root k's cells are gone over. -/
noncomputable def mxT (h : Hp) (ws : List Int) (k i : Nat) : List Int := (List.range h.cells.length).map fun c => if c < i then wTo h ws (k + 1) c else wTo h ws k c
theorem mxT_zero (h : Hp) (ws : List Int) (k : Nat) : mxT h ws k 0 = (List.range h.cells.length).map (wTo h ws k) := rfl
theorem mxT_end {h : Hp} {ws : List Int} {k i : Nat} (hi : h.cells.length ≤ i) : mxT h ws k i = (List.range h.cells.length).map (wTo h ws (k + 1)) := by
  unfold mxT
  refine map_same_range fun c hc => ?_
  rw [if_pos (by omega)]
theorem mxT_at {h : Hp} {ws : List Int} {k i : Nat} (hi : i < h.cells.length) : (mxT h ws k i)[i]? = some (wTo h ws k i) := by
  unfold mxT
  rw [map_at_range hi, if_neg (by omega)]
theorem mxT_no {h : Hp} {ws : List Int} {k i : Nat} (hb : reachB h.cells [h.roots.getD k (-1)] i = false) : mxT h ws k (i + 1) = mxT h ws k i := by
  unfold mxT
  refine (map_same_range fun c _ => ?_).symm
  rcases Nat.lt_trichotomy c i with h1 | h1 | h1
  · rw [if_pos (by omega), if_pos h1]
  · subst h1
    rw [if_pos (by omega), if_neg (by omega), wTo, if_neg (by rw [hb]; exact Bool.false_ne_true)]
  · rw [if_neg (by omega), if_neg (by omega)]
theorem mxT_yes {h : Hp} {ws : List Int} {k i : Nat} (hb : reachB h.cells [h.roots.getD k (-1)] i = true) : mxT h ws k (i + 1) = (mxT h ws k i).set i (min (wTo h ws k i) (ws.getD k 0)) := by
  unfold mxT
  refine (map_set_range ?_ fun c _ hc => ?_).symm
  · rw [if_pos (by omega), wTo, if_pos hb]
  · rcases Nat.lt_or_ge c i with h1 | h1
    · rw [if_pos (by omega), if_pos h1]
    · rw [if_neg (by omega), if_neg (by omega)]
theorem hasR {cs : List Cel} {fr : List Int} (h64 : cs.length ≤ 64) (i : Nat) : hasB (closM cs (usedM cs) fr) (i : Int) = reachB cs fr i := by
  unfold hasB
  rw [closM_used h64]; simp
abbrev OB.intsAt (g n : Nat) (xs : List Int) : OB := .row 3 1 (.slice (some ⟨g, 0, none⟩) n n) n (xs.map (Value.int .i64))
theorem Owns.putI {lo : Nat} {w0 w : World} {L : List OB} {g n : Nat} {xs : List Int} (h : Owns lo w0 w (.intsAt g n xs :: L)) (j : Nat) (x : Int) : Owns lo w0 (w.setCell ⟨g, j, none⟩ (.int .i64 x)) (.intsAt g n (xs.set j x) :: L) := by
  have := h.putRow 0 rfl j (.int .i64 x)
  simpa only [List.set_cons_zero, ← List.map_set] using this
theorem RdI.sub {w : World} {B : Nat} {b o n c : Nat} {xs : List Int} (h : RdI w B (some ⟨b, o, none⟩) n c xs) {k : Nat} (hk : k < n) {x : Int} (hx : Hid (xs[k]? = some x)) : RdI w B (some ⟨b, o + k, none⟩) 1 (c - k) [x] := by
  have hc := h.cap
  have hm := h.mx
  refine ⟨rfl, by omega, by omega, fun _ => ?_⟩
  obtain ⟨b2, o2, hA, hlt, hcc⟩ := h.rd (by omega)
  injection hA with hA; injection hA with e1 e2; subst e1 e2
  refine ⟨b, o + k, rfl, hlt, fun j u hj => ?_⟩
  have hj0 : j = 0 := by
    have := (List.getElem?_eq_some_iff.1 hj).1
    simp at this; omega
  subst hj0
  simp only [List.map_cons, List.getElem?_cons_zero, Option.some.injEq] at hj
  subst hj
  have := hcc k (.int .i64 x) (by rw [List.getElem?_map, hx.out]; rfl)
  simpa using this
set_option maxHeartbeats 1600000 in
set_option maxRecDepth 20000 in
theorem implWantedRegions_any (w : World) (B B' : Nat) (v : Value) (h : Hp) (A : Option Addr) (n c : Nat) (ws : List Int) (hh : RdH w B v h) (hr : RdI w B' A n c ws) :
    Calls Try.prog 10 #[v, .slice A n c] w (MadeI w (mWantedRegions h ws)) := by
  have hh' := hh.top
  have hr := hr.top
  obtain ⟨D, m, d, D', m', d', rfl, hC, hR⟩ := hh.top
  have l1 := RdI.le1 hr; have l2 := RdI.le2 hr
  have l3 := hC.le1; have l4 := hC.le2
  have l5 := RdI.le1 hR; have l6 := RdI.le2 hR
  have l7 := hR.cap
  obtain ⟨i0, hi, hz0, hz1, hz2⟩ := info_parts Try.infoInt
  have H1 := (Owns.nil w).box [.slice D m d, .slice D' m' d'] 26
  go_enter Try.func10, Try.ntmps10
  go_wp2_with fail
  refine (heapValid_any _ _ _ h (hh'.below H1.below)).mono ?_
  rintro e w1 ⟨rfl, hb1⟩
  have H2 := H1.call hb1
  obtain ⟨a0, a1, -, -⟩ := H2.box2 0 rfl
  clear H1 hb1
  cases hy : heapOk h
  · have HF := Go.Lib.hid (mWanted_no1 (ws := ws) hy)
    clear hy
    go_wp2
    go_ret
    rw [HF.out]
    exact H2.noInts.toI 0 rfl
  obtain ⟨s4, s5⟩ := heapOk_small hy
  replace s5 := Nat.le_of_eq s5.symm
  have HY := Go.Lib.hid hy
  clear hy
  by_cases hn4 : n = 4
  · subst hn4
    go_wp2_with (at_make; refine wpList_make_full _ rfl _ _ _ rfl w1.heap.size 3 i0 (.int .i64 0) 1 Try.underlying24 hi hz0 hz1 .i64 .i64 _ _ m rfl rfl rfl rfl (by rw [hz2]; omega) (by unfold maxLen; omega) (Nat.le_refl _) ?_)
    intro w2 hown hg
    have H3 := H2.mkI (by simpa using hown) hg
    obtain rfl : m = h.cells.length := by omega
    rw [stT_zero] at H3
    clear H2 hown hg a0 a1
    obtain ⟨a0, a1, -, -⟩ := H3.box2 1 rfl
    go_wp2_with fail
    go_loopw [27] (fun i wr => ∃ k : Nat, i = .int .i64 k ∧ k ≤ h.cells.length ∧ Owns w.heap.size w wr [.intsAt w1.heap.size h.cells.length (stT h k), .box w.heap.size [.slice D h.cells.length d, .slice D' m' d'] 26]) (fun i _ => h.cells.length - (intOf i).toNat)
    case atStart => exact ⟨0, rfl, Nat.zero_le _, H3⟩
    case round =>
      clear H3 a0 a1
      obtain ⟨k, rfl, hk, H⟩ := hrel
      by_cases hlt : k < h.cells.length
      · obtain ⟨b, o, l, A2, n2, c2, rfl, hbb, hx, q1, q2, q3, hrf⟩ := hC.at_ hlt
        have g1 := H.ro q1 hbb
        have g2 := H.ro q2 hbb
        have g3 := H.ro q3 hbb
        clear q1 q2 q3
        have hun := usedN_at hx
        cases hu : l.used
        · rw [hu] at g1 hun
          have HB := Go.Lib.hid (stT_free hun)
          have H4 := H.alloc (.cells #[.bool false, .int .i64 l.data, .slice A2 n2 c2] 33)
          clear hu hun
          go_wp2
          go_roundw
          case rel => exact ⟨k + 1, by go_num, by omega, by rw [HB.out]; exact H4⟩
          case measure => simp [intOf]; omega
        · rw [hu] at g1 hun
          have HB := Go.Lib.hid (stT_used hun)
          have H4 := H.alloc (.cells #[.bool true, .int .i64 l.data, .slice A2 n2 c2] 33)
          obtain ⟨z0, zf⟩ := H4.elem 0 rfl (j := k) (u := .int .i64 ((stT h k)[k]'(by rw [stT_len]; omega))) (by rw [List.getElem?_map, List.getElem?_eq_getElem]; rfl)
          have H5 := H4.putI k 5
          rw [← HB.out] at H5
          clear hu hun H4
          go_wp2
          go_roundw
          case rel => exact ⟨k + 1, by go_num, by omega, H5⟩
          case measure => simp [intOf]; omega
      · rw [stT_end (ws := ws) (by omega)] at H
        go_wp2_with fail
        go_loopw [40] (fun i wr => ∃ k : Nat, i = .int .i64 k ∧ k ≤ 4 ∧ (∀ j x, j < k → ws[j]? = some x → regB x = true) ∧ Owns w.heap.size w wr [.intsAt w1.heap.size h.cells.length ((List.range h.cells.length).map (wTo h ws k)), .box w.heap.size [.slice D h.cells.length d, .slice D' m' d'] 26]) (fun i _ => 4 - (intOf i).toNat)
        case atStart => exact ⟨0, rfl, Nat.zero_le _, fun j x hj => by omega, H⟩
        case round =>
          clear H
          obtain ⟨k, rfl, hk, hall, H⟩ := hrel
          by_cases hlt : k < 4
          · obtain ⟨b, o, x, rfl, hbb, hx, q1⟩ := RdI.at_ hr hlt
            have g1 := H.ro q1 hbb
            clear q1
            cases hxr : regB x
            · have HF := Go.Lib.hid (mWanted_no3 (h := h) hx hxr)
              have hno := regB_no hxr
              clear hxr
              go_wp2_with fail
              refine (isRegion_no _ _ hno).mono ?_
              rintro e w3 ⟨rfl, hw3⟩
              obtain rfl := hw3
              clear hno
              go_wp2
              go_ret
              rw [HF.out]
              exact H.noInts.toI 0 rfl
            · have HALL := Go.Lib.hid (regs_succ hx hxr hall)
              obtain ⟨y1, y2⟩ := regB_yes hxr
              clear hxr hall
              go_wp2_with fail
              refine (isRegion_yes _ _ y1 y2).mono ?_
              rintro e w3 ⟨rfl, hw3⟩
              obtain rfl := hw3
              obtain ⟨bR, oR, r, rfl, hbR, hxR, -⟩ := RdI.at_ hR (show k < m' by omega)
              have HX := H.drew
              obtain ⟨b0, b1, -, -⟩ := HX.box2 1 rfl
              have f1 : IntKind.i64.wrap ((k : Int) + 1) = (k : Int) + 1 := by rw [IntKind.wrap_i64]; omega
              have f2 : (0 : Int) ≤ (k : Int) + 1 := by omega
              have f3 : (k : Int) + 1 ≤ (d' : Int) := by omega
              have f4 : ((k : Int) + 1).toNat = k + 1 := by omega
              have f5 : k + 1 - k = 1 := by omega
              have f6 : ¬ d' = k := by omega
              go_wp2_with fail
              refine wp_region_tree (fun w' => w'.cell? ⟨w.heap.size, 0, none⟩ = some (.slice D h.cells.length d) ∧ w'.cell? ⟨w.heap.size, 1, none⟩ = some (.slice (some ⟨bR, oR, none⟩) m' d')) 11 [] (.take 0 (.take 1 (.take 2 (.take 3 (.take 4 (.take 5 (.take 6 (.take 7 (.alt 8 (.alt 9 (.take 10 (.done)) (.stop)) (.stop)))))))))) (by kernel_rfl) (by kernel_rfl) (by kernel_rfl) (⟨b0, b1⟩) ?_
              simp only [fillT, List.getElem?_cons_zero, List.getElem?_cons_succ, Nat.reduceBEq]
              repeat (first
                | (with_reducible refine po_take (v := ?_) ?_ (fun w' hS' => ?_) ?_
                   rotate_left
                   · (go_simp; done)
                   · ((try dsimp only at hS'); go_simp; try with_reducible rfl)
                   simp only [Act.put, List.setIfInBounds_toArray, List.set_cons_zero, List.set_cons_succ])
                | (with_reducible refine po_skip ?_ ?_
                   · (go_simp; done)
                   simp only [Act.put, List.setIfInBounds_toArray, List.set_cons_zero, List.set_cons_succ]))
              with_reducible refine po_run ?_ (fun K hK => ?_) ?_
              · (go_simp; done)
              rotate_left
              · exact po_stop
              go_simp
              refine (usedSet_any _ _ _ h (hh'.below HX.below) (by omega)).mono ?_
              rintro e w7 ⟨rfl, hb⟩
              replace HX := HX.call hb
              replace b0 := keept b0 hb
              replace b1 := keept b1 hb
              refine hK.out _ _ (.inr (⟨b0, b1⟩)) ?_
              clear hK K
              with_reducible refine po_run ?_ (fun K hK => ?_) ?_
              · (go_simp; done)
              rotate_left
              · exact po_stop
              go_simp
              refine (closure_any _ _ _ _ h _ _ _ [r] (usedM h.cells) (hh'.below HX.below) ((hR.sub (by omega) hxR).below HX.below) (usedM_lt _) fun c hc => usedN_lt (by rwa [usedM_bit (by omega)] at hc)).mono ?_
              rintro e w8 ⟨rfl, hb⟩
              replace HX := HX.call hb
              refine hK.out _ _ (.inr (⟨keept b0 hb, keept b1 hb⟩)) ?_
              clear hK K
              repeat (first
                | (with_reducible refine po_take (v := ?_) ?_ (fun w' hS' => ?_) ?_
                   rotate_left
                   · (go_simp; done)
                   · ((try dsimp only at hS'); go_simp; try with_reducible rfl)
                   simp only [Act.put, List.setIfInBounds_toArray, List.set_cons_zero, List.set_cons_succ])
                | (with_reducible refine po_skip ?_ ?_
                   · (go_simp; done)
                   simp only [Act.put, List.setIfInBounds_toArray, List.set_cons_zero, List.set_cons_succ]))
              refine po_done ?_
              clear b0 b1 hb H g1
              have HM := Go.Lib.hid (closM_lt h.cells (usedM h.cells) [r])
              have HG : Hid (h.roots.getD k (-1) = r) := Go.Lib.hid (getD_of hxR)
              have HW : Hid (ws.getD k 0 = x) := Go.Lib.hid (getD_of hx)
              go_wp2_with fail
              go_loopw [60] (fun i wr => ∃ i' : Nat, i = .int .i64 i' ∧ i' ≤ h.cells.length ∧ Owns w.heap.size w wr [.intsAt w1.heap.size h.cells.length (mxT h ws k i'), .box w.heap.size [.slice D h.cells.length d, .slice (some ⟨bR, oR, none⟩) m' d'] 26]) (fun i _ => h.cells.length - (intOf i).toNat)
              case atStart => exact ⟨0, rfl, Nat.zero_le _, HX⟩
              case round =>
                clear HX
                obtain ⟨i, rfl, hi', H⟩ := hrel
                by_cases hlti : i < h.cells.length
                · have HB : Hid (hasB (closM h.cells (usedM h.cells) [r]) (i : Int) = reachB h.cells [r] i) := Go.Lib.hid (hasR (by omega) i)
                  obtain ⟨z0, zf⟩ := H.elem 0 rfl (j := i) (u := .int .i64 (wTo h ws k i)) (by rw [List.getElem?_map, mxT_at hlti]; rfl)
                  cases hb : reachB h.cells [r] i
                  · have HT := Go.Lib.hid (mxT_no (ws := ws) (k := k) (i := i) (by rw [HG.out]; exact hb))
                    have HV := Go.Lib.hid (HB.out.trans hb)
                    clear hb HB
                    go_wp2_with fail
                    refine (has_any _ (i : Int) _ HM.out).mono ?_
                    rintro e w5 ⟨rfl, hw5⟩
                    obtain rfl := hw5
                    rw [HV.out]
                    go_wp2
                    go_roundw
                    case rel => exact ⟨i + 1, by go_num, by omega, by rw [HT.out]; exact H⟩
                    case measure => simp [intOf]; omega
                  · have HT := mxT_yes (ws := ws) (k := k) (i := i) (by rw [HG.out]; exact hb)
                    have HV := Go.Lib.hid (HB.out.trans hb)
                    have H5 := H.putI i (min (wTo h ws k i) x)
                    rw [HW.out] at HT
                    rw [← HT] at H5
                    clear hb HB HT
                    generalize wTo h ws k i = q at *
                    go_wp2_with fail
                    refine (has_any _ (i : Int) _ HM.out).mono ?_
                    rintro e w5 ⟨rfl, hw5⟩
                    obtain rfl := hw5
                    rw [HV.out]
                    go_wp2
                    go_roundw
                    case rel => exact ⟨i + 1, by go_num, by omega, by rw [← int_min]; exact H5⟩
                    case measure => simp [intOf]; omega
                · rw [mxT_end (by omega)] at H
                  go_wp2
                  go_roundw
                  case rel => exact ⟨k + 1, by go_num, by omega, HALL.out, H⟩
                  case measure => simp [intOf]; omega
          · obtain rfl : k = 4 := by omega
            have HF := Go.Lib.hid (mWanted_yes HY.out (by omega) hall)
            clear hall
            go_wp2
            go_ret
            rw [HF.out]
            have HE : Owns w.heap.size w wr [.ints (.slice (some ⟨w1.heap.size, 0, none⟩) h.cells.length h.cells.length) ((List.range h.cells.length).map (wTo h ws 4)), .box w.heap.size [.slice D h.cells.length d, .slice D' m' d'] 26] := by
              have e : ((List.range h.cells.length).map (wTo h ws 4)).length = h.cells.length := by simp
              unfold OB.ints
              rw [e]; exact H
            exact HE.toI 0 rfl
  · have HF := Go.Lib.hid (mWanted_no2 (h := h) (ws := ws) (by omega))
    go_wp2
    go_ret
    rw [HF.out]
    exact H2.noInts.toI 0 rfl
end Go.Proofs.Ytmhcajjlhiopmaa
