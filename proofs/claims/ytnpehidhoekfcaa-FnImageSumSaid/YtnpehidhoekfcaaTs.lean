/- TableValid, the reference's: it returns mTableValid too. -/
import Derived.Test.YtnpehidhoekfcaaTl
import Derived.Test.YtnpehidhoekfcaaTv
import Derived.Test.YtnpehidhoekfcaaRch
namespace Go.Proofs.Ytnpehidhoekfcaa
open Go.RowKit
theorem tell_leads {t : Tbl} {cs : List Cel} {r : Int} (h : leadsB cs (tellR t.hands r) = true) : inT t.hands r = true := by
  cases hi : inT t.hands r
  · have := inT_no hi
    rw [tellR_no (by omega) (by omega)] at h
    rw [leadsB_out (by omega) (.inl (by omega))] at h
    cases h
  · rfl
theorem heapOk_allIn {t : Tbl} (h : heapOk (tellH t) = true) : allIn t = true := by
  obtain ⟨h1, h2⟩ := heapOk_leads h
  unfold allIn
  simp only [Bool.and_eq_true, List.all_eq_true]
  refine ⟨fun r hr => tell_leads (h1 _ (List.mem_map.2 ⟨r, hr, rfl⟩)), fun c hc r hr => ?_⟩
  obtain ⟨k, hk⟩ := List.getElem?_of_mem hc
  exact tell_leads (h2 k (tellC t.hands c) (by show (t.store.cells.map (tellC t.hands))[k]? = _; rw [List.getElem?_map, hk]; rfl) _ (List.mem_map.2 ⟨r, hr, rfl⟩))
theorem mTab_spec {t : Tbl} (h1 : t.hands.length = t.store.cells.length) (h : ∀ k, k < t.hands.length → handAt t.hands k = true) : mTableValid t = (allIn t && heapOk (tellH t)) := by
  cases hk : heapOk (tellH t)
  · simp [mTableValid, hk]
  · obtain ⟨h2, -⟩ := heapOk_small hk
    have h3 : (tellH t).cells.length = t.store.cells.length := List.length_map _
    rw [mTab_yes h1 (by omega) h, hk, heapOk_allIn hk]; rfl
theorem mTab_spec1 {t : Tbl} (h1 : t.hands.length = t.store.cells.length) (h : ∀ k, k < t.hands.length → handAt t.hands k = true) (ha : allIn t = false) : mTableValid t = false := by rw [mTab_spec h1 h, ha]; rfl
theorem mTab_spec2 {t : Tbl} (h1 : t.hands.length = t.store.cells.length) (h : ∀ k, k < t.hands.length → handAt t.hands k = true) (ha : allIn t = true) : mTableValid t = heapOk (tellH t) := by rw [mTab_spec h1 h, ha]; rfl
def metT (hs : List Int) (n k : Nat) : List Bool := (List.range n).map fun c : Nat => (hs.take k).contains (c : Int)
theorem metT_zero (hs : List Int) (n : Nat) : List.replicate n false = metT hs n 0 := by
  unfold metT
  apply List.ext_getElem <;> simp
theorem metT_at {hs : List Int} {n k q : Nat} (hq : q < n) : (metT hs n k)[q]? = some ((hs.take k).contains (q : Int)) := by simp [metT, List.getElem?_range hq]
theorem metT_succ {hs : List Int} {n k q : Nat} (hx : Hid (hs[k]? = some (q : Int))) : metT hs n (k + 1) = (metT hs n k).set q true := by
  unfold metT
  apply List.ext_getElem (by simp)
  intro i h1 h2
  simp only [List.getElem_set, List.getElem_map, List.getElem_range]
  rw [contains_snoc hx]
  by_cases e : q = i
  · rw [if_pos e]; simp; omega
  · rw [if_neg e]
    have : decide ((i : Int) = (q : Int)) = false := by simp; omega
    rw [this, Bool.or_false]
set_option maxHeartbeats 1600000 in
set_option maxRecDepth 20000 in
theorem specTableValid_any (w : World) (B : Nat) (v : Value) (t : Tbl) (hh : RdT w B v t) (hn : t.store.cells.length ≤ 1048576) (hn2 : t.store.roots.length ≤ 1048576) (hn3 : ∀ c ∈ t.store.cells, c.refs.length ≤ 1048576) (hn4 : t.hands.length ≤ 1048576) :
    Calls Try.prog 24 #[v] w fun e w' => e = .returned (.bool (mTableValid t)) ∧ Below w.heap.size w w' := by
  have hh' := hh.top
  obtain ⟨D, m, d, D', m', d', E, q, f, rfl, hC, hR, hE⟩ := hh.top
  have l3 := hC.le1; have l4 := hC.le2
  have l5 := RdI.le1 hE; have l6 := RdI.le2 hE
  obtain ⟨i0, hi, hz0, hz1, hz2⟩ := info_parts Try.infoBool
  have H1 := (Owns.nil w).box [.slice D m d, .slice D' m' d', .slice E q f] 42
  obtain ⟨a0, a1, a2, -, -, -⟩ := H1.box3 0 rfl
  go_enter Try.func24, Try.ntmps24
  go_wp2_with (at_make; refine wpList_make_full _ rfl _ _ _ rfl (w.heap.size + 1) 4 i0 (.bool false) 1 Try.underlying50 hi hz0 hz1 .i64 .i64 _ _ m rfl rfl rfl rfl (by rw [hz2]; omega) (by unfold maxLen; omega) (by simp) ?_)
  intro w1 hown hg
  have H2 := H1.mkB (by simpa using hown) hg
  rw [metT_zero t.hands] at H2
  clear H1 hown hg a0 a1 a2
  obtain ⟨a0, a1, a2, -, -, -⟩ := H2.box3 1 rfl
  by_cases c1 : q = m
  rotate_left
  · have HF := Go.Lib.hid (mTab_no1 (t := t) (by omega))
    have k1 : ((q : Int) != (m : Int)) = true := by simp; omega
    have HB := H2.below
    go_wp2
    go_ret
    exact ⟨ret_b HF.out.symm, HB⟩
  subst c1
  go_wp2_with fail
  go_loopw [5] (fun i wr => ∃ k : Nat, i = .int .i64 k ∧ k ≤ q ∧ (∀ j, j < k → handAt t.hands j = true) ∧ Owns w.heap.size w wr [.row 4 1 (.slice (some ⟨w.heap.size + 1, 0, none⟩) q q) q ((metT t.hands q k).map Value.bool), .box w.heap.size [.slice D q d, .slice D' m' d', .slice E q f] 42]) (fun i _ => q - (intOf i).toNat)
  case atStart => exact ⟨0, rfl, Nat.zero_le _, fun j hj => by omega, H2⟩
  case round =>
    clear H2 a0 a1 a2
    obtain ⟨k, rfl, hk, hall, H⟩ := hrel
    obtain ⟨a0, a1, a2, -, -, -⟩ := H.box3 1 rfl
    by_cases hlt : k < q
    · obtain ⟨b, o, x, rfl, hbb, hx, q1⟩ := RdI.at_ hE hlt
      have g1 := H.ro q1 hbb
      by_cases c3 : x < 0 ∨ (q : Int) - 1 < x
      · have HF := Go.Lib.hid (mTab_no3 (t := t) (by omega) (handAt_no hx (by omega)))
        have HB := H.below
        clear hall
        go_wp2_with fail
        refine (l1In_no _ _ _ _ c3).mono ?_
        rintro e w5 ⟨rfl, hw5⟩
        obtain rfl := hw5
        clear c3
        go_wp2
        go_ret
        exact ⟨ret_b HF.out.symm, HB⟩
      obtain ⟨p, rfl⟩ := Int.eq_ofNat_of_zero_le (by omega : 0 ≤ x)
      have hp : p < q := by omega
      have i3 : (0 : Int) ≤ (p : Int) := by omega
      have i4 : (p : Int) < (q : Int) := by omega
      have i5 : (p : Int) ≤ (q : Int) - 1 := by omega
      obtain ⟨z0, zf⟩ := H.elem 0 rfl (j := p) (u := .bool ((t.hands.take k).contains (p : Int))) (by rw [List.getElem?_map, metT_at hp]; rfl)
      clear c3
      cases c5 : (t.hands.take k).contains (p : Int)
      · rw [c5] at z0
        have HA := Go.Lib.hid (hands_succ hall (handAt_yes hx i3 (by omega) c5))
        have HT := metT_succ (n := q) hx
        have H7 := H.putRow 0 rfl p (.bool true)
        simp only [List.set_cons_zero, ← List.map_set] at H7
        rw [← HT] at H7
        clear hall c5 HT
        go_wp2_with fail
        refine (l1In_yes _ _ _ _ i3 i5).mono ?_
        rintro e w5 ⟨rfl, hw5⟩
        obtain rfl := hw5
        go_wp2
        go_roundw
        case rel => exact ⟨k + 1, by go_num, by omega, HA.out, H7⟩
        case measure => simp [intOf]; omega
      · rw [c5] at z0
        have HF := Go.Lib.hid (mTab_no3 (t := t) (by omega) (handAt_met hx c5))
        have HB := H.below
        clear hall c5
        go_wp2_with fail
        refine (l1In_yes _ _ _ _ i3 i5).mono ?_
        rintro e w5 ⟨rfl, hw5⟩
        obtain rfl := hw5
        go_wp2
        go_ret
        exact ⟨ret_b HF.out.symm, HB⟩
    · have HA := Go.Lib.hid (fun j (hj : j < t.hands.length) => hall j (by omega))
      have hl : t.hands.length = t.store.cells.length := by omega
      have HF1 := fun ha => Go.Lib.hid (mTab_spec1 hl HA.out ha)
      have HF2 := fun ha => Go.Lib.hid (mTab_spec2 hl HA.out ha)
      clear hall hl
      go_wp2_with fail
      refine (l23Heap_any _ _ _ t (hh'.below H.below) hn hn2 hn3 hn4).mono ?_
      rintro e w3 ⟨u, x, rfl, ho, hb, hax⟩
      have HB := H.below.trans (hb.mono H.below.size)
      obtain ⟨cv, rvs, rv, rfl, H3⟩ := H.madeH ho hb
      obtain ⟨C, kC, rfl, -⟩ := H3.formC 0 rfl
      obtain ⟨R, kR, rfl, -⟩ := H3.formI 1 rfl
      have HOr := ho.rd
      cases ha : allIn t
      · have HF := HF1 ha
        clear hax HF1 HF2
        have H4 := H3.box [.slice C x.cells.length kC, .slice R x.roots.length kR] 27
        have HB4 := H4.below
        clear a0 a1 a2
        go_wp2
        go_ret
        exact ⟨ret_b HF.out.symm, HB4⟩
      · have HF := HF2 ha
        obtain rfl := hax ha
        clear hax HF1 HF2
        have H4 := H3.box [.slice C (tellH t).cells.length kC, .slice R (tellH t).roots.length kR] 27
        obtain ⟨b0, b1, -, -⟩ := H4.box2 0 rfl
        clear a0 a1 a2
        go_wp2_with fail
        refine (specHeapValid_any _ _ _ (tellH t) (HOr.below (below_alloc _ _))).mono ?_
        rintro e w4 ⟨rfl, hb4⟩
        have HB4 := (H4.call hb4).below
        go_wp2
        go_ret
        exact ⟨ret_b HF.out.symm, HB4⟩
end Go.Proofs.Ytnpehidhoekfcaa
