/- PairsKept, the program's and the reference's: both make mPairsKept, for every heap and pairs that can be read. -/
import Derived.Test.YtnpehidhoekfcaaPr
import Derived.Test.YtnpehidhoekfcaaRd
namespace Go.Proofs.Ytnpehidhoekfcaa
open Go.RowKit
abbrev PSt := List Bool × List Int
def pkStep (R : Nat → Bool) (st : PSt) (k : Nat) (p : Int × Int) : PSt := if R p.1.toNat && !(st.1.getD k false) then (st.1.set k true, st.2 ++ [p.2]) else st
def pkTo (R : Nat → Bool) (ps : List (Int × Int)) (st : PSt) : Nat → PSt
  | 0 => st
  | k + 1 => match ps[k]? with
    | some p => pkStep R (pkTo R ps st k) k p
    | none => pkTo R ps st k
noncomputable def pkRound (h : Hp) (ps : List (Int × Int)) (st : PSt) : PSt := pkTo (reachB h.cells st.2) ps st ps.length
noncomputable def pkIter (h : Hp) (ps : List (Int × Int)) (st : PSt) : Nat → PSt
  | 0 => st
  | t + 1 => pkRound h ps (pkIter h ps st t)
noncomputable def pkStart (h : Hp) (ps : List (Int × Int)) : PSt := (List.replicate ps.length false, h.roots)
noncomputable def mPairsKept (h : Hp) (ps : List (Int × Int)) : List Bool := if mPairsValid h ps then (pkIter h ps (pkStart h ps) (ps.length + 1)).1 else []
theorem mPk_no {h : Hp} {ps : List (Int × Int)} (h0 : mPairsValid h ps = false) : mPairsKept h ps = [] := by simp [mPairsKept, h0]
theorem mPk_yes {h : Hp} {ps : List (Int × Int)} (h0 : mPairsValid h ps = true) : mPairsKept h ps = (pkIter h ps (pkStart h ps) (ps.length + 1)).1 := by simp [mPairsKept, h0]
theorem mPairs_parts {h : Hp} {ps : List (Int × Int)} (h0 : mPairsValid h ps = true) : heapOk h = true ∧ ps.length ≤ 40 ∧ ∀ p ∈ ps, usedB h.cells p.1 = true ∧ usedB h.cells p.2 = true := by
  simp only [mPairsValid, pairOk, Bool.and_eq_true, decide_eq_true_eq, List.all_eq_true] at h0
  exact ⟨h0.1.1, h0.1.2, h0.2⟩
structure PK (h : Hp) (ps : List (Int × Int)) (st : PSt) : Prop where
  len : st.1.length = ps.length
  lead : ∀ r ∈ st.2, leadsB h.cells r = true
  room : st.2.length + falses st.1 = h.roots.length + ps.length
theorem PK.start {h : Hp} {ps : List (Int × Int)} (h0 : heapOk h = true) : PK h ps (pkStart h ps) := ⟨by simp [pkStart], (heapOk_leads h0).1, by simp [pkStart, falses_rep]⟩
theorem PK.step {h : Hp} {ps : List (Int × Int)} {R : Nat → Bool} {st : PSt} {k : Nat} {p : Int × Int} (hk : PK h ps st) (hp : leadsB h.cells p.2 = true) (hlt : k < ps.length) :
    PK h ps (pkStep R st k p) ∧ ((pkStep R st k p = st) ∨ (pkStep R st k p).2.length = st.2.length + 1) := by
  unfold pkStep
  split
  · rename_i hc
    simp only [Bool.and_eq_true, Bool.not_eq_true'] at hc
    have hkl : k < st.1.length := by rw [hk.len]; exact hlt
    have hf : st.1[k]? = some false := by
      rw [List.getElem?_eq_getElem hkl]
      have := hc.2
      simp only [List.getD, List.getElem?_eq_getElem hkl, Option.getD_some] at this
      rw [this]
    have := falses_set _ _ hf
    have := hk.room
    refine ⟨⟨by simp [hk.len], fun r hr => ?_, by simp; omega⟩, .inr (by simp)⟩
    rcases List.mem_append.1 hr with hr | hr
    · exact hk.lead r hr
    · rw [List.mem_singleton.1 hr]; exact hp
  · exact ⟨hk, .inl rfl⟩
theorem pkTo_succ {R : Nat → Bool} {ps : List (Int × Int)} {st : PSt} {k : Nat} {p : Int × Int} (hp : Hid (ps[k]? = some p)) : pkTo R ps st (k + 1) = pkStep R (pkTo R ps st k) k p := by
  rw [pkTo, hp.out]
theorem PK.to {h : Hp} {ps : List (Int × Int)} {R : Nat → Bool} {st : PSt} (hk : PK h ps st) (hp : ∀ p ∈ ps, leadsB h.cells p.2 = true) : ∀ k, k ≤ ps.length → PK h ps (pkTo R ps st k) ∧ (pkTo R ps st k = st ∨ st.2.length < (pkTo R ps st k).2.length)
  | 0, _ => ⟨hk, .inl rfl⟩
  | k + 1, hlt => by
    obtain ⟨a1, a2⟩ := PK.to (R := R) hk hp k (by omega)
    have hq := Go.Lib.hid (List.getElem?_eq_getElem (l := ps) (i := k) (by omega))
    rw [pkTo_succ hq]
    obtain ⟨b1, b2⟩ := a1.step (R := R) (hp _ (List.mem_of_getElem? hq.out)) (by omega : k < ps.length)
    refine ⟨b1, ?_⟩
    rcases b2 with b2 | b2 <;> rcases a2 with a2 | a2
    · left; rw [b2, a2]
    · right; rw [b2]; exact a2
    · right; rw [b2, a2]; omega
    · right; omega
theorem PK.round {h : Hp} {ps : List (Int × Int)} {st : PSt} (hk : PK h ps st) (hp : ∀ p ∈ ps, leadsB h.cells p.2 = true) : PK h ps (pkRound h ps st) ∧ (pkRound h ps st = st ∨ st.2.length < (pkRound h ps st).2.length) := hk.to hp _ (Nat.le_refl _)
theorem PK.iter {h : Hp} {ps : List (Int × Int)} {st : PSt} (hk : PK h ps st) (hp : ∀ p ∈ ps, leadsB h.cells p.2 = true) : ∀ t, PK h ps (pkIter h ps st t)
  | 0 => hk
  | t + 1 => ((PK.iter hk hp t).round hp).1
theorem pkIter_stable {h : Hp} {ps : List (Int × Int)} {st : PSt} {t : Nat} (hs : pkRound h ps (pkIter h ps st t) = pkIter h ps st t) : ∀ d, pkIter h ps st (t + d) = pkIter h ps st t
  | 0 => rfl
  | d + 1 => by rw [← Nat.add_assoc, pkIter, pkIter_stable hs d, hs]
theorem mPairsKept_len (h : Hp) (ps : List (Int × Int)) : (mPairsKept h ps).length ≤ 1048576 := by
  unfold mPairsKept
  split
  · rename_i h0
    obtain ⟨h1, h2, h3⟩ := mPairs_parts h0
    have := ((PK.start (ps := ps) h1).iter (fun p hp => (usedB_parts (h3 p hp).2).2.2.2) (ps.length + 1)).len
    omega
  · simp
/-- What the walk needs of one pair. -/
theorem pkStep_no1 {R : Nat → Bool} {st : PSt} {k : Nat} {x y : Int} (h : R x.toNat = false) : pkStep R st k (x, y) = st := by simp [pkStep, h]
theorem pkStep_no2 {R : Nat → Bool} {st : PSt} {k : Nat} {x y : Int} (h : Hid (st.1[k]? = some true)) : pkStep R st k (x, y) = st := by
  have : st.1.getD k false = true := by simp [List.getD, h.out]
  unfold pkStep
  rw [this]; simp
theorem pkStep_yes {R : Nat → Bool} {st : PSt} {k : Nat} {x y : Int} (h : R x.toNat = true) (h2 : Hid (st.1[k]? = some false)) : pkStep R st k (x, y) = (st.1.set k true, st.2 ++ [y]) := by
  have : st.1.getD k false = false := by simp [List.getD, h2.out]
  unfold pkStep
  rw [this]; simp [h]
set_option maxHeartbeats 3200000 in
set_option maxRecDepth 20000 in
theorem specPairsKept_any (w : World) (B B' : Nat) (v : Value) (h : Hp) (A : Option Addr) (n c : Nat) (ps : List (Int × Int)) (hh : RdH w B v h) (hr : RdP w B' A n c ps) :
    Calls Try.prog 32 #[v, .slice A n c] w (MadeB w (mPairsKept h ps)) := by
  have hh' := hh.top
  have hr := hr.top
  obtain ⟨D, m, d, D', m', d', rfl, hC, hR⟩ := hh.top
  have l3 := hC.le1; have l4 := hC.le2
  have l1 := hr.le1; have l2 := hr.le2
  have hm2 := hr.mx; have hcap2 := hr.cap
  have l5 := RdI.le1 hR; have l6 := RdI.le2 hR
  unfold maxLen at hm2
  obtain ⟨i0, hi, hz0, hz1, hz2⟩ := info_parts Try.infoBool
  have H1 := (Owns.nil w).box [.slice D m d, .slice D' m' d'] 27
  have H1' := H1.lit [] 4 zero_le_maxLen
  simp only [List.length_nil, World.size_alloc] at H1'
  obtain ⟨a0, a1, -, -⟩ := H1'.box2 1 rfl
  clear H1
  go_enter Try.func32, Try.ntmps32
  go_wp2_with fail
  refine (specPairsValid_any _ _ _ _ h _ _ _ ps (hh'.below H1'.below) (hr.below H1'.below)).mono ?_
  rintro e w1 ⟨rfl, hb1⟩
  have H2 := H1'.call hb1
  clear H1' hb1 a0 a1
  cases hy : mPairsValid h ps
  · have HF := Go.Lib.hid (mPk_no hy)
    clear hy
    go_wp2
    go_ret
    rw [HF.out]
    exact H2.toB 0 rfl
  · obtain ⟨s1, s2, s3⟩ := mPairs_parts hy
    obtain ⟨s4, s5⟩ := heapOk_small s1
    replace s5 := Nat.le_of_eq s5
    have HF := Go.Lib.hid (mPk_yes hy)
    have hPK := PK.start (ps := ps) s1
    have hlead : ∀ p ∈ ps, leadsB h.cells p.2 = true := fun p hp => (usedB_parts (s3 p hp).2).2.2.2
    have HV := Go.Lib.hid (heapOk_leads s1).2
    have H3 := H2.drop 1
    simp only [List.drop_succ_cons, List.drop_zero] at H3
    clear hy s1 H2
    go_wp2_with (at_make; refine wpList_make_full _ rfl _ _ _ rfl w1.heap.size 4 i0 (.bool false) 1 Try.underlying50 hi hz0 hz1 .i64 .i64 _ _ n rfl rfl rfl rfl (by rw [hz2]; omega) (by unfold maxLen; omega) (Nat.le_refl _) ?_)
    intro w2 hown hg
    have H3b := H3.mkB (by simpa using hown) hg
    obtain ⟨a0, a1, -, -⟩ := H3b.box2 1 rfl
    have n0 := keept a0 (below_alloc w2 (.cells #[] 3))
    have n1 := keept a1 (below_alloc w2 (.cells #[] 3))
    have H4 := H3b.litI [] zero_le_maxLen
    clear hown hg H3 H3b
    go_wp2_with (at_builtin; go_loud (refine wpList_pushO rfl (.tmp 19) (.tmp 21) rfl H4 0 rfl rfl rfl (hR.below H4.below) (by simp; omega) ?_; intro A3 k3 w3 H5))
    simp only [List.nil_append, List.set_cons_zero] at H5
    generalize hbo : w1.heap.size = bo at *
    clear a0 a1 n0 n1 H4
    have e0 : (pkIter h ps (pkStart h ps) 0).1 = List.replicate n false := by show List.replicate ps.length false = _; rw [show ps.length = n by omega]
    have H6 : Owns w.heap.size w w3 [.ints (.slice A3 h.roots.length k3) (pkIter h ps (pkStart h ps) 0).2, .row 4 1 (.slice (some ⟨bo, 0, none⟩) n n) n ((pkIter h ps (pkStart h ps) 0).1.map Value.bool), .box w.heap.size [.slice D m d, .slice D' m' d'] 27] := by
      rw [e0]; exact H5
    try simp only [List.nil_append]
    clear H5 e0
    go_loopw [6, 7] (fun v i wr => ∃ r : Nat, i = .int .i64 r ∧ r ≤ n + 1 ∧ Owns w.heap.size w wr [.ints v (pkIter h ps (pkStart h ps) r).2, .row 4 1 (.slice (some ⟨bo, 0, none⟩) n n) n ((pkIter h ps (pkStart h ps) r).1.map Value.bool), .box w.heap.size [.slice D m d, .slice D' m' d'] 27]) (fun _ i _ => n + 1 - (intOf i).toNat)
    case atStart => exact ⟨0, rfl, by omega, H6⟩
    case round =>
      clear H6
      obtain ⟨r, rfl, hr1, H⟩ := hrel
      have hPr := hPK.iter hlead r
      have HN : Hid (pkIter h ps (pkStart h ps) (r + 1) = pkTo (reachB h.cells (pkIter h ps (pkStart h ps) r).2) ps (pkIter h ps (pkStart h ps) r) ps.length) := Go.Lib.hid rfl
      by_cases hlt : r < n + 1
      · generalize pkIter h ps (pkStart h ps) r = st at *
        obtain ⟨A6, k6, rfl, hr6⟩ := H.formI 0 rfl
        obtain ⟨a0, a1, -, -⟩ := H.box2 2 rfl
        go_wp2_with fail
        refine (l7Reach_any _ _ _ _ h _ _ _ st.2 (hh'.below H.below) hr6 (by omega) hPr.lead HV.out).mono ?_
        rintro e w4 ⟨v4, rfl, ho4, hb4⟩
        have H7 : Owns w.heap.size w w4 (.bools v4 (reachL h.cells st.2) :: .ints (.slice A6 st.2.length k6) (pkTo (reachB h.cells st.2) ps st 0).2 :: .row 4 1 (.slice (some ⟨bo, 0, none⟩) n n) n ((pkTo (reachB h.cells st.2) ps st 0).1.map Value.bool) :: [.box w.heap.size [.slice D m d, .slice D' m' d'] 27]) := H.madeB ho4 hb4
        clear H ho4 hb4 hr6 a0 a1
        go_wp2_with fail
        go_loopw [6, 9] (fun v i wr => ∃ k : Nat, i = .int .i64 k ∧ k ≤ n ∧ Owns w.heap.size w wr (.bools v4 (reachL h.cells st.2) :: .ints v (pkTo (reachB h.cells st.2) ps st k).2 :: .row 4 1 (.slice (some ⟨bo, 0, none⟩) n n) n ((pkTo (reachB h.cells st.2) ps st k).1.map Value.bool) :: [.box w.heap.size [.slice D m d, .slice D' m' d'] 27])) (fun _ i _ => n - (intOf i).toNat)
        case atStart => exact ⟨0, rfl, Nat.zero_le _, H7⟩
        case round =>
          clear H7
          obtain ⟨k, rfl, hk, H⟩ := hrel
          have hPt := (hPr.to (R := reachB h.cells st.2) hlead k (by omega)).1
          by_cases hltk : k < n
          · obtain ⟨b, o, x, y, rfl, hbb, hx, q1, q2⟩ := hr.at_ hltk
            have g1 := H.ro q1 hbb
            have g2 := H.ro q2 hbb
            obtain ⟨hux, -⟩ := s3 (x, y) (List.mem_of_getElem? hx.out)
            obtain ⟨x0, x1, -, -⟩ := usedB_parts hux
            obtain ⟨q, rfl⟩ := Int.eq_ofNat_of_zero_le x0
            have hqm : q < h.cells.length := by simp at x1; omega
            have hqr := reachL_at (fr := st.2) hqm
            have hql : q < (reachL h.cells st.2).length := (List.getElem?_eq_some_iff.1 hqr).1
            obtain ⟨g, cc, rfl, hc1, hc2, hg1, hg2⟩ := H.rowAt 0 rfl (by omega)
            obtain ⟨z0, zf⟩ := H.elem 0 rfl (j := q) (u := .bool (reachB h.cells st.2 q)) (by rw [List.getElem?_map, hqr]; rfl)
            have HT := Go.Lib.hid (pkTo_succ (R := reachB h.cells st.2) (st := st) hx)
            have hkl : k < (pkTo (reachB h.cells st.2) ps st k).1.length := by rw [hPt.len]; omega
            have hsl : (pkTo (reachB h.cells st.2) ps st k).2.length ≤ 100 := by have := hPt.room; omega
            generalize pkTo (reachB h.cells st.2) ps st k = sk at *
            obtain ⟨A7, k7, rfl, -⟩ := H.formI 1 rfl
            obtain ⟨y0, yf⟩ := H.elem 2 rfl (j := k) (u := .bool sk.1[k]) (by rw [List.getElem?_map, List.getElem?_eq_getElem hkl]; rfl)
            have HK := Go.Lib.hid (List.getElem?_eq_getElem hkl)
            generalize sk.1[k] = bk at *
            clear hqr hux hkl
            cases hrb : reachB h.cells st.2 q
            · rw [hrb] at z0
              have HU : Hid (pkStep (reachB h.cells st.2) sk k ((q : Int), y) = sk) := Go.Lib.hid (pkStep_no1 (by simpa using hrb))
              clear hrb
              go_wp2
              go_roundw
              case rel => exact ⟨k + 1, by go_num, by omega, by rw [HT.out, HU.out]; exact H⟩
              case measure => simp [intOf]; omega
            rw [hrb] at z0
            cases bk
            · have HU : Hid (pkStep (reachB h.cells st.2) sk k ((q : Int), y) = (sk.1.set k true, sk.2 ++ [y])) := Go.Lib.hid (pkStep_yes (by simpa using hrb) HK)
              have H8 := H.putRow 2 rfl k (.bool true)
              simp only [List.set_cons_zero, List.set_cons_succ] at H8
              rw [show (sk.1.map Value.bool).set k (.bool true) = (sk.1.set k true).map Value.bool from by rw [List.map_set]] at H8
              have g3 := H8.ro q2 hbb
              have H9 := H8.alloc (.cells #[.int .i64 y] 3)
              clear hrb
              go_wp2_with (at_builtin; go_loud (refine wpList_pushO rfl (.tmp 56) (.tmp 62) rfl H9 1 rfl rfl rfl (rdI_new _ _ _ (by simp)) (by omega) ?_; intro A9 k9 w9 H10))
              simp only [List.set_cons_zero, List.set_cons_succ, List.length_append, List.length_cons, List.length_nil, Nat.zero_add] at H10
              go_roundw
              case rel => exact ⟨k + 1, by go_num, by omega, by rw [HT.out, HU.out]; exact H10⟩
              case measure => simp [intOf]; omega
            · have HU : Hid (pkStep (reachB h.cells st.2) sk k ((q : Int), y) = sk) := Go.Lib.hid (pkStep_no2 HK)
              clear hrb
              go_wp2
              go_roundw
              case rel => exact ⟨k + 1, by go_num, by omega, by rw [HT.out, HU.out]; exact H⟩
              case measure => simp [intOf]; omega
          · have hkn : k = ps.length := by omega
            have H8 := H.drop 1
            simp only [List.drop_succ_cons, List.drop_zero] at H8
            rw [hkn, ← HN.out] at H8
            clear H hkn
            go_wp2
            go_roundw
            case rel => exact ⟨r + 1, by go_num, by omega, H8⟩
            case measure => simp [intOf]; omega
      · have hrn : r = ps.length + 1 := by omega
        have hlen : (pkIter h ps (pkStart h ps) r).1.length = n := by rw [hPr.len]; omega
        rw [hrn, ← HF.out] at H
        rw [hrn, ← HF.out] at hlen
        have ho := H.own 1 rfl
        have hO : OwB wr w.heap.size wr.heap.size (.slice (some ⟨bo, 0, none⟩) n n) (mPairsKept h ps) := ⟨by rw [hlen]; exact ho, fun q e => (ho.lt q e).2⟩
        have HD := H.below
        clear H ho hrn hlen
        go_wp2
        go_ret
        exact ⟨_, rfl, hO, HD⟩
def chg (st sk : PSt) : Bool := decide (st.2.length < sk.2.length)
def gkOf (cb : Bool) (st : PSt) : Nat := match cb with
  | true => falses st.1 + 1
  | false => 0
def oneOf (cb : Bool) : Nat := match cb with
  | true => 0
  | false => 1
theorem chg_self (st : PSt) : chg st st = false := by simp [chg]
theorem chg_more {st sk : PSt} {n : Nat} (h : st.2.length ≤ sk.2.length) (hn : n = sk.2.length + 1) (bs : List Bool) (ls : List Int) (hl : ls.length = n) : chg st (bs, ls) = true := by simp [chg]; omega
set_option maxHeartbeats 3200000 in
set_option maxRecDepth 20000 in
theorem implPairsKept_any (w : World) (B B' : Nat) (v : Value) (h : Hp) (A : Option Addr) (n c : Nat) (ps : List (Int × Int)) (hh : RdH w B v h) (hr : RdP w B' A n c ps) :
    Calls Try.prog 30 #[v, .slice A n c] w (MadeB w (mPairsKept h ps)) := by
  have hh' := hh.top
  have hr := hr.top
  obtain ⟨D, m, d, D', m', d', rfl, hC, hR⟩ := hh.top
  have l1 := hr.le1; have l2 := hr.le2
  have hm2 := hr.mx; have hcap2 := hr.cap
  have l5 := RdI.le1 hR; have l6 := RdI.le2 hR
  unfold maxLen at hm2
  obtain ⟨i0, hi, hz0, hz1, hz2⟩ := info_parts Try.infoBool
  have H1 := (Owns.nil w).box [.slice D m d, .slice D' m' d'] 27
  go_enter Try.func30, Try.ntmps30
  go_wp2_with fail
  refine (implPairsValid_any _ _ _ _ h _ _ _ ps (hh'.below H1.below) (hr.below H1.below)).mono ?_
  rintro e w1 ⟨rfl, hb1⟩
  have H3 := H1.call hb1
  clear H1 hb1
  cases hy : mPairsValid h ps
  · have HF := Go.Lib.hid (mPk_no hy)
    clear hy
    go_wp2
    go_ret
    rw [HF.out]
    exact H3.noBools.toB 0 rfl
  · obtain ⟨s1, s2, s3⟩ := mPairs_parts hy
    obtain ⟨s4, s5⟩ := heapOk_small s1
    replace s5 := Nat.le_of_eq s5
    have HF := Go.Lib.hid (mPk_yes hy)
    have hPK := PK.start (ps := ps) s1
    have hlead : ∀ p ∈ ps, leadsB h.cells p.2 = true := fun p hp => (usedB_parts (s3 p hp).2).2.2.2
    clear hy s1
    go_wp2_with (at_make; refine wpList_make_full _ rfl _ _ _ rfl w1.heap.size 4 i0 (.bool false) 1 Try.underlying50 hi hz0 hz1 .i64 .i64 _ _ n rfl rfl rfl rfl (by rw [hz2]; omega) (by unfold maxLen; omega) (Nat.le_refl _) ?_)
    intro w2 hown hg
    have H4 := H3.mkB (by simpa using hown) hg
    clear hown hg H3
    obtain ⟨a0, a1, -, -⟩ := H4.box2 1 rfl
    go_wp2_with fail
    refine (clone_any _ _ _ _ _ h.roots (hR.below H4.below) (by omega)).mono ?_
    rintro e w3 ⟨v3, rfl, ho3, hb3⟩
    have H5 := H4.madeI ho3 hb3
    generalize hbo : w1.heap.size = bo at *
    clear a0 a1 H4 ho3 hb3
    have e0 : (pkIter h ps (pkStart h ps) 0).1 = List.replicate n false := by show List.replicate ps.length false = _; rw [show ps.length = n by omega]
    have H6 : Owns w.heap.size w w3 [.ints v3 (pkIter h ps (pkStart h ps) 0).2, .row 4 1 (.slice (some ⟨bo, 0, none⟩) n n) n ((pkIter h ps (pkStart h ps) 0).1.map Value.bool), .box w.heap.size [.slice D m d, .slice D' m' d'] 27] := by
      rw [e0]; exact H5
    have hroom0 : falses (pkIter h ps (pkStart h ps) 0).1 ≤ n := by rw [e0, falses_rep]; omega
    clear H5 e0
    go_wp2_with fail
    go_loopg [6, 7] (gkOf true (pkIter h ps (pkStart h ps) 0)) (fun gk v6 v7 wr => ∃ (t : Nat) (cb : Bool), v7 = .bool cb ∧ gk = gkOf cb (pkIter h ps (pkStart h ps) t) ∧ (cb = false → pkRound h ps (pkIter h ps (pkStart h ps) t) = pkIter h ps (pkStart h ps) t) ∧ t + falses (pkIter h ps (pkStart h ps) t).1 ≤ n + oneOf cb ∧ Owns w.heap.size w wr [.ints v6 (pkIter h ps (pkStart h ps) t).2, .row 4 1 (.slice (some ⟨bo, 0, none⟩) n n) n ((pkIter h ps (pkStart h ps) t).1.map Value.bool), .box w.heap.size [.slice D m d, .slice D' m' d'] 27])
    case atStart => exact ⟨0, true, rfl, rfl, fun e => (by cases e), by simp only [oneOf]; omega, H6⟩
    case round =>
      clear H6 hroom0
      obtain ⟨t, cb, rfl, rfl, hst, hroom, H⟩ := hrel
      have hPt := hPK.iter hlead t
      cases cb
      · have hE : (pkIter h ps (pkStart h ps) t).1 = mPairsKept h ps := by
          simp only [oneOf] at hroom
          rw [HF.out, show ps.length + 1 = t + (ps.length + 1 - t) by omega, pkIter_stable (hst rfl)]
        have hlen : (pkIter h ps (pkStart h ps) t).1.length = n := by rw [hPt.len]; omega
        rw [hE] at H hlen
        have ho := H.own 1 rfl
        have hO : OwB wr w.heap.size wr.heap.size (.slice (some ⟨bo, 0, none⟩) n n) (mPairsKept h ps) := ⟨by rw [hlen]; exact ho, fun q e => (ho.lt q e).2⟩
        have HD := H.below
        clear H ho hE hlen hst
        go_wp2
        go_ret
        exact ⟨_, rfl, hO, HD⟩
      clear hst
      have HN : Hid (pkIter h ps (pkStart h ps) (t + 1) = pkTo (reachB h.cells (pkIter h ps (pkStart h ps) t).2) ps (pkIter h ps (pkStart h ps) t) ps.length) := Go.Lib.hid rfl
      have HN2 : Hid (pkRound h ps (pkIter h ps (pkStart h ps) t) = pkIter h ps (pkStart h ps) (t + 1)) := Go.Lib.hid rfl
      have hPn := hPK.iter hlead (t + 1)
      have HRd := Go.Lib.hid (hPt.round hlead)
      generalize hst : pkIter h ps (pkStart h ps) t = st at *
      have HST := Go.Lib.hid hst
      clear hst
      obtain ⟨A6, k6, rfl, hr6⟩ := H.formI 0 rfl
      have HM := Go.Lib.hid (closM_lt h.cells (usedM h.cells) st.2)
      have HX := H.drew
      obtain ⟨b0, b1, -, -⟩ := HX.box2 2 rfl
      clear H
      go_wp2_with fail
      refine wp_region_tree (fun w' => w'.cell? ⟨w.heap.size, 0, none⟩ = some (.slice D m d) ∧ w'.cell? ⟨w.heap.size, 1, none⟩ = some (.slice D' m' d')) 6 [] (.take 0 (.take 1 (.take 2 (.alt 3 (.alt 4 (.take 5 (.done)) (.stop)) (.stop))))) (by kernel_rfl) (by kernel_rfl) (by kernel_rfl) (⟨b0, b1⟩) ?_
      simp only [fillT, List.getElem?_cons_zero, List.getElem?_cons_succ, Nat.reduceBEq]
      repeat (first
        | (with_reducible refine po_take (v := ?_) ?_ (fun w' hS' => ?_) ?_
           rotate_left
           · (go_simp; done)
           · ((try dsimp only at hS'); go_simp; try with_reducible rfl)
           simp only [Act.put, List.setIfInBounds_toArray, List.set_cons_zero, List.set_cons_succ])
        | (with_reducible refine po_skip ?_ ?_
           · (go_simp; done)
           simp only [Act.put, List.setIfInBounds_toArray, List.set_cons_zero, List.set_cons_succ]))
      with_reducible refine po_run ?_ (fun K hK => ?_) ?_
      · (go_simp; done)
      rotate_left
      · exact po_stop
      go_simp
      refine (usedSet_any _ _ _ h (hh'.below HX.below) (by omega)).mono ?_
      rintro e w4 ⟨rfl, hb⟩
      replace HX := HX.call hb
      replace b0 := keept b0 hb
      replace b1 := keept b1 hb
      refine hK.out _ _ (.inr (⟨b0, b1⟩)) ?_
      clear hK K
      with_reducible refine po_run ?_ (fun K hK => ?_) ?_
      · (go_simp; done)
      rotate_left
      · exact po_stop
      go_simp
      refine (closure_any _ _ _ _ h _ _ _ st.2 (usedM h.cells) (hh'.below HX.below) (HX.owI 0 rfl).rdI (usedM_lt _) fun c hc => usedN_lt (by rwa [usedM_bit (by omega)] at hc)).mono ?_
      rintro e w5 ⟨rfl, hb⟩
      replace HX := HX.call hb
      refine hK.out _ _ (.inr (⟨keept b0 hb, keept b1 hb⟩)) ?_
      clear hK K
      repeat (first
        | (with_reducible refine po_take (v := ?_) ?_ (fun w' hS' => ?_) ?_
           rotate_left
           · (go_simp; done)
           · ((try dsimp only at hS'); go_simp; try with_reducible rfl)
           simp only [Act.put, List.setIfInBounds_toArray, List.set_cons_zero, List.set_cons_succ])
        | (with_reducible refine po_skip ?_ ?_
           · (go_simp; done)
           simp only [Act.put, List.setIfInBounds_toArray, List.set_cons_zero, List.set_cons_succ]))
      refine po_done ?_
      clear b0 b1 hb hr6
      have HC0 : Hid (chg st (pkTo (reachB h.cells st.2) ps st 0) = false) := Go.Lib.hid (chg_self st)
      go_wp2_with fail
      go_loopw [6, 7, 29] (fun v6 v7 i wr => ∃ k : Nat, i = .int .i64 k ∧ k ≤ n ∧ v7 = .bool (chg st (pkTo (reachB h.cells st.2) ps st k)) ∧ Owns w.heap.size w wr [.ints v6 (pkTo (reachB h.cells st.2) ps st k).2, .row 4 1 (.slice (some ⟨bo, 0, none⟩) n n) n ((pkTo (reachB h.cells st.2) ps st k).1.map Value.bool), .box w.heap.size [.slice D m d, .slice D' m' d'] 27]) (fun _ _ i _ => n - (intOf i).toNat)
      case atStart => exact ⟨0, rfl, Nat.zero_le _, by rw [HC0.out], HX⟩
      case round =>
        clear HX
        obtain ⟨k, rfl, hk, rfl, H⟩ := hrel
        obtain ⟨hPs, hgr⟩ := hPt.to (R := reachB h.cells st.2) hlead k (by omega)
        have hge : st.2.length ≤ (pkTo (reachB h.cells st.2) ps st k).2.length := by
          rcases hgr with e | e
          · rw [e]; exact Nat.le_refl _
          · omega
        clear hgr
        by_cases hltk : k < n
        · obtain ⟨b, o, x, y, rfl, hbb, hx, q1, q2⟩ := hr.at_ hltk
          have g1 := H.ro q1 hbb
          have g2 := H.ro q2 hbb
          obtain ⟨hux, -⟩ := s3 (x, y) (List.mem_of_getElem? hx.out)
          obtain ⟨x0, -, -, -⟩ := usedB_parts hux
          have HB := Go.Lib.hid (has_reach (fr := st.2) (by omega : h.cells.length ≤ 64) x0)
          have HT := Go.Lib.hid (pkTo_succ (R := reachB h.cells st.2) (st := st) hx)
          have hkl : k < (pkTo (reachB h.cells st.2) ps st k).1.length := by rw [hPs.len]; omega
          have hsl : (pkTo (reachB h.cells st.2) ps st k).2.length ≤ 100 := by have := hPs.room; omega
          generalize pkTo (reachB h.cells st.2) ps st k = sk at *
          obtain ⟨A7, k7, rfl, -⟩ := H.formI 0 rfl
          have H2 := H.box [.int .i64 x, .int .i64 y] 57
          obtain ⟨y0, yf⟩ := H2.elem 2 rfl (j := k) (u := .bool sk.1[k]) (by rw [List.getElem?_map, List.getElem?_eq_getElem hkl]; rfl)
          obtain ⟨p0, p1, -, -⟩ := H2.box2 0 rfl
          have HK := Go.Lib.hid (List.getElem?_eq_getElem hkl)
          generalize sk.1[k] = bk at *
          clear hux hkl
          cases bk
          rotate_left
          · have HU : Hid (pkStep (reachB h.cells st.2) sk k (x, y) = sk) := Go.Lib.hid (pkStep_no2 HK)
            have H3 := H2.drop 1
            simp only [List.drop_succ_cons, List.drop_zero] at H3
            clear H H2
            go_wp2
            go_roundw
            case rel => exact ⟨k + 1, by go_num, by omega, by rw [HT.out, HU.out], by rw [HT.out, HU.out]; exact H3⟩
            case measure => simp [intOf]; omega
          clear H
          go_wp2_with fail
          refine (has_any _ x _ HM.out).mono ?_
          rintro e w6 ⟨rfl, hw6⟩
          obtain rfl := hw6
          rw [HB.out]
          cases hrb : reachB h.cells st.2 x.toNat
          · have HU : Hid (pkStep (reachB h.cells st.2) sk k (x, y) = sk) := Go.Lib.hid (pkStep_no1 hrb)
            have H3 := H2.drop 1
            simp only [List.drop_succ_cons, List.drop_zero] at H3
            clear H2 hrb
            go_wp2
            go_roundw
            case rel => exact ⟨k + 1, by go_num, by omega, by rw [HT.out, HU.out], by rw [HT.out, HU.out]; exact H3⟩
            case measure => simp [intOf]; omega
          · have HU : Hid (pkStep (reachB h.cells st.2) sk k (x, y) = (sk.1.set k true, sk.2 ++ [y])) := Go.Lib.hid (pkStep_yes hrb HK)
            have HC : Hid (chg st (sk.1.set k true, sk.2 ++ [y]) = true) := Go.Lib.hid (chg_more hge rfl _ _ (by simp))
            have H8 := H2.putRow 2 rfl k (.bool true)
            simp only [List.set_cons_zero, List.set_cons_succ] at H8
            rw [show (sk.1.map Value.bool).set k (.bool true) = (sk.1.set k true).map Value.bool from by rw [List.map_set]] at H8
            obtain ⟨p2, p3, -, -⟩ := H8.box2 0 rfl
            have H9 := (H8.drop 1).alloc (.cells #[.int .i64 y] 3)
            simp only [List.drop_succ_cons, List.drop_zero] at H9
            clear hrb H2
            go_wp2_with (at_builtin; go_loud (refine wpList_pushO rfl (.tmp 48) (.tmp 51) rfl H9 0 rfl rfl rfl (rdI_new _ _ _ (by simp)) (by omega) ?_; intro A9 k9 w9 H10))
            simp only [List.set_cons_zero, List.length_append, List.length_cons, List.length_nil, Nat.zero_add] at H10
            go_roundw
            case rel => exact ⟨k + 1, by go_num, by omega, by rw [HT.out, HU.out, HC.out], by rw [HT.out, HU.out]; exact H10⟩
            case measure => simp [intOf]; omega
        · have hkn : k = ps.length := by omega
          rw [hkn, ← HN.out] at H hge
          rw [hkn, ← HN.out]
          have hr2 := HRd.out.2
          rw [HN2.out] at hr2
          have hrm := hPn.room
          have hrt := hPt.room
          have hro : t + falses st.1 ≤ n := by simpa [oneOf] using hroom
          have hstep : pkIter h ps (pkStart h ps) (t + 1) = pkRound h ps st := HN2.out.symm
          cases hcb : chg st (pkIter h ps (pkStart h ps) (t + 1))
          · have hsame : pkIter h ps (pkStart h ps) (t + 1) = st := by
              rcases hr2 with e | e
              · exact e
              · exfalso; simp [chg] at hcb; omega
            have HS1 : Hid (pkRound h ps (pkIter h ps (pkStart h ps) (t + 1)) = pkIter h ps (pkStart h ps) (t + 1)) := Go.Lib.hid (by rw [hsame, ← hstep, hsame])
            have hfl : falses (pkIter h ps (pkStart h ps) (t + 1)).1 = falses st.1 := by rw [hsame]
            have HFl := Go.Lib.hid hfl
            clear hsame hfl hstep hr2 hkn hcb
            go_wp2
            go_roundg (gkOf false (pkIter h ps (pkStart h ps) (t + 1)))
            case measure => simp only [gkOf]; omega
            case rel => exact ⟨t + 1, false, rfl, rfl, fun _ => HS1.out, by have := HFl.out; simp only [oneOf]; omega, H⟩
          · have hlt : st.2.length < (pkIter h ps (pkStart h ps) (t + 1)).2.length := by simpa [chg] using hcb
            have hfl : falses (pkIter h ps (pkStart h ps) (t + 1)).1 < falses st.1 := by omega
            clear hstep hr2 hkn hcb hrm hrt
            go_wp2
            go_roundg (gkOf true (pkIter h ps (pkStart h ps) (t + 1)))
            case measure => simp only [gkOf]; omega
            case rel => exact ⟨t + 1, true, rfl, rfl, fun e => (by cases e), by simp only [oneOf]; omega, H⟩
end Go.Proofs.Ytnpehidhoekfcaa
