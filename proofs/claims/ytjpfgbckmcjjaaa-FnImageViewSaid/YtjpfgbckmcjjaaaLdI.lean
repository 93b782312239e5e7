/- LoadImage, the program's: it makes mLoadH, mLoadB and ldOk, for every list that can be read. -/
import Derived.Test.YtjpfgbckmcjjaaaLd
import Derived.Test.YtjpfgbckmcjjaaaZ0
namespace Go.Proofs.Ytjpfgbckmcjjaaa
open Go.RowKit
/-- A call makes a heap, and tells a number and a truth value. -/
def MadeHIB (w : World) (h : Hp) (n : Int) (b : Bool) (e : Ending) (w' : World) : Prop :=
  ∃ cv rvs rv, e = .returned (.tuple #[.agg #[cv, rv], .int .i64 n, .bool b]) ∧ Owns w.heap.size w w' [.cells cv rvs h.cells, .ints rv h.roots]
theorem RdI.len0 {w : World} {B : Nat} {A : Option Addr} {n c : Nat} {xs : List Int} (h : RdI w B A n c xs) : n = xs.length := by have := RdI.le1 h; have := RdI.le2 h; omega
theorem RdI.nilAny (w : World) (B : Nat) (A : Option Addr) (c : Nat) (hc : c ≤ maxLen) : RdI w B A 0 c [] := ⟨rfl, Nat.zero_le _, hc, fun h => by omega⟩
theorem RdI.tail {w : World} {B b o n c : Nat} {x : Int} {xs : List Int} (h : RdI w B (some ⟨b, o, none⟩) n c (x :: xs)) : RdI w B (some ⟨b, o + 1, none⟩) (n - 1) (c - 1) xs := by
  have hl := RdI.len0 h
  have hc := h.cap
  have hm := h.mx
  simp only [List.length_cons] at hl
  refine ⟨by simp; omega, by omega, by omega, fun hn => ?_⟩
  obtain ⟨b2, o2, hA, hlt, hcc⟩ := h.rd (by omega)
  injection hA with hA; injection hA with e1 e2; subst e1 e2
  refine ⟨b, o + 1, rfl, hlt, fun j u hj => ?_⟩
  have := hcc (j + 1) u (by simpa using hj)
  rw [show o + 1 + j = o + (j + 1) by omega]; exact this
set_option maxHeartbeats 1600000 in
theorem next_own {lo : Nat} {w0 w : World} {M : List OB} {g : Nat} {base : Int} {A : Option Addr} {n c : Nat} {bad : Bool} (h : Owns lo w0 w (.box g [.int .i64 base, .slice A n c, .bool bad] 102 :: M)) {ys : List Int} (hr : RdI w0 lo A n c ys) :
    Calls Try.prog 79 #[.pointer (some ⟨g, 0, none⟩)] w fun e w' => e = .returned (.int .i64 (ys.getD 0 0)) ∧ ∃ A' n' c', RdI w0 lo A' n' c' (ys.drop 1) ∧ Owns lo w0 w' (.box g [.int .i64 base, .slice A' n' c', .bool (bad || decide (n = 0))] 102 :: M) := by
  have hl := RdI.len0 hr
  obtain ⟨a0, a1, a2, f0, f1, f2⟩ := h.box3 0 rfl
  cases ys with
  | nil =>
    simp only [List.length_nil] at hl
    subst hl
    have H2 := h.putBox 0 rfl 2 (.bool true)
    simp only [List.set_cons_zero, List.set_cons_succ] at H2
    have HS := Go.Lib.hid (And.intro hr H2)
    clear hr H2
    go_enter Try.func79, Try.ntmps79
    go_wp2
    go_ret
    exact ⟨rfl, _, _, _, HS.out.1, by simpa using HS.out.2⟩
  | cons x xs =>
    simp only [List.length_cons] at hl
    obtain ⟨b, o, x', rfl, hbb, hx, q1⟩ := RdI.at_ hr (k := 0) (by omega)
    have hx' : x = x' := by have := hx.out; simpa using this
    subst hx'
    have g1 := h.ro q1 hbb
    have hm := hr.mx
    have hcap := hr.cap
    unfold maxLen at hm
    simp only [Nat.add_zero] at g1
    have hn0 : decide (n = 0) = false := by simp; omega
    by_cases c1 : c = 1
    · subst c1
      obtain rfl : n = 1 := by omega
      obtain rfl : xs = [] := List.length_eq_zero_iff.1 (by omega)
      have H2 := fun (A : Option Addr) => h.putBox 0 rfl 1 (.slice A 0 0)
      simp only [List.set_cons_zero, List.set_cons_succ] at H2
      have HS := Go.Lib.hid H2
      have HR := Go.Lib.hid (fun (A : Option Addr) => RdI.nilAny w0 lo A 0 (Nat.zero_le _))
      clear hr H2 hx hl hcap hm
      go_enter Try.func79, Try.ntmps79
      go_wp2
      go_ret
      exact ⟨rfl, _, _, _, HR.out _, by simpa using HS.out _⟩
    · have HR := Go.Lib.hid (RdI.tail hr)
      have H2 := h.putBox 0 rfl 1 (.slice (some ⟨b, o + 1, none⟩) (n - 1) (c - 1))
      simp only [List.set_cons_zero, List.set_cons_succ] at H2
      have HS := Go.Lib.hid H2
      have f1 : (1 : Int) ≤ (c : Int) := by omega
      have f2 : (1 : Int) ≤ (n : Int) := by omega
      have f3 : 0 < n := by omega
      clear hr H2 hx hl
      go_enter Try.func79, Try.ntmps79
      go_wp2
      go_ret
      exact ⟨rfl, _, _, _, HR.out, by simpa [hn0] using HS.out⟩
set_option maxHeartbeats 1600000 in
theorem refs_own {lo : Nat} {w0 w : World} {M : List OB} {g : Nat} {base : Int} {A : Option Addr} {n c : Nat} {bad : Bool} (h : Owns lo w0 w (.box g [.int .i64 base, .slice A n c, .bool bad] 102 :: M)) {ys : List Int} (hr : RdI w0 lo A n c ys) (m : Nat) (hm : m ≤ 4) :
    Calls Try.prog 80 #[.pointer (some ⟨g, 0, none⟩), .int .i64 m] w fun e w' => ∃ v A' n' c' bad', e = .returned v ∧ RdI w0 lo A' n' c' (ys.drop m) ∧ Owns lo w0 w' (.ints v (refsW base m ys) :: .box g [.int .i64 base, .slice A' n' c', .bool bad'] 102 :: M) := by
  have H1 := h.litI [] zero_le_maxLen
  simp only [List.length_nil] at H1
  go_enter Try.func80, Try.ntmps80
  go_wp2_with fail
  go_loopw [5, 9] (fun v i wr => ∃ (k : Nat) (A' : Option Addr) (n' c' : Nat) (bad' : Bool), i = .int .i64 k ∧ k ≤ m ∧ RdI w0 lo A' n' c' (ys.drop k) ∧ Owns lo w0 wr (.ints v (refsW base k ys) :: .box g [.int .i64 base, .slice A' n' c', .bool bad'] 102 :: M)) (fun _ i _ => m - (intOf i).toNat)
  case atStart => exact ⟨0, A, n, c, bad, rfl, Nat.zero_le _, hr, H1⟩
  case round =>
    clear H1 hr h
    obtain ⟨k, A', n', c', bad', rfl, hk, hr, H⟩ := hrel
    by_cases hlt : k < m
    · have HU := refsW_succ base k ys
      have hl : (refsW base k ys).length ≤ 4 := by rw [refsW_len]; omega
      have e0 : (ys.drop k).getD 0 0 = ys.getD k 0 := by simp [List.getD_eq_getElem?_getD]
      have HD := Go.Lib.hid (show (ys.drop k).drop 1 = ys.drop (k + 1) from by rw [List.drop_drop])
      generalize refsW base k ys = X at *
      go_wp2_with fail
      refine (next_own H.swap hr).mono ?_
      rintro e w1 ⟨rfl, A2, n2, c2, hr2, H2⟩
      rw [HD.out] at hr2
      rw [e0]
      have HR := Go.Lib.hid hr2
      generalize ys.getD k 0 = x at *
      clear e0 hr hr2 H
      replace H2 := H2.swap
      obtain ⟨a0, a1, a2, -, -, -⟩ := H2.box3 1 rfl
      obtain ⟨C5, k5, rfl, -⟩ := H2.formI 0 rfl
      by_cases c0 : x = 0
      · subst c0
        have HV : loadW base 0 = -1 := by unfold loadW; rw [if_pos rfl]; unfold wrap64; decide
        rw [HV] at HU
        have HX := Go.Lib.hid HU
        clear HU HV
        have H4 := H2.alloc (.cells #[.int .i64 (-1)] 3)
        go_wp2_with (at_builtin; go_loud (refine wpList_pushO rfl (.tmp 21) (.tmp 24) rfl H4 0 rfl rfl rfl (rdI_new _ _ _ (by simp)) (by omega) ?_; intro A3 k3 w3 H5))
        simp only [List.set_cons_zero, List.length_append, List.length_cons, List.length_nil, Nat.zero_add] at H5
        go_roundw
        case rel => exact ⟨k + 1, _, _, _, _, by go_num, by omega, HR.out, by rw [HX.out]; exact H5⟩
        case measure => simp [intOf]; omega
      · have HV : loadW base x = wrap64 (wrap64 (x - base) - 1) := by unfold loadW; rw [if_neg c0]
        rw [HV] at HU
        have HX := Go.Lib.hid HU
        clear HU HV
        have H4 := H2.alloc (.cells #[.int .i64 (wrap64 (wrap64 (x - base) - 1))] 3)
        go_wp2_with (at_builtin; go_loud (refine wpList_pushO rfl (.tmp 21) (.tmp 24) rfl H4 0 rfl rfl rfl (rdI_new _ _ _ (by simp)) (by omega) ?_; intro A3 k3 w3 H5))
        simp only [List.set_cons_zero, List.length_append, List.length_cons, List.length_nil, Nat.zero_add] at H5
        go_roundw
        case rel => exact ⟨k + 1, _, _, _, _, by go_num, by omega, HR.out, by rw [HX.out]; exact H5⟩
        case measure => simp [intOf]; omega
    · obtain rfl : k = m := by omega
      have HS := Go.Lib.hid (And.intro hr H)
      clear hr H
      go_wp2
      go_ret
      exact ⟨_, _, _, _, _, rfl, HS.out.1, HS.out.2⟩
theorem sameInts_any (w : World) (B B' : Nat) (A A' : Option Addr) (n c n' c' : Nat) (xs ys : List Int) (hr : RdI w B A n c xs) (hs : RdI w B' A' n' c' ys) :
    Calls Try.prog 57 #[.slice A n c, .slice A' n' c'] w fun e w' => e = .returned (.bool (decide (xs = ys))) ∧ Below w.heap.size w w' := by
  have hr := hr.top
  have hs := hs.top
  have l1 := RdI.len0 hr
  have l2 := RdI.len0 hs
  have m1 := Nat.le_trans hr.cap hr.mx
  have m2 := Nat.le_trans hs.cap hs.mx
  unfold maxLen at m1 m2
  go_enter Try.func57, Try.ntmps57
  by_cases c0 : n = n'
  rotate_left
  · have HF : Hid (decide (xs = ys) = false) := Go.Lib.hid (decide_eq_false fun e => c0 (by rw [l1, l2, e]))
    have k1 : ((n : Int) != (n' : Int)) = true := by simp; omega
    go_wp2
    go_ret
    exact ⟨ret_b HF.out.symm, Below.refl _ _⟩
  subst c0
  go_wp2_with fail
  go_loopw [13] (fun i wr => ∃ k : Nat, i = .int .i64 k ∧ k ≤ n ∧ xs.take k = ys.take k ∧ Below w.heap.size w wr) (fun i _ => n - (intOf i).toNat)
  case atStart => exact ⟨0, rfl, Nat.zero_le _, rfl, Below.refl _ _⟩
  case round =>
    obtain ⟨k, rfl, hk, he, hb⟩ := hrel
    by_cases hlt : k < n
    · obtain ⟨b, o, x, rfl, hbb, hx, q1⟩ := RdI.at_ hr hlt
      obtain ⟨b', o', y, rfl, hbb', hy, q2⟩ := RdI.at_ hs hlt
      have g1 := keepd (keept q1 hb) (Below.refl _ _)
      have g2 := keepd (keept q2 hb) (Below.refl _ _)
      by_cases c1 : x = y
      · subst c1
        have HE := Go.Lib.hid (show xs.take (k + 1) = ys.take (k + 1) from by rw [take_snoc' hx, take_snoc' hy, he])
        clear he
        go_wp2_with fail
        refine wp_region_tree (fun w' => w'.cell? ⟨b, o + k, none⟩ = some (.int .i64 x) ∧ w'.cell? ⟨b', o' + k, none⟩ = some (.int .i64 x)) 9 [] (.take 0 (.take 1 (.take 2 (.take 3 (.take 4 (.take 5 (.take 6 (.take 7 (.take 8 (.done)))))))))) (by kernel_rfl) (by kernel_rfl) (by kernel_rfl) (⟨g1, g2⟩) ?_
        simp only [fillT, List.getElem?_cons_zero, List.getElem?_cons_succ]
        repeat (first
          | (with_reducible refine po_take (v := ?_) ?_ (fun w' hS' => ?_) ?_
             rotate_left
             · (go_simp; done)
             · ((try dsimp only at hS'); go_simp; try with_reducible rfl)
             simp only [Act.put, List.setIfInBounds_toArray, List.set_cons_zero, List.set_cons_succ])
          | (with_reducible refine po_skip ?_ ?_
             · (go_simp; done)
             simp only [Act.put, List.setIfInBounds_toArray, List.set_cons_zero, List.set_cons_succ]))
        refine po_done ?_
        go_wp2
        go_roundw
        case rel => exact ⟨k + 1, by go_num, by omega, HE.out, hb.drew⟩
        case measure => simp [intOf]; omega
      · have HF : Hid (decide (xs = ys) = false) := Go.Lib.hid (decide_eq_false fun e => c1 (by have h1 := hx.out; rw [e, hy.out] at h1; injection h1 with h1; exact h1.symm))
        have k1 : (x != y) = true := by simp; exact c1
        clear he
        go_wp2_with fail
        refine wp_region_tree (fun w' => w'.cell? ⟨b, o + k, none⟩ = some (.int .i64 x) ∧ w'.cell? ⟨b', o' + k, none⟩ = some (.int .i64 y)) 9 [] (.take 0 (.take 1 (.take 2 (.take 3 (.take 4 (.take 5 (.take 6 (.take 7 (.take 8 (.done)))))))))) (by kernel_rfl) (by kernel_rfl) (by kernel_rfl) (⟨g1, g2⟩) ?_
        simp only [fillT, List.getElem?_cons_zero, List.getElem?_cons_succ]
        repeat (first
          | (with_reducible refine po_take (v := ?_) ?_ (fun w' hS' => ?_) ?_
             rotate_left
             · (go_simp; done)
             · ((try dsimp only at hS'); go_simp; try with_reducible rfl)
             simp only [Act.put, List.setIfInBounds_toArray, List.set_cons_zero, List.set_cons_succ])
          | (with_reducible refine po_skip ?_ ?_
             · (go_simp; done)
             simp only [Act.put, List.setIfInBounds_toArray, List.set_cons_zero, List.set_cons_succ]))
        refine po_done ?_
        go_wp2
        go_ret
        exact ⟨ret_b HF.out.symm, hb.drew⟩
    · have HF : Hid (decide (xs = ys) = true) := Go.Lib.hid (decide_eq_true (by rwa [List.take_of_length_le (by omega), List.take_of_length_le (by omega)] at he))
      clear he
      go_wp2
      go_ret
      exact ⟨ret_b HF.out.symm, hb⟩
theorem ldSt_succ (l : List Int) (k : Nat) : ldSt l (k + 1) = stepI (ldBase l) (ldSt l k) := rfl
theorem stepI_no {b : Int} {ys : List Int} {cs : List Cel} (h : ys.getD 0 0 ≤ 0 ∨ 4 < ys.getD 0 0) : stepI b (ys, cs) = (ys.drop 1, cs ++ [noCel]) := by
  unfold stepI; rw [if_neg (by simp only; omega)]
theorem stepI_yes {b : Int} {ys : List Int} {cs : List Cel} {m : Nat} (h : ys.getD 0 0 = (m : Int) + 1) (hm : m ≤ 3) : stepI b (ys, cs) = ((ys.drop 2).drop m, cs ++ [⟨true, ys.getD 1 0, refsW b m (ys.drop 2)⟩]) := by
  have e : (ys.getD 0 0).toNat = m + 1 := by omega
  unfold stepI
  simp only
  rw [if_pos (by omega), e, Nat.add_sub_cancel, List.drop_drop, show 2 + m = m + 1 + 1 by omega]
set_option maxHeartbeats 3200000 in
set_option maxRecDepth 20000 in
theorem implLoadImage_any (w : World) (B : Nat) (A : Option Addr) (n c : Nat) (xs : List Int) (hr : RdI w B A n c xs) (hI : ∀ x ∈ xs, I64 x) :
    Calls Try.prog 30 #[.slice A n c] w (MadeHIB w (mLoadH xs) (mLoadB xs) (ldOk xs)) := by
  have hr := hr.top
  have hla := Nat.le_of_eq (RdI.len0 hr); have hlb := Nat.le_of_eq (RdI.len0 hr).symm
  have hIb : I64 (ldBase xs) := by
    unfold ldBase
    cases xs with
    | nil => simp [I64]
    | cons x xs => exact hI x (List.mem_cons_self ..)
  clear hI
  have HR0 := Go.Lib.hid hr
  have H1 := ((Owns.nil w).box [.slice none 0 0, .slice none 0 0] 26).box [.int .i64 0, .slice A n c, .bool false] 102
  simp only [World.size_alloc] at H1
  go_enter Try.func30, Try.ntmps30
  go_wp2_with fail
  refine (next_own H1 hr).mono ?_
  rintro e w1 ⟨rfl, A1, n1, c1, hr1, H2⟩
  rw [show xs.getD 0 0 = ldBase xs from rfl]
  have hl1a := RdI.le1 hr1; have hl1b := RdI.le2 hr1
  obtain ⟨a0, a1, a2, a3, a4, a5⟩ := H2.box3 0 rfl
  have H3 := H2.putBox 0 rfl 0 (.int .i64 (ldBase xs))
  simp only [List.set_cons_zero] at H3
  clear H1 H2 hr
  go_wp2_with fail
  refine (next_own H3 hr1).mono ?_
  rintro e w2 ⟨rfl, A2, n2, c2, hr2, H4⟩
  rw [show (xs.drop 1).getD 0 0 = ldN xs by simp [ldN, List.getD_eq_getElem?_getD]]
  rw [List.drop_drop] at hr2
  have HR2 := Go.Lib.hid hr2
  clear H3 hr1 hr2 a0 a1 a2 a3 a4 a5
  by_cases q1 : xs.length < 2
  · have HF := Go.Lib.hid (ldOk_no1 (l := xs) (by omega))
    have e1 : (false || decide (n = 0) || decide (n1 = 0)) = true := by
      simp only [List.length_drop] at hl1a hl1b
      rcases Nat.eq_zero_or_pos n with h | h
      · simp [h]
      · have : n1 = 0 := by omega
        simp [this]
    rw [e1] at H4
    obtain ⟨a0, a1, a2, -, -, -⟩ := H4.box3 0 rfl
    clear hla hlb hl1a hl1b e1 q1
    obtain ⟨b0, b1, b2, b3⟩ := H4.box2 1 rfl
    have HZ := (((H4.putBox 1 rfl 0 (.slice none 0 0)).putBox 1 rfl 1 (.slice none 0 0)).noInts).noCells
    simp only [List.set_cons_zero, List.set_cons_succ] at HZ
    obtain ⟨z0, z1, -, -⟩ := HZ.box2 3 rfl
    have HS : Hid (MadeHIB w (mLoadH xs) (mLoadB xs) (ldOk xs) (.returned (.tuple #[.agg #[.slice none 0 0, .slice none 0 0], .int .i64 0, .bool false])) _) := Go.Lib.hid (by rw [HF.out, (mLoad_no HF.out).1, (mLoad_no HF.out).2]; exact ⟨_, [], _, rfl, HZ.take 2⟩)
    clear HZ H4
    go_wp2
    exact bodyPost_ret (v := .tuple #[.agg #[.slice none 0 0, .slice none 0 0], .int .i64 0, .bool false]) (by simp [results, Try.results30, go_sem, z0, z1]) rfl HS.out
  have e1 : (false || decide (n = 0) || decide (n1 = 0)) = false := by
    simp only [List.length_drop] at hl1a hl1b
    have h1 : decide (n = 0) = false := by simp; omega
    have h2 : decide (n1 = 0) = false := by simp; omega
    rw [h1, h2]; rfl
  rw [e1] at H4
  obtain ⟨a0, a1, a2, -, -, -⟩ := H4.box3 0 rfl
  clear hl1a hl1b e1
  go_wp2_with fail
  refine (isBase_any (ldBase xs) _).mono ?_
  rintro e w3 ⟨rfl, hw3⟩
  obtain rfl := hw3
  cases hb : baseOk (ldBase xs)
  · have HF := Go.Lib.hid (ldOk_no2 hb)
    clear hb hla hlb q1
    obtain ⟨b0, b1, b2, b3⟩ := H4.box2 1 rfl
    have HZ := (((H4.putBox 1 rfl 0 (.slice none 0 0)).putBox 1 rfl 1 (.slice none 0 0)).noInts).noCells
    simp only [List.set_cons_zero, List.set_cons_succ] at HZ
    obtain ⟨z0, z1, -, -⟩ := HZ.box2 3 rfl
    have HS : Hid (MadeHIB w (mLoadH xs) (mLoadB xs) (ldOk xs) (.returned (.tuple #[.agg #[.slice none 0 0, .slice none 0 0], .int .i64 0, .bool false])) _) := Go.Lib.hid (by rw [HF.out, (mLoad_no HF.out).1, (mLoad_no HF.out).2]; exact ⟨_, [], _, rfl, HZ.take 2⟩)
    clear HZ H4
    go_wp2
    exact bodyPost_ret (v := .tuple #[.agg #[.slice none 0 0, .slice none 0 0], .int .i64 0, .bool false]) (by simp [results, Try.results30, go_sem, z0, z1]) rfl HS.out
  by_cases q2 : ldN xs < 0
  · have HF := Go.Lib.hid (ldOk_no3 (.inl q2))
    clear hb hla hlb q1
    obtain ⟨b0, b1, b2, b3⟩ := H4.box2 1 rfl
    have HZ := (((H4.putBox 1 rfl 0 (.slice none 0 0)).putBox 1 rfl 1 (.slice none 0 0)).noInts).noCells
    simp only [List.set_cons_zero, List.set_cons_succ] at HZ
    obtain ⟨z0, z1, -, -⟩ := HZ.box2 3 rfl
    have HS : Hid (MadeHIB w (mLoadH xs) (mLoadB xs) (ldOk xs) (.returned (.tuple #[.agg #[.slice none 0 0, .slice none 0 0], .int .i64 0, .bool false])) _) := Go.Lib.hid (by rw [HF.out, (mLoad_no HF.out).1, (mLoad_no HF.out).2]; exact ⟨_, [], _, rfl, HZ.take 2⟩)
    clear HZ H4
    go_wp2
    exact bodyPost_ret (v := .tuple #[.agg #[.slice none 0 0, .slice none 0 0], .int .i64 0, .bool false]) (by simp [results, Try.results30, go_sem, z0, z1]) rfl HS.out
  by_cases q3 : 40 < ldN xs
  · have HF := Go.Lib.hid (ldOk_no3 (.inr q3))
    clear hb hla hlb q1
    obtain ⟨b0, b1, b2, b3⟩ := H4.box2 1 rfl
    have HZ := (((H4.putBox 1 rfl 0 (.slice none 0 0)).putBox 1 rfl 1 (.slice none 0 0)).noInts).noCells
    simp only [List.set_cons_zero, List.set_cons_succ] at HZ
    obtain ⟨z0, z1, -, -⟩ := HZ.box2 3 rfl
    have HS : Hid (MadeHIB w (mLoadH xs) (mLoadB xs) (ldOk xs) (.returned (.tuple #[.agg #[.slice none 0 0, .slice none 0 0], .int .i64 0, .bool false])) _) := Go.Lib.hid (by rw [HF.out, (mLoad_no HF.out).1, (mLoad_no HF.out).2]; exact ⟨_, [], _, rfl, HZ.take 2⟩)
    clear HZ H4
    go_wp2
    exact bodyPost_ret (v := .tuple #[.agg #[.slice none 0 0, .slice none 0 0], .int .i64 0, .bool false]) (by simp [results, Try.results30, go_sem, z0, z1]) rfl HS.out
  obtain ⟨N, hN⟩ := Int.eq_ofNat_of_zero_le (by omega : 0 ≤ ldN xs)
  have HN := Go.Lib.hid (show (ldN xs).toNat = N by omega)
  rw [hN] at q3 ⊢
  have HB := Go.Lib.hid hb
  have q4 : N ≤ 40 := by omega
  clear hN hb q2 q3
  go_wp2_with fail
  refine (refs_own H4 HR2.out 4 (Nat.le_refl _)).mono ?_
  rintro e w4 ⟨v, A3, n3, c3, bad3, rfl, hr3, H5⟩
  rw [List.drop_drop] at hr3
  have HE : Hid (refsW (ldBase xs) 4 (xs.drop 2) = (ldHeap xs).roots) := Go.Lib.hid rfl
  rw [HE.out] at H5
  obtain ⟨R, hR⟩ : ∃ R, R = (ldHeap xs).roots := ⟨_, rfl⟩
  rw [← hR] at H5
  have HRR := Go.Lib.hid hR
  clear hR H4 a0 a1 a2 HR2
  obtain ⟨R1, k1, rfl, -⟩ := H5.formI 0 rfl
  have H6 := ((H5.box [.slice none 0 0, .slice R1 R.length k1] 26).noCells).places [3, 0, 1, 2, 4] (by decide) (by simp); simp only [List.filterMap_cons, List.filterMap_nil, List.getElem?_cons_zero, List.getElem?_cons_succ] at H6
  have h0 : ldSt xs 0 = (xs.drop 6, []) := rfl
  clear H5
  go_wp2_with fail
  go_loopw [45] (fun i wr => ∃ (k : Nat) (cv : Value) (rvs : List Value) (A' : Option Addr) (n' c' : Nat) (bad' : Bool), i = .int .i64 k ∧ k ≤ N ∧ RdI w w.heap.size A' n' c' (ldSt xs k).1 ∧ Owns w.heap.size w wr [.box (w.heap.size + 1) [.int .i64 (ldBase xs), .slice A' n' c', .bool bad'] 102, .cells cv rvs (ldSt xs k).2, .box w4.heap.size [cv, .slice R1 R.length k1] 26, .ints (.slice R1 R.length k1) R, .box w.heap.size [.slice none 0 0, .slice none 0 0] 26]) (fun i _ => N - (intOf i).toNat)
  case atStart => exact ⟨0, _, [], A3, n3, c3, bad3, rfl, Nat.zero_le _, hr3, H6⟩
  case round =>
    clear H6 hr3 h0
    obtain ⟨k, cv, rvs, A', n', c', bad', rfl, hk, hr, H⟩ := hrel
    have HRR2 := Go.Lib.hid hr
    by_cases hlt : k < N
    · have hlen := stI_len (ldBase xs) (xs.drop 6) k
      have hl2 : (ldSt xs k).2.length ≤ 40 := by unfold ldSt; omega
      have HT := ldSt_succ xs k
      obtain ⟨ys, cs, hst⟩ : ∃ ys cs, ldSt xs k = (ys, cs) := ⟨_, _, rfl⟩
      rw [hst] at HT hl2 H hr
      simp only at H hr hl2
      clear hst hlen HRR2
      have H7 := (H.box [.bool false, .int .i64 0, .slice none 0 0] 40).places [1, 0, 2, 3, 4, 5] (by decide) (by simp); simp only [List.filterMap_cons, List.filterMap_nil, List.getElem?_cons_zero, List.getElem?_cons_succ] at H7
      clear H
      go_wp2_with fail
      refine (next_own H7 hr).mono ?_
      rintro e w5 ⟨rfl, A5, n5, c5, hr5, H8⟩
      clear H7 hr
      have H10 : Hid (∀ x : Int, x ≤ 0 ∨ 4 < x → ys.getD 0 0 = x → ldSt xs (k + 1) = (ys.drop 1, cs ++ [noCel])) := Go.Lib.hid fun x h1 h2 => by rw [HT]; exact stepI_no (by omega)
      have H11 : Hid (∀ m : Nat, m ≤ 3 → ys.getD 0 0 = (m : Int) + 1 → ldSt xs (k + 1) = ((ys.drop 2).drop m, cs ++ [⟨true, ys.getD 1 0, refsW (ldBase xs) m (ys.drop 2)⟩])) := Go.Lib.hid fun m h1 h2 => by rw [HT]; exact stepI_yes h2 h1
      clear HT
      generalize hx : ys.getD 0 0 = x at *
      have HX := Go.Lib.hid hx
      clear hx
      by_cases p1 : x ≤ 0 ∨ 4 < x
      · have HU := Go.Lib.hid (H10.out x p1 rfl)
        have HR5 := Go.Lib.hid hr5
        have H12 := ((H8.noInts).box [.bool false, .int .i64 0, .slice none 0 0] 40)
        obtain ⟨x0, x1, x2, -, -, -⟩ := H8.box3 1 rfl
        obtain ⟨y0, y1, -, -⟩ := H8.box2 3 rfl
        obtain ⟨C5, k5, rfl, -⟩ := H8.formC 2 rfl
        have FIN : ∀ A6 c6 w6, Owns w.heap.size w w6 [.box w5.heap.size [.bool false, .int .i64 0, .slice none 0 0] 40, .box (w.heap.size + 1) [.int .i64 (ldBase xs), .slice A5 n5 c5, .bool (bad' || decide (n' = 0))] 102, .box wr.heap.size [.bool false, .int .i64 0, .slice none 0 0] 40, .cells (.slice A6 (cs.length + 1) c6) (rvs ++ [.slice none 0 0]) (cs ++ [noCel]), .box w4.heap.size [.slice C5 cs.length k5, .slice R1 R.length k1] 26, .ints (.slice R1 R.length k1) R, .box w.heap.size [.slice none 0 0, .slice none 0 0] 26] → Hid (Owns w.heap.size w (w6.setCell ⟨w4.heap.size, 0, none⟩ (.slice A6 (cs.length + 1) c6)) [.box (w.heap.size + 1) [.int .i64 (ldBase xs), .slice A5 n5 c5, .bool (bad' || decide (n' = 0))] 102, .cells (.slice A6 (cs.length + 1) c6) (rvs ++ [.slice none 0 0]) (cs ++ [noCel]), .box w4.heap.size [.slice A6 (cs.length + 1) c6, .slice R1 R.length k1] 26, .ints (.slice R1 R.length k1) R, .box w.heap.size [.slice none 0 0, .slice none 0 0] 26]) := fun A6 c6 w6 h => Go.Lib.hid (by
          exact (h.putBox 4 rfl 0 (.slice A6 (cs.length + 1) c6)).order [1, 3, 4, 5, 6] (by decide) rfl)
        clear H8 hr5
        rcases p1 with p1 | p1
        · go_wp2_with (at_builtin; go_loud (refine wpList_pushCO (c := noCel) (rv := .slice none 0 0) rfl (.tmp 65) (.tmp 67) rfl H12 4 1 rfl rfl rfl rfl rfl (H12.holds 0 _ rfl).2 (by omega) ?_; intro A6 c6 w6 H13; obtain ⟨t0, t1, tf, tg⟩ := H13.box2 4 rfl))
          simp only [List.set_cons_zero, List.set_cons_succ, List.eraseIdx_cons_zero, List.eraseIdx_cons_succ, List.length_append, List.length_cons, List.length_nil, Nat.zero_add] at H13
          have HH := FIN _ _ _ H13
          go_wp2_with fail
          go_roundw
          case rel => exact ⟨k + 1, _, _, _, _, _, _, by go_num, by omega, by rw [HU.out]; exact HR5.out, by rw [HU.out]; exact HH.out⟩
          case measure => simp [intOf]; omega
        · go_wp2_with (at_builtin; go_loud (refine wpList_pushCO (c := noCel) (rv := .slice none 0 0) rfl (.tmp 65) (.tmp 67) rfl H12 4 1 rfl rfl rfl rfl rfl (H12.holds 0 _ rfl).2 (by omega) ?_; intro A6 c6 w6 H13; obtain ⟨t0, t1, tf, tg⟩ := H13.box2 4 rfl))
          simp only [List.set_cons_zero, List.set_cons_succ, List.eraseIdx_cons_zero, List.eraseIdx_cons_succ, List.length_append, List.length_cons, List.length_nil, Nat.zero_add] at H13
          have HH := FIN _ _ _ H13
          go_wp2_with fail
          go_roundw
          case rel => exact ⟨k + 1, _, _, _, _, _, _, by go_num, by omega, by rw [HU.out]; exact HR5.out, by rw [HU.out]; exact HH.out⟩
          case measure => simp [intOf]; omega
      · obtain ⟨m, hm⟩ := Int.eq_ofNat_of_zero_le (by omega : 0 ≤ x - 1)
        obtain rfl : x = (m : Int) + 1 := by omega
        have hm3 : m ≤ 3 := by omega
        have HU := Go.Lib.hid (H11.out m hm3 rfl)
        have e1 : (ys.drop 1).getD 0 0 = ys.getD 1 0 := by simp [List.getD_eq_getElem?_getD]
        have HD := Go.Lib.hid (show (ys.drop 1).drop 1 = ys.drop 2 from by rw [List.drop_drop])
        obtain ⟨x0, x1, x2, -, -, -⟩ := H8.box3 1 rfl
        clear hm p1
        go_wp2_with fail
        refine (next_own H8 hr5).mono ?_
        rintro e w6 ⟨rfl, A6, n6, c6, hr6, H9⟩
        rw [HD.out] at hr6
        rw [e1]
        clear e1 HD hr5 H8 x0 x1 x2
        generalize ys.getD 1 0 = dta at *
        have HR6 := Go.Lib.hid hr6
        obtain ⟨x0, x1, x2, x3, x4, x5⟩ := H9.box3 1 rfl
        have H9b := ((H9.putBox 1 rfl 0 (.bool true)).putBox 1 rfl 1 (.int .i64 dta)).putBox 1 rfl 2 (.slice none 0 0)
        simp only [List.set_cons_zero, List.set_cons_succ] at H9b
        clear H9 hr6
        go_wp2_with fail
        refine (refs_own H9b HR6.out m (by omega)).mono ?_
        rintro e w7 ⟨v, A7, n7, c7, bad7, rfl, hr7, H10'⟩
        have hZ : (refsW (ldBase xs) m (ys.drop 2)).length ≤ 3 := by rw [refsW_len]; exact hm3
        generalize refsW (ldBase xs) m (ys.drop 2) = Z at *
        obtain ⟨V, kV, rfl, -⟩ := H10'.formI 0 rfl
        clear H9b x0 x1 x2 x3 x4 x5
        obtain ⟨x0, x1, x2, x3, x4, x5⟩ := H10'.box3 2 rfl
        have H11' := H10'.putBox 2 rfl 2 (.slice V Z.length kV)
        simp only [List.set_cons_zero, List.set_cons_succ] at H11'
        obtain ⟨u0, u1, u2, -, -, -⟩ := H11'.box3 2 rfl
        obtain ⟨C5, k5, rfl, -⟩ := H11'.formC 3 rfl
        obtain ⟨y0, y1, -, -⟩ := H11'.box2 4 rfl
        have H12 := H11'.box [.bool true, .int .i64 dta, .slice V Z.length kV] 40
        simp only [World.size_setCell] at H12
        have HR7 := Go.Lib.hid hr7
        clear hr7
        go_wp2_with (at_builtin; go_loud (refine wpList_pushCO (c := ⟨true, dta, Z⟩) (rv := .slice V Z.length kV) rfl (.tmp 65) (.tmp 67) rfl H12 4 1 rfl rfl rfl rfl rfl (H12.holds 0 _ rfl).2 (by omega) ?_; intro A6 c6 w6 H13; obtain ⟨t0, t1, tf, tg⟩ := H13.box2 4 rfl))
        simp only [List.set_cons_zero, List.set_cons_succ, List.eraseIdx_cons_zero, List.eraseIdx_cons_succ, List.length_append, List.length_cons, List.length_nil, Nat.zero_add] at H13
        have HH := Go.Lib.hid ((H13.putBox 4 rfl 0 (.slice A6 (cs.length + 1) c6)).places [1, 3, 4, 5, 6] (by decide) (by simp))
        go_wp2_with fail
        go_roundw
        case rel => exact ⟨k + 1, _, _, _, _, _, _, by go_num, by omega, by rw [HU.out]; exact HR7.out, by rw [HU.out]; exact HH.out⟩
        case measure => simp [intOf]; omega
    · obtain rfl : k = N := by omega
      have hG : (ldSt xs k).2 = (ldHeap xs).cells := by unfold ldHeap; rw [HN.out]
      rw [hG] at H
      have hR := HRR.out
      subst hR
      clear hG hr HRR2 HN HE HRR hlt
      obtain ⟨G, HG⟩ : ∃ G, Hid (ldHeap xs = G) := ⟨_, Go.Lib.hid rfl⟩
      rw [HG.out] at H ⊢
      obtain ⟨C5, k5, rfl, -⟩ := H.formC 1 rfl
      have HX := H.drew
      obtain ⟨y0, y1, -, -⟩ := HX.box2 2 rfl
      obtain ⟨x0, -, -, -, -, -⟩ := HX.box3 0 rfl
      have hS : ldOk xs = (heapOk G && (baseOk (ldBase xs) && decide (mSaveImage G (ldBase xs) = xs))) := by unfold ldOk; rw [HG.out]
      have HSV := Go.Lib.hid hS
      clear hS H
      cases hy : heapOk G
      · go_wp2_with fail
        refine wp_region_tree (fun w' => (w'.cell? ⟨w4.heap.size, 0, none⟩ = some (.slice C5 G.cells.length k5) ∧ w'.cell? ⟨w4.heap.size, 1, none⟩ = some (.slice R1 G.roots.length k1)) ∧ w'.cell? ⟨w.heap.size + 1, 0, none⟩ = some (.int .i64 (ldBase xs))) 14 [] (.take 0 (.alt 1 (.take 2 (.take 3 (.take 4 (.take 5 (.take 6 (.take 7 (.take 8 (.take 10 (.alt 9 (.alt 11 (.take 12 (.take 13 (.done))) (.stop)) (.stop)))))))))) (.stop))) (by kernel_rfl) (by kernel_rfl) (by kernel_rfl) (⟨⟨y0, y1⟩, x0⟩) ?_
        simp only [fillT, List.getElem?_cons_zero, List.getElem?_cons_succ, Nat.reduceBEq]
        repeat (first
          | (with_reducible refine po_take (v := ?_) ?_ (fun w' hS' => ?_) ?_
             rotate_left
             · (go_simp; done)
             · ((try dsimp only at hS'); go_simp; try with_reducible rfl)
             simp only [Act.put, List.setIfInBounds_toArray, List.set_cons_zero, List.set_cons_succ])
          | (with_reducible refine po_skip ?_ ?_
             · (go_simp; done)
             simp only [Act.put, List.setIfInBounds_toArray, List.set_cons_zero, List.set_cons_succ]))
        with_reducible refine po_run ?_ (fun K hK => ?_) ?_
        · (go_simp; done)
        rotate_left
        · exact po_stop
        go_simp
        refine (heapValid_any _ _ _ G (HX.rdH 1 3 rfl rfl)).mono ?_
        rintro e w8 ⟨rfl, hb⟩
        rw [hy]
        replace HX := HX.call hb
        replace y0 := keept y0 hb
        replace y1 := keept y1 hb
        replace x0 := keept x0 hb
        refine hK.out _ _ (.inr (⟨⟨y0, y1⟩, x0⟩)) ?_
        clear hK K
        repeat (first
          | (with_reducible refine po_take (v := ?_) ?_ (fun w' hS' => ?_) ?_
             rotate_left
             · (go_simp; done)
             · ((try dsimp only at hS'); go_simp; try with_reducible rfl)
             simp only [Act.put, List.setIfInBounds_toArray, List.set_cons_zero, List.set_cons_succ])
          | (with_reducible refine po_skip ?_ ?_
             · (go_simp; done)
             simp only [Act.put, List.setIfInBounds_toArray, List.set_cons_zero, List.set_cons_succ]))
        with_reducible refine po_no ?_ ?_ ?_ ?_
        · (go_simp; done)
        · exact .inr (⟨⟨y0, y1⟩, x0⟩)
        rotate_left
        · exact po_stop
        simp only [Act.put, List.setIfInBounds_toArray, List.set_cons_zero, List.set_cons_succ]
        with_reducible refine po_no ?_ ?_ ?_ ?_
        · (go_simp; done)
        · exact .inr (⟨⟨y0, y1⟩, x0⟩)
        rotate_left
        · exact po_stop
        simp only [Act.put, List.setIfInBounds_toArray, List.set_cons_zero, List.set_cons_succ]
        repeat (first
          | (with_reducible refine po_take (v := ?_) ?_ (fun w' hS' => ?_) ?_
             rotate_left
             · (go_simp; done)
             · ((try dsimp only at hS'); go_simp; try with_reducible rfl)
             simp only [Act.put, List.setIfInBounds_toArray, List.set_cons_zero, List.set_cons_succ])
          | (with_reducible refine po_skip ?_ ?_
             · (go_simp; done)
             simp only [Act.put, List.setIfInBounds_toArray, List.set_cons_zero, List.set_cons_succ]))
        refine po_done ?_
        have HF := Go.Lib.hid (show ldOk xs = false from by rw [HSV.out, hy]; rfl)
        have H20 := HX
        clear HX hb hy
        obtain ⟨b0, b1, b2, b3⟩ := H20.box2 4 rfl
        have HZ := (((H20.putBox 4 rfl 0 (.slice none 0 0)).putBox 4 rfl 1 (.slice none 0 0)).noInts).noCells
        simp only [List.set_cons_zero, List.set_cons_succ] at HZ
        obtain ⟨z0, z1, -, -⟩ := HZ.box2 6 rfl
        have HS : Hid (MadeHIB w (mLoadH xs) (mLoadB xs) (ldOk xs) (.returned (.tuple #[.agg #[.slice none 0 0, .slice none 0 0], .int .i64 0, .bool false])) _) := Go.Lib.hid (by rw [HF.out, (mLoad_no HF.out).1, (mLoad_no HF.out).2]; exact ⟨_, [], _, rfl, HZ.take 2⟩)
        clear HZ H20
        go_wp2
        exact bodyPost_ret (v := .tuple #[.agg #[.slice none 0 0, .slice none 0 0], .int .i64 0, .bool false]) (by simp [results, Try.results30, go_sem, z0, z1]) rfl HS.out

      cases hsv : decide (mSaveImage G (ldBase xs) = xs)
      · go_wp2_with fail
        refine wp_region_tree (fun w' => (w'.cell? ⟨w4.heap.size, 0, none⟩ = some (.slice C5 G.cells.length k5) ∧ w'.cell? ⟨w4.heap.size, 1, none⟩ = some (.slice R1 G.roots.length k1)) ∧ w'.cell? ⟨w.heap.size + 1, 0, none⟩ = some (.int .i64 (ldBase xs))) 14 [] (.take 0 (.alt 1 (.take 2 (.take 3 (.take 4 (.take 5 (.take 6 (.take 7 (.take 8 (.take 10 (.alt 9 (.alt 11 (.take 12 (.take 13 (.done))) (.stop)) (.stop)))))))))) (.stop))) (by kernel_rfl) (by kernel_rfl) (by kernel_rfl) (⟨⟨y0, y1⟩, x0⟩) ?_
        simp only [fillT, List.getElem?_cons_zero, List.getElem?_cons_succ, Nat.reduceBEq]
        repeat (first
          | (with_reducible refine po_take (v := ?_) ?_ (fun w' hS' => ?_) ?_
             rotate_left
             · (go_simp; done)
             · ((try dsimp only at hS'); go_simp; try with_reducible rfl)
             simp only [Act.put, List.setIfInBounds_toArray, List.set_cons_zero, List.set_cons_succ])
          | (with_reducible refine po_skip ?_ ?_
             · (go_simp; done)
             simp only [Act.put, List.setIfInBounds_toArray, List.set_cons_zero, List.set_cons_succ]))
        with_reducible refine po_run ?_ (fun K hK => ?_) ?_
        · (go_simp; done)
        rotate_left
        · exact po_stop
        go_simp
        refine (heapValid_any _ _ _ G (HX.rdH 1 3 rfl rfl)).mono ?_
        rintro e w8 ⟨rfl, hb⟩
        rw [hy]
        replace HX := HX.call hb
        replace y0 := keept y0 hb
        replace y1 := keept y1 hb
        replace x0 := keept x0 hb
        refine hK.out _ _ (.inr (⟨⟨y0, y1⟩, x0⟩)) ?_
        clear hK K
        repeat (first
          | (with_reducible refine po_take (v := ?_) ?_ (fun w' hS' => ?_) ?_
             rotate_left
             · (go_simp; done)
             · ((try dsimp only at hS'); go_simp; try with_reducible rfl)
             simp only [Act.put, List.setIfInBounds_toArray, List.set_cons_zero, List.set_cons_succ])
          | (with_reducible refine po_skip ?_ ?_
             · (go_simp; done)
             simp only [Act.put, List.setIfInBounds_toArray, List.set_cons_zero, List.set_cons_succ]))
        with_reducible refine po_run ?_ (fun K hK => ?_) ?_
        · (go_simp; done)
        rotate_left
        · exact po_stop
        go_simp
        refine (implSaveImage_any _ _ _ G (ldBase xs) (HX.rdH 1 3 rfl rfl) hIb).mono ?_
        rintro e w9 ⟨v9, rfl, ho, hb9⟩
        obtain ⟨A9, k9, rfl, hr9⟩ := ho.form
        replace HX := HX.call hb9
        replace y0 := keept y0 hb9
        replace y1 := keept y1 hb9
        replace x0 := keept x0 hb9
        refine hK.out _ _ (.inr (⟨⟨y0, y1⟩, x0⟩)) ?_
        clear hK K
        with_reducible refine po_run ?_ (fun K hK => ?_) ?_
        · (go_simp; done)
        rotate_left
        · exact po_stop
        go_simp
        refine (sameInts_any _ _ _ _ _ _ _ _ _ _ xs hr9 (HR0.out.below HX.below)).mono ?_
        rintro e w10 ⟨rfl, hb10⟩
        rw [hsv]
        replace HX := HX.call hb10
        replace y0 := keept y0 hb10
        replace y1 := keept y1 hb10
        replace x0 := keept x0 hb10
        refine hK.out _ _ (.inr (⟨⟨y0, y1⟩, x0⟩)) ?_
        clear hK K
        repeat (first
          | (with_reducible refine po_take (v := ?_) ?_ (fun w' hS' => ?_) ?_
             rotate_left
             · (go_simp; done)
             · ((try dsimp only at hS'); go_simp; try with_reducible rfl)
             simp only [Act.put, List.setIfInBounds_toArray, List.set_cons_zero, List.set_cons_succ])
          | (with_reducible refine po_skip ?_ ?_
             · (go_simp; done)
             simp only [Act.put, List.setIfInBounds_toArray, List.set_cons_zero, List.set_cons_succ]))
        refine po_done ?_
        have HF := Go.Lib.hid (show ldOk xs = false from by rw [HSV.out, hsv]; simp)
        have H20 := HX
        clear HX hb hb9 hb10 hy hsv hr9 ho
        obtain ⟨b0, b1, b2, b3⟩ := H20.box2 4 rfl
        have HZ := (((H20.putBox 4 rfl 0 (.slice none 0 0)).putBox 4 rfl 1 (.slice none 0 0)).noInts).noCells
        simp only [List.set_cons_zero, List.set_cons_succ] at HZ
        obtain ⟨z0, z1, -, -⟩ := HZ.box2 6 rfl
        have HS : Hid (MadeHIB w (mLoadH xs) (mLoadB xs) (ldOk xs) (.returned (.tuple #[.agg #[.slice none 0 0, .slice none 0 0], .int .i64 0, .bool false])) _) := Go.Lib.hid (by rw [HF.out, (mLoad_no HF.out).1, (mLoad_no HF.out).2]; exact ⟨_, [], _, rfl, HZ.take 2⟩)
        clear HZ H20
        go_wp2
        exact bodyPost_ret (v := .tuple #[.agg #[.slice none 0 0, .slice none 0 0], .int .i64 0, .bool false]) (by simp [results, Try.results30, go_sem, z0, z1]) rfl HS.out

      · go_wp2_with fail
        refine wp_region_tree (fun w' => (w'.cell? ⟨w4.heap.size, 0, none⟩ = some (.slice C5 G.cells.length k5) ∧ w'.cell? ⟨w4.heap.size, 1, none⟩ = some (.slice R1 G.roots.length k1)) ∧ w'.cell? ⟨w.heap.size + 1, 0, none⟩ = some (.int .i64 (ldBase xs))) 14 [] (.take 0 (.alt 1 (.take 2 (.take 3 (.take 4 (.take 5 (.take 6 (.take 7 (.take 8 (.take 10 (.alt 9 (.alt 11 (.take 12 (.take 13 (.done))) (.stop)) (.stop)))))))))) (.stop))) (by kernel_rfl) (by kernel_rfl) (by kernel_rfl) (⟨⟨y0, y1⟩, x0⟩) ?_
        simp only [fillT, List.getElem?_cons_zero, List.getElem?_cons_succ, Nat.reduceBEq]
        repeat (first
          | (with_reducible refine po_take (v := ?_) ?_ (fun w' hS' => ?_) ?_
             rotate_left
             · (go_simp; done)
             · ((try dsimp only at hS'); go_simp; try with_reducible rfl)
             simp only [Act.put, List.setIfInBounds_toArray, List.set_cons_zero, List.set_cons_succ])
          | (with_reducible refine po_skip ?_ ?_
             · (go_simp; done)
             simp only [Act.put, List.setIfInBounds_toArray, List.set_cons_zero, List.set_cons_succ]))
        with_reducible refine po_run ?_ (fun K hK => ?_) ?_
        · (go_simp; done)
        rotate_left
        · exact po_stop
        go_simp
        refine (heapValid_any _ _ _ G (HX.rdH 1 3 rfl rfl)).mono ?_
        rintro e w8 ⟨rfl, hb⟩
        rw [hy]
        replace HX := HX.call hb
        replace y0 := keept y0 hb
        replace y1 := keept y1 hb
        replace x0 := keept x0 hb
        refine hK.out _ _ (.inr (⟨⟨y0, y1⟩, x0⟩)) ?_
        clear hK K
        repeat (first
          | (with_reducible refine po_take (v := ?_) ?_ (fun w' hS' => ?_) ?_
             rotate_left
             · (go_simp; done)
             · ((try dsimp only at hS'); go_simp; try with_reducible rfl)
             simp only [Act.put, List.setIfInBounds_toArray, List.set_cons_zero, List.set_cons_succ])
          | (with_reducible refine po_skip ?_ ?_
             · (go_simp; done)
             simp only [Act.put, List.setIfInBounds_toArray, List.set_cons_zero, List.set_cons_succ]))
        with_reducible refine po_run ?_ (fun K hK => ?_) ?_
        · (go_simp; done)
        rotate_left
        · exact po_stop
        go_simp
        refine (implSaveImage_any _ _ _ G (ldBase xs) (HX.rdH 1 3 rfl rfl) hIb).mono ?_
        rintro e w9 ⟨v9, rfl, ho, hb9⟩
        obtain ⟨A9, k9, rfl, hr9⟩ := ho.form
        replace HX := HX.call hb9
        replace y0 := keept y0 hb9
        replace y1 := keept y1 hb9
        replace x0 := keept x0 hb9
        refine hK.out _ _ (.inr (⟨⟨y0, y1⟩, x0⟩)) ?_
        clear hK K
        with_reducible refine po_run ?_ (fun K hK => ?_) ?_
        · (go_simp; done)
        rotate_left
        · exact po_stop
        go_simp
        refine (sameInts_any _ _ _ _ _ _ _ _ _ _ xs hr9 (HR0.out.below HX.below)).mono ?_
        rintro e w10 ⟨rfl, hb10⟩
        rw [hsv]
        replace HX := HX.call hb10
        replace y0 := keept y0 hb10
        replace y1 := keept y1 hb10
        replace x0 := keept x0 hb10
        refine hK.out _ _ (.inr (⟨⟨y0, y1⟩, x0⟩)) ?_
        clear hK K
        repeat (first
          | (with_reducible refine po_take (v := ?_) ?_ (fun w' hS' => ?_) ?_
             rotate_left
             · (go_simp; done)
             · ((try dsimp only at hS'); go_simp; try with_reducible rfl)
             simp only [Act.put, List.setIfInBounds_toArray, List.set_cons_zero, List.set_cons_succ])
          | (with_reducible refine po_skip ?_ ?_
             · (go_simp; done)
             simp only [Act.put, List.setIfInBounds_toArray, List.set_cons_zero, List.set_cons_succ]))
        refine po_done ?_
        have HF := Go.Lib.hid (show ldOk xs = true from by rw [HSV.out, hy, HB.out, hsv]; rfl)
        have H20 := HX.drew
        clear hb hb9 hb10 hy hsv hr9 ho x0 y0 y1
        obtain ⟨y0, y1, -, -⟩ := H20.box2 2 rfl
        obtain ⟨x0, -, -, -, -, -⟩ := H20.box3 0 rfl
        obtain ⟨b0, b1, b2, b3⟩ := H20.box2 4 rfl
        obtain ⟨b0', b1', b2', b3'⟩ := HX.box2 4 rfl
        have H19 := HX.putBox 4 rfl 0 (.slice C5 G.cells.length k5)
        simp only [List.set_cons_zero, List.set_cons_succ] at H19
        have H19' := H19.putBox 4 rfl 1 (.slice R1 G.roots.length k1)
        simp only [List.set_cons_zero, List.set_cons_succ] at H19'
        obtain ⟨d0, -, -, -⟩ := H19.box2 4 rfl
        obtain ⟨d1, d2, -, -⟩ := H19'.box2 4 rfl
        clear HX H19 H19'
        go_wp2_with fail
        refine wp_region_tree (fun w' => (w'.cell? ⟨w4.heap.size, 0, none⟩ = some (.slice C5 G.cells.length k5) ∧ w'.cell? ⟨w4.heap.size, 1, none⟩ = some (.slice R1 G.roots.length k1)) ∧ w'.cell? ⟨w.heap.size + 1, 0, none⟩ = some (.int .i64 (ldBase xs))) 8 [] (.take 0 (.take 1 (.take 2 (.take 3 (.take 4 (.alt 5 (.take 6 (.take 7 (.done))) (.stop))))))) (by kernel_rfl) (by kernel_rfl) (by kernel_rfl) (⟨⟨y0, y1⟩, x0⟩) ?_
        simp only [fillT, List.getElem?_cons_zero, List.getElem?_cons_succ, Nat.reduceBEq]
        repeat (first
          | (with_reducible refine po_take (v := ?_) ?_ (fun w' hS' => ?_) ?_
             rotate_left
             · (go_simp; done)
             · ((try dsimp only at hS'); go_simp; try with_reducible rfl)
             simp only [Act.put, List.setIfInBounds_toArray, List.set_cons_zero, List.set_cons_succ])
          | (with_reducible refine po_skip ?_ ?_
             · (go_simp; done)
             simp only [Act.put, List.setIfInBounds_toArray, List.set_cons_zero, List.set_cons_succ]))
        with_reducible refine po_run ?_ (fun K hK => ?_) ?_
        · (go_simp; done)
        rotate_left
        · exact po_stop
        go_simp
        have H21 := (H20.putBox 4 rfl 0 (.slice C5 G.cells.length k5)).putBox 4 rfl 1 (.slice R1 G.roots.length k1)
        simp only [List.set_cons_zero, List.set_cons_succ] at H21
        clear y0 y1 x0
        obtain ⟨y0, y1, -, -⟩ := H21.box2 2 rfl
        obtain ⟨x0, -, -, -, -, -⟩ := H21.box3 0 rfl
        refine hK.out _ _ (.inr (⟨⟨y0, y1⟩, x0⟩)) ?_
        clear hK K
        repeat (first
          | (with_reducible refine po_take (v := ?_) ?_ (fun w' hS' => ?_) ?_
             rotate_left
             · (go_simp; done)
             · ((try dsimp only at hS'); go_simp; try with_reducible rfl)
             simp only [Act.put, List.setIfInBounds_toArray, List.set_cons_zero, List.set_cons_succ])
          | (with_reducible refine po_skip ?_ ?_
             · (go_simp; done)
             simp only [Act.put, List.setIfInBounds_toArray, List.set_cons_zero, List.set_cons_succ]))
        refine po_done ?_
        obtain ⟨z0, z1, -, -⟩ := H21.box2 4 rfl
        have HS : Hid (MadeHIB w (mLoadH xs) (mLoadB xs) (ldOk xs) (.returned (.tuple #[.agg #[.slice C5 G.cells.length k5, .slice R1 G.roots.length k1], .int .i64 (ldBase xs), .bool true])) _) := Go.Lib.hid (by rw [(mLoad_yes HF.out).1, (mLoad_yes HF.out).2, HF.out, HG.out]; exact ⟨_, _, _, rfl, H21.order [1, 3] (by decide) rfl⟩)
        clear H20 H21
        go_wp2
        exact bodyPost_ret (v := .tuple #[.agg #[.slice C5 G.cells.length k5, .slice R1 G.roots.length k1], .int .i64 (ldBase xs), .bool true]) (by simp [results, Try.results30, go_sem, d1, d2]) rfl HS.out

end Go.Proofs.Ytjpfgbckmcjjaaa
