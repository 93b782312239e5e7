/- LazyValid, the reference's: it returns mLzValid, for every lazy heap that can be read. -/
import Derived.Test.YtjpfgbckmcjjaaaLz
import Derived.Test.YtjpfgbckmcjjaaaCm
namespace Go.Proofs.Ytjpfgbckmcjjaaa
open Go.RowKit
set_option maxHeartbeats 6400000 in
set_option maxRecDepth 20000 in
theorem specLazyValid_any (w : World) (B : Nat) (v : Value) (l : Lz) (hh : RdZ w B v l) :
    Calls Try.prog 40 #[v] w fun e w' => e = .returned (.bool (mLzValid l)) ∧ Below w.heap.size w w' := by
  have hh' := hh.top
  obtain ⟨D, m, d, D', m', d', E, q, f, rfl, hC, hR, hM⟩ := hh.top
  have l1 := hC.le1; have l2 := hC.le2
  have l3 := RdB.le1 hM; have l4 := RdB.le2 hM
  have hH : RdH w w.heap.size (.agg #[.slice D m d, .slice D' m' d']) l.store := ⟨_, _, _, _, _, _, rfl, hC, hR⟩
  have H := (Owns.nil w).box [.slice D m d, .slice D' m' d', .slice E q f, .int .i64 l.at_] 50
  go_enter Try.func40, Try.ntmps40
  go_wp2_with fail
  refine (specHeapValid_any _ _ _ l.store (hH.below H.below)).mono ?_
  rintro e w1 ⟨rfl, hb⟩
  have H1 := H.call hb
  clear H hb
  obtain ⟨x0, x1, x2, x3, -, -, -, -⟩ := box4 H1 0 rfl
  cases hy : heapOk l.store
  · have HF := Go.Lib.hid (lz_no (l := l) (by unfold lzHead; rw [hy]; rfl))
    have HD := H1.below
    clear hy
    go_wp2
    go_ret
    exact ⟨ret_b HF.out.symm, HD⟩
  by_cases c1 : q = m
  rotate_left
  · have HF := Go.Lib.hid (lz_no (l := l) (by unfold lzHead; rw [decide_eq_false (by omega : ¬ l.marks.length = l.store.cells.length)]; simp))
    have HD := H1.below
    have k1 : ((q : Int) != (m : Int)) = true := by simp; omega
    clear hy
    go_wp2
    go_ret
    exact ⟨ret_b HF.out.symm, HD⟩
  subst c1
  have HOK := Go.Lib.hid hy
  clear hy
  go_wp2_with fail
  refine (l1In_b l.at_ 0 (q : Int) w1).mono ?_
  rintro e w2 ⟨rfl, hw2⟩
  obtain rfl := hw2
  cases hin : inR l.at_ 0 (q : Int)
  · have HF := Go.Lib.hid (lz_no (l := l) (by
      unfold lzHead
      have e : (decide (0 ≤ l.at_) && decide (l.at_ ≤ l.marks.length)) = false := by
        rw [← hin]
        unfold inR
        rw [show (l.marks.length : Int) = (q : Int) by omega]
      rw [Bool.and_assoc, e]; simp))
    have HD := H1.below
    clear hin
    go_wp2
    go_ret
    exact ⟨ret_b HF.out.symm, HD⟩
  have hin : 0 ≤ l.at_ ∧ l.at_ ≤ (q : Int) := by unfold inR at hin; simpa using hin
  have hhead : lzHead l = true := by
    unfold lzHead
    rw [HOK.out, decide_eq_true (by omega : l.marks.length = l.store.cells.length), decide_eq_true (by omega : 0 ≤ l.at_), decide_eq_true (by omega : l.at_ ≤ l.marks.length)]; rfl
  have HV := Go.Lib.hid (lz_yes hhead)
  obtain ⟨z1, z2, z3, z4, z5⟩ := lz_parts hhead
  have hl40 : l.store.cells.length ≤ 40 := by omega
  obtain ⟨s3, s4⟩ := heapOk_leads z1
  have SS := Go.Lib.hid (And.intro s3 s4)
  clear hhead z1 s3 s4 hin
  go_wp2_with fail
  refine (l7Reach_any _ _ _ _ l.store _ _ _ l.store.roots (hH.below H1.below) (hR.below H1.below) (by omega) SS.out.1 SS.out.2).mono ?_
  rintro e w2 ⟨vR, rfl, ho, hb⟩
  obtain ⟨Q, hQ⟩ : ∃ Q, Q = reachL l.store.cells l.store.roots := ⟨_, rfl⟩
  have hQl : Q.length = l.store.cells.length := by rw [hQ, reachL_length]
  have hQat : ∀ k, k < l.store.cells.length → Q[k]? = some (reachB l.store.cells l.store.roots k) := fun k hk => by rw [hQ]; exact reachL_at hk
  rw [← hQ] at ho
  have HQ := Go.Lib.hid hQat
  have H2 := H1.madeB ho hb
  clear H1 ho hb hQ hQat x0 x1 x2 x3
  obtain ⟨VR, kR, rfl, -⟩ := H2.formB 0 rfl
  go_wp2_with fail
  go_loopw [4] (fun i wr => ∃ k : Nat, i = .int .i64 k ∧ k ≤ q ∧ (List.range k).all (lzAt l) = true ∧ Owns w.heap.size w wr [.bools (.slice VR Q.length kR) Q, .box w.heap.size [.slice D q d, .slice D' m' d', .slice E q f, .int .i64 l.at_] 50]) (fun i _ => q - (intOf i).toNat)
  case atStart => exact ⟨0, rfl, Nat.zero_le _, by simp, H2⟩
  case round =>
    clear H2
    obtain ⟨k, rfl, hk, hall, H⟩ := hrel
    obtain ⟨x0, x1, x2, x3, -, -, -, -⟩ := box4 H 1 rfl
    have HD := H.below
    by_cases hlt : k < q
    · obtain ⟨b5, o5, b2, rfl, hb5, hm2, q5⟩ := RdB.at_ hM hlt
      obtain ⟨b6, o6, lc, A6, n6, c6, rfl, hb6, hc6, q6, q7, q8, -⟩ := hC.at_ hlt
      have g5 := H.ro q5 hb5
      have g6 := H.ro q6 hb6
      have hqk := HQ.out k (by omega)
      obtain ⟨b1, hb1⟩ : ∃ b, b = reachB l.store.cells l.store.roots k := ⟨_, rfl⟩
      rw [← hb1] at hqk
      obtain ⟨gQ, cQ, eQ, -, -, -, -⟩ := H.rowAt 0 rfl (by omega)
      simp only [Value.slice.injEq] at eQ
      obtain ⟨rfl, -, rfl⟩ := eQ
      obtain ⟨g0, -⟩ := H.elem 0 rfl (j := k) (u := .bool b1) (by rw [List.getElem?_map, hqk]; rfl)
      obtain ⟨b3, hb3⟩ : ∃ b, b = lc.used := ⟨_, rfl⟩
      rw [← hb3] at g6
      have HA : Hid (lzAt l k = ((!b1 || b2) && (!b2 || b3) && (!decide ((k : Int) < l.at_) || b2 || !b3))) := Go.Lib.hid (by
        unfold lzAt lzA lzB lzC
        rw [atB_at hm2.out, usedN_at hc6, hb1, hb3])
      have HAll := Go.Lib.hid hall
      have i1 : (0 : Int) ≤ (k : Int) := by omega
      have i2 : (k : Int) < (Q.length : Int) := by omega
      have i3 : (k : Int) < (q : Int) := by omega
      clear hqk hb1 hb3 q5 q6 q7 q8 hm2 hc6 hall
      by_cases ck : (k : Int) < l.at_
      · rw [decide_eq_true ck] at HA
        cases b1 <;> cases b2 <;> cases b3 <;> first
          | (go_wp2
             go_roundw
             case rel => exact ⟨k + 1, by go_num, by omega, range_all_succ HAll.out (HA.out.trans rfl), H⟩
             case measure => simp [intOf]; omega)
          | (have HF : Hid (mLzValid l = false) := Go.Lib.hid (HV.out.trans (range_all_no (by omega : k < l.marks.length) (HA.out.trans rfl)))
             go_wp2
             go_ret
             exact ⟨ret_b HF.out.symm, HD⟩)
      · rw [decide_eq_false ck] at HA
        cases b1 <;> cases b2 <;> cases b3 <;> first
          | (go_wp2
             go_roundw
             case rel => exact ⟨k + 1, by go_num, by omega, range_all_succ HAll.out (HA.out.trans rfl), H⟩
             case measure => simp [intOf]; omega)
          | (have HF : Hid (mLzValid l = false) := Go.Lib.hid (HV.out.trans (range_all_no (by omega : k < l.marks.length) (HA.out.trans rfl)))
             go_wp2
             go_ret
             exact ⟨ret_b HF.out.symm, HD⟩)
    · have HE : Hid (mLzValid l = true) := Go.Lib.hid (by rw [HV.out, show l.marks.length = k by omega]; exact hall)
      clear H hall
      go_wp2
      go_ret
      exact ⟨ret_b HE.out.symm, HD⟩
end Go.Proofs.Ytjpfgbckmcjjaaa
