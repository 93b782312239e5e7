/- The program's place: the reference that an instruction means, in any heap that can be read, and in a heap of the call's own. -/
import Derived.Test.YtdkpfggfkhnjfaaOv
import Derived.Test.YtdkpfggfkhnjfaaZ2
import Derived.Test.YtdkpfggfkhnjfaaZ1
namespace Go.Proofs.Ytdkpfggfkhnjfaa
open Go.RowKit
theorem placeB_neg {h : Hp} {x c : Int} (hx : x < 0) : placeB h x c = false := by simp [placeB]; omega
theorem placeB_at {h : Hp} {q : Nat} {l : Cel} {c : Int} (hl : Hid (h.cells[q]? = some l)) : placeB h (q : Int) c = decide (c < (l.refs.length : Int)) := by
  unfold placeB
  rw [show celI h (q : Int) = l from by unfold celI; rw [Int.toNat_natCast, getD_of hl]]
  simp
set_option maxHeartbeats 3200000 in
set_option maxRecDepth 20000 in
theorem place_any (w : World) (B : Nat) (v : Value) (h : Hp) (hh : RdH w B v h) (g : Good h) (rn : Nat) (hr3 : rn ≤ 3) (c : Int) (hc0 : 0 ≤ c) :
    Calls Try.prog 70 #[v, .int .i64 rn, .int .i64 c] w fun e w' => (∃ p, e = .returned (.tuple #[p, .bool (placeB h (rootI h rn) c)])) ∧ Below w.heap.size w w' := by
  have hh' := hh.top
  obtain ⟨D, m, d, D', m', d', rfl, hC, hR⟩ := hh.top
  have l1 := hC.le1; have l2 := hC.le2
  have l3 := RdI.le1 hR; have l4 := RdI.le2 hR
  have h4 := g.roots
  have hrm : rn < m' := by omega
  obtain ⟨bb, oo, x, rfl, hbb, hx, q1⟩ := RdI.at_ hR hrm
  have hxl : x < h.cells.length := by rw [← rootI_of hx]; exact good_rootLt g _
  have HE := Go.Lib.hid (rootI_of hx)
  have H := (Owns.nil w).box [.slice D m d, .slice (some ⟨bb, oo, none⟩) m' d'] 29
  obtain ⟨a0, a1, -, -⟩ := H.box2 0 rfl
  have q2 := H.ro q1 hbb
  have HB := H.below
  clear hh hh' h4 g q1
  rw [HE.out]
  by_cases hx0 : x < 0
  · have HF := Go.Lib.hid (placeB_neg (h := h) (c := c) hx0)
    clear H
    go_enter Try.func70, Try.ntmps70
    go_wp2
    exact bodyPost_ret (v := .tuple #[.pointer none, .bool false]) (by simp [results, Try.results70, go_sem]) rfl ⟨⟨_, by rw [HF.out]⟩, HB⟩
  · obtain ⟨q, rfl⟩ := Int.eq_ofNat_of_zero_le (by omega : 0 ≤ x)
    have hqm : q < m := by omega
    obtain ⟨b2, o2, l, A2, n2, c2, rfl, hbb2, hxc, k1, k2, k3, hrf⟩ := hC.at_ hqm
    have r1 := RdI.le1 hrf; have r2 := RdI.le2 hrf
    have k4 := H.ro k3 hbb2
    clear k1 k2 k3
    by_cases hcl : c < (n2 : Int)
    rotate_left
    · have HF : Hid (placeB h (q : Int) c = false) := Go.Lib.hid (by rw [placeB_at hxc]; exact decide_eq_false (by omega))
      have hge : (n2 : Int) ≤ c := by omega
      clear H
      go_enter Try.func70, Try.ntmps70
      go_wp2
      exact bodyPost_ret (v := .tuple #[.pointer none, .bool false]) (by simp [results, Try.results70, go_sem]) rfl ⟨⟨_, by rw [HF.out]⟩, HB⟩
    · have HF : Hid (placeB h (q : Int) c = true) := Go.Lib.hid (by rw [placeB_at hxc]; exact decide_eq_true (by omega))
      obtain ⟨cn, rfl⟩ := Int.eq_ofNat_of_zero_le hc0
      obtain ⟨b3, o3, y, rfl, hbb3, hy, t1⟩ := RdI.at_ hrf (by omega : cn < n2)
      have hge : ¬ (n2 : Int) ≤ (cn : Int) := by omega
      clear H t1
      go_enter Try.func70, Try.ntmps70
      go_wp2
      exact bodyPost_ret (v := .tuple #[.pointer (some ⟨b3, o3 + cn, none⟩), .bool true]) (by simp [results, Try.results70, go_sem]) rfl ⟨⟨_, by rw [HF.out]⟩, HB⟩
set_option maxHeartbeats 3200000 in
set_option maxRecDepth 20000 in
theorem place_own {lo : Nat} {w0 w : World} {L : List OB} {gC nC kC gR nR kR : Nat} {rvs : List Value} {cs : List Cel} {rs : List Int} (H0 : Owns lo w0 w L) (i j : Nat) (hX : L[i]? = some (.cells (.slice (some ⟨gC, 0, none⟩) nC kC) rvs cs)) (hY : L[j]? = some (.ints (.slice (some ⟨gR, 0, none⟩) nR kR) rs))
    (hnC : nC = cs.length) (hnR : nR = rs.length) (_hnc4 : nC ≤ kC) (_hnr4 : nR ≤ kR) (rn cn q : Nat) (l : Cel) (hx : Hid (rs[rn]? = some (q : Int))) (hl : Hid (cs[q]? = some l)) (hc : cn < l.refs.length) :
    ∃ gF c2, Hid (rvs[q]? = some (.slice (some ⟨gF, 0, none⟩) l.refs.length c2)) ∧ Calls Try.prog 70 #[.agg #[.slice (some ⟨gC, 0, none⟩) nC kC, .slice (some ⟨gR, 0, none⟩) nR kR], .int .i64 rn, .int .i64 cn] w fun e w' => e = .returned (.tuple #[.pointer (some ⟨gF, cn, none⟩), .bool true]) ∧ Owns lo w0 w' L := by
  obtain ⟨yo, hyo⟩ : ∃ y, Hid (l.refs[cn]? = some y) := ⟨_, Go.Lib.hid (List.getElem?_eq_getElem hc)⟩
  obtain ⟨gC', cC, A2, c2, eC, hrv, -, -, -, -, -, -, hc2, -⟩ := H0.cellW i hX hl
  simp only [Value.slice.injEq, Option.some.injEq, Addr.mk.injEq, and_true] at eC
  obtain ⟨rfl, -, rfl⟩ := eC
  obtain ⟨gF, rfl, -, -⟩ := H0.refAt i hX hrv hl hyo
  refine ⟨gF, c2, hrv, ?_⟩
  have hrl : rn < nR := by rw [hnR]; exact (List.getElem?_eq_some_iff.1 hx.out).1
  have hql : q < nC := by rw [hnC]; exact (List.getElem?_eq_some_iff.1 hl.out).1
  have H := H0.box [.slice (some ⟨gC, 0, none⟩) nC kC, .slice (some ⟨gR, 0, none⟩) nR kR] 29
  obtain ⟨a0, a1, -, -⟩ := H.box2 0 rfl
  obtain ⟨r0, -⟩ := H.intAt (j + 1) hY hnR hx
  obtain ⟨gC', cC', A3, c3, eC, hrv3, -, -, k4, -, -, -, -, -⟩ := H.cellW (i + 1) hX hl
  simp only [Value.slice.injEq, Option.some.injEq, Addr.mk.injEq, and_true] at eC
  obtain ⟨rfl, -, rfl⟩ := eC
  have eV := hid_inj hrv hrv3
  simp only [Value.slice.injEq, true_and] at eV
  obtain ⟨rfl, rfl⟩ := eV
  have hge : ¬ (l.refs.length : Int) ≤ (cn : Int) := by omega
  have hq0 : ¬ (q : Int) < 0 := by omega
  have i1 : (0 : Int) ≤ (q : Int) := by omega
  have i2 : (q : Int) < (nC : Int) := by omega
  have i3 : (0 : Int) ≤ (rn : Int) := by omega
  have i4 : (rn : Int) < (nR : Int) := by omega
  have i5 : (0 : Int) ≤ (cn : Int) := by omega
  have i6 : (cn : Int) < (l.refs.length : Int) := by omega
  have HK := H.erase 0
  simp only [List.eraseIdx_cons_zero] at HK
  clear H H0 hrv3 hX hY hx hl hyo hrv hnC hnR
  go_enter Try.func70, Try.ntmps70
  go_wp2
  exact bodyPost_ret (v := .tuple #[.pointer (some ⟨gF, cn, none⟩), .bool true]) (by simp [results, Try.results70, go_sem]) rfl ⟨rfl, HK⟩
end Go.Proofs.Ytdkpfggfkhnjfaa
