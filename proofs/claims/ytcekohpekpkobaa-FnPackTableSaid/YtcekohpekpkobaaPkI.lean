/- PackTable, the program's: for every table that can be read. -/
import Derived.Test.YtcekohpekpkobaaPt
import Derived.Test.YtcekohpekpkobaaMc
namespace Go.Proofs.Ytcekohpekpkobaa
open Go.RowKit
/-- A call makes a table, and tells a number. -/
def MadeTN (w : World) (t : Tbl) (n : Int) (e : Ending) (w' : World) : Prop := ∃ cv rvs rv hv, e = .returned (.tuple #[.agg #[cv, rv, hv], .int .i64 n]) ∧ Owns w.heap.size w w' [.cells cv rvs t.store.cells, .ints rv t.store.roots, .ints hv t.hands]
theorem packStep_used {t : Tbl} {a : Nat} (h : usedAt t a = true) : packStep t a = (t, 0) := by simp [packStep, h]
theorem packStep_some {t : Tbl} {a b : Nat} (h : usedAt t a = false) (h1 : firstU t a = some b) : packStep t a = (mMoved t a b, 1) := by simp [packStep, h, h1]
theorem packStep_none {t : Tbl} {a : Nat} (h : usedAt t a = false) (h1 : firstU t a = none) : packStep t a = (t, 0) := by simp [packStep, h, h1]
theorem packTo_succ {t X : Tbl} {k m : Nat} (h : packTo t k = (X, m)) : packTo t (k + 1) = ((packStep X k).1, m + (packStep X k).2) := by simp [packTo, h]
theorem usedAt_of {t : Tbl} {k : Nat} {l : Cel} (h : Hid (t.store.cells[k]? = some l)) : usedAt t k = l.used := by unfold usedAt; rw [getD_of h]
set_option maxHeartbeats 3200000 in
theorem implPackTable_any (w : World) (B : Nat) (v : Value) (t : Tbl) (hh : RdT w B v t) (hn : t.store.cells.length ≤ 1048576) (hn2 : t.store.roots.length ≤ 1048576) (hn3 : ∀ c ∈ t.store.cells, c.refs.length ≤ 1048576) (hn4 : t.hands.length ≤ 1048576) :
    Calls Try.prog 16 #[v] w (MadeTN w (mPackT t) (mPackN t)) := by
  have hh' := hh.top
  obtain ⟨D, m, d, D', m', d', E, q, f, rfl, hC, hR, hE⟩ := hh.top
  have HN3 := Go.Lib.hid hn3
  clear hn3
  have H := ((Owns.nil w).box [.slice D m d, .slice D' m' d', .slice E q f] 28).box [.slice none 0 0, .slice none 0 0, .slice none 0 0] 28
  simp only [World.size_alloc] at H
  obtain ⟨a0, a1, a2, -, -, -⟩ := H.box3 1 rfl
  go_enter Try.func16, Try.ntmps16
  go_wp2_with fail
  refine (implTableValid_any _ _ _ t (hh'.below H.below) hn hn2 HN3.out hn4).mono ?_
  rintro e w1 ⟨rfl, hb⟩
  replace H := H.call hb
  clear hb a0 a1 a2
  obtain ⟨a0, a1, a2, -, -, -⟩ := H.box3 1 rfl
  obtain ⟨y0, y1, y2, y3, y4, y5⟩ := H.box3 0 rfl
  cases hv : mTableValid t
  · have HF : Hid (mPackT t = ⟨⟨[], []⟩, []⟩ ∧ mPackN t = -1) := Go.Lib.hid (by simp [mPackT, mPackN, hv])
    have HZ := (((((H.putBox 0 rfl 0 (.slice none 0 0)).putBox 0 rfl 1 (.slice none 0 0)).putBox 0 rfl 2 (.slice none 0 0)).noInts).noInts).noCells
    simp only [List.set_cons_zero, List.set_cons_succ] at HZ
    obtain ⟨z0, z1, z2, -, -, -⟩ := HZ.box3 3 rfl
    have HS : Hid (MadeTN w (mPackT t) (mPackN t) (.returned (.tuple #[.agg #[.slice none 0 0, .slice none 0 0, .slice none 0 0], .int .i64 (-1)])) _) := Go.Lib.hid (by rw [HF.out.1, HF.out.2]; exact ⟨_, [], _, _, rfl, HZ.take 3⟩)
    clear H HZ hv
    go_wp2
    exact bodyPost_ret (v := .tuple #[.agg #[.slice none 0 0, .slice none 0 0, .slice none 0 0], .int .i64 (-1)]) (by simp [results, Try.results16, go_sem, z0, z1, z2]) rfl HS.out
  have HF : Hid (mPackT t = (packTo t t.store.cells.length).1 ∧ mPackN t = ((packTo t t.store.cells.length).2 : Nat)) := Go.Lib.hid (by simp [mPackT, mPackN, hv])
  clear hv
  go_wp2_with fail
  refine (copyTable_any _ _ _ t (hh'.below H.below) hn hn2 HN3.out hn4).mono ?_
  rintro e w2 ⟨cv, rvs, rv, hv, rfl, K⟩
  replace K := H.merge K
  simp only [List.cons_append, List.nil_append] at K
  clear H a0 a1 a2 y0 y1 y2 y3 y4 y5
  have H2 := (K.box [cv, rv, hv] 28).take 5
  clear K
  obtain ⟨C, kC, rfl, -⟩ := H2.formC 1 rfl
  obtain ⟨R, kR, rfl, -⟩ := H2.formI 2 rfl
  obtain ⟨V, kV, rfl, -⟩ := H2.formI 3 rfl
  obtain ⟨x0, x1, x2, -, -, -⟩ := H2.box3 0 rfl
  go_wp2_with fail
  go_loopw [5, 6, 7, 18] (fun v5 v6 v7 i wr => ∃ (k mv : Nat) (X : Tbl) (rvs : List Value), i = .int .i64 k ∧ k ≤ t.store.cells.length ∧ v5 = .int .i64 mv ∧ packTo t k = (X, mv) ∧ Owns w.heap.size w wr [.box w2.heap.size [.slice C t.store.cells.length kC, .slice R t.store.roots.length kR, .slice V t.hands.length kV] 28, .cells (.slice C t.store.cells.length kC) rvs X.store.cells, .ints (.slice R t.store.roots.length kR) X.store.roots, .ints (.slice V t.hands.length kV) X.hands, .box (w.heap.size + 1) [.slice none 0 0, .slice none 0 0, .slice none 0 0] 28]) (fun _ _ _ i _ => t.store.cells.length - (intOf i).toNat)
  case atStart => exact ⟨0, 0, t, rvs, rfl, Nat.zero_le _, rfl, rfl, H2⟩
  case round =>
    clear H2 x0 x1 x2
    obtain ⟨k, mv, X, rvs, rfl, hk, rfl, hX, H⟩ := hrel
    obtain ⟨x0, x1, x2, -, -, -⟩ := H.box3 0 rfl
    have hl := packTo_len t k
    rw [hX] at hl
    simp only at hl
    have HX := Go.Lib.hid hX
    have HL := Go.Lib.hid hl.1
    have HL2 := Go.Lib.hid hl.2.1
    have hmv := hl.2.2
    clear hX hl
    by_cases hlt : k < t.store.cells.length
    · obtain ⟨l, hlk⟩ : ∃ l, Hid (X.store.cells[k]? = some l) := ⟨_, Go.Lib.hid (List.getElem?_eq_getElem (by rw [HL.out]; exact hlt))⟩
      obtain ⟨gC, cC, A1, c1, eC, -, u1, -, -, -, -, -, -, -⟩ := H.cellW 1 rfl hlk
      rw [HL.out] at eC
      simp only [Value.slice.injEq] at eC
      obtain ⟨rfl, -, rfl⟩ := eC
      have hU := usedAt_of hlk
      cases hu : l.used
      · rw [hu] at u1 hU
        clear hu
        have HU := Go.Lib.hid hU
        clear hU
        go_wp2_with fail
        clear x0 x1 x2 u1
        go_loopw [5, 7] (fun v5 v7 wx => ∃ c : Nat, v5 = .int .i64 mv ∧ v7 = .int .i64 c ∧ k < c ∧ c ≤ t.store.cells.length ∧ Hid (∀ i, k < i → i < c → usedAt X i = false) ∧ Owns w.heap.size w wx [.box w2.heap.size [.slice (some ⟨gC, 0, none⟩) t.store.cells.length kC, .slice R t.store.roots.length kR, .slice V t.hands.length kV] 28, .cells (.slice (some ⟨gC, 0, none⟩) t.store.cells.length kC) rvs X.store.cells, .ints (.slice R t.store.roots.length kR) X.store.roots, .ints (.slice V t.hands.length kV) X.hands, .box (w.heap.size + 1) [.slice none 0 0, .slice none 0 0, .slice none 0 0] 28]) (fun _ v7 _ => t.store.cells.length - (intOf v7).toNat)
        case atStart => exact ⟨k + 1, rfl, by go_num, by omega, by omega, Go.Lib.hid fun i h1 h2 => by omega, H⟩
        case round =>
          clear H
          obtain ⟨c, rfl, rfl, hc1, hc2, HN, H⟩ := hrel
          obtain ⟨x0, x1, x2, -, -, -⟩ := H.box3 0 rfl
          by_cases hlc : c < t.store.cells.length
          · obtain ⟨l2, hl2⟩ : ∃ l, Hid (X.store.cells[c]? = some l) := ⟨_, Go.Lib.hid (List.getElem?_eq_getElem (by rw [HL.out]; exact hlc))⟩
            obtain ⟨gC', cC', A2, c2, eC, -, u2, -, -, -, -, -, -, -⟩ := H.cellW 1 rfl hl2
            simp only [Value.slice.injEq, Option.some.injEq, Addr.mk.injEq, and_true] at eC
            obtain ⟨rfl, -, -⟩ := eC
            have hU2 := usedAt_of hl2
            cases hu2 : l2.used
            · rw [hu2] at u2 hU2
              have HN2 : Hid (∀ i, k < i → i < c + 1 → usedAt X i = false) := Go.Lib.hid fun i h1 h2 => by
                by_cases e : i = c
                · rw [e]; exact hU2
                · exact HN.out i h1 (by omega)
              clear hu2 hU2
              go_wp2_with fail
              go_roundw
              case rel => exact ⟨c + 1, rfl, by go_num, by omega, by omega, HN2, H⟩
              case measure => simp [intOf]; omega
            · rw [hu2] at u2 hU2
              have HE := Go.Lib.hid (packTo_succ HX.out)
              rw [packStep_some HU.out (firstU_some hc1 (by rw [HL.out]; exact hlc) hU2 HN.out)] at HE
              clear hu2 hU2
              go_wp2_with fail
              refine (exchange_own H k c (by rw [HL.out]; omega) (by rw [HL.out]; exact hlc) (by rw [HL.out]; exact hn) (by rw [HL2.out]; exact hn4)).mono ?_
              rintro e w5 ⟨rfl, rvs', H5⟩
              clear H x0 x1 x2 u2
              go_wp2_with fail
              go_roundw
              case rel => exact ⟨k + 1, mv + 1, mMoved X k c, rvs', by go_num, by omega, by go_num, HE.out, H5⟩
              case measure => simp [intOf]; omega
          · have HE := Go.Lib.hid (packTo_succ HX.out)
            rw [packStep_none HU.out (firstU_none fun i h1 h2 => HN.out i h1 (by rw [HL.out] at h2; omega))] at HE
            go_wp2_with fail
            go_roundw
            case rel => exact ⟨k + 1, mv, X, rvs, by go_num, by omega, rfl, HE.out, H⟩
            case measure => simp [intOf]; omega
      · rw [hu] at u1 hU
        have HE := Go.Lib.hid (packTo_succ HX.out)
        rw [packStep_used hU] at HE
        clear hu hU
        go_wp2_with fail
        go_roundw
        case rel => exact ⟨k + 1, mv, X, rvs, by go_num, by omega, rfl, HE.out, H⟩
        case measure => simp [intOf]; omega
    · obtain rfl : k = t.store.cells.length := by omega
      obtain ⟨y0, y1, y2, y3, y4, y5⟩ := H.box3 4 rfl
      have HZ := ((H.putBox 4 rfl 0 (.slice C t.store.cells.length kC)).putBox 4 rfl 1 (.slice R t.store.roots.length kR)).putBox 4 rfl 2 (.slice V t.hands.length kV)
      simp only [List.set_cons_zero, List.set_cons_succ] at HZ
      obtain ⟨z0, z1, z2, -, -, -⟩ := HZ.box3 4 rfl
      have HS : Hid (MadeTN w (mPackT t) (mPackN t) (.returned (.tuple #[.agg #[.slice C t.store.cells.length kC, .slice R t.store.roots.length kR, .slice V t.hands.length kV], .int .i64 mv])) _) := Go.Lib.hid (by rw [HF.out.1, HF.out.2, HX.out]; exact ⟨_, rvs, _, _, rfl, HZ.order [1, 2, 3] (by decide) rfl⟩)
      clear H HZ
      go_wp2
      exact bodyPost_ret (v := .tuple #[.agg #[.slice C t.store.cells.length kC, .slice R t.store.roots.length kR, .slice V t.hands.length kV], .int .i64 mv]) (by simp [results, Try.results16, go_sem, z0, z1, z2]) rfl HS.out
end Go.Proofs.Ytcekohpekpkobaa
