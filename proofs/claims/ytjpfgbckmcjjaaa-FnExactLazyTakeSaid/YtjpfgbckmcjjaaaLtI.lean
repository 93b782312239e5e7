/- LazyTake, the program's: it makes mTake, for every lazy heap that can be read. -/
import Derived.Test.YtjpfgbckmcjjaaaLtC
import Derived.Test.YtjpfgbckmcjjaaaLzI
import Derived.Test.YtjpfgbckmcjjaaaZ0
namespace Go.Proofs.Ytjpfgbckmcjjaaa
open Go.RowKit
theorem leads_ltI {h : Hp} (hok : heapOk h = true) {p j q : Nat} {l : Cel} (hl : h.cells[p]? = some l) (hx : l.refs[j]? = some (q : Int)) : q < h.cells.length := by
  have h2 := (heapOk_leads hok).2 p l hl _ (List.mem_of_getElem? hx)
  rcases leadsB_iff.1 h2 with e | ⟨-, hu⟩
  · omega
  · have := usedN_lt hu; omega
set_option maxHeartbeats 6400000 in
set_option maxRecDepth 20000 in
theorem implLazyTake_any (w : World) (B : Nat) (v : Value) (l : Lz) (hh : RdZ w B v l) :
    Calls Try.prog 37 #[v] w (MadeZN w (mTake l)) := by
  have hh' := hh.top
  obtain ⟨D, m, d, D', m', d', E, q, f, rfl, hC, hR, hM⟩ := hh.top
  have l1 := hC.le1; have l2 := hC.le2
  have l3 := RdB.le1 hM; have l4 := RdB.le2 hM
  have H := ((Owns.nil w).box [.slice D m d, .slice D' m' d', .slice E q f, .int .i64 l.at_] 50).box [.slice none 0 0, .slice none 0 0, .slice none 0 0, .int .i64 0] 50
  simp only [World.size_alloc] at H
  obtain ⟨a0, a1, a2, a3, -, -, -, -⟩ := box4 H 1 rfl
  go_enter Try.func37, Try.ntmps37
  go_wp2_with fail
  refine (implLazyValid_any _ _ _ l (hh'.below H.below)).mono ?_
  rintro e w1 ⟨rfl, hb⟩
  have H1 := H.call hb
  clear H hb a0 a1 a2 a3
  cases hy : mLzValid l
  · have HF := Go.Lib.hid (mTake_no hy)
    obtain ⟨y0, y1, y2, y3, y4, y5, y6, y7⟩ := box4 H1 0 rfl
    have HZ := ((((((H1.putBox 0 rfl 0 (.slice none 0 0)).putBox 0 rfl 1 (.slice none 0 0)).putBox 0 rfl 2 (.slice none 0 0)).putBox 0 rfl 3 (.int .i64 0)).noBools).noInts).noCells
    simp only [List.set_cons_zero, List.set_cons_succ] at HZ
    obtain ⟨z0, z1, z2, z3, -, -, -, -⟩ := box4 HZ 3 rfl
    have HE := HZ.take 3
    simp only [List.take_succ_cons, List.take_zero] at HE
    have HS : Hid (MadeZN w (mTake l) (.returned (.tuple #[.agg #[.slice none 0 0, .slice none 0 0, .slice none 0 0, .int .i64 0], .int .i64 (-1)])) _) := Go.Lib.hid (by rw [HF.out]; exact ⟨_, [], _, _, rfl, HE⟩)
    clear H1 HZ HE hy
    go_wp2
    exact bodyPost_ret (v := .tuple #[.agg #[.slice none 0 0, .slice none 0 0, .slice none 0 0, .int .i64 0], .int .i64 (-1)]) (by simp [results, Try.results37, go_sem, z0, z1, z2, z3]) rfl HS.out
  have hhead : lzHead l = true := by
    cases e : lzHead l
    · rw [lz_no e] at hy; cases hy
    · rfl
  obtain ⟨s1, s2, s3, s4, s5⟩ := lz_parts hhead
  obtain ⟨s6, s7⟩ := heapOk_small s1
  have HN : Hid (∀ c ∈ l.store.cells, c.refs.length ≤ 1048576) := Go.Lib.hid fun c hc => by
    obtain ⟨i, hi⟩ := List.getElem?_of_mem hc
    have := refsZ s1 hi
    omega
  have HOK := Go.Lib.hid s1
  have HV := Go.Lib.hid hy
  have s8 : l.store.roots.length ≤ 4 := by omega
  have HZ0 := Go.Lib.hid hh'
  obtain ⟨a0', hat⟩ : ∃ a : Nat, l.at_ = (a : Int) := Int.eq_ofNat_of_zero_le s3
  have s9 : a0' ≤ l.marks.length := by omega
  have t1 : l.marks.length ≤ l.store.cells.length := by omega
  have t2 : l.store.cells.length ≤ l.marks.length := by omega
  have hat2 : l.at_.toNat = a0' := by omega
  have HAt := Go.Lib.hid hat2
  have HAz := Go.Lib.hid hat
  have HM := Go.Lib.hid hM
  rw [hat] at H1
  obtain ⟨a0, a1, a2, a3, -, -, -, -⟩ := box4 H1 1 rfl
  have hnx := nxt_le s9
  clear hy hhead hh hh' s1 s2 s3 s4 s7 hat hat2
  go_wp2_with fail
  refine (copyLazy_any _ _ _ l (by rw [← HAz.out]; exact HZ0.out.below H1.below) (by omega) (by omega) HN.out (by omega)).mono ?_
  rintro e w2 ⟨cv, rvs, rv, mv, rfl, K⟩
  have H2 := H1.merge K
  simp only [List.cons_append, List.nil_append] at H2
  rw [HAz.out]
  obtain ⟨C, kC, rfl, -⟩ := H2.formC 0 rfl
  obtain ⟨R, kR, rfl, -⟩ := H2.formI 1 rfl
  obtain ⟨V, kV, rfl, -⟩ := H2.formB 2 rfl
  have H3 := H2.box [.slice C l.store.cells.length kC, .slice R l.store.roots.length kR, .slice V l.marks.length kV, .int .i64 (a0' : Int)] 50
  clear H1 H2 K a0 a1 a2 a3
  go_wp2_with fail
  refine (lazyNext_any H3 0 3 rfl rfl s9 (by omega)).mono ?_
  rintro e w4 ⟨rfl, H4⟩
  simp only [List.set_cons_zero] at H4
  obtain ⟨k, hk⟩ : ∃ k, k = nxt l.marks a0' := ⟨_, rfl⟩
  rw [← hk] at H4 hnx ⊢
  have HK : Hid (nxt l.marks l.at_.toNat = k) := Go.Lib.hid (by rw [HAt.out]; exact hk.symm)
  have HFr : Hid (k < l.marks.length → l.marks[k]? = some false) := Go.Lib.hid fun h => by rw [hk] at h ⊢; exact nxt_free h
  generalize w2.heap.size = g at *
  clear H3 hk HAt
  obtain ⟨x0, x1, x2, x3, xf0, xf1, xf2, xf3⟩ := box4 H4 0 rfl
  by_cases hlt : k < l.marks.length
  rotate_left
  · have hke : k = l.marks.length := by omega
    have HF : Hid (mTake l = (⟨l.store, l.marks, (k : Int)⟩, -1)) := Go.Lib.hid (by rw [mTake_end HV.out (by rw [HK.out]; exact hlt)]; unfold lzSpent; rw [hke])
    rw [decide_eq_false hlt]
    obtain ⟨o0, o1, o2, o3, of0, of1, of2, of3⟩ := box4 H4 4 rfl
    have H9 := (((H4.putBox 4 rfl 0 (.slice C l.store.cells.length kC)).putBox 4 rfl 1 (.slice R l.store.roots.length kR)).putBox 4 rfl 2 (.slice V l.marks.length kV)).putBox 4 rfl 3 (.int .i64 (k : Int))
    simp only [List.set_cons_zero, List.set_cons_succ] at H9
    obtain ⟨q0, q1, q2, q3, -, -, -, -⟩ := box4 H9 4 rfl
    have HS : Hid (MadeZN w (mTake l) (.returned (.tuple #[.agg #[.slice C l.store.cells.length kC, .slice R l.store.roots.length kR, .slice V l.marks.length kV, .int .i64 (k : Int)], .int .i64 (-1)])) _) := Go.Lib.hid (by rw [HF.out]; exact ⟨_, _, _, _, rfl, H9.order [1, 2, 3] (by decide) rfl⟩)
    clear hke H4 H9
    go_wp2
    exact bodyPost_ret (v := .tuple #[.agg #[.slice C l.store.cells.length kC, .slice R l.store.roots.length kR, .slice V l.marks.length kV, .int .i64 (k : Int)], .int .i64 (-1)]) (by simp [results, Try.results37, go_sem, q0, q1, q2, q3]) rfl HS.out
  rw [decide_eq_true hlt]
  obtain ⟨b0, b1, b2, b3, -, -, -, -⟩ := box4 H4 5 rfl
  have hfree := Go.Lib.hid (HFr.out hlt)
  clear HFr
  go_wp2_with fail
  refine (setOf_any _ _ _ _ _ l.marks (HM.out.below H4.below) (by omega)).mono ?_
  rintro e w5 ⟨rfl, hb⟩
  have H5 := H4.call hb
  obtain ⟨S, hS⟩ : ∃ S, S = setM l.marks := ⟨_, rfl⟩
  have HSl : Hid (S < 2 ^ 64) := Go.Lib.hid (by rw [hS]; exact setM_lt (by omega))
  have HSb : Hid (∀ i, S.testBit i = atB l.marks i) := Go.Lib.hid fun i => by rw [hS, setM_bit]; rfl
  rw [← hS]
  have HCs := Go.Lib.hid (ClrSt.start l.marks l.store.cells)
  clear H4 hb hS x0 x1 x2 x3 xf0 xf1 xf2 xf3 b0 b1 b2 b3
  obtain ⟨x0, x1, x2, x3, xf0, xf1, xf2, xf3⟩ := box4 H5 0 rfl
  go_wp2_with fail
  clear x0 x1 x2 x3 xf0 xf1 xf2 xf3
  go_loopw [27] (fun i wr => ∃ (p : Nat) (X : List Cel), i = .int .i64 p ∧ p ≤ l.store.cells.length ∧ ClrSt l.marks l.store.cells p X ∧ Owns w.heap.size w wr [.box g [.slice C l.store.cells.length kC, .slice R l.store.roots.length kR, .slice V l.marks.length kV, .int .i64 (k : Int)] 50, .cells (.slice C l.store.cells.length kC) rvs (X), .ints (.slice R l.store.roots.length kR) l.store.roots, .bools (.slice V l.marks.length kV) l.marks, .box (w.heap.size + 1) [.slice none 0 0, .slice none 0 0, .slice none 0 0, .int .i64 0] 50, .box w.heap.size [.slice D m d, .slice D' m' d', .slice E q f, .int .i64 a0'] 50]) (fun i _ => l.store.cells.length - (intOf i).toNat)
  case atStart => exact ⟨0, _, rfl, Nat.zero_le _, HCs.out, H5⟩
  case round =>
    clear H5 HCs
    obtain ⟨p, X, rfl, hp, hX, H⟩ := hrel
    by_cases hltp : p < l.store.cells.length
    · obtain ⟨l0, hl0⟩ : ∃ l0, Hid (l.store.cells[p]? = some l0) := ⟨_, Go.Lib.hid (List.getElem?_eq_getElem hltp)⟩
      have hX0 : Hid (X[p]? = some l0) := Go.Lib.hid (hX.here.trans hl0.out)
      have hXl := hX.len
      have HS : Hid (X.set p ⟨l0.used, l0.data, l0.refs⟩ = X) := Go.Lib.hid (by obtain ⟨h1, h2⟩ := List.getElem?_eq_some_iff.1 hX0.out; exact (by rw [← h2]; exact List.set_getElem_self h1))
      have HKY : ∀ Y, Hid ((X.set p ⟨l0.used, l0.data, Y⟩)[p]? = some ⟨l0.used, l0.data, Y⟩) := fun Y => Go.Lib.hid (by rw [List.getElem?_set_self (by omega)])
      have HX := Go.Lib.hid hX
      have hr3 : l0.refs.length ≤ 3 := refsZ HOK.out hl0.out
      obtain ⟨bp, hbp⟩ : ∃ b, Hid (l.marks[p]? = some b) := ⟨_, Go.Lib.hid (List.getElem?_eq_getElem (by omega))⟩
      have HBp : Hid (hasB S (p : Int) = bp) := Go.Lib.hid (by rw [hasB_nat, HSb.out, atB_at hbp.out])
      have HRs := Go.Lib.hid (ClrRt.start l.marks l0 p)
      obtain ⟨gC, cC, A, c, eC, hrv, c0, c1, c2, -, -, -, k1, k2⟩ := H.cellW 1 rfl hX0
      simp only [Value.slice.injEq] at eC
      obtain ⟨rfl, -, rfl⟩ := eC
      have HB := H.box [.bool l0.used, .int .i64 l0.data, .slice A l0.refs.length c] 40
      have i3 : (0 : Int) ≤ (p : Int) := by omega
      have i4 : (p : Int) < (l.store.cells.length : Int) := by omega
      clear hX hXl H
      obtain ⟨gb, hgb⟩ : ∃ n, n = wr.heap.size := ⟨_, rfl⟩
      go_wp2_with fail
      rw [← hgb] at HB ⊢
      revert HB
      generalize World.alloc _ _ = wb
      intro HB
      obtain ⟨y0, y1, y2, yf0, yf1, yf2⟩ := HB.box3 0 rfl
      clear hgb c0 c1 c2
      go_wp2_with fail
      clear y0 y1 y2 yf0 yf1 yf2
      go_loopw [35] (fun i wr => ∃ (j : Nat) (Y : List Int), i = .int .i64 j ∧ j ≤ l0.refs.length ∧ ClrRt l.marks l0 p j Y ∧ Owns w.heap.size w wr (.box gb [.bool l0.used, .int .i64 l0.data, .slice A l0.refs.length c] 40 :: [.box g [(.slice (some ⟨gC, 0, none⟩) l.store.cells.length kC), .slice R l.store.roots.length kR, .slice V l.marks.length kV, .int .i64 (k : Int)] 50, .cells (.slice (some ⟨gC, 0, none⟩) l.store.cells.length kC) rvs (X.set p ⟨l0.used, l0.data, Y⟩), .ints (.slice R l.store.roots.length kR) l.store.roots, .bools (.slice V l.marks.length kV) l.marks, .box (w.heap.size + 1) [.slice none 0 0, .slice none 0 0, .slice none 0 0, .int .i64 0] 50, .box w.heap.size [.slice D m d, .slice D' m' d', .slice E q f, .int .i64 a0'] 50])) (fun i _ => l0.refs.length - (intOf i).toNat)
      case atStart => exact ⟨0, _, rfl, Nat.zero_le _, HRs.out, by rw [HS.out]; exact HB⟩
      case round =>
        clear HB HS HRs
        obtain ⟨j, Y, rfl, hj, hY, H⟩ := hrel
        obtain ⟨y0, y1, y2, -, -, -⟩ := H.box3 0 rfl
        have HYl := Go.Lib.hid hY.len
        by_cases hltj : j < l0.refs.length
        · obtain ⟨x, hx⟩ : ∃ x, Hid (l0.refs[j]? = some x) := ⟨_, Go.Lib.hid (List.getElem?_eq_getElem hltj)⟩
          have HL := Go.Lib.hid (hY.here.trans hx.out)
          have hrv' : Hid (rvs[p]? = some (.slice A Y.length c)) := Go.Lib.hid (by rw [HYl.out]; exact hrv.out)
          obtain ⟨gr, rfl, z3, zf⟩ := H.refAt 2 rfl hrv' (HKY Y) HL
          have j1 : (0 : Int) ≤ (j : Int) := by omega
          have j2 : (j : Int) < (l0.refs.length : Int) := by omega
          go_wp2_with fail
          refine (has_any S (p : Int) _ HSl.out).mono ?_
          rintro e w6 ⟨rfl, hw⟩
          obtain rfl := hw
          rw [HBp.out]
          cases bp
          rotate_left
          · have HN2 := Go.Lib.hid (hY.stay hx (clrR_mark (atB_at hbp.out) x))
            clear hY
            go_wp2
            go_roundw
            case rel => exact ⟨j + 1, Y, by go_num, by omega, HN2.out, H⟩
            case measure => simp [intOf]; omega
          · by_cases c0 : 0 ≤ x
            rotate_left
            · have HN2 := Go.Lib.hid (hY.stay hx (clrR_neg c0))
              clear hY
              go_wp2
              go_roundw
              case rel => exact ⟨j + 1, Y, by go_num, by omega, HN2.out, H⟩
              case measure => simp [intOf]; omega
            · obtain ⟨r, rfl⟩ := Int.eq_ofNat_of_zero_le c0
              have hrl := leads_ltI HOK.out hl0.out hx.out
              obtain ⟨br, hbr⟩ : ∃ b, Hid (l.marks[r]? = some b) := ⟨_, Go.Lib.hid (List.getElem?_eq_getElem (by omega))⟩
              have HBr : Hid (hasB S (r : Int) = br) := Go.Lib.hid (by rw [hasB_nat, HSb.out, atB_at hbr.out])
              go_wp2_with fail
              refine (has_any S (r : Int) _ HSl.out).mono ?_
              rintro e w7 ⟨rfl, hw⟩
              obtain rfl := hw
              rw [HBr.out]
              cases br
              rotate_left
              · have HN2 := Go.Lib.hid (hY.stay hx (clrR_to (atB_at hbr.out)))
                clear hY
                go_wp2
                go_roundw
                case rel => exact ⟨j + 1, Y, by go_num, by omega, HN2.out, H⟩
                case measure => simp [intOf]; omega
              · have HN2 := Go.Lib.hid (hY.turn hx (clrR_yes (atB_at hbp.out) (atB_at hbr.out)))
                have HE : Hid (X.set p ⟨l0.used, l0.data, Y.set j (-1)⟩ = (X.set p ⟨l0.used, l0.data, Y⟩).set p ⟨l0.used, l0.data, Y.set j (-1)⟩) := Go.Lib.hid (by simp)
                have H7 := H.putRef 2 rfl hrv'.out (HKY Y).out rfl j (-1)
                simp only [List.set_cons_zero, List.set_cons_succ] at H7
                rw [← HE.out] at H7
                clear hY
                go_wp2
                go_roundw
                case rel => exact ⟨j + 1, _, by go_num, by omega, HN2.out, H7⟩
                case measure => simp [intOf]; omega
        · have HD := Go.Lib.hid (HX.out.done hl0 hY (by omega))
          have H8 := H.erase 0
          simp only [List.eraseIdx_cons_zero] at H8
          clear hY
          go_wp2
          go_roundw
          case rel => exact ⟨p + 1, _, by go_num, by omega, HD.out, H8⟩
          case measure => simp [intOf]; omega
    · have hXf := hX.fin (by omega)
      subst hXf
      have hkm : k < (clrS l.marks l.store.cells).length := by rw [clrS_len]; omega
      obtain ⟨x0, x1, x2, x3, xf0, xf1, xf2, xf3⟩ := box4 H 0 rfl
      obtain ⟨gC, cC, xx, eC, ⟨t0, t1', t2'⟩, u0, u1, u2⟩ := H.cell3 1 rfl (k := k) (Go.Lib.hid (List.getElem?_eq_getElem hkm))
      simp only [Value.slice.injEq] at eC
      obtain ⟨rfl, -, rfl⟩ := eC
      obtain ⟨gV, cV, e7, -, -, -, -⟩ := H.rowAt 3 rfl (by omega)
      simp only [Value.slice.injEq, true_and] at e7
      obtain ⟨rfl, rfl⟩ := e7
      have H7 := H.empty true 1 rfl (by rw [clrS_len]) k hkm
      simp only [List.set_cons_zero, List.set_cons_succ] at H7
      obtain ⟨n0, n1, n2, n3, nf0, nf1, nf2, nf3⟩ := box4 H7 0 rfl
      obtain ⟨v0, vf⟩ := H7.elem 3 rfl (j := k) (u := .bool false) (by rw [List.getElem?_map, hfree.out]; rfl)
      have H8 := H7.putRowT 3 rfl k true
      simp only [List.set_cons_zero, List.set_cons_succ] at H8
      rw [rowT_bools (by simp : (l.marks.set k true).length = l.marks.length)] at H8
      obtain ⟨n0', n1', n2', n3', nf0', nf1', nf2', nf3'⟩ := box4 H8 0 rfl
      have H8b := H8.putBox 0 rfl 3 (.int .i64 ((k : Int) + 1))
      simp only [List.set_cons_zero, List.set_cons_succ] at H8b
      obtain ⟨m0, m1, m2, m3, -, -, -, -⟩ := box4 H8b 0 rfl
      obtain ⟨o0, o1, o2, o3, of0, of1, of2, of3⟩ := box4 H8b 4 rfl
      have H9 := (((H8b.putBox 4 rfl 0 (.slice (some ⟨gC, 0, none⟩) l.store.cells.length kC)).putBox 4 rfl 1 (.slice R l.store.roots.length kR)).putBox 4 rfl 2 (.slice (some ⟨gV, 0, none⟩) l.marks.length kV)).putBox 4 rfl 3 (.int .i64 ((k : Int) + 1))
      simp only [List.set_cons_zero, List.set_cons_succ] at H9
      obtain ⟨q0, q1, q2, q3, -, -, -, -⟩ := box4 H9 4 rfl
      have HF := Go.Lib.hid (mTake_yes HV.out HK.out hlt)
      have HS : Hid (MadeZN w (mTake l) (.returned (.tuple #[.agg #[.slice (some ⟨gC, 0, none⟩) l.store.cells.length kC, .slice R l.store.roots.length kR, .slice (some ⟨gV, 0, none⟩) l.marks.length kV, .int .i64 ((k : Int) + 1)], .int .i64 k])) _) := Go.Lib.hid (by rw [HF.out]; exact ⟨_, _, _, _, rfl, H9.order [1, 2, 3] (by decide) rfl⟩)
      have i1 : (0 : Int) ≤ (k : Int) := by omega
      have i2 : (k : Int) < (l.marks.length : Int) := by omega
      have i4 : (k : Int) < (l.store.cells.length : Int) := by omega
      have hw : IntKind.wrap .i64 ((k : Int) + 1) = (k : Int) + 1 := by rw [IntKind.wrap_i64]; omega
      clear hX H H7 H8 H8b H9
      go_wp2
      exact bodyPost_ret (v := .tuple #[.agg #[.slice (some ⟨gC, 0, none⟩) l.store.cells.length kC, .slice R l.store.roots.length kR, .slice (some ⟨gV, 0, none⟩) l.marks.length kV, .int .i64 ((k : Int) + 1)], .int .i64 k]) (by simp [results, Try.results37, go_sem, q0, q1, q2, q3]) rfl HS.out
end Go.Proofs.Ytjpfgbckmcjjaaa
