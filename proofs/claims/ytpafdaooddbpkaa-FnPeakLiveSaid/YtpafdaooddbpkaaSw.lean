/- Sweeping by the reference: cells that are not marked are freed; the collection by what can be reached. For everything that can be read. -/
import Derived.Test.YtpafdaooddbpkaaRn
import Derived.Test.YtpafdaooddbpkaaZ1
namespace Go.Proofs.Ytpafdaooddbpkaa
open Go.RowKit
/-! ### In plain words -/
def wipeP (P : Nat → Bool) (cs : List Cel) (k : Nat) : List Cel := (List.range cs.length).map fun i => if decide (i < k) && P i then noCel else cs.getD i noCel
def cntP (P : Nat → Bool) (k : Nat) : Nat := ((List.range k).filter P).length
section
variable {P : Nat → Bool} {cs : List Cel} {k : Nat}
theorem wipeP_len (P : Nat → Bool) (cs : List Cel) (k : Nat) : (wipeP P cs k).length = cs.length := by simp [wipeP]
theorem wipeP_zero (P : Nat → Bool) (cs : List Cel) : wipeP P cs 0 = cs := by
  apply List.ext_getElem (by simp [wipeP])
  intro i h1 h2
  simp [wipeP, List.getD_eq_getElem?_getD, List.getElem?_eq_getElem h2]
theorem wipeP_get (P : Nat → Bool) (cs : List Cel) (k i : Nat) : (wipeP P cs k)[i]? = if i < cs.length then some (if decide (i < k) && P i then noCel else cs.getD i noCel) else none := by
  unfold wipeP
  rw [List.getElem?_map]
  by_cases h : i < cs.length
  · rw [if_pos h, List.getElem?_range h]; rfl
  · rw [if_neg h, List.getElem?_eq_none (by simp; omega)]; rfl
theorem wipeP_at {l : Cel} (h : Hid (cs[k]? = some l)) : (wipeP P cs k)[k]? = some l := by
  obtain ⟨hk, rfl⟩ := List.getElem?_eq_some_iff.1 h.out
  rw [wipeP_get, if_pos hk]
  simp [List.getD_eq_getElem?_getD, List.getElem?_eq_getElem hk]
theorem wipeP_no (h : P k = false) : wipeP P cs (k + 1) = wipeP P cs k := by
  apply List.map_congr_left
  intro i _
  by_cases e : i = k
  · subst e; simp [h]
  · have : decide (i < k + 1) = decide (i < k) := decide_eq_decide.2 (by omega)
    simp only [this]
theorem wipeP_yes (h : P k = true) : wipeP P cs (k + 1) = (wipeP P cs k).set k noCel := by
  apply List.ext_getElem?
  intro i
  rw [List.getElem?_set, wipeP_get, wipeP_get, wipeP_len]
  by_cases e : k = i
  · subst e
    by_cases hl : k < cs.length
    · simp [h, hl]
    · simp [hl]
  · have : decide (i < k + 1) = decide (i < k) := decide_eq_decide.2 (by omega)
    rw [if_neg e, this]
theorem cntP_no (h : P k = false) : cntP P (k + 1) = cntP P k := by simp [cntP, List.range_succ, List.filter_append, h]
theorem cntP_yes (h : P k = true) : cntP P (k + 1) = cntP P k + 1 := by simp [cntP, List.range_succ, List.filter_append, h]
theorem cntP_le (P : Nat → Bool) (k : Nat) : cntP P k ≤ k := by
  unfold cntP
  have := List.length_filter_le P (List.range k)
  simpa using this
end
def atB (ds : List Bool) (i : Nat) : Bool := ds.getD i false
def mDrop (h : Hp) (ds : List Bool) : Hp := ⟨wipeP (atB ds) h.cells h.cells.length, h.roots⟩
def deadL (ms : List Bool) : List Bool := ms.map (!·)
def lostS (h : Hp) (ms : List Bool) (i : Nat) : Bool := !atB ms i && usedN h.cells i
def sweepOk (h : Hp) (ms : List Bool) : Bool := heapOk h && decide (ms.length = h.cells.length) && heapOk (mDrop h (deadL ms))
def mSweepH (h : Hp) (ms : List Bool) : Hp := if sweepOk h ms then mDrop h (deadL ms) else ⟨[], []⟩
def mSweepN (h : Hp) (ms : List Bool) : Int := if sweepOk h ms then (cntP (lostS h ms) h.cells.length : Nat) else -1
noncomputable def mCollect (h : Hp) : Hp := mSweepH h (mReachable h)
noncomputable def mCollectN (h : Hp) : Int := mSweepN h (mReachable h)
theorem mSweep_yes {h : Hp} {ms : List Bool} (hs : sweepOk h ms = true) : mSweepH h ms = mDrop h (deadL ms) ∧ mSweepN h ms = (cntP (lostS h ms) h.cells.length : Nat) := by simp [mSweepH, mSweepN, hs]
theorem mSweep_no {h : Hp} {ms : List Bool} (hs : sweepOk h ms = false) : mSweepH h ms = ⟨[], []⟩ ∧ mSweepN h ms = -1 := by simp [mSweepH, mSweepN, hs]
/-- What can be reached may be kept alone. -/
theorem collect_good {h : Hp} (g : Good h) : sweepOk h (mReachable h) = true := by
  have hy := good_iff.2 g
  unfold sweepOk
  rw [hy, mReachable_yes hy, reachL_length, decide_eq_true rfl]
  simp only [Bool.and_self, Bool.true_and]
  rw [good_iff]
  have hat : ∀ i, i < h.cells.length → atB (deadL (reachL h.cells h.roots)) i = !reachB h.cells h.roots i := fun i hi => by
    unfold atB deadL
    rw [List.getD_eq_getElem?_getD, List.getElem?_map, reachL_at hi]; rfl
  have hget : ∀ i, i < h.cells.length → reachB h.cells h.roots i = true → (wipeP (atB (deadL (reachL h.cells h.roots))) h.cells h.cells.length)[i]? = h.cells[i]? := fun i hi hr => by
    rw [wipeP_get, if_pos hi, hat i hi, hr, List.getD_eq_getElem?_getD, List.getElem?_eq_getElem hi]; simp
  have key : ∀ r, leadsB h.cells r = true → (0 ≤ r → Rch h.cells (usedN h.cells) h.roots r.toNat) → leadsB (mDrop h (deadL (reachL h.cells h.roots))).cells r = true := fun r hr h1 => by
    rcases leadsB_iff.1 hr with e | ⟨h0, hu⟩
    · rw [e]; exact leadsB_nil _
    · rw [leadsB_iff]
      refine .inr ⟨h0, ?_⟩
      have hl := usedN_lt hu
      have hb : reachB h.cells h.roots r.toNat = true := by simpa [reachB] using h1 h0
      rw [usedN_def, List.getD_eq_getElem?_getD]
      show ((wipeP _ _ _)[r.toNat]?.getD noCel).used = true
      rw [hget _ hl hb]
      rw [usedN_def, List.getD_eq_getElem?_getD] at hu
      exact hu
  refine ⟨by simpa [mDrop, wipeP_len] using g.len, g.roots, fun c hc => ?_, fun r hr => ?_⟩
  · obtain ⟨i, hi⟩ := List.getElem?_of_mem hc
    have hi' : (wipeP (atB (deadL (reachL h.cells h.roots))) h.cells h.cells.length)[i]? = some c := hi
    rw [wipeP_get] at hi'
    split at hi'
    · rename_i hl
      injection hi' with hi'
      by_cases hr : reachB h.cells h.roots i = true
      · rw [hat i hl, hr] at hi'
        simp only [Bool.not_true, Bool.and_false, Bool.false_eq_true, if_false] at hi'
        have hc' : h.cells[i]? = some c := by rw [← hi', List.getD_eq_getElem?_getD, List.getElem?_eq_getElem hl]; rfl
        have hok := g.cell c (List.mem_of_getElem? hc')
        rw [cellOk_iff] at hok ⊢
        rcases hok with ⟨k1, k2, k3⟩ | hok
        · refine .inl ⟨k1, fun r hm => key r (k2 r hm) fun h0 => ?_, k3⟩
          rcases leadsB_iff.1 (k2 r hm) with e | ⟨-, hu⟩
          · omega
          · have hrc : Rch h.cells (usedN h.cells) h.roots i := by simpa [reachB] using hr
            exact .step hrc hc' hm h0 hu
        · exact .inr hok
      · rw [hat i hl, Bool.eq_false_iff.2 hr] at hi'
        simp only [Bool.not_false, Bool.and_true, decide_eq_true hl, if_true] at hi'
        rw [← hi']; rfl
    · cases hi'
  · refine key r (g.lead r hr) fun h0 => ?_
    rcases leadsB_iff.1 (g.lead r hr) with e | ⟨-, hu⟩
    · omega
    · exact .base hr h0 hu
/-! ### append, of truth values -/
section
variable {lo : Nat} {w0 w w' : World} {L : List OB}
theorem run_pushOB (h : Owns lo w0 w L) (i : Nat) {v : Value} {xs : List Bool} (hX : L[i]? = some (.bools v xs)) {B : Nat} {A : Option Addr} {n c : Nat} {ys : List Bool} (hr : RdB w B A n c ys) (hb : xs.length + n ≤ 1099511627776) (ty : TypeId) :
    ∃ A' c' w', (Builtin.append_ #[59, 59] ty #[v, .slice A n c]).run Try.prog w = .ok (.slice A' (xs ++ ys).length c') w' ∧ Owns lo w0 w' (L.set i (.bools (.slice A' (xs ++ ys).length c') (xs ++ ys))) := by
  obtain ⟨i0, hi, hz0, hz1, hz2⟩ := info_parts Try.infoBool
  obtain ⟨v', w', hrun, ho, hg, hat⟩ := run_pushV Try.underlying59 hi hz0 hz1 hz2 rfl (by omega) (h.own i hX) hr (mapB_oneCell ys) (by simpa using hb) h.le ty
  have hl : xs.length + n = (xs ++ ys).length := by have := RdB.le1 hr; have := RdB.le2 hr; simp; omega
  rw [hl, ← List.map_append] at ho
  obtain ⟨A', c', rfl, -⟩ := OwB.form ⟨ho, fun k e => (ho.lt k e).2⟩
  exact ⟨A', c', w', hrun, h.grow i hX ho hg hat⟩
theorem wpList_pushBO {ops : Array Oper} {rest : List Oper} {o : Oper} {a : Act} {Q : Exit → Act → World → Prop} (hgd : o.guard = none) (s x : Operand)
    (hop : o.op = .call { callee := .builtin .append, args := #[s, x], argTypes := #[59, 59] })
    (h : Owns lo w0 w L) (i : Nat) {v : Value} {xs : List Bool} (hX : L[i]? = some (.bools v xs)) (hs : a.eval s = v) {B : Nat} {A : Option Addr} {n c : Nat} {ys : List Bool} (hx : a.eval x = .slice A n c) (hr : RdB w B A n c ys) (hb : xs.length + n ≤ 1099511627776)
    (hK : ∀ A' c' w', Owns lo w0 w' (L.set i (.bools (.slice A' (xs ++ ys).length c') (xs ++ ys))) → wpList Try.prog ops Q rest (a.put o.dst (.slice A' (xs ++ ys).length c')) w') : wpList Try.prog ops Q (o :: rest) a w :=
  wpList_plain hgd fun _ hK' => by
    obtain ⟨A', c', w', hrun, hO⟩ := run_pushOB h i hX hr hb o.type
    unfold Oper.wp execOp
    simp only [hop, resolve, invoke, builtin, Sem.run_bind, Sem.run_pure, Result.andThen_ok, List.map_toArray, List.map_cons, List.map_nil, hs, hx, hrun]
    exact hK' _ _ (hK A' c' w' hO)
theorem Owns.litB (h : Owns lo w0 w L) (xs : List Bool) (hm : xs.length ≤ maxLen) : Owns lo w0 (w.alloc (.cells (xs.map Value.bool).toArray 4)) (.bools (.slice (some ⟨w.heap.size, 0, none⟩) xs.length xs.length) xs :: L) := by
  have := h.lit (xs.map Value.bool) 4 (by simpa using hm)
  simpa using this
end
/-! ### Cells are given back -/
set_option maxHeartbeats 1600000 in
set_option maxRecDepth 20000 in
theorem l11Drop_any (w : World) (B B' : Nat) (v : Value) (h : Hp) (A : Option Addr) (n c : Nat) (ds : List Bool) (hh : RdH w B v h) (hr : RdB w B' A n c ds) (hn : n = h.cells.length) (h1 : h.cells.length ≤ 1048576) (h2 : h.roots.length ≤ 1048576) (h3 : ∀ c ∈ h.cells, c.refs.length ≤ 1048576) :
    Calls Try.prog 103 #[v, .slice A n c] w (MadeHp w (mDrop h ds)) := by
  have hh' := hh.top
  have hr := hr.top
  subst hn
  have hm := Nat.le_trans hr.cap hr.mx
  unfold maxLen at hm
  obtain ⟨D, m, d, D', m', d', rfl, hC, hR⟩ := hh.top
  obtain rfl := hC.len
  obtain rfl : m' = h.roots.length := by have := RdI.le1 hR; have := RdI.le2 hR; omega
  have H := ((Owns.nil w).box [.slice D h.cells.length d, .slice D' h.roots.length d'] 32).box [.slice none 0 0, .slice none 0 0] 32
  simp only [World.size_alloc] at H
  obtain ⟨a0, a1, -, -⟩ := H.box2 1 rfl
  have HN3 := Go.Lib.hid h3
  clear h3
  go_enter Try.func103, Try.ntmps103
  go_wp2_with fail
  refine (l7Copy_any _ _ _ h (hh'.below H.below) h1 h2 HN3.out).mono ?_
  rintro e w1 ⟨v1, rfl, ho, hb⟩
  obtain ⟨cv, rvs, rv, rfl, K⟩ := H.madeH ho hb
  obtain ⟨C, kC, rfl, -⟩ := K.formC 0 rfl
  obtain ⟨R, kR, rfl, -⟩ := K.formI 1 rfl
  clear H ho hb a0 a1
  have H2 := K.box [.slice C h.cells.length kC, .slice R h.roots.length kR] 32
  clear K
  have H3 := H2.take 4
  clear H2
  go_wp2_with fail
  go_loopw [6] (fun i wr => ∃ (k : Nat) (rvs : List Value), i = .int .i64 k ∧ k ≤ h.cells.length ∧ Owns w.heap.size w wr [.box w1.heap.size [.slice C h.cells.length kC, .slice R h.roots.length kR] 32, .cells (.slice C h.cells.length kC) rvs (wipeP (atB ds) h.cells k), .ints (.slice R h.roots.length kR) h.roots, .box (w.heap.size + 1) [.slice none 0 0, .slice none 0 0] 32]) (fun i _ => h.cells.length - (intOf i).toNat)
  case atStart => exact ⟨0, rvs, rfl, Nat.zero_le _, by rw [wipeP_zero]; exact H3⟩
  case round =>
    clear H3
    obtain ⟨k, rvs, rfl, hk, H⟩ := hrel
    obtain ⟨x0, x1, -, -⟩ := H.box2 0 rfl
    by_cases hlt : k < h.cells.length
    · obtain ⟨b, o, x, rfl, hbb, hx, q1⟩ := RdB.at_ hr hlt
      have q2 := H.ro q1 hbb
      obtain ⟨l, hl⟩ : ∃ l, Hid (h.cells[k]? = some l) := ⟨_, Go.Lib.hid (List.getElem?_eq_getElem hlt)⟩
      have hP : atB ds k = x := getD_of hx
      cases x
      · have HE := Go.Lib.hid (wipeP_no (cs := h.cells) hP)
        clear hP q1
        go_wp2_with fail
        go_roundw
        case rel => exact ⟨k + 1, rvs, by go_num, by omega, by rw [HE.out]; exact H⟩
        case measure => simp [intOf]; omega
      · have HE := Go.Lib.hid (wipeP_yes (cs := h.cells) hP)
        clear hP q1
        obtain ⟨gC, cC, A2, c2, eC, -, y0, y1, y2, z0, z1, z2, -, -⟩ := H.cellW 1 rfl (Go.Lib.hid (wipeP_at (P := atB ds) hl))
        rw [wipeP_len] at eC
        simp only [Value.slice.injEq] at eC
        obtain ⟨rfl, -, rfl⟩ := eC
        have H5 := H.wipe 1 rfl (wipeP_len _ _ _).symm k (by rw [wipeP_len]; exact hlt)
        simp only [List.set_cons_zero, List.set_cons_succ] at H5
        rw [← HE.out] at H5
        clear H HE
        go_wp2_with fail
        go_roundw
        case rel => exact ⟨k + 1, _, by go_num, by omega, H5⟩
        case measure => simp [intOf]; omega
    · obtain rfl : k = h.cells.length := by omega
      have HE : Hid (wipeP (atB ds) h.cells h.cells.length = (mDrop h ds).cells) := Go.Lib.hid rfl
      have HE2 : Hid (h.roots = (mDrop h ds).roots) := Go.Lib.hid rfl
      obtain ⟨y0, y1, y2, y3⟩ := H.box2 3 rfl
      have HZ := (H.putBox 3 rfl 0 (.slice C h.cells.length kC)).putBox 3 rfl 1 (.slice R h.roots.length kR)
      simp only [List.set_cons_zero, List.set_cons_succ] at HZ
      obtain ⟨z0, z1, -, -⟩ := HZ.box2 3 rfl
      obtain ⟨z2, -, -, -⟩ := (H.putBox 3 rfl 0 (.slice C h.cells.length kC)).box2 3 rfl
      have HS : Hid (MadeHp w (mDrop h ds) (.returned (.agg #[.slice C h.cells.length kC, .slice R h.roots.length kR])) _) := Go.Lib.hid ⟨_, rvs, _, rfl, HZ.order [1, 2] (by decide) rfl⟩
      clear H HZ HE HE2
      go_wp2
      exact bodyPost_ret (v := .agg #[.slice C h.cells.length kC, .slice R h.roots.length kR]) (by simp [results, Try.results103, go_sem, z0, z1]) rfl HS.out
/-- A call makes a heap, and tells a number. -/
def MadeHN (w : World) (h : Hp) (n : Int) (e : Ending) (w' : World) : Prop :=
  ∃ cv rvs rv, e = .returned (.tuple #[.agg #[cv, rv], .int .i64 n]) ∧ Owns w.heap.size w w' [.cells cv rvs h.cells, .ints rv h.roots]
theorem rdB_new' (w : World) (x : Bool) : RdB (w.alloc (.cells #[.bool x] 4)) (w.alloc (.cells #[.bool x] 4)).heap.size (some ⟨w.heap.size, 0, none⟩) 1 1 [x] := rdB_one (heap1 w _) (Nat.le_refl _) one_le_maxLen
theorem deadL_snoc {ms : List Bool} {k : Nat} {x : Bool} (h : Hid (ms[k]? = some x)) : deadL (ms.take (k + 1)) = deadL (ms.take k) ++ [!x] := by
  unfold deadL; rw [take_snoc' h, List.map_append]; rfl
theorem lostB_at {h : Hp} {ms : List Bool} {k : Nat} {x : Bool} {l : Cel} (hx : Hid (ms[k]? = some x)) (hl : Hid (h.cells[k]? = some l)) : lostS h ms k = (!x && l.used) := by
  unfold lostS atB usedN; rw [getD_of hx, getD_of hl]
set_option maxHeartbeats 3200000 in
set_option maxRecDepth 20000 in
theorem specSweepCells_any (w : World) (B B' : Nat) (v : Value) (h : Hp) (A : Option Addr) (n c : Nat) (ms : List Bool) (hh : RdH w B v h) (hr : RdB w B' A n c ms) :
    Calls Try.prog 96 #[v, .slice A n c] w (MadeHN w (mSweepH h ms) (mSweepN h ms)) := by
  have hh' := hh.top
  have hr := hr.top
  obtain rfl : n = ms.length := by have := RdB.le1 hr; have := RdB.le2 hr; omega
  have hm := Nat.le_trans hr.cap hr.mx
  unfold maxLen at hm
  obtain ⟨D, m, d, D', m', d', rfl, hC, hR⟩ := hh.top
  obtain rfl := hC.len
  obtain rfl : m' = h.roots.length := by have := RdI.le1 hR; have := RdI.le2 hR; omega
  have H := ((Owns.nil w).box [.slice D h.cells.length d, .slice D' h.roots.length d'] 32).box [.slice none 0 0, .slice none 0 0] 32
  simp only [World.size_alloc] at H
  obtain ⟨a0, a1, -, -⟩ := H.box2 1 rfl
  go_enter Try.func96, Try.ntmps96
  go_wp2_with fail
  refine (specHeapValid_any _ _ _ h (hh'.below H.below)).mono ?_
  rintro e w1 ⟨rfl, hb⟩
  replace H := H.call hb
  clear hb a0 a1
  obtain ⟨a0, a1, -, -⟩ := H.box2 1 rfl
  obtain ⟨y0, y1, y2, y3⟩ := H.box2 0 rfl
  cases hy : heapOk h
  · have hs : sweepOk h ms = false := by simp [sweepOk, hy]
    have HF := Go.Lib.hid (mSweep_no hs)
    clear hy hs
    have HZ := (((H.putBox 0 rfl 0 (.slice none 0 0)).putBox 0 rfl 1 (.slice none 0 0)).noInts).noCells
    simp only [List.set_cons_zero, List.set_cons_succ] at HZ
    obtain ⟨z0, z1, -, -⟩ := HZ.box2 2 rfl
    have HS : Hid (MadeHN w (mSweepH h ms) (mSweepN h ms) (.returned (.tuple #[.agg #[.slice none 0 0, .slice none 0 0], .int .i64 (-1)])) _) := Go.Lib.hid (by rw [HF.out.1, HF.out.2]; exact ⟨_, [], _, rfl, HZ.take 2⟩)
    clear H HZ
    go_wp2
    exact bodyPost_ret (v := .tuple #[.agg #[.slice none 0 0, .slice none 0 0], .int .i64 (-1)]) (by simp [results, Try.results96, go_sem, z0, z1]) rfl HS.out
  by_cases hl : ms.length = h.cells.length
  rotate_left
  · have hs : sweepOk h ms = false := by simp [sweepOk, hl]
    have HF := Go.Lib.hid (mSweep_no hs)
    have k1 : ((ms.length : Int) != (h.cells.length : Int)) = true := by simp; omega
    clear hy hs hl
    have HZ := (((H.putBox 0 rfl 0 (.slice none 0 0)).putBox 0 rfl 1 (.slice none 0 0)).noInts).noCells
    simp only [List.set_cons_zero, List.set_cons_succ] at HZ
    obtain ⟨z0, z1, -, -⟩ := HZ.box2 2 rfl
    have HS : Hid (MadeHN w (mSweepH h ms) (mSweepN h ms) (.returned (.tuple #[.agg #[.slice none 0 0, .slice none 0 0], .int .i64 (-1)])) _) := Go.Lib.hid (by rw [HF.out.1, HF.out.2]; exact ⟨_, [], _, rfl, HZ.take 2⟩)
    clear H HZ
    go_wp2
    exact bodyPost_ret (v := .tuple #[.agg #[.slice none 0 0, .slice none 0 0], .int .i64 (-1)]) (by simp [results, Try.results96, go_sem, z0, z1]) rfl HS.out
  have g := good_iff.1 hy
  have hl40 := g.len
  have hr4 : h.roots.length ≤ 4 := by have := g.roots; omega
  have HN3 := Go.Lib.hid (good_small g)
  have HOK := Go.Lib.hid (show sweepOk h ms = heapOk (mDrop h (deadL ms)) by simp [sweepOk, hy, hl])
  have k1 : ((ms.length : Int) != (h.cells.length : Int)) = false := by simp; omega
  have HL := Go.Lib.hid hl
  have hle1 : ms.length ≤ h.cells.length := by omega
  have hle2 : h.cells.length ≤ ms.length := by omega
  clear hy g hl
  have H2 := H.litB [] zero_le_maxLen
  simp only [List.map_nil, List.length_nil] at H2
  go_wp2_with fail
  clear H a0 a1 y0 y1 y2 y3
  go_loopw [6, 7, 8] (fun v6 v7 i wr => ∃ (v : Value) (k : Nat), v6 = v ∧ i = .int .i64 k ∧ k ≤ ms.length ∧ v7 = .int .i64 (cntP (lostS h ms) k : Nat) ∧ Owns w.heap.size w wr [.bools v (deadL (ms.take k)), .box (w.heap.size + 1) [.slice none 0 0, .slice none 0 0] 32, .box w.heap.size [.slice D h.cells.length d, .slice D' h.roots.length d'] 32]) (fun _ _ i _ => ms.length - (intOf i).toNat)
  case atStart => exact ⟨_, 0, rfl, rfl, Nat.zero_le _, rfl, H2⟩
  case round =>
    clear H2
    obtain ⟨v, k, hv, rfl, hk, rfl, H⟩ := hrel
    obtain rfl := hv.symm
    obtain ⟨a0, a1, -, -⟩ := H.box2 2 rfl
    have hcl := cntP_le (lostS h ms) k
    by_cases hlt : k < ms.length
    · obtain ⟨b, o, x, rfl, hbb, hx, q1⟩ := RdB.at_ hr hlt
      obtain ⟨b2, o2, l, A2, n2, c2, rfl, hbb2, hxl, u1, -, -, -⟩ := hC.at_ (show k < h.cells.length by omega)
      have q2 := H.ro q1 hbb
      have HD := Go.Lib.hid (deadL_snoc hx)
      have hlo := lostB_at hx hxl
      have hdl : (deadL (ms.take k)).length = k := by simp [deadL]; omega
      have HDL := Go.Lib.hid hdl
      clear hdl
      generalize l.used = u at *
      cases x
      · cases u
        · have HC := Go.Lib.hid (cntP_no (show lostS h ms k = false from hlo))
          clear hlo
          have H3 := H.litB [true] one_le_maxLen
          simp only [List.map_cons, List.map_nil, List.length_cons, List.length_nil, Nat.zero_add] at H3
          go_wp2_with (at_builtin; go_loud (refine wpList_pushBO rfl (.tmp 29) (.tmp 35) rfl H3 1 rfl rfl rfl (rdB_new' _ _) (by rw [HDL.out]; simp; omega) ?_; intro A3 k3 w3 H4; simp only [List.set_cons_zero, List.set_cons_succ] at H4; obtain ⟨e0, e1, -, -⟩ := H4.box2 3 rfl; have q3 := H4.ro q1 hbb; have u3 := H4.ro u1 hbb2))
          have H5 := H4.erase 0
          simp only [List.eraseIdx_cons_zero, List.length_append, List.length_cons, List.length_nil, Nat.zero_add] at H5
          go_roundw
          case rel => exact ⟨_, k + 1, rfl, by go_num, by omega, by rw [HC.out], by rw [HD.out]; simpa using H5⟩
          case measure => simp [intOf]; omega
        · have HC := Go.Lib.hid (cntP_yes (show lostS h ms k = true from hlo))
          clear hlo
          have H3 := H.litB [true] one_le_maxLen
          simp only [List.map_cons, List.map_nil, List.length_cons, List.length_nil, Nat.zero_add] at H3
          go_wp2_with (at_builtin; go_loud (refine wpList_pushBO rfl (.tmp 29) (.tmp 35) rfl H3 1 rfl rfl rfl (rdB_new' _ _) (by rw [HDL.out]; simp; omega) ?_; intro A3 k3 w3 H4; simp only [List.set_cons_zero, List.set_cons_succ] at H4; obtain ⟨e0, e1, -, -⟩ := H4.box2 3 rfl; have q3 := H4.ro q1 hbb; have u3 := H4.ro u1 hbb2))
          have H5 := H4.erase 0
          simp only [List.eraseIdx_cons_zero, List.length_append, List.length_cons, List.length_nil, Nat.zero_add] at H5
          go_roundw
          case rel => exact ⟨_, k + 1, rfl, by go_num, by omega, by rw [HC.out]; go_num, by rw [HD.out]; simpa using H5⟩
          case measure => simp [intOf]; omega
      · have HC := Go.Lib.hid (cntP_no (show lostS h ms k = false from hlo))
        clear hlo
        have H3 := H.litB [false] one_le_maxLen
        simp only [List.map_cons, List.map_nil, List.length_cons, List.length_nil, Nat.zero_add] at H3
        go_wp2_with (at_builtin; go_loud (refine wpList_pushBO rfl (.tmp 29) (.tmp 35) rfl H3 1 rfl rfl rfl (rdB_new' _ _) (by rw [HDL.out]; simp; omega) ?_; intro A3 k3 w3 H4; simp only [List.set_cons_zero, List.set_cons_succ] at H4; obtain ⟨e0, e1, -, -⟩ := H4.box2 3 rfl; have q3 := H4.ro q1 hbb; have u3 := H4.ro u1 hbb2))
        have H5 := H4.erase 0
        simp only [List.eraseIdx_cons_zero, List.length_append, List.length_cons, List.length_nil, Nat.zero_add] at H5
        go_roundw
        case rel => exact ⟨_, k + 1, rfl, by go_num, by omega, by rw [HC.out], by rw [HD.out]; simpa using H5⟩
        case measure => simp [intOf]; omega
    · obtain rfl : k = ms.length := by omega
      rw [List.take_length] at H
      have HK : Hid (cntP (lostS h ms) ms.length = cntP (lostS h ms) h.cells.length) := Go.Lib.hid (by rw [HL.out])
      obtain ⟨V, kV, rfl, rV⟩ := H.formB 0 rfl
      have hdl : (deadL ms).length = h.cells.length := by simp [deadL]; omega
      have HDL := Go.Lib.hid hdl
      clear hdl
      generalize hds : deadL ms = ds at *
      have HDS := Go.Lib.hid hds
      clear hds
      go_wp2_with fail
      refine (l11Drop_any _ _ _ _ h _ _ _ ds (hh'.below H.below) rV HDL.out (by omega) (by omega) HN3.out).mono ?_
      rintro e w5 ⟨cv, rvs, rv, rfl, K⟩
      replace K := H.merge K
      simp only [List.cons_append, List.nil_append] at K
      obtain ⟨T, hT⟩ : ∃ T, T = mDrop h ds := ⟨_, rfl⟩
      rw [← hT] at K
      have HT := Go.Lib.hid hT
      clear hT H a0 a1
      obtain ⟨C, kC, rfl, -⟩ := K.formC 0 rfl
      obtain ⟨R, kR, rfl, -⟩ := K.formI 1 rfl
      have H6 := K.box [.slice C T.cells.length kC, .slice R T.roots.length kR] 32
      clear K
      obtain ⟨x0, x1, -, -⟩ := H6.box2 0 rfl
      go_wp2_with fail
      refine (specHeapValid_any _ _ _ T (H6.rdH 1 2 rfl rfl)).mono ?_
      rintro e w6 ⟨rfl, hb⟩
      replace H6 := H6.call hb
      clear hb x0 x1
      obtain ⟨x0, x1, -, -⟩ := H6.box2 0 rfl
      obtain ⟨y0, y1, y2, y3⟩ := H6.box2 4 rfl
      cases hy : heapOk T
      · have HF := Go.Lib.hid (mSweep_no (h := h) (ms := ms) (by rw [HOK.out, ← HT.out, hy]))
        clear hy
        have HZ := (((H6.putBox 4 rfl 0 (.slice none 0 0)).putBox 4 rfl 1 (.slice none 0 0)).noInts).noCells
        simp only [List.set_cons_zero, List.set_cons_succ] at HZ
        obtain ⟨z0, z1, -, -⟩ := HZ.box2 6 rfl
        have HS : Hid (MadeHN w (mSweepH h ms) (mSweepN h ms) (.returned (.tuple #[.agg #[.slice none 0 0, .slice none 0 0], .int .i64 (-1)])) _) := Go.Lib.hid (by rw [HF.out.1, HF.out.2]; exact ⟨_, [], _, rfl, HZ.take 2⟩)
        clear H6 HZ
        go_wp2
        exact bodyPost_ret (v := .tuple #[.agg #[.slice none 0 0, .slice none 0 0], .int .i64 (-1)]) (by simp [results, Try.results96, go_sem, z0, z1]) rfl HS.out
      · have HF := Go.Lib.hid (mSweep_yes (h := h) (ms := ms) (by rw [HOK.out, ← HT.out, hy]))
        clear hy
        have HZ := (H6.putBox 4 rfl 0 (.slice C T.cells.length kC)).putBox 4 rfl 1 (.slice R T.roots.length kR)
        simp only [List.set_cons_zero, List.set_cons_succ] at HZ
        obtain ⟨z0, z1, -, -⟩ := HZ.box2 4 rfl
        obtain ⟨z2, -, -, -⟩ := (H6.putBox 4 rfl 0 (.slice C T.cells.length kC)).box2 4 rfl
        have HS : Hid (MadeHN w (mSweepH h ms) (mSweepN h ms) (.returned (.tuple #[.agg #[.slice C T.cells.length kC, .slice R T.roots.length kR], .int .i64 (cntP (lostS h ms) ms.length : Nat)])) _) := Go.Lib.hid (by rw [HF.out.1, HF.out.2, HK.out, HDS.out, ← HT.out]; exact ⟨_, rvs, _, rfl, HZ.order [1, 2] (by decide) rfl⟩)
        clear H6 HZ
        go_wp2
        exact bodyPost_ret (v := .tuple #[.agg #[.slice C T.cells.length kC, .slice R T.roots.length kR], .int .i64 (cntP (lostS h ms) ms.length : Nat)]) (by simp [results, Try.results96, go_sem, z0, z1]) rfl HS.out
set_option maxHeartbeats 3200000 in
set_option maxRecDepth 20000 in
theorem specCollect_any (w : World) (B : Nat) (v : Value) (h : Hp) (hh : RdH w B v h) :
    Calls Try.prog 75 #[v] w (MadeHN w (mCollect h) (mCollectN h)) := by
  have hh' := hh.top
  obtain ⟨D, m, d, D', m', d', rfl, hC, hR⟩ := hh.top
  have H := ((Owns.nil w).box [.slice D m d, .slice D' m' d'] 32).box [.slice none 0 0, .slice none 0 0] 32
  simp only [World.size_alloc] at H
  go_enter Try.func75, Try.ntmps75
  go_wp2_with fail
  have HX := H.drew
  have H0 := Go.Lib.hid H
  clear H
  obtain ⟨a0, a1, -, -⟩ := HX.box2 1 rfl
  refine wp_region_tree (fun w' => w'.cell? ⟨w.heap.size, 0, none⟩ = some (.slice D m d) ∧ w'.cell? ⟨w.heap.size, 1, none⟩ = some (.slice D' m' d')) 8 [] (.take 0 (.take 1 (.alt 2 (.alt 3 (.take 4 (.take 5 (.alt 6 (.take 7 (.done)) (.stop)))) (.stop)) (.stop)))) (by kernel_rfl) (by kernel_rfl) (by kernel_rfl) (⟨a0, a1⟩) ?_
  simp only [fillT, List.getElem?_cons_zero, List.getElem?_cons_succ, Nat.reduceBEq]
  repeat (first
    | (with_reducible refine po_take (v := ?_) ?_ (fun w' hS' => ?_) ?_
       rotate_left
       · (go_simp; done)
       · ((try dsimp only at hS'); go_simp; try with_reducible rfl)
       simp only [Act.put, List.setIfInBounds_toArray, List.set_cons_zero, List.set_cons_succ])
    | (with_reducible refine po_skip ?_ ?_
       · (go_simp; done)
       simp only [Act.put, List.setIfInBounds_toArray, List.set_cons_zero, List.set_cons_succ]))
  with_reducible refine po_run ?_ (fun K hK => ?_) ?_
  · (go_simp; done)
  rotate_left
  · exact po_stop
  go_simp
  refine (specReachable_any _ _ _ h (hh'.below HX.below)).mono ?_
  rintro e w1 ⟨vR, rfl, ho, hb⟩
  replace HX := HX.madeB ho hb
  obtain ⟨V, kV, rfl, rV⟩ := HX.formB 0 rfl
  clear a0 a1 ho hb
  obtain ⟨a0, a1, -, -⟩ := HX.box2 2 rfl
  refine hK.out _ _ (.inr (⟨a0, a1⟩)) ?_
  clear hK K
  with_reducible refine po_run ?_ (fun K hK => ?_) ?_
  · (go_simp; done)
  rotate_left
  · exact po_stop
  go_simp
  refine (specSweepCells_any _ _ _ _ h _ _ _ _ (hh'.below HX.below) rV).mono ?_
  rintro e w2 ⟨cv, rvs, rv, rfl, K⟩
  replace K := HX.merge K
  simp only [List.cons_append, List.nil_append] at K
  obtain ⟨T, hT⟩ : ∃ T, T = mSweepH h (mReachable h) := ⟨_, rfl⟩
  rw [← hT] at K
  have HT : Hid (T = mCollect h) := Go.Lib.hid hT
  have HN : Hid (mSweepN h (mReachable h) = mCollectN h) := Go.Lib.hid rfl
  rw [HN.out]
  clear hT HX
  have HX := K
  clear K
  obtain ⟨C, kC, rfl, -⟩ := HX.formC 0 rfl
  obtain ⟨R, kR, rfl, -⟩ := HX.formI 1 rfl
  clear a0 a1
  obtain ⟨a0, a1, -, -⟩ := HX.box2 4 rfl
  refine hK.out _ _ (.inr (⟨a0, a1⟩)) ?_
  clear hK K
  repeat (first
    | (with_reducible refine po_take (v := ?_) ?_ (fun w' hS' => ?_) ?_
       rotate_left
       · (go_simp; done)
       · ((try dsimp only at hS'); go_simp; try with_reducible rfl)
       simp only [Act.put, List.setIfInBounds_toArray, List.set_cons_zero, List.set_cons_succ])
    | (with_reducible refine po_skip ?_ ?_
       · (go_simp; done)
       simp only [Act.put, List.setIfInBounds_toArray, List.set_cons_zero, List.set_cons_succ]))
  with_reducible refine po_run ?_ (fun K hK => ?_) ?_
  · (go_simp; done)
  rotate_left
  · exact po_stop
  obtain ⟨y0, y1, y2, y3⟩ := HX.box2 3 rfl
  go_simp
  have HZ := (HX.putBox 3 rfl 0 (.slice C T.cells.length kC)).putBox 3 rfl 1 (.slice R T.roots.length kR)
  simp only [List.set_cons_zero, List.set_cons_succ] at HZ
  clear a0 a1
  obtain ⟨a0, a1, -, -⟩ := HZ.box2 4 rfl
  refine hK.out _ _ (.inr (⟨a0, a1⟩)) ?_
  clear hK K
  repeat (first
    | (with_reducible refine po_take (v := ?_) ?_ (fun w' hS' => ?_) ?_
       rotate_left
       · (go_simp; done)
       · ((try dsimp only at hS'); go_simp; try with_reducible rfl)
       simp only [Act.put, List.setIfInBounds_toArray, List.set_cons_zero, List.set_cons_succ])
    | (with_reducible refine po_skip ?_ ?_
       · (go_simp; done)
       simp only [Act.put, List.setIfInBounds_toArray, List.set_cons_zero, List.set_cons_succ]))
  refine po_done ?_
  obtain ⟨z0, z1, -, -⟩ := HZ.box2 3 rfl
  have HS : Hid (MadeHN w (mCollect h) (mCollectN h) (.returned (.tuple #[.agg #[.slice C T.cells.length kC, .slice R T.roots.length kR], .int .i64 (mCollectN h)])) _) := Go.Lib.hid (by rw [← HT.out]; exact ⟨_, rvs, _, rfl, HZ.take 2⟩)
  clear HX HZ H0 a0 a1
  go_wp2
  exact bodyPost_ret (v := .tuple #[.agg #[.slice C T.cells.length kC, .slice R T.roots.length kR], .int .i64 (mCollectN h)]) (by simp [results, Try.results75, go_sem, z0, z1]) rfl HS.out
theorem mCollect_good {h : Hp} (g : Good h) : Good (mCollect h) := by
  have hs := collect_good g
  have hs' := hs
  unfold sweepOk at hs'
  simp only [Bool.and_eq_true] at hs'
  unfold mCollect
  rw [(mSweep_yes hs).1]
  exact good_iff.1 hs'.2
end Go.Proofs.Ytpafdaooddbpkaa
