/- Sweeping by the reference: cells that are not marked are freed; the collection by what can be reached. For everything that can be read. -/
import Derived.Test.YtdkpfggfkhnjfaaRn
import Derived.Test.YtdkpfggfkhnjfaaZ1
namespace Go.Proofs.Ytdkpfggfkhnjfaa
open Go.RowKit
/-! ### In plain words -/
def wipeP (P : Nat → Bool) (cs : List Cel) (k : Nat) : List Cel := (List.range cs.length).map fun i => if decide (i < k) && P i then noCel else cs.getD i noCel
def cntP (P : Nat → Bool) (k : Nat) : Nat := ((List.range k).filter P).length
section
variable {P : Nat → Bool} {cs : List Cel} {k : Nat}
theorem wipeP_len (P : Nat → Bool) (cs : List Cel) (k : Nat) : (wipeP P cs k).length = cs.length := by simp [wipeP]
theorem wipeP_zero (P : Nat → Bool) (cs : List Cel) : wipeP P cs 0 = cs := by
  apply List.ext_getElem (by simp [wipeP])
  intro i h1 h2
  simp [wipeP, List.getD_eq_getElem?_getD, List.getElem?_eq_getElem h2]
theorem wipeP_get (P : Nat → Bool) (cs : List Cel) (k i : Nat) : (wipeP P cs k)[i]? = if i < cs.length then some (if decide (i < k) && P i then noCel else cs.getD i noCel) else none := by
  unfold wipeP
  rw [List.getElem?_map]
  by_cases h : i < cs.length
  · rw [if_pos h, List.getElem?_range h]; rfl
  · rw [if_neg h, List.getElem?_eq_none (by simp; omega)]; rfl
theorem wipeP_at {l : Cel} (h : Hid (cs[k]? = some l)) : (wipeP P cs k)[k]? = some l := by
  obtain ⟨hk, rfl⟩ := List.getElem?_eq_some_iff.1 h.out
  rw [wipeP_get, if_pos hk]
  simp [List.getD_eq_getElem?_getD, List.getElem?_eq_getElem hk]
theorem wipeP_no (h : P k = false) : wipeP P cs (k + 1) = wipeP P cs k := by
  apply List.map_congr_left
  intro i _
  by_cases e : i = k
  · subst e; simp [h]
  · have : decide (i < k + 1) = decide (i < k) := decide_eq_decide.2 (by omega)
    simp only [this]
theorem wipeP_yes (h : P k = true) : wipeP P cs (k + 1) = (wipeP P cs k).set k noCel := by
  apply List.ext_getElem?
  intro i
  rw [List.getElem?_set, wipeP_get, wipeP_get, wipeP_len]
  by_cases e : k = i
  · subst e
    by_cases hl : k < cs.length
    · simp [h, hl]
    · simp [hl]
  · have : decide (i < k + 1) = decide (i < k) := decide_eq_decide.2 (by omega)
    rw [if_neg e, this]
theorem cntP_no (h : P k = false) : cntP P (k + 1) = cntP P k := by simp [cntP, List.range_succ, List.filter_append, h]
theorem cntP_yes (h : P k = true) : cntP P (k + 1) = cntP P k + 1 := by simp [cntP, List.range_succ, List.filter_append, h]
theorem cntP_le (P : Nat → Bool) (k : Nat) : cntP P k ≤ k := by
  unfold cntP
  have := List.length_filter_le P (List.range k)
  simpa using this
end
def atB (ds : List Bool) (i : Nat) : Bool := ds.getD i false
def mDrop (h : Hp) (ds : List Bool) : Hp := ⟨wipeP (atB ds) h.cells h.cells.length, h.roots⟩
def deadL (ms : List Bool) : List Bool := ms.map (!·)
def lostS (h : Hp) (ms : List Bool) (i : Nat) : Bool := !atB ms i && usedN h.cells i
def sweepOk (h : Hp) (ms : List Bool) : Bool := heapOk h && decide (ms.length = h.cells.length) && heapOk (mDrop h (deadL ms))
def mSweepH (h : Hp) (ms : List Bool) : Hp := if sweepOk h ms then mDrop h (deadL ms) else ⟨[], []⟩
def mSweepN (h : Hp) (ms : List Bool) : Int := if sweepOk h ms then (cntP (lostS h ms) h.cells.length : Nat) else -1
noncomputable def mCollect (h : Hp) : Hp := mSweepH h (mReachable h)
noncomputable def mCollectN (h : Hp) : Int := mSweepN h (mReachable h)
theorem mSweep_yes {h : Hp} {ms : List Bool} (hs : sweepOk h ms = true) : mSweepH h ms = mDrop h (deadL ms) ∧ mSweepN h ms = (cntP (lostS h ms) h.cells.length : Nat) := by simp [mSweepH, mSweepN, hs]
theorem mSweep_no {h : Hp} {ms : List Bool} (hs : sweepOk h ms = false) : mSweepH h ms = ⟨[], []⟩ ∧ mSweepN h ms = -1 := by simp [mSweepH, mSweepN, hs]
/-- What can be reached may be kept alone. -/
theorem collect_good {h : Hp} (g : Good h) : sweepOk h (mReachable h) = true := by
  have hy := good_iff.2 g
  unfold sweepOk
  rw [hy, mReachable_yes hy, reachL_length, decide_eq_true rfl]
  simp only [Bool.and_self, Bool.true_and]
  rw [good_iff]
  have hat : ∀ i, i < h.cells.length → atB (deadL (reachL h.cells h.roots)) i = !reachB h.cells h.roots i := fun i hi => by
    unfold atB deadL
    rw [List.getD_eq_getElem?_getD, List.getElem?_map, reachL_at hi]; rfl
  have hget : ∀ i, i < h.cells.length → reachB h.cells h.roots i = true → (wipeP (atB (deadL (reachL h.cells h.roots))) h.cells h.cells.length)[i]? = h.cells[i]? := fun i hi hr => by
    rw [wipeP_get, if_pos hi, hat i hi, hr, List.getD_eq_getElem?_getD, List.getElem?_eq_getElem hi]; simp
  have key : ∀ r, leadsB h.cells r = true → (0 ≤ r → Rch h.cells (usedN h.cells) h.roots r.toNat) → leadsB (mDrop h (deadL (reachL h.cells h.roots))).cells r = true := fun r hr h1 => by
    rcases leadsB_iff.1 hr with e | ⟨h0, hu⟩
    · rw [e]; exact leadsB_nil _
    · rw [leadsB_iff]
      refine .inr ⟨h0, ?_⟩
      have hl := usedN_lt hu
      have hb : reachB h.cells h.roots r.toNat = true := by simpa [reachB] using h1 h0
      rw [usedN_def, List.getD_eq_getElem?_getD]
      show ((wipeP _ _ _)[r.toNat]?.getD noCel).used = true
      rw [hget _ hl hb]
      rw [usedN_def, List.getD_eq_getElem?_getD] at hu
      exact hu
  refine ⟨by simpa [mDrop, wipeP_len] using g.len, g.roots, fun c hc => ?_, fun r hr => ?_⟩
  · obtain ⟨i, hi⟩ := List.getElem?_of_mem hc
    have hi' : (wipeP (atB (deadL (reachL h.cells h.roots))) h.cells h.cells.length)[i]? = some c := hi
    rw [wipeP_get] at hi'
    split at hi'
    · rename_i hl
      injection hi' with hi'
      by_cases hr : reachB h.cells h.roots i = true
      · rw [hat i hl, hr] at hi'
        simp only [Bool.not_true, Bool.and_false, Bool.false_eq_true, if_false] at hi'
        have hc' : h.cells[i]? = some c := by rw [← hi', List.getD_eq_getElem?_getD, List.getElem?_eq_getElem hl]; rfl
        have hok := g.cell c (List.mem_of_getElem? hc')
        rw [cellOk_iff] at hok ⊢
        rcases hok with ⟨k1, k2, k3⟩ | hok
        · refine .inl ⟨k1, fun r hm => key r (k2 r hm) fun h0 => ?_, k3⟩
          rcases leadsB_iff.1 (k2 r hm) with e | ⟨-, hu⟩
          · omega
          · have hrc : Rch h.cells (usedN h.cells) h.roots i := by simpa [reachB] using hr
            exact .step hrc hc' hm h0 hu
        · exact .inr hok
      · rw [hat i hl, Bool.eq_false_iff.2 hr] at hi'
        simp only [Bool.not_false, Bool.and_true, decide_eq_true hl, if_true] at hi'
        rw [← hi']; rfl
    · cases hi'
  · refine key r (g.lead r hr) fun h0 => ?_
    rcases leadsB_iff.1 (g.lead r hr) with e | ⟨-, hu⟩
    · omega
    · exact .base hr h0 hu
/-! ### append, of truth values -/
section
variable {lo : Nat} {w0 w w' : World} {L : List OB}
theorem run_pushOB (h : Owns lo w0 w L) (i : Nat) {v : Value} {xs : List Bool} (hX : L[i]? = some (.bools v xs)) {B : Nat} {A : Option Addr} {n c : Nat} {ys : List Bool} (hr : RdB w B A n c ys) (hb : xs.length + n ≤ 1099511627776) (ty : TypeId) :
    ∃ A' c' w', (Builtin.append_ #[74, 74] ty #[v, .slice A n c]).run Try.prog w = .ok (.slice A' (xs ++ ys).length c') w' ∧ Owns lo w0 w' (L.set i (.bools (.slice A' (xs ++ ys).length c') (xs ++ ys))) := by
  obtain ⟨i0, hi, hz0, hz1, hz2⟩ := info_parts Try.infoBool
  obtain ⟨v', w', hrun, ho, hg, hat⟩ := run_pushV Try.underlying74 hi hz0 hz1 hz2 rfl (by omega) (h.own i hX) hr (mapB_oneCell ys) (by simpa using hb) h.le ty
  have hl : xs.length + n = (xs ++ ys).length := by have := RdB.le1 hr; have := RdB.le2 hr; simp; omega
  rw [hl, ← List.map_append] at ho
  obtain ⟨A', c', rfl, -⟩ := OwB.form ⟨ho, fun k e => (ho.lt k e).2⟩
  exact ⟨A', c', w', hrun, h.grow i hX ho hg hat⟩
theorem wpList_pushBO {ops : Array Oper} {rest : List Oper} {o : Oper} {a : Act} {Q : Exit → Act → World → Prop} (hgd : o.guard = none) (s x : Operand)
    (hop : o.op = .call { callee := .builtin .append, args := #[s, x], argTypes := #[74, 74] })
    (h : Owns lo w0 w L) (i : Nat) {v : Value} {xs : List Bool} (hX : L[i]? = some (.bools v xs)) (hs : a.eval s = v) {B : Nat} {A : Option Addr} {n c : Nat} {ys : List Bool} (hx : a.eval x = .slice A n c) (hr : RdB w B A n c ys) (hb : xs.length + n ≤ 1099511627776)
    (hK : ∀ A' c' w', Owns lo w0 w' (L.set i (.bools (.slice A' (xs ++ ys).length c') (xs ++ ys))) → wpList Try.prog ops Q rest (a.put o.dst (.slice A' (xs ++ ys).length c')) w') : wpList Try.prog ops Q (o :: rest) a w :=
  wpList_plain hgd fun _ hK' => by
    obtain ⟨A', c', w', hrun, hO⟩ := run_pushOB h i hX hr hb o.type
    unfold Oper.wp execOp
    simp only [hop, resolve, invoke, builtin, Sem.run_bind, Sem.run_pure, Result.andThen_ok, List.map_toArray, List.map_cons, List.map_nil, hs, hx, hrun]
    exact hK' _ _ (hK A' c' w' hO)
theorem Owns.litB (h : Owns lo w0 w L) (xs : List Bool) (hm : xs.length ≤ maxLen) : Owns lo w0 (w.alloc (.cells (xs.map Value.bool).toArray 4)) (.bools (.slice (some ⟨w.heap.size, 0, none⟩) xs.length xs.length) xs :: L) := by
  have := h.lit (xs.map Value.bool) 4 (by simpa using hm)
  simpa using this
end
/-! ### Cells are given back -/
/-- A call makes a heap, and tells a number. -/
def MadeHN (w : World) (h : Hp) (n : Int) (e : Ending) (w' : World) : Prop :=
  ∃ cv rvs rv, e = .returned (.tuple #[.agg #[cv, rv], .int .i64 n]) ∧ Owns w.heap.size w w' [.cells cv rvs h.cells, .ints rv h.roots]
theorem rdB_new' (w : World) (x : Bool) : RdB (w.alloc (.cells #[.bool x] 4)) (w.alloc (.cells #[.bool x] 4)).heap.size (some ⟨w.heap.size, 0, none⟩) 1 1 [x] := rdB_one (heap1 w _) (Nat.le_refl _) one_le_maxLen
theorem deadL_snoc {ms : List Bool} {k : Nat} {x : Bool} (h : Hid (ms[k]? = some x)) : deadL (ms.take (k + 1)) = deadL (ms.take k) ++ [!x] := by
  unfold deadL; rw [take_snoc' h, List.map_append]; rfl
theorem lostB_at {h : Hp} {ms : List Bool} {k : Nat} {x : Bool} {l : Cel} (hx : Hid (ms[k]? = some x)) (hl : Hid (h.cells[k]? = some l)) : lostS h ms k = (!x && l.used) := by
  unfold lostS atB usedN; rw [getD_of hx, getD_of hl]
theorem mCollect_good {h : Hp} (g : Good h) : Good (mCollect h) := by
  have hs := collect_good g
  have hs' := hs
  unfold sweepOk at hs'
  simp only [Bool.and_eq_true] at hs'
  unfold mCollect
  rw [(mSweep_yes hs).1]
  exact good_iff.1 hs'.2
end Go.Proofs.Ytdkpfggfkhnjfaa
