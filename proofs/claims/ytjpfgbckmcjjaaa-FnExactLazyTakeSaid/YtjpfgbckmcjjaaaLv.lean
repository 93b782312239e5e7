/- Plain laws on taking cells of a lazy heap: it stays valid, a program sees the same, and as many cells can be taken as are not marked. No program. -/
import Derived.Test.YtjpfgbckmcjjaaaLp
import Derived.Test.YtjpfgbckmcjjaaaUc
namespace Go.Proofs.Ytjpfgbckmcjjaaa
open Go.RowKit
structure LzOk (l : Lz) : Prop where
  ok : heapOk l.store = true
  len : l.marks.length = l.store.cells.length
  a0 : 0 ≤ l.at_
  a1 : l.at_ ≤ l.marks.length
  live : ∀ c, reachB l.store.cells l.store.roots c = true → atB l.marks c = true
  used : ∀ c, atB l.marks c = true → usedN l.store.cells c = true
  swept : ∀ c : Nat, (c : Int) < l.at_ → usedN l.store.cells c = true → atB l.marks c = true
theorem atB_lt {m : List Bool} {c : Nat} (h : atB m c = true) : c < m.length := by
  rcases Nat.lt_or_ge c m.length with q | q
  · exact q
  · unfold atB at h
    rw [List.getD_eq_getElem?_getD, List.getElem?_eq_none q] at h; cases h
theorem reachB_lt {cs : List Cel} {fr : List Int} {c : Nat} (h : reachB cs fr c = true) : c < cs.length := by
  simp only [reachB, decide_eq_true_eq] at h
  exact usedN_lt h.inS
theorem lzOk_iff {l : Lz} : mLzValid l = true ↔ LzOk l := by
  unfold mLzValid lzHead
  simp only [Bool.and_eq_true, decide_eq_true_eq, List.all_eq_true, List.mem_range]
  constructor
  · rintro ⟨⟨⟨⟨h1, h2⟩, h3⟩, h4⟩, h5⟩
    refine ⟨h1, h2, h3, h4, fun c hc => ?_, fun c hc => ?_, fun c hc hu => ?_⟩
    · have := h5 c (by rw [h2]; exact reachB_lt hc)
      unfold lzAt lzA at this
      rw [hc] at this
      simp only [Bool.not_true, Bool.false_or, Bool.and_eq_true] at this
      exact this.1.1
    · have := h5 c (atB_lt hc)
      unfold lzAt lzB at this
      rw [hc] at this
      simp only [Bool.not_true, Bool.false_or, Bool.and_eq_true] at this
      exact this.1.2
    · have := h5 c (by rw [h2]; exact usedN_lt hu)
      unfold lzAt lzC at this
      rw [hu, decide_eq_true hc] at this
      simp only [Bool.not_true, Bool.false_or, Bool.or_false, Bool.and_eq_true] at this
      exact this.2
  · rintro ⟨h1, h2, h3, h4, h5, h6, h7⟩
    refine ⟨⟨⟨⟨h1, h2⟩, h3⟩, h4⟩, fun c hc => ?_⟩
    unfold lzAt lzA lzB lzC
    have k5 := h5 c; have k6 := h6 c; have k7 := h7 c
    clear h5 h6 h7 h1
    by_cases q : (c : Int) < l.at_
    · have k8 := k7 q
      rw [decide_eq_true q]
      clear k7 q
      cases e1 : reachB l.store.cells l.store.roots c <;> cases e2 : atB l.marks c <;> cases e3 : usedN l.store.cells c <;> simp_all
    · rw [decide_eq_false q]
      clear k7 q
      cases e1 : reachB l.store.cells l.store.roots c <;> cases e2 : atB l.marks c <;> cases e3 : usedN l.store.cells c <;> simp_all
theorem clrS_used (m : List Bool) (cs : List Cel) (c : Nat) : usedN (clrS m cs) c = usedN cs c := by
  rw [usedN_def, usedN_def, List.getD_eq_getElem?_getD, List.getD_eq_getElem?_getD, clrS_at]
  cases cs[c]? <;> rfl
theorem clr_lead {m : List Bool} {cs cs' : List Cel} (hu : ∀ c, usedN cs c = true → usedN cs' c = true) {k : Nat} {r : Int} (h : leadsB cs r = true) : leadsB cs' (clrR m k r) = true := by
  unfold clrR
  split
  · exact leadsB_nil _
  · exact leadsB_mono hu h
section
variable {l : Lz} (V : LzOk l) {k : Nat} (hk : nxt l.marks l.at_.toNat = k) (hlt : k < l.marks.length)
include V hk hlt
omit V in
theorem taken_free : l.marks[k]? = some false := by
  have := nxt_free (m := l.marks) (a := l.at_.toNat) (by rw [hk]; exact hlt)
  rwa [hk] at this
theorem taken_at (c : Nat) : (lzTaken l k).store.cells[c]? = if c = k then some ⟨true, 0, []⟩ else (l.store.cells[c]?).map (clrC l.marks c) := by
  have hl := V.len
  show ((clrS l.marks l.store.cells).set k _)[c]? = _
  by_cases e : c = k
  · subst e
    rw [if_pos rfl, List.getElem?_set_self (by rw [clrS_len]; omega)]
  · rw [if_neg e, List.getElem?_set_ne (fun e' => e e'.symm), clrS_at]
theorem taken_used {c : Nat} : usedN (lzTaken l k).store.cells c = (decide (c = k) || usedN l.store.cells c) := by
  rw [usedN_def, List.getD_eq_getElem?_getD, taken_at V hk hlt c]
  by_cases e : c = k
  · rw [if_pos e, decide_eq_true e]; rfl
  · rw [if_neg e, decide_eq_false e, Bool.false_or, usedN_def, List.getD_eq_getElem?_getD]
    cases l.store.cells[c]? <;> rfl
theorem taken_kept {c : Nat} (hc : atB l.marks c = true) : (lzTaken l k).store.cells[c]? = l.store.cells[c]? := by
  have hne : c ≠ k := by
    rintro rfl
    rw [atB_at (taken_free hk hlt)] at hc; cases hc
  rw [taken_at V hk hlt c, if_neg hne]
  cases h : l.store.cells[c]? with
  | none => rfl
  | some x =>
    show some (clrC l.marks c x) = some x
    unfold clrC
    have : x.refs.map (clrR l.marks c) = x.refs := by
      rw [show x.refs.map (clrR l.marks c) = x.refs.map id from List.map_congr_left fun r _ => clrR_mark hc r, List.map_id]
    rw [this]
omit V hk in
theorem taken_mark {c : Nat} : atB (lzTaken l k).marks c = (decide (c = k) || atB l.marks c) := by
  unfold atB
  show (l.marks.set k true).getD c false = _
  rw [List.getD_eq_getElem?_getD]
  by_cases e : c = k
  · subst e
    rw [List.getElem?_set_self hlt, decide_eq_true rfl]; rfl
  · rw [List.getElem?_set_ne (fun e' => e e'.symm), decide_eq_false e, Bool.false_or, List.getD_eq_getElem?_getD]
theorem taken_rch {c : Nat} (h : Rch (lzTaken l k).store.cells (usedN (lzTaken l k).store.cells) l.store.roots c) : reachB l.store.cells l.store.roots c = true := by
  have hL := heapOk_leads V.ok
  induction h with
  | base h1 h2 _ =>
    simp only [reachB, decide_eq_true_eq]
    exact .base h1 h2 (leadsB_used (hL.1 _ h1) h2)
  | step _ h1 h2 h3 _ ih =>
    rw [taken_kept V hk hlt (V.live _ ih)] at h1
    simp only [reachB, decide_eq_true_eq] at ih ⊢
    exact .step ih h1 h2 h3 (leadsB_used (hL.2 _ _ h1 _ h2) h3)
theorem taken_ok : heapOk (lzTaken l k).store = true := by
  have g := good_iff.1 V.ok
  have hu : ∀ c, usedN l.store.cells c = true → usedN (lzTaken l k).store.cells c = true := fun c h => by rw [taken_used V hk hlt, h, Bool.or_true]
  rw [good_iff]
  refine ⟨?_, g.roots, fun c hc => ?_, fun r hr => leadsB_mono hu (g.lead r hr)⟩
  · show ((clrS l.marks l.store.cells).set k _).length ≤ 40
    rw [List.length_set, clrS_len]; exact g.len
  · obtain ⟨i, hi⟩ := List.getElem?_of_mem hc
    rw [taken_at V hk hlt i] at hi
    by_cases e : i = k
    · rw [if_pos e] at hi
      injection hi with hi
      subst hi
      rw [cellOk_iff]
      exact .inl ⟨rfl, fun r hr => by simp at hr, by simp, by simp, by simp⟩
    · rw [if_neg e] at hi
      cases h : l.store.cells[i]? with
      | none => rw [h] at hi; cases hi
      | some x =>
        rw [h] at hi
        have hi : clrC l.marks i x = c := by simpa using hi
        subst hi
        have hok := g.cell x (List.mem_of_getElem? h)
        rw [cellOk_iff] at hok ⊢
        rcases hok with ⟨k1, k2, k3, k4, k5⟩ | ⟨k1, k2, k3⟩
        · refine .inl ⟨k1, fun r hr => ?_, k3, k4, by show (x.refs.map _).length ≤ 3; rw [List.length_map]; exact k5⟩
          obtain ⟨r0, hr0, rfl⟩ := List.mem_map.1 hr
          exact clr_lead hu (k2 r0 hr0)
        · refine .inr ⟨k1, k2, ?_⟩
          show x.refs.map _ = []
          rw [k3]; rfl
theorem taken_lz : LzOk (lzTaken l k) := by
  have hfree := taken_free hk hlt
  have h0 := V.a0
  refine ⟨taken_ok V hk hlt, ?_, ?_, ?_, fun c hc => ?_, fun c hc => ?_, fun c hc hu => ?_⟩
  · show (l.marks.set k true).length = ((clrS l.marks l.store.cells).set k _).length
    rw [List.length_set, List.length_set, clrS_len]; exact V.len
  · show (0 : Int) ≤ (k : Int) + 1; omega
  · show (k : Int) + 1 ≤ ((l.marks.set k true).length : Nat)
    rw [List.length_set]; omega
  · simp only [reachB, decide_eq_true_eq] at hc
    rw [taken_mark hlt, V.live c (taken_rch V hk hlt hc), Bool.or_true]
  · rw [taken_mark hlt] at hc
    rw [taken_used V hk hlt]
    by_cases e : c = k
    · rw [decide_eq_true e]; rfl
    · rw [decide_eq_false e, Bool.false_or] at hc ⊢
      exact V.used c hc
  · have hc : (c : Int) < (k : Int) + 1 := hc
    rw [taken_mark hlt]
    by_cases e : c = k
    · rw [decide_eq_true e]; rfl
    · rw [decide_eq_false e, Bool.false_or]
      rw [taken_used V hk hlt, decide_eq_false e, Bool.false_or] at hu
      by_cases q : (c : Int) < l.at_
      · exact V.swept c q hu
      · exact atB_at (nxt_marked (a := l.at_.toNat) (by omega) (by rw [hk]; omega) (by omega))
theorem taken_view : mView (lzTaken l k).store = mView l.store := by
  have hc : ∀ c, RchI l.store c → cel (lzTaken l k).store.cells (id c) = cel l.store.cells c := fun c hc => by
    unfold cel
    rw [List.getD_eq_getElem?_getD, List.getD_eq_getElem?_getD, id, taken_kept V hk hlt (V.live _ hc.2)]
  exact view_same ⟨rchI_root V.ok, rchI_ref V.ok, fun c hc => ⟨hc.1, hc.1⟩, fun a b _ _ e => e, (map_up_id _).symm, fun c q => congrArg Cel.data (hc c q), fun c q => by rw [show (up fun c => c) = up id from rfl, map_up_id]; exact congrArg Cel.refs (hc c q)⟩ V.ok (taken_ok V hk hlt)
end
/-! ### The law on one taking -/
theorem take_valid {l : Lz} (h : mLzValid l = true) : mLzValid (mTake l).1 = true ∧ mView (mTake l).1.store = mView l.store := by
  have V := lzOk_iff.1 h
  by_cases q : nxt l.marks l.at_.toNat < l.marks.length
  · rw [mTake_yes h rfl q]
    exact ⟨lzOk_iff.2 (taken_lz V rfl q), taken_view V rfl q⟩
  · rw [mTake_end h q]
    refine ⟨lzOk_iff.2 ⟨V.ok, V.len, by show (0 : Int) ≤ (l.marks.length : Int); omega, by show (l.marks.length : Int) ≤ (l.marks.length : Int); omega, V.live, V.used, fun c hc hu => ?_⟩, rfl⟩
    have h0 := V.a0
    by_cases q2 : (c : Int) < l.at_
    · exact V.swept c q2 hu
    · have : c < l.store.cells.length := usedN_lt hu
      have := V.len
      show atB l.marks c = true
      exact atB_at (nxt_marked (m := l.marks) (a := l.at_.toNat) (by omega) (by omega) (by omega))
theorem take_next {l : Lz} (h : mLzValid l = true) {k : Nat} (hk : nxt l.marks l.at_.toNat = k) (q : k < l.marks.length) : (mTake (lzTaken l k)).2 = -1 ∨ (k : Int) < (mTake (lzTaken l k)).2 := by
  have h2 := lzOk_iff.2 (taken_lz (lzOk_iff.1 h) hk q)
  by_cases q2 : nxt (lzTaken l k).marks (lzTaken l k).at_.toNat < (lzTaken l k).marks.length
  · rw [mTake_yes h2 rfl q2]
    right
    have h1 := le_nxt (lzTaken l k).marks (lzTaken l k).at_.toNat
    have h3 : (lzTaken l k).at_.toNat = k + 1 := by show ((k : Int) + 1).toNat = k + 1; omega
    rw [h3] at h1 ⊢
    show (k : Int) < (nxt (lzTaken l k).marks (k + 1) : Int)
    omega
  · rw [mTake_end h2 q2]; exact .inl rfl
/-! ### How many cells can be taken -/
def leftN (m : List Bool) (a : Nat) : Nat := ((m.drop a).filter fun b => !b).length
theorem leftN_pos {m : List Bool} {a : Nat} : 0 < leftN m a ↔ nxt m a < m.length := by
  by_cases ha : a < m.length
  · have hd : m.drop a = m[a] :: m.drop (a + 1) := List.drop_eq_getElem_cons ha
    cases e : m[a]'ha
    · have h1 : m[a]? = some false := by rw [List.getElem?_eq_getElem ha, e]
      rw [nxt_no h1]
      unfold leftN
      rw [hd, e]
      simp [ha]
    · have h1 : m[a]? = some true := by rw [List.getElem?_eq_getElem ha, e]
      rw [nxt_yes h1, ← leftN_pos]
      unfold leftN
      rw [hd, e]
      simp
  · rw [nxt_end (by omega)]
    unfold leftN
    rw [List.drop_of_length_le (by omega)]
    simp; omega
termination_by m.length - a
theorem leftN_take {m : List Bool} {a : Nat} (h : nxt m a < m.length) : leftN m a = leftN (m.set (nxt m a) true) (nxt m a + 1) + 1 := by
  have ha : a < m.length := Nat.lt_of_le_of_lt (le_nxt m a) h
  have hd : m.drop a = m[a] :: m.drop (a + 1) := List.drop_eq_getElem_cons ha
  cases e : m[a]'ha
  · have h1 : m[a]? = some false := by rw [List.getElem?_eq_getElem ha, e]
    rw [nxt_no h1]
    unfold leftN
    rw [hd, e, List.drop_set, if_pos (by omega)]
    simp
  · have h1 : m[a]? = some true := by rw [List.getElem?_eq_getElem ha, e]
    rw [nxt_yes h1] at h ⊢
    rw [← leftN_take h]
    unfold leftN
    rw [hd, e]
    simp
termination_by m.length - a
theorem leftN_all (m : List Bool) : leftN m 0 + cntB m = m.length := by
  unfold leftN cntB
  rw [List.drop_zero]
  induction m with
  | nil => rfl
  | cons b m ih =>
    cases b <;> simp <;> omega
end Go.Proofs.Ytjpfgbckmcjjaaa
