/- LoadImage in plain words: what both sides read out of a list of numbers, and why it is the image's heap. No program is walked. -/
import Derived.Test.YtjpfgbckmcjjaaaSvI
import Derived.Test.YtjpfgbckmcjjaaaRch
namespace Go.Proofs.Ytjpfgbckmcjjaaa
open Go.RowKit
def loadW (base n : Int) : Int := wrap64 ((if n = 0 then n else wrap64 (n - base)) - 1)
def refsW (base : Int) (m : Nat) (ys : List Int) : List Int := (List.range m).map fun i => loadW base (ys.getD i 0)
theorem refsW_succ (base : Int) (m : Nat) (ys : List Int) : refsW base (m + 1) ys = refsW base m ys ++ [loadW base (ys.getD m 0)] := by simp [refsW, List.range_succ]
theorem refsW_len (base : Int) (m : Nat) (ys : List Int) : (refsW base m ys).length = m := by simp [refsW]
def stepI (base : Int) (st : List Int × List Cel) : List Int × List Cel :=
  if 0 < st.1.getD 0 0 ∧ st.1.getD 0 0 ≤ 4 then (st.1.drop ((st.1.getD 0 0).toNat + 1), st.2 ++ [⟨true, st.1.getD 1 0, refsW base ((st.1.getD 0 0).toNat - 1) (st.1.drop 2)⟩])
  else (st.1.drop 1, st.2 ++ [noCel])
def stI (base : Int) (ys : List Int) : Nat → List Int × List Cel
  | 0 => (ys, [])
  | k + 1 => stepI base (stI base ys k)
theorem stI_len (base : Int) (ys : List Int) : ∀ k, (stI base ys k).2.length = k
  | 0 => rfl
  | k + 1 => by
    have := stI_len base ys k
    rw [stI, stepI]
    split <;> simp [this]
theorem stI_refs (base : Int) (ys : List Int) : ∀ k, ∀ c ∈ (stI base ys k).2, c.refs.length ≤ 3
  | 0, c, h => by simp [stI] at h
  | k + 1, c, h => by
    have ih := stI_refs base ys k
    rw [stI, stepI] at h
    split at h
    · rcases List.mem_append.1 h with h | h
      · exact ih c h
      · rw [List.mem_singleton.1 h, refsW_len]; omega
    · rcases List.mem_append.1 h with h | h
      · exact ih c h
      · rw [List.mem_singleton.1 h]; simp [noCel]
def ldBase (l : List Int) : Int := l.getD 0 0
def ldN (l : List Int) : Int := l.getD 1 0
def ldSt (l : List Int) (k : Nat) : List Int × List Cel := stI (ldBase l) (l.drop 6) k
def ldHeap (l : List Int) : Hp := ⟨(ldSt l (ldN l).toNat).2, refsW (ldBase l) 4 (l.drop 2)⟩
def ldOk (l : List Int) : Bool := heapOk (ldHeap l) && (baseOk (ldBase l) && decide (mSaveImage (ldHeap l) (ldBase l) = l))
def mLoadH (l : List Int) : Hp := if ldOk l then ldHeap l else ⟨[], []⟩
def mLoadB (l : List Int) : Int := if ldOk l then ldBase l else 0
theorem mLoad_no {l : List Int} (h : ldOk l = false) : mLoadH l = ⟨[], []⟩ ∧ mLoadB l = 0 := by simp [mLoadH, mLoadB, h]
theorem mLoad_yes {l : List Int} (h : ldOk l = true) : mLoadH l = ldHeap l ∧ mLoadB l = ldBase l := by simp [mLoadH, mLoadB, h]
theorem load_save {b r : Int} (h0 : 0 ≤ b) (h1 : b ≤ 10000) (h2 : -1 ≤ r) (h3 : r ≤ 100) : loadW b (saveRef b r) = r := by
  unfold loadW saveRef
  by_cases h : r < 0
  · rw [if_pos h, if_pos rfl]; unfold wrap64; omega
  · rw [if_neg h, if_neg (by omega)]
    have e : wrap64 (b + r + 1 - b) = r + 1 := by unfold wrap64; omega
    rw [e]; unfold wrap64; omega
theorem refsW_save {b : Int} (h0 : 0 ≤ b) (h1 : b ≤ 10000) (rs : List Int) (tl : List Int) (h2 : ∀ r ∈ rs, -1 ≤ r ∧ r ≤ 100) {m : Nat} (hm : m = rs.length) : refsW b m (rs.map (saveRef b) ++ tl) = rs := by
  subst hm
  unfold refsW
  apply List.ext_getElem (by simp)
  intro i h3 h4
  simp only [List.getElem_map, List.getElem_range]
  have h5 : i < (rs.map (saveRef b)).length := by simpa using h4
  have e : (rs.map (saveRef b) ++ tl).getD i 0 = saveRef b rs[i] := by
    rw [List.getD_eq_getElem?_getD, List.getElem?_append_left h5, List.getElem?_eq_getElem h5]; simp
  rw [e]
  obtain ⟨k1, k2⟩ := h2 _ (List.getElem_mem h4)
  exact load_save h0 h1 k1 k2
theorem heapOk_lead {h : Hp} (h0 : heapOk h = true) {x : Int} (hx : leadsB h.cells x = true) : -1 ≤ x ∧ x ≤ 100 := by
  have h1 := heapOk_cells h0
  by_cases hn : x < 0
  · have : x = -1 := by
      by_cases h2 : x < -1
      · rw [leadsB_out (by omega) (.inl (by omega))] at hx; cases hx
      · omega
    omega
  · have := usedN_lt (leadsB_used hx (by omega)); omega
theorem saveCell_step {b : Int} {h : Hp} (h0 : heapOk h = true) (k0 : 0 ≤ b) (k1 : b ≤ 10000) {c : Cel} (hc : c ∈ h.cells) (tl : List Int) (cs : List Cel) : stepI b (saveCell b c ++ tl, cs) = (tl, cs ++ [c]) := by
  obtain ⟨k, hk⟩ := List.getElem?_of_mem hc
  obtain ⟨q1, q2, q3⟩ := heapOk_cell h0 (Go.Lib.hid hk)
  have hl := (heapOk_leads h0).2 k c hk
  cases hu : c.used
  · have hcc : cellOk h.cells c = true := by
      simp only [heapOk, Bool.and_eq_true, List.all_eq_true] at h0
      exact h0.1.2 c hc
    unfold cellOk at hcc
    rw [hu] at hcc
    simp only [Bool.false_eq_true, if_false, Bool.and_eq_true, decide_eq_true_eq, beq_iff_eq] at hcc
    have e : c = noCel := by
      obtain ⟨u, d, r⟩ := c
      simp only at hu hcc
      subst hu
      rw [List.length_eq_zero_iff.1 hcc.2, hcc.1]
      rfl
    rw [saveCell_no hu, e]
    unfold stepI
    rw [if_neg (by simp)]; rfl
  · rw [saveCell_yes hu]
    unfold stepI
    have e0 : (([(c.refs.length : Int) + 1, c.data] ++ c.refs.map (saveRef b)) ++ tl).getD 0 0 = (c.refs.length : Int) + 1 := rfl
    have e1 : (([(c.refs.length : Int) + 1, c.data] ++ c.refs.map (saveRef b)) ++ tl).getD 1 0 = c.data := rfl
    have e2 : (([(c.refs.length : Int) + 1, c.data] ++ c.refs.map (saveRef b)) ++ tl).drop 2 = c.refs.map (saveRef b) ++ tl := rfl
    simp only [e0, e1, e2]
    rw [if_pos (by omega)]
    have e3 : ((c.refs.length : Int) + 1).toNat = c.refs.length + 1 := by omega
    rw [e3, Nat.add_sub_cancel, refsW_save k0 k1 c.refs tl (fun r hr => heapOk_lead h0 (hl r hr)) rfl]
    have e4 : (([(c.refs.length : Int) + 1, c.data] ++ c.refs.map (saveRef b)) ++ tl).drop (c.refs.length + 1 + 1) = tl := by
      show (c.refs.map (saveRef b) ++ tl).drop c.refs.length = tl
      rw [List.drop_append_of_le_length (by simp)]
      simp
    rw [e4]
    obtain ⟨u, d, r⟩ := c
    simp only at hu
    subst hu
    rfl
theorem stI_save {b : Int} {h : Hp} (h0 : heapOk h = true) (k0 : 0 ≤ b) (k1 : b ≤ 10000) : ∀ k, k ≤ h.cells.length → stI b (h.cells.flatMap (saveCell b)) k = ((h.cells.drop k).flatMap (saveCell b), h.cells.take k)
  | 0, _ => by simp [stI]
  | k + 1, hk => by
    have hk' : k < h.cells.length := by omega
    rw [stI, stI_save h0 k0 k1 k (by omega), List.drop_eq_getElem_cons hk', List.flatMap_cons, saveCell_step h0 k0 k1 (List.getElem_mem hk'), List.take_succ_eq_append_getElem hk']
structure IsImg (h : Hp) (b : Int) (l : List Int) : Prop where
  ok : heapOk h = true
  b0 : 0 ≤ b
  b1 : b ≤ 10000
  eq : saveAll h b = l
theorem IsImg.len {h : Hp} {b : Int} {l : List Int} (i : IsImg h b l) : 6 ≤ l.length := by
  rw [← i.eq]; have := heapOk_roots4 i.ok; simp [saveAll]; omega
theorem IsImg.facts {h : Hp} {b : Int} {l : List Int} (i : IsImg h b l) : ldBase l = b ∧ ldN l = h.cells.length ∧ l.drop 2 = h.roots.map (saveRef b) ++ h.cells.flatMap (saveCell b) ∧ l.drop 6 = h.cells.flatMap (saveCell b) ∧ ∀ k, k ≤ h.cells.length → ldSt l k = ((h.cells.drop k).flatMap (saveCell b), h.cells.take k) := by
  have e := i.eq
  have h4 := heapOk_roots4 i.ok
  subst e
  have e6 : (saveAll h b).drop 6 = h.cells.flatMap (saveCell b) := by
    show (h.roots.map (saveRef b) ++ h.cells.flatMap (saveCell b)).drop 4 = _
    rw [List.drop_append_of_le_length (by simp; omega), List.drop_of_length_le (by simp; omega), List.nil_append]
  refine ⟨rfl, rfl, rfl, e6, fun k hk => ?_⟩
  unfold ldSt
  rw [e6]
  exact stI_save i.ok i.b0 i.b1 k hk
theorem IsImg.heap {h : Hp} {b : Int} {l : List Int} (i : IsImg h b l) : ldHeap l = h := by
  obtain ⟨e1, e2, e3, -, e5⟩ := i.facts
  unfold ldHeap
  rw [e1, e2, e3, Int.toNat_natCast, e5 _ (Nat.le_refl _), List.take_length, refsW_save i.b0 i.b1 h.roots _ (fun r hr => heapOk_lead i.ok ((heapOk_leads i.ok).1 r hr)) (by have := heapOk_roots4 i.ok; omega)]
theorem IsImg.yes {h : Hp} {b : Int} {l : List Int} (i : IsImg h b l) : ldOk l = true := by
  unfold ldOk
  rw [i.heap, i.facts.1, i.ok, mSave_yes i.ok i.b0 i.b1, i.eq]
  have : baseOk b = true := by unfold baseOk; simp [i.b0, i.b1]
  rw [this]; simp
theorem ldOk_img {l : List Int} (h : ldOk l = true) : IsImg (ldHeap l) (ldBase l) l := by
  simp only [ldOk, Bool.and_eq_true, decide_eq_true_eq, baseOk] at h
  exact ⟨h.1, h.2.1.1, h.2.1.2, by rw [← mSave_yes h.1 h.2.1.1 h.2.1.2]; exact h.2.2⟩
theorem img_of_save {h : Hp} {b : Int} {l : List Int} (e : mSaveImage h b = l) (hl : 0 < l.length) : IsImg h b l := by
  unfold mSaveImage at e
  split at e
  · rename_i hc
    simp only [Bool.and_eq_true, baseOk, decide_eq_true_eq] at hc
    exact ⟨hc.1, hc.2.1, hc.2.2, e⟩
  · subst e; simp at hl
theorem ldOk_no1 {l : List Int} (h : l.length < 6) : ldOk l = false := by
  cases hy : ldOk l
  · rfl
  · have := (ldOk_img hy).len; omega
theorem ldOk_no2 {l : List Int} (h : baseOk (ldBase l) = false) : ldOk l = false := by simp [ldOk, h]
theorem ldOk_no3 {l : List Int} (h : ldN l < 0 ∨ 40 < ldN l) : ldOk l = false := by
  cases hy : ldOk l
  · rfl
  · have i := ldOk_img hy
    have := i.facts.2.1
    have := heapOk_cells i.ok
    omega
theorem ldOk_no4 {l : List Int} (h : heapOk (ldHeap l) = false) : ldOk l = false := by simp [ldOk, h]
theorem ldOk_no5 {l : List Int} (h : mSaveImage (ldHeap l) (ldBase l) ≠ l) : ldOk l = false := by
  have : decide (mSaveImage (ldHeap l) (ldBase l) = l) = false := decide_eq_false h
  simp [ldOk, this]
theorem saveRef_in {b x : Int} (h0 : 0 ≤ b) (h1 : b ≤ 10000) (h2 : x ≤ 100) : 0 ≤ saveRef b x ∧ saveRef b x ≤ 10101 := by unfold saveRef; split <;> omega
theorem saveCell_in {b : Int} {cs : List Cel} {c : Cel} (h0 : 0 ≤ b) (h1 : b ≤ 10000) (hc : cellOk cs c = true) (hl : cs.length ≤ 40) {x : Int} (hx : x ∈ saveCell b c) : 0 ≤ x ∧ x ≤ 10101 := by
  unfold saveCell at hx
  split at hx
  · rename_i hu
    unfold cellOk at hc
    rw [if_pos hu] at hc
    simp only [Bool.and_eq_true, List.all_eq_true, decide_eq_true_eq] at hc
    rcases List.mem_cons.1 hx with rfl | hx
    · omega
    rcases List.mem_cons.1 hx with rfl | hx
    · omega
    obtain ⟨y, hy, rfl⟩ := List.mem_map.1 hx
    refine saveRef_in h0 h1 ?_
    by_cases hy0 : y < 0
    · omega
    · have := usedN_lt (leadsB_used (hc.1 y hy) (by omega)); omega
  · simp at hx; subst hx; omega
theorem ldOk_in {l : List Int} (h : ldOk l = true) : ∀ x ∈ l, 0 ≤ x ∧ x ≤ 10101 := by
  have i := ldOk_img h
  intro x hx
  rw [← i.eq] at hx
  have hok := i.ok
  have hl := heapOk_cells hok
  unfold saveAll at hx
  rcases List.mem_cons.1 hx with rfl | hx
  · have := i.b0; have := i.b1; omega
  rcases List.mem_cons.1 hx with rfl | hx
  · omega
  rcases List.mem_append.1 hx with hx | hx
  · obtain ⟨y, hy, rfl⟩ := List.mem_map.1 hx
    exact saveRef_in i.b0 i.b1 (heapOk_lead hok ((heapOk_leads hok).1 y hy)).2
  · obtain ⟨c, hc, hx⟩ := List.mem_flatMap.1 hx
    simp only [heapOk, Bool.and_eq_true, List.all_eq_true] at hok
    exact saveCell_in i.b0 i.b1 (hok.1.2 c hc) hl hx
end Go.Proofs.Ytjpfgbckmcjjaaa
