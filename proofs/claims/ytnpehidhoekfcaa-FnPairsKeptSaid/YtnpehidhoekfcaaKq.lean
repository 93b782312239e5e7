/- Plain laws on kept pairs: a pair is kept if its key can be reached from the roots and the values of the kept pairs. No program. -/
import Derived.Test.YtnpehidhoekfcaaPk
namespace Go.Proofs.Ytnpehidhoekfcaa
open Go.RowKit
theorem rch_union {cs : List Cel} {S : Nat → Bool} {fr : List Int} {c : Nat} : Rch cs S fr c ↔ ∃ r ∈ fr, Rch cs S [r] c := by
  constructor
  · intro h
    induction h with
    | base h1 h2 h3 => exact ⟨_, h1, .base (List.mem_singleton_self _) h2 h3⟩
    | step _ h1 h2 h3 h4 ih =>
      obtain ⟨r, hr, hk⟩ := ih
      exact ⟨r, hr, .step hk h1 h2 h3 h4⟩
  · rintro ⟨r, hr, hk⟩
    exact hk.mono (fun _ h => h) fun x hx => by rw [List.mem_singleton.1 hx]; exact hr
theorem reachB_more {cs : List Cel} {fr fr' : List Int} {c : Nat} (hf : ∀ r ∈ fr, r ∈ fr') (h : reachB cs fr c = true) : reachB cs fr' c = true := by
  simp only [reachB, decide_eq_true_eq] at *
  exact h.mono (fun _ h => h) hf
structure PKl (h : Hp) (ps : List (Int × Int)) (st : PSt) : Prop where
  len : st.1.length = ps.length
  key : ∀ (k : Nat) (p : Int × Int), ps[k]? = some p → st.1[k]? = some true → reachB h.cells st.2 p.1.toNat = true
  mem : ∀ x, x ∈ st.2 ↔ x ∈ h.roots ∨ ∃ (k : Nat) (p : Int × Int), ps[k]? = some p ∧ st.1[k]? = some true ∧ p.2 = x
theorem PKl.start (h : Hp) (ps : List (Int × Int)) : PKl h ps (pkStart h ps) := by
  have hf : ∀ k : Nat, (pkStart h ps).1[k]? ≠ some true := fun k hk => by
    have h1 : (List.replicate ps.length false)[k]? = some true := hk
    rw [List.getElem?_replicate] at h1
    split at h1 <;> simp at h1
  refine ⟨by simp [pkStart], fun k p _ h2 => absurd h2 (hf k), fun x => ⟨fun hx => .inl hx, fun hx => ?_⟩⟩
  rcases hx with hx | ⟨k, p, -, h2, -⟩
  · exact hx
  · exact absurd h2 (hf k)
theorem setB_true {bs : List Bool} {k j : Nat} (hk : k < bs.length) : (bs.set k true)[j]? = some true ↔ j = k ∨ bs[j]? = some true := by
  rw [List.getElem?_set]
  by_cases e : k = j
  · subst e; simp [hk]
  · simp [e, Ne.symm e]
theorem PKl.step {h : Hp} {ps : List (Int × Int)} {st0 st : PSt} {k : Nat} {p : Int × Int} (i : PKl h ps st) (hs : ∀ x ∈ st0.2, x ∈ st.2) (hp : ps[k]? = some p) :
    PKl h ps (pkStep (reachB h.cells st0.2) st k p) ∧ ∀ x ∈ st0.2, x ∈ (pkStep (reachB h.cells st0.2) st k p).2 := by
  unfold pkStep
  split
  · rename_i hc
    simp only [Bool.and_eq_true] at hc
    have hkl : k < st.1.length := by rw [i.len]; exact (List.getElem?_eq_some_iff.1 hp).1
    refine ⟨⟨by simp [i.len], fun j q hq hj => ?_, fun x => ?_⟩, fun x hx => List.mem_append_left _ (hs x hx)⟩
    · rcases (setB_true hkl).1 hj with rfl | hj
      · rw [hp] at hq
        obtain rfl := Option.some.inj hq
        exact reachB_more (fun r hr => List.mem_append_left _ (hs r hr)) hc.1
      · exact reachB_more (fun r hr => List.mem_append_left _ hr) (i.key j q hq hj)
    · constructor
      · intro hx
        rcases List.mem_append.1 hx with hx | hx
        · rcases (i.mem x).1 hx with hx | ⟨j, q, h1, h2, h3⟩
          · exact .inl hx
          · exact .inr ⟨j, q, h1, (setB_true hkl).2 (.inr h2), h3⟩
        · exact .inr ⟨k, p, hp, (setB_true hkl).2 (.inl rfl), (List.mem_singleton.1 hx).symm⟩
      · rintro (hx | ⟨j, q, h1, h2, h3⟩)
        · exact List.mem_append_left _ ((i.mem x).2 (.inl hx))
        · rcases (setB_true hkl).1 h2 with rfl | h2
          · rw [hp] at h1
            obtain rfl := Option.some.inj h1
            exact List.mem_append_right _ (by rw [h3]; exact List.mem_singleton_self _)
          · exact List.mem_append_left _ ((i.mem x).2 (.inr ⟨j, q, h1, h2, h3⟩))
  · exact ⟨i, hs⟩
theorem PKl.to {h : Hp} {ps : List (Int × Int)} {st : PSt} (i : PKl h ps st) : ∀ k, k ≤ ps.length → PKl h ps (pkTo (reachB h.cells st.2) ps st k) ∧ ∀ x ∈ st.2, x ∈ (pkTo (reachB h.cells st.2) ps st k).2
  | 0, _ => ⟨i, fun _ h => h⟩
  | k + 1, hk => by
    obtain ⟨a1, a2⟩ := PKl.to i k (by omega)
    have hq := List.getElem?_eq_getElem (l := ps) (i := k) (by omega : k < ps.length)
    rw [pkTo_succ (Go.Lib.hid hq)]
    exact a1.step a2 hq
theorem PKl.iter (h : Hp) (ps : List (Int × Int)) : ∀ t, PKl h ps (pkIter h ps (pkStart h ps) t)
  | 0 => PKl.start h ps
  | t + 1 => ((PKl.iter h ps t).to ps.length (Nat.le_refl _)).1
theorem pk_fix {h : Hp} {ps : List (Int × Int)} (h0 : mPairsValid h ps = true) : pkRound h ps (pkIter h ps (pkStart h ps) (ps.length + 1)) = pkIter h ps (pkStart h ps) (ps.length + 1) := by
  obtain ⟨s1, s2, s3⟩ := mPairs_parts h0
  have hp : ∀ p ∈ ps, leadsB h.cells p.2 = true := fun p hp => by
    have := (s3 p hp).2
    have h1 : 0 ≤ p.2 := by simp only [usedB, Bool.and_eq_true, decide_eq_true_eq] at this; exact this.1.1
    rwa [leads_used h1]
  have hP := fun t => PK.iter (PK.start (ps := ps) s1) hp t
  have key : ∀ t, (∃ s, s < t ∧ pkRound h ps (pkIter h ps (pkStart h ps) s) = pkIter h ps (pkStart h ps) s) ∨ h.roots.length + t ≤ (pkIter h ps (pkStart h ps) t).2.length := by
    intro t
    induction t with
    | zero => exact .inr (Nat.le_refl _)
    | succ t ih =>
      rcases ih with ⟨s, hs, e⟩ | hle
      · exact .inl ⟨s, by omega, e⟩
      · rcases ((hP t).round hp).2 with e | e
        · exact .inl ⟨t, by omega, e⟩
        · right
          show _ ≤ (pkRound h ps (pkIter h ps (pkStart h ps) t)).2.length
          omega
  rcases key (ps.length + 1) with ⟨s, hs, e⟩ | hle
  · obtain ⟨d, hd⟩ : ∃ d, ps.length + 1 = s + d := ⟨ps.length + 1 - s, by omega⟩
    rw [hd, pkIter_stable e d]
    exact e
  · have := (hP (ps.length + 1)).room
    omega
theorem pkStep_len (R : Nat → Bool) (st : PSt) (k : Nat) (p : Int × Int) : st.2.length ≤ (pkStep R st k p).2.length := by
  unfold pkStep
  split
  · simp
  · exact Nat.le_refl _
theorem pkTo_len (R : Nat → Bool) (ps : List (Int × Int)) (st : PSt) (k : Nat) : ∀ d, (pkTo R ps st k).2.length ≤ (pkTo R ps st (k + d)).2.length
  | 0 => Nat.le_refl _
  | d + 1 => by
    refine Nat.le_trans (pkTo_len R ps st k d) ?_
    show _ ≤ (pkTo R ps st (k + d + 1)).2.length
    rw [pkTo]
    split
    · exact pkStep_len _ _ _ _
    · exact Nat.le_refl _
theorem pk_done {h : Hp} {ps : List (Int × Int)} {st : PSt} (hk : PK h ps st) (hp : ∀ p ∈ ps, leadsB h.cells p.2 = true) (e : pkRound h ps st = st) {k : Nat} {p : Int × Int} (hq : ps[k]? = some p) (hf : st.1[k]? = some false) : reachB h.cells st.2 p.1.toNat = false := by
  have hkl := (List.getElem?_eq_some_iff.1 hq).1
  have hs : ∀ j, j ≤ ps.length → pkTo (reachB h.cells st.2) ps st j = st := fun j hj => by
    rcases (PK.to (R := reachB h.cells st.2) hk hp j hj).2 with h1 | h1
    · exact h1
    · have h2 := pkTo_len (reachB h.cells st.2) ps st j (ps.length - j)
      rw [Nat.add_sub_cancel' hj] at h2
      have h3 : pkTo (reachB h.cells st.2) ps st ps.length = st := e
      rw [h3] at h2
      omega
  have h1 := hs (k + 1) (by omega)
  rw [pkTo_succ (Go.Lib.hid hq), hs k (by omega)] at h1
  cases hr : reachB h.cells st.2 p.1.toNat
  · rfl
  · obtain ⟨x, y⟩ := p
    rw [pkStep_yes hr (Go.Lib.hid hf)] at h1
    have h2 : (st.2 ++ [y]).length = st.2.length := by
      have := congrArg (fun s : PSt => s.2.length) h1
      exact this
    simp at h2
/-- What the law holds for reached when it has gone over k pairs. -/
noncomputable def lvB (h : Hp) (ps : List (Int × Int)) (K : List Bool) : Nat → Nat → Bool
  | 0, i => reachB h.cells h.roots i
  | k + 1, i => lvB h ps K k i || (K.getD k false && reachB h.cells [(ps.getD k (0, 0)).2] i)
theorem lvB_succ {h : Hp} {ps : List (Int × Int)} {K : List Bool} {k : Nat} {b : Bool} {p : Int × Int} (hb : K[k]? = some b) (hp : ps[k]? = some p) (i : Nat) : lvB h ps K (k + 1) i = (lvB h ps K k i || (b && reachB h.cells [p.2] i)) := by
  rw [lvB, List.getD_eq_getElem?_getD, hb, List.getD_eq_getElem?_getD, hp]; rfl
theorem lvB_iff {h : Hp} {ps : List (Int × Int)} {K : List Bool} (hl : K.length = ps.length) (i : Nat) : ∀ k, k ≤ ps.length → (lvB h ps K k i = true ↔ reachB h.cells h.roots i = true ∨ ∃ (j : Nat) (p : Int × Int), j < k ∧ ps[j]? = some p ∧ K[j]? = some true ∧ reachB h.cells [p.2] i = true)
  | 0, _ => by
    rw [lvB]
    constructor
    · exact fun h => .inl h
    · rintro (h | ⟨j, p, h1, -⟩)
      · exact h
      · omega
  | k + 1, hk => by
    have ih := lvB_iff (h := h) hl i k (by omega)
    have hp := List.getElem?_eq_getElem (l := ps) (i := k) (by omega : k < ps.length)
    have hb := List.getElem?_eq_getElem (l := K) (i := k) (by omega : k < K.length)
    rw [lvB_succ hb hp, Bool.or_eq_true, Bool.and_eq_true, ih]
    constructor
    · rintro ((h1 | ⟨j, p, h1, h2, h3, h4⟩) | ⟨h1, h2⟩)
      · exact .inl h1
      · exact .inr ⟨j, p, by omega, h2, h3, h4⟩
      · exact .inr ⟨k, _, by omega, hp, by rw [hb, h1], h2⟩
    · rintro (h1 | ⟨j, p, h1, h2, h3, h4⟩)
      · exact .inl (.inl h1)
      · by_cases e : j = k
        · subst e
          rw [hp] at h2
          rw [hb] at h3
          obtain rfl := Option.some.inj h2
          exact .inr ⟨Option.some.inj h3, h4⟩
        · exact .inl (.inr ⟨j, p, by omega, h2, h3, h4⟩)
theorem kept_len {h : Hp} {ps : List (Int × Int)} (h0 : mPairsValid h ps = true) : (mPairsKept h ps).length = ps.length := by
  rw [mPk_yes h0]; exact (PKl.iter h ps _).len
theorem lvB_end {h : Hp} {ps : List (Int × Int)} (h0 : mPairsValid h ps = true) {k : Nat} {p : Int × Int} {b : Bool} (hp : ps[k]? = some p) (hb : (mPairsKept h ps)[k]? = some b) : lvB h ps (mPairsKept h ps) ps.length p.1.toNat = b := by
  have hl := kept_len h0
  obtain ⟨s1, s2, s3⟩ := mPairs_parts h0
  have hld : ∀ p ∈ ps, leadsB h.cells p.2 = true := fun p hp => by
    have := (s3 p hp).2
    have h1 : 0 ≤ p.2 := by simp only [usedB, Bool.and_eq_true, decide_eq_true_eq] at this; exact this.1.1
    rwa [leads_used h1]
  have hit := PKl.iter h ps (ps.length + 1)
  have hPK := PK.iter (PK.start (ps := ps) s1) hld (ps.length + 1)
  have hfx := pk_fix h0
  have e := mPk_yes h0
  rw [e] at hb hl ⊢
  generalize pkIter h ps (pkStart h ps) (ps.length + 1) = st at *
  have hun : lvB h ps st.1 ps.length p.1.toNat = true ↔ reachB h.cells st.2 p.1.toNat = true := by
    rw [lvB_iff hl _ ps.length (Nat.le_refl _)]
    simp only [reachB, decide_eq_true_eq]
    rw [rch_union (fr := st.2), rch_union (fr := h.roots)]
    constructor
    · rintro (⟨r, h1, h2⟩ | ⟨j, q, -, h1, h2, h3⟩)
      · exact ⟨r, (hit.mem r).2 (.inl h1), h2⟩
      · exact ⟨q.2, (hit.mem q.2).2 (.inr ⟨j, q, h1, h2, rfl⟩), h3⟩
    · rintro ⟨r, h1, h2⟩
      rcases (hit.mem r).1 h1 with h1 | ⟨j, q, h3, h4, h5⟩
      · exact .inl ⟨r, h1, h2⟩
      · exact .inr ⟨j, q, (List.getElem?_eq_some_iff.1 h3).1, h3, h4, by rw [h5]; exact h2⟩
  cases b
  · have h1 := pk_done hPK hld hfx hp hb
    cases hv : lvB h ps st.1 ps.length p.1.toNat
    · rfl
    · rw [hun.1 hv] at h1; cases h1
  · exact hun.2 (hit.key k p hp hb)
end Go.Proofs.Ytnpehidhoekfcaa
