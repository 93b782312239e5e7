/- Plain laws on the reference's way to find all that can be reached: a list of marks and a list of cells that grows. No program; no condition. -/
import Derived.Test.YtjpfgbckmcjjaaaRc
namespace Go.Proofs.Ytjpfgbckmcjjaaa
open Go.RowKit
open Classical
def rv1 (st : List Bool × List Int) (r : Int) : List Bool × List Int := if 0 ≤ r ∧ st.1[r.toNat]? = some false then (st.1.set r.toNat true, st.2 ++ [r]) else st
def rvs (st : List Bool × List Int) (rs : List Int) : List Bool × List Int := rs.foldl rv1 st
theorem rvs_take {st : List Bool × List Int} {rs : List Int} {k : Nat} {r : Int} (h : Hid (rs[k]? = some r)) : rvs st (rs.take (k + 1)) = rv1 (rvs st (rs.take k)) r := by
  obtain ⟨hk, rfl⟩ := List.getElem?_eq_some_iff.1 h.out
  unfold rvs
  rw [List.take_succ_eq_append_getElem hk, List.foldl_append]; rfl
def falses : List Bool → Nat
  | [] => 0
  | b :: bs => falses bs + if b then 0 else 1
theorem falses_set : ∀ (bs : List Bool) (k : Nat), bs[k]? = some false → falses (bs.set k true) + 1 = falses bs
  | [], _, h => by simp at h
  | b :: bs, 0, h => by simp at h; subst h; simp [falses]
  | b :: bs, k + 1, h => by
    have := falses_set bs k (by simpa using h)
    simp only [List.set_cons_succ, falses]; omega
theorem falses_rep : ∀ n, falses (List.replicate n false) = n
  | 0 => rfl
  | n + 1 => by rw [List.replicate_succ, falses, falses_rep n]; simp
structure RI (cs : List Cel) (fr : List Int) (st : List Bool × List Int) : Prop where
  len : st.1.length = cs.length
  rch : ∀ c : Nat, st.1[c]? = some true → Rch cs (usedN cs) fr c
  mem : ∀ r ∈ st.2, 0 ≤ r ∧ st.1[r.toNat]? = some true
  back : ∀ c : Nat, st.1[c]? = some true → (c : Int) ∈ st.2
  room : st.2.length + falses st.1 = cs.length
theorem RI.start (cs : List Cel) (fr : List Int) : RI cs fr (List.replicate cs.length false, []) :=
  ⟨by simp, fun c h => by
    rw [List.getElem?_replicate] at h
    split at h <;> simp at h, fun r h => by simp at h, fun c h => by
    rw [List.getElem?_replicate] at h
    split at h <;> simp at h, by simp [falses_rep]⟩
theorem set_true {bs : List Bool} {k c : Nat} (h : bs[c]? = some true) : (bs.set k true)[c]? = some true := by
  rw [List.getElem?_set]
  split
  · rename_i e; subst e
    rw [if_pos (List.getElem?_eq_some_iff.1 h).1]
  · exact h
theorem set_true_inv {bs : List Bool} {k c : Nat} (h : (bs.set k true)[c]? = some true) : bs[c]? = some true ∨ c = k := by
  rw [List.getElem?_set] at h
  split at h
  · rename_i e; exact .inr e.symm
  · exact .inl h
theorem RI.one {cs : List Cel} {fr : List Int} {st : List Bool × List Int} {r : Int} (h : RI cs fr st) (hr : 0 ≤ r → Rch cs (usedN cs) fr r.toNat) :
    RI cs fr (rv1 st r) ∧ (∀ c : Nat, st.1[c]? = some true → (rv1 st r).1[c]? = some true) ∧ (0 ≤ r → (rv1 st r).1[r.toNat]? = some true) ∧ ∃ ext, (rv1 st r).2 = st.2 ++ ext := by
  unfold rv1
  by_cases hc : 0 ≤ r ∧ st.1[r.toNat]? = some false
  · rw [if_pos hc]
    obtain ⟨h0, h1⟩ := hc
    have hl := (List.getElem?_eq_some_iff.1 h1).1
    have hf := falses_set _ _ h1
    have hro := h.room
    have hself : (st.1.set r.toNat true)[r.toNat]? = some true := by rw [List.getElem?_set_self hl]
    refine ⟨⟨by simp [h.len], fun c hb => ?_, fun x hx => ?_, fun c hb => ?_, by simp; omega⟩, fun c hb => set_true hb, fun _ => hself, _, rfl⟩
    · rcases set_true_inv hb with hb | rfl
      · exact h.rch c hb
      · exact hr h0
    · simp only [List.mem_append, List.mem_singleton] at hx
      rcases hx with hx | rfl
      · exact ⟨(h.mem x hx).1, set_true (h.mem x hx).2⟩
      · exact ⟨h0, hself⟩
    · rcases set_true_inv hb with hb | rfl
      · simp [h.back c hb]
      · simp; right; omega
  · rw [if_neg hc]
    refine ⟨h, fun c hb => hb, fun h0 => ?_, [], by simp⟩
    have hlt := usedN_lt (hr h0).inS
    rw [← h.len] at hlt
    cases hb : st.1[r.toNat]
    · exact absurd ⟨h0, by rw [List.getElem?_eq_getElem hlt, hb]⟩ hc
    · rw [List.getElem?_eq_getElem hlt, hb]
theorem RI.many {cs : List Cel} {fr : List Int} : ∀ (rs : List Int) (st : List Bool × List Int), RI cs fr st → (∀ r ∈ rs, 0 ≤ r → Rch cs (usedN cs) fr r.toNat) →
    RI cs fr (rvs st rs) ∧ (∀ c : Nat, st.1[c]? = some true → (rvs st rs).1[c]? = some true) ∧ (∀ r ∈ rs, 0 ≤ r → (rvs st rs).1[r.toNat]? = some true) ∧ ∃ ext, (rvs st rs).2 = st.2 ++ ext
  | [], st, h, _ => ⟨h, fun _ hb => hb, fun r hr => by simp at hr, [], by simp [rvs]⟩
  | r :: rs, st, h, hr => by
    obtain ⟨a1, a2, a3, e1, a4⟩ := h.one (hr r (by simp))
    obtain ⟨b1, b2, b3, e2, b4⟩ := RI.many rs (rv1 st r) a1 fun x hx => hr x (by simp [hx])
    refine ⟨b1, fun c hb => b2 c (a2 c hb), fun x hx h0 => ?_, e1 ++ e2, ?_⟩
    · rcases List.mem_cons.1 hx with rfl | hx
      · exact b2 _ (a3 h0)
      · exact b3 x hx h0
    · show (rvs (rv1 st r) rs).2 = _
      rw [b4, a4, List.append_assoc]
structure RJ (cs : List Cel) (fr : List Int) (st : List Bool × List Int) (k : Nat) : Prop extends RI cs fr st where
  first : ∀ r ∈ fr, 0 ≤ r → st.1[r.toNat]? = some true
  next : ∀ (i : Nat) (x : Int) (l : Cel), i < k → st.2[i]? = some x → cs[x.toNat]? = some l → ∀ r ∈ l.refs, 0 ≤ r → st.1[r.toNat]? = some true
theorem rj_start {cs : List Cel} {fr : List Int} (hf : ∀ r ∈ fr, leadsB cs r = true) : RJ cs fr (rvs (List.replicate cs.length false, []) fr) 0 := by
  obtain ⟨b1, b2, b3, b4⟩ := RI.many fr _ (RI.start cs fr) fun r hr h0 => .base hr h0 (leadsB_used (hf r hr) h0)
  exact { toRI := b1, first := b3, next := fun i x l hi => by omega }
theorem rj_rch {cs : List Cel} {fr : List Int} {st : List Bool × List Int} {k : Nat} {x : Int} {l : Cel} (h : RJ cs fr st k) (hx : st.2[k]? = some x) (hl : cs[x.toNat]? = some l) (hv : ∀ r ∈ l.refs, leadsB cs r = true) : ∀ r ∈ l.refs, 0 ≤ r → Rch cs (usedN cs) fr r.toNat :=
  fun r hr h0 => .step (h.rch _ (h.mem x (List.mem_of_getElem? hx)).2) hl hr h0 (leadsB_used (hv r hr) h0)
theorem rj_step {cs : List Cel} {fr : List Int} {st : List Bool × List Int} {k : Nat} {x : Int} {l : Cel} (h : RJ cs fr st k) (hx : st.2[k]? = some x) (hl : cs[x.toNat]? = some l) (hv : ∀ r ∈ l.refs, leadsB cs r = true) : RJ cs fr (rvs st l.refs) (k + 1) := by
  obtain ⟨b1, b2, b3, ext, b4⟩ := RI.many l.refs st h.toRI (rj_rch h hx hl hv)
  refine { toRI := b1, first := fun r hr h0 => b2 _ (h.first r hr h0), next := fun i y l' hi hy hl' r hr h0 => ?_ }
  have hk : k < st.2.length := (List.getElem?_eq_some_iff.1 hx).1
  rw [b4, List.getElem?_append_left (by omega)] at hy
  rcases Nat.lt_or_ge i k with h1 | h1
  · exact b2 _ (h.next i y l' h1 hy hl' r hr h0)
  · obtain rfl : i = k := by omega
    rw [hx] at hy; injection hy with hy; subst hy
    rw [hl] at hl'; injection hl' with hl'; subst hl'
    exact b3 r hr h0
theorem rj_end {cs : List Cel} {fr : List Int} {st : List Bool × List Int} {k : Nat} (h : RJ cs fr st k) (hk : st.2.length ≤ k) : st.1 = reachL cs fr := by
  apply List.ext_getElem?
  intro c
  unfold reachL
  rcases Nat.lt_or_ge c cs.length with hc | hc
  · have hc' : c < st.1.length := by rw [h.len]; exact hc
    rw [List.getElem?_eq_getElem hc', List.getElem?_map, List.getElem?_range hc, Option.map_some]
    congr 1
    unfold reachB
    rw [Bool.eq_iff_iff, decide_eq_true_eq]
    refine ⟨fun hb => h.rch c (by rw [List.getElem?_eq_getElem hc', hb]), fun hr => ?_⟩
    have key : st.1[c]? = some true := by
      clear hc hc'
      induction hr with
      | base h1 h2 h3 => exact h.first _ h1 h2
      | @step c l r _ h1 h2 h3 h4 ih =>
        obtain ⟨i, hi⟩ := List.getElem?_of_mem (h.back c ih)
        exact h.next i _ l (by have := (List.getElem?_eq_some_iff.1 hi).1; omega) hi (by simpa using h1) r h2 h3
    rw [List.getElem?_eq_getElem hc'] at key
    injection key
  · rw [List.getElem?_eq_none (by rw [h.len]; exact hc), List.getElem?_eq_none (by simpa using hc)]
theorem reachL_length (cs : List Cel) (fr : List Int) : (reachL cs fr).length = cs.length := by simp [reachL]
theorem reachL_at {cs : List Cel} {fr : List Int} {c : Nat} (h : c < cs.length) : (reachL cs fr)[c]? = some (reachB cs fr c) := by
  unfold reachL
  rw [List.getElem?_map, List.getElem?_range h]; rfl
theorem heapOk_leads {h : Hp} (h0 : heapOk h = true) : (∀ r ∈ h.roots, leadsB h.cells r = true) ∧ ∀ (c : Nat) (l : Cel), h.cells[c]? = some l → ∀ r ∈ l.refs, leadsB h.cells r = true := by
  simp only [heapOk, Bool.and_eq_true, List.all_eq_true] at h0
  refine ⟨h0.2, fun c l hl r hr => ?_⟩
  have := h0.1.2 l (List.mem_of_getElem? hl)
  unfold cellOk at this
  split at this
  · simp only [Bool.and_eq_true, List.all_eq_true] at this; exact this.1 r hr
  · simp only [Bool.and_eq_true, decide_eq_true_eq] at this
    have : l.refs = [] := List.length_eq_zero_iff.1 this.2
    rw [this] at hr; simp at hr
end Go.Proofs.Ytjpfgbckmcjjaaa
