/- The lexical walk of a region that draws its order (Lex), where the condition S need not hold behind the LAST operation, for which all others are needed: a region that ends with a store into a cell that it has read. No condition. -/
import Derived.Test.YtlhecfpflkioeaaLex
namespace Go.Proofs.Ytlhecfpflkioeaa
open Go.RowKit
def befores (ops : Array Oper) (i : Nat) : List Nat := match ops[i]? with
  | some o => (o.after.toList.filter fun e => Region.binds .any e).map (·.on)
  | none => []
def needsGo (ops : Array Oper) : Nat → List Nat → List Nat
  | 0, M => M
  | i + 1, M => needsGo ops i (if M.contains i then M ++ (befores ops i).filter (fun k => !M.contains k) else M)
def needs (ops : Array Oper) (z : Nat) : List Nat := needsGo ops z (befores ops z)
def lastNeeds (ops : Array Oper) : Bool := (List.range ops.size).all (fun i => i == ops.size - 1 || (needs ops (ops.size - 1)).contains i) && !((ops[ops.size - 1]?).map takeable).getD false
/-- Whatever is listed, what it waits for is listed. -/
def Down (ops : Array Oper) (listed : Array Bool) : Prop := ∀ j, listed.getD j false = true → ∀ k ∈ befores ops j, listed.getD k false = true
def wpAnyW (P : Program) (ops : Array Oper) (Q : Exit → Act → World → Prop) (S : World → Prop) (z : Nat) : Nat → Array Bool → Act → World → Prop
  | 0, listed, a, w => Region.ready .any ops listed = [] ∧ Q .normal a w
  | f + 1, listed, a, w => (Region.ready .any ops listed = [] → Q .normal a w) ∧
    ∀ i ∈ Region.ready .any ops listed, wpOp P ops Q i (fun a' w' => (i = z ∨ S w') ∧ wpAnyW P ops Q S z f (listed.setIfInBounds i true) a' w') a w
section
variable {P : Program} {ops : Array Oper} {Q : Exit → Act → World → Prop} {S : World → Prop} {z : Nat}
theorem ready_befores {i : Nat} {listed : Array Bool} (h : i ∈ Region.ready .any ops listed) : ∀ k ∈ befores ops i, listed.getD k false = true := by
  obtain ⟨_, o, ho, hall⟩ := mem_ready.1 h
  intro k hk
  simp only [befores, ho, List.mem_map, List.mem_filter] at hk
  obtain ⟨e, ⟨he, hb⟩, rfl⟩ := hk
  exact hall e (by simpa using he) hb
theorem Down.set {i : Nat} {listed : Array Bool} (hd : Down ops listed) (h : i ∈ Region.ready .any ops listed) : Down ops (listed.setIfInBounds i true) := by
  intro j hj k hk
  have key : listed.getD k false = true := by
    by_cases hji : j = i
    · subst hji; exact ready_befores h k hk
    · refine hd j ?_ k hk
      rw [getD_set_ne false (Ne.symm hji)] at hj
      exact hj
  exact getD_set_true key
theorem needsGo_listed {listed : Array Bool} (hd : Down ops listed) : ∀ (i : Nat) (M : List Nat), (∀ k ∈ M, listed.getD k false = true) → ∀ k ∈ needsGo ops i M, listed.getD k false = true
  | 0, M, h, k, hk => h k hk
  | i + 1, M, h, k, hk => by
    rw [needsGo] at hk
    refine needsGo_listed hd i _ (fun q hq => ?_) k hk
    split at hq
    · rename_i hc
      rcases List.mem_append.1 hq with hq | hq
      · exact h q hq
      · exact hd i (h i (by simpa using hc)) q (List.mem_filter.1 hq).1
    · exact h q hq
theorem needs_listed {listed : Array Bool} (hd : Down ops listed) (hz : ∀ k ∈ befores ops z, listed.getD k false = true) (k : Nat) (hk : k ∈ needs ops z) : listed.getD k false = true := needsGo_listed hd z _ hz k hk
theorem wpAny_of_weak : ∀ (f : Nat) (listed : Array Bool) (a : Act) (w : World), wpAnyW P ops Q S z f listed a w → wpAny P .any ops Q f listed a w
  | 0, _, _, _, h => h
  | f + 1, _, _, _, h => ⟨h.1, fun i hi => wpOp_mono (fun a' w' h' => wpAny_of_weak f _ a' w' h'.2) (h.2 i hi)⟩
theorem wpAnyW_first {i : Nat} {oi : Oper} {v : Value} (hi : ops[i]? = some oi) (hsel : ∀ (j : Nat) (o : Oper) cs b, ops[j]? = some o → o.op ≠ .select cs b)
    (hQ : ∀ c a w, Q (.panic c) (a.put oi.dst v) w → Q (.panic c) a w) (hin : i ∈ needs ops z) (hiz : i ≠ z) : ∀ (f : Nat) (listed : Array Bool) (a : Act) (w : World),
      (∀ j oj, ops[j]? = some oj → j ≠ i → listed.getD j true = false → (∀ e ∈ oj.after, Region.binds .any e = true → e.on ≠ i) → oi.apart ops oj = true) →
      Down ops listed → i ∈ Region.ready .any ops listed → YieldsIf P ops S oi v a → S w → wpAnyW P ops Q S z f (listed.setIfInBounds i true) (a.put oi.dst v) w → wpAnyW P ops Q S z (f + 1) listed a w
  | 0, listed, a, w, _, _, hr, hy, hS, H => by
    refine ⟨fun h => (by rw [h] at hr; cases hr), fun j hj => ?_⟩
    by_cases hji : j = i
    · subst hji; exact hy.wpOp hi hS ⟨.inr hS, H⟩
    have hj2 := ready_mono hj hji
    rw [H.1] at hj2; cases hj2
  | f + 1, listed, a, w, hfree, hd, hr, hy, hS, H => by
    refine ⟨fun h => (by rw [h] at hr; cases hr), fun j hj => ?_⟩
    by_cases hji : j = i
    · subst hji; exact hy.wpOp hi hS ⟨.inr hS, H⟩
    have hjz : j ≠ z := by
      rintro rfl
      have h1 := needs_listed hd (ready_befores hj) i hin
      have h0 := (mem_ready.1 hr).1
      rcases Nat.lt_or_ge i listed.size with h' | h'
      · simp [h'] at h0 h1; rw [h0] at h1; cases h1
      · simp [Array.getElem?_eq_none h'] at h1
    have hj2 := ready_mono hj hji
    obtain ⟨hun, oj, hoj, hall⟩ := mem_ready.1 hj
    have hnot : ∀ e ∈ oj.after, Region.binds .any e = true → e.on ≠ i := fun e he hb heq => by
      have h1 := hall e he hb
      have h0 := (mem_ready.1 hr).1
      rw [heq] at h1
      rcases Nat.lt_or_ge i listed.size with h' | h'
      · simp [h'] at h0 h1; rw [h0] at h1; cases h1
      · simp [Array.getElem?_eq_none h'] at h1
    have h2 := wpOp_putIf hoj (hfree j oj hoj hji hun hnot) (fun cs b => hsel i oi cs b hi) (fun cs b => hsel j oj cs b hoj) hQ hy (H.2 j hj2)
    refine wpOp_mono (fun a' w' h3 => ?_) h2
    obtain ⟨hy', hS', hrest⟩ := h3
    have hSw : S w' := hS'.resolve_left hjz
    refine ⟨.inr hSw, wpAnyW_first hi hsel hQ hin hiz f _ a' w' (fun k ok hk hki hu hno => ?_) (hd.set hj) (ready_mono hr (Ne.symm hji)) hy' hSw ?_⟩
    · refine hfree k ok hk hki ?_ hno
      by_cases hjk : j = k
      · subst hjk; exact hun
      · rw [getD_set_ne true hjk] at hu; exact hu
    · rw [Array.setIfInBounds_comm _ _ hji]
      exact hrest
theorem not_listed {i : Nat} {listed : Array Bool} (h : i ∈ Region.ready .any ops listed) : listed.getD i false = false ∧ i < listed.size := by
  have h0 := (mem_ready.1 h).1
  rcases Nat.lt_or_ge i listed.size with h' | h'
  · simp [h'] at h0 ⊢; exact h0
  · simp [Array.getElem?_eq_none h'] at h0
def wpPlanW (P : Program) (ops : Array Oper) (Q : Exit → Act → World → Prop) (S : World → Prop) (z : Nat) : List (Nat × Bool) → Act → World → Prop
  | [], a, w => Q .normal a w
  | (i, true) :: rest, a, w => ∃ o, ops[i]? = some o ∧ ∃ v, YieldsIf P ops S o v a ∧ wpPlanW P ops Q S z rest (a.put o.dst v) w
  | (i, false) :: rest, a, w => ∃ o, ops[i]? = some o ∧ wpOp P ops Q i (fun a' w' => (i = z ∨ S w') ∧ wpPlanW P ops Q S z rest a' w') a w
theorem wpAnyW_of_plan (hs : Region.noSelect ops = true) (hQ : ∀ c a w d v, Q (.panic c) (Act.put a d v) w → Q (.panic c) a w) (hn : ∀ i, i < ops.size → i ≠ z → i ∈ needs ops z) (hzt : ((ops[z]?).map takeable).getD false = false) : ∀ (f : Nat) (listed : Array Bool) (l : List (Nat × Bool)) (a : Act) (w : World),
    planFrom ops f listed = some l → Down ops listed → (listed.getD z false = false → S w) → wpPlanW P ops Q S z l a w → wpAnyW P ops Q S z f listed a w
  | 0, listed, l, a, w, hp, hd, hS, h => by
    unfold planFrom at hp
    split at hp
    · rename_i hr
      injection hp with hp
      subst hp
      exact ⟨hr, h⟩
    · cases hp
  | f + 1, listed, l, a, w, hp, hd, hS, h => by
    unfold planFrom at hp
    split at hp
    · rename_i i hf
      obtain ⟨l', hl', rfl⟩ := Option.map_eq_some_iff.1 hp
      obtain ⟨o, ho, v, hy, h⟩ := h
      have h1 := List.find?_some hf
      have h2 := List.mem_of_find?_eq_some hf
      simp only [Bool.and_eq_true] at h1
      have hiz : i ≠ z := fun e => by rw [e, hzt] at h1; exact absurd h1.1 (by simp)
      have hin := hn i (Array.getElem?_eq_some_iff.1 ho).1 hiz
      have hzl : listed.getD z false = false := by
        cases hc : listed.getD z false
        · rfl
        · have := needs_listed hd (hd z hc) i hin
          rw [(not_listed h2).1] at this
          cases this
      refine wpAnyW_first ho (Region.noSelect_spec hs) (fun c a w => hQ c a w _ _) hin hiz f listed a w (Region.free_spec ho h1.2) hd h2 hy (hS hzl) (wpAnyW_of_plan hs hQ hn hzt f _ l' _ w hl' (hd.set h2) (fun _ => hS hzl) h)
    · split at hp
      · rename_i hr
        injection hp with hp
        subst hp
        exact ⟨fun _ => h, by rw [hr]; intro i hi; cases hi⟩
      · rename_i i hr
        obtain ⟨l', hl', rfl⟩ := Option.map_eq_some_iff.1 hp
        obtain ⟨o, ho, h⟩ := h
        have hir : i ∈ Region.ready .any ops listed := by rw [hr]; exact List.mem_singleton_self _
        refine ⟨fun e => (by rw [e] at hir; cases hir), fun j hj => ?_⟩
        rw [hr] at hj
        obtain rfl := List.mem_singleton.1 hj
        refine wpOp_mono (fun a' w' h' => ⟨h'.1, wpAnyW_of_plan hs hQ hn hzt f _ l' a' w' hl' (hd.set hir) (fun e => ?_) h'.2⟩) h
        rcases h'.1 with rfl | hS'
        · exfalso
          have := (not_listed hir).2
          simp [this] at e
        · exact hS'
      · cases hp

def wpLexW (P : Program) (ops : Array Oper) (Q : Exit → Act → World → Prop) (S : World → Prop) : List Oper → List Bool → Act → World → Prop
  | [], _, a, w => Q .normal a w
  | o :: os, true :: bs, a, w => ∃ v, YieldsIf P ops S o v a ∧ wpLexW P ops Q S os bs (a.put o.dst v) w
  | o :: os, false :: bs, a, w => if Region.wanted o (yielded ops a.tmps) = true then o.wp P a w (fun a' w' => (os = [] ∨ S w') ∧ wpLexW P ops Q S os bs a' w') Q else (os = [] ∨ S w) ∧ wpLexW P ops Q S os bs (a.put o.dst undef) w
  | _ :: _, [], _, _ => False
theorem wpPlanW_of_lex : ∀ (l : List Oper) (bs : List Bool) (k : Nat) (a : Act) (w : World), k + l.length = z + 1 → (∀ j, l[j]? = ops[k + j]?) → wpLexW P ops Q S l bs a w → wpPlanW P ops Q S z ((List.range' k l.length).zip bs) a w
  | [], _, _, _, _, _, _, h => h
  | o :: os, true :: bs, k, a, w, hz, hl, h => by
    obtain ⟨v, hy, h⟩ := h
    exact ⟨o, by simpa using (hl 0).symm, v, hy, wpPlanW_of_lex os bs (k + 1) _ _ (by simp at hz; omega) (fun j => by have := hl (j + 1); simpa [Nat.add_assoc, Nat.add_comm 1 j] using this) h⟩
  | o :: os, false :: bs, k, a, w, hz, hl, h => by
    have ho : ops[k]? = some o := by simpa using (hl 0).symm
    have hl' : ∀ j, os[j]? = ops[k + 1 + j]? := fun j => by have := hl (j + 1); simpa [Nat.add_assoc, Nat.add_comm 1 j] using this
    have hz' : k + 1 + os.length = z + 1 := by simp at hz; omega
    have hkz : os = [] → k = z := by rintro rfl; simpa using hz'
    refine ⟨o, ho, ?_⟩
    unfold wpOp
    simp only [ho]
    unfold wpLexW at h
    split at h
    · rename_i hw
      rw [if_pos hw]
      refine .inl (Oper.wp_mono ?_ h)
      exact fun a' w' h' => ⟨h'.1.imp hkz id, wpPlanW_of_lex os bs (k + 1) _ _ hz' hl' h'.2⟩
    · rename_i hw
      rw [if_neg hw]
      exact ⟨h.1.imp hkz id, wpPlanW_of_lex os bs (k + 1) _ _ hz' hl' h.2⟩
  | _ :: _, [], _, _, _, _, _, h => h.elim

theorem wp_region_lew {id : Nat} {a : Act} {w : World} {ops : List Oper} (S : World → Prop) (bs : List Bool) (hm : P.follows .mixedOrders = true) (hp : plan ops.toArray = some ((List.range' 0 ops.length).zip bs)) (hn : lastNeeds ops.toArray = true) (hne : ops ≠ []) (hS : S w.drew)
    (h : wpLexW P ops.toArray (NoPanic Q) S ops bs a w.drew) : (Code.region id ops.toArray true).wp P Q a w := by
  unfold plan at hp
  split at hp
  · rename_i hs
    have hlen : 0 < ops.length := List.length_pos_iff.2 hne
    simp only [lastNeeds, Bool.and_eq_true, List.all_eq_true, List.mem_range, Bool.or_eq_true, beq_iff_eq, Bool.not_eq_true'] at hn
    refine wp_region_noPanic (wp_region_any hm (wpAny_of_weak (z := ops.toArray.size - 1) (S := S) _ _ _ _ ?_))
    refine wpAnyW_of_plan (Q := NoPanic Q) hs (fun c a w d v h => h) (fun i hi hiz => ?_) hn.2 _ _ _ a _ hp (fun j hj => ?_) (fun _ => hS) (wpPlanW_of_lex ops bs 0 a _ (by simp; omega) (by simp) h)
    · exact List.contains_iff_mem.1 ((hn.1 i hi).resolve_left hiz)
    · rcases Nat.lt_or_ge j ops.length with h' | h'
      · simp [h'] at hj
      · simp [h'] at hj
  · cases hp
/-- The same in the plan's own order, where it is not the text's. -/
def pick (ops : List Oper) (pl : List (Nat × Bool)) : List Oper := pl.filterMap fun p => ops[p.1]?
def inside (n : Nat) (pl : List (Nat × Bool)) : Bool := pl.all fun p => decide (p.1 < n)
theorem wpPlanW_of_pick {ops : List Oper} : ∀ (pl : List (Nat × Bool)) (a : Act) (w : World), inside ops.length pl = true → (pl.getLast?.map (·.1) = some z ∨ pl = []) → wpLexW P ops.toArray Q S (pick ops pl) (pl.map (·.2)) a w → wpPlanW P ops.toArray Q S z pl a w
  | [], _, _, _, _, h => h
  | (i, b) :: pl, a, w, hin, hz, h => by
    simp only [inside, List.all_cons, Bool.and_eq_true, decide_eq_true_eq] at hin
    have hi : ops[i]? = some ops[i] := List.getElem?_eq_getElem hin.1
    have ho : ops.toArray[i]? = some ops[i] := by rw [List.getElem?_toArray]; exact hi
    have hp : pick ops ((i, b) :: pl) = ops[i] :: pick ops pl := by unfold pick; rw [List.filterMap_cons]; simp [hi]
    rw [hp, List.map_cons] at h
    have hz' : pl.getLast?.map (·.1) = some z ∨ pl = [] := by
      cases pl with
      | nil => exact .inr rfl
      | cons p pl =>
        rcases hz with hz | hz
        · left; rwa [List.getLast?_cons_cons] at hz
        · cases hz
    have hkz : pick ops pl = [] → i = z := by
      intro e
      cases pl with
      | nil =>
        rcases hz with hz | hz
        · simpa using hz
        · cases hz
      | cons p pl =>
        exfalso
        have h2 := hin.2
        simp only [List.all_cons, Bool.and_eq_true, decide_eq_true_eq] at h2
        unfold pick at e
        rw [List.filterMap_cons, List.getElem?_eq_getElem h2.1] at e
        cases e
    cases b with
    | true =>
      obtain ⟨v, hy, h⟩ := h
      exact ⟨_, ho, v, hy, wpPlanW_of_pick pl _ _ hin.2 hz' h⟩
    | false =>
      refine ⟨_, ho, ?_⟩
      unfold wpOp
      simp only [ho]
      unfold wpLexW at h
      split at h
      · rename_i hw
        rw [if_pos hw]
        refine .inl (Oper.wp_mono ?_ h)
        exact fun a' w' h' => ⟨h'.1.imp hkz id, wpPlanW_of_pick pl _ _ hin.2 hz' h'.2⟩
      · rename_i hw
        rw [if_neg hw]
        exact ⟨h.1.imp hkz id, wpPlanW_of_pick pl _ _ hin.2 hz' h.2⟩
theorem wp_region_pick {id : Nat} {a : Act} {w : World} {ops : List Oper} (S : World → Prop) (pl : List (Nat × Bool)) (hm : P.follows .mixedOrders = true) (hp : plan ops.toArray = some pl) (hn : (lastNeeds ops.toArray && inside ops.length pl && (pl.getLast?.map (·.1) == some (ops.toArray.size - 1))) = true) (hS : S w.drew)
    (h : wpLexW P ops.toArray (NoPanic Q) S (pick ops pl) (pl.map (·.2)) a w.drew) : (Code.region id ops.toArray true).wp P Q a w := by
  unfold plan at hp
  split at hp
  · rename_i hs
    simp only [lastNeeds, Bool.and_eq_true, List.all_eq_true, List.mem_range, Bool.or_eq_true, beq_iff_eq, Bool.not_eq_true'] at hn
    obtain ⟨⟨hn, hin⟩, hz⟩ := hn
    refine wp_region_noPanic (wp_region_any hm (wpAny_of_weak (z := ops.toArray.size - 1) (S := S) _ _ _ _ ?_))
    refine wpAnyW_of_plan (Q := NoPanic Q) hs (fun c a w d v h => h) (fun i hi hiz => ?_) hn.2 _ _ _ a _ hp (fun j hj => ?_) (fun _ => hS) (wpPlanW_of_pick pl a _ hin (.inl hz) h)
    · exact List.contains_iff_mem.1 ((hn.1 i hi).resolve_left hiz)
    · rcases Nat.lt_or_ge j ops.length with h' | h'
      · simp [h'] at hj
      · simp [h'] at hj
  · cases hp
theorem lew_nil {bs : List Bool} {a : Act} {w : World} (h : Q .normal a w) : wpLexW P ops (NoPanic Q) S [] bs a w := h
theorem lew_take {os : List Oper} {bs : List Bool} {a : Act} {w : World} {o : Oper} {v : Value} (hw : Region.wanted o (yielded ops a.tmps) = true)
    (hv : ∀ w, S w → (execOp a.eval o).run P w = .ok (.value v) w) (h : wpLexW P ops Q S os bs (a.put o.dst v) w) : wpLexW P ops Q S (o :: os) (true :: bs) a w := ⟨v, .inl ⟨hw, hv⟩, h⟩
theorem lew_skip {os : List Oper} {bs : List Bool} {a : Act} {w : World} {o : Oper} (hw : Region.wanted o (yielded ops a.tmps) = false)
    (h : wpLexW P ops Q S os bs (a.put o.dst undef) w) : wpLexW P ops Q S (o :: os) (true :: bs) a w := ⟨undef, .inr ⟨hw, rfl⟩, h⟩
theorem lew_run {os : List Oper} {bs : List Bool} {a : Act} {w : World} {o : Oper} (hw : Region.wanted o (yielded ops a.tmps) = true)
    (h : ∀ K : Act → World → Prop, Shut (∀ a' w', (os = [] ∨ S w') → wpLexW P ops Q S os bs a' w' → K a' w') → o.wp P a w K Q) : wpLexW P ops Q S (o :: os) (false :: bs) a w := by
  unfold wpLexW
  rw [if_pos hw]
  exact h _ fun a' w' hS hp => ⟨hS, hp⟩
end
end Go.Proofs.Ytlhecfpflkioeaa
