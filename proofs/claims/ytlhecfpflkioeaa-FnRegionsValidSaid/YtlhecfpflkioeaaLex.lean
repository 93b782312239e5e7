/- A region that draws its order, walked once along a plan that the kernel finds: what only reads is taken as soon as it may come up (where its guard says no it is passed over), and at each other moment just one operation may come up. No condition. -/
import Derived.Deep.RegionHeld3
import Derived.Test.YtlhecfpflkioeaaBase
namespace Go.Proofs.Ytlhecfpflkioeaa
open Go.RowKit
def takeable (o : Oper) : Bool :=
  match o.op with
  | .move _ | .assign _ | .pick .. | .load .. | .fieldAddr .. | .field .. | .indexAddr .. | .index .. | .unOp .. | .binOp .. | .nilCheck _ | .slice .. | .extract .. | .build .. => true
  | .call { callee := .builtin .len, .. } => true
  | _ => false
def planFrom (ops : Array Oper) : Nat → Array Bool → Option (List (Nat × Bool))
  | 0, listed => if Region.ready .any ops listed = [] then some [] else none
  | f + 1, listed =>
    match (Region.ready .any ops listed).find? fun i => ((ops[i]?).map takeable).getD false && Region.free .any ops listed i with
    | some i => (planFrom ops f (listed.setIfInBounds i true)).map ((i, true) :: ·)
    | none =>
      match Region.ready .any ops listed with
      | [] => some []
      | [i] => (planFrom ops f (listed.setIfInBounds i true)).map ((i, false) :: ·)
      | _ => none
def plan (ops : Array Oper) : Option (List (Nat × Bool)) := if Region.noSelect ops then planFrom ops ops.size (Array.replicate ops.size false) else none

def wpPlan (P : Program) (ops : Array Oper) (Q : Exit → Act → World → Prop) (S : World → Prop) : List (Nat × Bool) → Act → World → Prop
  | [], a, w => Q .normal a w
  | (i, true) :: rest, a, w => ∃ o, ops[i]? = some o ∧ ∃ v, YieldsIf P ops S o v a ∧ wpPlan P ops Q S rest (a.put o.dst v) w
  | (i, false) :: rest, a, w => ∃ o, ops[i]? = some o ∧ wpOp P ops Q i (fun a' w' => S w' ∧ wpPlan P ops Q S rest a' w') a w

section
variable {P : Program} {ops : Array Oper} {Q : Exit → Act → World → Prop} {S : World → Prop}
theorem wpAnyH_of_plan (hs : Region.noSelect ops = true) (hQ : ∀ c a w d v, Q (.panic c) (Act.put a d v) w → Q (.panic c) a w) : ∀ (f : Nat) (listed : Array Bool) (l : List (Nat × Bool)) (a : Act) (w : World),
    planFrom ops f listed = some l → S w → wpPlan P ops Q S l a w → wpAnyH P .any ops Q S f listed a w
  | 0, listed, l, a, w, hp, hS, h => by
    unfold planFrom at hp
    split at hp
    · rename_i hr
      injection hp with hp
      subst hp
      exact ⟨hr, h⟩
    · cases hp
  | f + 1, listed, l, a, w, hp, hS, h => by
    unfold planFrom at hp
    split at hp
    · rename_i i hf
      obtain ⟨l', hl', rfl⟩ := Option.map_eq_some_iff.1 hp
      obtain ⟨o, ho, v, hy, h⟩ := h
      have h1 := List.find?_some hf
      have h2 := List.mem_of_find?_eq_some hf
      simp only [Bool.and_eq_true] at h1
      exact wpAnyH_take ho hs h1.2 (by simpa using h2) (fun c a w => hQ c a w _ _) hy hS (wpAnyH_of_plan hs hQ f _ l' _ w hl' hS h)
    · split at hp
      · rename_i hr
        injection hp with hp
        subst hp
        exact wpAnyH_done hr h _
      · rename_i i hr
        obtain ⟨l', hl', rfl⟩ := Option.map_eq_some_iff.1 hp
        obtain ⟨o, ho, h⟩ := h
        refine wpAnyH_all hr (by simp) fun j hj => ?_
        obtain rfl := List.mem_singleton.1 hj
        exact wpOp_mono (fun a' w' h' => ⟨h'.1, wpAnyH_of_plan hs hQ f _ l' a' w' hl' h'.1 h'.2⟩) h
      · cases hp

/-- The same along the text's own order. -/
def wpLex (P : Program) (ops : Array Oper) (Q : Exit → Act → World → Prop) (S : World → Prop) : List Oper → List Bool → Act → World → Prop
  | [], _, a, w => Q .normal a w
  | o :: os, true :: bs, a, w => ∃ v, YieldsIf P ops S o v a ∧ wpLex P ops Q S os bs (a.put o.dst v) w
  | o :: os, false :: bs, a, w => if Region.wanted o (yielded ops a.tmps) = true then o.wp P a w (fun a' w' => S w' ∧ wpLex P ops Q S os bs a' w') Q else S w ∧ wpLex P ops Q S os bs (a.put o.dst undef) w
  | _ :: _, [], _, _ => False
theorem wpPlan_of_lex : ∀ (l : List Oper) (bs : List Bool) (k : Nat) (a : Act) (w : World), (∀ j, l[j]? = ops[k + j]?) → wpLex P ops Q S l bs a w → wpPlan P ops Q S ((List.range' k l.length).zip bs) a w
  | [], _, _, _, _, _, h => h
  | o :: os, true :: bs, k, a, w, hl, h => by
    obtain ⟨v, hy, h⟩ := h
    exact ⟨o, by simpa using (hl 0).symm, v, hy, wpPlan_of_lex os bs (k + 1) _ _ (fun j => by have := hl (j + 1); simpa [Nat.add_assoc, Nat.add_comm 1 j] using this) h⟩
  | o :: os, false :: bs, k, a, w, hl, h => by
    have ho : ops[k]? = some o := by simpa using (hl 0).symm
    have hl' : ∀ j, os[j]? = ops[k + 1 + j]? := fun j => by have := hl (j + 1); simpa [Nat.add_assoc, Nat.add_comm 1 j] using this
    refine ⟨o, ho, ?_⟩
    unfold wpOp
    simp only [ho]
    unfold wpLex at h
    split at h
    · rename_i hw
      rw [if_pos hw]
      refine .inl (Oper.wp_mono ?_ h)
      exact fun a' w' h' => ⟨h'.1, wpPlan_of_lex os bs (k + 1) _ _ hl' h'.2⟩
    · rename_i hw
      rw [if_neg hw]
      exact ⟨h.1, wpPlan_of_lex os bs (k + 1) _ _ hl' h.2⟩
  | _ :: _, [], _, _, _, _, h => h.elim

theorem wp_region_lex {id : Nat} {a : Act} {w : World} {ops : List Oper} (S : World → Prop) (bs : List Bool) (hm : P.follows .mixedOrders = true) (hp : plan ops.toArray = some ((List.range' 0 ops.length).zip bs)) (hS : S w.drew)
    (h : wpLex P ops.toArray (NoPanic Q) S ops bs a w.drew) : (Code.region id ops.toArray true).wp P Q a w := by
  unfold plan at hp
  split at hp
  · rename_i hs
    refine wp_region_noPanic (wp_region_held_drew hm hS fun _ => ?_)
    exact wpAnyH_of_plan (Q := NoPanic Q) hs (fun c a w d v h => h) _ _ _ a _ hp hS (wpPlan_of_lex ops bs 0 a _ (by simp) h)
  · cases hp
theorem lex_nil {bs : List Bool} {a : Act} {w : World} (h : Q .normal a w) : wpLex P ops (NoPanic Q) S [] bs a w := h
theorem lex_take {os : List Oper} {bs : List Bool} {a : Act} {w : World} {o : Oper} {v : Value} (hw : Region.wanted o (yielded ops a.tmps) = true)
    (hv : ∀ w, S w → (execOp a.eval o).run P w = .ok (.value v) w) (h : wpLex P ops Q S os bs (a.put o.dst v) w) : wpLex P ops Q S (o :: os) (true :: bs) a w := ⟨v, .inl ⟨hw, hv⟩, h⟩
theorem lex_skip {os : List Oper} {bs : List Bool} {a : Act} {w : World} {o : Oper} (hw : Region.wanted o (yielded ops a.tmps) = false)
    (h : wpLex P ops Q S os bs (a.put o.dst undef) w) : wpLex P ops Q S (o :: os) (true :: bs) a w := ⟨undef, .inr ⟨hw, rfl⟩, h⟩
theorem lex_pass {os : List Oper} {bs : List Bool} {a : Act} {w : World} {o : Oper} (hw : Region.wanted o (yielded ops a.tmps) = false) (hS : S w)
    (h : wpLex P ops Q S os bs (a.put o.dst undef) w) : wpLex P ops Q S (o :: os) (false :: bs) a w := by
  unfold wpLex
  rw [if_neg (by simp [hw])]
  exact ⟨hS, h⟩
theorem lex_run {os : List Oper} {bs : List Bool} {a : Act} {w : World} {o : Oper} (hw : Region.wanted o (yielded ops a.tmps) = true)
    (h : ∀ K : Act → World → Prop, Shut (∀ a' w', S w' → wpLex P ops Q S os bs a' w' → K a' w') → o.wp P a w K Q) : wpLex P ops Q S (o :: os) (false :: bs) a w := by
  unfold wpLex
  rw [if_pos hw]
  exact h _ fun a' w' hS hp => ⟨hS, hp⟩
end
end Go.Proofs.Ytlhecfpflkioeaa
