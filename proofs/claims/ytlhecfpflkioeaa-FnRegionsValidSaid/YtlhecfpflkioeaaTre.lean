/- A region that draws its order, as a tree: what only reads goes first; where several others may come up, each is walked. The condition S need not hold behind a last operation that needs all others. No condition. -/
import Derived.Test.YtlhecfpflkioeaaLew
namespace Go.Proofs.Ytlhecfpflkioeaa
open Go.RowKit
inductive PT where
  | done
  | take (i : Nat) (t : PT)
  | alt (i : Nat) (t : PT) (more : PT)
  | stop
  | bad
/-- no: operations that are not to be taken first, though they only read (what they read, the region itself makes). -/
def planT (ops : Array Oper) (no : List Nat) : Nat → Array Bool → PT
  | 0, listed => match Region.ready .any ops listed with
    | [] => .done
    | _ => .bad
  | f + 1, listed =>
    match (Region.ready .any ops listed).find? fun i => ((ops[i]?).map takeable).getD false && !no.contains i && Region.free .any ops listed i with
    | some i => .take i (planT ops no f (listed.setIfInBounds i true))
    | none =>
      match Region.ready .any ops listed with
      | [] => .done
      | i :: rs => (i :: rs).foldr (fun i more => .alt i (planT ops no f (listed.setIfInBounds i true)) more) .stop
inductive PO where
  | done
  | take (o : Oper) (t : PO)
  | alt (o : Oper) (last : Bool) (t : PO) (more : PO)
  | stop
  | bad
def fillT (ops : List Oper) (z : Nat) : PT → PO
  | .done => .done
  | .take i t => match ops[i]? with
    | some o => .take o (fillT ops z t)
    | none => .bad
  | .alt i t more => match ops[i]? with
    | some o => .alt o (i == z) (fillT ops z t) (fillT ops z more)
    | none => .bad
  | .stop => .stop
  | .bad => .bad
def wpPO (P : Program) (ops : Array Oper) (Q : Exit → Act → World → Prop) (S : World → Prop) : PO → Act → World → Prop
  | .done, a, w => Q .normal a w
  | .take o t, a, w => ∃ v, YieldsIf P ops S o v a ∧ wpPO P ops Q S t (a.put o.dst v) w
  | .alt o last t more, a, w => (if Region.wanted o (yielded ops a.tmps) = true then o.wp P a w (fun a' w' => (last = true ∨ S w') ∧ wpPO P ops Q S t a' w') Q else (last = true ∨ S w) ∧ wpPO P ops Q S t (a.put o.dst undef) w) ∧ wpPO P ops Q S more a w
  | .stop, _, _ => True
  | .bad, _, _ => False
section
variable {P : Program} {ops : Array Oper} {Q : Exit → Act → World → Prop} {S : World → Prop} {z : Nat} {no : List Nat}
theorem wpAnyW_first' {i : Nat} {oi : Oper} {v : Value} (hi : ops[i]? = some oi) (hsel : ∀ (j : Nat) (o : Oper) cs b, ops[j]? = some o → o.op ≠ .select cs b)
    (hQ : ∀ c a w, Q (.panic c) (a.put oi.dst v) w → Q (.panic c) a w) (hz : ∀ listed : Array Bool, Down ops listed → i ∈ Region.ready .any ops listed → ∀ j ∈ Region.ready .any ops listed, j ≠ z) : ∀ (f : Nat) (listed : Array Bool) (a : Act) (w : World),
      (∀ j oj, ops[j]? = some oj → j ≠ i → listed.getD j true = false → (∀ e ∈ oj.after, Region.binds .any e = true → e.on ≠ i) → oi.apart ops oj = true) →
      Down ops listed → i ∈ Region.ready .any ops listed → YieldsIf P ops S oi v a → S w → wpAnyW P ops Q S z f (listed.setIfInBounds i true) (a.put oi.dst v) w → wpAnyW P ops Q S z (f + 1) listed a w
  | 0, listed, a, w, _, _, hr, hy, hS, H => by
    refine ⟨fun h => (by rw [h] at hr; cases hr), fun j hj => ?_⟩
    by_cases hji : j = i
    · subst hji; exact hy.wpOp hi hS ⟨.inr hS, H⟩
    have hj2 := ready_mono hj hji
    rw [H.1] at hj2; cases hj2
  | f + 1, listed, a, w, hfree, hd, hr, hy, hS, H => by
    refine ⟨fun h => (by rw [h] at hr; cases hr), fun j hj => ?_⟩
    by_cases hji : j = i
    · subst hji; exact hy.wpOp hi hS ⟨.inr hS, H⟩
    have hjz : j ≠ z := hz listed hd hr j hj
    have hj2 := ready_mono hj hji
    obtain ⟨hun, oj, hoj, hall⟩ := mem_ready.1 hj
    have hnot : ∀ e ∈ oj.after, Region.binds .any e = true → e.on ≠ i := fun e he hb heq => by
      have h1 := hall e he hb
      have h0 := (mem_ready.1 hr).1
      rw [heq] at h1
      rcases Nat.lt_or_ge i listed.size with h' | h'
      · simp [h'] at h0 h1; rw [h0] at h1; cases h1
      · simp [Array.getElem?_eq_none h'] at h1
    have h2 := wpOp_putIf hoj (hfree j oj hoj hji hun hnot) (fun cs b => hsel i oi cs b hi) (fun cs b => hsel j oj cs b hoj) hQ hy (H.2 j hj2)
    refine wpOp_mono (fun a' w' h3 => ?_) h2
    obtain ⟨hy', hS', hrest⟩ := h3
    have hSw : S w' := hS'.resolve_left hjz
    refine ⟨.inr hSw, wpAnyW_first' hi hsel hQ hz f _ a' w' (fun k ok hk hki hu hno => ?_) (hd.set hj) (ready_mono hr (Ne.symm hji)) hy' hSw ?_⟩
    · refine hfree k ok hk hki ?_ hno
      by_cases hjk : j = k
      · subst hjk; exact hun
      · rw [getD_set_ne true hjk] at hu; exact hu
    · rw [Array.setIfInBounds_comm _ _ hji]
      exact hrest
theorem alts_mem {l : List Oper} {T : Nat → PT} : ∀ (rs : List Nat) (a : Act) (w : World), wpPO P ops Q S (fillT l z (rs.foldr (fun i more => .alt i (T i) more) .stop)) a w →
    ∀ i ∈ rs, ∃ o, l[i]? = some o ∧ (if Region.wanted o (yielded ops a.tmps) = true then o.wp P a w (fun a' w' => ((i == z) = true ∨ S w') ∧ wpPO P ops Q S (fillT l z (T i)) a' w') Q else ((i == z) = true ∨ S w) ∧ wpPO P ops Q S (fillT l z (T i)) (a.put o.dst undef) w)
  | [], _, _, _, i, hi => by cases hi
  | j :: rs, a, w, h, i, hi => by
    rw [List.foldr_cons, fillT] at h
    split at h
    · rename_i o ho
      obtain ⟨h1, h2⟩ := h
      rcases List.mem_cons.1 hi with rfl | hi
      · exact ⟨o, ho, h1⟩
      · exact alts_mem rs a w h2 i hi
    · exact h.elim
theorem wpAnyW_of_tree {l : List Oper} (hl : ops = l.toArray) (hs : Region.noSelect ops = true) (hQ : ∀ c a w d v, Q (.panic c) (Act.put a d v) w → Q (.panic c) a w)
    (hzz : ops.size ≤ z ∨ ((∀ i, i < ops.size → i ≠ z → i ∈ needs ops z) ∧ ((ops[z]?).map takeable).getD false = false)) : ∀ (f : Nat) (listed : Array Bool) (a : Act) (w : World),
    Down ops listed → (z < ops.size → listed.getD z false = true ∨ S w) → (ops.size ≤ z → S w) → wpPO P ops Q S (fillT l z (planT ops no f listed)) a w → wpAnyW P ops Q S z f listed a w
  | 0, listed, a, w, hd, hS, hS', h => by
    unfold planT at h
    split at h
    · rename_i hr; exact ⟨hr, h⟩
    · exact h.elim
  | f + 1, listed, a, w, hd, hS, hS', h => by
    unfold planT at h
    split at h
    · rename_i i hf
      rw [fillT] at h
      split at h
      · rename_i o ho
        obtain ⟨v, hy, h⟩ := h
        have h1 := List.find?_some hf
        have h2 := List.mem_of_find?_eq_some hf
        simp only [Bool.and_eq_true] at h1
        have ho' : ops[i]? = some o := by rw [hl, List.getElem?_toArray]; exact ho
        have hi := (Array.getElem?_eq_some_iff.1 ho').1
        have hz : ∀ listed : Array Bool, Down ops listed → i ∈ Region.ready .any ops listed → ∀ j ∈ Region.ready .any ops listed, j ≠ z := fun L hdL hiL j hj e => by
          subst e
          obtain ⟨-, oj, hoj, -⟩ := mem_ready.1 hj
          have hjs := (Array.getElem?_eq_some_iff.1 hoj).1
          rcases hzz with hzz | ⟨hn, hzt⟩
          · omega
          · have hij : i ≠ j := fun e => by rw [e, hzt] at h1; exact absurd h1.1.1 (by simp)
            have := needs_listed hdL (ready_befores hj) i (hn i hi hij)
            rw [(not_listed hiL).1] at this
            cases this
        have hSw : S w := by
          rcases Nat.lt_or_ge z ops.size with hzs | hzs
          · rcases hS hzs with h3 | h3
            · exfalso
              rcases hzz with hzz | ⟨hn, hzt⟩
              · omega
              · have hij : i ≠ z := fun e => by rw [e, hzt] at h1; exact absurd h1.1.1 (by simp)
                have := needs_listed hd (hd z h3) i (hn i hi hij)
                rw [(not_listed h2).1] at this
                cases this
            · exact h3
          · exact hS' hzs
        refine wpAnyW_first' ho' (Region.noSelect_spec hs) (fun c a w => hQ c a w _ _) hz f listed a w (Region.free_spec ho' h1.2) hd h2 hy hSw (wpAnyW_of_tree hl hs hQ hzz f _ _ w (hd.set h2) (fun _ => .inr hSw) (fun _ => hSw) h)
      · exact h.elim
    · split at h
      · rename_i hr
        exact ⟨fun _ => h, by rw [hr]; intro i hi; cases hi⟩
      · rename_i j rs hr
        refine ⟨fun e => (by rw [e] at hr; cases hr), fun i hi => ?_⟩
        have hi' := hi
        rw [hr] at hi
        obtain ⟨o, ho, h3⟩ := alts_mem (j :: rs) a w h i hi
        have ho' : ops[i]? = some o := by rw [hl, List.getElem?_toArray]; exact ho
        have his := (Array.getElem?_eq_some_iff.1 ho').1
        have next : ∀ a' w', ((i == z) = true ∨ S w') ∧ wpPO P ops Q S (fillT l z (planT ops no f (listed.setIfInBounds i true))) a' w' → (i = z ∨ S w') ∧ wpAnyW P ops Q S z f (listed.setIfInBounds i true) a' w' := fun a' w' h' => by
          have hSz : i = z ∨ S w' := h'.1.imp (fun e => by simpa using e) id
          refine ⟨hSz, wpAnyW_of_tree hl hs hQ hzz f _ a' w' (hd.set hi') (fun hzs => ?_) (fun hzs => ?_) h'.2⟩
          · rcases hSz with e | e
            · left; subst e
              have := (not_listed hi').2
              simp [this]
            · exact .inr e
          · rcases hSz with e | e
            · omega
            · exact e
        unfold wpOp
        simp only [ho']
        split at h3
        · rename_i hw
          rw [if_pos hw]
          exact .inl (Oper.wp_mono next h3)
        · rename_i hw
          rw [if_neg hw]
          exact next _ _ h3
def treeOk (ops : Array Oper) (z : Nat) : Bool := Region.noSelect ops && (decide (ops.size ≤ z) || ((List.range ops.size).all (fun i => i == z || (needs ops z).contains i) && !((ops[z]?).map takeable).getD false))
theorem wp_region_tree {id : Nat} {a : Act} {w : World} {l : List Oper} (S : World → Prop) (z : Nat) (no : List Nat) (t : PT) (hm : P.follows .mixedOrders = true) (hp : planT l.toArray no l.toArray.size (Array.replicate l.toArray.size false) = t) (hn : treeOk l.toArray z = true) (hS : S w.drew)
    (h : wpPO P l.toArray (NoPanic Q) S (fillT l z t) a w.drew) : (Code.region id l.toArray true).wp P Q a w := by
  simp only [treeOk, Bool.and_eq_true, Bool.or_eq_true, decide_eq_true_eq, List.all_eq_true, List.mem_range, beq_iff_eq, Bool.not_eq_true'] at hn
  subst hp
  refine wp_region_noPanic (wp_region_any hm (wpAny_of_weak (z := z) (S := S) _ _ _ _ ?_))
  refine wpAnyW_of_tree (Q := NoPanic Q) rfl hn.1 (fun c a w d v h => h) (hn.2.imp (fun h => h) fun h => ⟨fun i hi hiz => List.contains_iff_mem.1 ((h.1 i hi).resolve_left hiz), h.2⟩) _ _ a _ (fun j hj => ?_) (fun _ => .inr hS) (fun _ => hS) h
  rcases Nat.lt_or_ge j l.length with h' | h'
  · simp [h'] at hj
  · simp [h'] at hj
theorem po_done {a : Act} {w : World} (h : Q .normal a w) : wpPO P ops (NoPanic Q) S .done a w := h
theorem po_take {t : PO} {a : Act} {w : World} {o : Oper} {v : Value} (hw : Region.wanted o (yielded ops a.tmps) = true)
    (hv : ∀ w, S w → (execOp a.eval o).run P w = .ok (.value v) w) (h : wpPO P ops Q S t (a.put o.dst v) w) : wpPO P ops Q S (.take o t) a w := ⟨v, .inl ⟨hw, hv⟩, h⟩
theorem po_skip {t : PO} {a : Act} {w : World} {o : Oper} (hw : Region.wanted o (yielded ops a.tmps) = false)
    (h : wpPO P ops Q S t (a.put o.dst undef) w) : wpPO P ops Q S (.take o t) a w := ⟨undef, .inr ⟨hw, rfl⟩, h⟩
theorem po_run {t more : PO} {last : Bool} {a : Act} {w : World} {o : Oper} (hw : Region.wanted o (yielded ops a.tmps) = true)
    (h : ∀ K : Act → World → Prop, Shut (∀ a' w', (last = true ∨ S w') → wpPO P ops Q S t a' w' → K a' w') → o.wp P a w K Q) (hm : wpPO P ops Q S more a w) : wpPO P ops Q S (.alt o last t more) a w := by
  refine ⟨?_, hm⟩
  rw [if_pos hw]
  exact h _ fun a' w' hS hp => ⟨hS, hp⟩
theorem po_no {t more : PO} {last : Bool} {a : Act} {w : World} {o : Oper} (hw : Region.wanted o (yielded ops a.tmps) = false) (hS : last = true ∨ S w)
    (h : wpPO P ops Q S t (a.put o.dst undef) w) (hm : wpPO P ops Q S more a w) : wpPO P ops Q S (.alt o last t more) a w := by
  refine ⟨?_, hm⟩
  rw [if_neg (by simp [hw])]
  exact ⟨hS, h⟩
theorem po_stop {a : Act} {w : World} : wpPO P ops Q S .stop a w := trivial
end
end Go.Proofs.Ytlhecfpflkioeaa
