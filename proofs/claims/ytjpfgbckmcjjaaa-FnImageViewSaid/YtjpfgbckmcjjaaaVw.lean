/- Plain laws on the order in which cells are met and on what a program sees of a heap; two heaps whose cells that are met correspond show the same. No program. -/
import Derived.Test.YtjpfgbckmcjjaaaRr
namespace Go.Proofs.Ytjpfgbckmcjjaaa
open Go.RowKit
def cel (cs : List Cel) (r : Int) : Cel := cs.getD r.toNat noCel
def ord1 (o : List Int) (r : Int) : List Int := if 0 ≤ r ∧ r ∉ o then o ++ [r] else o
def ordL (o : List Int) (rs : List Int) : List Int := rs.foldl ord1 o
def ordS (cs : List Cel) : Nat → List Int → List Int
  | 0, o => o
  | k + 1, o => match (ordS cs k o)[k]? with
    | some c => ordL (ordS cs k o) (cel cs c).refs
    | none => ordS cs k o
theorem ordH_ex (h : Hp) : ∃ o : List Int, o = ordS h.cells 64 (ordL [] h.roots) := ⟨_, rfl⟩
/-- The order, hidden from the kernel's unfolding. -/
noncomputable def ordH (h : Hp) : List Int := Classical.choose (ordH_ex h)
theorem ordH_def (h : Hp) : ordH h = ordS h.cells 64 (ordL [] h.roots) := Classical.choose_spec (ordH_ex h)
noncomputable def mMetOrder (h : Hp) : List Int := if heapOk h then ordH h else []
def nameI (o : List Int) (r : Int) : Int := if r ∈ o then ((o.idxOf r : Nat) : Int) else -1
def viewC (cs : List Cel) (o : List Int) (c : Int) : List Int := (cel cs c).data :: (((cel cs c).refs.length : Nat) : Int) :: (cel cs c).refs.map (nameI o)
noncomputable def viewH (h : Hp) : List Int := h.roots.map (nameI (ordH h)) ++ (ordH h).flatMap (viewC h.cells (ordH h))
noncomputable def mView (h : Hp) : List Int := if heapOk h then viewH h else []
theorem mView_yes {h : Hp} (h0 : heapOk h = true) : mView h = viewH h := by simp [mView, h0]
theorem mMet_yes {h : Hp} (h0 : heapOk h = true) : mMetOrder h = ordH h := by simp [mMetOrder, h0]
theorem mMet_no {h : Hp} (h0 : heapOk h = false) : mMetOrder h = [] := by simp [mMetOrder, h0]
theorem cel_at {cs : List Cel} {c : Nat} {l : Cel} (h : Hid (cs[c]? = some l)) : cel cs (c : Int) = l := by
  unfold cel
  rw [List.getD_eq_getElem?_getD, Int.toNat_natCast, h.out]; rfl
theorem ord1_no {o : List Int} {r : Int} (h : r < 0 ∨ r ∈ o) : ord1 o r = o := by
  unfold ord1
  rw [if_neg]
  rintro ⟨h1, h2⟩
  rcases h with h | h
  · omega
  · exact h2 h
theorem ord1_yes {o : List Int} {r : Int} (h : 0 ≤ r) (h2 : r ∉ o) : ord1 o r = o ++ [r] := by
  unfold ord1
  rw [if_pos ⟨h, h2⟩]
theorem ordL_take {o rs : List Int} {k : Nat} {r : Int} (h : Hid (rs[k]? = some r)) : ordL o (rs.take (k + 1)) = ord1 (ordL o (rs.take k)) r := by
  obtain ⟨hk, rfl⟩ := List.getElem?_eq_some_iff.1 h.out
  unfold ordL
  rw [List.take_succ_eq_append_getElem hk, List.foldl_append]; rfl
/-! ### The order: what is in it, that nothing is in it twice, that it ends -/
theorem ord1_mem {o : List Int} {r x : Int} : x ∈ ord1 o r ↔ x ∈ o ∨ (x = r ∧ 0 ≤ r) := by
  unfold ord1
  by_cases h : 0 ≤ r ∧ r ∉ o
  · rw [if_pos h]
    simp only [List.mem_append, List.mem_singleton]
    exact ⟨fun k => k.imp_right fun e => ⟨e, h.1⟩, fun k => k.imp_right fun e => e.1⟩
  · rw [if_neg h]
    refine ⟨.inl, fun k => k.elim id fun e => ?_⟩
    rcases Classical.em (r ∈ o) with q | q
    · rw [e.1]; exact q
    · exact absurd ⟨e.2, q⟩ h
theorem ordL_mem {x : Int} : ∀ (rs o : List Int), x ∈ ordL o rs ↔ x ∈ o ∨ (x ∈ rs ∧ 0 ≤ x)
  | [], o => by simp [ordL]
  | r :: rs, o => by
    show x ∈ ordL (ord1 o r) rs ↔ _
    rw [ordL_mem rs, ord1_mem, List.mem_cons]
    constructor
    · rintro ((k | ⟨rfl, k⟩) | ⟨k1, k2⟩)
      · exact .inl k
      · exact .inr ⟨.inl rfl, k⟩
      · exact .inr ⟨.inr k1, k2⟩
    · rintro (k | ⟨rfl | k1, k2⟩)
      · exact .inl (.inl k)
      · exact .inl (.inr ⟨rfl, k2⟩)
      · exact .inr ⟨k1, k2⟩
theorem ord1_ext (o : List Int) (r : Int) : ∃ e, ord1 o r = o ++ e := by
  unfold ord1
  split
  · exact ⟨_, rfl⟩
  · exact ⟨[], by simp⟩
theorem ordL_ext : ∀ (rs o : List Int), ∃ e, ordL o rs = o ++ e
  | [], o => ⟨[], by simp [ordL]⟩
  | r :: rs, o => by
    obtain ⟨e1, h1⟩ := ord1_ext o r
    obtain ⟨e2, h2⟩ := ordL_ext rs (ord1 o r)
    exact ⟨e1 ++ e2, by show ordL (ord1 o r) rs = _; rw [h2, h1, List.append_assoc]⟩
theorem ord1_nodup {o : List Int} (h : o.Nodup) (r : Int) : (ord1 o r).Nodup := by
  unfold ord1
  split
  · rename_i k
    rw [List.nodup_append]
    refine ⟨h, by simp, fun a ha b hb => ?_⟩
    simp only [List.mem_singleton] at hb
    subst hb
    rintro rfl
    exact k.2 ha
  · exact h
theorem ordL_nodup : ∀ (rs o : List Int), o.Nodup → (ordL o rs).Nodup
  | [], _, h => h
  | r :: rs, o, h => ordL_nodup rs (ord1 o r) (ord1_nodup h r)
theorem ordS_succ {cs : List Cel} {k : Nat} {o : List Int} {c : Int} (h : Hid ((ordS cs k o)[k]? = some c)) : ordS cs (k + 1) o = ordL (ordS cs k o) (cel cs c).refs := by
  simp only [ordS, h.out]
theorem ordS_stop {cs : List Cel} {k : Nat} {o : List Int} (h : (ordS cs k o).length ≤ k) : ordS cs (k + 1) o = ordS cs k o := by
  simp only [ordS, List.getElem?_eq_none h]
theorem ordS_end {cs : List Cel} {k : Nat} {o : List Int} (h : (ordS cs k o).length ≤ k) : ∀ j, ordS cs (k + j) o = ordS cs k o
  | 0 => rfl
  | j + 1 => by
    have ih := ordS_end h j
    rw [show k + (j + 1) = (k + j) + 1 by omega, ordS_stop (by rw [ih]; omega), ih]
theorem ordS_ext (cs : List Cel) (o : List Int) : ∀ k, ∃ e, ordS cs k o = o ++ e
  | 0 => ⟨[], by simp [ordS]⟩
  | k + 1 => by
    obtain ⟨e, h⟩ := ordS_ext cs o k
    cases hq : (ordS cs k o)[k]? with
    | none => exact ⟨e, by simp only [ordS, hq]; exact h⟩
    | some c =>
      obtain ⟨e2, h2⟩ := ordL_ext (cel cs c).refs (ordS cs k o)
      exact ⟨e ++ e2, by simp only [ordS, hq]; rw [h2, h, List.append_assoc]⟩
theorem ordS_nodup (cs : List Cel) {o : List Int} (h : o.Nodup) : ∀ k, (ordS cs k o).Nodup
  | 0 => h
  | k + 1 => by
    have ih := ordS_nodup cs h k
    cases hq : (ordS cs k o)[k]? with
    | none => simp only [ordS, hq]; exact ih
    | some c => simp only [ordS, hq]; exact ordL_nodup _ _ ih
theorem ordS_all {cs : List Cel} {R : Int → Prop} (hc : ∀ c, R c → ∀ r ∈ (cel cs c).refs, 0 ≤ r → R r) {o : List Int} (h : ∀ x ∈ o, R x) : ∀ k, ∀ x ∈ ordS cs k o, R x
  | 0 => h
  | k + 1 => by
    have ih := ordS_all hc h k
    cases hq : (ordS cs k o)[k]? with
    | none => simp only [ordS, hq]; exact ih
    | some c =>
      simp only [ordS, hq]
      intro x hx
      rcases (ordL_mem _ _).1 hx with hx | ⟨h1, h2⟩
      · exact ih x hx
      · exact hc c (ih c (List.mem_of_getElem? hq)) x h1 h2
theorem ordL_all {R : Int → Prop} {o rs : List Int} (h : ∀ x ∈ o, R x) (hr : ∀ r ∈ rs, 0 ≤ r → R r) : ∀ x ∈ ordL o rs, R x := by
  intro x hx
  rcases (ordL_mem _ _).1 hx with hx | ⟨h1, h2⟩
  · exact h x hx
  · exact hr x h1 h2
theorem ordS_next {cs : List Cel} {o : List Int} : ∀ (k i : Nat) (c : Int), i < k → (ordS cs k o)[i]? = some c → ∀ r ∈ (cel cs c).refs, 0 ≤ r → r ∈ ordS cs k o
  | 0, i, c, hi, _ => by omega
  | k + 1, i, c, hi, hc => by
    intro r hr h0
    cases hq : (ordS cs k o)[k]? with
    | none =>
      have hs : ordS cs (k + 1) o = ordS cs k o := by simp only [ordS, hq]
      rw [hs] at hc ⊢
      have hik : i < k := by
        rcases Nat.lt_or_ge i k with q | q
        · exact q
        · have : i = k := by omega
          rw [this, hq] at hc; cases hc
      exact ordS_next k i c hik hc r hr h0
    | some d =>
      have hs : ordS cs (k + 1) o = ordL (ordS cs k o) (cel cs d).refs := by simp only [ordS, hq]
      rw [hs] at hc ⊢
      rw [ordL_mem]
      have hk : k < (ordS cs k o).length := (List.getElem?_eq_some_iff.1 hq).1
      obtain ⟨e, he⟩ := ordL_ext (cel cs d).refs (ordS cs k o)
      rw [he, List.getElem?_append_left (by omega)] at hc
      rcases Nat.lt_or_ge i k with q | q
      · exact .inl (ordS_next k i c q hc r hr h0)
      · have : i = k := by omega
        rw [this, hq] at hc
        injection hc with hc
        subst hc
        exact .inr ⟨hr, h0⟩
theorem nodup_len : ∀ (n : Nat) (l : List Int), l.Nodup → (∀ x ∈ l, 0 ≤ x ∧ x < n) → l.length ≤ n
  | 0, l, _, h => by
    cases l with
    | nil => simp
    | cons a l => have := h a (by simp); omega
  | n + 1, l, hd, h => by
    by_cases hm : (n : Int) ∈ l
    · have h1 := nodup_len n (l.erase (n : Int)) (hd.erase _) fun x hx => by
        obtain ⟨h2, h3⟩ := (List.Nodup.mem_erase_iff hd).1 hx
        have := h x h3
        omega
      rw [List.length_erase_of_mem hm] at h1
      omega
    · have := nodup_len n l hd fun x hx => by
        have := h x hx
        have : x ≠ n := by rintro rfl; exact hm hx
        omega
      omega
/-! ### Valid heaps -/
/-- The cells that can be reached, as numbers. -/
def RchI (h : Hp) (r : Int) : Prop := 0 ≤ r ∧ reachB h.cells h.roots r.toNat = true
theorem reach_lt {h : Hp} {r : Int} (hr : RchI h r) : r < h.cells.length := by
  obtain ⟨h0, h1⟩ := hr
  simp only [reachB, decide_eq_true_eq] at h1
  have := usedN_lt h1.inS
  omega
theorem cel_refs {cs : List Cel} {c r : Int} (hr : r ∈ (cel cs c).refs) : ∃ l, cs[c.toNat]? = some l ∧ r ∈ l.refs ∧ cel cs c = l := by
  unfold cel at hr ⊢
  rw [List.getD_eq_getElem?_getD] at hr ⊢
  cases hq : cs[c.toNat]? with
  | none => rw [hq] at hr; simp [noCel] at hr
  | some l => rw [hq] at hr; exact ⟨l, rfl, hr, rfl⟩
theorem rchI_root {h : Hp} (h0 : heapOk h = true) : ∀ r ∈ h.roots, 0 ≤ r → RchI h r := fun r hr hp => by
  refine ⟨hp, ?_⟩
  simp only [reachB, decide_eq_true_eq]
  exact .base hr hp (leadsB_used ((heapOk_leads h0).1 r hr) hp)
theorem rchI_ref {h : Hp} (h0 : heapOk h = true) : ∀ c, RchI h c → ∀ r ∈ (cel h.cells c).refs, 0 ≤ r → RchI h r := fun c hc r hr hp => by
  obtain ⟨l, hl, hm, -⟩ := cel_refs hr
  refine ⟨hp, ?_⟩
  have h1 := hc.2
  simp only [reachB, decide_eq_true_eq] at h1 ⊢
  exact .step h1 hl hm hp (leadsB_used ((heapOk_leads h0).2 _ l hl r hm) hp)
theorem ordS_reach {h : Hp} (h0 : heapOk h = true) (k : Nat) : ∀ x ∈ ordS h.cells k (ordL [] h.roots), RchI h x :=
  ordS_all (rchI_ref h0) (ordL_all (fun x hx => by simp at hx) (rchI_root h0)) k
theorem ordS_len {h : Hp} (h0 : heapOk h = true) (k : Nat) : (ordS h.cells k (ordL [] h.roots)).length ≤ h.cells.length :=
  nodup_len _ _ (ordS_nodup _ (ordL_nodup _ _ List.nodup_nil) k) fun x hx => ⟨(ordS_reach h0 k x hx).1, reach_lt (ordS_reach h0 k x hx)⟩
theorem ordH_end {h : Hp} {k : Nat} (hk : (ordS h.cells k (ordL [] h.roots)).length ≤ k) (h64 : k ≤ 64) : ordS h.cells k (ordL [] h.roots) = ordH h := by
  have := ordS_end hk (64 - k)
  rw [show k + (64 - k) = 64 by omega] at this
  rw [ordH_def]
  exact this.symm
theorem ordH_nodup (h : Hp) : (ordH h).Nodup := by rw [ordH_def]; exact ordS_nodup _ (ordL_nodup _ _ List.nodup_nil) 64
theorem ordH_reach {h : Hp} (h0 : heapOk h = true) : ∀ x ∈ ordH h, RchI h x := by rw [ordH_def]; exact ordS_reach h0 64
theorem ordH_len {h : Hp} (h0 : heapOk h = true) : (ordH h).length ≤ h.cells.length := by rw [ordH_def]; exact ordS_len h0 64
theorem ordH_root (h : Hp) : ∀ r ∈ h.roots, 0 ≤ r → r ∈ ordH h := fun r hr hp => by
  obtain ⟨e, he⟩ := ordS_ext h.cells (ordL [] h.roots) 64
  rw [ordH_def, he, List.mem_append, ordL_mem]
  exact .inl (.inr ⟨hr, hp⟩)
theorem ordH_ref {h : Hp} (h0 : heapOk h = true) : ∀ c ∈ ordH h, ∀ r ∈ (cel h.cells c).refs, 0 ≤ r → r ∈ ordH h := fun c hc r hr hp => by
  obtain ⟨i, hi⟩ := List.getElem?_of_mem hc
  have h1 := ordH_len h0
  have h2 := (List.getElem?_eq_some_iff.1 hi).1
  have h3 : h.cells.length ≤ 40 := by
    simp only [heapOk, Bool.and_eq_true, decide_eq_true_eq] at h0
    exact h0.1.1.1
  rw [ordH_def] at hi ⊢
  exact ordS_next 64 i c (by omega) hi r hr hp
/-! ### Two heaps that show the same -/
def up (f : Int → Int) (r : Int) : Int := if r < 0 then r else f r
theorem up_neg {f : Int → Int} {r : Int} (h : r < 0) : up f r = r := by simp [up, h]
theorem up_pos {f : Int → Int} {r : Int} (h : 0 ≤ r) : up f r = f r := by unfold up; rw [if_neg (by omega)]
theorem up_id (r : Int) : up id r = r := by unfold up; split <;> rfl
theorem map_up_id (rs : List Int) : rs.map (up id) = rs := by
  rw [show up id = id from funext up_id, List.map_id]
structure Iso (h h' : Hp) (R : Int → Prop) (f : Int → Int) : Prop where
  root : ∀ r ∈ h.roots, 0 ≤ r → R r
  ref : ∀ c, R c → ∀ r ∈ (cel h.cells c).refs, 0 ≤ r → R r
  pos : ∀ c, R c → 0 ≤ c ∧ 0 ≤ f c
  inj : ∀ a b, R a → R b → f a = f b → a = b
  roots : h'.roots = h.roots.map (up f)
  data : ∀ c, R c → (cel h'.cells (f c)).data = (cel h.cells c).data
  refs : ∀ c, R c → (cel h'.cells (f c)).refs = (cel h.cells c).refs.map (up f)
theorem flatMap_congr' {α β : Type} {l : List α} {p q : α → List β} (h : ∀ x ∈ l, p x = q x) : l.flatMap p = l.flatMap q := by
  induction l with
  | nil => rfl
  | cons a l ih => rw [List.flatMap_cons, List.flatMap_cons, h a (by simp), ih fun x hx => h x (List.mem_cons_of_mem _ hx)]
section
variable {R : Int → Prop} {f : Int → Int}
theorem mem_map_inj (inj : ∀ a b, R a → R b → f a = f b → a = b) {o : List Int} (ho : ∀ x ∈ o, R x) {r : Int} (hr : R r) : f r ∈ o.map f ↔ r ∈ o := by
  rw [List.mem_map]
  refine ⟨fun ⟨x, hx, e⟩ => ?_, fun k => ⟨r, k, rfl⟩⟩
  rw [← inj x r (ho x hx) hr e]; exact hx
theorem idx_map (inj : ∀ a b, R a → R b → f a = f b → a = b) {r : Int} (hr : R r) : ∀ (o : List Int), (∀ x ∈ o, R x) → (o.map f).idxOf (f r) = o.idxOf r
  | [], _ => rfl
  | a :: o, ho => by
    rw [List.map_cons, List.idxOf_cons, List.idxOf_cons, idx_map inj hr o fun x hx => ho x (List.mem_cons_of_mem _ hx)]
    by_cases e : a = r
    · rw [e]; simp
    · have e2 : ¬ f a = f r := fun k => e (inj a r (ho a (by simp)) hr k)
      rw [beq_eq_false_iff_ne.2 e, beq_eq_false_iff_ne.2 e2]
theorem ord1_map (pos : ∀ c, R c → 0 ≤ c ∧ 0 ≤ f c) (inj : ∀ a b, R a → R b → f a = f b → a = b) {o : List Int} (ho : ∀ x ∈ o, R x) {r : Int} (hr : 0 ≤ r → R r) : ord1 (o.map f) (up f r) = (ord1 o r).map f := by
  rcases Int.lt_or_le r 0 with h0 | h0
  · rw [ord1_no (.inl h0), up_neg h0, ord1_no (.inl h0)]
  · rw [up_pos h0]
    by_cases hm : r ∈ o
    · rw [ord1_no (.inr hm), ord1_no (.inr ((mem_map_inj inj ho (hr h0)).2 hm))]
    · rw [ord1_yes h0 hm, ord1_yes (pos r (hr h0)).2 fun k => hm ((mem_map_inj inj ho (hr h0)).1 k)]
      simp
theorem ordL_map (pos : ∀ c, R c → 0 ≤ c ∧ 0 ≤ f c) (inj : ∀ a b, R a → R b → f a = f b → a = b) : ∀ (rs o : List Int), (∀ x ∈ o, R x) → (∀ r ∈ rs, 0 ≤ r → R r) → ordL (o.map f) (rs.map (up f)) = (ordL o rs).map f
  | [], o, _, _ => rfl
  | r :: rs, o, ho, hr => by
    show ordL (ord1 (o.map f) (up f r)) (rs.map (up f)) = (ordL (ord1 o r) rs).map f
    rw [ord1_map pos inj ho (hr r (by simp))]
    refine ordL_map pos inj rs _ (fun x hx => ?_) fun x hx => hr x (by simp [hx])
    rcases ord1_mem.1 hx with hx | ⟨rfl, h0⟩
    · exact ho x hx
    · exact hr x (by simp) h0
theorem nameI_map (pos : ∀ c, R c → 0 ≤ c ∧ 0 ≤ f c) (inj : ∀ a b, R a → R b → f a = f b → a = b) {o : List Int} (ho : ∀ x ∈ o, R x) {r : Int} (hr : 0 ≤ r → R r) : nameI (o.map f) (up f r) = nameI o r := by
  unfold nameI
  rcases Int.lt_or_le r 0 with h0 | h0
  · rw [up_neg h0, if_neg, if_neg]
    · intro k; have := (pos r (ho r k)).1; omega
    · intro k
      obtain ⟨x, hx, e⟩ := List.mem_map.1 k
      have := (pos x (ho x hx)).2; omega
  · rw [up_pos h0]
    by_cases hm : r ∈ o
    · rw [if_pos hm, if_pos ((mem_map_inj inj ho (hr h0)).2 hm), idx_map inj (hr h0) o ho]
    · rw [if_neg hm, if_neg fun k => hm ((mem_map_inj inj ho (hr h0)).1 k)]
theorem Iso.ordS {h h' : Hp} (g : Iso h h' R f) : ∀ k, Go.Proofs.Ytjpfgbckmcjjaaa.ordS h'.cells k (ordL [] h'.roots) = (Go.Proofs.Ytjpfgbckmcjjaaa.ordS h.cells k (ordL [] h.roots)).map f
  | 0 => by
    show ordL [] h'.roots = (ordL [] h.roots).map f
    rw [g.roots]
    exact ordL_map g.pos g.inj h.roots [] (fun x hx => by simp at hx) g.root
  | k + 1 => by
    have ih := Iso.ordS g k
    have hR : ∀ x ∈ Go.Proofs.Ytjpfgbckmcjjaaa.ordS h.cells k (ordL [] h.roots), R x := ordS_all g.ref (ordL_all (fun x hx => by simp at hx) g.root) k
    simp only [Go.Proofs.Ytjpfgbckmcjjaaa.ordS]
    rw [ih, List.getElem?_map]
    cases hq : (Go.Proofs.Ytjpfgbckmcjjaaa.ordS h.cells k (ordL [] h.roots))[k]? with
    | none => rfl
    | some c =>
      have hc := hR c (List.mem_of_getElem? hq)
      show ordL _ (cel h'.cells (f c)).refs = _
      rw [g.refs c hc]
      exact ordL_map g.pos g.inj _ _ hR (g.ref c hc)
theorem Iso.order {h h' : Hp} (g : Iso h h' R f) : ordH h' = (ordH h).map f := by
  rw [ordH_def, ordH_def]
  exact g.ordS 64
theorem Iso.all {h h' : Hp} (g : Iso h h' R f) : ∀ x ∈ ordH h, R x := by
  rw [ordH_def]
  exact ordS_all g.ref (ordL_all (fun x hx => by simp at hx) g.root) 64
theorem view_gen {h h' : Hp} (g : Iso h h' R f) (o : List Int) (hR : ∀ x ∈ o, R x) : h'.roots.map (nameI (o.map f)) ++ (o.map f).flatMap (viewC h'.cells (o.map f)) = h.roots.map (nameI o) ++ o.flatMap (viewC h.cells o) := by
  rw [g.roots, List.map_map]
  congr 1
  · exact List.map_congr_left fun r hr => nameI_map g.pos g.inj hR (g.root r hr)
  · rw [List.flatMap_map]
    refine flatMap_congr' fun c hc => ?_
    unfold viewC
    rw [g.data c (hR c hc), g.refs c (hR c hc), List.length_map, List.map_map]
    refine congrArg (_ :: ·) (congrArg (_ :: ·) ?_)
    exact List.map_congr_left fun r hr => nameI_map g.pos g.inj hR (g.ref c (hR c hc) r hr)
theorem Iso.view {h h' : Hp} (g : Iso h h' R f) : viewH h' = viewH h := by
  unfold viewH
  rw [g.order]
  exact view_gen g _ g.all
end
/-- Two valid heaps that correspond show the same. -/
theorem view_same {h h' : Hp} {R : Int → Prop} {f : Int → Int} (g : Iso h h' R f) (h0 : heapOk h = true) (h1 : heapOk h' = true) : mView h' = mView h := by
  rw [mView_yes h0, mView_yes h1, g.view]
end Go.Proofs.Ytjpfgbckmcjjaaa
