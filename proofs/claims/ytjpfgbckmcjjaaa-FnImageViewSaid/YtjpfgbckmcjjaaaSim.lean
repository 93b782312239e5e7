/- Plain laws: two heaps whose reached cells correspond go on so under every instruction, wherever a new cell lies; sweeping keeps it. No program. -/
import Derived.Test.YtjpfgbckmcjjaaaVs
namespace Go.Proofs.Ytjpfgbckmcjjaaa
open Go.RowKit
structure Sim (h h' : Hp) (R : Int → Prop) (f : Int → Int) : Prop extends Iso h h' R f where
  use : ∀ c, R c → usedN h.cells c.toNat = true
  use' : ∀ c, R c → usedN h'.cells (f c).toNat = true
theorem getD_mem {l : List Int} {i : Nat} (h : 0 ≤ l.getD i (-1)) : l.getD i (-1) ∈ l := by
  rw [List.getD_eq_getElem?_getD] at h ⊢
  cases hq : l[i]? with
  | none => rw [hq] at h; simp at h
  | some x => exact List.mem_of_getElem? hq
theorem getD_up (f : Int → Int) (l : List Int) (i : Nat) : (l.map (up f)).getD i (-1) = up f (l.getD i (-1)) := by
  rw [List.getD_eq_getElem?_getD, List.getD_eq_getElem?_getD, List.getElem?_map]
  cases l[i]? <;> simp [up]
theorem cel_set {cs : List Cel} {i : Nat} {d : Cel} (hi : i < cs.length) (x : Int) : cel (cs.set i d) x = if x.toNat = i then d else cel cs x := by
  unfold cel
  rw [List.getD_eq_getElem?_getD, List.getD_eq_getElem?_getD, List.getElem?_set]
  by_cases e : i = x.toNat
  · rw [if_pos e, if_pos e.symm, if_pos (by omega)]; rfl
  · rw [if_neg e, if_neg fun k => e k.symm]
theorem putCel_len {cs : List Cel} {p : Nat} (d : Cel) (hp : p ≤ cs.length) : (putCel cs p d).length ≤ cs.length + 1 ∧ cs.length ≤ (putCel cs p d).length ∧ (p < cs.length → (putCel cs p d).length = cs.length) := by
  unfold putCel
  split
  · refine ⟨by simp, by simp, fun h => by omega⟩
  · refine ⟨by simp, by simp, fun _ => by simp⟩
theorem cel_put {cs : List Cel} {p : Nat} {d : Cel} (hp : p ≤ cs.length) (x : Int) : cel (putCel cs p d) x = if x.toNat = p then d else cel cs x := by
  unfold putCel
  split
  · rename_i e
    unfold cel
    rw [List.getD_eq_getElem?_getD, List.getD_eq_getElem?_getD]
    by_cases k : x.toNat = p
    · rw [if_pos k, List.getElem?_append_right (by omega), show x.toNat - cs.length = 0 by omega]; rfl
    · rw [if_neg k]
      rcases Nat.lt_or_ge x.toNat cs.length with q | q
      · rw [List.getElem?_append_left q]
      · rw [List.getElem?_eq_none (by simp; omega), List.getElem?_eq_none q]
  · exact cel_set (by omega) x
theorem usedN_cel (cs : List Cel) (x : Int) : usedN cs x.toNat = (cel cs x).used := rfl
theorem celI_cel (h : Hp) (x : Int) : celI h x = cel h.cells x := rfl
section
variable {h h' : Hp} {R : Int → Prop} {f : Int → Int}
theorem Sim.rootI (s : Sim h h' R f) (k : Int) : Go.Proofs.Ytjpfgbckmcjjaaa.rootI h' k = up f (Go.Proofs.Ytjpfgbckmcjjaaa.rootI h k) := by
  unfold Go.Proofs.Ytjpfgbckmcjjaaa.rootI
  rw [s.roots, getD_up]
theorem Sim.rootR (s : Sim h h' R f) (k : Int) (h0 : 0 ≤ Go.Proofs.Ytjpfgbckmcjjaaa.rootI h k) : R (Go.Proofs.Ytjpfgbckmcjjaaa.rootI h k) := s.root _ (getD_mem h0) h0
theorem Sim.setRoot (s : Sim h h' R f) (k : Nat) {x : Int} (hx : 0 ≤ x → R x) : Sim ⟨h.cells, h.roots.set k x⟩ ⟨h'.cells, h'.roots.set k (up f x)⟩ R f := by
  refine { root := fun r hr h0 => ?_, ref := s.ref, pos := s.pos, inj := s.inj, roots := ?_, data := s.data, refs := s.refs, use := s.use, use' := s.use' }
  · rcases mem_set' hr with rfl | hr
    · exact hx h0
    · exact s.root r hr h0
  · show h'.roots.set k (up f x) = (h.roots.set k x).map (up f)
    rw [s.roots, List.map_set]
theorem nat_inj {a b : Int} (ha : 0 ≤ a) (hb : 0 ≤ b) (h : a.toNat = b.toNat) : a = b := by omega
theorem Sim.setCell (s : Sim h h' R f) {c : Int} (hc : R c) {d d' : Cel} (hu : d.used = true) (hu' : d'.used = true) (e1 : d'.data = d.data) (e2 : d'.refs = d.refs.map (up f)) (hr : ∀ r ∈ d.refs, 0 ≤ r → R r) : Sim ⟨h.cells.set c.toNat d, h.roots⟩ ⟨h'.cells.set (f c).toNat d', h'.roots⟩ R f := by
  have hl := usedN_lt (s.use c hc)
  have hl' := usedN_lt (s.use' c hc)
  have key : ∀ x, R x → cel (h.cells.set c.toNat d) x = (if x = c then d else cel h.cells x) ∧ cel (h'.cells.set (f c).toNat d') (f x) = (if x = c then d' else cel h'.cells (f x)) := fun x hx => by
    rw [cel_set hl, cel_set hl']
    by_cases e : x = c
    · subst e; simp
    · rw [if_neg e, if_neg e, if_neg fun k => e (nat_inj (s.pos x hx).1 (s.pos c hc).1 k), if_neg fun k => e (s.inj x c hx hc (nat_inj (s.pos x hx).2 (s.pos c hc).2 k))]
      exact ⟨rfl, rfl⟩
  refine { root := s.root, ref := fun x hx r hm h0 => ?_, pos := s.pos, inj := s.inj, roots := s.roots, data := fun x hx => ?_, refs := fun x hx => ?_, use := fun x hx => ?_, use' := fun x hx => ?_ }
  · simp only [(key x hx).1] at hm
    by_cases e : x = c
    · rw [if_pos e] at hm; exact hr r hm h0
    · rw [if_neg e] at hm; exact s.ref x hx r hm h0
  · simp only [(key x hx).1, (key x hx).2]
    by_cases e : x = c
    · rw [if_pos e, if_pos e, e1]
    · rw [if_neg e, if_neg e, s.data x hx]
  · simp only [(key x hx).1, (key x hx).2]
    by_cases e : x = c
    · rw [if_pos e, if_pos e, e2]
    · rw [if_neg e, if_neg e, s.refs x hx]
  · rw [usedN_cel]
    simp only [(key x hx).1]
    by_cases e : x = c
    · rw [if_pos e]; exact hu
    · rw [if_neg e, ← usedN_cel]; exact s.use x hx
  · rw [usedN_cel]
    simp only [(key x hx).2]
    by_cases e : x = c
    · rw [if_pos e]; exact hu'
    · rw [if_neg e, ← usedN_cel]; exact s.use' x hx
theorem Sim.new (s : Sim h h' R f) {p p' : Nat} (hp : p ≤ h.cells.length) (hp' : p' ≤ h'.cells.length) (hu : usedN h.cells p = false) (hu' : usedN h'.cells p' = false) {d : Cel} (hd : d.used = true) (hr : ∀ r ∈ d.refs, r = -1) (k : Nat) :
    Sim ⟨putCel h.cells p d, h.roots.set k p⟩ ⟨putCel h'.cells p' d, h'.roots.set k p'⟩ (fun c => c = p ∨ R c) (fun c => if c = p then p' else f c) := by
  have ne : ∀ c, R c → c ≠ (p : Int) := fun c hc e => by
    have := s.use c hc
    rw [e, Int.toNat_natCast, hu] at this; cases this
  have ne' : ∀ c, R c → f c ≠ (p' : Int) := fun c hc e => by
    have := s.use' c hc
    rw [e, Int.toNat_natCast, hu'] at this; cases this
  have fp : (fun c : Int => if c = p then (p' : Int) else f c) p = p' := by simp
  have fR : ∀ c, R c → (fun c : Int => if c = p then (p' : Int) else f c) c = f c := fun c hc => by simp [ne c hc]
  generalize hg : (fun c : Int => if c = p then (p' : Int) else f c) = g at fp fR ⊢
  have upg : ∀ r, (0 ≤ r → R r) → up g r = up f r := fun r h1 => by
    unfold up
    split
    · rfl
    · exact fR r (h1 (by omega))
  have mapg : ∀ rs : List Int, (∀ r ∈ rs, 0 ≤ r → R r) → rs.map (up g) = rs.map (up f) := fun rs h1 => List.map_congr_left fun r hm => upg r (h1 r hm)
  have mapd : d.refs.map (up g) = d.refs := by
    refine (List.map_congr_left fun r hm => ?_).trans (List.map_id _)
    rw [hr r hm]; simp [up]
  have cp : cel (putCel h.cells p d) p = d := by rw [cel_put hp]; simp
  have cp' : cel (putCel h'.cells p' d) p' = d := by rw [cel_put hp']; simp
  have cR : ∀ c, R c → cel (putCel h.cells p d) c = cel h.cells c := fun c hc => by
    rw [cel_put hp, if_neg fun k => ne c hc (by have := (s.pos c hc).1; omega)]
  have cR' : ∀ c, R c → cel (putCel h'.cells p' d) (f c) = cel h'.cells (f c) := fun c hc => by
    rw [cel_put hp', if_neg fun k => ne' c hc (by have := (s.pos c hc).2; omega)]
  refine { root := fun r hm h0 => ?_, ref := ?_, pos := ?_, inj := ?_, roots := ?_, data := ?_, refs := ?_, use := ?_, use' := ?_ }
  · rcases mem_set' hm with rfl | hm
    · exact .inl rfl
    · exact .inr (s.root r hm h0)
  · rintro c (rfl | hc) r hm h0
    · simp only [cp] at hm
      rw [hr r hm] at h0; omega
    · simp only [cR c hc] at hm
      exact .inr (s.ref c hc r hm h0)
  · rintro c (rfl | hc)
    · rw [fp]; omega
    · rw [fR c hc]; exact s.pos c hc
  · rintro a b (rfl | ha) (rfl | hb) e
    · rfl
    · rw [fp, fR b hb] at e
      exact absurd e.symm (ne' b hb)
    · rw [fp, fR a ha] at e
      exact absurd e (ne' a ha)
    · rw [fR a ha, fR b hb] at e
      exact s.inj a b ha hb e
  · show h'.roots.set k p' = (h.roots.set k p).map (up g)
    rw [List.map_set, mapg h.roots s.root, ← s.roots, up_pos (by omega), fp]
  · rintro c (rfl | hc)
    · simp only [fp, cp, cp']
    · simp only [fR c hc, cR c hc, cR' c hc]; exact s.data c hc
  · rintro c (rfl | hc)
    · simp only [fp, cp, cp', mapd]
    · simp only [fR c hc, cR c hc, cR' c hc]
      rw [s.refs c hc, mapg _ (s.ref c hc)]
  · rintro c (rfl | hc)
    · rw [usedN_cel]; simp only [cp]; exact hd
    · rw [usedN_cel]; simp only [cR c hc]; exact s.use c hc
  · rintro c (rfl | hc)
    · rw [usedN_cel]; simp only [fp, cp']; exact hd
    · rw [usedN_cel]; simp only [fR c hc, cR' c hc]; exact s.use' c hc
theorem Sim.place (s : Sim h h' R f) (k c : Int) : placeB h' (Go.Proofs.Ytjpfgbckmcjjaaa.rootI h' k) c = placeB h (Go.Proofs.Ytjpfgbckmcjjaaa.rootI h k) c := by
  rw [s.rootI]
  unfold placeB
  rcases Int.lt_or_le (Go.Proofs.Ytjpfgbckmcjjaaa.rootI h k) 0 with h0 | h0
  · rw [up_neg h0]
    simp [show ¬ 0 ≤ Go.Proofs.Ytjpfgbckmcjjaaa.rootI h k by omega]
  · have hR := s.rootR k h0
    rw [up_pos h0, celI_cel, celI_cel, s.refs _ hR, List.length_map]
    simp [h0, (s.pos _ hR).2]
theorem Sim.poss (s : Sim h h' R f) (o : Cmd) : possB h' o = possB h o := by
  unfold possB
  rw [s.place, s.place, s.rootI]
  have e : decide (0 ≤ up f (Go.Proofs.Ytjpfgbckmcjjaaa.rootI h o.a)) = decide (0 ≤ Go.Proofs.Ytjpfgbckmcjjaaa.rootI h o.a) := by
    rcases Int.lt_or_le (Go.Proofs.Ytjpfgbckmcjjaaa.rootI h o.a) 0 with h0 | h0
    · rw [up_neg h0]
    · rw [up_pos h0]
      simp [h0, (s.pos _ (s.rootR _ h0)).2]
  rw [e]
theorem Sim.step (s : Sim h h' R f) {o : Cmd} (hp : possB h o = true) {p p' : Nat} (hn : o.op = 1 → p ≤ h.cells.length ∧ p' ≤ h'.cells.length ∧ usedN h.cells p = false ∧ usedN h'.cells p' = false) : ∃ R' f', Sim (mDo h o p) (mDo h' o p') R' f' := by
  unfold possB at hp
  unfold mDo
  by_cases h1 : o.op = 1
  · obtain ⟨q1, q2, q3, q4⟩ := hn h1
    simp only [h1, if_true]
    exact ⟨_, _, s.new q1 q2 q3 q4 (d := newCel o) rfl (fun r hr => by simp only [newCel] at hr; exact List.eq_of_mem_replicate hr) o.a.toNat⟩
  by_cases h2 : o.op = 2
  · simp only [h2] at hp ⊢
    simp only [Int.reduceEq, if_false, if_true] at hp ⊢
    unfold placeB at hp
    simp only [Bool.and_eq_true, decide_eq_true_eq] at hp
    have hR := s.rootR o.b hp.1
    rw [s.rootI, up_pos hp.1, celI_cel, celI_cel, s.refs _ hR, getD_up]
    exact ⟨_, _, s.setRoot _ fun h0 => s.ref _ hR _ (getD_mem h0) h0⟩
  by_cases h3 : o.op = 3
  · simp only [h3] at hp ⊢
    simp only [Int.reduceEq, if_false, if_true] at hp ⊢
    unfold placeB at hp
    simp only [Bool.and_eq_true, decide_eq_true_eq] at hp
    have hR := s.rootR o.a hp.1
    rw [s.rootI o.a, up_pos hp.1, celI_cel, celI_cel, s.rootI o.b]
    refine ⟨_, _, s.setCell hR (d := setRef (cel h.cells (Go.Proofs.Ytjpfgbckmcjjaaa.rootI h o.a)) o.c.toNat (Go.Proofs.Ytjpfgbckmcjjaaa.rootI h o.b)) (s.use _ hR) (s.use' _ hR) (s.data _ hR) ?_ fun r hr h0 => ?_⟩
    · simp only [setRef]
      rw [s.refs _ hR, List.map_set]
    · simp only [setRef] at hr
      rcases mem_set' hr with rfl | hr
      · exact s.rootR _ h0
      · exact s.ref _ hR r hr h0
  by_cases h4 : o.op = 4
  · simp only [h4] at hp ⊢
    simp only [Int.reduceEq, if_false, if_true] at hp ⊢
    rw [s.rootI]
    exact ⟨_, _, s.setRoot _ fun h0 => s.rootR _ h0⟩
  by_cases h5 : o.op = 5
  · simp only [h5] at hp ⊢
    simp only [Int.reduceEq, if_false, if_true] at hp ⊢
    have := s.setRoot o.a.toNat (x := -1) fun h0 => by omega
    rw [up_neg (by omega)] at this
    exact ⟨_, _, this⟩
  by_cases h6 : o.op = 6
  · simp only [h6] at hp ⊢
    simp only [Int.reduceEq, if_false, if_true, decide_eq_true_eq] at hp ⊢
    have hR := s.rootR o.a hp
    rw [s.rootI o.a, up_pos hp, celI_cel, celI_cel]
    exact ⟨_, _, s.setCell hR (d := setDat (cel h.cells (Go.Proofs.Ytjpfgbckmcjjaaa.rootI h o.a)) o.b) (s.use _ hR) (s.use' _ hR) rfl (s.refs _ hR) (s.ref _ hR)⟩
  · simp only [h1, h2, h3, h4, h5, h6, if_false]
    exact ⟨_, _, s⟩
theorem Sim.rch (s : Sim h h' R f) {c : Int} (hc : RchI h c) : R c := by
  have key : ∀ n : Nat, Rch h.cells (usedN h.cells) h.roots n → R (n : Int) := fun n hn => by
    induction hn with
    | base h1 h2 _ => rw [Int.toNat_of_nonneg h2]; exact s.root _ h1 h2
    | @step q l r _ h1 h2 h3 _ ih =>
      rw [Int.toNat_of_nonneg h3]
      exact s.ref _ ih r (by rw [cel_at (Go.Lib.hid h1)]; exact h2) h3
  have h1 := hc.2
  simp only [reachB, decide_eq_true_eq] at h1
  have := key _ h1
  rwa [Int.toNat_of_nonneg hc.1] at this
theorem Sim.rch' (s : Sim h h' R f) {c : Int} (hc : RchI h c) : RchI h' (f c) := by
  have key : ∀ n : Nat, Rch h.cells (usedN h.cells) h.roots n → R (n : Int) → Rch h'.cells (usedN h'.cells) h'.roots (f n).toNat := fun n hn => by
    induction hn with
    | @base r h1 h2 _ =>
      intro hR
      rw [Int.toNat_of_nonneg h2] at hR ⊢
      refine .base ?_ (s.pos _ hR).2 (s.use' _ hR)
      rw [s.roots]
      exact List.mem_map.2 ⟨r, h1, up_pos h2⟩
    | @step q l r hq h1 h2 h3 _ ih =>
      intro hR
      rw [Int.toNat_of_nonneg h3] at hR ⊢
      have hRq : R (q : Int) := s.rch ⟨by omega, by simp only [reachB, Int.toNat_natCast, decide_eq_true_eq]; exact hq⟩
      have hm : f r ∈ (cel h'.cells (f q)).refs := by
        rw [s.refs _ hRq, cel_at (Go.Lib.hid h1)]
        exact List.mem_map.2 ⟨r, h2, up_pos h3⟩
      obtain ⟨l', hl', hm', -⟩ := cel_refs hm
      exact .step (ih hRq) hl' hm' (s.pos _ hR).2 (s.use' _ hR)
  have h1 := hc.2
  simp only [reachB, decide_eq_true_eq] at h1
  have h2 := s.rch hc
  have := key _ h1 (by rwa [Int.toNat_of_nonneg hc.1])
  rw [Int.toNat_of_nonneg hc.1] at this
  exact ⟨(s.pos c h2).2, by simp only [reachB, decide_eq_true_eq]; exact this⟩
end
theorem up_up {f g : Int → Int} {r : Int} (h : 0 ≤ r → 0 ≤ f r) : up g (up f r) = up (g ∘ f) r := by
  rcases Int.lt_or_le r 0 with h0 | h0
  · rw [up_neg h0, up_neg h0, up_neg h0]
  · rw [up_pos h0, up_pos (h h0), up_pos h0]; rfl
theorem Sim.trans {a b c : Hp} {R : Int → Prop} {f g : Int → Int} (s : Sim a b R f) (t : Sim b c (RchI b) g) (ha : heapOk a = true) : Sim a c (RchI a) (g ∘ f) := by
  have hR : ∀ x, RchI a x → R x := fun x hx => s.rch hx
  have hB : ∀ x, RchI a x → RchI b (f x) := fun x hx => s.rch' hx
  have hm : ∀ rs : List Int, (∀ r ∈ rs, 0 ≤ r → RchI a r) → (rs.map (up f)).map (up g) = rs.map (up (g ∘ f)) := fun rs h => by
    rw [List.map_map]
    exact List.map_congr_left fun r hr => up_up fun h0 => (s.pos r (hR r (h r hr h0))).2
  refine { root := rchI_root ha, ref := rchI_ref ha, pos := fun x hx => ⟨hx.1, (t.pos _ (hB x hx)).2⟩, inj := fun x y hx hy e => s.inj x y (hR x hx) (hR y hy) (t.inj _ _ (hB x hx) (hB y hy) e), roots := ?_, data := fun x hx => ?_, refs := fun x hx => ?_, use := fun x hx => s.use x (hR x hx), use' := fun x hx => t.use' _ (hB x hx) }
  · rw [t.roots, s.roots, hm _ (rchI_root ha)]
  · show (cel c.cells (g (f x))).data = _
    rw [t.data _ (hB x hx), s.data x (hR x hx)]
  · show (cel c.cells (g (f x))).refs = _
    rw [t.refs _ (hB x hx), s.refs x (hR x hx), hm _ (rchI_ref ha x hx)]
theorem rchI_used {h : Hp} {c : Int} (hc : RchI h c) : usedN h.cells c.toNat = true := by
  have h1 := hc.2
  simp only [reachB, decide_eq_true_eq] at h1
  exact h1.inS
theorem Keeps.sim {h : Hp} {ms : List Bool} (K : Keeps h ms) (h0 : heapOk h = true) : Sim h (mDrop h (deadL ms)) (RchI h) id := by
  refine { toIso := K.iso h0, use := fun c hc => rchI_used hc, use' := fun c hc => ?_ }
  have h1 := hc.2
  simp only [reachB, decide_eq_true_eq] at h1
  rw [id, sweep_used K (K.rch h1)]
  exact rchI_used hc
theorem collect_sim {h : Hp} (h0 : heapOk h = true) : Sim h (mCollect h) (RchI h) id := by
  rw [collect_eq h0]
  exact (keeps_reach h0).sim h0
theorem sim_refl {h : Hp} (h0 : heapOk h = true) : Sim h h (RchI h) id :=
  { root := rchI_root h0, ref := rchI_ref h0, pos := fun c hc => ⟨hc.1, hc.1⟩, inj := fun _ _ _ _ e => e, roots := (map_up_id _).symm, data := fun _ _ => rfl, refs := fun _ _ => (map_up_id _).symm, use := fun _ hc => rchI_used hc, use' := fun _ hc => rchI_used hc }
/-! ### How many cells can be reached -/
theorem mem_ordH {h : Hp} (h0 : heapOk h = true) {c : Int} : c ∈ ordH h ↔ RchI h c := by
  refine ⟨ordH_reach h0 c, fun hc => ?_⟩
  have key : ∀ n : Nat, Rch h.cells (usedN h.cells) h.roots n → (n : Int) ∈ ordH h := fun n hn => by
    induction hn with
    | base h1 h2 _ => rw [Int.toNat_of_nonneg h2]; exact ordH_root h _ h1 h2
    | @step q l r _ h1 h2 h3 _ ih =>
      rw [Int.toNat_of_nonneg h3]
      exact ordH_ref h0 _ ih r (by rw [cel_at (Go.Lib.hid h1)]; exact h2) h3
  have h1 := hc.2
  simp only [reachB, decide_eq_true_eq] at h1
  have := key _ h1
  rwa [Int.toNat_of_nonneg hc.1] at this
noncomputable def liveN (h : Hp) : Nat := (ordH h).length
theorem Iso.live {h h' : Hp} {R : Int → Prop} {f : Int → Int} (g : Iso h h' R f) : liveN h' = liveN h := by
  unfold liveN
  rw [g.order, List.length_map]
theorem sub_len : ∀ (l m : List Int), l.Nodup → (∀ x ∈ l, x ∈ m) → l.length ≤ m.length
  | [], m, _, _ => by simp
  | a :: l, m, hd, h => by
    rw [List.nodup_cons] at hd
    have h1 := sub_len l (m.erase a) hd.2 fun x hx => by
      have hne : x ≠ a := fun e => hd.1 (e ▸ hx)
      rw [List.mem_erase_of_ne hne]
      exact h x (by simp [hx])
    have h2 := List.length_erase_of_mem (h a (by simp))
    have h3 : 0 < m.length := List.length_pos_of_mem (h a (by simp))
    simp only [List.length_cons]
    omega
theorem live_le {h : Hp} (h0 : heapOk h = true) : liveN h ≤ h.cells.length := ordH_len h0
theorem live_free {h : Hp} (h0 : heapOk h = true) {p L : Nat} (hl : h.cells.length ≤ L) (hp : p < L) (hu : usedN h.cells p = false) : liveN h < L := by
  have h1 := nodup_len L ((p : Int) :: ordH h) (by
    rw [List.nodup_cons]
    refine ⟨fun hm => ?_, ordH_nodup h⟩
    have := rchI_used ((mem_ordH h0).1 hm)
    rw [Int.toNat_natCast, hu] at this; cases this) fun x hx => by
      rcases List.mem_cons.1 hx with rfl | hx
      · omega
      · have := (mem_ordH h0).1 hx
        have h2 := reach_lt this
        have h3 := this.1
        omega
  simp only [List.length_cons] at h1
  unfold liveN
  omega
theorem live_full {h : Hp} (h0 : heapOk h = true) {L : Nat} (hf : ∀ i, i < L → reachB h.cells h.roots i = true) : L ≤ liveN h := by
  have h1 := sub_len ((List.range L).map fun i : Nat => (i : Int)) (ordH h) (by
    refine List.Pairwise.map _ (fun a b hab e => hab (by omega)) List.nodup_range) fun x hx => by
      obtain ⟨i, hi, rfl⟩ := List.mem_map.1 hx
      rw [mem_ordH h0]
      exact ⟨by omega, by rw [Int.toNat_natCast]; exact hf i (List.mem_range.1 hi)⟩
  rw [List.length_map, List.length_range] at h1
  exact h1
end Go.Proofs.Ytjpfgbckmcjjaaa
