/- Several texts in one: Vs, Sim, Vp, Ln, Px. Each says ahead of its part what it proves. No condition but those. -/
import Derived.Test.YtdkpfggfkhnjfaaZ1
import Derived.Test.YtdkpfggfkhnjfaaSw
import Derived.Test.YtdkpfggfkhnjfaaZ4
/- Plain laws on sweeping by marks that keep what they lead to: the heap stays valid, and a program sees the same. No program. -/
namespace Go.Proofs.Ytdkpfggfkhnjfaa
open Go.RowKit
/-- Marks that hold the roots' cells, and with each cell all to which it refers. -/
structure Keeps (h : Hp) (ms : List Bool) : Prop where
  len : ms.length = h.cells.length
  root : ∀ r ∈ h.roots, 0 ≤ r → atB ms r.toNat = true
  ref : ∀ (k : Nat) (l : Cel), h.cells[k]? = some l → atB ms k = true → ∀ r ∈ l.refs, 0 ≤ r → atB ms r.toNat = true
theorem atB_at {ms : List Bool} {i : Nat} {b : Bool} (h : ms[i]? = some b) : atB ms i = b := by
  unfold atB
  rw [List.getD_eq_getElem?_getD, h]; rfl
theorem atB_dead {ms : List Bool} {i : Nat} (hi : i < ms.length) : atB (deadL ms) i = !atB ms i := by
  unfold atB deadL
  rw [List.getD_eq_getElem?_getD, List.getD_eq_getElem?_getD, List.getElem?_map, List.getElem?_eq_getElem hi]; rfl
theorem Keeps.rch {h : Hp} {ms : List Bool} (K : Keeps h ms) {S : Nat → Bool} {c : Nat} (hr : Rch h.cells S h.roots c) : atB ms c = true := by
  induction hr with
  | base h1 h2 _ => exact K.root _ h1 h2
  | step _ h1 h2 h3 _ ih => exact K.ref _ _ h1 ih _ h2 h3
theorem reachL_from {h : Hp} {fr : List Int} (h0 : heapOk h = true) (hf : ∀ r ∈ h.roots, r ∈ fr) : Keeps h (reachL h.cells fr) := by
  have key : ∀ r : Int, usedN h.cells r.toNat = true → reachB h.cells fr r.toNat = true → atB (reachL h.cells fr) r.toNat = true := fun r hu hb => by
    rw [atB_at (reachL_at (usedN_lt hu)), hb]
  refine ⟨reachL_length _ _, fun r hr hp => ?_, fun k l hl hk r hr hp => ?_⟩
  · have hu := leadsB_used ((heapOk_leads h0).1 r hr) hp
    refine key r hu ?_
    simp only [reachB, decide_eq_true_eq]
    exact .base (hf r hr) hp hu
  · have hu := leadsB_used ((heapOk_leads h0).2 k l hl r hr) hp
    refine key r hu ?_
    rw [atB_at (reachL_at (List.getElem?_eq_some_iff.1 hl).1)] at hk
    simp only [reachB, decide_eq_true_eq] at hk ⊢
    exact .step hk hl hr hp hu
theorem sweep_cel {h : Hp} {ms : List Bool} (K : Keeps h ms) {i : Nat} (hm : atB ms i = true) : (mDrop h (deadL ms)).cells[i]? = h.cells[i]? := by
  show (wipeP _ _ _)[i]? = _
  rw [wipeP_get]
  by_cases hi : i < h.cells.length
  · rw [if_pos hi, atB_dead (by rw [K.len]; exact hi), hm, List.getD_eq_getElem?_getD, List.getElem?_eq_getElem hi]; simp
  · rw [if_neg hi, List.getElem?_eq_none (by omega)]
theorem sweep_gone {h : Hp} {ms : List Bool} (K : Keeps h ms) {i : Nat} (hi : i < h.cells.length) (hm : atB ms i = false) : (mDrop h (deadL ms)).cells[i]? = some noCel := by
  show (wipeP _ _ _)[i]? = _
  rw [wipeP_get, if_pos hi, atB_dead (by rw [K.len]; exact hi), hm]
  simp [hi]
theorem sweep_len (h : Hp) (ds : List Bool) : (mDrop h ds).cells.length = h.cells.length := by simp [mDrop, wipeP_len]
theorem sweep_used {h : Hp} {ms : List Bool} (K : Keeps h ms) {i : Nat} (hm : atB ms i = true) : usedN (mDrop h (deadL ms)).cells i = usedN h.cells i := by
  rw [usedN_def, usedN_def, List.getD_eq_getElem?_getD, List.getD_eq_getElem?_getD, sweep_cel K hm]
theorem Keeps.ok {h : Hp} {ms : List Bool} (K : Keeps h ms) (h0 : heapOk h = true) : sweepOk h ms = true := by
  have g := good_iff.1 h0
  unfold sweepOk
  rw [h0, decide_eq_true K.len]
  simp only [Bool.and_self, Bool.true_and]
  rw [good_iff]
  have key : ∀ r, leadsB h.cells r = true → (0 ≤ r → atB ms r.toNat = true) → leadsB (mDrop h (deadL ms)).cells r = true := fun r hr h1 => by
    rcases leadsB_iff.1 hr with e | ⟨hp, hu⟩
    · rw [e]; exact leadsB_nil _
    · rw [leadsB_iff]
      exact .inr ⟨hp, by rw [sweep_used K (h1 hp)]; exact hu⟩
  refine ⟨by rw [sweep_len]; exact g.len, g.roots, fun c hc => ?_, fun r hr => key r (g.lead r hr) (K.root r hr)⟩
  obtain ⟨i, hi⟩ := List.getElem?_of_mem hc
  have hl : i < h.cells.length := by have := (List.getElem?_eq_some_iff.1 hi).1; rwa [sweep_len] at this
  cases hm : atB ms i
  · rw [sweep_gone K hl hm] at hi
    injection hi with hi
    rw [← hi]; rfl
  · rw [sweep_cel K hm] at hi
    have hok := g.cell c (List.mem_of_getElem? hi)
    rw [cellOk_iff] at hok ⊢
    rcases hok with ⟨k1, k2, k3⟩ | hok
    · exact .inl ⟨k1, fun r hr => key r (k2 r hr) (K.ref i c hi hm r hr), k3⟩
    · exact .inr hok
theorem Keeps.heap {h : Hp} {ms : List Bool} (K : Keeps h ms) (h0 : heapOk h = true) : heapOk (mDrop h (deadL ms)) = true := by
  have := K.ok h0
  unfold sweepOk at this
  simp only [Bool.and_eq_true] at this
  exact this.2
theorem Keeps.iso {h : Hp} {ms : List Bool} (K : Keeps h ms) (h0 : heapOk h = true) : Iso h (mDrop h (deadL ms)) (RchI h) id := by
  have hc : ∀ c, RchI h c → cel (mDrop h (deadL ms)).cells (id c) = cel h.cells c := fun c hc => by
    have h1 := hc.2
    simp only [reachB, decide_eq_true_eq] at h1
    unfold cel
    rw [List.getD_eq_getElem?_getD, List.getD_eq_getElem?_getD, id, sweep_cel K (K.rch h1)]
  exact ⟨rchI_root h0, rchI_ref h0, fun c hc => ⟨hc.1, hc.1⟩, fun a b _ _ e => e, (map_up_id _).symm, fun c k => by rw [hc c k], fun c k => by rw [hc c k, map_up_id]⟩
theorem Keeps.view {h : Hp} {ms : List Bool} (K : Keeps h ms) (h0 : heapOk h = true) : mView (mDrop h (deadL ms)) = mView h := view_same (K.iso h0) h0 (K.heap h0)
theorem keeps_reach {h : Hp} (h0 : heapOk h = true) : Keeps h (mReachable h) := by
  rw [mReachable_yes h0]
  exact reachL_from h0 fun _ hr => hr
theorem collect_eq {h : Hp} (h0 : heapOk h = true) : mCollect h = mDrop h (deadL (mReachable h)) := by
  unfold mCollect
  exact (mSweep_yes ((keeps_reach h0).ok h0)).1
theorem collect_ok {h : Hp} (h0 : heapOk h = true) : heapOk (mCollect h) = true := by
  rw [collect_eq h0]
  exact (keeps_reach h0).heap h0
theorem collect_view {h : Hp} (h0 : heapOk h = true) : mView (mCollect h) = mView h := by
  rw [collect_eq h0]
  exact (keeps_reach h0).view h0
end Go.Proofs.Ytdkpfggfkhnjfaa

/- Plain laws: two heaps whose reached cells correspond go on so under every instruction, wherever a new cell lies; sweeping keeps it. No program. -/
namespace Go.Proofs.Ytdkpfggfkhnjfaa
open Go.RowKit
structure Sim (h h' : Hp) (R : Int → Prop) (f : Int → Int) : Prop extends Iso h h' R f where
  use : ∀ c, R c → usedN h.cells c.toNat = true
  use' : ∀ c, R c → usedN h'.cells (f c).toNat = true
theorem getD_mem {l : List Int} {i : Nat} (h : 0 ≤ l.getD i (-1)) : l.getD i (-1) ∈ l := by
  rw [List.getD_eq_getElem?_getD] at h ⊢
  cases hq : l[i]? with
  | none => rw [hq] at h; simp at h
  | some x => exact List.mem_of_getElem? hq
theorem getD_up (f : Int → Int) (l : List Int) (i : Nat) : (l.map (up f)).getD i (-1) = up f (l.getD i (-1)) := by
  rw [List.getD_eq_getElem?_getD, List.getD_eq_getElem?_getD, List.getElem?_map]
  cases l[i]? <;> simp [up]
theorem cel_set {cs : List Cel} {i : Nat} {d : Cel} (hi : i < cs.length) (x : Int) : cel (cs.set i d) x = if x.toNat = i then d else cel cs x := by
  unfold cel
  rw [List.getD_eq_getElem?_getD, List.getD_eq_getElem?_getD, List.getElem?_set]
  by_cases e : i = x.toNat
  · rw [if_pos e, if_pos e.symm, if_pos (by omega)]; rfl
  · rw [if_neg e, if_neg fun k => e k.symm]
theorem putCel_len {cs : List Cel} {p : Nat} (d : Cel) (_hp : p ≤ cs.length) : (putCel cs p d).length ≤ cs.length + 1 ∧ cs.length ≤ (putCel cs p d).length ∧ (p < cs.length → (putCel cs p d).length = cs.length) := by
  unfold putCel
  split
  · refine ⟨by simp, by simp, fun h => by omega⟩
  · refine ⟨by simp, by simp, fun _ => by simp⟩
theorem cel_put {cs : List Cel} {p : Nat} {d : Cel} (hp : p ≤ cs.length) (x : Int) : cel (putCel cs p d) x = if x.toNat = p then d else cel cs x := by
  unfold putCel
  split
  · rename_i e
    unfold cel
    rw [List.getD_eq_getElem?_getD, List.getD_eq_getElem?_getD]
    by_cases k : x.toNat = p
    · rw [if_pos k, List.getElem?_append_right (by omega), show x.toNat - cs.length = 0 by omega]; rfl
    · rw [if_neg k]
      rcases Nat.lt_or_ge x.toNat cs.length with q | q
      · rw [List.getElem?_append_left q]
      · rw [List.getElem?_eq_none (by simp; omega), List.getElem?_eq_none q]
  · exact cel_set (by omega) x
theorem usedN_cel (cs : List Cel) (x : Int) : usedN cs x.toNat = (cel cs x).used := rfl
theorem celI_cel (h : Hp) (x : Int) : celI h x = cel h.cells x := rfl
section
variable {h h' : Hp} {R : Int → Prop} {f : Int → Int}
theorem Sim.rootI (s : Sim h h' R f) (k : Int) : Go.Proofs.Ytdkpfggfkhnjfaa.rootI h' k = up f (Go.Proofs.Ytdkpfggfkhnjfaa.rootI h k) := by
  unfold Go.Proofs.Ytdkpfggfkhnjfaa.rootI
  rw [s.roots, getD_up]
theorem Sim.rootR (s : Sim h h' R f) (k : Int) (h0 : 0 ≤ Go.Proofs.Ytdkpfggfkhnjfaa.rootI h k) : R (Go.Proofs.Ytdkpfggfkhnjfaa.rootI h k) := s.root _ (getD_mem h0) h0
theorem Sim.setRoot (s : Sim h h' R f) (k : Nat) {x : Int} (hx : 0 ≤ x → R x) : Sim ⟨h.cells, h.roots.set k x⟩ ⟨h'.cells, h'.roots.set k (up f x)⟩ R f := by
  refine { root := fun r hr h0 => ?_, ref := s.ref, pos := s.pos, inj := s.inj, roots := ?_, data := s.data, refs := s.refs, use := s.use, use' := s.use' }
  · rcases mem_set' hr with rfl | hr
    · exact hx h0
    · exact s.root r hr h0
  · show h'.roots.set k (up f x) = (h.roots.set k x).map (up f)
    rw [s.roots, List.map_set]
theorem nat_inj {a b : Int} (ha : 0 ≤ a) (hb : 0 ≤ b) (h : a.toNat = b.toNat) : a = b := by omega
theorem Sim.setCell (s : Sim h h' R f) {c : Int} (hc : R c) {d d' : Cel} (hu : d.used = true) (hu' : d'.used = true) (e1 : d'.data = d.data) (e2 : d'.refs = d.refs.map (up f)) (hr : ∀ r ∈ d.refs, 0 ≤ r → R r) : Sim ⟨h.cells.set c.toNat d, h.roots⟩ ⟨h'.cells.set (f c).toNat d', h'.roots⟩ R f := by
  have hl := usedN_lt (s.use c hc)
  have hl' := usedN_lt (s.use' c hc)
  have key : ∀ x, R x → cel (h.cells.set c.toNat d) x = (if x = c then d else cel h.cells x) ∧ cel (h'.cells.set (f c).toNat d') (f x) = (if x = c then d' else cel h'.cells (f x)) := fun x hx => by
    rw [cel_set hl, cel_set hl']
    by_cases e : x = c
    · subst e; simp
    · rw [if_neg e, if_neg e, if_neg fun k => e (nat_inj (s.pos x hx).1 (s.pos c hc).1 k), if_neg fun k => e (s.inj x c hx hc (nat_inj (s.pos x hx).2 (s.pos c hc).2 k))]
      exact ⟨rfl, rfl⟩
  refine { root := s.root, ref := fun x hx r hm h0 => ?_, pos := s.pos, inj := s.inj, roots := s.roots, data := fun x hx => ?_, refs := fun x hx => ?_, use := fun x hx => ?_, use' := fun x hx => ?_ }
  · simp only [(key x hx).1] at hm
    by_cases e : x = c
    · rw [if_pos e] at hm; exact hr r hm h0
    · rw [if_neg e] at hm; exact s.ref x hx r hm h0
  · simp only [(key x hx).1, (key x hx).2]
    by_cases e : x = c
    · rw [if_pos e, if_pos e, e1]
    · rw [if_neg e, if_neg e, s.data x hx]
  · simp only [(key x hx).1, (key x hx).2]
    by_cases e : x = c
    · rw [if_pos e, if_pos e, e2]
    · rw [if_neg e, if_neg e, s.refs x hx]
  · rw [usedN_cel]
    simp only [(key x hx).1]
    by_cases e : x = c
    · rw [if_pos e]; exact hu
    · rw [if_neg e, ← usedN_cel]; exact s.use x hx
  · rw [usedN_cel]
    simp only [(key x hx).2]
    by_cases e : x = c
    · rw [if_pos e]; exact hu'
    · rw [if_neg e, ← usedN_cel]; exact s.use' x hx
theorem Sim.new (s : Sim h h' R f) {p p' : Nat} (hp : p ≤ h.cells.length) (hp' : p' ≤ h'.cells.length) (hu : usedN h.cells p = false) (hu' : usedN h'.cells p' = false) {d : Cel} (hd : d.used = true) (hr : ∀ r ∈ d.refs, r = -1) (k : Nat) :
    Sim ⟨putCel h.cells p d, h.roots.set k p⟩ ⟨putCel h'.cells p' d, h'.roots.set k p'⟩ (fun c => c = p ∨ R c) (fun c => if c = p then p' else f c) := by
  have ne : ∀ c, R c → c ≠ (p : Int) := fun c hc e => by
    have := s.use c hc
    rw [e, Int.toNat_natCast, hu] at this; cases this
  have ne' : ∀ c, R c → f c ≠ (p' : Int) := fun c hc e => by
    have := s.use' c hc
    rw [e, Int.toNat_natCast, hu'] at this; cases this
  have fp : (fun c : Int => if c = p then (p' : Int) else f c) p = p' := by simp
  have fR : ∀ c, R c → (fun c : Int => if c = p then (p' : Int) else f c) c = f c := fun c hc => by simp [ne c hc]
  generalize hg : (fun c : Int => if c = p then (p' : Int) else f c) = g at fp fR ⊢
  have upg : ∀ r, (0 ≤ r → R r) → up g r = up f r := fun r h1 => by
    unfold up
    split
    · rfl
    · exact fR r (h1 (by omega))
  have mapg : ∀ rs : List Int, (∀ r ∈ rs, 0 ≤ r → R r) → rs.map (up g) = rs.map (up f) := fun rs h1 => List.map_congr_left fun r hm => upg r (h1 r hm)
  have mapd : d.refs.map (up g) = d.refs := by
    refine (List.map_congr_left fun r hm => ?_).trans (List.map_id _)
    rw [hr r hm]; simp [up]
  have cp : cel (putCel h.cells p d) p = d := by rw [cel_put hp]; simp
  have cp' : cel (putCel h'.cells p' d) p' = d := by rw [cel_put hp']; simp
  have cR : ∀ c, R c → cel (putCel h.cells p d) c = cel h.cells c := fun c hc => by
    rw [cel_put hp, if_neg fun k => ne c hc (by have := (s.pos c hc).1; omega)]
  have cR' : ∀ c, R c → cel (putCel h'.cells p' d) (f c) = cel h'.cells (f c) := fun c hc => by
    rw [cel_put hp', if_neg fun k => ne' c hc (by have := (s.pos c hc).2; omega)]
  refine { root := fun r hm h0 => ?_, ref := ?_, pos := ?_, inj := ?_, roots := ?_, data := ?_, refs := ?_, use := ?_, use' := ?_ }
  · rcases mem_set' hm with rfl | hm
    · exact .inl rfl
    · exact .inr (s.root r hm h0)
  · rintro c (rfl | hc) r hm h0
    · simp only [cp] at hm
      rw [hr r hm] at h0; omega
    · simp only [cR c hc] at hm
      exact .inr (s.ref c hc r hm h0)
  · rintro c (rfl | hc)
    · rw [fp]; omega
    · rw [fR c hc]; exact s.pos c hc
  · rintro a b (rfl | ha) (rfl | hb) e
    · rfl
    · rw [fp, fR b hb] at e
      exact absurd e.symm (ne' b hb)
    · rw [fp, fR a ha] at e
      exact absurd e (ne' a ha)
    · rw [fR a ha, fR b hb] at e
      exact s.inj a b ha hb e
  · show h'.roots.set k p' = (h.roots.set k p).map (up g)
    rw [List.map_set, mapg h.roots s.root, ← s.roots, up_pos (by omega), fp]
  · rintro c (rfl | hc)
    · simp only [fp, cp, cp']
    · simp only [fR c hc, cR c hc, cR' c hc]; exact s.data c hc
  · rintro c (rfl | hc)
    · simp only [fp, cp, cp', mapd]
    · simp only [fR c hc, cR c hc, cR' c hc]
      rw [s.refs c hc, mapg _ (s.ref c hc)]
  · rintro c (rfl | hc)
    · rw [usedN_cel]; simp only [cp]; exact hd
    · rw [usedN_cel]; simp only [cR c hc]; exact s.use c hc
  · rintro c (rfl | hc)
    · rw [usedN_cel]; simp only [fp, cp']; exact hd
    · rw [usedN_cel]; simp only [fR c hc, cR' c hc]; exact s.use' c hc
theorem Sim.place (s : Sim h h' R f) (k c : Int) : placeB h' (Go.Proofs.Ytdkpfggfkhnjfaa.rootI h' k) c = placeB h (Go.Proofs.Ytdkpfggfkhnjfaa.rootI h k) c := by
  rw [s.rootI]
  unfold placeB
  rcases Int.lt_or_le (Go.Proofs.Ytdkpfggfkhnjfaa.rootI h k) 0 with h0 | h0
  · rw [up_neg h0]
    simp [show ¬ 0 ≤ Go.Proofs.Ytdkpfggfkhnjfaa.rootI h k by omega]
  · have hR := s.rootR k h0
    rw [up_pos h0, celI_cel, celI_cel, s.refs _ hR, List.length_map]
    simp [h0, (s.pos _ hR).2]
theorem Sim.poss (s : Sim h h' R f) (o : Cmd) : possB h' o = possB h o := by
  unfold possB
  rw [s.place, s.place, s.rootI]
  have e : decide (0 ≤ up f (Go.Proofs.Ytdkpfggfkhnjfaa.rootI h o.a)) = decide (0 ≤ Go.Proofs.Ytdkpfggfkhnjfaa.rootI h o.a) := by
    rcases Int.lt_or_le (Go.Proofs.Ytdkpfggfkhnjfaa.rootI h o.a) 0 with h0 | h0
    · rw [up_neg h0]
    · rw [up_pos h0]
      simp [h0, (s.pos _ (s.rootR _ h0)).2]
  rw [e]
theorem Sim.step (s : Sim h h' R f) {o : Cmd} (hp : possB h o = true) {p p' : Nat} (hn : o.op = 1 → p ≤ h.cells.length ∧ p' ≤ h'.cells.length ∧ usedN h.cells p = false ∧ usedN h'.cells p' = false) : ∃ R' f', Sim (mDo h o p) (mDo h' o p') R' f' := by
  unfold possB at hp
  unfold mDo
  by_cases h1 : o.op = 1
  · obtain ⟨q1, q2, q3, q4⟩ := hn h1
    simp only [h1, if_true]
    exact ⟨_, _, s.new q1 q2 q3 q4 (d := newCel o) rfl (fun r hr => by simp only [newCel] at hr; exact List.eq_of_mem_replicate hr) o.a.toNat⟩
  by_cases h2 : o.op = 2
  · simp only [h2] at hp ⊢
    simp only [Int.reduceEq, if_false, if_true] at hp ⊢
    unfold placeB at hp
    simp only [Bool.and_eq_true, decide_eq_true_eq] at hp
    have hR := s.rootR o.b hp.1
    rw [s.rootI, up_pos hp.1, celI_cel, celI_cel, s.refs _ hR, getD_up]
    exact ⟨_, _, s.setRoot _ fun h0 => s.ref _ hR _ (getD_mem h0) h0⟩
  by_cases h3 : o.op = 3
  · simp only [h3] at hp ⊢
    simp only [Int.reduceEq, if_false, if_true] at hp ⊢
    unfold placeB at hp
    simp only [Bool.and_eq_true, decide_eq_true_eq] at hp
    have hR := s.rootR o.a hp.1
    rw [s.rootI o.a, up_pos hp.1, celI_cel, celI_cel, s.rootI o.b]
    refine ⟨_, _, s.setCell hR (d := setRef (cel h.cells (Go.Proofs.Ytdkpfggfkhnjfaa.rootI h o.a)) o.c.toNat (Go.Proofs.Ytdkpfggfkhnjfaa.rootI h o.b)) (s.use _ hR) (s.use' _ hR) (s.data _ hR) ?_ fun r hr h0 => ?_⟩
    · simp only [setRef]
      rw [s.refs _ hR, List.map_set]
    · simp only [setRef] at hr
      rcases mem_set' hr with rfl | hr
      · exact s.rootR _ h0
      · exact s.ref _ hR r hr h0
  by_cases h4 : o.op = 4
  · simp only [h4] at hp ⊢
    simp only [Int.reduceEq, if_false, if_true] at hp ⊢
    rw [s.rootI]
    exact ⟨_, _, s.setRoot _ fun h0 => s.rootR _ h0⟩
  by_cases h5 : o.op = 5
  · simp only [h5] at hp ⊢
    simp only [Int.reduceEq, if_false, if_true] at hp ⊢
    have := s.setRoot o.a.toNat (x := -1) fun h0 => by omega
    rw [up_neg (by omega)] at this
    exact ⟨_, _, this⟩
  by_cases h6 : o.op = 6
  · simp only [h6] at hp ⊢
    simp only [Int.reduceEq, if_false, if_true, decide_eq_true_eq] at hp ⊢
    have hR := s.rootR o.a hp
    rw [s.rootI o.a, up_pos hp, celI_cel, celI_cel]
    exact ⟨_, _, s.setCell hR (d := setDat (cel h.cells (Go.Proofs.Ytdkpfggfkhnjfaa.rootI h o.a)) o.b) (s.use _ hR) (s.use' _ hR) rfl (s.refs _ hR) (s.ref _ hR)⟩
  · simp only [h1, h2, h3, h4, h5, h6, if_false]
    exact ⟨_, _, s⟩
theorem Sim.rch (s : Sim h h' R f) {c : Int} (hc : RchI h c) : R c := by
  have key : ∀ n : Nat, Rch h.cells (usedN h.cells) h.roots n → R (n : Int) := fun n hn => by
    induction hn with
    | base h1 h2 _ => rw [Int.toNat_of_nonneg h2]; exact s.root _ h1 h2
    | @step q l r _ h1 h2 h3 _ ih =>
      rw [Int.toNat_of_nonneg h3]
      exact s.ref _ ih r (by rw [cel_at (Go.Lib.hid h1)]; exact h2) h3
  have h1 := hc.2
  simp only [reachB, decide_eq_true_eq] at h1
  have := key _ h1
  rwa [Int.toNat_of_nonneg hc.1] at this
theorem Sim.rch' (s : Sim h h' R f) {c : Int} (hc : RchI h c) : RchI h' (f c) := by
  have key : ∀ n : Nat, Rch h.cells (usedN h.cells) h.roots n → R (n : Int) → Rch h'.cells (usedN h'.cells) h'.roots (f n).toNat := fun n hn => by
    induction hn with
    | @base r h1 h2 _ =>
      intro hR
      rw [Int.toNat_of_nonneg h2] at hR ⊢
      refine .base ?_ (s.pos _ hR).2 (s.use' _ hR)
      rw [s.roots]
      exact List.mem_map.2 ⟨r, h1, up_pos h2⟩
    | @step q l r hq h1 h2 h3 _ ih =>
      intro hR
      rw [Int.toNat_of_nonneg h3] at hR ⊢
      have hRq : R (q : Int) := s.rch ⟨by omega, by simp only [reachB, Int.toNat_natCast, decide_eq_true_eq]; exact hq⟩
      have hm : f r ∈ (cel h'.cells (f q)).refs := by
        rw [s.refs _ hRq, cel_at (Go.Lib.hid h1)]
        exact List.mem_map.2 ⟨r, h2, up_pos h3⟩
      obtain ⟨l', hl', hm', -⟩ := cel_refs hm
      exact .step (ih hRq) hl' hm' (s.pos _ hR).2 (s.use' _ hR)
  have h1 := hc.2
  simp only [reachB, decide_eq_true_eq] at h1
  have h2 := s.rch hc
  have := key _ h1 (by rwa [Int.toNat_of_nonneg hc.1])
  rw [Int.toNat_of_nonneg hc.1] at this
  exact ⟨(s.pos c h2).2, by simp only [reachB, decide_eq_true_eq]; exact this⟩
end
theorem up_up {f g : Int → Int} {r : Int} (h : 0 ≤ r → 0 ≤ f r) : up g (up f r) = up (g ∘ f) r := by
  rcases Int.lt_or_le r 0 with h0 | h0
  · rw [up_neg h0, up_neg h0, up_neg h0]
  · rw [up_pos h0, up_pos (h h0), up_pos h0]; rfl
theorem Sim.trans {a b c : Hp} {R : Int → Prop} {f g : Int → Int} (s : Sim a b R f) (t : Sim b c (RchI b) g) (ha : heapOk a = true) : Sim a c (RchI a) (g ∘ f) := by
  have hR : ∀ x, RchI a x → R x := fun x hx => s.rch hx
  have hB : ∀ x, RchI a x → RchI b (f x) := fun x hx => s.rch' hx
  have hm : ∀ rs : List Int, (∀ r ∈ rs, 0 ≤ r → RchI a r) → (rs.map (up f)).map (up g) = rs.map (up (g ∘ f)) := fun rs h => by
    rw [List.map_map]
    exact List.map_congr_left fun r hr => up_up fun h0 => (s.pos r (hR r (h r hr h0))).2
  refine { root := rchI_root ha, ref := rchI_ref ha, pos := fun x hx => ⟨hx.1, (t.pos _ (hB x hx)).2⟩, inj := fun x y hx hy e => s.inj x y (hR x hx) (hR y hy) (t.inj _ _ (hB x hx) (hB y hy) e), roots := ?_, data := fun x hx => ?_, refs := fun x hx => ?_, use := fun x hx => s.use x (hR x hx), use' := fun x hx => t.use' _ (hB x hx) }
  · rw [t.roots, s.roots, hm _ (rchI_root ha)]
  · show (cel c.cells (g (f x))).data = _
    rw [t.data _ (hB x hx), s.data x (hR x hx)]
  · show (cel c.cells (g (f x))).refs = _
    rw [t.refs _ (hB x hx), s.refs x (hR x hx), hm _ (rchI_ref ha x hx)]
theorem rchI_used {h : Hp} {c : Int} (hc : RchI h c) : usedN h.cells c.toNat = true := by
  have h1 := hc.2
  simp only [reachB, decide_eq_true_eq] at h1
  exact h1.inS
theorem Keeps.sim {h : Hp} {ms : List Bool} (K : Keeps h ms) (h0 : heapOk h = true) : Sim h (mDrop h (deadL ms)) (RchI h) id := by
  refine { toIso := K.iso h0, use := fun c hc => rchI_used hc, use' := fun c hc => ?_ }
  have h1 := hc.2
  simp only [reachB, decide_eq_true_eq] at h1
  rw [id, sweep_used K (K.rch h1)]
  exact rchI_used hc
theorem collect_sim {h : Hp} (h0 : heapOk h = true) : Sim h (mCollect h) (RchI h) id := by
  rw [collect_eq h0]
  exact (keeps_reach h0).sim h0
theorem sim_refl {h : Hp} (h0 : heapOk h = true) : Sim h h (RchI h) id :=
  { root := rchI_root h0, ref := rchI_ref h0, pos := fun _ hc => ⟨hc.1, hc.1⟩, inj := fun _ _ _ _ e => e, roots := (map_up_id _).symm, data := fun _ _ => rfl, refs := fun _ _ => (map_up_id _).symm, use := fun _ hc => rchI_used hc, use' := fun _ hc => rchI_used hc }
/-! ### How many cells can be reached -/
theorem mem_ordH {h : Hp} (h0 : heapOk h = true) {c : Int} : c ∈ ordH h ↔ RchI h c := by
  refine ⟨ordH_reach h0 c, fun hc => ?_⟩
  have key : ∀ n : Nat, Rch h.cells (usedN h.cells) h.roots n → (n : Int) ∈ ordH h := fun n hn => by
    induction hn with
    | base h1 h2 _ => rw [Int.toNat_of_nonneg h2]; exact ordH_root h _ h1 h2
    | @step q l r _ h1 h2 h3 _ ih =>
      rw [Int.toNat_of_nonneg h3]
      exact ordH_ref h0 _ ih r (by rw [cel_at (Go.Lib.hid h1)]; exact h2) h3
  have h1 := hc.2
  simp only [reachB, decide_eq_true_eq] at h1
  have := key _ h1
  rwa [Int.toNat_of_nonneg hc.1] at this
noncomputable def liveN (h : Hp) : Nat := (ordH h).length
theorem Iso.live {h h' : Hp} {R : Int → Prop} {f : Int → Int} (g : Iso h h' R f) : liveN h' = liveN h := by
  unfold liveN
  rw [g.order, List.length_map]
theorem sub_len : ∀ (l m : List Int), l.Nodup → (∀ x ∈ l, x ∈ m) → l.length ≤ m.length
  | [], m, _, _ => by simp
  | a :: l, m, hd, h => by
    rw [List.nodup_cons] at hd
    have h1 := sub_len l (m.erase a) hd.2 fun x hx => by
      have hne : x ≠ a := fun e => hd.1 (e ▸ hx)
      rw [List.mem_erase_of_ne hne]
      exact h x (by simp [hx])
    have h2 := List.length_erase_of_mem (h a (by simp))
    have h3 : 0 < m.length := List.length_pos_of_mem (h a (by simp))
    simp only [List.length_cons]
    omega
theorem live_le {h : Hp} (h0 : heapOk h = true) : liveN h ≤ h.cells.length := ordH_len h0
theorem live_free {h : Hp} (h0 : heapOk h = true) {p L : Nat} (hl : h.cells.length ≤ L) (hp : p < L) (hu : usedN h.cells p = false) : liveN h < L := by
  have h1 := nodup_len L ((p : Int) :: ordH h) (by
    rw [List.nodup_cons]
    refine ⟨fun hm => ?_, ordH_nodup h⟩
    have := rchI_used ((mem_ordH h0).1 hm)
    rw [Int.toNat_natCast, hu] at this; cases this) fun x hx => by
      rcases List.mem_cons.1 hx with rfl | hx
      · omega
      · have := (mem_ordH h0).1 hx
        have h2 := reach_lt this
        have h3 := this.1
        omega
  simp only [List.length_cons] at h1
  unfold liveN
  omega
theorem live_full {h : Hp} (h0 : heapOk h = true) {L : Nat} (hf : ∀ i, i < L → reachB h.cells h.roots i = true) : L ≤ liveN h := by
  have h1 := sub_len ((List.range L).map fun i : Nat => (i : Int)) (ordH h) (by
    refine List.Pairwise.map _ (fun a b hab e => hab (by omega)) List.nodup_range) fun x hx => by
      obtain ⟨i, hi, rfl⟩ := List.mem_map.1 hx
      rw [mem_ordH h0]
      exact ⟨by omega, by rw [Int.toNat_natCast]; exact hf i (List.mem_range.1 hi)⟩
  rw [List.length_map, List.length_range] at h1
  exact h1
end Go.Proofs.Ytdkpfggfkhnjfaa

/- Plain laws on programs that run with a limit of cells, with sweeping or with copying: they show what the program without freeing shows; they come to the end exactly if fewer cells than the limit can be reached wherever a cell is made. No program. -/
namespace Go.Proofs.Ytdkpfggfkhnjfaa
open Go.RowKit
/-! ### The first free place -/
def mFree (h : Hp) : Nat := h.cells.findIdx fun c => !c.used
theorem mFree_le (h : Hp) : mFree h ≤ h.cells.length := List.findIdx_le_length
theorem mFree_not (h : Hp) : usedN h.cells (mFree h) = false := by
  rw [usedN_def, List.getD_eq_getElem?_getD]
  rcases Nat.lt_or_ge (mFree h) h.cells.length with q | q
  · rw [List.getElem?_eq_getElem q]
    have := List.findIdx_getElem (p := fun c : Cel => !c.used) (xs := h.cells) (w := q)
    simp only [Bool.not_eq_true'] at this
    exact this
  · rw [List.getElem?_eq_none q]; rfl
theorem mFree_before {h : Hp} {i : Nat} (hi : i < mFree h) : usedN h.cells i = true := by
  have hl : i < h.cells.length := by have := mFree_le h; omega
  rw [usedN_def, List.getD_eq_getElem?_getD, List.getElem?_eq_getElem hl]
  have := List.not_of_lt_findIdx (p := fun c : Cel => !c.used) (xs := h.cells) hi
  simpa using this
/-! ### A step, and a run -/
noncomputable def stepSw (h : Hp) (L : Nat) (o : Cmd) : Hp × Bool :=
  if possB h o then
    if o.op = 1 then
      if mFree h < L then (mDo h o (mFree h), true)
      else if mFree (mCollect h) < L then (mDo (mCollect h) o (mFree (mCollect h)), true) else (mCollect h, false)
    else (mDo h o 0, true)
  else (h, false)
noncomputable def runSw (L : Nat) : Hp → List Cmd → Hp × Bool
  | h, [] => (h, true)
  | h, o :: os => if (stepSw h L o).2 = false ∧ o.op = 1 then ((stepSw h L o).1, false) else runSw L (stepSw h L o).1 os
theorem mDo_len {h : Hp} {o : Cmd} {p : Nat} (hp : p ≤ h.cells.length) : (mDo h o p).cells.length ≤ h.cells.length + 1 ∧ (o.op ≠ 1 → (mDo h o p).cells.length = h.cells.length) ∧ (p < h.cells.length → (mDo h o p).cells.length = h.cells.length) := by
  unfold mDo
  by_cases h1 : o.op = 1
  · rw [if_pos h1]
    obtain ⟨k1, k2, k3⟩ := putCel_len (newCel o) hp
    exact ⟨k1, fun k => absurd h1 k, k3⟩
  · rw [if_neg h1]
    have key : ∀ x : Hp, x.cells.length = h.cells.length → x.cells.length ≤ h.cells.length + 1 ∧ (o.op ≠ 1 → x.cells.length = h.cells.length) ∧ (p < h.cells.length → x.cells.length = h.cells.length) := fun x e => ⟨by omega, fun _ => e, fun _ => e⟩
    split
    · exact key _ rfl
    split
    · exact key _ (by simp)
    split
    · exact key _ rfl
    split
    · exact key _ rfl
    split
    · exact key _ (by simp)
    · exact key _ rfl
theorem usedN_end (cs : List Cel) : usedN cs cs.length = false := by
  rw [usedN_def, List.getD_eq_getElem?_getD, List.getElem?_eq_none (Nat.le_refl _)]; rfl
theorem poss_new {h : Hp} {o : Cmd} (h1 : o.op = 1) : possB h o = true := by
  unfold possB
  simp [h1]
theorem mStep_is {h : Hp} {o : Cmd} (g : Good h) (hc : cmdOk o = true) (hl : h.cells.length < 40) : mStep h o = if possB h o then mDo h o h.cells.length else h := by
  have e : stepOk h o = possB h o := by
    unfold stepOk
    rw [decide_eq_false (by omega : ¬ h.cells.length = 40)]
    simp
  unfold mStep
  rw [good_iff.2 g, hc, e]
  simp
theorem mStep_len {h : Hp} {o : Cmd} : (mStep h o).cells.length ≤ h.cells.length + 1 := by
  unfold mStep
  split
  · split
    · exact (mDo_len (Nat.le_refl _)).1
    · omega
  · simp
theorem run_len : ∀ (os : List Cmd) (h : Hp), (os.foldl mStep h).cells.length ≤ h.cells.length + os.length
  | [], h => by simp
  | o :: os, h => by
    have h1 := run_len os (mStep h o)
    have h2 := mStep_len (h := h) (o := o)
    simp only [List.foldl_cons, List.length_cons]
    omega
theorem collect_used {h : Hp} (h0 : heapOk h = true) {i : Nat} (hu : usedN (mCollect h).cells i = true) : reachB (mCollect h).cells (mCollect h).roots i = true := by
  have K := keeps_reach h0
  have hi : i < h.cells.length := by
    have := usedN_lt hu
    rwa [collect_eq h0, sweep_len] at this
  have hm : atB (mReachable h) i = true := by
    cases hb : atB (mReachable h) i
    · rw [collect_eq h0, usedN_def, List.getD_eq_getElem?_getD, sweep_gone K hi hb] at hu
      simp [noCel] at hu
    · rfl
  have hr : reachB h.cells h.roots i = true := by
    rw [mReachable_yes h0, atB_at (reachL_at hi)] at hm
    exact hm
  have := (collect_sim h0).rch' (c := (i : Int)) ⟨by omega, by rw [Int.toNat_natCast]; exact hr⟩
  have h2 := this.2
  rwa [id, Int.toNat_natCast] at h2
theorem collect_len' {h : Hp} (h0 : heapOk h = true) : (mCollect h).cells.length = h.cells.length := by rw [collect_eq h0, sweep_len]
theorem stepSw_sim {L : Nat} (hL : L ≤ 40) {h0 h : Hp} {R : Int → Prop} {f : Int → Int} {o : Cmd} (g0 : Good h0) (g : Good h) (s : Sim h0 h R f) (hl : h.cells.length ≤ L) (hc : cmdOk o = true) (h40 : h0.cells.length < 40) :
    Good (stepSw h L o).1 ∧ (stepSw h L o).1.cells.length ≤ L ∧ (¬ ((stepSw h L o).2 = false ∧ o.op = 1) → ∃ R' f', Sim (mStep h0 o) (stepSw h L o).1 R' f') ∧ (((stepSw h L o).2 = false ∧ o.op = 1) ↔ (o.op = 1 ∧ L ≤ liveN h0)) := by
  have hok := good_iff.2 g
  have hok0 := good_iff.2 g0
  rw [mStep_is g0 hc h40]
  have hp := s.poss o
  unfold stepSw
  cases hpb : possB h o
  · have h1 : o.op ≠ 1 := fun e => by rw [poss_new e] at hpb; cases hpb
    rw [hpb] at hp
    rw [← hp]
    refine ⟨by simpa using g, by simpa using hl, fun _ => ⟨R, f, by simpa using s⟩, ?_⟩
    simp [h1]
  · rw [hpb] at hp
    rw [← hp]
    simp only [if_true]
    by_cases h1 : o.op = 1
    · simp only [h1, if_true]
      have new : ∀ (x : Hp) (R : Int → Prop) (f : Int → Int), Good x → Sim h0 x R f → x.cells.length ≤ L → mFree x < L → Good (mDo x o (mFree x)) ∧ (mDo x o (mFree x)).cells.length ≤ L ∧ (∃ R' f', Sim (mDo h0 o h0.cells.length) (mDo x o (mFree x)) R' f') ∧ ¬ L ≤ liveN h0 := fun x R f gx sx hlx hf => by
        have hd := mDo_len (o := o) (mFree_le x)
        refine ⟨mDo_good gx hc (poss_new h1) (mFree_le x) fun _ => by omega, ?_, sx.step hp.symm fun _ => ⟨Nat.le_refl _, mFree_le x, usedN_end _, mFree_not x⟩, ?_⟩
        · rcases Nat.lt_or_ge (mFree x) x.cells.length with q | q
          · have := hd.2.2 q; omega
          · have := mFree_le x; omega
        · have h2 := live_free (good_iff.2 gx) hlx hf (mFree_not x)
          rw [← sx.toIso.live]; omega
      by_cases hf : mFree h < L
      · obtain ⟨k1, k2, k3, k4⟩ := new h R f g s hl hf
        simp only [hf, if_true]
        exact ⟨k1, k2, fun _ => k3, by simp; omega⟩
      · simp only [hf, if_false]
        have gx := mCollect_good g
        have sx := s.trans (collect_sim hok) hok0
        have hlx := collect_len' hok
        by_cases hf2 : mFree (mCollect h) < L
        · obtain ⟨k1, k2, k3, k4⟩ := new _ _ _ gx sx (by omega) hf2
          simp only [hf2, if_true]
          exact ⟨k1, k2, fun _ => k3, by simp; omega⟩
        · simp only [hf2, if_false]
          refine ⟨gx, by omega, fun k => absurd ⟨trivial, trivial⟩ k, ?_⟩
          have h2 := live_full (good_iff.2 gx) (L := L) fun i hi => collect_used hok (mFree_before (by omega))
          rw [sx.toIso.live] at h2
          simp [h2]
    · simp only [h1, if_false]
      refine ⟨mDo_good g hc hpb (Nat.zero_le _) fun k => absurd k h1, by rw [(mDo_len (Nat.zero_le _)).2.1 h1]; exact hl, fun _ => s.step hp.symm fun k => absurd k h1, by simp⟩
/-- When a run with a limit comes to its end: fewer cells than the limit can be reached wherever a cell is made. -/
def Fits (L : Nat) (h0 : Hp) (os : List Cmd) : Prop := ∀ (i : Nat) (o : Cmd), os[i]? = some o → o.op = 1 → liveN ((os.take i).foldl mStep h0) < L
theorem fits_cons {L : Nat} {h0 : Hp} {o : Cmd} {os : List Cmd} : Fits L h0 (o :: os) ↔ (o.op = 1 → liveN h0 < L) ∧ Fits L (mStep h0 o) os := by
  constructor
  · intro h
    exact ⟨fun h1 => h 0 o rfl h1, fun i p hp h1 => h (i + 1) p (by simpa using hp) h1⟩
  · rintro ⟨h1, h2⟩ i p hp hq
    cases i with
    | zero =>
      simp only [List.getElem?_cons_zero, Option.some.injEq] at hp
      subst hp
      exact h1 hq
    | succ i => exact h2 i p (by simpa using hp) hq
theorem runSw_sim {L : Nat} (hL : L ≤ 40) : ∀ (os : List Cmd) (h0 h : Hp) (R : Int → Prop) (f : Int → Int), Good h0 → Good h → Sim h0 h R f → h.cells.length ≤ L → (∀ o ∈ os, cmdOk o = true) → h0.cells.length + os.length ≤ 40 →
    Good (runSw L h os).1 ∧ (runSw L h os).1.cells.length ≤ L ∧ ((runSw L h os).2 = true → ∃ R' f', Sim (os.foldl mStep h0) (runSw L h os).1 R' f') ∧ ((runSw L h os).2 = true ↔ Fits L h0 os)
  | [], h0, h, R, f, g0, g, s, hl, _, _ => ⟨g, hl, fun _ => ⟨R, f, s⟩, ⟨fun _ i o ho => by simp at ho, fun _ => rfl⟩⟩
  | o :: os, h0, h, R, f, g0, g, s, hl, hc, h40 => by
    simp only [List.length_cons] at h40
    have hco := hc o (by simp)
    obtain ⟨k1, k2, k3, k4⟩ := stepSw_sim hL g0 g s hl hco (by omega)
    rw [fits_cons]
    simp only [runSw]
    by_cases hx : (stepSw h L o).2 = false ∧ o.op = 1
    · rw [if_pos hx]
      refine ⟨k1, k2, fun k => by simp at k, ⟨fun k => by simp at k, fun k => ?_⟩⟩
      have := k4.1 hx
      have := k.1 hx.2
      omega
    · rw [if_neg hx]
      obtain ⟨R', f', s'⟩ := k3 hx
      have hlen := mStep_len (h := h0) (o := o)
      obtain ⟨j1, j2, j3, j4⟩ := runSw_sim hL os (mStep h0 o) (stepSw h L o).1 R' f' (mStep_good g0 hco) k1 s' k2 (fun p hp => hc p (by simp [hp])) (by omega)
      refine ⟨j1, j2, j3, j4.trans ⟨fun k => ⟨fun h1 => ?_, k⟩, fun k => k.2⟩⟩
      rcases Nat.lt_or_ge (liveN h0) L with q | q
      · exact q
      · exact absurd (k4.2 ⟨h1, q⟩) hx
/-! ### Peaks -/
noncomputable def liveAt (cs : List Cmd) (k : Nat) : Nat := liveN (runTo (cs.take k))
noncomputable def peakTo (cs : List Cmd) : Nat → Nat
  | 0 => 0
  | k + 1 => max (peakTo cs k) (liveAt cs (k + 1))
theorem ordH_empty : ordH emptyH = [] := by
  have h := ordH_len (good_iff.2 emptyH_good)
  exact List.length_eq_zero_iff.1 (by simpa [emptyH] using h)
theorem liveAt_zero (cs : List Cmd) : liveAt cs 0 = 0 := by
  unfold liveAt liveN
  rw [List.take_zero]
  show (ordH emptyH).length = 0
  rw [ordH_empty]; rfl
theorem le_peak (cs : List Cmd) {k : Nat} : ∀ {n : Nat}, k ≤ n → liveAt cs k ≤ peakTo cs n
  | 0, h => by
    have : k = 0 := by omega
    rw [this, liveAt_zero]; omega
  | n + 1, h => by
    rcases Nat.lt_or_ge n k with q | q
    · have : k = n + 1 := by omega
      rw [this]; exact Nat.le_max_right _ _
    · exact Nat.le_trans (le_peak cs q) (Nat.le_max_left _ _)
theorem peak_le (cs : List Cmd) {b : Nat} : ∀ {n : Nat}, (∀ k, k ≤ n → liveAt cs k ≤ b) → peakTo cs n ≤ b
  | 0, _ => Nat.zero_le _
  | n + 1, h => Nat.max_le.2 ⟨peak_le cs fun k hk => h k (by omega), h _ (Nat.le_refl _)⟩
theorem cmdsOk_iff {cs : List Cmd} : cmdsOk cs = true ↔ (∀ o ∈ cs, cmdOk o = true) ∧ cs.length ≤ 40 := by
  simp [cmdsOk, List.all_eq_true]
theorem runTo_ok {cs : List Cmd} (hc : ∀ o ∈ cs, cmdOk o = true) (k : Nat) : Good (runTo (cs.take k)) := runTo_good _ fun o ho => hc o (List.mem_of_mem_take ho)
theorem liveAt_le {cs : List Cmd} (hc : ∀ o ∈ cs, cmdOk o = true) (k : Nat) : liveAt cs k ≤ k ∧ liveAt cs k ≤ cs.length := by
  have h1 := live_le (good_iff.2 (runTo_ok hc k))
  have h2 := run_len (cs.take k) emptyH
  rw [List.length_take] at h2
  have h3 : (emptyH).cells.length = 0 := rfl
  unfold liveAt
  unfold runTo at h1 ⊢
  omega
theorem peakTo_take (cs : List Cmd) (m : Nat) : ∀ n, n ≤ m → peakTo (cs.take m) n = peakTo cs n
  | 0, _ => rfl
  | n + 1, h => by
    rw [peakTo, peakTo, peakTo_take cs m n (by omega)]
    unfold liveAt
    rw [List.take_take, show min (n + 1) m = n + 1 by omega]
/-! ### Runs with sweeping, from the empty heap -/
noncomputable def mRunSwH (cs : List Cmd) (L : Int) : Hp := if cmdsOk cs && inR L 1 40 then (runSw L.toNat emptyH cs).1 else ⟨[], []⟩
noncomputable def mRunSwB (cs : List Cmd) (L : Int) : Bool := cmdsOk cs && inR L 1 40 && (runSw L.toNat emptyH cs).2
section
variable {cs : List Cmd} {L : Nat}
theorem runSw_facts (hc : cmdsOk cs = true) (hL : L ≤ 40) : Good (runSw L emptyH cs).1 ∧ (runSw L emptyH cs).1.cells.length ≤ L ∧ ((runSw L emptyH cs).2 = true → ∃ R' f', Sim (mRun cs) (runSw L emptyH cs).1 R' f') ∧ ((runSw L emptyH cs).2 = true ↔ Fits L emptyH cs) := by
  obtain ⟨h1, h2⟩ := cmdsOk_iff.1 hc
  have e : mRun cs = cs.foldl mStep emptyH := by unfold mRun; rw [if_pos hc]; rfl
  rw [e]
  exact runSw_sim hL cs emptyH emptyH _ _ emptyH_good emptyH_good (sim_refl (good_iff.2 emptyH_good)) (Nat.zero_le _) h1 (by show 0 + cs.length ≤ 40; omega)
theorem fits_live (i : Nat) : liveN ((cs.take i).foldl mStep emptyH) = liveAt cs i := rfl
theorem fits_more {L' : Nat} (h : Fits L emptyH cs) (hl : L ≤ L') : Fits L' emptyH cs := fun i o ho h1 => Nat.lt_of_lt_of_le (h i o ho h1) hl
theorem fits_peak (h : peakTo cs cs.length < L) : Fits L emptyH cs := fun i o ho _ => by
  have hi := (List.getElem?_eq_some_iff.1 ho).1
  have := le_peak cs (k := i) (n := cs.length) (by omega)
  show liveAt cs i < L
  omega
theorem fits_40 (hc : cmdsOk cs = true) : Fits 40 emptyH cs := fun i o ho _ => by
  obtain ⟨h1, h2⟩ := cmdsOk_iff.1 hc
  have hi := (List.getElem?_eq_some_iff.1 ho).1
  have := (liveAt_le h1 i).1
  show liveAt cs i < 40
  omega
theorem fits_not (h : ¬ Fits L emptyH cs) : L ≤ peakTo cs cs.length := by
  rcases Nat.lt_or_ge (peakTo cs cs.length) L with q | q
  · exact absurd (fits_peak q) h
  · exact q
theorem run_ok (hc : cmdsOk cs = true) : heapOk (mRun cs) = true := by
  have e : mRun cs = runTo cs := by unfold mRun; rw [if_pos hc]
  rw [e]
  exact good_iff.2 (runTo_good cs (cmdsOk_iff.1 hc).1)
theorem runSw_view (hc : cmdsOk cs = true) (hL : L ≤ 40) (h : (runSw L emptyH cs).2 = true) : mView (runSw L emptyH cs).1 = mView (mRun cs) := by
  obtain ⟨h1, -, h3, -⟩ := runSw_facts hc hL
  obtain ⟨R, f, s⟩ := h3 h
  exact view_same s.toIso (run_ok hc) (good_iff.2 h1)
theorem runSw_end (hc : cmdsOk cs = true) (hL : L ≤ 40) : (runSw L emptyH cs).2 = true ↔ Fits L emptyH cs := (runSw_facts hc hL).2.2.2
end
end Go.Proofs.Ytdkpfggfkhnjfaa

/- How many cells can be reached: the count of the program's list is the length of the order in which they are met. The first free cell. No program. -/
namespace Go.Proofs.Ytdkpfggfkhnjfaa
open Go.RowKit
theorem live_cnt {h : Hp} (h0 : heapOk h = true) : cntB (mReachable h) = liveN h := by
  rw [mReachable_yes h0]
  obtain ⟨A, hA⟩ : ∃ A : List Int, A = ((List.range h.cells.length).filter (reachB h.cells h.roots)).map (fun n : Nat => (n : Int)) := ⟨_, rfl⟩
  have e : cntB (reachL h.cells h.roots) = A.length := by
    rw [hA]
    unfold cntB reachL
    rw [List.filter_map, List.length_map, List.length_map]
    rfl
  have nd : A.Nodup := by
    rw [hA, List.Nodup, List.pairwise_map]
    exact (List.Pairwise.filter _ List.nodup_range).imp fun hne e => hne (by omega)
  have hm : ∀ x, x ∈ A ↔ RchI h x := fun x => by
    rw [hA]
    simp only [List.mem_map, List.mem_filter, List.mem_range]
    constructor
    · rintro ⟨n, ⟨hn, hr⟩, rfl⟩
      exact ⟨by omega, by rw [Int.toNat_natCast]; exact hr⟩
    · intro hr
      have hl := reach_lt hr
      exact ⟨x.toNat, ⟨by have := hr.1; omega, hr.2⟩, by have := hr.1; omega⟩
  rw [e]
  exact Nat.le_antisymm (sub_len _ _ nd fun x hx => (mem_ordH h0).2 ((hm x).1 hx)) (sub_len _ _ (ordH_nodup h) fun x hx => (hm x).2 ((mem_ordH h0).1 hx))
theorem mFree_at {h : Hp} {k : Nat} (hb : ∀ i, i < k → usedN h.cells i = true) (hu : usedN h.cells k = false) : mFree h = k := by
  rcases Nat.lt_trichotomy (mFree h) k with q | q | q
  · have := mFree_not h; rw [hb _ q] at this; cases this
  · exact q
  · have := mFree_before q; rw [hu] at this; cases this
theorem mFree_end {h : Hp} (hb : ∀ i, i < h.cells.length → usedN h.cells i = true) : mFree h = h.cells.length :=
  mFree_at hb (usedN_end _)
theorem lt_more {p : Nat → Bool} {k : Nat} (hb : ∀ i, i < k → p i = true) (hk : p k = true) : ∀ i, i < k + 1 → p i = true := fun i hi => by
  rcases Nat.lt_or_ge i k with q | q
  · exact hb i q
  · rw [show i = k by omega]; exact hk
end Go.Proofs.Ytdkpfggfkhnjfaa

/- Peaks and least limits in plain words, and the facts that the laws on them say. No program. -/
namespace Go.Proofs.Ytdkpfggfkhnjfaa
open Go.RowKit
noncomputable def mPeak (cs : List Cmd) : Int := if cmdsOk cs then ((peakTo cs cs.length : Nat) : Int) else -1
theorem mPeak_no {cs : List Cmd} (h : cmdsOk cs = false) : mPeak cs = -1 := by simp [mPeak, h]
theorem mPeak_yes {cs : List Cmd} (h : cmdsOk cs = true) : mPeak cs = ((peakTo cs cs.length : Nat) : Int) := by simp [mPeak, h]
theorem cmdsOk_take {cs : List Cmd} (h : cmdsOk cs = true) (k : Nat) : cmdsOk (cs.take k) = true := by
  obtain ⟨h1, h2⟩ := cmdsOk_iff.1 h
  exact cmdsOk_iff.2 ⟨fun o ho => h1 o (List.mem_of_mem_take ho), by simp; omega⟩
theorem mRun_take {cs : List Cmd} (h : cmdsOk cs = true) (k : Nat) : mRun (cs.take k) = runTo (cs.take k) := by
  unfold mRun; rw [if_pos (cmdsOk_take h k)]
theorem mRun_all {cs : List Cmd} (h : cmdsOk cs = true) : mRun cs = runTo cs := by unfold mRun; rw [if_pos h]
theorem live_run {cs : List Cmd} (h : cmdsOk cs = true) : liveN (mRun cs) = liveAt cs cs.length := by
  unfold liveAt; rw [mRun_all h, List.take_length]
theorem peakTo_mono (cs : List Cmd) {a : Nat} : ∀ {b : Nat}, a ≤ b → peakTo cs a ≤ peakTo cs b
  | 0, h => by rw [show a = 0 by omega]; exact Nat.le_refl _
  | b + 1, h => by
    rcases Nat.lt_or_ge b a with q | q
    · rw [show a = b + 1 by omega]; exact Nat.le_refl _
    · exact Nat.le_trans (peakTo_mono cs q) (Nat.le_max_left _ _)
theorem peak_half {cs : List Cmd} (h : cmdsOk cs = true) (m : Nat) (hm : m ≤ cs.length) : mPeak (cs.take m) = ((peakTo cs m : Nat) : Int) ∧ peakTo cs m ≤ peakTo cs cs.length := by
  rw [mPeak_yes (cmdsOk_take h m), List.length_take, Nat.min_eq_left hm, peakTo_take cs m m (Nat.le_refl _)]
  exact ⟨rfl, peakTo_mono cs hm⟩
theorem peak_len {cs : List Cmd} (h : cmdsOk cs = true) : peakTo cs cs.length ≤ cs.length := peak_le cs fun k _ => (liveAt_le (cmdsOk_iff.1 h).1 k).2
theorem peak_live {cs : List Cmd} (h : cmdsOk cs = true) : liveN (mRun cs) ≤ peakTo cs cs.length := by rw [live_run h]; exact le_peak cs (Nat.le_refl _)
/-! ### The runs with a limit -/
theorem inR_L {L : Nat} (h1 : 1 ≤ L) (h2 : L ≤ 40) : inR (L : Int) 1 40 = true := inR_iff.2 ⟨by omega, by omega⟩
theorem swB_no1 {cs : List Cmd} {L : Int} (h : cmdsOk cs = false) : mRunSwB cs L = false := by simp [mRunSwB, h]
theorem swB_no2 {cs : List Cmd} {L : Int} (h : inR L 1 40 = false) : mRunSwB cs L = false := by simp [mRunSwB, h]
theorem swH_no1 {cs : List Cmd} {L : Int} (h : cmdsOk cs = false) : mRunSwH cs L = ⟨[], []⟩ := by simp [mRunSwH, h]
theorem swH_no2 {cs : List Cmd} {L : Int} (h : inR L 1 40 = false) : mRunSwH cs L = ⟨[], []⟩ := by simp [mRunSwH, h]
theorem swB_yes {cs : List Cmd} {L : Nat} (h : cmdsOk cs = true) (h1 : 1 ≤ L) (h2 : L ≤ 40) : mRunSwB cs L = (runSw L emptyH cs).2 := by simp [mRunSwB, h, inR_L h1 h2]
theorem swH_yes {cs : List Cmd} {L : Nat} (h : cmdsOk cs = true) (h1 : 1 ≤ L) (h2 : L ≤ 40) : mRunSwH cs L = (runSw L emptyH cs).1 := by simp [mRunSwH, h, inR_L h1 h2]
theorem swB_fits {cs : List Cmd} {L : Nat} (h : cmdsOk cs = true) (h1 : 1 ≤ L) (h2 : L ≤ 40) : mRunSwB cs L = true ↔ Fits L emptyH cs := by rw [swB_yes h h1 h2]; exact runSw_end h h2
theorem sw_facts {cs : List Cmd} {L : Nat} (h : cmdsOk cs = true) (h1 : 1 ≤ L) (h2 : L ≤ 40) : heapOk (mRunSwH cs L) = true ∧ (mRunSwH cs L).cells.length ≤ L ∧ (mRunSwB cs L = true → mView (mRunSwH cs L) = mView (mRun cs)) ∧ (mRunSwB cs L = true → ∀ L' : Nat, L ≤ L' → L' ≤ 40 → mRunSwB cs L' = true) ∧ (mRunSwB cs L = false → L ≤ peakTo cs cs.length) := by
  obtain ⟨k1, k2, k3, k4⟩ := runSw_facts (L := L) h h2
  rw [swH_yes h h1 h2]
  refine ⟨good_iff.2 k1, k2, fun hb => runSw_view h h2 (by rwa [swB_yes h h1 h2] at hb), fun hb L' ha hz => (swB_fits h (by omega) hz).2 (fits_more ((swB_fits h h1 h2).1 hb) ha), fun hb => fits_not fun hf => ?_⟩
  rw [(swB_fits h h1 h2).2 hf] at hb
  cases hb
/-- A limit of the peak, plus 1. -/
theorem sw_peak {cs : List Cmd} (h : cmdsOk cs = true) {L : Nat} (h2 : L ≤ 40) (h1 : peakTo cs cs.length < L ∨ L = 40) (h0 : 1 ≤ L) : mRunSwB cs L = true := by
  refine (swB_fits h h0 h2).2 ?_
  rcases h1 with q | q
  · exact fits_peak q
  · subst q; exact fits_40 h
/-! ### Least limits -/
noncomputable def mLeast (cs : List Cmd) : Int := match (List.range 40).find? (fun i : Nat => mRunSwB cs ((i : Int) + 1)) with
  | some i => (i : Int) + 1
  | none => -1
theorem least_at {cs : List Cmd} {k : Nat} (hk : k < 40) (hb : ∀ i : Nat, i < k → mRunSwB cs ((i : Int) + 1) = false) (h : mRunSwB cs ((k : Int) + 1) = true) : mLeast cs = (k : Int) + 1 := by
  have e : (List.range 40).find? (fun i : Nat => mRunSwB cs ((i : Int) + 1)) = some k := by
    rw [List.find?_eq_some_iff_getElem]
    refine ⟨h, k, by simpa using hk, by simp, fun j hj => by simp; exact hb j hj⟩
  unfold mLeast
  rw [e]
theorem least_no {cs : List Cmd} (hb : ∀ i : Nat, i < 40 → mRunSwB cs ((i : Int) + 1) = false) : mLeast cs = -1 := by
  have e : (List.range 40).find? (fun i : Nat => mRunSwB cs ((i : Int) + 1)) = none := by
    rw [List.find?_eq_none]
    intro x hx
    rw [hb x (List.mem_range.1 hx)]
    exact Bool.false_ne_true
  unfold mLeast
  rw [e]
theorem least_bad {cs : List Cmd} (h : cmdsOk cs = false) : mLeast cs = -1 := least_no fun _ _ => swB_no1 h
theorem first_of (p : Nat → Bool) : ∀ n : Nat, p n = true → ∃ k, k ≤ n ∧ p k = true ∧ ∀ i, i < k → p i = false
  | 0, h => ⟨0, Nat.le_refl _, h, fun i hi => by omega⟩
  | n + 1, h => by
    by_cases e : ∃ i, i ≤ n ∧ p i = true
    · obtain ⟨i, hi, hp⟩ := e
      by_cases e2 : p n = true
      · obtain ⟨k, a, b, c⟩ := first_of p n e2
        exact ⟨k, by omega, b, c⟩
      · have : ∀ m : Nat, m ≤ n → p m = true → ∃ k, k ≤ m ∧ p k = true ∧ ∀ i, i < k → p i = false := fun m => by
          induction m using Nat.strongRecOn with
          | _ m ih =>
            intro hm hpm
            by_cases e3 : ∃ i, i < m ∧ p i = true
            · obtain ⟨i, hi, hq⟩ := e3
              obtain ⟨k, a, b, c⟩ := ih i hi (by omega) hq
              exact ⟨k, by omega, b, c⟩
            · exact ⟨m, Nat.le_refl _, hpm, fun i hi => by
                cases hq : p i
                · rfl
                · exact absurd ⟨i, hi, hq⟩ e3⟩
        obtain ⟨k, a, b, c⟩ := this i hi hp
        exact ⟨k, by omega, b, c⟩
    · exact ⟨n + 1, Nat.le_refl _, h, fun i hi => by
        cases hq : p i
        · rfl
        · exact absurd ⟨i, by omega, hq⟩ e⟩
theorem least_facts {cs : List Cmd} (h : cmdsOk cs = true) : ∃ n : Nat, 1 ≤ n ∧ n ≤ 40 ∧ mLeast cs = (n : Int) ∧ mRunSwB cs (n : Int) = true ∧ mRunSwB cs ((n : Int) - 1) = false ∧ n ≤ peakTo cs cs.length + 1 := by
  obtain ⟨k, k1, k2, k3⟩ := first_of (fun i : Nat => mRunSwB cs ((i : Int) + 1)) 39 (by
    have := sw_peak h (L := 40) (Nat.le_refl _) (.inr rfl) (by omega)
    exact this)
  refine ⟨k + 1, by omega, by omega, least_at (by omega) k3 k2, k2, ?_, ?_⟩
  · rw [show (((k + 1 : Nat) : Int) - 1) = (k : Int) by omega]
    cases k with
    | zero => exact swB_no2 (by simp [inR])
    | succ k => exact k3 k (by omega)
  · rcases Nat.lt_or_ge (peakTo cs cs.length) k with q | q
    · have := sw_peak h (L := k) (by omega) (.inl q) (by omega)
      have h2 := k3 (k - 1) (by omega)
      simp only [show (((k - 1 : Nat) : Int) + 1) = (k : Int) by omega] at h2
      rw [h2] at this
      cases this
    · omega
end Go.Proofs.Ytdkpfggfkhnjfaa
