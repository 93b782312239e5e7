/- What instructions do to heaps, in plain words; valid heaps stay valid. No program is walked. -/
import Derived.Test.YtjpfgbckmcjjaaaCm
import Derived.Test.YtjpfgbckmcjjaaaZ1
namespace Go.Proofs.Ytjpfgbckmcjjaaa
open Go.RowKit
def newCel (o : Cmd) : Cel := ⟨true, o.c, List.replicate o.b.toNat (-1)⟩
def rootI (h : Hp) (k : Int) : Int := h.roots.getD k.toNat (-1)
def celI (h : Hp) (n : Int) : Cel := h.cells.getD n.toNat noCel
def setRef (c : Cel) (j : Nat) (x : Int) : Cel := ⟨c.used, c.data, c.refs.set j x⟩
def setDat (c : Cel) (x : Int) : Cel := ⟨c.used, x, c.refs⟩
def placeB (h : Hp) (n c : Int) : Bool := decide (0 ≤ n) && decide (c < (celI h n).refs.length)
def possB (h : Hp) (o : Cmd) : Bool := if o.op = 2 then placeB h (rootI h o.b) o.c else if o.op = 3 then placeB h (rootI h o.a) o.c else if o.op = 6 then decide (0 ≤ rootI h o.a) else true
def mPoss (h : Hp) (o : Cmd) : Bool := heapOk h && cmdOk o && possB h o
def putCel (cs : List Cel) (k : Nat) (c : Cel) : List Cel := if k = cs.length then cs ++ [c] else cs.set k c
def mDo (h : Hp) (o : Cmd) (place : Nat) : Hp :=
  if o.op = 1 then ⟨putCel h.cells place (newCel o), h.roots.set o.a.toNat place⟩
  else if o.op = 2 then ⟨h.cells, h.roots.set o.a.toNat ((celI h (rootI h o.b)).refs.getD o.c.toNat (-1))⟩
  else if o.op = 3 then ⟨h.cells.set (rootI h o.a).toNat (setRef (celI h (rootI h o.a)) o.c.toNat (rootI h o.b)), h.roots⟩
  else if o.op = 4 then ⟨h.cells, h.roots.set o.a.toNat (rootI h o.b)⟩
  else if o.op = 5 then ⟨h.cells, h.roots.set o.a.toNat (-1)⟩
  else if o.op = 6 then ⟨h.cells.set (rootI h o.a).toNat (setDat (celI h (rootI h o.a)) o.b), h.roots⟩
  else h
def stepOk (h : Hp) (o : Cmd) : Bool := possB h o && !(decide (o.op = 1) && decide (h.cells.length = 40))
def mStep (h : Hp) (o : Cmd) : Hp := if heapOk h && cmdOk o then (if stepOk h o then mDo h o h.cells.length else h) else ⟨[], []⟩
def mStepB (h : Hp) (o : Cmd) : Bool := heapOk h && cmdOk o && stepOk h o
def cmdsOk (cs : List Cmd) : Bool := cs.all cmdOk && decide (cs.length ≤ 40)
def emptyH : Hp := ⟨[], [-1, -1, -1, -1]⟩
def runTo (cs : List Cmd) : Hp := cs.foldl mStep emptyH
def mRun (cs : List Cmd) : Hp := if cmdsOk cs then runTo cs else ⟨[], []⟩
theorem runTo_snoc (cs : List Cmd) (o : Cmd) : runTo (cs ++ [o]) = mStep (runTo cs) o := by simp [runTo]
/-! ### Valid heaps -/
structure Good (h : Hp) : Prop where
  len : h.cells.length ≤ 40
  roots : h.roots.length = 4
  cell : ∀ c ∈ h.cells, cellOk h.cells c = true
  lead : ∀ r ∈ h.roots, leadsB h.cells r = true
theorem good_iff {h : Hp} : heapOk h = true ↔ Good h := by
  constructor
  · intro h0
    simp only [heapOk, Bool.and_eq_true, decide_eq_true_eq, List.all_eq_true] at h0
    exact ⟨h0.1.1.1, h0.1.1.2, h0.1.2, h0.2⟩
  · intro g
    simp only [heapOk, Bool.and_eq_true, decide_eq_true_eq, List.all_eq_true]
    exact ⟨⟨⟨g.len, g.roots⟩, g.cell⟩, g.lead⟩
theorem leadsB_iff {cs : List Cel} {r : Int} : leadsB cs r = true ↔ r = -1 ∨ (0 ≤ r ∧ usedN cs r.toNat = true) := by
  constructor
  · intro h
    by_cases h0 : 0 ≤ r
    · exact .inr ⟨h0, leadsB_used h h0⟩
    · by_cases h1 : r = -1
      · exact .inl h1
      · rw [leadsB_out h1 (.inl (by omega))] at h; cases h
  · rintro (rfl | ⟨h0, h1⟩)
    · exact leadsB_nil cs
    · have hl := usedN_lt h1
      have := leadsB_in (cs := cs) (q := r.toNat) (Go.Lib.hid (List.getElem?_eq_getElem hl))
      rw [show ((r.toNat : Nat) : Int) = r by omega] at this
      rw [this]
      rw [usedN_at (Go.Lib.hid (List.getElem?_eq_getElem hl))] at h1
      exact h1
theorem leadsB_mono {cs cs' : List Cel} (h : ∀ n, usedN cs n = true → usedN cs' n = true) {r : Int} (hr : leadsB cs r = true) : leadsB cs' r = true := by
  rw [leadsB_iff] at hr ⊢
  exact hr.imp id fun ⟨h0, h1⟩ => ⟨h0, h _ h1⟩
theorem cellOk_iff {cs : List Cel} {c : Cel} : cellOk cs c = true ↔ (c.used = true ∧ (∀ r ∈ c.refs, leadsB cs r = true) ∧ 0 ≤ c.data ∧ c.data ≤ 99 ∧ c.refs.length ≤ 3) ∨ (c.used = false ∧ c.data = 0 ∧ c.refs = []) := by
  unfold cellOk
  cases hu : c.used
  · simp
  · simp only [if_true, Bool.and_eq_true, List.all_eq_true, decide_eq_true_eq]
    constructor
    · rintro ⟨h1, ⟨h2, h3⟩, h4⟩; exact .inl ⟨trivial, h1, h2, h3, h4⟩
    · rintro (⟨-, h1, h2, h3, h4⟩ | ⟨h, -⟩)
      · exact ⟨h1, ⟨h2, h3⟩, h4⟩
      · cases h
theorem cellOk_mono {cs cs' : List Cel} (h : ∀ n, usedN cs n = true → usedN cs' n = true) {c : Cel} (hc : cellOk cs c = true) : cellOk cs' c = true := by
  rw [cellOk_iff] at hc ⊢
  exact hc.imp (fun ⟨a, b, r⟩ => ⟨a, fun x hx => leadsB_mono h (b x hx), r⟩) id
theorem usedN_def (cs : List Cel) (n : Nat) : usedN cs n = (cs.getD n noCel).used := rfl
theorem usedN_set {cs : List Cel} {k : Nat} {c : Cel} (hc : usedN cs k = true → c.used = true) (n : Nat) (h : usedN cs n = true) : usedN (cs.set k c) n = true := by
  have hl := usedN_lt h
  rw [usedN_def, List.getD_eq_getElem?_getD, List.getElem?_set]
  split
  · rename_i e; subst e
    rw [if_pos hl]; exact hc h
  · rw [usedN_def, List.getD_eq_getElem?_getD] at h; exact h
theorem usedN_snoc {cs : List Cel} (c : Cel) (n : Nat) (h : usedN cs n = true) : usedN (cs ++ [c]) n = true := by
  have hl := usedN_lt h
  rw [usedN_def, List.getD_eq_getElem?_getD, List.getElem?_append_left hl]
  rw [usedN_def, List.getD_eq_getElem?_getD] at h; exact h
theorem usedN_new (cs : List Cel) (c : Cel) (hc : c.used = true) : usedN (cs ++ [c]) cs.length = true := by
  rw [usedN_def, List.getD_eq_getElem?_getD]; simp [hc]
theorem mem_set' {α : Type} {l : List α} {k : Nat} {x y : α} (h : y ∈ l.set k x) : y = x ∨ y ∈ l := by
  rcases List.mem_or_eq_of_mem_set h with h | h
  · exact .inr h
  · exact .inl h
/-- The roots turn. -/
theorem Good.root {h : Hp} (g : Good h) (k : Nat) {x : Int} (hx : leadsB h.cells x = true) : Good ⟨h.cells, h.roots.set k x⟩ :=
  ⟨g.len, by simp [g.roots], g.cell, fun r hr => (mem_set' hr).elim (fun e => by rw [e]; exact hx) (g.lead r)⟩
theorem Good.cells {h : Hp} (g : Good h) (k : Nat) {c : Cel} (hc : usedN h.cells k = true → c.used = true) (hok : cellOk (h.cells.set k c) c = true) : Good ⟨h.cells.set k c, h.roots⟩ :=
  ⟨by simpa using g.len, g.roots, fun d hd => (mem_set' hd).elim (fun e => by rw [e]; exact hok) (fun hm => cellOk_mono (usedN_set hc) (g.cell d hm)), fun r hr => leadsB_mono (usedN_set hc) (g.lead r hr)⟩
theorem Good.push {h : Hp} (g : Good h) (hl : h.cells.length < 40) {c : Cel} (hok : cellOk (h.cells ++ [c]) c = true) : Good ⟨h.cells ++ [c], h.roots⟩ :=
  ⟨by simp; omega, g.roots, fun d hd => (List.mem_append.1 hd).elim (fun hm => cellOk_mono (usedN_snoc c) (g.cell d hm)) (fun hm => by rw [List.mem_singleton.1 hm]; exact hok), fun r hr => leadsB_mono (usedN_snoc c) (g.lead r hr)⟩
theorem Good.rootI {h : Hp} (g : Good h) (k : Int) : leadsB h.cells (rootI h k) = true := by
  unfold Go.Proofs.Ytjpfgbckmcjjaaa.rootI
  rw [List.getD_eq_getElem?_getD]
  cases hk : h.roots[k.toNat]? with
  | none => exact leadsB_nil _
  | some r => exact g.lead r (List.mem_of_getElem? hk)
theorem Good.cell_of {h : Hp} (g : Good h) {n : Int} (hn : leadsB h.cells n = true) (h0 : 0 ≤ n) : (celI h n).used = true ∧ cellOk h.cells (celI h n) = true ∧ h.cells[n.toNat]? = some (celI h n) := by
  have hu := leadsB_used hn h0
  have hl := usedN_lt hu
  have e : h.cells[n.toNat]? = some (celI h n) := by
    unfold celI
    rw [List.getD_eq_getElem?_getD, List.getElem?_eq_getElem hl]; rfl
  exact ⟨hu, g.cell _ (List.mem_of_getElem? e), e⟩
theorem inR_iff {x lo hi : Int} : inR x lo hi = true ↔ lo ≤ x ∧ x ≤ hi := by simp [inR]
theorem cellOk_new {cs : List Cel} {o : Cmd} (h1 : inR o.b 0 3 = true) (h2 : inR o.c 0 99 = true) : cellOk cs (newCel o) = true := by
  rw [inR_iff] at h1 h2
  rw [cellOk_iff]
  refine .inl ⟨rfl, fun r hr => ?_, h2.1, h2.2, ?_⟩
  · have := (List.mem_replicate.1 hr).2; rw [this]; exact leadsB_nil _
  · simp [newCel]; omega
theorem mDo_good {h : Hp} {o : Cmd} {place : Nat} (g : Good h) (hc : cmdOk o = true) (hp : possB h o = true) (hl : place ≤ h.cells.length) (h40 : o.op = 1 → place < 40) : Good (mDo h o place) := by
  unfold mDo
  by_cases h1 : o.op = 1
  · rw [if_pos h1]
    have h1' := h1
    unfold cmdOk at hc
    rw [if_pos h1] at hc
    simp only [Bool.and_eq_true] at hc
    obtain ⟨⟨ha, hb⟩, hd⟩ := hc
    unfold putCel
    by_cases e : place = h.cells.length
    · rw [if_pos e]
      have g2 := g.push (by have := h40 h1; omega) (cellOk_new (cs := h.cells ++ [newCel o]) hb hd)
      refine g2.root o.a.toNat ?_
      rw [leadsB_iff]
      refine .inr ⟨by omega, ?_⟩
      rw [e, Int.toNat_natCast]
      exact usedN_new _ _ rfl
    · rw [if_neg e]
      have g2 := g.cells place (c := newCel o) (fun _ => rfl) (cellOk_new hb hd)
      refine g2.root o.a.toNat ?_
      rw [leadsB_iff]
      refine .inr ⟨by omega, ?_⟩
      rw [Int.toNat_natCast, usedN_def, List.getD_eq_getElem?_getD, List.getElem?_set_self (by omega)]; rfl
  rw [if_neg h1]
  by_cases h2 : o.op = 2
  · rw [if_pos h2]
    unfold possB at hp
    rw [if_pos h2] at hp
    simp only [placeB, Bool.and_eq_true, decide_eq_true_eq] at hp
    obtain ⟨-, hok, -⟩ := g.cell_of (g.rootI o.b) hp.1
    refine g.root _ ?_
    rw [List.getD_eq_getElem?_getD]
    cases hk : (celI h (Go.Proofs.Ytjpfgbckmcjjaaa.rootI h o.b)).refs[o.c.toNat]? with
    | none => exact leadsB_nil _
    | some r =>
      rw [cellOk_iff] at hok
      rcases hok with hok | hok
      · exact hok.2.1 r (List.mem_of_getElem? hk)
      · rw [hok.2.2] at hk; simp at hk
  rw [if_neg h2]
  by_cases h3 : o.op = 3
  · rw [if_pos h3]
    unfold possB at hp
    rw [if_neg h2, if_pos h3] at hp
    simp only [placeB, Bool.and_eq_true, decide_eq_true_eq] at hp
    obtain ⟨hu, hok, he⟩ := g.cell_of (g.rootI o.a) hp.1
    have hus : ∀ n, usedN h.cells n = true → usedN (h.cells.set (Go.Proofs.Ytjpfgbckmcjjaaa.rootI h o.a).toNat (setRef (celI h (Go.Proofs.Ytjpfgbckmcjjaaa.rootI h o.a)) o.c.toNat (Go.Proofs.Ytjpfgbckmcjjaaa.rootI h o.b))) n = true := usedN_set fun _ => hu
    refine g.cells _ (fun _ => hu) ?_
    rw [cellOk_iff] at hok ⊢
    rcases hok with ⟨k1, k2, k3, k4, k5⟩ | hok
    · refine .inl ⟨k1, fun r hr => leadsB_mono hus ?_, k3, k4, by simpa [setRef] using k5⟩
      rcases mem_set' hr with e | hr
      · rw [e]; exact g.rootI o.b
      · exact k2 r hr
    · rw [hu] at hok; cases hok.1
  rw [if_neg h3]
  by_cases h4 : o.op = 4
  · rw [if_pos h4]; exact g.root _ (g.rootI o.b)
  rw [if_neg h4]
  by_cases h5 : o.op = 5
  · rw [if_pos h5]; exact g.root _ (leadsB_nil _)
  rw [if_neg h5]
  by_cases h6 : o.op = 6
  · rw [if_pos h6]
    unfold possB at hp
    rw [if_neg h2, if_neg h3, if_pos h6] at hp
    simp only [decide_eq_true_eq] at hp
    have hb : 0 ≤ o.b ∧ o.b ≤ 99 := by
      unfold cmdOk at hc
      simp only [if_neg h1, if_neg h2, if_neg h3, if_neg h4, if_neg h5, if_pos h6, Bool.and_eq_true] at hc
      exact inR_iff.1 hc.1.2
    obtain ⟨hu, hok, he⟩ := g.cell_of (g.rootI o.a) hp
    have hus : ∀ n, usedN h.cells n = true → usedN (h.cells.set (Go.Proofs.Ytjpfgbckmcjjaaa.rootI h o.a).toNat (setDat (celI h (Go.Proofs.Ytjpfgbckmcjjaaa.rootI h o.a)) o.b)) n = true := usedN_set fun _ => hu
    refine g.cells _ (fun _ => hu) ?_
    rw [cellOk_iff] at hok ⊢
    rcases hok with ⟨k1, k2, k3, k4, k5⟩ | hok
    · exact .inl ⟨k1, fun r hr => leadsB_mono hus (k2 r hr), hb.1, hb.2, k5⟩
    · rw [hu] at hok; cases hok.1
  · rw [if_neg h6]; exact g
theorem emptyH_good : Good emptyH := ⟨by simp [emptyH], rfl, by simp [emptyH], by simp [emptyH, leadsB]⟩
theorem mStep_good {h : Hp} {o : Cmd} (g : Good h) (hc : cmdOk o = true) : Good (mStep h o) := by
  unfold mStep
  rw [good_iff.2 g, hc]
  simp only [Bool.and_self, if_true]
  by_cases hs : stepOk h o = true
  · rw [if_pos hs]
    simp only [stepOk, Bool.and_eq_true, Bool.not_eq_true', Bool.and_eq_false_iff, decide_eq_false_iff_not] at hs
    refine mDo_good g hc hs.1 (Nat.le_refl _) fun h1 => ?_
    have := g.len
    rcases hs.2 with h | h
    · exact absurd h1 h
    · omega
  · rw [if_neg hs]; exact g
theorem foldStep_good : ∀ (cs : List Cmd) (h : Hp), Good h → (∀ o ∈ cs, cmdOk o = true) → Good (cs.foldl mStep h)
  | [], _, g, _ => g
  | o :: cs, h, g, hc => foldStep_good cs (mStep h o) (mStep_good g (hc o (List.mem_cons_self ..))) fun x hx => hc x (List.mem_cons_of_mem _ hx)
theorem runTo_good (cs : List Cmd) (hc : ∀ o ∈ cs, cmdOk o = true) : Good (runTo cs) := foldStep_good cs emptyH emptyH_good hc
end Go.Proofs.Ytjpfgbckmcjjaaa
