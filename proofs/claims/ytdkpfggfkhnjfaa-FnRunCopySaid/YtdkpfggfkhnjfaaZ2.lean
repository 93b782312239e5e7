/- Several texts in one: Cm, Md, Ce, Po. Each says ahead of its part what it proves. No condition but those. -/
import Derived.Test.YtdkpfggfkhnjfaaQ
import Derived.Test.YtdkpfggfkhnjfaaZ1
/- Valid instructions and programs, the reference's tests; what an instruction does to a heap, in plain words. -/
namespace Go.Proofs.Ytdkpfggfkhnjfaa
open Go.RowKit
theorem l1In_b (n lo hi : Int) (w : World) : Calls Try.prog 17 #[.int .i64 n, .int .i64 lo, .int .i64 hi] w fun e w' => e = .returned (.bool (inR n lo hi)) ∧ w = w' := by
  by_cases h1 : lo ≤ n
  · by_cases h2 : n ≤ hi
    · refine (l1In_yes n lo hi w h1 h2).mono ?_
      rintro e w' ⟨rfl, hw⟩
      exact ⟨by simp [inR, h1, h2], hw.symm⟩
    · refine (l1In_no n lo hi w (by omega)).mono ?_
      rintro e w' ⟨rfl, hw⟩
      exact ⟨by simp [inR, h2], hw.symm⟩
  · refine (l1In_no n lo hi w (by omega)).mono ?_
    rintro e w' ⟨rfl, hw⟩
    exact ⟨by simp [inR, h1], hw.symm⟩
theorem cmdOk1 (a b c : Int) : cmdOk ⟨1, a, b, c⟩ = (inR a 0 3 && inR b 0 3 && inR c 0 99) := by simp [cmdOk]
theorem cmdOk2 (a b c : Int) : cmdOk ⟨2, a, b, c⟩ = (inR a 0 3 && inR b 0 3 && inR c 0 2) := by simp [cmdOk]
theorem cmdOk3 (a b c : Int) : cmdOk ⟨3, a, b, c⟩ = (inR a 0 3 && inR b 0 3 && inR c 0 2) := by simp [cmdOk]
theorem cmdOk4 (a b c : Int) : cmdOk ⟨4, a, b, c⟩ = (inR a 0 3 && inR b 0 3 && c == 0) := by simp [cmdOk]
theorem cmdOk5 (a b c : Int) : cmdOk ⟨5, a, b, c⟩ = (inR a 0 3 && b == 0 && c == 0) := by simp [cmdOk]
theorem cmdOk6 (a b c : Int) : cmdOk ⟨6, a, b, c⟩ = (inR a 0 3 && inR b 0 99 && c == 0) := by simp [cmdOk]
theorem cmdOk0 {op : Int} (a b c : Int) (h : op ≠ 1 ∧ op ≠ 2 ∧ op ≠ 3 ∧ op ≠ 4 ∧ op ≠ 5 ∧ op ≠ 6) : cmdOk ⟨op, a, b, c⟩ = false := by simp [cmdOk, h]
set_option maxHeartbeats 3200000 in
theorem specCommandValid_any (o : Cmd) (w : World) : Calls Try.prog 22 #[cmdV o] w fun e w' => e = .returned (.bool (cmdOk o)) ∧ Below w.heap.size w w' := by
  obtain ⟨op, a, b, c⟩ := o
  have H := (Owns.nil w).box [.int .i64 op, .int .i64 a, .int .i64 b, .int .i64 c] 46
  have HB := H.below
  obtain ⟨b0, b1, b2, b3, -, -, -, -⟩ := box4 H 0 rfl
  clear H
  by_cases h1 : op = 1
  · subst h1
    cases ha : inR a 0 3 <;> cases hb : inR b 0 3 <;> cases hc : inR c 0 99
    all_goals
      have e := cmdOk1 a b c
      simp only [ha, hb, hc, Bool.and_true, Bool.and_false] at e
      have HV := Go.Lib.hid e
      clear e
      go_enter Try.func22, Try.ntmps22
      go_wp2_with (((with_reducible refine (l1In_b _ _ _ _).mono ?_); rintro e w' ⟨rfl, hw⟩; obtain rfl := hw))
      go_ret
      exact ⟨ret_b HV.out.symm, HB⟩
  by_cases h2 : op = 2
  · subst h2
    cases ha : inR a 0 3 <;> cases hb : inR b 0 3 <;> cases hc : inR c 0 2
    all_goals
      have e := cmdOk2 a b c
      simp only [ha, hb, hc, Bool.and_true, Bool.and_false] at e
      have HV := Go.Lib.hid e
      clear e
      go_enter Try.func22, Try.ntmps22
      go_wp2_with (((with_reducible refine (l1In_b _ _ _ _).mono ?_); rintro e w' ⟨rfl, hw⟩; obtain rfl := hw))
      go_ret
      exact ⟨ret_b HV.out.symm, HB⟩
  by_cases h3 : op = 3
  · subst h3
    cases ha : inR a 0 3 <;> cases hb : inR b 0 3 <;> cases hc : inR c 0 2
    all_goals
      have e := cmdOk3 a b c
      simp only [ha, hb, hc, Bool.and_true, Bool.and_false] at e
      have HV := Go.Lib.hid e
      clear e
      go_enter Try.func22, Try.ntmps22
      go_wp2_with (((with_reducible refine (l1In_b _ _ _ _).mono ?_); rintro e w' ⟨rfl, hw⟩; obtain rfl := hw))
      go_ret
      exact ⟨ret_b HV.out.symm, HB⟩
  by_cases h4 : op = 4
  · subst h4
    cases ha : inR a 0 3 <;> cases hb : inR b 0 3 <;> cases hc : (c == 0)
    all_goals
      have e := cmdOk4 a b c
      simp only [ha, hb, hc, Bool.and_true, Bool.and_false] at e
      have HV := Go.Lib.hid e
      clear e
      go_enter Try.func22, Try.ntmps22
      go_wp2_with (((with_reducible refine (l1In_b _ _ _ _).mono ?_); rintro e w' ⟨rfl, hw⟩; obtain rfl := hw))
      go_ret
      exact ⟨ret_b HV.out.symm, HB⟩
  by_cases h5 : op = 5
  · subst h5
    cases ha : inR a 0 3 <;> cases hb : (b == 0) <;> cases hc : (c == 0)
    all_goals
      have e := cmdOk5 a b c
      simp only [ha, hb, hc, Bool.and_true, Bool.and_false] at e
      have HV := Go.Lib.hid e
      clear e
      go_enter Try.func22, Try.ntmps22
      go_wp2_with (((with_reducible refine (l1In_b _ _ _ _).mono ?_); rintro e w' ⟨rfl, hw⟩; obtain rfl := hw))
      go_ret
      exact ⟨ret_b HV.out.symm, HB⟩
  by_cases h6 : op = 6
  · subst h6
    cases ha : inR a 0 3 <;> cases hb : inR b 0 99 <;> cases hc : (c == 0)
    all_goals
      have e := cmdOk6 a b c
      simp only [ha, hb, hc, Bool.and_true, Bool.and_false] at e
      have HV := Go.Lib.hid e
      clear e
      go_enter Try.func22, Try.ntmps22
      go_wp2_with (((with_reducible refine (l1In_b _ _ _ _).mono ?_); rintro e w' ⟨rfl, hw⟩; obtain rfl := hw))
      go_ret
      exact ⟨ret_b HV.out.symm, HB⟩
  have HV := Go.Lib.hid (cmdOk0 a b c ⟨h1, h2, h3, h4, h5, h6⟩)
  go_enter Try.func22, Try.ntmps22
  go_wp2_with (((with_reducible refine (l1In_b _ _ _ _).mono ?_); rintro e w' ⟨rfl, hw⟩; obtain rfl := hw))
  go_ret
  exact ⟨ret_b HV.out.symm, HB⟩
end Go.Proofs.Ytdkpfggfkhnjfaa

/- What instructions do to heaps, in plain words; valid heaps stay valid. No program is walked. -/
namespace Go.Proofs.Ytdkpfggfkhnjfaa
open Go.RowKit
def newCel (o : Cmd) : Cel := ⟨true, o.c, List.replicate o.b.toNat (-1)⟩
def rootI (h : Hp) (k : Int) : Int := h.roots.getD k.toNat (-1)
def celI (h : Hp) (n : Int) : Cel := h.cells.getD n.toNat noCel
def setRef (c : Cel) (j : Nat) (x : Int) : Cel := ⟨c.used, c.data, c.refs.set j x⟩
def setDat (c : Cel) (x : Int) : Cel := ⟨c.used, x, c.refs⟩
def placeB (h : Hp) (n c : Int) : Bool := decide (0 ≤ n) && decide (c < (celI h n).refs.length)
def possB (h : Hp) (o : Cmd) : Bool := if o.op = 2 then placeB h (rootI h o.b) o.c else if o.op = 3 then placeB h (rootI h o.a) o.c else if o.op = 6 then decide (0 ≤ rootI h o.a) else true
def mPoss (h : Hp) (o : Cmd) : Bool := heapOk h && cmdOk o && possB h o
def putCel (cs : List Cel) (k : Nat) (c : Cel) : List Cel := if k = cs.length then cs ++ [c] else cs.set k c
def mDo (h : Hp) (o : Cmd) (place : Nat) : Hp :=
  if o.op = 1 then ⟨putCel h.cells place (newCel o), h.roots.set o.a.toNat place⟩
  else if o.op = 2 then ⟨h.cells, h.roots.set o.a.toNat ((celI h (rootI h o.b)).refs.getD o.c.toNat (-1))⟩
  else if o.op = 3 then ⟨h.cells.set (rootI h o.a).toNat (setRef (celI h (rootI h o.a)) o.c.toNat (rootI h o.b)), h.roots⟩
  else if o.op = 4 then ⟨h.cells, h.roots.set o.a.toNat (rootI h o.b)⟩
  else if o.op = 5 then ⟨h.cells, h.roots.set o.a.toNat (-1)⟩
  else if o.op = 6 then ⟨h.cells.set (rootI h o.a).toNat (setDat (celI h (rootI h o.a)) o.b), h.roots⟩
  else h
def stepOk (h : Hp) (o : Cmd) : Bool := possB h o && !(decide (o.op = 1) && decide (h.cells.length = 40))
def mStep (h : Hp) (o : Cmd) : Hp := if heapOk h && cmdOk o then (if stepOk h o then mDo h o h.cells.length else h) else ⟨[], []⟩
def mStepB (h : Hp) (o : Cmd) : Bool := heapOk h && cmdOk o && stepOk h o
def cmdsOk (cs : List Cmd) : Bool := cs.all cmdOk && decide (cs.length ≤ 40)
def emptyH : Hp := ⟨[], [-1, -1, -1, -1]⟩
def runTo (cs : List Cmd) : Hp := cs.foldl mStep emptyH
def mRun (cs : List Cmd) : Hp := if cmdsOk cs then runTo cs else ⟨[], []⟩
theorem runTo_snoc (cs : List Cmd) (o : Cmd) : runTo (cs ++ [o]) = mStep (runTo cs) o := by simp [runTo]
/-! ### Valid heaps -/
structure Good (h : Hp) : Prop where
  len : h.cells.length ≤ 40
  roots : h.roots.length = 4
  cell : ∀ c ∈ h.cells, cellOk h.cells c = true
  lead : ∀ r ∈ h.roots, leadsB h.cells r = true
theorem good_iff {h : Hp} : heapOk h = true ↔ Good h := by
  constructor
  · intro h0
    simp only [heapOk, Bool.and_eq_true, decide_eq_true_eq, List.all_eq_true] at h0
    exact ⟨h0.1.1.1, h0.1.1.2, h0.1.2, h0.2⟩
  · intro g
    simp only [heapOk, Bool.and_eq_true, decide_eq_true_eq, List.all_eq_true]
    exact ⟨⟨⟨g.len, g.roots⟩, g.cell⟩, g.lead⟩
theorem leadsB_iff {cs : List Cel} {r : Int} : leadsB cs r = true ↔ r = -1 ∨ (0 ≤ r ∧ usedN cs r.toNat = true) := by
  constructor
  · intro h
    by_cases h0 : 0 ≤ r
    · exact .inr ⟨h0, leadsB_used h h0⟩
    · by_cases h1 : r = -1
      · exact .inl h1
      · rw [leadsB_out h1 (.inl (by omega))] at h; cases h
  · rintro (rfl | ⟨h0, h1⟩)
    · exact leadsB_nil cs
    · have hl := usedN_lt h1
      have := leadsB_in (cs := cs) (q := r.toNat) (Go.Lib.hid (List.getElem?_eq_getElem hl))
      rw [show ((r.toNat : Nat) : Int) = r by omega] at this
      rw [this]
      rw [usedN_at (Go.Lib.hid (List.getElem?_eq_getElem hl))] at h1
      exact h1
theorem leadsB_mono {cs cs' : List Cel} (h : ∀ n, usedN cs n = true → usedN cs' n = true) {r : Int} (hr : leadsB cs r = true) : leadsB cs' r = true := by
  rw [leadsB_iff] at hr ⊢
  exact hr.imp id fun ⟨h0, h1⟩ => ⟨h0, h _ h1⟩
theorem cellOk_iff {cs : List Cel} {c : Cel} : cellOk cs c = true ↔ (c.used = true ∧ (∀ r ∈ c.refs, leadsB cs r = true) ∧ 0 ≤ c.data ∧ c.data ≤ 99 ∧ c.refs.length ≤ 3) ∨ (c.used = false ∧ c.data = 0 ∧ c.refs = []) := by
  unfold cellOk
  cases hu : c.used
  · simp
  · simp only [if_true, Bool.and_eq_true, List.all_eq_true, decide_eq_true_eq]
    constructor
    · rintro ⟨h1, ⟨h2, h3⟩, h4⟩; exact .inl ⟨trivial, h1, h2, h3, h4⟩
    · rintro (⟨-, h1, h2, h3, h4⟩ | ⟨h, -⟩)
      · exact ⟨h1, ⟨h2, h3⟩, h4⟩
      · cases h
theorem cellOk_mono {cs cs' : List Cel} (h : ∀ n, usedN cs n = true → usedN cs' n = true) {c : Cel} (hc : cellOk cs c = true) : cellOk cs' c = true := by
  rw [cellOk_iff] at hc ⊢
  exact hc.imp (fun ⟨a, b, r⟩ => ⟨a, fun x hx => leadsB_mono h (b x hx), r⟩) id
theorem usedN_def (cs : List Cel) (n : Nat) : usedN cs n = (cs.getD n noCel).used := rfl
theorem usedN_set {cs : List Cel} {k : Nat} {c : Cel} (hc : usedN cs k = true → c.used = true) (n : Nat) (h : usedN cs n = true) : usedN (cs.set k c) n = true := by
  have hl := usedN_lt h
  rw [usedN_def, List.getD_eq_getElem?_getD, List.getElem?_set]
  split
  · rename_i e; subst e
    rw [if_pos hl]; exact hc h
  · rw [usedN_def, List.getD_eq_getElem?_getD] at h; exact h
theorem usedN_snoc {cs : List Cel} (c : Cel) (n : Nat) (h : usedN cs n = true) : usedN (cs ++ [c]) n = true := by
  have hl := usedN_lt h
  rw [usedN_def, List.getD_eq_getElem?_getD, List.getElem?_append_left hl]
  rw [usedN_def, List.getD_eq_getElem?_getD] at h; exact h
theorem usedN_new (cs : List Cel) (c : Cel) (hc : c.used = true) : usedN (cs ++ [c]) cs.length = true := by
  rw [usedN_def, List.getD_eq_getElem?_getD]; simp [hc]
theorem mem_set' {α : Type} {l : List α} {k : Nat} {x y : α} (h : y ∈ l.set k x) : y = x ∨ y ∈ l := by
  rcases List.mem_or_eq_of_mem_set h with h | h
  · exact .inr h
  · exact .inl h
/-- The roots turn. -/
theorem Good.root {h : Hp} (g : Good h) (k : Nat) {x : Int} (hx : leadsB h.cells x = true) : Good ⟨h.cells, h.roots.set k x⟩ :=
  ⟨g.len, by simp [g.roots], g.cell, fun r hr => (mem_set' hr).elim (fun e => by rw [e]; exact hx) (g.lead r)⟩
theorem Good.cells {h : Hp} (g : Good h) (k : Nat) {c : Cel} (hc : usedN h.cells k = true → c.used = true) (hok : cellOk (h.cells.set k c) c = true) : Good ⟨h.cells.set k c, h.roots⟩ :=
  ⟨by simpa using g.len, g.roots, fun d hd => (mem_set' hd).elim (fun e => by rw [e]; exact hok) (fun hm => cellOk_mono (usedN_set hc) (g.cell d hm)), fun r hr => leadsB_mono (usedN_set hc) (g.lead r hr)⟩
theorem Good.push {h : Hp} (g : Good h) (hl : h.cells.length < 40) {c : Cel} (hok : cellOk (h.cells ++ [c]) c = true) : Good ⟨h.cells ++ [c], h.roots⟩ :=
  ⟨by simp; omega, g.roots, fun d hd => (List.mem_append.1 hd).elim (fun hm => cellOk_mono (usedN_snoc c) (g.cell d hm)) (fun hm => by rw [List.mem_singleton.1 hm]; exact hok), fun r hr => leadsB_mono (usedN_snoc c) (g.lead r hr)⟩
theorem Good.rootI {h : Hp} (g : Good h) (k : Int) : leadsB h.cells (rootI h k) = true := by
  unfold Go.Proofs.Ytdkpfggfkhnjfaa.rootI
  rw [List.getD_eq_getElem?_getD]
  cases hk : h.roots[k.toNat]? with
  | none => exact leadsB_nil _
  | some r => exact g.lead r (List.mem_of_getElem? hk)
theorem Good.cell_of {h : Hp} (g : Good h) {n : Int} (hn : leadsB h.cells n = true) (h0 : 0 ≤ n) : (celI h n).used = true ∧ cellOk h.cells (celI h n) = true ∧ h.cells[n.toNat]? = some (celI h n) := by
  have hu := leadsB_used hn h0
  have hl := usedN_lt hu
  have e : h.cells[n.toNat]? = some (celI h n) := by
    unfold celI
    rw [List.getD_eq_getElem?_getD, List.getElem?_eq_getElem hl]; rfl
  exact ⟨hu, g.cell _ (List.mem_of_getElem? e), e⟩
theorem inR_iff {x lo hi : Int} : inR x lo hi = true ↔ lo ≤ x ∧ x ≤ hi := by simp [inR]
theorem cellOk_new {cs : List Cel} {o : Cmd} (h1 : inR o.b 0 3 = true) (h2 : inR o.c 0 99 = true) : cellOk cs (newCel o) = true := by
  rw [inR_iff] at h1 h2
  rw [cellOk_iff]
  refine .inl ⟨rfl, fun r hr => ?_, h2.1, h2.2, ?_⟩
  · have := (List.mem_replicate.1 hr).2; rw [this]; exact leadsB_nil _
  · simp [newCel]; omega
theorem mDo_good {h : Hp} {o : Cmd} {place : Nat} (g : Good h) (hc : cmdOk o = true) (hp : possB h o = true) (hl : place ≤ h.cells.length) (h40 : o.op = 1 → place < 40) : Good (mDo h o place) := by
  unfold mDo
  by_cases h1 : o.op = 1
  · rw [if_pos h1]
    have h1' := h1
    unfold cmdOk at hc
    rw [if_pos h1] at hc
    simp only [Bool.and_eq_true] at hc
    obtain ⟨⟨ha, hb⟩, hd⟩ := hc
    unfold putCel
    by_cases e : place = h.cells.length
    · rw [if_pos e]
      have g2 := g.push (by have := h40 h1; omega) (cellOk_new (cs := h.cells ++ [newCel o]) hb hd)
      refine g2.root o.a.toNat ?_
      rw [leadsB_iff]
      refine .inr ⟨by omega, ?_⟩
      rw [e, Int.toNat_natCast]
      exact usedN_new _ _ rfl
    · rw [if_neg e]
      have g2 := g.cells place (c := newCel o) (fun _ => rfl) (cellOk_new hb hd)
      refine g2.root o.a.toNat ?_
      rw [leadsB_iff]
      refine .inr ⟨by omega, ?_⟩
      rw [Int.toNat_natCast, usedN_def, List.getD_eq_getElem?_getD, List.getElem?_set_self (by omega)]; rfl
  rw [if_neg h1]
  by_cases h2 : o.op = 2
  · rw [if_pos h2]
    unfold possB at hp
    rw [if_pos h2] at hp
    simp only [placeB, Bool.and_eq_true, decide_eq_true_eq] at hp
    obtain ⟨-, hok, -⟩ := g.cell_of (g.rootI o.b) hp.1
    refine g.root _ ?_
    rw [List.getD_eq_getElem?_getD]
    cases hk : (celI h (Go.Proofs.Ytdkpfggfkhnjfaa.rootI h o.b)).refs[o.c.toNat]? with
    | none => exact leadsB_nil _
    | some r =>
      rw [cellOk_iff] at hok
      rcases hok with hok | hok
      · exact hok.2.1 r (List.mem_of_getElem? hk)
      · rw [hok.2.2] at hk; simp at hk
  rw [if_neg h2]
  by_cases h3 : o.op = 3
  · rw [if_pos h3]
    unfold possB at hp
    rw [if_neg h2, if_pos h3] at hp
    simp only [placeB, Bool.and_eq_true, decide_eq_true_eq] at hp
    obtain ⟨hu, hok, he⟩ := g.cell_of (g.rootI o.a) hp.1
    have hus : ∀ n, usedN h.cells n = true → usedN (h.cells.set (Go.Proofs.Ytdkpfggfkhnjfaa.rootI h o.a).toNat (setRef (celI h (Go.Proofs.Ytdkpfggfkhnjfaa.rootI h o.a)) o.c.toNat (Go.Proofs.Ytdkpfggfkhnjfaa.rootI h o.b))) n = true := usedN_set fun _ => hu
    refine g.cells _ (fun _ => hu) ?_
    rw [cellOk_iff] at hok ⊢
    rcases hok with ⟨k1, k2, k3, k4, k5⟩ | hok
    · refine .inl ⟨k1, fun r hr => leadsB_mono hus ?_, k3, k4, by simpa [setRef] using k5⟩
      rcases mem_set' hr with e | hr
      · rw [e]; exact g.rootI o.b
      · exact k2 r hr
    · rw [hu] at hok; cases hok.1
  rw [if_neg h3]
  by_cases h4 : o.op = 4
  · rw [if_pos h4]; exact g.root _ (g.rootI o.b)
  rw [if_neg h4]
  by_cases h5 : o.op = 5
  · rw [if_pos h5]; exact g.root _ (leadsB_nil _)
  rw [if_neg h5]
  by_cases h6 : o.op = 6
  · rw [if_pos h6]
    unfold possB at hp
    rw [if_neg h2, if_neg h3, if_pos h6] at hp
    simp only [decide_eq_true_eq] at hp
    have hb : 0 ≤ o.b ∧ o.b ≤ 99 := by
      unfold cmdOk at hc
      simp only [if_neg h1, if_neg h2, if_neg h3, if_neg h4, if_neg h5, if_pos h6, Bool.and_eq_true] at hc
      exact inR_iff.1 hc.1.2
    obtain ⟨hu, hok, he⟩ := g.cell_of (g.rootI o.a) hp
    have hus : ∀ n, usedN h.cells n = true → usedN (h.cells.set (Go.Proofs.Ytdkpfggfkhnjfaa.rootI h o.a).toNat (setDat (celI h (Go.Proofs.Ytdkpfggfkhnjfaa.rootI h o.a)) o.b)) n = true := usedN_set fun _ => hu
    refine g.cells _ (fun _ => hu) ?_
    rw [cellOk_iff] at hok ⊢
    rcases hok with ⟨k1, k2, k3, k4, k5⟩ | hok
    · exact .inl ⟨k1, fun r hr => leadsB_mono hus (k2 r hr), hb.1, hb.2, k5⟩
    · rw [hu] at hok; cases hok.1
  · rw [if_neg h6]; exact g
theorem emptyH_good : Good emptyH := ⟨by simp [emptyH], rfl, by simp [emptyH], by simp [emptyH, leadsB]⟩
theorem mStep_good {h : Hp} {o : Cmd} (g : Good h) (hc : cmdOk o = true) : Good (mStep h o) := by
  unfold mStep
  rw [good_iff.2 g, hc]
  simp only [Bool.and_self, if_true]
  by_cases hs : stepOk h o = true
  · rw [if_pos hs]
    simp only [stepOk, Bool.and_eq_true, Bool.not_eq_true', Bool.and_eq_false_iff, decide_eq_false_iff_not] at hs
    refine mDo_good g hc hs.1 (Nat.le_refl _) fun h1 => ?_
    have := g.len
    rcases hs.2 with h | h
    · exact absurd h1 h
    · omega
  · rw [if_neg hs]; exact g
theorem foldStep_good : ∀ (cs : List Cmd) (h : Hp), Good h → (∀ o ∈ cs, cmdOk o = true) → Good (cs.foldl mStep h)
  | [], _, g, _ => g
  | o :: cs, h, g, hc => foldStep_good cs (mStep h o) (mStep_good g (hc o (List.mem_cons_self ..))) fun x hx => hc x (List.mem_cons_of_mem _ hx)
theorem runTo_good (cs : List Cmd) (hc : ∀ o ∈ cs, cmdOk o = true) : Good (runTo cs) := foldStep_good cs emptyH emptyH_good hc
end Go.Proofs.Ytdkpfggfkhnjfaa

/- The reference's tests of programs and of instructions on a heap; the empty heap. For everything that can be read. -/
namespace Go.Proofs.Ytdkpfggfkhnjfaa
open Go.RowKit
set_option maxHeartbeats 1600000 in
theorem specCommandsValid_any (w : World) (B : Nat) (A : Option Addr) (n c : Nat) (cs : List Cmd) (hr : RdQ w B A n c cs) :
    Calls Try.prog 8 #[.slice A n c] w fun e w' => e = .returned (.bool (cmdsOk cs)) ∧ Below w.heap.size w w' := by
  have hr := hr.top
  have l1 := hr.le1; have l2 := hr.le2
  have hm := Nat.le_trans hr.cap hr.mx
  unfold maxLen at hm
  go_enter Try.func8, Try.ntmps8
  go_wp2_with fail
  go_loopw [3] (fun i wr => ∃ k : Nat, i = .int .i64 k ∧ k ≤ n ∧ (cs.take k).all cmdOk = true ∧ Below w.heap.size w wr) (fun i _ => n - (intOf i).toNat)
  case atStart => exact ⟨0, rfl, Nat.zero_le _, by simp, Below.refl _ _⟩
  case round =>
    obtain ⟨k, rfl, hk, hal, hb⟩ := hrel
    by_cases hlt : k < n
    · obtain ⟨b, o, q, rfl, hbb, hx, q1, q2, q3, q4⟩ := hr.at_ hlt
      have g1 := keept q1 hb
      have g2 := keept q2 hb
      have g3 := keept q3 hb
      have g4 := keept q4 hb
      cases hq : cmdOk q
      · have HF := Go.Lib.hid (show cmdsOk cs = false by simp [cmdsOk, all_no hx hq])
        clear hal q1 q2 q3 q4
        go_wp2_with fail
        refine (specCommandValid_any q _).mono ?_
        rintro e w2 ⟨rfl, hb2⟩
        rw [hq]
        clear hq
        go_wp2
        go_ret
        exact ⟨ret_b HF.out.symm, hb.trans (hb2.mono hb.size)⟩
      · have HA := Go.Lib.hid (all_succ hal hx hq)
        clear hal q1 q2 q3 q4
        go_wp2_with fail
        refine (specCommandValid_any q _).mono ?_
        rintro e w2 ⟨rfl, hb2⟩
        rw [hq]
        clear hq
        go_wp2_with fail
        go_roundw
        case rel => exact ⟨k + 1, by go_num, by omega, HA.out, hb.trans (hb2.mono hb.size)⟩
        case measure => simp [intOf]; omega
    · have h1 := all_end hal (by omega)
      have HF := Go.Lib.hid (show cmdsOk cs = decide ((n : Int) ≤ 40) by
        rw [cmdsOk, h1, Bool.true_and]
        have : cs.length = n := by omega
        rw [this]
        exact decide_eq_decide.2 (by omega))
      clear h1 hal
      go_wp2
      go_ret
      exact ⟨ret_b HF.out.symm, hb⟩
def emptyTo (k : Nat) : List Int := List.replicate k (-1)
set_option maxHeartbeats 1600000 in
theorem specEmptyHeap_any (w : World) : Calls Try.prog 18 #[] w (MadeHp w emptyH) := by
  have H1 := (((Owns.nil w).box [.slice none 0 0, .slice none 0 0] 29).box [.slice none 0 0, .slice none 0 0] 29).noInts
  simp only [World.size_alloc] at H1
  go_enter Try.func18, Try.ntmps18
  go_wp2_with fail
  go_loopw [2] (fun i wr => ∃ (k : Nat) (v : Value), i = .int .i64 k ∧ k ≤ 4 ∧ Owns w.heap.size w wr [.ints v (emptyTo k), .box (w.heap.size + 1) [.slice none 0 0, v] 29, .box w.heap.size [.slice none 0 0, .slice none 0 0] 29]) (fun i _ => 4 - (intOf i).toNat)
  case atStart => exact ⟨0, _, rfl, Nat.zero_le _, H1⟩
  case round =>
    clear H1
    obtain ⟨k, v, rfl, hk, H⟩ := hrel
    obtain ⟨A, c, rfl, -⟩ := H.formI 0 rfl
    rw [show (emptyTo k).length = k by simp [emptyTo]] at H
    obtain ⟨a0, a1, a2, a3⟩ := H.box2 1 rfl
    by_cases hlt : k < 4
    · have H2 := H.litI [-1] one_le_maxLen
      simp only [List.map_cons, List.map_nil, List.length_cons, List.length_nil, Nat.zero_add] at H2
      have e : emptyTo k ++ [-1] = emptyTo (k + 1) := by simp [emptyTo, List.replicate_succ']
      have el : (emptyTo k).length = k := by simp [emptyTo]
      have HE := Go.Lib.hid e
      have HL := Go.Lib.hid el
      clear e el
      go_wp2_with (at_builtin; go_loud (refine wpList_pushO rfl (.tmp 9) (.tmp 10) rfl H2 1 rfl rfl rfl (rdI_new _ _ _ rfl) (by simp [emptyTo]; omega) ?_; intro A3 k3 w3 H3; simp only [List.set_cons_zero, List.set_cons_succ, List.length_append, List.length_cons, List.length_nil, Nat.zero_add] at H3; rw [HE.out] at H3; obtain ⟨e0, e1, e2, e3⟩ := H3.box2 2 rfl))
      have H4 := (H3.putBox 2 rfl 1 (.slice A3 ((emptyTo k).length + 1) k3)).erase 0
      simp only [List.set_cons_zero, List.set_cons_succ, List.eraseIdx_cons_zero] at H4
      go_roundw
      case rel => exact ⟨k + 1, _, by go_num, by omega, H4⟩
      case measure => simp [intOf]; omega
    · obtain rfl : k = 4 := by omega
      have H3 := (H.putBox 2 rfl 0 (.slice none 0 0)).putBox 2 rfl 1 (.slice A 4 c)
      obtain ⟨y0, y1, y2, y3⟩ := H.box2 2 rfl
      simp only [List.set_cons_zero, List.set_cons_succ] at H3
      obtain ⟨z0, z1, -, -⟩ := H3.box2 2 rfl
      have HS : Hid (MadeHp w emptyH (.returned (.agg #[.slice none 0 0, .slice A 4 c])) _) := Go.Lib.hid ⟨_, [], _, rfl, (H3.noCells).order [0, 1] (by decide) rfl⟩
      clear H H3
      go_wp2
      exact bodyPost_ret (v := .agg #[.slice none 0 0, .slice A 4 c]) (by simp [results, Try.results18, go_sem, z0, z1]) rfl HS.out
theorem rootI_at {h : Hp} (h4 : h.roots.length = 4) {k : Int} (h0 : 0 ≤ k) (h1 : k ≤ 3) : Hid (h.roots[k.toNat]? = some (rootI h k)) := by
  refine Go.Lib.hid ?_
  unfold rootI
  rw [List.getD_eq_getElem?_getD, List.getElem?_eq_getElem (by omega)]; rfl
set_option maxHeartbeats 1600000 in
theorem l8Place_any (w : World) (B : Nat) (v : Value) (h : Hp) (hh : RdH w B v h) (n c : Int) (hn : n < h.cells.length) :
    Calls Try.prog 63 #[v, .int .i64 n, .int .i64 c] w fun e w' => e = .returned (.bool (placeB h n c)) ∧ Below w.heap.size w w' := by
  obtain ⟨D, m, d, D', m', d', rfl, hC, hR⟩ := hh.top
  have l1 := hC.le1; have l2 := hC.le2
  have H := (Owns.nil w).box [.slice D m d, .slice D' m' d'] 29
  have HB := H.below
  obtain ⟨a0, a1, -, -⟩ := H.box2 0 rfl
  by_cases h0 : 0 ≤ n
  · obtain ⟨q, rfl⟩ := Int.eq_ofNat_of_zero_le h0
    have hq : q < m := by omega
    obtain ⟨b, o, l, A2, n2, c2, rfl, hbb, hx, q1, q2, q3, hrf⟩ := hC.at_ hq
    have r1 := RdI.le1 hrf; have r2 := RdI.le2 hrf
    have g3 := keept q3 HB
    have HF : Hid (placeB h (q : Int) c = decide (c < (n2 : Int))) := Go.Lib.hid (by
      unfold placeB celI
      rw [Int.toNat_natCast, getD_of hx, decide_eq_true h0, Bool.true_and]
      exact decide_eq_decide.2 (by omega))
    clear H q1 q2 q3
    go_enter Try.func63, Try.ntmps63
    go_wp2
    go_ret
    exact ⟨ret_b HF.out.symm, HB⟩
  · have HF : Hid (placeB h n c = false) := Go.Lib.hid (by unfold placeB; rw [decide_eq_false h0]; rfl)
    clear H
    go_enter Try.func63, Try.ntmps63
    go_wp2
    go_ret
    exact ⟨ret_b HF.out.symm, HB⟩
end Go.Proofs.Ytdkpfggfkhnjfaa

/- Whether an instruction is possible on a heap: the reference's test, for everything that can be read. -/
namespace Go.Proofs.Ytdkpfggfkhnjfaa
open Go.RowKit
theorem mPoss_no1 {h : Hp} {o : Cmd} (h1 : heapOk h = false) : mPoss h o = false := by simp [mPoss, h1]
theorem mPoss_no2 {h : Hp} {o : Cmd} (h1 : cmdOk o = false) : mPoss h o = false := by simp [mPoss, h1]
theorem mPoss_yes {h : Hp} {o : Cmd} (h1 : heapOk h = true) (h2 : cmdOk o = true) : mPoss h o = possB h o := by simp [mPoss, h1, h2]
theorem rootI_of {h : Hp} {k : Nat} {x : Int} (hx : Hid (h.roots[k]? = some x)) : rootI h (k : Int) = x := by
  unfold rootI; rw [Int.toNat_natCast, getD_of hx]
theorem cmd_a {o : Cmd} (h : cmdOk o = true) : 0 ≤ o.a ∧ o.a ≤ 3 := by
  unfold cmdOk at h
  split at h
  · simp only [Bool.and_eq_true] at h; exact inR_iff.1 h.1.1
  split at h
  · simp only [Bool.and_eq_true] at h; exact inR_iff.1 h.1.1
  split at h
  · simp only [Bool.and_eq_true] at h; exact inR_iff.1 h.1.1
  split at h
  · simp only [Bool.and_eq_true] at h; exact inR_iff.1 h.1.1
  split at h
  · simp only [Bool.and_eq_true] at h; exact inR_iff.1 h.1.1
  split at h
  · simp only [Bool.and_eq_true] at h; exact inR_iff.1 h.1.1
  · cases h
theorem cmd_b {o : Cmd} (h : cmdOk o = true) (h2 : o.op = 2 ∨ o.op = 3 ∨ o.op = 4) : 0 ≤ o.b ∧ o.b ≤ 3 := by
  obtain ⟨op, a, b, c⟩ := o
  simp only at h2
  rcases h2 with rfl | rfl | rfl
  · rw [cmdOk2] at h; simp only [Bool.and_eq_true] at h; exact inR_iff.1 h.1.2
  · rw [cmdOk3] at h; simp only [Bool.and_eq_true] at h; exact inR_iff.1 h.1.2
  · rw [cmdOk4] at h; simp only [Bool.and_eq_true] at h; exact inR_iff.1 h.1.2
theorem cmd_c {o : Cmd} (h : cmdOk o = true) (h2 : o.op = 2 ∨ o.op = 3) : 0 ≤ o.c ∧ o.c ≤ 2 := by
  obtain ⟨op, a, b, c⟩ := o
  simp only at h2
  rcases h2 with rfl | rfl
  · rw [cmdOk2] at h; simp only [Bool.and_eq_true] at h; exact inR_iff.1 h.2
  · rw [cmdOk3] at h; simp only [Bool.and_eq_true] at h; exact inR_iff.1 h.2
theorem good_rootLt {h : Hp} (g : Good h) (k : Int) : rootI h k < h.cells.length := by
  rcases leadsB_iff.1 (g.rootI k) with e | ⟨h0, h1⟩
  · omega
  · have := usedN_lt h1; omega
set_option maxHeartbeats 3200000 in
theorem specPossible_any (w : World) (B : Nat) (v : Value) (h : Hp) (hh : RdH w B v h) (o : Cmd) :
    Calls Try.prog 39 #[v, cmdV o] w fun e w' => e = .returned (.bool (mPoss h o)) ∧ Below w.heap.size w w' := by
  have hh' := hh.top
  obtain ⟨D, m, d, D', m', d', rfl, hC, hR⟩ := hh.top
  have l3 := RdI.le1 hR; have l4 := RdI.le2 hR
  have hca := @cmd_a o
  have hcb := @cmd_b o
  obtain ⟨op, a, b, c⟩ := o
  simp only at hca hcb
  have HCA := Go.Lib.hid hca
  have HCB := Go.Lib.hid hcb
  clear hca hcb
  have H := ((Owns.nil w).box [.slice D m d, .slice D' m' d'] 29).box [.int .i64 op, .int .i64 a, .int .i64 b, .int .i64 c] 46
  simp only [World.size_alloc] at H
  obtain ⟨a0, a1, -, -⟩ := H.box2 1 rfl
  obtain ⟨b0, b1, b2, b3, -, -, -, -⟩ := box4 H 0 rfl
  go_enter Try.func39, Try.ntmps39
  go_wp2_with fail
  refine (specHeapValid_any _ _ _ h (hh'.below H.below)).mono ?_
  rintro e w1 ⟨rfl, hb⟩
  replace H := H.call hb
  clear hb a0 a1 b0 b1 b2 b3
  cases hy : heapOk h
  · have HF := Go.Lib.hid (mPoss_no1 (o := ⟨op, a, b, c⟩) hy)
    have HB := H.below
    clear H hy
    go_wp2
    go_ret
    exact ⟨ret_b HF.out.symm, HB⟩
  obtain ⟨a0, a1, -, -⟩ := H.box2 1 rfl
  obtain ⟨b0, b1, b2, b3, -, -, -, -⟩ := box4 H 0 rfl
  go_wp2_with fail
  refine (specCommandValid_any ⟨op, a, b, c⟩ _).mono ?_
  rintro e w2 ⟨rfl, hb⟩
  replace H := H.call hb
  clear hb a0 a1 b0 b1 b2 b3
  cases hc : cmdOk ⟨op, a, b, c⟩
  · have HF := Go.Lib.hid (mPoss_no2 (h := h) hc)
    have HB := H.below
    clear H hy hc
    go_wp2
    go_ret
    exact ⟨ret_b HF.out.symm, HB⟩
  have g := good_iff.1 hy
  have h4 := g.roots
  have hP := mPoss_yes hy hc
  have hA := HCA.out hc
  have HP := Go.Lib.hid hP
  have HC := Go.Lib.hid hc
  clear hy hc hP HCA
  obtain ⟨an, rfl⟩ := Int.eq_ofNat_of_zero_le hA.1
  obtain ⟨a0, a1, -, -⟩ := H.box2 1 rfl
  obtain ⟨b0, b1, b2, b3, -, -, -, -⟩ := box4 H 0 rfl
  have H4 := Go.Lib.hid h4
  have hm4 : 4 ≤ m' := by omega
  have han : an < m' := by omega
  clear h4
  by_cases h2 : op = 2
  · subst h2
    have hB := HCB.out HC.out (.inl rfl)
    obtain ⟨bn, rfl⟩ := Int.eq_ofNat_of_zero_le hB.1
    obtain ⟨bb, oo, x, rfl, hbb, hx, q1⟩ := RdI.at_ hR (show bn < m' by omega)
    have q2 := H.ro q1 hbb
    have hrx := rootI_of hx
    have hxl : x < h.cells.length := by rw [← hrx]; exact good_rootLt g _
    have HF : Hid (mPoss h ⟨2, an, bn, c⟩ = placeB h x c) := Go.Lib.hid (by rw [HP.out, ← hrx]; simp [possB])
    have hbm : bn < m' := by omega
    clear hrx hB
    have GG := Go.Lib.hid g
    have H0 := Go.Lib.hid H
    clear H g hA q1
    go_wp2_with fail
    have HX := H0.out.drew
    replace a0 := keepd a0 (Below.refl _ _)
    replace a1 := keepd a1 (Below.refl _ _)
    replace b0 := keepd b0 (Below.refl _ _)
    replace b1 := keepd b1 (Below.refl _ _)
    replace b2 := keepd b2 (Below.refl _ _)
    replace b3 := keepd b3 (Below.refl _ _)
    replace q2 := keepd q2 (Below.refl _ _)
    refine wp_region_tree (fun w' => (w'.cell? ⟨w.heap.size, 0, none⟩ = some (.slice D m d) ∧ w'.cell? ⟨w.heap.size, 1, none⟩ = some (.slice (some ⟨bb, oo, none⟩) m' d')) ∧ w'.cell? ⟨w.heap.size + 1, 1, none⟩ = some (.int .i64 an) ∧ w'.cell? ⟨w.heap.size + 1, 2, none⟩ = some (.int .i64 bn) ∧ w'.cell? ⟨w.heap.size + 1, 3, none⟩ = some (.int .i64 c) ∧ w'.cell? ⟨bb, oo + bn, none⟩ = some (.int .i64 x)) 11 [] (.take 0 (.take 1 (.take 2 (.take 3 (.take 4 (.take 5 (.take 6 (.take 7 (.take 8 (.alt 9 (.take 10 (.done)) (.stop))))))))))) (by kernel_rfl) (by kernel_rfl) (by kernel_rfl) (⟨⟨a0, a1⟩, b1, b2, b3, q2⟩) ?_
    simp only [fillT, List.getElem?_cons_zero, List.getElem?_cons_succ, Nat.reduceBEq]
    repeat (first
      | (with_reducible refine po_take (v := ?_) ?_ (fun w' hS' => ?_) ?_
         rotate_left
         · (go_simp; done)
         · ((try dsimp only at hS'); go_simp; try with_reducible rfl)
         simp only [Act.put, List.setIfInBounds_toArray, List.set_cons_zero, List.set_cons_succ])
      | (with_reducible refine po_skip ?_ ?_
         · (go_simp; done)
         simp only [Act.put, List.setIfInBounds_toArray, List.set_cons_zero, List.set_cons_succ]))
    with_reducible refine po_run ?_ (fun K hK => ?_) ?_
    · (go_simp; done)
    rotate_left
    · exact po_stop
    go_simp
    refine (l8Place_any _ _ _ h (hh'.below HX.below) x c hxl).mono ?_
    rintro e w3 ⟨rfl, hb⟩
    rw [← HF.out]
    replace HX := HX.call hb
    refine hK.out _ _ (.inr (⟨⟨keept a0 hb, keept a1 hb⟩, keept b1 hb, keept b2 hb, keept b3 hb, keept q2 hb⟩)) ?_
    clear hK K
    clear hb a0 a1 b0 b1 b2 b3 q2
    repeat (first
      | (with_reducible refine po_take (v := ?_) ?_ (fun w' hS' => ?_) ?_
         rotate_left
         · (go_simp; done)
         · ((try dsimp only at hS'); go_simp; try with_reducible rfl)
         simp only [Act.put, List.setIfInBounds_toArray, List.set_cons_zero, List.set_cons_succ])
      | (with_reducible refine po_skip ?_ ?_
         · (go_simp; done)
         simp only [Act.put, List.setIfInBounds_toArray, List.set_cons_zero, List.set_cons_succ]))
    refine po_done ?_
    have HB := HX.below
    clear HX H0
    go_wp2
    go_ret
    exact ⟨rfl, HB⟩
  by_cases h3 : op = 3
  · subst h3
    obtain ⟨bb, oo, x, rfl, hbb, hx, q1⟩ := RdI.at_ hR han
    have q2 := H.ro q1 hbb
    have hrx := rootI_of hx
    have hxl : x < h.cells.length := by rw [← hrx]; exact good_rootLt g _
    have HF : Hid (mPoss h ⟨3, an, b, c⟩ = placeB h x c) := Go.Lib.hid (by rw [HP.out, ← hrx]; simp [possB])
    clear hrx h2
    have GG := Go.Lib.hid g
    have H0 := Go.Lib.hid H
    clear H g hA q1
    go_wp2_with fail
    have HX := H0.out.drew
    replace a0 := keepd a0 (Below.refl _ _)
    replace a1 := keepd a1 (Below.refl _ _)
    replace b0 := keepd b0 (Below.refl _ _)
    replace b1 := keepd b1 (Below.refl _ _)
    replace b2 := keepd b2 (Below.refl _ _)
    replace b3 := keepd b3 (Below.refl _ _)
    replace q2 := keepd q2 (Below.refl _ _)
    refine wp_region_tree (fun w' => (w'.cell? ⟨w.heap.size, 0, none⟩ = some (.slice D m d) ∧ w'.cell? ⟨w.heap.size, 1, none⟩ = some (.slice (some ⟨bb, oo, none⟩) m' d')) ∧ w'.cell? ⟨w.heap.size + 1, 1, none⟩ = some (.int .i64 an) ∧ w'.cell? ⟨w.heap.size + 1, 2, none⟩ = some (.int .i64 b) ∧ w'.cell? ⟨w.heap.size + 1, 3, none⟩ = some (.int .i64 c) ∧ w'.cell? ⟨bb, oo + an, none⟩ = some (.int .i64 x)) 11 [] (.take 0 (.take 1 (.take 2 (.take 3 (.take 4 (.take 5 (.take 6 (.take 7 (.take 8 (.alt 9 (.take 10 (.done)) (.stop))))))))))) (by kernel_rfl) (by kernel_rfl) (by kernel_rfl) (⟨⟨a0, a1⟩, b1, b2, b3, q2⟩) ?_
    simp only [fillT, List.getElem?_cons_zero, List.getElem?_cons_succ, Nat.reduceBEq]
    repeat (first
      | (with_reducible refine po_take (v := ?_) ?_ (fun w' hS' => ?_) ?_
         rotate_left
         · (go_simp; done)
         · ((try dsimp only at hS'); go_simp; try with_reducible rfl)
         simp only [Act.put, List.setIfInBounds_toArray, List.set_cons_zero, List.set_cons_succ])
      | (with_reducible refine po_skip ?_ ?_
         · (go_simp; done)
         simp only [Act.put, List.setIfInBounds_toArray, List.set_cons_zero, List.set_cons_succ]))
    with_reducible refine po_run ?_ (fun K hK => ?_) ?_
    · (go_simp; done)
    rotate_left
    · exact po_stop
    go_simp
    refine (l8Place_any _ _ _ h (hh'.below HX.below) x c hxl).mono ?_
    rintro e w3 ⟨rfl, hb⟩
    rw [← HF.out]
    replace HX := HX.call hb
    refine hK.out _ _ (.inr (⟨⟨keept a0 hb, keept a1 hb⟩, keept b1 hb, keept b2 hb, keept b3 hb, keept q2 hb⟩)) ?_
    clear hK K
    clear hb a0 a1 b0 b1 b2 b3 q2
    repeat (first
      | (with_reducible refine po_take (v := ?_) ?_ (fun w' hS' => ?_) ?_
         rotate_left
         · (go_simp; done)
         · ((try dsimp only at hS'); go_simp; try with_reducible rfl)
         simp only [Act.put, List.setIfInBounds_toArray, List.set_cons_zero, List.set_cons_succ])
      | (with_reducible refine po_skip ?_ ?_
         · (go_simp; done)
         simp only [Act.put, List.setIfInBounds_toArray, List.set_cons_zero, List.set_cons_succ]))
    refine po_done ?_
    have HB := HX.below
    clear HX H0
    go_wp2
    go_ret
    exact ⟨rfl, HB⟩
  by_cases h6 : op = 6
  · subst h6
    obtain ⟨bb, oo, x, rfl, hbb, hx, q1⟩ := RdI.at_ hR han
    have q2 := H.ro q1 hbb
    have hrx := rootI_of hx
    have HF : Hid (mPoss h ⟨6, an, b, c⟩ = decide (0 ≤ x)) := Go.Lib.hid (by rw [HP.out, ← hrx]; simp [possB])
    have HB := H.below
    clear hrx h2 h3 g hA q1 H
    go_wp2
    go_ret
    exact ⟨ret_b HF.out.symm, HB⟩
  · have HF : Hid (mPoss h ⟨op, an, b, c⟩ = true) := Go.Lib.hid (by rw [HP.out]; simp [possB, h2, h3, h6])
    have HB := H.below
    clear g hA H
    go_wp2
    go_ret
    exact ⟨ret_b HF.out.symm, HB⟩
end Go.Proofs.Ytdkpfggfkhnjfaa
