/- Plain laws on what can be reached in a list of cells, on sets of cells as bits of a number, and on the two ways to find all that can be reached. No program; no condition. -/
import Derived.Test.YtjpfgbckmcjjaaaHvS
namespace Go.Proofs.Ytjpfgbckmcjjaaa
open Go.RowKit
open Classical
/-! ### Bits -/
def bitsOf : Nat → (Nat → Bool) → Nat
  | 0, _ => 0
  | n + 1, p => bitsOf n p ||| (if p n then 2 ^ n else 0)
theorem bitsOf_bit : ∀ (n : Nat) (p : Nat → Bool) (c : Nat), (bitsOf n p).testBit c = (decide (c < n) && p c)
  | 0, p, c => by simp [bitsOf]
  | n + 1, p, c => by
    rw [bitsOf, Nat.testBit_or, bitsOf_bit n p c]
    by_cases h : c = n
    · subst h
      by_cases hp : p c = true
      · simp [hp]
      · simp at hp; simp [hp]
    · have e : ((if p n = true then 2 ^ n else 0 : Nat).testBit c) = false := by
        split
        · rw [Nat.testBit_two_pow]; simp; omega
        · simp
      rw [e]
      by_cases h2 : c < n
      · simp [h2, show c < n + 1 by omega]
      · simp [h2, show ¬ c < n + 1 by omega]
theorem bitsOf_lt (n : Nat) (p : Nat → Bool) : bitsOf n p < 2 ^ n := by
  apply Nat.lt_pow_two_of_testBit
  intro i hi
  rw [bitsOf_bit]; simp; omega
theorem bits_eq {n m : Nat} {p : Nat → Bool} (h : m < 2 ^ n) (hb : ∀ c, c < n → m.testBit c = p c) : m = bitsOf n p := by
  apply Nat.eq_of_testBit_eq
  intro c
  rw [bitsOf_bit]
  by_cases hc : c < n
  · simp [hc, hb c hc]
  · simp [hc]
    exact Nat.testBit_lt_two_pow (Nat.lt_of_lt_of_le h (Nat.pow_le_pow_right (by omega) (by omega)))
/-- Whether a number is one of a set. -/
def hasB (m : Nat) (r : Int) : Bool := decide (0 ≤ r) && m.testBit r.toNat
def addB (m : Nat) (r : Int) : Nat := m ||| 2 ^ r.toNat
theorem hasB_nat (m c : Nat) : hasB m (c : Int) = m.testBit c := by simp [hasB]
theorem hasB_neg {m : Nat} {r : Int} (h : r < 0) : hasB m r = false := by simp [hasB]; omega
theorem hasB_pos {m : Nat} {r : Int} (h : hasB m r = true) : 0 ≤ r ∧ m.testBit r.toNat = true := by simpa [hasB] using h
theorem testBit_lt {m c : Nat} (h : m < 2 ^ 64) (hc : m.testBit c = true) : c < 64 := by
  rcases Nat.lt_or_ge c 64 with h1 | h1
  · exact h1
  · rw [Nat.testBit_lt_two_pow (Nat.lt_of_lt_of_le h (Nat.pow_le_pow_right (by omega) h1))] at hc; cases hc
theorem hasB_lt {m : Nat} {r : Int} (h : m < 2 ^ 64) (hc : hasB m r = true) : 0 ≤ r ∧ r < 64 := by
  obtain ⟨h0, h1⟩ := hasB_pos hc
  have := testBit_lt h h1
  omega
theorem addB_lt {m : Nat} {r : Int} (h : m < 2 ^ 64) (h0 : 0 ≤ r) (h1 : r < 64) : addB m r < 2 ^ 64 := by
  unfold addB
  exact Nat.or_lt_two_pow h (Nat.pow_lt_pow_right (by omega) (by omega))
theorem addB_bit (m : Nat) (r : Int) (c : Nat) : (addB m r).testBit c = (m.testBit c || decide (r.toNat = c)) := by
  unfold addB
  rw [Nat.testBit_or, Nat.testBit_two_pow]
theorem addB_has {m : Nat} {r : Int} (h0 : 0 ≤ r) (x : Int) : hasB (addB m r) x = (hasB m x || decide (x = r)) := by
  unfold hasB
  rw [addB_bit]
  by_cases hx : 0 ≤ x
  · simp only [hx, decide_true, Bool.true_and]
    congr 1
    rw [decide_eq_decide]
    omega
  · simp [hx]; omega
/-! ### How many of 64 are not in a set -/
def freeN (m : Nat) : Nat → Nat
  | 0 => 0
  | n + 1 => freeN m n + if m.testBit n then 0 else 1
theorem freeN_le (m : Nat) : ∀ n, freeN m n ≤ n
  | 0 => Nat.le_refl _
  | n + 1 => by have := freeN_le m n; rw [freeN]; split <;> omega
theorem freeN_same {m : Nat} {r : Int} (h0 : 0 ≤ r) : ∀ n, n ≤ r.toNat → freeN (addB m r) n = freeN m n
  | 0, _ => rfl
  | n + 1, h => by
    rw [freeN, freeN, freeN_same h0 n (by omega), addB_bit]
    simp [show ¬ r.toNat = n by omega]
theorem freeN_add {m : Nat} {r : Int} (h0 : 0 ≤ r) (hm : m.testBit r.toNat = false) : ∀ n, r.toNat < n → freeN (addB m r) n + 1 = freeN m n
  | 0, h => by omega
  | n + 1, h => by
    rw [freeN, freeN, addB_bit]
    by_cases e : r.toNat = n
    · subst e
      rw [freeN_same h0 _ (Nat.le_refl _), hm]; simp
    · have := freeN_add h0 hm n (by omega)
      simp [e]; omega
abbrev free (m : Nat) : Nat := freeN m 64
theorem free_add {m : Nat} {r : Int} (h0 : 0 ≤ r) (h1 : r < 64) (hm : hasB m r = false) : free (addB m r) + 1 = free m :=
  freeN_add h0 (by simpa [hasB, h0] using hm) 64 (by omega)
/-! ### What can be reached -/
inductive Rch (cs : List Cel) (S : Nat → Bool) (fr : List Int) : Nat → Prop
  | base {r : Int} : r ∈ fr → 0 ≤ r → S r.toNat = true → Rch cs S fr r.toNat
  | step {c : Nat} {l : Cel} {r : Int} : Rch cs S fr c → cs[c]? = some l → r ∈ l.refs → 0 ≤ r → S r.toNat = true → Rch cs S fr r.toNat
theorem Rch.inS {cs : List Cel} {S : Nat → Bool} {fr : List Int} {c : Nat} (h : Rch cs S fr c) : S c = true := by
  cases h <;> assumption
theorem Rch.mono {cs : List Cel} {S T : Nat → Bool} {fr fr' : List Int} (hS : ∀ c, S c = true → T c = true) (hf : ∀ r ∈ fr, r ∈ fr') {c : Nat} (h : Rch cs S fr c) : Rch cs T fr' c := by
  induction h with
  | base h1 h2 h3 => exact .base (hf _ h1) h2 (hS _ h3)
  | step _ h1 h2 h3 h4 ih => exact .step ih h1 h2 h3 (hS _ h4)
def usedN (cs : List Cel) (c : Nat) : Bool := (cs.getD c noCel).used
theorem usedN_at {cs : List Cel} {c : Nat} {l : Cel} (h : Hid (cs[c]? = some l)) : usedN cs c = l.used := by unfold usedN; rw [getD_of h]
theorem usedN_lt {cs : List Cel} {c : Nat} (h : usedN cs c = true) : c < cs.length := by
  rcases Nat.lt_or_ge c cs.length with h1 | h1
  · exact h1
  · simp [usedN, List.getD, List.getElem?_eq_none h1, noCel] at h
theorem leadsB_used {cs : List Cel} {r : Int} (h : leadsB cs r = true) (h0 : 0 ≤ r) : usedN cs r.toNat = true := by
  have h1 : (r == -1) = false := by simp; omega
  simp only [leadsB, h1, Bool.false_or, Bool.and_eq_true] at h
  exact h.2
noncomputable def reachB (cs : List Cel) (fr : List Int) (c : Nat) : Bool := decide (Rch cs (usedN cs) fr c)
noncomputable def reachL (cs : List Cel) (fr : List Int) : List Bool := (List.range cs.length).map (reachB cs fr)
def usedM (cs : List Cel) : Nat := bitsOf 64 (usedN cs)
noncomputable def closM (cs : List Cel) (S : Nat) (fr : List Int) : Nat := bitsOf 64 (fun c => decide (Rch cs S.testBit fr c))
theorem usedM_bit {cs : List Cel} (h : cs.length ≤ 64) (c : Nat) : (usedM cs).testBit c = usedN cs c := by
  unfold usedM
  rw [bitsOf_bit]
  by_cases hc : c < 64
  · simp [hc]
  · have : usedN cs c = false := by
      cases hu : usedN cs c
      · rfl
      · have := usedN_lt hu; omega
    simp [this]
theorem usedM_lt (cs : List Cel) : usedM cs < 2 ^ 64 := bitsOf_lt _ _
theorem closM_lt (cs : List Cel) (S : Nat) (fr : List Int) : closM cs S fr < 2 ^ 64 := bitsOf_lt _ _
theorem closM_bit {cs : List Cel} {S : Nat} {fr : List Int} (h : S < 2 ^ 64) (c : Nat) : (closM cs S fr).testBit c = decide (Rch cs S.testBit fr c) := by
  unfold closM
  rw [bitsOf_bit]
  by_cases hc : c < 64
  · simp [hc]
  · have : ¬ Rch cs S.testBit fr c := fun hr => hc (testBit_lt h hr.inS)
    simp [this]
theorem closM_used {cs : List Cel} {fr : List Int} (h : cs.length ≤ 64) (c : Nat) : (closM cs (usedM cs) fr).testBit c = reachB cs fr c := by
  rw [closM_bit (usedM_lt cs)]
  unfold reachB
  rw [show (usedM cs).testBit = usedN cs from funext fun c => usedM_bit h c]
/-! ### Met with a stack -/
def visit1 (S : Nat) (st : Nat × List Int) (r : Int) : Nat × List Int := if hasB S r && !hasB st.1 r then (addB st.1 r, st.2 ++ [r]) else st
def visit (S : Nat) (st : Nat × List Int) (rs : List Int) : Nat × List Int := rs.foldl (visit1 S) st
theorem visit_take {S : Nat} {st : Nat × List Int} {rs : List Int} {k : Nat} {r : Int} (h : Hid (rs[k]? = some r)) : visit S st (rs.take (k + 1)) = visit1 S (visit S st (rs.take k)) r := by
  obtain ⟨hk, rfl⟩ := List.getElem?_eq_some_iff.1 h.out
  unfold visit
  rw [List.take_succ_eq_append_getElem hk, List.foldl_append]; rfl
/-- What stays true of a set and a stack while cells are visited. -/
structure Met (cs : List Cel) (S : Nat) (fr : List Int) (st : Nat × List Int) : Prop where
  rch : ∀ c, st.1.testBit c = true → Rch cs S.testBit fr c
  stack : ∀ r ∈ st.2, hasB st.1 r = true
  lt : st.1 < 2 ^ 64
  room : st.2.length + free st.1 ≤ 64
theorem Met.visit1 {cs : List Cel} {S : Nat} {fr : List Int} {st : Nat × List Int} {r : Int} (hS : S < 2 ^ 64) (h : Met cs S fr st) (hr : hasB S r = true → Rch cs S.testBit fr r.toNat) : Met cs S fr (visit1 S st r) ∧ (visit1 S st r).2.length + free (visit1 S st r).1 = st.2.length + free st.1 ∧ (∀ x, hasB st.1 x = true → hasB (visit1 S st r).1 x = true) ∧ (hasB S r = true → hasB (visit1 S st r).1 r = true) ∧ (∀ x, x ∈ st.2 → x ∈ (visit1 S st r).2) ∧ (∀ c, (visit1 S st r).1.testBit c = true → st.1.testBit c = true ∨ (c : Int) ∈ (visit1 S st r).2) := by
  unfold Go.Proofs.Ytjpfgbckmcjjaaa.visit1
  by_cases hc : (hasB S r && !hasB st.1 r) = true
  · rw [if_pos hc]
    simp only [Bool.and_eq_true, Bool.not_eq_true'] at hc
    obtain ⟨h0, h1⟩ := hasB_lt hS hc.1
    have hf := free_add h0 h1 hc.2
    have hro := h.room
    refine ⟨⟨fun c hb => ?_, fun x hx => ?_, addB_lt h.lt h0 h1, by simp; omega⟩, by simp; omega, fun x hx => ?_, fun _ => ?_, fun x hx => by simp [hx], fun c hb => ?_⟩
    · simp only [addB_bit, Bool.or_eq_true, decide_eq_true_eq] at hb
      rcases hb with hb | rfl
      · exact h.rch c hb
      · exact hr hc.1
    · simp only [List.mem_append, List.mem_singleton] at hx
      rw [addB_has h0]
      rcases hx with hx | rfl
      · simp [h.stack x hx]
      · simp
    · rw [addB_has h0, hx]; rfl
    · rw [addB_has h0]; simp
    · simp only [addB_bit, Bool.or_eq_true, decide_eq_true_eq] at hb
      rcases hb with hb | hb
      · exact .inl hb
      · right; simp; right; omega
  · rw [if_neg hc]
    refine ⟨h, rfl, fun x hx => hx, fun hs => ?_, fun x hx => hx, fun c hb => .inl hb⟩
    simpa [hs] using hc
theorem Met.visit {cs : List Cel} {S : Nat} {fr : List Int} (hS : S < 2 ^ 64) : ∀ (rs : List Int) (st : Nat × List Int), Met cs S fr st → (∀ r ∈ rs, hasB S r = true → Rch cs S.testBit fr r.toNat) →
    Met cs S fr (visit S st rs) ∧ (visit S st rs).2.length + free (visit S st rs).1 = st.2.length + free st.1 ∧ (∀ x, hasB st.1 x = true → hasB (visit S st rs).1 x = true) ∧ (∀ r ∈ rs, hasB S r = true → hasB (visit S st rs).1 r = true) ∧ (∀ x, x ∈ st.2 → x ∈ (visit S st rs).2) ∧ (∀ c, (visit S st rs).1.testBit c = true → st.1.testBit c = true ∨ (c : Int) ∈ (visit S st rs).2)
  | [], st, h, _ => ⟨h, rfl, fun _ hx => hx, fun r hr => by simp at hr, fun _ hx => hx, fun _ hb => .inl hb⟩
  | r :: rs, st, h, hr => by
    obtain ⟨a1, a2, a3, a4, a5, a6⟩ := h.visit1 hS (hr r (by simp))
    obtain ⟨b1, b2, b3, b4, b5, b6⟩ := Met.visit hS rs (Go.Proofs.Ytjpfgbckmcjjaaa.visit1 S st r) a1 fun x hx => hr x (by simp [hx])
    refine ⟨b1, b2.trans a2, fun x hx => b3 x (a3 x hx), fun x hx hs => ?_, fun x hx => b5 x (a5 x hx), fun c hb => ?_⟩
    · rcases List.mem_cons.1 hx with rfl | hx
      · exact b3 _ (a4 hs)
      · exact b4 x hx hs
    · rcases b6 c hb with hb | hb
      · rcases a6 c hb with hb | hb
        · exact .inl hb
        · exact .inr (b5 _ hb)
      · exact .inr hb
/-- All of it: what was met has its references met, or is still on the stack. -/
structure Clo (cs : List Cel) (S : Nat) (fr : List Int) (st : Nat × List Int) : Prop extends Met cs S fr st where
  first : ∀ r ∈ fr, hasB S r = true → hasB st.1 r = true
  next : ∀ c l, st.1.testBit c = true → cs[c]? = some l → (c : Int) ∈ st.2 ∨ ∀ r ∈ l.refs, hasB S r = true → hasB st.1 r = true
theorem met_start {cs : List Cel} {S : Nat} {fr : List Int} : Met cs S fr (0, []) := ⟨fun c h => by simp at h, fun r h => by simp at h, by simp, by show 0 + freeN 0 64 ≤ 64; have := freeN_le 0 64; omega⟩
theorem clo_start {cs : List Cel} {S : Nat} {fr : List Int} (hS : S < 2 ^ 64) : Clo cs S fr (visit S (0, []) fr) := by
  obtain ⟨b1, b2, b3, b4, b5, b6⟩ := Met.visit (cs := cs) (fr := fr) hS fr (0, []) met_start fun r hr hs => .base hr (hasB_pos hs).1 (hasB_pos hs).2
  refine { toMet := b1, first := b4, next := fun c l hc hl => ?_ }
  rcases b6 c hc with h | h
  · simp at h
  · exact .inl h
theorem clo_step {cs : List Cel} {S : Nat} {fr : List Int} {m : Nat} {ws : List Int} {c : Nat} {l : Cel} (hS : S < 2 ^ 64) (h : Clo cs S fr (m, ws ++ [(c : Int)])) (hl : cs[c]? = some l) :
    Clo cs S fr (visit S (m, ws) l.refs) ∧ (visit S (m, ws) l.refs).2.length + free (visit S (m, ws) l.refs).1 + 1 = ws.length + 1 + free m := by
  have hc : m.testBit c = true := by have := h.stack c (by simp); rwa [hasB_nat] at this
  have hm : Met cs S fr (m, ws) := ⟨h.rch, fun r hr => h.stack r (by simp [hr]), h.lt, by have := h.room; simp at this ⊢; omega⟩
  obtain ⟨b1, b2, b3, b4, b5, b6⟩ := hm.visit hS l.refs (m, ws) fun r hr hs => .step (h.rch c hc) hl hr (hasB_pos hs).1 (hasB_pos hs).2
  refine ⟨{ toMet := b1, first := fun r hr hs => b3 r (h.first r hr hs), next := fun d k hd hk => ?_ }, by simp at b2; omega⟩
  rcases b6 d hd with h1 | h1
  · rcases h.next d k h1 hk with h2 | h2
    · simp only [List.mem_append, List.mem_singleton] at h2
      rcases h2 with h2 | h2
      · exact .inl (b5 _ h2)
      · have e : d = c := by omega
        subst e
        rw [hl] at hk
        injection hk with hk
        subst hk
        exact .inr b4
    · exact .inr fun r hr hs => b3 r (h2 r hr hs)
  · exact .inl h1
theorem clo_end {cs : List Cel} {S : Nat} {fr : List Int} {m : Nat} (_ : S < 2 ^ 64) (h : Clo cs S fr (m, [])) : m = closM cs S fr := by
  refine bits_eq h.lt fun c hc0 => ?_
  clear hc0
  rw [Bool.eq_iff_iff, decide_eq_true_eq]
  refine ⟨h.rch c, fun hr => ?_⟩
  induction hr with
  | base h1 h2 h3 =>
    have := h.first _ h1 (by simp [hasB, h2, h3])
    exact (hasB_pos this).2
  | @step c l r _ h1 h2 h3 h4 ih =>
    rcases h.next c l ih h1 with h5 | h5
    · simp at h5
    · exact (hasB_pos (h5 r h2 (by simp [hasB, h3, h4]))).2
end Go.Proofs.Ytjpfgbckmcjjaaa
