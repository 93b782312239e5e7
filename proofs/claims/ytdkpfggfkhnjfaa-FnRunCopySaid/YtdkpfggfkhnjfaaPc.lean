/- A whole cell is stored into an own row of cells, with references that lie in a row of their own till then. No program is walked. -/
import Derived.Test.YtdkpfggfkhnjfaaZ1
namespace Go.Proofs.Ytdkpfggfkhnjfaa
open Go.RowKit
theorem cellVals_setA : ∀ (cs : List Cel) (rvs : List Value) (i : Nat) (c : Cel) (rv : Value), rvs.length = cs.length → i < cs.length →
    cellVals (cs.set i c) (rvs.set i rv) = (((cellVals cs rvs).set (i * 3) (.bool c.used)).set (i * 3 + 1) (.int .i64 c.data)).set (i * 3 + 2) rv
  | [], _, _, _, _, _, h => by simp at h
  | _ :: _, [], _, _, _, h, _ => by simp at h
  | c0 :: cs, rv0 :: rvs, 0, _, _, _, _ => by simp [cellVals]
  | c0 :: cs, rv0 :: rvs, i + 1, c, rv, hl, h => by
    have := cellVals_setA cs rvs i c rv (by simpa using hl) (by simpa using h)
    have e : (i + 1) * 3 = i * 3 + 3 := by omega
    rw [e, List.set_cons_succ, List.set_cons_succ, cellVals, this]
    simp [cellVals]
theorem Owns.absorb {lo : Nat} {w0 w w' : World} {L : List OB} {X X' Y : OB} (h : Owns lo w0 w L) (i j : Nat) (_hij : i ≠ j) (hX : L[i]? = some X) (hY : L[j]? = some Y) (hT : Turn X.blks w w') (hnew : X'.holds lo w') (hblk : ∀ q, X'.blks q → X.blks q ∨ Y.blks q ∨ w.heap.size ≤ q) :
    Owns lo w0 w' ((L.set i X').eraseIdx j) := by
  have hXh := h.holds i X hX
  have hle := Nat.le_trans h.le hT.size
  have hi : i < L.length := (List.getElem?_eq_some_iff.1 hX).1
  have hfree : ∀ (a : Nat) (Z : OB), a ≠ i → L[a]? = some Z → ∀ q, Z.blks q → ¬ X.blks q := fun a Z ha hZ q hq e => h.apart a i Z _ ha hZ hX q hq e
  let f : Nat → Nat := fun a => if a < j then a else a + 1
  have hget : ∀ (a : Nat) (Z : OB), ((L.set i X').eraseIdx j)[a]? = some Z → f a ≠ j ∧ ((f a = i ∧ Z = X') ∨ (f a ≠ i ∧ L[f a]? = some Z)) := fun a Z hZ => by
    have hZ' : (L.set i X')[f a]? = some Z := by
      rw [List.getElem?_eraseIdx] at hZ
      simp only [f]
      split at hZ <;> (rename_i hc; simp only [hc, if_true, if_false]; exact hZ)
    refine ⟨by simp only [f]; split <;> omega, ?_⟩
    rw [List.getElem?_set] at hZ'
    split at hZ'
    · rename_i e
      (try rw [if_pos (by omega)] at hZ')
      injection hZ' with hZ'
      exact .inl ⟨e.symm, hZ'.symm⟩
    · rename_i e
      exact .inr ⟨fun e' => e e'.symm, hZ'⟩
  refine ⟨h.below.trans ⟨hT.os, hT.tape, hT.output, hT.size, fun k hk => hT.block k (by have := h.le; omega) fun e => by have := (hXh.lt k e).1; omega⟩, hle, fun a Z hZ => ?_, fun a b Z T hab hZ hT' q hq => ?_⟩
  · obtain ⟨hne, ⟨h1, rfl⟩ | ⟨h1, h2⟩⟩ := hget a Z hZ
    · exact hnew
    · exact (h.holds _ Z h2).keep (fun q hq => hT.block q ((h.holds _ Z h2).lt q hq).2 (hfree _ Z h1 h2 q hq)) hT.size
  · have hfab : f a ≠ f b := fun e => hab (by simp only [f] at e; split at e <;> split at e <;> omega)
    have key : ∀ (a : Nat) (Z : OB), f a ≠ j → f a ≠ i → L[f a]? = some Z → ∀ q, Z.blks q → ¬ X'.blks q := fun a Z h1 h2 h3 q hq hc => by
      rcases hblk q hc with hc | hc | hc
      · exact h.apart _ i Z _ h2 h3 hX q hq hc
      · exact h.apart _ j Z _ h1 h3 hY q hq hc
      · have := ((h.holds _ Z h3).lt q hq).2; omega
    obtain ⟨hne, ⟨h1, rfl⟩ | ⟨h1, h2⟩⟩ := hget a Z hZ <;> obtain ⟨hne', ⟨h3, rfl⟩ | ⟨h3, h4⟩⟩ := hget b T hT'
    · omega
    · exact fun ht => key b T hne' h3 h4 q ht hq
    · exact key a Z hne h1 h2 q hq
    · exact h.apart _ _ Z T hfab h2 h4 q hq
theorem OwC.store {w : World} {lo hi : Nat} {rvs : List Value} {cs : List Cel} {g n cap : Nat} {i : Nat} {c : Cel} {rv : Value} (ho : OwC w lo hi (.slice (some ⟨g, 0, none⟩) n cap) rvs cs) (hn : n = cs.length) (hi' : i < cs.length) (hrv : OwI w lo hi rv c.refs) (hap : ∀ x ∈ rvs, Apart rv x) :
    OwC (((w.setCell ⟨g, i * 3, none⟩ (.bool c.used)).setCell ⟨g, i * 3 + 1, none⟩ (.int .i64 c.data)).setCell ⟨g, i * 3 + 2, none⟩ rv) lo hi (.slice (some ⟨g, 0, none⟩) n cap) (rvs.set i rv) (cs.set i c) := by
  subst hn
  obtain ⟨s1, g1⟩ := ho.own.stored (i * 3) (.bool c.used)
  obtain ⟨s2, g2⟩ := s1.stored (i * 3 + 1) (.int .i64 c.data)
  obtain ⟨s3, g3⟩ := s2.stored (i * 3 + 2) rv
  rw [← cellVals_setA cs rvs i c rv ho.same hi'] at s3
  have keep : ∀ {q : Value} {xs : List Int}, OwI w lo hi q xs → OwI (((w.setCell ⟨g, i * 3, none⟩ (.bool c.used)).setCell ⟨g, i * 3 + 1, none⟩ (.int .i64 c.data)).setCell ⟨g, i * 3 + 2, none⟩ rv) lo hi q xs := fun {q xs} hq =>
    hq.keep1 fun k hk => by
      have hne : k ≠ g := fun e => own_ne hq.own ho.own (by decide) hk (by rw [e]; rfl)
      rw [Below.heap_setCell _ _ _ k (by exact hne), Below.heap_setCell _ _ _ k (by exact hne), Below.heap_setCell _ _ _ k (by exact hne)]
  refine ⟨by rw [List.length_set, List.length_set]; exact ho.same, by rw [List.length_set]; exact s3, ho.lt, fun i2 rv2 c' h1 h2 => ?_, fun a b x y hab hx hy => ?_⟩
  · by_cases e : i = i2
    · subst e
      rw [List.getElem?_set_self (by rw [ho.same]; exact hi')] at h1
      rw [List.getElem?_set_self hi'] at h2
      injection h1 with h1; injection h2 with h2
      subst h1 h2
      exact keep hrv
    · rw [List.getElem?_set_ne e] at h1 h2
      exact keep (ho.refs i2 rv2 c' h1 h2)
  · by_cases ea : i = a
    · subst ea
      rw [List.getElem?_set_self (by rw [ho.same]; exact hi')] at hx
      injection hx with hx; subst hx
      rw [List.getElem?_set_ne hab] at hy
      exact hap y (List.mem_of_getElem? hy)
    · rw [List.getElem?_set_ne ea] at hx
      by_cases eb : i = b
      · subst eb
        rw [List.getElem?_set_self (by rw [ho.same]; exact hi')] at hy
        injection hy with hy; subst hy
        exact apart_symm (hap x (List.mem_of_getElem? hx))
      · rw [List.getElem?_set_ne eb] at hy
        exact ho.apart a b x y hab hx hy
theorem Owns.putCell {lo : Nat} {w0 w : World} {L : List OB} {rvs : List Value} {cs : List Cel} {g n cap : Nat} {c : Cel} {rv : Value} (h : Owns lo w0 w L) (i j : Nat) (hX : L[i]? = some (.cells (.slice (some ⟨g, 0, none⟩) n cap) rvs cs)) (hY : L[j]? = some (.ints rv c.refs)) (hn : n = cs.length) (k : Nat) (hk : k < cs.length) :
    Owns lo w0 (((w.setCell ⟨g, k * 3, none⟩ (.bool c.used)).setCell ⟨g, k * 3 + 1, none⟩ (.int .i64 c.data)).setCell ⟨g, k * 3 + 2, none⟩ rv) ((L.set i (.cells (.slice (some ⟨g, 0, none⟩) n cap) (rvs.set k rv) (cs.set k c))).eraseIdx j) := by
  have hij : i ≠ j := by
    rintro rfl
    rw [hX] at hY; cases hY
  have ho := h.owC i hX
  have hap : ∀ x ∈ rvs, Apart rv x := fun x hx => by
    unfold Apart
    cases hrv : rv.ownBlock with
    | none => exact .inl rfl
    | some q =>
      refine .inr fun e => ?_
      exact h.apart j i _ _ (Ne.symm hij) hY hX q hrv (.inr ⟨x, hx, e.symm⟩)
  have hT : Turn (CellBlocks (.slice (some ⟨g, 0, none⟩) n cap) rvs) w (((w.setCell ⟨g, k * 3, none⟩ (.bool c.used)).setCell ⟨g, k * 3 + 1, none⟩ (.int .i64 c.data)).setCell ⟨g, k * 3 + 2, none⟩ rv) :=
    (((Turn.refl _ w).setCell _ (.inl rfl)).setCell _ (.inl rfl)).setCell _ (.inl rfl)
  refine h.absorb i j hij hX hY hT ?_ fun q hq => ?_
  · have := ho.store hn hk (h.owI j hY) hap
    show OwC _ lo _ _ _ _
    simpa only [World.size_setCell] using this
  · rcases hq with e | ⟨x, hx, e⟩
    · exact .inl (.inl e)
    · rcases List.mem_or_eq_of_mem_set hx with h1 | rfl
      · exact .inl (.inr ⟨x, h1, e⟩)
      · exact .inr (.inl e)
end Go.Proofs.Ytdkpfggfkhnjfaa
