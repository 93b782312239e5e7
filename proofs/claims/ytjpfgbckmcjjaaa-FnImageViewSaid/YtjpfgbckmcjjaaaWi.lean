/- A cell that a call owns is given back: its place holds the zero cell. No program is walked. -/
import Derived.Test.YtjpfgbckmcjjaaaZ0
namespace Go.Proofs.Ytjpfgbckmcjjaaa
open Go.RowKit
theorem cellVals_set3 : ∀ (cs : List Cel) (rvs : List Value) (i : Nat), rvs.length = cs.length → i < cs.length →
    cellVals (cs.set i noCel) (rvs.set i (.slice none 0 0)) = (((cellVals cs rvs).set (i * 3) (.bool false)).set (i * 3 + 1) (.int .i64 0)).set (i * 3 + 2) (.slice none 0 0)
  | [], _, _, _, h => by simp at h
  | _ :: _, [], _, h, _ => by simp at h
  | c :: cs, rv :: rvs, 0, _, _ => by simp [cellVals, noCel]
  | c :: cs, rv :: rvs, i + 1, hl, h => by
    have := cellVals_set3 cs rvs i (by simpa using hl) (by simpa using h)
    have e : (i + 1) * 3 = i * 3 + 3 := by omega
    rw [e, List.set_cons_succ, List.set_cons_succ, cellVals, this]
    simp [cellVals]
theorem OwC.wipe {w : World} {lo hi : Nat} {rvs : List Value} {cs : List Cel} {g n cap : Nat} {i : Nat} (ho : OwC w lo hi (.slice (some ⟨g, 0, none⟩) n cap) rvs cs) (hn : n = cs.length) (hi' : i < cs.length) :
    OwC (((w.setCell ⟨g, i * 3, none⟩ (.bool false)).setCell ⟨g, i * 3 + 1, none⟩ (.int .i64 0)).setCell ⟨g, i * 3 + 2, none⟩ (.slice none 0 0)) lo hi (.slice (some ⟨g, 0, none⟩) n cap) (rvs.set i (.slice none 0 0)) (cs.set i noCel) := by
  subst hn
  obtain ⟨s1, g1⟩ := ho.own.stored (i * 3) (.bool false)
  obtain ⟨s2, g2⟩ := s1.stored (i * 3 + 1) (.int .i64 0)
  obtain ⟨s3, g3⟩ := s2.stored (i * 3 + 2) (.slice none 0 0)
  rw [← cellVals_set3 cs rvs i ho.same hi'] at s3
  refine ⟨by rw [List.length_set, List.length_set]; exact ho.same, by rw [List.length_set]; exact s3, ho.lt, fun i2 rv c' h1 h2 => ?_, fun a b x y hab hx hy => ?_⟩
  · by_cases e : i = i2
    · subst e
      rw [List.getElem?_set_self (by rw [ho.same]; exact hi')] at h1
      rw [List.getElem?_set_self hi'] at h2
      injection h1 with h1; injection h2 with h2
      subst h1 h2
      exact ⟨World.ownsRow_nil _ _ _ _, fun k hk => by simp [Value.ownBlock] at hk⟩
    · rw [List.getElem?_set_ne e] at h1 h2
      exact (ho.refs i2 rv c' h1 h2).keep1 fun k hk => by
        have hne : k ≠ g := fun e => own_ne (ho.refs i2 rv c' h1 h2).own ho.own (by decide) hk (by rw [e]; rfl)
        rw [Below.heap_setCell _ _ _ k (by exact hne), Below.heap_setCell _ _ _ k (by exact hne), Below.heap_setCell _ _ _ k (by exact hne)]
  · by_cases ea : i = a
    · subst ea
      rw [List.getElem?_set_self (by rw [ho.same]; exact hi')] at hx
      injection hx with hx; subst hx
      exact .inl rfl
    · rw [List.getElem?_set_ne ea] at hx
      by_cases eb : i = b
      · subst eb
        rw [List.getElem?_set_self (by rw [ho.same]; exact hi')] at hy
        injection hy with hy; subst hy
        cases hxo : x.ownBlock
        · exact .inl hxo
        · exact .inr (by rw [hxo]; simp [Value.ownBlock])
      · rw [List.getElem?_set_ne eb] at hy
        exact ho.apart a b x y hab hx hy
theorem Owns.wipe {lo : Nat} {w0 w : World} {L : List OB} {rvs : List Value} {cs : List Cel} {g n cap : Nat} (h : Owns lo w0 w L) (j : Nat) (hX : L[j]? = some (.cells (.slice (some ⟨g, 0, none⟩) n cap) rvs cs)) (hn : n = cs.length) (i : Nat) (hi : i < cs.length) :
    Owns lo w0 (((w.setCell ⟨g, i * 3, none⟩ (.bool false)).setCell ⟨g, i * 3 + 1, none⟩ (.int .i64 0)).setCell ⟨g, i * 3 + 2, none⟩ (.slice none 0 0)) (L.set j (.cells (.slice (some ⟨g, 0, none⟩) n cap) (rvs.set i (.slice none 0 0)) (cs.set i noCel))) := by
  have ho := h.owC j hX
  have hT : Turn (CellBlocks (.slice (some ⟨g, 0, none⟩) n cap) rvs) w (((w.setCell ⟨g, i * 3, none⟩ (.bool false)).setCell ⟨g, i * 3 + 1, none⟩ (.int .i64 0)).setCell ⟨g, i * 3 + 2, none⟩ (.slice none 0 0)) :=
    (((Turn.refl _ w).setCell _ (.inl rfl)).setCell _ (.inl rfl)).setCell _ (.inl rfl)
  refine h.turn j hX hT ?_ fun k hk => .inl ?_
  · have := ho.wipe hn hi
    show OwC _ lo _ _ _ _
    simpa only [World.size_setCell] using this
  · rcases hk with e | ⟨x, hx, e⟩
    · exact .inl e
    · rcases List.mem_or_eq_of_mem_set hx with h1 | rfl
      · exact .inr ⟨x, h1, e⟩
      · simp [Value.ownBlock] at e
end Go.Proofs.Ytjpfgbckmcjjaaa
