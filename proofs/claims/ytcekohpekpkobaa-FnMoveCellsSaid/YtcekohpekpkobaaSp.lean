/- Two cells that a call owns change places. No program is walked. -/
import Derived.Test.YtcekohpekpkobaaZ1
namespace Go.Proofs.Ytcekohpekpkobaa
open Go.RowKit
theorem cellVals_put3 : ∀ (cs : List Cel) (rvs : List Value) (i : Nat) (l : Cel) (rv : Value), rvs.length = cs.length → i < cs.length →
    cellVals (cs.set i l) (rvs.set i rv) = (((cellVals cs rvs).set (i * 3) (.bool l.used)).set (i * 3 + 1) (.int .i64 l.data)).set (i * 3 + 2) rv
  | [], _, _, _, _, _, h => by simp at h
  | _ :: _, [], _, _, _, h, _ => by simp at h
  | c :: cs, q :: rvs, 0, l, rv, _, _ => by simp [cellVals]
  | c :: cs, q :: rvs, i + 1, l, rv, hl, h => by
    have := cellVals_put3 cs rvs i l rv (by simpa using hl) (by simpa using h)
    have e : (i + 1) * 3 = i * 3 + 3 := by omega
    rw [e, List.set_cons_succ, List.set_cons_succ, cellVals, this]
    simp [cellVals]
def swapN (a b i : Nat) : Nat := if i = b then a else if i = a then b else i
theorem swapN_inj {a b i j : Nat} (h : i ≠ j) : swapN a b i ≠ swapN a b j := by unfold swapN; split <;> split <;> (try split) <;> (try split) <;> omega
theorem get_swap {α : Type} {l : List α} {a b : Nat} {x y : α} (ha : l[a]? = some x) (hb : l[b]? = some y) (i : Nat) : ((l.set a y).set b x)[i]? = l[swapN a b i]? := by
  have la := (List.getElem?_eq_some_iff.1 ha).1
  have lb := (List.getElem?_eq_some_iff.1 hb).1
  unfold swapN
  rw [List.getElem?_set, List.getElem?_set]
  by_cases h1 : i = b
  · rw [if_pos h1, if_pos h1.symm, if_pos (by simpa using lb), ha]
  · rw [if_neg h1, if_neg (fun e => h1 e.symm)]
    by_cases h2 : i = a
    · rw [if_pos h2, if_pos h2.symm, if_pos la, hb]
    · rw [if_neg h2, if_neg (fun e => h2 e.symm)]
/-- A cell's three words are written. -/
def putCell3 (w : World) (g i : Nat) (l : Cel) (rv : Value) : World := ((w.setCell ⟨g, i * 3, none⟩ (.bool l.used)).setCell ⟨g, i * 3 + 1, none⟩ (.int .i64 l.data)).setCell ⟨g, i * 3 + 2, none⟩ rv
theorem putCell3_far (w : World) (g i : Nat) (l : Cel) (rv : Value) (k : Nat) (hk : k ≠ g) : (putCell3 w g i l rv).heap[k]? = w.heap[k]? := by
  unfold putCell3
  rw [Below.heap_setCell _ _ _ k (by exact hk), Below.heap_setCell _ _ _ k (by exact hk), Below.heap_setCell _ _ _ k (by exact hk)]
theorem OwC.swap {w : World} {lo hi : Nat} {rvs : List Value} {cs : List Cel} {g n cap a b : Nat} {la lb : Cel} {ra rb : Value} (ho : OwC w lo hi (.slice (some ⟨g, 0, none⟩) n cap) rvs cs) (hn : n = cs.length)
    (ha : cs[a]? = some la) (hb : cs[b]? = some lb) (hra : rvs[a]? = some ra) (hrb : rvs[b]? = some rb) :
    OwC (putCell3 (putCell3 w g a lb rb) g b la ra) lo hi (.slice (some ⟨g, 0, none⟩) n cap) ((rvs.set a rb).set b ra) ((cs.set a lb).set b la) := by
  subst hn
  have hal := (List.getElem?_eq_some_iff.1 ha).1
  have hbl := (List.getElem?_eq_some_iff.1 hb).1
  obtain ⟨s1, -⟩ := ho.own.stored (a * 3) (.bool lb.used)
  obtain ⟨s2, -⟩ := s1.stored (a * 3 + 1) (.int .i64 lb.data)
  obtain ⟨s3, -⟩ := s2.stored (a * 3 + 2) rb
  rw [← cellVals_put3 cs rvs a lb rb ho.same hal] at s3
  obtain ⟨s4, -⟩ := s3.stored (b * 3) (.bool la.used)
  obtain ⟨s5, -⟩ := s4.stored (b * 3 + 1) (.int .i64 la.data)
  obtain ⟨s6, -⟩ := s5.stored (b * 3 + 2) ra
  rw [← cellVals_put3 (cs.set a lb) (rvs.set a rb) b la ra (by simp [ho.same]) (by simpa using hbl)] at s6
  have hfar : ∀ k, k ≠ g → (putCell3 (putCell3 w g a lb rb) g b la ra).heap[k]? = w.heap[k]? := fun k hk => (putCell3_far _ _ _ _ _ k hk).trans (putCell3_far _ _ _ _ _ k hk)
  refine ⟨by simp [ho.same], ?_, ho.lt, fun i rv c h1 h2 => ?_, fun i j x y hij hx hy => ?_⟩
  · show World.ownsRow _ _ _ _ _ ((cs.set a lb).set b la).length _
    rw [List.length_set, List.length_set]
    exact s6
  · rw [get_swap hra hrb] at h1
    rw [get_swap ha hb] at h2
    have hI := ho.refs _ rv c h1 h2
    exact hI.keep1 fun k hk => hfar k fun e => own_ne hI.own ho.own (by decide) hk (by rw [e]; rfl)
  · rw [get_swap hra hrb] at hx hy
    exact ho.apart _ _ x y (swapN_inj hij) hx hy
theorem Owns.swapCells {lo : Nat} {w0 w : World} {L : List OB} {rvs : List Value} {cs : List Cel} {g n cap a b : Nat} {la lb : Cel} {ra rb : Value} (h : Owns lo w0 w L) (j : Nat) (hX : L[j]? = some (.cells (.slice (some ⟨g, 0, none⟩) n cap) rvs cs)) (hn : n = cs.length)
    (ha : cs[a]? = some la) (hb : cs[b]? = some lb) (hra : rvs[a]? = some ra) (hrb : rvs[b]? = some rb) :
    Owns lo w0 (putCell3 (putCell3 w g a lb rb) g b la ra) (L.set j (.cells (.slice (some ⟨g, 0, none⟩) n cap) ((rvs.set a rb).set b ra) ((cs.set a lb).set b la))) := by
  have ho := h.owC j hX
  have hT : Turn (CellBlocks (.slice (some ⟨g, 0, none⟩) n cap) rvs) w (putCell3 (putCell3 w g a lb rb) g b la ra) :=
    ((((((Turn.refl _ w).setCell _ (.inl rfl)).setCell _ (.inl rfl)).setCell _ (.inl rfl)).setCell _ (.inl rfl)).setCell _ (.inl rfl)).setCell _ (.inl rfl)
  refine h.turn j hX hT ?_ fun k hk => .inl ?_
  · have := ho.swap hn ha hb hra hrb
    show OwC _ lo _ _ _ _
    unfold putCell3 at this ⊢
    simpa only [World.size_setCell] using this
  · rcases hk with e | ⟨x, hx, e⟩
    · exact .inl e
    · obtain ⟨i, hi⟩ := List.getElem?_of_mem hx
      rw [get_swap hra hrb] at hi
      exact .inr ⟨x, List.mem_of_getElem? hi, e⟩
/-- Behind a cell's three words any cell can be written. -/
theorem Owns.after3 {lo : Nat} {w0 w : World} {L : List OB} {rvs : List Value} {cs : List Cel} {g n cap a b : Nat} (h : Owns lo w0 w L) (j : Nat) (hX : L[j]? = some (.cells (.slice (some ⟨g, 0, none⟩) n cap) rvs cs)) (hn : n = cs.length) (hb : b < cs.length) (p q r : Value) :
    ∃ x y z, (((w.setCell ⟨g, a * 3, none⟩ p).setCell ⟨g, a * 3 + 1, none⟩ q).setCell ⟨g, a * 3 + 2, none⟩ r).cell? ⟨g, b * 3, none⟩ = some x ∧ (((w.setCell ⟨g, a * 3, none⟩ p).setCell ⟨g, a * 3 + 1, none⟩ q).setCell ⟨g, a * 3 + 2, none⟩ r).cell? ⟨g, b * 3 + 1, none⟩ = some y ∧ (((w.setCell ⟨g, a * 3, none⟩ p).setCell ⟨g, a * 3 + 1, none⟩ q).setCell ⟨g, a * 3 + 2, none⟩ r).cell? ⟨g, b * 3 + 2, none⟩ = some z ∧
    (((w.setCell ⟨g, a * 3, none⟩ p).setCell ⟨g, a * 3 + 1, none⟩ q).setCell ⟨g, a * 3 + 2, none⟩ r).frozen? ⟨g, b * 3, none⟩ = false ∧ (((w.setCell ⟨g, a * 3, none⟩ p).setCell ⟨g, a * 3 + 1, none⟩ q).setCell ⟨g, a * 3 + 2, none⟩ r).frozen? ⟨g, b * 3 + 1, none⟩ = false ∧ (((w.setCell ⟨g, a * 3, none⟩ p).setCell ⟨g, a * 3 + 1, none⟩ q).setCell ⟨g, a * 3 + 2, none⟩ r).frozen? ⟨g, b * 3 + 2, none⟩ = false := by
  subst hn
  have ho := h.owC j hX
  obtain ⟨s1, -⟩ := ho.own.stored (a * 3) p
  obtain ⟨s2, -⟩ := s1.stored (a * 3 + 1) q
  obtain ⟨s3, -⟩ := s2.stored (a * 3 + 2) r
  have hl := s3.1
  exact ⟨_, _, _, (s3.cellAt (b * 3) (by omega)).trans (List.getElem?_eq_getElem (by omega)), (s3.cellAt (b * 3 + 1) (by omega)).trans (List.getElem?_eq_getElem (by omega)), (s3.cellAt (b * 3 + 2) (by omega)).trans (List.getElem?_eq_getElem (by omega)), s3.frozenAt _, s3.frozenAt _, s3.frozenAt _⟩
/-- What another block holds reads on. -/
theorem cell_far {w : World} {g : Nat} {p : Addr} {u v : Value} (j : Nat) (h : w.cell? p = some v) (hp : p.block ≠ g) : (w.setCell ⟨g, j, none⟩ u).cell? p = some v := by
  rw [← h]
  have e := Below.heap_setCell w ⟨g, j, none⟩ u p.block (by exact hp)
  obtain ⟨b, o, s⟩ := p
  simp only at e
  simp only [World.cell?, e]
end Go.Proofs.Ytcekohpekpkobaa
