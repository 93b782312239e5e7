/- A row of cells that has the references of another: how it is read; append of all cells of a heap to an empty row. For every world. -/
import Derived.Test.YtnpehidhoekfcaaPu
import Derived.Test.YtnpehidhoekfcaaOo
namespace Go.Proofs.Ytnpehidhoekfcaa
open Go.RowKit
section
variable {lo : Nat} {w0 w : World} {L : List OB}
theorem Owns.sizeName (_ : Owns lo w0 w L) : ∃ g, w.heap.size = g := ⟨_, rfl⟩
abbrev OB.rowC (v : Value) (n : Nat) (ys : List Value) : OB := .row 40 3 v n ys
theorem Owns.litC0 (h : Owns lo w0 w L) : Owns lo w0 (w.alloc (.cells #[] 40)) (.rowC (.slice (some ⟨w.heap.size, 0, none⟩) 0 0) 0 [] :: L) := by
  refine h.row (below_alloc _ _) ⟨rfl, .inr ⟨w.heap.size, 0, #[], rfl, Nat.le_refl _, heap1 w _, Nat.le_refl _, zero_le_maxLen, rfl, rfl⟩⟩
theorem cellVals_one {lo hi : Nat} {v : Value} {rvs : List Value} {cs : List Cel} (ho : OwC w lo hi v rvs cs) : ∀ u ∈ cellVals cs rvs, u.oneCell' = true := by
  have key : ∀ (cs : List Cel) (rvs : List Value), (∀ (i : Nat) (rv : Value) (c : Cel), rvs[i]? = some rv → cs[i]? = some c → rv.oneCell' = true) → ∀ u ∈ cellVals cs rvs, u.oneCell' = true := by
    intro cs
    induction cs with
    | nil => intro rvs _ u hu; simp [cellVals] at hu
    | cons c cs ih =>
      intro rvs hr u hu
      cases rvs with
      | nil => simp [cellVals] at hu
      | cons rv rvs =>
        simp only [cellVals, List.mem_cons] at hu
        rcases hu with rfl | rfl | rfl | hu
        · rfl
        · rfl
        · exact hr 0 u c rfl rfl
        · exact ih rvs (fun i rv c h1 h2 => hr (i + 1) rv c h1 h2) u hu
  refine key cs rvs fun i rv c h1 h2 => ?_
  obtain ⟨A, k, rfl, -⟩ := (ho.refs i rv c h1 h2).form
  rfl
theorem run_pushAll (h : Owns lo w0 w L) (i j : Nat) {v : Value} {g c : Nat} {rvs : List Value} {cs : List Cel} (hX : L[i]? = some (.rowC v 0 [])) (hY : L[j]? = some (.cells (.slice (some ⟨g, 0, none⟩) cs.length c) rvs cs)) (hn : cs.length ≤ 1048576) (ty : TypeId) :
    ∃ A' c' w', (Builtin.append_ #[25, 25] ty #[v, .slice (some ⟨g, 0, none⟩) cs.length c]).run Try.prog w = .ok (.slice A' cs.length c') w' ∧ Owns lo w0 w' (L.set i (.rowC (.slice A' cs.length c') cs.length (cellVals cs rvs))) := by
  have hC := h.owC j hY
  obtain ⟨i0, hi0, hz0, hz1, hz2⟩ := info_parts Try.infoCell
  obtain ⟨v', w', hrun, hown, hg, -, hat⟩ := run_append_own_at (P := Try.prog) w lo 25 ty 40 i0 (.agg #[.bool false, .int .i64 0, .slice none 0 0]) 3 40 Try.underlying25 hi0 hz0 hz1 hz2 rfl (by omega) v 0 [] (h.own i hX) ⟨g, 0, none⟩ cs.length c (cellVals cs rvs) hC.own.1
    (fun k u hu => hC.own.cells (g := g) rfl k u hu) (cellVals_one hC) (by unfold maxLen; omega) (by omega) h.le
  rw [Nat.zero_add, List.nil_append] at hown
  have hv : ∃ A' c', v' = .slice A' cs.length c' := by
    rcases hown.2 with ⟨rfl, h0⟩ | ⟨g', cap, cur, rfl, -⟩
    · exact ⟨none, 0, by rw [h0]⟩
    · exact ⟨_, _, rfl⟩
  obtain ⟨A', c', rfl⟩ := hv
  exact ⟨A', c', w', hrun, h.grow i hX hown hg hat⟩
theorem wp_pushAll {o : Oper} {a : Act} {K : Act → World → Prop} {Q : Exit → Act → World → Prop} (s x : Operand)
    (hop : o.op = .call { callee := .builtin .append, args := #[s, x], argTypes := #[25, 25] })
    (h : Owns lo w0 w L) (i j : Nat) {v : Value} {g c : Nat} {rvs : List Value} {cs : List Cel} (hX : L[i]? = some (.rowC v 0 [])) (hY : L[j]? = some (.cells (.slice (some ⟨g, 0, none⟩) cs.length c) rvs cs)) (hn : cs.length ≤ 1048576)
    (hs : a.eval s = v) (hx : a.eval x = .slice (some ⟨g, 0, none⟩) cs.length c)
    (hK : ∀ A' c' w', Owns lo w0 w' (L.set i (.rowC (.slice A' cs.length c') cs.length (cellVals cs rvs))) → K (a.put o.dst (.slice A' cs.length c')) w') : o.wp Try.prog a w K Q := by
  obtain ⟨A', c', w', hrun, hO⟩ := run_pushAll h i j hX hY hn o.type
  unfold Oper.wp execOp
  simp only [hop, resolve, invoke, builtin, Sem.run_bind, Sem.run_pure, Result.andThen_ok, List.map_toArray, List.map_cons, List.map_nil, hs, hx, hrun]
  exact hK A' c' w' hO
/-- A row of cells with the references of an owned row is read as cells. -/
theorem Owns.rdRow {n : Nat} (h : Owns lo w0 w L) (i j : Nat) {v cv : Value} {rvs : List Value} {cs cs' : List Cel} (hX : L[i]? = some (.rowC v n (cellVals cs' rvs))) (hY : L[j]? = some (.cells cv rvs cs)) (hn' : n = cs'.length) (hl : cs'.length = cs.length) (hr : ∀ (k : Nat) (c' c : Cel), cs'[k]? = some c' → cs[k]? = some c → c'.refs = c.refs) : ∃ A c, v = .slice A n c ∧ RdC w w.heap.size A n c cs' := by
  subst hn'
  have ho := h.owC j hY
  have hown := h.own i hX
  rcases hown.2 with ⟨rfl, h0⟩ | ⟨g, cap, cur, rfl, hb, hg, hn, hm, hs, ht⟩
  · exact ⟨none, 0, by rw [h0], by omega, by omega, by unfold maxLen; omega, fun h => by omega⟩
  · refine ⟨_, cap, rfl, rfl, hn, hm, fun _ => ⟨g, 0, rfl, (hown.lt g rfl).2, fun k l hkl => ?_⟩⟩
    have hk := (List.getElem?_eq_some_iff.1 hkl).1
    have hkr : k < rvs.length := by rw [ho.same]; omega
    obtain ⟨e1, e2, e3⟩ := cellVals_at cs' rvs k l rvs[k] hkl (List.getElem?_eq_getElem hkr)
    have c1 := hown.cells (g := g) rfl _ _ e1
    have c2 := hown.cells (g := g) rfl _ _ e2
    have c3 := hown.cells (g := g) rfl _ _ e3
    rw [add_lit0] at c1 c2 c3
    obtain ⟨l0, hl0⟩ : ∃ l0, cs[k]? = some l0 := ⟨_, List.getElem?_eq_getElem (by omega)⟩
    obtain ⟨A, c, hv, hrd⟩ := (ho.refs k _ l0 (List.getElem?_eq_getElem hkr) hl0).form
    rw [hv] at c3
    refine ⟨by simpa only [Nat.zero_add] using c1, by simpa only [Nat.zero_add] using c2, A, _, c, by simpa only [Nat.zero_add] using c3, ?_⟩
    rw [hr k l l0 hkl hl0]
    exact hrd
end
end Go.Proofs.Ytnpehidhoekfcaa
