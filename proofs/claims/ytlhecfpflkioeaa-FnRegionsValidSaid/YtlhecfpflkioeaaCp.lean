/- Copies of slices and heaps: clone, copyHeap, l7Copy: each makes what it was handed. -/
import Derived.Test.YtlhecfpflkioeaaApp
import Derived.Test.YtlhecfpflkioeaaLew
import Derived.Test.YtlhecfpflkioeaaMk
import Derived.Deep.Upon
namespace Go.Proofs.Ytlhecfpflkioeaa
open Go.RowKit
theorem run_pushA {w : World} {lo B : Nat} {v : Value} {xs ys : List Int} {A : Option Addr} {n c : Nat} (hown : w.ownsRow lo 3 1 v xs.length (xs.map (Value.int .i64))) (hr : RdI w B A n c ys) (hb : xs.length + n ≤ 1099511627776) (hlo : lo ≤ w.heap.size) (ty : TypeId) :
    ∃ v' w', (Builtin.append_ #[24, 24] ty #[v, .slice A n c]).run Try.prog w = .ok v' w' ∧ OwI w' lo w'.heap.size v' (xs ++ ys) ∧ w.grownBy w' v.ownBlock := by
  obtain ⟨i0, hi, hz0, hz1, hz2⟩ := info_parts Try.infoInt
  have l1 := RdI.le1 hr; have l2 := RdI.le2 hr
  rcases Nat.eq_zero_or_pos n with h0 | h0
  · subst h0
    obtain rfl : ys = [] := List.length_eq_zero_iff.1 (by omega)
    have hs : Src Try.prog i0.size 24 (.slice A 0 c) 0 [] w := by
      cases A with
      | none => exact Src.ofNil w Try.underlying24 c
      | some a => exact Src.ofSlice w Try.underlying24 a 0 c [] (by simp) (by simp) (by simp)
    have hold : OwI w lo w.heap.size v (xs ++ []) := by rw [List.append_nil]; exact ⟨hown, fun k e => (hown.lt k e).2⟩
    rcases hown.2 with ⟨rfl, _⟩ | ⟨g, cap, cur, rfl, _, _, hc, _⟩
    · exact ⟨_, w, run_append_nothing w _ _ ty 3 i0 Try.underlying24 hi none 0 0 (Nat.le_refl _) _ hs, hold, World.grownBy.refl _ _⟩
    · exact ⟨_, w, run_append_nothing w _ _ ty 3 i0 Try.underlying24 hi (some ⟨g, 0, none⟩) _ cap hc _ hs, hold, World.grownBy.refl _ _⟩
  · obtain ⟨b, o, rfl, hbb, hc⟩ := hr.rd h0
    obtain ⟨v', w', hrun, ho, hg, -, -⟩ := run_append_own_at (P := Try.prog) w lo 24 ty 3 i0 (.int .i64 0) 1 8 Try.underlying24 hi hz0 hz1 hz2 rfl (by omega) v xs.length _ hown ⟨b, o, none⟩ n c (ys.map (Value.int .i64)) (by simp; omega)
      (fun j u hu => by rw [show (⟨b, o, none⟩ : Addr).add j = ⟨b, o + j, none⟩ from Addr.add_lit _ _ _]; exact hc j u hu) (mapI_oneCell ys) (by unfold maxLen; omega) (by omega) hlo
    refine ⟨v', w', hrun, ?_, hg⟩
    have hlen : xs.length + n = (xs ++ ys).length := by simp; omega
    rw [hlen, ← List.map_append] at ho
    exact ⟨ho, fun k e => (ho.lt k e).2⟩
theorem wpList_pushA {w : World} {ops : Array Oper} {rest : List Oper} {o : Oper} {a : Act} {Q : Exit → Act → World → Prop} (hgd : o.guard = none) (s x : Operand)
    (hop : o.op = .call { callee := .builtin .append, args := #[s, x], argTypes := #[24, 24] })
    (lo : Nat) (v : Value) (xs : List Int) (hs : a.eval s = v) (hown : w.ownsRow lo 3 1 v xs.length (xs.map (Value.int .i64)))
    {B : Nat} {A : Option Addr} {n c : Nat} {ys : List Int} (hx : a.eval x = .slice A n c) (hr : RdI w B A n c ys) (hb : xs.length + n ≤ 1099511627776) (hlo : lo ≤ w.heap.size)
    (h : ∀ v' w', OwI w' lo w'.heap.size v' (xs ++ ys) → w.grownBy w' v.ownBlock → wpList Try.prog ops Q rest (a.put o.dst v') w') : wpList Try.prog ops Q (o :: rest) a w := by
  refine wpList_plain hgd fun K hK => ?_
  obtain ⟨v', w', hrun, ho, hg⟩ := run_pushA hown hr hb hlo o.type
  unfold Oper.wp execOp
  simp only [hop, resolve, invoke, builtin, Sem.run_bind, Sem.run_pure, Result.andThen_ok, List.map_toArray, List.map_cons, List.map_nil, hs, hx, hrun]
  exact hK _ _ (h v' w' ho hg)

theorem wp_pushA {w : World} {o : Oper} {a : Act} {K : Act → World → Prop} {Q : Exit → Act → World → Prop} (s x : Operand)
    (hop : o.op = .call { callee := .builtin .append, args := #[s, x], argTypes := #[24, 24] })
    (lo : Nat) (v : Value) (xs : List Int) (hs : a.eval s = v) (hown : w.ownsRow lo 3 1 v xs.length (xs.map (Value.int .i64)))
    {B : Nat} {A : Option Addr} {n c : Nat} {ys : List Int} (hx : a.eval x = .slice A n c) (hr : RdI w B A n c ys) (hb : xs.length + n ≤ 1099511627776) (hlo : lo ≤ w.heap.size)
    (h : ∀ v' w', OwI w' lo w'.heap.size v' (xs ++ ys) → w.grownBy w' v.ownBlock → K (a.put o.dst v') w') : o.wp Try.prog a w K Q := by
  obtain ⟨v', w', hrun, ho, hg⟩ := run_pushA hown hr hb hlo o.type
  unfold Oper.wp execOp
  simp only [hop, resolve, invoke, builtin, Sem.run_bind, Sem.run_pure, Result.andThen_ok, List.map_toArray, List.map_cons, List.map_nil, hs, hx, hrun]
  exact h v' w' ho hg
theorem clone_any (w : World) (B : Nat) (A : Option Addr) (n c : Nat) (xs : List Int) (hr : RdI w B A n c xs) (hn : n ≤ 1048576) :
    Calls Try.prog 48 #[.slice A n c] w (MadeI w xs) := by
  have hr := hr.top
  obtain ⟨i0, hi, hz0, hz1, hz2⟩ := info_parts Try.infoInt
  go_enter Try.func48, Try.ntmps48
  go_wp2_with (at_make; refine wpList_make_own _ rfl _ _ _ rfl w.heap.size 3 i0 (.int .i64 0) 1 Try.underlying24 hi hz0 hz1 .i64 .i64 _ n rfl rfl rfl (by rw [hz2]; omega) (by unfold maxLen; omega) (Nat.le_refl _) ?_)
  intro w2 hown hg
  have hb1 : Below w.heap.size w w2 := (Below.refl _ _).grown hg (Nat.le_refl _) (by simp)
  have hz := hb1.size
  go_wp2_with (at_builtin; go_loud (refine wpList_pushA rfl (.tmp 5) (.tmp 6) rfl w.heap.size _ [] rfl hown rfl (hr.below hb1) (by simp; omega) hz ?_; intro v3 w3 ho3 hg3))
  go_ret
  exact ⟨_, rfl, by simpa using ho3, hb1.grown hg3 hz fun k hk => (hown.lt k hk).1⟩
theorem apart_symm {a b : Value} (h : Apart a b) : Apart b a := by
  unfold Apart at *
  cases hb : b.ownBlock with
  | none => exact .inl rfl
  | some k =>
    refine .inr fun e => ?_
    rcases h with h | h
    · rw [h] at e; cases e
    · exact h (by rw [hb]; exact e.symm)
theorem OwC.push {w w' : World} {lo hi : Nat} {v v' : Value} {rvs : List Value} {cs : List Cel} (ho : OwC w lo hi v rvs cs) {c : Cel} {rv : Value} (hrv : OwI w lo w.heap.size rv c.refs) (hap : ∀ x ∈ rvs, Apart rv x)
    (hown : w'.ownsRow lo 61 3 v' (cs.length + 1) (cellVals cs rvs ++ [.bool c.used, .int .i64 c.data, rv])) (hg : w.grownBy w' v.ownBlock) (hhi : hi ≤ w.heap.size) : OwC w' lo w'.heap.size v' (rvs ++ [rv]) (cs ++ [c]) := by
  have hsame := ho.same
  refine ⟨by simp [hsame], by rw [cellVals_snoc _ _ _ _ hsame, List.length_append]; exact hown, fun k e => (hown.lt k e).2, fun i q d h1 h2 => ?_, fun i j a b hij h1 h2 => ?_⟩
  · have keep : ∀ {q : Value} {xs : List Int}, OwI w lo w.heap.size q xs → OwI w' lo w'.heap.size q xs := fun {q xs} hq =>
      (hq.keep1 fun k e => hg.block k (hq.own.lt k e).2 fun e' => own_ne ho.own hq.own (by decide) e'.symm e).wide (Nat.le_refl _) hg.size
    rcases snoc_cases h1 with ⟨hi1, h1⟩ | ⟨hi1, rfl⟩
    · rcases snoc_cases h2 with ⟨_, h2⟩ | ⟨hi2, _⟩
      · exact keep ((ho.refs i q d h1 h2).wide (Nat.le_refl _) hhi)
      · omega
    · rcases snoc_cases h2 with ⟨hi2, _⟩ | ⟨_, rfl⟩
      · omega
      · exact keep hrv
  · rcases snoc_cases h1 with ⟨hi1, k1⟩ | ⟨hi1, rfl⟩ <;> rcases snoc_cases h2 with ⟨hj, k2⟩ | ⟨hj, rfl⟩
    · exact ho.apart i j a b hij k1 k2
    · exact apart_symm (hap a (List.mem_of_getElem? k1))
    · exact hap b (List.mem_of_getElem? k2)
    · omega
theorem run_pushC {w : World} {lo hi : Nat} {v : Value} {rvs : List Value} {cs : List Cel} (ho : OwC w lo hi v rvs cs) (hhi : hi ≤ w.heap.size) {g : Nat} {c : Cel} {rv : Value} (hrv : OwI w lo w.heap.size rv c.refs) (hap : ∀ x ∈ rvs, Apart rv x) (hone : rv.oneCell' = true)
    (hb : w.heap[g]? = some (.cells #[.bool c.used, .int .i64 c.data, rv] 61)) (hn : cs.length + 1 ≤ 1099511627776) (hlo : lo ≤ w.heap.size) (ty : TypeId) (k : Nat) :
    ∃ v' w', (Builtin.append_ #[23, 23] ty #[v, .slice (some ⟨g, 0, none⟩) 1 k]).run Try.prog w = .ok v' w' ∧ OwC w' lo w'.heap.size v' (rvs ++ [rv]) (cs ++ [c]) ∧ w.grownBy w' v.ownBlock := by
  obtain ⟨i0, hi0, hz0, hz1, hz2⟩ := info_parts Try.infoCell
  obtain ⟨v', w', hrun, hown, hg, -, -⟩ := run_append_own_at (P := Try.prog) w lo 23 ty 61 i0 (.agg #[.bool false, .int .i64 0, .slice none 0 0]) 3 40 Try.underlying23 hi0 hz0 hz1 hz2 rfl (by omega) v cs.length _ ho.own ⟨g, 0, none⟩ 1 k [.bool c.used, .int .i64 c.data, rv] rfl
    (World.news_of_block hb) (by simp [hone]; exact ⟨rfl, rfl⟩) (by unfold maxLen; omega) (by omega) hlo
  exact ⟨v', w', hrun, ho.push hrv hap hown hg hhi, hg⟩
theorem wp_pushC {w : World} {o : Oper} {a : Act} {K : Act → World → Prop} {Q : Exit → Act → World → Prop} (s x : Operand)
    (hop : o.op = .call { callee := .builtin .append, args := #[s, x], argTypes := #[23, 23] })
    {lo hi : Nat} {v : Value} {rvs : List Value} {cs : List Cel} (hs : a.eval s = v) (ho : OwC w lo hi v rvs cs) (hhi : hi ≤ w.heap.size) {g k : Nat} {c : Cel} {rv : Value} (hx : a.eval x = .slice (some ⟨g, 0, none⟩) 1 k) (hrv : OwI w lo w.heap.size rv c.refs) (hap : ∀ x ∈ rvs, Apart rv x) (hone : rv.oneCell' = true)
    (hb : w.heap[g]? = some (.cells #[.bool c.used, .int .i64 c.data, rv] 61)) (hn : cs.length + 1 ≤ 1099511627776) (hlo : lo ≤ w.heap.size)
    (h : ∀ v' w', OwC w' lo w'.heap.size v' (rvs ++ [rv]) (cs ++ [c]) → w.grownBy w' v.ownBlock → K (a.put o.dst v') w') : o.wp Try.prog a w K Q := by
  obtain ⟨v', w', hrun, h1, hg⟩ := run_pushC ho hhi hrv hap hone hb hn hlo o.type k
  unfold Oper.wp execOp
  simp only [hop, resolve, invoke, builtin, Sem.run_bind, Sem.run_pure, Result.andThen_ok, List.map_toArray, List.map_cons, List.map_nil, hs, hx, hrun]
  exact h v' w' h1 hg
end Go.Proofs.Ytlhecfpflkioeaa
