/- The program's table of operations: always the same one. For every call. -/
import Derived.Test.YtdkpfggfkhnjfaaZ2
import Derived.Laws.EntriesVeiled
import Derived.Laws.CopyRow
import Derived.Laws.Cells
namespace Go.Proofs.Ytdkpfggfkhnjfaa
open Go.RowKit
abbrev fnV (n : Nat) : Value := .func (.func n) #[] #[]
/-- The table. -/
def opsL : List Value := [.int .i64 0, .int .i64 0, .nilFunc, .nilFunc, .int .i64 3, .int .i64 99, fnV 68, .nilFunc, .int .i64 3, .int .i64 2, fnV 69, fnV 71, .int .i64 3, .int .i64 2, fnV 72, fnV 73, .int .i64 3, .int .i64 0, fnV 68, fnV 74, .int .i64 0, .int .i64 0, fnV 68, fnV 75, .int .i64 99, .int .i64 0, fnV 76, fnV 77]
abbrev opsV : Value := .agg #[.int .i64 0, .int .i64 0, .nilFunc, .nilFunc, .int .i64 3, .int .i64 99, fnV 68, .nilFunc, .int .i64 3, .int .i64 2, fnV 69, fnV 71, .int .i64 3, .int .i64 2, fnV 72, fnV 73, .int .i64 3, .int .i64 0, fnV 68, fnV 74, .int .i64 0, .int .i64 0, fnV 68, fnV 75, .int .i64 99, .int .i64 0, fnV 76, fnV 77]
theorem Try.infoOps : (Try.prog.info? 90).map (fun i => i.size) = some 28 := by kernel_rfl
theorem wp_storeW {P : Program} {w w' : World} {o : Oper} {a : Act} {K : Act → World → Prop} {Q : Exit → Act → World → Prop} (t : TypeId) (p x : Operand) (hop : o.op = .store t p x) {v u : Value} (hp : a.eval p = v) (hx : a.eval x = u) (h : (Instr.storeAt t v u).run P w = .ok () w') (hK : K (a.put o.dst undef) w') : o.wp P a w K Q := by
  unfold Oper.wp execOp
  subst hp hx
  simp only [hop, Sem.run_bind, Sem.run_pure, Result.andThen_ok, h, Oper.upon]
  exact hK
theorem modify_push {α : Type} (a : Array α) (o : α) (f : α → α) : (a.push o).modify a.size f = a.push (f o) := by
  apply Array.ext
  · rw [Array.size_modify, Array.size_push, Array.size_push]
  · intro i h1 h2
    rw [Array.getElem_modify, Array.getElem_push, Array.getElem_push]
    split
    · rename_i e; subst e
      rw [dif_neg (Nat.lt_irrefl _), dif_neg (Nat.lt_irrefl _)]
    · rename_i e
      rw [Array.size_modify, Array.size_push] at h1
      rw [dif_pos (by omega), dif_pos (by omega)]
theorem setRow_new (w : World) (zs vs : Array Value) (t : TypeId) : (w.alloc (.cells zs t)).setRow w.heap.size vs = w.alloc (.cells vs t) := by
  show World.mk .. = World.mk ..
  congr 1
  exact modify_push _ _ _
theorem run_sizeOf {P : Program} {t : TypeId} {i : TypeInfo} (hq : P.info? t = some i) (w : World) : (sizeOf t).run P w = .ok i.size w := by
  simp [sizeOf, typeInfo, hq]
set_option maxRecDepth 20000 in
theorem store_new (w : World) (zs : List Value) (hz : zs.length = 28) : (Instr.storeAt 90 (.pointer (some ⟨w.heap.size, 0, none⟩)) opsV).run Try.prog (w.alloc (.cells zs.toArray 90)) = .ok () (w.alloc (.cells opsL.toArray 90)) := by
  have hi := Try.infoOps
  cases hq : Try.prog.info? 90 with
  | none => rw [hq] at hi; cases hi
  | some i =>
    rw [hq] at hi
    simp only [Option.map_some, Option.some.injEq] at hi
    have hh : (w.alloc (.cells zs.toArray 90)).heap[w.heap.size]? = some (.cells zs.toArray 90 (0, 0)) := heap1 w _
    have hs := run_storeCells_at Try.prog w.heap.size 0 90 opsL 0 zs.toArray (w.alloc (.cells zs.toArray 90)) hh (by simp [hz, opsL]) (by decide)
    have e : (zs.toArray.toList.take (0 + 0) ++ opsL ++ zs.toArray.toList.drop (0 + 0 + opsL.length)).toArray = opsL.toArray := by
      rw [List.drop_of_length_le (by simp [hz, opsL])]
      simp
    rw [e] at hs
    rw [setRow_new] at hs
    have hn : opsV.cells.toList = opsL := rfl
    have hl : opsV.cells.size = 28 := rfl
    simp only [Instr.storeAt, Instr.sureAddr, storeVar, Sem.run_bind, Sem.run_pure, Result.andThen_ok, run_sizeOf hq, hi, hn, hl, hs, ne_eq, not_true_eq_false, if_false]
theorem cellAtNew (w : World) (vs : List Value) (t : TypeId) (j : Nat) : (w.alloc (.cells vs.toArray t)).cell? ⟨w.heap.size, j, none⟩ = vs[j]? := by
  have h1 := heap1 w (.cells vs.toArray t)
  unfold World.cell?
  rw [h1]
  simp
theorem Try.aggOps : Try.prog.underlying 90 = some (.array 7 89) := by kernel_rfl
set_option maxRecDepth 20000 in
theorem load_new (w : World) : (loadVar 90 ⟨w.heap.size, 0, none⟩).run Try.prog (w.alloc (.cells opsL.toArray 90)) = .ok opsV (w.alloc (.cells opsL.toArray 90)) := by
  have hi := Try.infoOps
  cases hq : Try.prog.info? 90 with
  | none => rw [hq] at hi; cases hi
  | some i =>
    rw [hq] at hi
    simp only [Option.map_some, Option.some.injEq] at hi
    have hs := run_loadCells_list (P := Try.prog) (w.alloc (.cells opsL.toArray 90)) ⟨w.heap.size, 0, none⟩ opsL (fun j v hj => by
      have h1 := cellAtNew w opsL 90 j
      rw [hj] at h1
      rw [← h1]
      unfold Addr.add
      split <;> simp_all)
    have hl : opsL.length = 28 := rfl
    rw [hl] at hs
    simp only [loadVar, isAgg, Sem.run_bind, Sem.run_pure, Result.andThen_ok, run_sizeOf hq, hi, hs, run_underlying Try.aggOps, if_true]
    rfl
set_option maxHeartbeats 3200000 in
set_option maxRecDepth 20000 in
theorem operations_any (w : World) : Calls Try.prog 65 #[] w fun e w' => e = .returned opsV ∧ Below w.heap.size w w' := by
  go_enter Try.func65, Try.ntmps65
  iterate 33 go_step
  refine wp_storeW 90 (.tmp 0) (.tmp 7) rfl rfl rfl (store_new w _ rfl) ?_
  iterate 6 go_step
  refine bodyPost_ret (v := opsV) ?_ rfl ⟨rfl, (below_alloc _ _)⟩
  have hL := load_new w
  simp only [results, Try.results65]
  simp [hL, asAddr, Act.put]
end Go.Proofs.Ytdkpfggfkhnjfaa
