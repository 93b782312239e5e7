/- The laws' size, copy and equality functions over programs, for sizes up to 2^20; a program among a law's arguments. -/
import Derived.Test.YtpafdaooddbpkaaQ
import Derived.Test.YtpafdaooddbpkaaZ1
import Derived.Test.YtpafdaooddbpkaaZ0
namespace Go.Proofs.Ytpafdaooddbpkaa
open Go.RowKit
def zcmds : Nat → List Value
  | 0 => []
  | m + 1 => .int .i64 0 :: .int .i64 0 :: .int .i64 0 :: .int .i64 0 :: zcmds m
theorem zcmds_eq : ∀ m, zcmds m = List.replicate (m * 4) (.int .i64 0)
  | 0 => rfl
  | m + 1 => by rw [zcmds, zcmds_eq m, show (m + 1) * 4 = m * 4 + 1 + 1 + 1 + 1 by omega, List.replicate_succ, List.replicate_succ, List.replicate_succ, List.replicate_succ]
theorem made_zcmds (n : Nat) : (madeCells #[Value.int .i64 0, .int .i64 0, .int .i64 0, .int .i64 0] (n * 4)).toList = zcmds n := by
  rw [zcmds_eq]
  apply List.ext_getElem?
  intro j
  by_cases hj : j < n * 4
  · have h3 : j % 4 < 4 := Nat.mod_lt _ (by omega)
    have e : j % 4 = 0 ∨ j % 4 = 1 ∨ j % 4 = 2 ∨ j % 4 = 3 := by omega
    rcases e with e | e | e | e <;> simp [madeCells, hj, e]
  · simp [madeCells, hj]
theorem fill4 (ps : List Cmd) (k n : Nat) (p : Cmd) (hk : Hid (ps[k]? = some p)) (hn : k < n) :
    ((((cmdVals (ps.take k) ++ zcmds (n - k)).set (k * 4) (.int .i64 p.op)).set (k * 4 + 1) (.int .i64 p.a)).set (k * 4 + 2) (.int .i64 p.b)).set (k * 4 + 3) (.int .i64 p.c) = cmdVals (ps.take (k + 1)) ++ zcmds (n - (k + 1)) := by
  obtain ⟨hk', he⟩ := List.getElem?_eq_some_iff.1 hk.out
  have hL : (cmdVals (ps.take k)).length = k * 4 := by rw [cmdVals_length, List.length_take]; omega
  rw [List.take_succ_eq_append_getElem hk', cmdVals_snoc, he]
  generalize cmdVals (ps.take k) = L at *
  have e : n - k = (n - (k + 1)) + 1 := by omega
  rw [e]
  rw [List.set_append_right _ _ (by omega), List.set_append_right _ _ (by omega), List.set_append_right _ _ (by omega), List.set_append_right _ _ (by omega)]
  rw [hL, show k * 4 - k * 4 = 0 by omega, show k * 4 + 1 - k * 4 = 1 by omega, show k * 4 + 2 - k * 4 = 2 by omega, show k * 4 + 3 - k * 4 = 3 by omega]
  simp [zcmds]
def MadeQ (w : World) (ps : List Cmd) (e : Ending) (w' : World) : Prop := ∃ v, e = .returned v ∧ Owns w.heap.size w w' [.cmds v ps]
theorem szCommands_any (A : Option Addr) (n c : Nat) (l : Int) (w : World) (hn : n ≤ maxLen) (h0 : 0 ≤ l) (h1 : l ≤ 1048576) :
    Calls Try.prog 24 #[.slice A n c, .int .i64 l] w fun e w' => e = .returned (.int .i64 (szI n l)) ∧ w = w' := by
  unfold maxLen at hn
  by_cases h : (n : Int) ≤ l
  · go_enter Try.func24, Try.ntmps24
    go_wp2
    go_ret
    exact ⟨ret_i (szI_yes h).symm, rfl⟩
  · go_enter Try.func24, Try.ntmps24
    go_wp2
    go_ret
    exact ⟨ret_i (szI_no (by omega)).symm, rfl⟩
set_option maxHeartbeats 1600000 in
theorem toCommand_any (w : World) (op a b c : Int) :
    Calls Try.prog 51 #[.agg #[.int .i64 op, .int .i64 a, .int .i64 b, .int .i64 c]] w fun e w' => e = .returned (.agg #[.int .i64 op, .int .i64 a, .int .i64 b, .int .i64 c]) ∧ Below w.heap.size w w' := by
  go_enter Try.func51, Try.ntmps51
  go_wp2
  refine bodyPost_ret (v := .agg #[.int .i64 op, .int .i64 a, .int .i64 b, .int .i64 c]) (by simp [results, Try.results51, go_sem]) rfl ⟨rfl, ?_⟩
  exact ((below_alloc _ _).alloc (by simp) _).alloc (by simp <;> omega) _
set_option maxHeartbeats 1600000 in
theorem toCommands_any (w : World) (B : Nat) (A : Option Addr) (n c : Nat) (ps : List Cmd) (h : RdQ w B A n c ps) (hn : n ≤ 1048576) :
    Calls Try.prog 25 #[.slice A n c] w (MadeQ w ps) := by
  have h := h.top
  have l1 := h.le1; have l2 := h.le2
  obtain ⟨i0, hi, hz0, hz1, hz2⟩ := info_parts Try.infoCmd
  go_enter Try.func25, Try.ntmps25
  go_wp2_with (at_make; refine wpList_make_full _ rfl _ _ _ rfl w.heap.size 51 i0 (.agg #[.int .i64 0, .int .i64 0, .int .i64 0, .int .i64 0]) 4 Try.underlying23 hi hz0 hz1 .i64 .i64 _ _ n rfl rfl rfl rfl (by rw [hz2]; omega) (by unfold maxLen; omega) (Nat.le_refl _) ?_)
  intro w1 hown hg
  have hb1 : Below w.heap.size w w1 := (Below.refl _ _).grown hg (Nat.le_refl _) (by simp)
  have hT : w1.ownsRow w.heap.size 51 4 (.slice (some ⟨w.heap.size, 0, none⟩) n n) n (cmdVals (ps.take 0) ++ zcmds (n - 0)) := by
    have e : (madeCells #[Value.int .i64 0, .int .i64 0, .int .i64 0, .int .i64 0] (n * 4)).toList = cmdVals (ps.take 0) ++ zcmds (n - 0) := made_zcmds n
    rwa [← e]
  clear hown hg
  go_wp2_with fail
  go_loopw [4] (fun i wr => ∃ (k : Nat), i = .int .i64 k ∧ k ≤ n ∧ wr.ownsRow w.heap.size 51 4 (.slice (some ⟨w.heap.size, 0, none⟩) n n) n (cmdVals (ps.take k) ++ zcmds (n - k)) ∧ Below w.heap.size w wr) (fun i _ => n - (intOf i).toNat)
  case atStart => exact ⟨0, rfl, Nat.zero_le _, hT, hb1⟩
  case round =>
    obtain ⟨k, rfl, hk, hT, hb⟩ := hrel
    clear hb1
    have hz := (hT.lt w.heap.size rfl).2
    by_cases hlt : k < n
    · obtain ⟨b, o, p, rfl, hbb, hx, g1, g2, g3, g4⟩ := (h.below hb).at_ hlt
      go_wp2_with fail
      refine (toCommand_any _ p.op p.a p.b p.c).mono ?_
      rintro e w2 ⟨rfl, hb2⟩
      have hz2 := hb2.size
      have own2 : w2.ownsRow w.heap.size 51 4 (.slice (some ⟨w.heap.size, 0, none⟩) n n) n (cmdVals (ps.take k) ++ zcmds (n - k)) := own_keep hT fun q hq => hb2.block q (by have := hT.lt q hq; omega)
      obtain ⟨u0, p0⟩ := own_some own2 (j := k * 4) (by omega)
      obtain ⟨u1, p1⟩ := own_some own2 (j := k * 4 + 1) (by omega)
      obtain ⟨u2, p2⟩ := own_some own2 (j := k * 4 + 2) (by omega)
      obtain ⟨u3, p3⟩ := own_some own2 (j := k * 4 + 3) (by omega)
      have q0 := own2.frozenAt (k * 4)
      have q1 := own2.frozenAt (k * 4 + 1)
      have q2 := own2.frozenAt (k * 4 + 2)
      have q3 := own2.frozenAt (k * 4 + 3)
      have s3 := (((((own2.stored (k * 4) (.int .i64 p.op)).1).stored (k * 4 + 1) (.int .i64 p.a)).1.stored (k * 4 + 2) (.int .i64 p.b)).1.stored (k * 4 + 3) (.int .i64 p.c)).1
      rw [fill4 ps k n p hx hlt] at s3
      have S3 := Go.Lib.hid s3
      have hb3 := ((((hb.trans (hb2.mono (by omega))).setCell (p := ⟨w.heap.size, k * 4, none⟩) (Nat.le_refl _) (.int .i64 p.op)).setCell (p := ⟨w.heap.size, k * 4 + 1, none⟩) (Nat.le_refl _) (.int .i64 p.a)).setCell (p := ⟨w.heap.size, k * 4 + 2, none⟩) (Nat.le_refl _) (.int .i64 p.b)).setCell (p := ⟨w.heap.size, k * 4 + 3, none⟩) (Nat.le_refl _) (.int .i64 p.c)
      clear s3 own2 hT
      go_wp2
      go_roundw
      case rel => exact ⟨k + 1, by go_num, by omega, S3.out, hb3⟩
      case measure => simp [intOf]; omega
    · obtain rfl : k = n := by omega
      obtain rfl : k = ps.length := by omega
      have hO : Owns w.heap.size w wr [.cmds (.slice (some ⟨w.heap.size, 0, none⟩) ps.length ps.length) ps] := (Owns.nil w).row hb (by
        rwa [List.take_length, Nat.sub_self, zcmds, List.append_nil] at hT)
      go_wp2
      go_ret
      exact ⟨_, rfl, hO⟩
set_option maxHeartbeats 1600000 in
theorem eqCommand_any (w : World) (op a b c : Int) :
    Calls Try.prog 52 #[.agg #[.int .i64 op, .int .i64 a, .int .i64 b, .int .i64 c], .agg #[.int .i64 op, .int .i64 a, .int .i64 b, .int .i64 c]] w fun e w' => e = .returned (.bool true) ∧ Below w.heap.size w w' := by
  go_enter Try.func52, Try.ntmps52
  go_wp2
  go_ret
  exact ⟨rfl, (below_alloc _ _).alloc (by simp) _⟩
set_option maxHeartbeats 3200000 in
theorem eqCommands_any (w : World) (B B' : Nat) (A A' : Option Addr) (n n' c c' : Nat) (ps : List Cmd) (h1 : RdQ w B A n c ps) (h2 : RdQ w B' A' n' c' ps) :
    Calls Try.prog 26 #[.slice A n c, .slice A' n' c'] w fun e w' => e = .returned (.bool true) ∧ Below w.heap.size w w' := by
  have h1 := h1.top
  have h2 := h2.top
  have hm : n ≤ maxLen := Nat.le_trans h1.cap h1.mx
  unfold maxLen at hm
  obtain rfl : n = n' := by have := h1.len; have := h2.len; omega
  go_enter Try.func26, Try.ntmps26
  go_wp2_with fail
  go_loopw [5] (fun i wr => ∃ k : Nat, i = .int .i64 k ∧ k ≤ n ∧ Below w.heap.size w wr) (fun i _ => n - (intOf i).toNat)
  case atStart => exact ⟨0, rfl, Nat.zero_le _, Below.refl _ _⟩
  case round =>
    obtain ⟨k, rfl, hk, hb⟩ := hrel
    by_cases hlt : k < n
    · obtain ⟨b, o, p, rfl, hbb, hx, g1, g2, g3, g4⟩ := (h1.below hb).at_ hlt
      obtain ⟨b', o', p', rfl, hbb', hx', g1', g2', g3', g4'⟩ := (h2.below hb).at_ hlt
      have e0 := hid_inj hx hx'
      obtain rfl := e0
      obtain ⟨op, a, bb, c0⟩ := p
      simp only at g1 g2 g3 g4 g1' g2' g3' g4'
      have i1 : (0 : Int) ≤ (k : Int) := by omega
      have i2 : (k : Int) < (n : Int) := by omega
      have hz := hb.size
      go_wp2_with fail
      go_region_held3 (fun w' => w'.cell? ⟨b, o + k * 4, none⟩ = some (.int .i64 op) ∧ w'.cell? ⟨b, o + k * 4 + 1, none⟩ = some (.int .i64 a) ∧ w'.cell? ⟨b, o + k * 4 + 2, none⟩ = some (.int .i64 bb) ∧ w'.cell? ⟨b, o + k * 4 + 3, none⟩ = some (.int .i64 c0) ∧
          w'.cell? ⟨b', o' + k * 4, none⟩ = some (.int .i64 op) ∧ w'.cell? ⟨b', o' + k * 4 + 1, none⟩ = some (.int .i64 a) ∧ w'.cell? ⟨b', o' + k * 4 + 2, none⟩ = some (.int .i64 bb) ∧ w'.cell? ⟨b', o' + k * 4 + 3, none⟩ = some (.int .i64 c0))
        (first | go_keep | (refine ⟨?_, ?_, ?_, ?_, ?_, ?_, ?_, ?_⟩ <;> (rw [hb2.cell (by simp; omega)]; assumption)))
        (first | (go_at_call 52; refine (eqCommand_any _ op a bb c0).mono ?_; rintro e w2 ⟨rfl, hb2⟩))
      have hb3 := hb.drew.trans (hb2.mono hb.size)
      go_wp2
      go_roundw
      case rel => exact ⟨k + 1, by go_num, by omega, hb3⟩
      case measure => simp [intOf]; omega
    · go_wp2
      go_ret
      exact ⟨rfl, hb⟩
open Go.ChangeShapes Go.WideShapes Go.Deep in
set_option maxRecDepth 100000 in
theorem open_cmds_arg {H : Type} {enc : TypeId × Value → H} {w : World} {base : Nat} {held : Bool} {v : Value} {d : DataW H} {p : List MemPlace}
    (hv : Value.okWide Try.prog w .any base 41 v) (h : DataW.Trod enc Try.prog w 0 (fun _ => true) held 41 v d p) :
    ∃ A n c ps, v = .slice A n c ∧ RdQ w w.heap.size A n c ps := by
  obtain ⟨a0, len, cap, rfl⟩ := okWide_slice Try.underlying41 hv
  obtain ⟨fuel, hf⟩ := h
  rcases open_slice_fields Try.underlying41 Try.underlying76 (by kernel_rfl) (by kernel_rfl) (by simpa [Value.cells] using hf) with hcs | ⟨a, len', cap', m, hcs, hl, hm, hmm, hi⟩
  · simp only [List.cons.injEq, and_true, Value.slice.injEq] at hcs
    obtain ⟨rfl, rfl, rfl⟩ := hcs
    exact ⟨none, 0, 0, [], rfl, ⟨rfl, Nat.le_refl _, zero_le_maxLen, fun h => absurd h (Nat.lt_irrefl _)⟩⟩
  · simp only [List.cons.injEq, and_true, Value.slice.injEq] at hcs
    obtain ⟨rfl, rfl, rfl⟩ := hcs
    simp only [if_true] at hmm
    have hel : ∀ i, i < len → ∃ l : Cmd, w.cell? (a.add (i * 4)) = some (.int .i64 l.op) ∧ w.cell? (a.add (i * 4 + 1)) = some (.int .i64 l.a) ∧ w.cell? (a.add (i * 4 + 2)) = some (.int .i64 l.b) ∧ w.cell? (a.add (i * 4 + 3)) = some (.int .i64 l.c) := by
      intro i hlt
      obtain ⟨n, hf⟩ := hi i (by omega)
      obtain ⟨v0, y0, c0, t0⟩ := hf 0 _ rfl
      obtain ⟨v1, y1, c1, t1⟩ := hf 1 _ rfl
      obtain ⟨v2, y2, c2, t2⟩ := hf 2 _ rfl
      obtain ⟨v3, y3, c3, t3⟩ := hf 3 _ rfl
      obtain ⟨z0, e0, _, hz0⟩ := DataW.trod_int Try.underlying3 t0
      obtain ⟨z1, e1, _, hz1⟩ := DataW.trod_int Try.underlying3 t1
      obtain ⟨z2, e2, _, hz2⟩ := DataW.trod_int Try.underlying3 t2
      obtain ⟨z3, e3, _, hz3⟩ := DataW.trod_int Try.underlying3 t3
      simp only [List.cons.injEq, and_true] at e0 e1 e2 e3
      subst e0 e1 e2 e3
      exact ⟨⟨z0, z1, z2, z3⟩, c0, c1, c2, c3⟩
    obtain ⟨l, hlen, hp⟩ := list_of_ex len hel
    refine ⟨some a, len, cap, l, rfl, ⟨hlen.symm, hl, hm, fun hn => ?_⟩⟩
    obtain ⟨b, o, s⟩ := a
    have hl0 : 0 < l.length := by omega
    have h0 := (hp 0 _ (List.getElem?_eq_getElem hl0)).1
    obtain rfl := spot_none (s := s) (by simpa [Addr.add] using h0)
    have h0' := h0
    rw [Addr.add_lit] at h0'
    refine ⟨b, o, rfl, lt_of_cell h0', fun j c hc => ?_⟩
    obtain ⟨k0, k1, k2, k3⟩ := hp j c hc
    rw [Addr.add_lit] at k0 k1 k2 k3
    exact ⟨k0, k1, k2, k3⟩
end Go.Proofs.Ytpafdaooddbpkaa
