/- Lists of instructions: what they read as, rows of them of a call's own, and append of one. No program is walked. -/
import Derived.Test.YtdkpfggfkhnjfaaDc
namespace Go.Proofs.Ytdkpfggfkhnjfaa
open Go.RowKit
structure RdQ (w : World) (B : Nat) (A : Option Addr) (n c : Nat) (cs : List Cmd) : Prop where
  len : n = cs.length
  cap : n ≤ c
  mx : c ≤ maxLen
  rd : 0 < n → ∃ b o, A = some ⟨b, o, none⟩ ∧ b < B ∧ ∀ (j : Nat) (p : Cmd), cs[j]? = some p → w.cell? ⟨b, o + j * 4, none⟩ = some (.int .i64 p.op) ∧ w.cell? ⟨b, o + j * 4 + 1, none⟩ = some (.int .i64 p.a) ∧ w.cell? ⟨b, o + j * 4 + 2, none⟩ = some (.int .i64 p.b) ∧ w.cell? ⟨b, o + j * 4 + 3, none⟩ = some (.int .i64 p.c)
section
variable {w w' : World} {B B' : Nat} {A : Option Addr} {n c : Nat} {cs : List Cmd}
theorem RdQ.below (h : RdQ w B A n c cs) (hb : Below B w w') : RdQ w' B A n c cs :=
  ⟨h.len, h.cap, h.mx, fun hn => by
    obtain ⟨b, o, hA, hlt, hc⟩ := h.rd hn
    refine ⟨b, o, hA, hlt, fun j l hj => ?_⟩
    obtain ⟨h1, h2, h3, h4⟩ := hc j l hj
    exact ⟨(hb.cell (p := ⟨b, _, none⟩) hlt).trans h1, (hb.cell (p := ⟨b, _, none⟩) hlt).trans h2, (hb.cell (p := ⟨b, _, none⟩) hlt).trans h3, (hb.cell (p := ⟨b, _, none⟩) hlt).trans h4⟩⟩
theorem RdQ.mono (h : RdQ w B A n c cs) (hb : B ≤ B') : RdQ w B' A n c cs :=
  ⟨h.len, h.cap, h.mx, fun hn => by
    obtain ⟨b, o, hA, hlt, hc⟩ := h.rd hn
    exact ⟨b, o, hA, by omega, hc⟩⟩
theorem RdQ.top (h : RdQ w B A n c cs) : RdQ w w.heap.size A n c cs :=
  ⟨h.len, h.cap, h.mx, fun hn => by
    obtain ⟨b, o, hA, hlt, hc⟩ := h.rd hn
    have hl : 0 < cs.length := by have := h.len; omega
    exact ⟨b, o, hA, lt_of_cell (hc 0 _ (List.getElem?_eq_getElem hl)).1, hc⟩⟩
theorem RdQ.at_ (h : RdQ w B A n c cs) {k : Nat} (hk : k < n) : ∃ b o p, A = some ⟨b, o, none⟩ ∧ b < B ∧ Hid (cs[k]? = some p) ∧ w.cell? ⟨b, o + k * 4, none⟩ = some (.int .i64 p.op) ∧ w.cell? ⟨b, o + k * 4 + 1, none⟩ = some (.int .i64 p.a) ∧ w.cell? ⟨b, o + k * 4 + 2, none⟩ = some (.int .i64 p.b) ∧ w.cell? ⟨b, o + k * 4 + 3, none⟩ = some (.int .i64 p.c) := by
  obtain ⟨b, o, hA, hlt, hc⟩ := h.rd (by omega)
  have hl : k < cs.length := by have := h.len; omega
  obtain ⟨h1, h2, h3, h4⟩ := hc k _ (List.getElem?_eq_getElem hl)
  exact ⟨b, o, cs[k], hA, hlt, List.getElem?_eq_getElem hl, h1, h2, h3, h4⟩
theorem RdQ.le1 (h : RdQ w B A n c cs) : n ≤ cs.length := by have := h.len; omega
theorem RdQ.le2 (h : RdQ w B A n c cs) : cs.length ≤ n := by have := h.len; omega
end
def cmdVals : List Cmd → List Value
  | [] => []
  | p :: ps => .int .i64 p.op :: .int .i64 p.a :: .int .i64 p.b :: .int .i64 p.c :: cmdVals ps
theorem cmdVals_length : ∀ ps, (cmdVals ps).length = ps.length * 4
  | [] => rfl
  | p :: ps => by simp [cmdVals, cmdVals_length ps]; omega
theorem cmdVals_at : ∀ (ps : List Cmd) (i : Nat) (p : Cmd), ps[i]? = some p → (cmdVals ps)[i * 4]? = some (.int .i64 p.op) ∧ (cmdVals ps)[i * 4 + 1]? = some (.int .i64 p.a) ∧ (cmdVals ps)[i * 4 + 2]? = some (.int .i64 p.b) ∧ (cmdVals ps)[i * 4 + 3]? = some (.int .i64 p.c)
  | [], _, _, h => by simp at h
  | q :: ps, 0, p, h => by simp at h; subst h; simp [cmdVals]
  | q :: ps, i + 1, p, h => by
    have := cmdVals_at ps i p (by simpa using h)
    have e0 : (i + 1) * 4 = i * 4 + 4 := by omega
    rw [e0]
    simpa [cmdVals] using this
theorem cmdVals_snoc : ∀ (ps : List Cmd) (p : Cmd), cmdVals (ps ++ [p]) = cmdVals ps ++ [.int .i64 p.op, .int .i64 p.a, .int .i64 p.b, .int .i64 p.c]
  | [], _ => rfl
  | q :: ps, p => by simp [cmdVals, cmdVals_snoc ps p]
abbrev OB.cmds (v : Value) (cs : List Cmd) : OB := .row 46 4 v cs.length (cmdVals cs)
theorem RdQ_of_own {w : World} {lo : Nat} {v : Value} {cs : List Cmd} (ho : w.ownsRow lo 46 4 v cs.length (cmdVals cs)) : ∃ A c, v = .slice A cs.length c ∧ RdQ w w.heap.size A cs.length c cs := by
  have hlt := ho.lt
  rcases ho.2 with ⟨rfl, h0⟩ | ⟨g, cap, cur, rfl, hb, hg, hn, hm, hs, ht⟩
  · exact ⟨none, 0, by rw [h0], rfl, by omega, zero_le_maxLen, fun h => by omega⟩
  · refine ⟨_, cap, rfl, rfl, hn, hm, fun h => ⟨g, 0, rfl, (hlt g rfl).2, fun j l hl => ?_⟩⟩
    obtain ⟨e1, e2, e3, e4⟩ := cmdVals_at cs j l hl
    have c1 := ho.cells (g := g) rfl _ _ e1
    have c2 := ho.cells (g := g) rfl _ _ e2
    have c3 := ho.cells (g := g) rfl _ _ e3
    have c4 := ho.cells (g := g) rfl _ _ e4
    rw [add_lit0] at c1 c2 c3 c4
    exact ⟨by simpa using c1, by simpa using c2, by simpa using c3, by simpa using c4⟩
section
variable {lo : Nat} {w0 w w' : World} {L : List OB}
theorem Owns.formQ (h : Owns lo w0 w L) (i : Nat) {v : Value} {cs : List Cmd} (hX : L[i]? = some (.cmds v cs)) : ∃ A c, v = .slice A cs.length c ∧ RdQ w w.heap.size A cs.length c cs := RdQ_of_own (h.own i hX)
theorem Try.infoCmd : (Try.prog.info? 46).map (fun i => (i.zero, i.size, i.bytes)) = some (some (.agg #[.int .i64 0, .int .i64 0, .int .i64 0, .int .i64 0]), 4, 32) := by kernel_rfl
theorem Owns.pushQ (h : Owns lo w0 w L) (i : Nat) {v : Value} {cs : List Cmd} {o : Cmd} (hX : L[i]? = some (.cmds v cs)) {g k : Nat}
    (hb : w.heap[g]? = some (.cells #[.int .i64 o.op, .int .i64 o.a, .int .i64 o.b, .int .i64 o.c] 46)) (hn : cs.length + 1 ≤ 1099511627776) (ty : TypeId) :
    ∃ A' c' w', (Builtin.append_ #[23, 23] ty #[v, .slice (some ⟨g, 0, none⟩) 1 k]).run Try.prog w = .ok (.slice A' (cs ++ [o]).length c') w' ∧ Owns lo w0 w' (L.set i (.cmds (.slice A' (cs ++ [o]).length c') (cs ++ [o]))) := by
  obtain ⟨i0, hi0, hz0, hz1, hz2⟩ := info_parts Try.infoCmd
  obtain ⟨v', w', hrun, hown, hg, -, hat⟩ := run_append_own_at (P := Try.prog) w lo 23 ty 46 i0 (.agg #[.int .i64 0, .int .i64 0, .int .i64 0, .int .i64 0]) 4 32 Try.underlying23 hi0 hz0 hz1 hz2 rfl (by omega) v cs.length _ (h.own i hX) ⟨g, 0, none⟩ 1 k [.int .i64 o.op, .int .i64 o.a, .int .i64 o.b, .int .i64 o.c] rfl
    (World.news_of_block hb) (by simp; exact ⟨rfl, rfl, rfl, rfl⟩) (by unfold maxLen; omega) (by omega) h.le
  have e : cs.length + 1 = (cs ++ [o]).length := by simp
  rw [← cmdVals_snoc, e] at hown
  obtain ⟨A', c', rfl, -⟩ := RdQ_of_own hown
  exact ⟨A', c', w', hrun, h.grow i hX hown hg hat⟩
theorem wpList_pushQO {ops : Array Oper} {rest : List Oper} {o : Oper} {a : Act} {Q : Exit → Act → World → Prop} (hgd : o.guard = none) (s x : Operand)
    (hop : o.op = .call { callee := .builtin .append, args := #[s, x], argTypes := #[23, 23] })
    (h : Owns lo w0 w L) (i : Nat) {v : Value} {cs : List Cmd} {q : Cmd} (hX : L[i]? = some (.cmds v cs))
    (hs : a.eval s = v) {g k : Nat} (hx : a.eval x = .slice (some ⟨g, 0, none⟩) 1 k) (hb : w.heap[g]? = some (.cells #[.int .i64 q.op, .int .i64 q.a, .int .i64 q.b, .int .i64 q.c] 46)) (hn : cs.length + 1 ≤ 1099511627776)
    (hK : ∀ A' c' w', Owns lo w0 w' (L.set i (.cmds (.slice A' (cs ++ [q]).length c') (cs ++ [q]))) → wpList Try.prog ops Q rest (a.put o.dst (.slice A' (cs ++ [q]).length c')) w') : wpList Try.prog ops Q (o :: rest) a w :=
  wpList_plain hgd fun _ hK' => by
    obtain ⟨A', c', w', hrun, hO⟩ := h.pushQ i hX (k := k) hb hn o.type
    unfold Oper.wp execOp
    simp only [hop, resolve, invoke, builtin, Sem.run_bind, Sem.run_pure, Result.andThen_ok, List.map_toArray, List.map_cons, List.map_nil, hs, hx, hrun]
    exact hK' _ _ (hK A' c' w' hO)
end
/-- A program was drawn. -/
def DrewP (lo : Nat) (w0 : World) (L : List OB) (i g : Nat) (A : Option Addr) (n c p : Nat) (e : Ending) (w' : World) : Prop :=
  ∃ (v : Value) (cs : List Cmd) (p' : Nat), e = .returned v ∧ (∀ o ∈ cs, cmdOk o = true) ∧ cs.length ≤ 40 ∧ p ≤ p' ∧ p' ≤ p + 400 ∧ Owns lo w0 w' (.cmds v cs :: L.set i (.rdr g A n c p'))
set_option maxHeartbeats 1600000 in
theorem program_own {lo : Nat} {w0 w : World} {L : List OB} {g : Nat} {A : Option Addr} {n c p : Nat} (h : Owns lo w0 w L) (i : Nat) (hX : L[i]? = some (.rdr g A n c p)) {bs : List Int} (hr : RdU w0 lo A n c bs) (hp : p ≤ 800000) :
    Calls Try.prog 31 #[.pointer (some ⟨g, 0, none⟩), .int .i64 0] w (DrewP lo w0 L i g A n c p) := by
  have H1 : Owns lo w0 (w.alloc (.cells #[] 46)) (.cmds (.slice (some ⟨w.heap.size, 0, none⟩) 0 0) [] :: L) :=
    h.row (below_alloc _ _) (World.ownsRow_lit (e := 46) (size := 4) w #[] 0 (Nat.le_refl _) zero_le_maxLen (by simp))
  go_enter Try.func31, Try.ntmps31
  go_wp2_with fail
  refine (pick_own H1 (i + 1) hX hr (by omega) 41 (by unfold I64; omega)).mono ?_
  rintro e w1 ⟨x, rfl, hx, H2⟩
  replace hx : (x : Int) < 41 := by omega
  simp only [List.set_cons_succ] at H2
  go_wp2_with fail
  go_loopw [5, 6] (fun v5 i6 wr => ∃ (v : Value) (k : Nat) (cs : List Cmd) (p' : Nat), v5 = v ∧ i6 = .int .i64 k ∧ k ≤ x ∧ cs.length + k = x ∧ (∀ o ∈ cs, cmdOk o = true) ∧ p ≤ p' ∧ p' ≤ p + 1 + 8 * cs.length ∧ Owns lo w0 wr (.cmds v cs :: L.set i (.rdr g A n c p'))) (fun _ i6 => fun _ => (intOf i6).toNat)
  case atStart => exact ⟨_, x, [], p + 1, rfl, rfl, Nat.le_refl _, by simp, by simp, by omega, by simp, H2⟩
  case round =>
    clear H1 H2
    obtain ⟨v, k, cs, p', hv, rfl, hk, hl, hok, hp1, hp2, H⟩ := hrel
    obtain rfl := hv.symm
    by_cases hk0 : k = 0
    · subst hk0
      go_wp2_with fail
      refine (odd_zero _ _).mono ?_
      rintro e w2 ⟨rfl, hw⟩
      obtain rfl := hw
      have HS : Hid (DrewP lo w0 L i g A n c p (.returned v) wr) := Go.Lib.hid ⟨v, cs, p', rfl, hok, by omega, by omega, by omega, H⟩
      clear H hok
      go_wp2
      go_ret
      exact HS.out
    · obtain ⟨k', rfl⟩ : ∃ k', k = k' + 1 := ⟨k - 1, by omega⟩
      go_wp2_with fail
      refine (command_own H (i + 1) (set_get hX _) hr (by omega)).mono ?_
      rintro e w2 ⟨o, p2, rfl, ho, hp3, hp4, H2⟩
      simp only [List.set_cons_succ, List.set_set] at H2
      have H3 := H2.alloc (.cells #[.int .i64 o.op, .int .i64 o.a, .int .i64 o.b, .int .i64 o.c] 46)
      have HB := Go.Lib.hid hok
      have HO := Go.Lib.hid ho
      clear H H2 hok ho
      go_wp2_with (at_builtin; go_loud (refine wpList_pushQO rfl (.tmp 14) (.tmp 17) rfl H3 0 rfl rfl rfl (heap1 w2 _) (by omega) ?_; intro A3 k3 w3 H4))
      simp only [List.set_cons_zero] at H4
      rw [show (cs ++ [o]).length = cs.length + 1 by simp] at H4
      clear H3
      go_wp2_with fail
      go_roundw
      case rel => exact ⟨_, k', cs ++ [o], p2, rfl, by go_num, by omega, by simp; omega, fun q hq => (List.mem_append.1 hq).elim (HB.out q) (fun hq => by rw [List.mem_singleton.1 hq]; exact HO.out), by omega, by simp; omega, H4⟩
      case measure => simp [intOf]
end Go.Proofs.Ytdkpfggfkhnjfaa
