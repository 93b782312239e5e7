/- The program's setOf; its refersOutside where nothing refers outside: it says no. For every heap and list that can be read. -/
import Derived.Test.YtpafdaooddbpkaaZ1
import Derived.Test.YtpafdaooddbpkaaZ4
namespace Go.Proofs.Ytpafdaooddbpkaa
open Go.RowKit
def setM (bs : List Bool) : Nat := bitsOf bs.length (fun i => bs.getD i false)
theorem setM_lt {bs : List Bool} (h : bs.length ≤ 64) : setM bs < 2 ^ 64 := Nat.lt_of_lt_of_le (bitsOf_lt _ _) (Nat.pow_le_pow_right (by omega) h)
theorem setM_bit (bs : List Bool) (i : Nat) : (setM bs).testBit i = bs.getD i false := by
  unfold setM
  rw [bitsOf_bit]
  by_cases h : i < bs.length
  · simp [h]
  · rw [List.getD_eq_getElem?_getD, List.getElem?_eq_none (by omega)]; simp [h]
set_option maxHeartbeats 800000 in
set_option maxRecDepth 20000 in
theorem setOf_any (w : World) (B : Nat) (A : Option Addr) (n c : Nat) (bs : List Bool) (hr : RdB w B A n c bs) (hn : n ≤ 64) :
    Calls Try.prog 101 #[.slice A n c] w fun e w' => e = .returned (.int .u64 (setM bs)) ∧ Below w.heap.size w w' := by
  have hr := hr.top
  have l1 := RdB.le1 hr; have l2 := RdB.le2 hr
  have H1 := (Owns.nil w).box [.int .u64 (bitsOf 0 (fun i => bs.getD i false))] 61
  go_enter Try.func101, Try.ntmps101
  go_wp2_with fail
  generalize hw4 : w.alloc (.cells #[.int .u64 0] 61) = w4 at *
  go_loopw [8] (fun i wr => ∃ (k : Nat), i = .int .i64 k ∧ k ≤ n ∧ Owns w.heap.size w wr [.box w.heap.size [.int .u64 (bitsOf k (fun i => bs.getD i false))] 61]) (fun i _ => n - (intOf i).toNat)
  case atStart => exact ⟨0, rfl, Nat.zero_le _, by rw [← hw4]; exact H1⟩
  case round =>
    clear H1 hw4
    obtain ⟨k, rfl, hk, H⟩ := hrel
    obtain ⟨x0, xf⟩ := H.box1 0 rfl
    by_cases hlt : k < n
    · obtain ⟨b, o, u, rfl, hbb, hx, g1⟩ := RdB.at_ (hr.below H.below) hlt
      have hbl := bitsOf_lt k (fun i => bs.getD i false)
      have hb64 : bitsOf k (fun i => bs.getD i false) < 2 ^ 64 := Nat.lt_of_lt_of_le hbl (Nat.pow_le_pow_right (by omega) (by omega))
      have hun : bs.getD k false = u := by rw [List.getD_eq_getElem?_getD, hx.out]; rfl
      obtain ⟨M, hM⟩ : ∃ M, M = bitsOf k (fun i => bs.getD i false) := ⟨_, rfl⟩
      cases u
      · have HB : Hid (bitsOf (k + 1) (fun i => bs.getD i false) = M) := Go.Lib.hid (by rw [bitsOf, hun, hM]; simp)
        rw [← hM] at H x0 hb64
        have H2 := H
        clear hun hbl hb64 hM H
        go_wp2
        go_roundw
        case rel => exact ⟨k + 1, by go_num, by omega, by rw [HB.out]; exact H2⟩
        case measure => simp [intOf]; omega
      · have HB : Hid (bitsOf (k + 1) (fun i => bs.getD i false) = addB M k) := Go.Lib.hid (by rw [bitsOf, hun, hM]; simp [addB])
        rw [← hM] at H x0 hb64
        have H2 := H
        have P := Go.Lib.hid hb64
        clear hun hbl hb64 hM H
        go_wp2_with fail
        refine (add_own H2 0 rfl (k : Int) P.out (by omega) (by omega)).mono ?_
        rintro e w2 ⟨⟨u, rfl⟩, H3⟩
        go_wp2
        go_roundw
        case rel => exact ⟨k + 1, by go_num, by omega, by rw [HB.out]; exact H3⟩
        case measure => simp [intOf]; omega
    · obtain ⟨M, hM⟩ : ∃ M, M = bitsOf k (fun i => bs.getD i false) := ⟨_, rfl⟩
      have HB : Hid (M = setM bs) := Go.Lib.hid (by rw [hM, show k = bs.length by omega]; rfl)
      rw [← hM] at H x0
      have HD := H.below
      clear H hM
      go_wp2
      go_ret
      exact ⟨ret_i (by rw [HB.out]), HD⟩
/-! ### rows of slices -/
theorem Try.infoSl : (Try.prog.info? 30).map (fun i => (i.zero, i.size, i.bytes)) = some (some (.slice none 0 0), 1, 24) := by kernel_rfl
section
variable {lo : Nat} {w0 w : World} {L : List OB}
abbrev OB.rowS (v : Value) (vs : List Value) : OB := .row 30 1 v vs.length vs
theorem Owns.formS (h : Owns lo w0 w L) (i : Nat) {v : Value} {vs : List Value} (hX : L[i]? = some (.rowS v vs)) : ∃ A c, v = .slice A vs.length c := by
  rcases (h.own i hX).2 with ⟨rfl, h0⟩ | ⟨g, cap, cur, rfl, -⟩
  · exact ⟨none, 0, by rw [h0]⟩
  · exact ⟨_, _, rfl⟩
theorem rdV_row (h : Owns lo w0 w L) (i : Nat) {A : Option Addr} {n c : Nat} {vs : List Value} (hX : L[i]? = some (.row 30 1 (.slice A n c) n vs)) : RdV w w.heap.size A n c vs := by
  obtain ⟨A', c', e, hr⟩ := RdV_of_own (h.own i hX) (fun k e => ((h.own i hX).lt k e).2)
  injection e with e1 e2 e3
  subst e1 e3
  exact hr
theorem wp_pushR {o : Oper} {a : Act} {K : Act → World → Prop} {Q : Exit → Act → World → Prop} (s x : Operand)
    (hop : o.op = .call { callee := .builtin .append, args := #[s, x], argTypes := #[115, 115] })
    (h : Owns lo w0 w L) (i : Nat) {v : Value} {vs : List Value} (hX : L[i]? = some (.rowS v vs)) (hs : a.eval s = v) {B : Nat} {A : Option Addr} {n c : Nat} {us : List Value} (hx : a.eval x = .slice A n c) (hr : RdV w B A n c us) (h1 : ∀ u ∈ us, u.oneCell' = true) (hb : vs.length + n ≤ 1099511627776)
    (hK : ∀ A' c' w', Owns lo w0 w' (L.set i (.rowS (.slice A' (vs ++ us).length c') (vs ++ us))) → K (a.put o.dst (.slice A' (vs ++ us).length c')) w') : o.wp Try.prog a w K Q := by
  obtain ⟨i0, hi, hz0, hz1, hz2⟩ := info_parts Try.infoSl
  obtain ⟨v', w', hrun, ho, hg, hat⟩ := run_pushV Try.underlying115 hi hz0 hz1 hz2 rfl (by omega) (h.own i hX) hr h1 hb h.le o.type
  have hl : vs.length + n = (vs ++ us).length := by have := hr.len; simp; omega
  rw [hl] at ho
  have hv : ∃ A' c', v' = .slice A' (vs ++ us).length c' := by
    rcases ho.2 with ⟨rfl, h0⟩ | ⟨g, cap, cur, rfl, -⟩
    · exact ⟨none, 0, by rw [h0]⟩
    · exact ⟨_, _, rfl⟩
  obtain ⟨A', c', rfl⟩ := hv
  unfold Oper.wp execOp
  simp only [hop, resolve, invoke, builtin, Sem.run_bind, Sem.run_pure, Result.andThen_ok, List.map_toArray, List.map_cons, List.map_nil, hs, hx, hrun]
  exact hK A' c' w' (h.grow i hX ho hg hat)
theorem wpList_pushR {ops : Array Oper} {rest : List Oper} {o : Oper} {a : Act} {Q : Exit → Act → World → Prop} (hgd : o.guard = none) (s x : Operand)
    (hop : o.op = .call { callee := .builtin .append, args := #[s, x], argTypes := #[115, 115] })
    (h : Owns lo w0 w L) (i : Nat) {v : Value} {vs : List Value} (hX : L[i]? = some (.rowS v vs)) (hs : a.eval s = v) {B : Nat} {A : Option Addr} {n c : Nat} {us : List Value} (hx : a.eval x = .slice A n c) (hr : RdV w B A n c us) (h1 : ∀ u ∈ us, u.oneCell' = true) (hb : vs.length + n ≤ 1099511627776)
    (hK : ∀ A' c' w', Owns lo w0 w' (L.set i (.rowS (.slice A' (vs ++ us).length c') (vs ++ us))) → wpList Try.prog ops Q rest (a.put o.dst (.slice A' (vs ++ us).length c')) w') : wpList Try.prog ops Q (o :: rest) a w :=
  wpList_plain hgd fun _ hK' => wp_pushR s x hop h i hX hs hx hr h1 hb fun A' c' w' hO => hK' _ _ (hK A' c' w' hO)
end
/-- A slice of numbers of which none is in the set. -/
def Lst (w : World) (O : Nat) (u : Value) : Prop := ∃ A n c xs, u = .slice A n c ∧ RdI w w.heap.size A n c xs ∧ n ≤ 1000 ∧ ∀ r ∈ xs, hasB O r = false
set_option maxHeartbeats 3200000 in
set_option maxRecDepth 20000 in
theorem refersOutside_no (w : World) (B : Nat) (v : Value) (h : Hp) (S : Nat) (hh : RdH w B v h) (hn : h.cells.length ≤ 64) (hS : S < 2 ^ 64) (hrt : h.roots.length ≤ 1000) (hrf : ∀ c ∈ h.cells, c.refs.length ≤ 1000) (h1 : ∀ r ∈ h.roots, hasB (lessB (usedM h.cells) S) r = false)
    (h2 : ∀ (k : Nat) (l : Cel), h.cells[k]? = some l → S.testBit k = true → ∀ r ∈ l.refs, hasB (lessB (usedM h.cells) S) r = false) :
    Calls Try.prog 100 #[v, .int .u64 S] w fun e w' => e = .returned (.bool false) ∧ Below w.heap.size w w' := by
  have hh' := hh.top
  obtain ⟨D, m, d, D', m', d', rfl, hC, hR⟩ := hh.top
  have l3 := hC.le1; have l4 := hC.le2
  have l5 := RdI.le1 hR; have l6 := RdI.le2 hR
  obtain ⟨U, hU⟩ : ∃ U, U = usedM h.cells := ⟨_, rfl⟩
  obtain ⟨O, hO⟩ : ∃ O, O = lessB U S := ⟨_, rfl⟩
  rw [← hU, ← hO] at h1 h2
  have HUe := Go.Lib.hid hU
  have HO : Hid (O < 2 ^ 64) := Go.Lib.hid (by rw [hO]; exact lessB_lt _ _)
  have HSl := Go.Lib.hid hS
  have tO : Go.bits .andNot .u64 (U : Int) (S : Int) = (O : Int) := by rw [hO]; exact bits_andNot U S
  have HL1 : Hid (Lst w O (.slice D' m' d')) := Go.Lib.hid ⟨_, _, _, _, rfl, hR, by omega, h1⟩
  have HL2 : Hid (∀ (k : Nat) (l : Cel) (A2 : Option Addr) (n2 c2 : Nat), h.cells[k]? = some l → S.testBit k = true → RdI w w.heap.size A2 n2 c2 l.refs → Lst w O (.slice A2 n2 c2)) := Go.Lib.hid fun k l A2 n2 c2 hl hb hr => ⟨_, _, _, _, rfl, hr, by have := RdI.le1 hr; have := hrf l (List.mem_of_getElem? hl); omega, h2 k l hl hb⟩
  clear hU hO h1 h2 hS hrf hR
  have H1 := (Owns.nil w).box [.slice D m d, .slice D' m' d'] 32
  go_enter Try.func100, Try.ntmps100
  go_wp2_with fail
  refine (usedSet_any _ _ _ h (hh'.below H1.below) hn).mono ?_
  rintro e w1 ⟨he, hb1⟩
  rw [← HUe.out] at he
  subst he
  have H2 := H1.call hb1
  clear H1 hb1
  obtain ⟨a0, a1, -, -⟩ := H2.box2 0 rfl
  have H3 := H2.lit [.slice D' m' d'] 30 one_le_maxLen
  simp only [List.length_cons, List.length_nil, Nat.zero_add] at H3
  obtain ⟨c0, c1, -, -⟩ := H3.box2 1 rfl
  clear H2
  go_wp2_with fail
  clear a0 a1 c0 c1
  go_loopw [6, 23] (fun v i wr => ∃ (k : Nat) (vs : List Value), i = .int .i64 k ∧ k ≤ m ∧ vs.length ≤ k + 1 ∧ (∀ u ∈ vs, Lst w O u) ∧ Owns w.heap.size w wr [.rowS v vs, .box w.heap.size [.slice D m d, .slice D' m' d'] 32]) (fun _ i _ => m - (intOf i).toNat)
  case atStart => exact ⟨0, [.slice D' m' d'], rfl, Nat.zero_le _, by simp, fun u hu => by rw [List.mem_singleton.1 hu]; exact HL1.out, H3⟩
  case round =>
    clear H3
    obtain ⟨k, vs, rfl, hk, hvl, hvs, H⟩ := hrel
    obtain ⟨Av, cv, rfl⟩ := H.formS 0 rfl
    obtain ⟨a0, a1, -, -⟩ := H.box2 1 rfl
    by_cases hlt : k < m
    · obtain ⟨b, o, l, A2, n2, c2, rfl, hbb, hx, q1, q2, q3, hrf⟩ := hC.at_ hlt
      have g1 := H.ro q1 hbb
      have g2 := H.ro q2 hbb
      have g3 := H.ro q3 hbb
      have HVs := Go.Lib.hid hvs
      have HBox := H.box [.bool l.used, .int .i64 l.data, .slice A2 n2 c2] 71
      have HRf := Go.Lib.hid hrf.top
      clear q1 q2 q3 hvs hrf H
      go_wp2_with fail
      refine (has_any S (k : Int) _ HSl.out).mono ?_
      rintro e w2 ⟨rfl, hw2⟩
      obtain rfl := hw2
      rw [hasB_nat]
      cases hb : S.testBit k
      · have H4 := HBox.erase 0
        simp only [List.eraseIdx_cons_zero] at H4
        clear HBox hb
        go_wp2
        go_roundw
        case rel => exact ⟨k + 1, vs, by go_num, by omega, by omega, HVs.out, H4⟩
        case measure => simp [intOf]; omega
      · have HNew := Go.Lib.hid (HL2.out k l A2 n2 c2 hx.out hb HRf.out)
        obtain ⟨b0, b1, b2, -, -, -⟩ := HBox.box3 0 rfl
        have H5 := HBox.lit [.slice A2 n2 c2] 30 one_le_maxLen
        simp only [List.length_cons, List.length_nil, Nat.zero_add, World.size_alloc] at H5
        have HRd := Go.Lib.hid (rdV_row H5 0 rfl)
        have HOne : Hid (∀ u ∈ [Value.slice A2 n2 c2], u.oneCell' = true) := Go.Lib.hid fun u hu => by rw [List.mem_singleton.1 hu]; rfl
        clear hb HBox
        go_wp2_with (at_builtin; go_loud (refine wpList_pushR rfl (.tmp 31) (.tmp 34) rfl H5 2 rfl rfl rfl HRd.out HOne.out (by omega) ?_; intro A3 k3 w5 H6; simp only [List.set_cons_zero, List.set_cons_succ] at H6))
        have H7 := (H6.erase 0).erase 0
        simp only [List.eraseIdx_cons_zero] at H7
        go_roundw
        case rel => exact ⟨k + 1, vs ++ [.slice A2 n2 c2], by go_num, by omega, by simp; omega, fun u hu => (List.mem_append.1 hu).elim (HVs.out u) (fun e => by rw [List.mem_singleton.1 e]; exact HNew.out), by simpa using H7⟩
        case measure => simp [intOf]; omega
    · have H3 := H
      have HVs := Go.Lib.hid hvs
      have hvl2 : vs.length ≤ 100 := by omega
      clear H hvs a0 a1 hvl
      go_wp2_with fail
      clear hlt hk
      go_loopw [39] (fun i wr => ∃ k : Nat, i = .int .i64 k ∧ k ≤ vs.length ∧ Owns w.heap.size w wr [.rowS (.slice Av vs.length cv) vs, .box w.heap.size [.slice D m d, .slice D' m' d'] 32]) (fun i _ => vs.length - (intOf i).toNat)
      case atStart => exact ⟨0, rfl, Nat.zero_le _, H3⟩
      case round =>
        clear H3
        obtain ⟨k, rfl, hk, H⟩ := hrel
        by_cases hlt : k < vs.length
        · obtain ⟨u, hu0⟩ : ∃ u, Hid (vs[k]? = some u) := ⟨_, Go.Lib.hid (List.getElem?_eq_getElem hlt)⟩
          obtain ⟨A4, n4, c4, xs4, rfl, r4, hn4, hx4⟩ := HVs.out u (List.mem_of_getElem? hu0.out)
          obtain ⟨g0, c0, e0, -, -, -, -⟩ := H.rowAt 0 rfl (by omega)
          simp only [Value.slice.injEq] at e0
          obtain ⟨rfl, -, rfl⟩ := e0
          obtain ⟨z0, -⟩ := H.elem 0 rfl (j := k) (u := .slice A4 n4 c4) hu0.out
          have i1 : (0 : Int) ≤ (k : Int) := by omega
          have i2 : (k : Int) < (vs.length : Int) := by omega
          have HX4 := Go.Lib.hid hx4
          have H5 := H
          clear H hx4 hu0
          go_wp2_with fail
          clear z0
          go_loopw [45] (fun i wr => ∃ j : Nat, i = .int .i64 j ∧ j ≤ n4 ∧ Owns w.heap.size w wr [.rowS (.slice (some ⟨g0, 0, none⟩) vs.length cv) vs, .box w.heap.size [.slice D m d, .slice D' m' d'] 32]) (fun i _ => n4 - (intOf i).toNat)
          case atStart => exact ⟨0, rfl, Nat.zero_le _, H5⟩
          case round =>
            clear H5
            obtain ⟨j, rfl, hj, H⟩ := hrel
            by_cases hjl : j < n4
            · obtain ⟨b, o, x, rfl, hbb, hx, g1⟩ := RdI.at_ (r4.below H.below) hjl
              have hno := Go.Lib.hid (HX4.out x (List.mem_of_getElem? hx.out))
              go_wp2_with fail
              refine (has_any O x _ HO.out).mono ?_
              rintro e w2 ⟨rfl, hw2⟩
              obtain rfl := hw2
              rw [hno.out]
              go_wp2
              go_roundw
              case rel => first | exact ⟨j + 1, by go_num, by omega, H⟩ | exact ⟨j + 1, by go_num, by omega⟩
              case measure => simp [intOf]; omega
            · go_wp2
              go_roundw
              case rel => first | exact ⟨k + 1, by go_num, by omega, H⟩ | exact ⟨k + 1, by go_num, by omega⟩
              case measure => simp [intOf]; omega
        · have HB := H.below
          clear H
          go_wp2
          go_ret
          exact ⟨rfl, HB⟩
end Go.Proofs.Ytpafdaooddbpkaa
