/- The program's sets of cells, bits of a number: asking, adding, the used cells. -/
import Derived.Test.YtjpfgbckmcjjaaaRc
import Derived.Test.YtjpfgbckmcjjaaaZ0
import Derived.Deep.LoopGhost
namespace Go.Proofs.Ytjpfgbckmcjjaaa
open Go.RowKit
theorem u64_wrap (n : Nat) (h : n < 2 ^ 64) : IntKind.u64.wrap (n : Int) = n := by
  simp [IntKind.wrap, IntKind.bits, IntKind.signed]
  omega
theorem ofInt64 (a : Nat) : BitVec.ofInt IntKind.u64.bits (a : Int) = BitVec.ofNat 64 a := by
  exact BitVec.ofInt_natCast 64 a
theorem bits_and (a b : Nat) (ha : a < 2 ^ 64) (hb : b < 2 ^ 64) : Go.bits .and .u64 a b = ((a &&& b : Nat) : Int) := by
  unfold Go.bits
  simp only [ofInt64]
  show IntKind.u64.wrap ((BitVec.ofNat 64 a &&& BitVec.ofNat 64 b).toNat : Int) = _
  rw [BitVec.toNat_and, BitVec.toNat_ofNat, BitVec.toNat_ofNat, Nat.mod_eq_of_lt ha, Nat.mod_eq_of_lt hb]
  exact u64_wrap _ (Nat.and_lt_two_pow _ hb)
theorem bits_or (a b : Nat) (ha : a < 2 ^ 64) (hb : b < 2 ^ 64) : Go.bits .or .u64 a b = ((a ||| b : Nat) : Int) := by
  unfold Go.bits
  simp only [ofInt64]
  show IntKind.u64.wrap ((BitVec.ofNat 64 a ||| BitVec.ofNat 64 b).toNat : Int) = _
  rw [BitVec.toNat_or, BitVec.toNat_ofNat, BitVec.toNat_ofNat, Nat.mod_eq_of_lt ha, Nat.mod_eq_of_lt hb]
  exact u64_wrap _ (Nat.or_lt_two_pow ha hb)
/-- The numbers of the first set that are not in the second. -/
def lessB (a b : Nat) : Nat := (BitVec.ofNat 64 a &&& ~~~BitVec.ofNat 64 b).toNat
theorem lessB_lt (a b : Nat) : lessB a b < 2 ^ 64 := BitVec.isLt _
theorem bits_andNot (a b : Nat) : Go.bits .andNot .u64 a b = (lessB a b : Int) := by
  unfold Go.bits
  simp only [ofInt64]
  show IntKind.u64.wrap ((BitVec.ofNat 64 a &&& ~~~BitVec.ofNat 64 b).toNat : Int) = _
  exact u64_wrap _ (lessB_lt a b)
theorem lessB_bit (a b c : Nat) (ha : a < 2 ^ 64) : (lessB a b).testBit c = (a.testBit c && !b.testBit c) := by
  unfold lessB
  rw [← BitVec.getLsbD, BitVec.getLsbD_and, BitVec.getLsbD_not, BitVec.getLsbD_ofNat, BitVec.getLsbD_ofNat]
  by_cases hc : c < 64
  · simp [hc]
  · have : a.testBit c = false := Nat.testBit_lt_two_pow (Nat.lt_of_lt_of_le ha (Nat.pow_le_pow_right (by omega) (by omega)))
    simp [hc, this]
theorem bits_has (m k : Nat) (hm : m < 2 ^ 64) : (Go.bits .and .u64 ((m : Int) / 2 ^ min k 64) 1 == 1) = m.testBit k := by
  have e : ((m : Int) / 2 ^ min k 64) = ((m / 2 ^ min k 64 : Nat) : Int) := by simp
  have e1 : (1 : Int) = ((1 : Nat) : Int) := rfl
  rw [e, e1, bits_and _ _ (Nat.lt_of_le_of_lt (Nat.div_le_self _ _) hm) (by decide)]
  rw [Nat.and_one_is_mod]
  have h2 : ((((m / 2 ^ min k 64) % 2 : Nat) : Int) == ((1 : Nat) : Int)) = decide ((m / 2 ^ min k 64) % 2 = 1) := by
    rw [Bool.eq_iff_iff]; simp; omega
  rw [h2]
  by_cases hk : k < 64
  · rw [Nat.min_eq_left (by omega), Nat.testBit_eq_decide_div_mod_eq]
  · rw [Nat.min_eq_right (by omega), Nat.div_eq_of_lt hm]
    have : m.testBit k = false := Nat.testBit_lt_two_pow (Nat.lt_of_lt_of_le hm (Nat.pow_le_pow_right (by omega) (by omega)))
    simp [this]
theorem shl_one (k : Nat) (hk : k < 64) : IntKind.u64.wrap (1 * 2 ^ min k 64) = ((2 ^ k : Nat) : Int) := by
  rw [Nat.min_eq_left (by omega)]
  have : ((1 : Int) * 2 ^ k) = ((2 ^ k : Nat) : Int) := by simp
  rw [this]
  exact u64_wrap _ (Nat.pow_lt_pow_right (by omega) hk)

theorem has_any (m : Nat) (r : Int) (w : World) (hm : m < 2 ^ 64) :
    Calls Try.prog 86 #[.int .u64 m, .int .i64 r] w fun e w' => e = .returned (.bool (hasB m r)) ∧ w = w' := by
  by_cases h : 0 ≤ r
  · obtain ⟨k, rfl⟩ := Int.eq_ofNat_of_zero_le h
    have HB := Go.Lib.hid (bits_has m k hm)
    go_enter Try.func86, Try.ntmps86
    go_wp2
    go_ret
    exact ⟨ret_b (by rw [hasB_nat]; exact HB.out), rfl⟩
  · have hb := Go.Lib.hid (hasB_neg (m := m) (r := r) (by omega))
    go_enter Try.func86, Try.ntmps86
    go_wp2
    go_ret
    exact ⟨ret_b (by simp [hb.out]), rfl⟩
theorem or_add (m k : Nat) (hm : m < 2 ^ 64) (hk : k < 64) : Go.bits .or .u64 m (IntKind.u64.wrap (2 ^ k)) = (addB m k : Int) := by
  have := shl_one k hk
  rw [Nat.min_eq_left (by omega), Int.one_mul] at this
  rw [this, bits_or _ _ hm (Nat.pow_lt_pow_right (by omega) hk)]
  rfl
set_option maxRecDepth 20000 in
theorem add_any (m : Nat) (r : Int) (w : World) (g o : Nat) (hm : m < 2 ^ 64) (h0 : 0 ≤ r) (h1 : r < 64) (hc : w.cell? ⟨g, o, none⟩ = some (.int .u64 m)) (hf : w.frozen? ⟨g, o, none⟩ = false) :
    Calls Try.prog 106 #[.pointer (some ⟨g, o, none⟩), .int .i64 r] w fun e w' => (∃ v, e = .returned v) ∧ w' = (w.setCell ⟨g, o, none⟩ (.int .u64 (addB m r))).drew := by
  obtain ⟨k, rfl⟩ := Int.eq_ofNat_of_zero_le h0
  have HA := Go.Lib.hid (or_add m k hm (by omega))
  go_enter Try.func106, Try.ntmps106
  go_wp2_with fail
  refine wp_region_pick (fun w' => w'.cell? ⟨g, o, none⟩ = some (.int .u64 m)) [(0, true), (1, true), (2, true), (3, true), (4, true), (5, true), (6, true), (7, false)] (by kernel_rfl) (by kernel_rfl) (by kernel_rfl) hc ?_
  simp only [pick, List.filterMap_cons, List.filterMap_nil, List.getElem?_cons_zero, List.getElem?_cons_succ, List.map_cons, List.map_nil]
  repeat (first
    | (with_reducible refine lew_take (v := ?_) ?_ (fun w' hS' => ?_) ?_
       rotate_left
       · (go_simp; done)
       · ((try dsimp only at hS'); go_simp; try with_reducible rfl)
       simp only [Act.put, List.setIfInBounds_toArray, List.set_cons_zero, List.set_cons_succ])
    | (with_reducible refine lew_skip ?_ ?_
       · (go_simp; done)
       simp only [Act.put, List.setIfInBounds_toArray, List.set_cons_zero, List.set_cons_succ]))
  with_reducible refine lew_run ?_ (fun K hK => ?_)
  · (go_simp; done)
  go_simp
  refine hK.out _ _ (.inl rfl) ?_
  clear hK K
  refine lew_nil ?_
  go_wp2
  refine bodyPost_end (results_none rfl _ _ _) rfl ?_
  exact ⟨⟨_, rfl⟩, by rw [HA.out]⟩
/-- The same, on a box that is owned. -/
theorem add_own {lo : Nat} {w0 w : World} {L : List OB} {t : TypeId} (h : Owns lo w0 w L) (i : Nat) {g m : Nat} (hX : L[i]? = some (.box g [.int .u64 m] t)) (r : Int) (hm : m < 2 ^ 64) (h0 : 0 ≤ r) (h1 : r < 64) :
    Calls Try.prog 106 #[.pointer (some ⟨g, 0, none⟩), .int .i64 r] w fun e w' => (∃ v, e = .returned v) ∧ Owns lo w0 w' (L.set i (.box g [.int .u64 (addB m r)] t)) := by
  obtain ⟨a0, f0⟩ := h.box1 i hX
  refine (add_any m r w g 0 hm h0 h1 a0 f0).mono ?_
  rintro e w' ⟨he, rfl⟩
  exact ⟨he, (h.putBox i hX 0 _).drew⟩
set_option maxHeartbeats 800000 in
theorem usedSet_any (w : World) (B : Nat) (v : Value) (h : Hp) (hh : RdH w B v h) (hn : h.cells.length ≤ 64) :
    Calls Try.prog 62 #[v] w fun e w' => e = .returned (.int .u64 (usedM h.cells)) ∧ Below w.heap.size w w' := by
  obtain ⟨D, m, d, D', m', d', rfl, hC, hR⟩ := hh.top
  have hm1 := hC.mx; have hcap1 := hC.cap
  have l3 := hC.le1; have l4 := hC.le2
  unfold maxLen at hm1
  have H1 := ((Owns.nil w).box [.slice D m d, .slice D' m' d'] 26).box [.int .u64 (bitsOf 0 (usedN h.cells))] 81
  simp only [World.size_alloc] at H1
  obtain ⟨a0, a1, -, -⟩ := H1.box2 1 rfl
  go_enter Try.func62, Try.ntmps62
  go_wp2_with fail
  generalize hw4 : (w.alloc (.cells #[.slice D m d, .slice D' m' d'] 26)).alloc (.cells #[.int .u64 0] 81) = w4 at *
  go_loopw [9] (fun i wr => ∃ (k : Nat), i = .int .i64 k ∧ k ≤ m ∧ Owns w.heap.size w wr [.box (w.heap.size + 1) [.int .u64 (bitsOf k (usedN h.cells))] 81, .box w.heap.size [.slice D m d, .slice D' m' d'] 26]) (fun i _ => m - (intOf i).toNat)
  case atStart => exact ⟨0, rfl, Nat.zero_le _, by rw [← hw4]; exact H1⟩
  case round =>
    clear H1 a0 a1 hw4
    obtain ⟨k, rfl, hk, H⟩ := hrel
    obtain ⟨x0, xf⟩ := H.box1 0 rfl
    by_cases hlt : k < m
    · obtain ⟨b, o, l, A2, n2, c2, rfl, hbb, hx, q1, q2, q3, hrf⟩ := hC.at_ hlt
      have g1 := H.ro q1 hbb
      have g2 := H.ro q2 hbb
      have g3 := H.ro q3 hbb
      clear q1 q2 q3
      have hbl := bitsOf_lt k (usedN h.cells)
      have hb64 : bitsOf k (usedN h.cells) < 2 ^ 64 := Nat.lt_of_lt_of_le hbl (Nat.pow_le_pow_right (by omega) (by omega))
      have hun := usedN_at hx
      cases hu : l.used
      · rw [hu] at g1 hun
        have HB : Hid (bitsOf (k + 1) (usedN h.cells) = bitsOf k (usedN h.cells)) := Go.Lib.hid (by rw [bitsOf, hun]; simp)
        have H2 := H.alloc (.cells #[.bool false, .int .i64 l.data, .slice A2 n2 c2] 40)
        clear hu hun hbl hb64
        go_wp2
        go_roundw
        case rel => exact ⟨k + 1, by go_num, by omega, by rw [HB.out]; exact H2⟩
        case measure => simp [intOf]; omega
      · rw [hu] at g1 hun
        have HB : Hid (bitsOf (k + 1) (usedN h.cells) = addB (bitsOf k (usedN h.cells)) k) := Go.Lib.hid (by rw [bitsOf, hun]; simp [addB])
        have H2 := H.alloc (.cells #[.bool true, .int .i64 l.data, .slice A2 n2 c2] 40)
        have P := Go.Lib.hid hb64
        clear hu hun hbl hb64
        go_wp2_with fail
        refine (add_own H2 0 rfl (k : Int) P.out (by omega) (by omega)).mono ?_
        rintro e w2 ⟨⟨u, rfl⟩, H3⟩
        go_wp2
        go_roundw
        case rel => exact ⟨k + 1, by go_num, by omega, by rw [HB.out]; exact H3⟩
        case measure => simp [intOf]; omega
    · have HB : Hid (bitsOf k (usedN h.cells) = usedM h.cells) := Go.Lib.hid (by
        refine bits_eq (Nat.lt_of_lt_of_le (bitsOf_lt _ _) (Nat.pow_le_pow_right (by omega) (by omega))) fun c _ => ?_
        rw [bitsOf_bit]
        by_cases hc : c < k
        · simp [hc]
        · have : usedN h.cells c = false := by
            cases hq : usedN h.cells c
            · rfl
            · have := usedN_lt hq; omega
          simp [this])
      have HD := H.below
      clear H
      go_wp2
      go_ret
      exact ⟨ret_i (by rw [HB.out]), HD⟩
end Go.Proofs.Ytjpfgbckmcjjaaa
