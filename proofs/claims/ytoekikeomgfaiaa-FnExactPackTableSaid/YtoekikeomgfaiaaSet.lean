/- The program's sets of cells, bits of a number: asking, adding, the used cells. -/
import Derived.Test.YtoekikeomgfaiaaRc
import Derived.Test.YtoekikeomgfaiaaSt
import Derived.Deep.LoopGhost
namespace Go.Proofs.Ytoekikeomgfaiaa
open Go.RowKit
theorem u64_wrap (n : Nat) (h : n < 2 ^ 64) : IntKind.u64.wrap (n : Int) = n := by
  simp [IntKind.wrap, IntKind.bits, IntKind.signed]
  omega
theorem ofInt64 (a : Nat) : BitVec.ofInt IntKind.u64.bits (a : Int) = BitVec.ofNat 64 a := by
  exact BitVec.ofInt_natCast 64 a
theorem bits_and (a b : Nat) (ha : a < 2 ^ 64) (hb : b < 2 ^ 64) : Go.bits .and .u64 a b = ((a &&& b : Nat) : Int) := by
  unfold Go.bits
  simp only [ofInt64]
  show IntKind.u64.wrap ((BitVec.ofNat 64 a &&& BitVec.ofNat 64 b).toNat : Int) = _
  rw [BitVec.toNat_and, BitVec.toNat_ofNat, BitVec.toNat_ofNat, Nat.mod_eq_of_lt ha, Nat.mod_eq_of_lt hb]
  exact u64_wrap _ (Nat.and_lt_two_pow _ hb)
theorem bits_or (a b : Nat) (ha : a < 2 ^ 64) (hb : b < 2 ^ 64) : Go.bits .or .u64 a b = ((a ||| b : Nat) : Int) := by
  unfold Go.bits
  simp only [ofInt64]
  show IntKind.u64.wrap ((BitVec.ofNat 64 a ||| BitVec.ofNat 64 b).toNat : Int) = _
  rw [BitVec.toNat_or, BitVec.toNat_ofNat, BitVec.toNat_ofNat, Nat.mod_eq_of_lt ha, Nat.mod_eq_of_lt hb]
  exact u64_wrap _ (Nat.or_lt_two_pow ha hb)
/-- The numbers of the first set that are not in the second. -/
def lessB (a b : Nat) : Nat := (BitVec.ofNat 64 a &&& ~~~BitVec.ofNat 64 b).toNat
theorem lessB_lt (a b : Nat) : lessB a b < 2 ^ 64 := BitVec.isLt _
theorem bits_andNot (a b : Nat) : Go.bits .andNot .u64 a b = (lessB a b : Int) := by
  unfold Go.bits
  simp only [ofInt64]
  show IntKind.u64.wrap ((BitVec.ofNat 64 a &&& ~~~BitVec.ofNat 64 b).toNat : Int) = _
  exact u64_wrap _ (lessB_lt a b)
theorem lessB_bit (a b c : Nat) (ha : a < 2 ^ 64) : (lessB a b).testBit c = (a.testBit c && !b.testBit c) := by
  unfold lessB
  rw [← BitVec.getLsbD, BitVec.getLsbD_and, BitVec.getLsbD_not, BitVec.getLsbD_ofNat, BitVec.getLsbD_ofNat]
  by_cases hc : c < 64
  · simp [hc]
  · have : a.testBit c = false := Nat.testBit_lt_two_pow (Nat.lt_of_lt_of_le ha (Nat.pow_le_pow_right (by omega) (by omega)))
    simp [hc, this]
theorem bits_has (m k : Nat) (hm : m < 2 ^ 64) : (Go.bits .and .u64 ((m : Int) / 2 ^ min k 64) 1 == 1) = m.testBit k := by
  have e : ((m : Int) / 2 ^ min k 64) = ((m / 2 ^ min k 64 : Nat) : Int) := by simp
  have e1 : (1 : Int) = ((1 : Nat) : Int) := rfl
  rw [e, e1, bits_and _ _ (Nat.lt_of_le_of_lt (Nat.div_le_self _ _) hm) (by decide)]
  rw [Nat.and_one_is_mod]
  have h2 : ((((m / 2 ^ min k 64) % 2 : Nat) : Int) == ((1 : Nat) : Int)) = decide ((m / 2 ^ min k 64) % 2 = 1) := by
    rw [Bool.eq_iff_iff]; simp; omega
  rw [h2]
  by_cases hk : k < 64
  · rw [Nat.min_eq_left (by omega), Nat.testBit_eq_decide_div_mod_eq]
  · rw [Nat.min_eq_right (by omega), Nat.div_eq_of_lt hm]
    have : m.testBit k = false := Nat.testBit_lt_two_pow (Nat.lt_of_lt_of_le hm (Nat.pow_le_pow_right (by omega) (by omega)))
    simp [this]
theorem shl_one (k : Nat) (hk : k < 64) : IntKind.u64.wrap (1 * 2 ^ min k 64) = ((2 ^ k : Nat) : Int) := by
  rw [Nat.min_eq_left (by omega)]
  have : ((1 : Int) * 2 ^ k) = ((2 ^ k : Nat) : Int) := by simp
  rw [this]
  exact u64_wrap _ (Nat.pow_lt_pow_right (by omega) hk)

theorem has_any (m : Nat) (r : Int) (w : World) (hm : m < 2 ^ 64) :
    Calls Try.prog 48 #[.int .u64 m, .int .i64 r] w fun e w' => e = .returned (.bool (hasB m r)) ∧ w = w' := by
  by_cases h : 0 ≤ r
  · obtain ⟨k, rfl⟩ := Int.eq_ofNat_of_zero_le h
    have HB := Go.Lib.hid (bits_has m k hm)
    go_enter Try.func48, Try.ntmps48
    go_wp2
    go_ret
    exact ⟨ret_b (by rw [hasB_nat]; exact HB.out), rfl⟩
  · have hb := Go.Lib.hid (hasB_neg (m := m) (r := r) (by omega))
    go_enter Try.func48, Try.ntmps48
    go_wp2
    go_ret
    exact ⟨ret_b (by simp [hb.out]), rfl⟩
theorem or_add (m k : Nat) (hm : m < 2 ^ 64) (hk : k < 64) : Go.bits .or .u64 m (IntKind.u64.wrap (2 ^ k)) = (addB m k : Int) := by
  have := shl_one k hk
  rw [Nat.min_eq_left (by omega), Int.one_mul] at this
  rw [this, bits_or _ _ hm (Nat.pow_lt_pow_right (by omega) hk)]
  rfl
set_option maxRecDepth 20000 in
theorem add_any (m : Nat) (r : Int) (w : World) (g o : Nat) (hm : m < 2 ^ 64) (h0 : 0 ≤ r) (h1 : r < 64) (hc : w.cell? ⟨g, o, none⟩ = some (.int .u64 m)) (hf : w.frozen? ⟨g, o, none⟩ = false) :
    Calls Try.prog 46 #[.pointer (some ⟨g, o, none⟩), .int .i64 r] w fun e w' => (∃ v, e = .returned v) ∧ w' = (w.setCell ⟨g, o, none⟩ (.int .u64 (addB m r))).drew := by
  obtain ⟨k, rfl⟩ := Int.eq_ofNat_of_zero_le h0
  have HA := Go.Lib.hid (or_add m k hm (by omega))
  go_enter Try.func46, Try.ntmps46
  go_wp2_with fail
  refine wp_region_pick (fun w' => w'.cell? ⟨g, o, none⟩ = some (.int .u64 m)) [(0, true), (1, true), (2, true), (3, true), (4, true), (5, true), (6, true), (7, false)] (by kernel_rfl) (by kernel_rfl) (by kernel_rfl) hc ?_
  simp only [pick, List.filterMap_cons, List.filterMap_nil, List.getElem?_cons_zero, List.getElem?_cons_succ, List.map_cons, List.map_nil]
  repeat (first
    | (with_reducible refine lew_take (v := ?_) ?_ (fun w' hS' => ?_) ?_
       rotate_left
       · (go_simp; done)
       · ((try dsimp only at hS'); go_simp; try with_reducible rfl)
       simp only [Act.put, List.setIfInBounds_toArray, List.set_cons_zero, List.set_cons_succ])
    | (with_reducible refine lew_skip ?_ ?_
       · (go_simp; done)
       simp only [Act.put, List.setIfInBounds_toArray, List.set_cons_zero, List.set_cons_succ]))
  with_reducible refine lew_run ?_ (fun K hK => ?_)
  · (go_simp; done)
  go_simp
  refine hK.out _ _ (.inl rfl) ?_
  clear hK K
  refine lew_nil ?_
  go_wp2
  refine bodyPost_end (results_none rfl _ _ _) rfl ?_
  exact ⟨⟨_, rfl⟩, by rw [HA.out]⟩
/-- The same, on a box that is owned. -/
theorem add_own {lo : Nat} {w0 w : World} {L : List OB} {t : TypeId} (h : Owns lo w0 w L) (i : Nat) {g m : Nat} (hX : L[i]? = some (.box g [.int .u64 m] t)) (r : Int) (hm : m < 2 ^ 64) (h0 : 0 ≤ r) (h1 : r < 64) :
    Calls Try.prog 46 #[.pointer (some ⟨g, 0, none⟩), .int .i64 r] w fun e w' => (∃ v, e = .returned v) ∧ Owns lo w0 w' (L.set i (.box g [.int .u64 (addB m r)] t)) := by
  obtain ⟨a0, f0⟩ := h.box1 i hX
  refine (add_any m r w g 0 hm h0 h1 a0 f0).mono ?_
  rintro e w' ⟨he, rfl⟩
  exact ⟨he, (h.putBox i hX 0 _).drew⟩
end Go.Proofs.Ytoekikeomgfaiaa
