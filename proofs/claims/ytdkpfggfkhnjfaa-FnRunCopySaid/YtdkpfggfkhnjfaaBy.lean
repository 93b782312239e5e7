/- The drawing of numbers out of a code: the reader's functions, for every code that can be read. -/
import Derived.Test.YtdkpfggfkhnjfaaZ0
import Derived.Laws.Bits64
import Derived.IntWalk
namespace Go.Proofs.Ytdkpfggfkhnjfaa
open Go.RowKit
/-- A slice of at most 2000 bytes reads as numbers in 0..255. -/
structure RdU (w : World) (B : Nat) (A : Option Addr) (n c : Nat) (bs : List Int) : Prop where
  rd : RdV w B A n c (bs.map (Value.int .u8))
  le : n ≤ 2000
  u8 : ∀ x ∈ bs, 0 ≤ x ∧ x ≤ 255
theorem RdU.at_ {w : World} {B : Nat} {A : Option Addr} {n c : Nat} {bs : List Int} (h : RdU w B A n c bs) {k : Nat} (hk : k < n) : ∃ b o x, A = some ⟨b, o, none⟩ ∧ b < B ∧ (0 ≤ x ∧ x ≤ 255) ∧ w.cell? ⟨b, o + k, none⟩ = some (.int .u8 x) := by
  obtain ⟨b, o, u, hA, hlt, hx, hc⟩ := h.rd.at_ hk
  have hx' := hx.out
  rw [List.getElem?_map] at hx'
  obtain ⟨x, h1, h2⟩ := Option.map_eq_some_iff.1 hx'
  exact ⟨b, o, x, hA, hlt, h.u8 x (List.mem_of_getElem? h1), by rw [hc, ← h2]⟩
abbrev OB.rdr (g : Nat) (A : Option Addr) (n c p : Nat) : OB := .box g [.slice A n c, .int .i64 (p : Int)] 63
theorem set_get {α : Type} {L : List α} {i : Nat} {X : α} (h : L[i]? = some X) (Y : α) : (L.set i Y)[i]? = some Y := by
  have := (List.getElem?_eq_some_iff.1 h).1
  simp [this]
/-- A number was drawn: one more byte is passed. -/
def Picked (lo : Nat) (w0 : World) (L : List OB) (i g : Nat) (A : Option Addr) (n c p : Nat) (m : Int) (e : Ending) (w' : World) : Prop :=
  ∃ x : Nat, e = .returned (.int .i64 (x : Int)) ∧ ((x : Int) < m ∨ x = 0) ∧ Owns lo w0 w' (L.set i (.rdr g A n c (p + 1)))
theorem xor_in (a b : Nat) (ha : a < 4294967296) (hb : b < 4294967296) : ∃ x : Nat, Go.bits .xor .i64 (a : Int) (b : Int) = (x : Int) ∧ x < 4294967296 := by
  have hx : a ^^^ b < 2 ^ 32 := Nat.xor_lt_two_pow (by omega) (by omega)
  refine ⟨a ^^^ b, ?_, by omega⟩
  have h1 : (BitVec.ofInt 64 (a : Int)).toNat = a := by
    rw [BitVec.ofInt_natCast, BitVec.toNat_ofNat]; exact Nat.mod_eq_of_lt (by omega)
  have h2 : (BitVec.ofInt 64 (b : Int)).toNat = b := by
    rw [BitVec.ofInt_natCast, BitVec.toNat_ofNat]; exact Nat.mod_eq_of_lt (by omega)
  show IntKind.i64.wrap ((BitVec.ofInt 64 (a : Int) ^^^ BitVec.ofInt 64 (b : Int)).toNat : Int) = _
  rw [BitVec.toNat_xor, h1, h2]
  exact IntWalk.i64_in _ (by omega)
theorem pick_val (x y : Int) (p n : Nat) (hx0 : 0 ≤ x) (hx1 : x ≤ 255) (hy0 : 0 ≤ y) (hy1 : y ≤ 255) (hp : p ≤ 1000000) :
    ∃ V : Nat, wrap64 (x * 131 + y * 1117 + (p : Int) * 29 + wrap64 (wrap64 ((p : Int) / (n : Int)) * 53)) = (V : Int) ∧ V < 4294967296 := by
  obtain ⟨d, hd, hdl⟩ : ∃ d : Nat, (p : Int) / (n : Int) = (d : Int) ∧ d ≤ 1000000 := ⟨p / n, rfl, by have := Nat.div_le_self p n; omega⟩
  rw [hd]
  clear hd
  rw [show wrap64 (d : Int) = (d : Int) by unfold wrap64; omega, show wrap64 ((d : Int) * 53) = (d : Int) * 53 by unfold wrap64; omega]
  rw [show wrap64 (x * 131 + y * 1117 + (p : Int) * 29 + (d : Int) * 53) = x * 131 + y * 1117 + (p : Int) * 29 + (d : Int) * 53 by unfold wrap64; omega]
  exact ⟨(x * 131 + y * 1117 + (p : Int) * 29 + (d : Int) * 53).toNat, by omega, by omega⟩
theorem picked_drew {lo : Nat} {w0 w' : World} {L : List OB} {i g : Nat} {A : Option Addr} {n c p : Nat} {m : Int} {e : Ending} (h : Picked lo w0 L i g A n c p m e w') (k : Nat) : Picked lo w0 L i g A n c p m e (w'.drewN k) := by
  obtain ⟨x, e, hx, hO⟩ := h
  exact ⟨x, e, hx, hO.drewN k⟩
set_option maxHeartbeats 1600000 in
theorem pick_own {lo : Nat} {w0 w : World} {L : List OB} {g : Nat} {A : Option Addr} {n c p : Nat} (h : Owns lo w0 w L) (i : Nat) (hX : L[i]? = some (.rdr g A n c p)) {bs : List Int} (hr : RdU w0 lo A n c bs) (hp : p ≤ 1000000) (m : Int) (hm : I64 m) :
    Calls Try.prog 55 #[.pointer (some ⟨g, 0, none⟩), .int .i64 m] w (Picked lo w0 L i g A n c p m) := by
  have H1 := h.putBox i hX 1 (.int .i64 ((p : Int) + 1))
  simp only [List.set_cons_zero, List.set_cons_succ] at H1
  obtain ⟨a0, a1, f0, f1⟩ := h.box2 i hX
  obtain ⟨c0, c1, -, -⟩ := H1.box2 i (set_get hX _)
  have hn := hr.le
  unfold I64 at hm
  have HS : ∀ x : Nat, ((x : Int) < m ∨ x = 0) → Picked lo w0 L i g A n c p m (.returned (.int .i64 (x : Int))) (w.setCell ⟨g, 1, none⟩ (.int .i64 ((p : Int) + 1))) := fun x hx => ⟨x, rfl, hx, H1⟩
  have HS0 := Go.Lib.hid (HS 0 (.inr rfl))
  have HSX := Go.Lib.hid HS
  clear HS
  by_cases hm1 : m < 1
  · clear hr H1
    go_enter Try.func55, Try.ntmps55
    go_wp2
    go_ret
    exact HS0.out
  by_cases hn0 : n = 0
  · subst hn0
    clear hr H1
    go_enter Try.func55, Try.ntmps55
    go_wp2
    go_ret
    exact HS0.out
  by_cases hpn : p < n
  · obtain ⟨b, o, x, rfl, hb, hx, gx⟩ := hr.at_ hpn
    have gx' := (H1.ro gx hb)
    clear hr H1
    have hXm : 0 ≤ x % m ∧ x % m < m := ⟨Int.emod_nonneg _ (by omega), Int.emod_lt_of_pos _ (by omega)⟩
    have HSY := Go.Lib.hid (HSX.out (x % m).toNat (.inl (by omega)))
    rw [show (((x % m).toNat : Nat) : Int) = x % m by omega] at HSY
    clear hXm
    go_enter Try.func55, Try.ntmps55
    go_wp2
    go_ret
    exact HSY.out
  · have hn1 : 0 < n := by omega
    obtain ⟨q1, hq1⟩ : ∃ q, q = p % n := ⟨_, rfl⟩
    obtain ⟨q2, hq2⟩ : ∃ q, q = (p * 7 + 3) % n := ⟨_, rfl⟩
    have hl1 : q1 < n := by rw [hq1]; exact Nat.mod_lt p hn1
    have hl2 : q2 < n := by rw [hq2]; exact Nat.mod_lt _ hn1
    have t1 : (p : Int).tmod (n : Int) = (q1 : Int) := by rw [hq1]; rfl
    have t2 : ((p : Int) * 7 + 3).tmod (n : Int) = (q2 : Int) := by rw [hq2]; rfl
    have t3 : IntKind.i64.wrap ((p : Int) * 7) = (p : Int) * 7 := IntWalk.i64_in _ (by omega)
    have t4 : IntKind.i64.wrap ((p : Int) * 7 + 3) = (p : Int) * 7 + 3 := IntWalk.i64_in _ (by omega)
    have t5 : IntKind.i64.wrap ((p : Int) * 29) = (p : Int) * 29 := IntWalk.i64_in _ (by omega)
    clear hq1 hq2
    obtain ⟨b, o, x, rfl, hb, hx, gx⟩ := hr.at_ hl1
    obtain ⟨b', o', y, e, -, hy, gy⟩ := hr.at_ hl2
    injection e with e; injection e with e1 e2; subst e1 e2
    have gx' := (H1.ro gx hb)
    have gy' := (H1.ro gy hb)
    clear hr H1 gx gy
    go_enter Try.func55, Try.ntmps55
    go_wp2_with fail
    go_quiet (fail)
    clear t1 t2 t3 t4 t5
    obtain ⟨V, hV, hVl⟩ := pick_val x y p n hx.1 hx.2 hy.1 hy.2 hp
    rw [hV]
    clear hV
    obtain ⟨X, hXe, hXl⟩ := xor_in V (V / 64) hVl (by omega)
    have hXe' : Go.bits .xor .i64 (V : Int) ((V : Int) / 64) = (X : Int) := hXe
    clear hXe
    have hXm : 0 ≤ (X : Int) % m ∧ (X : Int) % m < m := ⟨Int.emod_nonneg _ (by omega), Int.emod_lt_of_pos _ (by omega)⟩
    have HSY := Go.Lib.hid (HSX.out ((X : Int) % m).toNat (.inl (by omega)))
    rw [show ((((X : Int) % m).toNat : Nat) : Int) = (X : Int) % m by omega] at HSY
    clear hXm
    go_wp2
    go_ret
    exact picked_drew HSY.out nq
end Go.Proofs.Ytdkpfggfkhnjfaa
