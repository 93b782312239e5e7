/- A code as an argument: the reader over it. -/
import Derived.Test.YtdkpfggfkhnjfaaBy
namespace Go.Proofs.Ytdkpfggfkhnjfaa
open Go.RowKit Go.ChangeShapes Go.WideShapes Go.Deep Go.Joins
section
variable {H : Type} {enc : TypeId × Value → H} {w : World} {base : Nat} {held : Bool}
theorem Try.cellsU8 : Try.prog.cellsOf 5 = 1 := by kernel_rfl
/-- A slice of bytes reads as numbers in 0..255. -/
structure RdY (w : World) (B : Nat) (A : Option Addr) (n c : Nat) (bs : List Int) : Prop where
  rd : RdV w B A n c (bs.map (Value.int .u8))
  u8 : ∀ x ∈ bs, 0 ≤ x ∧ x ≤ 255
theorem u8_of_wf {x : Int} (h : (Lit.int .u8 x).wf = true) : 0 ≤ x ∧ x ≤ 255 := by simpa [Lit.wf, IntKind.min, IntKind.max, IntKind.signed, IntKind.bits] using h
set_option maxRecDepth 100000 in
theorem open_bytes_arg {v : Value} {d : DataW H} {p : List MemPlace} (hv : Value.okWide Try.prog w .any base 22 v) (h : DataW.Trod enc Try.prog w 0 (fun _ => true) held 22 v d p) :
    ∃ A n c xs, v = .slice A n c ∧ RdY w w.heap.size A n c xs := by
  obtain ⟨a0, len, cap, rfl⟩ := okWide_slice Try.underlying22 hv
  obtain ⟨fuel, hf⟩ := h
  rcases open_ints Try.underlying22 Try.underlying5 Try.cellsU8 (by simpa [Value.cells] using hf) with ⟨hcs, _⟩ | ⟨a, len', cap', zs, hcs, _, hl, hm, hz, _, hcell, hwf⟩
  · simp only [List.cons.injEq, and_true] at hcs
    rw [hcs]
    exact ⟨none, 0, 0, [], rfl, rdV_nil _ _, fun x hx => absurd hx (by simp)⟩
  · simp only [List.cons.injEq, and_true] at hcs
    rw [hcs]
    simp only [if_true] at hz
    refine ⟨some a, len', cap', zs.take len', rfl, ⟨by simp; omega, hl, hm, fun hn => ?_⟩, fun x hx => u8_of_wf (hwf x (List.mem_of_mem_take hx))⟩
    obtain ⟨b, o, s⟩ := a
    have h0 := hcell 0 (by omega)
    obtain rfl := spot_none (s := s) (by simpa [Addr.add] using h0)
    have hat : ∀ j u, ((zs.take len').map (Value.int .u8))[j]? = some u → w.cell? ⟨b, o + j, none⟩ = some u := by
      intro j u hu
      obtain ⟨hj, hju⟩ := List.getElem?_eq_some_iff.1 hu
      have hj' : j < len' := by simp at hj; omega
      have hj2 : j < zs.length := by omega
      have := hcell j (by omega)
      rw [Addr.add_lit] at this
      rw [this, ← hju]
      simp [List.getD, hj2]
    exact ⟨b, o, rfl, lt_of_cell (hat 0 _ (List.getElem?_eq_getElem (by simp; omega))), hat⟩
end
theorem RdY.below {w w' : World} {B : Nat} {A : Option Addr} {n c : Nat} {bs : List Int} (h : RdY w B A n c bs) (hb : Below B w w') : RdY w' B A n c bs := ⟨h.rd.below hb, h.u8⟩
theorem RdY.top {w : World} {B : Nat} {A : Option Addr} {n c : Nat} {bs : List Int} (h : RdY w B A n c bs) : RdY w w.heap.size A n c bs := ⟨h.rd.top, h.u8⟩
theorem RdY.cut {w : World} {B : Nat} {A : Option Addr} {n c : Nat} {bs : List Int} (h : RdY w B A n c bs) (m : Nat) (hm : m ≤ n) : RdY w B A m c (bs.take m) := by
  have hl := h.rd.len
  simp only [List.length_map] at hl
  refine ⟨⟨by simp; omega, by have := h.rd.cap; omega, h.rd.mx, fun h0 => ?_⟩, fun x hx => h.u8 x (List.mem_of_mem_take hx)⟩
  obtain ⟨b, o, hA, hlt, hc⟩ := h.rd.rd (by omega)
  refine ⟨b, o, hA, hlt, fun j u hj => hc j u ?_⟩
  rw [List.map_take] at hj
  rw [List.getElem?_take] at hj
  split at hj
  · exact hj
  · cases hj
/-- A reader stands at the code's beginning. -/
def Opened (w : World) (e : Ending) (w' : World) : Prop :=
  ∃ (g : Nat) (A : Option Addr) (n c : Nat) (bs : List Int), e = .returned (.pointer (some ⟨g, 0, none⟩)) ∧ RdU w w.heap.size A n c bs ∧ Owns w.heap.size w w' [.rdr g A n c 0]
set_option maxHeartbeats 800000 in
theorem l20Open_any (w : World) (B : Nat) (A : Option Addr) (n c : Nat) (bs : List Int) (hr : RdY w B A n c bs) :
    Calls Try.prog 14 #[.slice A n c] w (Opened w) := by
  have hr := hr.top
  have hcap := hr.rd.cap
  have hmx := hr.rd.mx
  unfold maxLen at hmx
  by_cases h2 : 2000 < n
  · have hU := hr.cut 2000 (by omega)
    have HS : Hid (Opened w (.returned (.pointer (some ⟨w.heap.size, 0, none⟩))) (w.alloc (.cells #[.slice A 2000 c, .int .i64 0] 63))) :=
      Go.Lib.hid ⟨w.heap.size, A, 2000, c, _, rfl, ⟨hU.rd, by omega, hU.u8⟩, (Owns.nil w).box [.slice A 2000 c, .int .i64 0] 63⟩
    have f1 : 2000 ≤ c := by omega
    clear hr hU
    go_enter Try.func14, Try.ntmps14
    go_wp2
    go_ret
    exact HS.out
  · have HS : Hid (Opened w (.returned (.pointer (some ⟨w.heap.size, 0, none⟩))) (w.alloc (.cells #[.slice A n c, .int .i64 0] 63))) :=
      Go.Lib.hid ⟨w.heap.size, A, n, c, _, rfl, ⟨hr.rd, by omega, hr.u8⟩, (Owns.nil w).box [.slice A n c, .int .i64 0] 63⟩
    clear hr
    go_enter Try.func14, Try.ntmps14
    go_wp2
    go_ret
    exact HS.out
end Go.Proofs.Ytdkpfggfkhnjfaa
