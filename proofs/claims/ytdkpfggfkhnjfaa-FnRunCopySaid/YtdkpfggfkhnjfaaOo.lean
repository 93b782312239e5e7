/- A reader is opened; a drawn heap can be read, be its roots a slice's tail or not. -/
import Derived.Test.YtdkpfggfkhnjfaaHp
import Derived.Test.YtdkpfggfkhnjfaaBo
namespace Go.Proofs.Ytdkpfggfkhnjfaa
open Go.RowKit
theorem RdI.drop1 {w : World} {B b o n c : Nat} {xs : List Int} (h : RdI w B (some ⟨b, o, none⟩) n c xs) (hn : 0 < n) : RdI w B (some ⟨b, o + 1, none⟩) (n - 1) (c - 1) (xs.drop 1) := by
  have hl := h.len
  have hc := h.cap
  have hm := h.mx
  simp only [List.length_map] at hl
  refine ⟨by simp; omega, by omega, by omega, fun h1 => ?_⟩
  obtain ⟨b', o', e, hlt, hcell⟩ := h.rd hn
  injection e with e; injection e with e1 e2; subst e1 e2
  refine ⟨b, o + 1, rfl, hlt, fun j u hu => ?_⟩
  have := hcell (j + 1) u (by rw [← hu, List.map_drop, List.getElem?_drop, Nat.add_comm])
  rw [← this]
  congr 2
  omega
theorem Owns.rdHx {lo : Nat} {w0 w : World} {L : List OB} (h : Owns lo w0 w L) (i j : Nat) {cv rv rv0 : Value} {rvs : List Value} {cs : List Cel} {rs rs0 : List Int} (hX : L[i]? = some (.cells cv rvs cs)) (hY : L[j]? = some (.ints rv0 rs0)) (ht : TailOf rv rv0 rs rs0) : RdH w w.heap.size (.agg #[cv, rv]) ⟨cs, rs⟩ := by
  obtain ⟨C, kC, rfl, hC⟩ := h.formC i hX
  obtain ⟨R, kR, rfl, hR⟩ := h.formI j hY
  rcases ht with ⟨rfl, rfl⟩ | ⟨g, n, c, e, rfl, rfl, hn⟩
  · exact ⟨_, _, _, _, _, _, rfl, hC, hR⟩
  · simp only [Value.slice.injEq] at e
    obtain ⟨rfl, rfl, rfl⟩ := e
    exact ⟨_, _, _, _, _, _, rfl, hC, RdI.drop1 hR hn⟩
theorem TailOf.form {rv rv0 : Value} {rs rs0 : List Int} (ht : TailOf rv rv0 rs rs0) {A : Option Addr} {n c : Nat} (e : rv0 = .slice A n c) : ∃ A' n' c', rv = .slice A' n' c' := by
  subst e
  rcases ht with ⟨rfl, -⟩ | ⟨g, n, c, -, rfl, -⟩
  · exact ⟨_, _, _, rfl⟩
  · exact ⟨_, _, _, rfl⟩
/-- A reader is owned besides what was. -/
def OpenedO (lo : Nat) (w0 : World) (L : List OB) (e : Ending) (w' : World) : Prop :=
  ∃ (g : Nat) (A : Option Addr) (n c : Nat) (bs : List Int), e = .returned (.pointer (some ⟨g, 0, none⟩)) ∧ RdU w0 lo A n c bs ∧ Owns lo w0 w' (.rdr g A n c 0 :: L)
set_option maxHeartbeats 800000 in
set_option maxRecDepth 20000 in
theorem open_own {lo : Nat} {w0 w : World} {L : List OB} (h : Owns lo w0 w L) (A : Option Addr) (n c : Nat) (bs : List Int) (hr : RdY w0 lo A n c bs) :
    Calls Try.prog 14 #[.slice A n c] w (OpenedO lo w0 L) := by
  have hcap := hr.rd.cap
  have hmx := hr.rd.mx
  unfold maxLen at hmx
  by_cases h2 : 2000 < n
  · have hU := hr.cut 2000 (by omega)
    have HS : Hid (OpenedO lo w0 L (.returned (.pointer (some ⟨w.heap.size, 0, none⟩))) (w.alloc (.cells #[.slice A 2000 c, .int .i64 0] 63))) :=
      Go.Lib.hid ⟨w.heap.size, A, 2000, c, _, rfl, ⟨hU.rd, by omega, hU.u8⟩, h.box [.slice A 2000 c, .int .i64 0] 63⟩
    have f1 : 2000 ≤ c := by omega
    clear hr hU h
    go_enter Try.func14, Try.ntmps14
    go_wp2
    go_ret
    exact HS.out
  · have HS : Hid (OpenedO lo w0 L (.returned (.pointer (some ⟨w.heap.size, 0, none⟩))) (w.alloc (.cells #[.slice A n c, .int .i64 0] 63))) :=
      Go.Lib.hid ⟨w.heap.size, A, n, c, _, rfl, ⟨hr.rd, by omega, hr.u8⟩, h.box [.slice A n c, .int .i64 0] 63⟩
    clear hr h
    go_enter Try.func14, Try.ntmps14
    go_wp2
    go_ret
    exact HS.out
/-- A heap of the call's own. -/
def DrawnH (w : World) (e : Ending) (w' : World) : Prop :=
  ∃ (h : Hp) (cv : Value) (rvs : List Value) (rv rv0 : Value) (rs0 : List Int), e = .returned (.agg #[cv, rv]) ∧ SmG h ∧ TailOf rv rv0 h.roots rs0 ∧ Owns w.heap.size w w' [.cells cv rvs h.cells, .ints rv0 rs0]
/-- A heap and some numbers, of the call's own. -/
def DrawnHI (w : World) (e : Ending) (w' : World) : Prop :=
  ∃ (h : Hp) (cv : Value) (rvs : List Value) (rv rv0 v : Value) (rs0 xs : List Int), e = .returned (.tuple #[.agg #[cv, rv], v]) ∧ SmG h ∧ TailOf rv rv0 h.roots rs0 ∧ xs.length ≤ 60 ∧ Owns w.heap.size w w' [.ints v xs, .cells cv rvs h.cells, .ints rv0 rs0]
/-- A heap and some numbers were drawn. -/
def DrewHI (lo : Nat) (w0 : World) (L : List OB) (i g : Nat) (A : Option Addr) (n c p : Nat) (e : Ending) (w' : World) : Prop :=
  ∃ (h : Hp) (cv : Value) (rvs : List Value) (rv rv0 v : Value) (rs0 xs : List Int) (p' : Nat), e = .returned (.tuple #[.agg #[cv, rv], v]) ∧ SmG h ∧ TailOf rv rv0 h.roots rs0 ∧ xs.length ≤ 60 ∧ p ≤ p' ∧ p' ≤ p + 2000 ∧ Owns lo w0 w' (.ints v xs :: .cells cv rvs h.cells :: .ints rv0 rs0 :: L.set i (.rdr g A n c p'))
end Go.Proofs.Ytdkpfggfkhnjfaa
