/- The drawing of a heap: a heap of few cells of the call's own, for every code that can be read. -/
import Derived.Test.YtdkpfggfkhnjfaaSw
namespace Go.Proofs.Ytdkpfggfkhnjfaa
open Go.RowKit
structure SmG (h : Hp) : Prop where
  len : h.cells.length ≤ 41
  roots : h.roots.length ≤ 4
  refs : ∀ c ∈ h.cells, c.refs.length ≤ 3
structure Sm4 (h : Hp) : Prop where
  len : h.cells.length ≤ 40
  roots : h.roots.length = 4
  refs : ∀ c ∈ h.cells, c.refs.length ≤ 3
theorem Good.sm4 {h : Hp} (g : Good h) : Sm4 h := ⟨g.len, g.roots, fun c hc => by
  have := g.cell c hc
  rw [cellOk_iff] at this
  rcases this with k | k
  · exact k.2.2.2.2
  · rw [k.2.2]; simp⟩
theorem Sm4.set {h : Hp} (s : Sm4 h) {k : Nat} {l : Cel} (hl : h.cells[k]? = some l) (j : Nat) (x : Int) : Sm4 ⟨h.cells.set k ⟨l.used, l.data, l.refs.set j x⟩, h.roots⟩ :=
  ⟨by simpa using s.len, s.roots, fun c hc => (mem_set' hc).elim (fun e => by rw [e]; simpa using s.refs l (List.mem_of_getElem? hl)) (s.refs c)⟩
/-- The roots may be what is left of a slice without its first. -/
def TailOf (rv rv0 : Value) (rs rs0 : List Int) : Prop := (rv = rv0 ∧ rs = rs0) ∨ ∃ g n c, rv0 = .slice (some ⟨g, 0, none⟩) n c ∧ rv = .slice (some ⟨g, 1, none⟩) (n - 1) (c - 1) ∧ rs = rs0.drop 1 ∧ 0 < n
theorem Owns.rot3 {lo : Nat} {w0 w : World} {X Y Z : OB} {L : List OB} (h : Owns lo w0 w (X :: Y :: Z :: L)) : Owns lo w0 w (Z :: X :: Y :: L) :=
  h.pick (fun i => if i = 0 then 2 else if i = 1 then 0 else if i = 2 then 1 else i) (fun i T hT => by
    match i, hT with
    | 0, hT => simpa using hT
    | 1, hT => simpa using hT
    | 2, hT => simpa using hT
    | i + 3, hT => simpa using hT) fun i j _ _ e => by
    split at e <;> split at e <;> (try split at e) <;> (try split at e) <;> (try split at e) <;> (try split at e) <;> omega
/-- A heap was drawn. -/
def DrewH (lo : Nat) (w0 : World) (L : List OB) (i g : Nat) (A : Option Addr) (n c p : Nat) (e : Ending) (w' : World) : Prop :=
  ∃ (h : Hp) (cv : Value) (rvs : List Value) (rv rv0 : Value) (rs0 : List Int) (p' : Nat), e = .returned (.agg #[cv, rv]) ∧ SmG h ∧ TailOf rv rv0 h.roots rs0 ∧ p ≤ p' ∧ p' ≤ p + 1000 ∧ Owns lo w0 w' (.cells cv rvs h.cells :: .ints rv0 rs0 :: L.set i (.rdr g A n c p'))
end Go.Proofs.Ytdkpfggfkhnjfaa
