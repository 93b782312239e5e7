/- The laws' function that tells whether two tables are the same answers true for two that read the same. -/
import Derived.Test.YtcekohpekpkobaaZ1
import Derived.Test.YtcekohpekpkobaaSm
namespace Go.Proofs.Ytcekohpekpkobaa
open Go.RowKit
theorem sameTable_yes (w : World) (B B' : Nat) (u v : Value) (t : Tbl) (h1 : RdT w B u t) (h2 : RdT w B' v t) :
    Calls Try.prog 8 #[u, v] w fun e w' => e = .returned (.bool true) ∧ Below w.heap.size w w' := by
  obtain ⟨D, m, d, D', m', d', E, q, f, rfl, hC, hR, hE⟩ := h1.top
  obtain ⟨P, r, s, P', r', s', F, i, j, rfl, kC, kR, kE⟩ := h2.top
  have H1 := ((Owns.nil w).box [.slice D m d, .slice D' m' d', .slice E q f] 28).box [.slice P r s, .slice P' r' s', .slice F i j] 28
  simp only [World.size_alloc] at H1
  obtain ⟨a0, a1, a2, -, -, -⟩ := H1.box3 1 rfl
  obtain ⟨b0, b1, b2, -, -, -⟩ := H1.box3 0 rfl
  have hR2 : RdH w w.heap.size (.agg #[.slice D m d, .slice D' m' d']) t.store := ⟨_, _, _, _, _, _, rfl, hC, hR⟩
  have kR2 : RdH w w.heap.size (.agg #[.slice P r s, .slice P' r' s']) t.store := ⟨_, _, _, _, _, _, rfl, kC, kR⟩
  go_enter Try.func8, Try.ntmps8
  go_wp2_with fail
  refine (sameHeap_yes _ _ _ _ _ t.store (hR2.below H1.below) (kR2.below H1.below)).mono ?_
  rintro e w1 ⟨rfl, hb1⟩
  have H2 := H1.call hb1
  clear a0 a1 a2 b0 b1 b2 H1
  obtain ⟨a0, a1, a2, -, -, -⟩ := H2.box3 1 rfl
  obtain ⟨b0, b1, b2, -, -, -⟩ := H2.box3 0 rfl
  go_wp2_with fail
  refine (sameInts_yes _ _ _ _ _ _ _ _ _ t.hands (hE.below H2.below) (kE.below H2.below)).mono ?_
  rintro e w2 ⟨rfl, hb2⟩
  have HB := (H2.call hb2).below
  clear H2
  go_wp2
  go_ret
  exact ⟨rfl, HB⟩
end Go.Proofs.Ytcekohpekpkobaa
