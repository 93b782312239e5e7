/- The program's tests whether an instruction is possible, one for each operation. For every valid heap that can be read. -/
import Derived.Test.YtdkpfggfkhnjfaaPl
namespace Go.Proofs.Ytdkpfggfkhnjfaa
open Go.RowKit
set_option maxHeartbeats 3200000 in
theorem always_any (w : World) (B : Nat) (v : Value) (h : Hp) (hh : RdH w B v h) (o : Cmd) : Calls Try.prog 68 #[v, cmdV o] w fun e w' => e = .returned (.bool true) ∧ Below w.heap.size w w' := by
  obtain ⟨D, m, d, D', m', d', rfl, hC, hR⟩ := hh.top
  obtain ⟨op, a, b, c⟩ := o
  have HB := (((Owns.nil w).box [.slice D m d, .slice D' m' d'] 29).box [.int .i64 op, .int .i64 a, .int .i64 b, .int .i64 c] 46).below
  go_enter Try.func68, Try.ntmps68
  go_wp2
  go_ret
  exact ⟨rfl, HB⟩
set_option maxHeartbeats 3200000 in
set_option maxRecDepth 20000 in
theorem possGet_any (w : World) (B : Nat) (v : Value) (h : Hp) (hh : RdH w B v h) (g : Good h) (op a c : Int) (bn : Nat) (hb : bn ≤ 3) (hc : 0 ≤ c) : Calls Try.prog 69 #[v, cmdV ⟨op, a, bn, c⟩] w fun e w' => e = .returned (.bool (placeB h (rootI h bn) c)) ∧ Below w.heap.size w w' := by
  have hh' := hh.top
  obtain ⟨D, m, d, D', m', d', rfl, hC, hR⟩ := hh.top
  have H := ((Owns.nil w).box [.slice D m d, .slice D' m' d'] 29).box [.int .i64 op, .int .i64 a, .int .i64 bn, .int .i64 c] 46
  simp only [World.size_alloc] at H
  obtain ⟨a0, a1, -, -⟩ := H.box2 1 rfl
  obtain ⟨b0, b1, b2, b3, -, -, -, -⟩ := box4 H 0 rfl
  go_enter Try.func69, Try.ntmps69
  go_wp2_with fail
  refine (place_any _ _ _ h (hh'.below H.below) g bn hb c hc).mono ?_
  rintro e w1 ⟨⟨p, rfl⟩, hb1⟩
  have HB := (H.call hb1).below
  clear H a0 a1 b0 b1 b2 b3 hb1
  go_wp2
  go_ret
  exact ⟨rfl, HB⟩
set_option maxHeartbeats 3200000 in
set_option maxRecDepth 20000 in
theorem possSet_any (w : World) (B : Nat) (v : Value) (h : Hp) (hh : RdH w B v h) (g : Good h) (op b c : Int) (an : Nat) (ha : an ≤ 3) (hc : 0 ≤ c) : Calls Try.prog 72 #[v, cmdV ⟨op, an, b, c⟩] w fun e w' => e = .returned (.bool (placeB h (rootI h an) c)) ∧ Below w.heap.size w w' := by
  have hh' := hh.top
  obtain ⟨D, m, d, D', m', d', rfl, hC, hR⟩ := hh.top
  have H := ((Owns.nil w).box [.slice D m d, .slice D' m' d'] 29).box [.int .i64 op, .int .i64 an, .int .i64 b, .int .i64 c] 46
  simp only [World.size_alloc] at H
  obtain ⟨a0, a1, -, -⟩ := H.box2 1 rfl
  obtain ⟨b0, b1, b2, b3, -, -, -, -⟩ := box4 H 0 rfl
  go_enter Try.func72, Try.ntmps72
  go_wp2_with fail
  refine (place_any _ _ _ h (hh'.below H.below) g an ha c hc).mono ?_
  rintro e w1 ⟨⟨p, rfl⟩, hb1⟩
  have HB := (H.call hb1).below
  clear H a0 a1 b0 b1 b2 b3 hb1
  go_wp2
  go_ret
  exact ⟨rfl, HB⟩
set_option maxHeartbeats 3200000 in
set_option maxRecDepth 20000 in
theorem possData_any (w : World) (B : Nat) (v : Value) (h : Hp) (hh : RdH w B v h) (g : Good h) (op b c : Int) (an : Nat) (ha : an ≤ 3) : Calls Try.prog 76 #[v, cmdV ⟨op, an, b, c⟩] w fun e w' => e = .returned (.bool (decide (0 ≤ rootI h an))) ∧ Below w.heap.size w w' := by
  have hh' := hh.top
  obtain ⟨D, m, d, D', m', d', rfl, hC, hR⟩ := hh.top
  have l3 := RdI.le1 hR; have l4 := RdI.le2 hR
  have h4 := g.roots
  obtain ⟨bb, oo, x, rfl, hbb, hx, q1⟩ := RdI.at_ hR (show an < m' by omega)
  have H := ((Owns.nil w).box [.slice D m d, .slice (some ⟨bb, oo, none⟩) m' d'] 29).box [.int .i64 op, .int .i64 an, .int .i64 b, .int .i64 c] 46
  simp only [World.size_alloc] at H
  obtain ⟨a0, a1, -, -⟩ := H.box2 1 rfl
  obtain ⟨b0, b1, b2, b3, -, -, -, -⟩ := box4 H 0 rfl
  have q2 := H.ro q1 hbb
  have HB := H.below
  have HE := Go.Lib.hid (rootI_of hx)
  have hal : an < m' := by omega
  clear H q1 h4 g l3 l4 hC hR hh hh'
  rw [HE.out]
  go_enter Try.func76, Try.ntmps76
  go_wp2
  go_ret
  first | exact ⟨rfl, HB⟩ | exact ⟨by simp, HB⟩
end Go.Proofs.Ytdkpfggfkhnjfaa
