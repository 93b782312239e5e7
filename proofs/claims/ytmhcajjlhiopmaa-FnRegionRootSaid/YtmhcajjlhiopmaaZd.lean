/- A heap with regions drawn from a code; what is left of it when regions are given back. For every code that can be read. -/
import Derived.Test.YtmhcajjlhiopmaaRo
import Derived.Test.YtmhcajjlhiopmaaAl
import Derived.Test.YtmhcajjlhiopmaaZq
import Derived.Test.YtmhcajjlhiopmaaUc
import Derived.Test.YtmhcajjlhiopmaaSm
namespace Go.Proofs.Ytmhcajjlhiopmaa
open Go.RowKit
theorem RdI.cutN {w : World} {B : Nat} {A : Option Addr} {n c : Nat} {xs : List Int} (h : RdI w B A n c xs) (m : Nat) (hm : m ≤ n) : RdI w B A m c (xs.take m) := by
  have hl := h.len
  simp only [List.length_map] at hl
  refine ⟨by simp; omega, by have := h.cap; omega, h.mx, fun h0 => ?_⟩
  obtain ⟨b, o, hA, hlt, hc⟩ := h.rd (by omega)
  refine ⟨b, o, hA, hlt, fun j u hj => hc j u ?_⟩
  rw [List.map_take] at hj
  rw [List.getElem?_take] at hj
  split at hj
  · exact hj
  · cases hj
theorem mSizes_facts {h : Hp} {rs : List Int} (h0 : mRegionSizes h rs ≠ []) : mRegionsValid h rs = true ∧ mRegionSizes h rs = sizesTo h.cells rs h.cells.length := by
  unfold mRegionSizes at h0 ⊢
  split at h0
  · rename_i hc
    rw [if_pos hc]
    exact ⟨hc, rfl⟩
  · exact absurd rfl h0
theorem drop_at {h : Hp} {rs : List Int} {f : Int} (hv : mRegionsValid h rs = true) (h1 : 1 ≤ f) (h5 : f ≤ 5) : mDropH h rs f = ⟨drCells h.cells rs f, h.roots.map (drRoot rs f)⟩ ∧ mDropL h rs f = rs.map (drZ f) ∧ mDropN h rs f = ((drTo rs f h.cells.length : Nat) : Int) ∧ mRegionSizes (mDropH h rs f) (mDropL h rs f) = sizesTo (drCells h.cells rs f) (rs.map (drZ f)) h.cells.length ∧ heapOk (mDropH h rs f) = true := by
  have hok : mDropOk h rs f = true := by simp [mDropOk, hv, h1, h5]
  obtain ⟨e1, e2, e3⟩ := mDrop_yes hok
  have hv2 := dr_valid hv h1
  obtain ⟨hl, -, -⟩ := mRegions_parts hv
  refine ⟨e1, e2, ?_, ?_, ?_⟩
  · rw [e3, ← hl]; rfl
  · rw [e1, e2]
    unfold mRegionSizes
    rw [if_pos hv2]
    simp only [drCells_len]
  · rw [e1]; exact (mRegions_parts hv2).2.1
set_option maxHeartbeats 1600000 in
set_option maxRecDepth 20000 in
theorem DrawRegionSizes_any (w : World) (A : Option Addr) (n c : Nat) (bs : List Int) (hr : RdY w w.heap.size A n c bs) :
    Calls Try.prog 29 #[.slice A n c] w (DrawnHI w) := by
  have H := (Owns.nil w).box [.slice none 0 0, .slice none 0 0] 26
  go_enter Try.func29, Try.ntmps29
  go_wp2_with fail
  refine (open_own H A n c bs hr).mono ?_
  rintro e w1 ⟨g, A1, n1, c1, bs1, rfl, hU, H1⟩
  clear H hr
  go_wp2_with fail
  refine (regions_own H1 0 rfl hU (by omega) 12 (by omega) (by omega)).mono ?_
  rintro e w2 ⟨T, cv, rvs, rv, rv0, v, rs0, xs, p1, rfl, hS, ht, hxl, -, -, -, H2⟩
  simp only [List.set_cons_zero] at H2
  clear H1 hU
  obtain ⟨C, kC, rfl, -⟩ := H2.formC 1 rfl
  obtain ⟨R0, kR0, e0, -⟩ := H2.formI 2 rfl
  obtain ⟨R, nR, kR, rfl⟩ := ht.form e0
  clear e0
  obtain ⟨y0, y1, y2, y3⟩ := H2.box2 4 rfl
  have HZ := (H2.putBox 4 rfl 0 (.slice C T.cells.length kC)).putBox 4 rfl 1 (.slice R nR kR)
  simp only [List.set_cons_zero, List.set_cons_succ] at HZ
  obtain ⟨z0, z1, -, -⟩ := HZ.box2 4 rfl
  obtain ⟨z2, -, -, -⟩ := (H2.putBox 4 rfl 0 (.slice C T.cells.length kC)).box2 4 rfl
  have HS : Hid (DrawnHI w (.returned (.tuple #[.agg #[.slice C T.cells.length kC, .slice R nR kR], v])) _) := Go.Lib.hid ⟨T, _, rvs, _, _, _, _, xs, rfl, hS, ht, hxl, HZ.take 3⟩
  clear H2 HZ hS ht
  go_wp2
  exact bodyPost_ret (v := .tuple #[.agg #[.slice C T.cells.length kC, .slice R nR kR], v]) (by simp [results, Try.results29, go_sem, z0, z1]) rfl HS.out
end Go.Proofs.Ytmhcajjlhiopmaa
