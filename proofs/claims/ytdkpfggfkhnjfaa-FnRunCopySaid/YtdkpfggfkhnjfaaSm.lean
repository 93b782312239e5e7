/- The laws' functions that tell whether two lists or heaps are the same answer true for two that read the same. -/
import Derived.Test.YtdkpfggfkhnjfaaZ0
namespace Go.Proofs.Ytdkpfggfkhnjfaa
open Go.RowKit
theorem sameInts_yes (w : World) (B B' : Nat) (A A' : Option Addr) (n n' c c' : Nat) (xs : List Int) (h1 : RdI w B A n c xs) (h2 : RdI w B' A' n' c' xs) :
    Calls Try.prog 21 #[.slice A n c, .slice A' n' c'] w fun e w' => e = .returned (.bool true) ∧ Below w.heap.size w w' := by
  have h1 := h1.top
  have h2 := h2.top
  have hm : n ≤ maxLen := Nat.le_trans h1.cap h1.mx
  unfold maxLen at hm
  obtain rfl : n = n' := by have := h1.len; have := h2.len; omega
  go_enter Try.func21, Try.ntmps21
  go_wp2_with fail
  go_loopw [5] (fun i wr => ∃ k : Nat, i = .int .i64 k ∧ k ≤ n ∧ Below w.heap.size w wr) (fun i _ => n - (intOf i).toNat)
  case atStart => exact ⟨0, rfl, Nat.zero_le _, Below.refl _ _⟩
  case round =>
    obtain ⟨k, rfl, hk, hb⟩ := hrel
    by_cases hlt : k < n
    · obtain ⟨b, o, x, rfl, hbb, hx, g1⟩ := RdI.at_ (h1.below hb) hlt
      obtain ⟨b', o', x', rfl, hbb', hx', g1'⟩ := RdI.at_ (h2.below hb) hlt
      obtain rfl := hid_inj hx hx'
      have i1 : (0 : Int) ≤ (k : Int) := by omega
      have i2 : (k : Int) < (n : Int) := by omega
      go_wp2_with fail
      refine wp_region_tree (fun w' => w'.cell? ⟨b, o + k, none⟩ = some (.int .i64 x) ∧ w'.cell? ⟨b', o' + k, none⟩ = some (.int .i64 x)) 9 [] (.take 0 (.take 1 (.take 2 (.take 3 (.take 4 (.take 5 (.take 6 (.take 7 (.take 8 (.done)))))))))) (by kernel_rfl) (by kernel_rfl) (by kernel_rfl) (⟨g1, g1'⟩) ?_
      simp only [fillT, List.getElem?_cons_zero, List.getElem?_cons_succ]
      repeat (first
        | (with_reducible refine po_take (v := ?_) ?_ (fun w' hS' => ?_) ?_
           rotate_left
           · (go_simp; done)
           · ((try dsimp only at hS'); go_simp; try with_reducible rfl)
           simp only [Act.put, List.setIfInBounds_toArray, List.set_cons_zero, List.set_cons_succ])
        | (with_reducible refine po_skip ?_ ?_
           · (go_simp; done)
           simp only [Act.put, List.setIfInBounds_toArray, List.set_cons_zero, List.set_cons_succ]))
      refine po_done ?_
      go_wp2
      go_roundw
      case rel => exact ⟨k + 1, by go_num, by omega, hb.drew⟩
      case measure => simp [intOf]; omega
    · go_wp2
      go_ret
      exact ⟨rfl, hb⟩
set_option maxHeartbeats 1600000 in
set_option maxRecDepth 20000 in
theorem sameHeap_yes (w : World) (B B' : Nat) (u v : Value) (h : Hp) (h1 : RdH w B u h) (h2 : RdH w B' v h) :
    Calls Try.prog 7 #[u, v] w fun e w' => e = .returned (.bool true) ∧ Below w.heap.size w w' := by
  obtain ⟨D, m, d, D', m', d', rfl, hC, hR⟩ := h1.top
  obtain ⟨P, r, s, P', r', s', rfl, kC, kR⟩ := h2.top
  obtain rfl : m = r := by have := hC.len; have := kC.len; omega
  have hm : m ≤ maxLen := Nat.le_trans hC.cap hC.mx
  unfold maxLen at hm
  have H := ((Owns.nil w).box [.slice D m d, .slice D' m' d'] 29).box [.slice P m s, .slice P' r' s'] 29
  simp only [World.size_alloc] at H
  obtain ⟨a0, a1, -, -⟩ := H.box2 1 rfl
  obtain ⟨b0, b1, -, -⟩ := H.box2 0 rfl
  go_enter Try.func7, Try.ntmps7
  go_wp2_with fail
  clear a0 a1 b0 b1
  go_loopw [5] (fun i wr => ∃ k : Nat, i = .int .i64 k ∧ k ≤ m ∧ Owns w.heap.size w wr [.box (w.heap.size + 1) [.slice P m s, .slice P' r' s'] 29, .box w.heap.size [.slice D m d, .slice D' m' d'] 29]) (fun i _ => m - (intOf i).toNat)
  case atStart => exact ⟨0, rfl, Nat.zero_le _, H⟩
  case round =>
    clear H
    obtain ⟨k, rfl, hk, H⟩ := hrel
    obtain ⟨a0, a1, -, -⟩ := H.box2 1 rfl
    obtain ⟨b0, b1, -, -⟩ := H.box2 0 rfl
    by_cases hlt : k < m
    · obtain ⟨b, o, x, A2, n2, c2, rfl, hbb, hx, g1, g2, g3, hr⟩ := (hC.below H.below).at_ hlt
      obtain ⟨b', o', x', A3, n3, c3, rfl, hbb', hx', g1', g2', g3', hr'⟩ := (kC.below H.below).at_ hlt
      obtain rfl := hid_inj hx hx'
      have i1 : (0 : Int) ≤ (k : Int) := by omega
      have i2 : (k : Int) < (m : Int) := by omega
      have HX := H.drew
      have HR := Go.Lib.hid hr.top
      have HR' := Go.Lib.hid hr'.top
      clear hr hr'
      go_wp2_with fail
      refine wp_region_tree (fun w' => w'.cell? ⟨w.heap.size, 0, none⟩ = some (.slice (some ⟨b, o, none⟩) m d) ∧ w'.cell? ⟨w.heap.size + 1, 0, none⟩ = some (.slice (some ⟨b', o', none⟩) m s) ∧ w'.cell? ⟨b, o + k * 3, none⟩ = some (.bool x.used) ∧ w'.cell? ⟨b, o + k * 3 + 1, none⟩ = some (.int .i64 x.data) ∧ w'.cell? ⟨b, o + k * 3 + 2, none⟩ = some (.slice A2 n2 c2) ∧ w'.cell? ⟨b', o' + k * 3, none⟩ = some (.bool x.used) ∧ w'.cell? ⟨b', o' + k * 3 + 1, none⟩ = some (.int .i64 x.data) ∧ w'.cell? ⟨b', o' + k * 3 + 2, none⟩ = some (.slice A3 n3 c3)) 44 [] (.take 0 (.take 1 (.take 2 (.take 3 (.take 4 (.take 5 (.take 6 (.take 7 (.take 8 (.take 9 (.take 10 (.take 11 (.take 12 (.take 13 (.take 14 (.take 15 (.take 16 (.take 17 (.take 18 (.take 19 (.take 20 (.take 21 (.take 22 (.take 23 (.take 24 (.take 25 (.take 26 (.take 27 (.take 28 (.take 29 (.take 30 (.take 31 (.take 32 (.take 33 (.take 34 (.take 35 (.take 36 (.take 37 (.take 38 (.take 39 (.take 40 (.alt 41 (.take 42 (.take 43 (.done))) (.stop))))))))))))))))))))))))))))))))))))))))))) (by kernel_rfl) (by kernel_rfl) (by kernel_rfl) (⟨a0, b0, g1, g2, g3, g1', g2', g3'⟩) ?_
      simp only [fillT, List.getElem?_cons_zero, List.getElem?_cons_succ, Nat.reduceBEq]
      repeat (first
        | (with_reducible refine po_take (v := ?_) ?_ (fun w' hS' => ?_) ?_
           rotate_left
           · (go_simp; done)
           · ((try dsimp only at hS'); go_simp; try with_reducible rfl)
           simp only [Act.put, List.setIfInBounds_toArray, List.set_cons_zero, List.set_cons_succ])
        | (with_reducible refine po_skip ?_ ?_
           · (go_simp; done)
           simp only [Act.put, List.setIfInBounds_toArray, List.set_cons_zero, List.set_cons_succ]))
      with_reducible refine po_run ?_ (fun K hK => ?_) ?_
      · (go_simp; done)
      rotate_left
      · exact po_stop
      go_simp
      refine (sameInts_yes _ _ _ _ _ _ _ _ _ x.refs (HR.out.below (Below.refl _ _).drew) (HR'.out.below (Below.refl _ _).drew)).mono ?_
      rintro e w2 ⟨rfl, hb2⟩
      replace HX := HX.call hb2
      refine hK.out _ _ (.inr (⟨keepd a0 hb2, keepd b0 hb2, keepd g1 hb2, keepd g2 hb2, keepd g3 hb2, keepd g1' hb2, keepd g2' hb2, keepd g3' hb2⟩)) ?_
      clear hK K
      repeat (first
        | (with_reducible refine po_take (v := ?_) ?_ (fun w' hS' => ?_) ?_
           rotate_left
           · (go_simp; done)
           · ((try dsimp only at hS'); go_simp; try with_reducible rfl)
           simp only [Act.put, List.setIfInBounds_toArray, List.set_cons_zero, List.set_cons_succ])
        | (with_reducible refine po_skip ?_ ?_
           · (go_simp; done)
           simp only [Act.put, List.setIfInBounds_toArray, List.set_cons_zero, List.set_cons_succ]))
      refine po_done ?_
      go_wp2
      go_roundw
      case rel => exact ⟨k + 1, by go_num, by omega, HX⟩
      case measure => simp [intOf]; omega
    · go_wp2_with fail
      refine (sameInts_yes _ _ _ _ _ _ _ _ _ h.roots (hR.below H.below) (kR.below H.below)).mono ?_
      rintro e w2 ⟨rfl, hb2⟩
      have HB := (H.call hb2).below
      clear H
      go_wp2
      go_ret
      exact ⟨rfl, HB⟩
end Go.Proofs.Ytdkpfggfkhnjfaa
