/- The reference's l7Copy makes the heap that it was handed. -/
import Derived.Test.YtdkpfggfkhnjfaaZ0
namespace Go.Proofs.Ytdkpfggfkhnjfaa
open Go.RowKit
set_option maxHeartbeats 3200000 in
set_option maxRecDepth 20000 in
theorem l7Copy_any (w : World) (B : Nat) (v : Value) (h : Hp) (hh : RdH w B v h) (hn : h.cells.length ≤ 1048576) (hn2 : h.roots.length ≤ 1048576) (hn3 : ∀ c ∈ h.cells, c.refs.length ≤ 1048576) :
    Calls Try.prog 40 #[v] w (MadeH w h) := by
  obtain ⟨D, m, d, D', m', d', rfl, hC, hR⟩ := hh.top
  have hm1 := hC.mx; have hcap1 := hC.cap
  have l3 := hC.le1; have l4 := hC.le2
  have l5 := RdI.le1 hR; have l6 := RdI.le2 hR
  unfold maxLen at hm1
  have H1 := (((Owns.nil w).box [.slice D m d, .slice D' m' d'] 29).box [.slice none 0 0, .slice none 0 0] 29).litI [] zero_le_maxLen
  simp only [World.size_alloc] at H1
  go_enter Try.func40, Try.ntmps40
  go_wp2_with (at_builtin; go_loud (refine wpList_pushO rfl (.tmp 5) (.tmp 7) rfl H1 0 rfl rfl rfl (hR.below H1.below) (by simp; omega) ?_; intro A3 k3 w3 H2))
  have H3 := (H2.box [.slice none 0 0, .slice A3 ([] ++ h.roots).length k3] 29).noCells
  simp only [List.nil_append, List.set_cons_zero] at H3
  obtain ⟨a0, a1, -, -⟩ := H3.box2 4 rfl
  clear H1 H2
  have hz3 := (H3.boxLt 1 rfl).1
  generalize hbx : w3.heap.size = bx at *
  generalize w3.alloc (.cells #[.slice none 0 0, .slice A3 h.roots.length k3] 29) = w4 at *
  go_loopw [4] (fun i wr => ∃ (k : Nat) (cv : Value) (rvs : List Value), i = .int .i64 k ∧ k ≤ m ∧ Owns w.heap.size w wr [.cells cv rvs (h.cells.take k), .box bx [cv, .slice A3 h.roots.length k3] 29, .ints (.slice A3 h.roots.length k3) h.roots, .box (w.heap.size + 1) [.slice none 0 0, .slice none 0 0] 29, .box w.heap.size [.slice D m d, .slice D' m' d'] 29]) (fun i _ => m - (intOf i).toNat)
  case atStart => exact ⟨0, _, _, rfl, Nat.zero_le _, H3⟩
  case round =>
    clear H3 a0 a1
    obtain ⟨k, cv, rvs, rfl, hk, H⟩ := hrel
    obtain ⟨a0, a1, -, -⟩ := H.box2 4 rfl
    obtain ⟨x0, x1, xf, -⟩ := H.box2 1 rfl
    by_cases hlt : k < m
    · obtain ⟨b, o, l, A2, n2, c2, rfl, hbb, hx, q1, q2, q3, hrf⟩ := hC.at_ hlt
      have g1 := H.ro q1 hbb
      have g2 := H.ro q2 hbb
      have g3 := H.ro q3 hbb
      go_wp2_with fail
      refine wp_region_pick (fun w' => w'.cell? ⟨w.heap.size, 0, none⟩ = some (.slice (some ⟨b, o, none⟩) m d) ∧ w'.cell? ⟨b, o + k * 3, none⟩ = some (.bool l.used) ∧ w'.cell? ⟨b, o + k * 3 + 1, none⟩ = some (.int .i64 l.data) ∧ w'.cell? ⟨b, o + k * 3 + 2, none⟩ = some (.slice A2 n2 c2) ∧ w'.cell? ⟨bx, 0, none⟩ = some cv)
        [(0, true), (1, true), (2, true), (3, true), (4, true), (5, true), (6, true), (7, true), (8, true), (9, true), (10, true), (11, true), (12, true), (13, true), (15, true), (16, true), (17, true), (18, true), (19, true), (20, true), (14, false), (21, false), (22, true), (23, false), (24, false), (25, true), (26, false)] (by kernel_rfl) (by kernel_rfl) (by kernel_rfl) ⟨a0, g1, g2, g3, x0⟩ ?_
      simp only [pick, List.filterMap_cons, List.filterMap_nil, List.getElem?_cons_zero, List.getElem?_cons_succ, List.map_cons, List.map_nil]
      repeat (first
        | (with_reducible refine lew_take (v := ?_) ?_ (fun w' hS' => ?_) ?_
           rotate_left
           · (go_simp; done)
           · ((try dsimp only at hS'); go_simp; try with_reducible rfl)
           simp only [Act.put, List.setIfInBounds_toArray, List.set_cons_zero, List.set_cons_succ])
        | (with_reducible refine lew_skip ?_ ?_
           · (go_simp; done)
           simp only [Act.put, List.setIfInBounds_toArray, List.set_cons_zero, List.set_cons_succ]))
      with_reducible refine lew_run ?_ (fun K hK => ?_)
      · (go_simp; done)
      go_simp
      have r1 := RdI.le1 hrf; have r2 := RdI.le2 hrf
      have hb3 := hn3 l (List.mem_of_getElem? hx.out)
      have hle := H.le
      have S1 := H.drew.litI [] zero_le_maxLen
      have hbE := below_alloc wr.drew (.cells #[] 3)
      refine hK.out _ _ (.inr ⟨keepd a0 hbE, keepd g1 hbE, keepd g2 hbE, keepd g3 hbE, keepd x0 hbE⟩) ?_
      clear hK K
      refine lew_run ?_ (fun K hK => ?_)
      · (go_simp; done)
      refine wp_pushO (.tmp 31) (.tmp 37) rfl S1 0 rfl rfl rfl (hrf.below S1.below) (by simp; omega) ?_
      intro A1 e1 w1 S2
      simp only [List.nil_append, List.set_cons_zero] at S2
      simp only [List.nil_append]
      obtain ⟨c0, c1, -, -⟩ := S2.box2 5 rfl
      obtain ⟨y0, y1, yf, -⟩ := S2.box2 2 rfl
      have p1 := S2.ro q1 hbb
      have p2 := S2.ro q2 hbb
      have p3 := S2.ro q3 hbb
      refine hK.out _ _ (.inr ⟨c0, p1, p2, p3, y0⟩) ?_
      clear hK K
      repeat (first
        | (with_reducible refine lew_take (v := ?_) ?_ (fun w' hS' => ?_) ?_
           rotate_left
           · (go_simp; done)
           · ((try dsimp only at hS'); go_simp; try with_reducible rfl)
           simp only [Act.put, List.setIfInBounds_toArray, List.set_cons_zero, List.set_cons_succ])
        | (with_reducible refine lew_skip ?_ ?_
           · (go_simp; done)
           simp only [Act.put, List.setIfInBounds_toArray, List.set_cons_zero, List.set_cons_succ]))
      with_reducible refine lew_run ?_ (fun K hK => ?_)
      · (go_simp; done)
      go_simp
      have S3 := S2.box [.bool l.used, .int .i64 l.data, .slice A1 l.refs.length e1] 49
      obtain ⟨c0, c1, -, -⟩ := S3.box2 6 rfl
      obtain ⟨y0, y1, yf, -⟩ := S3.box2 3 rfl
      refine hK.out _ _ (.inr ⟨c0, S3.ro q1 hbb, S3.ro q2 hbb, S3.ro q3 hbb, y0⟩) ?_
      clear hK K
      refine lew_run ?_ (fun K hK => ?_)
      · (go_simp; done)
      refine wp_pushCO (.tmp 18) (.tmp 40) rfl S3 2 1 rfl rfl rfl rfl rfl (S3.holds 0 _ rfl).2 (by simp; omega) ?_
      intro A5 e5 w5 S4
      simp only [List.set_cons_zero, List.set_cons_succ, List.eraseIdx_cons_succ, List.eraseIdx_cons_zero] at S4
      have hT : h.cells.take k ++ [l] = h.cells.take (k + 1) := (take_snoc' hx).symm
      have hL : (h.cells.take (k + 1)).length = k + 1 := by simp; omega
      rw [hT, hL] at S4
      rw [hT, hL]
      clear hT hL
      obtain ⟨c0, c1, -, -⟩ := S4.box2 5 rfl
      obtain ⟨y0, y1, yf, -⟩ := S4.box2 2 rfl
      refine hK.out _ _ (.inr ⟨c0, S4.ro q1 hbb, S4.ro q2 hbb, S4.ro q3 hbb, y0⟩) ?_
      clear hK K
      repeat (first
        | (with_reducible refine lew_take (v := ?_) ?_ (fun w' hS' => ?_) ?_
           rotate_left
           · (go_simp; done)
           · ((try dsimp only at hS'); go_simp; try with_reducible rfl)
           simp only [Act.put, List.setIfInBounds_toArray, List.set_cons_zero, List.set_cons_succ])
        | (with_reducible refine lew_skip ?_ ?_
           · (go_simp; done)
           simp only [Act.put, List.setIfInBounds_toArray, List.set_cons_zero, List.set_cons_succ]))
      with_reducible refine lew_run ?_ (fun K hK => ?_)
      · (go_simp; done)
      go_simp
      have S5 := (S4.putBox 2 rfl 0 (.slice A5 (k + 1) e5)).drop 1
      simp only [List.set_cons_zero, List.set_cons_succ, List.drop_succ_cons, List.drop_zero] at S5
      refine hK.out _ _ (.inl rfl) ?_
      clear hK K
      have HS := Go.Lib.hid S5
      clear S5 S4 S3 S2 S1 H
      clear c0 c1 y0 y1 p1 p2 p3 q1 q2 q3 g1 g2 g3 x0 x1 a0 a1
      refine lew_nil ?_
      go_wp2
      go_roundw
      case rel => exact ⟨k + 1, _, _, by go_num, by omega, HS.out⟩
      case measure => simp [intOf]; omega
    · rw [List.take_of_length_le (by omega)] at H
      obtain ⟨C1, e1, rfl, -⟩ := H.formC 0 rfl
      obtain ⟨y0, y1, y2, y3⟩ := H.box2 3 rfl
      have R := (H.putBox 3 rfl 0 (.slice C1 h.cells.length e1)).putBox 3 rfl 1 (.slice A3 h.roots.length k3)
      have HR := Go.Lib.hid R
      clear R H
      go_wp2
      exact bodyPost_ret (v := .agg #[.slice C1 h.cells.length e1, .slice A3 h.roots.length k3]) (by simp [results, Try.results40, go_sem, y0, y1]) rfl (HR.out.toH 0 2 rfl rfl)
end Go.Proofs.Ytdkpfggfkhnjfaa
