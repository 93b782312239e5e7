/- copyLazy, clone of truth values, and next: the program's way to the next cell that is not marked. -/
import Derived.Test.YtjpfgbckmcjjaaaLp
import Derived.Test.YtjpfgbckmcjjaaaLzI
namespace Go.Proofs.Ytjpfgbckmcjjaaa
open Go.RowKit
set_option maxHeartbeats 1600000 in
set_option maxRecDepth 20000 in
theorem cloneB_any (w : World) (B : Nat) (A : Option Addr) (n c : Nat) (xs : List Bool) (hr : RdB w B A n c xs) (hn : n ≤ 1048576) :
    Calls Try.prog 110 #[.slice A n c] w (MadeB w xs) := by
  have hr := hr.top
  obtain ⟨i0, hi, hz0, hz1, hz2⟩ := info_parts Try.infoBool
  go_enter Try.func110, Try.ntmps110
  go_wp2_with (at_make; refine wpList_make_own _ rfl _ _ _ rfl w.heap.size 4 i0 (.bool false) 1 Try.underlying35 hi hz0 hz1 .i64 .i64 _ n rfl rfl rfl (by rw [hz2]; omega) (by unfold maxLen; omega) (Nat.le_refl _) ?_)
  intro w2 hown hg
  have hb1 : Below w.heap.size w w2 := (Below.refl _ _).grown hg (Nat.le_refl _) (by simp)
  have H : Owns w.heap.size w w2 [.bools _ []] := (Owns.nil w).row hb1 hown
  go_wp2_with (at_builtin; go_loud (refine wpList_pushBO rfl (.tmp 5) (.tmp 6) rfl H 0 rfl rfl rfl (hr.below hb1) (by simp; omega) ?_; intro A3 k3 w3 H3; simp only [List.set_cons_zero, List.nil_append] at H3; simp only [List.nil_append]))
  go_ret
  exact H3.toB 0 rfl
set_option maxHeartbeats 3200000 in
set_option maxRecDepth 20000 in
theorem copyLazy_any (w : World) (B : Nat) (v : Value) (l : Lz) (hh : RdZ w B v l) (hn : l.store.cells.length ≤ 1048576) (hn2 : l.store.roots.length ≤ 1048576) (hn3 : ∀ c ∈ l.store.cells, c.refs.length ≤ 1048576) (hn4 : l.marks.length ≤ 1048576) :
    Calls Try.prog 84 #[v] w (MadeZ w l) := by
  obtain ⟨D, m, d, D', m', d', E, q, f, rfl, hC, hR, hM⟩ := hh.top
  have l3 := RdB.le1 hM; have l4 := RdB.le2 hM
  have hH : RdH w w.heap.size (.agg #[.slice D m d, .slice D' m' d']) l.store := ⟨_, _, _, _, _, _, rfl, hC, hR⟩
  obtain ⟨z, hz⟩ : ∃ z, z = l.at_ := ⟨_, rfl⟩
  have HZe := Go.Lib.hid hz
  have H := ((Owns.nil w).box [.slice D m d, .slice D' m' d', .slice E q f, .int .i64 z] 50).box [.slice none 0 0, .slice none 0 0, .slice none 0 0, .int .i64 0] 50
  simp only [World.size_alloc] at H
  rw [← hz]
  clear hz
  have HN := Go.Lib.hid hn3
  clear hn3
  go_enter Try.func84, Try.ntmps84
  go_wp2_with fail
  have HX := H.drew
  have H0 := Go.Lib.hid H
  clear H
  obtain ⟨a0, a1, a2, a3, -, -, -, -⟩ := box4 HX 1 rfl
  refine wp_region_tree (fun w' => w'.cell? ⟨w.heap.size, 0, none⟩ = some (.slice D m d) ∧ w'.cell? ⟨w.heap.size, 1, none⟩ = some (.slice D' m' d') ∧ w'.cell? ⟨w.heap.size, 2, none⟩ = some (.slice E q f) ∧ w'.cell? ⟨w.heap.size, 3, none⟩ = some (.int .i64 z)) 9 [] (.take 0 (.take 1 (.take 3 (.take 4 (.take 6 (.take 7 (.alt 2 (.alt 5 (.take 8 (.alt 9 (.done) (.stop))) (.stop)) (.stop)))))))) (by kernel_rfl) (by kernel_rfl) (by kernel_rfl) (⟨a0, a1, a2, a3⟩) ?_
  simp only [fillT, List.getElem?_cons_zero, List.getElem?_cons_succ, Nat.reduceBEq]
  repeat (first
    | (with_reducible refine po_take (v := ?_) ?_ (fun w' hS' => ?_) ?_
       rotate_left
       · (go_simp; done)
       · ((try dsimp only at hS'); go_simp; try with_reducible rfl)
       simp only [Act.put, List.setIfInBounds_toArray, List.set_cons_zero, List.set_cons_succ])
    | (with_reducible refine po_skip ?_ ?_
       · (go_simp; done)
       simp only [Act.put, List.setIfInBounds_toArray, List.set_cons_zero, List.set_cons_succ]))
  with_reducible refine po_run ?_ (fun K hK => ?_) ?_
  · (go_simp; done)
  rotate_left
  · exact po_stop
  try (revert a0 a1 a2 a3 HX; generalize World.drew _ = wd; intro HX a0 a1 a2 a3)
  go_simp
  refine (copyHeap_any _ _ _ l.store (hH.below HX.below) hn hn2 HN.out).mono ?_
  rintro e w2 ⟨v2, rfl, ho, hb⟩
  obtain ⟨cv, rvs, rv, rfl, HY⟩ := HX.madeH ho hb
  clear HX ho hb a0 a1 a2 a3
  have HX := HY
  clear HY
  obtain ⟨C, kC, rfl, -⟩ := HX.formC 0 rfl
  obtain ⟨R, kR, rfl, -⟩ := HX.formI 1 rfl
  obtain ⟨a0, a1, a2, a3, -, -, -, -⟩ := box4 HX 3 rfl
  refine hK.out _ _ (.inr (⟨a0, a1, a2, a3⟩)) ?_
  clear hK K
  with_reducible refine po_run ?_ (fun K hK => ?_) ?_
  · (go_simp; done)
  rotate_left
  · exact po_stop
  try (revert a0 a1 a2 a3 HX; generalize World.drew _ = wd; intro HX a0 a1 a2 a3)
  go_simp
  refine (cloneB_any _ _ _ _ _ l.marks (hM.below HX.below) (by omega)).mono ?_
  rintro e w3 ⟨v3, rfl, ho, hb⟩
  have HY := HX.madeB ho hb
  clear HX ho hb a0 a1 a2 a3
  have HX := HY
  clear HY
  obtain ⟨V, kV, rfl, -⟩ := HX.formB 0 rfl
  obtain ⟨a0, a1, a2, a3, -, -, -, -⟩ := box4 HX 4 rfl
  refine hK.out _ _ (.inr (⟨a0, a1, a2, a3⟩)) ?_
  clear hK K
  repeat (first
    | (with_reducible refine po_take (v := ?_) ?_ (fun w' hS' => ?_) ?_
       rotate_left
       · (go_simp; done)
       · ((try dsimp only at hS'); go_simp; try with_reducible rfl)
       simp only [Act.put, List.setIfInBounds_toArray, List.set_cons_zero, List.set_cons_succ])
    | (with_reducible refine po_skip ?_ ?_
       · (go_simp; done)
       simp only [Act.put, List.setIfInBounds_toArray, List.set_cons_zero, List.set_cons_succ]))
  with_reducible refine po_run ?_ (fun K hK => ?_) ?_
  · (go_simp; done)
  rotate_left
  · exact po_stop
  obtain ⟨y0, y1, y2, y3, y4, y5, y6, y7⟩ := box4 HX 3 rfl
  go_simp
  have HZ := (((HX.putBox 3 rfl 0 (.slice C l.store.cells.length kC)).putBox 3 rfl 1 (.slice R l.store.roots.length kR)).putBox 3 rfl 2 (.slice V l.marks.length kV)).putBox 3 rfl 3 (.int .i64 z)
  simp only [List.set_cons_zero, List.set_cons_succ] at HZ
  refine hK.out _ _ (.inl rfl) ?_
  clear hK K
  refine po_done ?_
  obtain ⟨z0, z1, z2, z3, -, -, -, -⟩ := box4 HZ 3 rfl
  have HE : Owns w.heap.size w _ [.cells (.slice C l.store.cells.length kC) rvs l.store.cells, .ints (.slice R l.store.roots.length kR) l.store.roots, .bools (.slice V l.marks.length kV) l.marks] := HZ.order [1, 2, 0] (by decide) rfl
  have HS : Hid (MadeZ w l (.returned (.agg #[.slice C l.store.cells.length kC, .slice R l.store.roots.length kR, .slice V l.marks.length kV, .int .i64 z])) _) := Go.Lib.hid (by rw [HZe.out]; exact ⟨_, rvs, _, _, rfl, HE⟩)
  clear HX HZ HE H0 a0 a1 a2 a3 y0 y1 y2 y3 y4 y5 y6 y7
  go_wp2
  exact bodyPost_ret (v := .agg #[.slice C l.store.cells.length kC, .slice R l.store.roots.length kR, .slice V l.marks.length kV, .int .i64 z]) (by simp [results, Try.results84, go_sem, z0, z1, z2, z3]) rfl HS.out
theorem Owns.setset {lo : Nat} {w0 w : World} {L : List OB} {i : Nat} {X Y : OB} (h : Owns lo w0 w ((L.set i X).set i Y)) : Owns lo w0 w (L.set i Y) := by rwa [List.set_set] at h
set_option maxHeartbeats 3200000 in
set_option maxRecDepth 20000 in
theorem lazyNext_any {lo : Nat} {w0 w : World} {L : List OB} (h : Owns lo w0 w L) (i j : Nat) {g kV a : Nat} {C R : Value} {V : Option Addr} {m : List Bool} (hX : L[i]? = some (.box g [C, R, .slice V m.length kV, .int .i64 (a : Int)] 50)) (hM : L[j]? = some (.bools (.slice V m.length kV) m)) (ha : a ≤ m.length) (hsm : m.length ≤ 40) :
    Calls Try.prog 85 #[.pointer (some ⟨g, 0, none⟩)] w fun e w' => e = .returned (.bool (decide (nxt m a < m.length))) ∧ Owns lo w0 w' (L.set i (.box g [C, R, .slice V m.length kV, .int .i64 ((nxt m a : Nat) : Int)] 50)) := by
  have hne : i ≠ j := by
    rintro rfl
    rw [hX] at hM
    simp at hM
  have hil : i < L.length := (List.getElem?_eq_some_iff.1 hX).1
  have h0 : Owns lo w0 w (L.set i (.box g [C, R, .slice V m.length kV, .int .i64 (a : Int)] 50)) := by
    obtain ⟨h1, h2⟩ := List.getElem?_eq_some_iff.1 hX
    rw [← h2, List.set_getElem_self h1]; exact h
  have HX := Go.Lib.hid hX
  have HM := Go.Lib.hid hM
  clear hX hM h
  go_enter Try.func85, Try.ntmps85
  go_wp2_with fail
  go_loopw [] (fun wr => ∃ b : Nat, b ≤ m.length ∧ Hid (nxt m b = nxt m a) ∧ Owns lo w0 wr (L.set i (.box g [C, R, .slice V m.length kV, .int .i64 (b : Int)] 50))) (fun wr => match wr.cell? ⟨g, 3, none⟩ with | some (.int _ z) => m.length - z.toNat | _ => 0)
  case atStart => exact ⟨a, ha, Go.Lib.hid rfl, h0⟩
  case round =>
    clear h0
    obtain ⟨b, hb, HN, H⟩ := hrel
    have hXi : Hid ((L.set i (.box g [C, R, .slice V m.length kV, .int .i64 (b : Int)] 50))[i]? = some (.box g [C, R, .slice V m.length kV, .int .i64 (b : Int)] 50)) := Go.Lib.hid (List.getElem?_set_self hil)
    have hMi : Hid ((L.set i (.box g [C, R, .slice V m.length kV, .int .i64 (b : Int)] 50))[j]? = some (.bools (.slice V m.length kV) m)) := Go.Lib.hid (by rw [List.getElem?_set_ne hne]; exact HM.out)
    obtain ⟨x0, x1, x2, x3, xf0, xf1, xf2, xf3⟩ := box4 H i hXi.out
    by_cases hlt : b < m.length
    · obtain ⟨t, ht⟩ : ∃ t, Hid (m[b]? = some t) := ⟨_, Go.Lib.hid (List.getElem?_eq_getElem hlt)⟩
      obtain ⟨gV, cV, e7, -, -, -, -⟩ := H.rowAt j hMi.out (by omega)
      simp only [Value.slice.injEq, true_and] at e7
      obtain ⟨rfl, rfl⟩ := e7
      obtain ⟨z0, -⟩ := H.elem j hMi.out (j := b) (u := .bool t) (by rw [List.getElem?_map, ht.out]; rfl)
      have i1 : (0 : Int) ≤ (b : Int) := by omega
      have i2 : (b : Int) < (m.length : Int) := by omega
      cases t
      · have HK : Hid (nxt m a = b) := Go.Lib.hid (HN.out.symm.trans (nxt_no ht.out))
        go_wp2_with fail
        go_quiet (fail)
        go_wp2_with fail
        go_quiet (fail)
        go_wp2
        go_ret
        rw [HK.out, decide_eq_true hlt]
        exact ⟨rfl, (H.drewN _).drewN _⟩
      · have hw : IntKind.wrap .i64 ((b : Int) + 1) = (b : Int) + 1 := by rw [IntKind.wrap_i64]; omega
        have HN2 : Hid (nxt m (b + 1) = nxt m a) := Go.Lib.hid ((nxt_yes ht.out).symm.trans HN.out)
        have e1 : Hid ((((b + 1 : Nat) : Nat) : Int) = (b : Int) + 1) := Go.Lib.hid (by omega)
        have HQ : Hid (∀ nq, ((wr.drewN nq).setCell ⟨g, 3, none⟩ (.int .i64 ((b : Int) + 1))).cell? ⟨g, 3, none⟩ = some (.int .i64 ((b : Int) + 1))) := Go.Lib.hid fun nq => (box4 ((H.drewN nq).putBox i hXi.out 3 (.int .i64 ((b : Int) + 1))).setset i (List.getElem?_set_self hil)).2.2.2.1
        go_wp2_with fail
        go_quiet (fail)
        go_wp2
        go_roundw
        case rel => exact ⟨b + 1, by omega, HN2, by rw [e1.out]; exact ((H.drewN _).putBox i hXi.out 3 (.int .i64 ((b : Int) + 1))).setset⟩
        case measure => have hq := HQ.out; simp [x3, hq]; omega
    · have HK : Hid (nxt m a = b) := Go.Lib.hid (HN.out.symm.trans (nxt_end (by omega)))
      go_wp2_with fail
      go_quiet (fail)
      go_wp2_with fail
      go_quiet (fail)
      go_wp2
      go_ret
      rw [HK.out, decide_eq_false hlt]
      exact ⟨rfl, (H.drewN _).drewN _⟩
end Go.Proofs.Ytjpfgbckmcjjaaa
