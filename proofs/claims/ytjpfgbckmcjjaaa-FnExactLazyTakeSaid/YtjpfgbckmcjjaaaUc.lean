/- The program's UsedCells: how many cells of a valid heap are used. For every heap that can be read. -/
import Derived.Test.YtjpfgbckmcjjaaaRa
import Derived.Test.YtjpfgbckmcjjaaaBl
namespace Go.Proofs.Ytjpfgbckmcjjaaa
open Go.RowKit
def usedTo (cs : List Cel) (k : Nat) : Nat := ((List.range k).filter (usedN cs)).length
theorem usedTo_succ (cs : List Cel) (k : Nat) : usedTo cs (k + 1) = usedTo cs k + (if usedN cs k then 1 else 0) := by
  unfold usedTo
  rw [List.range_succ, List.filter_append, List.length_append]
  cases h : usedN cs k <;> simp [h]
def cntB (bs : List Bool) : Nat := (bs.filter id).length
theorem cntB_succ {bs : List Bool} {k : Nat} {b : Bool} (h : Hid (bs[k]? = some b)) : cntB (bs.take (k + 1)) = cntB (bs.take k) + (if b then 1 else 0) := by
  unfold cntB
  rw [take_snoc' h, List.filter_append, List.length_append]
  cases b <;> rfl
theorem cntB_le (bs : List Bool) : cntB bs ≤ bs.length := List.length_filter_le _ _
theorem cntB_used {cs : List Cel} (h64 : cs.length ≤ 64) : cntB ((List.range cs.length).map (usedM cs).testBit) = usedTo cs cs.length := by
  unfold cntB usedTo
  rw [List.filter_map, List.length_map]
  congr 2
  funext c
  show (usedM cs).testBit c = usedN cs c
  exact usedM_bit h64 c
theorem mReachable_len (h : Hp) : (mReachable h).length ≤ 1048576 := by
  cases hy : heapOk h
  · rw [mReachable_no hy]; simp
  · rw [mReachable_yes hy]
    have := (heapOk_small hy).1
    unfold reachL
    simp; omega
theorem count_any (w : World) (B : Nat) (A : Option Addr) (n c : Nat) (bs : List Bool) (hr : RdB w B A n c bs) (hn : n ≤ 1048576) :
    Calls Try.prog 83 #[.slice A n c] w fun e w' => e = .returned (.int .i64 (cntB bs : Nat)) ∧ Below w.heap.size w w' := by
  have hlen : n = bs.length := by have := hr.len; simpa using this
  have hr := hr.top
  have H := Owns.nil w
  go_enter Try.func83, Try.ntmps83
  go_wp2_with fail
  go_loopw [3, 8] (fun v i wr => ∃ k : Nat, v = .int .i64 (cntB (bs.take k) : Nat) ∧ i = .int .i64 k ∧ k ≤ n ∧ Below w.heap.size w wr) (fun _ i _ => n - (intOf i).toNat)
  case atStart => exact ⟨0, by simp [cntB], rfl, Nat.zero_le _, H.below⟩
  case round =>
    clear H
    obtain ⟨k, rfl, rfl, hk, hb⟩ := hrel
    by_cases hlt : k < n
    · obtain ⟨bk, hbk⟩ : ∃ x, Hid (bs[k]? = some x) := ⟨_, Go.Lib.hid (List.getElem?_eq_getElem (by omega))⟩
      obtain ⟨b, o, rfl, hbb, hc⟩ := hr.rd (by omega)
      have g1 := hb.cell (p := ⟨b, o + k, none⟩) hbb
      rw [hc k (.bool bk) (by rw [List.getElem?_map, hbk.out]; rfl)] at g1
      clear hc
      have hle := cntB_le (bs.take k)
      rw [List.length_take] at hle
      have hs := cntB_succ hbk
      obtain ⟨m, hm⟩ : ∃ m, m = cntB (bs.take k) := ⟨_, rfl⟩
      rw [← hm] at hle hs ⊢
      have hm1 : m ≤ 1048576 := by omega
      have hS := Go.Lib.hid hs
      clear hm hs hle
      cases bk
      · go_wp2
        go_roundw
        case rel => exact ⟨k + 1, by rw [hS.out]; simp, by go_num, by omega, hb⟩
        case measure => simp [intOf]; omega
      · go_wp2
        go_roundw
        case rel => exact ⟨k + 1, by rw [hS.out]; simp, by go_num, by omega, hb⟩
        case measure => simp [intOf]; omega
    · have e : bs.take k = bs := List.take_of_length_le (by omega)
      rw [e]
      go_wp2
      go_ret
      exact ⟨rfl, hb⟩
set_option maxHeartbeats 1600000 in
set_option maxRecDepth 20000 in
theorem implUsedCells_any (w : World) (B : Nat) (v : Value) (h : Hp) (hh : RdH w B v h) (hok : heapOk h = true) :
    Calls Try.prog 36 #[v] w fun e w' => (∃ y : Int, e = .returned (.tuple #[.int .i64 (usedTo h.cells h.cells.length : Nat), .int .i64 y])) ∧ Below w.heap.size w w' := by
  have hh' := hh.top
  obtain ⟨D, m, d, D', m', d', rfl, hC, hR⟩ := hh.top
  have l3 := hC.le1; have l4 := hC.le2
  obtain ⟨s4, -⟩ := heapOk_small hok
  have h64 : h.cells.length ≤ 64 := by omega
  have hm64 : m ≤ 1048576 := by omega
  have H1 := (Owns.nil w).box [.slice D m d, .slice D' m' d'] 26
  go_enter Try.func36, Try.ntmps36
  go_wp2_with fail
  refine (heapValid_any _ _ _ h (hh'.below H1.below)).mono ?_
  rintro e w1 ⟨rfl, hb1⟩
  rw [hok]
  clear hok
  have H2 := H1.call hb1
  clear H1 hb1
  obtain ⟨S, hS⟩ : ∃ S, S = usedM h.cells := ⟨_, rfl⟩
  have HM : Hid (S < 2 ^ 64) := Go.Lib.hid (by rw [hS]; exact usedM_lt h.cells)
  have hml : m = h.cells.length := by omega
  obtain ⟨Z, hZ⟩ : ∃ Z, Z = (List.range m).map S.testBit := ⟨_, rfl⟩
  have HU : Hid (cntB Z = usedTo h.cells h.cells.length) := Go.Lib.hid (by rw [hZ, hml, hS]; exact cntB_used (by omega))
  have hZl : Z.length ≤ 1048576 := by rw [hZ]; simp; omega
  have HZ := Go.Lib.hid hZ
  obtain ⟨Y, hY⟩ : ∃ Y, Y = mReachable h := ⟨_, rfl⟩
  have hYl : Y.length ≤ 1048576 := by rw [hY]; exact mReachable_len h
  have HY := Go.Lib.hid hY
  have HSM := Go.Lib.hid hS
  clear hZ hY hS hml
  have HX := H2.drew
  obtain ⟨b0, b1, -, -⟩ := HX.box2 0 rfl
  go_wp2_with fail
  refine wp_region_tree (fun w' => w'.cell? ⟨w.heap.size, 0, none⟩ = some (.slice D m d) ∧ w'.cell? ⟨w.heap.size, 1, none⟩ = some (.slice D' m' d')) 12 [] (.take 0 (.take 2 (.take 3 (.take 4 (.take 7 (.alt 1 (.alt 5 (.alt 6 (.alt 8 (.alt 9 (.take 10 (.take 11 (.done))) (.stop)) (.stop)) (.stop)) (.stop)) (.stop))))))) (by kernel_rfl) (by kernel_rfl) (by kernel_rfl) (⟨b0, b1⟩) ?_
  simp only [fillT, List.getElem?_cons_zero, List.getElem?_cons_succ, Nat.reduceBEq]
  repeat (first
    | (with_reducible refine po_take (v := ?_) ?_ (fun w' hS' => ?_) ?_
       rotate_left
       · (go_simp; done)
       · ((try dsimp only at hS'); go_simp; try with_reducible rfl)
       simp only [Act.put, List.setIfInBounds_toArray, List.set_cons_zero, List.set_cons_succ])
    | (with_reducible refine po_skip ?_ ?_
       · (go_simp; done)
       simp only [Act.put, List.setIfInBounds_toArray, List.set_cons_zero, List.set_cons_succ]))
  with_reducible refine po_run ?_ (fun K hK => ?_) ?_
  · (go_simp; done)
  rotate_left
  · exact po_stop
  go_simp
  refine (usedSet_any _ _ _ h (hh'.below HX.below) h64).mono ?_
  rintro e w7 ⟨he, hb⟩
  rw [← HSM.out] at he
  subst he
  replace HX := HX.call hb
  clear hb b0 b1
  obtain ⟨b0, b1, -, -⟩ := HX.box2 0 rfl
  refine hK.out _ _ (.inr (⟨b0, b1⟩)) ?_
  clear hK K
  with_reducible refine po_run ?_ (fun K hK => ?_) ?_
  · (go_simp; done)
  rotate_left
  · exact po_stop
  go_simp
  refine (list_any _ m _ HM.out hm64).mono ?_
  rintro e w9 ⟨v9, rfl, ho9, hb9⟩
  rw [← HZ.out] at ho9
  replace HX := HX.madeB ho9 hb9
  obtain ⟨V9, k9, rfl, -⟩ := HX.formB 0 rfl
  clear ho9 hb9 b0 b1
  obtain ⟨b0, b1, -, -⟩ := HX.box2 1 rfl
  refine hK.out _ _ (.inr (⟨b0, b1⟩)) ?_
  clear hK K
  with_reducible refine po_run ?_ (fun K hK => ?_) ?_
  · (go_simp; done)
  rotate_left
  · exact po_stop
  go_simp
  refine (count_any _ _ _ _ _ _ (HX.owB 0 rfl).rdB hZl).mono ?_
  rintro e w10 ⟨rfl, hb⟩
  replace HX := HX.call hb
  clear hb b0 b1
  obtain ⟨b0, b1, -, -⟩ := HX.box2 1 rfl
  refine hK.out _ _ (.inr (⟨b0, b1⟩)) ?_
  clear hK K
  with_reducible refine po_run ?_ (fun K hK => ?_) ?_
  · (go_simp; done)
  rotate_left
  · exact po_stop
  go_simp
  refine (implReachable_any _ _ _ h (hh'.below HX.below)).mono ?_
  rintro e w11 ⟨v11, rfl, ho11, hb11⟩
  rw [← HY.out] at ho11
  replace HX := HX.madeB ho11 hb11
  obtain ⟨V11, k11, rfl, -⟩ := HX.formB 0 rfl
  clear ho11 hb11 b0 b1
  obtain ⟨b0, b1, -, -⟩ := HX.box2 2 rfl
  refine hK.out _ _ (.inr (⟨b0, b1⟩)) ?_
  clear hK K
  with_reducible refine po_run ?_ (fun K hK => ?_) ?_
  · (go_simp; done)
  rotate_left
  · exact po_stop
  go_simp
  refine (count_any _ _ _ _ _ _ (HX.owB 0 rfl).rdB hYl).mono ?_
  rintro e w12 ⟨rfl, hb⟩
  replace HX := HX.call hb
  clear hb b0 b1
  obtain ⟨b0, b1, -, -⟩ := HX.box2 2 rfl
  refine hK.out _ _ (.inr (⟨b0, b1⟩)) ?_
  clear hK K
  repeat (first
    | (with_reducible refine po_take (v := ?_) ?_ (fun w' hS' => ?_) ?_
       rotate_left
       · (go_simp; done)
       · ((try dsimp only at hS'); go_simp; try with_reducible rfl)
       simp only [Act.put, List.setIfInBounds_toArray, List.set_cons_zero, List.set_cons_succ])
    | (with_reducible refine po_skip ?_ ?_
       · (go_simp; done)
       simp only [Act.put, List.setIfInBounds_toArray, List.set_cons_zero, List.set_cons_succ]))
  refine po_done ?_
  have HB := HX.below
  clear b0 b1 HX
  rw [HU.out]
  go_wp2
  exact bodyPost_ret (v := .tuple #[.int .i64 ((usedTo h.cells h.cells.length : Nat) : Int), .int .i64 ((cntB Y : Nat) : Int)]) (by simp [results, Try.results36, go_sem]) rfl ⟨⟨_, rfl⟩, HB⟩
end Go.Proofs.Ytjpfgbckmcjjaaa
