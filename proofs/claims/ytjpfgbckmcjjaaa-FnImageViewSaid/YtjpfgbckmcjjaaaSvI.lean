/- The program's SaveImage makes the list mSaveImage: its writer lies in a box of the call's own, whose list grows by append. -/
import Derived.Test.YtjpfgbckmcjjaaaSvS
import Derived.Deep.RegionLaw
namespace Go.Proofs.Ytjpfgbckmcjjaaa
open Go.RowKit
theorem step_pushI {w : World} {ops : Array Oper} {o : Oper} {a : Act} {K : Act → World → Prop} {Q : Exit → Act → World → Prop} {E : Prop} (hgd : o.guard = none) (s x : Operand)
    (hop : o.op = .call { callee := .builtin .append, args := #[s, x], argTypes := #[24, 24] })
    (lo : Nat) (v : Value) (xs : List Int) (hs : a.eval s = v) (hown : w.ownsRow lo 3 1 v xs.length (xs.map (Value.int .i64)))
    (g : Nat) (ys : List Int) (m c : Nat) (hx : a.eval x = .slice (some ⟨g, 0, none⟩) m c) (hm : m = ys.length) (h0 : 0 < ys.length) (hg : w.heap[g]? = some (.cells (ys.map (Value.int .i64)).toArray 3 (0, 0)))
    (hb : xs.length + ys.length ≤ 1099511627776) (hlo : lo ≤ w.heap.size)
    (h : ∀ G cap w', OwI w' lo w'.heap.size (.slice (some ⟨G, 0, none⟩) (xs.length + ys.length) cap) (xs ++ ys) → w.grownBy w' v.ownBlock → K (a.put o.dst (.slice (some ⟨G, 0, none⟩) (xs.length + ys.length) cap)) w') :
    if Region.wanted o (yielded ops a.tmps) = true then Oper.wp Try.prog o a w K Q else E := by
  obtain ⟨i0, hi, hz0, hz1, hz2⟩ := info_parts Try.infoInt
  subst hm
  refine step_append_lies w hgd s x 24 hop lo 3 i0 (.int .i64 0) 1 8 Try.underlying24 hi hz0 hz1 hz2 rfl (by omega) v xs.length (xs.map (Value.int .i64)) hs hown ⟨g, 0, none⟩ ys.length c (ys.map (Value.int .i64)) hx (by simp) (news_at hg) (mapI_oneCell ys)
    h0 (by unfold maxLen; omega) (by omega) hlo _ rfl ?_
  intro G cap w' ho hg' _ hlt
  refine h G cap w' (own_hi ?_) hg'
  simpa using ho
theorem box_ne {w : World} {lo s n b : Nat} {e t : TypeId} {v : Value} {ys : List Value} {cur : Array Value} {q : Nat × Nat} (ho : w.ownsRow lo e s v n ys) (hb : w.heap[b]? = some (.cells cur t q)) (hne : t ≠ e) : v.ownBlock ≠ some b := by
  intro k
  rcases ho.2 with ⟨rfl, _⟩ | ⟨g, cap, cu, rfl, _, hx, _⟩
  · simp [Value.ownBlock] at k
  · simp [Value.ownBlock] at k
    subst k
    rw [hb] at hx
    injection hx with hx
    injection hx with _ hx
    exact hne hx
theorem OwI.setBox {w : World} {lo hi b : Nat} {t : TypeId} {v : Value} {xs : List Int} {cur : Array Value} {q : Nat × Nat} (ho : OwI w lo hi v xs) (hb : w.heap[b]? = some (.cells cur t q)) (hne : t ≠ 3) (j : Nat) (u : Value) : OwI (w.setCell ⟨b, j, none⟩ u) lo hi v xs :=
  ho.keep1 fun k e => Below.heap_setCell w _ u k fun e' => box_ne ho.own hb hne (by rw [e]; exact congrArg some e')

/-- The writer's box and the list in it. -/
structure Wr (lo bw : Nat) (base : Int) (w0 wr : World) (v : Value) (xs : List Int) (m : Nat) : Prop where
  out : Out lo w0 wr v xs m
  box : wr.heap[bw]? = some (.cells #[.int .i64 base, v] 96)
theorem Wr.alloc {lo bw : Nat} {base : Int} {w0 wr : World} {v : Value} {xs : List Int} {m : Nat} (h : Wr lo bw base w0 wr v xs m) (hz : lo ≤ wr.heap.size) (o : Obj) : Wr lo bw base w0 (wr.alloc o) v xs m := ⟨h.out.alloc hz o, box_alloc h.box o⟩
theorem Wr.drew {lo bw : Nat} {base : Int} {w0 wr : World} {v : Value} {xs : List Int} {m : Nat} (h : Wr lo bw base w0 wr v xs m) : Wr lo bw base w0 wr.drew v xs m := ⟨⟨own_hi h.out.own.own, h.out.below.drew, h.out.small⟩, h.box⟩
theorem Wr.push {lo bw : Nat} {base : Int} {w0 wr w3 : World} {v v1 : Value} {X ys : List Int} {m m' : Nat} (h : Wr lo bw base w0 wr v X m) (hz : lo ≤ wr.heap.size) (hl : lo ≤ bw) (ho : OwI w3 lo w3.heap.size v1 (X ++ ys)) (hg : wr.grownBy w3 v.ownBlock) (hm : m + ys.length ≤ m') :
    w3.heap[bw]? = some (.cells #[.int .i64 base, v] 96) ∧ Wr lo bw base w0 (w3.setCell ⟨bw, 1, none⟩ v1) v1 (X ++ ys) m' := by
  have hb := box_far h.out.own.own h.box (by decide) hg
  have ho' := h.out.push hz ho hg hm
  refine ⟨hb, ⟨⟨own_hi (ho'.own.setBox hb (by decide) 1 v1).own, ho'.below.setCell (by exact hl) _, ho'.small⟩, set2b v1 hb⟩⟩
theorem saveRef_neg {base x : Int} (h : x < 0) : saveRef base x = 0 := by simp [saveRef, h]
theorem saveRef_pos {base x : Int} (h : ¬ x < 0) : saveRef base x = base + x + 1 := by simp [saveRef, h]

set_option maxHeartbeats 3200000 in
set_option maxRecDepth 20000 in
theorem writerRefs_any (w : World) (lo bw B : Nat) (base : Int) (v : Value) (X : List Int) (A : Option Addr) (n c : Nat) (rs : List Int) (m : Nat) (hw : Wr lo bw base w w v X m) (hr : RdI w B A n c rs) (hB : B ≤ lo) (hl : lo ≤ bw) (hz : lo ≤ w.heap.size)
    (hx : ∀ x ∈ rs, x ≤ 100) (k3 : 0 ≤ base) (k4 : base ≤ 10000) (hm : m ≤ 10000) (hn : n ≤ 1000) :
    Calls Try.prog 75 #[.pointer (some ⟨bw, 0, none⟩), .slice A n c] w fun e w' => (∃ r, e = .returned r) ∧ ∃ v', Wr lo bw base w w' v' (X ++ rs.map (saveRef base)) (m + n) := by
  have l1 := RdI.le1 hr; have l2 := RdI.le2 hr
  go_enter Try.func75, Try.ntmps75
  go_wp2_with fail
  go_loopw [8] (fun i wr => ∃ (k : Nat) (v : Value), i = .int .i64 k ∧ k ≤ n ∧ Wr lo bw base w wr v (X ++ (rs.take k).map (saveRef base)) (m + k)) (fun i _ => n - (intOf i).toNat)
  case atStart => exact ⟨0, v, rfl, Nat.zero_le _, by simpa using hw⟩
  case round =>
    clear hw
    obtain ⟨k, v, rfl, hk, hw⟩ := hrel
    have hzr := hw.out.below.size
    by_cases hlt : k < n
    · obtain ⟨b, o, x, rfl, hbb, hx1, g1⟩ := RdI.at_ (hr.below (hw.out.below.mono hB)) hlt
      have hx100 := hx x (List.mem_of_getElem? hx1.out)
      have E1 := take_map_succ (f := saveRef base) hx1
      generalize hX : X ++ (rs.take k).map (saveRef base) = Y at hw
      have E2 : X ++ (rs.take (k + 1)).map (saveRef base) = Y ++ [saveRef base x] := by rw [E1, ← List.append_assoc, hX]
      clear hX E1
      obtain ⟨u0, u1, -, -⟩ := blk2 hw.box
      have hsm := hw.out.small
      by_cases hneg : x < 0
      · rw [saveRef_neg hneg] at E2
        have HX := Go.Lib.hid E2
        clear E2
        have hw1 := hw.alloc (by omega) (.cells #[.int .i64 0] 3)
        go_wp2_with (at_builtin; go_loud (refine wpList_pushI rfl (.tmp 18) (.tmp 19) rfl lo _ Y rfl hw1.out.own.own wr.heap.size [0] 1 1 rfl rfl (heap1 wr _) (by simp; omega) (by simp; omega) ?_; intro v1 w3 ho3 hg3; obtain ⟨G3, k3', rfl, -⟩ := ho3.form; obtain ⟨hb3, hw3⟩ := hw1.push (m' := m + (k + 1)) (by simp; omega) hl ho3 hg3 (by simp; omega); obtain ⟨z0, z1, z2, z3⟩ := blk2 hb3))
        simp only [List.length_append, List.length_cons, List.length_nil, Nat.zero_add] at hw3
        rw [← HX.out] at hw3
        have S := Go.Lib.hid hw3
        clear hw hw1 hw3 ho3 hg3 u0 u1 g1 hb3 z0 z1 z2 z3
        go_wp2_with fail
        go_roundw
        case rel => exact ⟨k + 1, _, by go_num, by omega, S.out⟩
        case measure => simp [intOf]; omega
      · rw [saveRef_pos hneg] at E2
        have hy : IntKind.i64.wrap (IntKind.i64.wrap (base + x) + 1) = base + x + 1 := by
          have h1 : IntKind.i64.wrap (base + x) = base + x := by rw [IntKind.wrap_i64]; omega
          rw [h1, IntKind.wrap_i64]; omega
        rw [← hy] at E2
        clear hy
        have HX := Go.Lib.hid E2
        clear E2
        have hwa := hw.alloc (by omega) (.cells #[.int .i64 (IntKind.i64.wrap (IntKind.i64.wrap (base + x) + 1))] 3)
        obtain ⟨x0, x1, -, -⟩ := blk2 hwa.box
        have hw1 := hwa.drew
        clear hwa
        have y0 : wr.drew.cell? ⟨bw, 0, none⟩ = some (.int .i64 base) := u0
        have y1 : wr.drew.cell? ⟨bw, 1, none⟩ = some v := u1
        go_wp2_with fail
        go_region_law (go_loud (refine step_pushI rfl (.tmp 27) (.tmp 35) rfl lo _ Y rfl hw1.out.own.own wr.heap.size [IntKind.i64.wrap (IntKind.i64.wrap (base + x) + 1)] 1 1 rfl rfl (by simp) (heap1 wr _) (by simp; omega) (by simp; omega) ?_; intro G3 k3' w3 ho3 hg3; obtain ⟨hb3, hw3⟩ := hw1.push (m' := m + (k + 1)) (by simp; omega) hl ho3 hg3 (by simp; omega); obtain ⟨z0, z1, z2, z3⟩ := blk2 hb3))
        all_goals
          simp only [List.length_cons, List.length_nil, Nat.zero_add] at hw3
          rw [← HX.out] at hw3
          have S := Go.Lib.hid hw3
          clear hw hw1 hw3 ho3 hg3 u0 u1 g1 hb3 z0 z1 z2 z3
          go_wp2_with fail
          go_roundw
          case rel => exact ⟨k + 1, _, by go_num, by omega, S.out⟩
          case measure => simp [intOf]; omega
    · have hkn : k = n := by omega
      rw [List.take_of_length_le (by omega)] at hw
      have S := Go.Lib.hid hw
      clear hw
      go_wp2
      (try simp only [Exit.inBlock, Exit.then]); first | refine bodyPost_end (results_none rfl _ _ _) rfl ?_ | refine bodyPost_ret (results_none rfl _ _ _) rfl ?_
      exact ⟨⟨_, rfl⟩, _, by have := S.out; rwa [hkn] at this⟩

theorem isBase_any (x : Int) (w : World) : Calls Try.prog 74 #[.int .i64 x] w fun e w' => e = .returned (.bool (baseOk x)) ∧ w = w' := by
  by_cases h1 : x < 0
  · have HF : Hid (baseOk x = false) := Go.Lib.hid (by simp [baseOk]; intros; omega)
    go_enter Try.func74, Try.ntmps74
    go_wp2
    go_ret
    exact ⟨ret_b HF.out.symm, rfl⟩
  by_cases h2 : x ≤ 10000
  · have HF : Hid (baseOk x = true) := Go.Lib.hid (by simp [baseOk]; omega)
    go_enter Try.func74, Try.ntmps74
    go_wp2
    go_ret
    exact ⟨ret_b HF.out.symm, rfl⟩
  · have HF : Hid (baseOk x = false) := Go.Lib.hid (by simp [baseOk]; intros; omega)
    go_enter Try.func74, Try.ntmps74
    go_wp2
    go_ret
    exact ⟨ret_b HF.out.symm, rfl⟩

theorem Wr.start {lo bw : Nat} {base : Int} {w0 wr : World} {v : Value} {X : List Int} {m : Nat} (h : Wr lo bw base w0 wr v X m) : Wr lo bw base wr wr v X m := ⟨h.out.start, h.box⟩
theorem Wr.join {lo bw : Nat} {base : Int} {w0 wr w3 : World} {v : Value} {X : List Int} {m m' : Nat} (hb : Below lo w0 wr) (h : Wr lo bw base wr w3 v X m) (hm : m ≤ m') : Wr lo bw base w0 w3 v X m' := ⟨Out.join hb h.out hm, h.box⟩

set_option maxHeartbeats 6400000 in
set_option maxRecDepth 20000 in
theorem implSaveImage_any (w : World) (B : Nat) (v : Value) (h : Hp) (base : Int) (hh : RdH w B v h) (_ : I64 base) :
    Calls Try.prog 27 #[v, .int .i64 base] w (MadeI w (mSaveImage h base)) := by
  have hh' := hh.top
  obtain ⟨D, m, d, D', m', d', rfl, hC, hR⟩ := hh.top
  have hm1 := hC.mx; have hcap1 := hC.cap
  have l3 := hC.le1; have l4 := hC.le2
  have l5 := RdI.le1 hR; have l6 := RdI.le2 hR
  unfold maxLen at hm1
  go_enter Try.func27, Try.ntmps27
  go_wp2_with fail
  refine (heapValid_any _ _ _ h (hh'.below (below_alloc _ _))).mono ?_
  rintro e w1 ⟨rfl, hb⟩
  obtain ⟨a0, a1, hbw, hz⟩ := box2 (hb.mono (by simp))
  cases hy : heapOk h
  · have HF := Go.Lib.hid (mSave_no1 (base := base) hy)
    clear hy
    go_wp2
    go_ret
    rw [HF.out]
    exact ⟨_, rfl, ⟨World.ownsRow_nil _ _ _ _, fun k hk => by simp [Value.ownBlock] at hk⟩, hbw⟩
  have HY := Go.Lib.hid hy
  clear hy
  go_wp2_with fail
  refine (isBase_any base _).mono ?_
  rintro e w2 ⟨rfl, hw2⟩
  obtain rfl := hw2
  cases hbo : baseOk base
  · have HF : Hid (mSaveImage h base = []) := Go.Lib.hid (by unfold mSaveImage; rw [hbo]; simp)
    clear hbo
    go_wp2
    go_ret
    rw [HF.out]
    exact ⟨_, rfl, ⟨World.ownsRow_nil _ _ _ _, fun k hk => by simp [Value.ownBlock] at hk⟩, hbw⟩
  have k3 : (0 : Int) ≤ base := by simp [baseOk] at hbo; omega
  have k4 : base ≤ 10000 := by simp [baseOk] at hbo; omega
  clear hbo
  have HE := Go.Lib.hid (mSave_yes HY.out k3 k4)
  have s1 := heapOk_cells HY.out
  have s2 : h.roots.length ≤ 4 := by have := heapOk_roots4 HY.out; omega
  have hbA : Below w1.heap.size w1 ((w1.alloc (.cells #[.int .i64 base, .int .i64 m] 3)).alloc (.cells #[.int .i64 base, .slice (some ⟨w1.heap.size, 0, none⟩) 2 2] 96)) := (below_alloc w1 _).trans ((below_alloc (w1.alloc _) _).mono (by simp))
  have hA : Wr w1.heap.size (w1.heap.size + 1) base ((w1.alloc (.cells #[.int .i64 base, .int .i64 m] 3)).alloc (.cells #[.int .i64 base, .slice (some ⟨w1.heap.size, 0, none⟩) 2 2] 96)) ((w1.alloc (.cells #[.int .i64 base, .int .i64 m] 3)).alloc (.cells #[.int .i64 base, .slice (some ⟨w1.heap.size, 0, none⟩) 2 2] 96))
      (.slice (some ⟨w1.heap.size, 0, none⟩) 2 2) [base, (m : Int)] 10 := by
    refine ⟨⟨own_hi ?_, Below.refl _ _, by simp⟩, (heap2 w1 _ _).2⟩
    have := own_lit w1 3 w1.heap.size [Value.int .i64 base, .int .i64 m] (Nat.le_refl _) (by simp [maxLen])
    exact this.alloc _
  have A0 := Go.Lib.hid (And.intro a0 a1)
  go_wp2_with fail
  refine (writerRefs_any _ w1.heap.size (w1.heap.size + 1) _ base _ _ D' m' d' h.roots 10 hA (hR.below (hbw.trans (hbA.mono (by omega)))) (by omega) (by omega) (by simp; omega) (fun x hx => ?_) k3 k4 (by omega) (by omega)).mono ?_
  · obtain ⟨j, hj, rfl⟩ := List.mem_iff_getElem.1 hx
    have := heapOk_roots HY.out (Go.Lib.hid (List.getElem?_eq_getElem hj))
    omega
  rintro e w2 ⟨⟨r, rfl⟩, v2, hw2⟩
  have hW : Wr w1.heap.size (w1.heap.size + 1) base w1 w2 v2 (([base, (h.cells.length : Int)] ++ h.roots.map (saveRef base)) ++ (h.cells.take 0).flatMap (saveCell base)) (20 + 10 * 0) := by
    have := Wr.join (m' := 20 + 10 * 0) hbA hw2 (by omega)
    rw [show h.cells.length = m by omega]
    simpa using this
  clear hA hbA hw2
  replace a0 := keept A0.out.1 hW.out.below
  replace a1 := keept A0.out.2 hW.out.below
  go_wp2_with fail
  go_loopw [31] (fun i wr => ∃ (k : Nat) (v : Value), i = .int .i64 k ∧ k ≤ m ∧ Wr w1.heap.size (w1.heap.size + 1) base w1 wr v (([base, (h.cells.length : Int)] ++ h.roots.map (saveRef base)) ++ (h.cells.take k).flatMap (saveCell base)) (20 + 10 * k)) (fun i _ => m - (intOf i).toNat)
  case atStart => exact ⟨0, v2, rfl, Nat.zero_le _, hW⟩
  case round =>
    clear hW a0 a1
    obtain ⟨k, v, rfl, hk, hW⟩ := hrel
    have hzr := hW.out.below.size
    have hbr := hbw.trans (hW.out.below.mono (by omega))
    obtain ⟨u0, u1, -, -⟩ := blk2 hW.box
    have hbwlt : w1.heap.size + 1 < wr.heap.size := (Array.getElem?_eq_some_iff.1 hW.box).1
    by_cases hlt : k < m
    · obtain ⟨b, o, l, A2, n2, c2, rfl, hbb, hx, g1, g2, g3, hrf⟩ := (hC.below hbr).at_ hlt
      obtain ⟨q1, q2, q3⟩ := heapOk_cell HY.out hx
      have r1 := RdI.le1 hrf; have r2 := RdI.le2 hrf
      have E1 := take_flat_succ (f := saveCell base) hx
      have hsm := hW.out.small
      generalize hX : ([base, (h.cells.length : Int)] ++ h.roots.map (saveRef base)) ++ (h.cells.take k).flatMap (saveCell base) = X at hW hsm
      have E2 : ([base, (h.cells.length : Int)] ++ h.roots.map (saveRef base)) ++ (h.cells.take (k + 1)).flatMap (saveCell base) = X ++ saveCell base l := by rw [E1, ← List.append_assoc, hX]
      clear hX E1
      cases hu : l.used
      · rw [saveCell_no hu] at E2
        have HX := Go.Lib.hid E2
        rw [hu] at g1
        clear E2 hu
        have hw1 := (hW.alloc hzr (.cells #[.bool false, .int .i64 l.data, .slice A2 n2 c2] 40)).alloc (by simp; omega) (.cells #[.int .i64 0] 3)
        go_wp2_with (at_builtin; go_loud (refine wpList_pushI rfl (.tmp 42) (.tmp 43) rfl w1.heap.size _ X rfl hw1.out.own.own _ [0] 1 1 rfl rfl (heap2 wr _ _).2 (by simp; omega) (by simp; omega) ?_; intro v1 w3 ho3 hg3; obtain ⟨G3, k3', rfl, -⟩ := ho3.form; obtain ⟨hb3, hw3⟩ := hw1.push (m' := 20 + 10 * (k + 1)) (by simp; omega) (by omega) ho3 hg3 (by simp; omega); obtain ⟨z0, z1, z2, z3⟩ := blk2 hb3))
        simp only [List.length_append, List.length_cons, List.length_nil, Nat.zero_add] at hw3
        rw [← HX.out] at hw3
        have S := Go.Lib.hid hw3
        clear hW hw1 hw3 ho3 hg3 u0 u1 g1 g2 g3 hb3 z0 z1 z2 z3
        go_wp2_with fail
        go_roundw
        case rel => exact ⟨k + 1, _, by go_num, by omega, S.out⟩
        case measure => simp [intOf]; omega
      · rw [saveCell_yes hu] at E2
        rw [show l.refs.length = n2 by omega] at E2
        have HX := Go.Lib.hid E2
        rw [hu] at g1
        clear E2 hu
        obtain ⟨wo, hwo⟩ : ∃ wo : World, wo = wr := ⟨_, rfl⟩
        obtain rfl := hwo
        have hbd := hW.out.below
        have hwc := hW.start.alloc hzr (.cells #[.bool true, .int .i64 l.data, .slice A2 n2 c2] 40)
        obtain ⟨x0, x1, -, -⟩ := blk2 hwc.box
        obtain ⟨c0, c1, c2', -, -, -⟩ := blk3 (heap1 wo (.cells #[.bool true, .int .i64 l.data, .slice A2 n2 c2] 40))
        have hwd := hwc.alloc (by simp; omega) (.cells #[.int .i64 (IntKind.i64.wrap ((n2 : Int) + 1)), .int .i64 l.data] 3)
        obtain ⟨y0, y1, -, -⟩ := blk2 hwd.box
        have hcb := box_alloc (heap1 wo (.cells #[.bool true, .int .i64 l.data, .slice A2 n2 c2] 40)) (.cells #[.int .i64 (IntKind.i64.wrap ((n2 : Int) + 1)), .int .i64 l.data] 3)
        have hw1 := hwd.drew
        have hwrap : IntKind.i64.wrap ((n2 : Int) + 1) = (n2 : Int) + 1 := by rw [IntKind.wrap_i64]; omega
        rw [← hwrap] at HX
        clear hwc hwd hwrap
        have hwne : wo.heap.size ≠ w1.heap.size + 1 := by omega
        go_wp2_with fail
        go_region_law (go_loud (refine step_pushI rfl (.tmp 51) (.tmp 58) rfl w1.heap.size _ X rfl hw1.out.own.own _ [IntKind.i64.wrap ((n2 : Int) + 1), l.data] 2 2 rfl rfl (by simp) (heap2 wo _ _).2 (by simp; omega) (by simp; omega) ?_; intro G3 k3' w3 ho3 hg3; obtain ⟨hb3, hw3⟩ := hw1.push (m' := 22 + 10 * k) (by simp; omega) (by omega) ho3 hg3 (by simp; omega); obtain ⟨z0, z1, z2, z3⟩ := blk2 hb3; have hc4 := set_far (p := ⟨w1.heap.size + 1, 1, none⟩) (.slice (some ⟨G3, 0, none⟩) (X.length + [IntKind.i64.wrap ((n2 : Int) + 1), l.data].length) k3') (box_far hw1.out.own.own hcb (by decide) hg3) (by omega); simp only [List.length_cons, List.length_nil, Nat.zero_add] at hw3 hc4; obtain ⟨t0, t1, t2, -, -, -⟩ := blk3 hc4))
        all_goals
          clear hW hw1 ho3 hg3 u0 u1 x0 x1 y0 y1 c0 c1 c2' g1 g2 g3 hb3 z0 z1 z2 z3 hc4 hcb t0 t1
          go_wp2_with fail
          refine (writerRefs_any _ w1.heap.size (w1.heap.size + 1) _ base _ _ A2 n2 c2 l.refs (22 + 10 * k) hw3.start (hrf.below (hw3.out.below.mono (by omega))) (by omega) (by omega) (by have := hw3.out.below.size; omega) (fun x hx2 => ?_) k3 k4 (by omega) (by omega)).mono ?_
          · obtain ⟨j, hj, rfl⟩ := List.mem_iff_getElem.1 hx2
            have := heapOk_refs HY.out hx (Go.Lib.hid (List.getElem?_eq_getElem hj))
            omega
          rintro e w4 ⟨⟨r4, rfl⟩, v4, hw4⟩
          have hw5 := Wr.join (m' := 20 + 10 * (k + 1)) (hbd.trans hw3.out.below) hw4 (by omega)
          rw [List.append_assoc, ← HX.out] at hw5
          have S := Go.Lib.hid hw5
          clear hw3 hw4 hw5 t2
          go_wp2_with fail
          go_roundw
          case rel => exact ⟨k + 1, _, by go_num, by omega, S.out⟩
          case measure => simp [intOf]; omega
    · have hkm : k = h.cells.length := by omega
      have S := Go.Lib.hid hW
      have HK := Go.Lib.hid hkm
      clear hW hkm
      go_wp2
      go_ret
      have hW := S.out
      rw [HK.out, List.take_length] at hW
      rw [HE.out]
      exact ⟨_, rfl, by simpa [saveAll] using hW.out.own.wide hbw.size (Nat.le_refl _), hbr⟩
end Go.Proofs.Ytjpfgbckmcjjaaa
