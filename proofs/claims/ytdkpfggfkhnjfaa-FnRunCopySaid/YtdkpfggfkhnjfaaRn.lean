/- A step of a program, and a whole program, by the reference: for valid heaps and instructions. -/
import Derived.Test.YtdkpfggfkhnjfaaDo
import Derived.Test.YtdkpfggfkhnjfaaCpS
import Derived.Deep.DeepCutAuto
namespace Go.Proofs.Ytdkpfggfkhnjfaa
open Go.RowKit
/-- A call makes a heap, and tells a truth value. -/
def MadeHBl (w : World) (h : Hp) (b : Bool) (e : Ending) (w' : World) : Prop :=
  ∃ cv rvs rv, e = .returned (.tuple #[.agg #[cv, rv], .bool b]) ∧ Owns w.heap.size w w' [.cells cv rvs h.cells, .ints rv h.roots]
theorem good_small {h : Hp} (g : Good h) : ∀ c ∈ h.cells, c.refs.length ≤ 1048576 := fun c hm => by
  have := g.cell c hm
  rw [cellOk_iff] at this
  rcases this with k | k
  · omega
  · rw [k.2.2]; simp
theorem mStep_yes {h : Hp} {o : Cmd} (g : Good h) (hc : cmdOk o = true) (hs : stepOk h o = true) : mStep h o = mDo h o h.cells.length := by simp [mStep, good_iff.2 g, hc, hs]
theorem mStep_no {h : Hp} {o : Cmd} (g : Good h) (hc : cmdOk o = true) (hs : stepOk h o = false) : mStep h o = h := by simp [mStep, good_iff.2 g, hc, hs]
set_option maxHeartbeats 3200000 in
set_option maxRecDepth 20000 in
theorem stepHeap_any (w : World) (B : Nat) (v : Value) (h : Hp) (hh : RdH w B v h) (o : Cmd) (g : Good h) (hc : cmdOk o = true) :
    Calls Try.prog 20 #[v, cmdV o] w (MadeHBl w (mStep h o) (stepOk h o)) := by
  have hh' := hh.top
  obtain ⟨D, m, d, D', m', d', rfl, hC, hR⟩ := hh.top
  obtain rfl := hC.len
  have hl40 := g.len
  have hr4 : h.roots.length ≤ 4 := by have := g.roots; omega
  obtain ⟨op, a, b, c⟩ := o
  have H := (((Owns.nil w).box [.slice D h.cells.length d, .slice D' m' d'] 29).box [.int .i64 op, .int .i64 a, .int .i64 b, .int .i64 c] 46).box [.slice none 0 0, .slice none 0 0] 29
  simp only [World.size_alloc] at H
  have HY := Go.Lib.hid (good_iff.2 g)
  have HC := Go.Lib.hid hc
  have GG := Go.Lib.hid g
  clear hc g
  obtain ⟨a0, a1, -, -⟩ := H.box2 2 rfl
  obtain ⟨b0, b1, b2, b3, -, -, -, -⟩ := box4 H 1 rfl
  go_enter Try.func20, Try.ntmps20
  go_wp2_with fail
  refine (specHeapValid_any _ _ _ h (hh'.below H.below)).mono ?_
  rintro e w1 ⟨rfl, hb⟩
  rw [HY.out]
  replace H := H.call hb
  clear hb a0 a1 b0 b1 b2 b3
  obtain ⟨a0, a1, -, -⟩ := H.box2 2 rfl
  obtain ⟨b0, b1, b2, b3, -, -, -, -⟩ := box4 H 1 rfl
  go_wp2_with fail
  refine (specCommandValid_any ⟨op, a, b, c⟩ _).mono ?_
  rintro e w2 ⟨rfl, hb⟩
  rw [HC.out]
  replace H := H.call hb
  clear hb a0 a1 b0 b1 b2 b3
  obtain ⟨a0, a1, -, -⟩ := H.box2 2 rfl
  obtain ⟨b0, b1, b2, b3, -, -, -, -⟩ := box4 H 1 rfl
  go_wp2_with fail
  refine (specPossible_any _ _ _ h (hh'.below H.below) ⟨op, a, b, c⟩).mono ?_
  rintro e w3 ⟨rfl, hb⟩
  rw [mPoss_yes HY.out HC.out]
  replace H := H.call hb
  clear hb a0 a1 b0 b1 b2 b3
  obtain ⟨a0, a1, -, -⟩ := H.box2 2 rfl
  obtain ⟨b0, b1, b2, b3, -, -, -, -⟩ := box4 H 1 rfl
  obtain ⟨y0, y1, y2, y3⟩ := H.box2 0 rfl
  have HN3 := Go.Lib.hid (good_small GG.out)
  cases hp : possB h ⟨op, a, b, c⟩
  · have hs : stepOk h ⟨op, a, b, c⟩ = false := by simp [stepOk, hp]
    have HF1 := Go.Lib.hid hs
    have HF2 := Go.Lib.hid (mStep_no GG.out HC.out hs)
    clear hs hp
    go_wp2_with fail
    refine (l7Copy_any _ _ _ h (hh'.below H.below) (by omega) (by omega) HN3.out).mono ?_
    rintro e w4 ⟨v1, rfl, ho, hb⟩
    obtain ⟨cv, rvs, rv, rfl, K⟩ := H.madeH ho hb
    clear ho hb
    obtain ⟨C, kC, rfl, -⟩ := K.formC 0 rfl
    obtain ⟨R, kR, rfl, -⟩ := K.formI 1 rfl
    clear H a0 a1 b0 b1 b2 b3 y0 y1 y2 y3
    obtain ⟨y0, y1, y2, y3⟩ := K.box2 2 rfl
    have HZ := (K.putBox 2 rfl 0 (.slice C h.cells.length kC)).putBox 2 rfl 1 (.slice R h.roots.length kR)
    simp only [List.set_cons_zero, List.set_cons_succ] at HZ
    obtain ⟨z0, z1, -, -⟩ := HZ.box2 2 rfl
    obtain ⟨z2, -, -, -⟩ := (K.putBox 2 rfl 0 (.slice C h.cells.length kC)).box2 2 rfl
    have HS : Hid (MadeHBl w (mStep h ⟨op, a, b, c⟩) (stepOk h ⟨op, a, b, c⟩) (.returned (.tuple #[.agg #[.slice C h.cells.length kC, .slice R h.roots.length kR], .bool false])) _) := Go.Lib.hid (by rw [HF1.out, HF2.out]; exact ⟨_, rvs, _, rfl, HZ.take 2⟩)
    clear K HZ
    go_wp2
    exact bodyPost_ret (v := .tuple #[.agg #[.slice C h.cells.length kC, .slice R h.roots.length kR], .bool false]) (by simp [results, Try.results20, go_sem, z0, z1]) rfl HS.out
  have HP := Go.Lib.hid hp
  by_cases h1 : op = 1
  · by_cases hl : h.cells.length = 40
    · have hs : stepOk h ⟨op, a, b, c⟩ = false := by simp [stepOk, h1, hl]
      have HF1 := Go.Lib.hid hs
      have HF2 := Go.Lib.hid (mStep_no GG.out HC.out hs)
      have k1 : ((h.cells.length : Int) == 40) = true := by simp; omega
      have k3 : (op == 1) = true := by simp [h1]
      clear hs hp hl h1
      go_wp2_with fail
      refine (l7Copy_any _ _ _ h (hh'.below H.below) (by omega) (by omega) HN3.out).mono ?_
      rintro e w4 ⟨v1, rfl, ho, hb⟩
      obtain ⟨cv, rvs, rv, rfl, K⟩ := H.madeH ho hb
      clear ho hb
      obtain ⟨C, kC, rfl, -⟩ := K.formC 0 rfl
      obtain ⟨R, kR, rfl, -⟩ := K.formI 1 rfl
      clear H a0 a1 b0 b1 b2 b3 y0 y1 y2 y3
      obtain ⟨y0, y1, y2, y3⟩ := K.box2 2 rfl
      have HZ := (K.putBox 2 rfl 0 (.slice C h.cells.length kC)).putBox 2 rfl 1 (.slice R h.roots.length kR)
      simp only [List.set_cons_zero, List.set_cons_succ] at HZ
      obtain ⟨z0, z1, -, -⟩ := HZ.box2 2 rfl
      obtain ⟨z2, -, -, -⟩ := (K.putBox 2 rfl 0 (.slice C h.cells.length kC)).box2 2 rfl
      have HS : Hid (MadeHBl w (mStep h ⟨op, a, b, c⟩) (stepOk h ⟨op, a, b, c⟩) (.returned (.tuple #[.agg #[.slice C h.cells.length kC, .slice R h.roots.length kR], .bool false])) _) := Go.Lib.hid (by rw [HF1.out, HF2.out]; exact ⟨_, rvs, _, rfl, HZ.take 2⟩)
      clear K HZ
      go_wp2
      exact bodyPost_ret (v := .tuple #[.agg #[.slice C h.cells.length kC, .slice R h.roots.length kR], .bool false]) (by simp [results, Try.results20, go_sem, z0, z1]) rfl HS.out
    · have hs : stepOk h ⟨op, a, b, c⟩ = true := by unfold stepOk; rw [hp]; simp [hl]
      have HF1 := Go.Lib.hid hs
      have HF2 := Go.Lib.hid (mStep_yes GG.out HC.out hs)
      have k1 : ((h.cells.length : Int) == 40) = false := by simp; omega
      have k3 : (op == 1) = true := by simp [h1]
      clear hs hp hl h1
      go_wp2_with fail
      refine (l8Do_any _ _ _ h (hh'.below H.below) ⟨op, a, b, c⟩ GG.out HC.out HP.out).mono ?_
      rintro e w4 ⟨cv, rvs, rv, rfl, K⟩
      replace K := H.merge K
      simp only [List.cons_append, List.nil_append] at K
      obtain ⟨T, hT⟩ : ∃ T, T = mDo h ⟨op, a, b, c⟩ h.cells.length := ⟨_, rfl⟩
      rw [← hT] at K HF2
      clear hT
      obtain ⟨C, kC, rfl, -⟩ := K.formC 0 rfl
      obtain ⟨R, kR, rfl, -⟩ := K.formI 1 rfl
      clear H a0 a1 b0 b1 b2 b3 y0 y1 y2 y3
      obtain ⟨y0, y1, y2, y3⟩ := K.box2 2 rfl
      have HZ := (K.putBox 2 rfl 0 (.slice C T.cells.length kC)).putBox 2 rfl 1 (.slice R T.roots.length kR)
      simp only [List.set_cons_zero, List.set_cons_succ] at HZ
      obtain ⟨z0, z1, -, -⟩ := HZ.box2 2 rfl
      obtain ⟨z2, -, -, -⟩ := (K.putBox 2 rfl 0 (.slice C T.cells.length kC)).box2 2 rfl
      have HS : Hid (MadeHBl w (mStep h ⟨op, a, b, c⟩) (stepOk h ⟨op, a, b, c⟩) (.returned (.tuple #[.agg #[.slice C T.cells.length kC, .slice R T.roots.length kR], .bool true])) _) := Go.Lib.hid (by rw [HF1.out, HF2.out]; exact ⟨_, rvs, _, rfl, HZ.take 2⟩)
      clear K HZ
      go_wp2
      exact bodyPost_ret (v := .tuple #[.agg #[.slice C T.cells.length kC, .slice R T.roots.length kR], .bool true]) (by simp [results, Try.results20, go_sem, z0, z1]) rfl HS.out
  · have hs : stepOk h ⟨op, a, b, c⟩ = true := by unfold stepOk; rw [hp]; simp [h1]
    have HF1 := Go.Lib.hid hs
    have HF2 := Go.Lib.hid (mStep_yes GG.out HC.out hs)
    have k3 : (op == 1) = false := by simp [h1]
    clear hs hp
    go_wp2_with fail
    refine (l8Do_any _ _ _ h (hh'.below H.below) ⟨op, a, b, c⟩ GG.out HC.out HP.out).mono ?_
    rintro e w4 ⟨cv, rvs, rv, rfl, K⟩
    replace K := H.merge K
    simp only [List.cons_append, List.nil_append] at K
    obtain ⟨T, hT⟩ : ∃ T, T = mDo h ⟨op, a, b, c⟩ h.cells.length := ⟨_, rfl⟩
    rw [← hT] at K HF2
    clear hT
    obtain ⟨C, kC, rfl, -⟩ := K.formC 0 rfl
    obtain ⟨R, kR, rfl, -⟩ := K.formI 1 rfl
    clear H a0 a1 b0 b1 b2 b3 y0 y1 y2 y3
    obtain ⟨y0, y1, y2, y3⟩ := K.box2 2 rfl
    have HZ := (K.putBox 2 rfl 0 (.slice C T.cells.length kC)).putBox 2 rfl 1 (.slice R T.roots.length kR)
    simp only [List.set_cons_zero, List.set_cons_succ] at HZ
    obtain ⟨z0, z1, -, -⟩ := HZ.box2 2 rfl
    obtain ⟨z2, -, -, -⟩ := (K.putBox 2 rfl 0 (.slice C T.cells.length kC)).box2 2 rfl
    have HS : Hid (MadeHBl w (mStep h ⟨op, a, b, c⟩) (stepOk h ⟨op, a, b, c⟩) (.returned (.tuple #[.agg #[.slice C T.cells.length kC, .slice R T.roots.length kR], .bool true])) _) := Go.Lib.hid (by rw [HF1.out, HF2.out]; exact ⟨_, rvs, _, rfl, HZ.take 2⟩)
    clear K HZ
    go_wp2
    exact bodyPost_ret (v := .tuple #[.agg #[.slice C T.cells.length kC, .slice R T.roots.length kR], .bool true]) (by simp [results, Try.results20, go_sem, z0, z1]) rfl HS.out
theorem mRun_no {cs : List Cmd} (h : cmdsOk cs = false) : mRun cs = ⟨[], []⟩ := by simp [mRun, h]
theorem mRun_yes {cs : List Cmd} (h : cmdsOk cs = true) : mRun cs = runTo cs := by simp [mRun, h]
theorem cmdsOk_all {cs : List Cmd} (h : cmdsOk cs = true) : ∀ o ∈ cs, cmdOk o = true := by simp only [cmdsOk, Bool.and_eq_true, List.all_eq_true] at h; exact h.1
end Go.Proofs.Ytdkpfggfkhnjfaa
