/- WantedRegions, the program's: it makes mWantedRegions, for every heap and list that can be read. -/
import Derived.Test.YtlhecfpflkioeaaWp
import Derived.Test.YtlhecfpflkioeaaRg
import Derived.Test.YtlhecfpflkioeaaClo
import Derived.Test.YtlhecfpflkioeaaTre
import Derived.Test.YtlhecfpflkioeaaRch
namespace Go.Proofs.Ytlhecfpflkioeaa
open Go.RowKit
theorem mWanted_no1 {h : Hp} {ws : List Int} (h0 : heapOk h = false) : mWantedRegions h ws = [] := by simp [mWantedRegions, h0]
theorem mWanted_no2 {h : Hp} {ws : List Int} (h0 : ws.length ≠ 4) : mWantedRegions h ws = [] := by simp [mWantedRegions, h0]
theorem mWanted_no3 {h : Hp} {ws : List Int} {k : Nat} {x : Int} (hx : Hid (ws[k]? = some x)) (h0 : regB x = false) : mWantedRegions h ws = [] := by
  unfold mWantedRegions
  rw [if_neg]
  intro hc
  simp only [Bool.and_eq_true, List.all_eq_true] at hc
  have := hc.2 x (List.mem_of_getElem? hx.out)
  rw [h0] at this; cases this
theorem mWanted_yes {h : Hp} {ws : List Int} (h0 : heapOk h = true) (h1 : ws.length = 4) (h2 : ∀ j x, j < 4 → ws[j]? = some x → regB x = true) : mWantedRegions h ws = (List.range h.cells.length).map (wTo h ws 4) := by
  unfold mWantedRegions
  rw [if_pos]
  simp only [Bool.and_eq_true, List.all_eq_true, decide_eq_true_eq]
  refine ⟨⟨h0, h1⟩, fun x hx => ?_⟩
  obtain ⟨j, hj⟩ := List.getElem?_of_mem hx
  exact h2 j x (by have := (List.getElem?_eq_some_iff.1 hj).1; omega) hj
theorem int_min (q x : Int) : min q x = if x < q then x else q := by split <;> omega
theorem regB_yes {x : Int} (h : regB x = true) : 0 ≤ x ∧ x ≤ 5 := by simpa [regB] using h
theorem regB_no {x : Int} (h : regB x = false) : x < 0 ∨ 5 < x := by simp [regB] at h; omega
theorem regs_succ {ws : List Int} {k : Nat} {x : Int} (hx : Hid (ws[k]? = some x)) (h0 : regB x = true) (h : ∀ j x, j < k → ws[j]? = some x → regB x = true) : ∀ j x, j < k + 1 → ws[j]? = some x → regB x = true := by
  intro j y hj hy
  rcases Nat.lt_or_ge j k with h1 | h1
  · exact h j y h1 hy
  · obtain rfl : j = k := by omega
    rw [hx.out] at hy; injection hy with hy; subst hy; exact h0
def stT (h : Hp) (k : Nat) : List Int := (List.range h.cells.length).map fun c => if decide (c < k) && usedN h.cells c then (5 : Int) else 0
theorem stT_zero (h : Hp) : List.replicate h.cells.length (0 : Int) = stT h 0 := by
  unfold stT
  apply List.ext_getElem <;> simp
theorem map_set_range {f g : Nat → Int} {n k : Nat} {v : Int} (hv : g k = v) (he : ∀ c, c < n → c ≠ k → g c = f c) : ((List.range n).map f).set k v = (List.range n).map g := by
  apply List.ext_getElem (by simp)
  intro i h1 h2
  simp only [List.getElem_set, List.getElem_map, List.getElem_range]
  by_cases e : k = i
  · rw [if_pos e, ← e, hv]
  · rw [if_neg e]
    exact (he i (by simpa using h2) (Ne.symm e)).symm
theorem map_same_range {f g : Nat → Int} {n : Nat} (he : ∀ c, c < n → g c = f c) : (List.range n).map f = (List.range n).map g := by
  apply List.map_congr_left
  intro c hc
  exact (he c (List.mem_range.1 hc)).symm
theorem map_at_range {f : Nat → Int} {n k : Nat} (hk : k < n) : ((List.range n).map f)[k]? = some (f k) := by simp [List.getElem?_range hk]
theorem stT_free {h : Hp} {k : Nat} (hu : usedN h.cells k = false) : stT h (k + 1) = stT h k := by
  unfold stT
  refine (map_same_range fun c _ => ?_).symm
  by_cases e : c = k
  · subst e; simp [hu]
  · have : decide (c < k + 1) = decide (c < k) := by simp; omega
    rw [this]
theorem stT_used {h : Hp} {k : Nat} (hu : usedN h.cells k = true) : stT h (k + 1) = (stT h k).set k 5 := by
  unfold stT
  refine (map_set_range (by simp [hu]) fun c _ hc => ?_).symm
  have : decide (c < k + 1) = decide (c < k) := by simp; omega
  rw [this]
theorem stT_len (h : Hp) (k : Nat) : (stT h k).length = h.cells.length := by simp [stT]
theorem stT_end {h : Hp} {ws : List Int} {k : Nat} (hk : h.cells.length ≤ k) : stT h k = (List.range h.cells.length).map (wTo h ws 0) := by
  unfold stT
  refine map_same_range fun c hc => ?_
  have : decide (c < k) = true := by simp; omega
  rw [this, wTo]; simp
/-- The list while root k's cells are gone over. -/
noncomputable def mxT (h : Hp) (ws : List Int) (k i : Nat) : List Int := (List.range h.cells.length).map fun c => if c < i then wTo h ws (k + 1) c else wTo h ws k c
theorem mxT_zero (h : Hp) (ws : List Int) (k : Nat) : mxT h ws k 0 = (List.range h.cells.length).map (wTo h ws k) := rfl
theorem mxT_end {h : Hp} {ws : List Int} {k i : Nat} (hi : h.cells.length ≤ i) : mxT h ws k i = (List.range h.cells.length).map (wTo h ws (k + 1)) := by
  unfold mxT
  refine map_same_range fun c hc => ?_
  rw [if_pos (by omega)]
theorem mxT_at {h : Hp} {ws : List Int} {k i : Nat} (hi : i < h.cells.length) : (mxT h ws k i)[i]? = some (wTo h ws k i) := by
  unfold mxT
  rw [map_at_range hi, if_neg (by omega)]
theorem mxT_no {h : Hp} {ws : List Int} {k i : Nat} (hb : reachB h.cells [h.roots.getD k (-1)] i = false) : mxT h ws k (i + 1) = mxT h ws k i := by
  unfold mxT
  refine (map_same_range fun c _ => ?_).symm
  rcases Nat.lt_trichotomy c i with h1 | h1 | h1
  · rw [if_pos (by omega), if_pos h1]
  · subst h1
    rw [if_pos (by omega), if_neg (by omega), wTo, if_neg (by rw [hb]; exact Bool.false_ne_true)]
  · rw [if_neg (by omega), if_neg (by omega)]
theorem mxT_yes {h : Hp} {ws : List Int} {k i : Nat} (hb : reachB h.cells [h.roots.getD k (-1)] i = true) : mxT h ws k (i + 1) = (mxT h ws k i).set i (min (wTo h ws k i) (ws.getD k 0)) := by
  unfold mxT
  refine (map_set_range ?_ fun c _ hc => ?_).symm
  · rw [if_pos (by omega), wTo, if_pos hb]
  · rcases Nat.lt_or_ge c i with h1 | h1
    · rw [if_pos (by omega), if_pos h1]
    · rw [if_neg (by omega), if_neg (by omega)]
theorem hasR {cs : List Cel} {fr : List Int} (h64 : cs.length ≤ 64) (i : Nat) : hasB (closM cs (usedM cs) fr) (i : Int) = reachB cs fr i := by
  unfold hasB
  rw [closM_used h64]; simp
abbrev OB.intsAt (g n : Nat) (xs : List Int) : OB := .row 3 1 (.slice (some ⟨g, 0, none⟩) n n) n (xs.map (Value.int .i64))
theorem Owns.putI {lo : Nat} {w0 w : World} {L : List OB} {g n : Nat} {xs : List Int} (h : Owns lo w0 w (.intsAt g n xs :: L)) (j : Nat) (x : Int) : Owns lo w0 (w.setCell ⟨g, j, none⟩ (.int .i64 x)) (.intsAt g n (xs.set j x) :: L) := by
  have := h.putRow 0 rfl j (.int .i64 x)
  simpa only [List.set_cons_zero, ← List.map_set] using this
theorem RdI.sub {w : World} {B : Nat} {b o n c : Nat} {xs : List Int} (h : RdI w B (some ⟨b, o, none⟩) n c xs) {k : Nat} (hk : k < n) {x : Int} (hx : Hid (xs[k]? = some x)) : RdI w B (some ⟨b, o + k, none⟩) 1 (c - k) [x] := by
  have hc := h.cap
  have hm := h.mx
  refine ⟨rfl, by omega, by omega, fun _ => ?_⟩
  obtain ⟨b2, o2, hA, hlt, hcc⟩ := h.rd (by omega)
  injection hA with hA; injection hA with e1 e2; subst e1 e2
  refine ⟨b, o + k, rfl, hlt, fun j u hj => ?_⟩
  have hj0 : j = 0 := by
    have := (List.getElem?_eq_some_iff.1 hj).1
    simp at this; omega
  subst hj0
  simp only [List.map_cons, List.getElem?_cons_zero, Option.some.injEq] at hj
  subst hj
  have := hcc k (.int .i64 x) (by rw [List.getElem?_map, hx.out]; rfl)
  simpa using this
end Go.Proofs.Ytlhecfpflkioeaa
