/- Plain laws on the order in which lost cells are finished: there is always a first one; with and without the cells that are not lost it is the same order. No program. -/
import Derived.Test.YtpglhmlebcigfaaRd
namespace Go.Proofs.Ytpglhmlebcigfaa
open Go.RowKit
open Classical
theorem rch_trans {cs : List Cel} {S : Nat → Bool} {y x : Int} (h1 : Rch cs S [y] x.toNat) {c : Nat} (h2 : Rch cs S [x] c) : Rch cs S [y] c := by
  induction h2 with
  | base hr h0 hs => rw [List.mem_singleton.1 hr]; exact h1
  | step _ hl hr h0 hs ih => exact .step ih hl hr h0 hs
theorem toB_trans {h : Hp} {x y z : Int} (h1 : toB h x y = true) (h2 : toB h y z = true) : toB h x z = true := by
  simp only [toB, reachB, decide_eq_true_eq] at *
  exact rch_trans h1 h2
theorem toB_self {h : Hp} {x : Int} (hu : usedB h.cells x = true) : toB h x x = true := by
  obtain ⟨h0, -, h1, -⟩ := usedB_parts hu
  simp only [toB, reachB, decide_eq_true_eq]
  exact .base (List.mem_singleton_self _) h0 h1
theorem exists_min {α : Type} (f : α → Nat) : ∀ L : List α, L ≠ [] → ∃ x ∈ L, ∀ y ∈ L, f x ≤ f y
  | [], h => absurd rfl h
  | [x], _ => ⟨x, by simp, fun y hy => by rw [List.mem_singleton.1 hy]; exact Nat.le_refl _⟩
  | x :: y :: L, _ => by
    obtain ⟨z, hz, hm⟩ := exists_min f (y :: L) (by simp)
    rcases Nat.le_total (f x) (f z) with h1 | h1
    · refine ⟨x, by simp, fun a ha => ?_⟩
      rcases List.mem_cons.1 ha with rfl | ha
      · exact Nat.le_refl _
      · exact Nat.le_trans h1 (hm a ha)
    · refine ⟨z, List.mem_cons_of_mem _ hz, fun a ha => ?_⟩
      rcases List.mem_cons.1 ha with rfl | ha
      · exact h1
      · exact hm a ha
theorem filter_le {p q : Int → Bool} : ∀ L : List Int, (∀ z ∈ L, p z = true → q z = true) → (L.filter p).length ≤ (L.filter q).length
  | [], _ => Nat.le_refl _
  | z :: L, h => by
    have ih := filter_le L fun a ha => h a (List.mem_cons_of_mem _ ha)
    rw [List.filter_cons, List.filter_cons]
    by_cases hp : p z = true
    · rw [if_pos hp, if_pos (h z (by simp) hp)]; simpa using ih
    · rw [if_neg hp]
      split
      · simp; omega
      · exact ih
theorem filter_lt {p q : Int → Bool} {x : Int} : ∀ L : List Int, (∀ z ∈ L, p z = true → q z = true) → x ∈ L → q x = true → p x = false → (L.filter p).length < (L.filter q).length
  | [], _, hx, _, _ => by cases hx
  | z :: L, h, hx, hq, hp => by
    have h' := fun a ha => h a (List.mem_cons_of_mem z ha)
    rw [List.filter_cons, List.filter_cons]
    rcases List.mem_cons.1 hx with rfl | hx
    · rw [if_neg (by simp [hp]), if_pos hq]
      have := filter_le L h'
      simp; omega
    · have ih := filter_lt L h' hx hq hp
      by_cases hpz : p z = true
      · rw [if_pos hpz, if_pos (h z (by simp) hpz)]; simpa using ih
      · rw [if_neg hpz]
        split
        · simp; omega
        · exact ih
theorem ready_some {h : Hp} {L : List Int} (hne : L ≠ []) (hl : ∀ x ∈ L, lostB h x = true) (hu : ∀ x ∈ L, usedB h.cells x = true) : readyL h L ≠ [] := by
  obtain ⟨x, hx, hm⟩ := exists_min (fun x => (L.filter fun y => toB h y x).length) L hne
  have : x ∈ readyL h L := by
    unfold readyL
    refine List.mem_filter.2 ⟨hx, ?_⟩
    unfold readyB
    rw [hl x hx, Bool.true_and, List.all_eq_true]
    intro y hy
    unfold okY
    cases h1 : toB h y x
    · simp
    · cases h2 : toB h x y
      · exfalso
        have := filter_lt (p := fun z => toB h z y) (q := fun z => toB h z x) L (fun z _ hz => toB_trans hz h1) hx (toB_self (hu x hx)) h2
        have := hm y hy
        omega
      · simp
  intro e
  rw [e] at this
  cases this
noncomputable def finN (h : Hp) : Nat → List Int → List Int
  | 0, _ => []
  | f + 1, left => match readyL h left with
    | [] => []
    | n :: _ => n :: finN h f (left.filter fun x => x != n)
theorem finN_len (h : Hp) : ∀ f left, (finN h f left).length ≤ f
  | 0, _ => Nat.le_refl _
  | f + 1, left => by
    unfold finN
    split
    · simp
    · rename_i n _ _
      have := finN_len h f (left.filter fun x => x != n)
      simp only [List.length_cons]; omega
theorem ready_mem {h : Hp} {L : List Int} {x : Int} (hx : x ∈ readyL h L) : x ∈ L ∧ lostB h x = true := by
  obtain ⟨h1, h2⟩ := List.mem_filter.1 hx
  unfold readyB at h2
  exact ⟨h1, (Bool.and_eq_true_iff.1 h2).1⟩
theorem ready_filter (h : Hp) (L : List Int) : readyL h (L.filter (lostB h)) = readyL h L := by
  rw [← ready_lost h (L.filter (lostB h))]
  have e : (L.filter (lostB h)).filter (lostB h) = L.filter (lostB h) := by rw [List.filter_filter]; congr 1; funext x; exact Bool.and_self _
  rw [e]
  exact ready_lost h L
theorem filter_out {L : List Int} {n : Int} (hn : n ∈ L) : (L.filter fun x => x != n).length < L.length := by
  have := filter_lt (p := fun x => x != n) (q := fun _ => true) L (fun _ _ _ => rfl) hn rfl (by simp)
  have e : (L.filter fun _ => true) = L := List.filter_eq_self.2 fun _ _ => rfl
  rwa [e] at this
theorem finN_lost (h : Hp) : ∀ (f g : Nat) (left : List Int), left.length ≤ f → (left.filter (lostB h)).length ≤ g → finN h f left = finN h g (left.filter (lostB h))
  | 0, g, left, hf, _ => by
    obtain rfl : left = [] := List.length_eq_zero_iff.1 (by omega)
    cases g with
    | zero => rfl
    | succ g => simp [finN, readyL]
  | f + 1, g, left, hf, hg => by
    rw [finN]
    cases hr : readyL h left with
    | nil =>
      cases g with
      | zero => rfl
      | succ g => rw [finN, ready_filter, hr]
    | cons n ns =>
      obtain ⟨h1, h2⟩ := ready_mem (h := h) (L := left) (x := n) (by rw [hr]; simp)
      have h3 : n ∈ left.filter (lostB h) := List.mem_filter.2 ⟨h1, h2⟩
      cases g with
      | zero => have := filter_out h3; omega
      | succ g =>
        rw [finN, ready_filter, hr]
        have e : (left.filter (lostB h)).filter (fun x => x != n) = (left.filter fun x => x != n).filter (lostB h) := by
          rw [List.filter_filter, List.filter_filter]; congr 1; funext x; exact Bool.and_comm _ _
        simp only
        rw [e, finN_lost h f g _ (by have := filter_out h1; omega) (by rw [← e]; have := filter_out h3; omega)]
theorem finN_more (h : Hp) : ∀ (f g : Nat) (left : List Int), left.length ≤ f → left.length ≤ g → finN h f left = finN h g left
  | 0, g, left, hf, _ => by
    obtain rfl : left = [] := List.length_eq_zero_iff.1 (by omega)
    cases g <;> simp [finN, readyL]
  | f + 1, g, left, hf, hg => by
    cases g with
    | zero =>
      obtain rfl : left = [] := List.length_eq_zero_iff.1 (by omega)
      simp [finN, readyL]
    | succ g =>
      rw [finN, finN]
      cases hr : readyL h left with
      | nil => rfl
      | cons n ns =>
        obtain ⟨h1, -⟩ := ready_mem (h := h) (L := left) (x := n) (by rw [hr]; simp)
        simp only
        rw [finN_more h f g _ (by have := filter_out h1; omega) (by have := filter_out h1; omega)]
/-- One step. -/
theorem finN_step {h : Hp} {left : List Int} {n : Int} {ns : List Int} (hr : readyL h left = n :: ns) : finN h left.length left = n :: finN h (left.filter fun x => x != n).length (left.filter fun x => x != n) := by
  obtain ⟨h1, -⟩ := ready_mem (h := h) (L := left) (x := n) (by rw [hr]; simp)
  have := filter_out h1
  obtain ⟨k, hk⟩ : ∃ k, left.length = k + 1 := ⟨left.length - 1, by omega⟩
  rw [hk, finN, hr]
  simp only
  rw [finN_more h k _ _ (by omega) (Nat.le_refl _)]
theorem finN_none {h : Hp} {left : List Int} (hr : readyL h left = []) : finN h left.length left = [] := by
  cases hl : left.length with
  | zero => rfl
  | succ k => rw [finN, hr]
noncomputable def mFinalOrder (h : Hp) (ws : List Int) : List Int := if mWatchedValid h ws then finN h ws.length ws else []
theorem mFinal_no {h : Hp} {ws : List Int} (h0 : mWatchedValid h ws = false) : mFinalOrder h ws = [] := by simp [mFinalOrder, h0]
theorem mFinal_yes {h : Hp} {ws : List Int} (h0 : mWatchedValid h ws = true) : mFinalOrder h ws = finN h ws.length ws := by simp [mFinalOrder, h0]
theorem mFinalOrder_len (h : Hp) (ws : List Int) : (mFinalOrder h ws).length ≤ 1048576 := by
  unfold mFinalOrder
  split
  · rename_i h0
    have := mWatched_len h0
    have := finN_len h ws.length ws
    omega
  · simp
/-! ### A part of watched cells is watched cells -/
theorem asc_lt {ws : List Int} (h : ∀ k x y, ws[k]? = some x → ws[k + 1]? = some y → x < y) : ∀ (d i : Nat) (hi : i < ws.length) (hj : i + d + 1 < ws.length), ws[i] < ws[i + d + 1]
  | 0, i, hi, hj => h i _ _ (List.getElem?_eq_getElem hi) (List.getElem?_eq_getElem hj)
  | d + 1, i, hi, hj => by
    have h1 := asc_lt h d i hi (by omega)
    have h2 := h (i + d + 1) _ _ (List.getElem?_eq_getElem (by omega)) (List.getElem?_eq_getElem hj)
    omega
theorem mWatched_iff {h : Hp} {ws : List Int} : mWatchedValid h ws = true ↔ heapOk h = true ∧ (∀ r ∈ ws, usedB h.cells r = true) ∧ ws.Pairwise (· < ·) := by
  constructor
  · intro h0
    obtain ⟨h1, h2, h3⟩ := mWatched_parts h0
    refine ⟨h1, h2, List.pairwise_iff_getElem.2 fun i j hi hj hij => ?_⟩
    obtain ⟨d, rfl⟩ : ∃ d, j = i + d + 1 := ⟨j - i - 1, by omega⟩
    exact asc_lt h3 d i hi hj
  · rintro ⟨h1, h2, h3⟩
    simp only [mWatchedValid, h1, Bool.true_and, List.all_eq_true, List.mem_range]
    intro k hk
    unfold watchAt
    have e : ws.getD k 0 = ws[k] := by simp [List.getD, List.getElem?_eq_getElem hk]
    rw [e, h2 _ (List.getElem_mem hk), Bool.true_and]
    rcases Nat.eq_zero_or_pos k with rfl | hk0
    · simp
    · have hk1 : k - 1 < ws.length := by omega
      have e2 : ws.getD (k - 1) 0 = ws[k - 1] := by simp [List.getD, List.getElem?_eq_getElem hk1]
      have := (List.pairwise_iff_getElem.1 h3) (k - 1) k hk1 hk (by omega)
      rw [e2]; simp [this]
theorem mWatched_filter {h : Hp} {ws : List Int} (p : Int → Bool) (h0 : mWatchedValid h ws = true) : mWatchedValid h (ws.filter p) = true := by
  rw [mWatched_iff] at *
  exact ⟨h0.1, fun r hr => h0.2.1 r (List.mem_filter.1 hr).1, h0.2.2.filter p⟩
end Go.Proofs.Ytpglhmlebcigfaa
