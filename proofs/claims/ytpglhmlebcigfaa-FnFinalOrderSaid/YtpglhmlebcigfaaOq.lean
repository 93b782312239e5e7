/- Plain laws on the order in which cells are finished: each lost watched cell is in it once; a later one leads to an earlier one only if they lead to each other. No program. -/
import Derived.Test.YtpglhmlebcigfaaFp
namespace Go.Proofs.Ytpglhmlebcigfaa
open Go.RowKit
theorem finN_mem {h : Hp} {x : Int} : ∀ (f : Nat) (left : List Int), x ∈ finN h f left → x ∈ left ∧ lostB h x = true
  | 0, left, hx => by rw [finN] at hx; cases hx
  | f + 1, left, hx => by
    rw [finN] at hx
    split at hx
    · cases hx
    · rename_i n ns hr
      have hn := ready_mem (h := h) (L := left) (x := n) (by rw [hr]; exact List.mem_cons_self)
      rcases List.mem_cons.1 hx with rfl | hx
      · exact hn
      · obtain ⟨h1, h2⟩ := finN_mem f _ hx
        exact ⟨(List.mem_filter.1 h1).1, h2⟩
/-- What the law asks of an earlier and a later one. -/
def OrdOk (h : Hp) (a b : Int) : Prop := a ≠ b ∧ (toB h b a = true → toB h a b = true)
theorem finN_pair {h : Hp} : ∀ (f : Nat) (left : List Int), (finN h f left).Pairwise (OrdOk h)
  | 0, left => by rw [finN]; exact List.Pairwise.nil
  | f + 1, left => by
    rw [finN]
    split
    · exact List.Pairwise.nil
    · rename_i n ns hr
      refine List.Pairwise.cons (fun y hy => ?_) (finN_pair f _)
      obtain ⟨h1, h2⟩ := finN_mem f _ hy
      obtain ⟨h3, h4⟩ := List.mem_filter.1 h1
      have hn : n ∈ readyL h left := by rw [hr]; exact List.mem_cons_self
      unfold readyL at hn
      obtain ⟨-, h5⟩ := List.mem_filter.1 hn
      unfold readyB at h5
      simp only [Bool.and_eq_true, List.all_eq_true] at h5
      have h6 := h5.2 y h3
      unfold okY at h6
      rw [h2] at h6
      refine ⟨fun e => by subst e; simp at h4, fun h7 => ?_⟩
      rw [h7] at h6
      simpa using h6
theorem filter_one {p : Int → Bool} {n : Int} : ∀ (left : List Int), left.Nodup → n ∈ left → p n = true → ((left.filter fun x => x != n).filter p).length + 1 = (left.filter p).length
  | [], _, hn, _ => by cases hn
  | x :: xs, hd, hn, hp => by
    obtain ⟨h1, h2⟩ := List.nodup_cons.1 hd
    by_cases e : x = n
    · subst e
      have e1 : (x :: xs).filter (fun y => y != x) = xs := by
        rw [List.filter_cons_of_neg (by simp)]
        exact List.filter_eq_self.2 fun y hy => by
          have : y ≠ x := fun e => h1 (e ▸ hy)
          simpa using this
      rw [e1, List.filter_cons_of_pos hp, List.length_cons]
    · have hn' : n ∈ xs := by
        rcases List.mem_cons.1 hn with h3 | h3
        · exact absurd h3.symm e
        · exact h3
      have ih := filter_one xs h2 hn' hp
      rw [List.filter_cons_of_pos (by simpa using e)]
      cases hx : p x
      · rw [List.filter_cons_of_neg (by simp [hx]), List.filter_cons_of_neg (by simp [hx])]
        exact ih
      · rw [List.filter_cons_of_pos hx, List.filter_cons_of_pos hx, List.length_cons, List.length_cons]
        omega
theorem finN_count {h : Hp} : ∀ (f : Nat) (left : List Int), left.Nodup → (∀ x ∈ left, usedB h.cells x = true) → left.length ≤ f → (finN h f left).length = (left.filter (lostB h)).length
  | 0, left, _, _, hl => by
    obtain rfl : left = [] := List.length_eq_zero_iff.1 (by omega)
    rfl
  | f + 1, left, hd, hu, hl => by
    rw [finN]
    split
    · rename_i hr
      by_cases he : left.filter (lostB h) = []
      · rw [he]
      · exfalso
        have h2 := ready_some he (fun y hy => (List.mem_filter.1 hy).2) (fun y hy => hu y (List.mem_filter.1 hy).1)
        rw [ready_filter] at h2
        exact h2 hr
    · rename_i n ns hr
      have hn := ready_mem (h := h) (L := left) (x := n) (by rw [hr]; exact List.mem_cons_self)
      have hlt := filter_out hn.1
      rw [List.length_cons, finN_count f _ (hd.filter _) (fun x hx => hu x (List.mem_filter.1 hx).1) (by omega)]
      exact filter_one left hd hn.1 hn.2
theorem asc_nodup {ws : List Int} (h : ws.Pairwise (· < ·)) : ws.Nodup := h.imp fun hab => by omega
theorem final_facts {h : Hp} {ws : List Int} (h0 : mWatchedValid h ws = true) : (mFinalOrder h ws).length = (ws.filter (lostB h)).length ∧ (mFinalOrder h ws).Pairwise (OrdOk h) ∧ ∀ x ∈ mFinalOrder h ws, usedB h.cells x = true := by
  obtain ⟨s1, s2, s3⟩ := mWatched_iff.1 h0
  rw [mFinal_yes h0]
  exact ⟨finN_count _ _ (asc_nodup s3) s2 (Nat.le_refl _), finN_pair _ _, fun x hx => s2 x (finN_mem _ _ hx).1⟩
theorem pair_at {α : Type} {R : α → α → Prop} {l : List α} (h : l.Pairwise R) {j k : Nat} {a b : α} (hjk : j < k) (ha : l[j]? = some a) (hb : l[k]? = some b) : R a b := by
  obtain ⟨h1, rfl⟩ := List.getElem?_eq_some_iff.1 ha
  obtain ⟨h2, rfl⟩ := List.getElem?_eq_some_iff.1 hb
  exact List.pairwise_iff_getElem.1 h j k h1 h2 hjk
end Go.Proofs.Ytpglhmlebcigfaa
