/- Plain laws on regions that are asked for: going over all references as often as there are cells finds the least region by which each cell can be reached. No program. -/
import Derived.Test.YtmhcajjlhiopmaaRr
namespace Go.Proofs.Ytmhcajjlhiopmaa
open Go.RowKit
open Classical
def regB (r : Int) : Bool := decide (0 ≤ r) && decide (r ≤ 5)
noncomputable def wTo (h : Hp) (wants : List Int) : Nat → Nat → Int
  | 0, c => if usedN h.cells c then 5 else 0
  | k + 1, c => if reachB h.cells [h.roots.getD k (-1)] c then min (wTo h wants k c) (wants.getD k 0) else wTo h wants k c
noncomputable def mWantedRegions (h : Hp) (wants : List Int) : List Int := if heapOk h && decide (wants.length = 4) && wants.all regB then (List.range h.cells.length).map (wTo h wants 4) else []
abbrev gd (out : List Int) (c : Nat) : Int := out.getD c 0
theorem gd_set {out : List Int} {q c : Nat} {v : Int} (hq : q < out.length) : gd (out.set q v) c = if c = q then v else gd out c := by
  unfold gd
  simp only [List.getD, List.getElem?_set]
  by_cases e : q = c
  · subst e; simp [hq]
  · simp [e, Ne.symm e]
/-- One reference is gone over. -/
def rl (k : Nat) (out : List Int) (r : Int) : List Int := if 0 ≤ r then out.set r.toNat (min (gd out r.toNat) (gd out k)) else out
def relR (k : Nat) (out : List Int) (rs : List Int) : List Int := rs.foldl (rl k) out
def relC (cs : List Cel) (out : List Int) : Nat → List Int
  | 0 => out
  | k + 1 => relR k (relC cs out k) (cs.getD k noCel).refs
def relN (cs : List Cel) (out : List Int) : Nat → List Int
  | 0 => out
  | t + 1 => relC cs (relN cs out t) cs.length
def rt (h : Hp) (wants : List Int) (out : List Int) (k : Nat) : List Int :=
  if 0 ≤ h.roots.getD k (-1) then out.set (h.roots.getD k (-1)).toNat (min (gd out (h.roots.getD k (-1)).toNat) (wants.getD k 0)) else out
def rtTo (h : Hp) (wants : List Int) (out : List Int) : Nat → List Int
  | 0 => out
  | k + 1 => rt h wants (rtTo h wants out k) k
theorem relR_take {k : Nat} {out rs : List Int} {j : Nat} {r : Int} (h : Hid (rs[j]? = some r)) : relR k out (rs.take (j + 1)) = rl k (relR k out (rs.take j)) r := by
  obtain ⟨hk, rfl⟩ := List.getElem?_eq_some_iff.1 h.out
  unfold relR
  rw [List.take_succ_eq_append_getElem hk, List.foldl_append]; rfl
/-- What a list of regions keeps to while it is made better. -/
structure Wn (h : Hp) (wants : List Int) (out : List Int) : Prop where
  len : out.length = h.cells.length
  low : ∀ c, c < h.cells.length → wTo h wants 4 c ≤ gd out c
  free : ∀ c, usedN h.cells c = false → gd out c = 0
  top : ∀ c, gd out c ≤ 5
theorem wTo_le {h : Hp} {wants : List Int} (k c : Nat) : wTo h wants (k + 1) c ≤ wTo h wants k c := by
  rw [wTo]; split <;> omega
theorem reach_edge {cs : List Cel} {fr : List Int} {k : Nat} {l : Cel} {r : Int} (hl : cs[k]? = some l) (hr : r ∈ l.refs) (h0 : 0 ≤ r) (hu : usedN cs r.toNat = true) (h : reachB cs fr k = true) : reachB cs fr r.toNat = true := by
  simp only [reachB, decide_eq_true_eq] at *
  exact .step h hl hr h0 hu
theorem wTo_edge {h : Hp} {wants : List Int} {k : Nat} {l : Cel} {r : Int} (hl : h.cells[k]? = some l) (hr : r ∈ l.refs) (h0 : 0 ≤ r) (hu : usedN h.cells r.toNat = true) (hk : usedN h.cells k = true) : ∀ j, wTo h wants j r.toNat ≤ wTo h wants j k
  | 0 => by simp [wTo, hu, hk]
  | j + 1 => by
    have ih := wTo_edge (wants := wants) hl hr h0 hu hk j
    cases hc : reachB h.cells [h.roots.getD j (-1)] k
    · have := wTo_le (h := h) (wants := wants) j r.toNat
      have e : wTo h wants (j + 1) k = wTo h wants j k := by rw [wTo, if_neg (by rw [hc]; exact Bool.false_ne_true)]
      omega
    · have e : wTo h wants (j + 1) k = min (wTo h wants j k) (wants.getD j 0) := by rw [wTo, if_pos hc]
      have e2 : wTo h wants (j + 1) r.toNat = min (wTo h wants j r.toNat) (wants.getD j 0) := by rw [wTo, if_pos (reach_edge hl hr h0 hu hc)]
      omega
theorem Wn.goRl {h : Hp} {wants out : List Int} {k : Nat} {l : Cel} {r : Int} (hw : Wn h wants out) (hl : h.cells[k]? = some l) (hr : r ∈ l.refs) (hk : usedN h.cells k = true) (hv : leadsB h.cells r = true) :
    Wn h wants (rl k out r) ∧ (∀ c, gd (rl k out r) c ≤ gd out c) ∧ (0 ≤ r → gd (rl k out r) r.toNat ≤ gd out k) := by
  unfold rl
  by_cases h0 : 0 ≤ r
  · rw [if_pos h0]
    have hu := leadsB_used hv h0
    have hq := usedN_lt hu
    have hq' : r.toNat < out.length := by rw [hw.len]; exact hq
    have hkl : k < h.cells.length := (List.getElem?_eq_some_iff.1 hl).1
    have h1 := hw.low _ hq
    have h2 := hw.low _ hkl
    have h3 := wTo_edge (wants := wants) hl hr h0 hu hk 4
    refine ⟨⟨by simp [hw.len], fun c hc => ?_, fun c hc => ?_, fun c => ?_⟩, fun c => ?_, fun _ => ?_⟩
    · rw [gd_set hq']
      split
      · rename_i e; subst e; omega
      · exact hw.low c hc
    · rw [gd_set hq', if_neg (fun e => by rw [e, hu] at hc; cases hc)]
      exact hw.free c hc
    · rw [gd_set hq']
      have := hw.top c
      split
      · have := hw.top r.toNat; omega
      · exact this
    · rw [gd_set hq']
      split
      · rename_i e; subst e; omega
      · exact Int.le_refl _
    · rw [gd_set hq', if_pos rfl]; omega
  · rw [if_neg h0]
    exact ⟨hw, fun c => Int.le_refl _, fun h => absurd h h0⟩
theorem Wn.goR {h : Hp} {wants : List Int} {k : Nat} {l : Cel} (hl : h.cells[k]? = some l) (hk : usedN h.cells k = true) : ∀ (rs out : List Int), (∀ r ∈ rs, r ∈ l.refs ∧ leadsB h.cells r = true) → Wn h wants out →
    Wn h wants (relR k out rs) ∧ (∀ c, gd (relR k out rs) c ≤ gd out c) ∧ (∀ r ∈ rs, 0 ≤ r → gd (relR k out rs) r.toNat ≤ gd out k)
  | [], out, _, hw => ⟨hw, fun c => Int.le_refl _, fun r hr => by simp at hr⟩
  | r :: rs, out, hrs, hw => by
    obtain ⟨a1, a2, a3⟩ := hw.goRl hl (hrs r (by simp)).1 hk (hrs r (by simp)).2
    obtain ⟨b1, b2, b3⟩ := Wn.goR hl hk rs (rl k out r) (fun x hx => hrs x (by simp [hx])) a1
    refine ⟨b1, fun c => Int.le_trans (b2 c) (a2 c), fun x hx h0 => ?_⟩
    rcases List.mem_cons.1 hx with rfl | hx
    · exact Int.le_trans (b2 _) (a3 h0)
    · exact Int.le_trans (b3 x hx h0) (a2 k)
theorem free_refs {h : Hp} (hok : heapOk h = true) {k : Nat} {l : Cel} (hl : h.cells[k]? = some l) (hu : usedN h.cells k = false) : l.refs = [] := by
  have hc : cellOk h.cells l = true := by
    simp only [heapOk, Bool.and_eq_true, List.all_eq_true] at hok
    exact hok.1.2 l (List.mem_of_getElem? hl)
  have hlu : l.used = false := by rw [← usedN_at (Go.Lib.hid hl)]; exact hu
  rw [cellOk_free hlu] at hc
  simp only [Bool.and_eq_true, decide_eq_true_eq] at hc
  exact List.length_eq_zero_iff.1 hc.2
theorem Wn.cell {h : Hp} {wants : List Int} (hok : heapOk h = true) {k : Nat} {l : Cel} (hl : h.cells[k]? = some l) {out : List Int} (hw : Wn h wants out) (rs : List Int) (hrs : ∀ r ∈ rs, r ∈ l.refs) :
    Wn h wants (relR k out rs) ∧ (∀ c, gd (relR k out rs) c ≤ gd out c) ∧ (∀ r ∈ rs, 0 ≤ r → gd (relR k out rs) r.toNat ≤ gd out k) := by
  cases hu : usedN h.cells k
  · have e := free_refs hok hl hu
    have : rs = [] := by
      cases rs with
      | nil => rfl
      | cons r rs => have := hrs r (by simp); rw [e] at this; cases this
    subst this
    exact ⟨hw, fun c => Int.le_refl _, fun r hr => by simp at hr⟩
  · exact Wn.goR hl hu rs out (fun r hr => ⟨hrs r hr, (heapOk_leads hok).2 k l hl r (hrs r hr)⟩) hw
theorem Wn.goC {h : Hp} {wants out : List Int} (hok : heapOk h = true) (hw : Wn h wants out) : ∀ K, K ≤ h.cells.length → Wn h wants (relC h.cells out K) ∧ (∀ c, gd (relC h.cells out K) c ≤ gd out c) ∧
    (∀ k l r, k < K → h.cells[k]? = some l → r ∈ l.refs → 0 ≤ r → gd (relC h.cells out K) r.toNat ≤ gd out k)
  | 0, _ => ⟨hw, fun c => Int.le_refl _, fun k l r hk => by omega⟩
  | K + 1, hK => by
    obtain ⟨a1, a2, a3⟩ := Wn.goC hok hw K (by omega)
    have hl : h.cells[K]? = some h.cells[K] := List.getElem?_eq_getElem (by omega)
    have e : (h.cells.getD K noCel).refs = (h.cells[K]).refs := by rw [getD_of (Go.Lib.hid hl)]
    obtain ⟨b1, b2, b3⟩ := a1.cell hok hl (h.cells[K]).refs fun r hr => hr
    rw [relC, e]
    refine ⟨b1, fun c => Int.le_trans (b2 c) (a2 c), fun k l r hk hkl hr h0 => ?_⟩
    rcases Nat.lt_or_ge k K with h1 | h1
    · exact Int.le_trans (b2 _) (a3 k l r h1 hkl hr h0)
    · obtain rfl : k = K := by omega
      rw [hl] at hkl; injection hkl with hkl; subst hkl
      exact Int.le_trans (b3 r hr h0) (a2 _)
theorem Wn.goN {h : Hp} {wants out : List Int} (hok : heapOk h = true) (hw : Wn h wants out) : ∀ t, Wn h wants (relN h.cells out t)
  | 0 => hw
  | t + 1 => ((Wn.goN hok hw t).goC hok _ (Nat.le_refl _)).1
/-! ### How far a cell is -/
def lev (cs : List Cel) (r0 : Int) : Nat → Nat → Prop
  | 0, c => (c : Int) = r0 ∧ usedN cs c = true
  | t + 1, c => lev cs r0 t c ∨ ∃ p l, lev cs r0 t p ∧ cs[p]? = some l ∧ (c : Int) ∈ l.refs ∧ usedN cs c = true
theorem lev_used {cs : List Cel} {r0 : Int} : ∀ (t c : Nat), lev cs r0 t c → usedN cs c = true
  | 0, _, h => h.2
  | t + 1, c, h => by
    rcases h with h | ⟨p, l, -, -, -, h⟩
    · exact lev_used t c h
    · exact h
noncomputable def levN (cs : List Cel) (r0 : Int) (t : Nat) : Nat := ((List.range cs.length).filter fun c => decide (lev cs r0 t c)).length
theorem filterN_lt {p q : Nat → Bool} {x : Nat} : ∀ L : List Nat, (∀ z ∈ L, p z = true → q z = true) → (L.filter p).length ≤ (L.filter q).length ∧ (x ∈ L → q x = true → p x = false → (L.filter p).length < (L.filter q).length)
  | [], _ => ⟨Nat.le_refl _, fun hx => by cases hx⟩
  | z :: L, h => by
    obtain ⟨i1, i2⟩ := filterN_lt (x := x) L fun a ha => h a (List.mem_cons_of_mem z ha)
    rw [List.filter_cons, List.filter_cons]
    refine ⟨?_, fun hx hq hp => ?_⟩
    · by_cases hpz : p z = true
      · rw [if_pos hpz, if_pos (h z (by simp) hpz)]; simp only [List.length_cons]; omega
      · rw [if_neg hpz]; split <;> (try simp only [List.length_cons]) <;> omega
    · rcases List.mem_cons.1 hx with rfl | hx
      · rw [if_neg (by simp [hp]), if_pos hq]; simp only [List.length_cons]; omega
      · have := i2 hx hq hp
        by_cases hpz : p z = true
        · rw [if_pos hpz, if_pos (h z (by simp) hpz)]; simp only [List.length_cons]; omega
        · rw [if_neg hpz]; split <;> (try simp only [List.length_cons]) <;> omega
theorem lev_mono {cs : List Cel} {r0 : Int} {t c : Nat} (h : lev cs r0 t c) : ∀ d, lev cs r0 (t + d) c
  | 0 => h
  | d + 1 => .inl (lev_mono h d)
theorem lev_stop {cs : List Cel} {r0 : Int} {t : Nat} (hs : ∀ c, lev cs r0 (t + 1) c → lev cs r0 t c) : ∀ c, Rch cs (usedN cs) [r0] c → lev cs r0 t c := by
  intro c hr
  induction hr with
  | @base r h1 h2 h3 =>
    have e := List.mem_singleton.1 h1
    have : lev cs r0 0 r.toNat := ⟨by omega, h3⟩
    have := lev_mono this t
    rwa [Nat.zero_add] at this
  | @step c l r _ h1 h2 h3 h4 ih => exact hs _ (.inr ⟨c, l, ih, h1, by rw [Int.toNat_of_nonneg h3]; exact h2, h4⟩)
theorem lev_count {cs : List Cel} {r0 : Int} : ∀ t, (∃ s, s < t ∧ ∀ c, lev cs r0 (s + 1) c → lev cs r0 s c) ∨ t ≤ levN cs r0 t
  | 0 => .inr (Nat.zero_le _)
  | t + 1 => by
    rcases lev_count (cs := cs) (r0 := r0) t with ⟨s, h1, h2⟩ | h1
    · exact .inl ⟨s, by omega, h2⟩
    · by_cases hs : ∀ c, lev cs r0 (t + 1) c → lev cs r0 t c
      · exact .inl ⟨t, by omega, hs⟩
      · right
        obtain ⟨c, hc⟩ := Classical.not_forall.1 hs
        obtain ⟨hc1, hc2⟩ := Classical.not_imp.1 hc
        have := (filterN_lt (p := fun c => decide (lev cs r0 t c)) (q := fun c => decide (lev cs r0 (t + 1) c)) (x := c) (List.range cs.length) fun z _ hz => by
          simp only [decide_eq_true_eq] at *; exact .inl hz).2 (List.mem_range.2 (usedN_lt (lev_used _ _ hc1))) (by simpa using hc1) (by simpa using hc2)
        have h2 : levN cs r0 t < levN cs r0 (t + 1) := this
        omega
theorem lev_all {cs : List Cel} {r0 : Int} {c : Nat} (h : Rch cs (usedN cs) [r0] c) : lev cs r0 cs.length c := by
  rcases lev_count (cs := cs) (r0 := r0) (cs.length + 1) with ⟨s, h1, h2⟩ | h1
  · have := lev_mono (lev_stop h2 c h) (cs.length - s)
    rwa [show s + (cs.length - s) = cs.length by omega] at this
  · exfalso
    have : levN cs r0 (cs.length + 1) ≤ cs.length := by
      unfold levN
      exact Nat.le_trans (List.length_filter_le _ _) (by simp)
    omega
/-! ### Both are the same -/
theorem wStart {h : Hp} {wants : List Int} : (List.range h.cells.length).map (wTo h wants 0) = (List.range h.cells.length).map fun c => if usedN h.cells c then (5 : Int) else 0 := rfl
theorem gd_map {f : Nat → Int} {n c : Nat} (hc : c < n) : gd ((List.range n).map f) c = f c := by
  unfold gd
  simp [List.getD, List.getElem?_range hc]
theorem wTo_mono {h : Hp} {wants : List Int} (c : Nat) : ∀ j k, j ≤ k → wTo h wants k c ≤ wTo h wants j c
  | j, 0, hj => by obtain rfl : j = 0 := by omega
                   exact Int.le_refl _
  | j, k + 1, hj => by
    rcases Nat.lt_or_ge j (k + 1) with h1 | h1
    · exact Int.le_trans (wTo_le k c) (wTo_mono c j k (by omega))
    · obtain rfl : j = k + 1 := by omega
      exact Int.le_refl _
theorem Wn.start {h : Hp} {wants : List Int} : Wn h wants ((List.range h.cells.length).map (wTo h wants 0)) := by
  refine ⟨by simp, fun c hc => ?_, fun c hc => ?_, fun c => ?_⟩
  · rw [gd_map hc]; exact wTo_mono c 0 4 (by omega)
  · rcases Nat.lt_or_ge c h.cells.length with h1 | h1
    · rw [gd_map h1, wTo, if_neg (by rw [hc]; exact Bool.false_ne_true)]
    · unfold gd; simp [List.getD, h1]
  · rcases Nat.lt_or_ge c h.cells.length with h1 | h1
    · rw [gd_map h1, wTo]; split <;> omega
    · unfold gd; simp [List.getD, h1]
theorem Wn.goRt {h : Hp} {wants out : List Int} {k : Nat} (hw : Wn h wants out) (hk : k < 4) (hr : leadsB h.cells (h.roots.getD k (-1)) = true) :
    Wn h wants (rt h wants out k) ∧ (∀ c, gd (rt h wants out k) c ≤ gd out c) ∧ (0 ≤ h.roots.getD k (-1) → gd (rt h wants out k) (h.roots.getD k (-1)).toNat ≤ wants.getD k 0) := by
  unfold rt
  generalize hr0 : h.roots.getD k (-1) = r at *
  by_cases h0 : 0 ≤ r
  · rw [if_pos h0]
    have hu := leadsB_used hr h0
    have hq := usedN_lt hu
    have hq' : r.toNat < out.length := by rw [hw.len]; exact hq
    have h1 := hw.low _ hq
    have h2 : wTo h wants 4 r.toNat ≤ wants.getD k 0 := by
      refine Int.le_trans (wTo_mono r.toNat (k + 1) 4 (by omega)) ?_
      rw [wTo, if_pos]
      · omega
      · simp only [reachB, decide_eq_true_eq, hr0]
        exact .base (List.mem_singleton_self _) h0 hu
    refine ⟨⟨by simp [hw.len], fun c hc => ?_, fun c hc => ?_, fun c => ?_⟩, fun c => ?_, fun _ => ?_⟩
    · rw [gd_set hq']
      split
      · rename_i e; subst e; omega
      · exact hw.low c hc
    · rw [gd_set hq', if_neg (fun e => by rw [e, hu] at hc; cases hc)]
      exact hw.free c hc
    · rw [gd_set hq']
      have := hw.top c
      split
      · have := hw.top r.toNat; omega
      · exact this
    · rw [gd_set hq']
      split
      · rename_i e; subst e; omega
      · exact Int.le_refl _
    · rw [gd_set hq', if_pos rfl]; omega
  · rw [if_neg h0]
    exact ⟨hw, fun c => Int.le_refl _, fun h => absurd h h0⟩
theorem Wn.goTo {h : Hp} {wants out : List Int} (hw : Wn h wants out) (hr : ∀ k, k < 4 → leadsB h.cells (h.roots.getD k (-1)) = true) : ∀ K, K ≤ 4 → Wn h wants (rtTo h wants out K) ∧ (∀ k, k < K → 0 ≤ h.roots.getD k (-1) → gd (rtTo h wants out K) (h.roots.getD k (-1)).toNat ≤ wants.getD k 0)
  | 0, _ => ⟨hw, fun k hk => by omega⟩
  | K + 1, hK => by
    obtain ⟨a1, a2⟩ := Wn.goTo hw hr K (by omega)
    obtain ⟨b1, b2, b3⟩ := a1.goRt (by omega : K < 4) (hr K (by omega))
    refine ⟨b1, fun k hk h0 => ?_⟩
    rcases Nat.lt_or_ge k K with h1 | h1
    · exact Int.le_trans (b2 _) (a2 k h1 h0)
    · obtain rfl : k = K := by omega
      exact b3 h0
theorem le_wTo {h : Hp} {wants : List Int} {c : Nat} {x : Int} (hu : usedN h.cells c = true) (h5 : x ≤ 5) : ∀ j, (∀ k, k < j → reachB h.cells [h.roots.getD k (-1)] c = true → x ≤ wants.getD k 0) → x ≤ wTo h wants j c
  | 0, _ => by rw [wTo, if_pos hu]; exact h5
  | j + 1, hk => by
    have ih := le_wTo hu h5 j fun k hkj => hk k (by omega)
    rw [wTo]
    split
    · rename_i hc
      have := hk j (by omega) hc
      omega
    · exact ih
theorem wanted_same {h : Hp} {wants : List Int} (hok : heapOk h = true) (hr : ∀ k, k < 4 → leadsB h.cells (h.roots.getD k (-1)) = true) :
    relN h.cells (rtTo h wants ((List.range h.cells.length).map (wTo h wants 0)) 4) h.cells.length = (List.range h.cells.length).map (wTo h wants 4) := by
  obtain ⟨a1, a2⟩ := (Wn.start (h := h) (wants := wants)).goTo hr 4 (Nat.le_refl _)
  generalize rtTo h wants ((List.range h.cells.length).map (wTo h wants 0)) 4 = out at *
  have b1 := a1.goN hok h.cells.length
  -- a cell at distance t has, after t rounds, at most the region that is asked for
  have key : ∀ k, k < 4 → ∀ t c, lev h.cells (h.roots.getD k (-1)) t c → gd (relN h.cells out t) c ≤ wants.getD k 0 := by
    intro k hk t
    induction t with
    | zero =>
      intro c hc
      have h0 : 0 ≤ h.roots.getD k (-1) := by rw [← hc.1]; omega
      have := a2 k hk h0
      have e : (h.roots.getD k (-1)).toNat = c := by rw [← hc.1]; simp
      rwa [e] at this
    | succ t ih =>
      intro c hc
      obtain ⟨c1, c2, c3⟩ := (a1.goN hok t).goC hok h.cells.length (Nat.le_refl _)
      rcases hc with hc | ⟨p, l, h1, h2, h3, h4⟩
      · exact Int.le_trans (c2 c) (ih c hc)
      · have := c3 p l (c : Int) (List.getElem?_eq_some_iff.1 h2).1 h2 h3 (by omega)
        rw [Int.toNat_natCast] at this
        exact Int.le_trans this (ih p h1)
  apply List.ext_getElem?
  intro c
  rcases Nat.lt_or_ge c h.cells.length with hc | hc
  · have e1 : (relN h.cells out h.cells.length)[c]? = some (gd (relN h.cells out h.cells.length) c) := by
      have : c < (relN h.cells out h.cells.length).length := by rw [b1.len]; exact hc
      unfold gd
      simp [List.getD, List.getElem?_eq_getElem this]
    rw [e1, List.getElem?_map, List.getElem?_range hc, Option.map_some]
    congr 1
    have hlow := b1.low c hc
    cases hu : usedN h.cells c
    · have h1 := b1.free c hu
      have h2 : ∀ j, wTo h wants j c = 0 := by
        intro j
        induction j with
        | zero => rw [wTo, if_neg (by rw [hu]; exact Bool.false_ne_true)]
        | succ j ih =>
          rw [wTo, if_neg, ih]
          intro hb
          simp only [reachB, decide_eq_true_eq] at hb
          rw [hb.inS] at hu; cases hu
      rw [h1, h2]
    · refine Int.le_antisymm (le_wTo hu (b1.top c) 4 fun k hk hb => ?_) hlow
      simp only [reachB, decide_eq_true_eq] at hb
      exact key k hk _ c (lev_all hb)
  · rw [List.getElem?_eq_none (by rw [b1.len]; exact hc), List.getElem?_eq_none (by simpa using hc)]
end Go.Proofs.Ytmhcajjlhiopmaa
