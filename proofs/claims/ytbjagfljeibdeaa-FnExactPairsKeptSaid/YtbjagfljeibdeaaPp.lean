/- Slices of pairs: what they read as, and the laws' size, copy and equality functions over them, for sizes up to 2^20. -/
import Derived.Test.YtbjagfljeibdeaaSz
import Derived.Test.YtbjagfljeibdeaaTo
import Derived.Test.YtbjagfljeibdeaaEq
import Derived.Test.YtbjagfljeibdeaaOpen
namespace Go.Proofs.Ytbjagfljeibdeaa
open Go.RowKit
structure RdP (w : World) (B : Nat) (A : Option Addr) (n c : Nat) (ps : List (Int × Int)) : Prop where
  len : n = ps.length
  cap : n ≤ c
  mx : c ≤ maxLen
  rd : 0 < n → ∃ b o, A = some ⟨b, o, none⟩ ∧ b < B ∧ ∀ (j : Nat) (p : Int × Int), ps[j]? = some p → w.cell? ⟨b, o + j * 2, none⟩ = some (.int .i64 p.1) ∧ w.cell? ⟨b, o + j * 2 + 1, none⟩ = some (.int .i64 p.2)
section
variable {w w' : World} {B B' : Nat} {A : Option Addr} {n c : Nat} {ps : List (Int × Int)}
theorem RdP.below (h : RdP w B A n c ps) (hb : Below B w w') : RdP w' B A n c ps :=
  ⟨h.len, h.cap, h.mx, fun hn => by
    obtain ⟨b, o, hA, hlt, hc⟩ := h.rd hn
    refine ⟨b, o, hA, hlt, fun j l hj => ?_⟩
    obtain ⟨h1, h2⟩ := hc j l hj
    exact ⟨(hb.cell (p := ⟨b, _, none⟩) hlt).trans h1, (hb.cell (p := ⟨b, _, none⟩) hlt).trans h2⟩⟩
theorem RdP.mono (h : RdP w B A n c ps) (hb : B ≤ B') : RdP w B' A n c ps :=
  ⟨h.len, h.cap, h.mx, fun hn => by
    obtain ⟨b, o, hA, hlt, hc⟩ := h.rd hn
    exact ⟨b, o, hA, by omega, hc⟩⟩
theorem RdP.top (h : RdP w B A n c ps) : RdP w w.heap.size A n c ps :=
  ⟨h.len, h.cap, h.mx, fun hn => by
    obtain ⟨b, o, hA, hlt, hc⟩ := h.rd hn
    have hl : 0 < ps.length := by have := h.len; omega
    exact ⟨b, o, hA, lt_of_cell (hc 0 _ (List.getElem?_eq_getElem hl)).1, hc⟩⟩
theorem RdP.at_ (h : RdP w B A n c ps) {k : Nat} (hk : k < n) : ∃ b o x y, A = some ⟨b, o, none⟩ ∧ b < B ∧ Hid (ps[k]? = some (x, y)) ∧ w.cell? ⟨b, o + k * 2, none⟩ = some (.int .i64 x) ∧ w.cell? ⟨b, o + k * 2 + 1, none⟩ = some (.int .i64 y) := by
  obtain ⟨b, o, hA, hlt, hc⟩ := h.rd (by omega)
  have hl : k < ps.length := by have := h.len; omega
  obtain ⟨h1, h2⟩ := hc k _ (List.getElem?_eq_getElem hl)
  exact ⟨b, o, ps[k].1, ps[k].2, hA, hlt, List.getElem?_eq_getElem hl, h1, h2⟩
theorem RdP.le1 (h : RdP w B A n c ps) : n ≤ ps.length := by have := h.len; omega
theorem RdP.le2 (h : RdP w B A n c ps) : ps.length ≤ n := by have := h.len; omega
end

def pairVals : List (Int × Int) → List Value
  | [] => []
  | p :: ps => .int .i64 p.1 :: .int .i64 p.2 :: pairVals ps
theorem pairVals_length : ∀ ps, (pairVals ps).length = ps.length * 2
  | [] => rfl
  | p :: ps => by simp [pairVals, pairVals_length ps]; omega
theorem pairVals_at : ∀ (ps : List (Int × Int)) (i : Nat) (p : Int × Int), ps[i]? = some p → (pairVals ps)[i * 2]? = some (.int .i64 p.1) ∧ (pairVals ps)[i * 2 + 1]? = some (.int .i64 p.2)
  | [], _, _, h => by simp at h
  | q :: ps, 0, p, h => by simp at h; subst h; simp [pairVals]
  | q :: ps, i + 1, p, h => by
    have := pairVals_at ps i p (by simpa using h)
    have e0 : (i + 1) * 2 = i * 2 + 2 := by omega
    rw [e0]
    simpa [pairVals] using this
theorem pairVals_snoc : ∀ (ps : List (Int × Int)) (p : Int × Int), pairVals (ps ++ [p]) = pairVals ps ++ [.int .i64 p.1, .int .i64 p.2]
  | [], _ => rfl
  | q :: ps, p => by simp [pairVals, pairVals_snoc ps p]
def zpairs : Nat → List Value
  | 0 => []
  | m + 1 => .int .i64 0 :: .int .i64 0 :: zpairs m
theorem zpairs_eq : ∀ m, zpairs m = List.replicate (m * 2) (.int .i64 0)
  | 0 => rfl
  | m + 1 => by rw [zpairs, zpairs_eq m, show (m + 1) * 2 = m * 2 + 1 + 1 by omega, List.replicate_succ, List.replicate_succ]
theorem made_zpairs (n : Nat) : (madeCells #[Value.int .i64 0, .int .i64 0] (n * 2)).toList = zpairs n := by
  rw [zpairs_eq]
  apply List.ext_getElem?
  intro j
  by_cases hj : j < n * 2
  · have h3 : j % 2 < 2 := Nat.mod_lt _ (by omega)
    have e : j % 2 = 0 ∨ j % 2 = 1 := by omega
    rcases e with e | e <;> simp [madeCells, hj, e]
  · simp [madeCells, hj]
theorem fill2 (ps : List (Int × Int)) (k n : Nat) (x y : Int) (hk : Hid (ps[k]? = some (x, y))) (hn : k < n) :
    ((pairVals (ps.take k) ++ zpairs (n - k)).set (k * 2) (.int .i64 x)).set (k * 2 + 1) (.int .i64 y) = pairVals (ps.take (k + 1)) ++ zpairs (n - (k + 1)) := by
  obtain ⟨hk', he⟩ := List.getElem?_eq_some_iff.1 hk.out
  have hL : (pairVals (ps.take k)).length = k * 2 := by rw [pairVals_length, List.length_take]; omega
  rw [List.take_succ_eq_append_getElem hk', pairVals_snoc, he]
  generalize pairVals (ps.take k) = L at *
  have e : n - k = (n - (k + 1)) + 1 := by omega
  rw [e]
  rw [List.set_append_right _ _ (by omega), List.set_append_right _ _ (by omega)]
  rw [hL, show k * 2 - k * 2 = 0 by omega, show k * 2 + 1 - k * 2 = 1 by omega]
  simp [zpairs]

structure OwP (w : World) (lo hi : Nat) (v : Value) (ps : List (Int × Int)) : Prop where
  own : w.ownsRow lo 68 2 v ps.length (pairVals ps)
  lt : ∀ k, v.ownBlock = some k → k < hi
section
variable {w w' : World} {lo hi lo' hi' : Nat} {v : Value} {ps : List (Int × Int)}
theorem OwP.keep (ho : OwP w lo hi v ps) (hk : ∀ k, lo ≤ k → k < hi → w'.heap[k]? = w.heap[k]?) : OwP w' lo hi v ps :=
  ⟨own_keep ho.own fun k e => hk k (ho.own.lt k e).1 (ho.lt k e), ho.lt⟩
theorem OwP.below (ho : OwP w lo hi v ps) {B : Nat} (hb : Below B w w') (hB : hi ≤ B) : OwP w' lo hi v ps := ho.keep fun k _ h => hb.block k (by omega)
theorem OwP.form (ho : OwP w lo hi v ps) : ∃ A c, v = .slice A ps.length c ∧ RdP w hi A ps.length c ps := by
  rcases ho.own.2 with ⟨rfl, h0⟩ | ⟨g, cap, cur, rfl, hb, hg, hn, hm, hs, ht⟩
  · exact ⟨none, 0, by rw [h0], rfl, by omega, zero_le_maxLen, fun h => by omega⟩
  · refine ⟨_, cap, rfl, rfl, hn, hm, fun h => ⟨g, 0, rfl, ho.lt g rfl, fun j l hl => ?_⟩⟩
    obtain ⟨e1, e2⟩ := pairVals_at ps j l hl
    have c1 := ho.own.cells (g := g) rfl _ _ e1
    have c2 := ho.own.cells (g := g) rfl _ _ e2
    rw [add_lit0] at c1 c2
    exact ⟨by simpa using c1, by simpa using c2⟩
end
def MadeP (w : World) (ps : List (Int × Int)) (e : Ending) (w' : World) : Prop := ∃ v, e = .returned v ∧ OwP w' w.heap.size w'.heap.size v ps ∧ Below w.heap.size w w'

theorem szPairs_any (A : Option Addr) (n c : Nat) (l : Int) (w : World) (hn : n ≤ maxLen) (h0 : 0 ≤ l) (h1 : l ≤ 1048576) :
    Calls Try.prog 26 #[.slice A n c, .int .i64 l] w fun e w' => e = .returned (.int .i64 (szI n l)) ∧ w = w' := by
  unfold maxLen at hn
  by_cases h : (n : Int) ≤ l
  · go_enter Try.func26, Try.ntmps26
    go_wp2
    go_ret
    exact ⟨ret_i (szI_yes h).symm, rfl⟩
  · go_enter Try.func26, Try.ntmps26
    go_wp2
    go_ret
    exact ⟨ret_i (szI_no (by omega)).symm, rfl⟩

theorem toPair_any (w : World) (x y : Int) :
    Calls Try.prog 52 #[.agg #[.int .i64 x, .int .i64 y]] w fun e w' => e = .returned (.agg #[.int .i64 x, .int .i64 y]) ∧ Below w.heap.size w w' := by
  go_enter Try.func52, Try.ntmps52
  go_wp2
  refine bodyPost_ret (v := .agg #[.int .i64 x, .int .i64 y]) (by simp [results, Try.results52, go_sem]) rfl ⟨rfl, ?_⟩
  exact ((below_alloc _ _).alloc (by simp) _).alloc (by simp <;> omega) _

theorem Try.infoPair : (Try.prog.info? 68).map (fun i => (i.zero, i.size, i.bytes)) = some (some (.agg #[.int .i64 0, .int .i64 0]), 2, 16) := by kernel_rfl

set_option maxHeartbeats 400000 in
theorem toPairs_any (w : World) (B : Nat) (A : Option Addr) (n c : Nat) (ps : List (Int × Int)) (h : RdP w B A n c ps) (hn : n ≤ 1048576) :
    Calls Try.prog 28 #[.slice A n c] w (MadeP w ps) := by
  have h := h.top
  have l1 := h.le1; have l2 := h.le2
  obtain ⟨i0, hi, hz0, hz1, hz2⟩ := info_parts Try.infoPair
  go_enter Try.func28, Try.ntmps28
  go_wp2_with (at_make; refine wpList_make_full _ rfl _ _ _ rfl w.heap.size 68 i0 (.agg #[.int .i64 0, .int .i64 0]) 2 Try.underlying45 hi hz0 hz1 .i64 .i64 _ _ n rfl rfl rfl rfl (by rw [hz2]; omega) (by unfold maxLen; omega) (Nat.le_refl _) ?_)
  intro w1 hown hg
  have hb1 : Below w.heap.size w w1 := (Below.refl _ _).grown hg (Nat.le_refl _) (by simp)
  have hT : w1.ownsRow w.heap.size 68 2 (.slice (some ⟨w.heap.size, 0, none⟩) n n) n (pairVals (ps.take 0) ++ zpairs (n - 0)) := by
    have e : (madeCells #[Value.int .i64 0, .int .i64 0] (n * 2)).toList = pairVals (ps.take 0) ++ zpairs (n - 0) := made_zpairs n
    rwa [← e]
  clear hown hg
  go_wp2_with fail
  go_loopw [4] (fun i wr => ∃ (k : Nat), i = .int .i64 k ∧ k ≤ n ∧ wr.ownsRow w.heap.size 68 2 (.slice (some ⟨w.heap.size, 0, none⟩) n n) n (pairVals (ps.take k) ++ zpairs (n - k)) ∧ Below w.heap.size w wr) (fun i _ => n - (intOf i).toNat)
  case atStart => exact ⟨0, rfl, Nat.zero_le _, hT, hb1⟩
  case round =>
    obtain ⟨k, rfl, hk, hT, hb⟩ := hrel
    clear hb1
    have hz := (hT.lt w.heap.size rfl).2
    by_cases hlt : k < n
    · obtain ⟨b, o, x, y, rfl, hbb, hx, g1, g2⟩ := (h.below hb).at_ hlt
      go_wp2_with fail
      refine (toPair_any _ x y).mono ?_
      rintro e w2 ⟨rfl, hb2⟩
      have hz2 := hb2.size
      have own2 : w2.ownsRow w.heap.size 68 2 (.slice (some ⟨w.heap.size, 0, none⟩) n n) n (pairVals (ps.take k) ++ zpairs (n - k)) := own_keep hT fun q hq => hb2.block q (by have := hT.lt q hq; omega)
      obtain ⟨u0, p0⟩ := own_some own2 (j := k * 2) (by omega)
      obtain ⟨u1, p1⟩ := own_some own2 (j := k * 2 + 1) (by omega)
      have q0 := own2.frozenAt (k * 2)
      have q1 := own2.frozenAt (k * 2 + 1)
      have s3 := (((own2.stored (k * 2) (.int .i64 x)).1).stored (k * 2 + 1) (.int .i64 y)).1
      rw [fill2 ps k n x y hx hlt] at s3
      have S3 := Go.Lib.hid s3
      have hb3 := ((hb.trans (hb2.mono (by omega))).setCell (p := ⟨w.heap.size, k * 2, none⟩) (Nat.le_refl _) (.int .i64 x)).setCell (p := ⟨w.heap.size, k * 2 + 1, none⟩) (Nat.le_refl _) (.int .i64 y)
      clear s3 own2 hT
      go_wp2
      go_roundw
      case rel => exact ⟨k + 1, by go_num, by omega, S3.out, hb3⟩
      case measure => simp [intOf]; omega
    · obtain rfl : k = n := by omega
      obtain rfl : k = ps.length := by omega
      have hO : OwP wr w.heap.size wr.heap.size (.slice (some ⟨w.heap.size, 0, none⟩) ps.length ps.length) ps := by
        refine ⟨?_, fun q hq => by have := hT.lt q hq; omega⟩
        rwa [List.take_length, Nat.sub_self, zpairs, List.append_nil] at hT
      go_wp2
      go_ret
      exact ⟨_, rfl, hO, hb⟩

theorem eqPair_any (w : World) (x y : Int) :
    Calls Try.prog 55 #[.agg #[.int .i64 x, .int .i64 y], .agg #[.int .i64 x, .int .i64 y]] w fun e w' => e = .returned (.bool true) ∧ Below w.heap.size w w' := by
  go_enter Try.func55, Try.ntmps55
  go_wp2
  go_ret
  exact ⟨rfl, (below_alloc _ _).alloc (by simp) _⟩

set_option maxHeartbeats 400000 in
theorem eqPairs_any (w : World) (B B' : Nat) (A A' : Option Addr) (n n' c c' : Nat) (ps : List (Int × Int)) (h1 : RdP w B A n c ps) (h2 : RdP w B' A' n' c' ps) :
    Calls Try.prog 30 #[.slice A n c, .slice A' n' c'] w fun e w' => e = .returned (.bool true) ∧ Below w.heap.size w w' := by
  have h1 := h1.top
  have h2 := h2.top
  have hm : n ≤ maxLen := Nat.le_trans h1.cap h1.mx
  unfold maxLen at hm
  obtain rfl : n = n' := by have := h1.len; have := h2.len; omega
  go_enter Try.func30, Try.ntmps30
  go_wp2_with fail
  go_loopw [5] (fun i wr => ∃ k : Nat, i = .int .i64 k ∧ k ≤ n ∧ Below w.heap.size w wr) (fun i _ => n - (intOf i).toNat)
  case atStart => exact ⟨0, rfl, Nat.zero_le _, Below.refl _ _⟩
  case round =>
    obtain ⟨k, rfl, hk, hb⟩ := hrel
    by_cases hlt : k < n
    · obtain ⟨b, o, x, y, rfl, hbb, hx, g1, g2⟩ := (h1.below hb).at_ hlt
      obtain ⟨b', o', x', y', rfl, hbb', hx', g1', g2'⟩ := (h2.below hb).at_ hlt
      have e0 := hid_inj hx hx'
      simp only [Prod.mk.injEq] at e0
      obtain ⟨rfl, rfl⟩ := e0
      have i1 : (0 : Int) ≤ (k : Int) := by omega
      have i2 : (k : Int) < (n : Int) := by omega
      have hz := hb.size
      go_wp2_with fail
      go_region_held3 (fun w' => w'.cell? ⟨b, o + k * 2, none⟩ = some (.int .i64 x) ∧ w'.cell? ⟨b, o + k * 2 + 1, none⟩ = some (.int .i64 y) ∧
          w'.cell? ⟨b', o' + k * 2, none⟩ = some (.int .i64 x) ∧ w'.cell? ⟨b', o' + k * 2 + 1, none⟩ = some (.int .i64 y))
        (first | go_keep | (refine ⟨?_, ?_, ?_, ?_⟩ <;> (rw [hb2.cell (by simp; omega)]; assumption)))
        (first | (go_at_call 55; refine (eqPair_any _ x y).mono ?_; rintro e w2 ⟨rfl, hb2⟩))
      have hb3 := hb.drew.trans (hb2.mono hb.size)
      go_wp2
      go_roundw
      case rel => exact ⟨k + 1, by go_num, by omega, hb3⟩
      case measure => simp [intOf]; omega
    · go_wp2
      go_ret
      exact ⟨rfl, hb⟩

open Go.ChangeShapes Go.WideShapes Go.Deep in
set_option maxRecDepth 100000 in
theorem open_pairs_arg {H : Type} {enc : TypeId × Value → H} {w : World} {base : Nat} {held : Bool} {v : Value} {d : DataW H} {p : List MemPlace}
    (hv : Value.okWide Try.prog w .any base 42 v) (h : DataW.Trod enc Try.prog w 0 (fun _ => true) held 42 v d p) :
    ∃ A n c ps, v = .slice A n c ∧ RdP w w.heap.size A n c ps ∧ ∀ x ∈ ps, I64 x.1 ∧ I64 x.2 := by
  obtain ⟨a0, len, cap, rfl⟩ := okWide_slice Try.underlying42 hv
  obtain ⟨fuel, hf⟩ := h
  rcases open_slice_fields Try.underlying42 Try.underlying70 (by kernel_rfl) (by kernel_rfl) (by simpa [Value.cells] using hf) with hcs | ⟨a, len', cap', m, hcs, hl, hm, hmm, hi⟩
  · simp only [List.cons.injEq, and_true, Value.slice.injEq] at hcs
    obtain ⟨rfl, rfl, rfl⟩ := hcs
    exact ⟨none, 0, 0, [], rfl, ⟨rfl, Nat.le_refl _, zero_le_maxLen, fun h => absurd h (Nat.lt_irrefl _)⟩, fun x hx => absurd hx (by simp)⟩
  · simp only [List.cons.injEq, and_true, Value.slice.injEq] at hcs
    obtain ⟨rfl, rfl, rfl⟩ := hcs
    simp only [if_true] at hmm
    have hel : ∀ i, i < len → ∃ l : Int × Int, w.cell? (a.add (i * 2)) = some (.int .i64 l.1) ∧ w.cell? (a.add (i * 2 + 1)) = some (.int .i64 l.2) ∧ I64 l.1 ∧ I64 l.2 := by
      intro i hlt
      obtain ⟨n, hf⟩ := hi i (by omega)
      obtain ⟨v0, y0, c0, t0⟩ := hf 0 _ rfl
      obtain ⟨v1, y1, c1, t1⟩ := hf 1 _ rfl
      obtain ⟨z0, e0, _, hz0⟩ := DataW.trod_int Try.underlying3 t0
      obtain ⟨z1, e1, _, hz1⟩ := DataW.trod_int Try.underlying3 t1
      simp only [List.cons.injEq, and_true] at e0 e1
      subst e0 e1
      exact ⟨(z0, z1), c0, c1, i64_of_wf hz0, i64_of_wf hz1⟩
    obtain ⟨l, hlen, hp⟩ := list_of_ex len hel
    refine ⟨some a, len, cap, l, rfl, ⟨hlen.symm, hl, hm, fun hn => ?_⟩, fun c hc => ?_⟩
    · obtain ⟨b, o, s⟩ := a
      have hl0 : 0 < l.length := by omega
      have h0 := (hp 0 _ (List.getElem?_eq_getElem hl0)).1
      obtain rfl := spot_none (s := s) (by simpa [Addr.add] using h0)
      have h0' := h0
      rw [Addr.add_lit] at h0'
      refine ⟨b, o, rfl, lt_of_cell h0', fun j c hc => ?_⟩
      obtain ⟨k0, k1, _⟩ := hp j c hc
      rw [Addr.add_lit] at k0 k1
      exact ⟨k0, k1⟩
    · obtain ⟨i, hic⟩ := List.getElem?_of_mem hc
      obtain ⟨_, _, h1, h2⟩ := hp i c hic
      exact ⟨h1, h2⟩
end Go.Proofs.Ytbjagfljeibdeaa
