/- FrameRows: the plain law; the argument. -/
import Derived.Test.YtnjakbkecimjcaaFraLawApart
namespace Go.Proofs.Fra
open Go.RowKit Go.Cic Go.ChangeMaps
set_option linter.unusedVariables false
set_option maxRecDepth 100000
/-- Frames, one behind the other. -/
def rowsL (L : List (List UInt8)) : List UInt8 := (L.map sealL).flatten
def endN (L : List (List UInt8)) : Nat := (rowsL L).length
theorem rowsL_snoc (L : List (List UInt8)) (p : List UInt8) : rowsL (L ++ [p]) = rowsL L ++ sealL p := by simp [rowsL]
theorem rowsL_cons (L : List (List UInt8)) (p : List UInt8) : rowsL (p :: L) = sealL p ++ rowsL L := by simp [rowsL]
theorem endN_snoc (L : List (List UInt8)) (p : List UInt8) : endN (L ++ [p]) = endN L + (p.length + 10) := by unfold endN; rw [rowsL_snoc, List.length_append, sealL_len]
theorem endN_cons (L : List (List UInt8)) (p : List UInt8) : endN (p :: L) = p.length + 10 + endN L := by unfold endN; rw [rowsL_cons, List.length_append, sealL_len]
/-- What the law's loop over the ends has, behind k rows: how many are whole, and where these end. -/
def wantR (L : List (List UInt8)) (cut : Nat) : Nat → Nat
  | 0 => 0
  | k + 1 => if endN (L.take (k + 1)) ≤ cut then k + 1 else wantR L cut k
theorem wantR_le (L : List (List UInt8)) (cut k : Nat) : wantR L cut k ≤ k := by
  induction k with
  | zero => exact Nat.le_refl _
  | succ k ih => unfold wantR; split <;> omega
theorem wantR_cons (p : List UInt8) (L : List (List UInt8)) (cut k : Nat) : wantR (p :: L) cut (k + 1) = if p.length + 10 ≤ cut then wantR L (cut - (p.length + 10)) k + 1 else 0 := by
  induction k with
  | zero =>
    unfold wantR
    rw [List.take_succ_cons, List.take_zero, endN_cons]
    simp [wantR, endN, rowsL]
  | succ k ih =>
    rw [wantR, ih, List.take_succ_cons, endN_cons]
    by_cases h : p.length + 10 ≤ cut
    · rw [if_pos h, if_pos h, wantR]
      by_cases h2 : endN (List.take (k + 1) L) ≤ cut - (p.length + 10)
      · rw [if_pos h2, if_pos (by omega)]
      · rw [if_neg h2, if_neg (by omega)]
    · rw [if_neg h, if_neg h, if_neg (by omega)]
theorem rows_cut : ∀ (L : List (List UInt8)) (cut : Nat), (∀ p ∈ L, p.length ≤ 65536) → cut ≤ endN L →
    AllR ((rowsL L).take cut) 0 (L.take (wantR L cut L.length), endN (L.take (wantR L cut L.length)), if endN (L.take (wantR L cut L.length)) = cut then 0 else 1)
  | [], cut, _, hc => by
    have : cut = 0 := by simpa [endN, rowsL] using hc
    subst this
    exact AllR.done (by simp)
  | p :: L, cut, hp, hc => by
    have hp1 := hp p (by simp)
    rw [List.length_cons, wantR_cons]
    by_cases h : p.length + 10 ≤ cut
    · rw [if_pos h, List.take_succ_cons, endN_cons, rowsL_cons]
      have ih := rows_cut L (cut - (p.length + 10)) (fun q hq => hp q (by simp [hq])) (by rw [endN_cons] at hc; omega)
      have e : (sealL p ++ rowsL L).take cut = sealL p ++ (rowsL L).take (cut - (p.length + 10)) := by
        rw [List.take_append, List.take_of_length_le (by rw [sealL_len]; omega), sealL_len]
      rw [e]
      have := AllR.ahead hp1 ih
      have e2 : (if p.length + 10 + endN (List.take (wantR L (cut - (p.length + 10)) L.length) L) = cut then 0 else 1) = (if endN (List.take (wantR L (cut - (p.length + 10)) L.length) L) = cut - (p.length + 10) then 0 else 1) := by
        by_cases h2 : endN (List.take (wantR L (cut - (p.length + 10)) L.length) L) = cut - (p.length + 10)
        · rw [if_pos h2, if_pos (by omega)]
        · rw [if_neg h2, if_neg (by omega)]
      rw [e2]
      exact this
    · rw [if_neg h, List.take_zero, rowsL_cons]
      have e0 : endN ([] : List (List UInt8)) = 0 := rfl
      rw [e0]
      have e : (sealL p ++ rowsL L).take cut = (sealL p).take cut := by
        rw [List.take_append_of_le_length (by rw [sealL_len]; omega)]
      rw [e]
      by_cases h0 : cut = 0
      · subst h0
        rw [if_pos rfl]
        exact AllR.done (by simp)
      · rw [if_neg (by omega)]
        refine AllR.stop (n := 0) (q := []) (by rw [List.length_take, sealL_len]; omega) ?_ (by omega)
        rw [List.drop_zero]
        exact open_cut hp1 (by omega)
theorem co22 : Try.prog.cellsOf 22 = 1 := by kernel_rfl
theorem rows_open {H : Type} {enc : TypeId × Value → H} {w : World} {base : Nat} {spare : Nat → Bool} {held : Bool} {a : Option Addr} {len cap : Nat} {d : DataW H} {ps : List MemPlace}
    (h : DataW.Trod enc Try.prog w base spare held 37 (.slice a len cap) d ps) : ∃ L : List (List UInt8), L.length = len ∧ len ≤ maxLen ∧ RowsRead w a L := by
  obtain ⟨fuel, hf⟩ := h
  rcases Go.Deep.open_slice1 Try.underlying37 co22 hf with ⟨h1, _⟩ | ⟨a', len', cap', m, n, V, D, Pl, h1, hb, hl, hm, hmm, _, hx⟩
  · simp [Value.cells] at h1
    obtain ⟨rfl, rfl, rfl⟩ := h1
    exact ⟨[], rfl, Nat.zero_le _, [], rfl, Lies.nil _ _, fun i q hq => by simp at hq⟩
  · simp [Value.cells] at h1
    obtain ⟨rfl, rfl, rfl⟩ := h1
    have hlm : len ≤ m := by rw [hmm]; split <;> omega
    have key : ∀ i, i < len → ∃ q : List UInt8, ∃ (a : Option Addr) (c : Nat), V i = Value.slice a q.length c ∧ Lies w a (bv q) := by
      intro i hi
      obtain ⟨_, h3⟩ := hx i (by omega)
      rcases Go.Deep.open_slice Try.underlying22 h3 with ⟨h4, _⟩ | ⟨a2, len2, cap2, _, _, _, _, h4, _⟩
      · have h4 : V i = .slice none 0 0 := by simpa using h4
        exact ⟨[], none, 0, h4, Lies.nil _ _⟩
      · have h4 : V i = .slice (some a2) len2 cap2 := by simpa using h4
        rw [h4] at h3
        obtain ⟨q, hq1, _, hq3⟩ := SlAt.open (r := rdU8) (by decide) Try.underlying22 (a := some a2) (len := len2) (cap := cap2) (d := D i) (ps := Pl i) (h := (⟨n, h3⟩ : DataW.Trod enc Try.prog w base spare held 22 (.slice (some a2) len2 cap2) (D i) (Pl i)))
        exact ⟨q, some a2, cap2, by rw [h4, hq1], lies_of hq3⟩
    have hL : ∀ k, k ≤ len → ∃ L : List (List UInt8), L.length = k ∧ ∀ i q, L[i]? = some q → ∃ (a : Option Addr) (c : Nat), V i = Value.slice a q.length c ∧ Lies w a (bv q) := by
      intro k
      induction k with
      | zero => intro _; exact ⟨[], rfl, by simp⟩
      | succ k ih =>
        intro hk
        obtain ⟨L, l1, l2⟩ := ih (by omega)
        obtain ⟨q, hq⟩ := key k (by omega)
        refine ⟨L ++ [q], by simp [l1], fun i q' hi => ?_⟩
        rcases Nat.lt_or_ge i L.length with h | h
        · rw [List.getElem?_append_left h] at hi
          exact l2 i q' hi
        · have hi' : i < (L ++ [q]).length := (List.getElem?_eq_some_iff.1 hi).1
          have : i = L.length := by simp at hi'; omega
          subst this
          simp at hi
          subst hi
          rw [l1]; exact hq
    obtain ⟨L, l1, l2⟩ := hL len (Nat.le_refl _)
    have hspot : ∀ q, (w.cell? q).isSome → q.spot = none ∧ q.block < w.heap.size := by
      intro q hq
      unfold World.cell? at hq
      split at hq
      · rename_i h6
        refine ⟨?_, (Array.getElem?_eq_some_iff.1 h6).1⟩
        cases hs : q.spot with
        | none => rfl
        | some _ => rw [hs] at hq; simp at hq
      · simp at hq
    refine ⟨L, l1, by omega, (List.range len).map V, by simp [l1], ?_, ?_⟩
    · intro j u hj
      have hjl : j < len := by have := (List.getElem?_eq_some_iff.1 hj).1; simpa using this
      rw [List.getElem?_map, List.getElem?_range hjl] at hj
      simp at hj
      subst hj
      have h0 := (hx 0 (by omega)).1
      obtain ⟨b, o, sp⟩ := a'
      have h8 := hspot _ (by rw [h0]; rfl)
      have e0 : (⟨b, o, sp⟩ : Addr).add 0 = ⟨b, o, sp⟩ := by simp [Addr.add]
      rw [e0] at h8
      obtain ⟨h9, h10⟩ := h8
      simp only at h9 h10
      subst h9
      have h11 := (hx j (by omega)).1
      rw [add_one'] at h11
      exact ⟨b, o, rfl, h10, h11⟩
    · intro i q hq
      obtain ⟨a, c, h2, h3⟩ := l2 i q hq
      have hi : i < len := by have := (List.getElem?_eq_some_iff.1 hq).1; omega
      refine ⟨a, c, ?_, h3⟩
      rw [List.getElem?_map, List.getElem?_range hi]
      simp [h2]
end Go.Proofs.Fra
