/- cache: what is gone through at all. -/
import Derived.Test.YtbdikfadnfjmoaaCacLives
namespace Go.Proofs.Cac
open Go.RowKit Go.Cic Go.Proofs.YtbdikfadnfjmoaaW.PrintWords Go.Proofs.Ytbdikfadnfjmoaa.PCachePlays
set_option linter.unusedVariables false
theorem rd29 {l : List S29} {i : Nat} {e : S29} (h : l[i]? = some e) : rd_T29 l (i : Int) = e := by
  unfold rd_T29; rw [List.getD_eq_getElem?_getD, Int.toNat_natCast, h]; rfl
theorem heavy_l1 (l : List S29) (i : Nat) (e : S29) (he : l[i]? = some e) (hl : l.length ≤ 60) (h3 : e.f3.length ≤ 10) : ∀ (d j k : Nat), e.f3.length - j = d → j ≤ e.f3.length → d < k →
    ciceronelaw29_heavy.l1 k l i j = some true ∨ ∃ k', k ≤ k' + d + 1 ∧ ciceronelaw29_heavy.l1 k l i j = ciceronelaw29_heavy.l0 k' l ((i + 1 : Nat) : Int)
  | 0, j, k, hd, hj, hk => by
    obtain ⟨k, rfl⟩ : ∃ m, k = m + 1 := ⟨k - 1, by omega⟩
    have hi := (List.getElem?_eq_some_iff.1 he).1
    refine .inr ⟨k, by omega, ?_⟩
    simp only [ciceronelaw29_heavy.l1]
    rw [if_pos (by omega), if_pos (by omega), rd29 he, if_neg (by omega), wrap_next hi (by omega)]
  | d + 1, j, k, hd, hj, hk => by
    obtain ⟨k, rfl⟩ : ∃ m, k = m + 1 := ⟨k - 1, by omega⟩
    have hi := (List.getElem?_eq_some_iff.1 he).1
    simp only [ciceronelaw29_heavy.l1]
    rw [if_pos (by omega), if_pos (by omega), rd29 he, if_pos (by omega), if_pos (by omega)]
    split
    · exact .inl rfl
    · rw [wrap_next (n := e.f3.length) (by omega) (by omega)]
      rcases heavy_l1 l i e he hl h3 d (j + 1) k (by omega) (by omega) (by omega) with h | ⟨k', h1, h2⟩
      · exact .inl h
      · exact .inr ⟨k', by omega, h2⟩
theorem heavy_l0 (l : List S29) (hl : l.length ≤ 60) : ∀ (d i k : Nat), l.length - i = d → i ≤ l.length → d * 20 < k → (∀ e ∈ l.take i, e.f3.length ≤ 10) → ∃ r, ciceronelaw29_heavy.l0 k l i = some r ∧ (r = false → ∀ e ∈ l, e.f3.length ≤ 10)
  | 0, i, k, hd, hi, hk, hn => by
    obtain ⟨k, rfl⟩ : ∃ m, k = m + 1 := ⟨k - 1, by omega⟩
    rw [List.take_of_length_le (by omega)] at hn
    refine ⟨false, ?_, fun _ => hn⟩
    simp only [ciceronelaw29_heavy.l0]
    rw [if_neg (by omega)]
  | d + 1, i, k, hd, hi, hk, hn => by
    obtain ⟨k, rfl⟩ : ∃ m, k = m + 1 := ⟨k - 1, by omega⟩
    have hlt : i < l.length := by omega
    have hy : l[i]? = some l[i] := List.getElem?_eq_getElem hlt
    generalize l[i] = e at hy
    have htrue : ∀ b, b = true → ∃ r, ciceronelaw29_heavy.j1 k l i b = some r ∧ (r = false → ∀ e ∈ l, e.f3.length ≤ 10) := fun b hb => by
      obtain ⟨k, rfl⟩ : ∃ m, k = m + 1 := ⟨k - 1, by omega⟩
      refine ⟨true, ?_, fun h => by cases h⟩
      simp only [ciceronelaw29_heavy.j1]; rw [if_pos hb]
    simp only [ciceronelaw29_heavy.l0]
    rw [if_pos (by omega), if_pos (by omega), rd29 hy]
    split
    · exact htrue _ rfl
    · split
      · exact htrue _ rfl
      · by_cases h10 : (e.f3.length : Int) > 10
        · exact htrue _ (decide_eq_true h10)
        · rw [decide_eq_false h10]
          obtain ⟨k, rfl⟩ : ∃ m, k = m + 1 := ⟨k - 1, by omega⟩
          simp only [ciceronelaw29_heavy.j1, Bool.false_eq_true, if_false]
          rcases heavy_l1 l i e hy hl (by omega) e.f3.length 0 k (by omega) (by omega) (by omega) with h | ⟨k', h1, h2⟩
          · exact ⟨true, h, fun h => by cases h⟩
          · have e0 : ((0 : Nat) : Int) = 0 := rfl
            rw [e0] at h2
            rw [h2]
            refine heavy_l0 l hl d (i + 1) k' (by omega) (by omega) (by omega) ?_
            intro x hx
            rw [List.take_add_one, hy] at hx
            rcases List.mem_append.1 hx with hx | hx
            · exact hn x hx
            · simp at hx; subst hx; omega
theorem heavy_f (l : List S29) : ∃ k r, ciceronelaw29_heavy.f k l = some r ∧ (r = false → l.length ≤ 60 ∧ ∀ e ∈ l, e.f3.length ≤ 10) := by
  unfold ciceronelaw29_heavy.f
  by_cases h : (l.length : Int) > 60
  · exact ⟨0, true, by rw [if_pos h], fun h => by cases h⟩
  · obtain ⟨r, h1, h2⟩ := heavy_l0 l (by omega) l.length 0 (l.length * 20 + 1) rfl (Nat.zero_le _) (by omega) (by simp)
    have e0 : ((0 : Nat) : Int) = 0 := rfl
    rw [e0] at h1
    exact ⟨_, r, by rw [if_neg h]; exact h1, fun hr => ⟨by omega, h2 hr⟩⟩
theorem drawn_below {w w' : World} (h : Drawn0 w w') : Below w.heap.size w w' := h.below
end Go.Proofs.Cac
