/- DecayWeight: the walk of the law. -/
import Derived.Test.YtliedcinkmbedaaDcyLives
import Derived.OpenShut
namespace Go.Proofs.Dcy
open Go.RowKit Go.Cic Go.ChangeMaps
set_option linter.unusedVariables false
set_option maxRecDepth 100000
theorem wt_bd (age half : Int) : 0 ≤ wt age half ∧ wt age half ≤ 1048576 := by
  unfold wt
  split
  · omega
  · split
    · omega
    · rename_i h1 h2
      generalize hq : (age / max half 1).toNat = q
      have hq2 : q ≤ 20 := by omega
      have := half_pow q hq2
      omega
theorem wt_max (age half : Int) : wt age half = wt age (max half 1) := by
  unfold wt
  have : max (max half 1) 1 = max half 1 := by omega
  rw [this]
theorem pow_mono {a b : Nat} (h : a ≤ b) (hb : b ≤ 20) : (1048576 / 2 ^ b : Int) ≤ 1048576 / 2 ^ a := by
  induction b with
  | zero => have : a = 0 := by omega
            subst this; exact Int.le_refl _
  | succ b ih =>
    rcases Nat.lt_or_ge a (b + 1) with h1 | h1
    · have h2 := ih (by omega) (by omega)
      have h3 := half_pow b (by omega)
      omega
    · have : a = b + 1 := by omega
      subst this; exact Int.le_refl _
theorem wt_half {age half : Int} (h0 : 0 ≤ age) (hh : 1 ≤ half) : wt (age + half) half = wt age half / 2 := by
  have hm : max half 1 = half := by omega
  have hq : (age + half) / half = age / half + 1 := by
    have := Int.add_mul_ediv_right age 1 (c := half) (by omega)
    simpa using this
  have hq0 : 0 ≤ age / half := Int.ediv_nonneg h0 (by omega)
  unfold wt
  have ha : ¬ age + half < 0 := by omega
  have ha' : ¬ age < 0 := by omega
  rw [hm, hq, if_neg ha, if_neg ha']
  generalize age / half = q at hq0
  obtain ⟨n, rfl⟩ := Int.eq_ofNat_of_zero_le hq0
  by_cases h1 : (20 : Int) < n
  · have h1' : (20 : Int) < n + 1 := by omega
    rw [if_pos h1', if_pos h1]; rfl
  · by_cases h2 : n = 20
    · subst h2; decide
    · have h1' : ¬ (20 : Int) < n + 1 := by omega
      rw [if_neg h1, if_neg h1']
      have := (half_pow n (by omega)).1
      have e : ((n : Int) + 1).toNat = n + 1 := by omega
      rw [e, Int.toNat_natCast, this]
theorem wt_succ {age half : Int} (h0 : 0 ≤ age) (hh : 1 ≤ half) : wt (age + 1) half ≤ wt age half := by
  have hm : max half 1 = half := by omega
  have hq0 : 0 ≤ age / half := Int.ediv_nonneg h0 (by omega)
  have hq : age / half ≤ (age + 1) / half := Int.ediv_le_ediv (by omega) (by omega)
  have hbd := (wt_bd age half).1
  by_cases h1 : 20 < (age + 1) / half
  · have : wt (age + 1) half = 0 := wt_old (by omega) (by rw [hm]) h1
    omega
  · unfold wt
    have ha : ¬ age + 1 < 0 := by omega
    have ha' : ¬ age < 0 := by omega
    have h2 : ¬ 20 < age / half := by omega
    rw [hm, if_neg ha, if_neg h1, if_neg ha', if_neg h2]
    exact pow_mono (by omega) (by omega)

theorem law_weight (age half : Int) (w : World) (h1 : -9223372036854775808 ≤ age) (h2 : age ≤ 9223372036854775807) (h3 : -9223372036854775808 ≤ half) (h4 : half ≤ 9223372036854775807) :
    Calls Try.prog 3 #[.int .i64 age, .int .i64 half] w fun e w' => e = .returned (.bool true) ∧ Below w.heap.size w w' := by
  have b1 := (wt_bd age half).1
  have b2 := (wt_bd age half).2
  by_cases ha : age < 0
  · have hz := Hid.mk' (wt_neg (half := half) ha)
    go_enter Try.func3, Try.ntmps3
    go_wp2_with (first
      | (go_at_call 10; refine (lives_any w).mono ?_; rintro e w1 ⟨rfl, hb1⟩)
      | (go_at_call 11; refine (weight_any _ _ _ (by omega) (by omega) (by omega) (by omega)).mono ?_; rintro e w' ⟨rfl, rfl⟩)
      | (go_at_call 12; refine (ref_weight _ _ _ (by omega) (by omega) (by omega) (by omega)).mono ?_; rintro e w' ⟨rfl, rfl⟩))
    all_goals first
      | exact absurd hz.out (by assumption)
      | (go_ret; exact ⟨rfl, hb1⟩)
  by_cases hc : 1152921504606846976 < age ∨ 1152921504606846976 < half
  · go_enter Try.func3, Try.ntmps3
    go_wp2_with (first
      | (go_at_call 10; refine (lives_any w).mono ?_; rintro e w1 ⟨rfl, hb1⟩)
      | (go_at_call 11; refine (weight_any _ _ _ (by omega) (by omega) (by omega) (by omega)).mono ?_; rintro e w' ⟨rfl, rfl⟩)
      | (go_at_call 12; refine (ref_weight _ _ _ (by omega) (by omega) (by omega) (by omega)).mono ?_; rintro e w' ⟨rfl, rfl⟩))
    all_goals (go_ret; exact ⟨rfl, hb1⟩)
  have hc1 : age ≤ 1152921504606846976 := by omega
  have hc2 : half ≤ 1152921504606846976 := by omega
  clear hc
  by_cases hh : half < 1
  · have hm : max half 1 = 1 := by omega
    have q1 : wt (age + 1) 1 = wt age half / 2 := by rw [wt_max age half, hm]; exact wt_half (by omega) (by omega)
    have q2 : wt age half / 2 ≤ wt age half := by omega
    clear hm
    go_enter Try.func3, Try.ntmps3
    go_wp2_with (first
      | (go_at_call 10; refine (lives_any w).mono ?_; rintro e w1 ⟨rfl, hb1⟩)
      | (go_at_call 11; refine (weight_any _ _ _ (by omega) (by omega) (by omega) (by omega)).mono ?_; rintro e w' ⟨rfl, rfl⟩)
      | (go_at_call 12; refine (ref_weight _ _ _ (by omega) (by omega) (by omega) (by omega)).mono ?_; rintro e w' ⟨rfl, rfl⟩))
    all_goals first
      | (go_ret; exact ⟨rfl, hb1⟩)
      | (exfalso; omega)
  · have q1 : wt (age + half) half = wt age half / 2 := wt_half (by omega) (by omega)
    have q2 : wt (age + 1) half ≤ wt age half := wt_succ (by omega) (by omega)
    go_enter Try.func3, Try.ntmps3
    go_wp2_with (first
      | (go_at_call 10; refine (lives_any w).mono ?_; rintro e w1 ⟨rfl, hb1⟩)
      | (go_at_call 11; refine (weight_any _ _ _ (by omega) (by omega) (by omega) (by omega)).mono ?_; rintro e w' ⟨rfl, rfl⟩)
      | (go_at_call 12; refine (ref_weight _ _ _ (by omega) (by omega) (by omega) (by omega)).mono ?_; rintro e w' ⟨rfl, rfl⟩))
    all_goals first
      | (go_ret; exact ⟨rfl, hb1⟩)
      | (exfalso; omega)
theorem wf_bd {a : Int} (h : (Lit.int .i64 a).wf = true) : -9223372036854775808 ≤ a ∧ a ≤ 9223372036854775807 := by
  exact bounds_i64 h
theorem row_weight (age half : Int) (w : World) (h1 : (Lit.int .i64 age).wf = true) (h2 : (Lit.int .i64 half).wf = true) :
    Calls Try.prog 3 #[.int .i64 age, .int .i64 half] w fun e w' => e = .returned (.bool true) ∧ Below w.heap.size w w' :=
  law_weight age half w (wf_bd h1).1 (wf_bd h1).2 (wf_bd h2).1 (wf_bd h2).2
end Go.Proofs.Dcy
