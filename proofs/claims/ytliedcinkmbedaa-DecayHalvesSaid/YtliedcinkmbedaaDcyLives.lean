/- decay: the chapter's example; the document's Weight. -/
import Derived.Test.YtliedcinkmbedaaDcyAdd
namespace Go.Proofs.Dcy
open Go.RowKit Go.Cic Go.ChangeMaps
set_option linter.unusedVariables false
set_option maxRecDepth 100000
abbrev sA : ByteArray := { data := #[97] }
def cA : Content := [(sA, [(0, 8)])]

theorem live_add {B p : Nat} {l : List Asrt} {w : World} (hO : Owns B (DecA p 10 0 [] :: l) w) (hB : B ≤ w.heap.size) :
    Calls Try.prog 15 #[.pointer (some ⟨p, 0, none⟩), .string { data := #[97] }, .int .i64 0, .int .i64 8] w fun e w' => e = .returned (.bool true) ∧ Owns B (DecA p 10 1 cA :: l) w' ∧ Below B w w' := by
  refine (add_own { data := #[97] } 0 8 hO hB (by decide)).mono ?_
  rintro e w' ⟨rfl, h1, h2⟩
  have hm : mayAdd { data := #[97] } 0 8 ∧ (0 : Int) < 1048576 := by decide
  have hc : putC [] { data := #[97] } 0 8 = cA := by decide +kernel
  rw [if_pos hm, if_pos hm, hc] at h1
  exact ⟨by simp [hm], h1, h2⟩
theorem live_at {B p : Nat} {l : List Asrt} {w : World} (now v : Int) (hO : Owns B (DecA p 10 1 cA :: l) w) (hB : B ≤ w.heap.size) (hnow : 0 ≤ now) (hnow2 : now ≤ 9223372036854775807) (hv : wrap64 (8 * wt now 10) = v) :
    Calls Try.prog 16 #[.pointer (some ⟨p, 0, none⟩), .string { data := #[97] }, .int .i64 now] w fun e w' => e = .returned (.int .i64 v) ∧ Owns B (DecA p 10 1 cA :: l) w' ∧ Below B w w' := by
  refine (at_own { data := #[97] } now hO hB (show (1 : Nat) ≤ maxLen by decide) hnow2 (by decide) (by decide) (by decide)).mono ?_
  rintro e w' ⟨rfl, h1, h2⟩
  refine ⟨?_, h1, h2⟩
  rw [if_neg (by omega)]
  have : AL.get cA { data := #[97] } = some [(0, 8)] := by decide
  rw [this, ← hv]
  simp [dsum]
theorem lives_any (w : World) : Calls Try.prog 10 #[] w fun e w' => e = .returned (.bool true) ∧ Below w.heap.size w w' := by
  have hO := Owns.nil w.heap.size w
  have e1 := Hid.mk' (show hf 10 = 10 by decide)
  go_enter Try.func10, Try.ntmps10
  go_wp2_with (go_at_call 14; refine (new_own 10 hO (Nat.le_refl _)).mono ?_; rintro e w1 ⟨p, rfl, hO1, hB1⟩; rw [e1.out] at hO1; have hs1 := hB1.size)
  refine (live_add hO1 hs1).mono ?_
  rintro e w2 ⟨rfl, hO2, hB2⟩
  have hs2 := Nat.le_trans hs1 hB2.size
  go_wp2_with fail
  refine (live_at 9 8388608 hO2 hs2 (by decide) (by decide) (by decide +kernel)).mono ?_
  rintro e w3 ⟨rfl, hO3, hB3⟩
  have hs3 := Nat.le_trans hs2 hB3.size
  go_wp2_with fail
  refine (live_at 10 4194304 hO3 hs3 (by decide) (by decide) (by decide +kernel)).mono ?_
  rintro e w4 ⟨rfl, hO4, hB4⟩
  have hs4 := Nat.le_trans hs3 hB4.size
  go_wp2_with fail
  refine (live_at 210 0 hO4 hs4 (by decide) (by decide) (by decide +kernel)).mono ?_
  rintro e w5 ⟨rfl, hO5, hB5⟩
  go_wp2_with fail
  go_ret
  exact ⟨rfl, hB1.trans (hB2.trans (hB3.trans (hB4.trans hB5)))⟩

/-- The document's weight is the program's. -/
theorem wt_end0 {age half : Int} {k : Nat} (h0 : 0 ≤ age) (hh : 1 ≤ half) (hlt : age < half) (hk : k ≤ 21) : wt (age + k * half) half = 1048576 / 2 ^ k := by
  have hq : (age + k * half) / max half 1 = k := by
    have : max half 1 = half := by omega
    rw [this, Int.add_mul_ediv_right _ _ (by omega), Int.ediv_eq_zero_of_lt h0 hlt]; simp
  have hp : 0 ≤ (k : Int) * half := Int.mul_nonneg (by omega) (by omega)
  unfold wt
  rw [if_neg (by omega), hq]
  by_cases h : 20 < (k : Int)
  · have : k = 21 := by omega
    subst this; rw [if_pos h]; decide
  · rw [if_neg h]; simp
theorem wt_end1 {age half : Int} (h0 : 0 ≤ age) (hh : 1 ≤ half) : wt (age + (21 : Nat) * half) half = 0 := by
  unfold wt
  have h2 : (21 : Int) ≤ (age + (21 : Nat) * half) / max half 1 := by
    have : max half 1 = half := by omega
    rw [this, Int.add_mul_ediv_right _ _ (by omega)]
    have := Int.ediv_nonneg (a := age) (b := half) (by omega) (by omega)
    omega
  rw [if_neg (by omega), if_pos (by omega)]
theorem half_pow (k : Nat) (hk : k ≤ 20) : (1048576 / 2 ^ k : Int) / 2 = 1048576 / 2 ^ (k + 1) ∧ (0 : Int) < 1048576 / 2 ^ k ∧ (1048576 / 2 ^ k : Int) ≤ 1048576 := by
  have : k = 0 ∨ k = 1 ∨ k = 2 ∨ k = 3 ∨ k = 4 ∨ k = 5 ∨ k = 6 ∨ k = 7 ∨ k = 8 ∨ k = 9 ∨ k = 10 ∨ k = 11 ∨ k = 12 ∨ k = 13 ∨ k = 14 ∨ k = 15 ∨ k = 16 ∨ k = 17 ∨ k = 18 ∨ k = 19 ∨ k = 20 := by omega
  rcases this with rfl | rfl | rfl | rfl | rfl | rfl | rfl | rfl | rfl | rfl | rfl | rfl | rfl | rfl | rfl | rfl | rfl | rfl | rfl | rfl | rfl <;> decide
def pw (k : Nat) : Int := 1048576 / 2 ^ k
/-- The loop's state: k halves have gone. -/
def RW (age half : Int) (a v : Value) : Prop := ∃ (k : Nat) (r : Int), k ≤ 21 ∧ 0 ≤ r ∧ r ≤ age ∧ r + k * half = age ∧ a = .int .i64 r ∧ v = .int .i64 (pw k)
theorem ref_weight (age half : Int) (w : World) (h1 : -9223372036854775808 ≤ age) (h2 : age ≤ 9223372036854775807) (h3 : -9223372036854775808 ≤ half) (h4 : half ≤ 9223372036854775807) :
    Calls Try.prog 12 #[.int .i64 age, .int .i64 half] w fun e w' => e = .returned (.int .i64 (wt age half)) ∧ w = w' := by
  by_cases ha : age < 0
  · have H := Hid.mk' (wt_neg (half := half) ha)
    go_enter Try.func12, Try.ntmps12
    go_wp2
    all_goals (go_ret; exact ⟨ret_int H.out.symm, rfl⟩)
  by_cases hh : half < 1
  · have hwt : Hid (wt age half = wt age 1) := by
      show _ = _
      unfold wt
      have h5 : max half 1 = 1 := by omega
      have h6 : max (1 : Int) 1 = 1 := by omega
      rw [h5, h6]
    go_enter Try.func12, Try.ntmps12
    go_wp2
    go_loop [0, 5] (RW age 1) (fun _ v => (intOf v).toNat)
    case atStart => exact ⟨0, age, by omega, by omega, by omega, by simp, rfl, rfl⟩
    case round =>
      obtain ⟨k, r, k1, k2, k3, k4, rfl, rfl⟩ := hrel
      have k4 := Hid.mk' k4
      by_cases hlt : r < 1
      · have hv := Hid.mk' (wt_end0 (half := 1) k2 (by omega) hlt k1)
        have hp := (half_pow k)
        go_wp2
        all_goals
          go_ret
          refine ⟨ret_int ?_, rfl⟩
          rw [hwt.out, ← k4.out, hv.out]; rfl
      · by_cases hk : k = 21
        · subst hk
          have hp0 : pw 21 ≤ 0 := by decide
          have hv := Hid.mk' (wt_end1 (age := r) (half := 1) k2 (by omega))
          go_wp2
          all_goals
            go_ret
            refine ⟨ret_int ?_, rfl⟩
            rw [hwt.out, ← k4.out, hv.out]; decide
        · obtain ⟨q1, q2, q3⟩ := half_pow k (by omega)
          have hp0 : 0 < pw k := q2
          have hp1 : pw k ≤ 1048576 := q3
          have hp2 := Hid.mk' (show pw k / 2 = pw (k + 1) from q1)
          clear q1 q2 q3
          go_wp2
          go_round
          case rel => exact ⟨k + 1, r - 1, by omega, by omega, by omega, by rw [← k4.out]; push_cast; rw [Int.add_mul]; omega, rfl, by rw [hp2.out]⟩
          case measure => simp [intOf]; omega
  · go_enter Try.func12, Try.ntmps12
    go_wp2
    go_loop [0, 5] (RW age half) (fun _ v => (intOf v).toNat)
    case atStart => exact ⟨0, age, by omega, by omega, by omega, by simp, rfl, rfl⟩
    case round =>
      obtain ⟨k, r, k1, k2, k3, k4, rfl, rfl⟩ := hrel
      have k4 := Hid.mk' k4
      by_cases hlt : r < half
      · have hv := Hid.mk' (wt_end0 (half := half) k2 (by omega) hlt k1)
        have hp := (half_pow k)
        go_wp2
        all_goals
          go_ret
          refine ⟨ret_int ?_, rfl⟩
          rw [← k4.out, hv.out]; rfl
      · by_cases hk : k = 21
        · subst hk
          have hp0 : pw 21 ≤ 0 := by decide
          have hv := Hid.mk' (wt_end1 (age := r) (half := half) k2 (by omega))
          go_wp2
          all_goals
            go_ret
            refine ⟨ret_int ?_, rfl⟩
            rw [← k4.out, hv.out]; decide
        · obtain ⟨q1, q2, q3⟩ := half_pow k (by omega)
          have hp0 : 0 < pw k := q2
          have hp1 : pw k ≤ 1048576 := q3
          have hp2 := Hid.mk' (show pw k / 2 = pw (k + 1) from q1)
          clear q1 q2 q3
          go_wp2
          go_round
          case rel => exact ⟨k + 1, r - half, by omega, by omega, by omega, by rw [← k4.out]; push_cast; rw [Int.add_mul]; omega, rfl, by rw [hp2.out]⟩
          case measure => simp [intOf]; omega
end Go.Proofs.Dcy
