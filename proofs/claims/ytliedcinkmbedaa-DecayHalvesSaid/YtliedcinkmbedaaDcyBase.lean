/- decay: Weight, New, put walked. -/
import Derived.Test.YtliedcinkmbedaaProg
import Derived.Test.YtliedcinkmbedaaCicRange
import Derived.LoopTactic
import Derived.Outline
namespace Go.Proofs.Dcy
open Go.RowKit Go.Cic Go.ChangeMaps
set_option linter.unusedVariables false

/-- What a weight is. -/
def wt (age half : Int) : Int := if age < 0 then 0 else if 20 < age / (max half 1) then 0 else 1048576 / 2 ^ (age / (max half 1)).toNat
theorem wt_neg {age half : Int} (h : age < 0) : wt age half = 0 := by unfold wt; rw [if_pos h]
theorem wt_old {age half q : Int} (h : ¬ age < 0) (hq : age / (max half 1) = q) (hb : 20 < q) : wt age half = 0 := by unfold wt; rw [if_neg h, hq, if_pos hb]
theorem wt_mid {age half q : Int} (h : ¬ age < 0) (hq : age / (max half 1) = q) (hb : ¬ 20 < q) : wt age half = 1048576 / 2 ^ q.toNat := by
  unfold wt; rw [if_neg h, hq, if_neg hb]
theorem min64 {q : Int} (h : ¬ 20 < q) : min q.toNat 64 = q.toNat := by omega

theorem ret_int {k : IntKind} {a b : Int} (h : a = b) : Ending.returned (.int k a) = .returned (.int k b) := by rw [h]
theorem weight_any (age half : Int) (w : World) (h1 : -9223372036854775808 ≤ age) (h2 : age ≤ 9223372036854775807) (h3 : -9223372036854775808 ≤ half) (h4 : half ≤ 9223372036854775807) :
    Calls Try.prog 11 #[.int .i64 age, .int .i64 half] w fun e w' => e = .returned (.int .i64 (wt age half)) ∧ w = w' := by
  by_cases ha : age < 0
  · have H := Hid.mk' (wt_neg (half := half) ha)
    by_cases hh : half < 1
    all_goals
      go_enter Try.func11, Try.ntmps11
      go_wp2
      go_ret; exact ⟨ret_int H.out.symm, rfl⟩
  by_cases hh : half < 1
  · have hm : age / (max half 1) = age := by
      have : max half 1 = 1 := by omega
      rw [this]; simp
    by_cases hb : 20 < age
    · have H := Hid.mk' (wt_old ha hm hb)
      clear hm
      go_enter Try.func11, Try.ntmps11
      go_wp2
      go_ret; exact ⟨ret_int H.out.symm, rfl⟩
    · have H := Hid.mk' (wt_mid ha hm hb)
      have H2 := Hid.mk' (min64 hb)
      clear hm
      go_enter Try.func11, Try.ntmps11
      go_wp2
      go_ret; exact ⟨ret_int (by first | exact H.out.symm | (rw [H2.out]; exact H.out.symm)), rfl⟩
  · have hm : age / (max half 1) = age / half := by
      have : max half 1 = half := by omega
      rw [this]
    have hq : 0 ≤ age / half := Int.ediv_nonneg (by omega) (by omega)
    by_cases hb : 20 < age / half
    · have H := Hid.mk' (wt_old ha hm hb)
      clear hm
      go_enter Try.func11, Try.ntmps11
      go_wp2
      go_ret; exact ⟨ret_int H.out.symm, rfl⟩
    · have H := Hid.mk' (wt_mid ha hm hb)
      have H2 := Hid.mk' (min64 hb)
      clear hm
      go_enter Try.func11, Try.ntmps11
      go_wp2
      go_ret; exact ⟨ret_int (by first | exact H.out.symm | (rw [H2.out]; exact H.out.symm)), rfl⟩
/-- The half that is kept. -/
def hf (half : Int) : Int := min (max half 1) 1099511627776
theorem new_any (half : Int) (w : World) : Calls Try.prog 14 #[.int .i64 half] w fun e w' => e = .returned (.pointer (some ⟨w.heap.size + 1, 0, none⟩)) ∧
    w' = (w.alloc (.map #[] 0)).alloc (.cells #[.int .i64 (hf half), .map (some w.heap.size), .int .i64 0] 59) := by
  have hmm := @run_makeMap Try.prog
  go_enter Try.func14, Try.ntmps14
  go_wp2
  all_goals
    refine bodyPost_ret (results_tmp rfl _ _ _) rfl ⟨rfl, ?_⟩
    congr 5
    unfold hf; omega
end Go.Proofs.Dcy
