/- cache: the chapter's example; what is gone through. -/
import Derived.Test.YtbdikfadnfjmoaaCacSim
import Derived.Outline
namespace Go.Proofs.Cac
open Go.RowKit Go.Cic Go.Proofs.YtbdikfadnfjmoaaW.PrintWords Go.Proofs.Ytbdikfadnfjmoaa.PCachePlays
set_option linter.unusedVariables false
set_option maxRecDepth 100000
abbrev ta : ByteArray := ⟨#[97]⟩
abbrev tb : ByteArray := ⟨#[98]⟩
abbrev tc : ByteArray := ⟨#[99]⟩
abbrev t1 : ByteArray := ⟨#[49]⟩
abbrev t2 : ByteArray := ⟨#[50]⟩
abbrev t3 : ByteArray := ⟨#[51]⟩
theorem k_a : putK 2 [] ta = [ta] := by decide +kernel
theorem c_a : putC 2 [] [] ta t1 [] = [(ta, t1, [])] := by decide +kernel
theorem k_b : putK 2 [ta] tb = [ta, tb] := by decide +kernel
theorem c_b : putC 2 [ta] [(ta, t1, [])] tb t2 [] = [(ta, t1, []), (tb, t2, [])] := by decide +kernel
theorem k_g : [ta, tb].filter (nk ta) ++ [ta] = [tb, ta] := by decide +kernel
theorem k_c : putK 2 [tb, ta] tc = [ta, tc] := by decide +kernel
theorem c_c : putC 2 [tb, ta] [(ta, t1, []), (tb, t2, [])] tc t3 [] = [(ta, t1, []), (tc, t3, [])] := by decide +kernel
theorem g_a : AL.get ([(ta, t1, []), (tb, t2, [])] : Tab) ta = some (t1, []) := by decide +kernel
theorem g_b : AL.get ([(ta, t1, []), (tc, t3, [])] : Tab) tb = none := by decide +kernel
theorem nil_lies (w : World) : Lies w none (sv []) := Lies.nil _ _
set_option maxHeartbeats 1000000 in
theorem lives_any (w : World) : Calls Try.prog 7 #[] w fun e w' => e = .returned (.bool true) ∧ Below w.heap.size w w' := by
  have hnew := new_own 2 (Owns.nil w.heap.size w) (Nat.le_refl _)
  have hs : ∀ a ∈ [ta, tb, tc], a.size ≤ maxLen := by decide
  go_enter Try.func7, Try.ntmps7
  go_wp2_with fail
  refine hnew.mono ?_
  rintro e w1 ⟨p, rfl, h1, b1⟩
  have H1 := put_own ta t1 none 0 0 [] h1 b1.size (by simp) (by simp) (by decide) (nil_lies _) rfl (by omega) (by decide)
  rw [show szf 2 = 2 from rfl, k_a, c_a] at H1
  go_wp2_with fail
  refine H1.mono ?_
  rintro e w2 ⟨rfl, h2, b2⟩
  have b2 := b1.trans b2
  have H2 := put_own tb t2 none 0 0 [] h2 b2.size (by simp) (by decide) (by decide) (nil_lies _) rfl (by omega) (by decide)
  rw [k_b, c_b] at H2
  clear h1 H1
  go_wp2_with fail
  refine H2.mono ?_
  rintro e w3 ⟨rfl, h3, b3⟩
  have b3 := b2.trans b3
  have H3 := get_own ta h3 b3.size (by simp) (by decide)
  clear h2 H2
  go_wp2_with fail
  refine H3.mono ?_
  intro e w4 q4
  unfold Got at q4
  rw [g_a, k_g] at q4
  obtain ⟨rfl, h4, b4⟩ := q4
  have b4 := b3.trans b4
  have H4 := put_own tc t3 none 0 0 [] h4 b4.size (by simp) (by decide) (by decide) (nil_lies _) rfl (by omega) (by decide)
  rw [k_c, c_c] at H4
  clear h3 H3
  go_wp2_with fail
  refine H4.mono ?_
  rintro e w5 ⟨rfl, h5, b5⟩
  have b5 := b4.trans b5
  have H5 := get_own tb h5 b5.size (by simp) (by decide)
  clear h4 H4
  go_wp2_with fail
  refine H5.mono ?_
  intro e w6 q6
  unfold Got at q6
  rw [g_b] at q6
  obtain ⟨rfl, h6, b6⟩ := q6
  have b6 := b5.trans b6
  have H6 := len_own h6
  clear h5 H5
  go_wp2_with fail
  refine H6.mono ?_
  rintro e w7 ⟨rfl, rfl⟩
  go_wp2_with fail
  go_ret
  exact ⟨by simp, b6⟩
end Go.Proofs.Cac
