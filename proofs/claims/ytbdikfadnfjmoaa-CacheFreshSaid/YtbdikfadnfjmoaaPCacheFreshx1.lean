-- PRINTED BY print.sh 35421559b90ae4d0a3588c463048766b98c2df88dd9212a6774a882060cdf62d: not written by this session
import Derived.Test.YtbdikfadnfjmoaaPCacheFreshx0
namespace Go.Proofs.Ytbdikfadnfjmoaa.PCacheFresh
open Go.RowKit Go.Proofs.YtbdikfadnfjmoaaW.PrintWords Go.Proofs.YtbdikfadnfjmoaaW.PrintLast Go.Proofs.YtbdikfadnfjmoaaW.PrintMore
attribute [local go_sem] max2_int min2_int max_two min_two max_three min_three max_four min_four   -- for this text's walks alone
set_option linter.unusedVariables false
set_option linter.unusedSimpArgs false

-- NOT PRINTED: function 9 (cache_New)

-- NOT PRINTED: function 25 (slices_Clone_string_string)

-- NOT PRINTED: function 42 (slices_IndexFunc_string_string)

-- NOT PRINTED: function 49 (slices_DeleteFunc_string_string)

-- NOT PRINTED: function 40 (cache_Cache_out)

-- NOT PRINTED: function 26 (cache_Cache_used)

-- NOT PRINTED: function 27 (cache_Cache_drop)

-- NOT PRINTED: function 10 (cache_Cache_Put)

-- NOT PRINTED: function 12 (cache_Cache_Get)

-- NOT PRINTED: function 19 (cache_Cache_Len)

-- NOT PRINTED: function 7 (ciceronelaw29_lives)

/-! ### ciceronelaw29_heavy: function 8 -/
mutual
def ciceronelaw29_heavy.l0 : Nat → List (S29) → Int → Option (Bool)
  | 0, _, _ => none
  | k + 1, x0, x3 => if x3 < (x0.length : Int) then (if 0 ≤ x3 then (if (((rd_T29 x0 x3).f1).size : Int) > 100 then (ciceronelaw29_heavy.j1 k x0 x3 true) else (if (((rd_T29 x0 x3).f2).size : Int) > 100 then (ciceronelaw29_heavy.j1 k x0 x3 true) else (ciceronelaw29_heavy.j1 k x0 x3 (decide ((((rd_T29 x0 x3).f3).length : Int) > 10))))) else (none)) else (some false)
def ciceronelaw29_heavy.j1 : Nat → List (S29) → Int → Bool → Option (Bool)
  | 0, _, _, _ => none
  | k + 1, x0, x3, x38 => if x38 = true then (some true) else (ciceronelaw29_heavy.l1 k x0 x3 0)
def ciceronelaw29_heavy.l1 : Nat → List (S29) → Int → Int → Option (Bool)
  | 0, _, _, _ => none
  | k + 1, x0, x3, x4 => if 0 ≤ x3 then (if x3 < (x0.length : Int) then (if x4 < (((rd_T29 x0 x3).f3).length : Int) then (if 0 ≤ x4 then (if ((rdOf ByteArray.empty ((rd_T29 x0 x3).f3) x4).size : Int) > 100 then (some true) else (ciceronelaw29_heavy.l1 k x0 x3 (wrap64 (x4 + 1)))) else (none)) else (ciceronelaw29_heavy.l0 k x0 (wrap64 (x3 + 1)))) else (none)) else (none)
end
def ciceronelaw29_heavy.f (k : Nat) (l0 : List (S29)) : Option (Bool) := if (l0.length : Int) > 60 then (some true) else (ciceronelaw29_heavy.l0 k l0 0)
theorem ciceronelaw29_heavy.mono_l : ∀ k, (∀ y0 y1, LeO (ciceronelaw29_heavy.l0 k y0 y1) (ciceronelaw29_heavy.l0 (k + 1) y0 y1)) ∧ (∀ y0 y1 y2, LeO (ciceronelaw29_heavy.j1 k y0 y1 y2) (ciceronelaw29_heavy.j1 (k + 1) y0 y1 y2)) ∧ (∀ y0 y1 y2, LeO (ciceronelaw29_heavy.l1 k y0 y1 y2) (ciceronelaw29_heavy.l1 (k + 1) y0 y1 y2))
  | 0 => ⟨fun _ _ r h => by simp [ciceronelaw29_heavy.l0] at h, fun _ _ _ r h => by simp [ciceronelaw29_heavy.j1] at h, fun _ _ _ r h => by simp [ciceronelaw29_heavy.l1] at h⟩
  | k + 1 => by
    obtain ⟨ih0, ih1, ih2⟩ := ciceronelaw29_heavy.mono_l k
    refine ⟨?_, ?_, ?_⟩
    · intro y0 y1
      unfold ciceronelaw29_heavy.l0
      repeat' first
      | (with_reducible exact ih0 _ _)
      | (with_reducible exact ih1 _ _ _)
      | (with_reducible exact ih2 _ _ _)
      | (with_reducible exact LeO.refl _)
      | (with_reducible exact LeO.none _)
      | (with_reducible refine LeO.ite ?_ ?_)
      | (with_reducible refine LeO.bind ?_ (fun _ => ?_))
      | exact ih0 _ _
      | exact ih1 _ _ _
      | exact ih2 _ _ _
      | exact LeO.none _
      | refine LeO.ite ?_ ?_
      | refine LeO.bind ?_ (fun _ => ?_)
    · intro y0 y1 y2
      unfold ciceronelaw29_heavy.j1
      repeat' first
      | (with_reducible exact ih0 _ _)
      | (with_reducible exact ih1 _ _ _)
      | (with_reducible exact ih2 _ _ _)
      | (with_reducible exact LeO.refl _)
      | (with_reducible exact LeO.none _)
      | (with_reducible refine LeO.ite ?_ ?_)
      | (with_reducible refine LeO.bind ?_ (fun _ => ?_))
      | exact ih0 _ _
      | exact ih1 _ _ _
      | exact ih2 _ _ _
      | exact LeO.none _
      | refine LeO.ite ?_ ?_
      | refine LeO.bind ?_ (fun _ => ?_)
    · intro y0 y1 y2
      unfold ciceronelaw29_heavy.l1
      repeat' first
      | (with_reducible exact ih0 _ _)
      | (with_reducible exact ih1 _ _ _)
      | (with_reducible exact ih2 _ _ _)
      | (with_reducible exact LeO.refl _)
      | (with_reducible exact LeO.none _)
      | (with_reducible refine LeO.ite ?_ ?_)
      | (with_reducible refine LeO.bind ?_ (fun _ => ?_))
      | exact ih0 _ _
      | exact ih1 _ _ _
      | exact ih2 _ _ _
      | exact LeO.none _
      | refine LeO.ite ?_ ?_
      | refine LeO.bind ?_ (fun _ => ?_)
theorem ciceronelaw29_heavy.mono : ∀ a0 k, LeO (ciceronelaw29_heavy.f k a0) (ciceronelaw29_heavy.f (k + 1) a0) := by
  intro a0 k
  obtain ⟨ih0, ih1, ih2⟩ := ciceronelaw29_heavy.mono_l k
  unfold ciceronelaw29_heavy.f
  repeat' first
      | (with_reducible exact ih0 _ _)
      | (with_reducible exact ih1 _ _ _)
      | (with_reducible exact ih2 _ _ _)
      | (with_reducible exact LeO.refl _)
      | (with_reducible exact LeO.none _)
      | (with_reducible refine LeO.ite ?_ ?_)
      | (with_reducible refine LeO.bind ?_ (fun _ => ?_))
      | exact ih0 _ _
      | exact ih1 _ _ _
      | exact ih2 _ _ _
      | exact LeO.none _
      | refine LeO.ite ?_ ?_
      | refine LeO.bind ?_ (fun _ => ?_)
set_option maxHeartbeats 8000000 in
set_option maxRecDepth 100000 in
theorem ciceronelaw29_heavy.calls (k : Nat) (A0 : Option Addr) (c0 : Nat) (l0 : List (S29)) (r : Bool) (w : World) (hr0 : Kd.C k29 w A0 l0.length l0) (hc0 : l0.length ≤ c0) (h : ciceronelaw29_heavy.f k l0 = some r) :
    Calls Try.prog 8 #[.slice A0 l0.length c0] w fun e w' => e = .returned (.bool r) ∧ Drawn0 w w' := by
  have HR0 := Aside0.mk hr0
  have HC0 := Aside0.mk hc0
  clear hr0 hc0
  have H : (if (l0.length : Int) > 60 then (some true) else (ciceronelaw29_heavy.l0 k l0 0)) = some r := h
  clear h
  by_cases c2 : (l0.length : Int) > 60
  · rw [if_pos c2] at H
    have c2b0 : decide (60 < (l0.length : Int)) = true := decide_eq_true c2
    have c2b1 : decide (60 < l0.length) = true := decide_eq_true (by omega)
    clear c2
    obtain rfl := Option.some.inj H
    go_enter Try.func8, Try.ntmps8
    go_wp2
    go_ret
    exact ⟨by first | rfl | (simp; done) | (simp [*]; done), by repeat (first | exact Drawn0.refl _ | apply Drawn0.step)⟩
  · rw [if_neg c2] at H
    have c2b0 : decide (60 < (l0.length : Int)) = false := decide_eq_false c2
    have c2b1 : decide (60 < l0.length) = false := decide_eq_false (by omega)
    clear c2
    have H' := Aside0.mk H
    clear H
    go_enter Try.func8, Try.ntmps8
    go_wp2
    go_loopg [3] k (fun kq v3 w' => ∃ (x3_1 : Int), v3 = .int .i64 x3_1 ∧ Aside0 (ciceronelaw29_heavy.l0 kq l0 x3_1 = some r) ∧ Aside0 (kq ≤ k) ∧ Drawn0 w w')
    case atStart => exact ⟨(0), (by first | rfl | (simp; done) | (simp [*]; done)), H', ⟨Nat.le_refl _⟩, by repeat (first | exact Drawn0.refl _ | apply Drawn0.step)⟩
    case round =>
      clear H'
      try clear c2
      try clear c2b0
      try clear c2b1
      try clear p2
      obtain ⟨x3_1, rfl, HA, HK1, ⟨m1, rfl⟩⟩ := hrel
      cases gk with
      | zero => exact absurd HA.out (by simp [ciceronelaw29_heavy.l0])
      | succ k1 =>
        have H := HA.out
        clear HA
        simp only [ciceronelaw29_heavy.l0] at H
        by_cases c3 : x3_1 < (l0.length : Int)
        · rw [if_pos c3] at H
          have c3b0 : decide (x3_1 < (l0.length : Int)) = true := decide_eq_true c3
          clear c3
          have HC4 := Aside0.mk H
          clear H
          go_upto_region 6 with (fail)
          go_cut [38] (fun v38 wc => ∃ (kq : Nat) (x38_3 : Bool), v38 = .bool x38_3 ∧ Aside0 (ciceronelaw29_heavy.j1 kq l0 x3_1 x38_3 = some r) ∧ Aside0 (kq ≤ k1) ∧ Drawn0 w wc)
          case first =>
            have H := HC4.out
            clear HC4
            by_cases c5 : 0 ≤ x3_1
            · rw [if_pos c5] at H
              have c5b0 : decide (0 ≤ x3_1) = true := decide_eq_true c5
              clear c5
              (first | rw [c5b0] | (simp only [i64_w, i32_w]; rw [c5b0]) | skip)
              by_cases c6 : (((rd_T29 l0 x3_1).f1).size : Int) > 100
              · rw [if_pos c6] at H
                have c6b0 : decide (100 < (((rd_T29 l0 x3_1).f1).size : Int)) = true := decide_eq_true c6
                have c6b1 : decide (100 < ((rd_T29 l0 x3_1).f1).size) = true := decide_eq_true (by omega)
                clear c6
                have H' := Aside0.mk H
                clear H
                have p101 : 0 ≤ (x3_1 : Int) := of_decide_eq_true (by first | (with_reducible assumption) | assumption)
                have q101 : x3_1 < (l0.length : Int) := of_decide_eq_true (by first | (with_reducible assumption) | assumption)
                obtain ⟨ad101, A101_3, c101_3, e101, hx101_0, hx101_1, hx101_2, hx101_3, hl101_3, hi101_3⟩ := at_T29 HR0.out x3_1 p101 q101
                cases e101
                have HR101_3 := Aside0.mk hi101_3
                have HC101_3 := Aside0.mk hl101_3
                clear hi101_3 hl101_3
                replace p101 := eq_true p101
                replace q101 := eq_true q101
                go_wp2
                go_meet
                case rel => exact ⟨_, (true), (by first | rfl | (simp; done) | (simp [*]; done)), H', ⟨by have := HK1.out; first | omega | exact Nat.le_refl _⟩, by repeat (first | exact Drawn0.refl _ | apply Drawn0.step)⟩
              · rw [if_neg c6] at H
                have c6b0 : decide (100 < (((rd_T29 l0 x3_1).f1).size : Int)) = false := decide_eq_false c6
                have c6b1 : decide (100 < ((rd_T29 l0 x3_1).f1).size) = false := decide_eq_false (by omega)
                clear c6
                by_cases c7 : (((rd_T29 l0 x3_1).f2).size : Int) > 100
                · rw [if_pos c7] at H
                  have c7b0 : decide (100 < (((rd_T29 l0 x3_1).f2).size : Int)) = true := decide_eq_true c7
                  have c7b1 : decide (100 < ((rd_T29 l0 x3_1).f2).size) = true := decide_eq_true (by omega)
                  clear c7
                  have H' := Aside0.mk H
                  clear H
                  have p101 : 0 ≤ (x3_1 : Int) := of_decide_eq_true (by first | (with_reducible assumption) | assumption)
                  have q101 : x3_1 < (l0.length : Int) := of_decide_eq_true (by first | (with_reducible assumption) | assumption)
                  obtain ⟨ad101, A101_3, c101_3, e101, hx101_0, hx101_1, hx101_2, hx101_3, hl101_3, hi101_3⟩ := at_T29 HR0.out x3_1 p101 q101
                  cases e101
                  have HR101_3 := Aside0.mk hi101_3
                  have HC101_3 := Aside0.mk hl101_3
                  clear hi101_3 hl101_3
                  replace p101 := eq_true p101
                  replace q101 := eq_true q101
                  have p102 : 0 ≤ (x3_1 : Int) := of_decide_eq_true (by first | (with_reducible assumption) | assumption)
                  have q102 : x3_1 < (l0.length : Int) := of_decide_eq_true (by first | (with_reducible assumption) | assumption)
                  obtain ⟨ad102, A102_3, c102_3, e102, hx102_0, hx102_1, hx102_2, hx102_3, hl102_3, hi102_3⟩ := at_T29 HR0.out x3_1 p102 q102
                  obtain rfl : ad101 = ad102 := (by injection e102)
                  have HR102_3 := Aside0.mk hi102_3
                  have HC102_3 := Aside0.mk hl102_3
                  clear hi102_3 hl102_3
                  replace p102 := eq_true p102
                  replace q102 := eq_true q102
                  have ea_ := Option.some.inj (hx101_3.symm.trans hx102_3)
                  injection ea_ with ea_ en_ ec_
                  subst ea_
                  subst ec_
                  clear en_
                  go_wp2
                  go_meet
                  case rel => exact ⟨_, (true), (by first | rfl | (simp; done) | (simp [*]; done)), H', ⟨by have := HK1.out; first | omega | exact Nat.le_refl _⟩, by repeat (first | exact Drawn0.refl _ | apply Drawn0.step)⟩
                · rw [if_neg c7] at H
                  have c7b0 : decide (100 < (((rd_T29 l0 x3_1).f2).size : Int)) = false := decide_eq_false c7
                  have c7b1 : decide (100 < ((rd_T29 l0 x3_1).f2).size) = false := decide_eq_false (by omega)
                  clear c7
                  have H' := Aside0.mk H
                  clear H
                  have p101 : 0 ≤ (x3_1 : Int) := of_decide_eq_true (by first | (with_reducible assumption) | assumption)
                  have q101 : x3_1 < (l0.length : Int) := of_decide_eq_true (by first | (with_reducible assumption) | assumption)
                  obtain ⟨ad101, A101_3, c101_3, e101, hx101_0, hx101_1, hx101_2, hx101_3, hl101_3, hi101_3⟩ := at_T29 HR0.out x3_1 p101 q101
                  cases e101
                  have HR101_3 := Aside0.mk hi101_3
                  have HC101_3 := Aside0.mk hl101_3
                  clear hi101_3 hl101_3
                  replace p101 := eq_true p101
                  replace q101 := eq_true q101
                  have p102 : 0 ≤ (x3_1 : Int) := of_decide_eq_true (by first | (with_reducible assumption) | assumption)
                  have q102 : x3_1 < (l0.length : Int) := of_decide_eq_true (by first | (with_reducible assumption) | assumption)
                  obtain ⟨ad102, A102_3, c102_3, e102, hx102_0, hx102_1, hx102_2, hx102_3, hl102_3, hi102_3⟩ := at_T29 HR0.out x3_1 p102 q102
                  obtain rfl : ad101 = ad102 := (by injection e102)
                  have HR102_3 := Aside0.mk hi102_3
                  have HC102_3 := Aside0.mk hl102_3
                  clear hi102_3 hl102_3
                  replace p102 := eq_true p102
                  replace q102 := eq_true q102
                  have ea_ := Option.some.inj (hx101_3.symm.trans hx102_3)
                  injection ea_ with ea_ en_ ec_
                  subst ea_
                  subst ec_
                  clear en_
                  have p103 : 0 ≤ (x3_1 : Int) := of_decide_eq_true (by first | (with_reducible assumption) | assumption)
                  have q103 : x3_1 < (l0.length : Int) := of_decide_eq_true (by first | (with_reducible assumption) | assumption)
                  obtain ⟨ad103, A103_3, c103_3, e103, hx103_0, hx103_1, hx103_2, hx103_3, hl103_3, hi103_3⟩ := at_T29 HR0.out x3_1 p103 q103
                  obtain rfl : ad101 = ad103 := (by injection e103)
                  have HR103_3 := Aside0.mk hi103_3
                  have HC103_3 := Aside0.mk hl103_3
                  clear hi103_3 hl103_3
                  replace p103 := eq_true p103
                  replace q103 := eq_true q103
                  have ea_ := Option.some.inj (hx101_3.symm.trans hx103_3)
                  injection ea_ with ea_ en_ ec_
                  subst ea_
                  subst ec_
                  clear en_
                  go_wp2
                  go_meet
                  case rel => exact ⟨_, (decide ((((rd_T29 l0 x3_1).f3).length : Int) > 10)), (by first | rfl | (simp; done) | (simp [*]; done)), H', ⟨by have := HK1.out; first | omega | exact Nat.le_refl _⟩, by repeat (first | exact Drawn0.refl _ | apply Drawn0.step)⟩
            · rw [if_neg c5] at H
              exact absurd H (by simp)
          case rest =>
            clear HC4
            try clear c1
            try clear p1
            try clear q1
            try clear hx1
            try clear c2
            try clear c2b0
            try clear c2b1
            try clear p2
            try clear c3
            try clear c3b0
            try clear c5
            try clear c5b0
            try clear c6
            try clear c6b0
            try clear c6b1
            try clear c7
            try clear c7b0
            try clear c7b1
            try clear hx101_0
            try clear hx101_1
            try clear hx101_2
            try clear hx101_3
            try clear hx102_0
            try clear hx102_1
            try clear hx102_2
            try clear hx102_3
            try clear hx103_0
            try clear hx103_1
            try clear hx103_2
            try clear hx103_3
            try clear p101
            try clear p102
            try clear p103
            try clear p2
            try clear q101
            try clear q102
            try clear q103
            obtain ⟨kq, x38_3, rfl, HA, HJ3, ⟨mc3, rfl⟩⟩ := hcut
            cases kq with
            | zero => exact absurd HA.out (by simp [ciceronelaw29_heavy.j1])
            | succ kj3 =>
              have H := HA.out
              clear HA
              simp only [ciceronelaw29_heavy.j1] at H
              by_cases c8 : x38_3 = true
              · subst c8
                have H1 : (some true) = some r := by rw [if_pos rfl] at H; exact H
                clear H
                have H := H1
                clear H1
                obtain rfl := Option.some.inj H
                go_wp2
                go_ret
                exact ⟨by first | rfl | (simp; done) | (simp [*]; done), by repeat (first | exact Drawn0.refl _ | apply Drawn0.step)⟩
              · replace c8 := Bool.eq_false_iff.mpr c8
                subst c8
                have H1 : (ciceronelaw29_heavy.l1 kj3 l0 x3_1 0) = some r := by rw [if_neg (show ¬ (false = true) by decide)] at H; exact H
                clear H
                have H := H1
                clear H1
                have H' := Aside0.mk H
                clear H
                go_wp2
                go_loopg [4] kj3 (fun kq v4 w' => ∃ (x4_3 : Int), v4 = .int .i64 x4_3 ∧ Aside0 (ciceronelaw29_heavy.l1 kq l0 x3_1 x4_3 = some r) ∧ Aside0 (kq ≤ kj3) ∧ Drawn0 w w')
                case atStart => exact ⟨(0), (by first | rfl | (simp; done) | (simp [*]; done)), H', ⟨Nat.le_refl _⟩, by repeat (first | exact Drawn0.refl _ | apply Drawn0.step)⟩
                case round =>
                  clear H'
                  try clear c1
                  try clear p1
                  try clear q1
                  try clear hx1
                  try clear c2
                  try clear c2b0
                  try clear c2b1
                  try clear p2
                  try clear c3
                  try clear c3b0
                  try clear c5
                  try clear c5b0
                  try clear c6
                  try clear c6b0
                  try clear c6b1
                  try clear c7
                  try clear c7b0
                  try clear c7b1
                  try clear c8
                  try clear hx101_0
                  try clear hx101_1
                  try clear hx101_2
                  try clear hx101_3
                  try clear hx102_0
                  try clear hx102_1
                  try clear hx102_2
                  try clear hx102_3
                  try clear hx103_0
                  try clear hx103_1
                  try clear hx103_2
                  try clear hx103_3
                  try clear p1
                  try clear p101
                  try clear p102
                  try clear p103
                  try clear p2
                  try clear q1
                  try clear q101
                  try clear q102
                  try clear q103
                  obtain ⟨x4_3, rfl, HA, HK3, ⟨m3, rfl⟩⟩ := hrel
                  cases gk with
                  | zero => exact absurd HA.out (by simp [ciceronelaw29_heavy.l1])
                  | succ k3 =>
                    have H := HA.out
                    clear HA
                    simp only [ciceronelaw29_heavy.l1] at H
                    by_cases c9 : 0 ≤ x3_1
                    · rw [if_pos c9] at H
                      have c9b0 : decide (0 ≤ x3_1) = true := decide_eq_true c9
                      clear c9
                      by_cases c10 : x3_1 < (l0.length : Int)
                      · rw [if_pos c10] at H
                        have c10b0 : decide (x3_1 < (l0.length : Int)) = true := decide_eq_true c10
                        clear c10
                        by_cases c11 : x4_3 < (((rd_T29 l0 x3_1).f3).length : Int)
                        · rw [if_pos c11] at H
                          have c11b0 : decide (x4_3 < (((rd_T29 l0 x3_1).f3).length : Int)) = true := decide_eq_true c11
                          clear c11
                          by_cases c12 : 0 ≤ x4_3
                          · rw [if_pos c12] at H
                            have c12b0 : decide (0 ≤ x4_3) = true := decide_eq_true c12
                            clear c12
                            by_cases c13 : ((rdOf ByteArray.empty ((rd_T29 l0 x3_1).f3) x4_3).size : Int) > 100
                            · rw [if_pos c13] at H
                              have c13b0 : decide (100 < ((rdOf ByteArray.empty ((rd_T29 l0 x3_1).f3) x4_3).size : Int)) = true := decide_eq_true c13
                              have c13b1 : decide (100 < (rdOf ByteArray.empty ((rd_T29 l0 x3_1).f3) x4_3).size) = true := decide_eq_true (by omega)
                              clear c13
                              obtain rfl := Option.some.inj H
                              have p104 : 0 ≤ (x3_1 : Int) := of_decide_eq_true (by first | (with_reducible assumption) | assumption)
                              have q104 : x3_1 < (l0.length : Int) := of_decide_eq_true (by first | (with_reducible assumption) | assumption)
                              obtain ⟨ad104, A104_3, c104_3, e104, hx104_0, hx104_1, hx104_2, hx104_3, hl104_3, hi104_3⟩ := at_T29 HR0.out x3_1 p104 q104
                              cases e104
                              have HR104_3 := Aside0.mk hi104_3
                              have HC104_3 := Aside0.mk hl104_3
                              clear hi104_3 hl104_3
                              replace p104 := eq_true p104
                              replace q104 := eq_true q104
                              have p105 : 0 ≤ (x3_1 : Int) := of_decide_eq_true (by first | (with_reducible assumption) | assumption)
                              have q105 : x3_1 < (l0.length : Int) := of_decide_eq_true (by first | (with_reducible assumption) | assumption)
                              obtain ⟨ad105, A105_3, c105_3, e105, hx105_0, hx105_1, hx105_2, hx105_3, hl105_3, hi105_3⟩ := at_T29 HR0.out x3_1 p105 q105
                              obtain rfl : ad104 = ad105 := (by injection e105)
                              have HR105_3 := Aside0.mk hi105_3
                              have HC105_3 := Aside0.mk hl105_3
                              clear hi105_3 hl105_3
                              replace p105 := eq_true p105
                              replace q105 := eq_true q105
                              have ea_ := Option.some.inj (hx104_3.symm.trans hx105_3)
                              injection ea_ with ea_ en_ ec_
                              subst ea_
                              subst ec_
                              clear en_
                              have p106 : 0 ≤ (x4_3 : Int) := of_decide_eq_true (by first | (with_reducible assumption) | assumption)
                              have q106 : x4_3 < (((rd_T29 l0 x3_1).f3).length : Int) := of_decide_eq_true (by first | (with_reducible assumption) | assumption)
                              obtain ⟨ad106, e106, hx106_0⟩ := Kd.at_string HR105_3.out x4_3 p106 q106
                              cases e106
                              replace p106 := eq_true p106
                              replace q106 := eq_true q106
                              go_wp2
                              go_ret
                              exact ⟨by first | rfl | (simp; done) | (simp [*]; done), by repeat (first | exact Drawn0.refl _ | apply Drawn0.step)⟩
                            · rw [if_neg c13] at H
                              have c13b0 : decide (100 < ((rdOf ByteArray.empty ((rd_T29 l0 x3_1).f3) x4_3).size : Int)) = false := decide_eq_false c13
                              have c13b1 : decide (100 < (rdOf ByteArray.empty ((rd_T29 l0 x3_1).f3) x4_3).size) = false := decide_eq_false (by omega)
                              clear c13
                              have H' := Aside0.mk H
                              clear H
                              have p104 : 0 ≤ (x3_1 : Int) := of_decide_eq_true (by first | (with_reducible assumption) | assumption)
                              have q104 : x3_1 < (l0.length : Int) := of_decide_eq_true (by first | (with_reducible assumption) | assumption)
                              obtain ⟨ad104, A104_3, c104_3, e104, hx104_0, hx104_1, hx104_2, hx104_3, hl104_3, hi104_3⟩ := at_T29 HR0.out x3_1 p104 q104
                              cases e104
                              have HR104_3 := Aside0.mk hi104_3
                              have HC104_3 := Aside0.mk hl104_3
                              clear hi104_3 hl104_3
                              replace p104 := eq_true p104
                              replace q104 := eq_true q104
                              have p105 : 0 ≤ (x3_1 : Int) := of_decide_eq_true (by first | (with_reducible assumption) | assumption)
                              have q105 : x3_1 < (l0.length : Int) := of_decide_eq_true (by first | (with_reducible assumption) | assumption)
                              obtain ⟨ad105, A105_3, c105_3, e105, hx105_0, hx105_1, hx105_2, hx105_3, hl105_3, hi105_3⟩ := at_T29 HR0.out x3_1 p105 q105
                              obtain rfl : ad104 = ad105 := (by injection e105)
                              have HR105_3 := Aside0.mk hi105_3
                              have HC105_3 := Aside0.mk hl105_3
                              clear hi105_3 hl105_3
                              replace p105 := eq_true p105
                              replace q105 := eq_true q105
                              have ea_ := Option.some.inj (hx104_3.symm.trans hx105_3)
                              injection ea_ with ea_ en_ ec_
                              subst ea_
                              subst ec_
                              clear en_
                              have p106 : 0 ≤ (x4_3 : Int) := of_decide_eq_true (by first | (with_reducible assumption) | assumption)
                              have q106 : x4_3 < (((rd_T29 l0 x3_1).f3).length : Int) := of_decide_eq_true (by first | (with_reducible assumption) | assumption)
                              obtain ⟨ad106, e106, hx106_0⟩ := Kd.at_string HR105_3.out x4_3 p106 q106
                              cases e106
                              replace p106 := eq_true p106
                              replace q106 := eq_true q106
                              go_wp2
                              go_roundg k3
                              case measure => have := HK1.out; have := HJ3.out; have := HK3.out; omega
                              case rel => exact ⟨(wrap64 (x4_3 + 1)), (by first | rfl | (simp; done) | (simp [*]; done)), H', ⟨by have := HK1.out; have := HJ3.out; have := HK3.out; omega⟩, by repeat (first | exact Drawn0.refl _ | apply Drawn0.step)⟩
                          · rw [if_neg c12] at H
                            exact absurd H (by simp)
                        · rw [if_neg c11] at H
                          have c11b0 : decide (x4_3 < (((rd_T29 l0 x3_1).f3).length : Int)) = false := decide_eq_false c11
                          clear c11
                          have H' := Aside0.mk H
                          clear H
                          have p104 : 0 ≤ (x3_1 : Int) := of_decide_eq_true (by first | (with_reducible assumption) | assumption)
                          have q104 : x3_1 < (l0.length : Int) := of_decide_eq_true (by first | (with_reducible assumption) | assumption)
                          obtain ⟨ad104, A104_3, c104_3, e104, hx104_0, hx104_1, hx104_2, hx104_3, hl104_3, hi104_3⟩ := at_T29 HR0.out x3_1 p104 q104
                          cases e104
                          have HR104_3 := Aside0.mk hi104_3
                          have HC104_3 := Aside0.mk hl104_3
                          clear hi104_3 hl104_3
                          replace p104 := eq_true p104
                          replace q104 := eq_true q104
                          go_wp2
                          go_roundg k3
                          case measure => have := HK1.out; have := HJ3.out; have := HK3.out; omega
                          case rel => exact ⟨(wrap64 (x3_1 + 1)), (by first | rfl | (simp; done) | (simp [*]; done)), H', ⟨by have := HK1.out; have := HJ3.out; have := HK3.out; omega⟩, by repeat (first | exact Drawn0.refl _ | apply Drawn0.step)⟩
                      · rw [if_neg c10] at H
                        exact absurd H (by simp)
                    · rw [if_neg c9] at H
                      exact absurd H (by simp)
        · rw [if_neg c3] at H
          have c3b0 : decide (x3_1 < (l0.length : Int)) = false := decide_eq_false c3
          clear c3
          obtain rfl := Option.some.inj H
          go_wp2
          go_ret
          exact ⟨by first | rfl | (simp; done) | (simp [*]; done), by repeat (first | exact Drawn0.refl _ | apply Drawn0.step)⟩

/-! ### ciceroneref08_In: function 14 -/
def ciceroneref08_In.l0 : Nat → List ByteArray → ByteArray → Int → Option (Bool)
  | 0, _, _, _ => none
  | k + 1, x0, x1, x5 => if x5 < (x0.length : Int) then (if 0 ≤ x5 then (if (rdOf ByteArray.empty x0 x5).toList = x1.toList then (some true) else (ciceroneref08_In.l0 k x0 x1 (wrap64 (x5 + 1)))) else (none)) else (some false)
def ciceroneref08_In.f (k : Nat) (l0 : List ByteArray) (a1 : ByteArray) : Option (Bool) := ciceroneref08_In.l0 k l0 a1 0
theorem ciceroneref08_In.mono_l : ∀ k, (∀ y0 y1 y2, LeO (ciceroneref08_In.l0 k y0 y1 y2) (ciceroneref08_In.l0 (k + 1) y0 y1 y2))
  | 0 => fun _ _ _ r h => by simp [ciceroneref08_In.l0] at h
  | k + 1 => by
    have ih0 := ciceroneref08_In.mono_l k
    · intro y0 y1 y2
      unfold ciceroneref08_In.l0
      repeat' first
      | (with_reducible exact ih0 _ _ _)
      | (with_reducible exact LeO.refl _)
      | (with_reducible exact LeO.none _)
      | (with_reducible refine LeO.ite ?_ ?_)
      | (with_reducible refine LeO.bind ?_ (fun _ => ?_))
      | exact ih0 _ _ _
      | exact LeO.none _
      | refine LeO.ite ?_ ?_
      | refine LeO.bind ?_ (fun _ => ?_)
theorem ciceroneref08_In.mono : ∀ a0 a1 k, LeO (ciceroneref08_In.f k a0 a1) (ciceroneref08_In.f (k + 1) a0 a1) := by
  intro a0 a1 k
  have ih0 := ciceroneref08_In.mono_l k
  unfold ciceroneref08_In.f
  repeat' first
      | (with_reducible exact ih0 _ _ _)
      | (with_reducible exact LeO.refl _)
      | (with_reducible exact LeO.none _)
      | (with_reducible refine LeO.ite ?_ ?_)
      | (with_reducible refine LeO.bind ?_ (fun _ => ?_))
      | exact ih0 _ _ _
      | exact LeO.none _
      | refine LeO.ite ?_ ?_
      | refine LeO.bind ?_ (fun _ => ?_)
set_option maxHeartbeats 8000000 in
set_option maxRecDepth 100000 in
theorem ciceroneref08_In.calls (k : Nat) (A0 : Option Addr) (c0 : Nat) (l0 : List ByteArray) (a1 : ByteArray) (r : Bool) (w : World) (hr0 : Kd.C Kd.string w A0 l0.length l0) (hc0 : l0.length ≤ c0) (h : ciceroneref08_In.f k l0 a1 = some r) :
    Calls Try.prog 14 #[.slice A0 l0.length c0, .string a1] w fun e w' => e = .returned (.bool r) ∧ Drawn0 w w' := by
  have HR0 := Aside0.mk hr0
  have HC0 := Aside0.mk hc0
  clear hr0 hc0
  have H : (ciceroneref08_In.l0 k l0 a1 0) = some r := h
  clear h
  have H' := Aside0.mk H
  clear H
  go_enter Try.func14, Try.ntmps14
  go_wp2
  go_loopg [5] k (fun kq v5 w' => ∃ (x5_1 : Int), v5 = .int .i64 x5_1 ∧ Aside0 (ciceroneref08_In.l0 kq l0 a1 x5_1 = some r) ∧ Aside0 (kq ≤ k) ∧ Drawn0 w w')
  case atStart => exact ⟨(0), (by first | rfl | (simp; done) | (simp [*]; done)), H', ⟨Nat.le_refl _⟩, by repeat (first | exact Drawn0.refl _ | apply Drawn0.step)⟩
  case round =>
    clear H'
    try clear c1
    try clear p2
    obtain ⟨x5_1, rfl, HA, HK1, ⟨m1, rfl⟩⟩ := hrel
    cases gk with
    | zero => exact absurd HA.out (by simp [ciceroneref08_In.l0])
    | succ k1 =>
      have H := HA.out
      clear HA
      simp only [ciceroneref08_In.l0] at H
      by_cases c3 : x5_1 < (l0.length : Int)
      · rw [if_pos c3] at H
        have c3b0 : decide (x5_1 < (l0.length : Int)) = true := decide_eq_true c3
        clear c3
        by_cases c4 : 0 ≤ x5_1
        · rw [if_pos c4] at H
          have c4b0 : decide (0 ≤ x5_1) = true := decide_eq_true c4
          clear c4
          by_cases c5 : (rdOf ByteArray.empty l0 x5_1).toList = a1.toList
          · rw [if_pos c5] at H
            have c5b0 : ((rdOf ByteArray.empty l0 x5_1).toList == a1.toList) = true := beq_iff_eq.mpr c5
            have c5b1 : ((rdOf ByteArray.empty l0 x5_1).toList != a1.toList) = false := bne_eq_false_iff_eq.mpr c5
            clear c5
            obtain rfl := Option.some.inj H
            have p107 : 0 ≤ (x5_1 : Int) := of_decide_eq_true (by first | (with_reducible assumption) | assumption)
            have q107 : x5_1 < (l0.length : Int) := of_decide_eq_true (by first | (with_reducible assumption) | assumption)
            obtain ⟨ad107, e107, hx107_0⟩ := Kd.at_string HR0.out x5_1 p107 q107
            cases e107
            replace p107 := eq_true p107
            replace q107 := eq_true q107
            go_wp2
            go_ret
            exact ⟨by first | rfl | (simp; done) | (simp [*]; done), by repeat (first | exact Drawn0.refl _ | apply Drawn0.step)⟩
          · rw [if_neg c5] at H
            have c5b0 : ((rdOf ByteArray.empty l0 x5_1).toList == a1.toList) = false := beq_eq_false_iff_ne.mpr c5
            have c5b1 : ((rdOf ByteArray.empty l0 x5_1).toList != a1.toList) = true := bne_iff_ne.mpr c5
            have H' := Aside0.mk H
            clear H
            have p107 : 0 ≤ (x5_1 : Int) := of_decide_eq_true (by first | (with_reducible assumption) | assumption)
            have q107 : x5_1 < (l0.length : Int) := of_decide_eq_true (by first | (with_reducible assumption) | assumption)
            obtain ⟨ad107, e107, hx107_0⟩ := Kd.at_string HR0.out x5_1 p107 q107
            cases e107
            replace p107 := eq_true p107
            replace q107 := eq_true q107
            go_wp2
            go_roundg k1
            case measure => have := HK1.out; omega
            case rel => exact ⟨(wrap64 (x5_1 + 1)), (by first | rfl | (simp; done) | (simp [*]; done)), H', ⟨by have := HK1.out; omega⟩, by repeat (first | exact Drawn0.refl _ | apply Drawn0.step)⟩
        · rw [if_neg c4] at H
          exact absurd H (by simp)
      · rw [if_neg c3] at H
        have c3b0 : decide (x5_1 < (l0.length : Int)) = false := decide_eq_false c3
        clear c3
        obtain rfl := Option.some.inj H
        go_wp2
        go_ret
        exact ⟨by first | rfl | (simp; done) | (simp [*]; done), by repeat (first | exact Drawn0.refl _ | apply Drawn0.step)⟩

/-! ### ciceroneref08_Put: function 11 -/
def ciceroneref08_Put.l0 : Nat → List ByteArray → ByteArray → Int → Option (List ByteArray)
  | 0, _, _, _ => none
  | k + 1, x0, x1, x5 => if x5 < (x0.length : Int) then (if 0 ≤ x5 then (if (Op.bytesLess ((rdOf ByteArray.empty x0 x5).toList) x1.toList) = true then (ciceroneref08_Put.l0 k x0 x1 (wrap64 (x5 + 1))) else ((some (([] : List ByteArray) : List ByteArray)).bind fun y110 => (if x5 ≤ (x0.length : Int) then ((some (x0.take (x5 : Int).toNat : List ByteArray)).bind fun y113 => (if y110.length + y113.length < 8796093022208 then ((some (y110 ++ y113 : List ByteArray)).bind fun y117 => (if y117.length < 8796093022208 then ((some (y117 ++ [x1] : List ByteArray)).bind fun y120 => ((some (x0.drop (x5 : Int).toNat : List ByteArray)).bind fun y123 => (if y120.length + y123.length < 8796093022208 then (some (y120 ++ y123)) else (none)))) else (none))) else (none))) else (none)))) else (none)) else ((some (([] : List ByteArray) : List ByteArray)).bind fun y130 => (if 0 ≤ x5 then (if x5 ≤ (x0.length : Int) then ((some (x0.take (x5 : Int).toNat : List ByteArray)).bind fun y133 => (if y130.length + y133.length < 8796093022208 then ((some (y130 ++ y133 : List ByteArray)).bind fun y137 => (if y137.length < 8796093022208 then ((some (y137 ++ [x1] : List ByteArray)).bind fun y140 => ((some (x0.drop (x5 : Int).toNat : List ByteArray)).bind fun y143 => (if y140.length + y143.length < 8796093022208 then (some (y140 ++ y143)) else (none)))) else (none))) else (none))) else (none)) else (none)))
def ciceroneref08_Put.f (k : Nat) (l0 : List ByteArray) (a1 : ByteArray) : Option (List ByteArray) := (ciceroneref08_In.f k l0 a1).bind fun t108 => (if t108 = true then (some l0) else (ciceroneref08_Put.l0 k l0 a1 0))
theorem ciceroneref08_Put.mono_l : ∀ k, (∀ y0 y1 y2, LeO (ciceroneref08_Put.l0 k y0 y1 y2) (ciceroneref08_Put.l0 (k + 1) y0 y1 y2))
  | 0 => fun _ _ _ r h => by simp [ciceroneref08_Put.l0] at h
  | k + 1 => by
    have ih0 := ciceroneref08_Put.mono_l k
    · intro y0 y1 y2
      unfold ciceroneref08_Put.l0
      repeat' first
      | (with_reducible exact ih0 _ _ _)
      | (with_reducible exact ciceroneref08_In.mono _ _ _)
      | (with_reducible exact LeO.refl _)
      | (with_reducible exact LeO.none _)
      | (with_reducible refine LeO.ite ?_ ?_)
      | (with_reducible refine LeO.bind ?_ (fun _ => ?_))
      | exact ih0 _ _ _
      | exact ciceroneref08_In.mono _ _ _
      | exact LeO.none _
      | refine LeO.ite ?_ ?_
      | refine LeO.bind ?_ (fun _ => ?_)
theorem ciceroneref08_Put.mono : ∀ a0 a1 k, LeO (ciceroneref08_Put.f k a0 a1) (ciceroneref08_Put.f (k + 1) a0 a1) := by
  intro a0 a1 k
  have ih0 := ciceroneref08_Put.mono_l k
  unfold ciceroneref08_Put.f
  repeat' first
      | (with_reducible exact ih0 _ _ _)
      | (with_reducible exact ciceroneref08_In.mono _ _ _)
      | (with_reducible exact LeO.refl _)
      | (with_reducible exact LeO.none _)
      | (with_reducible refine LeO.ite ?_ ?_)
      | (with_reducible refine LeO.bind ?_ (fun _ => ?_))
      | exact ih0 _ _ _
      | exact ciceroneref08_In.mono _ _ _
      | exact LeO.none _
      | refine LeO.ite ?_ ?_
      | refine LeO.bind ?_ (fun _ => ?_)
set_option maxHeartbeats 8000000 in
set_option maxRecDepth 100000 in
theorem ciceroneref08_Put.calls (k : Nat) (P0_ : Nat → Prop) (u9000_ : Value) (l0 : List ByteArray) (a1 : ByteArray) (r : List ByteArray) (w0 w : World) (hB : Below w0.heap.size w0 w) (ho0 : Kd.R Kd.string 9 w w0.heap.size P0_ u9000_ l0) (h : ciceroneref08_Put.f k l0 a1 = some r) :
    Calls Try.prog 11 #[u9000_, .string a1] w fun e w' => ∃ v0_ : Value, e = .returned (v0_) ∧ Kd.R Kd.string 9 w' w0.heap.size (fun k_ => (P0_ k_ ∨ w.heap.size ≤ k_)) v0_ r ∧ Below w0.heap.size w0 w' ∧ Kept w w' (fun k_ => P0_ k_) := by
  have HO0 := Aside0.mk (show Kd.R Kd.string 9 w w0.heap.size (fun k_ => (P0_ k_ ∨ w.heap.size ≤ k_)) u9000_ l0 from Kd.R_mono ho0 (fun k_ hk => (.inl hk)))
  have HK := Aside0.mk (Kept.refl w (fun k_ => P0_ k_))
  have HW0 := Aside0.mk hB.size
  have HB := Aside0.mk hB
  clear hB
  have H : ((ciceroneref08_In.f k l0 a1).bind fun t108 => (if t108 = true then (some l0) else (ciceroneref08_Put.l0 k l0 a1 0))) = some r := h
  clear h
  replace H := Option.bind_eq_some_iff.mp H
  obtain ⟨t108, A30, H⟩ := H
  replace H : (if t108 = true then (some l0) else (ciceroneref08_Put.l0 k l0 a1 0)) = some r := H
  have A3 := Aside0.mk A30
  clear A30
  by_cases c4 : t108 = true
  · subst c4
    have H1 : (some l0) = some r := by rw [if_pos rfl] at H; exact H
    clear H
    have H := H1
    clear H1
    obtain rfl := Option.some.inj H
    obtain ⟨Ao5, co5, eo5⟩ := Kd.R_slice HO0.out
    subst eo5
    go_enter Try.func11, Try.ntmps11
    go_wp2_with (first | ((with_reducible refine gate_callee (f := 14) rfl ?_); refine goesL_ (some 9) rfl rfl Try.func14 (by kernel_rfl) rfl #[.slice Ao5 l0.length co5, .string a1] rfl (by (try simp only [List.map_toArray, List.map_cons, List.map_nil]); first | done | rfl | (simp only [List.length_drop, List.length_take]; rfl)) ?_; (with_reducible refine (ciceroneref08_In.calls k _ _ l0 a1 true _ ?side1 ?side2 A3.out).mono ?_); (case side1 => repeat (first | exact (Kd.R_reads' HO0.out).2.2 | (with_reducible refine Kd.C_alloc ?_ _) | (with_reducible refine Kd.C_drewN ?_ _) | (with_reducible refine Kd.C_drew ?_))); (case side2 => exact (Kd.R_reads' HO0.out).2.1); rintro e w' ⟨rfl, ⟨nd, rfl⟩⟩; refine ⟨_, rfl, ?_⟩))
    go_ret
    exact ⟨_, by first | rfl | (simp [errW_none, errW_some] <;> rfl) | (simp [*, errW_none, errW_some] <;> rfl), by (with_reducible repeat (first | apply Kd.R_alloc | apply Kd.R_drewN | apply Kd.R_drew)); exact HO0.out, by repeat (first | (with_reducible first | exact HB.out | apply below_alloc | apply pw_below_drewN | apply below_drew1) | exact HB.out), by repeat (first | (with_reducible first | exact HK.out | apply Kept.alloc | apply Kept.drewN | apply Kept.drew) | exact HK.out)⟩
  · replace c4 := Bool.eq_false_iff.mpr c4
    subst c4
    have H1 : (ciceroneref08_Put.l0 k l0 a1 0) = some r := by rw [if_neg (show ¬ (false = true) by decide)] at H; exact H
    clear H
    have H := H1
    clear H1
    have H' := Aside0.mk H
    clear H
    obtain ⟨Ao6, co6, eo6⟩ := Kd.R_slice HO0.out
    subst eo6
    go_enter Try.func11, Try.ntmps11
    go_wp2_with (first | ((with_reducible refine gate_callee (f := 14) rfl ?_); refine goesL_ (some 9) rfl rfl Try.func14 (by kernel_rfl) rfl #[.slice Ao6 l0.length co6, .string a1] rfl (by (try simp only [List.map_toArray, List.map_cons, List.map_nil]); first | done | rfl | (simp only [List.length_drop, List.length_take]; rfl)) ?_; (with_reducible refine (ciceroneref08_In.calls k _ _ l0 a1 false _ ?side1 ?side2 A3.out).mono ?_); (case side1 => repeat (first | exact (Kd.R_reads' HO0.out).2.2 | (with_reducible refine Kd.C_alloc ?_ _) | (with_reducible refine Kd.C_drewN ?_ _) | (with_reducible refine Kd.C_drew ?_))); (case side2 => exact (Kd.R_reads' HO0.out).2.1); rintro e w' ⟨rfl, ⟨nd, rfl⟩⟩; refine ⟨_, rfl, ?_⟩))
    go_loopg [5] k (fun kq v5 w' => ∃ (x5_1 : Int), v5 = .int .i64 x5_1 ∧ Aside0 (ciceroneref08_Put.l0 kq l0 a1 x5_1 = some r) ∧ Aside0 (kq ≤ k) ∧ Aside0 (Kd.R Kd.string 9 w' w0.heap.size (fun k_ => (P0_ k_ ∨ w.heap.size ≤ k_)) (.slice Ao6 l0.length co6) l0) ∧ Aside0 (Kept w w' (fun k_ => P0_ k_)) ∧ Aside0 (Below w0.heap.size w0 w'))
    case atStart => exact ⟨(0), (by first | rfl | (simp; done) | (simp [*]; done)), H', ⟨Nat.le_refl _⟩, ⟨by (with_reducible repeat (first | apply Kd.R_alloc | apply Kd.R_drewN | apply Kd.R_drew)); exact HO0.out⟩, ⟨by repeat (first | (with_reducible first | exact HK.out | apply Kept.alloc | apply Kept.drewN | apply Kept.drew) | exact HK.out)⟩, ⟨by repeat (first | (with_reducible first | exact HB.out | apply below_alloc | apply pw_below_drewN | apply below_drew1) | exact HB.out)⟩⟩
    case round =>
      clear H'
      try clear c1
      try clear p2
      try clear c4
      obtain ⟨x5_1, rfl, HA, HK1, HO_0, HK, HB⟩ := hrel
      cases gk with
      | zero => exact absurd HA.out (by simp [ciceroneref08_Put.l0])
      | succ k1 =>
        have H := HA.out
        clear HA
        simp only [ciceroneref08_Put.l0] at H
        by_cases c7 : x5_1 < (l0.length : Int)
        · rw [if_pos c7] at H
          have c7b0 : decide (x5_1 < (l0.length : Int)) = true := decide_eq_true c7
          clear c7
          by_cases c8 : 0 ≤ x5_1
          · rw [if_pos c8] at H
            have c8b0 : decide (0 ≤ x5_1) = true := decide_eq_true c8
            clear c8
            by_cases c9 : (Op.bytesLess ((rdOf ByteArray.empty l0 x5_1).toList) a1.toList) = true
            · rw [if_pos c9] at H
              have c9b0 : (Op.bytesLess ((rdOf ByteArray.empty l0 x5_1).toList) a1.toList) = true := c9
              clear c9
              have H' := Aside0.mk H
              clear H
              have p109 : 0 ≤ (x5_1 : Int) := of_decide_eq_true (by first | (with_reducible assumption) | assumption)
              have q109 : x5_1 < (l0.length : Int) := of_decide_eq_true (by first | (with_reducible assumption) | assumption)
              obtain ⟨ad109, e109, hx109_0⟩ := Kd.at_string (Kd.R_reads' HO_0.out).2.2 x5_1 p109 q109
              cases e109
              replace p109 := eq_true p109
              replace q109 := eq_true q109
              go_wp2
              go_roundg k1
              case measure => have := HK1.out; omega
              case rel => exact ⟨(wrap64 (x5_1 + 1)), (by first | rfl | (simp; done) | (simp [*]; done)), H', ⟨by have := HK1.out; omega⟩, ⟨by (with_reducible repeat (first | apply Kd.R_alloc | apply Kd.R_drewN | apply Kd.R_drew)); exact HO_0.out⟩, ⟨by repeat (first | (with_reducible first | exact HK.out | apply Kept.alloc | apply Kept.drewN | apply Kept.drew) | exact HK.out)⟩, ⟨by repeat (first | (with_reducible first | exact HB.out | apply below_alloc | apply pw_below_drewN | apply below_drew1) | exact HB.out)⟩⟩
            · rw [if_neg c9] at H
              have c9b0 : (Op.bytesLess ((rdOf ByteArray.empty l0 x5_1).toList) a1.toList) = false := by simpa using c9
              clear c9
              obtain ⟨y110, hy110⟩ : ∃ y_ : List ByteArray, y_ = (([] : List ByteArray)) := ⟨_, rfl⟩
              replace H : (if x5_1 ≤ (l0.length : Int) then ((some (l0.take (x5_1 : Int).toNat : List ByteArray)).bind fun y113 => (if y110.length + y113.length < 8796093022208 then ((some (y110 ++ y113 : List ByteArray)).bind fun y117 => (if y117.length < 8796093022208 then ((some (y117 ++ [a1] : List ByteArray)).bind fun y120 => ((some (l0.drop (x5_1 : Int).toNat : List ByteArray)).bind fun y123 => (if y120.length + y123.length < 8796093022208 then (some (y120 ++ y123)) else (none)))) else (none))) else (none))) else (none)) = some r := by first | (rw [hy110]; with_reducible exact H) | (have H2_ := (Option.bind_some _ _).symm.trans H; rw [hy110]; with_reducible exact H2_) | (have H2_ := (Option.bind_some _ _).symm.trans H; with_reducible exact H2_) | with_reducible exact H | (rw [hy110]; exact H) | exact H
              have Ny110 := Aside0.mk hy110
              clear hy110
              have c10b0 := eq_true (of_decide_eq_true (by first | (with_reducible assumption) | assumption) : 0 ≤ x5_1)
              by_cases c11 : x5_1 ≤ (l0.length : Int)
              · rw [if_pos c11] at H
                have c11b0 := eq_true c11
                have c11b1 : decide (x5_1 ≤ (l0.length : Int)) = true := decide_eq_true c11
                clear c11
                obtain ⟨y113, hy113⟩ : ∃ y_ : List ByteArray, y_ = (l0.take (x5_1 : Int).toNat) := ⟨_, rfl⟩
                replace H : (if y110.length + y113.length < 8796093022208 then ((some (y110 ++ y113 : List ByteArray)).bind fun y117 => (if y117.length < 8796093022208 then ((some (y117 ++ [a1] : List ByteArray)).bind fun y120 => ((some (l0.drop (x5_1 : Int).toNat : List ByteArray)).bind fun y123 => (if y120.length + y123.length < 8796093022208 then (some (y120 ++ y123)) else (none)))) else (none))) else (none)) = some r := by first | (rw [hy113]; with_reducible exact H) | (have H2_ := (Option.bind_some _ _).symm.trans H; rw [hy113]; with_reducible exact H2_) | (have H2_ := (Option.bind_some _ _).symm.trans H; with_reducible exact H2_) | with_reducible exact H | (rw [hy113]; exact H) | exact H
                have Ny113 := Aside0.mk hy113
                clear hy113
                by_cases c12 : y110.length + y113.length < 8796093022208
                · rw [if_pos c12] at H
                  have LMc12 := Aside0.mk c12
                  clear c12
                  obtain ⟨y117, hy117⟩ : ∃ y_ : List ByteArray, y_ = (y110 ++ y113) := ⟨_, rfl⟩
                  replace H : (if y117.length < 8796093022208 then ((some (y117 ++ [a1] : List ByteArray)).bind fun y120 => ((some (l0.drop (x5_1 : Int).toNat : List ByteArray)).bind fun y123 => (if y120.length + y123.length < 8796093022208 then (some (y120 ++ y123)) else (none)))) else (none)) = some r := by first | (rw [hy117]; with_reducible exact H) | (have H2_ := (Option.bind_some _ _).symm.trans H; rw [hy117]; with_reducible exact H2_) | (have H2_ := (Option.bind_some _ _).symm.trans H; with_reducible exact H2_) | with_reducible exact H | (rw [hy117]; exact H) | exact H
                  have Ny117 := Aside0.mk hy117
                  clear hy117
                  by_cases c13 : y117.length < 8796093022208
                  · rw [if_pos c13] at H
                    have LMc13 := Aside0.mk c13
                    clear c13
                    obtain ⟨y120, hy120⟩ : ∃ y_ : List ByteArray, y_ = (y117 ++ [a1]) := ⟨_, rfl⟩
                    replace H : ((some (l0.drop (x5_1 : Int).toNat : List ByteArray)).bind fun y123 => (if y120.length + y123.length < 8796093022208 then (some (y120 ++ y123)) else (none))) = some r := by first | (rw [hy120]; with_reducible exact H) | (have H2_ := (Option.bind_some _ _).symm.trans H; rw [hy120]; with_reducible exact H2_) | (have H2_ := (Option.bind_some _ _).symm.trans H; with_reducible exact H2_) | with_reducible exact H | (rw [hy120]; exact H) | exact H
                    have Ny120 := Aside0.mk hy120
                    clear hy120
                    have c14b0 := eq_true (of_decide_eq_true (by first | (with_reducible assumption) | assumption) : 0 ≤ x5_1)
                    have c15b0 := eq_true (of_decide_eq_true (by first | (with_reducible assumption) | assumption) : x5_1 ≤ (l0.length : Int))
                    obtain ⟨y123, hy123⟩ : ∃ y_ : List ByteArray, y_ = (l0.drop (x5_1 : Int).toNat) := ⟨_, rfl⟩
                    replace H : (if y120.length + y123.length < 8796093022208 then (some (y120 ++ y123)) else (none)) = some r := by first | (rw [hy123]; with_reducible exact H) | (have H2_ := (Option.bind_some _ _).symm.trans H; rw [hy123]; with_reducible exact H2_) | (have H2_ := (Option.bind_some _ _).symm.trans H; with_reducible exact H2_) | with_reducible exact H | (rw [hy123]; exact H) | exact H
                    have Ny123 := Aside0.mk hy123
                    clear hy123
                    by_cases c16 : y120.length + y123.length < 8796093022208
                    · rw [if_pos c16] at H
                      have LMc16 := Aside0.mk c16
                      clear c16
                      obtain ⟨y127, hy127⟩ : ∃ y_ : List ByteArray, y_ = (y120 ++ y123) := ⟨_, rfl⟩
                      replace H : (some y127) = some r := by first | (rw [hy127]; with_reducible exact H) | (have H2_ := (Option.bind_some _ _).symm.trans H; rw [hy127]; with_reducible exact H2_) | (have H2_ := (Option.bind_some _ _).symm.trans H; with_reducible exact H2_) | with_reducible exact H | (rw [hy127]; exact H) | exact H
                      have Ny127 := Aside0.mk hy127
                      clear hy127
                      obtain rfl := Option.some.inj H
                      have p109 : 0 ≤ (x5_1 : Int) := of_decide_eq_true (by first | (with_reducible assumption) | assumption)
                      have q109 : x5_1 < (l0.length : Int) := of_decide_eq_true (by first | (with_reducible assumption) | assumption)
                      obtain ⟨ad109, e109, hx109_0⟩ := Kd.at_string (Kd.R_reads' HO_0.out).2.2 x5_1 p109 q109
                      cases e109
                      replace p109 := eq_true p109
                      replace q109 := eq_true q109
                      go_wp2_with (first | ((with_reducible refine gate_dst (N := 25) rfl ?_); refine Kd.R_lit Kd.string _ 9 ?hg (N := 25) ?hd (xs := ([] : List ByteArray)) (inner := []) (ok := fun _ => True) (okp := fun _ => True) ?hr ?hp (fun _ hk => hk) trivial (Below.refl _ _) (Nat.le_refl _) (by simp) ?_; (case hd => rfl); (case hg => rfl); (case hr => first | (go_simp; done) | (go_simp; rfl)); (case hp => exact (Reps.none _ _)); intro v111 w17 ho18 hb hg_ hnew_; clear hg_ hnew_; (first | rw [← Ny110.out] at ho18 | (simp only [Int.reduceToNat] at ho18; rw [← Ny110.out] at ho18)); have n0_ := Aside0.mk (Kd.R_elder' (by (with_reducible repeat (first | apply Kd.R_alloc | apply Kd.R_drewN | apply Kd.R_drew)); exact HO_0.out) (Kd.R_base ho18) hb); have n1_ := Aside0.mk (Kd.R_lower (Kd.R_new' (Kd.R_newM (M := fun k_ => (P0_ k_ ∨ w.heap.size ≤ k_)) ho18 (by first | exact HK.out.1 | exact (show Kept w _ (fun k_ => P0_ k_) from by repeat (first | (with_reducible first | exact HK.out | apply Kept.alloc | apply Kept.drewN | apply Kept.drew) | exact HK.out)).1) (fun k_ h_ => .inr h_)) (Kd.R_lt (by (with_reducible repeat (first | apply Kd.R_alloc | apply Kd.R_drewN | apply Kd.R_drew)); exact HO_0.out))) (below_size (by repeat (first | (with_reducible first | exact HB.out | apply below_alloc | apply pw_below_drewN | apply below_drew1) | exact HB.out)))); have n2_ := Aside0.mk (Kept.below (S := (fun k_ => P0_ k_)) (by repeat (first | (with_reducible first | exact HK.out | apply Kept.alloc | apply Kept.drewN | apply Kept.drew) | exact HK.out)) hb); have n3_ := Aside0.mk (below_step (by repeat (first | (with_reducible first | exact HB.out | apply below_alloc | apply pw_below_drewN | apply below_drew1) | exact HB.out)) hb); clear HO_0; clear HK; clear HB; have HO_0 := n0_; have HO112 := n1_; have HK := n2_; have HB := n3_; clear n0_ n1_ n2_ n3_; clear hb ho18; have q19 : (x5_1 : Int) ≤ ((l0.length : Int) : Int) := of_decide_eq_true (by first | (with_reducible assumption) | assumption); obtain ⟨i019, hi019, _, hsz19, _⟩ := info_parts info9; have hroom19 : l0.length ≤ co6 := (Kd.R_reads' HO_0.out).2.1; have hC19 : Kd.C Kd.string _ (some ad109) l0.length l0 := (Kd.R_reads' HO_0.out).2.2; have hcut19 := cut_to (P := Try.prog) 27 9 .i64 Try.underlying27 hi019 (some ad109) l0.length co6 x5_1 (of_decide_eq_true (by first | (with_reducible assumption) | assumption)) q19 hroom19; have hr19 := Kd.C_take (m := (x5_1 : Int).toNat) hC19 (by omega); have hy19 : y113.length = (x5_1 : Int).toNat := (by rw [Ny113.out, List.length_take]; omega); rw [← Ny113.out] at hr19; rw [← hy19] at hcut19; have HR116 := Aside0.mk hr19; have HC116 := Aside0.mk (show y113.length ≤ co6 from by omega); clear hr19 hC19 hroom19 hi019 hsz19; have KY19 := Aside0.mk hy19; clear hy19; have KL19 := Aside0.mk (show (x5_1 : Int).toNat ≤ l0.length from by omega); replace q19 := eq_true q19) | ((with_reducible refine gate_builtin (b := .append) (xs := #[.tmp 25, .tmp 28]) rfl ?_); at_builtin; refine Kd.R_append_rows Kd.string (w0 := w0) w0.heap.size rfl (.tmp 25) (.tmp 28) 27 9 (.string ⟨#[]⟩) 16 rfl Try.underlying27 info9 rfl (by decide) (by omega) v111 y110 y113 _ _ _ (fun k_ => (P0_ k_ ∨ w.heap.size ≤ k_) ∧ some k_ ≠ (.slice (some ad109) l0.length co6 : Value).ownBlock) (fun _ => False) rfl rfl ?aO ?aR (fun _ _ h => h) (fun _ h => h.elim) ?aF ?aB ?aS ?aL ?_; (case aR => repeat (first | exact (by repeat (first | (with_reducible exact HR116.out) | (with_reducible refine Kd.C_alloc ?_ _) | (with_reducible refine Kd.C_drewN ?_ _) | (with_reducible refine Kd.C_drew ?_) | exact HR116.out)) | (with_reducible refine Kd.C_alloc ?_ _) | (with_reducible refine Kd.C_drewN ?_ _) | (with_reducible refine Kd.C_drew ?_))); (case aB => exact (by repeat (first | (with_reducible first | exact HB.out | apply below_alloc | apply pw_below_drewN | apply below_drew1) | exact HB.out))); (case aF => exact (fun k_ hk => ⟨(.inr (Nat.le_trans (by first | exact HK.out.1 | exact (show Kept w _ (fun k_ => P0_ k_) from by repeat (first | (with_reducible first | exact HK.out | apply Kept.alloc | apply Kept.drewN | apply Kept.drew) | exact HK.out)).1) hk)), Kd.fresh' (Kd.R_lt (by (with_reducible repeat (first | apply Kd.R_alloc | apply Kd.R_drewN | apply Kd.R_drew)); exact HO_0.out)) k_ hk⟩)); (case aO => exact (by (with_reducible repeat (first | apply Kd.R_alloc | apply Kd.R_drewN | apply Kd.R_drew)); exact Kd.R_mono HO112.out (fun _ hk => ⟨hk.1.1, hk.2⟩))); (case aS => exact (below_size (by repeat (first | (with_reducible first | exact HB.out | apply below_alloc | apply pw_below_drewN | apply below_drew1) | exact HB.out)))); (case aL => have := LMc12.out; omega); intro v118 w20 ho hb hg hat; rw [← Ny117.out] at ho; have n0_ := Aside0.mk (Kd.R_after (ok := (fun k_ => (P0_ k_ ∨ w.heap.size ≤ k_))) (by (with_reducible repeat (first | apply Kd.R_alloc | apply Kd.R_drewN | apply Kd.R_drew)); exact HO_0.out) hg hat); have n1_ := Aside0.mk (hb); have n2_ := Aside0.mk (Kept.of_grown (S := (fun k_ => P0_ k_)) hg (by repeat (first | (with_reducible first | exact HK.out | apply Kept.alloc | apply Kept.drewN | apply Kept.drew) | exact HK.out)) (fun k_ e_ => (HO112.out.1 k_ e_).1.1)); have n3_ := Aside0.mk ((show Kd.C Kd.string w20 (some ad109) y113.length y113 from by rw [Ny113.out]; exact Kd.C_take (m := (x5_1 : Int).toNat) ((Kd.R_reads' (Kd.R_after (ok := (fun k_ => (P0_ k_ ∨ w.heap.size ≤ k_))) (by (with_reducible repeat (first | apply Kd.R_alloc | apply Kd.R_drewN | apply Kd.R_drew)); exact HO_0.out) hg hat)).2.2) KL19.out)); have n4_ := Aside0.mk (ho); clear HO_0; clear HB; clear HK; clear HR116; clear HO112; have HO_0 := n0_; have HB := n1_; have HK := n2_; have HR116 := n3_; have HO119 := n4_; clear n0_ n1_ n2_ n3_ n4_; clear ho hb hg hat) | ((with_reducible refine gate_builtin (b := .append) (xs := #[.tmp 29, .tmp 31]) rfl ?_); at_builtin; refine Kd.R_append Kd.string (w0 := w0) w0.heap.size rfl (.tmp 29) (.tmp 31) 27 9 (.string ⟨#[]⟩) 16 rfl Try.underlying27 info9 rfl (by decide) (by omega) v118 y117 a1 [.string a1] (fun k_ => (P0_ k_ ∨ w.heap.size ≤ k_) ∧ some k_ ≠ (.slice (some ad109) l0.length co6 : Value).ownBlock) (fun _ => False) rfl rfl ?aP (fun _ hk => hk.elim) ?aF ?aO ?aB ?aS ?aL ?_; (case aP => exact rfl); (case aB => exact (by repeat (first | (with_reducible first | exact HB.out | apply below_alloc | apply pw_below_drewN | apply below_drew1) | exact HB.out))); (case aF => exact (fun k_ hk => ⟨(.inr (Nat.le_trans (by first | exact HK.out.1 | exact (show Kept w _ (fun k_ => P0_ k_) from by repeat (first | (with_reducible first | exact HK.out | apply Kept.alloc | apply Kept.drewN | apply Kept.drew) | exact HK.out)).1) hk)), Kd.fresh' (Kd.R_lt (by (with_reducible repeat (first | apply Kd.R_alloc | apply Kd.R_drewN | apply Kd.R_drew)); exact HO_0.out)) k_ hk⟩)); (case aO => exact (by (with_reducible repeat (first | apply Kd.R_alloc | apply Kd.R_drewN | apply Kd.R_drew)); exact HO119.out)); (case aS => exact (below_size (by repeat (first | (with_reducible first | exact HB.out | apply below_alloc | apply pw_below_drewN | apply below_drew1) | exact HB.out)))); (case aL => have := LMc13.out; omega); intro v121 w21 ho hb hg hat; rw [← Ny120.out] at ho; have n0_ := Aside0.mk (Kd.R_after (ok := (fun k_ => (P0_ k_ ∨ w.heap.size ≤ k_))) (by (with_reducible repeat (first | apply Kd.R_alloc | apply Kd.R_drewN | apply Kd.R_drew)); exact HO_0.out) hg hat); have n1_ := Aside0.mk (hb); have n2_ := Aside0.mk (Kept.of_grown (S := (fun k_ => P0_ k_)) hg (by repeat (first | (with_reducible first | exact HK.out | apply Kept.alloc | apply Kept.drewN | apply Kept.drew) | exact HK.out)) (fun k_ e_ => (HO119.out.1 k_ e_).1)); have n3_ := Aside0.mk ((show Kd.C Kd.string w21 (some ad109) y113.length y113 from by rw [Ny113.out]; exact Kd.C_take (m := (x5_1 : Int).toNat) ((Kd.R_reads' (Kd.R_after (ok := (fun k_ => (P0_ k_ ∨ w.heap.size ≤ k_))) (by (with_reducible repeat (first | apply Kd.R_alloc | apply Kd.R_drewN | apply Kd.R_drew)); exact HO_0.out) hg hat)).2.2) KL19.out)); have n4_ := Aside0.mk (ho); clear HO_0; clear HB; clear HK; clear HR116; clear HO119; have HO_0 := n0_; have HB := n1_; have HK := n2_; have HR116 := n3_; have HO122 := n4_; clear n0_ n1_ n2_ n3_ n4_; clear ho hb hg hat; have q22 : (x5_1 : Int) ≤ ((l0.length : Int) : Int) := of_decide_eq_true (by first | (with_reducible assumption) | assumption); obtain ⟨i022, hi022, _, hsz22, _⟩ := info_parts info9; have hroom22 : l0.length ≤ co6 := (Kd.R_reads' HO_0.out).2.1; have hC22 : Kd.C Kd.string _ (some ad109) l0.length l0 := (Kd.R_reads' HO_0.out).2.2; have q022 : (0 : Int) ≤ (x5_1 : Int) := of_decide_eq_true (by first | (with_reducible assumption) | assumption); have hcut22 := cut_from (P := Try.prog) 27 9 .i64 Try.underlying27 hi022 1 hsz22 (some ad109) l0.length co6 x5_1 q022 q22; have hr22 := Kd.C_drop (m := (x5_1 : Int).toNat) (c := co6) hC22 (by omega) hroom22; obtain ⟨A22, hA22⟩ : ∃ A1, A1 = (if co6 = (x5_1 : Int).toNat then (some ad109) else ((some ad109) : Option Addr).map (·.add ((x5_1 : Int).toNat * 1))) := ⟨_, rfl⟩; obtain ⟨c22, hc22⟩ : ∃ c1, c1 = co6 - (x5_1 : Int).toNat := ⟨_, rfl⟩; have hy22 : y123.length = l0.length - (x5_1 : Int).toNat := (by rw [Ny123.out, List.length_drop] <;> omega); rw [show (l0).drop (x5_1 : Int).toNat = y123 from Ny123.out.symm] at hr22; replace hr22 : Kd.C Kd.string _ A22 y123.length y123 := (by rw [hA22]; exact hr22); rw [← hy22, ← hA22, ← hc22] at hcut22; have HR126 := Aside0.mk hr22; have HC126 := Aside0.mk (show y123.length ≤ c22 from by rw [hy22, hc22]; exact Nat.sub_le_sub_right hroom22 _); clear hr22 hC22 hroom22 hi022 hsz22 hc22; have KY22 := Aside0.mk hy22; have KA22 := Aside0.mk hA22; clear hy22 hA22; have KL22 := Aside0.mk (show (x5_1 : Int).toNat ≤ l0.length from by omega); replace q22 := eq_true q22) | ((with_reducible refine gate_builtin (b := .append) (xs := #[.tmp 33, .tmp 36]) rfl ?_); at_builtin; refine Kd.R_append_rows Kd.string (w0 := w0) w0.heap.size rfl (.tmp 33) (.tmp 36) 27 9 (.string ⟨#[]⟩) 16 rfl Try.underlying27 info9 rfl (by decide) (by omega) v121 y120 y123 _ _ _ (fun k_ => (P0_ k_ ∨ w.heap.size ≤ k_) ∧ some k_ ≠ (.slice (some ad109) l0.length co6 : Value).ownBlock) (fun _ => False) rfl rfl ?aO ?aR (fun _ _ h => h) (fun _ h => h.elim) ?aF ?aB ?aS ?aL ?_; (case aR => repeat (first | exact (by repeat (first | (with_reducible exact HR126.out) | (with_reducible refine Kd.C_alloc ?_ _) | (with_reducible refine Kd.C_drewN ?_ _) | (with_reducible refine Kd.C_drew ?_) | exact HR126.out)) | (with_reducible refine Kd.C_alloc ?_ _) | (with_reducible refine Kd.C_drewN ?_ _) | (with_reducible refine Kd.C_drew ?_))); (case aB => exact (by repeat (first | (with_reducible first | exact HB.out | apply below_alloc | apply pw_below_drewN | apply below_drew1) | exact HB.out))); (case aF => exact (fun k_ hk => ⟨(.inr (Nat.le_trans (by first | exact HK.out.1 | exact (show Kept w _ (fun k_ => P0_ k_) from by repeat (first | (with_reducible first | exact HK.out | apply Kept.alloc | apply Kept.drewN | apply Kept.drew) | exact HK.out)).1) hk)), Kd.fresh' (Kd.R_lt (by (with_reducible repeat (first | apply Kd.R_alloc | apply Kd.R_drewN | apply Kd.R_drew)); exact HO_0.out)) k_ hk⟩)); (case aO => exact (by (with_reducible repeat (first | apply Kd.R_alloc | apply Kd.R_drewN | apply Kd.R_drew)); exact HO122.out)); (case aS => exact (below_size (by repeat (first | (with_reducible first | exact HB.out | apply below_alloc | apply pw_below_drewN | apply below_drew1) | exact HB.out)))); (case aL => have := LMc16.out; omega); intro v128 w23 ho hb hg hat; rw [← Ny127.out] at ho; have n0_ := Aside0.mk (Kd.R_after (ok := (fun k_ => (P0_ k_ ∨ w.heap.size ≤ k_))) (by (with_reducible repeat (first | apply Kd.R_alloc | apply Kd.R_drewN | apply Kd.R_drew)); exact HO_0.out) hg hat); have n1_ := Aside0.mk (hb); have n2_ := Aside0.mk (Kept.of_grown (S := (fun k_ => P0_ k_)) hg (by repeat (first | (with_reducible first | exact HK.out | apply Kept.alloc | apply Kept.drewN | apply Kept.drew) | exact HK.out)) (fun k_ e_ => (HO122.out.1 k_ e_).1)); have n3_ := Aside0.mk ((show Kd.C Kd.string w23 (some ad109) y113.length y113 from by rw [Ny113.out]; exact Kd.C_take (m := (x5_1 : Int).toNat) ((Kd.R_reads' (Kd.R_after (ok := (fun k_ => (P0_ k_ ∨ w.heap.size ≤ k_))) (by (with_reducible repeat (first | apply Kd.R_alloc | apply Kd.R_drewN | apply Kd.R_drew)); exact HO_0.out) hg hat)).2.2) KL19.out)); have n4_ := Aside0.mk ((show Kd.C Kd.string w23 A22 y123.length y123 from by rw [Ny123.out, KA22.out]; exact Kd.C_drop (m := (x5_1 : Int).toNat) (c := co6) ((Kd.R_reads' (Kd.R_after (ok := (fun k_ => (P0_ k_ ∨ w.heap.size ≤ k_))) (by (with_reducible repeat (first | apply Kd.R_alloc | apply Kd.R_drewN | apply Kd.R_drew)); exact HO_0.out) hg hat)).2.2) KL22.out ((Kd.R_reads' (Kd.R_after (ok := (fun k_ => (P0_ k_ ∨ w.heap.size ≤ k_))) (by (with_reducible repeat (first | apply Kd.R_alloc | apply Kd.R_drewN | apply Kd.R_drew)); exact HO_0.out) hg hat)).2.1))); have n5_ := Aside0.mk (ho); clear HO_0; clear HB; clear HK; clear HR116; clear HR126; clear HO122; have HO_0 := n0_; have HB := n1_; have HK := n2_; have HR116 := n3_; have HR126 := n4_; have HO129 := n5_; clear n0_ n1_ n2_ n3_ n4_ n5_; clear ho hb hg hat))
                      go_ret
                      exact ⟨_, by first | rfl | (simp [errW_none, errW_some] <;> rfl) | (simp [*, errW_none, errW_some] <;> rfl), by (with_reducible repeat (first | apply Kd.R_alloc | apply Kd.R_drewN | apply Kd.R_drew)); exact Kd.R_mono HO129.out (fun _ hk => hk.1), by repeat (first | (with_reducible first | exact HB.out | apply below_alloc | apply pw_below_drewN | apply below_drew1) | exact HB.out), by repeat (first | (with_reducible first | exact HK.out | apply Kept.alloc | apply Kept.drewN | apply Kept.drew) | exact HK.out)⟩
                    · rw [if_neg c16] at H
                      exact absurd H (by simp)
                  · rw [if_neg c13] at H
                    exact absurd H (by simp)
                · rw [if_neg c12] at H
                  exact absurd H (by simp)
              · rw [if_neg c11] at H
                exact absurd H (by simp)
          · rw [if_neg c8] at H
            exact absurd H (by simp)
        · rw [if_neg c7] at H
          have c7b0 : decide (x5_1 < (l0.length : Int)) = false := decide_eq_false c7
          clear c7
          obtain ⟨y130, hy130⟩ : ∃ y_ : List ByteArray, y_ = (([] : List ByteArray)) := ⟨_, rfl⟩
          replace H : (if 0 ≤ x5_1 then (if x5_1 ≤ (l0.length : Int) then ((some (l0.take (x5_1 : Int).toNat : List ByteArray)).bind fun y133 => (if y130.length + y133.length < 8796093022208 then ((some (y130 ++ y133 : List ByteArray)).bind fun y137 => (if y137.length < 8796093022208 then ((some (y137 ++ [a1] : List ByteArray)).bind fun y140 => ((some (l0.drop (x5_1 : Int).toNat : List ByteArray)).bind fun y143 => (if y140.length + y143.length < 8796093022208 then (some (y140 ++ y143)) else (none)))) else (none))) else (none))) else (none)) else (none)) = some r := by first | (rw [hy130]; with_reducible exact H) | (have H2_ := (Option.bind_some _ _).symm.trans H; rw [hy130]; with_reducible exact H2_) | (have H2_ := (Option.bind_some _ _).symm.trans H; with_reducible exact H2_) | with_reducible exact H | (rw [hy130]; exact H) | exact H
          have Ny130 := Aside0.mk hy130
          clear hy130
          by_cases c24 : 0 ≤ x5_1
          · rw [if_pos c24] at H
            have c24b0 := eq_true c24
            have c24b1 : decide (0 ≤ x5_1) = true := decide_eq_true c24
            clear c24
            by_cases c25 : x5_1 ≤ (l0.length : Int)
            · rw [if_pos c25] at H
              have c25b0 := eq_true c25
              have c25b1 : decide (x5_1 ≤ (l0.length : Int)) = true := decide_eq_true c25
              clear c25
              obtain ⟨y133, hy133⟩ : ∃ y_ : List ByteArray, y_ = (l0.take (x5_1 : Int).toNat) := ⟨_, rfl⟩
              replace H : (if y130.length + y133.length < 8796093022208 then ((some (y130 ++ y133 : List ByteArray)).bind fun y137 => (if y137.length < 8796093022208 then ((some (y137 ++ [a1] : List ByteArray)).bind fun y140 => ((some (l0.drop (x5_1 : Int).toNat : List ByteArray)).bind fun y143 => (if y140.length + y143.length < 8796093022208 then (some (y140 ++ y143)) else (none)))) else (none))) else (none)) = some r := by first | (rw [hy133]; with_reducible exact H) | (have H2_ := (Option.bind_some _ _).symm.trans H; rw [hy133]; with_reducible exact H2_) | (have H2_ := (Option.bind_some _ _).symm.trans H; with_reducible exact H2_) | with_reducible exact H | (rw [hy133]; exact H) | exact H
              have Ny133 := Aside0.mk hy133
              clear hy133
              by_cases c26 : y130.length + y133.length < 8796093022208
              · rw [if_pos c26] at H
                have LMc26 := Aside0.mk c26
                clear c26
                obtain ⟨y137, hy137⟩ : ∃ y_ : List ByteArray, y_ = (y130 ++ y133) := ⟨_, rfl⟩
                replace H : (if y137.length < 8796093022208 then ((some (y137 ++ [a1] : List ByteArray)).bind fun y140 => ((some (l0.drop (x5_1 : Int).toNat : List ByteArray)).bind fun y143 => (if y140.length + y143.length < 8796093022208 then (some (y140 ++ y143)) else (none)))) else (none)) = some r := by first | (rw [hy137]; with_reducible exact H) | (have H2_ := (Option.bind_some _ _).symm.trans H; rw [hy137]; with_reducible exact H2_) | (have H2_ := (Option.bind_some _ _).symm.trans H; with_reducible exact H2_) | with_reducible exact H | (rw [hy137]; exact H) | exact H
                have Ny137 := Aside0.mk hy137
                clear hy137
                by_cases c27 : y137.length < 8796093022208
                · rw [if_pos c27] at H
                  have LMc27 := Aside0.mk c27
                  clear c27
                  obtain ⟨y140, hy140⟩ : ∃ y_ : List ByteArray, y_ = (y137 ++ [a1]) := ⟨_, rfl⟩
                  replace H : ((some (l0.drop (x5_1 : Int).toNat : List ByteArray)).bind fun y143 => (if y140.length + y143.length < 8796093022208 then (some (y140 ++ y143)) else (none))) = some r := by first | (rw [hy140]; with_reducible exact H) | (have H2_ := (Option.bind_some _ _).symm.trans H; rw [hy140]; with_reducible exact H2_) | (have H2_ := (Option.bind_some _ _).symm.trans H; with_reducible exact H2_) | with_reducible exact H | (rw [hy140]; exact H) | exact H
                  have Ny140 := Aside0.mk hy140
                  clear hy140
                  have c28b0 := eq_true (of_decide_eq_true (by first | (with_reducible assumption) | assumption) : 0 ≤ x5_1)
                  have c29b0 := eq_true (of_decide_eq_true (by first | (with_reducible assumption) | assumption) : x5_1 ≤ (l0.length : Int))
                  obtain ⟨y143, hy143⟩ : ∃ y_ : List ByteArray, y_ = (l0.drop (x5_1 : Int).toNat) := ⟨_, rfl⟩
                  replace H : (if y140.length + y143.length < 8796093022208 then (some (y140 ++ y143)) else (none)) = some r := by first | (rw [hy143]; with_reducible exact H) | (have H2_ := (Option.bind_some _ _).symm.trans H; rw [hy143]; with_reducible exact H2_) | (have H2_ := (Option.bind_some _ _).symm.trans H; with_reducible exact H2_) | with_reducible exact H | (rw [hy143]; exact H) | exact H
                  have Ny143 := Aside0.mk hy143
                  clear hy143
                  by_cases c30 : y140.length + y143.length < 8796093022208
                  · rw [if_pos c30] at H
                    have LMc30 := Aside0.mk c30
                    clear c30
                    obtain ⟨y147, hy147⟩ : ∃ y_ : List ByteArray, y_ = (y140 ++ y143) := ⟨_, rfl⟩
                    replace H : (some y147) = some r := by first | (rw [hy147]; with_reducible exact H) | (have H2_ := (Option.bind_some _ _).symm.trans H; rw [hy147]; with_reducible exact H2_) | (have H2_ := (Option.bind_some _ _).symm.trans H; with_reducible exact H2_) | with_reducible exact H | (rw [hy147]; exact H) | exact H
                    have Ny147 := Aside0.mk hy147
                    clear hy147
                    obtain rfl := Option.some.inj H
                    go_wp2_with (first | ((with_reducible refine gate_dst (N := 25) rfl ?_); refine Kd.R_lit Kd.string _ 9 ?hg (N := 25) ?hd (xs := ([] : List ByteArray)) (inner := []) (ok := fun _ => True) (okp := fun _ => True) ?hr ?hp (fun _ hk => hk) trivial (Below.refl _ _) (Nat.le_refl _) (by simp) ?_; (case hd => rfl); (case hg => rfl); (case hr => first | (go_simp; done) | (go_simp; rfl)); (case hp => exact (Reps.none _ _)); intro v131 w31 ho32 hb hg_ hnew_; clear hg_ hnew_; (first | rw [← Ny130.out] at ho32 | (simp only [Int.reduceToNat] at ho32; rw [← Ny130.out] at ho32)); have n0_ := Aside0.mk (Kd.R_elder' (by (with_reducible repeat (first | apply Kd.R_alloc | apply Kd.R_drewN | apply Kd.R_drew)); exact HO_0.out) (Kd.R_base ho32) hb); have n1_ := Aside0.mk (Kd.R_lower (Kd.R_new' (Kd.R_newM (M := fun k_ => (P0_ k_ ∨ w.heap.size ≤ k_)) ho32 (by first | exact HK.out.1 | exact (show Kept w _ (fun k_ => P0_ k_) from by repeat (first | (with_reducible first | exact HK.out | apply Kept.alloc | apply Kept.drewN | apply Kept.drew) | exact HK.out)).1) (fun k_ h_ => .inr h_)) (Kd.R_lt (by (with_reducible repeat (first | apply Kd.R_alloc | apply Kd.R_drewN | apply Kd.R_drew)); exact HO_0.out))) (below_size (by repeat (first | (with_reducible first | exact HB.out | apply below_alloc | apply pw_below_drewN | apply below_drew1) | exact HB.out)))); have n2_ := Aside0.mk (Kept.below (S := (fun k_ => P0_ k_)) (by repeat (first | (with_reducible first | exact HK.out | apply Kept.alloc | apply Kept.drewN | apply Kept.drew) | exact HK.out)) hb); have n3_ := Aside0.mk (below_step (by repeat (first | (with_reducible first | exact HB.out | apply below_alloc | apply pw_below_drewN | apply below_drew1) | exact HB.out)) hb); clear HO_0; clear HK; clear HB; have HO_0 := n0_; have HO132 := n1_; have HK := n2_; have HB := n3_; clear n0_ n1_ n2_ n3_; clear hb ho32; have q33 : (x5_1 : Int) ≤ ((l0.length : Int) : Int) := of_decide_eq_true (by first | (with_reducible assumption) | assumption); obtain ⟨i033, hi033, _, hsz33, _⟩ := info_parts info9; have hroom33 : l0.length ≤ co6 := (Kd.R_reads' HO_0.out).2.1; have hC33 : Kd.C Kd.string _ Ao6 l0.length l0 := (Kd.R_reads' HO_0.out).2.2; have hcut33 := cut_to (P := Try.prog) 27 9 .i64 Try.underlying27 hi033 Ao6 l0.length co6 x5_1 (of_decide_eq_true (by first | (with_reducible assumption) | assumption)) q33 hroom33; have hr33 := Kd.C_take (m := (x5_1 : Int).toNat) hC33 (by omega); have hy33 : y133.length = (x5_1 : Int).toNat := (by rw [Ny133.out, List.length_take]; omega); rw [← Ny133.out] at hr33; rw [← hy33] at hcut33; have HR136 := Aside0.mk hr33; have HC136 := Aside0.mk (show y133.length ≤ co6 from by omega); clear hr33 hC33 hroom33 hi033 hsz33; have KY33 := Aside0.mk hy33; clear hy33; have KL33 := Aside0.mk (show (x5_1 : Int).toNat ≤ l0.length from by omega); replace q33 := eq_true q33) | ((with_reducible refine gate_builtin (b := .append) (xs := #[.tmp 25, .tmp 28]) rfl ?_); at_builtin; refine Kd.R_append_rows Kd.string (w0 := w0) w0.heap.size rfl (.tmp 25) (.tmp 28) 27 9 (.string ⟨#[]⟩) 16 rfl Try.underlying27 info9 rfl (by decide) (by omega) v131 y130 y133 _ _ _ (fun k_ => (P0_ k_ ∨ w.heap.size ≤ k_) ∧ some k_ ≠ (.slice Ao6 l0.length co6 : Value).ownBlock) (fun _ => False) rfl rfl ?aO ?aR (fun _ _ h => h) (fun _ h => h.elim) ?aF ?aB ?aS ?aL ?_; (case aR => repeat (first | exact (by repeat (first | (with_reducible exact HR136.out) | (with_reducible refine Kd.C_alloc ?_ _) | (with_reducible refine Kd.C_drewN ?_ _) | (with_reducible refine Kd.C_drew ?_) | exact HR136.out)) | (with_reducible refine Kd.C_alloc ?_ _) | (with_reducible refine Kd.C_drewN ?_ _) | (with_reducible refine Kd.C_drew ?_))); (case aB => exact (by repeat (first | (with_reducible first | exact HB.out | apply below_alloc | apply pw_below_drewN | apply below_drew1) | exact HB.out))); (case aF => exact (fun k_ hk => ⟨(.inr (Nat.le_trans (by first | exact HK.out.1 | exact (show Kept w _ (fun k_ => P0_ k_) from by repeat (first | (with_reducible first | exact HK.out | apply Kept.alloc | apply Kept.drewN | apply Kept.drew) | exact HK.out)).1) hk)), Kd.fresh' (Kd.R_lt (by (with_reducible repeat (first | apply Kd.R_alloc | apply Kd.R_drewN | apply Kd.R_drew)); exact HO_0.out)) k_ hk⟩)); (case aO => exact (by (with_reducible repeat (first | apply Kd.R_alloc | apply Kd.R_drewN | apply Kd.R_drew)); exact Kd.R_mono HO132.out (fun _ hk => ⟨hk.1.1, hk.2⟩))); (case aS => exact (below_size (by repeat (first | (with_reducible first | exact HB.out | apply below_alloc | apply pw_below_drewN | apply below_drew1) | exact HB.out)))); (case aL => have := LMc26.out; omega); intro v138 w34 ho hb hg hat; rw [← Ny137.out] at ho; have n0_ := Aside0.mk (Kd.R_after (ok := (fun k_ => (P0_ k_ ∨ w.heap.size ≤ k_))) (by (with_reducible repeat (first | apply Kd.R_alloc | apply Kd.R_drewN | apply Kd.R_drew)); exact HO_0.out) hg hat); have n1_ := Aside0.mk (hb); have n2_ := Aside0.mk (Kept.of_grown (S := (fun k_ => P0_ k_)) hg (by repeat (first | (with_reducible first | exact HK.out | apply Kept.alloc | apply Kept.drewN | apply Kept.drew) | exact HK.out)) (fun k_ e_ => (HO132.out.1 k_ e_).1.1)); have n3_ := Aside0.mk ((show Kd.C Kd.string w34 Ao6 y133.length y133 from by rw [Ny133.out]; exact Kd.C_take (m := (x5_1 : Int).toNat) ((Kd.R_reads' (Kd.R_after (ok := (fun k_ => (P0_ k_ ∨ w.heap.size ≤ k_))) (by (with_reducible repeat (first | apply Kd.R_alloc | apply Kd.R_drewN | apply Kd.R_drew)); exact HO_0.out) hg hat)).2.2) KL33.out)); have n4_ := Aside0.mk (ho); clear HO_0; clear HB; clear HK; clear HR136; clear HO132; have HO_0 := n0_; have HB := n1_; have HK := n2_; have HR136 := n3_; have HO139 := n4_; clear n0_ n1_ n2_ n3_ n4_; clear ho hb hg hat) | ((with_reducible refine gate_builtin (b := .append) (xs := #[.tmp 29, .tmp 31]) rfl ?_); at_builtin; refine Kd.R_append Kd.string (w0 := w0) w0.heap.size rfl (.tmp 29) (.tmp 31) 27 9 (.string ⟨#[]⟩) 16 rfl Try.underlying27 info9 rfl (by decide) (by omega) v138 y137 a1 [.string a1] (fun k_ => (P0_ k_ ∨ w.heap.size ≤ k_) ∧ some k_ ≠ (.slice Ao6 l0.length co6 : Value).ownBlock) (fun _ => False) rfl rfl ?aP (fun _ hk => hk.elim) ?aF ?aO ?aB ?aS ?aL ?_; (case aP => exact rfl); (case aB => exact (by repeat (first | (with_reducible first | exact HB.out | apply below_alloc | apply pw_below_drewN | apply below_drew1) | exact HB.out))); (case aF => exact (fun k_ hk => ⟨(.inr (Nat.le_trans (by first | exact HK.out.1 | exact (show Kept w _ (fun k_ => P0_ k_) from by repeat (first | (with_reducible first | exact HK.out | apply Kept.alloc | apply Kept.drewN | apply Kept.drew) | exact HK.out)).1) hk)), Kd.fresh' (Kd.R_lt (by (with_reducible repeat (first | apply Kd.R_alloc | apply Kd.R_drewN | apply Kd.R_drew)); exact HO_0.out)) k_ hk⟩)); (case aO => exact (by (with_reducible repeat (first | apply Kd.R_alloc | apply Kd.R_drewN | apply Kd.R_drew)); exact HO139.out)); (case aS => exact (below_size (by repeat (first | (with_reducible first | exact HB.out | apply below_alloc | apply pw_below_drewN | apply below_drew1) | exact HB.out)))); (case aL => have := LMc27.out; omega); intro v141 w35 ho hb hg hat; rw [← Ny140.out] at ho; have n0_ := Aside0.mk (Kd.R_after (ok := (fun k_ => (P0_ k_ ∨ w.heap.size ≤ k_))) (by (with_reducible repeat (first | apply Kd.R_alloc | apply Kd.R_drewN | apply Kd.R_drew)); exact HO_0.out) hg hat); have n1_ := Aside0.mk (hb); have n2_ := Aside0.mk (Kept.of_grown (S := (fun k_ => P0_ k_)) hg (by repeat (first | (with_reducible first | exact HK.out | apply Kept.alloc | apply Kept.drewN | apply Kept.drew) | exact HK.out)) (fun k_ e_ => (HO139.out.1 k_ e_).1)); have n3_ := Aside0.mk ((show Kd.C Kd.string w35 Ao6 y133.length y133 from by rw [Ny133.out]; exact Kd.C_take (m := (x5_1 : Int).toNat) ((Kd.R_reads' (Kd.R_after (ok := (fun k_ => (P0_ k_ ∨ w.heap.size ≤ k_))) (by (with_reducible repeat (first | apply Kd.R_alloc | apply Kd.R_drewN | apply Kd.R_drew)); exact HO_0.out) hg hat)).2.2) KL33.out)); have n4_ := Aside0.mk (ho); clear HO_0; clear HB; clear HK; clear HR136; clear HO139; have HO_0 := n0_; have HB := n1_; have HK := n2_; have HR136 := n3_; have HO142 := n4_; clear n0_ n1_ n2_ n3_ n4_; clear ho hb hg hat; have q36 : (x5_1 : Int) ≤ ((l0.length : Int) : Int) := of_decide_eq_true (by first | (with_reducible assumption) | assumption); obtain ⟨i036, hi036, _, hsz36, _⟩ := info_parts info9; have hroom36 : l0.length ≤ co6 := (Kd.R_reads' HO_0.out).2.1; have hC36 : Kd.C Kd.string _ Ao6 l0.length l0 := (Kd.R_reads' HO_0.out).2.2; have q036 : (0 : Int) ≤ (x5_1 : Int) := of_decide_eq_true (by first | (with_reducible assumption) | assumption); have hcut36 := cut_from (P := Try.prog) 27 9 .i64 Try.underlying27 hi036 1 hsz36 Ao6 l0.length co6 x5_1 q036 q36; have hr36 := Kd.C_drop (m := (x5_1 : Int).toNat) (c := co6) hC36 (by omega) hroom36; obtain ⟨A36, hA36⟩ : ∃ A1, A1 = (if co6 = (x5_1 : Int).toNat then Ao6 else (Ao6 : Option Addr).map (·.add ((x5_1 : Int).toNat * 1))) := ⟨_, rfl⟩; obtain ⟨c36, hc36⟩ : ∃ c1, c1 = co6 - (x5_1 : Int).toNat := ⟨_, rfl⟩; have hy36 : y143.length = l0.length - (x5_1 : Int).toNat := (by rw [Ny143.out, List.length_drop] <;> omega); rw [show (l0).drop (x5_1 : Int).toNat = y143 from Ny143.out.symm] at hr36; replace hr36 : Kd.C Kd.string _ A36 y143.length y143 := (by rw [hA36]; exact hr36); rw [← hy36, ← hA36, ← hc36] at hcut36; have HR146 := Aside0.mk hr36; have HC146 := Aside0.mk (show y143.length ≤ c36 from by rw [hy36, hc36]; exact Nat.sub_le_sub_right hroom36 _); clear hr36 hC36 hroom36 hi036 hsz36 hc36; have KY36 := Aside0.mk hy36; have KA36 := Aside0.mk hA36; clear hy36 hA36; have KL36 := Aside0.mk (show (x5_1 : Int).toNat ≤ l0.length from by omega); replace q36 := eq_true q36) | ((with_reducible refine gate_builtin (b := .append) (xs := #[.tmp 33, .tmp 36]) rfl ?_); at_builtin; refine Kd.R_append_rows Kd.string (w0 := w0) w0.heap.size rfl (.tmp 33) (.tmp 36) 27 9 (.string ⟨#[]⟩) 16 rfl Try.underlying27 info9 rfl (by decide) (by omega) v141 y140 y143 _ _ _ (fun k_ => (P0_ k_ ∨ w.heap.size ≤ k_) ∧ some k_ ≠ (.slice Ao6 l0.length co6 : Value).ownBlock) (fun _ => False) rfl rfl ?aO ?aR (fun _ _ h => h) (fun _ h => h.elim) ?aF ?aB ?aS ?aL ?_; (case aR => repeat (first | exact (by repeat (first | (with_reducible exact HR146.out) | (with_reducible refine Kd.C_alloc ?_ _) | (with_reducible refine Kd.C_drewN ?_ _) | (with_reducible refine Kd.C_drew ?_) | exact HR146.out)) | (with_reducible refine Kd.C_alloc ?_ _) | (with_reducible refine Kd.C_drewN ?_ _) | (with_reducible refine Kd.C_drew ?_))); (case aB => exact (by repeat (first | (with_reducible first | exact HB.out | apply below_alloc | apply pw_below_drewN | apply below_drew1) | exact HB.out))); (case aF => exact (fun k_ hk => ⟨(.inr (Nat.le_trans (by first | exact HK.out.1 | exact (show Kept w _ (fun k_ => P0_ k_) from by repeat (first | (with_reducible first | exact HK.out | apply Kept.alloc | apply Kept.drewN | apply Kept.drew) | exact HK.out)).1) hk)), Kd.fresh' (Kd.R_lt (by (with_reducible repeat (first | apply Kd.R_alloc | apply Kd.R_drewN | apply Kd.R_drew)); exact HO_0.out)) k_ hk⟩)); (case aO => exact (by (with_reducible repeat (first | apply Kd.R_alloc | apply Kd.R_drewN | apply Kd.R_drew)); exact HO142.out)); (case aS => exact (below_size (by repeat (first | (with_reducible first | exact HB.out | apply below_alloc | apply pw_below_drewN | apply below_drew1) | exact HB.out)))); (case aL => have := LMc30.out; omega); intro v148 w37 ho hb hg hat; rw [← Ny147.out] at ho; have n0_ := Aside0.mk (Kd.R_after (ok := (fun k_ => (P0_ k_ ∨ w.heap.size ≤ k_))) (by (with_reducible repeat (first | apply Kd.R_alloc | apply Kd.R_drewN | apply Kd.R_drew)); exact HO_0.out) hg hat); have n1_ := Aside0.mk (hb); have n2_ := Aside0.mk (Kept.of_grown (S := (fun k_ => P0_ k_)) hg (by repeat (first | (with_reducible first | exact HK.out | apply Kept.alloc | apply Kept.drewN | apply Kept.drew) | exact HK.out)) (fun k_ e_ => (HO142.out.1 k_ e_).1)); have n3_ := Aside0.mk ((show Kd.C Kd.string w37 Ao6 y133.length y133 from by rw [Ny133.out]; exact Kd.C_take (m := (x5_1 : Int).toNat) ((Kd.R_reads' (Kd.R_after (ok := (fun k_ => (P0_ k_ ∨ w.heap.size ≤ k_))) (by (with_reducible repeat (first | apply Kd.R_alloc | apply Kd.R_drewN | apply Kd.R_drew)); exact HO_0.out) hg hat)).2.2) KL33.out)); have n4_ := Aside0.mk ((show Kd.C Kd.string w37 A36 y143.length y143 from by rw [Ny143.out, KA36.out]; exact Kd.C_drop (m := (x5_1 : Int).toNat) (c := co6) ((Kd.R_reads' (Kd.R_after (ok := (fun k_ => (P0_ k_ ∨ w.heap.size ≤ k_))) (by (with_reducible repeat (first | apply Kd.R_alloc | apply Kd.R_drewN | apply Kd.R_drew)); exact HO_0.out) hg hat)).2.2) KL36.out ((Kd.R_reads' (Kd.R_after (ok := (fun k_ => (P0_ k_ ∨ w.heap.size ≤ k_))) (by (with_reducible repeat (first | apply Kd.R_alloc | apply Kd.R_drewN | apply Kd.R_drew)); exact HO_0.out) hg hat)).2.1))); have n5_ := Aside0.mk (ho); clear HO_0; clear HB; clear HK; clear HR136; clear HR146; clear HO142; have HO_0 := n0_; have HB := n1_; have HK := n2_; have HR136 := n3_; have HR146 := n4_; have HO149 := n5_; clear n0_ n1_ n2_ n3_ n4_ n5_; clear ho hb hg hat))
                    go_ret
                    exact ⟨_, by first | rfl | (simp [errW_none, errW_some] <;> rfl) | (simp [*, errW_none, errW_some] <;> rfl), by (with_reducible repeat (first | apply Kd.R_alloc | apply Kd.R_drewN | apply Kd.R_drew)); exact Kd.R_mono HO149.out (fun _ hk => hk.1), by repeat (first | (with_reducible first | exact HB.out | apply below_alloc | apply pw_below_drewN | apply below_drew1) | exact HB.out), by repeat (first | (with_reducible first | exact HK.out | apply Kept.alloc | apply Kept.drewN | apply Kept.drew) | exact HK.out)⟩
                  · rw [if_neg c30] at H
                    exact absurd H (by simp)
                · rw [if_neg c27] at H
                  exact absurd H (by simp)
              · rw [if_neg c26] at H
                exact absurd H (by simp)
            · rw [if_neg c25] at H
              exact absurd H (by simp)
          · rw [if_neg c24] at H
            exact absurd H (by simp)

-- NOT PRINTED: function 30 (slices_ContainsFunc_string_string)

-- NOT PRINTED: function 13 (cache_Cache_Touch)

-- NOT PRINTED: function 3 (ciceronelaw29_CacheFresh)

end Go.Proofs.Ytbdikfadnfjmoaa.PCacheFresh
