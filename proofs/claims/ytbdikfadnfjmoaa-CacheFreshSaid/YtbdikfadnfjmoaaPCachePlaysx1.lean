-- PRINTED BY print.sh 35421559b90ae4d0a3588c463048766b98c2df88dd9212a6774a882060cdf62d: not written by this session
import Derived.Test.YtbdikfadnfjmoaaPCachePlaysx0
namespace Go.Proofs.Ytbdikfadnfjmoaa.PCachePlays
open Go.RowKit Go.Proofs.YtbdikfadnfjmoaaW.PrintWords Go.Proofs.YtbdikfadnfjmoaaW.PrintLast Go.Proofs.YtbdikfadnfjmoaaW.PrintMore
attribute [local go_sem] max2_int min2_int max_two min_two max_three min_three max_four min_four   -- for this text's walks alone
set_option linter.unusedVariables false
set_option linter.unusedSimpArgs false

-- NOT PRINTED: function 9 (cache_New)

-- NOT PRINTED: function 25 (slices_Clone_string_string)

-- NOT PRINTED: function 42 (slices_IndexFunc_string_string)

-- NOT PRINTED: function 49 (slices_DeleteFunc_string_string)

-- NOT PRINTED: function 40 (cache_Cache_out)

-- NOT PRINTED: function 26 (cache_Cache_used)

-- NOT PRINTED: function 27 (cache_Cache_drop)

-- NOT PRINTED: function 10 (cache_Cache_Put)

-- NOT PRINTED: function 12 (cache_Cache_Get)

-- NOT PRINTED: function 19 (cache_Cache_Len)

-- NOT PRINTED: function 7 (ciceronelaw29_lives)

/-! ### ciceronelaw29_heavy: function 8 -/
mutual
def ciceronelaw29_heavy.l0 : Nat → List (S29) → Int → Option (Bool)
  | 0, _, _ => none
  | k + 1, x0, x3 => if x3 < (x0.length : Int) then (if 0 ≤ x3 then (if (((rd_T29 x0 x3).f1).size : Int) > 100 then (ciceronelaw29_heavy.j1 k x0 x3 true) else (if (((rd_T29 x0 x3).f2).size : Int) > 100 then (ciceronelaw29_heavy.j1 k x0 x3 true) else (ciceronelaw29_heavy.j1 k x0 x3 (decide ((((rd_T29 x0 x3).f3).length : Int) > 10))))) else (none)) else (some false)
def ciceronelaw29_heavy.j1 : Nat → List (S29) → Int → Bool → Option (Bool)
  | 0, _, _, _ => none
  | k + 1, x0, x3, x38 => if x38 = true then (some true) else (ciceronelaw29_heavy.l1 k x0 x3 0)
def ciceronelaw29_heavy.l1 : Nat → List (S29) → Int → Int → Option (Bool)
  | 0, _, _, _ => none
  | k + 1, x0, x3, x4 => if 0 ≤ x3 then (if x3 < (x0.length : Int) then (if x4 < (((rd_T29 x0 x3).f3).length : Int) then (if 0 ≤ x4 then (if ((rdOf ByteArray.empty ((rd_T29 x0 x3).f3) x4).size : Int) > 100 then (some true) else (ciceronelaw29_heavy.l1 k x0 x3 (wrap64 (x4 + 1)))) else (none)) else (ciceronelaw29_heavy.l0 k x0 (wrap64 (x3 + 1)))) else (none)) else (none)
end
def ciceronelaw29_heavy.f (k : Nat) (l0 : List (S29)) : Option (Bool) := if (l0.length : Int) > 60 then (some true) else (ciceronelaw29_heavy.l0 k l0 0)
theorem ciceronelaw29_heavy.mono_l : ∀ k, (∀ y0 y1, LeO (ciceronelaw29_heavy.l0 k y0 y1) (ciceronelaw29_heavy.l0 (k + 1) y0 y1)) ∧ (∀ y0 y1 y2, LeO (ciceronelaw29_heavy.j1 k y0 y1 y2) (ciceronelaw29_heavy.j1 (k + 1) y0 y1 y2)) ∧ (∀ y0 y1 y2, LeO (ciceronelaw29_heavy.l1 k y0 y1 y2) (ciceronelaw29_heavy.l1 (k + 1) y0 y1 y2))
  | 0 => ⟨fun _ _ r h => by simp [ciceronelaw29_heavy.l0] at h, fun _ _ _ r h => by simp [ciceronelaw29_heavy.j1] at h, fun _ _ _ r h => by simp [ciceronelaw29_heavy.l1] at h⟩
  | k + 1 => by
    obtain ⟨ih0, ih1, ih2⟩ := ciceronelaw29_heavy.mono_l k
    refine ⟨?_, ?_, ?_⟩
    · intro y0 y1
      unfold ciceronelaw29_heavy.l0
      repeat' first
      | (with_reducible exact ih0 _ _)
      | (with_reducible exact ih1 _ _ _)
      | (with_reducible exact ih2 _ _ _)
      | (with_reducible exact LeO.refl _)
      | (with_reducible exact LeO.none _)
      | (with_reducible refine LeO.ite ?_ ?_)
      | (with_reducible refine LeO.bind ?_ (fun _ => ?_))
      | exact ih0 _ _
      | exact ih1 _ _ _
      | exact ih2 _ _ _
      | exact LeO.none _
      | refine LeO.ite ?_ ?_
      | refine LeO.bind ?_ (fun _ => ?_)
    · intro y0 y1 y2
      unfold ciceronelaw29_heavy.j1
      repeat' first
      | (with_reducible exact ih0 _ _)
      | (with_reducible exact ih1 _ _ _)
      | (with_reducible exact ih2 _ _ _)
      | (with_reducible exact LeO.refl _)
      | (with_reducible exact LeO.none _)
      | (with_reducible refine LeO.ite ?_ ?_)
      | (with_reducible refine LeO.bind ?_ (fun _ => ?_))
      | exact ih0 _ _
      | exact ih1 _ _ _
      | exact ih2 _ _ _
      | exact LeO.none _
      | refine LeO.ite ?_ ?_
      | refine LeO.bind ?_ (fun _ => ?_)
    · intro y0 y1 y2
      unfold ciceronelaw29_heavy.l1
      repeat' first
      | (with_reducible exact ih0 _ _)
      | (with_reducible exact ih1 _ _ _)
      | (with_reducible exact ih2 _ _ _)
      | (with_reducible exact LeO.refl _)
      | (with_reducible exact LeO.none _)
      | (with_reducible refine LeO.ite ?_ ?_)
      | (with_reducible refine LeO.bind ?_ (fun _ => ?_))
      | exact ih0 _ _
      | exact ih1 _ _ _
      | exact ih2 _ _ _
      | exact LeO.none _
      | refine LeO.ite ?_ ?_
      | refine LeO.bind ?_ (fun _ => ?_)
theorem ciceronelaw29_heavy.mono : ∀ a0 k, LeO (ciceronelaw29_heavy.f k a0) (ciceronelaw29_heavy.f (k + 1) a0) := by
  intro a0 k
  obtain ⟨ih0, ih1, ih2⟩ := ciceronelaw29_heavy.mono_l k
  unfold ciceronelaw29_heavy.f
  repeat' first
      | (with_reducible exact ih0 _ _)
      | (with_reducible exact ih1 _ _ _)
      | (with_reducible exact ih2 _ _ _)
      | (with_reducible exact LeO.refl _)
      | (with_reducible exact LeO.none _)
      | (with_reducible refine LeO.ite ?_ ?_)
      | (with_reducible refine LeO.bind ?_ (fun _ => ?_))
      | exact ih0 _ _
      | exact ih1 _ _ _
      | exact ih2 _ _ _
      | exact LeO.none _
      | refine LeO.ite ?_ ?_
      | refine LeO.bind ?_ (fun _ => ?_)
set_option maxHeartbeats 8000000 in
set_option maxRecDepth 100000 in
theorem ciceronelaw29_heavy.calls (k : Nat) (A0 : Option Addr) (c0 : Nat) (l0 : List (S29)) (r : Bool) (w : World) (hr0 : Kd.C k29 w A0 l0.length l0) (hc0 : l0.length ≤ c0) (h : ciceronelaw29_heavy.f k l0 = some r) :
    Calls Try.prog 8 #[.slice A0 l0.length c0] w fun e w' => e = .returned (.bool r) ∧ Drawn0 w w' := by
  have HR0 := Aside0.mk hr0
  have HC0 := Aside0.mk hc0
  clear hr0 hc0
  have H : (if (l0.length : Int) > 60 then (some true) else (ciceronelaw29_heavy.l0 k l0 0)) = some r := h
  clear h
  by_cases c2 : (l0.length : Int) > 60
  · rw [if_pos c2] at H
    have c2b0 : decide (60 < (l0.length : Int)) = true := decide_eq_true c2
    have c2b1 : decide (60 < l0.length) = true := decide_eq_true (by omega)
    clear c2
    obtain rfl := Option.some.inj H
    go_enter Try.func8, Try.ntmps8
    go_wp2
    go_ret
    exact ⟨by first | rfl | (simp; done) | (simp [*]; done), by repeat (first | exact Drawn0.refl _ | apply Drawn0.step)⟩
  · rw [if_neg c2] at H
    have c2b0 : decide (60 < (l0.length : Int)) = false := decide_eq_false c2
    have c2b1 : decide (60 < l0.length) = false := decide_eq_false (by omega)
    clear c2
    have H' := Aside0.mk H
    clear H
    go_enter Try.func8, Try.ntmps8
    go_wp2
    go_loopg [3] k (fun kq v3 w' => ∃ (x3_1 : Int), v3 = .int .i64 x3_1 ∧ Aside0 (ciceronelaw29_heavy.l0 kq l0 x3_1 = some r) ∧ Aside0 (kq ≤ k) ∧ Drawn0 w w')
    case atStart => exact ⟨(0), (by first | rfl | (simp; done) | (simp [*]; done)), H', ⟨Nat.le_refl _⟩, by repeat (first | exact Drawn0.refl _ | apply Drawn0.step)⟩
    case round =>
      clear H'
      try clear c2
      try clear c2b0
      try clear c2b1
      try clear p2
      obtain ⟨x3_1, rfl, HA, HK1, ⟨m1, rfl⟩⟩ := hrel
      cases gk with
      | zero => exact absurd HA.out (by simp [ciceronelaw29_heavy.l0])
      | succ k1 =>
        have H := HA.out
        clear HA
        simp only [ciceronelaw29_heavy.l0] at H
        by_cases c3 : x3_1 < (l0.length : Int)
        · rw [if_pos c3] at H
          have c3b0 : decide (x3_1 < (l0.length : Int)) = true := decide_eq_true c3
          clear c3
          have HC4 := Aside0.mk H
          clear H
          go_upto_region 6 with (fail)
          go_cut [38] (fun v38 wc => ∃ (kq : Nat) (x38_3 : Bool), v38 = .bool x38_3 ∧ Aside0 (ciceronelaw29_heavy.j1 kq l0 x3_1 x38_3 = some r) ∧ Aside0 (kq ≤ k1) ∧ Drawn0 w wc)
          case first =>
            have H := HC4.out
            clear HC4
            by_cases c5 : 0 ≤ x3_1
            · rw [if_pos c5] at H
              have c5b0 : decide (0 ≤ x3_1) = true := decide_eq_true c5
              clear c5
              (first | rw [c5b0] | (simp only [i64_w, i32_w]; rw [c5b0]) | skip)
              by_cases c6 : (((rd_T29 l0 x3_1).f1).size : Int) > 100
              · rw [if_pos c6] at H
                have c6b0 : decide (100 < (((rd_T29 l0 x3_1).f1).size : Int)) = true := decide_eq_true c6
                have c6b1 : decide (100 < ((rd_T29 l0 x3_1).f1).size) = true := decide_eq_true (by omega)
                clear c6
                have H' := Aside0.mk H
                clear H
                have p101 : 0 ≤ (x3_1 : Int) := of_decide_eq_true (by first | (with_reducible assumption) | assumption)
                have q101 : x3_1 < (l0.length : Int) := of_decide_eq_true (by first | (with_reducible assumption) | assumption)
                obtain ⟨ad101, A101_3, c101_3, e101, hx101_0, hx101_1, hx101_2, hx101_3, hl101_3, hi101_3⟩ := at_T29 HR0.out x3_1 p101 q101
                cases e101
                have HR101_3 := Aside0.mk hi101_3
                have HC101_3 := Aside0.mk hl101_3
                clear hi101_3 hl101_3
                replace p101 := eq_true p101
                replace q101 := eq_true q101
                go_wp2
                go_meet
                case rel => exact ⟨_, (true), (by first | rfl | (simp; done) | (simp [*]; done)), H', ⟨by have := HK1.out; first | omega | exact Nat.le_refl _⟩, by repeat (first | exact Drawn0.refl _ | apply Drawn0.step)⟩
              · rw [if_neg c6] at H
                have c6b0 : decide (100 < (((rd_T29 l0 x3_1).f1).size : Int)) = false := decide_eq_false c6
                have c6b1 : decide (100 < ((rd_T29 l0 x3_1).f1).size) = false := decide_eq_false (by omega)
                clear c6
                by_cases c7 : (((rd_T29 l0 x3_1).f2).size : Int) > 100
                · rw [if_pos c7] at H
                  have c7b0 : decide (100 < (((rd_T29 l0 x3_1).f2).size : Int)) = true := decide_eq_true c7
                  have c7b1 : decide (100 < ((rd_T29 l0 x3_1).f2).size) = true := decide_eq_true (by omega)
                  clear c7
                  have H' := Aside0.mk H
                  clear H
                  have p101 : 0 ≤ (x3_1 : Int) := of_decide_eq_true (by first | (with_reducible assumption) | assumption)
                  have q101 : x3_1 < (l0.length : Int) := of_decide_eq_true (by first | (with_reducible assumption) | assumption)
                  obtain ⟨ad101, A101_3, c101_3, e101, hx101_0, hx101_1, hx101_2, hx101_3, hl101_3, hi101_3⟩ := at_T29 HR0.out x3_1 p101 q101
                  cases e101
                  have HR101_3 := Aside0.mk hi101_3
                  have HC101_3 := Aside0.mk hl101_3
                  clear hi101_3 hl101_3
                  replace p101 := eq_true p101
                  replace q101 := eq_true q101
                  have p102 : 0 ≤ (x3_1 : Int) := of_decide_eq_true (by first | (with_reducible assumption) | assumption)
                  have q102 : x3_1 < (l0.length : Int) := of_decide_eq_true (by first | (with_reducible assumption) | assumption)
                  obtain ⟨ad102, A102_3, c102_3, e102, hx102_0, hx102_1, hx102_2, hx102_3, hl102_3, hi102_3⟩ := at_T29 HR0.out x3_1 p102 q102
                  obtain rfl : ad101 = ad102 := (by injection e102)
                  have HR102_3 := Aside0.mk hi102_3
                  have HC102_3 := Aside0.mk hl102_3
                  clear hi102_3 hl102_3
                  replace p102 := eq_true p102
                  replace q102 := eq_true q102
                  have ea_ := Option.some.inj (hx101_3.symm.trans hx102_3)
                  injection ea_ with ea_ en_ ec_
                  subst ea_
                  subst ec_
                  clear en_
                  go_wp2
                  go_meet
                  case rel => exact ⟨_, (true), (by first | rfl | (simp; done) | (simp [*]; done)), H', ⟨by have := HK1.out; first | omega | exact Nat.le_refl _⟩, by repeat (first | exact Drawn0.refl _ | apply Drawn0.step)⟩
                · rw [if_neg c7] at H
                  have c7b0 : decide (100 < (((rd_T29 l0 x3_1).f2).size : Int)) = false := decide_eq_false c7
                  have c7b1 : decide (100 < ((rd_T29 l0 x3_1).f2).size) = false := decide_eq_false (by omega)
                  clear c7
                  have H' := Aside0.mk H
                  clear H
                  have p101 : 0 ≤ (x3_1 : Int) := of_decide_eq_true (by first | (with_reducible assumption) | assumption)
                  have q101 : x3_1 < (l0.length : Int) := of_decide_eq_true (by first | (with_reducible assumption) | assumption)
                  obtain ⟨ad101, A101_3, c101_3, e101, hx101_0, hx101_1, hx101_2, hx101_3, hl101_3, hi101_3⟩ := at_T29 HR0.out x3_1 p101 q101
                  cases e101
                  have HR101_3 := Aside0.mk hi101_3
                  have HC101_3 := Aside0.mk hl101_3
                  clear hi101_3 hl101_3
                  replace p101 := eq_true p101
                  replace q101 := eq_true q101
                  have p102 : 0 ≤ (x3_1 : Int) := of_decide_eq_true (by first | (with_reducible assumption) | assumption)
                  have q102 : x3_1 < (l0.length : Int) := of_decide_eq_true (by first | (with_reducible assumption) | assumption)
                  obtain ⟨ad102, A102_3, c102_3, e102, hx102_0, hx102_1, hx102_2, hx102_3, hl102_3, hi102_3⟩ := at_T29 HR0.out x3_1 p102 q102
                  obtain rfl : ad101 = ad102 := (by injection e102)
                  have HR102_3 := Aside0.mk hi102_3
                  have HC102_3 := Aside0.mk hl102_3
                  clear hi102_3 hl102_3
                  replace p102 := eq_true p102
                  replace q102 := eq_true q102
                  have ea_ := Option.some.inj (hx101_3.symm.trans hx102_3)
                  injection ea_ with ea_ en_ ec_
                  subst ea_
                  subst ec_
                  clear en_
                  have p103 : 0 ≤ (x3_1 : Int) := of_decide_eq_true (by first | (with_reducible assumption) | assumption)
                  have q103 : x3_1 < (l0.length : Int) := of_decide_eq_true (by first | (with_reducible assumption) | assumption)
                  obtain ⟨ad103, A103_3, c103_3, e103, hx103_0, hx103_1, hx103_2, hx103_3, hl103_3, hi103_3⟩ := at_T29 HR0.out x3_1 p103 q103
                  obtain rfl : ad101 = ad103 := (by injection e103)
                  have HR103_3 := Aside0.mk hi103_3
                  have HC103_3 := Aside0.mk hl103_3
                  clear hi103_3 hl103_3
                  replace p103 := eq_true p103
                  replace q103 := eq_true q103
                  have ea_ := Option.some.inj (hx101_3.symm.trans hx103_3)
                  injection ea_ with ea_ en_ ec_
                  subst ea_
                  subst ec_
                  clear en_
                  go_wp2
                  go_meet
                  case rel => exact ⟨_, (decide ((((rd_T29 l0 x3_1).f3).length : Int) > 10)), (by first | rfl | (simp; done) | (simp [*]; done)), H', ⟨by have := HK1.out; first | omega | exact Nat.le_refl _⟩, by repeat (first | exact Drawn0.refl _ | apply Drawn0.step)⟩
            · rw [if_neg c5] at H
              exact absurd H (by simp)
          case rest =>
            clear HC4
            try clear c1
            try clear p1
            try clear q1
            try clear hx1
            try clear c2
            try clear c2b0
            try clear c2b1
            try clear p2
            try clear c3
            try clear c3b0
            try clear c5
            try clear c5b0
            try clear c6
            try clear c6b0
            try clear c6b1
            try clear c7
            try clear c7b0
            try clear c7b1
            try clear hx101_0
            try clear hx101_1
            try clear hx101_2
            try clear hx101_3
            try clear hx102_0
            try clear hx102_1
            try clear hx102_2
            try clear hx102_3
            try clear hx103_0
            try clear hx103_1
            try clear hx103_2
            try clear hx103_3
            try clear p101
            try clear p102
            try clear p103
            try clear p2
            try clear q101
            try clear q102
            try clear q103
            obtain ⟨kq, x38_3, rfl, HA, HJ3, ⟨mc3, rfl⟩⟩ := hcut
            cases kq with
            | zero => exact absurd HA.out (by simp [ciceronelaw29_heavy.j1])
            | succ kj3 =>
              have H := HA.out
              clear HA
              simp only [ciceronelaw29_heavy.j1] at H
              by_cases c8 : x38_3 = true
              · subst c8
                have H1 : (some true) = some r := by rw [if_pos rfl] at H; exact H
                clear H
                have H := H1
                clear H1
                obtain rfl := Option.some.inj H
                go_wp2
                go_ret
                exact ⟨by first | rfl | (simp; done) | (simp [*]; done), by repeat (first | exact Drawn0.refl _ | apply Drawn0.step)⟩
              · replace c8 := Bool.eq_false_iff.mpr c8
                subst c8
                have H1 : (ciceronelaw29_heavy.l1 kj3 l0 x3_1 0) = some r := by rw [if_neg (show ¬ (false = true) by decide)] at H; exact H
                clear H
                have H := H1
                clear H1
                have H' := Aside0.mk H
                clear H
                go_wp2
                go_loopg [4] kj3 (fun kq v4 w' => ∃ (x4_3 : Int), v4 = .int .i64 x4_3 ∧ Aside0 (ciceronelaw29_heavy.l1 kq l0 x3_1 x4_3 = some r) ∧ Aside0 (kq ≤ kj3) ∧ Drawn0 w w')
                case atStart => exact ⟨(0), (by first | rfl | (simp; done) | (simp [*]; done)), H', ⟨Nat.le_refl _⟩, by repeat (first | exact Drawn0.refl _ | apply Drawn0.step)⟩
                case round =>
                  clear H'
                  try clear c1
                  try clear p1
                  try clear q1
                  try clear hx1
                  try clear c2
                  try clear c2b0
                  try clear c2b1
                  try clear p2
                  try clear c3
                  try clear c3b0
                  try clear c5
                  try clear c5b0
                  try clear c6
                  try clear c6b0
                  try clear c6b1
                  try clear c7
                  try clear c7b0
                  try clear c7b1
                  try clear c8
                  try clear hx101_0
                  try clear hx101_1
                  try clear hx101_2
                  try clear hx101_3
                  try clear hx102_0
                  try clear hx102_1
                  try clear hx102_2
                  try clear hx102_3
                  try clear hx103_0
                  try clear hx103_1
                  try clear hx103_2
                  try clear hx103_3
                  try clear p1
                  try clear p101
                  try clear p102
                  try clear p103
                  try clear p2
                  try clear q1
                  try clear q101
                  try clear q102
                  try clear q103
                  obtain ⟨x4_3, rfl, HA, HK3, ⟨m3, rfl⟩⟩ := hrel
                  cases gk with
                  | zero => exact absurd HA.out (by simp [ciceronelaw29_heavy.l1])
                  | succ k3 =>
                    have H := HA.out
                    clear HA
                    simp only [ciceronelaw29_heavy.l1] at H
                    by_cases c9 : 0 ≤ x3_1
                    · rw [if_pos c9] at H
                      have c9b0 : decide (0 ≤ x3_1) = true := decide_eq_true c9
                      clear c9
                      by_cases c10 : x3_1 < (l0.length : Int)
                      · rw [if_pos c10] at H
                        have c10b0 : decide (x3_1 < (l0.length : Int)) = true := decide_eq_true c10
                        clear c10
                        by_cases c11 : x4_3 < (((rd_T29 l0 x3_1).f3).length : Int)
                        · rw [if_pos c11] at H
                          have c11b0 : decide (x4_3 < (((rd_T29 l0 x3_1).f3).length : Int)) = true := decide_eq_true c11
                          clear c11
                          by_cases c12 : 0 ≤ x4_3
                          · rw [if_pos c12] at H
                            have c12b0 : decide (0 ≤ x4_3) = true := decide_eq_true c12
                            clear c12
                            by_cases c13 : ((rdOf ByteArray.empty ((rd_T29 l0 x3_1).f3) x4_3).size : Int) > 100
                            · rw [if_pos c13] at H
                              have c13b0 : decide (100 < ((rdOf ByteArray.empty ((rd_T29 l0 x3_1).f3) x4_3).size : Int)) = true := decide_eq_true c13
                              have c13b1 : decide (100 < (rdOf ByteArray.empty ((rd_T29 l0 x3_1).f3) x4_3).size) = true := decide_eq_true (by omega)
                              clear c13
                              obtain rfl := Option.some.inj H
                              have p104 : 0 ≤ (x3_1 : Int) := of_decide_eq_true (by first | (with_reducible assumption) | assumption)
                              have q104 : x3_1 < (l0.length : Int) := of_decide_eq_true (by first | (with_reducible assumption) | assumption)
                              obtain ⟨ad104, A104_3, c104_3, e104, hx104_0, hx104_1, hx104_2, hx104_3, hl104_3, hi104_3⟩ := at_T29 HR0.out x3_1 p104 q104
                              cases e104
                              have HR104_3 := Aside0.mk hi104_3
                              have HC104_3 := Aside0.mk hl104_3
                              clear hi104_3 hl104_3
                              replace p104 := eq_true p104
                              replace q104 := eq_true q104
                              have p105 : 0 ≤ (x3_1 : Int) := of_decide_eq_true (by first | (with_reducible assumption) | assumption)
                              have q105 : x3_1 < (l0.length : Int) := of_decide_eq_true (by first | (with_reducible assumption) | assumption)
                              obtain ⟨ad105, A105_3, c105_3, e105, hx105_0, hx105_1, hx105_2, hx105_3, hl105_3, hi105_3⟩ := at_T29 HR0.out x3_1 p105 q105
                              obtain rfl : ad104 = ad105 := (by injection e105)
                              have HR105_3 := Aside0.mk hi105_3
                              have HC105_3 := Aside0.mk hl105_3
                              clear hi105_3 hl105_3
                              replace p105 := eq_true p105
                              replace q105 := eq_true q105
                              have ea_ := Option.some.inj (hx104_3.symm.trans hx105_3)
                              injection ea_ with ea_ en_ ec_
                              subst ea_
                              subst ec_
                              clear en_
                              have p106 : 0 ≤ (x4_3 : Int) := of_decide_eq_true (by first | (with_reducible assumption) | assumption)
                              have q106 : x4_3 < (((rd_T29 l0 x3_1).f3).length : Int) := of_decide_eq_true (by first | (with_reducible assumption) | assumption)
                              obtain ⟨ad106, e106, hx106_0⟩ := Kd.at_string HR105_3.out x4_3 p106 q106
                              cases e106
                              replace p106 := eq_true p106
                              replace q106 := eq_true q106
                              go_wp2
                              go_ret
                              exact ⟨by first | rfl | (simp; done) | (simp [*]; done), by repeat (first | exact Drawn0.refl _ | apply Drawn0.step)⟩
                            · rw [if_neg c13] at H
                              have c13b0 : decide (100 < ((rdOf ByteArray.empty ((rd_T29 l0 x3_1).f3) x4_3).size : Int)) = false := decide_eq_false c13
                              have c13b1 : decide (100 < (rdOf ByteArray.empty ((rd_T29 l0 x3_1).f3) x4_3).size) = false := decide_eq_false (by omega)
                              clear c13
                              have H' := Aside0.mk H
                              clear H
                              have p104 : 0 ≤ (x3_1 : Int) := of_decide_eq_true (by first | (with_reducible assumption) | assumption)
                              have q104 : x3_1 < (l0.length : Int) := of_decide_eq_true (by first | (with_reducible assumption) | assumption)
                              obtain ⟨ad104, A104_3, c104_3, e104, hx104_0, hx104_1, hx104_2, hx104_3, hl104_3, hi104_3⟩ := at_T29 HR0.out x3_1 p104 q104
                              cases e104
                              have HR104_3 := Aside0.mk hi104_3
                              have HC104_3 := Aside0.mk hl104_3
                              clear hi104_3 hl104_3
                              replace p104 := eq_true p104
                              replace q104 := eq_true q104
                              have p105 : 0 ≤ (x3_1 : Int) := of_decide_eq_true (by first | (with_reducible assumption) | assumption)
                              have q105 : x3_1 < (l0.length : Int) := of_decide_eq_true (by first | (with_reducible assumption) | assumption)
                              obtain ⟨ad105, A105_3, c105_3, e105, hx105_0, hx105_1, hx105_2, hx105_3, hl105_3, hi105_3⟩ := at_T29 HR0.out x3_1 p105 q105
                              obtain rfl : ad104 = ad105 := (by injection e105)
                              have HR105_3 := Aside0.mk hi105_3
                              have HC105_3 := Aside0.mk hl105_3
                              clear hi105_3 hl105_3
                              replace p105 := eq_true p105
                              replace q105 := eq_true q105
                              have ea_ := Option.some.inj (hx104_3.symm.trans hx105_3)
                              injection ea_ with ea_ en_ ec_
                              subst ea_
                              subst ec_
                              clear en_
                              have p106 : 0 ≤ (x4_3 : Int) := of_decide_eq_true (by first | (with_reducible assumption) | assumption)
                              have q106 : x4_3 < (((rd_T29 l0 x3_1).f3).length : Int) := of_decide_eq_true (by first | (with_reducible assumption) | assumption)
                              obtain ⟨ad106, e106, hx106_0⟩ := Kd.at_string HR105_3.out x4_3 p106 q106
                              cases e106
                              replace p106 := eq_true p106
                              replace q106 := eq_true q106
                              go_wp2
                              go_roundg k3
                              case measure => have := HK1.out; have := HJ3.out; have := HK3.out; omega
                              case rel => exact ⟨(wrap64 (x4_3 + 1)), (by first | rfl | (simp; done) | (simp [*]; done)), H', ⟨by have := HK1.out; have := HJ3.out; have := HK3.out; omega⟩, by repeat (first | exact Drawn0.refl _ | apply Drawn0.step)⟩
                          · rw [if_neg c12] at H
                            exact absurd H (by simp)
                        · rw [if_neg c11] at H
                          have c11b0 : decide (x4_3 < (((rd_T29 l0 x3_1).f3).length : Int)) = false := decide_eq_false c11
                          clear c11
                          have H' := Aside0.mk H
                          clear H
                          have p104 : 0 ≤ (x3_1 : Int) := of_decide_eq_true (by first | (with_reducible assumption) | assumption)
                          have q104 : x3_1 < (l0.length : Int) := of_decide_eq_true (by first | (with_reducible assumption) | assumption)
                          obtain ⟨ad104, A104_3, c104_3, e104, hx104_0, hx104_1, hx104_2, hx104_3, hl104_3, hi104_3⟩ := at_T29 HR0.out x3_1 p104 q104
                          cases e104
                          have HR104_3 := Aside0.mk hi104_3
                          have HC104_3 := Aside0.mk hl104_3
                          clear hi104_3 hl104_3
                          replace p104 := eq_true p104
                          replace q104 := eq_true q104
                          go_wp2
                          go_roundg k3
                          case measure => have := HK1.out; have := HJ3.out; have := HK3.out; omega
                          case rel => exact ⟨(wrap64 (x3_1 + 1)), (by first | rfl | (simp; done) | (simp [*]; done)), H', ⟨by have := HK1.out; have := HJ3.out; have := HK3.out; omega⟩, by repeat (first | exact Drawn0.refl _ | apply Drawn0.step)⟩
                      · rw [if_neg c10] at H
                        exact absurd H (by simp)
                    · rw [if_neg c9] at H
                      exact absurd H (by simp)
        · rw [if_neg c3] at H
          have c3b0 : decide (x3_1 < (l0.length : Int)) = false := decide_eq_false c3
          clear c3
          obtain rfl := Option.some.inj H
          go_wp2
          go_ret
          exact ⟨by first | rfl | (simp; done) | (simp [*]; done), by repeat (first | exact Drawn0.refl _ | apply Drawn0.step)⟩

-- NOT PRINTED: function 30 (slices_ContainsFunc_string_string)

-- NOT PRINTED: function 13 (cache_Cache_Touch)

/-! ### ciceroneref29_At: function 17 -/
def ciceroneref29_At.l0 : Nat → List (S41) → ByteArray → Int → Option (Int)
  | 0, _, _, _ => none
  | k + 1, x0, x1, x5 => if x5 < (x0.length : Int) then (if 0 ≤ x5 then (if ((rd_T41 x0 x5).f0).toList = x1.toList then (some x5) else (ciceroneref29_At.l0 k x0 x1 (wrap64 (x5 + 1)))) else (none)) else (some (-1))
def ciceroneref29_At.f (k : Nat) (l0 : List (S41)) (a1 : ByteArray) : Option (Int) := ciceroneref29_At.l0 k l0 a1 0
theorem ciceroneref29_At.mono_l : ∀ k, (∀ y0 y1 y2, LeO (ciceroneref29_At.l0 k y0 y1 y2) (ciceroneref29_At.l0 (k + 1) y0 y1 y2))
  | 0 => fun _ _ _ r h => by simp [ciceroneref29_At.l0] at h
  | k + 1 => by
    have ih0 := ciceroneref29_At.mono_l k
    · intro y0 y1 y2
      unfold ciceroneref29_At.l0
      repeat' first
      | (with_reducible exact ih0 _ _ _)
      | (with_reducible exact LeO.refl _)
      | (with_reducible exact LeO.none _)
      | (with_reducible refine LeO.ite ?_ ?_)
      | (with_reducible refine LeO.bind ?_ (fun _ => ?_))
      | exact ih0 _ _ _
      | exact LeO.none _
      | refine LeO.ite ?_ ?_
      | refine LeO.bind ?_ (fun _ => ?_)
theorem ciceroneref29_At.mono : ∀ a0 a1 k, LeO (ciceroneref29_At.f k a0 a1) (ciceroneref29_At.f (k + 1) a0 a1) := by
  intro a0 a1 k
  have ih0 := ciceroneref29_At.mono_l k
  unfold ciceroneref29_At.f
  repeat' first
      | (with_reducible exact ih0 _ _ _)
      | (with_reducible exact LeO.refl _)
      | (with_reducible exact LeO.none _)
      | (with_reducible refine LeO.ite ?_ ?_)
      | (with_reducible refine LeO.bind ?_ (fun _ => ?_))
      | exact ih0 _ _ _
      | exact LeO.none _
      | refine LeO.ite ?_ ?_
      | refine LeO.bind ?_ (fun _ => ?_)
set_option maxHeartbeats 8000000 in
set_option maxRecDepth 100000 in
theorem ciceroneref29_At.calls (k : Nat) (A0 : Option Addr) (c0 : Nat) (l0 : List (S41)) (a1 : ByteArray) (r : Int) (w : World) (hr0 : Kd.C k41 w A0 l0.length l0) (hc0 : l0.length ≤ c0) (h : ciceroneref29_At.f k l0 a1 = some r) :
    Calls Try.prog 17 #[.slice A0 l0.length c0, .string a1] w fun e w' => e = .returned (.int .i64 r) ∧ Drawn0 w w' := by
  have HR0 := Aside0.mk hr0
  have HC0 := Aside0.mk hc0
  clear hr0 hc0
  have H : (ciceroneref29_At.l0 k l0 a1 0) = some r := h
  clear h
  have H' := Aside0.mk H
  clear H
  go_enter Try.func17, Try.ntmps17
  go_wp2
  go_loopg [5] k (fun kq v5 w' => ∃ (x5_1 : Int), v5 = .int .i64 x5_1 ∧ Aside0 (ciceroneref29_At.l0 kq l0 a1 x5_1 = some r) ∧ Aside0 (kq ≤ k) ∧ Drawn0 w w')
  case atStart => exact ⟨(0), (by first | rfl | (simp; done) | (simp [*]; done)), H', ⟨Nat.le_refl _⟩, by repeat (first | exact Drawn0.refl _ | apply Drawn0.step)⟩
  case round =>
    clear H'
    try clear c1
    try clear p2
    obtain ⟨x5_1, rfl, HA, HK1, ⟨m1, rfl⟩⟩ := hrel
    cases gk with
    | zero => exact absurd HA.out (by simp [ciceroneref29_At.l0])
    | succ k1 =>
      have H := HA.out
      clear HA
      simp only [ciceroneref29_At.l0] at H
      by_cases c3 : x5_1 < (l0.length : Int)
      · rw [if_pos c3] at H
        have c3b0 : decide (x5_1 < (l0.length : Int)) = true := decide_eq_true c3
        clear c3
        by_cases c4 : 0 ≤ x5_1
        · rw [if_pos c4] at H
          have c4b0 : decide (0 ≤ x5_1) = true := decide_eq_true c4
          clear c4
          by_cases c5 : ((rd_T41 l0 x5_1).f0).toList = a1.toList
          · rw [if_pos c5] at H
            have c5b0 : (((rd_T41 l0 x5_1).f0).toList == a1.toList) = true := beq_iff_eq.mpr c5
            have c5b1 : (((rd_T41 l0 x5_1).f0).toList != a1.toList) = false := bne_eq_false_iff_eq.mpr c5
            clear c5
            obtain rfl := Option.some.inj H
            have p107 : 0 ≤ (x5_1 : Int) := of_decide_eq_true (by first | (with_reducible assumption) | assumption)
            have q107 : x5_1 < (l0.length : Int) := of_decide_eq_true (by first | (with_reducible assumption) | assumption)
            obtain ⟨ad107, A107_2, c107_2, e107, hx107_0, hx107_1, hx107_2, hl107_2, hi107_2⟩ := at_T41 HR0.out x5_1 p107 q107
            cases e107
            have HR107_2 := Aside0.mk hi107_2
            have HC107_2 := Aside0.mk hl107_2
            clear hi107_2 hl107_2
            replace p107 := eq_true p107
            replace q107 := eq_true q107
            go_wp2
            go_ret
            exact ⟨by first | rfl | (simp; done) | (simp [*]; done), by repeat (first | exact Drawn0.refl _ | apply Drawn0.step)⟩
          · rw [if_neg c5] at H
            have c5b0 : (((rd_T41 l0 x5_1).f0).toList == a1.toList) = false := beq_eq_false_iff_ne.mpr c5
            have c5b1 : (((rd_T41 l0 x5_1).f0).toList != a1.toList) = true := bne_iff_ne.mpr c5
            have H' := Aside0.mk H
            clear H
            have p107 : 0 ≤ (x5_1 : Int) := of_decide_eq_true (by first | (with_reducible assumption) | assumption)
            have q107 : x5_1 < (l0.length : Int) := of_decide_eq_true (by first | (with_reducible assumption) | assumption)
            obtain ⟨ad107, A107_2, c107_2, e107, hx107_0, hx107_1, hx107_2, hl107_2, hi107_2⟩ := at_T41 HR0.out x5_1 p107 q107
            cases e107
            have HR107_2 := Aside0.mk hi107_2
            have HC107_2 := Aside0.mk hl107_2
            clear hi107_2 hl107_2
            replace p107 := eq_true p107
            replace q107 := eq_true q107
            go_wp2
            go_roundg k1
            case measure => have := HK1.out; omega
            case rel => exact ⟨(wrap64 (x5_1 + 1)), (by first | rfl | (simp; done) | (simp [*]; done)), H', ⟨by have := HK1.out; omega⟩, by repeat (first | exact Drawn0.refl _ | apply Drawn0.step)⟩
        · rw [if_neg c4] at H
          exact absurd H (by simp)
      · rw [if_neg c3] at H
        have c3b0 : decide (x5_1 < (l0.length : Int)) = false := decide_eq_false c3
        clear c3
        obtain rfl := Option.some.inj H
        go_wp2
        go_ret
        exact ⟨by first | rfl | (simp; done) | (simp [*]; done), by repeat (first | exact Drawn0.refl _ | apply Drawn0.step)⟩

end Go.Proofs.Ytbdikfadnfjmoaa.PCachePlays
