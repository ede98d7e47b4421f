-- PRINTED BY print.sh 35421559b90ae4d0a3588c463048766b98c2df88dd9212a6774a882060cdf62d: not written by this session
import Derived.Test.YtbdikfadnfjmoaaPCachePlaysx0
import Derived.Test.YtbdikfadnfjmoaaPCachePlaysx1
import Derived.Test.YtbdikfadnfjmoaaPCachePlaysx2
namespace Go.Proofs.Ytbdikfadnfjmoaa.PCachePlays
open Go.RowKit Go.Proofs.YtbdikfadnfjmoaaW.PrintWords Go.Proofs.YtbdikfadnfjmoaaW.PrintLast Go.Proofs.YtbdikfadnfjmoaaW.PrintMore
attribute [local go_sem] max2_int min2_int max_two min_two max_three min_three max_four min_four   -- for this text's walks alone
set_option linter.unusedVariables false
set_option linter.unusedSimpArgs false

/-! ### ciceroneref29_Put: function 15 -/
def ciceroneref29_Put.f (k : Nat) (l0 : List (S41)) (a1 : Int) (a2_0 : ByteArray) (a2_1 : ByteArray) (l2_2 : List ByteArray) : Option ((List (S41))) := (ciceroneref29_At.f k l0 a2_0).bind fun t128 => (if t128 ≥ 0 then ((ciceroneref29_Without.f l0 t128).bind fun t129 => ((some (([] : List (S41)) : List (S41))).bind fun y132 => (if y132.length + t129.length < 2513169434916 then ((some (y132 ++ t129 : List (S41))).bind fun y135 => ((some (([(⟨a2_0, a2_1, l2_2⟩ : S41)] : List (S41)) : List (S41))).bind fun y138 => (if y135.length + y138.length < 2513169434916 then ((some (y135 ++ y138 : List (S41))).bind fun y141 => (if (y141.length : Int) > a1 then (if 1 ≤ (y141.length : Int) then (some (y141.drop 1)) else (none)) else (some y141))) else (none)))) else (none)))) else ((some (([] : List (S41)) : List (S41))).bind fun y149 => (if y149.length + l0.length < 2513169434916 then ((some (y149 ++ l0 : List (S41))).bind fun y152 => ((some (([(⟨a2_0, a2_1, l2_2⟩ : S41)] : List (S41)) : List (S41))).bind fun y155 => (if y152.length + y155.length < 2513169434916 then ((some (y152 ++ y155 : List (S41))).bind fun y158 => (if (y158.length : Int) > a1 then (if 1 ≤ (y158.length : Int) then (some (y158.drop 1)) else (none)) else (some y158))) else (none)))) else (none))))
theorem ciceroneref29_Put.mono : ∀ a0 a1 a2 a3 a4 k, LeO (ciceroneref29_Put.f k a0 a1 a2 a3 a4) (ciceroneref29_Put.f (k + 1) a0 a1 a2 a3 a4) := by
  intro a0 a1 a2 a3 a4 k
  unfold ciceroneref29_Put.f
  repeat' first
      | (with_reducible exact ciceroneref29_At.mono _ _ _)
      | (with_reducible exact LeO.refl _)
      | (with_reducible exact LeO.none _)
      | (with_reducible refine LeO.ite ?_ ?_)
      | (with_reducible refine LeO.bind ?_ (fun _ => ?_))
      | exact ciceroneref29_At.mono _ _ _
      | exact LeO.none _
      | refine LeO.ite ?_ ?_
      | refine LeO.bind ?_ (fun _ => ?_)
set_option maxHeartbeats 8000000 in
set_option maxRecDepth 100000 in
theorem ciceroneref29_Put.calls (k : Nat) (P0_ : Nat → Prop) (A0 : Option Addr) (c0 : Nat) (l0 : List (S41)) (a1 : Int) (a2_0 : ByteArray) (a2_1 : ByteArray) (P2_2_ : Nat → Prop) (A2_2 : Option Addr) (c2_2 : Nat) (l2_2 : List ByteArray) (r : List (S41)) (w : World) (hs0 : Kd.V k41 41 w w.heap.size (fun k_ => P0_ k_) (.slice A0 l0.length c0) l0) (hs2_2 : Kd.V Kd.string 9 w w.heap.size (fun k_ => P2_2_ k_) (.slice A2_2 l2_2.length c2_2) l2_2) (h : ciceroneref29_Put.f k l0 a1 a2_0 a2_1 l2_2 = some r) :
    Calls Try.prog 15 #[.slice A0 l0.length c0, .int .i64 a1, .agg #[.string a2_0, .string a2_1, .slice A2_2 l2_2.length c2_2]] w fun e w' => ∃ v0_ : Value, e = .returned (v0_) ∧ Kd.V k41 41 w' w.heap.size (fun k_ => ((P0_ k_ ∨ P2_2_ k_) ∨ w.heap.size ≤ k_)) v0_ r ∧ Below w.heap.size w w' := by
  have hu41 := Try.underlying41
  have HO0 := Aside0.mk (show Kd.V k41 41 w w.heap.size (fun k_ => ((P0_ k_ ∨ P2_2_ k_) ∨ w.heap.size ≤ k_)) (.slice A0 l0.length c0) l0 from Kd.V_mono hs0 (fun k_ hk => .inl (.inl hk)))
  have HO2_2 := Aside0.mk (show Kd.V Kd.string 9 w w.heap.size (fun k_ => ((P0_ k_ ∨ P2_2_ k_) ∨ w.heap.size ≤ k_)) (.slice A2_2 l2_2.length c2_2) l2_2 from Kd.V_mono hs2_2 (fun k_ hk => .inl (.inr hk)))
  have HB := Aside0.mk (Below.refl w.heap.size w)
  have H : ((ciceroneref29_At.f k l0 a2_0).bind fun t128 => (if t128 ≥ 0 then ((ciceroneref29_Without.f l0 t128).bind fun t129 => ((some (([] : List (S41)) : List (S41))).bind fun y132 => (if y132.length + t129.length < 2513169434916 then ((some (y132 ++ t129 : List (S41))).bind fun y135 => ((some (([(⟨a2_0, a2_1, l2_2⟩ : S41)] : List (S41)) : List (S41))).bind fun y138 => (if y135.length + y138.length < 2513169434916 then ((some (y135 ++ y138 : List (S41))).bind fun y141 => (if (y141.length : Int) > a1 then (if 1 ≤ (y141.length : Int) then (some (y141.drop 1)) else (none)) else (some y141))) else (none)))) else (none)))) else ((some (([] : List (S41)) : List (S41))).bind fun y149 => (if y149.length + l0.length < 2513169434916 then ((some (y149 ++ l0 : List (S41))).bind fun y152 => ((some (([(⟨a2_0, a2_1, l2_2⟩ : S41)] : List (S41)) : List (S41))).bind fun y155 => (if y152.length + y155.length < 2513169434916 then ((some (y152 ++ y155 : List (S41))).bind fun y158 => (if (y158.length : Int) > a1 then (if 1 ≤ (y158.length : Int) then (some (y158.drop 1)) else (none)) else (some y158))) else (none)))) else (none))))) = some r := h
  clear h
  replace H := Option.bind_eq_some_iff.mp H
  obtain ⟨t128, A40, H⟩ := H
  replace H : (if t128 ≥ 0 then ((ciceroneref29_Without.f l0 t128).bind fun t129 => ((some (([] : List (S41)) : List (S41))).bind fun y132 => (if y132.length + t129.length < 2513169434916 then ((some (y132 ++ t129 : List (S41))).bind fun y135 => ((some (([(⟨a2_0, a2_1, l2_2⟩ : S41)] : List (S41)) : List (S41))).bind fun y138 => (if y135.length + y138.length < 2513169434916 then ((some (y135 ++ y138 : List (S41))).bind fun y141 => (if (y141.length : Int) > a1 then (if 1 ≤ (y141.length : Int) then (some (y141.drop 1)) else (none)) else (some y141))) else (none)))) else (none)))) else ((some (([] : List (S41)) : List (S41))).bind fun y149 => (if y149.length + l0.length < 2513169434916 then ((some (y149 ++ l0 : List (S41))).bind fun y152 => ((some (([(⟨a2_0, a2_1, l2_2⟩ : S41)] : List (S41)) : List (S41))).bind fun y155 => (if y152.length + y155.length < 2513169434916 then ((some (y152 ++ y155 : List (S41))).bind fun y158 => (if (y158.length : Int) > a1 then (if 1 ≤ (y158.length : Int) then (some (y158.drop 1)) else (none)) else (some y158))) else (none)))) else (none)))) = some r := H
  have A4 := Aside0.mk A40
  clear A40
  by_cases c5 : t128 ≥ 0
  · rw [if_pos c5] at H
    have c5b0 : decide (0 ≤ t128) = true := decide_eq_true c5
    clear c5
    replace H := Option.bind_eq_some_iff.mp H
    obtain ⟨t129, A60, H⟩ := H
    replace H : ((some (([] : List (S41)) : List (S41))).bind fun y132 => (if y132.length + t129.length < 2513169434916 then ((some (y132 ++ t129 : List (S41))).bind fun y135 => ((some (([(⟨a2_0, a2_1, l2_2⟩ : S41)] : List (S41)) : List (S41))).bind fun y138 => (if y135.length + y138.length < 2513169434916 then ((some (y135 ++ y138 : List (S41))).bind fun y141 => (if (y141.length : Int) > a1 then (if 1 ≤ (y141.length : Int) then (some (y141.drop 1)) else (none)) else (some y141))) else (none)))) else (none))) = some r := H
    have A6 := Aside0.mk A60
    clear A60
    obtain ⟨y132, hy132⟩ : ∃ y_ : List (S41), y_ = (([] : List (S41))) := ⟨_, rfl⟩
    replace H : (if y132.length + t129.length < 2513169434916 then ((some (y132 ++ t129 : List (S41))).bind fun y135 => ((some (([(⟨a2_0, a2_1, l2_2⟩ : S41)] : List (S41)) : List (S41))).bind fun y138 => (if y135.length + y138.length < 2513169434916 then ((some (y135 ++ y138 : List (S41))).bind fun y141 => (if (y141.length : Int) > a1 then (if 1 ≤ (y141.length : Int) then (some (y141.drop 1)) else (none)) else (some y141))) else (none)))) else (none)) = some r := by first | (rw [hy132]; with_reducible exact H) | (have H2_ := (Option.bind_some _ _).symm.trans H; rw [hy132]; with_reducible exact H2_) | (have H2_ := (Option.bind_some _ _).symm.trans H; with_reducible exact H2_) | with_reducible exact H | (rw [hy132]; exact H) | exact H
    have Ny132 := Aside0.mk hy132
    clear hy132
    by_cases c7 : y132.length + t129.length < 2513169434916
    · rw [if_pos c7] at H
      have LMc7 := Aside0.mk c7
      clear c7
      obtain ⟨y135, hy135⟩ : ∃ y_ : List (S41), y_ = (y132 ++ t129) := ⟨_, rfl⟩
      replace H : ((some (([(⟨a2_0, a2_1, l2_2⟩ : S41)] : List (S41)) : List (S41))).bind fun y138 => (if y135.length + y138.length < 2513169434916 then ((some (y135 ++ y138 : List (S41))).bind fun y141 => (if (y141.length : Int) > a1 then (if 1 ≤ (y141.length : Int) then (some (y141.drop 1)) else (none)) else (some y141))) else (none))) = some r := by first | (rw [hy135]; with_reducible exact H) | (have H2_ := (Option.bind_some _ _).symm.trans H; rw [hy135]; with_reducible exact H2_) | (have H2_ := (Option.bind_some _ _).symm.trans H; with_reducible exact H2_) | with_reducible exact H | (rw [hy135]; exact H) | exact H
      have Ny135 := Aside0.mk hy135
      clear hy135
      obtain ⟨y138, hy138⟩ : ∃ y_ : List (S41), y_ = (([(⟨a2_0, a2_1, l2_2⟩ : S41)] : List (S41))) := ⟨_, rfl⟩
      replace H : (if y135.length + y138.length < 2513169434916 then ((some (y135 ++ y138 : List (S41))).bind fun y141 => (if (y141.length : Int) > a1 then (if 1 ≤ (y141.length : Int) then (some (y141.drop 1)) else (none)) else (some y141))) else (none)) = some r := by first | (rw [hy138]; with_reducible exact H) | (have H2_ := (Option.bind_some _ _).symm.trans H; rw [hy138]; with_reducible exact H2_) | (have H2_ := (Option.bind_some _ _).symm.trans H; with_reducible exact H2_) | with_reducible exact H | (rw [hy138]; exact H) | exact H
      have Ny138 := Aside0.mk hy138
      clear hy138
      by_cases c8 : y135.length + y138.length < 2513169434916
      · rw [if_pos c8] at H
        have LMc8 := Aside0.mk c8
        clear c8
        obtain ⟨y141, hy141⟩ : ∃ y_ : List (S41), y_ = (y135 ++ y138) := ⟨_, rfl⟩
        replace H : (if (y141.length : Int) > a1 then (if 1 ≤ (y141.length : Int) then (some (y141.drop 1)) else (none)) else (some y141)) = some r := by first | (rw [hy141]; with_reducible exact H) | (have H2_ := (Option.bind_some _ _).symm.trans H; rw [hy141]; with_reducible exact H2_) | (have H2_ := (Option.bind_some _ _).symm.trans H; with_reducible exact H2_) | with_reducible exact H | (rw [hy141]; exact H) | exact H
        have Ny141 := Aside0.mk hy141
        clear hy141
        by_cases c9 : (y141.length : Int) > a1
        · rw [if_pos c9] at H
          have c9b0 : decide (a1 < (y141.length : Int)) = true := decide_eq_true c9
          clear c9
          by_cases c10 : 1 ≤ (y141.length : Int)
          · rw [if_pos c10] at H
            have c10b0 := eq_true c10
            have c10b1 : decide (1 ≤ (y141.length : Int)) = true := decide_eq_true c10
            clear c10
            obtain ⟨y144, hy144⟩ : ∃ y_ : List (S41), y_ = (y141.drop 1) := ⟨_, rfl⟩
            replace H : (some y144) = some r := by first | (rw [hy144]; with_reducible exact H) | (have H2_ := (Option.bind_some _ _).symm.trans H; rw [hy144]; with_reducible exact H2_) | (have H2_ := (Option.bind_some _ _).symm.trans H; with_reducible exact H2_) | with_reducible exact H | (rw [hy144]; exact H) | exact H
            have Ny144 := Aside0.mk hy144
            clear hy144
            obtain rfl := Option.some.inj H
            go_enter Try.func15, Try.ntmps15
            try go_wp2_with (first | ((with_reducible refine gate_dst (N := 5) rfl ?_); refine box_event ?hg (N := 5) ?hd (cs := #[.string a2_0, .string a2_1, .slice A2_2 l2_2.length c2_2]) (t := 41) ?hr ?_; (case hd => rfl); (case hg => rfl); (case hr => first | (go_simp; done) | (go_simp; rfl)); intro gb127 hg w11 hbox hb; have n0_ := Aside0.mk (Kd.V_below (Kd.V_elderB (by (with_reducible repeat (first | apply Kd.V_alloc | apply Kd.V_drewN | apply Kd.V_drew)); exact HO0.out) gb127 (Nat.le_of_eq hg.symm)) hb); have n1_ := Aside0.mk (Kd.V_below (Kd.V_elderB (by (with_reducible repeat (first | apply Kd.V_alloc | apply Kd.V_drewN | apply Kd.V_drew)); exact HO2_2.out) gb127 (Nat.le_of_eq hg.symm)) hb); have n2_ := Aside0.mk (below_step (by repeat (first | (with_reducible first | exact HB.out | apply below_alloc | apply pw_below_drewN | apply below_drew1) | exact HB.out)) hb); have n3_ := Aside0.mk (hbox); have n4_ := Aside0.mk ((by rw [hg]; exact (below_size (by repeat (first | (with_reducible first | exact HB.out | apply below_alloc | apply pw_below_drewN | apply below_drew1) | exact HB.out))) : w.heap.size ≤ gb127)); have n5_ := Aside0.mk ((by rw [hg]; exact (below_size (by repeat (first | (with_reducible first | exact HB.out | apply below_alloc | apply pw_below_drewN | apply below_drew1) | exact HB.out))) : w.heap.size ≤ gb127)); clear HO0; clear HO2_2; clear HB; have HO0 := n0_; have HO2_2 := n1_; have HB := n2_; have BK127 := n3_; have GW127 := n4_; have GE127 := n5_; clear n0_ n1_ n2_ n3_ n4_ n5_; clear hb hbox hg; have hcz12_0 : w11.cell? ⟨gb127, 0, none⟩ = some (.string a2_0) := (blk_cell BK127.out 0).trans rfl; have hcz12_1 : w11.cell? ⟨gb127, 1, none⟩ = some (.string a2_1) := (blk_cell BK127.out 1).trans rfl; have hcz12_2 : w11.cell? ⟨gb127, 2, none⟩ = some (.slice A2_2 l2_2.length c2_2) := (blk_cell BK127.out 2).trans rfl; have hfz12_0 := blk_frozen BK127.out 0; have hfz12_1 := blk_frozen BK127.out 1; have hfz12_2 := blk_frozen BK127.out 2) | ((with_reducible refine gate_callee (f := 17) rfl ?_); refine goesL_ (some 12) rfl rfl Try.func17 (by kernel_rfl) rfl #[.slice A0 l0.length c0, .string a2_0] rfl (by (try simp only [List.map_toArray, List.map_cons, List.map_nil]); first | done | rfl | (simp only [List.length_drop, List.length_take]; rfl)) ?_; (with_reducible refine (ciceroneref29_At.calls k _ _ l0 a2_0 t128 _ ?side1 ?side2 A4.out).mono ?_); (case side1 => repeat (first | exact (Kd.V_reads' HO0.out).2.2 | (with_reducible refine Kd.C_alloc ?_ _) | (with_reducible refine Kd.C_drewN ?_ _) | (with_reducible refine Kd.C_drew ?_))); (case side2 => exact (Kd.V_reads' HO0.out).2.1); rintro e w' ⟨rfl, ⟨nd, rfl⟩⟩; refine ⟨_, rfl, ?_⟩) | ((with_reducible refine gate_callee (f := 31) rfl ?_); refine goesL_ (some 17) rfl rfl Try.func31 (by kernel_rfl) rfl #[.slice A0 l0.length c0, .int .i64 t128] rfl (by (try simp only [List.map_toArray, List.map_cons, List.map_nil]); first | done | rfl | (simp only [List.length_drop, List.length_take]; rfl)) ?_; (with_reducible refine (ciceroneref29_Without.calls (fun k_ => (((P0_ k_ ∨ P2_2_ k_) ∨ w.heap.size ≤ k_) ∧ k_ ≠ gb127)) _ _ l0 t128 t129 _ ?side1 A6.out).mono ?_); (case side1 => exact HO0.out); rintro e w13 ⟨v130, rfl, ho0, hb⟩; refine ⟨_, rfl, ?_⟩; have n0_ := Aside0.mk (Kd.V_elder' (by (with_reducible repeat (first | apply Kd.V_alloc | apply Kd.V_drewN | apply Kd.V_drew)); exact HO0.out) (Kd.N_base ho0) hb); have n1_ := Aside0.mk (Kd.V_elder' (by (with_reducible repeat (first | apply Kd.V_alloc | apply Kd.V_drewN | apply Kd.V_drew)); exact HO2_2.out) (Kd.N_base ho0) hb); have n2_ := Aside0.mk (Kd.N_lower (Kd.N_mono (ok' := fun k_ => ((P0_ k_ ∨ P2_2_ k_) ∨ w.heap.size ≤ k_) ∧ k_ ≠ gb127) ho0 (fun k_ hk_ => ⟨Or.elim hk_ (fun hs_ => hs_.1) (fun hn_ => (.inr (Nat.le_trans (below_size (by repeat (first | (with_reducible first | exact HB.out | apply below_alloc | apply pw_below_drewN | apply below_drew1 | refine below_set ?_ GE127.out) | exact HB.out))) hn_))), Or.elim hk_ (fun hs_ => hs_.2) (fun hn_ => (Kd.freshB (g := gb127) (o := .cells #[.string a2_0, .string a2_1, .slice A2_2 l2_2.length c2_2] 41 (0, 0)) (by (with_reducible repeat (first | refine blk_drewN ?_ _ | refine blk_drew ?_ | refine blk_alloc ?_ _)); exact BK127.out) k_ hn_))⟩)) (below_size (by repeat (first | (with_reducible first | exact HB.out | apply below_alloc | apply pw_below_drewN | apply below_drew1 | refine below_set ?_ GE127.out) | exact HB.out)))); have n3_ := Aside0.mk (blk_below (g := gb127) (o := .cells #[.string a2_0, .string a2_1, .slice A2_2 l2_2.length c2_2] 41 (0, 0)) (by (with_reducible repeat (first | refine blk_drewN ?_ _ | refine blk_drew ?_ | refine blk_alloc ?_ _)); exact BK127.out) hb); have n4_ := Aside0.mk (below_step (by repeat (first | (with_reducible first | exact HB.out | apply below_alloc | apply pw_below_drewN | apply below_drew1 | refine below_set ?_ GE127.out) | exact HB.out)) hb); clear HO0; clear HO2_2; clear BK127; clear HB; have HO0 := n0_; have HO2_2 := n1_; have HO131 := n2_; have BK127 := n3_; have HB := n4_; clear n0_ n1_ n2_ n3_ n4_; (try clear hb); (try clear hb2); (try clear hk); (try clear hi); (try clear ho0); obtain ⟨Ao14, co14, eo14⟩ := Kd.N_slice HO131.out; subst eo14))
            have n0_ := Aside0.mk (Kd.V_drew HO0.out)
            have n1_ := Aside0.mk (Kd.V_drew HO2_2.out)
            have n2_ := Aside0.mk (Kd.N_drew HO131.out)
            have n3_ := Aside0.mk (blk_drew BK127.out)
            have n4_ := Aside0.mk (below_drew1 HB.out)
            clear HO0
            clear HO2_2
            clear HO131
            clear BK127
            clear HB
            have HO0 := n0_
            have HO2_2 := n1_
            have HO131 := n2_
            have BK127 := n3_
            have HB := n4_
            clear n0_ n1_ n2_ n3_ n4_
            refine start_ (n := 7) (S := fun w' => w'.cell? ⟨gb127, 0, none⟩ = some (.string a2_0) ∧ w'.cell? ⟨gb127, 1, none⟩ = some (.string a2_1) ∧ w'.cell? ⟨gb127, 2, none⟩ = some (.slice A2_2 l2_2.length c2_2)) (ds := []) #[false, false, false, false, false, false, false] (by kernel_rfl) rfl rfl ⟨(blk_cell BK127.out 0).trans rfl, (blk_cell BK127.out 1).trans rfl, (blk_cell BK127.out 2).trans rfl⟩ (fun hHeld => ?_)
            generalize w13.drew = w15 at HO0 HO2_2 HO131 BK127 HB hHeld ⊢
            refine pure_ (i := 1) (N := some 19) (v := ?_) (a' := ?_) #[false, true, false, false, false, false, false] rfl rfl (by kernel_rfl) (fun _ _ _ h => h) (Or.inl ⟨by rfl, ?_⟩) ?_ ?_
            rotate_left
            · intro w'
              go_simp
              with_reducible rfl
            rotate_left
            · simp only [Act.put, List.setIfInBounds_toArray, List.set_cons_zero, List.set_cons_succ, i64_w, i32_w]
              rfl
            refine take_ (i := 3) (N := some 21) (v := ?_) (a' := ?_) #[false, true, false, true, false, false, false] rfl rfl (by kernel_rfl) (fun _ _ _ h => h) (Or.inl ⟨by rfl, ?_⟩) hHeld ?_ ?_
            rotate_left
            · rintro w' ⟨s0, s1, s2⟩
              go_simp
              with_reducible rfl
            rotate_left
            · simp only [Act.put, List.setIfInBounds_toArray, List.set_cons_zero, List.set_cons_succ, i64_w, i32_w]
              rfl
            refine join_ (σ := Value × Value × Value) 2 #[true, true, true, true, true, false, false] (fun s_ => [(18, s_.1), (20, s_.2.1), (22, s_.2.2)]) (fun s_ w' => (w'.cell? ⟨gb127, 0, none⟩ = some (.string a2_0) ∧ w'.cell? ⟨gb127, 1, none⟩ = some (.string a2_1) ∧ w'.cell? ⟨gb127, 2, none⟩ = some (.slice A2_2 l2_2.length c2_2)) ∧ (Kd.V k41 41 w' w.heap.size (fun k_ => ((P0_ k_ ∨ P2_2_ k_) ∨ w.heap.size ≤ k_) ∧ some k_ ≠ (.slice Ao14 t129.length co14 : Value).ownBlock ∧ some k_ ≠ (s_.2.1 : Value).ownBlock ∧ some k_ ≠ (s_.2.2 : Value).ownBlock ∧ k_ ≠ gb127) (.slice A0 l0.length c0) l0) ∧ (Kd.N k41 41 w' w.heap.size (fun k_ => ((P0_ k_ ∨ P2_2_ k_) ∨ w.heap.size ≤ k_) ∧ some k_ ≠ (s_.2.1 : Value).ownBlock ∧ some k_ ≠ (s_.2.2 : Value).ownBlock ∧ k_ ≠ gb127) (.slice Ao14 t129.length co14) t129) ∧ (Kd.N k41 41 w' w.heap.size (fun k_ => ((P0_ k_ ∨ P2_2_ k_) ∨ w.heap.size ≤ k_) ∧ some k_ ≠ (s_.2.2 : Value).ownBlock ∧ k_ ≠ gb127) s_.2.1 y135) ∧ (Kd.N k41 41 w' w.heap.size (fun k_ => ((P0_ k_ ∨ P2_2_ k_) ∨ w.heap.size ≤ k_) ∧ some k_ ≠ (.slice Ao14 t129.length co14 : Value).ownBlock ∧ some k_ ≠ (s_.2.1 : Value).ownBlock ∧ k_ ≠ gb127) s_.2.2 y138) ∧ (Kd.V Kd.string 9 w' w.heap.size (fun k_ => ((P0_ k_ ∨ P2_2_ k_) ∨ w.heap.size ≤ k_) ∧ some k_ ≠ (.slice Ao14 t129.length co14 : Value).ownBlock ∧ some k_ ≠ (s_.2.1 : Value).ownBlock ∧ some k_ ≠ (s_.2.2 : Value).ownBlock ∧ k_ ≠ gb127) (.slice A2_2 l2_2.length c2_2) l2_2) ∧ (w'.heap[gb127]? = some (.cells #[.string a2_0, .string a2_1, .slice A2_2 l2_2.length c2_2] 41 (0, 0))) ∧ (Below w.heap.size w w')) ?_ ?_
            rotate_left
            · intro hCont
              refine two_ (i := 0) (j := 4) (Ni := some 18) (Nj := some 22) #[true, true, false, true, false, false, false] #[false, true, false, true, true, false, false] rfl rfl rfl rfl (by kernel_rfl) (by decide) (by decide) (fun K hK => ?_) (fun K hK => ?_)
              · skip
                refine Kd.N_lit_step k41 _ 41 ?hg (N' := 18) ?hd (xs := ([] : List (S41))) (inner := []) (ok := (fun k_ => ((P0_ k_ ∨ P2_2_ k_) ∨ w.heap.size ≤ k_) ∧ some k_ ≠ (.slice Ao14 t129.length co14 : Value).ownBlock ∧ k_ ≠ gb127)) (okp := (fun k_ => ((P0_ k_ ∨ P2_2_ k_) ∨ w.heap.size ≤ k_) ∧ some k_ ≠ (.slice Ao14 t129.length co14 : Value).ownBlock ∧ k_ ≠ gb127)) ?hr ?hp (fun _ hk => hk) ((show ∀ k_, w15.heap.size ≤ k_ → (fun k_ => ((P0_ k_ ∨ P2_2_ k_) ∨ w.heap.size ≤ k_) ∧ some k_ ≠ (.slice Ao14 t129.length co14 : Value).ownBlock ∧ k_ ≠ gb127) k_ from fun k_ hk => ⟨(.inr (Nat.le_trans (below_size (by repeat (first | (with_reducible first | exact HB.out | apply below_alloc | apply pw_below_drewN | apply below_drew1 | refine below_set ?_ GE127.out) | exact HB.out))) hk)), Kd.fresh' (Kd.N_lt (by (with_reducible repeat (first | apply Kd.N_alloc | apply Kd.N_drewN | apply Kd.N_drew)); exact HO131.out)) k_ hk, Kd.freshB (g := gb127) (o := .cells #[.string a2_0, .string a2_1, .slice A2_2 l2_2.length c2_2] 41 (0, 0)) (by (with_reducible repeat (first | refine blk_drewN ?_ _ | refine blk_drew ?_ | refine blk_alloc ?_ _)); exact BK127.out) k_ hk⟩) _ (Nat.le_refl _)) (Below.refl _ _) (Nat.le_refl _) (by simp) ?_; (case hd => rfl); (case hg => rfl); (case hr => first | (go_simp; done) | (go_simp; rfl)); (case hp => exact (Reps.none _ _))
                intro v133 w16 ho17 hb hg_ hnew_
                clear hg_ hnew_
                (first | rw [← Ny132.out] at ho17 | (simp only [Int.reduceToNat] at ho17; rw [← Ny132.out] at ho17))
                have n0_ := Aside0.mk (Kd.V_elder' (by (with_reducible repeat (first | apply Kd.V_alloc | apply Kd.V_drewN | apply Kd.V_drew)); exact HO0.out) (Kd.N_base ho17) hb)
                have n1_ := Aside0.mk (Kd.V_elder' (by (with_reducible repeat (first | apply Kd.V_alloc | apply Kd.V_drewN | apply Kd.V_drew)); exact HO2_2.out) (Kd.N_base ho17) hb)
                have n2_ := Aside0.mk (Kd.N_elder' (by (with_reducible repeat (first | apply Kd.N_alloc | apply Kd.N_drewN | apply Kd.N_drew)); exact HO131.out) (Kd.N_base ho17) hb)
                have n3_ := Aside0.mk (Kd.N_lower ho17 (below_size (by repeat (first | (with_reducible first | exact HB.out | apply below_alloc | apply pw_below_drewN | apply below_drew1 | refine below_set ?_ GE127.out) | exact HB.out))))
                have n4_ := Aside0.mk (blk_below (g := gb127) (o := .cells #[.string a2_0, .string a2_1, .slice A2_2 l2_2.length c2_2] 41 (0, 0)) (by (with_reducible repeat (first | refine blk_drewN ?_ _ | refine blk_drew ?_ | refine blk_alloc ?_ _)); exact BK127.out) hb)
                have n5_ := Aside0.mk (below_step (by repeat (first | (with_reducible first | exact HB.out | apply below_alloc | apply pw_below_drewN | apply below_drew1 | refine below_set ?_ GE127.out) | exact HB.out)) hb)
                clear HO0
                clear HO2_2
                clear HO131
                clear BK127
                clear HB
                have HO0 := n0_
                have HO2_2 := n1_
                have HO131 := n2_
                have HO134 := n3_
                have BK127 := n4_
                have HB := n5_
                clear n0_ n1_ n2_ n3_ n4_ n5_
                clear hb ho17
                refine hK.out _ _ ⟨(blk_cell BK127.out 0).trans rfl, (blk_cell BK127.out 1).trans rfl, (blk_cell BK127.out 2).trans rfl⟩ (fun hHeld => ?_)
                clear hK K
                refine norm_ (a' := ?_) ?_ ?_
                rotate_left
                · show Act.put _ (some 18) _ = _
                  simp only [Act.put, List.setIfInBounds_toArray, List.set_cons_zero, List.set_cons_succ, i64_w, i32_w]
                  rfl
                refine two_ (i := 2) (j := 4) (Ni := some 20) (Nj := some 22) #[true, true, true, true, false, false, false] #[true, true, false, true, true, false, false] rfl rfl rfl rfl (by kernel_rfl) (by decide) (by decide) (fun K hK => ?_) (fun K hK => ?_)
                · skip
                  refine Kd.N_append_rows_step k41 (w0 := w) w.heap.size (by rfl) (.tmp 18) (.tmp 19) 37 41 (.agg #[(.string ⟨#[]⟩), (.string ⟨#[]⟩), (.slice none 0 0)]) 56 rfl Try.underlying37 info41 rfl (by decide) (by omega) v133 y132 t129 _ _ _ (fun k_ => ((P0_ k_ ∨ P2_2_ k_) ∨ w.heap.size ≤ k_) ∧ k_ ≠ gb127) (fun k_ => ((fun k_ => ((P0_ k_ ∨ P2_2_ k_) ∨ w.heap.size ≤ k_) ∧ k_ ≠ gb127)) k_ ∧ some k_ ≠ (v133 : Value).ownBlock) rfl rfl ?aO ?aR (fun _ hk => hk) ?aF ?aB ?aS ?aL ?_
                  (case aR => exact (by skip; exact Kd.N_F (Kd.N_mono (ok' := (fun k_ => ((fun k_ => ((P0_ k_ ∨ P2_2_ k_) ∨ w.heap.size ≤ k_) ∧ k_ ≠ gb127)) k_ ∧ some k_ ≠ (v133 : Value).ownBlock)) (HO131.out) (fun k_ hk => ⟨⟨hk.1.1, hk.1.2⟩, hk.2⟩))))
                  (case aB => exact (by repeat (first | (with_reducible first | exact HB.out | apply below_alloc | apply pw_below_drewN | apply below_drew1 | refine below_set ?_ GE127.out) | exact HB.out)))
                  (case aF => exact (fun k_ hk => ⟨(.inr (Nat.le_trans (below_size (by repeat (first | (with_reducible first | exact HB.out | apply below_alloc | apply pw_below_drewN | apply below_drew1 | refine below_set ?_ GE127.out) | exact HB.out))) hk)), Kd.freshB (g := gb127) (o := .cells #[.string a2_0, .string a2_1, .slice A2_2 l2_2.length c2_2] 41 (0, 0)) (by (with_reducible repeat (first | refine blk_drewN ?_ _ | refine blk_drew ?_ | refine blk_alloc ?_ _)); exact BK127.out) k_ hk⟩))
                  (case aO => exact (by (with_reducible repeat (first | apply Kd.N_alloc | apply Kd.N_drewN | apply Kd.N_drew)); exact Kd.N_mono HO134.out (fun _ hk => ⟨hk.1, hk.2.2⟩)))
                  (case aS => exact (below_size (by repeat (first | (with_reducible first | exact HB.out | apply below_alloc | apply pw_below_drewN | apply below_drew1 | refine below_set ?_ GE127.out) | exact HB.out))))
                  (case aL => have := LMc7.out; omega)
                  intro v136 w18 ho hb hg hat
                  rw [← Ny135.out] at ho
                  have n0_ := Aside0.mk (Kd.V_afterv (ok := (fun k_ => ((P0_ k_ ∨ P2_2_ k_) ∨ w.heap.size ≤ k_) ∧ some k_ ≠ (.slice Ao14 t129.length co14 : Value).ownBlock ∧ k_ ≠ gb127)) (by (with_reducible repeat (first | apply Kd.V_alloc | apply Kd.V_drewN | apply Kd.V_drew)); exact Kd.V_mono HO0.out (fun _ hk => ⟨⟨hk.1.1.1, ⟨hk.1.2, hk.1.1.2⟩⟩, hk.2⟩)) hg hat)
                  have n1_ := Aside0.mk (Kd.V_afterv (ok := (fun k_ => ((P0_ k_ ∨ P2_2_ k_) ∨ w.heap.size ≤ k_) ∧ some k_ ≠ (.slice Ao14 t129.length co14 : Value).ownBlock ∧ k_ ≠ gb127)) (by (with_reducible repeat (first | apply Kd.V_alloc | apply Kd.V_drewN | apply Kd.V_drew)); exact Kd.V_mono HO2_2.out (fun _ hk => ⟨⟨hk.1.1.1, ⟨hk.1.2, hk.1.1.2⟩⟩, hk.2⟩)) hg hat)
                  have n2_ := Aside0.mk (blk_grown (g := gb127) (o := .cells #[.string a2_0, .string a2_1, .slice A2_2 l2_2.length c2_2] 41 (0, 0)) (by (with_reducible repeat (first | refine blk_drewN ?_ _ | refine blk_drew ?_ | refine blk_alloc ?_ _)); exact BK127.out) hg (Kd.N_away HO134.out (fun _ hk => hk.2.2)))
                  have n3_ := Aside0.mk (Kd.N_afterv (ok := (fun k_ => ((P0_ k_ ∨ P2_2_ k_) ∨ w.heap.size ≤ k_) ∧ k_ ≠ gb127)) (by (with_reducible repeat (first | apply Kd.N_alloc | apply Kd.N_drewN | apply Kd.N_drew)); exact HO131.out) hg hat)
                  have n4_ := Aside0.mk (hb)
                  have n5_ := Aside0.mk (ho)
                  clear HO0
                  clear HO2_2
                  clear BK127
                  clear HO131
                  clear HB
                  clear HO134
                  have HO0 := n0_
                  have HO2_2 := n1_
                  have BK127 := n2_
                  have HO131 := n3_
                  have HB := n4_
                  have HO137 := n5_
                  clear n0_ n1_ n2_ n3_ n4_ n5_
                  clear ho hb hg hat
                  refine hK.out _ _ ⟨(blk_cell BK127.out 0).trans rfl, (blk_cell BK127.out 1).trans rfl, (blk_cell BK127.out 2).trans rfl⟩ (fun hHeld => ?_)
                  clear hK K
                  refine norm_ (a' := ?_) ?_ ?_
                  rotate_left
                  · show Act.put _ (some 20) _ = _
                    simp only [Act.put, List.setIfInBounds_toArray, List.set_cons_zero, List.set_cons_succ, i64_w, i32_w]
                    rfl
                  refine one_ (i := 4) (N := some 22) #[true, true, true, true, true, false, false] rfl rfl (by kernel_rfl) (by decide) (fun K hK => ?_)
                  refine Kd.N_lit_step k41 _ 41 ?hg (N' := 22) ?hd (xs := ([(⟨a2_0, a2_1, l2_2⟩ : S41)] : List (S41))) (inner := [.string a2_0, .string a2_1, .slice A2_2 l2_2.length c2_2]) (ok := (fun k_ => ((P0_ k_ ∨ P2_2_ k_) ∨ w.heap.size ≤ k_) ∧ some k_ ≠ (.slice Ao14 t129.length co14 : Value).ownBlock ∧ some k_ ≠ (v136 : Value).ownBlock ∧ k_ ≠ gb127)) (okp := (fun k_ => ((P0_ k_ ∨ P2_2_ k_) ∨ w.heap.size ≤ k_) ∧ some k_ ≠ (.slice Ao14 t129.length co14 : Value).ownBlock ∧ some k_ ≠ (v136 : Value).ownBlock ∧ k_ ≠ gb127)) ?hr ?hp (fun _ hk => hk) ((show ∀ k_, w18.heap.size ≤ k_ → (fun k_ => ((P0_ k_ ∨ P2_2_ k_) ∨ w.heap.size ≤ k_) ∧ some k_ ≠ (.slice Ao14 t129.length co14 : Value).ownBlock ∧ some k_ ≠ (v136 : Value).ownBlock ∧ k_ ≠ gb127) k_ from fun k_ hk => ⟨(.inr (Nat.le_trans (below_size (by repeat (first | (with_reducible first | exact HB.out | apply below_alloc | apply pw_below_drewN | apply below_drew1 | refine below_set ?_ GE127.out) | exact HB.out))) hk)), Kd.fresh' (Kd.N_lt (by (with_reducible repeat (first | apply Kd.N_alloc | apply Kd.N_drewN | apply Kd.N_drew)); exact HO131.out)) k_ hk, Kd.fresh' (Kd.N_lt (by (with_reducible repeat (first | apply Kd.N_alloc | apply Kd.N_drewN | apply Kd.N_drew)); exact HO137.out)) k_ hk, Kd.freshB (g := gb127) (o := .cells #[.string a2_0, .string a2_1, .slice A2_2 l2_2.length c2_2] 41 (0, 0)) (by (with_reducible repeat (first | refine blk_drewN ?_ _ | refine blk_drew ?_ | refine blk_alloc ?_ _)); exact BK127.out) k_ hk⟩) _ (Nat.le_refl _)) (Below.refl _ _) (Nat.le_refl _) (by simp) ?_; (case hd => rfl); (case hg => rfl); (case hr => first | (go_simp; done) | (go_simp; rfl)); (case hp => exact (Reps.c3 (show Kd.FK k41 _ _ (⟨a2_0, a2_1, l2_2⟩ : S41) [.string a2_0, .string a2_1, .slice A2_2 l2_2.length c2_2] from (k41_mkF _ _ (⟨a2_0, a2_1, l2_2⟩ : S41) (Kd.V_reads' (Kd.V_mono (ok' := (fun k_ => ((P0_ k_ ∨ P2_2_ k_) ∨ w.heap.size ≤ k_) ∧ some k_ ≠ (.slice Ao14 t129.length co14 : Value).ownBlock ∧ some k_ ≠ (v136 : Value).ownBlock ∧ k_ ≠ gb127)) (HO2_2.out) (fun k_ hk => ⟨hk.1.1, ⟨hk.1.2.1, ⟨hk.2, hk.1.2.2⟩⟩⟩))).2.1 (Kd.V_F (Kd.V_mono (ok' := (fun k_ => ((P0_ k_ ∨ P2_2_ k_) ∨ w.heap.size ≤ k_) ∧ some k_ ≠ (.slice Ao14 t129.length co14 : Value).ownBlock ∧ some k_ ≠ (v136 : Value).ownBlock ∧ k_ ≠ gb127)) (HO2_2.out) (fun k_ hk => ⟨hk.1.1, ⟨hk.1.2.1, ⟨hk.2, hk.1.2.2⟩⟩⟩))))) (Reps.none _ _)))
                  intro v139 w19 ho20 hb hg_ hnew_
                  clear hg_ hnew_
                  (first | rw [← Ny138.out] at ho20 | (simp only [Int.reduceToNat] at ho20; rw [← Ny138.out] at ho20))
                  have n0_ := Aside0.mk (Kd.V_elder' (by (with_reducible repeat (first | apply Kd.V_alloc | apply Kd.V_drewN | apply Kd.V_drew)); exact HO0.out) (Kd.N_base ho20) hb)
                  have n1_ := Aside0.mk (Kd.V_elder' (by (with_reducible repeat (first | apply Kd.V_alloc | apply Kd.V_drewN | apply Kd.V_drew)); exact HO2_2.out) (Kd.N_base ho20) hb)
                  have n2_ := Aside0.mk (Kd.N_elder' (by (with_reducible repeat (first | apply Kd.N_alloc | apply Kd.N_drewN | apply Kd.N_drew)); exact HO131.out) (Kd.N_base ho20) hb)
                  have n3_ := Aside0.mk (Kd.N_elder' (by (with_reducible repeat (first | apply Kd.N_alloc | apply Kd.N_drewN | apply Kd.N_drew)); exact HO137.out) (Kd.N_base ho20) hb)
                  have n4_ := Aside0.mk (Kd.N_lower ho20 (below_size (by repeat (first | (with_reducible first | exact HB.out | apply below_alloc | apply pw_below_drewN | apply below_drew1 | refine below_set ?_ GE127.out) | exact HB.out))))
                  have n5_ := Aside0.mk (blk_below (g := gb127) (o := .cells #[.string a2_0, .string a2_1, .slice A2_2 l2_2.length c2_2] 41 (0, 0)) (by (with_reducible repeat (first | refine blk_drewN ?_ _ | refine blk_drew ?_ | refine blk_alloc ?_ _)); exact BK127.out) hb)
                  have n6_ := Aside0.mk (below_step (by repeat (first | (with_reducible first | exact HB.out | apply below_alloc | apply pw_below_drewN | apply below_drew1 | refine below_set ?_ GE127.out) | exact HB.out)) hb)
                  clear HO0
                  clear HO2_2
                  clear HO131
                  clear HO137
                  clear BK127
                  clear HB
                  have HO0 := n0_
                  have HO2_2 := n1_
                  have HO131 := n2_
                  have HO137 := n3_
                  have HO140 := n4_
                  have BK127 := n5_
                  have HB := n6_
                  clear n0_ n1_ n2_ n3_ n4_ n5_ n6_
                  clear hb ho20
                  refine hK.out _ _ ⟨(blk_cell BK127.out 0).trans rfl, (blk_cell BK127.out 1).trans rfl, (blk_cell BK127.out 2).trans rfl⟩ (fun hHeld => ?_)
                  clear hK K
                  refine norm_ (a' := ?_) ?_ ?_
                  rotate_left
                  · show Act.put _ (some 22) _ = _
                    simp only [Act.put, List.setIfInBounds_toArray, List.set_cons_zero, List.set_cons_succ, i64_w, i32_w]
                    rfl
                  exact norm_ (by simp only [putAll, Act.put, List.setIfInBounds_toArray, List.set_cons_zero, List.set_cons_succ]) (hCont (v133, v136, v139) _ ⟨hHeld, (by (with_reducible repeat (first | apply Kd.V_alloc | apply Kd.V_drewN | apply Kd.V_drew)); exact Kd.V_mono HO0.out (fun _ hk => ⟨hk.1.1.1, ⟨hk.1.1.2.1, ⟨hk.1.2, ⟨hk.2, hk.1.1.2.2⟩⟩⟩⟩)), (by (with_reducible repeat (first | apply Kd.N_alloc | apply Kd.N_drewN | apply Kd.N_drew)); exact Kd.N_mono HO131.out (fun _ hk => ⟨hk.1.1.1, ⟨hk.1.2, ⟨hk.2, hk.1.1.2⟩⟩⟩)), (by (with_reducible repeat (first | apply Kd.N_alloc | apply Kd.N_drewN | apply Kd.N_drew)); exact Kd.N_mono HO137.out (fun _ hk => ⟨hk.1.1, ⟨hk.2, hk.1.2⟩⟩)), (by (with_reducible repeat (first | apply Kd.N_alloc | apply Kd.N_drewN | apply Kd.N_drew)); exact HO140.out), (by (with_reducible repeat (first | apply Kd.V_alloc | apply Kd.V_drewN | apply Kd.V_drew)); exact Kd.V_mono HO2_2.out (fun _ hk => ⟨hk.1.1.1, ⟨hk.1.1.2.1, ⟨hk.1.2, ⟨hk.2, hk.1.1.2.2⟩⟩⟩⟩)), (by (with_reducible repeat (first | refine blk_drewN ?_ _ | refine blk_drew ?_ | refine blk_alloc ?_ _)); exact BK127.out), (by repeat (first | (with_reducible first | exact HB.out | apply below_alloc | apply pw_below_drewN | apply below_drew1 | refine below_set ?_ GE127.out) | exact HB.out))⟩)
                · skip
                  refine Kd.N_lit_step k41 _ 41 ?hg (N' := 22) ?hd (xs := ([(⟨a2_0, a2_1, l2_2⟩ : S41)] : List (S41))) (inner := [.string a2_0, .string a2_1, .slice A2_2 l2_2.length c2_2]) (ok := (fun k_ => ((P0_ k_ ∨ P2_2_ k_) ∨ w.heap.size ≤ k_) ∧ some k_ ≠ (.slice Ao14 t129.length co14 : Value).ownBlock ∧ some k_ ≠ (v133 : Value).ownBlock ∧ k_ ≠ gb127)) (okp := (fun k_ => ((P0_ k_ ∨ P2_2_ k_) ∨ w.heap.size ≤ k_) ∧ some k_ ≠ (.slice Ao14 t129.length co14 : Value).ownBlock ∧ some k_ ≠ (v133 : Value).ownBlock ∧ k_ ≠ gb127)) ?hr ?hp (fun _ hk => hk) ((show ∀ k_, w16.heap.size ≤ k_ → (fun k_ => ((P0_ k_ ∨ P2_2_ k_) ∨ w.heap.size ≤ k_) ∧ some k_ ≠ (.slice Ao14 t129.length co14 : Value).ownBlock ∧ some k_ ≠ (v133 : Value).ownBlock ∧ k_ ≠ gb127) k_ from fun k_ hk => ⟨(.inr (Nat.le_trans (below_size (by repeat (first | (with_reducible first | exact HB.out | apply below_alloc | apply pw_below_drewN | apply below_drew1 | refine below_set ?_ GE127.out) | exact HB.out))) hk)), Kd.fresh' (Kd.N_lt (by (with_reducible repeat (first | apply Kd.N_alloc | apply Kd.N_drewN | apply Kd.N_drew)); exact HO131.out)) k_ hk, Kd.fresh' (Kd.N_lt (by (with_reducible repeat (first | apply Kd.N_alloc | apply Kd.N_drewN | apply Kd.N_drew)); exact HO134.out)) k_ hk, Kd.freshB (g := gb127) (o := .cells #[.string a2_0, .string a2_1, .slice A2_2 l2_2.length c2_2] 41 (0, 0)) (by (with_reducible repeat (first | refine blk_drewN ?_ _ | refine blk_drew ?_ | refine blk_alloc ?_ _)); exact BK127.out) k_ hk⟩) _ (Nat.le_refl _)) (Below.refl _ _) (Nat.le_refl _) (by simp) ?_; (case hd => rfl); (case hg => rfl); (case hr => first | (go_simp; done) | (go_simp; rfl)); (case hp => exact (Reps.c3 (show Kd.FK k41 _ _ (⟨a2_0, a2_1, l2_2⟩ : S41) [.string a2_0, .string a2_1, .slice A2_2 l2_2.length c2_2] from (k41_mkF _ _ (⟨a2_0, a2_1, l2_2⟩ : S41) (Kd.V_reads' (Kd.V_mono (ok' := (fun k_ => ((P0_ k_ ∨ P2_2_ k_) ∨ w.heap.size ≤ k_) ∧ some k_ ≠ (.slice Ao14 t129.length co14 : Value).ownBlock ∧ some k_ ≠ (v133 : Value).ownBlock ∧ k_ ≠ gb127)) (HO2_2.out) (fun k_ hk => ⟨hk.1.1.1, ⟨hk.1.2, ⟨hk.2, hk.1.1.2⟩⟩⟩))).2.1 (Kd.V_F (Kd.V_mono (ok' := (fun k_ => ((P0_ k_ ∨ P2_2_ k_) ∨ w.heap.size ≤ k_) ∧ some k_ ≠ (.slice Ao14 t129.length co14 : Value).ownBlock ∧ some k_ ≠ (v133 : Value).ownBlock ∧ k_ ≠ gb127)) (HO2_2.out) (fun k_ hk => ⟨hk.1.1.1, ⟨hk.1.2, ⟨hk.2, hk.1.1.2⟩⟩⟩))))) (Reps.none _ _)))
                  intro v139 w18 ho19 hb hg_ hnew_
                  clear hg_ hnew_
                  (first | rw [← Ny138.out] at ho19 | (simp only [Int.reduceToNat] at ho19; rw [← Ny138.out] at ho19))
                  have n0_ := Aside0.mk (Kd.V_elder' (by (with_reducible repeat (first | apply Kd.V_alloc | apply Kd.V_drewN | apply Kd.V_drew)); exact HO0.out) (Kd.N_base ho19) hb)
                  have n1_ := Aside0.mk (Kd.V_elder' (by (with_reducible repeat (first | apply Kd.V_alloc | apply Kd.V_drewN | apply Kd.V_drew)); exact HO2_2.out) (Kd.N_base ho19) hb)
                  have n2_ := Aside0.mk (Kd.N_elder' (by (with_reducible repeat (first | apply Kd.N_alloc | apply Kd.N_drewN | apply Kd.N_drew)); exact HO131.out) (Kd.N_base ho19) hb)
                  have n3_ := Aside0.mk (Kd.N_elder' (by (with_reducible repeat (first | apply Kd.N_alloc | apply Kd.N_drewN | apply Kd.N_drew)); exact HO134.out) (Kd.N_base ho19) hb)
                  have n4_ := Aside0.mk (Kd.N_lower ho19 (below_size (by repeat (first | (with_reducible first | exact HB.out | apply below_alloc | apply pw_below_drewN | apply below_drew1 | refine below_set ?_ GE127.out) | exact HB.out))))
                  have n5_ := Aside0.mk (blk_below (g := gb127) (o := .cells #[.string a2_0, .string a2_1, .slice A2_2 l2_2.length c2_2] 41 (0, 0)) (by (with_reducible repeat (first | refine blk_drewN ?_ _ | refine blk_drew ?_ | refine blk_alloc ?_ _)); exact BK127.out) hb)
                  have n6_ := Aside0.mk (below_step (by repeat (first | (with_reducible first | exact HB.out | apply below_alloc | apply pw_below_drewN | apply below_drew1 | refine below_set ?_ GE127.out) | exact HB.out)) hb)
                  clear HO0
                  clear HO2_2
                  clear HO131
                  clear HO134
                  clear BK127
                  clear HB
                  have HO0 := n0_
                  have HO2_2 := n1_
                  have HO131 := n2_
                  have HO134 := n3_
                  have HO140 := n4_
                  have BK127 := n5_
                  have HB := n6_
                  clear n0_ n1_ n2_ n3_ n4_ n5_ n6_
                  clear hb ho19
                  refine hK.out _ _ ⟨(blk_cell BK127.out 0).trans rfl, (blk_cell BK127.out 1).trans rfl, (blk_cell BK127.out 2).trans rfl⟩ (fun hHeld => ?_)
                  clear hK K
                  refine norm_ (a' := ?_) ?_ ?_
                  rotate_left
                  · show Act.put _ (some 22) _ = _
                    simp only [Act.put, List.setIfInBounds_toArray, List.set_cons_zero, List.set_cons_succ, i64_w, i32_w]
                    rfl
                  refine one_ (i := 2) (N := some 20) #[true, true, true, true, true, false, false] rfl rfl (by kernel_rfl) (by decide) (fun K hK => ?_)
                  refine Kd.N_append_rows_step k41 (w0 := w) w.heap.size (by rfl) (.tmp 18) (.tmp 19) 37 41 (.agg #[(.string ⟨#[]⟩), (.string ⟨#[]⟩), (.slice none 0 0)]) 56 rfl Try.underlying37 info41 rfl (by decide) (by omega) v133 y132 t129 _ _ _ (fun k_ => ((P0_ k_ ∨ P2_2_ k_) ∨ w.heap.size ≤ k_) ∧ some k_ ≠ (v139 : Value).ownBlock ∧ k_ ≠ gb127) (fun k_ => ((fun k_ => ((P0_ k_ ∨ P2_2_ k_) ∨ w.heap.size ≤ k_) ∧ some k_ ≠ (v139 : Value).ownBlock ∧ k_ ≠ gb127)) k_ ∧ some k_ ≠ (v133 : Value).ownBlock) rfl rfl ?aO ?aR (fun _ hk => hk) ?aF ?aB ?aS ?aL ?_
                  (case aR => exact (by skip; exact Kd.N_F (Kd.N_mono (ok' := (fun k_ => ((fun k_ => ((P0_ k_ ∨ P2_2_ k_) ∨ w.heap.size ≤ k_) ∧ some k_ ≠ (v139 : Value).ownBlock ∧ k_ ≠ gb127)) k_ ∧ some k_ ≠ (v133 : Value).ownBlock)) (HO131.out) (fun k_ hk => ⟨⟨hk.1.1.1, ⟨hk.2, hk.1.1.2⟩⟩, hk.1.2⟩))))
                  (case aB => exact (by repeat (first | (with_reducible first | exact HB.out | apply below_alloc | apply pw_below_drewN | apply below_drew1 | refine below_set ?_ GE127.out) | exact HB.out)))
                  (case aF => exact (fun k_ hk => ⟨(.inr (Nat.le_trans (below_size (by repeat (first | (with_reducible first | exact HB.out | apply below_alloc | apply pw_below_drewN | apply below_drew1 | refine below_set ?_ GE127.out) | exact HB.out))) hk)), Kd.fresh' (Kd.N_lt (by (with_reducible repeat (first | apply Kd.N_alloc | apply Kd.N_drewN | apply Kd.N_drew)); exact HO140.out)) k_ hk, Kd.freshB (g := gb127) (o := .cells #[.string a2_0, .string a2_1, .slice A2_2 l2_2.length c2_2] 41 (0, 0)) (by (with_reducible repeat (first | refine blk_drewN ?_ _ | refine blk_drew ?_ | refine blk_alloc ?_ _)); exact BK127.out) k_ hk⟩))
                  (case aO => exact (by (with_reducible repeat (first | apply Kd.N_alloc | apply Kd.N_drewN | apply Kd.N_drew)); exact Kd.N_mono HO134.out (fun _ hk => ⟨hk.1.1, ⟨hk.2, hk.1.2.2⟩⟩)))
                  (case aS => exact (below_size (by repeat (first | (with_reducible first | exact HB.out | apply below_alloc | apply pw_below_drewN | apply below_drew1 | refine below_set ?_ GE127.out) | exact HB.out))))
                  (case aL => have := LMc7.out; omega)
                  intro v136 w20 ho hb hg hat
                  rw [← Ny135.out] at ho
                  have n0_ := Aside0.mk (Kd.V_afterv (ok := (fun k_ => ((P0_ k_ ∨ P2_2_ k_) ∨ w.heap.size ≤ k_) ∧ some k_ ≠ (.slice Ao14 t129.length co14 : Value).ownBlock ∧ some k_ ≠ (v139 : Value).ownBlock ∧ k_ ≠ gb127)) (by (with_reducible repeat (first | apply Kd.V_alloc | apply Kd.V_drewN | apply Kd.V_drew)); exact Kd.V_mono HO0.out (fun _ hk => ⟨⟨hk.1.1.1.1, ⟨hk.1.1.2, ⟨hk.2, hk.1.1.1.2⟩⟩⟩, hk.1.2⟩)) hg hat)
                  have n1_ := Aside0.mk (Kd.V_afterv (ok := (fun k_ => ((P0_ k_ ∨ P2_2_ k_) ∨ w.heap.size ≤ k_) ∧ some k_ ≠ (.slice Ao14 t129.length co14 : Value).ownBlock ∧ some k_ ≠ (v139 : Value).ownBlock ∧ k_ ≠ gb127)) (by (with_reducible repeat (first | apply Kd.V_alloc | apply Kd.V_drewN | apply Kd.V_drew)); exact Kd.V_mono HO2_2.out (fun _ hk => ⟨⟨hk.1.1.1.1, ⟨hk.1.1.2, ⟨hk.2, hk.1.1.1.2⟩⟩⟩, hk.1.2⟩)) hg hat)
                  have n2_ := Aside0.mk (blk_grown (g := gb127) (o := .cells #[.string a2_0, .string a2_1, .slice A2_2 l2_2.length c2_2] 41 (0, 0)) (by (with_reducible repeat (first | refine blk_drewN ?_ _ | refine blk_drew ?_ | refine blk_alloc ?_ _)); exact BK127.out) hg (Kd.N_away HO134.out (fun _ hk => hk.1.2.2)))
                  have n3_ := Aside0.mk (Kd.N_afterv (ok := (fun k_ => ((P0_ k_ ∨ P2_2_ k_) ∨ w.heap.size ≤ k_) ∧ some k_ ≠ (v139 : Value).ownBlock ∧ k_ ≠ gb127)) (by (with_reducible repeat (first | apply Kd.N_alloc | apply Kd.N_drewN | apply Kd.N_drew)); exact Kd.N_mono HO131.out (fun _ hk => ⟨⟨hk.1.1.1, ⟨hk.2, hk.1.1.2⟩⟩, hk.1.2⟩)) hg hat)
                  have n4_ := Aside0.mk (Kd.N_afterv (ok := (fun k_ => ((P0_ k_ ∨ P2_2_ k_) ∨ w.heap.size ≤ k_) ∧ some k_ ≠ (.slice Ao14 t129.length co14 : Value).ownBlock ∧ k_ ≠ gb127)) (by (with_reducible repeat (first | apply Kd.N_alloc | apply Kd.N_drewN | apply Kd.N_drew)); exact Kd.N_mono HO140.out (fun _ hk => ⟨⟨hk.1, ⟨hk.2.1, hk.2.2.2⟩⟩, hk.2.2.1⟩)) hg hat)
                  have n5_ := Aside0.mk (hb)
                  have n6_ := Aside0.mk (ho)
                  clear HO0
                  clear HO2_2
                  clear BK127
                  clear HO131
                  clear HO140
                  clear HB
                  clear HO134
                  have HO0 := n0_
                  have HO2_2 := n1_
                  have BK127 := n2_
                  have HO131 := n3_
                  have HO140 := n4_
                  have HB := n5_
                  have HO137 := n6_
                  clear n0_ n1_ n2_ n3_ n4_ n5_ n6_
                  clear ho hb hg hat
                  refine hK.out _ _ ⟨(blk_cell BK127.out 0).trans rfl, (blk_cell BK127.out 1).trans rfl, (blk_cell BK127.out 2).trans rfl⟩ (fun hHeld => ?_)
                  clear hK K
                  refine norm_ (a' := ?_) ?_ ?_
                  rotate_left
                  · show Act.put _ (some 20) _ = _
                    simp only [Act.put, List.setIfInBounds_toArray, List.set_cons_zero, List.set_cons_succ, i64_w, i32_w]
                    rfl
                  exact norm_ (by simp only [putAll, Act.put, List.setIfInBounds_toArray, List.set_cons_zero, List.set_cons_succ]) (hCont (v133, v136, v139) _ ⟨hHeld, (by (with_reducible repeat (first | apply Kd.V_alloc | apply Kd.V_drewN | apply Kd.V_drew)); exact Kd.V_mono HO0.out (fun _ hk => ⟨hk.1.1, ⟨hk.1.2.1, ⟨hk.2, ⟨hk.1.2.2.1, hk.1.2.2.2⟩⟩⟩⟩)), (by (with_reducible repeat (first | apply Kd.N_alloc | apply Kd.N_drewN | apply Kd.N_drew)); exact Kd.N_mono HO131.out (fun _ hk => ⟨hk.1.1, ⟨hk.2, ⟨hk.1.2.1, hk.1.2.2⟩⟩⟩)), (by (with_reducible repeat (first | apply Kd.N_alloc | apply Kd.N_drewN | apply Kd.N_drew)); exact HO137.out), (by (with_reducible repeat (first | apply Kd.N_alloc | apply Kd.N_drewN | apply Kd.N_drew)); exact Kd.N_mono HO140.out (fun _ hk => ⟨hk.1.1, ⟨hk.1.2.1, ⟨hk.2, hk.1.2.2⟩⟩⟩)), (by (with_reducible repeat (first | apply Kd.V_alloc | apply Kd.V_drewN | apply Kd.V_drew)); exact Kd.V_mono HO2_2.out (fun _ hk => ⟨hk.1.1, ⟨hk.1.2.1, ⟨hk.2, ⟨hk.1.2.2.1, hk.1.2.2.2⟩⟩⟩⟩)), (by (with_reducible repeat (first | refine blk_drewN ?_ _ | refine blk_drew ?_ | refine blk_alloc ?_ _)); exact BK127.out), (by repeat (first | (with_reducible first | exact HB.out | apply below_alloc | apply pw_below_drewN | apply below_drew1 | refine below_set ?_ GE127.out) | exact HB.out))⟩)
              · skip
                refine Kd.N_lit_step k41 _ 41 ?hg (N' := 22) ?hd (xs := ([(⟨a2_0, a2_1, l2_2⟩ : S41)] : List (S41))) (inner := [.string a2_0, .string a2_1, .slice A2_2 l2_2.length c2_2]) (ok := (fun k_ => ((P0_ k_ ∨ P2_2_ k_) ∨ w.heap.size ≤ k_) ∧ some k_ ≠ (.slice Ao14 t129.length co14 : Value).ownBlock ∧ k_ ≠ gb127)) (okp := (fun k_ => ((P0_ k_ ∨ P2_2_ k_) ∨ w.heap.size ≤ k_) ∧ some k_ ≠ (.slice Ao14 t129.length co14 : Value).ownBlock ∧ k_ ≠ gb127)) ?hr ?hp (fun _ hk => hk) ((show ∀ k_, w15.heap.size ≤ k_ → (fun k_ => ((P0_ k_ ∨ P2_2_ k_) ∨ w.heap.size ≤ k_) ∧ some k_ ≠ (.slice Ao14 t129.length co14 : Value).ownBlock ∧ k_ ≠ gb127) k_ from fun k_ hk => ⟨(.inr (Nat.le_trans (below_size (by repeat (first | (with_reducible first | exact HB.out | apply below_alloc | apply pw_below_drewN | apply below_drew1 | refine below_set ?_ GE127.out) | exact HB.out))) hk)), Kd.fresh' (Kd.N_lt (by (with_reducible repeat (first | apply Kd.N_alloc | apply Kd.N_drewN | apply Kd.N_drew)); exact HO131.out)) k_ hk, Kd.freshB (g := gb127) (o := .cells #[.string a2_0, .string a2_1, .slice A2_2 l2_2.length c2_2] 41 (0, 0)) (by (with_reducible repeat (first | refine blk_drewN ?_ _ | refine blk_drew ?_ | refine blk_alloc ?_ _)); exact BK127.out) k_ hk⟩) _ (Nat.le_refl _)) (Below.refl _ _) (Nat.le_refl _) (by simp) ?_; (case hd => rfl); (case hg => rfl); (case hr => first | (go_simp; done) | (go_simp; rfl)); (case hp => exact (Reps.c3 (show Kd.FK k41 _ _ (⟨a2_0, a2_1, l2_2⟩ : S41) [.string a2_0, .string a2_1, .slice A2_2 l2_2.length c2_2] from (k41_mkF _ _ (⟨a2_0, a2_1, l2_2⟩ : S41) (Kd.V_reads' (Kd.V_mono (ok' := (fun k_ => ((P0_ k_ ∨ P2_2_ k_) ∨ w.heap.size ≤ k_) ∧ some k_ ≠ (.slice Ao14 t129.length co14 : Value).ownBlock ∧ k_ ≠ gb127)) (HO2_2.out) (fun k_ hk => ⟨hk.1.1, ⟨hk.2, hk.1.2⟩⟩))).2.1 (Kd.V_F (Kd.V_mono (ok' := (fun k_ => ((P0_ k_ ∨ P2_2_ k_) ∨ w.heap.size ≤ k_) ∧ some k_ ≠ (.slice Ao14 t129.length co14 : Value).ownBlock ∧ k_ ≠ gb127)) (HO2_2.out) (fun k_ hk => ⟨hk.1.1, ⟨hk.2, hk.1.2⟩⟩))))) (Reps.none _ _)))
                intro v139 w16 ho17 hb hg_ hnew_
                clear hg_ hnew_
                (first | rw [← Ny138.out] at ho17 | (simp only [Int.reduceToNat] at ho17; rw [← Ny138.out] at ho17))
                have n0_ := Aside0.mk (Kd.V_elder' (by (with_reducible repeat (first | apply Kd.V_alloc | apply Kd.V_drewN | apply Kd.V_drew)); exact HO0.out) (Kd.N_base ho17) hb)
                have n1_ := Aside0.mk (Kd.V_elder' (by (with_reducible repeat (first | apply Kd.V_alloc | apply Kd.V_drewN | apply Kd.V_drew)); exact HO2_2.out) (Kd.N_base ho17) hb)
                have n2_ := Aside0.mk (Kd.N_elder' (by (with_reducible repeat (first | apply Kd.N_alloc | apply Kd.N_drewN | apply Kd.N_drew)); exact HO131.out) (Kd.N_base ho17) hb)
                have n3_ := Aside0.mk (Kd.N_lower ho17 (below_size (by repeat (first | (with_reducible first | exact HB.out | apply below_alloc | apply pw_below_drewN | apply below_drew1 | refine below_set ?_ GE127.out) | exact HB.out))))
                have n4_ := Aside0.mk (blk_below (g := gb127) (o := .cells #[.string a2_0, .string a2_1, .slice A2_2 l2_2.length c2_2] 41 (0, 0)) (by (with_reducible repeat (first | refine blk_drewN ?_ _ | refine blk_drew ?_ | refine blk_alloc ?_ _)); exact BK127.out) hb)
                have n5_ := Aside0.mk (below_step (by repeat (first | (with_reducible first | exact HB.out | apply below_alloc | apply pw_below_drewN | apply below_drew1 | refine below_set ?_ GE127.out) | exact HB.out)) hb)
                clear HO0
                clear HO2_2
                clear HO131
                clear BK127
                clear HB
                have HO0 := n0_
                have HO2_2 := n1_
                have HO131 := n2_
                have HO140 := n3_
                have BK127 := n4_
                have HB := n5_
                clear n0_ n1_ n2_ n3_ n4_ n5_
                clear hb ho17
                refine hK.out _ _ ⟨(blk_cell BK127.out 0).trans rfl, (blk_cell BK127.out 1).trans rfl, (blk_cell BK127.out 2).trans rfl⟩ (fun hHeld => ?_)
                clear hK K
                refine norm_ (a' := ?_) ?_ ?_
                rotate_left
                · show Act.put _ (some 22) _ = _
                  simp only [Act.put, List.setIfInBounds_toArray, List.set_cons_zero, List.set_cons_succ, i64_w, i32_w]
                  rfl
                refine one_ (i := 0) (N := some 18) #[true, true, false, true, true, false, false] rfl rfl (by kernel_rfl) (by decide) (fun K hK => ?_)
                refine Kd.N_lit_step k41 _ 41 ?hg (N' := 18) ?hd (xs := ([] : List (S41))) (inner := []) (ok := (fun k_ => ((P0_ k_ ∨ P2_2_ k_) ∨ w.heap.size ≤ k_) ∧ some k_ ≠ (.slice Ao14 t129.length co14 : Value).ownBlock ∧ some k_ ≠ (v139 : Value).ownBlock ∧ k_ ≠ gb127)) (okp := (fun k_ => ((P0_ k_ ∨ P2_2_ k_) ∨ w.heap.size ≤ k_) ∧ some k_ ≠ (.slice Ao14 t129.length co14 : Value).ownBlock ∧ some k_ ≠ (v139 : Value).ownBlock ∧ k_ ≠ gb127)) ?hr ?hp (fun _ hk => hk) ((show ∀ k_, w16.heap.size ≤ k_ → (fun k_ => ((P0_ k_ ∨ P2_2_ k_) ∨ w.heap.size ≤ k_) ∧ some k_ ≠ (.slice Ao14 t129.length co14 : Value).ownBlock ∧ some k_ ≠ (v139 : Value).ownBlock ∧ k_ ≠ gb127) k_ from fun k_ hk => ⟨(.inr (Nat.le_trans (below_size (by repeat (first | (with_reducible first | exact HB.out | apply below_alloc | apply pw_below_drewN | apply below_drew1 | refine below_set ?_ GE127.out) | exact HB.out))) hk)), Kd.fresh' (Kd.N_lt (by (with_reducible repeat (first | apply Kd.N_alloc | apply Kd.N_drewN | apply Kd.N_drew)); exact HO131.out)) k_ hk, Kd.fresh' (Kd.N_lt (by (with_reducible repeat (first | apply Kd.N_alloc | apply Kd.N_drewN | apply Kd.N_drew)); exact HO140.out)) k_ hk, Kd.freshB (g := gb127) (o := .cells #[.string a2_0, .string a2_1, .slice A2_2 l2_2.length c2_2] 41 (0, 0)) (by (with_reducible repeat (first | refine blk_drewN ?_ _ | refine blk_drew ?_ | refine blk_alloc ?_ _)); exact BK127.out) k_ hk⟩) _ (Nat.le_refl _)) (Below.refl _ _) (Nat.le_refl _) (by simp) ?_; (case hd => rfl); (case hg => rfl); (case hr => first | (go_simp; done) | (go_simp; rfl)); (case hp => exact (Reps.none _ _))
                intro v133 w18 ho19 hb hg_ hnew_
                clear hg_ hnew_
                (first | rw [← Ny132.out] at ho19 | (simp only [Int.reduceToNat] at ho19; rw [← Ny132.out] at ho19))
                have n0_ := Aside0.mk (Kd.V_elder' (by (with_reducible repeat (first | apply Kd.V_alloc | apply Kd.V_drewN | apply Kd.V_drew)); exact HO0.out) (Kd.N_base ho19) hb)
                have n1_ := Aside0.mk (Kd.V_elder' (by (with_reducible repeat (first | apply Kd.V_alloc | apply Kd.V_drewN | apply Kd.V_drew)); exact HO2_2.out) (Kd.N_base ho19) hb)
                have n2_ := Aside0.mk (Kd.N_elder' (by (with_reducible repeat (first | apply Kd.N_alloc | apply Kd.N_drewN | apply Kd.N_drew)); exact HO131.out) (Kd.N_base ho19) hb)
                have n3_ := Aside0.mk (Kd.N_elder' (by (with_reducible repeat (first | apply Kd.N_alloc | apply Kd.N_drewN | apply Kd.N_drew)); exact HO140.out) (Kd.N_base ho19) hb)
                have n4_ := Aside0.mk (Kd.N_lower ho19 (below_size (by repeat (first | (with_reducible first | exact HB.out | apply below_alloc | apply pw_below_drewN | apply below_drew1 | refine below_set ?_ GE127.out) | exact HB.out))))
                have n5_ := Aside0.mk (blk_below (g := gb127) (o := .cells #[.string a2_0, .string a2_1, .slice A2_2 l2_2.length c2_2] 41 (0, 0)) (by (with_reducible repeat (first | refine blk_drewN ?_ _ | refine blk_drew ?_ | refine blk_alloc ?_ _)); exact BK127.out) hb)
                have n6_ := Aside0.mk (below_step (by repeat (first | (with_reducible first | exact HB.out | apply below_alloc | apply pw_below_drewN | apply below_drew1 | refine below_set ?_ GE127.out) | exact HB.out)) hb)
                clear HO0
                clear HO2_2
                clear HO131
                clear HO140
                clear BK127
                clear HB
                have HO0 := n0_
                have HO2_2 := n1_
                have HO131 := n2_
                have HO140 := n3_
                have HO134 := n4_
                have BK127 := n5_
                have HB := n6_
                clear n0_ n1_ n2_ n3_ n4_ n5_ n6_
                clear hb ho19
                refine hK.out _ _ ⟨(blk_cell BK127.out 0).trans rfl, (blk_cell BK127.out 1).trans rfl, (blk_cell BK127.out 2).trans rfl⟩ (fun hHeld => ?_)
                clear hK K
                refine norm_ (a' := ?_) ?_ ?_
                rotate_left
                · show Act.put _ (some 18) _ = _
                  simp only [Act.put, List.setIfInBounds_toArray, List.set_cons_zero, List.set_cons_succ, i64_w, i32_w]
                  rfl
                refine one_ (i := 2) (N := some 20) #[true, true, true, true, true, false, false] rfl rfl (by kernel_rfl) (by decide) (fun K hK => ?_)
                refine Kd.N_append_rows_step k41 (w0 := w) w.heap.size (by rfl) (.tmp 18) (.tmp 19) 37 41 (.agg #[(.string ⟨#[]⟩), (.string ⟨#[]⟩), (.slice none 0 0)]) 56 rfl Try.underlying37 info41 rfl (by decide) (by omega) v133 y132 t129 _ _ _ (fun k_ => ((P0_ k_ ∨ P2_2_ k_) ∨ w.heap.size ≤ k_) ∧ some k_ ≠ (v139 : Value).ownBlock ∧ k_ ≠ gb127) (fun k_ => ((fun k_ => ((P0_ k_ ∨ P2_2_ k_) ∨ w.heap.size ≤ k_) ∧ some k_ ≠ (v139 : Value).ownBlock ∧ k_ ≠ gb127)) k_ ∧ some k_ ≠ (v133 : Value).ownBlock) rfl rfl ?aO ?aR (fun _ hk => hk) ?aF ?aB ?aS ?aL ?_
                (case aR => exact (by skip; exact Kd.N_F (Kd.N_mono (ok' := (fun k_ => ((fun k_ => ((P0_ k_ ∨ P2_2_ k_) ∨ w.heap.size ≤ k_) ∧ some k_ ≠ (v139 : Value).ownBlock ∧ k_ ≠ gb127)) k_ ∧ some k_ ≠ (v133 : Value).ownBlock)) (HO131.out) (fun k_ hk => ⟨⟨hk.1.1.1, ⟨hk.1.2, hk.1.1.2⟩⟩, hk.2⟩))))
                (case aB => exact (by repeat (first | (with_reducible first | exact HB.out | apply below_alloc | apply pw_below_drewN | apply below_drew1 | refine below_set ?_ GE127.out) | exact HB.out)))
                (case aF => exact (fun k_ hk => ⟨(.inr (Nat.le_trans (below_size (by repeat (first | (with_reducible first | exact HB.out | apply below_alloc | apply pw_below_drewN | apply below_drew1 | refine below_set ?_ GE127.out) | exact HB.out))) hk)), Kd.fresh' (Kd.N_lt (by (with_reducible repeat (first | apply Kd.N_alloc | apply Kd.N_drewN | apply Kd.N_drew)); exact HO140.out)) k_ hk, Kd.freshB (g := gb127) (o := .cells #[.string a2_0, .string a2_1, .slice A2_2 l2_2.length c2_2] 41 (0, 0)) (by (with_reducible repeat (first | refine blk_drewN ?_ _ | refine blk_drew ?_ | refine blk_alloc ?_ _)); exact BK127.out) k_ hk⟩))
                (case aO => exact (by (with_reducible repeat (first | apply Kd.N_alloc | apply Kd.N_drewN | apply Kd.N_drew)); exact Kd.N_mono HO134.out (fun _ hk => ⟨hk.1, ⟨hk.2.2.1, hk.2.2.2⟩⟩)))
                (case aS => exact (below_size (by repeat (first | (with_reducible first | exact HB.out | apply below_alloc | apply pw_below_drewN | apply below_drew1 | refine below_set ?_ GE127.out) | exact HB.out))))
                (case aL => have := LMc7.out; omega)
                intro v136 w20 ho hb hg hat
                rw [← Ny135.out] at ho
                have n0_ := Aside0.mk (Kd.V_afterv (ok := (fun k_ => ((P0_ k_ ∨ P2_2_ k_) ∨ w.heap.size ≤ k_) ∧ some k_ ≠ (.slice Ao14 t129.length co14 : Value).ownBlock ∧ some k_ ≠ (v139 : Value).ownBlock ∧ k_ ≠ gb127)) (by (with_reducible repeat (first | apply Kd.V_alloc | apply Kd.V_drewN | apply Kd.V_drew)); exact Kd.V_mono HO0.out (fun _ hk => ⟨⟨hk.1.1.1.1, ⟨hk.1.1.2, ⟨hk.1.2, hk.1.1.1.2⟩⟩⟩, hk.2⟩)) hg hat)
                have n1_ := Aside0.mk (Kd.V_afterv (ok := (fun k_ => ((P0_ k_ ∨ P2_2_ k_) ∨ w.heap.size ≤ k_) ∧ some k_ ≠ (.slice Ao14 t129.length co14 : Value).ownBlock ∧ some k_ ≠ (v139 : Value).ownBlock ∧ k_ ≠ gb127)) (by (with_reducible repeat (first | apply Kd.V_alloc | apply Kd.V_drewN | apply Kd.V_drew)); exact Kd.V_mono HO2_2.out (fun _ hk => ⟨⟨hk.1.1.1.1, ⟨hk.1.1.2, ⟨hk.1.2, hk.1.1.1.2⟩⟩⟩, hk.2⟩)) hg hat)
                have n2_ := Aside0.mk (blk_grown (g := gb127) (o := .cells #[.string a2_0, .string a2_1, .slice A2_2 l2_2.length c2_2] 41 (0, 0)) (by (with_reducible repeat (first | refine blk_drewN ?_ _ | refine blk_drew ?_ | refine blk_alloc ?_ _)); exact BK127.out) hg (Kd.N_away HO134.out (fun _ hk => hk.2.2.2)))
                have n3_ := Aside0.mk (Kd.N_afterv (ok := (fun k_ => ((P0_ k_ ∨ P2_2_ k_) ∨ w.heap.size ≤ k_) ∧ some k_ ≠ (v139 : Value).ownBlock ∧ k_ ≠ gb127)) (by (with_reducible repeat (first | apply Kd.N_alloc | apply Kd.N_drewN | apply Kd.N_drew)); exact Kd.N_mono HO131.out (fun _ hk => ⟨⟨hk.1.1.1, ⟨hk.1.2, hk.1.1.2⟩⟩, hk.2⟩)) hg hat)
                have n4_ := Aside0.mk (Kd.N_afterv (ok := (fun k_ => ((P0_ k_ ∨ P2_2_ k_) ∨ w.heap.size ≤ k_) ∧ some k_ ≠ (.slice Ao14 t129.length co14 : Value).ownBlock ∧ k_ ≠ gb127)) (by (with_reducible repeat (first | apply Kd.N_alloc | apply Kd.N_drewN | apply Kd.N_drew)); exact HO140.out) hg hat)
                have n5_ := Aside0.mk (hb)
                have n6_ := Aside0.mk (ho)
                clear HO0
                clear HO2_2
                clear BK127
                clear HO131
                clear HO140
                clear HB
                clear HO134
                have HO0 := n0_
                have HO2_2 := n1_
                have BK127 := n2_
                have HO131 := n3_
                have HO140 := n4_
                have HB := n5_
                have HO137 := n6_
                clear n0_ n1_ n2_ n3_ n4_ n5_ n6_
                clear ho hb hg hat
                refine hK.out _ _ ⟨(blk_cell BK127.out 0).trans rfl, (blk_cell BK127.out 1).trans rfl, (blk_cell BK127.out 2).trans rfl⟩ (fun hHeld => ?_)
                clear hK K
                refine norm_ (a' := ?_) ?_ ?_
                rotate_left
                · show Act.put _ (some 20) _ = _
                  simp only [Act.put, List.setIfInBounds_toArray, List.set_cons_zero, List.set_cons_succ, i64_w, i32_w]
                  rfl
                exact norm_ (by simp only [putAll, Act.put, List.setIfInBounds_toArray, List.set_cons_zero, List.set_cons_succ]) (hCont (v133, v136, v139) _ ⟨hHeld, (by (with_reducible repeat (first | apply Kd.V_alloc | apply Kd.V_drewN | apply Kd.V_drew)); exact Kd.V_mono HO0.out (fun _ hk => ⟨hk.1.1, ⟨hk.1.2.1, ⟨hk.2, ⟨hk.1.2.2.1, hk.1.2.2.2⟩⟩⟩⟩)), (by (with_reducible repeat (first | apply Kd.N_alloc | apply Kd.N_drewN | apply Kd.N_drew)); exact Kd.N_mono HO131.out (fun _ hk => ⟨hk.1.1, ⟨hk.2, ⟨hk.1.2.1, hk.1.2.2⟩⟩⟩)), (by (with_reducible repeat (first | apply Kd.N_alloc | apply Kd.N_drewN | apply Kd.N_drew)); exact HO137.out), (by (with_reducible repeat (first | apply Kd.N_alloc | apply Kd.N_drewN | apply Kd.N_drew)); exact Kd.N_mono HO140.out (fun _ hk => ⟨hk.1.1, ⟨hk.1.2.1, ⟨hk.2, hk.1.2.2⟩⟩⟩)), (by (with_reducible repeat (first | apply Kd.V_alloc | apply Kd.V_drewN | apply Kd.V_drew)); exact Kd.V_mono HO2_2.out (fun _ hk => ⟨hk.1.1, ⟨hk.1.2.1, ⟨hk.2, ⟨hk.1.2.2.1, hk.1.2.2.2⟩⟩⟩⟩)), (by (with_reducible repeat (first | refine blk_drewN ?_ _ | refine blk_drew ?_ | refine blk_alloc ?_ _)); exact BK127.out), (by repeat (first | (with_reducible first | exact HB.out | apply below_alloc | apply pw_below_drewN | apply below_drew1 | refine below_set ?_ GE127.out) | exact HB.out))⟩)
            rintro ⟨v133, v136, v139⟩ w21 ⟨hS_, h0_, h1_, h2_, h3_, h4_, h5_, h6_⟩
            have n0_ : Aside0 (Kd.V k41 41 w21 w.heap.size (fun k_ => ((P0_ k_ ∨ P2_2_ k_) ∨ w.heap.size ≤ k_) ∧ some k_ ≠ (.slice Ao14 t129.length co14 : Value).ownBlock ∧ some k_ ≠ (v136 : Value).ownBlock ∧ some k_ ≠ (v139 : Value).ownBlock ∧ k_ ≠ gb127) (.slice A0 l0.length c0) l0) := ⟨h0_⟩
            have n1_ : Aside0 (Kd.N k41 41 w21 w.heap.size (fun k_ => ((P0_ k_ ∨ P2_2_ k_) ∨ w.heap.size ≤ k_) ∧ some k_ ≠ (v136 : Value).ownBlock ∧ some k_ ≠ (v139 : Value).ownBlock ∧ k_ ≠ gb127) (.slice Ao14 t129.length co14) t129) := ⟨h1_⟩
            have n2_ : Aside0 (Kd.N k41 41 w21 w.heap.size (fun k_ => ((P0_ k_ ∨ P2_2_ k_) ∨ w.heap.size ≤ k_) ∧ some k_ ≠ (v139 : Value).ownBlock ∧ k_ ≠ gb127) v136 y135) := ⟨h2_⟩
            have n3_ : Aside0 (Kd.N k41 41 w21 w.heap.size (fun k_ => ((P0_ k_ ∨ P2_2_ k_) ∨ w.heap.size ≤ k_) ∧ some k_ ≠ (.slice Ao14 t129.length co14 : Value).ownBlock ∧ some k_ ≠ (v136 : Value).ownBlock ∧ k_ ≠ gb127) v139 y138) := ⟨h3_⟩
            have n4_ : Aside0 (Kd.V Kd.string 9 w21 w.heap.size (fun k_ => ((P0_ k_ ∨ P2_2_ k_) ∨ w.heap.size ≤ k_) ∧ some k_ ≠ (.slice Ao14 t129.length co14 : Value).ownBlock ∧ some k_ ≠ (v136 : Value).ownBlock ∧ some k_ ≠ (v139 : Value).ownBlock ∧ k_ ≠ gb127) (.slice A2_2 l2_2.length c2_2) l2_2) := ⟨h4_⟩
            have n5_ : Aside0 (w21.heap[gb127]? = some (.cells #[.string a2_0, .string a2_1, .slice A2_2 l2_2.length c2_2] 41 (0, 0))) := ⟨h5_⟩
            have n6_ : Aside0 (Below w.heap.size w w21) := ⟨h6_⟩
            clear HO0
            clear HO2_2
            clear HO131
            clear BK127
            clear HB
            clear h0_ h1_ h2_ h3_ h4_ h5_ h6_
            have HO0 := n0_
            have HO131 := n1_
            have HO137 := n2_
            have HO140 := n3_
            have HO2_2 := n4_
            have BK127 := n5_
            have HB := n6_
            clear n0_ n1_ n2_ n3_ n4_ n5_ n6_
            have hHeld : w21.cell? ⟨gb127, 0, none⟩ = some (.string a2_0) ∧ w21.cell? ⟨gb127, 1, none⟩ = some (.string a2_1) ∧ w21.cell? ⟨gb127, 2, none⟩ = some (.slice A2_2 l2_2.length c2_2) := hS_
            obtain ⟨Ao23, co23, eo23⟩ := Kd.N_slice HO140.out
            (first | subst eo23 | (injection eo23 with f1_ f2_ f3_; have f4_ := f1_.symm; have f5_ := f3_.symm; clear f1_ f2_ f3_; subst f4_; subst f5_))
            refine norm_ (a' := ?_) ?_ ?_
            rotate_left
            · simp only [putAll, Act.put, List.setIfInBounds_toArray, List.set_cons_zero, List.set_cons_succ]
              rfl
            refine one_ (i := 5) (N := some 23) #[true, true, true, true, true, true, false] rfl rfl (by kernel_rfl) (by decide) (fun K hK => ?_)
            refine Kd.N_append_rows_step k41 (w0 := w) w.heap.size (by rfl) (.tmp 20) (.tmp 22) 37 41 (.agg #[(.string ⟨#[]⟩), (.string ⟨#[]⟩), (.slice none 0 0)]) 56 rfl Try.underlying37 info41 rfl (by decide) (by omega) v136 y135 y138 _ _ _ (fun k_ => ((P0_ k_ ∨ P2_2_ k_) ∨ w.heap.size ≤ k_) ∧ k_ ≠ gb127) (fun k_ => ((fun k_ => ((P0_ k_ ∨ P2_2_ k_) ∨ w.heap.size ≤ k_) ∧ k_ ≠ gb127)) k_ ∧ some k_ ≠ (v136 : Value).ownBlock) rfl rfl ?aO ?aR (fun _ hk => hk) ?aF ?aB ?aS ?aL ?_
            (case aR => exact (by skip; exact Kd.N_F (Kd.N_mono (ok' := (fun k_ => ((fun k_ => ((P0_ k_ ∨ P2_2_ k_) ∨ w.heap.size ≤ k_) ∧ k_ ≠ gb127)) k_ ∧ some k_ ≠ (v136 : Value).ownBlock)) (HO140.out) (fun k_ hk => ⟨⟨hk.1, hk.2.2.2⟩, hk.2.2.1⟩))))
            (case aB => exact (by repeat (first | (with_reducible first | exact HB.out | apply below_alloc | apply pw_below_drewN | apply below_drew1 | refine below_set ?_ GE127.out) | exact HB.out)))
            (case aF => exact (fun k_ hk => ⟨(.inr (Nat.le_trans (below_size (by repeat (first | (with_reducible first | exact HB.out | apply below_alloc | apply pw_below_drewN | apply below_drew1 | refine below_set ?_ GE127.out) | exact HB.out))) hk)), Kd.freshB (g := gb127) (o := .cells #[.string a2_0, .string a2_1, .slice A2_2 l2_2.length c2_2] 41 (0, 0)) (by (with_reducible repeat (first | refine blk_drewN ?_ _ | refine blk_drew ?_ | refine blk_alloc ?_ _)); exact BK127.out) k_ hk⟩))
            (case aO => exact (by (with_reducible repeat (first | apply Kd.N_alloc | apply Kd.N_drewN | apply Kd.N_drew)); exact Kd.N_mono HO137.out (fun _ hk => ⟨hk.1, hk.2.2⟩)))
            (case aS => exact (below_size (by repeat (first | (with_reducible first | exact HB.out | apply below_alloc | apply pw_below_drewN | apply below_drew1 | refine below_set ?_ GE127.out) | exact HB.out))))
            (case aL => have := LMc8.out; omega)
            intro v142 w22 ho hb hg hat
            rw [← Ny141.out] at ho
            have n0_ := Aside0.mk (Kd.V_afterv (ok := (fun k_ => ((P0_ k_ ∨ P2_2_ k_) ∨ w.heap.size ≤ k_) ∧ some k_ ≠ (.slice Ao14 t129.length co14 : Value).ownBlock ∧ some k_ ≠ (.slice Ao23 y138.length co23 : Value).ownBlock ∧ k_ ≠ gb127)) (by (with_reducible repeat (first | apply Kd.V_alloc | apply Kd.V_drewN | apply Kd.V_drew)); exact Kd.V_mono HO0.out (fun _ hk => ⟨⟨hk.1, ⟨hk.2.1, ⟨hk.2.2.2.1, hk.2.2.2.2⟩⟩⟩, hk.2.2.1⟩)) hg hat)
            have n1_ := Aside0.mk (Kd.V_afterv (ok := (fun k_ => ((P0_ k_ ∨ P2_2_ k_) ∨ w.heap.size ≤ k_) ∧ some k_ ≠ (.slice Ao14 t129.length co14 : Value).ownBlock ∧ some k_ ≠ (.slice Ao23 y138.length co23 : Value).ownBlock ∧ k_ ≠ gb127)) (by (with_reducible repeat (first | apply Kd.V_alloc | apply Kd.V_drewN | apply Kd.V_drew)); exact Kd.V_mono HO2_2.out (fun _ hk => ⟨⟨hk.1, ⟨hk.2.1, ⟨hk.2.2.2.1, hk.2.2.2.2⟩⟩⟩, hk.2.2.1⟩)) hg hat)
            have n2_ := Aside0.mk (blk_grown (g := gb127) (o := .cells #[.string a2_0, .string a2_1, .slice A2_2 l2_2.length c2_2] 41 (0, 0)) (by (with_reducible repeat (first | refine blk_drewN ?_ _ | refine blk_drew ?_ | refine blk_alloc ?_ _)); exact BK127.out) hg (Kd.N_away HO137.out (fun _ hk => hk.2.2)))
            have n3_ := Aside0.mk (Kd.N_afterv (ok := (fun k_ => ((P0_ k_ ∨ P2_2_ k_) ∨ w.heap.size ≤ k_) ∧ some k_ ≠ (.slice Ao23 y138.length co23 : Value).ownBlock ∧ k_ ≠ gb127)) (by (with_reducible repeat (first | apply Kd.N_alloc | apply Kd.N_drewN | apply Kd.N_drew)); exact Kd.N_mono HO131.out (fun _ hk => ⟨⟨hk.1, ⟨hk.2.2.1, hk.2.2.2⟩⟩, hk.2.1⟩)) hg hat)
            have n4_ := Aside0.mk (Kd.N_afterv (ok := (fun k_ => ((P0_ k_ ∨ P2_2_ k_) ∨ w.heap.size ≤ k_) ∧ some k_ ≠ (.slice Ao14 t129.length co14 : Value).ownBlock ∧ k_ ≠ gb127)) (by (with_reducible repeat (first | apply Kd.N_alloc | apply Kd.N_drewN | apply Kd.N_drew)); exact Kd.N_mono HO140.out (fun _ hk => ⟨⟨hk.1, ⟨hk.2.1, hk.2.2.2⟩⟩, hk.2.2.1⟩)) hg hat)
            have n5_ := Aside0.mk (hb)
            have n6_ := Aside0.mk (ho)
            clear HO0
            clear HO2_2
            clear BK127
            clear HO131
            clear HO140
            clear HB
            clear HO137
            have HO0 := n0_
            have HO2_2 := n1_
            have BK127 := n2_
            have HO131 := n3_
            have HO140 := n4_
            have HB := n5_
            have HO143 := n6_
            clear n0_ n1_ n2_ n3_ n4_ n5_ n6_
            clear ho hb hg hat
            refine hK.out _ _ ⟨(blk_cell BK127.out 0).trans rfl, (blk_cell BK127.out 1).trans rfl, (blk_cell BK127.out 2).trans rfl⟩ (fun hHeld => ?_)
            clear hK K
            refine norm_ (a' := ?_) ?_ ?_
            rotate_left
            · show Act.put _ (some 23) _ = _
              simp only [Act.put, List.setIfInBounds_toArray, List.set_cons_zero, List.set_cons_succ, i64_w, i32_w]
              rfl
            refine pure_ (i := 6) (N := some 8) (v := ?_) (a' := ?_) #[true, true, true, true, true, true, true] rfl rfl (by kernel_rfl) (fun _ _ _ h => h) (Or.inl ⟨by rfl, ?_⟩) ?_ ?_
            rotate_left
            · intro w'
              go_simp
              with_reducible rfl
            rotate_left
            · simp only [Act.put, List.setIfInBounds_toArray, List.set_cons_zero, List.set_cons_succ, i64_w, i32_w]
              rfl
            refine done_ (by kernel_rfl) ?_
            obtain ⟨Ao24, co24, eo24⟩ := Kd.N_slice HO143.out
            subst eo24
            have q25 : (1 : Int) ≤ ((y141.length : Int) : Int) := of_decide_eq_true (by first | (with_reducible assumption) | assumption)
            obtain ⟨i025, hi025, _, hsz25, _⟩ := info_parts info41
            have hroom25 : y141.length ≤ co24 := (Kd.N_reads' HO143.out).2.1
            have hC25 : Kd.F k41 _ _ Ao24 y141.length y141 := (Kd.V_at (base := w.heap.size) (Kd.N_V HO143.out)).2.2
            have hcut25 := cut_from (P := Try.prog) 37 41 .i64 Try.underlying37 hi025 3 hsz25 Ao24 y141.length co24 1 (by omega) q25
            have hr25 := Kd.F_cut (m := (1 : Int).toNat) (c := co24) hC25 (by omega) hroom25
            obtain ⟨A25, hA25⟩ : ∃ A1, A1 = (if co24 = (1 : Int).toNat then Ao24 else (Ao24 : Option Addr).map (·.add ((1 : Int).toNat * 3))) := ⟨_, rfl⟩
            obtain ⟨c25, hc25⟩ : ∃ c1, c1 = co24 - (1 : Int).toNat := ⟨_, rfl⟩
            have hy25 : y144.length = y141.length - (1 : Int).toNat := (by rw [Ny144.out, List.length_drop] <;> omega)
            rw [show (y141).drop (1 : Int).toNat = y144 from Ny144.out.symm] at hr25
            replace hr25 : Kd.F k41 _ _ A25 y144.length y144 := (by rw [hA25]; exact hr25)
            rw [← hy25, ← hA25, ← hc25] at hcut25
            have HO148 := Aside0.mk (show Kd.V k41 41 _ w.heap.size _ (.slice A25 y144.length c25) y144 from Kd.V_mk (by rw [hy25, hc25]; exact Nat.sub_le_sub_right hroom25 _) hr25)
            have HC148 := Aside0.mk (show y144.length ≤ c25 from by rw [hy25, hc25]; exact Nat.sub_le_sub_right hroom25 _)
            clear hr25 hC25 hroom25 hi025 hsz25 hc25
            have KY25 := Aside0.mk hy25
            have KA25 := Aside0.mk hA25
            clear hy25 hA25
            replace q25 := eq_true q25
            try go_wp2
            go_ret
            exact ⟨_, by first | rfl | (simp [errW_none, errW_some] <;> rfl) | (simp [*, errW_none, errW_some] <;> rfl), by (with_reducible repeat (first | apply Kd.V_alloc | apply Kd.V_drewN | apply Kd.V_drew)); exact Kd.V_mono HO148.out (fun _ hk => hk.1), by repeat (first | (with_reducible first | exact HB.out | apply below_alloc | apply pw_below_drewN | apply below_drew1 | refine below_set ?_ GE127.out) | exact HB.out)⟩
          · rw [if_neg c10] at H
            exact absurd H (by simp)
        · rw [if_neg c9] at H
          have c9b0 : decide (a1 < (y141.length : Int)) = false := decide_eq_false c9
          clear c9
          obtain rfl := Option.some.inj H
          go_enter Try.func15, Try.ntmps15
          try go_wp2_with (first | ((with_reducible refine gate_dst (N := 5) rfl ?_); refine box_event ?hg (N := 5) ?hd (cs := #[.string a2_0, .string a2_1, .slice A2_2 l2_2.length c2_2]) (t := 41) ?hr ?_; (case hd => rfl); (case hg => rfl); (case hr => first | (go_simp; done) | (go_simp; rfl)); intro gb127 hg w26 hbox hb; have n0_ := Aside0.mk (Kd.V_below (Kd.V_elderB (by (with_reducible repeat (first | apply Kd.V_alloc | apply Kd.V_drewN | apply Kd.V_drew)); exact HO0.out) gb127 (Nat.le_of_eq hg.symm)) hb); have n1_ := Aside0.mk (Kd.V_below (Kd.V_elderB (by (with_reducible repeat (first | apply Kd.V_alloc | apply Kd.V_drewN | apply Kd.V_drew)); exact HO2_2.out) gb127 (Nat.le_of_eq hg.symm)) hb); have n2_ := Aside0.mk (below_step (by repeat (first | (with_reducible first | exact HB.out | apply below_alloc | apply pw_below_drewN | apply below_drew1) | exact HB.out)) hb); have n3_ := Aside0.mk (hbox); have n4_ := Aside0.mk ((by rw [hg]; exact (below_size (by repeat (first | (with_reducible first | exact HB.out | apply below_alloc | apply pw_below_drewN | apply below_drew1) | exact HB.out))) : w.heap.size ≤ gb127)); have n5_ := Aside0.mk ((by rw [hg]; exact (below_size (by repeat (first | (with_reducible first | exact HB.out | apply below_alloc | apply pw_below_drewN | apply below_drew1) | exact HB.out))) : w.heap.size ≤ gb127)); clear HO0; clear HO2_2; clear HB; have HO0 := n0_; have HO2_2 := n1_; have HB := n2_; have BK127 := n3_; have GW127 := n4_; have GE127 := n5_; clear n0_ n1_ n2_ n3_ n4_ n5_; clear hb hbox hg; have hcz27_0 : w26.cell? ⟨gb127, 0, none⟩ = some (.string a2_0) := (blk_cell BK127.out 0).trans rfl; have hcz27_1 : w26.cell? ⟨gb127, 1, none⟩ = some (.string a2_1) := (blk_cell BK127.out 1).trans rfl; have hcz27_2 : w26.cell? ⟨gb127, 2, none⟩ = some (.slice A2_2 l2_2.length c2_2) := (blk_cell BK127.out 2).trans rfl; have hfz27_0 := blk_frozen BK127.out 0; have hfz27_1 := blk_frozen BK127.out 1; have hfz27_2 := blk_frozen BK127.out 2) | ((with_reducible refine gate_callee (f := 17) rfl ?_); refine goesL_ (some 12) rfl rfl Try.func17 (by kernel_rfl) rfl #[.slice A0 l0.length c0, .string a2_0] rfl (by (try simp only [List.map_toArray, List.map_cons, List.map_nil]); first | done | rfl | (simp only [List.length_drop, List.length_take]; rfl)) ?_; (with_reducible refine (ciceroneref29_At.calls k _ _ l0 a2_0 t128 _ ?side1 ?side2 A4.out).mono ?_); (case side1 => repeat (first | exact (Kd.V_reads' HO0.out).2.2 | (with_reducible refine Kd.C_alloc ?_ _) | (with_reducible refine Kd.C_drewN ?_ _) | (with_reducible refine Kd.C_drew ?_))); (case side2 => exact (Kd.V_reads' HO0.out).2.1); rintro e w' ⟨rfl, ⟨nd, rfl⟩⟩; refine ⟨_, rfl, ?_⟩) | ((with_reducible refine gate_callee (f := 31) rfl ?_); refine goesL_ (some 17) rfl rfl Try.func31 (by kernel_rfl) rfl #[.slice A0 l0.length c0, .int .i64 t128] rfl (by (try simp only [List.map_toArray, List.map_cons, List.map_nil]); first | done | rfl | (simp only [List.length_drop, List.length_take]; rfl)) ?_; (with_reducible refine (ciceroneref29_Without.calls (fun k_ => (((P0_ k_ ∨ P2_2_ k_) ∨ w.heap.size ≤ k_) ∧ k_ ≠ gb127)) _ _ l0 t128 t129 _ ?side1 A6.out).mono ?_); (case side1 => exact HO0.out); rintro e w28 ⟨v130, rfl, ho0, hb⟩; refine ⟨_, rfl, ?_⟩; have n0_ := Aside0.mk (Kd.V_elder' (by (with_reducible repeat (first | apply Kd.V_alloc | apply Kd.V_drewN | apply Kd.V_drew)); exact HO0.out) (Kd.N_base ho0) hb); have n1_ := Aside0.mk (Kd.V_elder' (by (with_reducible repeat (first | apply Kd.V_alloc | apply Kd.V_drewN | apply Kd.V_drew)); exact HO2_2.out) (Kd.N_base ho0) hb); have n2_ := Aside0.mk (Kd.N_lower (Kd.N_mono (ok' := fun k_ => ((P0_ k_ ∨ P2_2_ k_) ∨ w.heap.size ≤ k_) ∧ k_ ≠ gb127) ho0 (fun k_ hk_ => ⟨Or.elim hk_ (fun hs_ => hs_.1) (fun hn_ => (.inr (Nat.le_trans (below_size (by repeat (first | (with_reducible first | exact HB.out | apply below_alloc | apply pw_below_drewN | apply below_drew1 | refine below_set ?_ GE127.out) | exact HB.out))) hn_))), Or.elim hk_ (fun hs_ => hs_.2) (fun hn_ => (Kd.freshB (g := gb127) (o := .cells #[.string a2_0, .string a2_1, .slice A2_2 l2_2.length c2_2] 41 (0, 0)) (by (with_reducible repeat (first | refine blk_drewN ?_ _ | refine blk_drew ?_ | refine blk_alloc ?_ _)); exact BK127.out) k_ hn_))⟩)) (below_size (by repeat (first | (with_reducible first | exact HB.out | apply below_alloc | apply pw_below_drewN | apply below_drew1 | refine below_set ?_ GE127.out) | exact HB.out)))); have n3_ := Aside0.mk (blk_below (g := gb127) (o := .cells #[.string a2_0, .string a2_1, .slice A2_2 l2_2.length c2_2] 41 (0, 0)) (by (with_reducible repeat (first | refine blk_drewN ?_ _ | refine blk_drew ?_ | refine blk_alloc ?_ _)); exact BK127.out) hb); have n4_ := Aside0.mk (below_step (by repeat (first | (with_reducible first | exact HB.out | apply below_alloc | apply pw_below_drewN | apply below_drew1 | refine below_set ?_ GE127.out) | exact HB.out)) hb); clear HO0; clear HO2_2; clear BK127; clear HB; have HO0 := n0_; have HO2_2 := n1_; have HO131 := n2_; have BK127 := n3_; have HB := n4_; clear n0_ n1_ n2_ n3_ n4_; (try clear hb); (try clear hb2); (try clear hk); (try clear hi); (try clear ho0); obtain ⟨Ao29, co29, eo29⟩ := Kd.N_slice HO131.out; subst eo29))
          have n0_ := Aside0.mk (Kd.V_drew HO0.out)
          have n1_ := Aside0.mk (Kd.V_drew HO2_2.out)
          have n2_ := Aside0.mk (Kd.N_drew HO131.out)
          have n3_ := Aside0.mk (blk_drew BK127.out)
          have n4_ := Aside0.mk (below_drew1 HB.out)
          clear HO0
          clear HO2_2
          clear HO131
          clear BK127
          clear HB
          have HO0 := n0_
          have HO2_2 := n1_
          have HO131 := n2_
          have BK127 := n3_
          have HB := n4_
          clear n0_ n1_ n2_ n3_ n4_
          refine start_ (n := 7) (S := fun w' => w'.cell? ⟨gb127, 0, none⟩ = some (.string a2_0) ∧ w'.cell? ⟨gb127, 1, none⟩ = some (.string a2_1) ∧ w'.cell? ⟨gb127, 2, none⟩ = some (.slice A2_2 l2_2.length c2_2)) (ds := []) #[false, false, false, false, false, false, false] (by kernel_rfl) rfl rfl ⟨(blk_cell BK127.out 0).trans rfl, (blk_cell BK127.out 1).trans rfl, (blk_cell BK127.out 2).trans rfl⟩ (fun hHeld => ?_)
          generalize w28.drew = w30 at HO0 HO2_2 HO131 BK127 HB hHeld ⊢
          refine pure_ (i := 1) (N := some 19) (v := ?_) (a' := ?_) #[false, true, false, false, false, false, false] rfl rfl (by kernel_rfl) (fun _ _ _ h => h) (Or.inl ⟨by rfl, ?_⟩) ?_ ?_
          rotate_left
          · intro w'
            go_simp
            with_reducible rfl
          rotate_left
          · simp only [Act.put, List.setIfInBounds_toArray, List.set_cons_zero, List.set_cons_succ, i64_w, i32_w]
            rfl
          refine take_ (i := 3) (N := some 21) (v := ?_) (a' := ?_) #[false, true, false, true, false, false, false] rfl rfl (by kernel_rfl) (fun _ _ _ h => h) (Or.inl ⟨by rfl, ?_⟩) hHeld ?_ ?_
          rotate_left
          · rintro w' ⟨s0, s1, s2⟩
            go_simp
            with_reducible rfl
          rotate_left
          · simp only [Act.put, List.setIfInBounds_toArray, List.set_cons_zero, List.set_cons_succ, i64_w, i32_w]
            rfl
          refine join_ (σ := Value × Value × Value) 2 #[true, true, true, true, true, false, false] (fun s_ => [(18, s_.1), (20, s_.2.1), (22, s_.2.2)]) (fun s_ w' => (w'.cell? ⟨gb127, 0, none⟩ = some (.string a2_0) ∧ w'.cell? ⟨gb127, 1, none⟩ = some (.string a2_1) ∧ w'.cell? ⟨gb127, 2, none⟩ = some (.slice A2_2 l2_2.length c2_2)) ∧ (Kd.V k41 41 w' w.heap.size (fun k_ => ((P0_ k_ ∨ P2_2_ k_) ∨ w.heap.size ≤ k_) ∧ some k_ ≠ (.slice Ao29 t129.length co29 : Value).ownBlock ∧ some k_ ≠ (s_.2.1 : Value).ownBlock ∧ some k_ ≠ (s_.2.2 : Value).ownBlock ∧ k_ ≠ gb127) (.slice A0 l0.length c0) l0) ∧ (Kd.N k41 41 w' w.heap.size (fun k_ => ((P0_ k_ ∨ P2_2_ k_) ∨ w.heap.size ≤ k_) ∧ some k_ ≠ (s_.2.1 : Value).ownBlock ∧ some k_ ≠ (s_.2.2 : Value).ownBlock ∧ k_ ≠ gb127) (.slice Ao29 t129.length co29) t129) ∧ (Kd.N k41 41 w' w.heap.size (fun k_ => ((P0_ k_ ∨ P2_2_ k_) ∨ w.heap.size ≤ k_) ∧ some k_ ≠ (s_.2.2 : Value).ownBlock ∧ k_ ≠ gb127) s_.2.1 y135) ∧ (Kd.N k41 41 w' w.heap.size (fun k_ => ((P0_ k_ ∨ P2_2_ k_) ∨ w.heap.size ≤ k_) ∧ some k_ ≠ (.slice Ao29 t129.length co29 : Value).ownBlock ∧ some k_ ≠ (s_.2.1 : Value).ownBlock ∧ k_ ≠ gb127) s_.2.2 y138) ∧ (Kd.V Kd.string 9 w' w.heap.size (fun k_ => ((P0_ k_ ∨ P2_2_ k_) ∨ w.heap.size ≤ k_) ∧ some k_ ≠ (.slice Ao29 t129.length co29 : Value).ownBlock ∧ some k_ ≠ (s_.2.1 : Value).ownBlock ∧ some k_ ≠ (s_.2.2 : Value).ownBlock ∧ k_ ≠ gb127) (.slice A2_2 l2_2.length c2_2) l2_2) ∧ (w'.heap[gb127]? = some (.cells #[.string a2_0, .string a2_1, .slice A2_2 l2_2.length c2_2] 41 (0, 0))) ∧ (Below w.heap.size w w')) ?_ ?_
          rotate_left
          · intro hCont
            refine two_ (i := 0) (j := 4) (Ni := some 18) (Nj := some 22) #[true, true, false, true, false, false, false] #[false, true, false, true, true, false, false] rfl rfl rfl rfl (by kernel_rfl) (by decide) (by decide) (fun K hK => ?_) (fun K hK => ?_)
            · skip
              refine Kd.N_lit_step k41 _ 41 ?hg (N' := 18) ?hd (xs := ([] : List (S41))) (inner := []) (ok := (fun k_ => ((P0_ k_ ∨ P2_2_ k_) ∨ w.heap.size ≤ k_) ∧ some k_ ≠ (.slice Ao29 t129.length co29 : Value).ownBlock ∧ k_ ≠ gb127)) (okp := (fun k_ => ((P0_ k_ ∨ P2_2_ k_) ∨ w.heap.size ≤ k_) ∧ some k_ ≠ (.slice Ao29 t129.length co29 : Value).ownBlock ∧ k_ ≠ gb127)) ?hr ?hp (fun _ hk => hk) ((show ∀ k_, w30.heap.size ≤ k_ → (fun k_ => ((P0_ k_ ∨ P2_2_ k_) ∨ w.heap.size ≤ k_) ∧ some k_ ≠ (.slice Ao29 t129.length co29 : Value).ownBlock ∧ k_ ≠ gb127) k_ from fun k_ hk => ⟨(.inr (Nat.le_trans (below_size (by repeat (first | (with_reducible first | exact HB.out | apply below_alloc | apply pw_below_drewN | apply below_drew1 | refine below_set ?_ GE127.out) | exact HB.out))) hk)), Kd.fresh' (Kd.N_lt (by (with_reducible repeat (first | apply Kd.N_alloc | apply Kd.N_drewN | apply Kd.N_drew)); exact HO131.out)) k_ hk, Kd.freshB (g := gb127) (o := .cells #[.string a2_0, .string a2_1, .slice A2_2 l2_2.length c2_2] 41 (0, 0)) (by (with_reducible repeat (first | refine blk_drewN ?_ _ | refine blk_drew ?_ | refine blk_alloc ?_ _)); exact BK127.out) k_ hk⟩) _ (Nat.le_refl _)) (Below.refl _ _) (Nat.le_refl _) (by simp) ?_; (case hd => rfl); (case hg => rfl); (case hr => first | (go_simp; done) | (go_simp; rfl)); (case hp => exact (Reps.none _ _))
              intro v133 w31 ho32 hb hg_ hnew_
              clear hg_ hnew_
              (first | rw [← Ny132.out] at ho32 | (simp only [Int.reduceToNat] at ho32; rw [← Ny132.out] at ho32))
              have n0_ := Aside0.mk (Kd.V_elder' (by (with_reducible repeat (first | apply Kd.V_alloc | apply Kd.V_drewN | apply Kd.V_drew)); exact HO0.out) (Kd.N_base ho32) hb)
              have n1_ := Aside0.mk (Kd.V_elder' (by (with_reducible repeat (first | apply Kd.V_alloc | apply Kd.V_drewN | apply Kd.V_drew)); exact HO2_2.out) (Kd.N_base ho32) hb)
              have n2_ := Aside0.mk (Kd.N_elder' (by (with_reducible repeat (first | apply Kd.N_alloc | apply Kd.N_drewN | apply Kd.N_drew)); exact HO131.out) (Kd.N_base ho32) hb)
              have n3_ := Aside0.mk (Kd.N_lower ho32 (below_size (by repeat (first | (with_reducible first | exact HB.out | apply below_alloc | apply pw_below_drewN | apply below_drew1 | refine below_set ?_ GE127.out) | exact HB.out))))
              have n4_ := Aside0.mk (blk_below (g := gb127) (o := .cells #[.string a2_0, .string a2_1, .slice A2_2 l2_2.length c2_2] 41 (0, 0)) (by (with_reducible repeat (first | refine blk_drewN ?_ _ | refine blk_drew ?_ | refine blk_alloc ?_ _)); exact BK127.out) hb)
              have n5_ := Aside0.mk (below_step (by repeat (first | (with_reducible first | exact HB.out | apply below_alloc | apply pw_below_drewN | apply below_drew1 | refine below_set ?_ GE127.out) | exact HB.out)) hb)
              clear HO0
              clear HO2_2
              clear HO131
              clear BK127
              clear HB
              have HO0 := n0_
              have HO2_2 := n1_
              have HO131 := n2_
              have HO134 := n3_
              have BK127 := n4_
              have HB := n5_
              clear n0_ n1_ n2_ n3_ n4_ n5_
              clear hb ho32
              refine hK.out _ _ ⟨(blk_cell BK127.out 0).trans rfl, (blk_cell BK127.out 1).trans rfl, (blk_cell BK127.out 2).trans rfl⟩ (fun hHeld => ?_)
              clear hK K
              refine norm_ (a' := ?_) ?_ ?_
              rotate_left
              · show Act.put _ (some 18) _ = _
                simp only [Act.put, List.setIfInBounds_toArray, List.set_cons_zero, List.set_cons_succ, i64_w, i32_w]
                rfl
              refine two_ (i := 2) (j := 4) (Ni := some 20) (Nj := some 22) #[true, true, true, true, false, false, false] #[true, true, false, true, true, false, false] rfl rfl rfl rfl (by kernel_rfl) (by decide) (by decide) (fun K hK => ?_) (fun K hK => ?_)
              · skip
                refine Kd.N_append_rows_step k41 (w0 := w) w.heap.size (by rfl) (.tmp 18) (.tmp 19) 37 41 (.agg #[(.string ⟨#[]⟩), (.string ⟨#[]⟩), (.slice none 0 0)]) 56 rfl Try.underlying37 info41 rfl (by decide) (by omega) v133 y132 t129 _ _ _ (fun k_ => ((P0_ k_ ∨ P2_2_ k_) ∨ w.heap.size ≤ k_) ∧ k_ ≠ gb127) (fun k_ => ((fun k_ => ((P0_ k_ ∨ P2_2_ k_) ∨ w.heap.size ≤ k_) ∧ k_ ≠ gb127)) k_ ∧ some k_ ≠ (v133 : Value).ownBlock) rfl rfl ?aO ?aR (fun _ hk => hk) ?aF ?aB ?aS ?aL ?_
                (case aR => exact (by skip; exact Kd.N_F (Kd.N_mono (ok' := (fun k_ => ((fun k_ => ((P0_ k_ ∨ P2_2_ k_) ∨ w.heap.size ≤ k_) ∧ k_ ≠ gb127)) k_ ∧ some k_ ≠ (v133 : Value).ownBlock)) (HO131.out) (fun k_ hk => ⟨⟨hk.1.1, hk.1.2⟩, hk.2⟩))))
                (case aB => exact (by repeat (first | (with_reducible first | exact HB.out | apply below_alloc | apply pw_below_drewN | apply below_drew1 | refine below_set ?_ GE127.out) | exact HB.out)))
                (case aF => exact (fun k_ hk => ⟨(.inr (Nat.le_trans (below_size (by repeat (first | (with_reducible first | exact HB.out | apply below_alloc | apply pw_below_drewN | apply below_drew1 | refine below_set ?_ GE127.out) | exact HB.out))) hk)), Kd.freshB (g := gb127) (o := .cells #[.string a2_0, .string a2_1, .slice A2_2 l2_2.length c2_2] 41 (0, 0)) (by (with_reducible repeat (first | refine blk_drewN ?_ _ | refine blk_drew ?_ | refine blk_alloc ?_ _)); exact BK127.out) k_ hk⟩))
                (case aO => exact (by (with_reducible repeat (first | apply Kd.N_alloc | apply Kd.N_drewN | apply Kd.N_drew)); exact Kd.N_mono HO134.out (fun _ hk => ⟨hk.1, hk.2.2⟩)))
                (case aS => exact (below_size (by repeat (first | (with_reducible first | exact HB.out | apply below_alloc | apply pw_below_drewN | apply below_drew1 | refine below_set ?_ GE127.out) | exact HB.out))))
                (case aL => have := LMc7.out; omega)
                intro v136 w33 ho hb hg hat
                rw [← Ny135.out] at ho
                have n0_ := Aside0.mk (Kd.V_afterv (ok := (fun k_ => ((P0_ k_ ∨ P2_2_ k_) ∨ w.heap.size ≤ k_) ∧ some k_ ≠ (.slice Ao29 t129.length co29 : Value).ownBlock ∧ k_ ≠ gb127)) (by (with_reducible repeat (first | apply Kd.V_alloc | apply Kd.V_drewN | apply Kd.V_drew)); exact Kd.V_mono HO0.out (fun _ hk => ⟨⟨hk.1.1.1, ⟨hk.1.2, hk.1.1.2⟩⟩, hk.2⟩)) hg hat)
                have n1_ := Aside0.mk (Kd.V_afterv (ok := (fun k_ => ((P0_ k_ ∨ P2_2_ k_) ∨ w.heap.size ≤ k_) ∧ some k_ ≠ (.slice Ao29 t129.length co29 : Value).ownBlock ∧ k_ ≠ gb127)) (by (with_reducible repeat (first | apply Kd.V_alloc | apply Kd.V_drewN | apply Kd.V_drew)); exact Kd.V_mono HO2_2.out (fun _ hk => ⟨⟨hk.1.1.1, ⟨hk.1.2, hk.1.1.2⟩⟩, hk.2⟩)) hg hat)
                have n2_ := Aside0.mk (blk_grown (g := gb127) (o := .cells #[.string a2_0, .string a2_1, .slice A2_2 l2_2.length c2_2] 41 (0, 0)) (by (with_reducible repeat (first | refine blk_drewN ?_ _ | refine blk_drew ?_ | refine blk_alloc ?_ _)); exact BK127.out) hg (Kd.N_away HO134.out (fun _ hk => hk.2.2)))
                have n3_ := Aside0.mk (Kd.N_afterv (ok := (fun k_ => ((P0_ k_ ∨ P2_2_ k_) ∨ w.heap.size ≤ k_) ∧ k_ ≠ gb127)) (by (with_reducible repeat (first | apply Kd.N_alloc | apply Kd.N_drewN | apply Kd.N_drew)); exact HO131.out) hg hat)
                have n4_ := Aside0.mk (hb)
                have n5_ := Aside0.mk (ho)
                clear HO0
                clear HO2_2
                clear BK127
                clear HO131
                clear HB
                clear HO134
                have HO0 := n0_
                have HO2_2 := n1_
                have BK127 := n2_
                have HO131 := n3_
                have HB := n4_
                have HO137 := n5_
                clear n0_ n1_ n2_ n3_ n4_ n5_
                clear ho hb hg hat
                refine hK.out _ _ ⟨(blk_cell BK127.out 0).trans rfl, (blk_cell BK127.out 1).trans rfl, (blk_cell BK127.out 2).trans rfl⟩ (fun hHeld => ?_)
                clear hK K
                refine norm_ (a' := ?_) ?_ ?_
                rotate_left
                · show Act.put _ (some 20) _ = _
                  simp only [Act.put, List.setIfInBounds_toArray, List.set_cons_zero, List.set_cons_succ, i64_w, i32_w]
                  rfl
                refine one_ (i := 4) (N := some 22) #[true, true, true, true, true, false, false] rfl rfl (by kernel_rfl) (by decide) (fun K hK => ?_)
                refine Kd.N_lit_step k41 _ 41 ?hg (N' := 22) ?hd (xs := ([(⟨a2_0, a2_1, l2_2⟩ : S41)] : List (S41))) (inner := [.string a2_0, .string a2_1, .slice A2_2 l2_2.length c2_2]) (ok := (fun k_ => ((P0_ k_ ∨ P2_2_ k_) ∨ w.heap.size ≤ k_) ∧ some k_ ≠ (.slice Ao29 t129.length co29 : Value).ownBlock ∧ some k_ ≠ (v136 : Value).ownBlock ∧ k_ ≠ gb127)) (okp := (fun k_ => ((P0_ k_ ∨ P2_2_ k_) ∨ w.heap.size ≤ k_) ∧ some k_ ≠ (.slice Ao29 t129.length co29 : Value).ownBlock ∧ some k_ ≠ (v136 : Value).ownBlock ∧ k_ ≠ gb127)) ?hr ?hp (fun _ hk => hk) ((show ∀ k_, w33.heap.size ≤ k_ → (fun k_ => ((P0_ k_ ∨ P2_2_ k_) ∨ w.heap.size ≤ k_) ∧ some k_ ≠ (.slice Ao29 t129.length co29 : Value).ownBlock ∧ some k_ ≠ (v136 : Value).ownBlock ∧ k_ ≠ gb127) k_ from fun k_ hk => ⟨(.inr (Nat.le_trans (below_size (by repeat (first | (with_reducible first | exact HB.out | apply below_alloc | apply pw_below_drewN | apply below_drew1 | refine below_set ?_ GE127.out) | exact HB.out))) hk)), Kd.fresh' (Kd.N_lt (by (with_reducible repeat (first | apply Kd.N_alloc | apply Kd.N_drewN | apply Kd.N_drew)); exact HO131.out)) k_ hk, Kd.fresh' (Kd.N_lt (by (with_reducible repeat (first | apply Kd.N_alloc | apply Kd.N_drewN | apply Kd.N_drew)); exact HO137.out)) k_ hk, Kd.freshB (g := gb127) (o := .cells #[.string a2_0, .string a2_1, .slice A2_2 l2_2.length c2_2] 41 (0, 0)) (by (with_reducible repeat (first | refine blk_drewN ?_ _ | refine blk_drew ?_ | refine blk_alloc ?_ _)); exact BK127.out) k_ hk⟩) _ (Nat.le_refl _)) (Below.refl _ _) (Nat.le_refl _) (by simp) ?_; (case hd => rfl); (case hg => rfl); (case hr => first | (go_simp; done) | (go_simp; rfl)); (case hp => exact (Reps.c3 (show Kd.FK k41 _ _ (⟨a2_0, a2_1, l2_2⟩ : S41) [.string a2_0, .string a2_1, .slice A2_2 l2_2.length c2_2] from (k41_mkF _ _ (⟨a2_0, a2_1, l2_2⟩ : S41) (Kd.V_reads' (Kd.V_mono (ok' := (fun k_ => ((P0_ k_ ∨ P2_2_ k_) ∨ w.heap.size ≤ k_) ∧ some k_ ≠ (.slice Ao29 t129.length co29 : Value).ownBlock ∧ some k_ ≠ (v136 : Value).ownBlock ∧ k_ ≠ gb127)) (HO2_2.out) (fun k_ hk => ⟨hk.1.1, ⟨hk.1.2.1, ⟨hk.2, hk.1.2.2⟩⟩⟩))).2.1 (Kd.V_F (Kd.V_mono (ok' := (fun k_ => ((P0_ k_ ∨ P2_2_ k_) ∨ w.heap.size ≤ k_) ∧ some k_ ≠ (.slice Ao29 t129.length co29 : Value).ownBlock ∧ some k_ ≠ (v136 : Value).ownBlock ∧ k_ ≠ gb127)) (HO2_2.out) (fun k_ hk => ⟨hk.1.1, ⟨hk.1.2.1, ⟨hk.2, hk.1.2.2⟩⟩⟩))))) (Reps.none _ _)))
                intro v139 w34 ho35 hb hg_ hnew_
                clear hg_ hnew_
                (first | rw [← Ny138.out] at ho35 | (simp only [Int.reduceToNat] at ho35; rw [← Ny138.out] at ho35))
                have n0_ := Aside0.mk (Kd.V_elder' (by (with_reducible repeat (first | apply Kd.V_alloc | apply Kd.V_drewN | apply Kd.V_drew)); exact HO0.out) (Kd.N_base ho35) hb)
                have n1_ := Aside0.mk (Kd.V_elder' (by (with_reducible repeat (first | apply Kd.V_alloc | apply Kd.V_drewN | apply Kd.V_drew)); exact HO2_2.out) (Kd.N_base ho35) hb)
                have n2_ := Aside0.mk (Kd.N_elder' (by (with_reducible repeat (first | apply Kd.N_alloc | apply Kd.N_drewN | apply Kd.N_drew)); exact HO131.out) (Kd.N_base ho35) hb)
                have n3_ := Aside0.mk (Kd.N_elder' (by (with_reducible repeat (first | apply Kd.N_alloc | apply Kd.N_drewN | apply Kd.N_drew)); exact HO137.out) (Kd.N_base ho35) hb)
                have n4_ := Aside0.mk (Kd.N_lower ho35 (below_size (by repeat (first | (with_reducible first | exact HB.out | apply below_alloc | apply pw_below_drewN | apply below_drew1 | refine below_set ?_ GE127.out) | exact HB.out))))
                have n5_ := Aside0.mk (blk_below (g := gb127) (o := .cells #[.string a2_0, .string a2_1, .slice A2_2 l2_2.length c2_2] 41 (0, 0)) (by (with_reducible repeat (first | refine blk_drewN ?_ _ | refine blk_drew ?_ | refine blk_alloc ?_ _)); exact BK127.out) hb)
                have n6_ := Aside0.mk (below_step (by repeat (first | (with_reducible first | exact HB.out | apply below_alloc | apply pw_below_drewN | apply below_drew1 | refine below_set ?_ GE127.out) | exact HB.out)) hb)
                clear HO0
                clear HO2_2
                clear HO131
                clear HO137
                clear BK127
                clear HB
                have HO0 := n0_
                have HO2_2 := n1_
                have HO131 := n2_
                have HO137 := n3_
                have HO140 := n4_
                have BK127 := n5_
                have HB := n6_
                clear n0_ n1_ n2_ n3_ n4_ n5_ n6_
                clear hb ho35
                refine hK.out _ _ ⟨(blk_cell BK127.out 0).trans rfl, (blk_cell BK127.out 1).trans rfl, (blk_cell BK127.out 2).trans rfl⟩ (fun hHeld => ?_)
                clear hK K
                refine norm_ (a' := ?_) ?_ ?_
                rotate_left
                · show Act.put _ (some 22) _ = _
                  simp only [Act.put, List.setIfInBounds_toArray, List.set_cons_zero, List.set_cons_succ, i64_w, i32_w]
                  rfl
                exact norm_ (by simp only [putAll, Act.put, List.setIfInBounds_toArray, List.set_cons_zero, List.set_cons_succ]) (hCont (v133, v136, v139) _ ⟨hHeld, (by (with_reducible repeat (first | apply Kd.V_alloc | apply Kd.V_drewN | apply Kd.V_drew)); exact Kd.V_mono HO0.out (fun _ hk => ⟨hk.1.1.1, ⟨hk.1.1.2.1, ⟨hk.1.2, ⟨hk.2, hk.1.1.2.2⟩⟩⟩⟩)), (by (with_reducible repeat (first | apply Kd.N_alloc | apply Kd.N_drewN | apply Kd.N_drew)); exact Kd.N_mono HO131.out (fun _ hk => ⟨hk.1.1.1, ⟨hk.1.2, ⟨hk.2, hk.1.1.2⟩⟩⟩)), (by (with_reducible repeat (first | apply Kd.N_alloc | apply Kd.N_drewN | apply Kd.N_drew)); exact Kd.N_mono HO137.out (fun _ hk => ⟨hk.1.1, ⟨hk.2, hk.1.2⟩⟩)), (by (with_reducible repeat (first | apply Kd.N_alloc | apply Kd.N_drewN | apply Kd.N_drew)); exact HO140.out), (by (with_reducible repeat (first | apply Kd.V_alloc | apply Kd.V_drewN | apply Kd.V_drew)); exact Kd.V_mono HO2_2.out (fun _ hk => ⟨hk.1.1.1, ⟨hk.1.1.2.1, ⟨hk.1.2, ⟨hk.2, hk.1.1.2.2⟩⟩⟩⟩)), (by (with_reducible repeat (first | refine blk_drewN ?_ _ | refine blk_drew ?_ | refine blk_alloc ?_ _)); exact BK127.out), (by repeat (first | (with_reducible first | exact HB.out | apply below_alloc | apply pw_below_drewN | apply below_drew1 | refine below_set ?_ GE127.out) | exact HB.out))⟩)
              · skip
                refine Kd.N_lit_step k41 _ 41 ?hg (N' := 22) ?hd (xs := ([(⟨a2_0, a2_1, l2_2⟩ : S41)] : List (S41))) (inner := [.string a2_0, .string a2_1, .slice A2_2 l2_2.length c2_2]) (ok := (fun k_ => ((P0_ k_ ∨ P2_2_ k_) ∨ w.heap.size ≤ k_) ∧ some k_ ≠ (.slice Ao29 t129.length co29 : Value).ownBlock ∧ some k_ ≠ (v133 : Value).ownBlock ∧ k_ ≠ gb127)) (okp := (fun k_ => ((P0_ k_ ∨ P2_2_ k_) ∨ w.heap.size ≤ k_) ∧ some k_ ≠ (.slice Ao29 t129.length co29 : Value).ownBlock ∧ some k_ ≠ (v133 : Value).ownBlock ∧ k_ ≠ gb127)) ?hr ?hp (fun _ hk => hk) ((show ∀ k_, w31.heap.size ≤ k_ → (fun k_ => ((P0_ k_ ∨ P2_2_ k_) ∨ w.heap.size ≤ k_) ∧ some k_ ≠ (.slice Ao29 t129.length co29 : Value).ownBlock ∧ some k_ ≠ (v133 : Value).ownBlock ∧ k_ ≠ gb127) k_ from fun k_ hk => ⟨(.inr (Nat.le_trans (below_size (by repeat (first | (with_reducible first | exact HB.out | apply below_alloc | apply pw_below_drewN | apply below_drew1 | refine below_set ?_ GE127.out) | exact HB.out))) hk)), Kd.fresh' (Kd.N_lt (by (with_reducible repeat (first | apply Kd.N_alloc | apply Kd.N_drewN | apply Kd.N_drew)); exact HO131.out)) k_ hk, Kd.fresh' (Kd.N_lt (by (with_reducible repeat (first | apply Kd.N_alloc | apply Kd.N_drewN | apply Kd.N_drew)); exact HO134.out)) k_ hk, Kd.freshB (g := gb127) (o := .cells #[.string a2_0, .string a2_1, .slice A2_2 l2_2.length c2_2] 41 (0, 0)) (by (with_reducible repeat (first | refine blk_drewN ?_ _ | refine blk_drew ?_ | refine blk_alloc ?_ _)); exact BK127.out) k_ hk⟩) _ (Nat.le_refl _)) (Below.refl _ _) (Nat.le_refl _) (by simp) ?_; (case hd => rfl); (case hg => rfl); (case hr => first | (go_simp; done) | (go_simp; rfl)); (case hp => exact (Reps.c3 (show Kd.FK k41 _ _ (⟨a2_0, a2_1, l2_2⟩ : S41) [.string a2_0, .string a2_1, .slice A2_2 l2_2.length c2_2] from (k41_mkF _ _ (⟨a2_0, a2_1, l2_2⟩ : S41) (Kd.V_reads' (Kd.V_mono (ok' := (fun k_ => ((P0_ k_ ∨ P2_2_ k_) ∨ w.heap.size ≤ k_) ∧ some k_ ≠ (.slice Ao29 t129.length co29 : Value).ownBlock ∧ some k_ ≠ (v133 : Value).ownBlock ∧ k_ ≠ gb127)) (HO2_2.out) (fun k_ hk => ⟨hk.1.1.1, ⟨hk.1.2, ⟨hk.2, hk.1.1.2⟩⟩⟩))).2.1 (Kd.V_F (Kd.V_mono (ok' := (fun k_ => ((P0_ k_ ∨ P2_2_ k_) ∨ w.heap.size ≤ k_) ∧ some k_ ≠ (.slice Ao29 t129.length co29 : Value).ownBlock ∧ some k_ ≠ (v133 : Value).ownBlock ∧ k_ ≠ gb127)) (HO2_2.out) (fun k_ hk => ⟨hk.1.1.1, ⟨hk.1.2, ⟨hk.2, hk.1.1.2⟩⟩⟩))))) (Reps.none _ _)))
                intro v139 w33 ho34 hb hg_ hnew_
                clear hg_ hnew_
                (first | rw [← Ny138.out] at ho34 | (simp only [Int.reduceToNat] at ho34; rw [← Ny138.out] at ho34))
                have n0_ := Aside0.mk (Kd.V_elder' (by (with_reducible repeat (first | apply Kd.V_alloc | apply Kd.V_drewN | apply Kd.V_drew)); exact HO0.out) (Kd.N_base ho34) hb)
                have n1_ := Aside0.mk (Kd.V_elder' (by (with_reducible repeat (first | apply Kd.V_alloc | apply Kd.V_drewN | apply Kd.V_drew)); exact HO2_2.out) (Kd.N_base ho34) hb)
                have n2_ := Aside0.mk (Kd.N_elder' (by (with_reducible repeat (first | apply Kd.N_alloc | apply Kd.N_drewN | apply Kd.N_drew)); exact HO131.out) (Kd.N_base ho34) hb)
                have n3_ := Aside0.mk (Kd.N_elder' (by (with_reducible repeat (first | apply Kd.N_alloc | apply Kd.N_drewN | apply Kd.N_drew)); exact HO134.out) (Kd.N_base ho34) hb)
                have n4_ := Aside0.mk (Kd.N_lower ho34 (below_size (by repeat (first | (with_reducible first | exact HB.out | apply below_alloc | apply pw_below_drewN | apply below_drew1 | refine below_set ?_ GE127.out) | exact HB.out))))
                have n5_ := Aside0.mk (blk_below (g := gb127) (o := .cells #[.string a2_0, .string a2_1, .slice A2_2 l2_2.length c2_2] 41 (0, 0)) (by (with_reducible repeat (first | refine blk_drewN ?_ _ | refine blk_drew ?_ | refine blk_alloc ?_ _)); exact BK127.out) hb)
                have n6_ := Aside0.mk (below_step (by repeat (first | (with_reducible first | exact HB.out | apply below_alloc | apply pw_below_drewN | apply below_drew1 | refine below_set ?_ GE127.out) | exact HB.out)) hb)
                clear HO0
                clear HO2_2
                clear HO131
                clear HO134
                clear BK127
                clear HB
                have HO0 := n0_
                have HO2_2 := n1_
                have HO131 := n2_
                have HO134 := n3_
                have HO140 := n4_
                have BK127 := n5_
                have HB := n6_
                clear n0_ n1_ n2_ n3_ n4_ n5_ n6_
                clear hb ho34
                refine hK.out _ _ ⟨(blk_cell BK127.out 0).trans rfl, (blk_cell BK127.out 1).trans rfl, (blk_cell BK127.out 2).trans rfl⟩ (fun hHeld => ?_)
                clear hK K
                refine norm_ (a' := ?_) ?_ ?_
                rotate_left
                · show Act.put _ (some 22) _ = _
                  simp only [Act.put, List.setIfInBounds_toArray, List.set_cons_zero, List.set_cons_succ, i64_w, i32_w]
                  rfl
                refine one_ (i := 2) (N := some 20) #[true, true, true, true, true, false, false] rfl rfl (by kernel_rfl) (by decide) (fun K hK => ?_)
                refine Kd.N_append_rows_step k41 (w0 := w) w.heap.size (by rfl) (.tmp 18) (.tmp 19) 37 41 (.agg #[(.string ⟨#[]⟩), (.string ⟨#[]⟩), (.slice none 0 0)]) 56 rfl Try.underlying37 info41 rfl (by decide) (by omega) v133 y132 t129 _ _ _ (fun k_ => ((P0_ k_ ∨ P2_2_ k_) ∨ w.heap.size ≤ k_) ∧ some k_ ≠ (v139 : Value).ownBlock ∧ k_ ≠ gb127) (fun k_ => ((fun k_ => ((P0_ k_ ∨ P2_2_ k_) ∨ w.heap.size ≤ k_) ∧ some k_ ≠ (v139 : Value).ownBlock ∧ k_ ≠ gb127)) k_ ∧ some k_ ≠ (v133 : Value).ownBlock) rfl rfl ?aO ?aR (fun _ hk => hk) ?aF ?aB ?aS ?aL ?_
                (case aR => exact (by skip; exact Kd.N_F (Kd.N_mono (ok' := (fun k_ => ((fun k_ => ((P0_ k_ ∨ P2_2_ k_) ∨ w.heap.size ≤ k_) ∧ some k_ ≠ (v139 : Value).ownBlock ∧ k_ ≠ gb127)) k_ ∧ some k_ ≠ (v133 : Value).ownBlock)) (HO131.out) (fun k_ hk => ⟨⟨hk.1.1.1, ⟨hk.2, hk.1.1.2⟩⟩, hk.1.2⟩))))
                (case aB => exact (by repeat (first | (with_reducible first | exact HB.out | apply below_alloc | apply pw_below_drewN | apply below_drew1 | refine below_set ?_ GE127.out) | exact HB.out)))
                (case aF => exact (fun k_ hk => ⟨(.inr (Nat.le_trans (below_size (by repeat (first | (with_reducible first | exact HB.out | apply below_alloc | apply pw_below_drewN | apply below_drew1 | refine below_set ?_ GE127.out) | exact HB.out))) hk)), Kd.fresh' (Kd.N_lt (by (with_reducible repeat (first | apply Kd.N_alloc | apply Kd.N_drewN | apply Kd.N_drew)); exact HO140.out)) k_ hk, Kd.freshB (g := gb127) (o := .cells #[.string a2_0, .string a2_1, .slice A2_2 l2_2.length c2_2] 41 (0, 0)) (by (with_reducible repeat (first | refine blk_drewN ?_ _ | refine blk_drew ?_ | refine blk_alloc ?_ _)); exact BK127.out) k_ hk⟩))
                (case aO => exact (by (with_reducible repeat (first | apply Kd.N_alloc | apply Kd.N_drewN | apply Kd.N_drew)); exact Kd.N_mono HO134.out (fun _ hk => ⟨hk.1.1, ⟨hk.2, hk.1.2.2⟩⟩)))
                (case aS => exact (below_size (by repeat (first | (with_reducible first | exact HB.out | apply below_alloc | apply pw_below_drewN | apply below_drew1 | refine below_set ?_ GE127.out) | exact HB.out))))
                (case aL => have := LMc7.out; omega)
                intro v136 w35 ho hb hg hat
                rw [← Ny135.out] at ho
                have n0_ := Aside0.mk (Kd.V_afterv (ok := (fun k_ => ((P0_ k_ ∨ P2_2_ k_) ∨ w.heap.size ≤ k_) ∧ some k_ ≠ (.slice Ao29 t129.length co29 : Value).ownBlock ∧ some k_ ≠ (v139 : Value).ownBlock ∧ k_ ≠ gb127)) (by (with_reducible repeat (first | apply Kd.V_alloc | apply Kd.V_drewN | apply Kd.V_drew)); exact Kd.V_mono HO0.out (fun _ hk => ⟨⟨hk.1.1.1.1, ⟨hk.1.1.2, ⟨hk.2, hk.1.1.1.2⟩⟩⟩, hk.1.2⟩)) hg hat)
                have n1_ := Aside0.mk (Kd.V_afterv (ok := (fun k_ => ((P0_ k_ ∨ P2_2_ k_) ∨ w.heap.size ≤ k_) ∧ some k_ ≠ (.slice Ao29 t129.length co29 : Value).ownBlock ∧ some k_ ≠ (v139 : Value).ownBlock ∧ k_ ≠ gb127)) (by (with_reducible repeat (first | apply Kd.V_alloc | apply Kd.V_drewN | apply Kd.V_drew)); exact Kd.V_mono HO2_2.out (fun _ hk => ⟨⟨hk.1.1.1.1, ⟨hk.1.1.2, ⟨hk.2, hk.1.1.1.2⟩⟩⟩, hk.1.2⟩)) hg hat)
                have n2_ := Aside0.mk (blk_grown (g := gb127) (o := .cells #[.string a2_0, .string a2_1, .slice A2_2 l2_2.length c2_2] 41 (0, 0)) (by (with_reducible repeat (first | refine blk_drewN ?_ _ | refine blk_drew ?_ | refine blk_alloc ?_ _)); exact BK127.out) hg (Kd.N_away HO134.out (fun _ hk => hk.1.2.2)))
                have n3_ := Aside0.mk (Kd.N_afterv (ok := (fun k_ => ((P0_ k_ ∨ P2_2_ k_) ∨ w.heap.size ≤ k_) ∧ some k_ ≠ (v139 : Value).ownBlock ∧ k_ ≠ gb127)) (by (with_reducible repeat (first | apply Kd.N_alloc | apply Kd.N_drewN | apply Kd.N_drew)); exact Kd.N_mono HO131.out (fun _ hk => ⟨⟨hk.1.1.1, ⟨hk.2, hk.1.1.2⟩⟩, hk.1.2⟩)) hg hat)
                have n4_ := Aside0.mk (Kd.N_afterv (ok := (fun k_ => ((P0_ k_ ∨ P2_2_ k_) ∨ w.heap.size ≤ k_) ∧ some k_ ≠ (.slice Ao29 t129.length co29 : Value).ownBlock ∧ k_ ≠ gb127)) (by (with_reducible repeat (first | apply Kd.N_alloc | apply Kd.N_drewN | apply Kd.N_drew)); exact Kd.N_mono HO140.out (fun _ hk => ⟨⟨hk.1, ⟨hk.2.1, hk.2.2.2⟩⟩, hk.2.2.1⟩)) hg hat)
                have n5_ := Aside0.mk (hb)
                have n6_ := Aside0.mk (ho)
                clear HO0
                clear HO2_2
                clear BK127
                clear HO131
                clear HO140
                clear HB
                clear HO134
                have HO0 := n0_
                have HO2_2 := n1_
                have BK127 := n2_
                have HO131 := n3_
                have HO140 := n4_
                have HB := n5_
                have HO137 := n6_
                clear n0_ n1_ n2_ n3_ n4_ n5_ n6_
                clear ho hb hg hat
                refine hK.out _ _ ⟨(blk_cell BK127.out 0).trans rfl, (blk_cell BK127.out 1).trans rfl, (blk_cell BK127.out 2).trans rfl⟩ (fun hHeld => ?_)
                clear hK K
                refine norm_ (a' := ?_) ?_ ?_
                rotate_left
                · show Act.put _ (some 20) _ = _
                  simp only [Act.put, List.setIfInBounds_toArray, List.set_cons_zero, List.set_cons_succ, i64_w, i32_w]
                  rfl
                exact norm_ (by simp only [putAll, Act.put, List.setIfInBounds_toArray, List.set_cons_zero, List.set_cons_succ]) (hCont (v133, v136, v139) _ ⟨hHeld, (by (with_reducible repeat (first | apply Kd.V_alloc | apply Kd.V_drewN | apply Kd.V_drew)); exact Kd.V_mono HO0.out (fun _ hk => ⟨hk.1.1, ⟨hk.1.2.1, ⟨hk.2, ⟨hk.1.2.2.1, hk.1.2.2.2⟩⟩⟩⟩)), (by (with_reducible repeat (first | apply Kd.N_alloc | apply Kd.N_drewN | apply Kd.N_drew)); exact Kd.N_mono HO131.out (fun _ hk => ⟨hk.1.1, ⟨hk.2, ⟨hk.1.2.1, hk.1.2.2⟩⟩⟩)), (by (with_reducible repeat (first | apply Kd.N_alloc | apply Kd.N_drewN | apply Kd.N_drew)); exact HO137.out), (by (with_reducible repeat (first | apply Kd.N_alloc | apply Kd.N_drewN | apply Kd.N_drew)); exact Kd.N_mono HO140.out (fun _ hk => ⟨hk.1.1, ⟨hk.1.2.1, ⟨hk.2, hk.1.2.2⟩⟩⟩)), (by (with_reducible repeat (first | apply Kd.V_alloc | apply Kd.V_drewN | apply Kd.V_drew)); exact Kd.V_mono HO2_2.out (fun _ hk => ⟨hk.1.1, ⟨hk.1.2.1, ⟨hk.2, ⟨hk.1.2.2.1, hk.1.2.2.2⟩⟩⟩⟩)), (by (with_reducible repeat (first | refine blk_drewN ?_ _ | refine blk_drew ?_ | refine blk_alloc ?_ _)); exact BK127.out), (by repeat (first | (with_reducible first | exact HB.out | apply below_alloc | apply pw_below_drewN | apply below_drew1 | refine below_set ?_ GE127.out) | exact HB.out))⟩)
            · skip
              refine Kd.N_lit_step k41 _ 41 ?hg (N' := 22) ?hd (xs := ([(⟨a2_0, a2_1, l2_2⟩ : S41)] : List (S41))) (inner := [.string a2_0, .string a2_1, .slice A2_2 l2_2.length c2_2]) (ok := (fun k_ => ((P0_ k_ ∨ P2_2_ k_) ∨ w.heap.size ≤ k_) ∧ some k_ ≠ (.slice Ao29 t129.length co29 : Value).ownBlock ∧ k_ ≠ gb127)) (okp := (fun k_ => ((P0_ k_ ∨ P2_2_ k_) ∨ w.heap.size ≤ k_) ∧ some k_ ≠ (.slice Ao29 t129.length co29 : Value).ownBlock ∧ k_ ≠ gb127)) ?hr ?hp (fun _ hk => hk) ((show ∀ k_, w30.heap.size ≤ k_ → (fun k_ => ((P0_ k_ ∨ P2_2_ k_) ∨ w.heap.size ≤ k_) ∧ some k_ ≠ (.slice Ao29 t129.length co29 : Value).ownBlock ∧ k_ ≠ gb127) k_ from fun k_ hk => ⟨(.inr (Nat.le_trans (below_size (by repeat (first | (with_reducible first | exact HB.out | apply below_alloc | apply pw_below_drewN | apply below_drew1 | refine below_set ?_ GE127.out) | exact HB.out))) hk)), Kd.fresh' (Kd.N_lt (by (with_reducible repeat (first | apply Kd.N_alloc | apply Kd.N_drewN | apply Kd.N_drew)); exact HO131.out)) k_ hk, Kd.freshB (g := gb127) (o := .cells #[.string a2_0, .string a2_1, .slice A2_2 l2_2.length c2_2] 41 (0, 0)) (by (with_reducible repeat (first | refine blk_drewN ?_ _ | refine blk_drew ?_ | refine blk_alloc ?_ _)); exact BK127.out) k_ hk⟩) _ (Nat.le_refl _)) (Below.refl _ _) (Nat.le_refl _) (by simp) ?_; (case hd => rfl); (case hg => rfl); (case hr => first | (go_simp; done) | (go_simp; rfl)); (case hp => exact (Reps.c3 (show Kd.FK k41 _ _ (⟨a2_0, a2_1, l2_2⟩ : S41) [.string a2_0, .string a2_1, .slice A2_2 l2_2.length c2_2] from (k41_mkF _ _ (⟨a2_0, a2_1, l2_2⟩ : S41) (Kd.V_reads' (Kd.V_mono (ok' := (fun k_ => ((P0_ k_ ∨ P2_2_ k_) ∨ w.heap.size ≤ k_) ∧ some k_ ≠ (.slice Ao29 t129.length co29 : Value).ownBlock ∧ k_ ≠ gb127)) (HO2_2.out) (fun k_ hk => ⟨hk.1.1, ⟨hk.2, hk.1.2⟩⟩))).2.1 (Kd.V_F (Kd.V_mono (ok' := (fun k_ => ((P0_ k_ ∨ P2_2_ k_) ∨ w.heap.size ≤ k_) ∧ some k_ ≠ (.slice Ao29 t129.length co29 : Value).ownBlock ∧ k_ ≠ gb127)) (HO2_2.out) (fun k_ hk => ⟨hk.1.1, ⟨hk.2, hk.1.2⟩⟩))))) (Reps.none _ _)))
              intro v139 w31 ho32 hb hg_ hnew_
              clear hg_ hnew_
              (first | rw [← Ny138.out] at ho32 | (simp only [Int.reduceToNat] at ho32; rw [← Ny138.out] at ho32))
              have n0_ := Aside0.mk (Kd.V_elder' (by (with_reducible repeat (first | apply Kd.V_alloc | apply Kd.V_drewN | apply Kd.V_drew)); exact HO0.out) (Kd.N_base ho32) hb)
              have n1_ := Aside0.mk (Kd.V_elder' (by (with_reducible repeat (first | apply Kd.V_alloc | apply Kd.V_drewN | apply Kd.V_drew)); exact HO2_2.out) (Kd.N_base ho32) hb)
              have n2_ := Aside0.mk (Kd.N_elder' (by (with_reducible repeat (first | apply Kd.N_alloc | apply Kd.N_drewN | apply Kd.N_drew)); exact HO131.out) (Kd.N_base ho32) hb)
              have n3_ := Aside0.mk (Kd.N_lower ho32 (below_size (by repeat (first | (with_reducible first | exact HB.out | apply below_alloc | apply pw_below_drewN | apply below_drew1 | refine below_set ?_ GE127.out) | exact HB.out))))
              have n4_ := Aside0.mk (blk_below (g := gb127) (o := .cells #[.string a2_0, .string a2_1, .slice A2_2 l2_2.length c2_2] 41 (0, 0)) (by (with_reducible repeat (first | refine blk_drewN ?_ _ | refine blk_drew ?_ | refine blk_alloc ?_ _)); exact BK127.out) hb)
              have n5_ := Aside0.mk (below_step (by repeat (first | (with_reducible first | exact HB.out | apply below_alloc | apply pw_below_drewN | apply below_drew1 | refine below_set ?_ GE127.out) | exact HB.out)) hb)
              clear HO0
              clear HO2_2
              clear HO131
              clear BK127
              clear HB
              have HO0 := n0_
              have HO2_2 := n1_
              have HO131 := n2_
              have HO140 := n3_
              have BK127 := n4_
              have HB := n5_
              clear n0_ n1_ n2_ n3_ n4_ n5_
              clear hb ho32
              refine hK.out _ _ ⟨(blk_cell BK127.out 0).trans rfl, (blk_cell BK127.out 1).trans rfl, (blk_cell BK127.out 2).trans rfl⟩ (fun hHeld => ?_)
              clear hK K
              refine norm_ (a' := ?_) ?_ ?_
              rotate_left
              · show Act.put _ (some 22) _ = _
                simp only [Act.put, List.setIfInBounds_toArray, List.set_cons_zero, List.set_cons_succ, i64_w, i32_w]
                rfl
              refine one_ (i := 0) (N := some 18) #[true, true, false, true, true, false, false] rfl rfl (by kernel_rfl) (by decide) (fun K hK => ?_)
              refine Kd.N_lit_step k41 _ 41 ?hg (N' := 18) ?hd (xs := ([] : List (S41))) (inner := []) (ok := (fun k_ => ((P0_ k_ ∨ P2_2_ k_) ∨ w.heap.size ≤ k_) ∧ some k_ ≠ (.slice Ao29 t129.length co29 : Value).ownBlock ∧ some k_ ≠ (v139 : Value).ownBlock ∧ k_ ≠ gb127)) (okp := (fun k_ => ((P0_ k_ ∨ P2_2_ k_) ∨ w.heap.size ≤ k_) ∧ some k_ ≠ (.slice Ao29 t129.length co29 : Value).ownBlock ∧ some k_ ≠ (v139 : Value).ownBlock ∧ k_ ≠ gb127)) ?hr ?hp (fun _ hk => hk) ((show ∀ k_, w31.heap.size ≤ k_ → (fun k_ => ((P0_ k_ ∨ P2_2_ k_) ∨ w.heap.size ≤ k_) ∧ some k_ ≠ (.slice Ao29 t129.length co29 : Value).ownBlock ∧ some k_ ≠ (v139 : Value).ownBlock ∧ k_ ≠ gb127) k_ from fun k_ hk => ⟨(.inr (Nat.le_trans (below_size (by repeat (first | (with_reducible first | exact HB.out | apply below_alloc | apply pw_below_drewN | apply below_drew1 | refine below_set ?_ GE127.out) | exact HB.out))) hk)), Kd.fresh' (Kd.N_lt (by (with_reducible repeat (first | apply Kd.N_alloc | apply Kd.N_drewN | apply Kd.N_drew)); exact HO131.out)) k_ hk, Kd.fresh' (Kd.N_lt (by (with_reducible repeat (first | apply Kd.N_alloc | apply Kd.N_drewN | apply Kd.N_drew)); exact HO140.out)) k_ hk, Kd.freshB (g := gb127) (o := .cells #[.string a2_0, .string a2_1, .slice A2_2 l2_2.length c2_2] 41 (0, 0)) (by (with_reducible repeat (first | refine blk_drewN ?_ _ | refine blk_drew ?_ | refine blk_alloc ?_ _)); exact BK127.out) k_ hk⟩) _ (Nat.le_refl _)) (Below.refl _ _) (Nat.le_refl _) (by simp) ?_; (case hd => rfl); (case hg => rfl); (case hr => first | (go_simp; done) | (go_simp; rfl)); (case hp => exact (Reps.none _ _))
              intro v133 w33 ho34 hb hg_ hnew_
              clear hg_ hnew_
              (first | rw [← Ny132.out] at ho34 | (simp only [Int.reduceToNat] at ho34; rw [← Ny132.out] at ho34))
              have n0_ := Aside0.mk (Kd.V_elder' (by (with_reducible repeat (first | apply Kd.V_alloc | apply Kd.V_drewN | apply Kd.V_drew)); exact HO0.out) (Kd.N_base ho34) hb)
              have n1_ := Aside0.mk (Kd.V_elder' (by (with_reducible repeat (first | apply Kd.V_alloc | apply Kd.V_drewN | apply Kd.V_drew)); exact HO2_2.out) (Kd.N_base ho34) hb)
              have n2_ := Aside0.mk (Kd.N_elder' (by (with_reducible repeat (first | apply Kd.N_alloc | apply Kd.N_drewN | apply Kd.N_drew)); exact HO131.out) (Kd.N_base ho34) hb)
              have n3_ := Aside0.mk (Kd.N_elder' (by (with_reducible repeat (first | apply Kd.N_alloc | apply Kd.N_drewN | apply Kd.N_drew)); exact HO140.out) (Kd.N_base ho34) hb)
              have n4_ := Aside0.mk (Kd.N_lower ho34 (below_size (by repeat (first | (with_reducible first | exact HB.out | apply below_alloc | apply pw_below_drewN | apply below_drew1 | refine below_set ?_ GE127.out) | exact HB.out))))
              have n5_ := Aside0.mk (blk_below (g := gb127) (o := .cells #[.string a2_0, .string a2_1, .slice A2_2 l2_2.length c2_2] 41 (0, 0)) (by (with_reducible repeat (first | refine blk_drewN ?_ _ | refine blk_drew ?_ | refine blk_alloc ?_ _)); exact BK127.out) hb)
              have n6_ := Aside0.mk (below_step (by repeat (first | (with_reducible first | exact HB.out | apply below_alloc | apply pw_below_drewN | apply below_drew1 | refine below_set ?_ GE127.out) | exact HB.out)) hb)
              clear HO0
              clear HO2_2
              clear HO131
              clear HO140
              clear BK127
              clear HB
              have HO0 := n0_
              have HO2_2 := n1_
              have HO131 := n2_
              have HO140 := n3_
              have HO134 := n4_
              have BK127 := n5_
              have HB := n6_
              clear n0_ n1_ n2_ n3_ n4_ n5_ n6_
              clear hb ho34
              refine hK.out _ _ ⟨(blk_cell BK127.out 0).trans rfl, (blk_cell BK127.out 1).trans rfl, (blk_cell BK127.out 2).trans rfl⟩ (fun hHeld => ?_)
              clear hK K
              refine norm_ (a' := ?_) ?_ ?_
              rotate_left
              · show Act.put _ (some 18) _ = _
                simp only [Act.put, List.setIfInBounds_toArray, List.set_cons_zero, List.set_cons_succ, i64_w, i32_w]
                rfl
              refine one_ (i := 2) (N := some 20) #[true, true, true, true, true, false, false] rfl rfl (by kernel_rfl) (by decide) (fun K hK => ?_)
              refine Kd.N_append_rows_step k41 (w0 := w) w.heap.size (by rfl) (.tmp 18) (.tmp 19) 37 41 (.agg #[(.string ⟨#[]⟩), (.string ⟨#[]⟩), (.slice none 0 0)]) 56 rfl Try.underlying37 info41 rfl (by decide) (by omega) v133 y132 t129 _ _ _ (fun k_ => ((P0_ k_ ∨ P2_2_ k_) ∨ w.heap.size ≤ k_) ∧ some k_ ≠ (v139 : Value).ownBlock ∧ k_ ≠ gb127) (fun k_ => ((fun k_ => ((P0_ k_ ∨ P2_2_ k_) ∨ w.heap.size ≤ k_) ∧ some k_ ≠ (v139 : Value).ownBlock ∧ k_ ≠ gb127)) k_ ∧ some k_ ≠ (v133 : Value).ownBlock) rfl rfl ?aO ?aR (fun _ hk => hk) ?aF ?aB ?aS ?aL ?_
              (case aR => exact (by skip; exact Kd.N_F (Kd.N_mono (ok' := (fun k_ => ((fun k_ => ((P0_ k_ ∨ P2_2_ k_) ∨ w.heap.size ≤ k_) ∧ some k_ ≠ (v139 : Value).ownBlock ∧ k_ ≠ gb127)) k_ ∧ some k_ ≠ (v133 : Value).ownBlock)) (HO131.out) (fun k_ hk => ⟨⟨hk.1.1.1, ⟨hk.1.2, hk.1.1.2⟩⟩, hk.2⟩))))
              (case aB => exact (by repeat (first | (with_reducible first | exact HB.out | apply below_alloc | apply pw_below_drewN | apply below_drew1 | refine below_set ?_ GE127.out) | exact HB.out)))
              (case aF => exact (fun k_ hk => ⟨(.inr (Nat.le_trans (below_size (by repeat (first | (with_reducible first | exact HB.out | apply below_alloc | apply pw_below_drewN | apply below_drew1 | refine below_set ?_ GE127.out) | exact HB.out))) hk)), Kd.fresh' (Kd.N_lt (by (with_reducible repeat (first | apply Kd.N_alloc | apply Kd.N_drewN | apply Kd.N_drew)); exact HO140.out)) k_ hk, Kd.freshB (g := gb127) (o := .cells #[.string a2_0, .string a2_1, .slice A2_2 l2_2.length c2_2] 41 (0, 0)) (by (with_reducible repeat (first | refine blk_drewN ?_ _ | refine blk_drew ?_ | refine blk_alloc ?_ _)); exact BK127.out) k_ hk⟩))
              (case aO => exact (by (with_reducible repeat (first | apply Kd.N_alloc | apply Kd.N_drewN | apply Kd.N_drew)); exact Kd.N_mono HO134.out (fun _ hk => ⟨hk.1, ⟨hk.2.2.1, hk.2.2.2⟩⟩)))
              (case aS => exact (below_size (by repeat (first | (with_reducible first | exact HB.out | apply below_alloc | apply pw_below_drewN | apply below_drew1 | refine below_set ?_ GE127.out) | exact HB.out))))
              (case aL => have := LMc7.out; omega)
              intro v136 w35 ho hb hg hat
              rw [← Ny135.out] at ho
              have n0_ := Aside0.mk (Kd.V_afterv (ok := (fun k_ => ((P0_ k_ ∨ P2_2_ k_) ∨ w.heap.size ≤ k_) ∧ some k_ ≠ (.slice Ao29 t129.length co29 : Value).ownBlock ∧ some k_ ≠ (v139 : Value).ownBlock ∧ k_ ≠ gb127)) (by (with_reducible repeat (first | apply Kd.V_alloc | apply Kd.V_drewN | apply Kd.V_drew)); exact Kd.V_mono HO0.out (fun _ hk => ⟨⟨hk.1.1.1.1, ⟨hk.1.1.2, ⟨hk.1.2, hk.1.1.1.2⟩⟩⟩, hk.2⟩)) hg hat)
              have n1_ := Aside0.mk (Kd.V_afterv (ok := (fun k_ => ((P0_ k_ ∨ P2_2_ k_) ∨ w.heap.size ≤ k_) ∧ some k_ ≠ (.slice Ao29 t129.length co29 : Value).ownBlock ∧ some k_ ≠ (v139 : Value).ownBlock ∧ k_ ≠ gb127)) (by (with_reducible repeat (first | apply Kd.V_alloc | apply Kd.V_drewN | apply Kd.V_drew)); exact Kd.V_mono HO2_2.out (fun _ hk => ⟨⟨hk.1.1.1.1, ⟨hk.1.1.2, ⟨hk.1.2, hk.1.1.1.2⟩⟩⟩, hk.2⟩)) hg hat)
              have n2_ := Aside0.mk (blk_grown (g := gb127) (o := .cells #[.string a2_0, .string a2_1, .slice A2_2 l2_2.length c2_2] 41 (0, 0)) (by (with_reducible repeat (first | refine blk_drewN ?_ _ | refine blk_drew ?_ | refine blk_alloc ?_ _)); exact BK127.out) hg (Kd.N_away HO134.out (fun _ hk => hk.2.2.2)))
              have n3_ := Aside0.mk (Kd.N_afterv (ok := (fun k_ => ((P0_ k_ ∨ P2_2_ k_) ∨ w.heap.size ≤ k_) ∧ some k_ ≠ (v139 : Value).ownBlock ∧ k_ ≠ gb127)) (by (with_reducible repeat (first | apply Kd.N_alloc | apply Kd.N_drewN | apply Kd.N_drew)); exact Kd.N_mono HO131.out (fun _ hk => ⟨⟨hk.1.1.1, ⟨hk.1.2, hk.1.1.2⟩⟩, hk.2⟩)) hg hat)
              have n4_ := Aside0.mk (Kd.N_afterv (ok := (fun k_ => ((P0_ k_ ∨ P2_2_ k_) ∨ w.heap.size ≤ k_) ∧ some k_ ≠ (.slice Ao29 t129.length co29 : Value).ownBlock ∧ k_ ≠ gb127)) (by (with_reducible repeat (first | apply Kd.N_alloc | apply Kd.N_drewN | apply Kd.N_drew)); exact HO140.out) hg hat)
              have n5_ := Aside0.mk (hb)
              have n6_ := Aside0.mk (ho)
              clear HO0
              clear HO2_2
              clear BK127
              clear HO131
              clear HO140
              clear HB
              clear HO134
              have HO0 := n0_
              have HO2_2 := n1_
              have BK127 := n2_
              have HO131 := n3_
              have HO140 := n4_
              have HB := n5_
              have HO137 := n6_
              clear n0_ n1_ n2_ n3_ n4_ n5_ n6_
              clear ho hb hg hat
              refine hK.out _ _ ⟨(blk_cell BK127.out 0).trans rfl, (blk_cell BK127.out 1).trans rfl, (blk_cell BK127.out 2).trans rfl⟩ (fun hHeld => ?_)
              clear hK K
              refine norm_ (a' := ?_) ?_ ?_
              rotate_left
              · show Act.put _ (some 20) _ = _
                simp only [Act.put, List.setIfInBounds_toArray, List.set_cons_zero, List.set_cons_succ, i64_w, i32_w]
                rfl
              exact norm_ (by simp only [putAll, Act.put, List.setIfInBounds_toArray, List.set_cons_zero, List.set_cons_succ]) (hCont (v133, v136, v139) _ ⟨hHeld, (by (with_reducible repeat (first | apply Kd.V_alloc | apply Kd.V_drewN | apply Kd.V_drew)); exact Kd.V_mono HO0.out (fun _ hk => ⟨hk.1.1, ⟨hk.1.2.1, ⟨hk.2, ⟨hk.1.2.2.1, hk.1.2.2.2⟩⟩⟩⟩)), (by (with_reducible repeat (first | apply Kd.N_alloc | apply Kd.N_drewN | apply Kd.N_drew)); exact Kd.N_mono HO131.out (fun _ hk => ⟨hk.1.1, ⟨hk.2, ⟨hk.1.2.1, hk.1.2.2⟩⟩⟩)), (by (with_reducible repeat (first | apply Kd.N_alloc | apply Kd.N_drewN | apply Kd.N_drew)); exact HO137.out), (by (with_reducible repeat (first | apply Kd.N_alloc | apply Kd.N_drewN | apply Kd.N_drew)); exact Kd.N_mono HO140.out (fun _ hk => ⟨hk.1.1, ⟨hk.1.2.1, ⟨hk.2, hk.1.2.2⟩⟩⟩)), (by (with_reducible repeat (first | apply Kd.V_alloc | apply Kd.V_drewN | apply Kd.V_drew)); exact Kd.V_mono HO2_2.out (fun _ hk => ⟨hk.1.1, ⟨hk.1.2.1, ⟨hk.2, ⟨hk.1.2.2.1, hk.1.2.2.2⟩⟩⟩⟩)), (by (with_reducible repeat (first | refine blk_drewN ?_ _ | refine blk_drew ?_ | refine blk_alloc ?_ _)); exact BK127.out), (by repeat (first | (with_reducible first | exact HB.out | apply below_alloc | apply pw_below_drewN | apply below_drew1 | refine below_set ?_ GE127.out) | exact HB.out))⟩)
          rintro ⟨v133, v136, v139⟩ w36 ⟨hS_, h0_, h1_, h2_, h3_, h4_, h5_, h6_⟩
          have n0_ : Aside0 (Kd.V k41 41 w36 w.heap.size (fun k_ => ((P0_ k_ ∨ P2_2_ k_) ∨ w.heap.size ≤ k_) ∧ some k_ ≠ (.slice Ao29 t129.length co29 : Value).ownBlock ∧ some k_ ≠ (v136 : Value).ownBlock ∧ some k_ ≠ (v139 : Value).ownBlock ∧ k_ ≠ gb127) (.slice A0 l0.length c0) l0) := ⟨h0_⟩
          have n1_ : Aside0 (Kd.N k41 41 w36 w.heap.size (fun k_ => ((P0_ k_ ∨ P2_2_ k_) ∨ w.heap.size ≤ k_) ∧ some k_ ≠ (v136 : Value).ownBlock ∧ some k_ ≠ (v139 : Value).ownBlock ∧ k_ ≠ gb127) (.slice Ao29 t129.length co29) t129) := ⟨h1_⟩
          have n2_ : Aside0 (Kd.N k41 41 w36 w.heap.size (fun k_ => ((P0_ k_ ∨ P2_2_ k_) ∨ w.heap.size ≤ k_) ∧ some k_ ≠ (v139 : Value).ownBlock ∧ k_ ≠ gb127) v136 y135) := ⟨h2_⟩
          have n3_ : Aside0 (Kd.N k41 41 w36 w.heap.size (fun k_ => ((P0_ k_ ∨ P2_2_ k_) ∨ w.heap.size ≤ k_) ∧ some k_ ≠ (.slice Ao29 t129.length co29 : Value).ownBlock ∧ some k_ ≠ (v136 : Value).ownBlock ∧ k_ ≠ gb127) v139 y138) := ⟨h3_⟩
          have n4_ : Aside0 (Kd.V Kd.string 9 w36 w.heap.size (fun k_ => ((P0_ k_ ∨ P2_2_ k_) ∨ w.heap.size ≤ k_) ∧ some k_ ≠ (.slice Ao29 t129.length co29 : Value).ownBlock ∧ some k_ ≠ (v136 : Value).ownBlock ∧ some k_ ≠ (v139 : Value).ownBlock ∧ k_ ≠ gb127) (.slice A2_2 l2_2.length c2_2) l2_2) := ⟨h4_⟩
          have n5_ : Aside0 (w36.heap[gb127]? = some (.cells #[.string a2_0, .string a2_1, .slice A2_2 l2_2.length c2_2] 41 (0, 0))) := ⟨h5_⟩
          have n6_ : Aside0 (Below w.heap.size w w36) := ⟨h6_⟩
          clear HO0
          clear HO2_2
          clear HO131
          clear BK127
          clear HB
          clear h0_ h1_ h2_ h3_ h4_ h5_ h6_
          have HO0 := n0_
          have HO131 := n1_
          have HO137 := n2_
          have HO140 := n3_
          have HO2_2 := n4_
          have BK127 := n5_
          have HB := n6_
          clear n0_ n1_ n2_ n3_ n4_ n5_ n6_
          have hHeld : w36.cell? ⟨gb127, 0, none⟩ = some (.string a2_0) ∧ w36.cell? ⟨gb127, 1, none⟩ = some (.string a2_1) ∧ w36.cell? ⟨gb127, 2, none⟩ = some (.slice A2_2 l2_2.length c2_2) := hS_
          obtain ⟨Ao38, co38, eo38⟩ := Kd.N_slice HO140.out
          (first | subst eo38 | (injection eo38 with f1_ f2_ f3_; have f4_ := f1_.symm; have f5_ := f3_.symm; clear f1_ f2_ f3_; subst f4_; subst f5_))
          refine norm_ (a' := ?_) ?_ ?_
          rotate_left
          · simp only [putAll, Act.put, List.setIfInBounds_toArray, List.set_cons_zero, List.set_cons_succ]
            rfl
          refine one_ (i := 5) (N := some 23) #[true, true, true, true, true, true, false] rfl rfl (by kernel_rfl) (by decide) (fun K hK => ?_)
          refine Kd.N_append_rows_step k41 (w0 := w) w.heap.size (by rfl) (.tmp 20) (.tmp 22) 37 41 (.agg #[(.string ⟨#[]⟩), (.string ⟨#[]⟩), (.slice none 0 0)]) 56 rfl Try.underlying37 info41 rfl (by decide) (by omega) v136 y135 y138 _ _ _ (fun k_ => ((P0_ k_ ∨ P2_2_ k_) ∨ w.heap.size ≤ k_) ∧ k_ ≠ gb127) (fun k_ => ((fun k_ => ((P0_ k_ ∨ P2_2_ k_) ∨ w.heap.size ≤ k_) ∧ k_ ≠ gb127)) k_ ∧ some k_ ≠ (v136 : Value).ownBlock) rfl rfl ?aO ?aR (fun _ hk => hk) ?aF ?aB ?aS ?aL ?_
          (case aR => exact (by skip; exact Kd.N_F (Kd.N_mono (ok' := (fun k_ => ((fun k_ => ((P0_ k_ ∨ P2_2_ k_) ∨ w.heap.size ≤ k_) ∧ k_ ≠ gb127)) k_ ∧ some k_ ≠ (v136 : Value).ownBlock)) (HO140.out) (fun k_ hk => ⟨⟨hk.1, hk.2.2.2⟩, hk.2.2.1⟩))))
          (case aB => exact (by repeat (first | (with_reducible first | exact HB.out | apply below_alloc | apply pw_below_drewN | apply below_drew1 | refine below_set ?_ GE127.out) | exact HB.out)))
          (case aF => exact (fun k_ hk => ⟨(.inr (Nat.le_trans (below_size (by repeat (first | (with_reducible first | exact HB.out | apply below_alloc | apply pw_below_drewN | apply below_drew1 | refine below_set ?_ GE127.out) | exact HB.out))) hk)), Kd.freshB (g := gb127) (o := .cells #[.string a2_0, .string a2_1, .slice A2_2 l2_2.length c2_2] 41 (0, 0)) (by (with_reducible repeat (first | refine blk_drewN ?_ _ | refine blk_drew ?_ | refine blk_alloc ?_ _)); exact BK127.out) k_ hk⟩))
          (case aO => exact (by (with_reducible repeat (first | apply Kd.N_alloc | apply Kd.N_drewN | apply Kd.N_drew)); exact Kd.N_mono HO137.out (fun _ hk => ⟨hk.1, hk.2.2⟩)))
          (case aS => exact (below_size (by repeat (first | (with_reducible first | exact HB.out | apply below_alloc | apply pw_below_drewN | apply below_drew1 | refine below_set ?_ GE127.out) | exact HB.out))))
          (case aL => have := LMc8.out; omega)
          intro v142 w37 ho hb hg hat
          rw [← Ny141.out] at ho
          have n0_ := Aside0.mk (Kd.V_afterv (ok := (fun k_ => ((P0_ k_ ∨ P2_2_ k_) ∨ w.heap.size ≤ k_) ∧ some k_ ≠ (.slice Ao29 t129.length co29 : Value).ownBlock ∧ some k_ ≠ (.slice Ao38 y138.length co38 : Value).ownBlock ∧ k_ ≠ gb127)) (by (with_reducible repeat (first | apply Kd.V_alloc | apply Kd.V_drewN | apply Kd.V_drew)); exact Kd.V_mono HO0.out (fun _ hk => ⟨⟨hk.1, ⟨hk.2.1, ⟨hk.2.2.2.1, hk.2.2.2.2⟩⟩⟩, hk.2.2.1⟩)) hg hat)
          have n1_ := Aside0.mk (Kd.V_afterv (ok := (fun k_ => ((P0_ k_ ∨ P2_2_ k_) ∨ w.heap.size ≤ k_) ∧ some k_ ≠ (.slice Ao29 t129.length co29 : Value).ownBlock ∧ some k_ ≠ (.slice Ao38 y138.length co38 : Value).ownBlock ∧ k_ ≠ gb127)) (by (with_reducible repeat (first | apply Kd.V_alloc | apply Kd.V_drewN | apply Kd.V_drew)); exact Kd.V_mono HO2_2.out (fun _ hk => ⟨⟨hk.1, ⟨hk.2.1, ⟨hk.2.2.2.1, hk.2.2.2.2⟩⟩⟩, hk.2.2.1⟩)) hg hat)
          have n2_ := Aside0.mk (blk_grown (g := gb127) (o := .cells #[.string a2_0, .string a2_1, .slice A2_2 l2_2.length c2_2] 41 (0, 0)) (by (with_reducible repeat (first | refine blk_drewN ?_ _ | refine blk_drew ?_ | refine blk_alloc ?_ _)); exact BK127.out) hg (Kd.N_away HO137.out (fun _ hk => hk.2.2)))
          have n3_ := Aside0.mk (Kd.N_afterv (ok := (fun k_ => ((P0_ k_ ∨ P2_2_ k_) ∨ w.heap.size ≤ k_) ∧ some k_ ≠ (.slice Ao38 y138.length co38 : Value).ownBlock ∧ k_ ≠ gb127)) (by (with_reducible repeat (first | apply Kd.N_alloc | apply Kd.N_drewN | apply Kd.N_drew)); exact Kd.N_mono HO131.out (fun _ hk => ⟨⟨hk.1, ⟨hk.2.2.1, hk.2.2.2⟩⟩, hk.2.1⟩)) hg hat)
          have n4_ := Aside0.mk (Kd.N_afterv (ok := (fun k_ => ((P0_ k_ ∨ P2_2_ k_) ∨ w.heap.size ≤ k_) ∧ some k_ ≠ (.slice Ao29 t129.length co29 : Value).ownBlock ∧ k_ ≠ gb127)) (by (with_reducible repeat (first | apply Kd.N_alloc | apply Kd.N_drewN | apply Kd.N_drew)); exact Kd.N_mono HO140.out (fun _ hk => ⟨⟨hk.1, ⟨hk.2.1, hk.2.2.2⟩⟩, hk.2.2.1⟩)) hg hat)
          have n5_ := Aside0.mk (hb)
          have n6_ := Aside0.mk (ho)
          clear HO0
          clear HO2_2
          clear BK127
          clear HO131
          clear HO140
          clear HB
          clear HO137
          have HO0 := n0_
          have HO2_2 := n1_
          have BK127 := n2_
          have HO131 := n3_
          have HO140 := n4_
          have HB := n5_
          have HO143 := n6_
          clear n0_ n1_ n2_ n3_ n4_ n5_ n6_
          clear ho hb hg hat
          refine hK.out _ _ ⟨(blk_cell BK127.out 0).trans rfl, (blk_cell BK127.out 1).trans rfl, (blk_cell BK127.out 2).trans rfl⟩ (fun hHeld => ?_)
          clear hK K
          refine norm_ (a' := ?_) ?_ ?_
          rotate_left
          · show Act.put _ (some 23) _ = _
            simp only [Act.put, List.setIfInBounds_toArray, List.set_cons_zero, List.set_cons_succ, i64_w, i32_w]
            rfl
          refine pure_ (i := 6) (N := some 8) (v := ?_) (a' := ?_) #[true, true, true, true, true, true, true] rfl rfl (by kernel_rfl) (fun _ _ _ h => h) (Or.inl ⟨by rfl, ?_⟩) ?_ ?_
          rotate_left
          · intro w'
            go_simp
            with_reducible rfl
          rotate_left
          · simp only [Act.put, List.setIfInBounds_toArray, List.set_cons_zero, List.set_cons_succ, i64_w, i32_w]
            rfl
          refine done_ (by kernel_rfl) ?_
          obtain ⟨Ao39, co39, eo39⟩ := Kd.N_slice HO143.out
          subst eo39
          try go_wp2
          go_ret
          exact ⟨_, by first | rfl | (simp [errW_none, errW_some] <;> rfl) | (simp [*, errW_none, errW_some] <;> rfl), Kd.N_V (by (with_reducible repeat (first | apply Kd.N_alloc | apply Kd.N_drewN | apply Kd.N_drew)); exact Kd.N_mono HO143.out (fun _ hk => hk.1)), by repeat (first | (with_reducible first | exact HB.out | apply below_alloc | apply pw_below_drewN | apply below_drew1 | refine below_set ?_ GE127.out) | exact HB.out)⟩
      · rw [if_neg c8] at H
        exact absurd H (by simp)
    · rw [if_neg c7] at H
      exact absurd H (by simp)
  · rw [if_neg c5] at H
    have c5b0 : decide (0 ≤ t128) = false := decide_eq_false c5
    clear c5
    obtain ⟨y149, hy149⟩ : ∃ y_ : List (S41), y_ = (([] : List (S41))) := ⟨_, rfl⟩
    replace H : (if y149.length + l0.length < 2513169434916 then ((some (y149 ++ l0 : List (S41))).bind fun y152 => ((some (([(⟨a2_0, a2_1, l2_2⟩ : S41)] : List (S41)) : List (S41))).bind fun y155 => (if y152.length + y155.length < 2513169434916 then ((some (y152 ++ y155 : List (S41))).bind fun y158 => (if (y158.length : Int) > a1 then (if 1 ≤ (y158.length : Int) then (some (y158.drop 1)) else (none)) else (some y158))) else (none)))) else (none)) = some r := by first | (rw [hy149]; with_reducible exact H) | (have H2_ := (Option.bind_some _ _).symm.trans H; rw [hy149]; with_reducible exact H2_) | (have H2_ := (Option.bind_some _ _).symm.trans H; with_reducible exact H2_) | with_reducible exact H | (rw [hy149]; exact H) | exact H
    have Ny149 := Aside0.mk hy149
    clear hy149
    by_cases c40 : y149.length + l0.length < 2513169434916
    · rw [if_pos c40] at H
      have LMc40 := Aside0.mk c40
      clear c40
      obtain ⟨y152, hy152⟩ : ∃ y_ : List (S41), y_ = (y149 ++ l0) := ⟨_, rfl⟩
      replace H : ((some (([(⟨a2_0, a2_1, l2_2⟩ : S41)] : List (S41)) : List (S41))).bind fun y155 => (if y152.length + y155.length < 2513169434916 then ((some (y152 ++ y155 : List (S41))).bind fun y158 => (if (y158.length : Int) > a1 then (if 1 ≤ (y158.length : Int) then (some (y158.drop 1)) else (none)) else (some y158))) else (none))) = some r := by first | (rw [hy152]; with_reducible exact H) | (have H2_ := (Option.bind_some _ _).symm.trans H; rw [hy152]; with_reducible exact H2_) | (have H2_ := (Option.bind_some _ _).symm.trans H; with_reducible exact H2_) | with_reducible exact H | (rw [hy152]; exact H) | exact H
      have Ny152 := Aside0.mk hy152
      clear hy152
      obtain ⟨y155, hy155⟩ : ∃ y_ : List (S41), y_ = (([(⟨a2_0, a2_1, l2_2⟩ : S41)] : List (S41))) := ⟨_, rfl⟩
      replace H : (if y152.length + y155.length < 2513169434916 then ((some (y152 ++ y155 : List (S41))).bind fun y158 => (if (y158.length : Int) > a1 then (if 1 ≤ (y158.length : Int) then (some (y158.drop 1)) else (none)) else (some y158))) else (none)) = some r := by first | (rw [hy155]; with_reducible exact H) | (have H2_ := (Option.bind_some _ _).symm.trans H; rw [hy155]; with_reducible exact H2_) | (have H2_ := (Option.bind_some _ _).symm.trans H; with_reducible exact H2_) | with_reducible exact H | (rw [hy155]; exact H) | exact H
      have Ny155 := Aside0.mk hy155
      clear hy155
      by_cases c41 : y152.length + y155.length < 2513169434916
      · rw [if_pos c41] at H
        have LMc41 := Aside0.mk c41
        clear c41
        obtain ⟨y158, hy158⟩ : ∃ y_ : List (S41), y_ = (y152 ++ y155) := ⟨_, rfl⟩
        replace H : (if (y158.length : Int) > a1 then (if 1 ≤ (y158.length : Int) then (some (y158.drop 1)) else (none)) else (some y158)) = some r := by first | (rw [hy158]; with_reducible exact H) | (have H2_ := (Option.bind_some _ _).symm.trans H; rw [hy158]; with_reducible exact H2_) | (have H2_ := (Option.bind_some _ _).symm.trans H; with_reducible exact H2_) | with_reducible exact H | (rw [hy158]; exact H) | exact H
        have Ny158 := Aside0.mk hy158
        clear hy158
        by_cases c42 : (y158.length : Int) > a1
        · rw [if_pos c42] at H
          have c42b0 : decide (a1 < (y158.length : Int)) = true := decide_eq_true c42
          clear c42
          by_cases c43 : 1 ≤ (y158.length : Int)
          · rw [if_pos c43] at H
            have c43b0 := eq_true c43
            have c43b1 : decide (1 ≤ (y158.length : Int)) = true := decide_eq_true c43
            clear c43
            obtain ⟨y161, hy161⟩ : ∃ y_ : List (S41), y_ = (y158.drop 1) := ⟨_, rfl⟩
            replace H : (some y161) = some r := by first | (rw [hy161]; with_reducible exact H) | (have H2_ := (Option.bind_some _ _).symm.trans H; rw [hy161]; with_reducible exact H2_) | (have H2_ := (Option.bind_some _ _).symm.trans H; with_reducible exact H2_) | with_reducible exact H | (rw [hy161]; exact H) | exact H
            have Ny161 := Aside0.mk hy161
            clear hy161
            obtain rfl := Option.some.inj H
            go_enter Try.func15, Try.ntmps15
            try go_wp2_with (first | ((with_reducible refine gate_dst (N := 5) rfl ?_); refine box_event ?hg (N := 5) ?hd (cs := #[.string a2_0, .string a2_1, .slice A2_2 l2_2.length c2_2]) (t := 41) ?hr ?_; (case hd => rfl); (case hg => rfl); (case hr => first | (go_simp; done) | (go_simp; rfl)); intro gb127 hg w44 hbox hb; have n0_ := Aside0.mk (Kd.V_below (Kd.V_elderB (by (with_reducible repeat (first | apply Kd.V_alloc | apply Kd.V_drewN | apply Kd.V_drew)); exact HO0.out) gb127 (Nat.le_of_eq hg.symm)) hb); have n1_ := Aside0.mk (Kd.V_below (Kd.V_elderB (by (with_reducible repeat (first | apply Kd.V_alloc | apply Kd.V_drewN | apply Kd.V_drew)); exact HO2_2.out) gb127 (Nat.le_of_eq hg.symm)) hb); have n2_ := Aside0.mk (below_step (by repeat (first | (with_reducible first | exact HB.out | apply below_alloc | apply pw_below_drewN | apply below_drew1) | exact HB.out)) hb); have n3_ := Aside0.mk (hbox); have n4_ := Aside0.mk ((by rw [hg]; exact (below_size (by repeat (first | (with_reducible first | exact HB.out | apply below_alloc | apply pw_below_drewN | apply below_drew1) | exact HB.out))) : w.heap.size ≤ gb127)); have n5_ := Aside0.mk ((by rw [hg]; exact (below_size (by repeat (first | (with_reducible first | exact HB.out | apply below_alloc | apply pw_below_drewN | apply below_drew1) | exact HB.out))) : w.heap.size ≤ gb127)); clear HO0; clear HO2_2; clear HB; have HO0 := n0_; have HO2_2 := n1_; have HB := n2_; have BK127 := n3_; have GW127 := n4_; have GE127 := n5_; clear n0_ n1_ n2_ n3_ n4_ n5_; clear hb hbox hg; have hcz45_0 : w44.cell? ⟨gb127, 0, none⟩ = some (.string a2_0) := (blk_cell BK127.out 0).trans rfl; have hcz45_1 : w44.cell? ⟨gb127, 1, none⟩ = some (.string a2_1) := (blk_cell BK127.out 1).trans rfl; have hcz45_2 : w44.cell? ⟨gb127, 2, none⟩ = some (.slice A2_2 l2_2.length c2_2) := (blk_cell BK127.out 2).trans rfl; have hfz45_0 := blk_frozen BK127.out 0; have hfz45_1 := blk_frozen BK127.out 1; have hfz45_2 := blk_frozen BK127.out 2) | ((with_reducible refine gate_callee (f := 17) rfl ?_); refine goesL_ (some 12) rfl rfl Try.func17 (by kernel_rfl) rfl #[.slice A0 l0.length c0, .string a2_0] rfl (by (try simp only [List.map_toArray, List.map_cons, List.map_nil]); first | done | rfl | (simp only [List.length_drop, List.length_take]; rfl)) ?_; (with_reducible refine (ciceroneref29_At.calls k _ _ l0 a2_0 t128 _ ?side1 ?side2 A4.out).mono ?_); (case side1 => repeat (first | exact (Kd.V_reads' HO0.out).2.2 | (with_reducible refine Kd.C_alloc ?_ _) | (with_reducible refine Kd.C_drewN ?_ _) | (with_reducible refine Kd.C_drew ?_))); (case side2 => exact (Kd.V_reads' HO0.out).2.1); rintro e w' ⟨rfl, ⟨nd, rfl⟩⟩; refine ⟨_, rfl, ?_⟩))
            (try (rw [drewN_self w44]; generalize hq_ : World.drewN w44 _ = w44; have n0_ : Aside0 (Kd.V k41 41 w44 w.heap.size (fun k_ => ((P0_ k_ ∨ P2_2_ k_) ∨ w.heap.size ≤ k_) ∧ k_ ≠ gb127) (.slice A0 l0.length c0) l0) := ⟨by rw [← hq_]; exact (by (with_reducible repeat (first | apply Kd.V_alloc | apply Kd.V_drewN | apply Kd.V_drew)); exact HO0.out)⟩; have n1_ : Aside0 (Kd.V Kd.string 9 w44 w.heap.size (fun k_ => ((P0_ k_ ∨ P2_2_ k_) ∨ w.heap.size ≤ k_) ∧ k_ ≠ gb127) (.slice A2_2 l2_2.length c2_2) l2_2) := ⟨by rw [← hq_]; exact (by (with_reducible repeat (first | apply Kd.V_alloc | apply Kd.V_drewN | apply Kd.V_drew)); exact HO2_2.out)⟩; have n2_ : Aside0 (w44.heap[gb127]? = some (.cells #[.string a2_0, .string a2_1, .slice A2_2 l2_2.length c2_2] 41 (0, 0))) := ⟨by rw [← hq_]; exact (by (with_reducible repeat (first | refine blk_drewN ?_ _ | refine blk_drew ?_ | refine blk_alloc ?_ _)); exact BK127.out)⟩; have n3_ : Aside0 (Below w.heap.size w w44) := ⟨by rw [← hq_]; exact (by repeat (first | (with_reducible first | exact HB.out | apply below_alloc | apply pw_below_drewN | apply below_drew1 | refine below_set ?_ GE127.out) | exact HB.out))⟩; clear HO0 HO2_2 BK127 HB hq_; have HO0 := n0_; have HO2_2 := n1_; have BK127 := n2_; have HB := n3_; clear n0_ n1_ n2_ n3_))
            have n0_ := Aside0.mk (Kd.V_drew HO0.out)
            have n1_ := Aside0.mk (Kd.V_drew HO2_2.out)
            have n2_ := Aside0.mk (blk_drew BK127.out)
            have n3_ := Aside0.mk (below_drew1 HB.out)
            clear HO0
            clear HO2_2
            clear BK127
            clear HB
            have HO0 := n0_
            have HO2_2 := n1_
            have BK127 := n2_
            have HB := n3_
            clear n0_ n1_ n2_ n3_
            refine start_ (n := 7) (S := fun w' => w'.cell? ⟨gb127, 0, none⟩ = some (.string a2_0) ∧ w'.cell? ⟨gb127, 1, none⟩ = some (.string a2_1) ∧ w'.cell? ⟨gb127, 2, none⟩ = some (.slice A2_2 l2_2.length c2_2)) (ds := []) #[false, false, false, false, false, false, false] (by kernel_rfl) rfl rfl ⟨(blk_cell BK127.out 0).trans rfl, (blk_cell BK127.out 1).trans rfl, (blk_cell BK127.out 2).trans rfl⟩ (fun hHeld => ?_)
            generalize w44.drew = w46 at HO0 HO2_2 BK127 HB hHeld ⊢
            refine pure_ (i := 1) (N := some 19) (v := ?_) (a' := ?_) #[false, true, false, false, false, false, false] rfl rfl (by kernel_rfl) (fun _ _ _ h => h) (Or.inl ⟨by rfl, ?_⟩) ?_ ?_
            rotate_left
            · intro w'
              go_simp
              with_reducible rfl
            rotate_left
            · simp only [Act.put, List.setIfInBounds_toArray, List.set_cons_zero, List.set_cons_succ, i64_w, i32_w]
              rfl
            refine take_ (i := 3) (N := some 21) (v := ?_) (a' := ?_) #[false, true, false, true, false, false, false] rfl rfl (by kernel_rfl) (fun _ _ _ h => h) (Or.inl ⟨by rfl, ?_⟩) hHeld ?_ ?_
            rotate_left
            · rintro w' ⟨s0, s1, s2⟩
              go_simp
              with_reducible rfl
            rotate_left
            · simp only [Act.put, List.setIfInBounds_toArray, List.set_cons_zero, List.set_cons_succ, i64_w, i32_w]
              rfl
            refine join_ (σ := Value × Value × Value) 2 #[true, true, true, true, true, false, false] (fun s_ => [(18, s_.1), (20, s_.2.1), (22, s_.2.2)]) (fun s_ w' => (w'.cell? ⟨gb127, 0, none⟩ = some (.string a2_0) ∧ w'.cell? ⟨gb127, 1, none⟩ = some (.string a2_1) ∧ w'.cell? ⟨gb127, 2, none⟩ = some (.slice A2_2 l2_2.length c2_2)) ∧ (Kd.V k41 41 w' w.heap.size (fun k_ => ((P0_ k_ ∨ P2_2_ k_) ∨ w.heap.size ≤ k_) ∧ some k_ ≠ (s_.2.1 : Value).ownBlock ∧ some k_ ≠ (s_.2.2 : Value).ownBlock ∧ k_ ≠ gb127) (.slice A0 l0.length c0) l0) ∧ (Kd.N k41 41 w' w.heap.size (fun k_ => ((P0_ k_ ∨ P2_2_ k_) ∨ w.heap.size ≤ k_) ∧ some k_ ≠ (s_.2.2 : Value).ownBlock ∧ k_ ≠ gb127) s_.2.1 y152) ∧ (Kd.N k41 41 w' w.heap.size (fun k_ => ((P0_ k_ ∨ P2_2_ k_) ∨ w.heap.size ≤ k_) ∧ some k_ ≠ (s_.2.1 : Value).ownBlock ∧ k_ ≠ gb127) s_.2.2 y155) ∧ (Kd.V Kd.string 9 w' w.heap.size (fun k_ => ((P0_ k_ ∨ P2_2_ k_) ∨ w.heap.size ≤ k_) ∧ some k_ ≠ (s_.2.1 : Value).ownBlock ∧ some k_ ≠ (s_.2.2 : Value).ownBlock ∧ k_ ≠ gb127) (.slice A2_2 l2_2.length c2_2) l2_2) ∧ (w'.heap[gb127]? = some (.cells #[.string a2_0, .string a2_1, .slice A2_2 l2_2.length c2_2] 41 (0, 0))) ∧ (Below w.heap.size w w')) ?_ ?_
            rotate_left
            · intro hCont
              refine two_ (i := 0) (j := 4) (Ni := some 18) (Nj := some 22) #[true, true, false, true, false, false, false] #[false, true, false, true, true, false, false] rfl rfl rfl rfl (by kernel_rfl) (by decide) (by decide) (fun K hK => ?_) (fun K hK => ?_)
              · skip
                refine Kd.N_lit_step k41 _ 41 ?hg (N' := 18) ?hd (xs := ([] : List (S41))) (inner := []) (ok := (fun k_ => ((P0_ k_ ∨ P2_2_ k_) ∨ w.heap.size ≤ k_) ∧ k_ ≠ gb127)) (okp := (fun k_ => ((P0_ k_ ∨ P2_2_ k_) ∨ w.heap.size ≤ k_) ∧ k_ ≠ gb127)) ?hr ?hp (fun _ hk => hk) ((show ∀ k_, w46.heap.size ≤ k_ → (fun k_ => ((P0_ k_ ∨ P2_2_ k_) ∨ w.heap.size ≤ k_) ∧ k_ ≠ gb127) k_ from fun k_ hk => ⟨(.inr (Nat.le_trans (below_size (by repeat (first | (with_reducible first | exact HB.out | apply below_alloc | apply pw_below_drewN | apply below_drew1 | refine below_set ?_ GE127.out) | exact HB.out))) hk)), Kd.freshB (g := gb127) (o := .cells #[.string a2_0, .string a2_1, .slice A2_2 l2_2.length c2_2] 41 (0, 0)) (by (with_reducible repeat (first | refine blk_drewN ?_ _ | refine blk_drew ?_ | refine blk_alloc ?_ _)); exact BK127.out) k_ hk⟩) _ (Nat.le_refl _)) (Below.refl _ _) (Nat.le_refl _) (by simp) ?_; (case hd => rfl); (case hg => rfl); (case hr => first | (go_simp; done) | (go_simp; rfl)); (case hp => exact (Reps.none _ _))
                intro v150 w47 ho48 hb hg_ hnew_
                clear hg_ hnew_
                (first | rw [← Ny149.out] at ho48 | (simp only [Int.reduceToNat] at ho48; rw [← Ny149.out] at ho48))
                have n0_ := Aside0.mk (Kd.V_elder' (by (with_reducible repeat (first | apply Kd.V_alloc | apply Kd.V_drewN | apply Kd.V_drew)); exact HO0.out) (Kd.N_base ho48) hb)
                have n1_ := Aside0.mk (Kd.V_elder' (by (with_reducible repeat (first | apply Kd.V_alloc | apply Kd.V_drewN | apply Kd.V_drew)); exact HO2_2.out) (Kd.N_base ho48) hb)
                have n2_ := Aside0.mk (Kd.N_lower ho48 (below_size (by repeat (first | (with_reducible first | exact HB.out | apply below_alloc | apply pw_below_drewN | apply below_drew1 | refine below_set ?_ GE127.out) | exact HB.out))))
                have n3_ := Aside0.mk (blk_below (g := gb127) (o := .cells #[.string a2_0, .string a2_1, .slice A2_2 l2_2.length c2_2] 41 (0, 0)) (by (with_reducible repeat (first | refine blk_drewN ?_ _ | refine blk_drew ?_ | refine blk_alloc ?_ _)); exact BK127.out) hb)
                have n4_ := Aside0.mk (below_step (by repeat (first | (with_reducible first | exact HB.out | apply below_alloc | apply pw_below_drewN | apply below_drew1 | refine below_set ?_ GE127.out) | exact HB.out)) hb)
                clear HO0
                clear HO2_2
                clear BK127
                clear HB
                have HO0 := n0_
                have HO2_2 := n1_
                have HO151 := n2_
                have BK127 := n3_
                have HB := n4_
                clear n0_ n1_ n2_ n3_ n4_
                clear hb ho48
                refine hK.out _ _ ⟨(blk_cell BK127.out 0).trans rfl, (blk_cell BK127.out 1).trans rfl, (blk_cell BK127.out 2).trans rfl⟩ (fun hHeld => ?_)
                clear hK K
                refine norm_ (a' := ?_) ?_ ?_
                rotate_left
                · show Act.put _ (some 18) _ = _
                  simp only [Act.put, List.setIfInBounds_toArray, List.set_cons_zero, List.set_cons_succ, i64_w, i32_w]
                  rfl
                refine two_ (i := 2) (j := 4) (Ni := some 20) (Nj := some 22) #[true, true, true, true, false, false, false] #[true, true, false, true, true, false, false] rfl rfl rfl rfl (by kernel_rfl) (by decide) (by decide) (fun K hK => ?_) (fun K hK => ?_)
                · skip
                  refine Kd.N_append_rows_step k41 (w0 := w) w.heap.size (by rfl) (.tmp 18) (.tmp 19) 37 41 (.agg #[(.string ⟨#[]⟩), (.string ⟨#[]⟩), (.slice none 0 0)]) 56 rfl Try.underlying37 info41 rfl (by decide) (by omega) v150 y149 l0 _ _ _ (fun k_ => ((P0_ k_ ∨ P2_2_ k_) ∨ w.heap.size ≤ k_) ∧ k_ ≠ gb127) (fun k_ => ((fun k_ => ((P0_ k_ ∨ P2_2_ k_) ∨ w.heap.size ≤ k_) ∧ k_ ≠ gb127)) k_ ∧ some k_ ≠ (v150 : Value).ownBlock) rfl rfl ?aO ?aR (fun _ hk => hk) ?aF ?aB ?aS ?aL ?_
                  (case aR => exact (by skip; exact Kd.V_F (Kd.V_mono (ok' := (fun k_ => ((fun k_ => ((P0_ k_ ∨ P2_2_ k_) ∨ w.heap.size ≤ k_) ∧ k_ ≠ gb127)) k_ ∧ some k_ ≠ (v150 : Value).ownBlock)) (HO0.out) (fun k_ hk => ⟨⟨hk.1.1, hk.1.2⟩, hk.2⟩))))
                  (case aB => exact (by repeat (first | (with_reducible first | exact HB.out | apply below_alloc | apply pw_below_drewN | apply below_drew1 | refine below_set ?_ GE127.out) | exact HB.out)))
                  (case aF => exact (fun k_ hk => ⟨(.inr (Nat.le_trans (below_size (by repeat (first | (with_reducible first | exact HB.out | apply below_alloc | apply pw_below_drewN | apply below_drew1 | refine below_set ?_ GE127.out) | exact HB.out))) hk)), Kd.freshB (g := gb127) (o := .cells #[.string a2_0, .string a2_1, .slice A2_2 l2_2.length c2_2] 41 (0, 0)) (by (with_reducible repeat (first | refine blk_drewN ?_ _ | refine blk_drew ?_ | refine blk_alloc ?_ _)); exact BK127.out) k_ hk⟩))
                  (case aO => exact (by (with_reducible repeat (first | apply Kd.N_alloc | apply Kd.N_drewN | apply Kd.N_drew)); exact HO151.out))
                  (case aS => exact (below_size (by repeat (first | (with_reducible first | exact HB.out | apply below_alloc | apply pw_below_drewN | apply below_drew1 | refine below_set ?_ GE127.out) | exact HB.out))))
                  (case aL => have := LMc40.out; omega)
                  intro v153 w49 ho hb hg hat
                  rw [← Ny152.out] at ho
                  have n0_ := Aside0.mk (Kd.V_afterv (ok := (fun k_ => ((P0_ k_ ∨ P2_2_ k_) ∨ w.heap.size ≤ k_) ∧ k_ ≠ gb127)) (by (with_reducible repeat (first | apply Kd.V_alloc | apply Kd.V_drewN | apply Kd.V_drew)); exact HO0.out) hg hat)
                  have n1_ := Aside0.mk (Kd.V_afterv (ok := (fun k_ => ((P0_ k_ ∨ P2_2_ k_) ∨ w.heap.size ≤ k_) ∧ k_ ≠ gb127)) (by (with_reducible repeat (first | apply Kd.V_alloc | apply Kd.V_drewN | apply Kd.V_drew)); exact HO2_2.out) hg hat)
                  have n2_ := Aside0.mk (blk_grown (g := gb127) (o := .cells #[.string a2_0, .string a2_1, .slice A2_2 l2_2.length c2_2] 41 (0, 0)) (by (with_reducible repeat (first | refine blk_drewN ?_ _ | refine blk_drew ?_ | refine blk_alloc ?_ _)); exact BK127.out) hg (Kd.N_away HO151.out (fun _ hk => hk.2)))
                  have n3_ := Aside0.mk (hb)
                  have n4_ := Aside0.mk (ho)
                  clear HO0
                  clear HO2_2
                  clear BK127
                  clear HB
                  clear HO151
                  have HO0 := n0_
                  have HO2_2 := n1_
                  have BK127 := n2_
                  have HB := n3_
                  have HO154 := n4_
                  clear n0_ n1_ n2_ n3_ n4_
                  clear ho hb hg hat
                  refine hK.out _ _ ⟨(blk_cell BK127.out 0).trans rfl, (blk_cell BK127.out 1).trans rfl, (blk_cell BK127.out 2).trans rfl⟩ (fun hHeld => ?_)
                  clear hK K
                  refine norm_ (a' := ?_) ?_ ?_
                  rotate_left
                  · show Act.put _ (some 20) _ = _
                    simp only [Act.put, List.setIfInBounds_toArray, List.set_cons_zero, List.set_cons_succ, i64_w, i32_w]
                    rfl
                  refine one_ (i := 4) (N := some 22) #[true, true, true, true, true, false, false] rfl rfl (by kernel_rfl) (by decide) (fun K hK => ?_)
                  refine Kd.N_lit_step k41 _ 41 ?hg (N' := 22) ?hd (xs := ([(⟨a2_0, a2_1, l2_2⟩ : S41)] : List (S41))) (inner := [.string a2_0, .string a2_1, .slice A2_2 l2_2.length c2_2]) (ok := (fun k_ => ((P0_ k_ ∨ P2_2_ k_) ∨ w.heap.size ≤ k_) ∧ some k_ ≠ (v153 : Value).ownBlock ∧ k_ ≠ gb127)) (okp := (fun k_ => ((P0_ k_ ∨ P2_2_ k_) ∨ w.heap.size ≤ k_) ∧ some k_ ≠ (v153 : Value).ownBlock ∧ k_ ≠ gb127)) ?hr ?hp (fun _ hk => hk) ((show ∀ k_, w49.heap.size ≤ k_ → (fun k_ => ((P0_ k_ ∨ P2_2_ k_) ∨ w.heap.size ≤ k_) ∧ some k_ ≠ (v153 : Value).ownBlock ∧ k_ ≠ gb127) k_ from fun k_ hk => ⟨(.inr (Nat.le_trans (below_size (by repeat (first | (with_reducible first | exact HB.out | apply below_alloc | apply pw_below_drewN | apply below_drew1 | refine below_set ?_ GE127.out) | exact HB.out))) hk)), Kd.fresh' (Kd.N_lt (by (with_reducible repeat (first | apply Kd.N_alloc | apply Kd.N_drewN | apply Kd.N_drew)); exact HO154.out)) k_ hk, Kd.freshB (g := gb127) (o := .cells #[.string a2_0, .string a2_1, .slice A2_2 l2_2.length c2_2] 41 (0, 0)) (by (with_reducible repeat (first | refine blk_drewN ?_ _ | refine blk_drew ?_ | refine blk_alloc ?_ _)); exact BK127.out) k_ hk⟩) _ (Nat.le_refl _)) (Below.refl _ _) (Nat.le_refl _) (by simp) ?_; (case hd => rfl); (case hg => rfl); (case hr => first | (go_simp; done) | (go_simp; rfl)); (case hp => exact (Reps.c3 (show Kd.FK k41 _ _ (⟨a2_0, a2_1, l2_2⟩ : S41) [.string a2_0, .string a2_1, .slice A2_2 l2_2.length c2_2] from (k41_mkF _ _ (⟨a2_0, a2_1, l2_2⟩ : S41) (Kd.V_reads' (Kd.V_mono (ok' := (fun k_ => ((P0_ k_ ∨ P2_2_ k_) ∨ w.heap.size ≤ k_) ∧ some k_ ≠ (v153 : Value).ownBlock ∧ k_ ≠ gb127)) (HO2_2.out) (fun k_ hk => ⟨hk.1.1, ⟨hk.2, hk.1.2⟩⟩))).2.1 (Kd.V_F (Kd.V_mono (ok' := (fun k_ => ((P0_ k_ ∨ P2_2_ k_) ∨ w.heap.size ≤ k_) ∧ some k_ ≠ (v153 : Value).ownBlock ∧ k_ ≠ gb127)) (HO2_2.out) (fun k_ hk => ⟨hk.1.1, ⟨hk.2, hk.1.2⟩⟩))))) (Reps.none _ _)))
                  intro v156 w50 ho51 hb hg_ hnew_
                  clear hg_ hnew_
                  (first | rw [← Ny155.out] at ho51 | (simp only [Int.reduceToNat] at ho51; rw [← Ny155.out] at ho51))
                  have n0_ := Aside0.mk (Kd.V_elder' (by (with_reducible repeat (first | apply Kd.V_alloc | apply Kd.V_drewN | apply Kd.V_drew)); exact HO0.out) (Kd.N_base ho51) hb)
                  have n1_ := Aside0.mk (Kd.V_elder' (by (with_reducible repeat (first | apply Kd.V_alloc | apply Kd.V_drewN | apply Kd.V_drew)); exact HO2_2.out) (Kd.N_base ho51) hb)
                  have n2_ := Aside0.mk (Kd.N_elder' (by (with_reducible repeat (first | apply Kd.N_alloc | apply Kd.N_drewN | apply Kd.N_drew)); exact HO154.out) (Kd.N_base ho51) hb)
                  have n3_ := Aside0.mk (Kd.N_lower ho51 (below_size (by repeat (first | (with_reducible first | exact HB.out | apply below_alloc | apply pw_below_drewN | apply below_drew1 | refine below_set ?_ GE127.out) | exact HB.out))))
                  have n4_ := Aside0.mk (blk_below (g := gb127) (o := .cells #[.string a2_0, .string a2_1, .slice A2_2 l2_2.length c2_2] 41 (0, 0)) (by (with_reducible repeat (first | refine blk_drewN ?_ _ | refine blk_drew ?_ | refine blk_alloc ?_ _)); exact BK127.out) hb)
                  have n5_ := Aside0.mk (below_step (by repeat (first | (with_reducible first | exact HB.out | apply below_alloc | apply pw_below_drewN | apply below_drew1 | refine below_set ?_ GE127.out) | exact HB.out)) hb)
                  clear HO0
                  clear HO2_2
                  clear HO154
                  clear BK127
                  clear HB
                  have HO0 := n0_
                  have HO2_2 := n1_
                  have HO154 := n2_
                  have HO157 := n3_
                  have BK127 := n4_
                  have HB := n5_
                  clear n0_ n1_ n2_ n3_ n4_ n5_
                  clear hb ho51
                  refine hK.out _ _ ⟨(blk_cell BK127.out 0).trans rfl, (blk_cell BK127.out 1).trans rfl, (blk_cell BK127.out 2).trans rfl⟩ (fun hHeld => ?_)
                  clear hK K
                  refine norm_ (a' := ?_) ?_ ?_
                  rotate_left
                  · show Act.put _ (some 22) _ = _
                    simp only [Act.put, List.setIfInBounds_toArray, List.set_cons_zero, List.set_cons_succ, i64_w, i32_w]
                    rfl
                  exact norm_ (by simp only [putAll, Act.put, List.setIfInBounds_toArray, List.set_cons_zero, List.set_cons_succ]) (hCont (v150, v153, v156) _ ⟨hHeld, (by (with_reducible repeat (first | apply Kd.V_alloc | apply Kd.V_drewN | apply Kd.V_drew)); exact Kd.V_mono HO0.out (fun _ hk => ⟨hk.1.1.1, ⟨hk.1.2, ⟨hk.2, hk.1.1.2⟩⟩⟩)), (by (with_reducible repeat (first | apply Kd.N_alloc | apply Kd.N_drewN | apply Kd.N_drew)); exact Kd.N_mono HO154.out (fun _ hk => ⟨hk.1.1, ⟨hk.2, hk.1.2⟩⟩)), (by (with_reducible repeat (first | apply Kd.N_alloc | apply Kd.N_drewN | apply Kd.N_drew)); exact HO157.out), (by (with_reducible repeat (first | apply Kd.V_alloc | apply Kd.V_drewN | apply Kd.V_drew)); exact Kd.V_mono HO2_2.out (fun _ hk => ⟨hk.1.1.1, ⟨hk.1.2, ⟨hk.2, hk.1.1.2⟩⟩⟩)), (by (with_reducible repeat (first | refine blk_drewN ?_ _ | refine blk_drew ?_ | refine blk_alloc ?_ _)); exact BK127.out), (by repeat (first | (with_reducible first | exact HB.out | apply below_alloc | apply pw_below_drewN | apply below_drew1 | refine below_set ?_ GE127.out) | exact HB.out))⟩)
                · skip
                  refine Kd.N_lit_step k41 _ 41 ?hg (N' := 22) ?hd (xs := ([(⟨a2_0, a2_1, l2_2⟩ : S41)] : List (S41))) (inner := [.string a2_0, .string a2_1, .slice A2_2 l2_2.length c2_2]) (ok := (fun k_ => ((P0_ k_ ∨ P2_2_ k_) ∨ w.heap.size ≤ k_) ∧ some k_ ≠ (v150 : Value).ownBlock ∧ k_ ≠ gb127)) (okp := (fun k_ => ((P0_ k_ ∨ P2_2_ k_) ∨ w.heap.size ≤ k_) ∧ some k_ ≠ (v150 : Value).ownBlock ∧ k_ ≠ gb127)) ?hr ?hp (fun _ hk => hk) ((show ∀ k_, w47.heap.size ≤ k_ → (fun k_ => ((P0_ k_ ∨ P2_2_ k_) ∨ w.heap.size ≤ k_) ∧ some k_ ≠ (v150 : Value).ownBlock ∧ k_ ≠ gb127) k_ from fun k_ hk => ⟨(.inr (Nat.le_trans (below_size (by repeat (first | (with_reducible first | exact HB.out | apply below_alloc | apply pw_below_drewN | apply below_drew1 | refine below_set ?_ GE127.out) | exact HB.out))) hk)), Kd.fresh' (Kd.N_lt (by (with_reducible repeat (first | apply Kd.N_alloc | apply Kd.N_drewN | apply Kd.N_drew)); exact HO151.out)) k_ hk, Kd.freshB (g := gb127) (o := .cells #[.string a2_0, .string a2_1, .slice A2_2 l2_2.length c2_2] 41 (0, 0)) (by (with_reducible repeat (first | refine blk_drewN ?_ _ | refine blk_drew ?_ | refine blk_alloc ?_ _)); exact BK127.out) k_ hk⟩) _ (Nat.le_refl _)) (Below.refl _ _) (Nat.le_refl _) (by simp) ?_; (case hd => rfl); (case hg => rfl); (case hr => first | (go_simp; done) | (go_simp; rfl)); (case hp => exact (Reps.c3 (show Kd.FK k41 _ _ (⟨a2_0, a2_1, l2_2⟩ : S41) [.string a2_0, .string a2_1, .slice A2_2 l2_2.length c2_2] from (k41_mkF _ _ (⟨a2_0, a2_1, l2_2⟩ : S41) (Kd.V_reads' (Kd.V_mono (ok' := (fun k_ => ((P0_ k_ ∨ P2_2_ k_) ∨ w.heap.size ≤ k_) ∧ some k_ ≠ (v150 : Value).ownBlock ∧ k_ ≠ gb127)) (HO2_2.out) (fun k_ hk => ⟨hk.1.1, ⟨hk.2, hk.1.2⟩⟩))).2.1 (Kd.V_F (Kd.V_mono (ok' := (fun k_ => ((P0_ k_ ∨ P2_2_ k_) ∨ w.heap.size ≤ k_) ∧ some k_ ≠ (v150 : Value).ownBlock ∧ k_ ≠ gb127)) (HO2_2.out) (fun k_ hk => ⟨hk.1.1, ⟨hk.2, hk.1.2⟩⟩))))) (Reps.none _ _)))
                  intro v156 w49 ho50 hb hg_ hnew_
                  clear hg_ hnew_
                  (first | rw [← Ny155.out] at ho50 | (simp only [Int.reduceToNat] at ho50; rw [← Ny155.out] at ho50))
                  have n0_ := Aside0.mk (Kd.V_elder' (by (with_reducible repeat (first | apply Kd.V_alloc | apply Kd.V_drewN | apply Kd.V_drew)); exact HO0.out) (Kd.N_base ho50) hb)
                  have n1_ := Aside0.mk (Kd.V_elder' (by (with_reducible repeat (first | apply Kd.V_alloc | apply Kd.V_drewN | apply Kd.V_drew)); exact HO2_2.out) (Kd.N_base ho50) hb)
                  have n2_ := Aside0.mk (Kd.N_elder' (by (with_reducible repeat (first | apply Kd.N_alloc | apply Kd.N_drewN | apply Kd.N_drew)); exact HO151.out) (Kd.N_base ho50) hb)
                  have n3_ := Aside0.mk (Kd.N_lower ho50 (below_size (by repeat (first | (with_reducible first | exact HB.out | apply below_alloc | apply pw_below_drewN | apply below_drew1 | refine below_set ?_ GE127.out) | exact HB.out))))
                  have n4_ := Aside0.mk (blk_below (g := gb127) (o := .cells #[.string a2_0, .string a2_1, .slice A2_2 l2_2.length c2_2] 41 (0, 0)) (by (with_reducible repeat (first | refine blk_drewN ?_ _ | refine blk_drew ?_ | refine blk_alloc ?_ _)); exact BK127.out) hb)
                  have n5_ := Aside0.mk (below_step (by repeat (first | (with_reducible first | exact HB.out | apply below_alloc | apply pw_below_drewN | apply below_drew1 | refine below_set ?_ GE127.out) | exact HB.out)) hb)
                  clear HO0
                  clear HO2_2
                  clear HO151
                  clear BK127
                  clear HB
                  have HO0 := n0_
                  have HO2_2 := n1_
                  have HO151 := n2_
                  have HO157 := n3_
                  have BK127 := n4_
                  have HB := n5_
                  clear n0_ n1_ n2_ n3_ n4_ n5_
                  clear hb ho50
                  refine hK.out _ _ ⟨(blk_cell BK127.out 0).trans rfl, (blk_cell BK127.out 1).trans rfl, (blk_cell BK127.out 2).trans rfl⟩ (fun hHeld => ?_)
                  clear hK K
                  refine norm_ (a' := ?_) ?_ ?_
                  rotate_left
                  · show Act.put _ (some 22) _ = _
                    simp only [Act.put, List.setIfInBounds_toArray, List.set_cons_zero, List.set_cons_succ, i64_w, i32_w]
                    rfl
                  refine one_ (i := 2) (N := some 20) #[true, true, true, true, true, false, false] rfl rfl (by kernel_rfl) (by decide) (fun K hK => ?_)
                  refine Kd.N_append_rows_step k41 (w0 := w) w.heap.size (by rfl) (.tmp 18) (.tmp 19) 37 41 (.agg #[(.string ⟨#[]⟩), (.string ⟨#[]⟩), (.slice none 0 0)]) 56 rfl Try.underlying37 info41 rfl (by decide) (by omega) v150 y149 l0 _ _ _ (fun k_ => ((P0_ k_ ∨ P2_2_ k_) ∨ w.heap.size ≤ k_) ∧ some k_ ≠ (v156 : Value).ownBlock ∧ k_ ≠ gb127) (fun k_ => ((fun k_ => ((P0_ k_ ∨ P2_2_ k_) ∨ w.heap.size ≤ k_) ∧ some k_ ≠ (v156 : Value).ownBlock ∧ k_ ≠ gb127)) k_ ∧ some k_ ≠ (v150 : Value).ownBlock) rfl rfl ?aO ?aR (fun _ hk => hk) ?aF ?aB ?aS ?aL ?_
                  (case aR => exact (by skip; exact Kd.V_F (Kd.V_mono (ok' := (fun k_ => ((fun k_ => ((P0_ k_ ∨ P2_2_ k_) ∨ w.heap.size ≤ k_) ∧ some k_ ≠ (v156 : Value).ownBlock ∧ k_ ≠ gb127)) k_ ∧ some k_ ≠ (v150 : Value).ownBlock)) (HO0.out) (fun k_ hk => ⟨⟨hk.1.1.1, ⟨hk.2, hk.1.1.2⟩⟩, hk.1.2⟩))))
                  (case aB => exact (by repeat (first | (with_reducible first | exact HB.out | apply below_alloc | apply pw_below_drewN | apply below_drew1 | refine below_set ?_ GE127.out) | exact HB.out)))
                  (case aF => exact (fun k_ hk => ⟨(.inr (Nat.le_trans (below_size (by repeat (first | (with_reducible first | exact HB.out | apply below_alloc | apply pw_below_drewN | apply below_drew1 | refine below_set ?_ GE127.out) | exact HB.out))) hk)), Kd.fresh' (Kd.N_lt (by (with_reducible repeat (first | apply Kd.N_alloc | apply Kd.N_drewN | apply Kd.N_drew)); exact HO157.out)) k_ hk, Kd.freshB (g := gb127) (o := .cells #[.string a2_0, .string a2_1, .slice A2_2 l2_2.length c2_2] 41 (0, 0)) (by (with_reducible repeat (first | refine blk_drewN ?_ _ | refine blk_drew ?_ | refine blk_alloc ?_ _)); exact BK127.out) k_ hk⟩))
                  (case aO => exact (by (with_reducible repeat (first | apply Kd.N_alloc | apply Kd.N_drewN | apply Kd.N_drew)); exact Kd.N_mono HO151.out (fun _ hk => ⟨hk.1.1, ⟨hk.2, hk.1.2⟩⟩)))
                  (case aS => exact (below_size (by repeat (first | (with_reducible first | exact HB.out | apply below_alloc | apply pw_below_drewN | apply below_drew1 | refine below_set ?_ GE127.out) | exact HB.out))))
                  (case aL => have := LMc40.out; omega)
                  intro v153 w51 ho hb hg hat
                  rw [← Ny152.out] at ho
                  have n0_ := Aside0.mk (Kd.V_afterv (ok := (fun k_ => ((P0_ k_ ∨ P2_2_ k_) ∨ w.heap.size ≤ k_) ∧ some k_ ≠ (v156 : Value).ownBlock ∧ k_ ≠ gb127)) (by (with_reducible repeat (first | apply Kd.V_alloc | apply Kd.V_drewN | apply Kd.V_drew)); exact Kd.V_mono HO0.out (fun _ hk => ⟨⟨hk.1.1.1, ⟨hk.2, hk.1.1.2⟩⟩, hk.1.2⟩)) hg hat)
                  have n1_ := Aside0.mk (Kd.V_afterv (ok := (fun k_ => ((P0_ k_ ∨ P2_2_ k_) ∨ w.heap.size ≤ k_) ∧ some k_ ≠ (v156 : Value).ownBlock ∧ k_ ≠ gb127)) (by (with_reducible repeat (first | apply Kd.V_alloc | apply Kd.V_drewN | apply Kd.V_drew)); exact Kd.V_mono HO2_2.out (fun _ hk => ⟨⟨hk.1.1.1, ⟨hk.2, hk.1.1.2⟩⟩, hk.1.2⟩)) hg hat)
                  have n2_ := Aside0.mk (blk_grown (g := gb127) (o := .cells #[.string a2_0, .string a2_1, .slice A2_2 l2_2.length c2_2] 41 (0, 0)) (by (with_reducible repeat (first | refine blk_drewN ?_ _ | refine blk_drew ?_ | refine blk_alloc ?_ _)); exact BK127.out) hg (Kd.N_away HO151.out (fun _ hk => hk.1.2)))
                  have n3_ := Aside0.mk (Kd.N_afterv (ok := (fun k_ => ((P0_ k_ ∨ P2_2_ k_) ∨ w.heap.size ≤ k_) ∧ k_ ≠ gb127)) (by (with_reducible repeat (first | apply Kd.N_alloc | apply Kd.N_drewN | apply Kd.N_drew)); exact Kd.N_mono HO157.out (fun _ hk => ⟨⟨hk.1, hk.2.2⟩, hk.2.1⟩)) hg hat)
                  have n4_ := Aside0.mk (hb)
                  have n5_ := Aside0.mk (ho)
                  clear HO0
                  clear HO2_2
                  clear BK127
                  clear HO157
                  clear HB
                  clear HO151
                  have HO0 := n0_
                  have HO2_2 := n1_
                  have BK127 := n2_
                  have HO157 := n3_
                  have HB := n4_
                  have HO154 := n5_
                  clear n0_ n1_ n2_ n3_ n4_ n5_
                  clear ho hb hg hat
                  refine hK.out _ _ ⟨(blk_cell BK127.out 0).trans rfl, (blk_cell BK127.out 1).trans rfl, (blk_cell BK127.out 2).trans rfl⟩ (fun hHeld => ?_)
                  clear hK K
                  refine norm_ (a' := ?_) ?_ ?_
                  rotate_left
                  · show Act.put _ (some 20) _ = _
                    simp only [Act.put, List.setIfInBounds_toArray, List.set_cons_zero, List.set_cons_succ, i64_w, i32_w]
                    rfl
                  exact norm_ (by simp only [putAll, Act.put, List.setIfInBounds_toArray, List.set_cons_zero, List.set_cons_succ]) (hCont (v150, v153, v156) _ ⟨hHeld, (by (with_reducible repeat (first | apply Kd.V_alloc | apply Kd.V_drewN | apply Kd.V_drew)); exact Kd.V_mono HO0.out (fun _ hk => ⟨hk.1.1, ⟨hk.2, ⟨hk.1.2.1, hk.1.2.2⟩⟩⟩)), (by (with_reducible repeat (first | apply Kd.N_alloc | apply Kd.N_drewN | apply Kd.N_drew)); exact HO154.out), (by (with_reducible repeat (first | apply Kd.N_alloc | apply Kd.N_drewN | apply Kd.N_drew)); exact Kd.N_mono HO157.out (fun _ hk => ⟨hk.1.1, ⟨hk.2, hk.1.2⟩⟩)), (by (with_reducible repeat (first | apply Kd.V_alloc | apply Kd.V_drewN | apply Kd.V_drew)); exact Kd.V_mono HO2_2.out (fun _ hk => ⟨hk.1.1, ⟨hk.2, ⟨hk.1.2.1, hk.1.2.2⟩⟩⟩)), (by (with_reducible repeat (first | refine blk_drewN ?_ _ | refine blk_drew ?_ | refine blk_alloc ?_ _)); exact BK127.out), (by repeat (first | (with_reducible first | exact HB.out | apply below_alloc | apply pw_below_drewN | apply below_drew1 | refine below_set ?_ GE127.out) | exact HB.out))⟩)
              · skip
                refine Kd.N_lit_step k41 _ 41 ?hg (N' := 22) ?hd (xs := ([(⟨a2_0, a2_1, l2_2⟩ : S41)] : List (S41))) (inner := [.string a2_0, .string a2_1, .slice A2_2 l2_2.length c2_2]) (ok := (fun k_ => ((P0_ k_ ∨ P2_2_ k_) ∨ w.heap.size ≤ k_) ∧ k_ ≠ gb127)) (okp := (fun k_ => ((P0_ k_ ∨ P2_2_ k_) ∨ w.heap.size ≤ k_) ∧ k_ ≠ gb127)) ?hr ?hp (fun _ hk => hk) ((show ∀ k_, w46.heap.size ≤ k_ → (fun k_ => ((P0_ k_ ∨ P2_2_ k_) ∨ w.heap.size ≤ k_) ∧ k_ ≠ gb127) k_ from fun k_ hk => ⟨(.inr (Nat.le_trans (below_size (by repeat (first | (with_reducible first | exact HB.out | apply below_alloc | apply pw_below_drewN | apply below_drew1 | refine below_set ?_ GE127.out) | exact HB.out))) hk)), Kd.freshB (g := gb127) (o := .cells #[.string a2_0, .string a2_1, .slice A2_2 l2_2.length c2_2] 41 (0, 0)) (by (with_reducible repeat (first | refine blk_drewN ?_ _ | refine blk_drew ?_ | refine blk_alloc ?_ _)); exact BK127.out) k_ hk⟩) _ (Nat.le_refl _)) (Below.refl _ _) (Nat.le_refl _) (by simp) ?_; (case hd => rfl); (case hg => rfl); (case hr => first | (go_simp; done) | (go_simp; rfl)); (case hp => exact (Reps.c3 (show Kd.FK k41 _ _ (⟨a2_0, a2_1, l2_2⟩ : S41) [.string a2_0, .string a2_1, .slice A2_2 l2_2.length c2_2] from (k41_mkF _ _ (⟨a2_0, a2_1, l2_2⟩ : S41) (Kd.V_reads' (Kd.V_mono (ok' := (fun k_ => ((P0_ k_ ∨ P2_2_ k_) ∨ w.heap.size ≤ k_) ∧ k_ ≠ gb127)) (HO2_2.out) (fun k_ hk => ⟨hk.1, hk.2⟩))).2.1 (Kd.V_F (Kd.V_mono (ok' := (fun k_ => ((P0_ k_ ∨ P2_2_ k_) ∨ w.heap.size ≤ k_) ∧ k_ ≠ gb127)) (HO2_2.out) (fun k_ hk => ⟨hk.1, hk.2⟩))))) (Reps.none _ _)))
                intro v156 w47 ho48 hb hg_ hnew_
                clear hg_ hnew_
                (first | rw [← Ny155.out] at ho48 | (simp only [Int.reduceToNat] at ho48; rw [← Ny155.out] at ho48))
                have n0_ := Aside0.mk (Kd.V_elder' (by (with_reducible repeat (first | apply Kd.V_alloc | apply Kd.V_drewN | apply Kd.V_drew)); exact HO0.out) (Kd.N_base ho48) hb)
                have n1_ := Aside0.mk (Kd.V_elder' (by (with_reducible repeat (first | apply Kd.V_alloc | apply Kd.V_drewN | apply Kd.V_drew)); exact HO2_2.out) (Kd.N_base ho48) hb)
                have n2_ := Aside0.mk (Kd.N_lower ho48 (below_size (by repeat (first | (with_reducible first | exact HB.out | apply below_alloc | apply pw_below_drewN | apply below_drew1 | refine below_set ?_ GE127.out) | exact HB.out))))
                have n3_ := Aside0.mk (blk_below (g := gb127) (o := .cells #[.string a2_0, .string a2_1, .slice A2_2 l2_2.length c2_2] 41 (0, 0)) (by (with_reducible repeat (first | refine blk_drewN ?_ _ | refine blk_drew ?_ | refine blk_alloc ?_ _)); exact BK127.out) hb)
                have n4_ := Aside0.mk (below_step (by repeat (first | (with_reducible first | exact HB.out | apply below_alloc | apply pw_below_drewN | apply below_drew1 | refine below_set ?_ GE127.out) | exact HB.out)) hb)
                clear HO0
                clear HO2_2
                clear BK127
                clear HB
                have HO0 := n0_
                have HO2_2 := n1_
                have HO157 := n2_
                have BK127 := n3_
                have HB := n4_
                clear n0_ n1_ n2_ n3_ n4_
                clear hb ho48
                refine hK.out _ _ ⟨(blk_cell BK127.out 0).trans rfl, (blk_cell BK127.out 1).trans rfl, (blk_cell BK127.out 2).trans rfl⟩ (fun hHeld => ?_)
                clear hK K
                refine norm_ (a' := ?_) ?_ ?_
                rotate_left
                · show Act.put _ (some 22) _ = _
                  simp only [Act.put, List.setIfInBounds_toArray, List.set_cons_zero, List.set_cons_succ, i64_w, i32_w]
                  rfl
                refine one_ (i := 0) (N := some 18) #[true, true, false, true, true, false, false] rfl rfl (by kernel_rfl) (by decide) (fun K hK => ?_)
                refine Kd.N_lit_step k41 _ 41 ?hg (N' := 18) ?hd (xs := ([] : List (S41))) (inner := []) (ok := (fun k_ => ((P0_ k_ ∨ P2_2_ k_) ∨ w.heap.size ≤ k_) ∧ some k_ ≠ (v156 : Value).ownBlock ∧ k_ ≠ gb127)) (okp := (fun k_ => ((P0_ k_ ∨ P2_2_ k_) ∨ w.heap.size ≤ k_) ∧ some k_ ≠ (v156 : Value).ownBlock ∧ k_ ≠ gb127)) ?hr ?hp (fun _ hk => hk) ((show ∀ k_, w47.heap.size ≤ k_ → (fun k_ => ((P0_ k_ ∨ P2_2_ k_) ∨ w.heap.size ≤ k_) ∧ some k_ ≠ (v156 : Value).ownBlock ∧ k_ ≠ gb127) k_ from fun k_ hk => ⟨(.inr (Nat.le_trans (below_size (by repeat (first | (with_reducible first | exact HB.out | apply below_alloc | apply pw_below_drewN | apply below_drew1 | refine below_set ?_ GE127.out) | exact HB.out))) hk)), Kd.fresh' (Kd.N_lt (by (with_reducible repeat (first | apply Kd.N_alloc | apply Kd.N_drewN | apply Kd.N_drew)); exact HO157.out)) k_ hk, Kd.freshB (g := gb127) (o := .cells #[.string a2_0, .string a2_1, .slice A2_2 l2_2.length c2_2] 41 (0, 0)) (by (with_reducible repeat (first | refine blk_drewN ?_ _ | refine blk_drew ?_ | refine blk_alloc ?_ _)); exact BK127.out) k_ hk⟩) _ (Nat.le_refl _)) (Below.refl _ _) (Nat.le_refl _) (by simp) ?_; (case hd => rfl); (case hg => rfl); (case hr => first | (go_simp; done) | (go_simp; rfl)); (case hp => exact (Reps.none _ _))
                intro v150 w49 ho50 hb hg_ hnew_
                clear hg_ hnew_
                (first | rw [← Ny149.out] at ho50 | (simp only [Int.reduceToNat] at ho50; rw [← Ny149.out] at ho50))
                have n0_ := Aside0.mk (Kd.V_elder' (by (with_reducible repeat (first | apply Kd.V_alloc | apply Kd.V_drewN | apply Kd.V_drew)); exact HO0.out) (Kd.N_base ho50) hb)
                have n1_ := Aside0.mk (Kd.V_elder' (by (with_reducible repeat (first | apply Kd.V_alloc | apply Kd.V_drewN | apply Kd.V_drew)); exact HO2_2.out) (Kd.N_base ho50) hb)
                have n2_ := Aside0.mk (Kd.N_elder' (by (with_reducible repeat (first | apply Kd.N_alloc | apply Kd.N_drewN | apply Kd.N_drew)); exact HO157.out) (Kd.N_base ho50) hb)
                have n3_ := Aside0.mk (Kd.N_lower ho50 (below_size (by repeat (first | (with_reducible first | exact HB.out | apply below_alloc | apply pw_below_drewN | apply below_drew1 | refine below_set ?_ GE127.out) | exact HB.out))))
                have n4_ := Aside0.mk (blk_below (g := gb127) (o := .cells #[.string a2_0, .string a2_1, .slice A2_2 l2_2.length c2_2] 41 (0, 0)) (by (with_reducible repeat (first | refine blk_drewN ?_ _ | refine blk_drew ?_ | refine blk_alloc ?_ _)); exact BK127.out) hb)
                have n5_ := Aside0.mk (below_step (by repeat (first | (with_reducible first | exact HB.out | apply below_alloc | apply pw_below_drewN | apply below_drew1 | refine below_set ?_ GE127.out) | exact HB.out)) hb)
                clear HO0
                clear HO2_2
                clear HO157
                clear BK127
                clear HB
                have HO0 := n0_
                have HO2_2 := n1_
                have HO157 := n2_
                have HO151 := n3_
                have BK127 := n4_
                have HB := n5_
                clear n0_ n1_ n2_ n3_ n4_ n5_
                clear hb ho50
                refine hK.out _ _ ⟨(blk_cell BK127.out 0).trans rfl, (blk_cell BK127.out 1).trans rfl, (blk_cell BK127.out 2).trans rfl⟩ (fun hHeld => ?_)
                clear hK K
                refine norm_ (a' := ?_) ?_ ?_
                rotate_left
                · show Act.put _ (some 18) _ = _
                  simp only [Act.put, List.setIfInBounds_toArray, List.set_cons_zero, List.set_cons_succ, i64_w, i32_w]
                  rfl
                refine one_ (i := 2) (N := some 20) #[true, true, true, true, true, false, false] rfl rfl (by kernel_rfl) (by decide) (fun K hK => ?_)
                refine Kd.N_append_rows_step k41 (w0 := w) w.heap.size (by rfl) (.tmp 18) (.tmp 19) 37 41 (.agg #[(.string ⟨#[]⟩), (.string ⟨#[]⟩), (.slice none 0 0)]) 56 rfl Try.underlying37 info41 rfl (by decide) (by omega) v150 y149 l0 _ _ _ (fun k_ => ((P0_ k_ ∨ P2_2_ k_) ∨ w.heap.size ≤ k_) ∧ some k_ ≠ (v156 : Value).ownBlock ∧ k_ ≠ gb127) (fun k_ => ((fun k_ => ((P0_ k_ ∨ P2_2_ k_) ∨ w.heap.size ≤ k_) ∧ some k_ ≠ (v156 : Value).ownBlock ∧ k_ ≠ gb127)) k_ ∧ some k_ ≠ (v150 : Value).ownBlock) rfl rfl ?aO ?aR (fun _ hk => hk) ?aF ?aB ?aS ?aL ?_
                (case aR => exact (by skip; exact Kd.V_F (Kd.V_mono (ok' := (fun k_ => ((fun k_ => ((P0_ k_ ∨ P2_2_ k_) ∨ w.heap.size ≤ k_) ∧ some k_ ≠ (v156 : Value).ownBlock ∧ k_ ≠ gb127)) k_ ∧ some k_ ≠ (v150 : Value).ownBlock)) (HO0.out) (fun k_ hk => ⟨⟨hk.1.1.1, ⟨hk.1.2, hk.1.1.2⟩⟩, hk.2⟩))))
                (case aB => exact (by repeat (first | (with_reducible first | exact HB.out | apply below_alloc | apply pw_below_drewN | apply below_drew1 | refine below_set ?_ GE127.out) | exact HB.out)))
                (case aF => exact (fun k_ hk => ⟨(.inr (Nat.le_trans (below_size (by repeat (first | (with_reducible first | exact HB.out | apply below_alloc | apply pw_below_drewN | apply below_drew1 | refine below_set ?_ GE127.out) | exact HB.out))) hk)), Kd.fresh' (Kd.N_lt (by (with_reducible repeat (first | apply Kd.N_alloc | apply Kd.N_drewN | apply Kd.N_drew)); exact HO157.out)) k_ hk, Kd.freshB (g := gb127) (o := .cells #[.string a2_0, .string a2_1, .slice A2_2 l2_2.length c2_2] 41 (0, 0)) (by (with_reducible repeat (first | refine blk_drewN ?_ _ | refine blk_drew ?_ | refine blk_alloc ?_ _)); exact BK127.out) k_ hk⟩))
                (case aO => exact (by (with_reducible repeat (first | apply Kd.N_alloc | apply Kd.N_drewN | apply Kd.N_drew)); exact HO151.out))
                (case aS => exact (below_size (by repeat (first | (with_reducible first | exact HB.out | apply below_alloc | apply pw_below_drewN | apply below_drew1 | refine below_set ?_ GE127.out) | exact HB.out))))
                (case aL => have := LMc40.out; omega)
                intro v153 w51 ho hb hg hat
                rw [← Ny152.out] at ho
                have n0_ := Aside0.mk (Kd.V_afterv (ok := (fun k_ => ((P0_ k_ ∨ P2_2_ k_) ∨ w.heap.size ≤ k_) ∧ some k_ ≠ (v156 : Value).ownBlock ∧ k_ ≠ gb127)) (by (with_reducible repeat (first | apply Kd.V_alloc | apply Kd.V_drewN | apply Kd.V_drew)); exact Kd.V_mono HO0.out (fun _ hk => ⟨⟨hk.1.1.1, ⟨hk.1.2, hk.1.1.2⟩⟩, hk.2⟩)) hg hat)
                have n1_ := Aside0.mk (Kd.V_afterv (ok := (fun k_ => ((P0_ k_ ∨ P2_2_ k_) ∨ w.heap.size ≤ k_) ∧ some k_ ≠ (v156 : Value).ownBlock ∧ k_ ≠ gb127)) (by (with_reducible repeat (first | apply Kd.V_alloc | apply Kd.V_drewN | apply Kd.V_drew)); exact Kd.V_mono HO2_2.out (fun _ hk => ⟨⟨hk.1.1.1, ⟨hk.1.2, hk.1.1.2⟩⟩, hk.2⟩)) hg hat)
                have n2_ := Aside0.mk (blk_grown (g := gb127) (o := .cells #[.string a2_0, .string a2_1, .slice A2_2 l2_2.length c2_2] 41 (0, 0)) (by (with_reducible repeat (first | refine blk_drewN ?_ _ | refine blk_drew ?_ | refine blk_alloc ?_ _)); exact BK127.out) hg (Kd.N_away HO151.out (fun _ hk => hk.2.2)))
                have n3_ := Aside0.mk (Kd.N_afterv (ok := (fun k_ => ((P0_ k_ ∨ P2_2_ k_) ∨ w.heap.size ≤ k_) ∧ k_ ≠ gb127)) (by (with_reducible repeat (first | apply Kd.N_alloc | apply Kd.N_drewN | apply Kd.N_drew)); exact HO157.out) hg hat)
                have n4_ := Aside0.mk (hb)
                have n5_ := Aside0.mk (ho)
                clear HO0
                clear HO2_2
                clear BK127
                clear HO157
                clear HB
                clear HO151
                have HO0 := n0_
                have HO2_2 := n1_
                have BK127 := n2_
                have HO157 := n3_
                have HB := n4_
                have HO154 := n5_
                clear n0_ n1_ n2_ n3_ n4_ n5_
                clear ho hb hg hat
                refine hK.out _ _ ⟨(blk_cell BK127.out 0).trans rfl, (blk_cell BK127.out 1).trans rfl, (blk_cell BK127.out 2).trans rfl⟩ (fun hHeld => ?_)
                clear hK K
                refine norm_ (a' := ?_) ?_ ?_
                rotate_left
                · show Act.put _ (some 20) _ = _
                  simp only [Act.put, List.setIfInBounds_toArray, List.set_cons_zero, List.set_cons_succ, i64_w, i32_w]
                  rfl
                exact norm_ (by simp only [putAll, Act.put, List.setIfInBounds_toArray, List.set_cons_zero, List.set_cons_succ]) (hCont (v150, v153, v156) _ ⟨hHeld, (by (with_reducible repeat (first | apply Kd.V_alloc | apply Kd.V_drewN | apply Kd.V_drew)); exact Kd.V_mono HO0.out (fun _ hk => ⟨hk.1.1, ⟨hk.2, ⟨hk.1.2.1, hk.1.2.2⟩⟩⟩)), (by (with_reducible repeat (first | apply Kd.N_alloc | apply Kd.N_drewN | apply Kd.N_drew)); exact HO154.out), (by (with_reducible repeat (first | apply Kd.N_alloc | apply Kd.N_drewN | apply Kd.N_drew)); exact Kd.N_mono HO157.out (fun _ hk => ⟨hk.1.1, ⟨hk.2, hk.1.2⟩⟩)), (by (with_reducible repeat (first | apply Kd.V_alloc | apply Kd.V_drewN | apply Kd.V_drew)); exact Kd.V_mono HO2_2.out (fun _ hk => ⟨hk.1.1, ⟨hk.2, ⟨hk.1.2.1, hk.1.2.2⟩⟩⟩)), (by (with_reducible repeat (first | refine blk_drewN ?_ _ | refine blk_drew ?_ | refine blk_alloc ?_ _)); exact BK127.out), (by repeat (first | (with_reducible first | exact HB.out | apply below_alloc | apply pw_below_drewN | apply below_drew1 | refine below_set ?_ GE127.out) | exact HB.out))⟩)
            rintro ⟨v150, v153, v156⟩ w52 ⟨hS_, h0_, h1_, h2_, h3_, h4_, h5_⟩
            have n0_ : Aside0 (Kd.V k41 41 w52 w.heap.size (fun k_ => ((P0_ k_ ∨ P2_2_ k_) ∨ w.heap.size ≤ k_) ∧ some k_ ≠ (v153 : Value).ownBlock ∧ some k_ ≠ (v156 : Value).ownBlock ∧ k_ ≠ gb127) (.slice A0 l0.length c0) l0) := ⟨h0_⟩
            have n1_ : Aside0 (Kd.N k41 41 w52 w.heap.size (fun k_ => ((P0_ k_ ∨ P2_2_ k_) ∨ w.heap.size ≤ k_) ∧ some k_ ≠ (v156 : Value).ownBlock ∧ k_ ≠ gb127) v153 y152) := ⟨h1_⟩
            have n2_ : Aside0 (Kd.N k41 41 w52 w.heap.size (fun k_ => ((P0_ k_ ∨ P2_2_ k_) ∨ w.heap.size ≤ k_) ∧ some k_ ≠ (v153 : Value).ownBlock ∧ k_ ≠ gb127) v156 y155) := ⟨h2_⟩
            have n3_ : Aside0 (Kd.V Kd.string 9 w52 w.heap.size (fun k_ => ((P0_ k_ ∨ P2_2_ k_) ∨ w.heap.size ≤ k_) ∧ some k_ ≠ (v153 : Value).ownBlock ∧ some k_ ≠ (v156 : Value).ownBlock ∧ k_ ≠ gb127) (.slice A2_2 l2_2.length c2_2) l2_2) := ⟨h3_⟩
            have n4_ : Aside0 (w52.heap[gb127]? = some (.cells #[.string a2_0, .string a2_1, .slice A2_2 l2_2.length c2_2] 41 (0, 0))) := ⟨h4_⟩
            have n5_ : Aside0 (Below w.heap.size w w52) := ⟨h5_⟩
            clear HO0
            clear HO2_2
            clear BK127
            clear HB
            clear h0_ h1_ h2_ h3_ h4_ h5_
            have HO0 := n0_
            have HO154 := n1_
            have HO157 := n2_
            have HO2_2 := n3_
            have BK127 := n4_
            have HB := n5_
            clear n0_ n1_ n2_ n3_ n4_ n5_
            have hHeld : w52.cell? ⟨gb127, 0, none⟩ = some (.string a2_0) ∧ w52.cell? ⟨gb127, 1, none⟩ = some (.string a2_1) ∧ w52.cell? ⟨gb127, 2, none⟩ = some (.slice A2_2 l2_2.length c2_2) := hS_
            obtain ⟨Ao54, co54, eo54⟩ := Kd.N_slice HO157.out
            (first | subst eo54 | (injection eo54 with f1_ f2_ f3_; have f4_ := f1_.symm; have f5_ := f3_.symm; clear f1_ f2_ f3_; subst f4_; subst f5_))
            refine norm_ (a' := ?_) ?_ ?_
            rotate_left
            · simp only [putAll, Act.put, List.setIfInBounds_toArray, List.set_cons_zero, List.set_cons_succ]
              rfl
            refine one_ (i := 5) (N := some 23) #[true, true, true, true, true, true, false] rfl rfl (by kernel_rfl) (by decide) (fun K hK => ?_)
            refine Kd.N_append_rows_step k41 (w0 := w) w.heap.size (by rfl) (.tmp 20) (.tmp 22) 37 41 (.agg #[(.string ⟨#[]⟩), (.string ⟨#[]⟩), (.slice none 0 0)]) 56 rfl Try.underlying37 info41 rfl (by decide) (by omega) v153 y152 y155 _ _ _ (fun k_ => ((P0_ k_ ∨ P2_2_ k_) ∨ w.heap.size ≤ k_) ∧ k_ ≠ gb127) (fun k_ => ((fun k_ => ((P0_ k_ ∨ P2_2_ k_) ∨ w.heap.size ≤ k_) ∧ k_ ≠ gb127)) k_ ∧ some k_ ≠ (v153 : Value).ownBlock) rfl rfl ?aO ?aR (fun _ hk => hk) ?aF ?aB ?aS ?aL ?_
            (case aR => exact (by skip; exact Kd.N_F (Kd.N_mono (ok' := (fun k_ => ((fun k_ => ((P0_ k_ ∨ P2_2_ k_) ∨ w.heap.size ≤ k_) ∧ k_ ≠ gb127)) k_ ∧ some k_ ≠ (v153 : Value).ownBlock)) (HO157.out) (fun k_ hk => ⟨⟨hk.1, hk.2.2⟩, hk.2.1⟩))))
            (case aB => exact (by repeat (first | (with_reducible first | exact HB.out | apply below_alloc | apply pw_below_drewN | apply below_drew1 | refine below_set ?_ GE127.out) | exact HB.out)))
            (case aF => exact (fun k_ hk => ⟨(.inr (Nat.le_trans (below_size (by repeat (first | (with_reducible first | exact HB.out | apply below_alloc | apply pw_below_drewN | apply below_drew1 | refine below_set ?_ GE127.out) | exact HB.out))) hk)), Kd.freshB (g := gb127) (o := .cells #[.string a2_0, .string a2_1, .slice A2_2 l2_2.length c2_2] 41 (0, 0)) (by (with_reducible repeat (first | refine blk_drewN ?_ _ | refine blk_drew ?_ | refine blk_alloc ?_ _)); exact BK127.out) k_ hk⟩))
            (case aO => exact (by (with_reducible repeat (first | apply Kd.N_alloc | apply Kd.N_drewN | apply Kd.N_drew)); exact Kd.N_mono HO154.out (fun _ hk => ⟨hk.1, hk.2.2⟩)))
            (case aS => exact (below_size (by repeat (first | (with_reducible first | exact HB.out | apply below_alloc | apply pw_below_drewN | apply below_drew1 | refine below_set ?_ GE127.out) | exact HB.out))))
            (case aL => have := LMc41.out; omega)
            intro v159 w53 ho hb hg hat
            rw [← Ny158.out] at ho
            have n0_ := Aside0.mk (Kd.V_afterv (ok := (fun k_ => ((P0_ k_ ∨ P2_2_ k_) ∨ w.heap.size ≤ k_) ∧ some k_ ≠ (.slice Ao54 y155.length co54 : Value).ownBlock ∧ k_ ≠ gb127)) (by (with_reducible repeat (first | apply Kd.V_alloc | apply Kd.V_drewN | apply Kd.V_drew)); exact Kd.V_mono HO0.out (fun _ hk => ⟨⟨hk.1, ⟨hk.2.2.1, hk.2.2.2⟩⟩, hk.2.1⟩)) hg hat)
            have n1_ := Aside0.mk (Kd.V_afterv (ok := (fun k_ => ((P0_ k_ ∨ P2_2_ k_) ∨ w.heap.size ≤ k_) ∧ some k_ ≠ (.slice Ao54 y155.length co54 : Value).ownBlock ∧ k_ ≠ gb127)) (by (with_reducible repeat (first | apply Kd.V_alloc | apply Kd.V_drewN | apply Kd.V_drew)); exact Kd.V_mono HO2_2.out (fun _ hk => ⟨⟨hk.1, ⟨hk.2.2.1, hk.2.2.2⟩⟩, hk.2.1⟩)) hg hat)
            have n2_ := Aside0.mk (blk_grown (g := gb127) (o := .cells #[.string a2_0, .string a2_1, .slice A2_2 l2_2.length c2_2] 41 (0, 0)) (by (with_reducible repeat (first | refine blk_drewN ?_ _ | refine blk_drew ?_ | refine blk_alloc ?_ _)); exact BK127.out) hg (Kd.N_away HO154.out (fun _ hk => hk.2.2)))
            have n3_ := Aside0.mk (Kd.N_afterv (ok := (fun k_ => ((P0_ k_ ∨ P2_2_ k_) ∨ w.heap.size ≤ k_) ∧ k_ ≠ gb127)) (by (with_reducible repeat (first | apply Kd.N_alloc | apply Kd.N_drewN | apply Kd.N_drew)); exact Kd.N_mono HO157.out (fun _ hk => ⟨⟨hk.1, hk.2.2⟩, hk.2.1⟩)) hg hat)
            have n4_ := Aside0.mk (hb)
            have n5_ := Aside0.mk (ho)
            clear HO0
            clear HO2_2
            clear BK127
            clear HO157
            clear HB
            clear HO154
            have HO0 := n0_
            have HO2_2 := n1_
            have BK127 := n2_
            have HO157 := n3_
            have HB := n4_
            have HO160 := n5_
            clear n0_ n1_ n2_ n3_ n4_ n5_
            clear ho hb hg hat
            refine hK.out _ _ ⟨(blk_cell BK127.out 0).trans rfl, (blk_cell BK127.out 1).trans rfl, (blk_cell BK127.out 2).trans rfl⟩ (fun hHeld => ?_)
            clear hK K
            refine norm_ (a' := ?_) ?_ ?_
            rotate_left
            · show Act.put _ (some 23) _ = _
              simp only [Act.put, List.setIfInBounds_toArray, List.set_cons_zero, List.set_cons_succ, i64_w, i32_w]
              rfl
            refine pure_ (i := 6) (N := some 8) (v := ?_) (a' := ?_) #[true, true, true, true, true, true, true] rfl rfl (by kernel_rfl) (fun _ _ _ h => h) (Or.inl ⟨by rfl, ?_⟩) ?_ ?_
            rotate_left
            · intro w'
              go_simp
              with_reducible rfl
            rotate_left
            · simp only [Act.put, List.setIfInBounds_toArray, List.set_cons_zero, List.set_cons_succ, i64_w, i32_w]
              rfl
            refine done_ (by kernel_rfl) ?_
            obtain ⟨Ao55, co55, eo55⟩ := Kd.N_slice HO160.out
            subst eo55
            have q56 : (1 : Int) ≤ ((y158.length : Int) : Int) := of_decide_eq_true (by first | (with_reducible assumption) | assumption)
            obtain ⟨i056, hi056, _, hsz56, _⟩ := info_parts info41
            have hroom56 : y158.length ≤ co55 := (Kd.N_reads' HO160.out).2.1
            have hC56 : Kd.F k41 _ _ Ao55 y158.length y158 := (Kd.V_at (base := w.heap.size) (Kd.N_V HO160.out)).2.2
            have hcut56 := cut_from (P := Try.prog) 37 41 .i64 Try.underlying37 hi056 3 hsz56 Ao55 y158.length co55 1 (by omega) q56
            have hr56 := Kd.F_cut (m := (1 : Int).toNat) (c := co55) hC56 (by omega) hroom56
            obtain ⟨A56, hA56⟩ : ∃ A1, A1 = (if co55 = (1 : Int).toNat then Ao55 else (Ao55 : Option Addr).map (·.add ((1 : Int).toNat * 3))) := ⟨_, rfl⟩
            obtain ⟨c56, hc56⟩ : ∃ c1, c1 = co55 - (1 : Int).toNat := ⟨_, rfl⟩
            have hy56 : y161.length = y158.length - (1 : Int).toNat := (by rw [Ny161.out, List.length_drop] <;> omega)
            rw [show (y158).drop (1 : Int).toNat = y161 from Ny161.out.symm] at hr56
            replace hr56 : Kd.F k41 _ _ A56 y161.length y161 := (by rw [hA56]; exact hr56)
            rw [← hy56, ← hA56, ← hc56] at hcut56
            have HO165 := Aside0.mk (show Kd.V k41 41 _ w.heap.size _ (.slice A56 y161.length c56) y161 from Kd.V_mk (by rw [hy56, hc56]; exact Nat.sub_le_sub_right hroom56 _) hr56)
            have HC165 := Aside0.mk (show y161.length ≤ c56 from by rw [hy56, hc56]; exact Nat.sub_le_sub_right hroom56 _)
            clear hr56 hC56 hroom56 hi056 hsz56 hc56
            have KY56 := Aside0.mk hy56
            have KA56 := Aside0.mk hA56
            clear hy56 hA56
            replace q56 := eq_true q56
            try go_wp2
            go_ret
            exact ⟨_, by first | rfl | (simp [errW_none, errW_some] <;> rfl) | (simp [*, errW_none, errW_some] <;> rfl), by (with_reducible repeat (first | apply Kd.V_alloc | apply Kd.V_drewN | apply Kd.V_drew)); exact Kd.V_mono HO165.out (fun _ hk => hk.1), by repeat (first | (with_reducible first | exact HB.out | apply below_alloc | apply pw_below_drewN | apply below_drew1 | refine below_set ?_ GE127.out) | exact HB.out)⟩
          · rw [if_neg c43] at H
            exact absurd H (by simp)
        · rw [if_neg c42] at H
          have c42b0 : decide (a1 < (y158.length : Int)) = false := decide_eq_false c42
          clear c42
          obtain rfl := Option.some.inj H
          go_enter Try.func15, Try.ntmps15
          try go_wp2_with (first | ((with_reducible refine gate_dst (N := 5) rfl ?_); refine box_event ?hg (N := 5) ?hd (cs := #[.string a2_0, .string a2_1, .slice A2_2 l2_2.length c2_2]) (t := 41) ?hr ?_; (case hd => rfl); (case hg => rfl); (case hr => first | (go_simp; done) | (go_simp; rfl)); intro gb127 hg w57 hbox hb; have n0_ := Aside0.mk (Kd.V_below (Kd.V_elderB (by (with_reducible repeat (first | apply Kd.V_alloc | apply Kd.V_drewN | apply Kd.V_drew)); exact HO0.out) gb127 (Nat.le_of_eq hg.symm)) hb); have n1_ := Aside0.mk (Kd.V_below (Kd.V_elderB (by (with_reducible repeat (first | apply Kd.V_alloc | apply Kd.V_drewN | apply Kd.V_drew)); exact HO2_2.out) gb127 (Nat.le_of_eq hg.symm)) hb); have n2_ := Aside0.mk (below_step (by repeat (first | (with_reducible first | exact HB.out | apply below_alloc | apply pw_below_drewN | apply below_drew1) | exact HB.out)) hb); have n3_ := Aside0.mk (hbox); have n4_ := Aside0.mk ((by rw [hg]; exact (below_size (by repeat (first | (with_reducible first | exact HB.out | apply below_alloc | apply pw_below_drewN | apply below_drew1) | exact HB.out))) : w.heap.size ≤ gb127)); have n5_ := Aside0.mk ((by rw [hg]; exact (below_size (by repeat (first | (with_reducible first | exact HB.out | apply below_alloc | apply pw_below_drewN | apply below_drew1) | exact HB.out))) : w.heap.size ≤ gb127)); clear HO0; clear HO2_2; clear HB; have HO0 := n0_; have HO2_2 := n1_; have HB := n2_; have BK127 := n3_; have GW127 := n4_; have GE127 := n5_; clear n0_ n1_ n2_ n3_ n4_ n5_; clear hb hbox hg; have hcz58_0 : w57.cell? ⟨gb127, 0, none⟩ = some (.string a2_0) := (blk_cell BK127.out 0).trans rfl; have hcz58_1 : w57.cell? ⟨gb127, 1, none⟩ = some (.string a2_1) := (blk_cell BK127.out 1).trans rfl; have hcz58_2 : w57.cell? ⟨gb127, 2, none⟩ = some (.slice A2_2 l2_2.length c2_2) := (blk_cell BK127.out 2).trans rfl; have hfz58_0 := blk_frozen BK127.out 0; have hfz58_1 := blk_frozen BK127.out 1; have hfz58_2 := blk_frozen BK127.out 2) | ((with_reducible refine gate_callee (f := 17) rfl ?_); refine goesL_ (some 12) rfl rfl Try.func17 (by kernel_rfl) rfl #[.slice A0 l0.length c0, .string a2_0] rfl (by (try simp only [List.map_toArray, List.map_cons, List.map_nil]); first | done | rfl | (simp only [List.length_drop, List.length_take]; rfl)) ?_; (with_reducible refine (ciceroneref29_At.calls k _ _ l0 a2_0 t128 _ ?side1 ?side2 A4.out).mono ?_); (case side1 => repeat (first | exact (Kd.V_reads' HO0.out).2.2 | (with_reducible refine Kd.C_alloc ?_ _) | (with_reducible refine Kd.C_drewN ?_ _) | (with_reducible refine Kd.C_drew ?_))); (case side2 => exact (Kd.V_reads' HO0.out).2.1); rintro e w' ⟨rfl, ⟨nd, rfl⟩⟩; refine ⟨_, rfl, ?_⟩))
          (try (rw [drewN_self w57]; generalize hq_ : World.drewN w57 _ = w57; have n0_ : Aside0 (Kd.V k41 41 w57 w.heap.size (fun k_ => ((P0_ k_ ∨ P2_2_ k_) ∨ w.heap.size ≤ k_) ∧ k_ ≠ gb127) (.slice A0 l0.length c0) l0) := ⟨by rw [← hq_]; exact (by (with_reducible repeat (first | apply Kd.V_alloc | apply Kd.V_drewN | apply Kd.V_drew)); exact HO0.out)⟩; have n1_ : Aside0 (Kd.V Kd.string 9 w57 w.heap.size (fun k_ => ((P0_ k_ ∨ P2_2_ k_) ∨ w.heap.size ≤ k_) ∧ k_ ≠ gb127) (.slice A2_2 l2_2.length c2_2) l2_2) := ⟨by rw [← hq_]; exact (by (with_reducible repeat (first | apply Kd.V_alloc | apply Kd.V_drewN | apply Kd.V_drew)); exact HO2_2.out)⟩; have n2_ : Aside0 (w57.heap[gb127]? = some (.cells #[.string a2_0, .string a2_1, .slice A2_2 l2_2.length c2_2] 41 (0, 0))) := ⟨by rw [← hq_]; exact (by (with_reducible repeat (first | refine blk_drewN ?_ _ | refine blk_drew ?_ | refine blk_alloc ?_ _)); exact BK127.out)⟩; have n3_ : Aside0 (Below w.heap.size w w57) := ⟨by rw [← hq_]; exact (by repeat (first | (with_reducible first | exact HB.out | apply below_alloc | apply pw_below_drewN | apply below_drew1 | refine below_set ?_ GE127.out) | exact HB.out))⟩; clear HO0 HO2_2 BK127 HB hq_; have HO0 := n0_; have HO2_2 := n1_; have BK127 := n2_; have HB := n3_; clear n0_ n1_ n2_ n3_))
          have n0_ := Aside0.mk (Kd.V_drew HO0.out)
          have n1_ := Aside0.mk (Kd.V_drew HO2_2.out)
          have n2_ := Aside0.mk (blk_drew BK127.out)
          have n3_ := Aside0.mk (below_drew1 HB.out)
          clear HO0
          clear HO2_2
          clear BK127
          clear HB
          have HO0 := n0_
          have HO2_2 := n1_
          have BK127 := n2_
          have HB := n3_
          clear n0_ n1_ n2_ n3_
          refine start_ (n := 7) (S := fun w' => w'.cell? ⟨gb127, 0, none⟩ = some (.string a2_0) ∧ w'.cell? ⟨gb127, 1, none⟩ = some (.string a2_1) ∧ w'.cell? ⟨gb127, 2, none⟩ = some (.slice A2_2 l2_2.length c2_2)) (ds := []) #[false, false, false, false, false, false, false] (by kernel_rfl) rfl rfl ⟨(blk_cell BK127.out 0).trans rfl, (blk_cell BK127.out 1).trans rfl, (blk_cell BK127.out 2).trans rfl⟩ (fun hHeld => ?_)
          generalize w57.drew = w59 at HO0 HO2_2 BK127 HB hHeld ⊢
          refine pure_ (i := 1) (N := some 19) (v := ?_) (a' := ?_) #[false, true, false, false, false, false, false] rfl rfl (by kernel_rfl) (fun _ _ _ h => h) (Or.inl ⟨by rfl, ?_⟩) ?_ ?_
          rotate_left
          · intro w'
            go_simp
            with_reducible rfl
          rotate_left
          · simp only [Act.put, List.setIfInBounds_toArray, List.set_cons_zero, List.set_cons_succ, i64_w, i32_w]
            rfl
          refine take_ (i := 3) (N := some 21) (v := ?_) (a' := ?_) #[false, true, false, true, false, false, false] rfl rfl (by kernel_rfl) (fun _ _ _ h => h) (Or.inl ⟨by rfl, ?_⟩) hHeld ?_ ?_
          rotate_left
          · rintro w' ⟨s0, s1, s2⟩
            go_simp
            with_reducible rfl
          rotate_left
          · simp only [Act.put, List.setIfInBounds_toArray, List.set_cons_zero, List.set_cons_succ, i64_w, i32_w]
            rfl
          refine join_ (σ := Value × Value × Value) 2 #[true, true, true, true, true, false, false] (fun s_ => [(18, s_.1), (20, s_.2.1), (22, s_.2.2)]) (fun s_ w' => (w'.cell? ⟨gb127, 0, none⟩ = some (.string a2_0) ∧ w'.cell? ⟨gb127, 1, none⟩ = some (.string a2_1) ∧ w'.cell? ⟨gb127, 2, none⟩ = some (.slice A2_2 l2_2.length c2_2)) ∧ (Kd.V k41 41 w' w.heap.size (fun k_ => ((P0_ k_ ∨ P2_2_ k_) ∨ w.heap.size ≤ k_) ∧ some k_ ≠ (s_.2.1 : Value).ownBlock ∧ some k_ ≠ (s_.2.2 : Value).ownBlock ∧ k_ ≠ gb127) (.slice A0 l0.length c0) l0) ∧ (Kd.N k41 41 w' w.heap.size (fun k_ => ((P0_ k_ ∨ P2_2_ k_) ∨ w.heap.size ≤ k_) ∧ some k_ ≠ (s_.2.2 : Value).ownBlock ∧ k_ ≠ gb127) s_.2.1 y152) ∧ (Kd.N k41 41 w' w.heap.size (fun k_ => ((P0_ k_ ∨ P2_2_ k_) ∨ w.heap.size ≤ k_) ∧ some k_ ≠ (s_.2.1 : Value).ownBlock ∧ k_ ≠ gb127) s_.2.2 y155) ∧ (Kd.V Kd.string 9 w' w.heap.size (fun k_ => ((P0_ k_ ∨ P2_2_ k_) ∨ w.heap.size ≤ k_) ∧ some k_ ≠ (s_.2.1 : Value).ownBlock ∧ some k_ ≠ (s_.2.2 : Value).ownBlock ∧ k_ ≠ gb127) (.slice A2_2 l2_2.length c2_2) l2_2) ∧ (w'.heap[gb127]? = some (.cells #[.string a2_0, .string a2_1, .slice A2_2 l2_2.length c2_2] 41 (0, 0))) ∧ (Below w.heap.size w w')) ?_ ?_
          rotate_left
          · intro hCont
            refine two_ (i := 0) (j := 4) (Ni := some 18) (Nj := some 22) #[true, true, false, true, false, false, false] #[false, true, false, true, true, false, false] rfl rfl rfl rfl (by kernel_rfl) (by decide) (by decide) (fun K hK => ?_) (fun K hK => ?_)
            · skip
              refine Kd.N_lit_step k41 _ 41 ?hg (N' := 18) ?hd (xs := ([] : List (S41))) (inner := []) (ok := (fun k_ => ((P0_ k_ ∨ P2_2_ k_) ∨ w.heap.size ≤ k_) ∧ k_ ≠ gb127)) (okp := (fun k_ => ((P0_ k_ ∨ P2_2_ k_) ∨ w.heap.size ≤ k_) ∧ k_ ≠ gb127)) ?hr ?hp (fun _ hk => hk) ((show ∀ k_, w59.heap.size ≤ k_ → (fun k_ => ((P0_ k_ ∨ P2_2_ k_) ∨ w.heap.size ≤ k_) ∧ k_ ≠ gb127) k_ from fun k_ hk => ⟨(.inr (Nat.le_trans (below_size (by repeat (first | (with_reducible first | exact HB.out | apply below_alloc | apply pw_below_drewN | apply below_drew1 | refine below_set ?_ GE127.out) | exact HB.out))) hk)), Kd.freshB (g := gb127) (o := .cells #[.string a2_0, .string a2_1, .slice A2_2 l2_2.length c2_2] 41 (0, 0)) (by (with_reducible repeat (first | refine blk_drewN ?_ _ | refine blk_drew ?_ | refine blk_alloc ?_ _)); exact BK127.out) k_ hk⟩) _ (Nat.le_refl _)) (Below.refl _ _) (Nat.le_refl _) (by simp) ?_; (case hd => rfl); (case hg => rfl); (case hr => first | (go_simp; done) | (go_simp; rfl)); (case hp => exact (Reps.none _ _))
              intro v150 w60 ho61 hb hg_ hnew_
              clear hg_ hnew_
              (first | rw [← Ny149.out] at ho61 | (simp only [Int.reduceToNat] at ho61; rw [← Ny149.out] at ho61))
              have n0_ := Aside0.mk (Kd.V_elder' (by (with_reducible repeat (first | apply Kd.V_alloc | apply Kd.V_drewN | apply Kd.V_drew)); exact HO0.out) (Kd.N_base ho61) hb)
              have n1_ := Aside0.mk (Kd.V_elder' (by (with_reducible repeat (first | apply Kd.V_alloc | apply Kd.V_drewN | apply Kd.V_drew)); exact HO2_2.out) (Kd.N_base ho61) hb)
              have n2_ := Aside0.mk (Kd.N_lower ho61 (below_size (by repeat (first | (with_reducible first | exact HB.out | apply below_alloc | apply pw_below_drewN | apply below_drew1 | refine below_set ?_ GE127.out) | exact HB.out))))
              have n3_ := Aside0.mk (blk_below (g := gb127) (o := .cells #[.string a2_0, .string a2_1, .slice A2_2 l2_2.length c2_2] 41 (0, 0)) (by (with_reducible repeat (first | refine blk_drewN ?_ _ | refine blk_drew ?_ | refine blk_alloc ?_ _)); exact BK127.out) hb)
              have n4_ := Aside0.mk (below_step (by repeat (first | (with_reducible first | exact HB.out | apply below_alloc | apply pw_below_drewN | apply below_drew1 | refine below_set ?_ GE127.out) | exact HB.out)) hb)
              clear HO0
              clear HO2_2
              clear BK127
              clear HB
              have HO0 := n0_
              have HO2_2 := n1_
              have HO151 := n2_
              have BK127 := n3_
              have HB := n4_
              clear n0_ n1_ n2_ n3_ n4_
              clear hb ho61
              refine hK.out _ _ ⟨(blk_cell BK127.out 0).trans rfl, (blk_cell BK127.out 1).trans rfl, (blk_cell BK127.out 2).trans rfl⟩ (fun hHeld => ?_)
              clear hK K
              refine norm_ (a' := ?_) ?_ ?_
              rotate_left
              · show Act.put _ (some 18) _ = _
                simp only [Act.put, List.setIfInBounds_toArray, List.set_cons_zero, List.set_cons_succ, i64_w, i32_w]
                rfl
              refine two_ (i := 2) (j := 4) (Ni := some 20) (Nj := some 22) #[true, true, true, true, false, false, false] #[true, true, false, true, true, false, false] rfl rfl rfl rfl (by kernel_rfl) (by decide) (by decide) (fun K hK => ?_) (fun K hK => ?_)
              · skip
                refine Kd.N_append_rows_step k41 (w0 := w) w.heap.size (by rfl) (.tmp 18) (.tmp 19) 37 41 (.agg #[(.string ⟨#[]⟩), (.string ⟨#[]⟩), (.slice none 0 0)]) 56 rfl Try.underlying37 info41 rfl (by decide) (by omega) v150 y149 l0 _ _ _ (fun k_ => ((P0_ k_ ∨ P2_2_ k_) ∨ w.heap.size ≤ k_) ∧ k_ ≠ gb127) (fun k_ => ((fun k_ => ((P0_ k_ ∨ P2_2_ k_) ∨ w.heap.size ≤ k_) ∧ k_ ≠ gb127)) k_ ∧ some k_ ≠ (v150 : Value).ownBlock) rfl rfl ?aO ?aR (fun _ hk => hk) ?aF ?aB ?aS ?aL ?_
                (case aR => exact (by skip; exact Kd.V_F (Kd.V_mono (ok' := (fun k_ => ((fun k_ => ((P0_ k_ ∨ P2_2_ k_) ∨ w.heap.size ≤ k_) ∧ k_ ≠ gb127)) k_ ∧ some k_ ≠ (v150 : Value).ownBlock)) (HO0.out) (fun k_ hk => ⟨⟨hk.1.1, hk.1.2⟩, hk.2⟩))))
                (case aB => exact (by repeat (first | (with_reducible first | exact HB.out | apply below_alloc | apply pw_below_drewN | apply below_drew1 | refine below_set ?_ GE127.out) | exact HB.out)))
                (case aF => exact (fun k_ hk => ⟨(.inr (Nat.le_trans (below_size (by repeat (first | (with_reducible first | exact HB.out | apply below_alloc | apply pw_below_drewN | apply below_drew1 | refine below_set ?_ GE127.out) | exact HB.out))) hk)), Kd.freshB (g := gb127) (o := .cells #[.string a2_0, .string a2_1, .slice A2_2 l2_2.length c2_2] 41 (0, 0)) (by (with_reducible repeat (first | refine blk_drewN ?_ _ | refine blk_drew ?_ | refine blk_alloc ?_ _)); exact BK127.out) k_ hk⟩))
                (case aO => exact (by (with_reducible repeat (first | apply Kd.N_alloc | apply Kd.N_drewN | apply Kd.N_drew)); exact HO151.out))
                (case aS => exact (below_size (by repeat (first | (with_reducible first | exact HB.out | apply below_alloc | apply pw_below_drewN | apply below_drew1 | refine below_set ?_ GE127.out) | exact HB.out))))
                (case aL => have := LMc40.out; omega)
                intro v153 w62 ho hb hg hat
                rw [← Ny152.out] at ho
                have n0_ := Aside0.mk (Kd.V_afterv (ok := (fun k_ => ((P0_ k_ ∨ P2_2_ k_) ∨ w.heap.size ≤ k_) ∧ k_ ≠ gb127)) (by (with_reducible repeat (first | apply Kd.V_alloc | apply Kd.V_drewN | apply Kd.V_drew)); exact HO0.out) hg hat)
                have n1_ := Aside0.mk (Kd.V_afterv (ok := (fun k_ => ((P0_ k_ ∨ P2_2_ k_) ∨ w.heap.size ≤ k_) ∧ k_ ≠ gb127)) (by (with_reducible repeat (first | apply Kd.V_alloc | apply Kd.V_drewN | apply Kd.V_drew)); exact HO2_2.out) hg hat)
                have n2_ := Aside0.mk (blk_grown (g := gb127) (o := .cells #[.string a2_0, .string a2_1, .slice A2_2 l2_2.length c2_2] 41 (0, 0)) (by (with_reducible repeat (first | refine blk_drewN ?_ _ | refine blk_drew ?_ | refine blk_alloc ?_ _)); exact BK127.out) hg (Kd.N_away HO151.out (fun _ hk => hk.2)))
                have n3_ := Aside0.mk (hb)
                have n4_ := Aside0.mk (ho)
                clear HO0
                clear HO2_2
                clear BK127
                clear HB
                clear HO151
                have HO0 := n0_
                have HO2_2 := n1_
                have BK127 := n2_
                have HB := n3_
                have HO154 := n4_
                clear n0_ n1_ n2_ n3_ n4_
                clear ho hb hg hat
                refine hK.out _ _ ⟨(blk_cell BK127.out 0).trans rfl, (blk_cell BK127.out 1).trans rfl, (blk_cell BK127.out 2).trans rfl⟩ (fun hHeld => ?_)
                clear hK K
                refine norm_ (a' := ?_) ?_ ?_
                rotate_left
                · show Act.put _ (some 20) _ = _
                  simp only [Act.put, List.setIfInBounds_toArray, List.set_cons_zero, List.set_cons_succ, i64_w, i32_w]
                  rfl
                refine one_ (i := 4) (N := some 22) #[true, true, true, true, true, false, false] rfl rfl (by kernel_rfl) (by decide) (fun K hK => ?_)
                refine Kd.N_lit_step k41 _ 41 ?hg (N' := 22) ?hd (xs := ([(⟨a2_0, a2_1, l2_2⟩ : S41)] : List (S41))) (inner := [.string a2_0, .string a2_1, .slice A2_2 l2_2.length c2_2]) (ok := (fun k_ => ((P0_ k_ ∨ P2_2_ k_) ∨ w.heap.size ≤ k_) ∧ some k_ ≠ (v153 : Value).ownBlock ∧ k_ ≠ gb127)) (okp := (fun k_ => ((P0_ k_ ∨ P2_2_ k_) ∨ w.heap.size ≤ k_) ∧ some k_ ≠ (v153 : Value).ownBlock ∧ k_ ≠ gb127)) ?hr ?hp (fun _ hk => hk) ((show ∀ k_, w62.heap.size ≤ k_ → (fun k_ => ((P0_ k_ ∨ P2_2_ k_) ∨ w.heap.size ≤ k_) ∧ some k_ ≠ (v153 : Value).ownBlock ∧ k_ ≠ gb127) k_ from fun k_ hk => ⟨(.inr (Nat.le_trans (below_size (by repeat (first | (with_reducible first | exact HB.out | apply below_alloc | apply pw_below_drewN | apply below_drew1 | refine below_set ?_ GE127.out) | exact HB.out))) hk)), Kd.fresh' (Kd.N_lt (by (with_reducible repeat (first | apply Kd.N_alloc | apply Kd.N_drewN | apply Kd.N_drew)); exact HO154.out)) k_ hk, Kd.freshB (g := gb127) (o := .cells #[.string a2_0, .string a2_1, .slice A2_2 l2_2.length c2_2] 41 (0, 0)) (by (with_reducible repeat (first | refine blk_drewN ?_ _ | refine blk_drew ?_ | refine blk_alloc ?_ _)); exact BK127.out) k_ hk⟩) _ (Nat.le_refl _)) (Below.refl _ _) (Nat.le_refl _) (by simp) ?_; (case hd => rfl); (case hg => rfl); (case hr => first | (go_simp; done) | (go_simp; rfl)); (case hp => exact (Reps.c3 (show Kd.FK k41 _ _ (⟨a2_0, a2_1, l2_2⟩ : S41) [.string a2_0, .string a2_1, .slice A2_2 l2_2.length c2_2] from (k41_mkF _ _ (⟨a2_0, a2_1, l2_2⟩ : S41) (Kd.V_reads' (Kd.V_mono (ok' := (fun k_ => ((P0_ k_ ∨ P2_2_ k_) ∨ w.heap.size ≤ k_) ∧ some k_ ≠ (v153 : Value).ownBlock ∧ k_ ≠ gb127)) (HO2_2.out) (fun k_ hk => ⟨hk.1.1, ⟨hk.2, hk.1.2⟩⟩))).2.1 (Kd.V_F (Kd.V_mono (ok' := (fun k_ => ((P0_ k_ ∨ P2_2_ k_) ∨ w.heap.size ≤ k_) ∧ some k_ ≠ (v153 : Value).ownBlock ∧ k_ ≠ gb127)) (HO2_2.out) (fun k_ hk => ⟨hk.1.1, ⟨hk.2, hk.1.2⟩⟩))))) (Reps.none _ _)))
                intro v156 w63 ho64 hb hg_ hnew_
                clear hg_ hnew_
                (first | rw [← Ny155.out] at ho64 | (simp only [Int.reduceToNat] at ho64; rw [← Ny155.out] at ho64))
                have n0_ := Aside0.mk (Kd.V_elder' (by (with_reducible repeat (first | apply Kd.V_alloc | apply Kd.V_drewN | apply Kd.V_drew)); exact HO0.out) (Kd.N_base ho64) hb)
                have n1_ := Aside0.mk (Kd.V_elder' (by (with_reducible repeat (first | apply Kd.V_alloc | apply Kd.V_drewN | apply Kd.V_drew)); exact HO2_2.out) (Kd.N_base ho64) hb)
                have n2_ := Aside0.mk (Kd.N_elder' (by (with_reducible repeat (first | apply Kd.N_alloc | apply Kd.N_drewN | apply Kd.N_drew)); exact HO154.out) (Kd.N_base ho64) hb)
                have n3_ := Aside0.mk (Kd.N_lower ho64 (below_size (by repeat (first | (with_reducible first | exact HB.out | apply below_alloc | apply pw_below_drewN | apply below_drew1 | refine below_set ?_ GE127.out) | exact HB.out))))
                have n4_ := Aside0.mk (blk_below (g := gb127) (o := .cells #[.string a2_0, .string a2_1, .slice A2_2 l2_2.length c2_2] 41 (0, 0)) (by (with_reducible repeat (first | refine blk_drewN ?_ _ | refine blk_drew ?_ | refine blk_alloc ?_ _)); exact BK127.out) hb)
                have n5_ := Aside0.mk (below_step (by repeat (first | (with_reducible first | exact HB.out | apply below_alloc | apply pw_below_drewN | apply below_drew1 | refine below_set ?_ GE127.out) | exact HB.out)) hb)
                clear HO0
                clear HO2_2
                clear HO154
                clear BK127
                clear HB
                have HO0 := n0_
                have HO2_2 := n1_
                have HO154 := n2_
                have HO157 := n3_
                have BK127 := n4_
                have HB := n5_
                clear n0_ n1_ n2_ n3_ n4_ n5_
                clear hb ho64
                refine hK.out _ _ ⟨(blk_cell BK127.out 0).trans rfl, (blk_cell BK127.out 1).trans rfl, (blk_cell BK127.out 2).trans rfl⟩ (fun hHeld => ?_)
                clear hK K
                refine norm_ (a' := ?_) ?_ ?_
                rotate_left
                · show Act.put _ (some 22) _ = _
                  simp only [Act.put, List.setIfInBounds_toArray, List.set_cons_zero, List.set_cons_succ, i64_w, i32_w]
                  rfl
                exact norm_ (by simp only [putAll, Act.put, List.setIfInBounds_toArray, List.set_cons_zero, List.set_cons_succ]) (hCont (v150, v153, v156) _ ⟨hHeld, (by (with_reducible repeat (first | apply Kd.V_alloc | apply Kd.V_drewN | apply Kd.V_drew)); exact Kd.V_mono HO0.out (fun _ hk => ⟨hk.1.1.1, ⟨hk.1.2, ⟨hk.2, hk.1.1.2⟩⟩⟩)), (by (with_reducible repeat (first | apply Kd.N_alloc | apply Kd.N_drewN | apply Kd.N_drew)); exact Kd.N_mono HO154.out (fun _ hk => ⟨hk.1.1, ⟨hk.2, hk.1.2⟩⟩)), (by (with_reducible repeat (first | apply Kd.N_alloc | apply Kd.N_drewN | apply Kd.N_drew)); exact HO157.out), (by (with_reducible repeat (first | apply Kd.V_alloc | apply Kd.V_drewN | apply Kd.V_drew)); exact Kd.V_mono HO2_2.out (fun _ hk => ⟨hk.1.1.1, ⟨hk.1.2, ⟨hk.2, hk.1.1.2⟩⟩⟩)), (by (with_reducible repeat (first | refine blk_drewN ?_ _ | refine blk_drew ?_ | refine blk_alloc ?_ _)); exact BK127.out), (by repeat (first | (with_reducible first | exact HB.out | apply below_alloc | apply pw_below_drewN | apply below_drew1 | refine below_set ?_ GE127.out) | exact HB.out))⟩)
              · skip
                refine Kd.N_lit_step k41 _ 41 ?hg (N' := 22) ?hd (xs := ([(⟨a2_0, a2_1, l2_2⟩ : S41)] : List (S41))) (inner := [.string a2_0, .string a2_1, .slice A2_2 l2_2.length c2_2]) (ok := (fun k_ => ((P0_ k_ ∨ P2_2_ k_) ∨ w.heap.size ≤ k_) ∧ some k_ ≠ (v150 : Value).ownBlock ∧ k_ ≠ gb127)) (okp := (fun k_ => ((P0_ k_ ∨ P2_2_ k_) ∨ w.heap.size ≤ k_) ∧ some k_ ≠ (v150 : Value).ownBlock ∧ k_ ≠ gb127)) ?hr ?hp (fun _ hk => hk) ((show ∀ k_, w60.heap.size ≤ k_ → (fun k_ => ((P0_ k_ ∨ P2_2_ k_) ∨ w.heap.size ≤ k_) ∧ some k_ ≠ (v150 : Value).ownBlock ∧ k_ ≠ gb127) k_ from fun k_ hk => ⟨(.inr (Nat.le_trans (below_size (by repeat (first | (with_reducible first | exact HB.out | apply below_alloc | apply pw_below_drewN | apply below_drew1 | refine below_set ?_ GE127.out) | exact HB.out))) hk)), Kd.fresh' (Kd.N_lt (by (with_reducible repeat (first | apply Kd.N_alloc | apply Kd.N_drewN | apply Kd.N_drew)); exact HO151.out)) k_ hk, Kd.freshB (g := gb127) (o := .cells #[.string a2_0, .string a2_1, .slice A2_2 l2_2.length c2_2] 41 (0, 0)) (by (with_reducible repeat (first | refine blk_drewN ?_ _ | refine blk_drew ?_ | refine blk_alloc ?_ _)); exact BK127.out) k_ hk⟩) _ (Nat.le_refl _)) (Below.refl _ _) (Nat.le_refl _) (by simp) ?_; (case hd => rfl); (case hg => rfl); (case hr => first | (go_simp; done) | (go_simp; rfl)); (case hp => exact (Reps.c3 (show Kd.FK k41 _ _ (⟨a2_0, a2_1, l2_2⟩ : S41) [.string a2_0, .string a2_1, .slice A2_2 l2_2.length c2_2] from (k41_mkF _ _ (⟨a2_0, a2_1, l2_2⟩ : S41) (Kd.V_reads' (Kd.V_mono (ok' := (fun k_ => ((P0_ k_ ∨ P2_2_ k_) ∨ w.heap.size ≤ k_) ∧ some k_ ≠ (v150 : Value).ownBlock ∧ k_ ≠ gb127)) (HO2_2.out) (fun k_ hk => ⟨hk.1.1, ⟨hk.2, hk.1.2⟩⟩))).2.1 (Kd.V_F (Kd.V_mono (ok' := (fun k_ => ((P0_ k_ ∨ P2_2_ k_) ∨ w.heap.size ≤ k_) ∧ some k_ ≠ (v150 : Value).ownBlock ∧ k_ ≠ gb127)) (HO2_2.out) (fun k_ hk => ⟨hk.1.1, ⟨hk.2, hk.1.2⟩⟩))))) (Reps.none _ _)))
                intro v156 w62 ho63 hb hg_ hnew_
                clear hg_ hnew_
                (first | rw [← Ny155.out] at ho63 | (simp only [Int.reduceToNat] at ho63; rw [← Ny155.out] at ho63))
                have n0_ := Aside0.mk (Kd.V_elder' (by (with_reducible repeat (first | apply Kd.V_alloc | apply Kd.V_drewN | apply Kd.V_drew)); exact HO0.out) (Kd.N_base ho63) hb)
                have n1_ := Aside0.mk (Kd.V_elder' (by (with_reducible repeat (first | apply Kd.V_alloc | apply Kd.V_drewN | apply Kd.V_drew)); exact HO2_2.out) (Kd.N_base ho63) hb)
                have n2_ := Aside0.mk (Kd.N_elder' (by (with_reducible repeat (first | apply Kd.N_alloc | apply Kd.N_drewN | apply Kd.N_drew)); exact HO151.out) (Kd.N_base ho63) hb)
                have n3_ := Aside0.mk (Kd.N_lower ho63 (below_size (by repeat (first | (with_reducible first | exact HB.out | apply below_alloc | apply pw_below_drewN | apply below_drew1 | refine below_set ?_ GE127.out) | exact HB.out))))
                have n4_ := Aside0.mk (blk_below (g := gb127) (o := .cells #[.string a2_0, .string a2_1, .slice A2_2 l2_2.length c2_2] 41 (0, 0)) (by (with_reducible repeat (first | refine blk_drewN ?_ _ | refine blk_drew ?_ | refine blk_alloc ?_ _)); exact BK127.out) hb)
                have n5_ := Aside0.mk (below_step (by repeat (first | (with_reducible first | exact HB.out | apply below_alloc | apply pw_below_drewN | apply below_drew1 | refine below_set ?_ GE127.out) | exact HB.out)) hb)
                clear HO0
                clear HO2_2
                clear HO151
                clear BK127
                clear HB
                have HO0 := n0_
                have HO2_2 := n1_
                have HO151 := n2_
                have HO157 := n3_
                have BK127 := n4_
                have HB := n5_
                clear n0_ n1_ n2_ n3_ n4_ n5_
                clear hb ho63
                refine hK.out _ _ ⟨(blk_cell BK127.out 0).trans rfl, (blk_cell BK127.out 1).trans rfl, (blk_cell BK127.out 2).trans rfl⟩ (fun hHeld => ?_)
                clear hK K
                refine norm_ (a' := ?_) ?_ ?_
                rotate_left
                · show Act.put _ (some 22) _ = _
                  simp only [Act.put, List.setIfInBounds_toArray, List.set_cons_zero, List.set_cons_succ, i64_w, i32_w]
                  rfl
                refine one_ (i := 2) (N := some 20) #[true, true, true, true, true, false, false] rfl rfl (by kernel_rfl) (by decide) (fun K hK => ?_)
                refine Kd.N_append_rows_step k41 (w0 := w) w.heap.size (by rfl) (.tmp 18) (.tmp 19) 37 41 (.agg #[(.string ⟨#[]⟩), (.string ⟨#[]⟩), (.slice none 0 0)]) 56 rfl Try.underlying37 info41 rfl (by decide) (by omega) v150 y149 l0 _ _ _ (fun k_ => ((P0_ k_ ∨ P2_2_ k_) ∨ w.heap.size ≤ k_) ∧ some k_ ≠ (v156 : Value).ownBlock ∧ k_ ≠ gb127) (fun k_ => ((fun k_ => ((P0_ k_ ∨ P2_2_ k_) ∨ w.heap.size ≤ k_) ∧ some k_ ≠ (v156 : Value).ownBlock ∧ k_ ≠ gb127)) k_ ∧ some k_ ≠ (v150 : Value).ownBlock) rfl rfl ?aO ?aR (fun _ hk => hk) ?aF ?aB ?aS ?aL ?_
                (case aR => exact (by skip; exact Kd.V_F (Kd.V_mono (ok' := (fun k_ => ((fun k_ => ((P0_ k_ ∨ P2_2_ k_) ∨ w.heap.size ≤ k_) ∧ some k_ ≠ (v156 : Value).ownBlock ∧ k_ ≠ gb127)) k_ ∧ some k_ ≠ (v150 : Value).ownBlock)) (HO0.out) (fun k_ hk => ⟨⟨hk.1.1.1, ⟨hk.2, hk.1.1.2⟩⟩, hk.1.2⟩))))
                (case aB => exact (by repeat (first | (with_reducible first | exact HB.out | apply below_alloc | apply pw_below_drewN | apply below_drew1 | refine below_set ?_ GE127.out) | exact HB.out)))
                (case aF => exact (fun k_ hk => ⟨(.inr (Nat.le_trans (below_size (by repeat (first | (with_reducible first | exact HB.out | apply below_alloc | apply pw_below_drewN | apply below_drew1 | refine below_set ?_ GE127.out) | exact HB.out))) hk)), Kd.fresh' (Kd.N_lt (by (with_reducible repeat (first | apply Kd.N_alloc | apply Kd.N_drewN | apply Kd.N_drew)); exact HO157.out)) k_ hk, Kd.freshB (g := gb127) (o := .cells #[.string a2_0, .string a2_1, .slice A2_2 l2_2.length c2_2] 41 (0, 0)) (by (with_reducible repeat (first | refine blk_drewN ?_ _ | refine blk_drew ?_ | refine blk_alloc ?_ _)); exact BK127.out) k_ hk⟩))
                (case aO => exact (by (with_reducible repeat (first | apply Kd.N_alloc | apply Kd.N_drewN | apply Kd.N_drew)); exact Kd.N_mono HO151.out (fun _ hk => ⟨hk.1.1, ⟨hk.2, hk.1.2⟩⟩)))
                (case aS => exact (below_size (by repeat (first | (with_reducible first | exact HB.out | apply below_alloc | apply pw_below_drewN | apply below_drew1 | refine below_set ?_ GE127.out) | exact HB.out))))
                (case aL => have := LMc40.out; omega)
                intro v153 w64 ho hb hg hat
                rw [← Ny152.out] at ho
                have n0_ := Aside0.mk (Kd.V_afterv (ok := (fun k_ => ((P0_ k_ ∨ P2_2_ k_) ∨ w.heap.size ≤ k_) ∧ some k_ ≠ (v156 : Value).ownBlock ∧ k_ ≠ gb127)) (by (with_reducible repeat (first | apply Kd.V_alloc | apply Kd.V_drewN | apply Kd.V_drew)); exact Kd.V_mono HO0.out (fun _ hk => ⟨⟨hk.1.1.1, ⟨hk.2, hk.1.1.2⟩⟩, hk.1.2⟩)) hg hat)
                have n1_ := Aside0.mk (Kd.V_afterv (ok := (fun k_ => ((P0_ k_ ∨ P2_2_ k_) ∨ w.heap.size ≤ k_) ∧ some k_ ≠ (v156 : Value).ownBlock ∧ k_ ≠ gb127)) (by (with_reducible repeat (first | apply Kd.V_alloc | apply Kd.V_drewN | apply Kd.V_drew)); exact Kd.V_mono HO2_2.out (fun _ hk => ⟨⟨hk.1.1.1, ⟨hk.2, hk.1.1.2⟩⟩, hk.1.2⟩)) hg hat)
                have n2_ := Aside0.mk (blk_grown (g := gb127) (o := .cells #[.string a2_0, .string a2_1, .slice A2_2 l2_2.length c2_2] 41 (0, 0)) (by (with_reducible repeat (first | refine blk_drewN ?_ _ | refine blk_drew ?_ | refine blk_alloc ?_ _)); exact BK127.out) hg (Kd.N_away HO151.out (fun _ hk => hk.1.2)))
                have n3_ := Aside0.mk (Kd.N_afterv (ok := (fun k_ => ((P0_ k_ ∨ P2_2_ k_) ∨ w.heap.size ≤ k_) ∧ k_ ≠ gb127)) (by (with_reducible repeat (first | apply Kd.N_alloc | apply Kd.N_drewN | apply Kd.N_drew)); exact Kd.N_mono HO157.out (fun _ hk => ⟨⟨hk.1, hk.2.2⟩, hk.2.1⟩)) hg hat)
                have n4_ := Aside0.mk (hb)
                have n5_ := Aside0.mk (ho)
                clear HO0
                clear HO2_2
                clear BK127
                clear HO157
                clear HB
                clear HO151
                have HO0 := n0_
                have HO2_2 := n1_
                have BK127 := n2_
                have HO157 := n3_
                have HB := n4_
                have HO154 := n5_
                clear n0_ n1_ n2_ n3_ n4_ n5_
                clear ho hb hg hat
                refine hK.out _ _ ⟨(blk_cell BK127.out 0).trans rfl, (blk_cell BK127.out 1).trans rfl, (blk_cell BK127.out 2).trans rfl⟩ (fun hHeld => ?_)
                clear hK K
                refine norm_ (a' := ?_) ?_ ?_
                rotate_left
                · show Act.put _ (some 20) _ = _
                  simp only [Act.put, List.setIfInBounds_toArray, List.set_cons_zero, List.set_cons_succ, i64_w, i32_w]
                  rfl
                exact norm_ (by simp only [putAll, Act.put, List.setIfInBounds_toArray, List.set_cons_zero, List.set_cons_succ]) (hCont (v150, v153, v156) _ ⟨hHeld, (by (with_reducible repeat (first | apply Kd.V_alloc | apply Kd.V_drewN | apply Kd.V_drew)); exact Kd.V_mono HO0.out (fun _ hk => ⟨hk.1.1, ⟨hk.2, ⟨hk.1.2.1, hk.1.2.2⟩⟩⟩)), (by (with_reducible repeat (first | apply Kd.N_alloc | apply Kd.N_drewN | apply Kd.N_drew)); exact HO154.out), (by (with_reducible repeat (first | apply Kd.N_alloc | apply Kd.N_drewN | apply Kd.N_drew)); exact Kd.N_mono HO157.out (fun _ hk => ⟨hk.1.1, ⟨hk.2, hk.1.2⟩⟩)), (by (with_reducible repeat (first | apply Kd.V_alloc | apply Kd.V_drewN | apply Kd.V_drew)); exact Kd.V_mono HO2_2.out (fun _ hk => ⟨hk.1.1, ⟨hk.2, ⟨hk.1.2.1, hk.1.2.2⟩⟩⟩)), (by (with_reducible repeat (first | refine blk_drewN ?_ _ | refine blk_drew ?_ | refine blk_alloc ?_ _)); exact BK127.out), (by repeat (first | (with_reducible first | exact HB.out | apply below_alloc | apply pw_below_drewN | apply below_drew1 | refine below_set ?_ GE127.out) | exact HB.out))⟩)
            · skip
              refine Kd.N_lit_step k41 _ 41 ?hg (N' := 22) ?hd (xs := ([(⟨a2_0, a2_1, l2_2⟩ : S41)] : List (S41))) (inner := [.string a2_0, .string a2_1, .slice A2_2 l2_2.length c2_2]) (ok := (fun k_ => ((P0_ k_ ∨ P2_2_ k_) ∨ w.heap.size ≤ k_) ∧ k_ ≠ gb127)) (okp := (fun k_ => ((P0_ k_ ∨ P2_2_ k_) ∨ w.heap.size ≤ k_) ∧ k_ ≠ gb127)) ?hr ?hp (fun _ hk => hk) ((show ∀ k_, w59.heap.size ≤ k_ → (fun k_ => ((P0_ k_ ∨ P2_2_ k_) ∨ w.heap.size ≤ k_) ∧ k_ ≠ gb127) k_ from fun k_ hk => ⟨(.inr (Nat.le_trans (below_size (by repeat (first | (with_reducible first | exact HB.out | apply below_alloc | apply pw_below_drewN | apply below_drew1 | refine below_set ?_ GE127.out) | exact HB.out))) hk)), Kd.freshB (g := gb127) (o := .cells #[.string a2_0, .string a2_1, .slice A2_2 l2_2.length c2_2] 41 (0, 0)) (by (with_reducible repeat (first | refine blk_drewN ?_ _ | refine blk_drew ?_ | refine blk_alloc ?_ _)); exact BK127.out) k_ hk⟩) _ (Nat.le_refl _)) (Below.refl _ _) (Nat.le_refl _) (by simp) ?_; (case hd => rfl); (case hg => rfl); (case hr => first | (go_simp; done) | (go_simp; rfl)); (case hp => exact (Reps.c3 (show Kd.FK k41 _ _ (⟨a2_0, a2_1, l2_2⟩ : S41) [.string a2_0, .string a2_1, .slice A2_2 l2_2.length c2_2] from (k41_mkF _ _ (⟨a2_0, a2_1, l2_2⟩ : S41) (Kd.V_reads' (Kd.V_mono (ok' := (fun k_ => ((P0_ k_ ∨ P2_2_ k_) ∨ w.heap.size ≤ k_) ∧ k_ ≠ gb127)) (HO2_2.out) (fun k_ hk => ⟨hk.1, hk.2⟩))).2.1 (Kd.V_F (Kd.V_mono (ok' := (fun k_ => ((P0_ k_ ∨ P2_2_ k_) ∨ w.heap.size ≤ k_) ∧ k_ ≠ gb127)) (HO2_2.out) (fun k_ hk => ⟨hk.1, hk.2⟩))))) (Reps.none _ _)))
              intro v156 w60 ho61 hb hg_ hnew_
              clear hg_ hnew_
              (first | rw [← Ny155.out] at ho61 | (simp only [Int.reduceToNat] at ho61; rw [← Ny155.out] at ho61))
              have n0_ := Aside0.mk (Kd.V_elder' (by (with_reducible repeat (first | apply Kd.V_alloc | apply Kd.V_drewN | apply Kd.V_drew)); exact HO0.out) (Kd.N_base ho61) hb)
              have n1_ := Aside0.mk (Kd.V_elder' (by (with_reducible repeat (first | apply Kd.V_alloc | apply Kd.V_drewN | apply Kd.V_drew)); exact HO2_2.out) (Kd.N_base ho61) hb)
              have n2_ := Aside0.mk (Kd.N_lower ho61 (below_size (by repeat (first | (with_reducible first | exact HB.out | apply below_alloc | apply pw_below_drewN | apply below_drew1 | refine below_set ?_ GE127.out) | exact HB.out))))
              have n3_ := Aside0.mk (blk_below (g := gb127) (o := .cells #[.string a2_0, .string a2_1, .slice A2_2 l2_2.length c2_2] 41 (0, 0)) (by (with_reducible repeat (first | refine blk_drewN ?_ _ | refine blk_drew ?_ | refine blk_alloc ?_ _)); exact BK127.out) hb)
              have n4_ := Aside0.mk (below_step (by repeat (first | (with_reducible first | exact HB.out | apply below_alloc | apply pw_below_drewN | apply below_drew1 | refine below_set ?_ GE127.out) | exact HB.out)) hb)
              clear HO0
              clear HO2_2
              clear BK127
              clear HB
              have HO0 := n0_
              have HO2_2 := n1_
              have HO157 := n2_
              have BK127 := n3_
              have HB := n4_
              clear n0_ n1_ n2_ n3_ n4_
              clear hb ho61
              refine hK.out _ _ ⟨(blk_cell BK127.out 0).trans rfl, (blk_cell BK127.out 1).trans rfl, (blk_cell BK127.out 2).trans rfl⟩ (fun hHeld => ?_)
              clear hK K
              refine norm_ (a' := ?_) ?_ ?_
              rotate_left
              · show Act.put _ (some 22) _ = _
                simp only [Act.put, List.setIfInBounds_toArray, List.set_cons_zero, List.set_cons_succ, i64_w, i32_w]
                rfl
              refine one_ (i := 0) (N := some 18) #[true, true, false, true, true, false, false] rfl rfl (by kernel_rfl) (by decide) (fun K hK => ?_)
              refine Kd.N_lit_step k41 _ 41 ?hg (N' := 18) ?hd (xs := ([] : List (S41))) (inner := []) (ok := (fun k_ => ((P0_ k_ ∨ P2_2_ k_) ∨ w.heap.size ≤ k_) ∧ some k_ ≠ (v156 : Value).ownBlock ∧ k_ ≠ gb127)) (okp := (fun k_ => ((P0_ k_ ∨ P2_2_ k_) ∨ w.heap.size ≤ k_) ∧ some k_ ≠ (v156 : Value).ownBlock ∧ k_ ≠ gb127)) ?hr ?hp (fun _ hk => hk) ((show ∀ k_, w60.heap.size ≤ k_ → (fun k_ => ((P0_ k_ ∨ P2_2_ k_) ∨ w.heap.size ≤ k_) ∧ some k_ ≠ (v156 : Value).ownBlock ∧ k_ ≠ gb127) k_ from fun k_ hk => ⟨(.inr (Nat.le_trans (below_size (by repeat (first | (with_reducible first | exact HB.out | apply below_alloc | apply pw_below_drewN | apply below_drew1 | refine below_set ?_ GE127.out) | exact HB.out))) hk)), Kd.fresh' (Kd.N_lt (by (with_reducible repeat (first | apply Kd.N_alloc | apply Kd.N_drewN | apply Kd.N_drew)); exact HO157.out)) k_ hk, Kd.freshB (g := gb127) (o := .cells #[.string a2_0, .string a2_1, .slice A2_2 l2_2.length c2_2] 41 (0, 0)) (by (with_reducible repeat (first | refine blk_drewN ?_ _ | refine blk_drew ?_ | refine blk_alloc ?_ _)); exact BK127.out) k_ hk⟩) _ (Nat.le_refl _)) (Below.refl _ _) (Nat.le_refl _) (by simp) ?_; (case hd => rfl); (case hg => rfl); (case hr => first | (go_simp; done) | (go_simp; rfl)); (case hp => exact (Reps.none _ _))
              intro v150 w62 ho63 hb hg_ hnew_
              clear hg_ hnew_
              (first | rw [← Ny149.out] at ho63 | (simp only [Int.reduceToNat] at ho63; rw [← Ny149.out] at ho63))
              have n0_ := Aside0.mk (Kd.V_elder' (by (with_reducible repeat (first | apply Kd.V_alloc | apply Kd.V_drewN | apply Kd.V_drew)); exact HO0.out) (Kd.N_base ho63) hb)
              have n1_ := Aside0.mk (Kd.V_elder' (by (with_reducible repeat (first | apply Kd.V_alloc | apply Kd.V_drewN | apply Kd.V_drew)); exact HO2_2.out) (Kd.N_base ho63) hb)
              have n2_ := Aside0.mk (Kd.N_elder' (by (with_reducible repeat (first | apply Kd.N_alloc | apply Kd.N_drewN | apply Kd.N_drew)); exact HO157.out) (Kd.N_base ho63) hb)
              have n3_ := Aside0.mk (Kd.N_lower ho63 (below_size (by repeat (first | (with_reducible first | exact HB.out | apply below_alloc | apply pw_below_drewN | apply below_drew1 | refine below_set ?_ GE127.out) | exact HB.out))))
              have n4_ := Aside0.mk (blk_below (g := gb127) (o := .cells #[.string a2_0, .string a2_1, .slice A2_2 l2_2.length c2_2] 41 (0, 0)) (by (with_reducible repeat (first | refine blk_drewN ?_ _ | refine blk_drew ?_ | refine blk_alloc ?_ _)); exact BK127.out) hb)
              have n5_ := Aside0.mk (below_step (by repeat (first | (with_reducible first | exact HB.out | apply below_alloc | apply pw_below_drewN | apply below_drew1 | refine below_set ?_ GE127.out) | exact HB.out)) hb)
              clear HO0
              clear HO2_2
              clear HO157
              clear BK127
              clear HB
              have HO0 := n0_
              have HO2_2 := n1_
              have HO157 := n2_
              have HO151 := n3_
              have BK127 := n4_
              have HB := n5_
              clear n0_ n1_ n2_ n3_ n4_ n5_
              clear hb ho63
              refine hK.out _ _ ⟨(blk_cell BK127.out 0).trans rfl, (blk_cell BK127.out 1).trans rfl, (blk_cell BK127.out 2).trans rfl⟩ (fun hHeld => ?_)
              clear hK K
              refine norm_ (a' := ?_) ?_ ?_
              rotate_left
              · show Act.put _ (some 18) _ = _
                simp only [Act.put, List.setIfInBounds_toArray, List.set_cons_zero, List.set_cons_succ, i64_w, i32_w]
                rfl
              refine one_ (i := 2) (N := some 20) #[true, true, true, true, true, false, false] rfl rfl (by kernel_rfl) (by decide) (fun K hK => ?_)
              refine Kd.N_append_rows_step k41 (w0 := w) w.heap.size (by rfl) (.tmp 18) (.tmp 19) 37 41 (.agg #[(.string ⟨#[]⟩), (.string ⟨#[]⟩), (.slice none 0 0)]) 56 rfl Try.underlying37 info41 rfl (by decide) (by omega) v150 y149 l0 _ _ _ (fun k_ => ((P0_ k_ ∨ P2_2_ k_) ∨ w.heap.size ≤ k_) ∧ some k_ ≠ (v156 : Value).ownBlock ∧ k_ ≠ gb127) (fun k_ => ((fun k_ => ((P0_ k_ ∨ P2_2_ k_) ∨ w.heap.size ≤ k_) ∧ some k_ ≠ (v156 : Value).ownBlock ∧ k_ ≠ gb127)) k_ ∧ some k_ ≠ (v150 : Value).ownBlock) rfl rfl ?aO ?aR (fun _ hk => hk) ?aF ?aB ?aS ?aL ?_
              (case aR => exact (by skip; exact Kd.V_F (Kd.V_mono (ok' := (fun k_ => ((fun k_ => ((P0_ k_ ∨ P2_2_ k_) ∨ w.heap.size ≤ k_) ∧ some k_ ≠ (v156 : Value).ownBlock ∧ k_ ≠ gb127)) k_ ∧ some k_ ≠ (v150 : Value).ownBlock)) (HO0.out) (fun k_ hk => ⟨⟨hk.1.1.1, ⟨hk.1.2, hk.1.1.2⟩⟩, hk.2⟩))))
              (case aB => exact (by repeat (first | (with_reducible first | exact HB.out | apply below_alloc | apply pw_below_drewN | apply below_drew1 | refine below_set ?_ GE127.out) | exact HB.out)))
              (case aF => exact (fun k_ hk => ⟨(.inr (Nat.le_trans (below_size (by repeat (first | (with_reducible first | exact HB.out | apply below_alloc | apply pw_below_drewN | apply below_drew1 | refine below_set ?_ GE127.out) | exact HB.out))) hk)), Kd.fresh' (Kd.N_lt (by (with_reducible repeat (first | apply Kd.N_alloc | apply Kd.N_drewN | apply Kd.N_drew)); exact HO157.out)) k_ hk, Kd.freshB (g := gb127) (o := .cells #[.string a2_0, .string a2_1, .slice A2_2 l2_2.length c2_2] 41 (0, 0)) (by (with_reducible repeat (first | refine blk_drewN ?_ _ | refine blk_drew ?_ | refine blk_alloc ?_ _)); exact BK127.out) k_ hk⟩))
              (case aO => exact (by (with_reducible repeat (first | apply Kd.N_alloc | apply Kd.N_drewN | apply Kd.N_drew)); exact HO151.out))
              (case aS => exact (below_size (by repeat (first | (with_reducible first | exact HB.out | apply below_alloc | apply pw_below_drewN | apply below_drew1 | refine below_set ?_ GE127.out) | exact HB.out))))
              (case aL => have := LMc40.out; omega)
              intro v153 w64 ho hb hg hat
              rw [← Ny152.out] at ho
              have n0_ := Aside0.mk (Kd.V_afterv (ok := (fun k_ => ((P0_ k_ ∨ P2_2_ k_) ∨ w.heap.size ≤ k_) ∧ some k_ ≠ (v156 : Value).ownBlock ∧ k_ ≠ gb127)) (by (with_reducible repeat (first | apply Kd.V_alloc | apply Kd.V_drewN | apply Kd.V_drew)); exact Kd.V_mono HO0.out (fun _ hk => ⟨⟨hk.1.1.1, ⟨hk.1.2, hk.1.1.2⟩⟩, hk.2⟩)) hg hat)
              have n1_ := Aside0.mk (Kd.V_afterv (ok := (fun k_ => ((P0_ k_ ∨ P2_2_ k_) ∨ w.heap.size ≤ k_) ∧ some k_ ≠ (v156 : Value).ownBlock ∧ k_ ≠ gb127)) (by (with_reducible repeat (first | apply Kd.V_alloc | apply Kd.V_drewN | apply Kd.V_drew)); exact Kd.V_mono HO2_2.out (fun _ hk => ⟨⟨hk.1.1.1, ⟨hk.1.2, hk.1.1.2⟩⟩, hk.2⟩)) hg hat)
              have n2_ := Aside0.mk (blk_grown (g := gb127) (o := .cells #[.string a2_0, .string a2_1, .slice A2_2 l2_2.length c2_2] 41 (0, 0)) (by (with_reducible repeat (first | refine blk_drewN ?_ _ | refine blk_drew ?_ | refine blk_alloc ?_ _)); exact BK127.out) hg (Kd.N_away HO151.out (fun _ hk => hk.2.2)))
              have n3_ := Aside0.mk (Kd.N_afterv (ok := (fun k_ => ((P0_ k_ ∨ P2_2_ k_) ∨ w.heap.size ≤ k_) ∧ k_ ≠ gb127)) (by (with_reducible repeat (first | apply Kd.N_alloc | apply Kd.N_drewN | apply Kd.N_drew)); exact HO157.out) hg hat)
              have n4_ := Aside0.mk (hb)
              have n5_ := Aside0.mk (ho)
              clear HO0
              clear HO2_2
              clear BK127
              clear HO157
              clear HB
              clear HO151
              have HO0 := n0_
              have HO2_2 := n1_
              have BK127 := n2_
              have HO157 := n3_
              have HB := n4_
              have HO154 := n5_
              clear n0_ n1_ n2_ n3_ n4_ n5_
              clear ho hb hg hat
              refine hK.out _ _ ⟨(blk_cell BK127.out 0).trans rfl, (blk_cell BK127.out 1).trans rfl, (blk_cell BK127.out 2).trans rfl⟩ (fun hHeld => ?_)
              clear hK K
              refine norm_ (a' := ?_) ?_ ?_
              rotate_left
              · show Act.put _ (some 20) _ = _
                simp only [Act.put, List.setIfInBounds_toArray, List.set_cons_zero, List.set_cons_succ, i64_w, i32_w]
                rfl
              exact norm_ (by simp only [putAll, Act.put, List.setIfInBounds_toArray, List.set_cons_zero, List.set_cons_succ]) (hCont (v150, v153, v156) _ ⟨hHeld, (by (with_reducible repeat (first | apply Kd.V_alloc | apply Kd.V_drewN | apply Kd.V_drew)); exact Kd.V_mono HO0.out (fun _ hk => ⟨hk.1.1, ⟨hk.2, ⟨hk.1.2.1, hk.1.2.2⟩⟩⟩)), (by (with_reducible repeat (first | apply Kd.N_alloc | apply Kd.N_drewN | apply Kd.N_drew)); exact HO154.out), (by (with_reducible repeat (first | apply Kd.N_alloc | apply Kd.N_drewN | apply Kd.N_drew)); exact Kd.N_mono HO157.out (fun _ hk => ⟨hk.1.1, ⟨hk.2, hk.1.2⟩⟩)), (by (with_reducible repeat (first | apply Kd.V_alloc | apply Kd.V_drewN | apply Kd.V_drew)); exact Kd.V_mono HO2_2.out (fun _ hk => ⟨hk.1.1, ⟨hk.2, ⟨hk.1.2.1, hk.1.2.2⟩⟩⟩)), (by (with_reducible repeat (first | refine blk_drewN ?_ _ | refine blk_drew ?_ | refine blk_alloc ?_ _)); exact BK127.out), (by repeat (first | (with_reducible first | exact HB.out | apply below_alloc | apply pw_below_drewN | apply below_drew1 | refine below_set ?_ GE127.out) | exact HB.out))⟩)
          rintro ⟨v150, v153, v156⟩ w65 ⟨hS_, h0_, h1_, h2_, h3_, h4_, h5_⟩
          have n0_ : Aside0 (Kd.V k41 41 w65 w.heap.size (fun k_ => ((P0_ k_ ∨ P2_2_ k_) ∨ w.heap.size ≤ k_) ∧ some k_ ≠ (v153 : Value).ownBlock ∧ some k_ ≠ (v156 : Value).ownBlock ∧ k_ ≠ gb127) (.slice A0 l0.length c0) l0) := ⟨h0_⟩
          have n1_ : Aside0 (Kd.N k41 41 w65 w.heap.size (fun k_ => ((P0_ k_ ∨ P2_2_ k_) ∨ w.heap.size ≤ k_) ∧ some k_ ≠ (v156 : Value).ownBlock ∧ k_ ≠ gb127) v153 y152) := ⟨h1_⟩
          have n2_ : Aside0 (Kd.N k41 41 w65 w.heap.size (fun k_ => ((P0_ k_ ∨ P2_2_ k_) ∨ w.heap.size ≤ k_) ∧ some k_ ≠ (v153 : Value).ownBlock ∧ k_ ≠ gb127) v156 y155) := ⟨h2_⟩
          have n3_ : Aside0 (Kd.V Kd.string 9 w65 w.heap.size (fun k_ => ((P0_ k_ ∨ P2_2_ k_) ∨ w.heap.size ≤ k_) ∧ some k_ ≠ (v153 : Value).ownBlock ∧ some k_ ≠ (v156 : Value).ownBlock ∧ k_ ≠ gb127) (.slice A2_2 l2_2.length c2_2) l2_2) := ⟨h3_⟩
          have n4_ : Aside0 (w65.heap[gb127]? = some (.cells #[.string a2_0, .string a2_1, .slice A2_2 l2_2.length c2_2] 41 (0, 0))) := ⟨h4_⟩
          have n5_ : Aside0 (Below w.heap.size w w65) := ⟨h5_⟩
          clear HO0
          clear HO2_2
          clear BK127
          clear HB
          clear h0_ h1_ h2_ h3_ h4_ h5_
          have HO0 := n0_
          have HO154 := n1_
          have HO157 := n2_
          have HO2_2 := n3_
          have BK127 := n4_
          have HB := n5_
          clear n0_ n1_ n2_ n3_ n4_ n5_
          have hHeld : w65.cell? ⟨gb127, 0, none⟩ = some (.string a2_0) ∧ w65.cell? ⟨gb127, 1, none⟩ = some (.string a2_1) ∧ w65.cell? ⟨gb127, 2, none⟩ = some (.slice A2_2 l2_2.length c2_2) := hS_
          obtain ⟨Ao67, co67, eo67⟩ := Kd.N_slice HO157.out
          (first | subst eo67 | (injection eo67 with f1_ f2_ f3_; have f4_ := f1_.symm; have f5_ := f3_.symm; clear f1_ f2_ f3_; subst f4_; subst f5_))
          refine norm_ (a' := ?_) ?_ ?_
          rotate_left
          · simp only [putAll, Act.put, List.setIfInBounds_toArray, List.set_cons_zero, List.set_cons_succ]
            rfl
          refine one_ (i := 5) (N := some 23) #[true, true, true, true, true, true, false] rfl rfl (by kernel_rfl) (by decide) (fun K hK => ?_)
          refine Kd.N_append_rows_step k41 (w0 := w) w.heap.size (by rfl) (.tmp 20) (.tmp 22) 37 41 (.agg #[(.string ⟨#[]⟩), (.string ⟨#[]⟩), (.slice none 0 0)]) 56 rfl Try.underlying37 info41 rfl (by decide) (by omega) v153 y152 y155 _ _ _ (fun k_ => ((P0_ k_ ∨ P2_2_ k_) ∨ w.heap.size ≤ k_) ∧ k_ ≠ gb127) (fun k_ => ((fun k_ => ((P0_ k_ ∨ P2_2_ k_) ∨ w.heap.size ≤ k_) ∧ k_ ≠ gb127)) k_ ∧ some k_ ≠ (v153 : Value).ownBlock) rfl rfl ?aO ?aR (fun _ hk => hk) ?aF ?aB ?aS ?aL ?_
          (case aR => exact (by skip; exact Kd.N_F (Kd.N_mono (ok' := (fun k_ => ((fun k_ => ((P0_ k_ ∨ P2_2_ k_) ∨ w.heap.size ≤ k_) ∧ k_ ≠ gb127)) k_ ∧ some k_ ≠ (v153 : Value).ownBlock)) (HO157.out) (fun k_ hk => ⟨⟨hk.1, hk.2.2⟩, hk.2.1⟩))))
          (case aB => exact (by repeat (first | (with_reducible first | exact HB.out | apply below_alloc | apply pw_below_drewN | apply below_drew1 | refine below_set ?_ GE127.out) | exact HB.out)))
          (case aF => exact (fun k_ hk => ⟨(.inr (Nat.le_trans (below_size (by repeat (first | (with_reducible first | exact HB.out | apply below_alloc | apply pw_below_drewN | apply below_drew1 | refine below_set ?_ GE127.out) | exact HB.out))) hk)), Kd.freshB (g := gb127) (o := .cells #[.string a2_0, .string a2_1, .slice A2_2 l2_2.length c2_2] 41 (0, 0)) (by (with_reducible repeat (first | refine blk_drewN ?_ _ | refine blk_drew ?_ | refine blk_alloc ?_ _)); exact BK127.out) k_ hk⟩))
          (case aO => exact (by (with_reducible repeat (first | apply Kd.N_alloc | apply Kd.N_drewN | apply Kd.N_drew)); exact Kd.N_mono HO154.out (fun _ hk => ⟨hk.1, hk.2.2⟩)))
          (case aS => exact (below_size (by repeat (first | (with_reducible first | exact HB.out | apply below_alloc | apply pw_below_drewN | apply below_drew1 | refine below_set ?_ GE127.out) | exact HB.out))))
          (case aL => have := LMc41.out; omega)
          intro v159 w66 ho hb hg hat
          rw [← Ny158.out] at ho
          have n0_ := Aside0.mk (Kd.V_afterv (ok := (fun k_ => ((P0_ k_ ∨ P2_2_ k_) ∨ w.heap.size ≤ k_) ∧ some k_ ≠ (.slice Ao67 y155.length co67 : Value).ownBlock ∧ k_ ≠ gb127)) (by (with_reducible repeat (first | apply Kd.V_alloc | apply Kd.V_drewN | apply Kd.V_drew)); exact Kd.V_mono HO0.out (fun _ hk => ⟨⟨hk.1, ⟨hk.2.2.1, hk.2.2.2⟩⟩, hk.2.1⟩)) hg hat)
          have n1_ := Aside0.mk (Kd.V_afterv (ok := (fun k_ => ((P0_ k_ ∨ P2_2_ k_) ∨ w.heap.size ≤ k_) ∧ some k_ ≠ (.slice Ao67 y155.length co67 : Value).ownBlock ∧ k_ ≠ gb127)) (by (with_reducible repeat (first | apply Kd.V_alloc | apply Kd.V_drewN | apply Kd.V_drew)); exact Kd.V_mono HO2_2.out (fun _ hk => ⟨⟨hk.1, ⟨hk.2.2.1, hk.2.2.2⟩⟩, hk.2.1⟩)) hg hat)
          have n2_ := Aside0.mk (blk_grown (g := gb127) (o := .cells #[.string a2_0, .string a2_1, .slice A2_2 l2_2.length c2_2] 41 (0, 0)) (by (with_reducible repeat (first | refine blk_drewN ?_ _ | refine blk_drew ?_ | refine blk_alloc ?_ _)); exact BK127.out) hg (Kd.N_away HO154.out (fun _ hk => hk.2.2)))
          have n3_ := Aside0.mk (Kd.N_afterv (ok := (fun k_ => ((P0_ k_ ∨ P2_2_ k_) ∨ w.heap.size ≤ k_) ∧ k_ ≠ gb127)) (by (with_reducible repeat (first | apply Kd.N_alloc | apply Kd.N_drewN | apply Kd.N_drew)); exact Kd.N_mono HO157.out (fun _ hk => ⟨⟨hk.1, hk.2.2⟩, hk.2.1⟩)) hg hat)
          have n4_ := Aside0.mk (hb)
          have n5_ := Aside0.mk (ho)
          clear HO0
          clear HO2_2
          clear BK127
          clear HO157
          clear HB
          clear HO154
          have HO0 := n0_
          have HO2_2 := n1_
          have BK127 := n2_
          have HO157 := n3_
          have HB := n4_
          have HO160 := n5_
          clear n0_ n1_ n2_ n3_ n4_ n5_
          clear ho hb hg hat
          refine hK.out _ _ ⟨(blk_cell BK127.out 0).trans rfl, (blk_cell BK127.out 1).trans rfl, (blk_cell BK127.out 2).trans rfl⟩ (fun hHeld => ?_)
          clear hK K
          refine norm_ (a' := ?_) ?_ ?_
          rotate_left
          · show Act.put _ (some 23) _ = _
            simp only [Act.put, List.setIfInBounds_toArray, List.set_cons_zero, List.set_cons_succ, i64_w, i32_w]
            rfl
          refine pure_ (i := 6) (N := some 8) (v := ?_) (a' := ?_) #[true, true, true, true, true, true, true] rfl rfl (by kernel_rfl) (fun _ _ _ h => h) (Or.inl ⟨by rfl, ?_⟩) ?_ ?_
          rotate_left
          · intro w'
            go_simp
            with_reducible rfl
          rotate_left
          · simp only [Act.put, List.setIfInBounds_toArray, List.set_cons_zero, List.set_cons_succ, i64_w, i32_w]
            rfl
          refine done_ (by kernel_rfl) ?_
          obtain ⟨Ao68, co68, eo68⟩ := Kd.N_slice HO160.out
          subst eo68
          try go_wp2
          go_ret
          exact ⟨_, by first | rfl | (simp [errW_none, errW_some] <;> rfl) | (simp [*, errW_none, errW_some] <;> rfl), Kd.N_V (by (with_reducible repeat (first | apply Kd.N_alloc | apply Kd.N_drewN | apply Kd.N_drew)); exact Kd.N_mono HO160.out (fun _ hk => hk.1)), by repeat (first | (with_reducible first | exact HB.out | apply below_alloc | apply pw_below_drewN | apply below_drew1 | refine below_set ?_ GE127.out) | exact HB.out)⟩
      · rw [if_neg c41] at H
        exact absurd H (by simp)
    · rw [if_neg c40] at H
      exact absurd H (by simp)

end Go.Proofs.Ytbdikfadnfjmoaa.PCachePlays
