/- season: May, the sums' closure. -/
import Derived.Test.YtfolnnmgnkalkaaPanLawPlays
namespace Go.Proofs.Pan
open Go.RowKit Go.Cic Go.ChangeMaps
set_option linter.unusedVariables false
set_option linter.unusedSimpArgs false
set_option maxRecDepth 100000
/-- May it be? -/
def smay (P Bk W : Int) : Prop := 1 ≤ W ∧ 1 ≤ P ∧ P ≤ 1099511627776 ∧ P % W = 0 ∧ 1 ≤ Bk ∧ Bk ≤ 1000
instance (P Bk W : Int) : Decidable (smay P Bk W) := by unfold smay; infer_instance
theorem tmod_zero {P W : Int} (h1 : 1 ≤ P) : P.tmod W = P % W := Int.tmod_eq_emod_of_nonneg (by omega)
set_option maxHeartbeats 2000000 in
theorem may_gen (f : FuncId) (hf : f = 34 ∨ f = 35) (P Bk W : Int) (w : World) (hP1 : -9223372036854775808 ≤ P) (hP2 : P ≤ 9223372036854775807) (hB1 : -9223372036854775808 ≤ Bk) (hB2 : Bk ≤ 9223372036854775807) (hW1 : -9223372036854775808 ≤ W) (hW2 : W ≤ 9223372036854775807) :
    Calls Try.prog f #[.agg #[.int .i64 P, .int .i64 Bk], .int .i64 W] w fun e w' => e = .returned (.bool (decide (smay P Bk W))) ∧ Below w.heap.size w w' := by
  have hcs : (W < 1 ∧ ¬ smay P Bk W) ∨ (1 ≤ W ∧ P < 1 ∧ ¬ smay P Bk W) ∨ (1 ≤ W ∧ 1 ≤ P ∧ 1099511627776 < P ∧ ¬ smay P Bk W) ∨ (1 ≤ W ∧ 1 ≤ P ∧ P ≤ 1099511627776 ∧ (P % W == 0) = false ∧ ¬ smay P Bk W) ∨ (1 ≤ W ∧ 1 ≤ P ∧ P ≤ 1099511627776 ∧ (P % W == 0) = true ∧ Bk < 1 ∧ ¬ smay P Bk W)
      ∨ (1 ≤ W ∧ 1 ≤ P ∧ P ≤ 1099511627776 ∧ (P % W == 0) = true ∧ 1 ≤ Bk ∧ 1000 < Bk ∧ ¬ smay P Bk W) ∨ (1 ≤ W ∧ 1 ≤ P ∧ P ≤ 1099511627776 ∧ (P % W == 0) = true ∧ 1 ≤ Bk ∧ Bk ≤ 1000 ∧ smay P Bk W) := by
    unfold smay
    by_cases h4 : P % W = 0
    · have : (P % W == 0) = true := by simpa using h4
      simp only [h4, this, true_and]; simp; omega
    · have : (P % W == 0) = false := by simpa using h4
      simp only [h4, this, true_and, false_and]; simp; omega
  rcases hf with rfl | rfl
  · rcases hcs with ⟨h1, hs⟩ | ⟨h1, h2, hs⟩ | ⟨h1, h2, h3, hs⟩ | ⟨h1, h2, h3, h4, hs⟩ | ⟨h1, h2, h3, h4, h5, hs⟩ | ⟨h1, h2, h3, h4, h5, h6, hs⟩ | ⟨h1, h2, h3, h4, h5, h6, hs⟩
    all_goals
      first | rw [decide_eq_false hs] | rw [decide_eq_true hs]
      clear hs
      go_enter Try.func34, Try.ntmps34
      go_wp2_with fail
      go_ret
      first | exact ⟨rfl, (Below.refl _ _).alloc (Nat.le_refl _) _⟩ | exact ⟨ret_bool (decide_eq_true (by omega)), (Below.refl _ _).alloc (Nat.le_refl _) _⟩ | exact ⟨ret_bool (decide_eq_false (by omega)), (Below.refl _ _).alloc (Nat.le_refl _) _⟩
  · rcases hcs with ⟨h1, hs⟩ | ⟨h1, h2, hs⟩ | ⟨h1, h2, h3, hs⟩ | ⟨h1, h2, h3, h4, hs⟩ | ⟨h1, h2, h3, h4, h5, hs⟩ | ⟨h1, h2, h3, h4, h5, h6, hs⟩ | ⟨h1, h2, h3, h4, h5, h6, hs⟩
    all_goals
      first | rw [decide_eq_false hs] | rw [decide_eq_true hs]
      clear hs
      go_enter Try.func35, Try.ntmps35
      go_wp2_with fail
      go_ret
      first | exact ⟨rfl, (Below.refl _ _).alloc (Nat.le_refl _) _⟩ | exact ⟨ret_bool (decide_eq_true (by omega)), (Below.refl _ _).alloc (Nat.le_refl _) _⟩ | exact ⟨ret_bool (decide_eq_false (by omega)), (Below.refl _ _).alloc (Nat.le_refl _) _⟩
theorem may_any (P Bk W : Int) (w : World) (hP1 : -9223372036854775808 ≤ P) (hP2 : P ≤ 9223372036854775807) (hB1 : -9223372036854775808 ≤ Bk) (hB2 : Bk ≤ 9223372036854775807) (hW1 : -9223372036854775808 ≤ W) (hW2 : W ≤ 9223372036854775807) :
    Calls Try.prog 34 #[.agg #[.int .i64 P, .int .i64 Bk], .int .i64 W] w fun e w' => e = .returned (.bool (decide (smay P Bk W))) ∧ Below w.heap.size w w' := may_gen 34 (.inl rfl) P Bk W w hP1 hP2 hB1 hB2 hW1 hW2
theorem refmay_any (P Bk W : Int) (w : World) (hP1 : -9223372036854775808 ≤ P) (hP2 : P ≤ 9223372036854775807) (hB1 : -9223372036854775808 ≤ Bk) (hB2 : Bk ≤ 9223372036854775807) (hW1 : -9223372036854775808 ≤ W) (hW2 : W ≤ 9223372036854775807) :
    Calls Try.prog 35 #[.agg #[.int .i64 P, .int .i64 Bk], .int .i64 W] w fun e w' => e = .returned (.bool (decide (smay P Bk W))) ∧ Below w.heap.size w w' := may_gen 35 (.inr rfl) P Bk W w hP1 hP2 hB1 hB2 hW1 hW2
/-- Of no panes nothing is told. -/
theorem sums_nil (P Bk now : Int) (w : World) : Calls Try.prog 53 #[.agg #[.int .i64 P, .int .i64 Bk], .pointer none, .int .i64 now] w fun e w' => (∃ v, e = .returned (.tuple #[v, .bool false])) ∧ Below w.heap.size w w' := by
  go_enter Try.func53, Try.ntmps53
  go_wp2_with fail
  go_quiet (fail)
  go_wp2_with fail
  refine bodyPost_ret (v := .tuple #[.nilFunc, .bool false]) (by simp [results, Try.results53, go_sem]) rfl ⟨⟨_, rfl⟩, ?_⟩
  exact ((((Below.refl _ w).alloc (Nat.le_refl _) _).alloc (by simp) _).trans (Below.drewN' _ nq |>.mono (by simp; omega)))
def sok (P Bk W now : Int) : Prop := smay P Bk W ∧ 0 ≤ now ∧ now ≤ 1099511627776
instance (P Bk W now : Int) : Decidable (sok P Bk W now) := by unfold sok; infer_instance
theorem panR_width {B p : Nat} {W : Int} {acts : List Act'} {l : List Asrt} {w : World} (h : Owns B (PanR p W acts :: l) w) : w.cell? ⟨p, 0, none⟩ = some (.int .i64 W) := by
  obtain ⟨_, _, _, h⟩ := panR_iff.1 h
  exact pan_cell h
set_option maxHeartbeats 2000000 in
theorem sums_no {B p : Nat} {W : Int} {acts : List Act'} {l : List Asrt} {w : World} (P Bk now : Int) (hO : Owns B (PanR p W acts :: l) w) (hB : B ≤ w.heap.size) (hP1 : -9223372036854775808 ≤ P) (hP2 : P ≤ 9223372036854775807) (hB1 : -9223372036854775808 ≤ Bk) (hB2 : Bk ≤ 9223372036854775807) (hW1 : 1 ≤ W) (hW2 : W ≤ 1099511627776) (hn1 : -9223372036854775808 ≤ now) (hn2 : now ≤ 9223372036854775807) (h : ¬ sok P Bk W now) :
    Calls Try.prog 53 #[.agg #[.int .i64 P, .int .i64 Bk], .pointer (some ⟨p, 0, none⟩), .int .i64 now] w fun e w' => (∃ v, e = .returned (.tuple #[v, .bool false])) ∧ Owns B (PanR p W acts :: l) w' ∧ Below B w w' := by
  have hcs : ¬ smay P Bk W ∨ (smay P Bk W ∧ now < 0) ∨ (smay P Bk W ∧ 0 ≤ now ∧ 1099511627776 < now) := by
    unfold sok at h
    by_cases hm : smay P Bk W
    · simp only [hm, true_and] at h ⊢; omega
    · exact .inl hm
  have hk : Below w.heap.size w (((w.alloc (.cells #[.int .i64 P, .int .i64 Bk] 53)).alloc (.cells #[.pointer (some ⟨p, 0, none⟩)] 25)).drew) := ((((Below.refl _ w).alloc (Nat.le_refl _) _).alloc (by simp) _).drew)
  have hO2 : Owns B (Asrt.cells (w.heap.size + 1) #[.pointer (some ⟨p, 0, none⟩)] 25 :: Asrt.cells w.heap.size #[.int .i64 P, .int .i64 Bk] 53 :: PanR p W acts :: l) (((w.alloc (.cells #[.int .i64 P, .int .i64 Bk] 53)).alloc (.cells #[.pointer (some ⟨p, 0, none⟩)] 25)).drew) := by
    have := (((hO.alloc_cells hB #[.int .i64 P, .int .i64 Bk] 53).alloc_cells (by simp; omega) #[.pointer (some ⟨p, 0, none⟩)] 25).drew)
    simpa using this
  have c0 := panR_width (hO2.front 2 _ rfl)
  have hwd := width_any p W _ c0
  have hS : ∀ W', Below (((w.alloc (.cells #[.int .i64 P, .int .i64 Bk] 53)).alloc (.cells #[.pointer (some ⟨p, 0, none⟩)] 25)).drew).heap.size (((w.alloc (.cells #[.int .i64 P, .int .i64 Bk] 53)).alloc (.cells #[.pointer (some ⟨p, 0, none⟩)] 25)).drew) W' → W'.cell? ⟨w.heap.size, 0, none⟩ = some (.int .i64 P) ∧ W'.cell? ⟨w.heap.size, 1, none⟩ = some (.int .i64 Bk) ∧ W'.cell? ⟨w.heap.size + 1, 0, none⟩ = some (.pointer (some ⟨p, 0, none⟩)) := fun W' hb => by
    have hO3 := hO2.keep hb
    exact ⟨by rw [cell_of hO3.tail.cellsE.1]; rfl, by rw [cell_of hO3.tail.cellsE.1]; rfl, by rw [cell_of hO3.cellsE.1]; rfl⟩
  have hS0 := hS _ (Below.refl _ _)
  have hmay := fun (W0 : World) => may_any P Bk W W0 hP1 hP2 hB1 hB2 (by omega) (by omega)
  clear h
  rcases hcs with h | ⟨h, h2⟩ | ⟨h, h2, h3⟩
  · have hmay := fun W0 => (decide_eq_false h) ▸ hmay W0
    go_enter Try.func53, Try.ntmps53
    go_wp2_with fail
    refine wp_region_held_drew (S := fun w' => w'.cell? ⟨w.heap.size, 0, none⟩ = some (.int .i64 P) ∧ w'.cell? ⟨w.heap.size, 1, none⟩ = some (.int .i64 Bk) ∧ w'.cell? ⟨w.heap.size + 1, 0, none⟩ = some (.pointer (some ⟨p, 0, none⟩))) (by kernel_rfl) ?_ (fun hHeld => ?_)
    · (try dsimp only); first | exact hS0 | assumption
    refine wpAnyH_take (i := 0) (v := ?_) (by simp only [List.getElem?_toArray, List.getElem?_cons_succ, List.getElem?_cons_zero]; exact rfl) (by kernel_rfl) (by kernel_rfl) (by kernel_rfl) (by exact fun _ _ _ h => h) (Or.inl ⟨by rfl, ?_⟩) (by assumption) ?_; rotate_left; (intro w hSw; (try dsimp only at hSw); go_simp; try with_reducible rfl); try simp only [Act.put, List.setIfInBounds_toArray, List.set_cons_zero, List.set_cons_succ]
    refine wpAnyH_take (i := 1) (v := ?_) (by simp only [List.getElem?_toArray, List.getElem?_cons_succ, List.getElem?_cons_zero]; exact rfl) (by kernel_rfl) (by kernel_rfl) (by kernel_rfl) (by exact fun _ _ _ h => h) (Or.inl ⟨by rfl, ?_⟩) (by assumption) ?_; rotate_left; (intro w hSw; (try dsimp only at hSw); go_simp; try with_reducible rfl); try simp only [Act.put, List.setIfInBounds_toArray, List.set_cons_zero, List.set_cons_succ]
    refine wpAnyH_take (i := 2) (v := ?_) (by simp only [List.getElem?_toArray, List.getElem?_cons_succ, List.getElem?_cons_zero]; exact rfl) (by kernel_rfl) (by kernel_rfl) (by kernel_rfl) (by exact fun _ _ _ h => h) (Or.inl ⟨by rfl, ?_⟩) (by assumption) ?_; rotate_left; (intro w hSw; (try dsimp only at hSw); go_simp; try with_reducible rfl); try simp only [Act.put, List.setIfInBounds_toArray, List.set_cons_zero, List.set_cons_succ]
    refine wpAnyH_take (i := 3) (v := ?_) (by simp only [List.getElem?_toArray, List.getElem?_cons_succ, List.getElem?_cons_zero]; exact rfl) (by kernel_rfl) (by kernel_rfl) (by kernel_rfl) (by exact fun _ _ _ h => h) (Or.inl ⟨by rfl, ?_⟩) (by assumption) ?_; rotate_left; (intro w hSw; (try dsimp only at hSw); go_simp; try with_reducible rfl); try simp only [Act.put, List.setIfInBounds_toArray, List.set_cons_zero, List.set_cons_succ]
    refine wpAnyH_take (i := 4) (v := ?_) (by simp only [List.getElem?_toArray, List.getElem?_cons_succ, List.getElem?_cons_zero]; exact rfl) (by kernel_rfl) (by kernel_rfl) (by kernel_rfl) (by exact fun _ _ _ h => h) (Or.inl ⟨by rfl, ?_⟩) (by assumption) ?_; rotate_left; (intro w hSw; (try dsimp only at hSw); go_simp; try with_reducible rfl); try simp only [Act.put, List.setIfInBounds_toArray, List.set_cons_zero, List.set_cons_succ]
    refine wpAnyH_ready (rs := [5]) (by kernel_rfl) (by simp) ?_
    refine AllReadyH.cons (by simp only [List.getElem?_toArray, List.getElem?_cons_succ, List.getElem?_cons_zero]; exact rfl) (fun K hK => ?_) AllReadyH.nil
    go_simp
    refine hwd.mono ?_
    rintro e w' ⟨rfl, rfl⟩
    go_wp2_with fail
    refine hK.out _ _ ?_ (fun hHeld => ?_)
    · (try dsimp only); first | exact hS0 | assumption
    clear hK K
    try simp only [Act.put, List.setIfInBounds_toArray, List.set_cons_zero, List.set_cons_succ]
    refine wpAnyH_ready (rs := [6]) (by kernel_rfl) (by simp) ?_
    refine AllReadyH.cons (by simp only [List.getElem?_toArray, List.getElem?_cons_succ, List.getElem?_cons_zero]; exact rfl) (fun K hK => ?_) AllReadyH.nil
    go_simp
    refine (hmay _).mono ?_
    rintro e w5 ⟨rfl, b5⟩
    have hS5 := hS w5 b5
    go_wp2_with fail
    refine hK.out _ _ ?_ (fun hHeld => ?_)
    · (try dsimp only); first | exact hS0 | assumption
    clear hK K
    try simp only [Act.put, List.setIfInBounds_toArray, List.set_cons_zero, List.set_cons_succ]
    refine wpAnyH_take (i := 7) (v := ?_) (by simp only [List.getElem?_toArray, List.getElem?_cons_succ, List.getElem?_cons_zero]; exact rfl) (by kernel_rfl) (by kernel_rfl) (by kernel_rfl) (by exact fun _ _ _ h => h) (Or.inl ⟨by rfl, ?_⟩) (by assumption) ?_; rotate_left; (intro w hSw; (try dsimp only at hSw); go_simp; try with_reducible rfl); try simp only [Act.put, List.setIfInBounds_toArray, List.set_cons_zero, List.set_cons_succ]
    refine wpAnyH_take (i := 8) (v := ?_) (by simp only [List.getElem?_toArray, List.getElem?_cons_succ, List.getElem?_cons_zero]; exact rfl) (by kernel_rfl) (by kernel_rfl) (by kernel_rfl) (by exact fun _ _ _ h => h) (Or.inl ⟨by rfl, ?_⟩) (by assumption) ?_; rotate_left; (intro w hSw; (try dsimp only at hSw); go_simp; try with_reducible rfl); try simp only [Act.put, List.setIfInBounds_toArray, List.set_cons_zero, List.set_cons_succ]
    refine wpAnyH_take (i := 9) (v := ?_) (by simp only [List.getElem?_toArray, List.getElem?_cons_succ, List.getElem?_cons_zero]; exact rfl) (by kernel_rfl) (by kernel_rfl) (by kernel_rfl) (by exact fun _ _ _ h => h) (Or.inl ⟨by rfl, ?_⟩) (by assumption) ?_; rotate_left; (intro w hSw; (try dsimp only at hSw); go_simp; try with_reducible rfl); try simp only [Act.put, List.setIfInBounds_toArray, List.set_cons_zero, List.set_cons_succ]
    refine wpAnyH_take (i := 10) (v := undef) (by simp only [List.getElem?_toArray, List.getElem?_cons_succ, List.getElem?_cons_zero]; exact rfl) (by kernel_rfl) (by kernel_rfl) (by kernel_rfl) (by exact fun _ _ _ h => h) (Or.inr ⟨by rfl, rfl⟩) (by assumption) ?_; try simp only [Act.put, List.setIfInBounds_toArray, List.set_cons_zero, List.set_cons_succ]
    refine wpAnyH_take (i := 11) (v := undef) (by simp only [List.getElem?_toArray, List.getElem?_cons_succ, List.getElem?_cons_zero]; exact rfl) (by kernel_rfl) (by kernel_rfl) (by kernel_rfl) (by exact fun _ _ _ h => h) (Or.inr ⟨by rfl, rfl⟩) (by assumption) ?_; try simp only [Act.put, List.setIfInBounds_toArray, List.set_cons_zero, List.set_cons_succ]
    refine wpAnyH_take (i := 12) (v := ?_) (by simp only [List.getElem?_toArray, List.getElem?_cons_succ, List.getElem?_cons_zero]; exact rfl) (by kernel_rfl) (by kernel_rfl) (by kernel_rfl) (by exact fun _ _ _ h => h) (Or.inl ⟨by rfl, ?_⟩) (by assumption) ?_; rotate_left; (intro w hSw; (try dsimp only at hSw); go_simp; try with_reducible rfl); try simp only [Act.put, List.setIfInBounds_toArray, List.set_cons_zero, List.set_cons_succ]
    refine wpAnyH_take (i := 13) (v := ?_) (by simp only [List.getElem?_toArray, List.getElem?_cons_succ, List.getElem?_cons_zero]; exact rfl) (by kernel_rfl) (by kernel_rfl) (by kernel_rfl) (by exact fun _ _ _ h => h) (Or.inl ⟨by rfl, ?_⟩) (by assumption) ?_; rotate_left; (intro w hSw; (try dsimp only at hSw); go_simp; try with_reducible rfl); try simp only [Act.put, List.setIfInBounds_toArray, List.set_cons_zero, List.set_cons_succ]
    refine wpAnyH_take (i := 14) (v := undef) (by simp only [List.getElem?_toArray, List.getElem?_cons_succ, List.getElem?_cons_zero]; exact rfl) (by kernel_rfl) (by kernel_rfl) (by kernel_rfl) (by exact fun _ _ _ h => h) (Or.inr ⟨by rfl, rfl⟩) (by assumption) ?_; try simp only [Act.put, List.setIfInBounds_toArray, List.set_cons_zero, List.set_cons_succ]
    refine wpAnyH_take (i := 15) (v := undef) (by simp only [List.getElem?_toArray, List.getElem?_cons_succ, List.getElem?_cons_zero]; exact rfl) (by kernel_rfl) (by kernel_rfl) (by kernel_rfl) (by exact fun _ _ _ h => h) (Or.inr ⟨by rfl, rfl⟩) (by assumption) ?_; try simp only [Act.put, List.setIfInBounds_toArray, List.set_cons_zero, List.set_cons_succ]
    refine wpAnyH_take (i := 16) (v := ?_) (by simp only [List.getElem?_toArray, List.getElem?_cons_succ, List.getElem?_cons_zero]; exact rfl) (by kernel_rfl) (by kernel_rfl) (by kernel_rfl) (by exact fun _ _ _ h => h) (Or.inl ⟨by rfl, ?_⟩) (by assumption) ?_; rotate_left; (intro w hSw; (try dsimp only at hSw); go_simp; try with_reducible rfl); try simp only [Act.put, List.setIfInBounds_toArray, List.set_cons_zero, List.set_cons_succ]
    refine wpAnyH_done (by kernel_rfl) ?_ _
    go_wp2_with fail
    refine bodyPost_ret (v := .tuple #[.nilFunc, .bool false]) (by simp [results, Try.results53, go_sem]) rfl ⟨⟨_, rfl⟩, hO.keep (hk.trans (b5.mono hk.size)), (hk.trans (b5.mono hk.size)).mono hB⟩
  · have hmay := fun W0 => (decide_eq_true h) ▸ hmay W0
    go_enter Try.func53, Try.ntmps53
    go_wp2_with fail
    have t1 : decide (now < 0) = true := by first | exact decide_eq_false (by omega) | exact decide_eq_true (by omega)
    have t2 : decide (1099511627776 < now) = false := by first | exact decide_eq_false (by omega) | exact decide_eq_true (by omega)
    refine wp_region_held_drew (S := fun w' => w'.cell? ⟨w.heap.size, 0, none⟩ = some (.int .i64 P) ∧ w'.cell? ⟨w.heap.size, 1, none⟩ = some (.int .i64 Bk) ∧ w'.cell? ⟨w.heap.size + 1, 0, none⟩ = some (.pointer (some ⟨p, 0, none⟩))) (by kernel_rfl) ?_ (fun hHeld => ?_)
    · (try dsimp only); first | exact hS0 | assumption
    refine wpAnyH_take (i := 0) (v := ?_) (by simp only [List.getElem?_toArray, List.getElem?_cons_succ, List.getElem?_cons_zero]; exact rfl) (by kernel_rfl) (by kernel_rfl) (by kernel_rfl) (by exact fun _ _ _ h => h) (Or.inl ⟨by rfl, ?_⟩) (by assumption) ?_; rotate_left; (intro w hSw; (try dsimp only at hSw); go_simp; try with_reducible rfl); try simp only [Act.put, List.setIfInBounds_toArray, List.set_cons_zero, List.set_cons_succ]
    refine wpAnyH_take (i := 1) (v := ?_) (by simp only [List.getElem?_toArray, List.getElem?_cons_succ, List.getElem?_cons_zero]; exact rfl) (by kernel_rfl) (by kernel_rfl) (by kernel_rfl) (by exact fun _ _ _ h => h) (Or.inl ⟨by rfl, ?_⟩) (by assumption) ?_; rotate_left; (intro w hSw; (try dsimp only at hSw); go_simp; try with_reducible rfl); try simp only [Act.put, List.setIfInBounds_toArray, List.set_cons_zero, List.set_cons_succ]
    refine wpAnyH_take (i := 2) (v := ?_) (by simp only [List.getElem?_toArray, List.getElem?_cons_succ, List.getElem?_cons_zero]; exact rfl) (by kernel_rfl) (by kernel_rfl) (by kernel_rfl) (by exact fun _ _ _ h => h) (Or.inl ⟨by rfl, ?_⟩) (by assumption) ?_; rotate_left; (intro w hSw; (try dsimp only at hSw); go_simp; try with_reducible rfl); try simp only [Act.put, List.setIfInBounds_toArray, List.set_cons_zero, List.set_cons_succ]
    refine wpAnyH_take (i := 3) (v := ?_) (by simp only [List.getElem?_toArray, List.getElem?_cons_succ, List.getElem?_cons_zero]; exact rfl) (by kernel_rfl) (by kernel_rfl) (by kernel_rfl) (by exact fun _ _ _ h => h) (Or.inl ⟨by rfl, ?_⟩) (by assumption) ?_; rotate_left; (intro w hSw; (try dsimp only at hSw); go_simp; try with_reducible rfl); try simp only [Act.put, List.setIfInBounds_toArray, List.set_cons_zero, List.set_cons_succ]
    refine wpAnyH_take (i := 4) (v := ?_) (by simp only [List.getElem?_toArray, List.getElem?_cons_succ, List.getElem?_cons_zero]; exact rfl) (by kernel_rfl) (by kernel_rfl) (by kernel_rfl) (by exact fun _ _ _ h => h) (Or.inl ⟨by rfl, ?_⟩) (by assumption) ?_; rotate_left; (intro w hSw; (try dsimp only at hSw); go_simp; try with_reducible rfl); try simp only [Act.put, List.setIfInBounds_toArray, List.set_cons_zero, List.set_cons_succ]
    refine wpAnyH_ready (rs := [5]) (by kernel_rfl) (by simp) ?_
    refine AllReadyH.cons (by simp only [List.getElem?_toArray, List.getElem?_cons_succ, List.getElem?_cons_zero]; exact rfl) (fun K hK => ?_) AllReadyH.nil
    go_simp
    refine hwd.mono ?_
    rintro e w' ⟨rfl, rfl⟩
    go_wp2_with fail
    refine hK.out _ _ ?_ (fun hHeld => ?_)
    · (try dsimp only); first | exact hS0 | assumption
    clear hK K
    try simp only [Act.put, List.setIfInBounds_toArray, List.set_cons_zero, List.set_cons_succ]
    refine wpAnyH_ready (rs := [6]) (by kernel_rfl) (by simp) ?_
    refine AllReadyH.cons (by simp only [List.getElem?_toArray, List.getElem?_cons_succ, List.getElem?_cons_zero]; exact rfl) (fun K hK => ?_) AllReadyH.nil
    go_simp
    refine (hmay _).mono ?_
    rintro e w5 ⟨rfl, b5⟩
    have hS5 := hS w5 b5
    go_wp2_with fail
    refine hK.out _ _ ?_ (fun hHeld => ?_)
    · (try dsimp only); first | exact hS0 | assumption
    clear hK K
    try simp only [Act.put, List.setIfInBounds_toArray, List.set_cons_zero, List.set_cons_succ]
    refine wpAnyH_take (i := 7) (v := ?_) (by simp only [List.getElem?_toArray, List.getElem?_cons_succ, List.getElem?_cons_zero]; exact rfl) (by kernel_rfl) (by kernel_rfl) (by kernel_rfl) (by exact fun _ _ _ h => h) (Or.inl ⟨by rfl, ?_⟩) (by assumption) ?_; rotate_left; (intro w hSw; (try dsimp only at hSw); go_simp; try with_reducible rfl); try simp only [Act.put, List.setIfInBounds_toArray, List.set_cons_zero, List.set_cons_succ]
    refine wpAnyH_take (i := 8) (v := ?_) (by simp only [List.getElem?_toArray, List.getElem?_cons_succ, List.getElem?_cons_zero]; exact rfl) (by kernel_rfl) (by kernel_rfl) (by kernel_rfl) (by exact fun _ _ _ h => h) (Or.inl ⟨by rfl, ?_⟩) (by assumption) ?_; rotate_left; (intro w hSw; (try dsimp only at hSw); go_simp; try with_reducible rfl); try simp only [Act.put, List.setIfInBounds_toArray, List.set_cons_zero, List.set_cons_succ]
    refine wpAnyH_take (i := 9) (v := ?_) (by simp only [List.getElem?_toArray, List.getElem?_cons_succ, List.getElem?_cons_zero]; exact rfl) (by kernel_rfl) (by kernel_rfl) (by kernel_rfl) (by exact fun _ _ _ h => h) (Or.inl ⟨by rfl, ?_⟩) (by assumption) ?_; rotate_left; (intro w hSw; (try dsimp only at hSw); go_simp; try with_reducible rfl); try simp only [Act.put, List.setIfInBounds_toArray, List.set_cons_zero, List.set_cons_succ]
    refine wpAnyH_take (i := 10) (v := ?_) (by simp only [List.getElem?_toArray, List.getElem?_cons_succ, List.getElem?_cons_zero]; exact rfl) (by kernel_rfl) (by kernel_rfl) (by kernel_rfl) (by exact fun _ _ _ h => h) (Or.inl ⟨by rfl, ?_⟩) (by assumption) ?_; rotate_left; (intro w hSw; (try dsimp only at hSw); go_simp; try with_reducible rfl); try simp only [Act.put, List.setIfInBounds_toArray, List.set_cons_zero, List.set_cons_succ]
    refine wpAnyH_take (i := 11) (v := ?_) (by simp only [List.getElem?_toArray, List.getElem?_cons_succ, List.getElem?_cons_zero]; exact rfl) (by kernel_rfl) (by kernel_rfl) (by kernel_rfl) (by exact fun _ _ _ h => h) (Or.inl ⟨by rfl, ?_⟩) (by assumption) ?_; rotate_left; (intro w hSw; (try dsimp only at hSw); go_simp; try with_reducible rfl); try simp only [Act.put, List.setIfInBounds_toArray, List.set_cons_zero, List.set_cons_succ]
    refine wpAnyH_take (i := 12) (v := ?_) (by simp only [List.getElem?_toArray, List.getElem?_cons_succ, List.getElem?_cons_zero]; exact rfl) (by kernel_rfl) (by kernel_rfl) (by kernel_rfl) (by exact fun _ _ _ h => h) (Or.inl ⟨by rfl, ?_⟩) (by assumption) ?_; rotate_left; (intro w hSw; (try dsimp only at hSw); go_simp; try with_reducible rfl); try simp only [Act.put, List.setIfInBounds_toArray, List.set_cons_zero, List.set_cons_succ]
    refine wpAnyH_take (i := 13) (v := ?_) (by simp only [List.getElem?_toArray, List.getElem?_cons_succ, List.getElem?_cons_zero]; exact rfl) (by kernel_rfl) (by kernel_rfl) (by kernel_rfl) (by exact fun _ _ _ h => h) (Or.inl ⟨by rfl, ?_⟩) (by assumption) ?_; rotate_left; (intro w hSw; (try dsimp only at hSw); go_simp; try with_reducible rfl); try simp only [Act.put, List.setIfInBounds_toArray, List.set_cons_zero, List.set_cons_succ]
    refine wpAnyH_take (i := 14) (v := undef) (by simp only [List.getElem?_toArray, List.getElem?_cons_succ, List.getElem?_cons_zero]; exact rfl) (by kernel_rfl) (by kernel_rfl) (by kernel_rfl) (by exact fun _ _ _ h => h) (Or.inr ⟨by rfl, rfl⟩) (by assumption) ?_; try simp only [Act.put, List.setIfInBounds_toArray, List.set_cons_zero, List.set_cons_succ]
    refine wpAnyH_take (i := 15) (v := undef) (by simp only [List.getElem?_toArray, List.getElem?_cons_succ, List.getElem?_cons_zero]; exact rfl) (by kernel_rfl) (by kernel_rfl) (by kernel_rfl) (by exact fun _ _ _ h => h) (Or.inr ⟨by rfl, rfl⟩) (by assumption) ?_; try simp only [Act.put, List.setIfInBounds_toArray, List.set_cons_zero, List.set_cons_succ]
    refine wpAnyH_take (i := 16) (v := ?_) (by simp only [List.getElem?_toArray, List.getElem?_cons_succ, List.getElem?_cons_zero]; exact rfl) (by kernel_rfl) (by kernel_rfl) (by kernel_rfl) (by exact fun _ _ _ h => h) (Or.inl ⟨by rfl, ?_⟩) (by assumption) ?_; rotate_left; (intro w hSw; (try dsimp only at hSw); go_simp; try with_reducible rfl); try simp only [Act.put, List.setIfInBounds_toArray, List.set_cons_zero, List.set_cons_succ]
    refine wpAnyH_done (by kernel_rfl) ?_ _
    go_wp2_with fail
    refine bodyPost_ret (v := .tuple #[.nilFunc, .bool false]) (by simp [results, Try.results53, go_sem]) rfl ⟨⟨_, rfl⟩, hO.keep (hk.trans (b5.mono hk.size)), (hk.trans (b5.mono hk.size)).mono hB⟩
  · have hmay := fun W0 => (decide_eq_true h) ▸ hmay W0
    go_enter Try.func53, Try.ntmps53
    go_wp2_with fail
    have t1 : decide (now < 0) = false := by first | exact decide_eq_false (by omega) | exact decide_eq_true (by omega)
    have t2 : decide (1099511627776 < now) = true := by first | exact decide_eq_false (by omega) | exact decide_eq_true (by omega)
    refine wp_region_held_drew (S := fun w' => w'.cell? ⟨w.heap.size, 0, none⟩ = some (.int .i64 P) ∧ w'.cell? ⟨w.heap.size, 1, none⟩ = some (.int .i64 Bk) ∧ w'.cell? ⟨w.heap.size + 1, 0, none⟩ = some (.pointer (some ⟨p, 0, none⟩))) (by kernel_rfl) ?_ (fun hHeld => ?_)
    · (try dsimp only); first | exact hS0 | assumption
    refine wpAnyH_take (i := 0) (v := ?_) (by simp only [List.getElem?_toArray, List.getElem?_cons_succ, List.getElem?_cons_zero]; exact rfl) (by kernel_rfl) (by kernel_rfl) (by kernel_rfl) (by exact fun _ _ _ h => h) (Or.inl ⟨by rfl, ?_⟩) (by assumption) ?_; rotate_left; (intro w hSw; (try dsimp only at hSw); go_simp; try with_reducible rfl); try simp only [Act.put, List.setIfInBounds_toArray, List.set_cons_zero, List.set_cons_succ]
    refine wpAnyH_take (i := 1) (v := ?_) (by simp only [List.getElem?_toArray, List.getElem?_cons_succ, List.getElem?_cons_zero]; exact rfl) (by kernel_rfl) (by kernel_rfl) (by kernel_rfl) (by exact fun _ _ _ h => h) (Or.inl ⟨by rfl, ?_⟩) (by assumption) ?_; rotate_left; (intro w hSw; (try dsimp only at hSw); go_simp; try with_reducible rfl); try simp only [Act.put, List.setIfInBounds_toArray, List.set_cons_zero, List.set_cons_succ]
    refine wpAnyH_take (i := 2) (v := ?_) (by simp only [List.getElem?_toArray, List.getElem?_cons_succ, List.getElem?_cons_zero]; exact rfl) (by kernel_rfl) (by kernel_rfl) (by kernel_rfl) (by exact fun _ _ _ h => h) (Or.inl ⟨by rfl, ?_⟩) (by assumption) ?_; rotate_left; (intro w hSw; (try dsimp only at hSw); go_simp; try with_reducible rfl); try simp only [Act.put, List.setIfInBounds_toArray, List.set_cons_zero, List.set_cons_succ]
    refine wpAnyH_take (i := 3) (v := ?_) (by simp only [List.getElem?_toArray, List.getElem?_cons_succ, List.getElem?_cons_zero]; exact rfl) (by kernel_rfl) (by kernel_rfl) (by kernel_rfl) (by exact fun _ _ _ h => h) (Or.inl ⟨by rfl, ?_⟩) (by assumption) ?_; rotate_left; (intro w hSw; (try dsimp only at hSw); go_simp; try with_reducible rfl); try simp only [Act.put, List.setIfInBounds_toArray, List.set_cons_zero, List.set_cons_succ]
    refine wpAnyH_take (i := 4) (v := ?_) (by simp only [List.getElem?_toArray, List.getElem?_cons_succ, List.getElem?_cons_zero]; exact rfl) (by kernel_rfl) (by kernel_rfl) (by kernel_rfl) (by exact fun _ _ _ h => h) (Or.inl ⟨by rfl, ?_⟩) (by assumption) ?_; rotate_left; (intro w hSw; (try dsimp only at hSw); go_simp; try with_reducible rfl); try simp only [Act.put, List.setIfInBounds_toArray, List.set_cons_zero, List.set_cons_succ]
    refine wpAnyH_ready (rs := [5]) (by kernel_rfl) (by simp) ?_
    refine AllReadyH.cons (by simp only [List.getElem?_toArray, List.getElem?_cons_succ, List.getElem?_cons_zero]; exact rfl) (fun K hK => ?_) AllReadyH.nil
    go_simp
    refine hwd.mono ?_
    rintro e w' ⟨rfl, rfl⟩
    go_wp2_with fail
    refine hK.out _ _ ?_ (fun hHeld => ?_)
    · (try dsimp only); first | exact hS0 | assumption
    clear hK K
    try simp only [Act.put, List.setIfInBounds_toArray, List.set_cons_zero, List.set_cons_succ]
    refine wpAnyH_ready (rs := [6]) (by kernel_rfl) (by simp) ?_
    refine AllReadyH.cons (by simp only [List.getElem?_toArray, List.getElem?_cons_succ, List.getElem?_cons_zero]; exact rfl) (fun K hK => ?_) AllReadyH.nil
    go_simp
    refine (hmay _).mono ?_
    rintro e w5 ⟨rfl, b5⟩
    have hS5 := hS w5 b5
    go_wp2_with fail
    refine hK.out _ _ ?_ (fun hHeld => ?_)
    · (try dsimp only); first | exact hS0 | assumption
    clear hK K
    try simp only [Act.put, List.setIfInBounds_toArray, List.set_cons_zero, List.set_cons_succ]
    refine wpAnyH_take (i := 7) (v := ?_) (by simp only [List.getElem?_toArray, List.getElem?_cons_succ, List.getElem?_cons_zero]; exact rfl) (by kernel_rfl) (by kernel_rfl) (by kernel_rfl) (by exact fun _ _ _ h => h) (Or.inl ⟨by rfl, ?_⟩) (by assumption) ?_; rotate_left; (intro w hSw; (try dsimp only at hSw); go_simp; try with_reducible rfl); try simp only [Act.put, List.setIfInBounds_toArray, List.set_cons_zero, List.set_cons_succ]
    refine wpAnyH_take (i := 8) (v := ?_) (by simp only [List.getElem?_toArray, List.getElem?_cons_succ, List.getElem?_cons_zero]; exact rfl) (by kernel_rfl) (by kernel_rfl) (by kernel_rfl) (by exact fun _ _ _ h => h) (Or.inl ⟨by rfl, ?_⟩) (by assumption) ?_; rotate_left; (intro w hSw; (try dsimp only at hSw); go_simp; try with_reducible rfl); try simp only [Act.put, List.setIfInBounds_toArray, List.set_cons_zero, List.set_cons_succ]
    refine wpAnyH_take (i := 9) (v := ?_) (by simp only [List.getElem?_toArray, List.getElem?_cons_succ, List.getElem?_cons_zero]; exact rfl) (by kernel_rfl) (by kernel_rfl) (by kernel_rfl) (by exact fun _ _ _ h => h) (Or.inl ⟨by rfl, ?_⟩) (by assumption) ?_; rotate_left; (intro w hSw; (try dsimp only at hSw); go_simp; try with_reducible rfl); try simp only [Act.put, List.setIfInBounds_toArray, List.set_cons_zero, List.set_cons_succ]
    refine wpAnyH_take (i := 10) (v := ?_) (by simp only [List.getElem?_toArray, List.getElem?_cons_succ, List.getElem?_cons_zero]; exact rfl) (by kernel_rfl) (by kernel_rfl) (by kernel_rfl) (by exact fun _ _ _ h => h) (Or.inl ⟨by rfl, ?_⟩) (by assumption) ?_; rotate_left; (intro w hSw; (try dsimp only at hSw); go_simp; try with_reducible rfl); try simp only [Act.put, List.setIfInBounds_toArray, List.set_cons_zero, List.set_cons_succ]
    refine wpAnyH_take (i := 11) (v := ?_) (by simp only [List.getElem?_toArray, List.getElem?_cons_succ, List.getElem?_cons_zero]; exact rfl) (by kernel_rfl) (by kernel_rfl) (by kernel_rfl) (by exact fun _ _ _ h => h) (Or.inl ⟨by rfl, ?_⟩) (by assumption) ?_; rotate_left; (intro w hSw; (try dsimp only at hSw); go_simp; try with_reducible rfl); try simp only [Act.put, List.setIfInBounds_toArray, List.set_cons_zero, List.set_cons_succ]
    refine wpAnyH_take (i := 12) (v := ?_) (by simp only [List.getElem?_toArray, List.getElem?_cons_succ, List.getElem?_cons_zero]; exact rfl) (by kernel_rfl) (by kernel_rfl) (by kernel_rfl) (by exact fun _ _ _ h => h) (Or.inl ⟨by rfl, ?_⟩) (by assumption) ?_; rotate_left; (intro w hSw; (try dsimp only at hSw); go_simp; try with_reducible rfl); try simp only [Act.put, List.setIfInBounds_toArray, List.set_cons_zero, List.set_cons_succ]
    refine wpAnyH_take (i := 13) (v := ?_) (by simp only [List.getElem?_toArray, List.getElem?_cons_succ, List.getElem?_cons_zero]; exact rfl) (by kernel_rfl) (by kernel_rfl) (by kernel_rfl) (by exact fun _ _ _ h => h) (Or.inl ⟨by rfl, ?_⟩) (by assumption) ?_; rotate_left; (intro w hSw; (try dsimp only at hSw); go_simp; try with_reducible rfl); try simp only [Act.put, List.setIfInBounds_toArray, List.set_cons_zero, List.set_cons_succ]
    refine wpAnyH_take (i := 14) (v := ?_) (by simp only [List.getElem?_toArray, List.getElem?_cons_succ, List.getElem?_cons_zero]; exact rfl) (by kernel_rfl) (by kernel_rfl) (by kernel_rfl) (by exact fun _ _ _ h => h) (Or.inl ⟨by rfl, ?_⟩) (by assumption) ?_; rotate_left; (intro w hSw; (try dsimp only at hSw); go_simp; try with_reducible rfl); try simp only [Act.put, List.setIfInBounds_toArray, List.set_cons_zero, List.set_cons_succ]
    refine wpAnyH_take (i := 15) (v := ?_) (by simp only [List.getElem?_toArray, List.getElem?_cons_succ, List.getElem?_cons_zero]; exact rfl) (by kernel_rfl) (by kernel_rfl) (by kernel_rfl) (by exact fun _ _ _ h => h) (Or.inl ⟨by rfl, ?_⟩) (by assumption) ?_; rotate_left; (intro w hSw; (try dsimp only at hSw); go_simp; try with_reducible rfl); try simp only [Act.put, List.setIfInBounds_toArray, List.set_cons_zero, List.set_cons_succ]
    refine wpAnyH_take (i := 16) (v := ?_) (by simp only [List.getElem?_toArray, List.getElem?_cons_succ, List.getElem?_cons_zero]; exact rfl) (by kernel_rfl) (by kernel_rfl) (by kernel_rfl) (by exact fun _ _ _ h => h) (Or.inl ⟨by rfl, ?_⟩) (by assumption) ?_; rotate_left; (intro w hSw; (try dsimp only at hSw); go_simp; try with_reducible rfl); try simp only [Act.put, List.setIfInBounds_toArray, List.set_cons_zero, List.set_cons_succ]
    refine wpAnyH_done (by kernel_rfl) ?_ _
    go_wp2_with fail
    refine bodyPost_ret (v := .tuple #[.nilFunc, .bool false]) (by simp [results, Try.results53, go_sem]) rfl ⟨⟨_, rfl⟩, hO.keep (hk.trans (b5.mono hk.size)), (hk.trans (b5.mono hk.size)).mono hB⟩
set_option maxHeartbeats 4000000 in
theorem sums_yes {B p : Nat} {W : Int} {acts : List Act'} {l : List Asrt} {w : World} (P Bk now : Int) (hO : Owns B (PanR p W acts :: l) w) (hB : B ≤ w.heap.size) (hP1 : -9223372036854775808 ≤ P) (hP2 : P ≤ 9223372036854775807) (hB1 : -9223372036854775808 ≤ Bk) (hB2 : Bk ≤ 9223372036854775807) (hW1 : 1 ≤ W) (hW2 : W ≤ 1099511627776) (hn1 : -9223372036854775808 ≤ now) (hn2 : now ≤ 9223372036854775807) (h : sok P Bk W now) :
    Calls Try.prog 53 #[.agg #[.int .i64 P, .int .i64 Bk], .pointer (some ⟨p, 0, none⟩), .int .i64 now] w fun e w' => ∃ b1 b2 b3 : Nat, e = .returned (.tuple #[.func (.func 62) #[] #[.pointer (some ⟨b3, 0, none⟩), .pointer (some ⟨b1, 0, none⟩), .pointer (some ⟨b2, 0, none⟩)], .bool true]) ∧
      Owns B (Asrt.cells b1 #[.int .i64 P, .int .i64 Bk] 53 :: Asrt.cells b2 #[.pointer (some ⟨p, 0, none⟩)] 25 :: Asrt.cells b3 #[.int .i64 (now - now % W)] 3 :: PanR p W acts :: l) w' ∧ Below B w w' := by
  obtain ⟨h, h2, h3⟩ := h
  have hk : Below w.heap.size w (((w.alloc (.cells #[.int .i64 P, .int .i64 Bk] 53)).alloc (.cells #[.pointer (some ⟨p, 0, none⟩)] 25)).drew) := ((((Below.refl _ w).alloc (Nat.le_refl _) _).alloc (by simp) _).drew)
  have hO2 : Owns B (Asrt.cells (w.heap.size + 1) #[.pointer (some ⟨p, 0, none⟩)] 25 :: Asrt.cells w.heap.size #[.int .i64 P, .int .i64 Bk] 53 :: PanR p W acts :: l) (((w.alloc (.cells #[.int .i64 P, .int .i64 Bk] 53)).alloc (.cells #[.pointer (some ⟨p, 0, none⟩)] 25)).drew) := by
    have := (((hO.alloc_cells hB #[.int .i64 P, .int .i64 Bk] 53).alloc_cells (by simp; omega) #[.pointer (some ⟨p, 0, none⟩)] 25).drew)
    simpa using this
  have c0 := panR_width (hO2.front 2 _ rfl)
  have hwd := width_any p W _ c0
  have hS : ∀ W', Below (((w.alloc (.cells #[.int .i64 P, .int .i64 Bk] 53)).alloc (.cells #[.pointer (some ⟨p, 0, none⟩)] 25)).drew).heap.size (((w.alloc (.cells #[.int .i64 P, .int .i64 Bk] 53)).alloc (.cells #[.pointer (some ⟨p, 0, none⟩)] 25)).drew) W' → W'.cell? ⟨w.heap.size, 0, none⟩ = some (.int .i64 P) ∧ W'.cell? ⟨w.heap.size, 1, none⟩ = some (.int .i64 Bk) ∧ W'.cell? ⟨w.heap.size + 1, 0, none⟩ = some (.pointer (some ⟨p, 0, none⟩)) := fun W' hb => by
    have hO3 := hO2.keep hb
    exact ⟨by rw [cell_of hO3.tail.cellsE.1]; rfl, by rw [cell_of hO3.tail.cellsE.1]; rfl, by rw [cell_of hO3.cellsE.1]; rfl⟩
  have hS0 := hS _ (Below.refl _ _)
  have hmay := fun (W0 : World) => may_any P Bk W W0 hP1 hP2 hB1 hB2 (by omega) (by omega)
  have hmay := fun W0 => (decide_eq_true h) ▸ hmay W0
  have hmf : ∀ (fn : Fn) (first cap : Array Value) (w : World), (Instr.makeFunc fn first cap).run Try.prog w = .ok (.func fn first cap) w := fun _ _ _ _ => rfl
  have hm0 : 0 ≤ now % W := Int.emod_nonneg _ (by omega)
  have hm1 : now % W < W := Int.emod_lt_of_pos _ (by omega)
  go_enter Try.func53, Try.ntmps53
  go_wp2_with fail
  have t1 : decide (now < 0) = false := decide_eq_false (by omega)
  have t2 : decide (1099511627776 < now) = false := decide_eq_false (by omega)
  refine wp_region_held_drew (S := fun w' => w'.cell? ⟨w.heap.size, 0, none⟩ = some (.int .i64 P) ∧ w'.cell? ⟨w.heap.size, 1, none⟩ = some (.int .i64 Bk) ∧ w'.cell? ⟨w.heap.size + 1, 0, none⟩ = some (.pointer (some ⟨p, 0, none⟩))) (by kernel_rfl) ?_ (fun hHeld => ?_)
  · (try dsimp only); first | exact hS0 | assumption
  refine wpAnyH_take (i := 0) (v := ?_) (by simp only [List.getElem?_toArray, List.getElem?_cons_succ, List.getElem?_cons_zero]; exact rfl) (by kernel_rfl) (by kernel_rfl) (by kernel_rfl) (by exact fun _ _ _ h => h) (Or.inl ⟨by rfl, ?_⟩) (by assumption) ?_; rotate_left; (intro w hSw; (try dsimp only at hSw); go_simp; try with_reducible rfl); try simp only [Act.put, List.setIfInBounds_toArray, List.set_cons_zero, List.set_cons_succ]
  refine wpAnyH_take (i := 1) (v := ?_) (by simp only [List.getElem?_toArray, List.getElem?_cons_succ, List.getElem?_cons_zero]; exact rfl) (by kernel_rfl) (by kernel_rfl) (by kernel_rfl) (by exact fun _ _ _ h => h) (Or.inl ⟨by rfl, ?_⟩) (by assumption) ?_; rotate_left; (intro w hSw; (try dsimp only at hSw); go_simp; try with_reducible rfl); try simp only [Act.put, List.setIfInBounds_toArray, List.set_cons_zero, List.set_cons_succ]
  refine wpAnyH_take (i := 2) (v := ?_) (by simp only [List.getElem?_toArray, List.getElem?_cons_succ, List.getElem?_cons_zero]; exact rfl) (by kernel_rfl) (by kernel_rfl) (by kernel_rfl) (by exact fun _ _ _ h => h) (Or.inl ⟨by rfl, ?_⟩) (by assumption) ?_; rotate_left; (intro w hSw; (try dsimp only at hSw); go_simp; try with_reducible rfl); try simp only [Act.put, List.setIfInBounds_toArray, List.set_cons_zero, List.set_cons_succ]
  refine wpAnyH_take (i := 3) (v := ?_) (by simp only [List.getElem?_toArray, List.getElem?_cons_succ, List.getElem?_cons_zero]; exact rfl) (by kernel_rfl) (by kernel_rfl) (by kernel_rfl) (by exact fun _ _ _ h => h) (Or.inl ⟨by rfl, ?_⟩) (by assumption) ?_; rotate_left; (intro w hSw; (try dsimp only at hSw); go_simp; try with_reducible rfl); try simp only [Act.put, List.setIfInBounds_toArray, List.set_cons_zero, List.set_cons_succ]
  refine wpAnyH_take (i := 4) (v := ?_) (by simp only [List.getElem?_toArray, List.getElem?_cons_succ, List.getElem?_cons_zero]; exact rfl) (by kernel_rfl) (by kernel_rfl) (by kernel_rfl) (by exact fun _ _ _ h => h) (Or.inl ⟨by rfl, ?_⟩) (by assumption) ?_; rotate_left; (intro w hSw; (try dsimp only at hSw); go_simp; try with_reducible rfl); try simp only [Act.put, List.setIfInBounds_toArray, List.set_cons_zero, List.set_cons_succ]
  refine wpAnyH_ready (rs := [5]) (by kernel_rfl) (by simp) ?_
  refine AllReadyH.cons (by simp only [List.getElem?_toArray, List.getElem?_cons_succ, List.getElem?_cons_zero]; exact rfl) (fun K hK => ?_) AllReadyH.nil
  go_simp
  refine hwd.mono ?_
  rintro e w' ⟨rfl, rfl⟩
  go_wp2_with fail
  refine hK.out _ _ ?_ (fun hHeld => ?_)
  · (try dsimp only); first | exact hS0 | assumption
  clear hK K
  try simp only [Act.put, List.setIfInBounds_toArray, List.set_cons_zero, List.set_cons_succ]
  refine wpAnyH_ready (rs := [6]) (by kernel_rfl) (by simp) ?_
  refine AllReadyH.cons (by simp only [List.getElem?_toArray, List.getElem?_cons_succ, List.getElem?_cons_zero]; exact rfl) (fun K hK => ?_) AllReadyH.nil
  go_simp
  refine (hmay _).mono ?_
  rintro e w5 ⟨rfl, b5⟩
  have hS5 := hS w5 b5
  go_wp2_with fail
  refine hK.out _ _ ?_ (fun hHeld => ?_)
  · (try dsimp only); first | exact hS0 | assumption
  clear hK K
  try simp only [Act.put, List.setIfInBounds_toArray, List.set_cons_zero, List.set_cons_succ]
  refine wpAnyH_take (i := 7) (v := ?_) (by simp only [List.getElem?_toArray, List.getElem?_cons_succ, List.getElem?_cons_zero]; exact rfl) (by kernel_rfl) (by kernel_rfl) (by kernel_rfl) (by exact fun _ _ _ h => h) (Or.inl ⟨by rfl, ?_⟩) (by assumption) ?_; rotate_left; (intro w hSw; (try dsimp only at hSw); go_simp; try with_reducible rfl); try simp only [Act.put, List.setIfInBounds_toArray, List.set_cons_zero, List.set_cons_succ]
  refine wpAnyH_take (i := 8) (v := ?_) (by simp only [List.getElem?_toArray, List.getElem?_cons_succ, List.getElem?_cons_zero]; exact rfl) (by kernel_rfl) (by kernel_rfl) (by kernel_rfl) (by exact fun _ _ _ h => h) (Or.inl ⟨by rfl, ?_⟩) (by assumption) ?_; rotate_left; (intro w hSw; (try dsimp only at hSw); go_simp; try with_reducible rfl); try simp only [Act.put, List.setIfInBounds_toArray, List.set_cons_zero, List.set_cons_succ]
  refine wpAnyH_take (i := 9) (v := ?_) (by simp only [List.getElem?_toArray, List.getElem?_cons_succ, List.getElem?_cons_zero]; exact rfl) (by kernel_rfl) (by kernel_rfl) (by kernel_rfl) (by exact fun _ _ _ h => h) (Or.inl ⟨by rfl, ?_⟩) (by assumption) ?_; rotate_left; (intro w hSw; (try dsimp only at hSw); go_simp; try with_reducible rfl); try simp only [Act.put, List.setIfInBounds_toArray, List.set_cons_zero, List.set_cons_succ]
  refine wpAnyH_take (i := 10) (v := ?_) (by simp only [List.getElem?_toArray, List.getElem?_cons_succ, List.getElem?_cons_zero]; exact rfl) (by kernel_rfl) (by kernel_rfl) (by kernel_rfl) (by exact fun _ _ _ h => h) (Or.inl ⟨by rfl, ?_⟩) (by assumption) ?_; rotate_left; (intro w hSw; (try dsimp only at hSw); go_simp; try with_reducible rfl); try simp only [Act.put, List.setIfInBounds_toArray, List.set_cons_zero, List.set_cons_succ]
  refine wpAnyH_take (i := 11) (v := ?_) (by simp only [List.getElem?_toArray, List.getElem?_cons_succ, List.getElem?_cons_zero]; exact rfl) (by kernel_rfl) (by kernel_rfl) (by kernel_rfl) (by exact fun _ _ _ h => h) (Or.inl ⟨by rfl, ?_⟩) (by assumption) ?_; rotate_left; (intro w hSw; (try dsimp only at hSw); go_simp; try with_reducible rfl); try simp only [Act.put, List.setIfInBounds_toArray, List.set_cons_zero, List.set_cons_succ]
  refine wpAnyH_take (i := 12) (v := ?_) (by simp only [List.getElem?_toArray, List.getElem?_cons_succ, List.getElem?_cons_zero]; exact rfl) (by kernel_rfl) (by kernel_rfl) (by kernel_rfl) (by exact fun _ _ _ h => h) (Or.inl ⟨by rfl, ?_⟩) (by assumption) ?_; rotate_left; (intro w hSw; (try dsimp only at hSw); go_simp; try with_reducible rfl); try simp only [Act.put, List.setIfInBounds_toArray, List.set_cons_zero, List.set_cons_succ]
  refine wpAnyH_take (i := 13) (v := ?_) (by simp only [List.getElem?_toArray, List.getElem?_cons_succ, List.getElem?_cons_zero]; exact rfl) (by kernel_rfl) (by kernel_rfl) (by kernel_rfl) (by exact fun _ _ _ h => h) (Or.inl ⟨by rfl, ?_⟩) (by assumption) ?_; rotate_left; (intro w hSw; (try dsimp only at hSw); go_simp; try with_reducible rfl); try simp only [Act.put, List.setIfInBounds_toArray, List.set_cons_zero, List.set_cons_succ]
  refine wpAnyH_take (i := 14) (v := ?_) (by simp only [List.getElem?_toArray, List.getElem?_cons_succ, List.getElem?_cons_zero]; exact rfl) (by kernel_rfl) (by kernel_rfl) (by kernel_rfl) (by exact fun _ _ _ h => h) (Or.inl ⟨by rfl, ?_⟩) (by assumption) ?_; rotate_left; (intro w hSw; (try dsimp only at hSw); go_simp; try with_reducible rfl); try simp only [Act.put, List.setIfInBounds_toArray, List.set_cons_zero, List.set_cons_succ]
  refine wpAnyH_take (i := 15) (v := ?_) (by simp only [List.getElem?_toArray, List.getElem?_cons_succ, List.getElem?_cons_zero]; exact rfl) (by kernel_rfl) (by kernel_rfl) (by kernel_rfl) (by exact fun _ _ _ h => h) (Or.inl ⟨by rfl, ?_⟩) (by assumption) ?_; rotate_left; (intro w hSw; (try dsimp only at hSw); go_simp; try with_reducible rfl); try simp only [Act.put, List.setIfInBounds_toArray, List.set_cons_zero, List.set_cons_succ]
  refine wpAnyH_take (i := 16) (v := ?_) (by simp only [List.getElem?_toArray, List.getElem?_cons_succ, List.getElem?_cons_zero]; exact rfl) (by kernel_rfl) (by kernel_rfl) (by kernel_rfl) (by exact fun _ _ _ h => h) (Or.inl ⟨by rfl, ?_⟩) (by assumption) ?_; rotate_left; (intro w hSw; (try dsimp only at hSw); go_simp; try with_reducible rfl); try simp only [Act.put, List.setIfInBounds_toArray, List.set_cons_zero, List.set_cons_succ]
  refine wpAnyH_done (by kernel_rfl) ?_ _
  have hO5 := hO2.keep b5
  have hz5 := b5.size
  have d1 : w5.cell? ⟨w.heap.size + 1, 0, none⟩ = some (.pointer (some ⟨p, 0, none⟩)) := hS5.2.2
  have hwd5 := width_any p W _ (panR_width (hO5.front 2 _ rfl))
  have hb5 : Below B w w5 := (hk.trans (b5.mono hk.size)).mono hB
  have hO6 := hO5.alloc_cells (Nat.le_trans hB (hk.trans (b5.mono hk.size)).size) #[.int .i64 (now - now % W)] 3
  have hb6 : Below B w (w5.alloc (.cells #[.int .i64 (now - now % W)] 3)) := hb5.alloc (Nat.le_trans hB (hk.trans (b5.mono hk.size)).size) _
  replace hO6 := Hid.mk' hO6
  replace hb6 := Hid.mk' hb6
  clear hO5 hS hS0 hS5 hO2 c0 hwd
  go_wp2_with fail
  refine hwd5.mono ?_
  rintro e w' ⟨rfl, rfl⟩
  go_wp2_with fail
  refine bodyPost_ret (v := .tuple #[.func (.func 62) #[] #[.pointer (some ⟨w5.heap.size, 0, none⟩), .pointer (some ⟨w.heap.size, 0, none⟩), .pointer (some ⟨w.heap.size + 1, 0, none⟩)], .bool true]) (by simp [results, Try.results53, go_sem]) rfl ⟨w.heap.size, w.heap.size + 1, w5.heap.size, rfl, ?_, hb6.out⟩
  exact ((hO6.out.front 1 _ rfl).front 2 _ rfl)
end Go.Proofs.Pan
