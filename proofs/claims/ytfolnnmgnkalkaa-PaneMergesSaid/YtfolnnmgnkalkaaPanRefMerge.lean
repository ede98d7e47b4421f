/- pane: the document's Merge. -/
import Derived.Test.YtfolnnmgnkalkaaPanMerge
import Derived.Test.YtfolnnmgnkalkaaPanRefKeysWalk
namespace Go.Proofs.Pan
open Go.RowKit Go.Cic Go.ChangeMaps
set_option linter.unusedVariables false
set_option maxRecDepth 100000
theorem VM : Vec (P := Try.prog) 45 rdSum := ⟨Try.underlying45, by decide, size89, by obtain ⟨z, b, h1, h2, h3⟩ := info89; exact ⟨z, b, h1, h2, by omega⟩, sum_one⟩
theorem refmerge_other (p q : Nat) (width other : Int) (w : World) (hp : w.cell? ⟨p, 0, none⟩ = some (.int .i64 width)) (hq : w.cell? ⟨q, 0, none⟩ = some (.int .i64 other)) (hne : width ≠ other) :
    Calls Try.prog 32 #[.pointer (some ⟨p, 0, none⟩), .pointer (some ⟨q, 0, none⟩)] w fun e w' => e = .returned (.bool false) ∧ ∃ m, w' = w.drewN m := by
  have t1 : (width != other) = true := by simpa using hne
  have t2 : (width == other) = false := by simpa using hne
  go_enter Try.func32, Try.ntmps32
  go_wp2_with fail
  go_quiet (fail)
  go_wp2_with fail
  go_ret
  exact ⟨rfl, _, rfl⟩
set_option maxHeartbeats 2000000 in
theorem refmerge_own {B p q : Nat} {width c1 c2 : Int} {L1 L2 : List Sm} {l : List Asrt} {w : World} (hO : Owns B (RefA p width L1 c1 :: RefA q width L2 c2 :: l) w) (hB : B ≤ w.heap.size) (ok1 : ∀ x ∈ L1, rdSum.ok x) (ok2 : ∀ x ∈ L2, rdSum.ok x) (hl1 : L1.length ≤ 1000) (hl2 : L2.length ≤ 1000) (z1 : 0 ≤ c1) (z2 : 0 ≤ c2) (z3 : c1 + c2 ≤ 10000) :
    Calls Try.prog 32 #[.pointer (some ⟨p, 0, none⟩), .pointer (some ⟨q, 0, none⟩)] w fun e w' => e = .returned (.bool true) ∧ Owns B (RefA p width (L1 ++ L2) (c1 + c2) :: RefA q width L2 c2 :: l) w' ∧ Below B w w' := by
  obtain ⟨v1, h1⟩ := ref_iff.1 hO
  obtain ⟨v2, h2⟩ := ref_iff.1 (h1.front 2 _ rfl)
  -- cells q, rows 2, cells p, rows 1
  obtain ⟨a1, x1, rfl, hx1, hs1⟩ := VM.at_ (h2.front 3 _ rfl) ok1
  obtain ⟨a2, x2, rfl, hx2, hs2⟩ := VM.at_ h2.tail ok2
  have hp := (h2.front 2 _ rfl).cellsE
  have hq := h2.cellsE
  have p0 : w.cell? ⟨p, 0, none⟩ = some (.int .i64 width) := by rw [cell_of hp.1]; rfl
  have q0 : w.cell? ⟨q, 0, none⟩ = some (.int .i64 width) := by rw [cell_of hq.1]; rfl
  have p2 : w.cell? ⟨p, 2, none⟩ = some (.int .i64 c1) := by rw [cell_of hp.1]; rfl
  have q2 : w.cell? ⟨q, 2, none⟩ = some (.int .i64 c2) := by rw [cell_of hq.1]; rfl
  clear hO h1
  go_enter Try.func32, Try.ntmps32
  go_wp2_with fail
  go_quiet (fail)
  have hO := h2.drewN nq
  have hb0 : Below B w (w.drewN nq) := (Below.drewN' w nq).mono hB
  clear h2 hp hq p0 q0 p2 q2 hs1 hs2
  generalize w.drewN nq = w1 at *
  have cells : ∀ {l' : List Asrt} {W : World}, Owns B (Asrt.cells q #[.int .i64 width, .slice a2 L2.length x2, .int .i64 c2] 47 :: Asrt.rows rdSum (.slice a2 L2.length x2) L2 :: Asrt.cells p #[.int .i64 width, .slice a1 L1.length x1, .int .i64 c1] 47 :: l') W →
      W.cell? ⟨p, 1, none⟩ = some (.slice a1 L1.length x1) ∧ W.cell? ⟨q, 1, none⟩ = some (.slice a2 L2.length x2) ∧ W.frozen? ⟨p, 1, none⟩ = false ∧ p < W.heap.size ∧ q < W.heap.size := fun h =>
    ⟨by rw [cell_of (h.front 2 _ rfl).cellsE.1]; rfl, by rw [cell_of h.cellsE.1]; rfl, free_of (h.front 2 _ rfl).cellsE.1 _, (h.front 2 _ rfl).cellsE.2.2, h.cellsE.2.2⟩
  have hE := hO.drew.rowsLit (L := []) (r := rdSum) (Nat.le_trans hB hb0.size) (cs := #[]) (n := 0) (by simp [Rd.all]) rfl (Nat.zero_le _)
  have hbE : Below B w (w1.alloc (.cells #[] 89)).drew := hb0.trans (((Below.refl B w1).alloc (Nat.le_trans hB hb0.size) _).drew)
  have hEO : Owns B (Asrt.rows rdSum (.slice (some ⟨w1.heap.size, 0, none⟩) 0 0) [] :: Asrt.cells q #[.int .i64 width, .slice a2 L2.length x2, .int .i64 c2] 47 :: Asrt.rows rdSum (.slice a2 L2.length x2) L2 :: Asrt.cells p #[.int .i64 width, .slice a1 L1.length x1, .int .i64 c1] 47 :: Asrt.rows rdSum (.slice a1 L1.length x1) L1 :: l) (w1.alloc (.cells #[] 89)).drew := hE.1
  clear hE
  obtain ⟨b3, x3, w3, r3, hO3, B3⟩ := VM.app 45 hEO (by simp) (Nat.le_trans hB hbE.size) (c := x1) (VM.sl (hEO.front 4 _ rfl) ok1).1 rfl (N := L1.length) (by simp) (by omega)
  rw [List.nil_append] at hO3
  have hb3 := hbE.trans B3
  obtain ⟨b4, x4, w4, r4, hO4, B4⟩ := VM.app 45 hO3 ok1 (Nat.le_trans hB hb3.size) (c := x2) (VM.sl (hO3.front 2 _ rfl) ok2).1 rfl (N := L1.length + L2.length) rfl (by omega)
  have hb4 := hb3.trans B4
  obtain ⟨s1, s2, s3, s4, s5⟩ := cells hO
  obtain ⟨t1, t2, t3, t4, t5⟩ := cells hEO.tail
  obtain ⟨u1, u2, u3, u4, u5⟩ := cells hO3.tail
  obtain ⟨y1, y2, y3, y4, y5⟩ := cells hO4.tail
  obtain ⟨hO5, b5⟩ := (hO4.front 3 _ rfl).poke (Nat.le_trans hB hb4.size) 1 (.slice b4 (L1.length + L2.length) x4)
  have hb5 := hb4.trans b5
  have hE5 : (#[.int .i64 width, .slice a1 L1.length x1, .int .i64 c1] : Array Value).setIfInBounds 1 (.slice b4 (L1.length + L2.length) x4) = #[.int .i64 width, .slice b4 (L1.length + L2.length) x4, .int .i64 c1] := rfl
  rw [hE5] at hO5
  clear hE5 hEO hO3 hO4 B3 B4 b5 hbE hb3 hb4 cells
  go_wp2_with fail
  have y6 : (w4.setCell ⟨p, 1, none⟩ (.slice b4 (L1.length + L2.length) x4)).cell? ⟨q, 1, none⟩ = some (.slice a2 L2.length x2) := by
    rw [cell_of (hO5.front 2 _ rfl).cellsE.1]; rfl
  have g1 : (w4.setCell ⟨p, 1, none⟩ (.slice b4 (L1.length + L2.length) x4)).cell? ⟨p, 2, none⟩ = some (.int .i64 c1) := by rw [cell_of hO5.cellsE.1]; rfl
  have g2 : (w4.setCell ⟨p, 1, none⟩ (.slice b4 (L1.length + L2.length) x4)).cell? ⟨q, 2, none⟩ = some (.int .i64 c2) := by rw [cell_of (hO5.front 2 _ rfl).cellsE.1]; rfl
  have g3 : (w4.setCell ⟨p, 1, none⟩ (.slice b4 (L1.length + L2.length) x4)).frozen? ⟨p, 2, none⟩ = false := free_of hO5.cellsE.1 _
  obtain ⟨hO6, b6⟩ := hO5.poke (Nat.le_trans hB hb5.size) 2 (.int .i64 (c1 + c2))
  have hE6 : (#[.int .i64 width, .slice b4 (L1.length + L2.length) x4, .int .i64 c1] : Array Value).setIfInBounds 2 (.int .i64 (c1 + c2)) = #[.int .i64 width, .slice b4 (L1.length + L2.length) x4, .int .i64 (c1 + c2)] := rfl
  rw [hE6] at hO6
  have hfin : Owns B (RefA p width (L1 ++ L2) (c1 + c2) :: RefA q width L2 c2 :: l) (((w4.setCell ⟨p, 1, none⟩ (.slice b4 (L1.length + L2.length) x4)).setCell ⟨p, 2, none⟩ (.int .i64 (c1 + c2))).drew) ∧ Below B w (((w4.setCell ⟨p, 1, none⟩ (.slice b4 (L1.length + L2.length) x4)).setCell ⟨p, 2, none⟩ (.int .i64 (c1 + c2))).drew) := by
    refine ⟨?_, (hb5.trans b6).drew⟩
    have h7 : Owns B (RefA p width (L1 ++ L2) (c1 + c2) :: _) _ := ref_iff.2 ⟨_, hO6.drew⟩
    have h8 : Owns B (RefA q width L2 c2 :: _) _ := ref_iff.2 ⟨_, ((h7.front 1 _ rfl).front 2 _ rfl).swap⟩
    exact ((h8.front 2 _ rfl).tail).swap
  replace hfin := Hid.mk' hfin
  clear hO6 b6 hO5 hb5 hO hb0 hE6
  refine wp_region_held_drew (S := fun w' => w'.cell? ⟨q, 1, none⟩ = some (.slice a2 L2.length x2)) (by kernel_rfl) ?_ (fun hHeld => ?_)
  · (try dsimp only); assumption
  refine wpAnyH_take (i := 0) (v := ?_) (by simp only [List.getElem?_toArray, List.getElem?_cons_succ, List.getElem?_cons_zero]; exact rfl) (by kernel_rfl) (by kernel_rfl) (by kernel_rfl) (by exact fun _ _ _ h => h) (Or.inl ⟨by rfl, ?_⟩) (by assumption) ?_; rotate_left; (intro w hSw; (try dsimp only at hSw); go_simp; try with_reducible rfl); try simp only [Act.put, List.setIfInBounds_toArray, List.set_cons_zero, List.set_cons_succ]
  refine wpAnyH_take (i := 2) (v := ?_) (by simp only [List.getElem?_toArray, List.getElem?_cons_succ, List.getElem?_cons_zero]; exact rfl) (by kernel_rfl) (by kernel_rfl) (by kernel_rfl) (by exact fun _ _ _ h => h) (Or.inl ⟨by rfl, ?_⟩) (by assumption) ?_; rotate_left; (intro w hSw; (try dsimp only at hSw); go_simp; try with_reducible rfl); try simp only [Act.put, List.setIfInBounds_toArray, List.set_cons_zero, List.set_cons_succ]
  refine wpAnyH_take (i := 3) (v := ?_) (by simp only [List.getElem?_toArray, List.getElem?_cons_succ, List.getElem?_cons_zero]; exact rfl) (by kernel_rfl) (by kernel_rfl) (by kernel_rfl) (by exact fun _ _ _ h => h) (Or.inl ⟨by rfl, ?_⟩) (by assumption) ?_; rotate_left; (intro w hSw; (try dsimp only at hSw); go_simp; try with_reducible rfl); try simp only [Act.put, List.setIfInBounds_toArray, List.set_cons_zero, List.set_cons_succ]
  refine wpAnyH_take (i := 4) (v := ?_) (by simp only [List.getElem?_toArray, List.getElem?_cons_succ, List.getElem?_cons_zero]; exact rfl) (by kernel_rfl) (by kernel_rfl) (by kernel_rfl) (by exact fun _ _ _ h => h) (Or.inl ⟨by rfl, ?_⟩) (by assumption) ?_; rotate_left; (intro w hSw; (try dsimp only at hSw); go_simp; try with_reducible rfl); try simp only [Act.put, List.setIfInBounds_toArray, List.set_cons_zero, List.set_cons_succ]
  refine wpAnyH_take (i := 7) (v := ?_) (by simp only [List.getElem?_toArray, List.getElem?_cons_succ, List.getElem?_cons_zero]; exact rfl) (by kernel_rfl) (by kernel_rfl) (by kernel_rfl) (by exact fun _ _ _ h => h) (Or.inl ⟨by rfl, ?_⟩) (by assumption) ?_; rotate_left; (intro w hSw; (try dsimp only at hSw); go_simp; try with_reducible rfl); try simp only [Act.put, List.setIfInBounds_toArray, List.set_cons_zero, List.set_cons_succ]
  refine wpAnyH_take (i := 8) (v := ?_) (by simp only [List.getElem?_toArray, List.getElem?_cons_succ, List.getElem?_cons_zero]; exact rfl) (by kernel_rfl) (by kernel_rfl) (by kernel_rfl) (by exact fun _ _ _ h => h) (Or.inl ⟨by rfl, ?_⟩) (by assumption) ?_; rotate_left; (intro w hSw; (try dsimp only at hSw); go_simp; try with_reducible rfl); try simp only [Act.put, List.setIfInBounds_toArray, List.set_cons_zero, List.set_cons_succ]
  refine wpAnyH_take (i := 9) (v := ?_) (by simp only [List.getElem?_toArray, List.getElem?_cons_succ, List.getElem?_cons_zero]; exact rfl) (by kernel_rfl) (by kernel_rfl) (by kernel_rfl) (by exact fun _ _ _ h => h) (Or.inl ⟨by rfl, ?_⟩) (by assumption) ?_; rotate_left; (intro w hSw; (try dsimp only at hSw); go_simp; try with_reducible rfl); try simp only [Act.put, List.setIfInBounds_toArray, List.set_cons_zero, List.set_cons_succ]
  refine wpAnyH_take (i := 10) (v := ?_) (by simp only [List.getElem?_toArray, List.getElem?_cons_succ, List.getElem?_cons_zero]; exact rfl) (by kernel_rfl) (by kernel_rfl) (by kernel_rfl) (by exact fun _ _ _ h => h) (Or.inl ⟨by rfl, ?_⟩) (by assumption) ?_; rotate_left; (intro w hSw; (try dsimp only at hSw); go_simp; try with_reducible rfl); try simp only [Act.put, List.setIfInBounds_toArray, List.set_cons_zero, List.set_cons_succ]
  refine wpAnyH_ready (rs := [1, 5]) (by kernel_rfl) (by simp) ?_
  refine AllReadyH.cons (by simp only [List.getElem?_toArray, List.getElem?_cons_succ, List.getElem?_cons_zero]; exact rfl) (fun K hK => ?_) ?_
  · go_simp
    refine hK.out _ _ ?_ (fun hHeld => ?_)
    · (try dsimp only); assumption
    clear hK K
    try simp only [Act.put, List.setIfInBounds_toArray, List.set_cons_zero, List.set_cons_succ]
    refine wpAnyH_ready (rs := [5]) (by kernel_rfl) (by simp) ?_
    refine AllReadyH.cons (by simp only [List.getElem?_toArray, List.getElem?_cons_succ, List.getElem?_cons_zero]; exact rfl) (fun K hK => ?_) AllReadyH.nil
    go_simp
    refine hK.out _ _ ?_ (fun hHeld => ?_)
    · (try dsimp only); assumption
    clear hK K
    try simp only [Act.put, List.setIfInBounds_toArray, List.set_cons_zero, List.set_cons_succ]
    refine wpAnyH_ready (rs := [6]) (by kernel_rfl) (by simp) ?_
    refine AllReadyH.cons (by simp only [List.getElem?_toArray, List.getElem?_cons_succ, List.getElem?_cons_zero]; exact rfl) (fun K hK => ?_) AllReadyH.nil
    refine step_appRun r3 rfl rfl (by rfl) rfl rfl ?_
    refine hK.out _ _ ?_ (fun hHeld => ?_)
    · (try dsimp only); assumption
    clear hK K
    try simp only [Act.put, List.setIfInBounds_toArray, List.set_cons_zero, List.set_cons_succ]
    refine wpAnyH_ready (rs := [11]) (by kernel_rfl) (by simp) ?_
    refine AllReadyH.cons (by simp only [List.getElem?_toArray, List.getElem?_cons_succ, List.getElem?_cons_zero]; exact rfl) (fun K hK => ?_) AllReadyH.nil
    refine step_appRun r4 rfl rfl (by rfl) rfl rfl ?_
    refine hK.out _ _ ?_ (fun hHeld => ?_)
    · (try dsimp only); assumption
    clear hK K
    try simp only [Act.put, List.setIfInBounds_toArray, List.set_cons_zero, List.set_cons_succ]
    refine wpAnyH_take (i := 12) (v := ?_) (by simp only [List.getElem?_toArray, List.getElem?_cons_succ, List.getElem?_cons_zero]; exact rfl) (by kernel_rfl) (by kernel_rfl) (by kernel_rfl) (by exact fun _ _ _ h => h) (Or.inl ⟨by rfl, ?_⟩) (by assumption) ?_; rotate_left; (intro w hSw; (try dsimp only at hSw); go_simp; try with_reducible rfl); try simp only [Act.put, List.setIfInBounds_toArray, List.set_cons_zero, List.set_cons_succ]
    refine wpAnyH_take (i := 13) (v := ?_) (by simp only [List.getElem?_toArray, List.getElem?_cons_succ, List.getElem?_cons_zero]; exact rfl) (by kernel_rfl) (by kernel_rfl) (by kernel_rfl) (by exact fun _ _ _ h => h) (Or.inl ⟨by rfl, ?_⟩) (by assumption) ?_; rotate_left; (intro w hSw; (try dsimp only at hSw); go_simp; try with_reducible rfl); try simp only [Act.put, List.setIfInBounds_toArray, List.set_cons_zero, List.set_cons_succ]
    refine wpAnyH_ready (rs := [14]) (by kernel_rfl) (by simp) ?_
    refine AllReadyH.cons (by simp only [List.getElem?_toArray, List.getElem?_cons_succ, List.getElem?_cons_zero]; exact rfl) (fun K hK => ?_) AllReadyH.nil
    go_simp
    refine hK.out _ _ ?_ (fun hHeld => ?_)
    · (try dsimp only); assumption
    clear hK K
    try simp only [Act.put, List.setIfInBounds_toArray, List.set_cons_zero, List.set_cons_succ]
    refine wpAnyH_done (by kernel_rfl) ?_ _
    generalize w4.setCell ⟨p, 1, none⟩ (.slice b4 (L1.length + L2.length) x4) = w5 at *
    go_wp2_with fail
    go_region
    go_wp2_with fail
    go_ret
    exact ⟨rfl, hfin.out.1, hfin.out.2⟩
  · refine AllReadyH.cons (by simp only [List.getElem?_toArray, List.getElem?_cons_succ, List.getElem?_cons_zero]; exact rfl) (fun K hK => ?_) AllReadyH.nil
    go_simp
    refine hK.out _ _ ?_ (fun hHeld => ?_)
    · (try dsimp only); assumption
    clear hK K
    try simp only [Act.put, List.setIfInBounds_toArray, List.set_cons_zero, List.set_cons_succ]
    refine wpAnyH_ready (rs := [1]) (by kernel_rfl) (by simp) ?_
    refine AllReadyH.cons (by simp only [List.getElem?_toArray, List.getElem?_cons_succ, List.getElem?_cons_zero]; exact rfl) (fun K hK => ?_) AllReadyH.nil
    go_simp
    refine hK.out _ _ ?_ (fun hHeld => ?_)
    · (try dsimp only); assumption
    clear hK K
    try simp only [Act.put, List.setIfInBounds_toArray, List.set_cons_zero, List.set_cons_succ]
    refine wpAnyH_ready (rs := [6]) (by kernel_rfl) (by simp) ?_
    refine AllReadyH.cons (by simp only [List.getElem?_toArray, List.getElem?_cons_succ, List.getElem?_cons_zero]; exact rfl) (fun K hK => ?_) AllReadyH.nil
    refine step_appRun r3 rfl rfl (by rfl) rfl rfl ?_
    refine hK.out _ _ ?_ (fun hHeld => ?_)
    · (try dsimp only); assumption
    clear hK K
    try simp only [Act.put, List.setIfInBounds_toArray, List.set_cons_zero, List.set_cons_succ]
    refine wpAnyH_ready (rs := [11]) (by kernel_rfl) (by simp) ?_
    refine AllReadyH.cons (by simp only [List.getElem?_toArray, List.getElem?_cons_succ, List.getElem?_cons_zero]; exact rfl) (fun K hK => ?_) AllReadyH.nil
    refine step_appRun r4 rfl rfl (by rfl) rfl rfl ?_
    refine hK.out _ _ ?_ (fun hHeld => ?_)
    · (try dsimp only); assumption
    clear hK K
    try simp only [Act.put, List.setIfInBounds_toArray, List.set_cons_zero, List.set_cons_succ]
    refine wpAnyH_take (i := 12) (v := ?_) (by simp only [List.getElem?_toArray, List.getElem?_cons_succ, List.getElem?_cons_zero]; exact rfl) (by kernel_rfl) (by kernel_rfl) (by kernel_rfl) (by exact fun _ _ _ h => h) (Or.inl ⟨by rfl, ?_⟩) (by assumption) ?_; rotate_left; (intro w hSw; (try dsimp only at hSw); go_simp; try with_reducible rfl); try simp only [Act.put, List.setIfInBounds_toArray, List.set_cons_zero, List.set_cons_succ]
    refine wpAnyH_take (i := 13) (v := ?_) (by simp only [List.getElem?_toArray, List.getElem?_cons_succ, List.getElem?_cons_zero]; exact rfl) (by kernel_rfl) (by kernel_rfl) (by kernel_rfl) (by exact fun _ _ _ h => h) (Or.inl ⟨by rfl, ?_⟩) (by assumption) ?_; rotate_left; (intro w hSw; (try dsimp only at hSw); go_simp; try with_reducible rfl); try simp only [Act.put, List.setIfInBounds_toArray, List.set_cons_zero, List.set_cons_succ]
    refine wpAnyH_ready (rs := [14]) (by kernel_rfl) (by simp) ?_
    refine AllReadyH.cons (by simp only [List.getElem?_toArray, List.getElem?_cons_succ, List.getElem?_cons_zero]; exact rfl) (fun K hK => ?_) AllReadyH.nil
    go_simp
    refine hK.out _ _ ?_ (fun hHeld => ?_)
    · (try dsimp only); assumption
    clear hK K
    try simp only [Act.put, List.setIfInBounds_toArray, List.set_cons_zero, List.set_cons_succ]
    refine wpAnyH_done (by kernel_rfl) ?_ _
    generalize w4.setCell ⟨p, 1, none⟩ (.slice b4 (L1.length + L2.length) x4) = w5 at *
    go_wp2_with fail
    go_region
    go_wp2_with fail
    go_ret
    exact ⟨rfl, hfin.out.1, hfin.out.2⟩
end Go.Proofs.Pan
