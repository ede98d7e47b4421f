/- season: awake. -/
import Derived.Test.YtfolnnmgnkalkaaSeaLong
namespace Go.Proofs.Pan
open Go.RowKit Go.Cic Go.ChangeMaps
set_option linter.unusedVariables false
set_option linter.unusedSimpArgs false
set_option maxRecDepth 100000
theorem aw_sok : sok 10 2 1 25 := by decide
theorem aw_begin : (25 : Int) - 25 % 1 = 25 := by decide
set_option maxHeartbeats 8000000 in
theorem awake33 (w : World) : Calls Try.prog 33 #[] w fun e w' => e = .returned (.bool true) ∧ Below w.heap.size w w' := by
  have hn1 := newR 1 (Owns.nil w.heap.size w) (Nat.le_refl _)
  rw [wf_one] at hn1
  go_enter Try.func33, Try.ntmps33
  go_wp2_with fail
  refine hn1.mono ?_
  rintro e w1 ⟨p, rfl, hO1, b1⟩
  have ha1 := addR 1 sA 5 3 hO1 b1.size (by simp) (by omega) (by omega)
  rw [show decide (mayAdd sA 5 3) = true by decide +kernel, List.nil_append] at ha1
  go_wp2_with fail
  refine ha1.mono ?_
  rintro e w2 ⟨rfl, hO2, b2⟩
  have hb2 := b1.trans b2
  have ha2 := addR 1 sA 15 5 hO2 hb2.size (by simp) (by omega) (by omega)
  rw [show decide (mayAdd sA 15 5) = true by decide +kernel] at ha2
  go_wp2_with fail
  refine ha2.mono ?_
  rintro e w3 ⟨rfl, hO3, b3⟩
  have hb3 := hb2.trans b3
  have ha3 := addR 1 sA 25 9 hO3 hb3.size (by simp) (by omega) (by omega)
  rw [show decide (mayAdd sA 25 9) = true by decide +kernel] at ha3
  go_wp2_with fail
  refine ha3.mono ?_
  rintro e w4 ⟨rfl, hO4, b4⟩
  have hb4 := hb3.trans b4
  have hO5 : Owns w.heap.size [PanR p 1 awA] w4 := hO4
  have hA := hO5.alloc_cells hb4.size #[.int .i64 10, .int .i64 2] 53
  have bA : Below w.heap.size w (w4.alloc (.cells #[.int .i64 10, .int .i64 2] 53)) := hb4.alloc hb4.size _
  have hd := odd_yes (P := 10) (Bk := 2) (now := 25) (floor := 1) hA.swap bA.size (by decide) (by omega) (by omega) aw_sok (fun a ha => by
    simp [awA] at ha
    rcases ha with rfl | rfl | rfl <;> (show (1 : Nat) ≤ maxLen; unfold maxLen; omega))
  rw [aw_begin] at hd
  have c0 : (w4.alloc (.cells #[.int .i64 10, .int .i64 2] 53)).cell? ⟨w4.heap.size, 0, none⟩ = some (.int .i64 10) := by rw [cell_of hA.cellsE.1]; rfl
  have c1 : (w4.alloc (.cells #[.int .i64 10, .int .i64 2] 53)).cell? ⟨w4.heap.size, 1, none⟩ = some (.int .i64 2) := by rw [cell_of hA.cellsE.1]; rfl
  clear hn1 ha1 ha2 ha3 hO1 hO2 hO3 hO4 b1 b2 b3 b4 hb2 hb3
  go_wp2_with fail
  refine hd.mono ?_
  rintro e w5 ⟨ks, a, c, rfl, hri, hks, hkl, hok, hO6, b6⟩
  have hb6 := bA.trans b6
  have hkk : ks = [sA] := Rising.ext hri (List.pairwise_singleton _ _) (fun x => by
    rw [hks, List.mem_singleton]
    constructor
    · rintro ⟨h, _⟩; exact aw_other h
    · rintro rfl; exact ⟨by rw [aw_now]; omega, aw_odd⟩)
  subst hkk
  clear hks hd c0 c1
  -- rows, PanR, cells
  have cells : ∀ {W' : World} {l' : List Asrt}, Owns w.heap.size (Asrt.cells w4.heap.size #[.int .i64 10, .int .i64 2] 53 :: l') W' → W'.cell? ⟨w4.heap.size, 0, none⟩ = some (.int .i64 10) ∧ W'.cell? ⟨w4.heap.size, 1, none⟩ = some (.int .i64 2) := fun h =>
    ⟨by rw [cell_of h.cellsE.1]; rfl, by rw [cell_of h.cellsE.1]; rfl⟩
  obtain ⟨i0, i1⟩ := cells (hO6.front 2 _ rfl)
  have hnw := now_yes 10 2 25 sA (hO6.front 1 _ rfl) hb6.size (by decide) (by omega) (by omega) aw_sok
  rw [aw_begin, aw_now] at hnw
  go_wp2_with fail
  refine hnw.mono ?_
  rintro e w6 ⟨rfl, hO7, b7⟩
  have hb7 := hb6.trans b7
  obtain ⟨j0, j1⟩ := cells (hO7.front 2 _ rfl)
  have hu := usual_yes 10 2 25 sA hO7 hb7.size (by decide) (by omega) (by omega) aw_sok
  rw [aw_begin, show (2 : Int).toNat = 2 from rfl, aw_then] at hu
  go_wp2_with fail
  refine hu.mono ?_
  rintro e w7 ⟨rfl, hO8, b8⟩
  have hb8 := hb7.trans b8
  obtain ⟨b3', o3, hidx3, hc4, _⟩ := VS.idx (c := c) (VS.sl (hO8.front 1 _ rfl) hok).1 rfl (k := 0) (y := sA) rfl
  have f0 : w7.cell? ⟨b3', o3, none⟩ = some (.string sA) := hc4 0 _ rfl
  have hidx4 : ∀ W : World, (Instr.indexAt 35 (.slice a 1 c) (.int .i64 0)).run Try.prog W = .ok (.pointer (some ⟨b3', o3, none⟩)) W := hidx3
  clear hidx3
  go_wp2_with fail
  go_ret
  exact ⟨rfl, hb8⟩
end Go.Proofs.Pan
