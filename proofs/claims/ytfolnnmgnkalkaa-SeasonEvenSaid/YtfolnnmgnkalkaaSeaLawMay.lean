/- SeasonMay: the walk of the law. -/
import Derived.Test.YtfolnnmgnkalkaaSeaAwake
import Derived.Lib.SmallJoins
namespace Go.Proofs.Pan
open Go.RowKit Go.Cic Go.ChangeMaps Go.ChangeShapes
set_option linter.unusedVariables false
set_option linter.unusedSimpArgs false
set_option maxRecDepth 100000
theorem co53 : Try.prog.cellsOf 53 = 2 := by kernel_rfl
/-- A season by value, as it comes in. -/
theorem open_season {H : Type} {enc : TypeId × Value → H} {w : World} {base : Nat} {spare : Nat → Bool} {held : Bool} {r : Reach} {b0 : Nat} {v : Value} {d : DataW H} {ps : List MemPlace} (h : DataW.Trod enc Try.prog w base spare held 53 v d ps) (hv : Value.okWide Try.prog w r b0 53 v) :
    ∃ P Bk : Int, v = .agg #[.int .i64 P, .int .i64 Bk] ∧ (-9223372036854775808 ≤ P ∧ P ≤ 9223372036854775807) ∧ (-9223372036854775808 ≤ Bk ∧ Bk ≤ 9223372036854775807) := by
  obtain ⟨v0, v1, y0, y1, n, rfl, _, _, h0, h1⟩ := Go.Joins.open_agg2 Try.underlying53 (by kernel_rfl) co53 hv h
  obtain ⟨a, ha, _, wa⟩ := DataW.trod_int Try.underlying3 h0
  obtain ⟨b, hb, _, wb⟩ := DataW.trod_int Try.underlying3 h1
  simp at ha hb
  subst ha; subst hb
  exact ⟨a, b, rfl, wf_bd' wa, wf_bd' wb⟩
theorem now_nil (P Bk now : Int) (key : ByteArray) (w : World) : Calls Try.prog 36 #[.pointer none, .agg #[.int .i64 P, .int .i64 Bk], .string key, .int .i64 now] w fun e w' => e = .returned (.int .i64 0) ∧ Below w.heap.size w w' := by
  have hA : Below w.heap.size w (w.alloc (.cells #[.int .i64 P, .int .i64 Bk] 53)) := (Below.refl _ w).alloc (Nat.le_refl _) _
  have hs := sums_nil P Bk now (w.alloc (.cells #[.int .i64 P, .int .i64 Bk] 53))
  go_enter Try.func36, Try.ntmps36
  go_wp2_with fail
  refine hs.mono ?_
  rintro e w4 ⟨⟨v, rfl⟩, b4⟩
  go_wp2_with fail
  go_ret
  exact ⟨rfl, hA.trans (b4.mono hA.size)⟩
theorem odd_nil (P Bk now floor : Int) (w : World) : Calls Try.prog 38 #[.pointer none, .agg #[.int .i64 P, .int .i64 Bk], .int .i64 now, .int .i64 floor] w fun e w' => e = .returned (.slice none 0 0) ∧ Below w.heap.size w w' := by
  have hA : Below w.heap.size w (w.alloc (.cells #[.int .i64 P, .int .i64 Bk] 53)) := (Below.refl _ w).alloc (Nat.le_refl _) _
  have hs := sums_nil P Bk now (w.alloc (.cells #[.int .i64 P, .int .i64 Bk] 53))
  go_enter Try.func38, Try.ntmps38
  go_wp2_with fail
  refine hs.mono ?_
  rintro e w4 ⟨⟨v, rfl⟩, b4⟩
  go_wp2_with fail
  go_ret
  exact ⟨rfl, hA.trans (b4.mono hA.size)⟩
theorem usual_nil (P Bk now : Int) (key : ByteArray) (w : World) : Calls Try.prog 37 #[.pointer none, .agg #[.int .i64 P, .int .i64 Bk], .string key, .int .i64 now] w fun e w' => e = .returned (.agg #[.int .i64 0, .int .i64 1]) ∧ Below w.heap.size w w' := by
  have hA := ((Owns.nil w.heap.size w).alloc_cells (Nat.le_refl _) #[.int .i64 P, .int .i64 Bk] 53)
  have bA : Below w.heap.size w (w.alloc (.cells #[.int .i64 P, .int .i64 Bk] 53)) := (Below.refl _ w).alloc (Nat.le_refl _) _
  have hA2 : Owns w.heap.size [Asrt.cells (w.heap.size + 1) #[.int .i64 0, .int .i64 0] 57, Asrt.cells w.heap.size #[.int .i64 P, .int .i64 Bk] 53] ((w.alloc (.cells #[.int .i64 P, .int .i64 Bk] 53)).alloc (.cells #[.int .i64 0, .int .i64 0] 57)) := by
    have := hA.alloc_cells bA.size #[.int .i64 0, .int .i64 0] 57
    simpa using this
  have bA2 : Below w.heap.size w ((w.alloc (.cells #[.int .i64 P, .int .i64 Bk] 53)).alloc (.cells #[.int .i64 0, .int .i64 0] 57)) := bA.alloc bA.size _
  have hs := sums_nil P Bk now ((w.alloc (.cells #[.int .i64 P, .int .i64 Bk] 53)).alloc (.cells #[.int .i64 0, .int .i64 0] 57))
  go_enter Try.func37, Try.ntmps37
  go_wp2_with fail
  refine hs.mono ?_
  rintro e w4 ⟨⟨v, rfl⟩, b4⟩
  have hO4 := hA2.keep b4
  have b4' := b4.mono bA2.size
  have hc := hO4.cellsE
  have c0 : w4.cell? ⟨w.heap.size + 1, 0, none⟩ = some (.int .i64 0) := by rw [cell_of hc.1]; rfl
  have c1 : w4.cell? ⟨w.heap.size + 1, 1, none⟩ = some (.int .i64 0) := by rw [cell_of hc.1]; rfl
  have f0 : w4.frozen? ⟨w.heap.size + 1, 0, none⟩ = false := free_of hc.1 _
  have f1 : w4.frozen? ⟨w.heap.size + 1, 1, none⟩ = false := free_of hc.1 _
  go_wp2_with fail
  have hz4 := (bA2.trans b4').size
  have p1 := hO4.poke hz4 0 (.int .i64 0)
  have p2 := p1.1.poke ((bA2.trans b4').trans p1.2).size 1 (.int .i64 1)
  have g0 : ((w4.setCell ⟨w.heap.size + 1, 0, none⟩ (.int .i64 0)).setCell ⟨w.heap.size + 1, 1, none⟩ (.int .i64 1)).cell? ⟨w.heap.size + 1, 0, none⟩ = some (.int .i64 0) := by rw [cell_of p2.1.cellsE.1]; rfl
  have g1 : ((w4.setCell ⟨w.heap.size + 1, 0, none⟩ (.int .i64 0)).setCell ⟨w.heap.size + 1, 1, none⟩ (.int .i64 1)).cell? ⟨w.heap.size + 1, 1, none⟩ = some (.int .i64 1) := by rw [cell_of p2.1.cellsE.1]; rfl
  have hb := (bA2.trans b4').trans (p1.2.trans p2.2)
  generalize (w4.setCell ⟨w.heap.size + 1, 0, none⟩ (.int .i64 0)).setCell ⟨w.heap.size + 1, 1, none⟩ (.int .i64 1) = w9 at *
  exact bodyPost_ret (v := .agg #[.int .i64 0, .int .i64 1]) (by simp [results, Try.results37, go_sem, g0, g1]) rfl ⟨rfl, hb⟩
set_option maxHeartbeats 8000000 in
theorem law_may (P Bk width now : Int) (key : ByteArray) (w : World) (hkey : key.size ≤ 9223372036854775807) (hP1 : -9223372036854775808 ≤ P) (hP2 : P ≤ 9223372036854775807) (hB1 : -9223372036854775808 ≤ Bk) (hB2 : Bk ≤ 9223372036854775807) (hW1 : -9223372036854775808 ≤ width) (hW2 : width ≤ 9223372036854775807) :
    Calls Try.prog 10 #[.agg #[.int .i64 P, .int .i64 Bk], .int .i64 width, .string key, .int .i64 now] w fun e w' => e = .returned (.bool true) ∧ Below w.heap.size w w' := by
  have hO := ((Owns.nil w.heap.size w).alloc_cells (Nat.le_refl _) #[.int .i64 P, .int .i64 Bk] 53)
  have bA : Below w.heap.size w (w.alloc (.cells #[.int .i64 P, .int .i64 Bk] 53)) := (Below.refl _ w).alloc (Nat.le_refl _) _
  have haw := fun (W0 : World) => awake33 W0
  by_cases hk : 60 < key.size
  · go_enter Try.func10, Try.ntmps10
    go_wp2_with fail
    refine (haw _).mono ?_
    rintro e w2 ⟨rfl, b2⟩
    go_wp2_with fail
    go_ret
    exact ⟨rfl, bA.trans (b2.mono bA.size)⟩
  · have hmay := fun (W0 : World) => may_any P Bk width W0 hP1 hP2 hB1 hB2 hW1 hW2
    have href := fun (W0 : World) => refmay_any P Bk width W0 hP1 hP2 hB1 hB2 hW1 hW2
    generalize decide (smay P Bk width) = bq at hmay href
    have t1 : (bq == bq) = true := by simp
    have cells : ∀ {W' : World}, Owns w.heap.size [Asrt.cells w.heap.size #[.int .i64 P, .int .i64 Bk] 53] W' → W'.cell? ⟨w.heap.size, 0, none⟩ = some (.int .i64 P) ∧ W'.cell? ⟨w.heap.size, 1, none⟩ = some (.int .i64 Bk) := fun h =>
      ⟨by rw [cell_of h.cellsE.1]; rfl, by rw [cell_of h.cellsE.1]; rfl⟩
    obtain ⟨c0, c1⟩ := cells hO
    go_enter Try.func10, Try.ntmps10
    go_wp2_with fail
    go_region_held3 (fun w' => w'.cell? ⟨w.heap.size, 0, none⟩ = some (.int .i64 P) ∧ w'.cell? ⟨w.heap.size, 1, none⟩ = some (.int .i64 Bk)) (go_keep)
      (first
        | (go_at_call 34; refine (hmay _).mono ?_; rintro e w2 ⟨rfl, b2⟩; have hO2 := hO.drew.keep b2; have hb2 := bA.drew.trans (b2.mono bA.size); obtain ⟨i0, i1⟩ := cells hO2)
        | (go_at_call 35; refine (href _).mono ?_; rintro e w3 ⟨rfl, b3⟩; have hO3 := hO2.keep b3; have hb3 := hb2.trans (b3.mono hb2.size); obtain ⟨i0, i1⟩ := cells hO3)
        | (go_at_call 36; refine (now_nil P Bk now key _).mono ?_; rintro e w4 ⟨rfl, b4⟩; have hO4 := hO3.keep b4; have hb4 := hb3.trans (b4.mono hb3.size); obtain ⟨i0, i1⟩ := cells hO4)
        | (go_at_call 37; refine (usual_nil P Bk now key _).mono ?_; rintro e w5 ⟨rfl, b5⟩; have hO5 := hO4.keep b5; have hb5 := hb4.trans (b5.mono hb4.size); obtain ⟨i0, i1⟩ := cells hO5)
        | (go_at_call 38; refine (odd_nil P Bk now 0 _).mono ?_; rintro e w6 ⟨rfl, b6⟩; have hO6 := hO5.keep b6; have hb6 := hb5.trans (b6.mono hb5.size); obtain ⟨i0, i1⟩ := cells hO6)
        | (go_at_call 33; refine (haw _).mono ?_; rintro e w7 ⟨rfl, b7⟩; have hO7 := hO6.keep b7; have hb7 := hb6.trans (b7.mono hb6.size); obtain ⟨i0, i1⟩ := cells hO7))
    go_wp2_with fail
    go_ret
    exact ⟨rfl, hb7⟩
theorem row_may {H : Type} {enc : TypeId × Value → H} {base : Nat} (v : Value) (width : Int) (key : ByteArray) (now : Int) (w : World) {d : DataW H} {ps : List MemPlace} (h : DataW.Trod enc Try.prog w 0 (fun _ => true) true 53 v d ps) (hv : Value.okWide Try.prog w .any base 53 v) (h1 : (Lit.int .i64 width).wf = true) (hk : key.size ≤ 140737488351232) (h2 : (Lit.int .i64 now).wf = true) :
    Calls Try.prog 10 #[v, .int .i64 width, .string key, .int .i64 now] w fun e w' => e = .returned (.bool true) ∧ Below w.heap.size w w' := by
  obtain ⟨P, Bk, rfl, ⟨hP1, hP2⟩, ⟨hB1, hB2⟩⟩ := open_season h hv
  exact law_may P Bk width now key w (by omega) hP1 hP2 hB1 hB2 (wf_bd' h1).1 (wf_bd' h1).2
end Go.Proofs.Pan
