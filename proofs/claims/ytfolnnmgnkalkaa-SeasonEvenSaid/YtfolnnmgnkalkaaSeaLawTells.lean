/- SeasonTells: the walk of the law. -/
import Derived.Test.YtfolnnmgnkalkaaSeaLawMay
namespace Go.Proofs.Pan
open Go.RowKit Go.Cic Go.ChangeMaps
set_option linter.unusedVariables false
set_option linter.unusedSimpArgs false
set_option maxRecDepth 100000
/-- Now, Usual and Odd, whether they may be asked or not. -/
def nowV (W P Bk now : Int) (acts : List Act') (key : ByteArray) : Int := if sok P Bk W now then sago W P (now - now % W) acts key 0 else 0
def usuN (W P Bk now : Int) (acts : List Act') (key : ByteArray) : Int := if sok P Bk W now then sthen (sago W P (now - now % W) acts key) Bk.toNat else 0
def usuD (W P Bk now : Int) : Int := if sok P Bk W now then Bk else 1
section
variable {B p : Nat} {W P Bk now : Int} {acts : List Act'} {l : List Asrt} {w : World}
theorem now_own (key : ByteArray) (hO : Owns B (PanR p W acts :: l) w) (hB : B ≤ w.heap.size) (hl : acts.length ≤ 1000) (hW1 : 1 ≤ W) (hW2 : W ≤ 1099511627776) (hP1 : -9223372036854775808 ≤ P) (hP2 : P ≤ 9223372036854775807) (hB1 : -9223372036854775808 ≤ Bk) (hB2 : Bk ≤ 9223372036854775807) (hn1 : -9223372036854775808 ≤ now) (hn2 : now ≤ 9223372036854775807) :
    Calls Try.prog 36 #[.pointer (some ⟨p, 0, none⟩), .agg #[.int .i64 P, .int .i64 Bk], .string key, .int .i64 now] w fun e w' => e = .returned (.int .i64 (nowV W P Bk now acts key)) ∧ Owns B (PanR p W acts :: l) w' ∧ Below B w w' := by
  unfold nowV
  by_cases h : sok P Bk W now
  · rw [if_pos h]; exact now_yes P Bk now key hO hB hl hW1 hW2 h
  · rw [if_neg h]; exact now_no P Bk now key hO hB hP1 hP2 hB1 hB2 hW1 hW2 hn1 hn2 h
theorem usual_own (key : ByteArray) (hO : Owns B (PanR p W acts :: l) w) (hB : B ≤ w.heap.size) (hl : acts.length ≤ 1000) (hW1 : 1 ≤ W) (hW2 : W ≤ 1099511627776) (hP1 : -9223372036854775808 ≤ P) (hP2 : P ≤ 9223372036854775807) (hB1 : -9223372036854775808 ≤ Bk) (hB2 : Bk ≤ 9223372036854775807) (hn1 : -9223372036854775808 ≤ now) (hn2 : now ≤ 9223372036854775807) :
    Calls Try.prog 37 #[.pointer (some ⟨p, 0, none⟩), .agg #[.int .i64 P, .int .i64 Bk], .string key, .int .i64 now] w fun e w' => e = .returned (.agg #[.int .i64 (usuN W P Bk now acts key), .int .i64 (usuD W P Bk now)]) ∧ Owns B (PanR p W acts :: l) w' ∧ Below B w w' := by
  unfold usuN usuD
  by_cases h : sok P Bk W now
  · rw [if_pos h, if_pos h]; exact usual_yes P Bk now key hO hB hl hW1 hW2 h
  · rw [if_neg h, if_neg h]; exact usual_no P Bk now key hO hB hP1 hP2 hB1 hB2 hW1 hW2 hn1 hn2 h
end
theorem eq_agg2 (a b : Int) (w : World) : (binOp .eql 57 (.agg #[.int .i64 a, .int .i64 b]) (.agg #[.int .i64 a, .int .i64 b])).run Try.prog w = .ok (.bool true) w := by go_simp
set_option maxHeartbeats 8000000 in
theorem law_tells (width P Bk now : Int) (A : Option Addr) (cap : Nat) (l : List Add') (key : ByteArray) (w : World) (hl : l.length ≤ maxLen) (hs : SlAt rdAdd w A l) (hkey : key.size ≤ 9223372036854775807) (hP1 : -9223372036854775808 ≤ P) (hP2 : P ≤ 9223372036854775807) (hB1 : -9223372036854775808 ≤ Bk) (hB2 : Bk ≤ 9223372036854775807) (hn1 : -9223372036854775808 ≤ now) (hn2 : now ≤ 9223372036854775807) :
    Calls Try.prog 11 #[.int .i64 width, .slice A l.length cap, .agg #[.int .i64 P, .int .i64 Bk], .string key, .int .i64 now] w fun e w' => e = .returned (.bool true) ∧ Below w.heap.size w w' := by
  have hO := ((Owns.nil w.heap.size w).alloc_cells (Nat.le_refl _) #[.int .i64 P, .int .i64 Bk] 53)
  have bA : Below w.heap.size w (w.alloc (.cells #[.int .i64 P, .int .i64 Bk] 53)) := (Below.refl _ w).alloc (Nat.le_refl _) _
  have cells : ∀ {W' : World} {l' : List Asrt}, Owns w.heap.size (Asrt.cells w.heap.size #[.int .i64 P, .int .i64 Bk] 53 :: l') W' → W'.cell? ⟨w.heap.size, 0, none⟩ = some (.int .i64 P) ∧ W'.cell? ⟨w.heap.size, 1, none⟩ = some (.int .i64 Bk) := fun h =>
    ⟨by rw [cell_of h.cellsE.1]; rfl, by rw [cell_of h.cellsE.1]; rfl⟩
  have haw := fun (W0 : World) => awake33 W0
  have hlg := long_any A cap l P Bk (w.alloc (.cells #[.int .i64 P, .int .i64 Bk] 53)) hl (hs.below bA) hB1 hB2
  obtain ⟨c0, c1⟩ := cells hO
  by_cases hv : longB l Bk = true ∨ 60 < key.size
  · have hcs : longB l Bk = true ∨ (longB l Bk = false ∧ 60 < key.size) := by
      by_cases hf : longB l Bk = true
      · exact .inl hf
      · exact .inr ⟨by simpa using hf, hv.resolve_left hf⟩
    clear hv
    rcases hcs with hf | ⟨hf, h2⟩
    all_goals
      rw [hf] at hlg
      clear hf
      go_enter Try.func11, Try.ntmps11
      go_wp2_with fail
      refine hlg.mono ?_
      rintro e w1 ⟨rfl, b1⟩
      have hb1 := bA.trans (b1.mono bA.size)
      go_wp2_with fail
      refine (haw _).mono ?_
      rintro e w2 ⟨rfl, b2⟩
      go_wp2_with fail
      go_ret
      exact ⟨rfl, hb1.trans (b2.mono hb1.size)⟩
  obtain ⟨hf, hk⟩ : longB l Bk = false ∧ key.size ≤ 60 := by
    simp only [not_or] at hv
    exact ⟨by simpa using hv.1, by omega⟩
  clear hv
  rw [hf] at hlg
  obtain ⟨hsm, hll, _⟩ := longB_no hf
  clear hf
  have hk1000 : ∀ x ∈ l, x.1.size ≤ 1000 := fun x hx => by have := hsm x hx; omega
  go_enter Try.func11, Try.ntmps11
  go_wp2_with fail
  refine hlg.mono ?_
  rintro e w1 ⟨rfl, b1⟩
  have hb1 := bA.trans (b1.mono bA.size)
  have hO1 := hO.keep b1
  have hfl := fill_own width A cap l w1 w (by omega) hs rfl hb1 hO1 hk1000
  have hwb := wf_bd width
  generalize wf width = W at hfl hwb
  obtain ⟨hW1, hW2⟩ := hwb
  go_wp2_with fail
  refine hfl.mono ?_
  rintro e w2 ⟨p, rfl, hO2, hb2⟩
  have hU := hO2.alloc_cells hb2.size #[.int .i64 0, .int .i64 1] 57
  have bU : Below w.heap.size w (w2.alloc (.cells #[.int .i64 0, .int .i64 1] 57)) := hb2.alloc hb2.size _
  obtain ⟨i0, i1⟩ := cells (hU.front 2 _ rfl)
  have hwd := width_any p W _ (panR_width (hU.drew.front 1 _ rfl))
  have hr41 := fun (W0 : World) => right41 P Bk W now W0 hP1 hP2 hB1 hB2 (by omega) (by omega)
  by_cases hsk : sok P Bk W now
  · have hr41 := fun W0 => (decide_eq_true hsk) ▸ hr41 W0
    go_wp2_with fail
    go_region_held3 (fun w' => w'.cell? ⟨w.heap.size, 0, none⟩ = some (.int .i64 P) ∧ w'.cell? ⟨w.heap.size, 1, none⟩ = some (.int .i64 Bk)) (go_keep)
      (first
        | (go_at_call 21; refine hwd.mono ?_; rintro e w' ⟨rfl, rfl⟩)
        | (go_at_call 41; refine (hr41 _).mono ?_; rintro e w4 ⟨rfl, b4⟩; have hO4 := hU.drew.keep b4; have hb4 := bU.drew.trans (b4.mono bU.size); obtain ⟨i0, i1⟩ := cells (hO4.front 2 _ rfl)))
    have hwd4 := width_any p W w4 (panR_width (hO4.front 1 _ rfl))
    have hnw := refnow_any (cap := cap) (now := now) (P := P) (Bk := Bk) key (show l.length ≤ 1000 by omega) (hs.below hb4) hW1 hW2 hk1000 hsk
    have hN0 : sago W P (now - now % W) (l.map actOf) key 0 = nowV W P Bk now (l.map actOf) key := by unfold nowV; rw [if_pos hsk]
    have hN1 : sthen (sago W P (now - now % W) (l.map actOf) key) Bk.toNat = usuN W P Bk now (l.map actOf) key := by unfold usuN; rw [if_pos hsk]
    have hN2 : usuD W P Bk now = Bk := by unfold usuD; rw [if_pos hsk]
    replace hN2 := Hid.mk' hN2
    rw [hN0] at hnw
    clear hN0
    go_wp2_with fail
    refine hwd4.mono ?_
    rintro e w' ⟨rfl, rfl⟩
    go_wp2_with fail
    refine hnw.mono ?_
    rintro e w5 ⟨rfl, b5⟩
    have hO5 := hO4.keep b5
    have hb5 := hb4.trans (b5.mono hb4.size)
    have hwd5 := width_any p W w5.drew (panR_width (hO5.drew.front 1 _ rfl))
    have hth := refthen_any (cap := cap) (now := now) (P := P) (Bk := Bk) key (show l.length ≤ 1000 by omega) (hs.below hb5.drew) hW1 hW2 hk1000 hsk
    rw [hN1] at hth
    clear hN1
    obtain ⟨p0, p1⟩ := cells (hO5.front 2 _ rfl)
    clear hnw hwd4 hwd hU hO4
    generalize hUN : usuN W P Bk now (l.map actOf) key = uN0 at *
    replace hUN := Hid.mk' hUN
    go_wp2_with fail
    go_region_held3 (fun w' => w'.cell? ⟨w.heap.size, 0, none⟩ = some (.int .i64 P) ∧ w'.cell? ⟨w.heap.size, 1, none⟩ = some (.int .i64 Bk)) (go_keep)
      (first
        | (go_at_call 21; refine hwd5.mono ?_; rintro e w' ⟨rfl, rfl⟩)
        | (go_at_call 43; refine hth.mono ?_; rintro e w6 ⟨rfl, b6⟩; have hO6 := hO5.drew.keep b6; have hb6 := hb5.drew.trans (b6.mono hb5.size); obtain ⟨n0, n1⟩ := cells (hO6.front 2 _ rfl); have hx1 := hO6.cellsE; have v0 : w6.cell? ⟨w2.heap.size, 0, none⟩ = some (.int .i64 0) := (by rw [cell_of hx1.1]; rfl); have v1 : w6.cell? ⟨w2.heap.size, 1, none⟩ = some (.int .i64 1) := (by rw [cell_of hx1.1]; rfl); have f0 : w6.frozen? ⟨w2.heap.size, 0, none⟩ = false := free_of hx1.1 _; have f1 : w6.frozen? ⟨w2.heap.size, 1, none⟩ = false := free_of hx1.1 _; have k1 := hO6.poke hb6.size 0 (.int .i64 uN0); have k2 := k1.1.poke (hb6.trans k1.2).size 1 (.int .i64 Bk); obtain ⟨z0, z1⟩ := cells (k2.1.front 2 _ rfl); have hb7 := (hb6.trans k1.2).trans k2.2; clear hx1))
    have hst : Owns w.heap.size [Asrt.cells w2.heap.size #[.int .i64 (usuN W P Bk now (l.map actOf) key), .int .i64 (usuD W P Bk now)] 57, PanR p W (l.map actOf), Asrt.cells w.heap.size #[.int .i64 P, .int .i64 Bk] 53] ((w6.setCell ⟨w2.heap.size, 0, none⟩ (.int .i64 uN0)).setCell ⟨w2.heap.size, 1, none⟩ (.int .i64 Bk)) := by rw [hUN.out, hN2.out]; exact k2.1
    have hbX : Below w.heap.size w ((w6.setCell ⟨w2.heap.size, 0, none⟩ (.int .i64 uN0)).setCell ⟨w2.heap.size, 1, none⟩ (.int .i64 Bk)) := hb7
    generalize ((w6.setCell ⟨w2.heap.size, 0, none⟩ (.int .i64 uN0)).setCell ⟨w2.heap.size, 1, none⟩ (.int .i64 Bk)) = wx at *
    have ucells : ∀ {W' : World} {l' : List Asrt}, Owns w.heap.size (Asrt.cells w2.heap.size #[.int .i64 (usuN W P Bk now (l.map actOf) key), .int .i64 (usuD W P Bk now)] 57 :: l') W' → W'.cell? ⟨w2.heap.size, 0, none⟩ = some (.int .i64 (usuN W P Bk now (l.map actOf) key)) ∧ W'.cell? ⟨w2.heap.size, 1, none⟩ = some (.int .i64 (usuD W P Bk now)) := fun h =>
      ⟨by rw [cell_of h.cellsE.1]; rfl, by rw [cell_of h.cellsE.1]; rfl⟩
    obtain ⟨j0, j1⟩ := cells (hst.front 2 _ rfl)
    obtain ⟨k0, k1⟩ := ucells hst
    have hnw := now_own (P := P) (Bk := Bk) (now := now) key (hst.drew.front 1 _ rfl) hbX.drew.size (by rw [List.length_map]; omega) hW1 hW2 hP1 hP2 hB1 hB2 hn1 hn2
    have hus := fun {lA : List Asrt} {W0 : World} (hO : Owns w.heap.size (PanR p W (l.map actOf) :: lA) W0) (hB : w.heap.size ≤ W0.heap.size) => usual_own (P := P) (Bk := Bk) (now := now) key hO hB (by rw [List.length_map]; omega) hW1 hW2 hP1 hP2 hB1 hB2 hn1 hn2
    have heq := fun (W0 : World) => eq_agg2 (usuN W P Bk now (l.map actOf) key) (usuD W P Bk now) W0
    generalize usuN W P Bk now (l.map actOf) key = uN at *
    generalize usuD W P Bk now = uD at *
    generalize nowV W P Bk now (l.map actOf) key = nV at *
    go_wp2_with fail
    go_region_held3 (fun w' => w'.cell? ⟨w.heap.size, 0, none⟩ = some (.int .i64 P) ∧ w'.cell? ⟨w.heap.size, 1, none⟩ = some (.int .i64 Bk) ∧ w'.cell? ⟨w2.heap.size, 0, none⟩ = some (.int .i64 uN) ∧ w'.cell? ⟨w2.heap.size, 1, none⟩ = some (.int .i64 uD)) (go_keep)
      (first
        | (go_at_call 36; refine hnw.mono ?_; rintro e x1 ⟨rfl, hQ1, q1⟩; have hbq1 := hbX.drew.trans q1; obtain ⟨m0, m1⟩ := cells (hQ1.front 2 _ rfl); obtain ⟨m2, m3⟩ := ucells (hQ1.front 1 _ rfl); have hus1 := hus hQ1 hbq1.size)
        | (go_at_call 37; refine hus1.mono ?_; rintro e x2 ⟨rfl, hQ2, q2⟩; have hbq2 := hbq1.trans q2; obtain ⟨m0, m1⟩ := cells (hQ2.front 2 _ rfl); obtain ⟨m2, m3⟩ := ucells (hQ2.front 1 _ rfl))
        | (go_at_call 33; refine (haw _).mono ?_; rintro e x3 ⟨rfl, q3⟩; have hQ3 := hQ2.keep q3; have hbq3 := hbq2.trans (q3.mono hbq2.size); obtain ⟨m0, m1⟩ := cells (hQ3.front 2 _ rfl); obtain ⟨m2, m3⟩ := ucells (hQ3.front 1 _ rfl)))
    go_wp2_with fail
    go_ret
    exact ⟨rfl, hbq3⟩
  · have hr41 := fun W0 => (decide_eq_false hsk) ▸ hr41 W0
    go_wp2_with fail
    go_region_held3 (fun w' => w'.cell? ⟨w.heap.size, 0, none⟩ = some (.int .i64 P) ∧ w'.cell? ⟨w.heap.size, 1, none⟩ = some (.int .i64 Bk)) (go_keep)
      (first
        | (go_at_call 21; refine hwd.mono ?_; rintro e w' ⟨rfl, rfl⟩)
        | (go_at_call 41; refine (hr41 _).mono ?_; rintro e w4 ⟨rfl, b4⟩; have hO4 := hU.drew.keep b4; have hb4 := bU.drew.trans (b4.mono bU.size); obtain ⟨i0, i1⟩ := cells (hO4.front 2 _ rfl)))
    have hst : Owns w.heap.size [Asrt.cells w2.heap.size #[.int .i64 (usuN W P Bk now (l.map actOf) key), .int .i64 (usuD W P Bk now)] 57, PanR p W (l.map actOf), Asrt.cells w.heap.size #[.int .i64 P, .int .i64 Bk] 53] w4 := by unfold usuN usuD; rw [if_neg hsk, if_neg hsk]; exact hO4
    have hbX : Below w.heap.size w w4 := hb4
    have hnV : (0 : Int) = nowV W P Bk now (l.map actOf) key := by unfold nowV; rw [if_neg hsk]
    rw [hnV]
    replace hnV := Hid.mk' hnV
    generalize w4 = wx at *
    have ucells : ∀ {W' : World} {l' : List Asrt}, Owns w.heap.size (Asrt.cells w2.heap.size #[.int .i64 (usuN W P Bk now (l.map actOf) key), .int .i64 (usuD W P Bk now)] 57 :: l') W' → W'.cell? ⟨w2.heap.size, 0, none⟩ = some (.int .i64 (usuN W P Bk now (l.map actOf) key)) ∧ W'.cell? ⟨w2.heap.size, 1, none⟩ = some (.int .i64 (usuD W P Bk now)) := fun h =>
      ⟨by rw [cell_of h.cellsE.1]; rfl, by rw [cell_of h.cellsE.1]; rfl⟩
    obtain ⟨j0, j1⟩ := cells (hst.front 2 _ rfl)
    obtain ⟨k0, k1⟩ := ucells hst
    have hnw := now_own (P := P) (Bk := Bk) (now := now) key (hst.drew.front 1 _ rfl) hbX.drew.size (by rw [List.length_map]; omega) hW1 hW2 hP1 hP2 hB1 hB2 hn1 hn2
    have hus := fun {lA : List Asrt} {W0 : World} (hO : Owns w.heap.size (PanR p W (l.map actOf) :: lA) W0) (hB : w.heap.size ≤ W0.heap.size) => usual_own (P := P) (Bk := Bk) (now := now) key hO hB (by rw [List.length_map]; omega) hW1 hW2 hP1 hP2 hB1 hB2 hn1 hn2
    have heq := fun (W0 : World) => eq_agg2 (usuN W P Bk now (l.map actOf) key) (usuD W P Bk now) W0
    generalize usuN W P Bk now (l.map actOf) key = uN at *
    generalize usuD W P Bk now = uD at *
    generalize nowV W P Bk now (l.map actOf) key = nV at *
    go_wp2_with fail
    go_region_held3 (fun w' => w'.cell? ⟨w.heap.size, 0, none⟩ = some (.int .i64 P) ∧ w'.cell? ⟨w.heap.size, 1, none⟩ = some (.int .i64 Bk) ∧ w'.cell? ⟨w2.heap.size, 0, none⟩ = some (.int .i64 uN) ∧ w'.cell? ⟨w2.heap.size, 1, none⟩ = some (.int .i64 uD)) (go_keep)
      (first
        | (go_at_call 36; refine hnw.mono ?_; rintro e x1 ⟨rfl, hQ1, q1⟩; have hbq1 := hbX.drew.trans q1; obtain ⟨m0, m1⟩ := cells (hQ1.front 2 _ rfl); obtain ⟨m2, m3⟩ := ucells (hQ1.front 1 _ rfl); have hus1 := hus hQ1 hbq1.size)
        | (go_at_call 37; refine hus1.mono ?_; rintro e x2 ⟨rfl, hQ2, q2⟩; have hbq2 := hbq1.trans q2; obtain ⟨m0, m1⟩ := cells (hQ2.front 2 _ rfl); obtain ⟨m2, m3⟩ := ucells (hQ2.front 1 _ rfl))
        | (go_at_call 33; refine (haw _).mono ?_; rintro e x3 ⟨rfl, q3⟩; have hQ3 := hQ2.keep q3; have hbq3 := hbq2.trans (q3.mono hbq2.size); obtain ⟨m0, m1⟩ := cells (hQ3.front 2 _ rfl); obtain ⟨m2, m3⟩ := ucells (hQ3.front 1 _ rfl)))
    go_wp2_with fail
    go_ret
    exact ⟨rfl, hbq3⟩
theorem row_tells {H : Type} {enc : TypeId × Value → H} {base : Nat} (width : Int) (a : Option Addr) (len cap : Nat) (v : Value) (key : ByteArray) (now : Int) (w : World) (h0 : (Lit.int .i64 width).wf = true) {d : DataW H} {ps : List MemPlace}
    (hs : DataW.Trod enc Try.prog w 0 (fun _ => true) true 61 (.slice a len cap) d ps) {d2 : DataW H} {ps2 : List MemPlace} (h : DataW.Trod enc Try.prog w 0 (fun _ => true) true 53 v d2 ps2) (hv : Value.okWide Try.prog w .any base 53 v) (hk : key.size ≤ 140737488351232) (h2 : (Lit.int .i64 now).wf = true) :
    Calls Try.prog 11 #[.int .i64 width, .slice a len cap, v, .string key, .int .i64 now] w fun e w' => e = .returned (.bool true) ∧ Below w.heap.size w w' := by
  obtain ⟨P, Bk, rfl, ⟨hP1, hP2⟩, ⟨hB1, hB2⟩⟩ := open_season h hv
  obtain ⟨l, rfl, hl, hsl⟩ := SlAt.open (r := rdAdd) (by decide) Try.underlying61 hs
  exact law_tells width P Bk now a cap l key w hl hsl (by omega) hP1 hP2 hB1 hB2 (wf_bd' h2).1 (wf_bd' h2).2
end Go.Proofs.Pan
