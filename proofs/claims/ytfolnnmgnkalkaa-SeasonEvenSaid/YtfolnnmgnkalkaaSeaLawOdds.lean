/- SeasonOdds: the walk of the law. -/
import Derived.Test.YtfolnnmgnkalkaaSeaLawTells
namespace Go.Proofs.Pan
open Go.RowKit Go.Cic Go.ChangeMaps
set_option linter.unusedVariables false
set_option linter.unusedSimpArgs false
set_option maxRecDepth 100000
set_option maxHeartbeats 8000000 in
theorem law_odds (width P Bk now floor : Int) (A : Option Addr) (cap : Nat) (l : List Add') (w : World) (hl : l.length ≤ maxLen) (hs : SlAt rdAdd w A l) (hP1 : -9223372036854775808 ≤ P) (hP2 : P ≤ 9223372036854775807) (hB1 : -9223372036854775808 ≤ Bk) (hB2 : Bk ≤ 9223372036854775807) (hn1 : -9223372036854775808 ≤ now) (hn2 : now ≤ 9223372036854775807) :
    Calls Try.prog 12 #[.int .i64 width, .slice A l.length cap, .agg #[.int .i64 P, .int .i64 Bk], .int .i64 now, .int .i64 floor] w fun e w' => e = .returned (.bool true) ∧ Below w.heap.size w w' := by
  have hO := ((Owns.nil w.heap.size w).alloc_cells (Nat.le_refl _) #[.int .i64 P, .int .i64 Bk] 53)
  have bA : Below w.heap.size w (w.alloc (.cells #[.int .i64 P, .int .i64 Bk] 53)) := (Below.refl _ w).alloc (Nat.le_refl _) _
  have cells : ∀ {W' : World} {l' : List Asrt}, Owns w.heap.size (Asrt.cells w.heap.size #[.int .i64 P, .int .i64 Bk] 53 :: l') W' → W'.cell? ⟨w.heap.size, 0, none⟩ = some (.int .i64 P) ∧ W'.cell? ⟨w.heap.size, 1, none⟩ = some (.int .i64 Bk) := fun h =>
    ⟨by rw [cell_of h.cellsE.1]; rfl, by rw [cell_of h.cellsE.1]; rfl⟩
  have haw := fun (W0 : World) => awake33 W0
  have hlg := long_any A cap l P Bk (w.alloc (.cells #[.int .i64 P, .int .i64 Bk] 53)) hl (hs.below bA) hB1 hB2
  obtain ⟨c0, c1⟩ := cells hO
  by_cases hf : longB l Bk = true
  · rw [hf] at hlg
    clear hf
    go_enter Try.func12, Try.ntmps12
    go_wp2_with fail
    refine hlg.mono ?_
    rintro e w1 ⟨rfl, b1⟩
    have hb1 := bA.trans (b1.mono bA.size)
    go_wp2_with fail
    refine (haw _).mono ?_
    rintro e w2 ⟨rfl, b2⟩
    go_wp2_with fail
    go_ret
    exact ⟨rfl, hb1.trans (b2.mono hb1.size)⟩
  replace hf : longB l Bk = false := by simpa using hf
  rw [hf] at hlg
  obtain ⟨hsm, hll, _⟩ := longB_no hf
  clear hf
  have hk1000 : ∀ x ∈ l, x.1.size ≤ 1000 := fun x hx => by have := hsm x hx; omega
  go_enter Try.func12, Try.ntmps12
  go_wp2_with fail
  refine hlg.mono ?_
  rintro e w1 ⟨rfl, b1⟩
  have hb1 := bA.trans (b1.mono bA.size)
  have hO1 := hO.keep b1
  have hfl := fill_own width A cap l w1 w (by omega) hs rfl hb1 hO1 hk1000
  have hwb := wf_bd width
  generalize wf width = W at hfl hwb
  obtain ⟨hW1, hW2⟩ := hwb
  go_wp2_with fail
  refine hfl.mono ?_
  rintro e w2 ⟨p, rfl, hO2, hb2⟩
  have hokA : ∀ a ∈ l.map actOf, rdS.ok a.2.1 := fun a ha => by
    obtain ⟨d, hd, rfl⟩ := List.mem_map.1 ha
    exact (hs.1 d hd).1
  obtain ⟨i0, i1⟩ := cells hO2.swap
  by_cases hsk : sok P Bk W now
  · have hod := odd_yes (P := P) (Bk := Bk) (now := now) (floor := floor) hO2.drew hb2.drew.size (by rw [List.length_map]; omega) hW1 hW2 hsk hokA
    have hro := fun (W0 : World) (hb : Below w.heap.size w W0) => refodd_yes (cap := cap) (P := P) (Bk := Bk) (now := now) (floor := floor) (show l.length ≤ 800 by omega) (hs.below hb) hW1 hW2 hk1000 hsk
    have hall : ∀ k, 0 < sago W P (now - now % W) (l.map actOf) k 0 → ∃ d ∈ l, d.1 = k := fun k hk => by
      rw [sago_zero] at hk
      obtain ⟨d, hd, rfl⟩ := asum_mem hk
      obtain ⟨x, hx, rfl⟩ := List.mem_map.1 hd
      exact ⟨x, hx, rfl⟩
    go_wp2_with fail
    go_region_held3 (fun w' => w'.cell? ⟨w.heap.size, 0, none⟩ = some (.int .i64 P) ∧ w'.cell? ⟨w.heap.size, 1, none⟩ = some (.int .i64 Bk)) (go_keep)
      (first
        | (go_at_call 38; refine hod.mono ?_; rintro e x1 ⟨ks, ak, ck, rfl, hri, hks, hkl, hok, hQ1, q1⟩; have hbq1 := hb2.drew.trans q1; obtain ⟨m0, m1⟩ := cells (hQ1.front 2 _ rfl); have hwd := width_any p W x1 (panR_width (hQ1.front 1 _ rfl)); replace hks := Hid.mk' hks)
        | (go_at_call 21; refine hwd.mono ?_; rintro e w' ⟨rfl, rfl⟩; have hro1 := hro x1 hbq1)
        | (go_at_call 45; refine hro1.mono ?_; rintro e x2 ⟨ks2, al, cl, rfl, hri2, hks2, hkl2, hok2, hR2, q2⟩; have hbq2 := hbq1.trans (q2.mono hbq1.size); have hQ2 := hQ1.keep q2; obtain ⟨m0, m1⟩ := cells (hQ2.front 2 _ rfl); obtain rfl : ks2 = ks := (Rising.ext hri2 hri (fun x => (hks2 x).trans ((⟨fun h => h.2, fun h => ⟨hall x h.1, h⟩⟩ : _ ↔ _).trans (hks.out x).symm))); have h44 := same44 ak al ck cl ks2.length ks2 x2 (rows_lies hQ2 hok) (rows_lies hR2 hok2) rfl (by omega); clear hks2)
        | (go_at_call 44; refine h44.mono ?_; rintro e x3 ⟨rfl, q3⟩; have hbq3 := hbq2.trans (q3.mono hbq2.size); have hQ3 := hQ2.keep q3; obtain ⟨m0, m1⟩ := cells (hQ3.front 2 _ rfl))
        | (go_at_call 33; refine (haw _).mono ?_; rintro e x4 ⟨rfl, q4⟩; have hbq4 := hbq3.trans (q4.mono hbq3.size); have hQ4 := hQ3.keep q4; obtain ⟨m0, m1⟩ := cells (hQ4.front 2 _ rfl)))
    go_wp2_with fail
    go_ret
    exact ⟨rfl, hbq4⟩
  · have hod := odd_no (P := P) (Bk := Bk) (now := now) (floor := floor) hO2.drew hb2.drew.size hP1 hP2 hB1 hB2 hW1 hW2 hn1 hn2 hsk
    have hro := fun (W0 : World) => refodd_no (A := A) (cap := cap) (w := W0) (P := P) (Bk := Bk) (now := now) (floor := floor) (show l.length ≤ 900 by omega) hP1 hP2 hB1 hB2 hW1 hW2 hsk
    go_wp2_with fail
    go_region_held3 (fun w' => w'.cell? ⟨w.heap.size, 0, none⟩ = some (.int .i64 P) ∧ w'.cell? ⟨w.heap.size, 1, none⟩ = some (.int .i64 Bk)) (go_keep)
      (first
        | (go_at_call 38; refine hod.mono ?_; rintro e x1 ⟨rfl, hQ1, q1⟩; have hbq1 := hb2.drew.trans q1; obtain ⟨m0, m1⟩ := cells (hQ1.front 1 _ rfl); have hwd := width_any p W x1 (panR_width hQ1))
        | (go_at_call 21; refine hwd.mono ?_; rintro e w' ⟨rfl, rfl⟩; have hro1 := hro x1)
        | (go_at_call 45; refine hro1.mono ?_; rintro e x2 ⟨al, cl, rfl, q2⟩; have hbq2 := hbq1.trans (q2.mono hbq1.size); have hQ2 := hQ1.keep q2; obtain ⟨m0, m1⟩ := cells (hQ2.front 1 _ rfl); have h44 := same44 none al 0 cl 0 [] x2 (Lies.nil _ _) (Lies.nil _ _) rfl (by omega))
        | (go_at_call 44; refine h44.mono ?_; rintro e x3 ⟨rfl, q3⟩; have hbq3 := hbq2.trans (q3.mono hbq2.size); have hQ3 := hQ2.keep q3; obtain ⟨m0, m1⟩ := cells (hQ3.front 1 _ rfl))
        | (go_at_call 33; refine (haw _).mono ?_; rintro e x4 ⟨rfl, q4⟩; have hbq4 := hbq3.trans (q4.mono hbq3.size); have hQ4 := hQ3.keep q4; obtain ⟨m0, m1⟩ := cells (hQ4.front 1 _ rfl)))
    go_wp2_with fail
    go_ret
    exact ⟨rfl, hbq4⟩
theorem row_odds {H : Type} {enc : TypeId × Value → H} {base : Nat} (width : Int) (a : Option Addr) (len cap : Nat) (v : Value) (now floor : Int) (w : World) (h0 : (Lit.int .i64 width).wf = true) {d : DataW H} {ps : List MemPlace}
    (hs : DataW.Trod enc Try.prog w 0 (fun _ => true) true 61 (.slice a len cap) d ps) {d2 : DataW H} {ps2 : List MemPlace} (h : DataW.Trod enc Try.prog w 0 (fun _ => true) true 53 v d2 ps2) (hv : Value.okWide Try.prog w .any base 53 v) (h2 : (Lit.int .i64 now).wf = true) (h3 : (Lit.int .i64 floor).wf = true) :
    Calls Try.prog 12 #[.int .i64 width, .slice a len cap, v, .int .i64 now, .int .i64 floor] w fun e w' => e = .returned (.bool true) ∧ Below w.heap.size w w' := by
  obtain ⟨P, Bk, rfl, ⟨hP1, hP2⟩, ⟨hB1, hB2⟩⟩ := open_season h hv
  obtain ⟨l, rfl, hl, hsl⟩ := SlAt.open (r := rdAdd) (by decide) Try.underlying61 hs
  exact law_odds width P Bk now floor a cap l w hl hsl hP1 hP2 hB1 hB2 (wf_bd' h2).1 (wf_bd' h2).2
end Go.Proofs.Pan
