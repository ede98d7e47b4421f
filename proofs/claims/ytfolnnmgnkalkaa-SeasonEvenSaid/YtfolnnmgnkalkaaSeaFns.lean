/- season: the closure, then, Now, Usual. -/
import Derived.Test.YtfolnnmgnkalkaaSeaBase
import Derived.Deep.LoopGhost
namespace Go.Proofs.Pan
open Go.RowKit Go.Cic Go.ChangeMaps
set_option linter.unusedVariables false
set_option linter.unusedSimpArgs false
set_option maxRecDepth 100000
/-- A key's sum so many periods ago. -/
def sago (W P begin_ : Int) (acts : List Act') (key : ByteArray) (ago : Int) : Int := asum W (inr key (pn W (begin_ - ago * P)) (pn W (begin_ - ago * P + W))) acts
theorem sago_bd {W P begin_ : Int} {acts : List Act'} (hl : acts.length ≤ 1000) (key : ByteArray) (ago : Int) : 0 ≤ sago W P begin_ acts key ago ∧ sago W P begin_ acts key ago ≤ 1048576000 := by
  have := asum_bd (width := W) (l := acts) (inr_01 key (pn W (begin_ - ago * P)) (pn W (begin_ - ago * P + W)))
  unfold sago; omega
/-- The sum of so many periods. -/
def sthen (f : Int → Int) : Nat → Int
  | 0 => 0
  | n + 1 => sthen f n + f ((n + 1 : Nat) : Int)
theorem sthen_bd {f : Int → Int} (h : ∀ i, 0 ≤ f i ∧ f i ≤ 1048576000) : ∀ n : Nat, 0 ≤ sthen f n ∧ sthen f n ≤ n * 1048576000
  | 0 => by simp [sthen]
  | n + 1 => by
    have := sthen_bd h n
    have := h ((n + 1 : Nat) : Int)
    simp only [sthen]; push_cast at *; omega
abbrev cloV (b1 b2 b3 : Nat) : Value := .func (.func 62) #[] #[.pointer (some ⟨b3, 0, none⟩), .pointer (some ⟨b1, 0, none⟩), .pointer (some ⟨b2, 0, none⟩)]
set_option maxHeartbeats 2000000 in
theorem clo_any {B p b1 b2 b3 : Nat} {W P Bk begin_ : Int} {acts : List Act'} {l : List Asrt} {w : World} (key : ByteArray) (ago : Int) (hO : Owns B (Asrt.cells b1 #[.int .i64 P, .int .i64 Bk] 53 :: Asrt.cells b2 #[.pointer (some ⟨p, 0, none⟩)] 25 :: Asrt.cells b3 #[.int .i64 begin_] 3 :: PanR p W acts :: l) w) (hB : B ≤ w.heap.size)
    (hl : acts.length ≤ 1000) (hW1 : 1 ≤ W) (hW2 : W ≤ 1099511627776) (hP1 : 1 ≤ P) (hP2 : P ≤ 1099511627776) (ha1 : 0 ≤ ago) (ha2 : ago ≤ 1000) (hb1 : 0 ≤ begin_) (hb2 : begin_ ≤ 1099511627776) :
    Calls Try.prog 62 #[.string key, .int .i64 ago, .pointer (some ⟨b3, 0, none⟩), .pointer (some ⟨b1, 0, none⟩), .pointer (some ⟨b2, 0, none⟩)] w fun e w' => e = .returned (.int .i64 (sago W P begin_ acts key ago)) ∧
      Owns B (Asrt.cells b1 #[.int .i64 P, .int .i64 Bk] 53 :: Asrt.cells b2 #[.pointer (some ⟨p, 0, none⟩)] 25 :: Asrt.cells b3 #[.int .i64 begin_] 3 :: PanR p W acts :: l) w' ∧ Below B w w' := by
  have c1 : w.cell? ⟨b1, 0, none⟩ = some (.int .i64 P) := by rw [cell_of hO.cellsE.1]; rfl
  have c3 : w.cell? ⟨b3, 0, none⟩ = some (.int .i64 begin_) := by rw [cell_of (hO.front 2 _ rfl).cellsE.1]; rfl
  have hc2 : ∀ {W' : World} {l' : List Asrt}, Owns B (Asrt.cells b1 #[.int .i64 P, .int .i64 Bk] 53 :: Asrt.cells b2 #[.pointer (some ⟨p, 0, none⟩)] 25 :: l') W' → W'.cell? ⟨b2, 0, none⟩ = some (.pointer (some ⟨p, 0, none⟩)) := fun h => by rw [cell_of h.tail.cellsE.1]; rfl
  have m1 : 0 ≤ ago * P := Int.mul_nonneg ha1 (by omega)
  have m2 : ago * P ≤ 1000 * P := Int.mul_le_mul_of_nonneg_right ha2 (by omega)
  unfold sago
  obtain ⟨x, hx⟩ : ∃ x, ago * P = x := ⟨_, rfl⟩
  rw [hx] at m1 m2 ⊢
  have c2 := hc2 hO.drew
  have hwd := width_any p W w.drew (panR_width (hO.drew.front 3 _ rfl))
  have hsum := sumR key (begin_ - x) (begin_ - x + W) (hO.drew.front 3 _ rfl) hB hl hW1 hW2 (by omega) (by omega) (by omega) (by omega)
  have e1 : IntKind.i64.wrap (begin_ - x + W) = begin_ - x + W := IntWalk.i64_in _ (by omega)
  go_enter Try.func62, Try.ntmps62
  go_wp2_with fail
  go_region_held3 (fun w' => w'.cell? ⟨b2, 0, none⟩ = some (.pointer (some ⟨p, 0, none⟩))) (go_keep)
    (first
      | (go_at_call 21; refine hwd.mono ?_; rintro e w4 ⟨rfl, rfl⟩)
      | (go_at_call 22; refine hsum.mono ?_; rintro e w5 ⟨rfl, hO5, b5⟩; have c5 : w5.cell? ⟨b2, 0, none⟩ = some (.pointer (some ⟨p, 0, none⟩)) := by rw [cell_of (hO5.front 2 _ rfl).cellsE.1]; rfl))
  go_wp2_with fail
  go_ret
  exact ⟨rfl, hO5.front 3 _ rfl |>.front 3 _ rfl |>.front 3 _ rfl, ((Below.refl B w).drew).trans b5⟩
/-- The closure's blocks, and its panes. -/
def SeaA (p : Nat) (W P Bk begin_ : Int) (b1 b2 b3 : Nat) (acts : List Act') : Asrt :=
  stars [Asrt.cells b1 #[.int .i64 P, .int .i64 Bk] 53, Asrt.cells b2 #[.pointer (some ⟨p, 0, none⟩)] 25, Asrt.cells b3 #[.int .i64 begin_] 3, PanR p W acts]
section
variable {B p b1 b2 b3 : Nat} {W P Bk begin_ : Int} {acts : List Act'} {l : List Asrt} {w : World}
theorem sea_iff : Owns B (SeaA p W P Bk begin_ b1 b2 b3 acts :: l) w ↔
    Owns B (Asrt.cells b1 #[.int .i64 P, .int .i64 Bk] 53 :: Asrt.cells b2 #[.pointer (some ⟨p, 0, none⟩)] 25 :: Asrt.cells b3 #[.int .i64 begin_] 3 :: PanR p W acts :: l) w := Owns.flat_iff
/-- What is asked of the numbers. -/
structure SeaN (W P Bk begin_ : Int) (acts : List Act') : Prop where
  l : acts.length ≤ 1000
  W1 : 1 ≤ W
  W2 : W ≤ 1099511627776
  P1 : 1 ≤ P
  P2 : P ≤ 1099511627776
  B1 : 1 ≤ Bk
  B2 : Bk ≤ 1000
  b1 : 0 ≤ begin_
  b2 : begin_ ≤ 1099511627776
theorem clo_own (key : ByteArray) (ago : Int) (hO : Owns B (SeaA p W P Bk begin_ b1 b2 b3 acts :: l) w) (hB : B ≤ w.heap.size) (hn : SeaN W P Bk begin_ acts) (ha1 : 0 ≤ ago) (ha2 : ago ≤ 1000) :
    Calls Try.prog 62 #[.string key, .int .i64 ago, .pointer (some ⟨b3, 0, none⟩), .pointer (some ⟨b1, 0, none⟩), .pointer (some ⟨b2, 0, none⟩)] w fun e w' => e = .returned (.int .i64 (sago W P begin_ acts key ago)) ∧ Owns B (SeaA p W P Bk begin_ b1 b2 b3 acts :: l) w' ∧ Below B w w' := by
  refine (clo_any key ago (sea_iff.1 hO) hB hn.l hn.W1 hn.W2 hn.P1 hn.P2 ha1 ha2 hn.b1 hn.b2).mono ?_
  rintro e w' ⟨rfl, h, hb⟩
  exact ⟨rfl, sea_iff.2 h, hb⟩
def ThenO (B : Nat) (w : World) (bx p b1 b2 b3 : Nat) (W P Bk begin_ : Int) (acts : List Act') (key : ByteArray) (l : List Asrt) (g : Nat) (n i : Value) (wr : World) : Prop :=
  ∃ k : Nat, (k : Int) ≤ Bk ∧ g = Bk.toNat - k ∧ n = .int .i64 (sthen (sago W P begin_ acts key) k) ∧ i = .int .i64 ((k + 1 : Nat) : Int) ∧ Below B w wr ∧ Owns B (Asrt.cells bx #[.int .i64 P, .int .i64 Bk] 53 :: SeaA p W P Bk begin_ b1 b2 b3 acts :: l) wr
set_option maxHeartbeats 2000000 in
theorem then_own (key : ByteArray) (hO : Owns B (SeaA p W P Bk begin_ b1 b2 b3 acts :: l) w) (hB : B ≤ w.heap.size) (hn : SeaN W P Bk begin_ acts) :
    Calls Try.prog 54 #[.agg #[.int .i64 P, .int .i64 Bk], cloV b1 b2 b3, .string key] w fun e w' => e = .returned (.int .i64 (sthen (sago W P begin_ acts key) Bk.toNat)) ∧ Owns B (SeaA p W P Bk begin_ b1 b2 b3 acts :: l) w' ∧ Below B w w' := by
  have hbd := fun i => sago_bd (W := W) (P := P) (begin_ := begin_) hn.l key i
  have hB1 := hn.B1
  have hB2 := hn.B2
  have hst : ThenO B w w.heap.size p b1 b2 b3 W P Bk begin_ acts key l Bk.toNat (.int .i64 0) (.int .i64 1) (w.alloc (.cells #[.int .i64 P, .int .i64 Bk] 53)) :=
    ⟨0, by omega, rfl, rfl, rfl, (Below.refl B w).alloc hB _, hO.alloc_cells hB _ _⟩
  have hBN : (Bk.toNat : Int) = Bk := Int.toNat_of_nonneg (by omega)
  replace hBN := Hid.mk' hBN
  replace hst := Hid.mk' hst
  go_enter Try.func54, Try.ntmps54
  go_wp2_with fail
  go_loopg [7, 8] Bk.toNat (fun g n i wr => ThenO B w w.heap.size p b1 b2 b3 W P Bk begin_ acts key l g n i wr)
  case atStart => exact hst.out
  case round =>
    clear hst
    obtain ⟨k, hk, hgk, rfl, rfl, hbr, hOr⟩ := hrel
    have hzr := hbr.size
    have c1 : wr.cell? ⟨w.heap.size, 1, none⟩ = some (.int .i64 Bk) := by rw [cell_of hOr.cellsE.1]; rfl
    have hsb := sthen_bd hbd k
    have hs1 : sthen (sago W P begin_ acts key) (k + 1) = sthen (sago W P begin_ acts key) k + sago W P begin_ acts key ((k + 1 : Nat) : Int) := rfl
    have hb1 := hbd ((k + 1 : Nat) : Int)
    by_cases hlt : ((k + 1 : Nat) : Int) ≤ Bk
    · have hcl := clo_own key ((k + 1 : Nat) : Int) hOr.swap (Nat.le_trans hB hzr) hn (by omega) (by omega)
      generalize sthen (sago W P begin_ acts key) k = S0 at *
      generalize sago W P begin_ acts key ((k + 1 : Nat) : Int) = S1 at *
      replace hs1 := Hid.mk' hs1
      have hk1000 : (k : Int) ≤ 1000 := by omega
      go_wp2_with fail
      refine hcl.mono ?_
      rintro e w4 ⟨rfl, hO4, b4⟩
      have hb4 := hbr.trans b4
      go_wp2_with fail
      go_roundg (Bk.toNat - (k + 1))
      case rel => exact ⟨k + 1, hlt, rfl, by rw [hs1.out], by go_num, hb4, hO4.swap⟩
      case measure => have := hBN.out; omega
    · have hkk : k = Bk.toNat := by have := hBN.out; omega
      subst hkk
      have hO9 := hOr.tail
      clear hs1 hb1
      go_wp2_with fail
      go_ret
      exact ⟨rfl, hO9, hbr⟩
theorem now_no (P Bk now : Int) (key : ByteArray) (hO : Owns B (PanR p W acts :: l) w) (hB : B ≤ w.heap.size) (hP1 : -9223372036854775808 ≤ P) (hP2 : P ≤ 9223372036854775807) (hB1 : -9223372036854775808 ≤ Bk) (hB2 : Bk ≤ 9223372036854775807) (hW1 : 1 ≤ W) (hW2 : W ≤ 1099511627776) (hn1 : -9223372036854775808 ≤ now) (hn2 : now ≤ 9223372036854775807) (h : ¬ sok P Bk W now) :
    Calls Try.prog 36 #[.pointer (some ⟨p, 0, none⟩), .agg #[.int .i64 P, .int .i64 Bk], .string key, .int .i64 now] w fun e w' => e = .returned (.int .i64 0) ∧ Owns B (PanR p W acts :: l) w' ∧ Below B w w' := by
  have hA : Below w.heap.size w (w.alloc (.cells #[.int .i64 P, .int .i64 Bk] 53)) := (Below.refl _ w).alloc (Nat.le_refl _) _
  have hs := sums_no P Bk now (hO.keep hA) (Nat.le_trans hB hA.size) hP1 hP2 hB1 hB2 hW1 hW2 hn1 hn2 h
  go_enter Try.func36, Try.ntmps36
  go_wp2_with fail
  refine hs.mono ?_
  rintro e w4 ⟨⟨v, rfl⟩, hO4, b4⟩
  go_wp2_with fail
  go_ret
  exact ⟨rfl, hO4, (hA.mono hB).trans b4⟩
theorem begin_bd {W now : Int} (hW : 1 ≤ W) (h0 : 0 ≤ now) (h1 : now ≤ 1099511627776) : 0 ≤ now - now % W ∧ now - now % W ≤ 1099511627776 := by
  have a := Int.emod_nonneg now (show W ≠ 0 by omega)
  have b : now % W ≤ now := by
    have := Int.mul_ediv_add_emod now W
    have h2 : 0 ≤ W * (now / W) := Int.mul_nonneg (by omega) (Int.ediv_nonneg h0 (by omega))
    omega
  omega
theorem sean_of {P Bk now : Int} (hl : acts.length ≤ 1000) (hW1 : 1 ≤ W) (hW2 : W ≤ 1099511627776) (h : sok P Bk W now) : SeaN W P Bk (now - now % W) acts := by
  obtain ⟨⟨h1, h2, h3, h4, h5, h6⟩, h7, h8⟩ := h
  obtain ⟨g1, g2⟩ := begin_bd hW1 h7 h8
  exact ⟨hl, hW1, hW2, h2, h3, h5, h6, g1, g2⟩
set_option maxHeartbeats 2000000 in
theorem now_yes (P Bk now : Int) (key : ByteArray) (hO : Owns B (PanR p W acts :: l) w) (hB : B ≤ w.heap.size) (hl : acts.length ≤ 1000) (hW1 : 1 ≤ W) (hW2 : W ≤ 1099511627776) (h : sok P Bk W now) :
    Calls Try.prog 36 #[.pointer (some ⟨p, 0, none⟩), .agg #[.int .i64 P, .int .i64 Bk], .string key, .int .i64 now] w fun e w' => e = .returned (.int .i64 (sago W P (now - now % W) acts key 0)) ∧ Owns B (PanR p W acts :: l) w' ∧ Below B w w' := by
  have hA : Below w.heap.size w (w.alloc (.cells #[.int .i64 P, .int .i64 Bk] 53)) := (Below.refl _ w).alloc (Nat.le_refl _) _
  have hn := sean_of hl hW1 hW2 h
  have h' := h
  obtain ⟨⟨h1, h2, h3, h4, h5, h6⟩, h7, h8⟩ := h'
  have hs := sums_yes P Bk now (hO.keep hA) (Nat.le_trans hB hA.size) (by omega) (by omega) (by omega) (by omega) hW1 hW2 (by omega) (by omega) h
  clear h4
  go_enter Try.func36, Try.ntmps36
  go_wp2_with fail
  refine hs.mono ?_
  rintro e w4 ⟨b1, b2, b3, rfl, hO4, b4⟩
  have hb4 := (hA.mono hB).trans b4
  have hcl := clo_own key 0 (sea_iff.2 hO4) (Nat.le_trans hB hb4.size) hn (by omega) (by omega)
  go_wp2_with fail
  refine hcl.mono ?_
  rintro e w5 ⟨rfl, hO5, b5⟩
  go_wp2_with fail
  go_ret
  exact ⟨rfl, (sea_iff.1 hO5).tail.tail.tail, hb4.trans b5⟩
theorem usual_no (P Bk now : Int) (key : ByteArray) (hO : Owns B (PanR p W acts :: l) w) (hB : B ≤ w.heap.size) (hP1 : -9223372036854775808 ≤ P) (hP2 : P ≤ 9223372036854775807) (hB1 : -9223372036854775808 ≤ Bk) (hB2 : Bk ≤ 9223372036854775807) (hW1 : 1 ≤ W) (hW2 : W ≤ 1099511627776) (hn1 : -9223372036854775808 ≤ now) (hn2 : now ≤ 9223372036854775807) (h : ¬ sok P Bk W now) :
    Calls Try.prog 37 #[.pointer (some ⟨p, 0, none⟩), .agg #[.int .i64 P, .int .i64 Bk], .string key, .int .i64 now] w fun e w' => e = .returned (.agg #[.int .i64 0, .int .i64 1]) ∧ Owns B (PanR p W acts :: l) w' ∧ Below B w w' := by
  have hA := (hO.alloc_cells hB #[.int .i64 P, .int .i64 Bk] 53)
  have bA : Below B w (w.alloc (.cells #[.int .i64 P, .int .i64 Bk] 53)) := (Below.refl B w).alloc hB _
  have hA2 : Owns B (Asrt.cells (w.heap.size + 1) #[.int .i64 0, .int .i64 0] 57 :: Asrt.cells w.heap.size #[.int .i64 P, .int .i64 Bk] 53 :: PanR p W acts :: l) ((w.alloc (.cells #[.int .i64 P, .int .i64 Bk] 53)).alloc (.cells #[.int .i64 0, .int .i64 0] 57)) := by
    have := hA.alloc_cells (Nat.le_trans hB bA.size) #[.int .i64 0, .int .i64 0] 57
    simpa using this
  have bA2 : Below B w ((w.alloc (.cells #[.int .i64 P, .int .i64 Bk] 53)).alloc (.cells #[.int .i64 0, .int .i64 0] 57)) := bA.trans ((Below.refl B _).alloc (Nat.le_trans hB bA.size) _)
  have hs := sums_no P Bk now (hA2.front 2 _ rfl) (Nat.le_trans hB bA2.size) hP1 hP2 hB1 hB2 hW1 hW2 hn1 hn2 h
  go_enter Try.func37, Try.ntmps37
  go_wp2_with fail
  refine hs.mono ?_
  rintro e w4 ⟨⟨v, rfl⟩, hO4, b4⟩
  have hc := (hO4.front 1 _ rfl).cellsE
  have c0 : w4.cell? ⟨w.heap.size + 1, 0, none⟩ = some (.int .i64 0) := by rw [cell_of hc.1]; rfl
  have c1 : w4.cell? ⟨w.heap.size + 1, 1, none⟩ = some (.int .i64 0) := by rw [cell_of hc.1]; rfl
  have f0 : w4.frozen? ⟨w.heap.size + 1, 0, none⟩ = false := free_of hc.1 _
  have f1 : w4.frozen? ⟨w.heap.size + 1, 1, none⟩ = false := free_of hc.1 _
  go_wp2_with fail
  have hz4 := Nat.le_trans hB (bA2.trans b4).size
  have p1 := (hO4.front 1 _ rfl).poke hz4 0 (.int .i64 0)
  have p2 := p1.1.poke (Nat.le_trans hB ((bA2.trans b4).trans p1.2).size) 1 (.int .i64 1)
  have g0 : ((w4.setCell ⟨w.heap.size + 1, 0, none⟩ (.int .i64 0)).setCell ⟨w.heap.size + 1, 1, none⟩ (.int .i64 1)).cell? ⟨w.heap.size + 1, 0, none⟩ = some (.int .i64 0) := by rw [cell_of p2.1.cellsE.1]; rfl
  have g1 : ((w4.setCell ⟨w.heap.size + 1, 0, none⟩ (.int .i64 0)).setCell ⟨w.heap.size + 1, 1, none⟩ (.int .i64 1)).cell? ⟨w.heap.size + 1, 1, none⟩ = some (.int .i64 1) := by rw [cell_of p2.1.cellsE.1]; rfl
  have hfin := (p2.1.front 1 _ rfl)
  have hb := (bA2.trans b4).trans (p1.2.trans p2.2)
  generalize (w4.setCell ⟨w.heap.size + 1, 0, none⟩ (.int .i64 0)).setCell ⟨w.heap.size + 1, 1, none⟩ (.int .i64 1) = w9 at *
  exact bodyPost_ret (v := .agg #[.int .i64 0, .int .i64 1]) (by simp [results, Try.results37, go_sem, g0, g1]) rfl ⟨rfl, (hfin.drop1).drop1, hb⟩
set_option maxHeartbeats 4000000 in
theorem usual_yes (P Bk now : Int) (key : ByteArray) (hO : Owns B (PanR p W acts :: l) w) (hB : B ≤ w.heap.size) (hl : acts.length ≤ 1000) (hW1 : 1 ≤ W) (hW2 : W ≤ 1099511627776) (h : sok P Bk W now) :
    Calls Try.prog 37 #[.pointer (some ⟨p, 0, none⟩), .agg #[.int .i64 P, .int .i64 Bk], .string key, .int .i64 now] w fun e w' => e = .returned (.agg #[.int .i64 (sthen (sago W P (now - now % W) acts key) Bk.toNat), .int .i64 Bk]) ∧ Owns B (PanR p W acts :: l) w' ∧ Below B w w' := by
  have hA := (hO.alloc_cells hB #[.int .i64 P, .int .i64 Bk] 53)
  have bA : Below B w (w.alloc (.cells #[.int .i64 P, .int .i64 Bk] 53)) := (Below.refl B w).alloc hB _
  have hA2 : Owns B (Asrt.cells (w.heap.size + 1) #[.int .i64 0, .int .i64 0] 57 :: Asrt.cells w.heap.size #[.int .i64 P, .int .i64 Bk] 53 :: PanR p W acts :: l) ((w.alloc (.cells #[.int .i64 P, .int .i64 Bk] 53)).alloc (.cells #[.int .i64 0, .int .i64 0] 57)) := by
    have := hA.alloc_cells (Nat.le_trans hB bA.size) #[.int .i64 0, .int .i64 0] 57
    simpa using this
  have bA2 : Below B w ((w.alloc (.cells #[.int .i64 P, .int .i64 Bk] 53)).alloc (.cells #[.int .i64 0, .int .i64 0] 57)) := bA.trans ((Below.refl B _).alloc (Nat.le_trans hB bA.size) _)
  have hn := sean_of hl hW1 hW2 h
  have h' := h
  obtain ⟨⟨h1, h2, h3, h4, h5, h6⟩, h7, h8⟩ := h'
  have hs := sums_yes P Bk now (hA2.front 2 _ rfl) (Nat.le_trans hB bA2.size) (by omega) (by omega) (by omega) (by omega) hW1 hW2 (by omega) (by omega) h
  clear h4
  obtain ⟨S0, hS0⟩ : ∃ S0, Hid (sthen (sago W P (now - now % W) acts key) Bk.toNat = S0) := ⟨_, Hid.mk' rfl⟩
  rw [hS0.out]
  go_enter Try.func37, Try.ntmps37
  go_wp2_with fail
  refine hs.mono ?_
  rintro e w4 ⟨b1, b2, b3, rfl, hO4, b4⟩
  have hb4 := bA2.trans b4
  have hO4' := sea_iff.2 hO4
  -- SeaA, cells res, cells box
  have hth := then_own key hO4'.drew (Nat.le_trans hB hb4.size) hn
  rw [hS0.out] at hth
  have d0 : w4.cell? ⟨w.heap.size, 0, none⟩ = some (.int .i64 P) := by rw [cell_of (hO4'.front 2 _ rfl).cellsE.1]; rfl
  have d1 : w4.cell? ⟨w.heap.size, 1, none⟩ = some (.int .i64 Bk) := by rw [cell_of (hO4'.front 2 _ rfl).cellsE.1]; rfl
  clear hs hA hA2 hO4
  go_wp2_with fail
  go_region_held3 (fun w' => w'.cell? ⟨w.heap.size, 0, none⟩ = some (.int .i64 P) ∧ w'.cell? ⟨w.heap.size, 1, none⟩ = some (.int .i64 Bk)) (go_keep)
    ((go_at_call 54; refine hth.mono ?_; rintro e w5 ⟨rfl, hO5, b5⟩; have hx0 := (hO5.front 2 _ rfl).cellsE; have hx1 := (hO5.front 1 _ rfl).cellsE; have i0 : w5.cell? ⟨w.heap.size, 0, none⟩ = some (.int .i64 P) := (by rw [cell_of hx0.1]; rfl); have i1 : w5.cell? ⟨w.heap.size, 1, none⟩ = some (.int .i64 Bk) := (by rw [cell_of hx0.1]; rfl); have hb5 := hb4.drew.trans b5; have hz5 := Nat.le_trans hB hb5.size; have c0 : w5.cell? ⟨w.heap.size + 1, 0, none⟩ = some (.int .i64 0) := (by rw [cell_of hx1.1]; rfl); have c1 : w5.cell? ⟨w.heap.size + 1, 1, none⟩ = some (.int .i64 0) := (by rw [cell_of hx1.1]; rfl); have f0 : w5.frozen? ⟨w.heap.size + 1, 0, none⟩ = false := free_of hx1.1 _; have f1 : w5.frozen? ⟨w.heap.size + 1, 1, none⟩ = false := free_of hx1.1 _; have p1 := (hO5.front 1 _ rfl).poke hz5 0 (.int .i64 S0); have p2 := p1.1.poke (Nat.le_trans hB (hb5.trans p1.2).size) 1 (.int .i64 Bk); have k0 : ((w5.setCell ⟨w.heap.size + 1, 0, none⟩ (.int .i64 S0)).setCell ⟨w.heap.size + 1, 1, none⟩ (.int .i64 Bk)).cell? ⟨w.heap.size, 0, none⟩ = some (.int .i64 P) := (by rw [cell_of (p2.1.front 2 _ rfl).cellsE.1]; rfl); have k1 : ((w5.setCell ⟨w.heap.size + 1, 0, none⟩ (.int .i64 S0)).setCell ⟨w.heap.size + 1, 1, none⟩ (.int .i64 Bk)).cell? ⟨w.heap.size, 1, none⟩ = some (.int .i64 Bk) := (by rw [cell_of (p2.1.front 2 _ rfl).cellsE.1]; rfl); clear hx0 hx1))
  have g0 : ((w5.setCell ⟨w.heap.size + 1, 0, none⟩ (.int .i64 S0)).setCell ⟨w.heap.size + 1, 1, none⟩ (.int .i64 Bk)).cell? ⟨w.heap.size + 1, 0, none⟩ = some (.int .i64 S0) := by rw [cell_of p2.1.cellsE.1]; rfl
  have g1 : ((w5.setCell ⟨w.heap.size + 1, 0, none⟩ (.int .i64 S0)).setCell ⟨w.heap.size + 1, 1, none⟩ (.int .i64 Bk)).cell? ⟨w.heap.size + 1, 1, none⟩ = some (.int .i64 Bk) := by rw [cell_of p2.1.cellsE.1]; rfl
  have hfin := (sea_iff.1 (p2.1.front 1 _ rfl)).tail.tail.tail
  have hb := hb5.trans (p1.2.trans p2.2)
  go_wp2_with fail
  generalize (w5.setCell ⟨w.heap.size + 1, 0, none⟩ (.int .i64 S0)).setCell ⟨w.heap.size + 1, 1, none⟩ (.int .i64 Bk) = w9 at *
  exact bodyPost_ret (v := .agg #[.int .i64 S0, .int .i64 Bk]) (by simp [results, Try.results37, go_sem, g0, g1]) rfl ⟨rfl, (hfin.drop1).drop1, hb⟩
end
end Go.Proofs.Pan
