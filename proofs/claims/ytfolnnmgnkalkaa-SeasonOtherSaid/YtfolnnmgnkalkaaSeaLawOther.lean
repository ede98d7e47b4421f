/- SeasonOther: the plain law, the walk. -/
import Derived.Test.YtfolnnmgnkalkaaSeaLawTells
import Derived.Deep.CutBlock
import Derived.Deep.DeepCutAuto
namespace Go.Proofs.Pan
open Go.RowKit Go.Cic Go.ChangeMaps
set_option linter.unusedVariables false
set_option linter.unusedSimpArgs false
set_option maxRecDepth 100000
/-- A pane that is neither now's nor then's. -/
def far (W P Bk now at_ : Int) : Prop := ¬ (0 ≤ now / W - at_ / W ∧ (now / W - at_ / W) % (P / W) = 0 ∧ (now / W - at_ / W) / (P / W) ≤ Bk)
theorem sago_far {W P Bk now at_ n : Int} {key : ByteArray} (acts : List Act') (hs : sok P Bk W now) (hf : far W P Bk now at_) (k : ByteArray) (i : Int) (h0 : 0 ≤ i) (h1 : i ≤ Bk) :
    sago W P (now - now % W) (acts ++ [(1, key, at_, n)]) k i = sago W P (now - now % W) acts k i := by
  obtain ⟨⟨hW, hP, _, hm, _, _⟩, _, _⟩ := hs
  unfold sago
  rw [asum_snoc]
  have hpw : W * (P / W) = P := by have := Int.mul_ediv_add_emod P W; omega
  have hq : now - now % W = W * (now / W) := by have := Int.mul_ediv_add_emod now W; omega
  have hx : now - now % W - i * P = W * (now / W - i * (P / W)) := by rw [hq, Int.mul_sub, Int.mul_left_comm, hpw]
  have hno : ¬ (pn W (now - now % W - i * P) ≤ pn W at_ ∧ pn W at_ < pn W (now - now % W - i * P + W)) := by
    rw [hx]
    unfold pn
    rw [Int.mul_ediv_cancel_left _ (by omega), show W * (now / W - i * (P / W)) + W = W * (now / W - i * (P / W) + 1) by rw [Int.mul_add]; omega, Int.mul_ediv_cancel_left _ (by omega)]
    rintro ⟨g1, g2⟩
    refine hf ?_
    have hp1 : 1 ≤ P / W := by
      by_cases h : P / W < 1
      · have h2 : W * (P / W) ≤ W * 0 := Int.mul_le_mul_of_nonneg_left (by omega) (by omega)
        omega
      · omega
    have he : now / W - at_ / W = i * (P / W) := by omega
    rw [he]
    refine ⟨Int.mul_nonneg h0 (by omega), Int.mul_emod_left _ _, ?_⟩
    rw [Int.mul_ediv_cancel _ (by omega)]; exact h1
  have hz : inr k (pn W (now - now % W - i * P)) (pn W (now - now % W - i * P + W)) (key, pn W at_) = 0 := inr_no (fun h => hno h.2)
  simp only [hz]; simp
theorem sthen_congr {f g : Int → Int} : ∀ {n : Nat}, (∀ i : Int, 0 ≤ i → i ≤ n → f i = g i) → sthen f n = sthen g n
  | 0, _ => rfl
  | n + 1, h => by
    simp only [sthen]
    rw [sthen_congr (n := n) (fun i h0 h1 => h i h0 (by push_cast; omega)), h _ (by omega) (by omega)]
section
variable {W P Bk now at_ n : Int} {key : ByteArray} {acts : List Act'}
theorem far_now (hs : sok P Bk W now) (hf : far W P Bk now at_) (k : ByteArray) : nowV W P Bk now (acts ++ [(1, key, at_, n)]) k = nowV W P Bk now acts k := by
  unfold nowV; rw [if_pos hs, if_pos hs, sago_far acts hs hf k 0 (by omega) (by have := hs.1; unfold smay at this; omega)]
theorem far_then (hs : sok P Bk W now) (hf : far W P Bk now at_) (k : ByteArray) : sthen (sago W P (now - now % W) (acts ++ [(1, key, at_, n)]) k) Bk.toNat = sthen (sago W P (now - now % W) acts k) Bk.toNat :=
  sthen_congr (fun i h0 h1 => sago_far acts hs hf k i h0 (by have := hs.1; unfold smay at this; omega))
theorem far_usu (hs : sok P Bk W now) (hf : far W P Bk now at_) (k : ByteArray) : usuN W P Bk now (acts ++ [(1, key, at_, n)]) k = usuN W P Bk now acts k := by
  unfold usuN; rw [if_pos hs, if_pos hs, far_then hs hf]
theorem far_odd (hs : sok P Bk W now) (hf : far W P Bk now at_) (floor : Int) (k : ByteArray) : oddB W P Bk (now - now % W) floor (acts ++ [(1, key, at_, n)]) k = oddB W P Bk (now - now % W) floor acts k := by
  unfold oddB; rw [far_then hs hf, sago_far acts hs hf k 0 (by omega) (by have := hs.1; unfold smay at this; omega)]
end
set_option maxHeartbeats 40000000 in
theorem law_other (width P Bk now at_ : Int) (A : Option Addr) (cap : Nat) (l : List Add') (key : ByteArray) (w : World) (hl : l.length ≤ maxLen) (hs : SlAt rdAdd w A l) (hkey : key.size ≤ 9223372036854775807) (hP1 : -9223372036854775808 ≤ P) (hP2 : P ≤ 9223372036854775807) (hB1 : -9223372036854775808 ≤ Bk) (hB2 : Bk ≤ 9223372036854775807) (hn1 : -9223372036854775808 ≤ now) (hn2 : now ≤ 9223372036854775807) (ha1 : -9223372036854775808 ≤ at_) (ha2 : at_ ≤ 9223372036854775807) :
    Calls Try.prog 14 #[.int .i64 width, .slice A l.length cap, .agg #[.int .i64 P, .int .i64 Bk], .int .i64 now, .string key, .int .i64 at_] w fun e w' => e = .returned (.bool true) ∧ Below w.heap.size w w' := by
  have hO := ((Owns.nil w.heap.size w).alloc_cells (Nat.le_refl _) #[.int .i64 P, .int .i64 Bk] 53)
  have bA : Below w.heap.size w (w.alloc (.cells #[.int .i64 P, .int .i64 Bk] 53)) := (Below.refl _ w).alloc (Nat.le_refl _) _
  have cells : ∀ {W' : World} {l' : List Asrt}, Owns w.heap.size (Asrt.cells w.heap.size #[.int .i64 P, .int .i64 Bk] 53 :: l') W' → W'.cell? ⟨w.heap.size, 0, none⟩ = some (.int .i64 P) ∧ W'.cell? ⟨w.heap.size, 1, none⟩ = some (.int .i64 Bk) := fun h =>
    ⟨by rw [cell_of h.cellsE.1]; rfl, by rw [cell_of h.cellsE.1]; rfl⟩
  have haw := fun (W0 : World) => awake33 W0
  have hlg := long_any A cap l P Bk (w.alloc (.cells #[.int .i64 P, .int .i64 Bk] 53)) hl (hs.below bA) hB1 hB2
  obtain ⟨c0, c1⟩ := cells hO
  by_cases hv : longB l Bk = true ∨ 60 < key.size ∨ at_ < 0 ∨ 1099511627776 < at_
  · have hcs : longB l Bk = true ∨ (longB l Bk = false ∧ 60 < key.size) ∨ (longB l Bk = false ∧ key.size ≤ 60 ∧ at_ < 0) ∨ (longB l Bk = false ∧ key.size ≤ 60 ∧ 0 ≤ at_ ∧ 1099511627776 < at_) := by
      by_cases hf : longB l Bk = true
      · exact .inl hf
      · have h2 := hv.resolve_left hf
        have hf : longB l Bk = false := by simpa using hf
        simp only [hf, true_and]; simp; omega
    clear hv
    rcases hcs with hf | ⟨hf, h2⟩ | ⟨hf, h2, h3⟩ | ⟨hf, h2, h3, h4⟩
    all_goals
      rw [hf] at hlg
      clear hf
      go_enter Try.func14, Try.ntmps14
      go_wp2_with fail
      refine hlg.mono ?_
      rintro e w1 ⟨rfl, b1⟩
      have hb1 := bA.trans (b1.mono bA.size)
      go_wp2_with fail
      refine (haw _).mono ?_
      rintro e w2 ⟨rfl, b2⟩
      go_wp2_with fail
      go_ret
      exact ⟨rfl, hb1.trans (b2.mono hb1.size)⟩
  obtain ⟨hf, hk, hz1, hz2⟩ : longB l Bk = false ∧ key.size ≤ 60 ∧ 0 ≤ at_ ∧ at_ ≤ 1099511627776 := by
    simp only [not_or] at hv
    exact ⟨by simpa using hv.1, by omega, by omega, by omega⟩
  clear hv
  rw [hf] at hlg
  obtain ⟨hsm, hll, _⟩ := longB_no hf
  clear hf
  have hk1000 : ∀ x ∈ l, x.1.size ≤ 1000 := fun x hx => by have := hsm x hx; omega
  go_enter Try.func14, Try.ntmps14
  go_wp2_with fail
  refine hlg.mono ?_
  rintro e w1 ⟨rfl, b1⟩
  have hb1 := bA.trans (b1.mono bA.size)
  have hO1 := hO.keep b1
  have hfl := fill_own width A cap l w1 w (by omega) hs rfl hb1 hO1 hk1000
  have hwb := wf_bd width
  generalize wf width = W at hfl hwb
  obtain ⟨hW1, hW2⟩ := hwb
  go_wp2_with fail
  refine hfl.mono ?_
  rintro e w2 ⟨p, rfl, hO2, hb2⟩
  have hokA : ∀ a ∈ l.map actOf, rdS.ok a.2.1 := fun a ha => by
    obtain ⟨d, hd, rfl⟩ := List.mem_map.1 ha
    exact (hs.1 d hd).1
  have hkok : rdS.ok key := by show key.size ≤ maxLen; unfold maxLen; omega
  obtain ⟨i0, i1⟩ := cells hO2.swap
  have hwd := width_any p W w2 (panR_width hO2)
  have hr41 := right41 P Bk W now w2 hP1 hP2 hB1 hB2 (by omega) (by omega)
  by_cases hsk : sok P Bk W now
  · rw [decide_eq_true hsk] at hr41
    have hsk' := hsk
    obtain ⟨⟨g1, g2, g3, g4, g5, g6⟩, g7, g8⟩ := hsk'
    go_wp2_with fail
    refine hwd.mono ?_
    rintro e w' ⟨rfl, rfl⟩
    go_wp2_with fail
    refine hr41.mono ?_
    rintro e wx ⟨rfl, bx⟩
    have hX := hO2.keep bx
    have hbX := hb2.trans (bx.mono hb2.size)
    obtain ⟨j0, j1⟩ := cells hX.swap
    -- the numbers
    have hw0 : (W == 0) = false := by simpa using (by omega : W ≠ 0)
    have hw9 : ¬ W = 0 := by omega
    have et1 : now.tdiv W = now / W := Int.tdiv_eq_ediv_of_nonneg (by omega)
    have et2 : at_.tdiv W = at_ / W := Int.tdiv_eq_ediv_of_nonneg (by omega)
    have et3 : P.tdiv W = P / W := Int.tdiv_eq_ediv_of_nonneg (by omega)
    have hq0 : 0 ≤ now / W ∧ now / W ≤ now := ⟨Int.ediv_nonneg g7 (by omega), Int.ediv_le_self _ g7⟩
    have hr0 : 0 ≤ at_ / W ∧ at_ / W ≤ at_ := ⟨Int.ediv_nonneg hz1 (by omega), Int.ediv_le_self _ hz1⟩
    have hp0 : 1 ≤ P / W ∧ P / W ≤ P := by
      refine ⟨?_, Int.ediv_le_self _ (by omega)⟩
      have hpw : W * (P / W) = P := by have := Int.mul_ediv_add_emod P W; omega
      by_cases h : P / W < 1
      · have h2 : W * (P / W) ≤ W * 0 := Int.mul_le_mul_of_nonneg_left (by omega) (by omega)
        omega
      · omega
    have hfar : far W P Bk now at_ ↔ ¬ (0 ≤ now / W - at_ / W ∧ (now / W - at_ / W) % (P / W) = 0 ∧ (now / W - at_ / W) / (P / W) ≤ Bk) := Iff.rfl
    generalize now / W = q at et1 hq0 hfar
    generalize at_ / W = r at et2 hr0 hfar
    generalize P / W = pw at et3 hp0 hfar
    obtain ⟨ag, hag⟩ : ∃ ag, q - r = ag := ⟨_, rfl⟩
    rw [hag] at hfar
    have e1 : IntKind.i64.wrap q = q := IntWalk.i64_in _ (by omega)
    have e2 : IntKind.i64.wrap r = r := IntWalk.i64_in _ (by omega)
    have e3 : IntKind.i64.wrap ag = ag := IntWalk.i64_in _ (by omega)
    have e4 : IntKind.i64.wrap pw = pw := IntWalk.i64_in _ (by omega)
    have hag2 : -1099511627776 ≤ ag ∧ ag ≤ 1099511627776 := by omega
    clear hwd hr41 hO2 hb2 bx g4
    go_wp2_with fail
    go_region_held3 (fun _ => True) (trivial) (fail)
    have hXd := hX.drew
    have hbXd := hbX.drew
    have j0d : wx.drew.cell? ⟨w.heap.size, 0, none⟩ = some (.int .i64 P) := j0
    have j1d : wx.drew.cell? ⟨w.heap.size, 1, none⟩ = some (.int .i64 Bk) := j1
    clear hX hbX j0 j1 e1 e2 et1 et2
    generalize wx.drew = wy at *
    go_upto_region 10 with fail
    go_cut [77] (fun s wq => ∃ bb : Bool, s = .bool bb ∧ wq = wy.drew ∧ (bb = false → far W P Bk now at_))
    case first =>
      have hw8 : (pw == 0) = false := by simpa using (by omega : pw ≠ 0)
      have hw7 : ¬ pw = 0 := by omega
      have hrest : far W P Bk now at_ → ∀ (nq : Nat), True := fun _ _ => trivial
      have hcs : (ag < 0 ∧ far W P Bk now at_) ∨ (0 ≤ ag ∧ (ag % pw == 0) = false ∧ far W P Bk now at_) ∨ (0 ≤ ag ∧ (ag % pw == 0) = true ∧ Bk < ag / pw ∧ far W P Bk now at_) ∨ (0 ≤ ag ∧ (ag % pw == 0) = true ∧ ag / pw ≤ Bk) := by
        by_cases c1 : ag < 0
        · exact .inl ⟨c1, hfar.2 (fun h => by omega)⟩
        · by_cases c2 : ag % pw = 0
          · by_cases c3 : ag / pw ≤ Bk
            · exact .inr (.inr (.inr ⟨by omega, by simpa using c2, c3⟩))
            · exact .inr (.inr (.inl ⟨by omega, by simpa using c2, by omega, hfar.2 (fun h => c3 h.2.2)⟩))
          · exact .inr (.inl ⟨by omega, by simpa using c2, hfar.2 (fun h => c2 h.2.1)⟩)
      clear hfar hrest
      have et4 : 0 ≤ ag → ag.tmod pw = ag % pw := fun h => Int.tmod_eq_emod_of_nonneg h
      have et5 : 0 ≤ ag → ag.tdiv pw = ag / pw := fun h => Int.tdiv_eq_ediv_of_nonneg h
      have hm2 : 0 ≤ ag → 0 ≤ ag % pw ∧ ag % pw < pw := fun h => ⟨Int.emod_nonneg _ (by omega), Int.emod_lt_of_pos _ (by omega)⟩
      have hd2 : 0 ≤ ag → 0 ≤ ag / pw ∧ ag / pw ≤ ag := fun h => ⟨Int.ediv_nonneg h (by omega), Int.ediv_le_self _ h⟩
      rcases hcs with ⟨c1, hff⟩ | ⟨c1, c2, hff⟩ | ⟨c1, c2, c3, hff⟩ | ⟨c1, c2, c3⟩
      · clear et4 et5 hm2 hd2
        have t1 : decide (0 ≤ ag) = false := decide_eq_false (by omega)
        refine wp_region_held_drew (S := fun w' => w'.cell? ⟨w.heap.size, 0, none⟩ = some (.int .i64 P) ∧ w'.cell? ⟨w.heap.size, 1, none⟩ = some (.int .i64 Bk)) (by kernel_rfl) ?_ (fun hHeld => ?_)
        · (try dsimp only); exact ⟨by assumption, by assumption⟩
        refine wpAnyH_take (i := 0) (v := ?_) (by simp only [List.getElem?_toArray, List.getElem?_cons_zero]; exact rfl) (by kernel_rfl) (by kernel_rfl) (by kernel_rfl) (by exact fun _ _ _ h => h) (Or.inl ⟨by rfl, ?_⟩) (by assumption) ?_; rotate_left; (intro w hSw; (try dsimp only at hSw); go_simp; try with_reducible rfl); try simp only [Act.put, List.setIfInBounds_toArray, List.set_cons_zero, List.set_cons_succ]
        refine wpAnyH_take (i := 1) (v := ?_) (by simp only [List.getElem?_toArray, List.getElem?_cons_succ, List.getElem?_cons_zero]; exact rfl) (by kernel_rfl) (by kernel_rfl) (by kernel_rfl) (by exact fun _ _ _ h => h) (Or.inl ⟨by rfl, ?_⟩) (by assumption) ?_; rotate_left; (intro w hSw; (try dsimp only at hSw); go_simp; try with_reducible rfl); try simp only [Act.put, List.setIfInBounds_toArray, List.set_cons_zero, List.set_cons_succ]
        refine wpAnyH_take (i := 2) (v := ?_) (by simp only [List.getElem?_toArray, List.getElem?_cons_succ, List.getElem?_cons_zero]; exact rfl) (by kernel_rfl) (by kernel_rfl) (by kernel_rfl) (by exact fun _ _ _ h => h) (Or.inl ⟨by rfl, ?_⟩) (by assumption) ?_; rotate_left; (intro w hSw; (try dsimp only at hSw); go_simp; try with_reducible rfl); try simp only [Act.put, List.setIfInBounds_toArray, List.set_cons_zero, List.set_cons_succ]
        refine wpAnyH_take (i := 3) (v := undef) (by simp only [List.getElem?_toArray, List.getElem?_cons_succ, List.getElem?_cons_zero]; exact rfl) (by kernel_rfl) (by kernel_rfl) (by kernel_rfl) (by exact fun _ _ _ h => h) (Or.inr ⟨by rfl, rfl⟩) (by assumption) ?_; try simp only [Act.put, List.setIfInBounds_toArray, List.set_cons_zero, List.set_cons_succ]
        refine wpAnyH_take (i := 4) (v := undef) (by simp only [List.getElem?_toArray, List.getElem?_cons_succ, List.getElem?_cons_zero]; exact rfl) (by kernel_rfl) (by kernel_rfl) (by kernel_rfl) (by exact fun _ _ _ h => h) (Or.inr ⟨by rfl, rfl⟩) (by assumption) ?_; try simp only [Act.put, List.setIfInBounds_toArray, List.set_cons_zero, List.set_cons_succ]
        refine wpAnyH_take (i := 5) (v := undef) (by simp only [List.getElem?_toArray, List.getElem?_cons_succ, List.getElem?_cons_zero]; exact rfl) (by kernel_rfl) (by kernel_rfl) (by kernel_rfl) (by exact fun _ _ _ h => h) (Or.inr ⟨by rfl, rfl⟩) (by assumption) ?_; try simp only [Act.put, List.setIfInBounds_toArray, List.set_cons_zero, List.set_cons_succ]
        refine wpAnyH_take (i := 6) (v := undef) (by simp only [List.getElem?_toArray, List.getElem?_cons_succ, List.getElem?_cons_zero]; exact rfl) (by kernel_rfl) (by kernel_rfl) (by kernel_rfl) (by exact fun _ _ _ h => h) (Or.inr ⟨by rfl, rfl⟩) (by assumption) ?_; try simp only [Act.put, List.setIfInBounds_toArray, List.set_cons_zero, List.set_cons_succ]
        refine wpAnyH_take (i := 7) (v := undef) (by simp only [List.getElem?_toArray, List.getElem?_cons_succ, List.getElem?_cons_zero]; exact rfl) (by kernel_rfl) (by kernel_rfl) (by kernel_rfl) (by exact fun _ _ _ h => h) (Or.inr ⟨by rfl, rfl⟩) (by assumption) ?_; try simp only [Act.put, List.setIfInBounds_toArray, List.set_cons_zero, List.set_cons_succ]
        refine wpAnyH_take (i := 8) (v := undef) (by simp only [List.getElem?_toArray, List.getElem?_cons_succ, List.getElem?_cons_zero]; exact rfl) (by kernel_rfl) (by kernel_rfl) (by kernel_rfl) (by exact fun _ _ _ h => h) (Or.inr ⟨by rfl, rfl⟩) (by assumption) ?_; try simp only [Act.put, List.setIfInBounds_toArray, List.set_cons_zero, List.set_cons_succ]
        refine wpAnyH_take (i := 9) (v := undef) (by simp only [List.getElem?_toArray, List.getElem?_cons_succ, List.getElem?_cons_zero]; exact rfl) (by kernel_rfl) (by kernel_rfl) (by kernel_rfl) (by exact fun _ _ _ h => h) (Or.inr ⟨by rfl, rfl⟩) (by assumption) ?_; try simp only [Act.put, List.setIfInBounds_toArray, List.set_cons_zero, List.set_cons_succ]
        refine wpAnyH_take (i := 10) (v := ?_) (by simp only [List.getElem?_toArray, List.getElem?_cons_succ, List.getElem?_cons_zero]; exact rfl) (by kernel_rfl) (by kernel_rfl) (by kernel_rfl) (by exact fun _ _ _ h => h) (Or.inl ⟨by rfl, ?_⟩) (by assumption) ?_; rotate_left; (intro w hSw; (try dsimp only at hSw); go_simp; try with_reducible rfl); try simp only [Act.put, List.setIfInBounds_toArray, List.set_cons_zero, List.set_cons_succ]
        refine wpAnyH_take (i := 11) (v := ?_) (by simp only [List.getElem?_toArray, List.getElem?_cons_succ, List.getElem?_cons_zero]; exact rfl) (by kernel_rfl) (by kernel_rfl) (by kernel_rfl) (by exact fun _ _ _ h => h) (Or.inl ⟨by rfl, ?_⟩) (by assumption) ?_; rotate_left; (intro w hSw; (try dsimp only at hSw); go_simp; try with_reducible rfl); try simp only [Act.put, List.setIfInBounds_toArray, List.set_cons_zero, List.set_cons_succ]
        refine wpAnyH_take (i := 12) (v := undef) (by simp only [List.getElem?_toArray, List.getElem?_cons_succ, List.getElem?_cons_zero]; exact rfl) (by kernel_rfl) (by kernel_rfl) (by kernel_rfl) (by exact fun _ _ _ h => h) (Or.inr ⟨by rfl, rfl⟩) (by assumption) ?_; try simp only [Act.put, List.setIfInBounds_toArray, List.set_cons_zero, List.set_cons_succ]
        refine wpAnyH_take (i := 13) (v := undef) (by simp only [List.getElem?_toArray, List.getElem?_cons_succ, List.getElem?_cons_zero]; exact rfl) (by kernel_rfl) (by kernel_rfl) (by kernel_rfl) (by exact fun _ _ _ h => h) (Or.inr ⟨by rfl, rfl⟩) (by assumption) ?_; try simp only [Act.put, List.setIfInBounds_toArray, List.set_cons_zero, List.set_cons_succ]
        refine wpAnyH_take (i := 14) (v := undef) (by simp only [List.getElem?_toArray, List.getElem?_cons_succ, List.getElem?_cons_zero]; exact rfl) (by kernel_rfl) (by kernel_rfl) (by kernel_rfl) (by exact fun _ _ _ h => h) (Or.inr ⟨by rfl, rfl⟩) (by assumption) ?_; try simp only [Act.put, List.setIfInBounds_toArray, List.set_cons_zero, List.set_cons_succ]
        refine wpAnyH_take (i := 15) (v := undef) (by simp only [List.getElem?_toArray, List.getElem?_cons_succ, List.getElem?_cons_zero]; exact rfl) (by kernel_rfl) (by kernel_rfl) (by kernel_rfl) (by exact fun _ _ _ h => h) (Or.inr ⟨by rfl, rfl⟩) (by assumption) ?_; try simp only [Act.put, List.setIfInBounds_toArray, List.set_cons_zero, List.set_cons_succ]
        refine wpAnyH_take (i := 16) (v := undef) (by simp only [List.getElem?_toArray, List.getElem?_cons_succ, List.getElem?_cons_zero]; exact rfl) (by kernel_rfl) (by kernel_rfl) (by kernel_rfl) (by exact fun _ _ _ h => h) (Or.inr ⟨by rfl, rfl⟩) (by assumption) ?_; try simp only [Act.put, List.setIfInBounds_toArray, List.set_cons_zero, List.set_cons_succ]
        refine wpAnyH_take (i := 17) (v := undef) (by simp only [List.getElem?_toArray, List.getElem?_cons_succ, List.getElem?_cons_zero]; exact rfl) (by kernel_rfl) (by kernel_rfl) (by kernel_rfl) (by exact fun _ _ _ h => h) (Or.inr ⟨by rfl, rfl⟩) (by assumption) ?_; try simp only [Act.put, List.setIfInBounds_toArray, List.set_cons_zero, List.set_cons_succ]
        refine wpAnyH_take (i := 18) (v := undef) (by simp only [List.getElem?_toArray, List.getElem?_cons_succ, List.getElem?_cons_zero]; exact rfl) (by kernel_rfl) (by kernel_rfl) (by kernel_rfl) (by exact fun _ _ _ h => h) (Or.inr ⟨by rfl, rfl⟩) (by assumption) ?_; try simp only [Act.put, List.setIfInBounds_toArray, List.set_cons_zero, List.set_cons_succ]
        refine wpAnyH_take (i := 19) (v := undef) (by simp only [List.getElem?_toArray, List.getElem?_cons_succ, List.getElem?_cons_zero]; exact rfl) (by kernel_rfl) (by kernel_rfl) (by kernel_rfl) (by exact fun _ _ _ h => h) (Or.inr ⟨by rfl, rfl⟩) (by assumption) ?_; try simp only [Act.put, List.setIfInBounds_toArray, List.set_cons_zero, List.set_cons_succ]
        refine wpAnyH_take (i := 20) (v := undef) (by simp only [List.getElem?_toArray, List.getElem?_cons_succ, List.getElem?_cons_zero]; exact rfl) (by kernel_rfl) (by kernel_rfl) (by kernel_rfl) (by exact fun _ _ _ h => h) (Or.inr ⟨by rfl, rfl⟩) (by assumption) ?_; try simp only [Act.put, List.setIfInBounds_toArray, List.set_cons_zero, List.set_cons_succ]
        refine wpAnyH_take (i := 21) (v := ?_) (by simp only [List.getElem?_toArray, List.getElem?_cons_succ, List.getElem?_cons_zero]; exact rfl) (by kernel_rfl) (by kernel_rfl) (by kernel_rfl) (by exact fun _ _ _ h => h) (Or.inl ⟨by rfl, ?_⟩) (by assumption) ?_; rotate_left; (intro w hSw; (try dsimp only at hSw); go_simp; try with_reducible rfl); try simp only [Act.put, List.setIfInBounds_toArray, List.set_cons_zero, List.set_cons_succ]
        refine wpAnyH_done (by kernel_rfl) ?_ _
        go_wp2_with fail
        go_meet
        exact ⟨false, rfl, rfl, fun _ => hff⟩
      · have et4 := et4 c1
        have et5 := et5 c1
        have hm2 := hm2 c1
        have hd2 := hd2 c1
        generalize ag % pw = rm at *
        generalize ag / pw = dv at *
        have e5 : IntKind.i64.wrap rm = rm := IntWalk.i64_in _ (by omega)
        have e6 : IntKind.i64.wrap dv = dv := IntWalk.i64_in _ (by omega)
        have t1 : decide (0 ≤ ag) = true := decide_eq_true (by omega)
        refine wp_region_held_drew (S := fun w' => w'.cell? ⟨w.heap.size, 0, none⟩ = some (.int .i64 P) ∧ w'.cell? ⟨w.heap.size, 1, none⟩ = some (.int .i64 Bk)) (by kernel_rfl) ?_ (fun hHeld => ?_)
        · (try dsimp only); exact ⟨by assumption, by assumption⟩
        refine wpAnyH_take (i := 0) (v := ?_) (by simp only [List.getElem?_toArray, List.getElem?_cons_zero]; exact rfl) (by kernel_rfl) (by kernel_rfl) (by kernel_rfl) (by exact fun _ _ _ h => h) (Or.inl ⟨by rfl, ?_⟩) (by assumption) ?_; rotate_left; (intro w hSw; (try dsimp only at hSw); go_simp; try with_reducible rfl); try simp only [Act.put, List.setIfInBounds_toArray, List.set_cons_zero, List.set_cons_succ]
        refine wpAnyH_take (i := 1) (v := ?_) (by simp only [List.getElem?_toArray, List.getElem?_cons_succ, List.getElem?_cons_zero]; exact rfl) (by kernel_rfl) (by kernel_rfl) (by kernel_rfl) (by exact fun _ _ _ h => h) (Or.inl ⟨by rfl, ?_⟩) (by assumption) ?_; rotate_left; (intro w hSw; (try dsimp only at hSw); go_simp; try with_reducible rfl); try simp only [Act.put, List.setIfInBounds_toArray, List.set_cons_zero, List.set_cons_succ]
        refine wpAnyH_take (i := 2) (v := ?_) (by simp only [List.getElem?_toArray, List.getElem?_cons_succ, List.getElem?_cons_zero]; exact rfl) (by kernel_rfl) (by kernel_rfl) (by kernel_rfl) (by exact fun _ _ _ h => h) (Or.inl ⟨by rfl, ?_⟩) (by assumption) ?_; rotate_left; (intro w hSw; (try dsimp only at hSw); go_simp; try with_reducible rfl); try simp only [Act.put, List.setIfInBounds_toArray, List.set_cons_zero, List.set_cons_succ]
        refine wpAnyH_take (i := 3) (v := ?_) (by simp only [List.getElem?_toArray, List.getElem?_cons_succ, List.getElem?_cons_zero]; exact rfl) (by kernel_rfl) (by kernel_rfl) (by kernel_rfl) (by exact fun _ _ _ h => h) (Or.inl ⟨by rfl, ?_⟩) (by assumption) ?_; rotate_left; (intro w hSw; (try dsimp only at hSw); go_simp; try with_reducible rfl); try simp only [Act.put, List.setIfInBounds_toArray, List.set_cons_zero, List.set_cons_succ]
        refine wpAnyH_take (i := 4) (v := ?_) (by simp only [List.getElem?_toArray, List.getElem?_cons_succ, List.getElem?_cons_zero]; exact rfl) (by kernel_rfl) (by kernel_rfl) (by kernel_rfl) (by exact fun _ _ _ h => h) (Or.inl ⟨by rfl, ?_⟩) (by assumption) ?_; rotate_left; (intro w hSw; (try dsimp only at hSw); go_simp; try with_reducible rfl); try simp only [Act.put, List.setIfInBounds_toArray, List.set_cons_zero, List.set_cons_succ]
        refine wpAnyH_take (i := 5) (v := ?_) (by simp only [List.getElem?_toArray, List.getElem?_cons_succ, List.getElem?_cons_zero]; exact rfl) (by kernel_rfl) (by kernel_rfl) (by kernel_rfl) (by exact fun _ _ _ h => h) (Or.inl ⟨by rfl, ?_⟩) (by assumption) ?_; rotate_left; (intro w hSw; (try dsimp only at hSw); go_simp; try with_reducible rfl); try simp only [Act.put, List.setIfInBounds_toArray, List.set_cons_zero, List.set_cons_succ]
        refine wpAnyH_take (i := 6) (v := ?_) (by simp only [List.getElem?_toArray, List.getElem?_cons_succ, List.getElem?_cons_zero]; exact rfl) (by kernel_rfl) (by kernel_rfl) (by kernel_rfl) (by exact fun _ _ _ h => h) (Or.inl ⟨by rfl, ?_⟩) (by assumption) ?_; rotate_left; (intro w hSw; (try dsimp only at hSw); go_simp; try with_reducible rfl); try simp only [Act.put, List.setIfInBounds_toArray, List.set_cons_zero, List.set_cons_succ]
        refine wpAnyH_take (i := 7) (v := ?_) (by simp only [List.getElem?_toArray, List.getElem?_cons_succ, List.getElem?_cons_zero]; exact rfl) (by kernel_rfl) (by kernel_rfl) (by kernel_rfl) (by exact fun _ _ _ h => h) (Or.inl ⟨by rfl, ?_⟩) (by assumption) ?_; rotate_left; (intro w hSw; (try dsimp only at hSw); go_simp; try with_reducible rfl); try simp only [Act.put, List.setIfInBounds_toArray, List.set_cons_zero, List.set_cons_succ]
        refine wpAnyH_take (i := 8) (v := ?_) (by simp only [List.getElem?_toArray, List.getElem?_cons_succ, List.getElem?_cons_zero]; exact rfl) (by kernel_rfl) (by kernel_rfl) (by kernel_rfl) (by exact fun _ _ _ h => h) (Or.inl ⟨by rfl, ?_⟩) (by assumption) ?_; rotate_left; (intro w hSw; (try dsimp only at hSw); go_simp; try with_reducible rfl); try simp only [Act.put, List.setIfInBounds_toArray, List.set_cons_zero, List.set_cons_succ]
        refine wpAnyH_take (i := 9) (v := ?_) (by simp only [List.getElem?_toArray, List.getElem?_cons_succ, List.getElem?_cons_zero]; exact rfl) (by kernel_rfl) (by kernel_rfl) (by kernel_rfl) (by exact fun _ _ _ h => h) (Or.inl ⟨by rfl, ?_⟩) (by assumption) ?_; rotate_left; (intro w hSw; (try dsimp only at hSw); go_simp; try with_reducible rfl); try simp only [Act.put, List.setIfInBounds_toArray, List.set_cons_zero, List.set_cons_succ]
        refine wpAnyH_take (i := 10) (v := ?_) (by simp only [List.getElem?_toArray, List.getElem?_cons_succ, List.getElem?_cons_zero]; exact rfl) (by kernel_rfl) (by kernel_rfl) (by kernel_rfl) (by exact fun _ _ _ h => h) (Or.inl ⟨by rfl, ?_⟩) (by assumption) ?_; rotate_left; (intro w hSw; (try dsimp only at hSw); go_simp; try with_reducible rfl); try simp only [Act.put, List.setIfInBounds_toArray, List.set_cons_zero, List.set_cons_succ]
        refine wpAnyH_take (i := 11) (v := ?_) (by simp only [List.getElem?_toArray, List.getElem?_cons_succ, List.getElem?_cons_zero]; exact rfl) (by kernel_rfl) (by kernel_rfl) (by kernel_rfl) (by exact fun _ _ _ h => h) (Or.inl ⟨by rfl, ?_⟩) (by assumption) ?_; rotate_left; (intro w hSw; (try dsimp only at hSw); go_simp; try with_reducible rfl); try simp only [Act.put, List.setIfInBounds_toArray, List.set_cons_zero, List.set_cons_succ]
        refine wpAnyH_take (i := 12) (v := undef) (by simp only [List.getElem?_toArray, List.getElem?_cons_succ, List.getElem?_cons_zero]; exact rfl) (by kernel_rfl) (by kernel_rfl) (by kernel_rfl) (by exact fun _ _ _ h => h) (Or.inr ⟨by rfl, rfl⟩) (by assumption) ?_; try simp only [Act.put, List.setIfInBounds_toArray, List.set_cons_zero, List.set_cons_succ]
        refine wpAnyH_take (i := 13) (v := undef) (by simp only [List.getElem?_toArray, List.getElem?_cons_succ, List.getElem?_cons_zero]; exact rfl) (by kernel_rfl) (by kernel_rfl) (by kernel_rfl) (by exact fun _ _ _ h => h) (Or.inr ⟨by rfl, rfl⟩) (by assumption) ?_; try simp only [Act.put, List.setIfInBounds_toArray, List.set_cons_zero, List.set_cons_succ]
        refine wpAnyH_take (i := 14) (v := undef) (by simp only [List.getElem?_toArray, List.getElem?_cons_succ, List.getElem?_cons_zero]; exact rfl) (by kernel_rfl) (by kernel_rfl) (by kernel_rfl) (by exact fun _ _ _ h => h) (Or.inr ⟨by rfl, rfl⟩) (by assumption) ?_; try simp only [Act.put, List.setIfInBounds_toArray, List.set_cons_zero, List.set_cons_succ]
        refine wpAnyH_take (i := 15) (v := undef) (by simp only [List.getElem?_toArray, List.getElem?_cons_succ, List.getElem?_cons_zero]; exact rfl) (by kernel_rfl) (by kernel_rfl) (by kernel_rfl) (by exact fun _ _ _ h => h) (Or.inr ⟨by rfl, rfl⟩) (by assumption) ?_; try simp only [Act.put, List.setIfInBounds_toArray, List.set_cons_zero, List.set_cons_succ]
        refine wpAnyH_take (i := 16) (v := undef) (by simp only [List.getElem?_toArray, List.getElem?_cons_succ, List.getElem?_cons_zero]; exact rfl) (by kernel_rfl) (by kernel_rfl) (by kernel_rfl) (by exact fun _ _ _ h => h) (Or.inr ⟨by rfl, rfl⟩) (by assumption) ?_; try simp only [Act.put, List.setIfInBounds_toArray, List.set_cons_zero, List.set_cons_succ]
        refine wpAnyH_take (i := 17) (v := undef) (by simp only [List.getElem?_toArray, List.getElem?_cons_succ, List.getElem?_cons_zero]; exact rfl) (by kernel_rfl) (by kernel_rfl) (by kernel_rfl) (by exact fun _ _ _ h => h) (Or.inr ⟨by rfl, rfl⟩) (by assumption) ?_; try simp only [Act.put, List.setIfInBounds_toArray, List.set_cons_zero, List.set_cons_succ]
        refine wpAnyH_take (i := 18) (v := undef) (by simp only [List.getElem?_toArray, List.getElem?_cons_succ, List.getElem?_cons_zero]; exact rfl) (by kernel_rfl) (by kernel_rfl) (by kernel_rfl) (by exact fun _ _ _ h => h) (Or.inr ⟨by rfl, rfl⟩) (by assumption) ?_; try simp only [Act.put, List.setIfInBounds_toArray, List.set_cons_zero, List.set_cons_succ]
        refine wpAnyH_take (i := 19) (v := undef) (by simp only [List.getElem?_toArray, List.getElem?_cons_succ, List.getElem?_cons_zero]; exact rfl) (by kernel_rfl) (by kernel_rfl) (by kernel_rfl) (by exact fun _ _ _ h => h) (Or.inr ⟨by rfl, rfl⟩) (by assumption) ?_; try simp only [Act.put, List.setIfInBounds_toArray, List.set_cons_zero, List.set_cons_succ]
        refine wpAnyH_take (i := 20) (v := undef) (by simp only [List.getElem?_toArray, List.getElem?_cons_succ, List.getElem?_cons_zero]; exact rfl) (by kernel_rfl) (by kernel_rfl) (by kernel_rfl) (by exact fun _ _ _ h => h) (Or.inr ⟨by rfl, rfl⟩) (by assumption) ?_; try simp only [Act.put, List.setIfInBounds_toArray, List.set_cons_zero, List.set_cons_succ]
        refine wpAnyH_take (i := 21) (v := ?_) (by simp only [List.getElem?_toArray, List.getElem?_cons_succ, List.getElem?_cons_zero]; exact rfl) (by kernel_rfl) (by kernel_rfl) (by kernel_rfl) (by exact fun _ _ _ h => h) (Or.inl ⟨by rfl, ?_⟩) (by assumption) ?_; rotate_left; (intro w hSw; (try dsimp only at hSw); go_simp; try with_reducible rfl); try simp only [Act.put, List.setIfInBounds_toArray, List.set_cons_zero, List.set_cons_succ]
        refine wpAnyH_done (by kernel_rfl) ?_ _
        go_wp2_with fail
        go_meet
        exact ⟨false, rfl, rfl, fun _ => hff⟩
      · have et4 := et4 c1
        have et5 := et5 c1
        have hm2 := hm2 c1
        have hd2 := hd2 c1
        generalize ag % pw = rm at *
        generalize ag / pw = dv at *
        have e5 : IntKind.i64.wrap rm = rm := IntWalk.i64_in _ (by omega)
        have e6 : IntKind.i64.wrap dv = dv := IntWalk.i64_in _ (by omega)
        have t1 : decide (0 ≤ ag) = true := decide_eq_true (by omega)
        have t3 : decide (dv ≤ Bk) = false := decide_eq_false (by omega)
        refine wp_region_held_drew (S := fun w' => w'.cell? ⟨w.heap.size, 0, none⟩ = some (.int .i64 P) ∧ w'.cell? ⟨w.heap.size, 1, none⟩ = some (.int .i64 Bk)) (by kernel_rfl) ?_ (fun hHeld => ?_)
        · (try dsimp only); exact ⟨by assumption, by assumption⟩
        refine wpAnyH_take (i := 0) (v := ?_) (by simp only [List.getElem?_toArray, List.getElem?_cons_zero]; exact rfl) (by kernel_rfl) (by kernel_rfl) (by kernel_rfl) (by exact fun _ _ _ h => h) (Or.inl ⟨by rfl, ?_⟩) (by assumption) ?_; rotate_left; (intro w hSw; (try dsimp only at hSw); go_simp; try with_reducible rfl); try simp only [Act.put, List.setIfInBounds_toArray, List.set_cons_zero, List.set_cons_succ]
        refine wpAnyH_take (i := 1) (v := ?_) (by simp only [List.getElem?_toArray, List.getElem?_cons_succ, List.getElem?_cons_zero]; exact rfl) (by kernel_rfl) (by kernel_rfl) (by kernel_rfl) (by exact fun _ _ _ h => h) (Or.inl ⟨by rfl, ?_⟩) (by assumption) ?_; rotate_left; (intro w hSw; (try dsimp only at hSw); go_simp; try with_reducible rfl); try simp only [Act.put, List.setIfInBounds_toArray, List.set_cons_zero, List.set_cons_succ]
        refine wpAnyH_take (i := 2) (v := ?_) (by simp only [List.getElem?_toArray, List.getElem?_cons_succ, List.getElem?_cons_zero]; exact rfl) (by kernel_rfl) (by kernel_rfl) (by kernel_rfl) (by exact fun _ _ _ h => h) (Or.inl ⟨by rfl, ?_⟩) (by assumption) ?_; rotate_left; (intro w hSw; (try dsimp only at hSw); go_simp; try with_reducible rfl); try simp only [Act.put, List.setIfInBounds_toArray, List.set_cons_zero, List.set_cons_succ]
        refine wpAnyH_take (i := 3) (v := ?_) (by simp only [List.getElem?_toArray, List.getElem?_cons_succ, List.getElem?_cons_zero]; exact rfl) (by kernel_rfl) (by kernel_rfl) (by kernel_rfl) (by exact fun _ _ _ h => h) (Or.inl ⟨by rfl, ?_⟩) (by assumption) ?_; rotate_left; (intro w hSw; (try dsimp only at hSw); go_simp; try with_reducible rfl); try simp only [Act.put, List.setIfInBounds_toArray, List.set_cons_zero, List.set_cons_succ]
        refine wpAnyH_take (i := 4) (v := ?_) (by simp only [List.getElem?_toArray, List.getElem?_cons_succ, List.getElem?_cons_zero]; exact rfl) (by kernel_rfl) (by kernel_rfl) (by kernel_rfl) (by exact fun _ _ _ h => h) (Or.inl ⟨by rfl, ?_⟩) (by assumption) ?_; rotate_left; (intro w hSw; (try dsimp only at hSw); go_simp; try with_reducible rfl); try simp only [Act.put, List.setIfInBounds_toArray, List.set_cons_zero, List.set_cons_succ]
        refine wpAnyH_take (i := 5) (v := ?_) (by simp only [List.getElem?_toArray, List.getElem?_cons_succ, List.getElem?_cons_zero]; exact rfl) (by kernel_rfl) (by kernel_rfl) (by kernel_rfl) (by exact fun _ _ _ h => h) (Or.inl ⟨by rfl, ?_⟩) (by assumption) ?_; rotate_left; (intro w hSw; (try dsimp only at hSw); go_simp; try with_reducible rfl); try simp only [Act.put, List.setIfInBounds_toArray, List.set_cons_zero, List.set_cons_succ]
        refine wpAnyH_take (i := 6) (v := ?_) (by simp only [List.getElem?_toArray, List.getElem?_cons_succ, List.getElem?_cons_zero]; exact rfl) (by kernel_rfl) (by kernel_rfl) (by kernel_rfl) (by exact fun _ _ _ h => h) (Or.inl ⟨by rfl, ?_⟩) (by assumption) ?_; rotate_left; (intro w hSw; (try dsimp only at hSw); go_simp; try with_reducible rfl); try simp only [Act.put, List.setIfInBounds_toArray, List.set_cons_zero, List.set_cons_succ]
        refine wpAnyH_take (i := 7) (v := ?_) (by simp only [List.getElem?_toArray, List.getElem?_cons_succ, List.getElem?_cons_zero]; exact rfl) (by kernel_rfl) (by kernel_rfl) (by kernel_rfl) (by exact fun _ _ _ h => h) (Or.inl ⟨by rfl, ?_⟩) (by assumption) ?_; rotate_left; (intro w hSw; (try dsimp only at hSw); go_simp; try with_reducible rfl); try simp only [Act.put, List.setIfInBounds_toArray, List.set_cons_zero, List.set_cons_succ]
        refine wpAnyH_take (i := 8) (v := ?_) (by simp only [List.getElem?_toArray, List.getElem?_cons_succ, List.getElem?_cons_zero]; exact rfl) (by kernel_rfl) (by kernel_rfl) (by kernel_rfl) (by exact fun _ _ _ h => h) (Or.inl ⟨by rfl, ?_⟩) (by assumption) ?_; rotate_left; (intro w hSw; (try dsimp only at hSw); go_simp; try with_reducible rfl); try simp only [Act.put, List.setIfInBounds_toArray, List.set_cons_zero, List.set_cons_succ]
        refine wpAnyH_take (i := 9) (v := ?_) (by simp only [List.getElem?_toArray, List.getElem?_cons_succ, List.getElem?_cons_zero]; exact rfl) (by kernel_rfl) (by kernel_rfl) (by kernel_rfl) (by exact fun _ _ _ h => h) (Or.inl ⟨by rfl, ?_⟩) (by assumption) ?_; rotate_left; (intro w hSw; (try dsimp only at hSw); go_simp; try with_reducible rfl); try simp only [Act.put, List.setIfInBounds_toArray, List.set_cons_zero, List.set_cons_succ]
        refine wpAnyH_take (i := 10) (v := ?_) (by simp only [List.getElem?_toArray, List.getElem?_cons_succ, List.getElem?_cons_zero]; exact rfl) (by kernel_rfl) (by kernel_rfl) (by kernel_rfl) (by exact fun _ _ _ h => h) (Or.inl ⟨by rfl, ?_⟩) (by assumption) ?_; rotate_left; (intro w hSw; (try dsimp only at hSw); go_simp; try with_reducible rfl); try simp only [Act.put, List.setIfInBounds_toArray, List.set_cons_zero, List.set_cons_succ]
        refine wpAnyH_take (i := 11) (v := ?_) (by simp only [List.getElem?_toArray, List.getElem?_cons_succ, List.getElem?_cons_zero]; exact rfl) (by kernel_rfl) (by kernel_rfl) (by kernel_rfl) (by exact fun _ _ _ h => h) (Or.inl ⟨by rfl, ?_⟩) (by assumption) ?_; rotate_left; (intro w hSw; (try dsimp only at hSw); go_simp; try with_reducible rfl); try simp only [Act.put, List.setIfInBounds_toArray, List.set_cons_zero, List.set_cons_succ]
        refine wpAnyH_take (i := 12) (v := ?_) (by simp only [List.getElem?_toArray, List.getElem?_cons_succ, List.getElem?_cons_zero]; exact rfl) (by kernel_rfl) (by kernel_rfl) (by kernel_rfl) (by exact fun _ _ _ h => h) (Or.inl ⟨by rfl, ?_⟩) (by assumption) ?_; rotate_left; (intro w hSw; (try dsimp only at hSw); go_simp; try with_reducible rfl); try simp only [Act.put, List.setIfInBounds_toArray, List.set_cons_zero, List.set_cons_succ]
        refine wpAnyH_take (i := 13) (v := ?_) (by simp only [List.getElem?_toArray, List.getElem?_cons_succ, List.getElem?_cons_zero]; exact rfl) (by kernel_rfl) (by kernel_rfl) (by kernel_rfl) (by exact fun _ _ _ h => h) (Or.inl ⟨by rfl, ?_⟩) (by assumption) ?_; rotate_left; (intro w hSw; (try dsimp only at hSw); go_simp; try with_reducible rfl); try simp only [Act.put, List.setIfInBounds_toArray, List.set_cons_zero, List.set_cons_succ]
        refine wpAnyH_take (i := 14) (v := ?_) (by simp only [List.getElem?_toArray, List.getElem?_cons_succ, List.getElem?_cons_zero]; exact rfl) (by kernel_rfl) (by kernel_rfl) (by kernel_rfl) (by exact fun _ _ _ h => h) (Or.inl ⟨by rfl, ?_⟩) (by assumption) ?_; rotate_left; (intro w hSw; (try dsimp only at hSw); go_simp; try with_reducible rfl); try simp only [Act.put, List.setIfInBounds_toArray, List.set_cons_zero, List.set_cons_succ]
        refine wpAnyH_take (i := 15) (v := ?_) (by simp only [List.getElem?_toArray, List.getElem?_cons_succ, List.getElem?_cons_zero]; exact rfl) (by kernel_rfl) (by kernel_rfl) (by kernel_rfl) (by exact fun _ _ _ h => h) (Or.inl ⟨by rfl, ?_⟩) (by assumption) ?_; rotate_left; (intro w hSw; (try dsimp only at hSw); go_simp; try with_reducible rfl); try simp only [Act.put, List.setIfInBounds_toArray, List.set_cons_zero, List.set_cons_succ]
        refine wpAnyH_take (i := 16) (v := ?_) (by simp only [List.getElem?_toArray, List.getElem?_cons_succ, List.getElem?_cons_zero]; exact rfl) (by kernel_rfl) (by kernel_rfl) (by kernel_rfl) (by exact fun _ _ _ h => h) (Or.inl ⟨by rfl, ?_⟩) (by assumption) ?_; rotate_left; (intro w hSw; (try dsimp only at hSw); go_simp; try with_reducible rfl); try simp only [Act.put, List.setIfInBounds_toArray, List.set_cons_zero, List.set_cons_succ]
        refine wpAnyH_take (i := 17) (v := ?_) (by simp only [List.getElem?_toArray, List.getElem?_cons_succ, List.getElem?_cons_zero]; exact rfl) (by kernel_rfl) (by kernel_rfl) (by kernel_rfl) (by exact fun _ _ _ h => h) (Or.inl ⟨by rfl, ?_⟩) (by assumption) ?_; rotate_left; (intro w hSw; (try dsimp only at hSw); go_simp; try with_reducible rfl); try simp only [Act.put, List.setIfInBounds_toArray, List.set_cons_zero, List.set_cons_succ]
        refine wpAnyH_take (i := 18) (v := ?_) (by simp only [List.getElem?_toArray, List.getElem?_cons_succ, List.getElem?_cons_zero]; exact rfl) (by kernel_rfl) (by kernel_rfl) (by kernel_rfl) (by exact fun _ _ _ h => h) (Or.inl ⟨by rfl, ?_⟩) (by assumption) ?_; rotate_left; (intro w hSw; (try dsimp only at hSw); go_simp; try with_reducible rfl); try simp only [Act.put, List.setIfInBounds_toArray, List.set_cons_zero, List.set_cons_succ]
        refine wpAnyH_take (i := 19) (v := ?_) (by simp only [List.getElem?_toArray, List.getElem?_cons_succ, List.getElem?_cons_zero]; exact rfl) (by kernel_rfl) (by kernel_rfl) (by kernel_rfl) (by exact fun _ _ _ h => h) (Or.inl ⟨by rfl, ?_⟩) (by assumption) ?_; rotate_left; (intro w hSw; (try dsimp only at hSw); go_simp; try with_reducible rfl); try simp only [Act.put, List.setIfInBounds_toArray, List.set_cons_zero, List.set_cons_succ]
        refine wpAnyH_take (i := 20) (v := ?_) (by simp only [List.getElem?_toArray, List.getElem?_cons_succ, List.getElem?_cons_zero]; exact rfl) (by kernel_rfl) (by kernel_rfl) (by kernel_rfl) (by exact fun _ _ _ h => h) (Or.inl ⟨by rfl, ?_⟩) (by assumption) ?_; rotate_left; (intro w hSw; (try dsimp only at hSw); go_simp; try with_reducible rfl); try simp only [Act.put, List.setIfInBounds_toArray, List.set_cons_zero, List.set_cons_succ]
        refine wpAnyH_take (i := 21) (v := ?_) (by simp only [List.getElem?_toArray, List.getElem?_cons_succ, List.getElem?_cons_zero]; exact rfl) (by kernel_rfl) (by kernel_rfl) (by kernel_rfl) (by exact fun _ _ _ h => h) (Or.inl ⟨by rfl, ?_⟩) (by assumption) ?_; rotate_left; (intro w hSw; (try dsimp only at hSw); go_simp; try with_reducible rfl); try simp only [Act.put, List.setIfInBounds_toArray, List.set_cons_zero, List.set_cons_succ]
        refine wpAnyH_done (by kernel_rfl) ?_ _
        go_wp2_with fail
        go_meet
        exact ⟨false, rfl, rfl, fun _ => hff⟩
      · have et4 := et4 c1
        have et5 := et5 c1
        have hm2 := hm2 c1
        have hd2 := hd2 c1
        generalize ag % pw = rm at *
        generalize ag / pw = dv at *
        have e5 : IntKind.i64.wrap rm = rm := IntWalk.i64_in _ (by omega)
        have e6 : IntKind.i64.wrap dv = dv := IntWalk.i64_in _ (by omega)
        have t1 : decide (0 ≤ ag) = true := decide_eq_true (by omega)
        have t3 : decide (dv ≤ Bk) = true := decide_eq_true (by omega)
        refine wp_region_held_drew (S := fun w' => w'.cell? ⟨w.heap.size, 0, none⟩ = some (.int .i64 P) ∧ w'.cell? ⟨w.heap.size, 1, none⟩ = some (.int .i64 Bk)) (by kernel_rfl) ?_ (fun hHeld => ?_)
        · (try dsimp only); exact ⟨by assumption, by assumption⟩
        refine wpAnyH_take (i := 0) (v := ?_) (by simp only [List.getElem?_toArray, List.getElem?_cons_zero]; exact rfl) (by kernel_rfl) (by kernel_rfl) (by kernel_rfl) (by exact fun _ _ _ h => h) (Or.inl ⟨by rfl, ?_⟩) (by assumption) ?_; rotate_left; (intro w hSw; (try dsimp only at hSw); go_simp; try with_reducible rfl); try simp only [Act.put, List.setIfInBounds_toArray, List.set_cons_zero, List.set_cons_succ]
        refine wpAnyH_take (i := 1) (v := ?_) (by simp only [List.getElem?_toArray, List.getElem?_cons_succ, List.getElem?_cons_zero]; exact rfl) (by kernel_rfl) (by kernel_rfl) (by kernel_rfl) (by exact fun _ _ _ h => h) (Or.inl ⟨by rfl, ?_⟩) (by assumption) ?_; rotate_left; (intro w hSw; (try dsimp only at hSw); go_simp; try with_reducible rfl); try simp only [Act.put, List.setIfInBounds_toArray, List.set_cons_zero, List.set_cons_succ]
        refine wpAnyH_take (i := 2) (v := ?_) (by simp only [List.getElem?_toArray, List.getElem?_cons_succ, List.getElem?_cons_zero]; exact rfl) (by kernel_rfl) (by kernel_rfl) (by kernel_rfl) (by exact fun _ _ _ h => h) (Or.inl ⟨by rfl, ?_⟩) (by assumption) ?_; rotate_left; (intro w hSw; (try dsimp only at hSw); go_simp; try with_reducible rfl); try simp only [Act.put, List.setIfInBounds_toArray, List.set_cons_zero, List.set_cons_succ]
        refine wpAnyH_take (i := 3) (v := ?_) (by simp only [List.getElem?_toArray, List.getElem?_cons_succ, List.getElem?_cons_zero]; exact rfl) (by kernel_rfl) (by kernel_rfl) (by kernel_rfl) (by exact fun _ _ _ h => h) (Or.inl ⟨by rfl, ?_⟩) (by assumption) ?_; rotate_left; (intro w hSw; (try dsimp only at hSw); go_simp; try with_reducible rfl); try simp only [Act.put, List.setIfInBounds_toArray, List.set_cons_zero, List.set_cons_succ]
        refine wpAnyH_take (i := 4) (v := ?_) (by simp only [List.getElem?_toArray, List.getElem?_cons_succ, List.getElem?_cons_zero]; exact rfl) (by kernel_rfl) (by kernel_rfl) (by kernel_rfl) (by exact fun _ _ _ h => h) (Or.inl ⟨by rfl, ?_⟩) (by assumption) ?_; rotate_left; (intro w hSw; (try dsimp only at hSw); go_simp; try with_reducible rfl); try simp only [Act.put, List.setIfInBounds_toArray, List.set_cons_zero, List.set_cons_succ]
        refine wpAnyH_take (i := 5) (v := ?_) (by simp only [List.getElem?_toArray, List.getElem?_cons_succ, List.getElem?_cons_zero]; exact rfl) (by kernel_rfl) (by kernel_rfl) (by kernel_rfl) (by exact fun _ _ _ h => h) (Or.inl ⟨by rfl, ?_⟩) (by assumption) ?_; rotate_left; (intro w hSw; (try dsimp only at hSw); go_simp; try with_reducible rfl); try simp only [Act.put, List.setIfInBounds_toArray, List.set_cons_zero, List.set_cons_succ]
        refine wpAnyH_take (i := 6) (v := ?_) (by simp only [List.getElem?_toArray, List.getElem?_cons_succ, List.getElem?_cons_zero]; exact rfl) (by kernel_rfl) (by kernel_rfl) (by kernel_rfl) (by exact fun _ _ _ h => h) (Or.inl ⟨by rfl, ?_⟩) (by assumption) ?_; rotate_left; (intro w hSw; (try dsimp only at hSw); go_simp; try with_reducible rfl); try simp only [Act.put, List.setIfInBounds_toArray, List.set_cons_zero, List.set_cons_succ]
        refine wpAnyH_take (i := 7) (v := ?_) (by simp only [List.getElem?_toArray, List.getElem?_cons_succ, List.getElem?_cons_zero]; exact rfl) (by kernel_rfl) (by kernel_rfl) (by kernel_rfl) (by exact fun _ _ _ h => h) (Or.inl ⟨by rfl, ?_⟩) (by assumption) ?_; rotate_left; (intro w hSw; (try dsimp only at hSw); go_simp; try with_reducible rfl); try simp only [Act.put, List.setIfInBounds_toArray, List.set_cons_zero, List.set_cons_succ]
        refine wpAnyH_take (i := 8) (v := ?_) (by simp only [List.getElem?_toArray, List.getElem?_cons_succ, List.getElem?_cons_zero]; exact rfl) (by kernel_rfl) (by kernel_rfl) (by kernel_rfl) (by exact fun _ _ _ h => h) (Or.inl ⟨by rfl, ?_⟩) (by assumption) ?_; rotate_left; (intro w hSw; (try dsimp only at hSw); go_simp; try with_reducible rfl); try simp only [Act.put, List.setIfInBounds_toArray, List.set_cons_zero, List.set_cons_succ]
        refine wpAnyH_take (i := 9) (v := ?_) (by simp only [List.getElem?_toArray, List.getElem?_cons_succ, List.getElem?_cons_zero]; exact rfl) (by kernel_rfl) (by kernel_rfl) (by kernel_rfl) (by exact fun _ _ _ h => h) (Or.inl ⟨by rfl, ?_⟩) (by assumption) ?_; rotate_left; (intro w hSw; (try dsimp only at hSw); go_simp; try with_reducible rfl); try simp only [Act.put, List.setIfInBounds_toArray, List.set_cons_zero, List.set_cons_succ]
        refine wpAnyH_take (i := 10) (v := ?_) (by simp only [List.getElem?_toArray, List.getElem?_cons_succ, List.getElem?_cons_zero]; exact rfl) (by kernel_rfl) (by kernel_rfl) (by kernel_rfl) (by exact fun _ _ _ h => h) (Or.inl ⟨by rfl, ?_⟩) (by assumption) ?_; rotate_left; (intro w hSw; (try dsimp only at hSw); go_simp; try with_reducible rfl); try simp only [Act.put, List.setIfInBounds_toArray, List.set_cons_zero, List.set_cons_succ]
        refine wpAnyH_take (i := 11) (v := ?_) (by simp only [List.getElem?_toArray, List.getElem?_cons_succ, List.getElem?_cons_zero]; exact rfl) (by kernel_rfl) (by kernel_rfl) (by kernel_rfl) (by exact fun _ _ _ h => h) (Or.inl ⟨by rfl, ?_⟩) (by assumption) ?_; rotate_left; (intro w hSw; (try dsimp only at hSw); go_simp; try with_reducible rfl); try simp only [Act.put, List.setIfInBounds_toArray, List.set_cons_zero, List.set_cons_succ]
        refine wpAnyH_take (i := 12) (v := ?_) (by simp only [List.getElem?_toArray, List.getElem?_cons_succ, List.getElem?_cons_zero]; exact rfl) (by kernel_rfl) (by kernel_rfl) (by kernel_rfl) (by exact fun _ _ _ h => h) (Or.inl ⟨by rfl, ?_⟩) (by assumption) ?_; rotate_left; (intro w hSw; (try dsimp only at hSw); go_simp; try with_reducible rfl); try simp only [Act.put, List.setIfInBounds_toArray, List.set_cons_zero, List.set_cons_succ]
        refine wpAnyH_take (i := 13) (v := ?_) (by simp only [List.getElem?_toArray, List.getElem?_cons_succ, List.getElem?_cons_zero]; exact rfl) (by kernel_rfl) (by kernel_rfl) (by kernel_rfl) (by exact fun _ _ _ h => h) (Or.inl ⟨by rfl, ?_⟩) (by assumption) ?_; rotate_left; (intro w hSw; (try dsimp only at hSw); go_simp; try with_reducible rfl); try simp only [Act.put, List.setIfInBounds_toArray, List.set_cons_zero, List.set_cons_succ]
        refine wpAnyH_take (i := 14) (v := ?_) (by simp only [List.getElem?_toArray, List.getElem?_cons_succ, List.getElem?_cons_zero]; exact rfl) (by kernel_rfl) (by kernel_rfl) (by kernel_rfl) (by exact fun _ _ _ h => h) (Or.inl ⟨by rfl, ?_⟩) (by assumption) ?_; rotate_left; (intro w hSw; (try dsimp only at hSw); go_simp; try with_reducible rfl); try simp only [Act.put, List.setIfInBounds_toArray, List.set_cons_zero, List.set_cons_succ]
        refine wpAnyH_take (i := 15) (v := ?_) (by simp only [List.getElem?_toArray, List.getElem?_cons_succ, List.getElem?_cons_zero]; exact rfl) (by kernel_rfl) (by kernel_rfl) (by kernel_rfl) (by exact fun _ _ _ h => h) (Or.inl ⟨by rfl, ?_⟩) (by assumption) ?_; rotate_left; (intro w hSw; (try dsimp only at hSw); go_simp; try with_reducible rfl); try simp only [Act.put, List.setIfInBounds_toArray, List.set_cons_zero, List.set_cons_succ]
        refine wpAnyH_take (i := 16) (v := ?_) (by simp only [List.getElem?_toArray, List.getElem?_cons_succ, List.getElem?_cons_zero]; exact rfl) (by kernel_rfl) (by kernel_rfl) (by kernel_rfl) (by exact fun _ _ _ h => h) (Or.inl ⟨by rfl, ?_⟩) (by assumption) ?_; rotate_left; (intro w hSw; (try dsimp only at hSw); go_simp; try with_reducible rfl); try simp only [Act.put, List.setIfInBounds_toArray, List.set_cons_zero, List.set_cons_succ]
        refine wpAnyH_take (i := 17) (v := ?_) (by simp only [List.getElem?_toArray, List.getElem?_cons_succ, List.getElem?_cons_zero]; exact rfl) (by kernel_rfl) (by kernel_rfl) (by kernel_rfl) (by exact fun _ _ _ h => h) (Or.inl ⟨by rfl, ?_⟩) (by assumption) ?_; rotate_left; (intro w hSw; (try dsimp only at hSw); go_simp; try with_reducible rfl); try simp only [Act.put, List.setIfInBounds_toArray, List.set_cons_zero, List.set_cons_succ]
        refine wpAnyH_take (i := 18) (v := ?_) (by simp only [List.getElem?_toArray, List.getElem?_cons_succ, List.getElem?_cons_zero]; exact rfl) (by kernel_rfl) (by kernel_rfl) (by kernel_rfl) (by exact fun _ _ _ h => h) (Or.inl ⟨by rfl, ?_⟩) (by assumption) ?_; rotate_left; (intro w hSw; (try dsimp only at hSw); go_simp; try with_reducible rfl); try simp only [Act.put, List.setIfInBounds_toArray, List.set_cons_zero, List.set_cons_succ]
        refine wpAnyH_take (i := 19) (v := ?_) (by simp only [List.getElem?_toArray, List.getElem?_cons_succ, List.getElem?_cons_zero]; exact rfl) (by kernel_rfl) (by kernel_rfl) (by kernel_rfl) (by exact fun _ _ _ h => h) (Or.inl ⟨by rfl, ?_⟩) (by assumption) ?_; rotate_left; (intro w hSw; (try dsimp only at hSw); go_simp; try with_reducible rfl); try simp only [Act.put, List.setIfInBounds_toArray, List.set_cons_zero, List.set_cons_succ]
        refine wpAnyH_take (i := 20) (v := ?_) (by simp only [List.getElem?_toArray, List.getElem?_cons_succ, List.getElem?_cons_zero]; exact rfl) (by kernel_rfl) (by kernel_rfl) (by kernel_rfl) (by exact fun _ _ _ h => h) (Or.inl ⟨by rfl, ?_⟩) (by assumption) ?_; rotate_left; (intro w hSw; (try dsimp only at hSw); go_simp; try with_reducible rfl); try simp only [Act.put, List.setIfInBounds_toArray, List.set_cons_zero, List.set_cons_succ]
        refine wpAnyH_take (i := 21) (v := ?_) (by simp only [List.getElem?_toArray, List.getElem?_cons_succ, List.getElem?_cons_zero]; exact rfl) (by kernel_rfl) (by kernel_rfl) (by kernel_rfl) (by exact fun _ _ _ h => h) (Or.inl ⟨by rfl, ?_⟩) (by assumption) ?_; rotate_left; (intro w hSw; (try dsimp only at hSw); go_simp; try with_reducible rfl); try simp only [Act.put, List.setIfInBounds_toArray, List.set_cons_zero, List.set_cons_succ]
        refine wpAnyH_done (by kernel_rfl) ?_ _
        go_wp2_with fail
        go_meet
        exact ⟨true, rfl, rfl, (fun h => by cases h)⟩
    case rest =>
      obtain ⟨bb, rfl, rfl, hfar2⟩ := hcut
      have hX := hXd.drew
      have hbX := hbXd.drew
      have j0 : wy.drew.cell? ⟨w.heap.size, 0, none⟩ = some (.int .i64 P) := j0d
      have j1 : wy.drew.cell? ⟨w.heap.size, 1, none⟩ = some (.int .i64 Bk) := j1d
      generalize wy.drew = wz at *
      cases bb with
      | true =>
        go_wp2_with fail
        refine (haw _).mono ?_
        rintro e w4 ⟨rfl, b4⟩
        go_wp2_with fail
        go_ret
        exact ⟨rfl, hbX.trans (b4.mono hbX.size)⟩
      | false =>
        have hff := hfar2 rfl
        clear hXd hbXd j0d j1d hfar hfar2
        -- what is told ahead of the add, and behind it
        have cnow := fun (k : ByteArray) {lA : List Asrt} {W0 : World} (hO : Owns w.heap.size (PanR p W (l.map actOf) :: lA) W0) (hB : w.heap.size ≤ W0.heap.size) => now_own (P := P) (Bk := Bk) (now := now) k hO hB (by rw [List.length_map]; omega) hW1 hW2 hP1 hP2 hB1 hB2 hn1 hn2
        have cusu := fun (k : ByteArray) {lA : List Asrt} {W0 : World} (hO : Owns w.heap.size (PanR p W (l.map actOf) :: lA) W0) (hB : w.heap.size ≤ W0.heap.size) => usual_own (P := P) (Bk := Bk) (now := now) k hO hB (by rw [List.length_map]; omega) hW1 hW2 hP1 hP2 hB1 hB2 hn1 hn2
        have codd := fun {lA : List Asrt} {W0 : World} (hO : Owns w.heap.size (PanR p W (l.map actOf) :: lA) W0) (hB : w.heap.size ≤ W0.heap.size) => odd_yes (P := P) (Bk := Bk) (now := now) (floor := 1) hO hB (by rw [List.length_map]; omega) hW1 hW2 hsk hokA
        have cnow2 := fun (k : ByteArray) {lA : List Asrt} {W0 : World} (hO : Owns w.heap.size (PanR p W (l.map actOf ++ [(1, key, at_, 1000)]) :: lA) W0) (hB : w.heap.size ≤ W0.heap.size) => now_own (P := P) (Bk := Bk) (now := now) k hO hB (by simp; omega) hW1 hW2 hP1 hP2 hB1 hB2 hn1 hn2
        have cusu2 := fun (k : ByteArray) {lA : List Asrt} {W0 : World} (hO : Owns w.heap.size (PanR p W (l.map actOf ++ [(1, key, at_, 1000)]) :: lA) W0) (hB : w.heap.size ≤ W0.heap.size) => usual_own (P := P) (Bk := Bk) (now := now) k hO hB (by simp; omega) hW1 hW2 hP1 hP2 hB1 hB2 hn1 hn2
        have codd2 := fun {lA : List Asrt} {W0 : World} (hO : Owns w.heap.size (PanR p W (l.map actOf ++ [(1, key, at_, 1000)]) :: lA) W0) (hB : w.heap.size ≤ W0.heap.size) => odd_yes (P := P) (Bk := Bk) (now := now) (floor := 1) hO hB (by simp; omega) hW1 hW2 hsk (fun a ha => (List.mem_append.1 ha).elim (hokA a) (fun h => by simp at h; subst h; exact hkok))
        simp only [far_now hsk hff] at cnow2
        simp only [far_usu hsk hff] at cusu2
        have hfo := fun k => far_odd (n := 1000) (key := key) (acts := l.map actOf) hsk hff 1 k
        have hfs := fun k => sago_far (n := 1000) (key := key) (l.map actOf) hsk hff k 0 (by omega) (by omega)
        simp only [hfo, hfs] at codd2
        have heq := fun (W0 : World) => eq_agg2 (usuN W P Bk now (l.map actOf) key) (usuD W P Bk now) W0
        replace cnow := cnow
        obtain ⟨uN, huN⟩ : ∃ uN, Hid (usuN W P Bk now (l.map actOf) key = uN) := ⟨_, Hid.mk' rfl⟩
        obtain ⟨nV, hnV⟩ : ∃ nV, Hid (nowV W P Bk now (l.map actOf) key = nV) := ⟨_, Hid.mk' rfl⟩
        have cnow' := @cnow key
        have cusu' := @cusu key
        have cnow3 := @cnow2 key
        have cusu3 := @cusu2 key
        rw [huN.out] at heq
        simp only [hnV.out] at cnow' cnow3
        simp only [huN.out] at cusu' cusu3
        generalize usuD W P Bk now = uD at *
        clear cnow cusu cnow2 cusu2 hfo hfs hff
        have begT : ∃ b, Hid (now - now % W = b) := ⟨_, Hid.mk' rfl⟩
        obtain ⟨beg, hbeg⟩ := begT
        simp only [hbeg.out] at codd codd2
        go_upto_region 12 with fail
        go_cut [16, 17, 18] (fun s16 s17 s18 wq => ∃ (u : Nat) (ks : List ByteArray) (ak : Option Addr) (ck : Nat), s16 = .int .i64 nV ∧ s17 = .pointer (some ⟨u, 0, none⟩) ∧ s18 = .slice ak ks.length ck ∧ Rising ks ∧ (∀ k, k ∈ ks ↔ 0 < sago W P beg (l.map actOf) k 0 ∧ oddB W P Bk beg 1 (l.map actOf) k = true) ∧ ks.length ≤ 1000 ∧ (∀ k ∈ ks, rdS.ok k) ∧ Owns w.heap.size [Asrt.cells u #[.int .i64 uN, .int .i64 uD] 57, Asrt.rows rdS (.slice ak ks.length ck) ks, PanR p W (l.map actOf), Asrt.cells w.heap.size #[.int .i64 P, .int .i64 Bk] 53] wq ∧ Below w.heap.size w wq)
        case first =>
          skip
          refine wp_region_held_drew (S := fun w' => w'.cell? ⟨w.heap.size, 0, none⟩ = some (.int .i64 P) ∧ w'.cell? ⟨w.heap.size, 1, none⟩ = some (.int .i64 Bk)) (by kernel_rfl) ?_ (fun hHeld => ?_)
          · (try dsimp only); exact ⟨by assumption, by assumption⟩
          refine wpAnyH_take (i := 0) (v := ?_) (by simp only [List.getElem?_toArray, List.getElem?_cons_zero]; exact rfl) (by kernel_rfl) (by kernel_rfl) (by kernel_rfl) (by exact fun _ _ _ h => h) (Or.inl ⟨by rfl, ?_⟩) (by assumption) ?_; rotate_left; (intro w hSw; (try dsimp only at hSw); go_simp; try with_reducible rfl); try simp only [Act.put, List.setIfInBounds_toArray, List.set_cons_zero, List.set_cons_succ]
          refine wpAnyH_take (i := 1) (v := ?_) (by simp only [List.getElem?_toArray, List.getElem?_cons_succ, List.getElem?_cons_zero]; exact rfl) (by kernel_rfl) (by kernel_rfl) (by kernel_rfl) (by exact fun _ _ _ h => h) (Or.inl ⟨by rfl, ?_⟩) (by assumption) ?_; rotate_left; (intro w hSw; (try dsimp only at hSw); go_simp; try with_reducible rfl); try simp only [Act.put, List.setIfInBounds_toArray, List.set_cons_zero, List.set_cons_succ]
          refine wpAnyH_take (i := 2) (v := ?_) (by simp only [List.getElem?_toArray, List.getElem?_cons_succ, List.getElem?_cons_zero]; exact rfl) (by kernel_rfl) (by kernel_rfl) (by kernel_rfl) (by exact fun _ _ _ h => h) (Or.inl ⟨by rfl, ?_⟩) (by assumption) ?_; rotate_left; (intro w hSw; (try dsimp only at hSw); go_simp; try with_reducible rfl); try simp only [Act.put, List.setIfInBounds_toArray, List.set_cons_zero, List.set_cons_succ]
          refine wpAnyH_take (i := 3) (v := ?_) (by simp only [List.getElem?_toArray, List.getElem?_cons_succ, List.getElem?_cons_zero]; exact rfl) (by kernel_rfl) (by kernel_rfl) (by kernel_rfl) (by exact fun _ _ _ h => h) (Or.inl ⟨by rfl, ?_⟩) (by assumption) ?_; rotate_left; (intro w hSw; (try dsimp only at hSw); go_simp; try with_reducible rfl); try simp only [Act.put, List.setIfInBounds_toArray, List.set_cons_zero, List.set_cons_succ]
          refine wpAnyH_take (i := 5) (v := ?_) (by simp only [List.getElem?_toArray, List.getElem?_cons_succ, List.getElem?_cons_zero]; exact rfl) (by kernel_rfl) (by kernel_rfl) (by kernel_rfl) (by exact fun _ _ _ h => h) (Or.inl ⟨by rfl, ?_⟩) (by assumption) ?_; rotate_left; (intro w hSw; (try dsimp only at hSw); go_simp; try with_reducible rfl); try simp only [Act.put, List.setIfInBounds_toArray, List.set_cons_zero, List.set_cons_succ]
          refine wpAnyH_take (i := 6) (v := ?_) (by simp only [List.getElem?_toArray, List.getElem?_cons_succ, List.getElem?_cons_zero]; exact rfl) (by kernel_rfl) (by kernel_rfl) (by kernel_rfl) (by exact fun _ _ _ h => h) (Or.inl ⟨by rfl, ?_⟩) (by assumption) ?_; rotate_left; (intro w hSw; (try dsimp only at hSw); go_simp; try with_reducible rfl); try simp only [Act.put, List.setIfInBounds_toArray, List.set_cons_zero, List.set_cons_succ]
          refine wpAnyH_take (i := 7) (v := ?_) (by simp only [List.getElem?_toArray, List.getElem?_cons_succ, List.getElem?_cons_zero]; exact rfl) (by kernel_rfl) (by kernel_rfl) (by kernel_rfl) (by exact fun _ _ _ h => h) (Or.inl ⟨by rfl, ?_⟩) (by assumption) ?_; rotate_left; (intro w hSw; (try dsimp only at hSw); go_simp; try with_reducible rfl); try simp only [Act.put, List.setIfInBounds_toArray, List.set_cons_zero, List.set_cons_succ]
          refine wpAnyH_take (i := 8) (v := ?_) (by simp only [List.getElem?_toArray, List.getElem?_cons_succ, List.getElem?_cons_zero]; exact rfl) (by kernel_rfl) (by kernel_rfl) (by kernel_rfl) (by exact fun _ _ _ h => h) (Or.inl ⟨by rfl, ?_⟩) (by assumption) ?_; rotate_left; (intro w hSw; (try dsimp only at hSw); go_simp; try with_reducible rfl); try simp only [Act.put, List.setIfInBounds_toArray, List.set_cons_zero, List.set_cons_succ]
          refine wpAnyH_take (i := 10) (v := ?_) (by simp only [List.getElem?_toArray, List.getElem?_cons_succ, List.getElem?_cons_zero]; exact rfl) (by kernel_rfl) (by kernel_rfl) (by kernel_rfl) (by exact fun _ _ _ h => h) (Or.inl ⟨by rfl, ?_⟩) (by assumption) ?_; rotate_left; (intro w hSw; (try dsimp only at hSw); go_simp; try with_reducible rfl); try simp only [Act.put, List.setIfInBounds_toArray, List.set_cons_zero, List.set_cons_succ]
          refine wpAnyH_take (i := 11) (v := ?_) (by simp only [List.getElem?_toArray, List.getElem?_cons_succ, List.getElem?_cons_zero]; exact rfl) (by kernel_rfl) (by kernel_rfl) (by kernel_rfl) (by exact fun _ _ _ h => h) (Or.inl ⟨by rfl, ?_⟩) (by assumption) ?_; rotate_left; (intro w hSw; (try dsimp only at hSw); go_simp; try with_reducible rfl); try simp only [Act.put, List.setIfInBounds_toArray, List.set_cons_zero, List.set_cons_succ]
          refine wpAnyH_take (i := 12) (v := ?_) (by simp only [List.getElem?_toArray, List.getElem?_cons_succ, List.getElem?_cons_zero]; exact rfl) (by kernel_rfl) (by kernel_rfl) (by kernel_rfl) (by exact fun _ _ _ h => h) (Or.inl ⟨by rfl, ?_⟩) (by assumption) ?_; rotate_left; (intro w hSw; (try dsimp only at hSw); go_simp; try with_reducible rfl); try simp only [Act.put, List.setIfInBounds_toArray, List.set_cons_zero, List.set_cons_succ]
          refine wpAnyH_ready (rs := [4, 14]) (by kernel_rfl) (by simp) ?_
          refine AllReadyH.cons (by simp only [List.getElem?_toArray, List.getElem?_cons_succ, List.getElem?_cons_zero]; exact rfl) (fun K hK => ?_) ?_
          · go_simp
            have hC := hX.drew
            have hbC := hbX.drew
            refine (cnow' hC hbC.size).mono ?_
            rintro e x1 ⟨rfl, hC, q1⟩
            replace hbC := hbC.trans q1
            obtain ⟨m0, m1⟩ := cells (hC.front 1 _ rfl)
            go_wp2_with fail
            refine hK.out _ _ ?_ (fun hHeld => ?_)
            · (try dsimp only); exact ⟨by assumption, by assumption⟩
            clear hK K
            try simp only [Act.put, List.setIfInBounds_toArray, List.set_cons_zero, List.set_cons_succ]
            refine wpAnyH_ready (rs := [9, 14]) (by kernel_rfl) (by simp) ?_
            refine AllReadyH.cons (by simp only [List.getElem?_toArray, List.getElem?_cons_succ, List.getElem?_cons_zero]; exact rfl) (fun K hK => ?_) ?_
            · go_simp
              refine (cusu' hC hbC.size).mono ?_
              rintro e x2 ⟨rfl, hC, q2⟩
              replace hbC := hbC.trans q2
              obtain ⟨m0, m1⟩ := cells (hC.front 1 _ rfl)
              go_wp2_with fail
              refine hK.out _ _ ?_ (fun hHeld => ?_)
              · (try dsimp only); exact ⟨by assumption, by assumption⟩
              clear hK K
              try simp only [Act.put, List.setIfInBounds_toArray, List.set_cons_zero, List.set_cons_succ]
              refine wpAnyH_ready (rs := [13, 14]) (by kernel_rfl) (by simp) ?_
              refine AllReadyH.cons (by simp only [List.getElem?_toArray, List.getElem?_cons_succ, List.getElem?_cons_zero]; exact rfl) (fun K hK => ?_) ?_
              · go_simp
                refine (codd hC hbC.size).mono ?_
                rintro e x3 ⟨ks, ak, ck, rfl, hri, hks, hkl, hok, hC, q3⟩
                replace hbC := hbC.trans q3
                obtain ⟨m0, m1⟩ := cells (hC.front 2 _ rfl)
                go_wp2_with fail
                refine hK.out _ _ ?_ (fun hHeld => ?_)
                · (try dsimp only); exact ⟨by assumption, by assumption⟩
                clear hK K
                try simp only [Act.put, List.setIfInBounds_toArray, List.set_cons_zero, List.set_cons_succ]
                refine wpAnyH_ready (rs := [14]) (by kernel_rfl) (by simp) ?_
                refine AllReadyH.cons (by simp only [List.getElem?_toArray, List.getElem?_cons_succ, List.getElem?_cons_zero]; exact rfl) (fun K hK => ?_) AllReadyH.nil
                go_simp
                have hC0 := hC
                have hbC0 := hbC
                replace hC := (((hC.alloc_cells hbC.size #[.int .i64 0, .int .i64 0] 57).front 1 _ rfl).front 2 _ rfl).swap
                replace hbC := hbC.alloc hbC.size (.cells #[.int .i64 0, .int .i64 0] 57)
                obtain ⟨m0, m1⟩ := cells (hC.front 3 _ rfl)
                refine hK.out _ _ ?_ (fun hHeld => ?_)
                · (try dsimp only); exact ⟨by assumption, by assumption⟩
                clear hK K
                try simp only [Act.put, List.setIfInBounds_toArray, List.set_cons_zero, List.set_cons_succ]
                refine wpAnyH_take (i := 15) (v := ?_) (by simp only [List.getElem?_toArray, List.getElem?_cons_succ, List.getElem?_cons_zero]; exact rfl) (by kernel_rfl) (by kernel_rfl) (by kernel_rfl) (by exact fun _ _ _ h => h) (Or.inl ⟨by rfl, ?_⟩) (by assumption) ?_; rotate_left; (intro w hSw; (try dsimp only at hSw); go_simp; try with_reducible rfl); try simp only [Act.put, List.setIfInBounds_toArray, List.set_cons_zero, List.set_cons_succ]
                refine wpAnyH_ready (rs := [16]) (by kernel_rfl) (by simp) ?_
                refine AllReadyH.cons (by simp only [List.getElem?_toArray, List.getElem?_cons_succ, List.getElem?_cons_zero]; exact rfl) (fun K hK => ?_) AllReadyH.nil
                have k2 := And.intro (hC0.alloc_cells hbC0.size #[.int .i64 uN, .int .i64 uD] 57) trivial
                have hb7 := hbC0.alloc hbC0.size (.cells #[.int .i64 uN, .int .i64 uD] 57)
                obtain ⟨m0, m1⟩ := cells (k2.1.front 3 _ rfl)
                go_simp
                refine hK.out _ _ ?_ (fun hHeld => ?_)
                · (try dsimp only); exact ⟨by assumption, by assumption⟩
                clear hK K
                try simp only [Act.put, List.setIfInBounds_toArray, List.set_cons_zero, List.set_cons_succ]
                refine wpAnyH_take (i := 17) (v := ?_) (by simp only [List.getElem?_toArray, List.getElem?_cons_succ, List.getElem?_cons_zero]; exact rfl) (by kernel_rfl) (by kernel_rfl) (by kernel_rfl) (by exact fun _ _ _ h => h) (Or.inl ⟨by rfl, ?_⟩) (by assumption) ?_; rotate_left; (intro w hSw; (try dsimp only at hSw); go_simp; try with_reducible rfl); try simp only [Act.put, List.setIfInBounds_toArray, List.set_cons_zero, List.set_cons_succ]
                refine wpAnyH_done (by kernel_rfl) ?_ _
                go_wp2_with fail
                go_meet
                exact ⟨_, ks, ak, ck, rfl, rfl, rfl, hri, hks, hkl, hok, k2.1, hb7⟩
              · refine AllReadyH.cons (by simp only [List.getElem?_toArray, List.getElem?_cons_succ, List.getElem?_cons_zero]; exact rfl) (fun K hK => ?_) AllReadyH.nil
                go_simp
                replace hC := (hC.alloc_cells hbC.size #[.int .i64 0, .int .i64 0] 57).front 1 _ rfl
                replace hbC := hbC.alloc hbC.size (.cells #[.int .i64 0, .int .i64 0] 57)
                obtain ⟨m0, m1⟩ := cells (hC.front 2 _ rfl)
                refine hK.out _ _ ?_ (fun hHeld => ?_)
                · (try dsimp only); exact ⟨by assumption, by assumption⟩
                clear hK K
                try simp only [Act.put, List.setIfInBounds_toArray, List.set_cons_zero, List.set_cons_succ]
                refine wpAnyH_ready (rs := [13]) (by kernel_rfl) (by simp) ?_
                refine AllReadyH.cons (by simp only [List.getElem?_toArray, List.getElem?_cons_succ, List.getElem?_cons_zero]; exact rfl) (fun K hK => ?_) AllReadyH.nil
                go_simp
                refine (codd hC hbC.size).mono ?_
                rintro e x3 ⟨ks, ak, ck, rfl, hri, hks, hkl, hok, hC, q3⟩
                replace hbC := hbC.trans q3
                obtain ⟨m0, m1⟩ := cells (hC.front 3 _ rfl)
                go_wp2_with fail
                refine hK.out _ _ ?_ (fun hHeld => ?_)
                · (try dsimp only); exact ⟨by assumption, by assumption⟩
                clear hK K
                try simp only [Act.put, List.setIfInBounds_toArray, List.set_cons_zero, List.set_cons_succ]
                refine wpAnyH_take (i := 15) (v := ?_) (by simp only [List.getElem?_toArray, List.getElem?_cons_succ, List.getElem?_cons_zero]; exact rfl) (by kernel_rfl) (by kernel_rfl) (by kernel_rfl) (by exact fun _ _ _ h => h) (Or.inl ⟨by rfl, ?_⟩) (by assumption) ?_; rotate_left; (intro w hSw; (try dsimp only at hSw); go_simp; try with_reducible rfl); try simp only [Act.put, List.setIfInBounds_toArray, List.set_cons_zero, List.set_cons_succ]
                refine wpAnyH_ready (rs := [16]) (by kernel_rfl) (by simp) ?_
                refine AllReadyH.cons (by simp only [List.getElem?_toArray, List.getElem?_cons_succ, List.getElem?_cons_zero]; exact rfl) (fun K hK => ?_) AllReadyH.nil
                replace hC := hC.front 2 _ rfl
                have hx1 := hC.cellsE
                replace hx1 := hx1.1
                have v0 := cell_of hx1 0
                have v1 := cell_of hx1 1
                have f0 := free_of hx1 0
                have f1 := free_of hx1 1
                have k1 := hC.poke hbC.size 0 (.int .i64 uN)
                have k2 := k1.1.poke (hbC.trans k1.2).size 1 (.int .i64 uD)
                have hb7 := (hbC.trans k1.2).trans k2.2
                obtain ⟨m0, m1⟩ := cells (k2.1.front 3 _ rfl)
                clear hx1
                simp only [show (#[Value.int IntKind.i64 0, Value.int IntKind.i64 0] : Array Value)[0]? = some (Value.int IntKind.i64 0) from rfl, show (#[Value.int IntKind.i64 0, Value.int IntKind.i64 0] : Array Value)[1]? = some (Value.int IntKind.i64 0) from rfl] at v0 v1
                go_simp
                refine hK.out _ _ ?_ (fun hHeld => ?_)
                · (try dsimp only); exact ⟨by assumption, by assumption⟩
                clear hK K
                try simp only [Act.put, List.setIfInBounds_toArray, List.set_cons_zero, List.set_cons_succ]
                refine wpAnyH_take (i := 17) (v := ?_) (by simp only [List.getElem?_toArray, List.getElem?_cons_succ, List.getElem?_cons_zero]; exact rfl) (by kernel_rfl) (by kernel_rfl) (by kernel_rfl) (by exact fun _ _ _ h => h) (Or.inl ⟨by rfl, ?_⟩) (by assumption) ?_; rotate_left; (intro w hSw; (try dsimp only at hSw); go_simp; try with_reducible rfl); try simp only [Act.put, List.setIfInBounds_toArray, List.set_cons_zero, List.set_cons_succ]
                refine wpAnyH_done (by kernel_rfl) ?_ _
                go_wp2_with fail
                go_meet
                exact ⟨_, ks, ak, ck, rfl, rfl, rfl, hri, hks, hkl, hok, k2.1, hb7⟩
            · refine AllReadyH.cons (by simp only [List.getElem?_toArray, List.getElem?_cons_succ, List.getElem?_cons_zero]; exact rfl) (fun K hK => ?_) AllReadyH.nil
              go_simp
              replace hC := (hC.alloc_cells hbC.size #[.int .i64 0, .int .i64 0] 57).front 1 _ rfl
              replace hbC := hbC.alloc hbC.size (.cells #[.int .i64 0, .int .i64 0] 57)
              obtain ⟨m0, m1⟩ := cells (hC.front 2 _ rfl)
              refine hK.out _ _ ?_ (fun hHeld => ?_)
              · (try dsimp only); exact ⟨by assumption, by assumption⟩
              clear hK K
              try simp only [Act.put, List.setIfInBounds_toArray, List.set_cons_zero, List.set_cons_succ]
              refine wpAnyH_ready (rs := [9]) (by kernel_rfl) (by simp) ?_
              refine AllReadyH.cons (by simp only [List.getElem?_toArray, List.getElem?_cons_succ, List.getElem?_cons_zero]; exact rfl) (fun K hK => ?_) AllReadyH.nil
              go_simp
              refine (cusu' hC hbC.size).mono ?_
              rintro e x2 ⟨rfl, hC, q2⟩
              replace hbC := hbC.trans q2
              obtain ⟨m0, m1⟩ := cells (hC.front 2 _ rfl)
              go_wp2_with fail
              refine hK.out _ _ ?_ (fun hHeld => ?_)
              · (try dsimp only); exact ⟨by assumption, by assumption⟩
              clear hK K
              try simp only [Act.put, List.setIfInBounds_toArray, List.set_cons_zero, List.set_cons_succ]
              refine wpAnyH_ready (rs := [13]) (by kernel_rfl) (by simp) ?_
              refine AllReadyH.cons (by simp only [List.getElem?_toArray, List.getElem?_cons_succ, List.getElem?_cons_zero]; exact rfl) (fun K hK => ?_) AllReadyH.nil
              go_simp
              refine (codd hC hbC.size).mono ?_
              rintro e x3 ⟨ks, ak, ck, rfl, hri, hks, hkl, hok, hC, q3⟩
              replace hbC := hbC.trans q3
              obtain ⟨m0, m1⟩ := cells (hC.front 3 _ rfl)
              go_wp2_with fail
              refine hK.out _ _ ?_ (fun hHeld => ?_)
              · (try dsimp only); exact ⟨by assumption, by assumption⟩
              clear hK K
              try simp only [Act.put, List.setIfInBounds_toArray, List.set_cons_zero, List.set_cons_succ]
              refine wpAnyH_take (i := 15) (v := ?_) (by simp only [List.getElem?_toArray, List.getElem?_cons_succ, List.getElem?_cons_zero]; exact rfl) (by kernel_rfl) (by kernel_rfl) (by kernel_rfl) (by exact fun _ _ _ h => h) (Or.inl ⟨by rfl, ?_⟩) (by assumption) ?_; rotate_left; (intro w hSw; (try dsimp only at hSw); go_simp; try with_reducible rfl); try simp only [Act.put, List.setIfInBounds_toArray, List.set_cons_zero, List.set_cons_succ]
              refine wpAnyH_ready (rs := [16]) (by kernel_rfl) (by simp) ?_
              refine AllReadyH.cons (by simp only [List.getElem?_toArray, List.getElem?_cons_succ, List.getElem?_cons_zero]; exact rfl) (fun K hK => ?_) AllReadyH.nil
              replace hC := hC.front 2 _ rfl
              have hx1 := hC.cellsE
              replace hx1 := hx1.1
              have v0 := cell_of hx1 0
              have v1 := cell_of hx1 1
              have f0 := free_of hx1 0
              have f1 := free_of hx1 1
              have k1 := hC.poke hbC.size 0 (.int .i64 uN)
              have k2 := k1.1.poke (hbC.trans k1.2).size 1 (.int .i64 uD)
              have hb7 := (hbC.trans k1.2).trans k2.2
              obtain ⟨m0, m1⟩ := cells (k2.1.front 3 _ rfl)
              clear hx1
              simp only [show (#[Value.int IntKind.i64 0, Value.int IntKind.i64 0] : Array Value)[0]? = some (Value.int IntKind.i64 0) from rfl, show (#[Value.int IntKind.i64 0, Value.int IntKind.i64 0] : Array Value)[1]? = some (Value.int IntKind.i64 0) from rfl] at v0 v1
              go_simp
              refine hK.out _ _ ?_ (fun hHeld => ?_)
              · (try dsimp only); exact ⟨by assumption, by assumption⟩
              clear hK K
              try simp only [Act.put, List.setIfInBounds_toArray, List.set_cons_zero, List.set_cons_succ]
              refine wpAnyH_take (i := 17) (v := ?_) (by simp only [List.getElem?_toArray, List.getElem?_cons_succ, List.getElem?_cons_zero]; exact rfl) (by kernel_rfl) (by kernel_rfl) (by kernel_rfl) (by exact fun _ _ _ h => h) (Or.inl ⟨by rfl, ?_⟩) (by assumption) ?_; rotate_left; (intro w hSw; (try dsimp only at hSw); go_simp; try with_reducible rfl); try simp only [Act.put, List.setIfInBounds_toArray, List.set_cons_zero, List.set_cons_succ]
              refine wpAnyH_done (by kernel_rfl) ?_ _
              go_wp2_with fail
              go_meet
              exact ⟨_, ks, ak, ck, rfl, rfl, rfl, hri, hks, hkl, hok, k2.1, hb7⟩
          · refine AllReadyH.cons (by simp only [List.getElem?_toArray, List.getElem?_cons_succ, List.getElem?_cons_zero]; exact rfl) (fun K hK => ?_) AllReadyH.nil
            go_simp
            have hC := (hX.alloc_cells hbX.size #[.int .i64 0, .int .i64 0] 57).drew
            have hbC : Below w.heap.size w (wz.alloc (.cells #[.int .i64 0, .int .i64 0] 57)).drew := (hbX.alloc hbX.size _).drew
            replace hC := hC.front 1 _ rfl
            obtain ⟨m0, m1⟩ := cells (hC.front 2 _ rfl)
            refine hK.out _ _ ?_ (fun hHeld => ?_)
            · (try dsimp only); exact ⟨by assumption, by assumption⟩
            clear hK K
            try simp only [Act.put, List.setIfInBounds_toArray, List.set_cons_zero, List.set_cons_succ]
            refine wpAnyH_ready (rs := [4]) (by kernel_rfl) (by simp) ?_
            refine AllReadyH.cons (by simp only [List.getElem?_toArray, List.getElem?_cons_succ, List.getElem?_cons_zero]; exact rfl) (fun K hK => ?_) AllReadyH.nil
            go_simp
            refine (cnow' hC hbC.size).mono ?_
            rintro e x1 ⟨rfl, hC, q1⟩
            replace hbC := hbC.trans q1
            obtain ⟨m0, m1⟩ := cells (hC.front 2 _ rfl)
            go_wp2_with fail
            refine hK.out _ _ ?_ (fun hHeld => ?_)
            · (try dsimp only); exact ⟨by assumption, by assumption⟩
            clear hK K
            try simp only [Act.put, List.setIfInBounds_toArray, List.set_cons_zero, List.set_cons_succ]
            refine wpAnyH_ready (rs := [9]) (by kernel_rfl) (by simp) ?_
            refine AllReadyH.cons (by simp only [List.getElem?_toArray, List.getElem?_cons_succ, List.getElem?_cons_zero]; exact rfl) (fun K hK => ?_) AllReadyH.nil
            go_simp
            refine (cusu' hC hbC.size).mono ?_
            rintro e x2 ⟨rfl, hC, q2⟩
            replace hbC := hbC.trans q2
            obtain ⟨m0, m1⟩ := cells (hC.front 2 _ rfl)
            go_wp2_with fail
            refine hK.out _ _ ?_ (fun hHeld => ?_)
            · (try dsimp only); exact ⟨by assumption, by assumption⟩
            clear hK K
            try simp only [Act.put, List.setIfInBounds_toArray, List.set_cons_zero, List.set_cons_succ]
            refine wpAnyH_ready (rs := [13]) (by kernel_rfl) (by simp) ?_
            refine AllReadyH.cons (by simp only [List.getElem?_toArray, List.getElem?_cons_succ, List.getElem?_cons_zero]; exact rfl) (fun K hK => ?_) AllReadyH.nil
            go_simp
            refine (codd hC hbC.size).mono ?_
            rintro e x3 ⟨ks, ak, ck, rfl, hri, hks, hkl, hok, hC, q3⟩
            replace hbC := hbC.trans q3
            obtain ⟨m0, m1⟩ := cells (hC.front 3 _ rfl)
            go_wp2_with fail
            refine hK.out _ _ ?_ (fun hHeld => ?_)
            · (try dsimp only); exact ⟨by assumption, by assumption⟩
            clear hK K
            try simp only [Act.put, List.setIfInBounds_toArray, List.set_cons_zero, List.set_cons_succ]
            refine wpAnyH_take (i := 15) (v := ?_) (by simp only [List.getElem?_toArray, List.getElem?_cons_succ, List.getElem?_cons_zero]; exact rfl) (by kernel_rfl) (by kernel_rfl) (by kernel_rfl) (by exact fun _ _ _ h => h) (Or.inl ⟨by rfl, ?_⟩) (by assumption) ?_; rotate_left; (intro w hSw; (try dsimp only at hSw); go_simp; try with_reducible rfl); try simp only [Act.put, List.setIfInBounds_toArray, List.set_cons_zero, List.set_cons_succ]
            refine wpAnyH_ready (rs := [16]) (by kernel_rfl) (by simp) ?_
            refine AllReadyH.cons (by simp only [List.getElem?_toArray, List.getElem?_cons_succ, List.getElem?_cons_zero]; exact rfl) (fun K hK => ?_) AllReadyH.nil
            replace hC := hC.front 2 _ rfl
            have hx1 := hC.cellsE
            replace hx1 := hx1.1
            have v0 := cell_of hx1 0
            have v1 := cell_of hx1 1
            have f0 := free_of hx1 0
            have f1 := free_of hx1 1
            have k1 := hC.poke hbC.size 0 (.int .i64 uN)
            have k2 := k1.1.poke (hbC.trans k1.2).size 1 (.int .i64 uD)
            have hb7 := (hbC.trans k1.2).trans k2.2
            obtain ⟨m0, m1⟩ := cells (k2.1.front 3 _ rfl)
            clear hx1
            simp only [show (#[Value.int IntKind.i64 0, Value.int IntKind.i64 0] : Array Value)[0]? = some (Value.int IntKind.i64 0) from rfl, show (#[Value.int IntKind.i64 0, Value.int IntKind.i64 0] : Array Value)[1]? = some (Value.int IntKind.i64 0) from rfl] at v0 v1
            go_simp
            refine hK.out _ _ ?_ (fun hHeld => ?_)
            · (try dsimp only); exact ⟨by assumption, by assumption⟩
            clear hK K
            try simp only [Act.put, List.setIfInBounds_toArray, List.set_cons_zero, List.set_cons_succ]
            refine wpAnyH_take (i := 17) (v := ?_) (by simp only [List.getElem?_toArray, List.getElem?_cons_succ, List.getElem?_cons_zero]; exact rfl) (by kernel_rfl) (by kernel_rfl) (by kernel_rfl) (by exact fun _ _ _ h => h) (Or.inl ⟨by rfl, ?_⟩) (by assumption) ?_; rotate_left; (intro w hSw; (try dsimp only at hSw); go_simp; try with_reducible rfl); try simp only [Act.put, List.setIfInBounds_toArray, List.set_cons_zero, List.set_cons_succ]
            refine wpAnyH_done (by kernel_rfl) ?_ _
            go_wp2_with fail
            go_meet
            exact ⟨_, ks, ak, ck, rfl, rfl, rfl, hri, hks, hkl, hok, k2.1, hb7⟩
        case rest =>
          obtain ⟨u, ks, ak, ck, rfl, rfl, rfl, hri, hks, hkl, hok, hC, hbC⟩ := hcut
          rename_i wq
          have hadd := addR 1 key at_ 1000 (hC.front 2 _ rfl) hbC.size (by rw [List.length_map]; omega) hW1 hW2
          replace hks := Hid.mk' hks
          go_wp2_with fail
          refine hadd.mono ?_
          rintro e x1 ⟨rfl, hD, q1⟩
          have hbD := hbC.trans q1
          -- PanR, cells u, rows, box
          have ucells : ∀ {W' : World} {l' : List Asrt}, Owns w.heap.size (Asrt.cells u #[.int .i64 uN, .int .i64 uD] 57 :: l') W' → W'.cell? ⟨u, 0, none⟩ = some (.int .i64 uN) ∧ W'.cell? ⟨u, 1, none⟩ = some (.int .i64 uD) := fun h =>
            ⟨by rw [cell_of h.cellsE.1]; rfl, by rw [cell_of h.cellsE.1]; rfl⟩
          obtain ⟨m0, m1⟩ := cells (hD.front 3 _ rfl)
          obtain ⟨m2, m3⟩ := ucells (hD.front 1 _ rfl)
          have h36 := cnow3 hD.drew hbD.drew.size
          clear cnow' cusu' codd cnow3 hX hbX hC hbC hadd
          go_wp2_with fail
          go_region_held3 (fun w' => w'.cell? ⟨w.heap.size, 0, none⟩ = some (.int .i64 P) ∧ w'.cell? ⟨w.heap.size, 1, none⟩ = some (.int .i64 Bk) ∧ w'.cell? ⟨u, 0, none⟩ = some (.int .i64 uN) ∧ w'.cell? ⟨u, 1, none⟩ = some (.int .i64 uD)) (go_keep)
            (first
              | (go_at_call 36; refine h36.mono ?_; rintro e y1 ⟨rfl, hE1, p1⟩; have hbE1 := hbD.drew.trans p1; obtain ⟨m0, m1⟩ := cells (hE1.front 3 _ rfl); obtain ⟨m2, m3⟩ := ucells (hE1.front 1 _ rfl); have h37 := cusu3 hE1 hbE1.size; clear cusu3)
              | (go_at_call 37; refine h37.mono ?_; rintro e y2 ⟨rfl, hE2, p2⟩; have hbE2 := hbE1.trans p2; obtain ⟨m0, m1⟩ := cells (hE2.front 3 _ rfl); obtain ⟨m2, m3⟩ := ucells (hE2.front 1 _ rfl); have h38 := codd2 hE2 hbE2.size; clear codd2)
              | (go_at_call 38; refine h38.mono ?_; rintro e y3 ⟨ks2, al, cl, rfl, hri2, hks2, hkl2, hok2, hE3, p3⟩; have hbE3 := hbE2.trans p3; obtain rfl : ks2 = ks := (Rising.ext hri2 hri (fun x => (hks2 x).trans (hks.out x).symm)); obtain ⟨m0, m1⟩ := cells (hE3.front 4 _ rfl); obtain ⟨m2, m3⟩ := ucells (hE3.front 2 _ rfl); have h44 := same44 al ak cl ck ks2.length ks2 y3 (rows_lies hE3 hok2) (rows_lies (hE3.front 3 _ rfl) hok) rfl (by omega); clear hks2)
              | (go_at_call 44; refine h44.mono ?_; rintro e y4 ⟨rfl, p4⟩; have hbE4 := hbE3.trans (p4.mono hbE3.size); have hE4 := hE3.keep p4; obtain ⟨m0, m1⟩ := cells (hE4.front 4 _ rfl); obtain ⟨m2, m3⟩ := ucells (hE4.front 2 _ rfl))
              | (go_at_call 33; refine (haw _).mono ?_; rintro e y5 ⟨rfl, p5⟩; have hbE5 := hbE4.trans (p5.mono hbE4.size); have hE5 := hE4.keep p5; obtain ⟨m0, m1⟩ := cells (hE5.front 4 _ rfl); obtain ⟨m2, m3⟩ := ucells (hE5.front 2 _ rfl)))
          go_wp2_with fail
          go_ret
          exact ⟨rfl, hbE5⟩
  · rw [decide_eq_false hsk] at hr41
    go_wp2_with fail
    refine hwd.mono ?_
    rintro e w' ⟨rfl, rfl⟩
    go_wp2_with fail
    refine hr41.mono ?_
    rintro e wx ⟨rfl, bx⟩
    have hbX := hb2.trans (bx.mono hb2.size)
    go_wp2_with fail
    refine (haw _).mono ?_
    rintro e w4 ⟨rfl, b4⟩
    go_wp2_with fail
    go_ret
    exact ⟨rfl, hbX.trans (b4.mono hbX.size)⟩
theorem row_other {H : Type} {enc : TypeId × Value → H} {base : Nat} (width : Int) (a : Option Addr) (len cap : Nat) (v : Value) (now : Int) (key : ByteArray) (at_ : Int) (w : World) (h0 : (Lit.int .i64 width).wf = true) {d : DataW H} {ps : List MemPlace}
    (hs : DataW.Trod enc Try.prog w 0 (fun _ => true) true 61 (.slice a len cap) d ps) {d2 : DataW H} {ps2 : List MemPlace} (h : DataW.Trod enc Try.prog w 0 (fun _ => true) true 53 v d2 ps2) (hv : Value.okWide Try.prog w .any base 53 v) (h2 : (Lit.int .i64 now).wf = true) (hk : key.size ≤ 140737488351232) (h3 : (Lit.int .i64 at_).wf = true) :
    Calls Try.prog 14 #[.int .i64 width, .slice a len cap, v, .int .i64 now, .string key, .int .i64 at_] w fun e w' => e = .returned (.bool true) ∧ Below w.heap.size w w' := by
  obtain ⟨P, Bk, rfl, ⟨hP1, hP2⟩, ⟨hB1, hB2⟩⟩ := open_season h hv
  obtain ⟨l, rfl, hl, hsl⟩ := SlAt.open (r := rdAdd) (by decide) Try.underlying61 hs
  exact law_other width P Bk now at_ a cap l key w hl hsl (by omega) hP1 hP2 hB1 hB2 (wf_bd' h2).1 (wf_bd' h2).2 (wf_bd' h3).1 (wf_bd' h3).2
end Go.Proofs.Pan
