/- PaneWidths: the walk of the law. -/
import Derived.Test.YtfolnnmgnkalkaaPanLawKeyed
import Derived.Test.YtfolnnmgnkalkaaPanTexts
namespace Go.Proofs.Pan
open Go.RowKit Go.Cic Go.ChangeMaps
set_option linter.unusedVariables false
set_option maxRecDepth 100000
theorem widths_sum {w t : Int} (hw : 1 ≤ w) (ht : 1 ≤ t) (key : ByteArray) (a b : Int) (l : List Act') : asum w (inr key (pn w (a * (w * t))) (pn w (b * (w * t)))) l = asum (w * t) (inr key (pn (w * t) (a * (w * t))) (pn (w * t) (b * (w * t)))) l := by
  have e1 : ∀ x : Int, pn w (x * (w * t)) = x * t := fun x => by
    unfold pn
    rw [← Int.mul_assoc, Int.mul_right_comm]
    exact Int.mul_ediv_cancel _ (by omega)
  have hg : w * t ≠ 0 := by
    have : 0 < w * t := Int.mul_pos (by omega) (by omega)
    omega
  have e2 : ∀ x : Int, pn (w * t) (x * (w * t)) = x := fun x => Int.mul_ediv_cancel x hg
  rw [e1, e1, e2, e2]
  refine asum_congr (fun d _ ho => ?_)
  have e3 : pn (w * t) d.2.2.1 = pn w d.2.2.1 / t := by
    unfold pn
    rw [Int.ediv_ediv_of_nonneg (by omega)]
  congr 1
  unfold inr
  rw [e3]
  have h1 : a * t ≤ pn w d.2.2.1 ↔ a ≤ pn w d.2.2.1 / t := (Int.le_ediv_iff_mul_le (by omega)).symm
  have h2 : pn w d.2.2.1 < b * t ↔ pn w d.2.2.1 / t < b := (Int.ediv_lt_iff_lt_mul (by omega)).symm
  simp only [h1, h2]
/-- The loop's state. -/
def LoopW (B : Nat) (w : World) (p q : Nat) (wd gd : Int) (l : List Act') (g : Nat) (i : Value) (wr : World) : Prop :=
  ∃ k : Nat, k ≤ l.length ∧ g = l.length - k ∧ i = .int .i64 k ∧ Below B w wr ∧ Owns B [PanR p wd (l.take k), PanR q gd (l.take k)] wr
theorem wf_id {n : Int} (h1 : 1 ≤ n) (h2 : n ≤ 65536) : wf n = n := by unfold wf; omega
set_option maxHeartbeats 4000000 in
theorem law_widths (width times : Int) (A : Option Addr) (cap : Nat) (l : List Act') (key : ByteArray) (a b : Int) (w : World) (hl : l.length ≤ maxLen) (hs : SlAt rdAct w A l) (hkey : key.size ≤ 9223372036854775807)
    (hw0 : 0 ≤ width) (hw1 : width ≤ 255) (ht0 : 0 ≤ times) (ht1 : times ≤ 255) (ha0 : -128 ≤ a) (ha1 : a ≤ 127) (hb0 : -128 ≤ b) (hb1 : b ≤ 127) :
    Calls Try.prog 7 #[.int .u8 width, .int .u8 times, .slice A l.length cap, .string key, .int .i8 a, .int .i8 b] w fun e w' => e = .returned (.bool true) ∧ Below w.heap.size w w' := by
  have haw := awake_any w
  by_cases hv : fewB l = false ∨ 100 < key.size ∨ a < -100 ∨ 100 < a ∨ b < -100 ∨ 100 < b
  · have hcs : fewB l = false ∨ (fewB l = true ∧ 100 < key.size) ∨ (fewB l = true ∧ key.size ≤ 100 ∧ a < -100) ∨ (fewB l = true ∧ key.size ≤ 100 ∧ -100 ≤ a ∧ 100 < a) ∨ (fewB l = true ∧ key.size ≤ 100 ∧ -100 ≤ a ∧ a ≤ 100 ∧ b < -100) ∨ (fewB l = true ∧ key.size ≤ 100 ∧ -100 ≤ a ∧ a ≤ 100 ∧ -100 ≤ b ∧ 100 < b) := by
      by_cases hf : fewB l = true
      · have hv2 : 100 < key.size ∨ a < -100 ∨ 100 < a ∨ b < -100 ∨ 100 < b := hv.resolve_left (by rw [hf]; simp)
        simp only [hf, true_and]
        omega
      · exact .inl (by simpa using hf)
    clear hv
    rcases hcs with hf | ⟨hf, h2⟩ | ⟨hf, h2, h3⟩ | ⟨hf, h2, h3, h4⟩ | ⟨hf, h2, h3, h4, h5⟩ | ⟨hf, h2, h3, h4, h5, h6⟩
    all_goals
      replace hf := Hid.mk' hf
      go_enter Try.func7, Try.ntmps7
      go_wp2_with fail
      refine haw.mono ?_
      rintro e w1 ⟨rfl, b1⟩
      have hfw := few_any A cap l w1 hl (hs.below b1)
      rw [hf.out] at hfw
      go_wp2_with fail
      refine hfw.mono ?_
      rintro e w2 ⟨rfl, rfl⟩
      go_wp2_with fail
      go_ret
      exact ⟨rfl, b1⟩
  obtain ⟨hfe, hk, a0, a1, b0, b1'⟩ : fewB l = true ∧ key.size ≤ 100 ∧ -100 ≤ a ∧ a ≤ 100 ∧ -100 ≤ b ∧ b ≤ 100 := by
    simp only [not_or] at hv
    obtain ⟨v1, v2⟩ := hv
    refine ⟨by simpa using v1, ?_⟩
    omega
  clear hv
  have H := Hid.mk' hfe
  clear hfe
  have hll := (fewB_spec H.out).1
  obtain ⟨W0, hW0⟩ : ∃ W0, 1 + width = W0 := ⟨_, rfl⟩
  obtain ⟨T0, hT0⟩ : ∃ T0, 1 + times = T0 := ⟨_, rfl⟩
  have hwb : 1 ≤ W0 ∧ W0 ≤ 256 := by omega
  have htb : 1 ≤ T0 ∧ T0 ≤ 256 := by omega
  have hGb : 1 ≤ W0 * T0 ∧ W0 * T0 ≤ 65536 := by
    refine ⟨Int.mul_pos (by omega) (by omega), ?_⟩
    have h1 : W0 * T0 ≤ 256 * T0 := Int.mul_le_mul_of_nonneg_right hwb.2 (by omega)
    omega
  obtain ⟨G, hG⟩ : ∃ G, W0 * T0 = G := ⟨_, rfl⟩
  rw [hG] at hGb
  obtain ⟨gg1, gg2⟩ := hGb
  have hprod : ∀ x : Int, -100 ≤ x → x ≤ 100 → -6553600 ≤ x * G ∧ x * G ≤ 6553600 := fun x h1 h2 => by
    have h3 : x * G ≤ 100 * G := Int.mul_le_mul_of_nonneg_right h2 (by omega)
    have h4 : -100 * G ≤ x * G := Int.mul_le_mul_of_nonneg_right h1 (by omega)
    omega
  obtain ⟨pa1, pa2⟩ := hprod a a0 a1
  obtain ⟨pb1, pb2⟩ := hprod b b0 b1'
  have hsums : ∀ (k : ByteArray), asum W0 (inr k (pn W0 (a * G)) (pn W0 (b * G))) l = asum G (inr k (pn G (a * G)) (pn G (b * G))) l := fun k => by
    have := widths_sum (w := W0) (t := T0) (by omega) (by omega) k a b l
    rw [hG] at this
    exact this
  obtain ⟨fa, hfa⟩ : ∃ x, a * G = x := ⟨_, rfl⟩
  obtain ⟨fb, hfb⟩ : ∃ x, b * G = x := ⟨_, rfl⟩
  rw [hfa] at pa1 pa2 hsums
  rw [hfb] at pb1 pb2 hsums
  replace hsums := Hid.mk' hsums
  clear hprod
  obtain ⟨ww1, ww2⟩ := hwb
  obtain ⟨tt1, tt2⟩ := htb
  go_enter Try.func7, Try.ntmps7
  go_wp2_with fail
  refine haw.mono ?_
  rintro e w1 ⟨rfl, b1⟩
  have hfw := few_any A cap l w1 hl (hs.below b1)
  rw [H.out] at hfw
  go_wp2_with fail
  refine hfw.mono ?_
  rintro e w2 ⟨rfl, rfl⟩
  have hn1 := newR W0 (Owns.nil w.heap.size w1) b1.size
  rw [wf_id ww1 (by omega)] at hn1
  go_wp2_with fail
  refine hn1.mono ?_
  rintro e w2 ⟨p, rfl, hO2, b2⟩
  have hb2 := b1.trans b2
  have hn2 := newR G hO2 hb2.size
  rw [wf_id gg1 gg2] at hn2
  go_wp2_with fail
  refine hn2.mono ?_
  rintro e w3 ⟨q, rfl, hO3, b3⟩
  have hb3 := hb2.trans b3
  have hst : LoopW w.heap.size w p q W0 G l l.length (.int .i64 0) w3 := ⟨0, Nat.zero_le _, rfl, rfl, hb3, hO3.swap⟩
  replace hst := Hid.mk' hst
  clear hn1 hn2 hfw hO2 hO3 haw b1 b2 b3 hb2 hb3
  go_wp2_with fail
  go_loopg [17] l.length (fun g i wr => LoopW w.heap.size w p q W0 G l g i wr)
  case atStart => exact hst.out
  case round =>
    clear hst
    obtain ⟨k, hk2, hgk, rfl, hbr, hOr⟩ := hrel
    have hzr := hbr.size
    by_cases hlt : k < l.length
    · have hy : l[k]? = some l[k] := List.getElem?_eq_getElem hlt
      generalize l[k] = y at hy
      obtain ⟨kd, dk, dt, dn⟩ := y
      obtain ⟨bb, o, hidx, hc, hbl⟩ := hs.idx (cap := cap) Try.underlying22 size29 rfl hy
      obtain ⟨_, d1', d2', d3'⟩ := act_at hc
      have hcells : ∀ W, Below w.heap.size w W → W.cell? ⟨bb, o + 1, none⟩ = some (.string dk) ∧ W.cell? ⟨bb, o + 2, none⟩ = some (.int .i64 dt) ∧ W.cell? ⟨bb, o + 3, none⟩ = some (.int .i64 dn) := fun W hW =>
        ⟨(hW.cell (p := ⟨bb, o + 1, none⟩) hbl).trans d1', (hW.cell (p := ⟨bb, o + 2, none⟩) hbl).trans d2', (hW.cell (p := ⟨bb, o + 3, none⟩) hbl).trans d3'⟩
      obtain ⟨c1, c2, c3⟩ := hcells wr hbr
      have hlk : (l.take k).length ≤ 1000 := by rw [List.length_take]; omega
      have hadd := addR kd dk dt dn hOr.drew hzr hlk ww1 (by omega)
      clear hc d1' d2' d3'
      replace hy := Hid.mk' hy
      go_wp2_with fail
      go_region_held3 (fun w' => w'.cell? ⟨bb, o + 1, none⟩ = some (.string dk) ∧ w'.cell? ⟨bb, o + 2, none⟩ = some (.int .i64 dt) ∧ w'.cell? ⟨bb, o + 3, none⟩ = some (.int .i64 dn)) (go_keep)
        (first
          | (go_at_call_of 19 (Value.pointer (some ⟨p, 0, none⟩)); refine hadd.mono ?_; rintro e w4 ⟨rfl, hO4, b4⟩; have hb4 := hbr.drew.trans b4; obtain ⟨s1, s2, s3⟩ := hcells w4 hb4; have hadd2 := addR kd dk dt dn hO4.swap hb4.size hlk gg1 (by omega))
          | (go_at_call_of 19 (Value.pointer (some ⟨q, 0, none⟩)); refine hadd2.mono ?_; rintro e w5 ⟨rfl, hO5, b5⟩; have hb5 := hb4.trans b5; obtain ⟨r1, r2, r3⟩ := hcells w5 hb5))
      have hO5' : Owns w.heap.size [PanR p W0 (l.take (k + 1)), PanR q G (l.take (k + 1))] w5 := by rw [take_succ' hy.out]; exact hO5.swap
      go_wp2_with fail
      go_roundg (l.length - (k + 1))
      case rel => exact ⟨k + 1, by omega, rfl, by go_num, hb5, hO5'⟩
      case measure => omega
    · have hkk : l.take k = l := List.take_of_length_le (by omega)
      rw [hkk] at hOr
      clear hkk
      have hkl : l.length ≤ 1000 := by omega
      have hs1 := sumR key fa fb hOr hzr hkl ww1 (by omega) (by omega) (by omega) (by omega) (by omega)
      rw [hsums.out] at hs1
      go_wp2_with fail
      refine hs1.mono ?_
      rintro e w4 ⟨rfl, h4, b4⟩
      have hb4 := hbr.trans b4
      have hs2 := sumR key fa fb h4.swap hb4.size hkl gg1 (by omega) (by omega) (by omega) (by omega) (by omega)
      generalize asum G (inr key (pn G fa) (pn G fb)) l = sm at *
      clear hs1
      go_wp2_with fail
      refine hs2.mono ?_
      rintro e w5 ⟨rfl, h5, b5⟩
      have hb5 := hb4.trans b5
      have hk1 := keysR fa fb h5.swap hb5.size hkl ww1 (by omega) (by omega) (by omega) (by omega) (by omega)
      clear hs2
      go_wp2_with fail
      refine hk1.mono ?_
      rintro e w6 ⟨ks, ak, ck, rfl, hri, hks, hkl2, h6, b6⟩
      have hb6 := hb5.trans b6
      have hk2' := keysR fa fb (h6.front 2 _ rfl) hb6.size hkl gg1 (by omega) (by omega) (by omega) (by omega) (by omega)
      replace hks := Hid.mk' hks
      clear hk1
      go_wp2_with fail
      refine hk2'.mono ?_
      rintro e w7 ⟨ks2, ak2, ck2, rfl, hri2, hks2, hkl3, h7, b7⟩
      obtain rfl : ks2 = ks := Rising.ext hri2 hri (fun x => (hks2 x).trans (by rw [← hsums.out]; exact (hks.out x).symm))
      have hb7 := hb6.trans b7
      have htx := texts_same ak ak2 ck ck2 ks2.length ks2 w7 (h7.front 2 _ rfl).rowLies.1 h7.rowLies.1 rfl (by omega)
      clear hks2 hks hk2'
      go_wp2_with fail
      refine htx.mono ?_
      rintro e w8 ⟨rfl, b8⟩
      go_wp2_with fail
      go_ret
      exact ⟨rfl, hb7.trans (b8.mono hb7.size)⟩
theorem row_widths {H : Type} {enc : TypeId × Value → H} (width times : Int) (A : Option Addr) (len cap : Nat) (key : ByteArray) (a b : Int) (w : World) (h0 : (Lit.int .u8 width).wf = true) (h1 : (Lit.int .u8 times).wf = true) {d : DataW H} {ps : List MemPlace}
    (hs : DataW.Trod enc Try.prog w 0 (fun _ => true) true 22 (.slice A len cap) d ps) (hk : key.size ≤ 140737488351232) (h2 : (Lit.int .i8 a).wf = true) (h3 : (Lit.int .i8 b).wf = true) :
    Calls Try.prog 7 #[.int .u8 width, .int .u8 times, .slice A len cap, .string key, .int .i8 a, .int .i8 b] w fun e w' => e = .returned (.bool true) ∧ Below w.heap.size w w' := by
  obtain ⟨l, rfl, hl, hsl⟩ := SlAt.open (r := rdAct) (by decide) Try.underlying22 hs
  have u1 := bounds_u8 h0
  have u2 := bounds_u8 h1
  have u3 := bounds_i8 h2
  have u4 := bounds_i8 h3
  exact law_widths width times A cap l key a b w hl hsl (by omega) u1.1 u1.2 u2.1 u2.2 u3.1 u3.2 u4.1 u4.2
end Go.Proofs.Pan
