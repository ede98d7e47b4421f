/- PaneCopies: the walk of the law. -/
import Derived.Test.YtfolnnmgnkalkaaPanArgs
namespace Go.Proofs.Pan
open Go.RowKit Go.Cic Go.ChangeMaps
set_option linter.unusedVariables false
set_option maxRecDepth 100000
/-- Panes to which at most so much was added. -/
def PanN (p : Nat) (width : Int) (k : Nat) : Asrt := Asrt.some' fun x : Int × Tab => Asrt.star (Asrt.fact (0 ≤ x.1 ∧ x.2.length ≤ k)) (PanA p width x.1 x.2)
theorem panN_iff {B p k : Nat} {width : Int} {l : List Asrt} {w : World} : Owns B (PanN p width k :: l) w ↔ ∃ added T, (0 ≤ added ∧ T.length ≤ k) ∧ Owns B (PanA p width added T :: l) w := by
  unfold PanN
  rw [Owns.ex_iff]
  constructor
  · rintro ⟨⟨a, T⟩, h⟩; rw [Owns.star_iff, Owns.fact_iff] at h; exact ⟨a, T, h⟩
  · rintro ⟨a, T, h⟩; exact ⟨(a, T), by rw [Owns.star_iff, Owns.fact_iff]; exact h⟩
theorem addN {B p k : Nat} {width : Int} {l : List Asrt} {w : World} (key : ByteArray) (at_ n : Int) (hO : Owns B (PanN p width k :: l) w) (hB : B ≤ w.heap.size) (hw1 : 1 ≤ width) (hw2 : width ≤ 1099511627776) :
    Calls Try.prog 19 #[.pointer (some ⟨p, 0, none⟩), .string key, .int .i64 at_, .int .i64 n] w fun e w' => (∃ b, e = .returned (.bool b)) ∧ Owns B (PanN p width (k + 1) :: l) w' ∧ Below B w w' := by
  obtain ⟨added, T, ⟨h0, hT⟩, h⟩ := panN_iff.1 hO
  refine (add_own key at_ n h hB h0 hw1 hw2).mono ?_
  rintro e w' ⟨rfl, h1, h2⟩
  refine ⟨⟨_, rfl⟩, panN_iff.2 ⟨_, _, ⟨?_, ?_⟩, h1⟩, h2⟩
  · split <;> omega
  · split
    · have := AL.put_length_le T (key, pn width at_) (wrap64 ((AL.get T (key, pn width at_)).getD 0 + n)); omega
    · omega
theorem addN_pan {B p : Nat} {width added : Int} {T : Tab} {l : List Asrt} {w : World} (key : ByteArray) (at_ n : Int) (hO : Owns B (PanA p width added T :: l) w) (hB : B ≤ w.heap.size) (h0 : 0 ≤ added) (hw1 : 1 ≤ width) (hw2 : width ≤ 1099511627776) :
    Calls Try.prog 19 #[.pointer (some ⟨p, 0, none⟩), .string key, .int .i64 at_, .int .i64 n] w fun e w' => (∃ b, e = .returned (.bool b)) ∧ (∃ a T', Owns B (PanA p width a T' :: l) w') ∧ Below B w w' := by
  refine (add_own key at_ n hO hB h0 hw1 hw2).mono ?_
  rintro e w' ⟨rfl, h1, h2⟩
  exact ⟨⟨_, rfl⟩, ⟨_, _, h1⟩, h2⟩
theorem wf_bd' {x : Int} (h : (Lit.int .i64 x).wf = true) : -9223372036854775808 ≤ x ∧ x ≤ 9223372036854775807 := by
  exact bounds_i64 h
/-- The loop's state. -/
def LoopR (B : Nat) (w : World) (p : Nat) (width : Int) (n : Nat) (i : Value) (wr : World) : Prop :=
  ∃ k : Nat, k ≤ n ∧ i = .int .i64 k ∧ Below B w wr ∧ Owns B [PanN p width k] wr
theorem kept_kept (last : Int) (T : Tab) : kept last (kept last T) = kept last T := by
  unfold kept; rw [List.filter_filter]; simp
theorem kept_sum0 (key : ByteArray) (first last : Int) (T : Tab) : wsum (inr key first last) (kept last T) = 0 :=
  wsum_zero (fun x hx => inr_no (fun h => by
    have := (List.mem_filter.1 hx).2
    simp at this; omega))
theorem kept_sum (key : ByteArray) {first last end_ : Int} (h : last ≤ first) (T : Tab) : wsum (inr key first end_) (kept last T) = wsum (inr key first end_) T := by
  unfold kept
  rw [wsum_filter (inr key first end_) (fun c => decide (last ≤ c.2)) T]
  refine wsum_congr (fun x _ => ?_)
  split
  · rfl
  · rename_i hn
    exact (inr_no (fun h2 => hn (by simp; omega))).symm
theorem pn_mono {width a b : Int} (h1 : 1 ≤ width) (h : a ≤ b) : pn width a ≤ pn width b := Int.ediv_le_ediv (by omega) h
set_option maxHeartbeats 1000000 in
theorem law_copies (width before from_ to_ : Int) (a : Option Addr) (cap : Nat) (l : List Act') (key : ByteArray) (w : World) (hl : l.length ≤ maxLen) (hs : SlAt rdAct w a l) (hkey : key.size ≤ 9223372036854775807)
    (hb1 : -9223372036854775808 ≤ before) (hb2 : before ≤ 9223372036854775807) (hf1 : -9223372036854775808 ≤ from_) (hf2 : from_ ≤ 9223372036854775807) (ht1 : -9223372036854775808 ≤ to_) (ht2 : to_ ≤ 9223372036854775807) :
    Calls Try.prog 3 #[.int .i64 width, .slice a l.length cap, .int .i64 before, .string key, .int .i64 from_, .int .i64 to_] w fun e w' => e = .returned (.bool true) ∧ Below w.heap.size w w' := by
  by_cases hv : fewB l = false ∨ 100 < key.size
  · by_cases hf : fewB l = false
    · have H := Hid.mk' hf
      clear hv hf
      go_enter Try.func3, Try.ntmps3
      go_wp2_with (first
        | (go_at_call 16; refine (awake_any w).mono ?_; rintro e w1 ⟨rfl, hq1⟩; have hs1 := hs.below hq1)
        | (go_at_call 17; refine (few_any a cap l _ hl hs1).mono ?_; rintro e w' ⟨rfl, rfl⟩; rw [H.out]))
      go_ret
      exact ⟨rfl, hq1⟩
    · have hf' : fewB l = true := by simpa using hf
      have hk : 100 < key.size := hv.resolve_left hf
      have H := Hid.mk' hf'
      clear hv hf hf'
      go_enter Try.func3, Try.ntmps3
      go_wp2_with (first
        | (go_at_call 16; refine (awake_any w).mono ?_; rintro e w1 ⟨rfl, hq1⟩; have hs1 := hs.below hq1)
        | (go_at_call 17; refine (few_any a cap l _ hl hs1).mono ?_; rintro e w' ⟨rfl, rfl⟩; rw [H.out]))
      go_ret
      exact ⟨rfl, hq1⟩
  have H := Hid.mk' (show fewB l = true by by_cases h : fewB l = true; exact h; exact absurd (.inl (by simpa using h)) hv)
  have hk : key.size ≤ 100 := by omega
  clear hv
  have hll := (fewB_spec H.out).1
  obtain ⟨g1, g2⟩ := wf_bd width
  generalize hwd : wf width = wd at g1 g2
  have HW := Hid.mk' hwd
  clear hwd
  go_enter Try.func3, Try.ntmps3
  go_wp2_with (first
    | (go_at_call 16; refine (awake_any w).mono ?_; rintro e w1 ⟨rfl, hq1⟩; have hs1 := hs.below hq1; have hO1 := Owns.nil w.heap.size w1; have hz1 := hq1.size)
    | (go_at_call 17; refine (few_any a cap l _ hl hs1).mono ?_; rintro e w' ⟨rfl, rfl⟩; rw [H.out]))
  refine (new_own width hO1 hz1).mono ?_
  rintro e w2 ⟨p, rfl, hO2, hq2⟩
  rw [HW.out] at hO2
  have hO2' : Owns w.heap.size [PanN p wd 0] w2 := panN_iff.2 ⟨0, [], ⟨Int.le_refl _, Nat.le_refl _⟩, hO2⟩
  go_wp2_with fail
  go_loopw [14] (fun i wr => LoopR w.heap.size w p wd l.length i wr) (fun i _ => l.length - (intOf i).toNat)
  case atStart => exact ⟨0, Nat.zero_le _, rfl, hq1.trans hq2, hO2'⟩
  case round =>
    obtain ⟨k, hk2, rfl, hbr, hOr⟩ := hrel
    have hzr := hbr.size
    have hsr := hs.below hbr
    by_cases hlt : k < l.length
    · have hy : l[k]? = some l[k] := List.getElem?_eq_getElem hlt
      generalize l[k] = y at hy
      obtain ⟨kd, dk, dt, dn⟩ := y
      obtain ⟨b, o, hidx, hc, hbl⟩ := hs.idx (cap := cap) Try.underlying22 size29 rfl hy
      obtain ⟨_, d1', d2', d3'⟩ := act_at hc
      have d1 : wr.cell? ⟨b, o + 1, none⟩ = some (.string dk) := (hbr.cell (p := ⟨b, o + 1, none⟩) hbl).trans d1'
      have d2 : wr.cell? ⟨b, o + 2, none⟩ = some (.int .i64 dt) := (hbr.cell (p := ⟨b, o + 2, none⟩) hbl).trans d2'
      have d3 : wr.cell? ⟨b, o + 3, none⟩ = some (.int .i64 dn) := (hbr.cell (p := ⟨b, o + 3, none⟩) hbl).trans d3'
      clear hc d1' d2' d3'
      go_wp2_with fail
      go_region_held3 (fun w' => w'.cell? ⟨b, o + 1, none⟩ = some (.string dk) ∧ w'.cell? ⟨b, o + 2, none⟩ = some (.int .i64 dt) ∧ w'.cell? ⟨b, o + 3, none⟩ = some (.int .i64 dn)) (go_keep)
        (first | (go_at_call 19; refine (addN dk dt dn (hOr.drew) hzr g1 g2).mono ?_; rintro e w' ⟨⟨rb, rfl⟩, hO3, hq3⟩; have s1 := (hq3.cell (p := ⟨b, o + 1, none⟩) hbl).trans d1; have s2 := (hq3.cell (p := ⟨b, o + 2, none⟩) hbl).trans d2; have s3 := (hq3.cell (p := ⟨b, o + 3, none⟩) hbl).trans d3))
      all_goals go_wp2
      all_goals go_roundw
      case rel => exact ⟨k + 1, by omega, by go_num, hbr.trans (((Below.refl _ wr).drew).trans hq3), hO3⟩
      case measure => simp [intOf]; omega
    · have hkl : k ≤ 101 := by omega
      obtain ⟨added, T, ⟨h0, hT⟩, hOp⟩ := panN_iff.1 hOr
      clear hOr
      obtain ⟨fi, hfi⟩ : ∃ x, Hid (pn wd from_ = x) := ⟨_, rfl⟩
      obtain ⟨la, hla⟩ : ∃ x, Hid (pn wd to_ = x) := ⟨_, rfl⟩
      obtain ⟨be, hbe⟩ : ∃ x, Hid (pn wd before = x) := ⟨_, rfl⟩
      obtain ⟨was, hwas⟩ : ∃ x, Hid (wrap64 (wsum (inr key fi la) T) = x) := ⟨_, rfl⟩
      obtain ⟨gn, hgn⟩ : ∃ x, Hid (T.length - (kept be T).length = x) := ⟨_, rfl⟩
      have hgn2 : gn ≤ 101 := by have := hgn.out; omega
      have z0 := Hid.mk' (show wrap64 (wsum (inr key fi be) (kept be T)) = 0 by rw [kept_sum0]; decide +kernel)
      have z1 := Hid.mk' (show (kept be T).length - (kept be (kept be T)).length = 0 by rw [kept_kept]; omega)
      have z2 := Hid.mk' (kept_kept be T)
      have hkT : (kept be T).length ≤ 1048576 := by have := List.length_filter_le (fun c : Cell × Int => decide (be ≤ c.1.2)) T; unfold kept; omega
      go_wp2_with fail
      refine (copy_own hOp hzr).mono ?_
      rintro e v1 ⟨q, rfl, hP1, hr1⟩
      have hy1 := Nat.le_trans hzr hr1.size
      have cq := pan_cell hP1
      have cp := pan_cell hP1.swap
      go_wp2_with (first | (go_at_call 21; refine (width_any q wd _ cq).mono ?_; rintro e w' ⟨rfl, rfl⟩) | (go_at_call 21; refine (width_any p wd _ cp).mono ?_; rintro e w' ⟨rfl, rfl⟩))
      refine (sum_own key from_ to_ hP1.swap hy1 g1 g2 hf1 hf2 ht1 ht2).mono ?_
      rintro e v2 ⟨rfl, hP2, hr2⟩
      rw [hfi.out, hla.out, hwas.out]
      have hy2 := Nat.le_trans hy1 hr2.size
      go_wp2_with fail
      refine (sum_own key from_ to_ hP2.swap hy2 g1 g2 hf1 hf2 ht1 ht2).mono ?_
      rintro e v3 ⟨rfl, hP3, hr3⟩
      rw [hfi.out, hla.out, hwas.out]
      have hy3 := Nat.le_trans hy2 hr3.size
      go_wp2_with fail
      refine (drop_own before hP3 hy3 g1 g2 hb1 hb2 (by omega)).mono ?_
      rintro e v4 ⟨rfl, hP4, hr4⟩
      rw [hbe.out] at hP4 ⊢
      rw [hgn.out]
      have hy4 := Nat.le_trans hy3 hr4.size
      go_wp2_with fail
      refine (copy_own hP4.swap hy4).mono ?_
      rintro e v5 ⟨q2, rfl, hP5, hr5⟩
      have hy5 := Nat.le_trans hy4 hr5.size
      go_wp2_with fail
      refine (sum_own key from_ to_ (hP5.front 1 (PanA p wd added T) rfl) hy5 g1 g2 hf1 hf2 ht1 ht2).mono ?_
      rintro e v6 ⟨rfl, hP6, hr6⟩
      rw [hfi.out, hla.out, hwas.out]
      have hy6 := Nat.le_trans hy5 hr6.size
      go_wp2_with fail
      refine (sum_own key from_ before (hP6.front 2 (PanA q wd added (kept be T)) rfl) hy6 g1 g2 hf1 hf2 hb1 hb2).mono ?_
      rintro e v7 ⟨rfl, hP7, hr7⟩
      rw [hfi.out, hbe.out, z0.out]
      have hy7 := Nat.le_trans hy6 hr7.size
      go_wp2_with fail
      refine (addN_pan { data := #[120] } 0 5 (hP7.front 1 (PanA p wd added T) rfl) hy7 h0 g1 g2).mono ?_
      rintro e v8 ⟨⟨rb, rfl⟩, ⟨ad2, T2, hP8⟩, hr8⟩
      have hy8 := Nat.le_trans hy7 hr8.size
      have hP8' : Owns w.heap.size [PanA q wd added (kept be T), PanA q2 wd added T] v8 := hP8.sel 3 [1, 2] rfl (by decide)
      go_wp2_with fail
      refine (drop_own before hP8' hy8 g1 g2 hb1 hb2 hkT).mono ?_
      rintro e v9 ⟨rfl, hP9, hr9⟩
      rw [hbe.out] at hP9 ⊢
      rw [z2.out] at hP9
      rw [z1.out]
      have hy9 := Nat.le_trans hy8 hr9.size
      go_wp2_with fail
      refine (drop_own before hP9.swap hy9 g1 g2 hb1 hb2 (by omega)).mono ?_
      rintro e va ⟨rfl, hPa, hra⟩
      rw [hbe.out, hgn.out]
      have hya := Nat.le_trans hy9 hra.size
      have hBa : Below w.heap.size w va := hbr.trans (hr1.trans (hr2.trans (hr3.trans (hr4.trans (hr5.trans (hr6.trans (hr7.trans (hr8.trans (hr9.trans hra)))))))))
      by_cases hfb : from_ < before
      · go_wp2_with fail
        go_ret
        exact ⟨rfl, hBa⟩
      · have z3 := Hid.mk' (show wrap64 (wsum (inr key fi la) (kept be T)) = was by
          rw [kept_sum key (by rw [← hbe.out, ← hfi.out]; exact pn_mono g1 (by omega)), hwas.out])
        go_wp2_with fail
        refine (sum_own key from_ to_ hPa.swap hya g1 g2 hf1 hf2 ht1 ht2).mono ?_
        rintro e vb ⟨rfl, hPb, hrb⟩
        rw [hfi.out, hla.out, z3.out]
        go_wp2_with fail
        go_ret
        exact ⟨rfl, hBa.trans hrb⟩
theorem row_copies {H : Type} {enc : TypeId × Value → H} (width : Int) (a : Option Addr) (len cap : Nat) (before : Int) (key : ByteArray) (from_ to_ : Int) (w : World) (h0 : (Lit.int .i64 width).wf = true) {d : DataW H} {ps : List MemPlace}
    (hs : DataW.Trod enc Try.prog w 0 (fun _ => true) true 22 (.slice a len cap) d ps) (h1 : (Lit.int .i64 before).wf = true) (hk : key.size ≤ 140737488351232) (h2 : (Lit.int .i64 from_).wf = true) (h3 : (Lit.int .i64 to_).wf = true) :
    Calls Try.prog 3 #[.int .i64 width, .slice a len cap, .int .i64 before, .string key, .int .i64 from_, .int .i64 to_] w fun e w' => e = .returned (.bool true) ∧ Below w.heap.size w w' := by
  obtain ⟨l, rfl, hl, hsl⟩ := SlAt.open (r := rdAct) (by decide) Try.underlying22 hs
  exact law_copies width before from_ to_ a cap l key w hl hsl (by omega) (wf_bd' h1).1 (wf_bd' h1).2 (wf_bd' h2).1 (wf_bd' h2).2 (wf_bd' h3).1 (wf_bd' h3).2
end Go.Proofs.Pan
