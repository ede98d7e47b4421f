/- season: Same, long, fill. -/
import Derived.Test.YtfolnnmgnkalkaaSeaRefOdd
namespace Go.Proofs.Pan
open Go.RowKit Go.Cic Go.ChangeMaps
set_option linter.unusedVariables false
set_option linter.unusedSimpArgs false
set_option maxRecDepth 100000
theorem same44 (A B : Option Addr) (c1 c2 n : Nat) (xs : List ByteArray) (w : World) (h1 : Lies w A (xs.map Value.string)) (h2 : Lies w B (xs.map Value.string)) (hn : xs.length = n) (hl : n ≤ 4294967296) :
    Calls Try.prog 44 #[.slice A n c1, .slice B n c2] w fun e w' => e = .returned (.bool true) ∧ Below w.heap.size w w' := by
  go_enter Try.func44, Try.ntmps44
  go_wp2
  go_loopw [5] (fun i wr => ∃ k m : Nat, k ≤ n ∧ i = .int .i64 k ∧ wr = w.drewN m) (fun i _ => n - (intOf i).toNat)
  case atStart => exact ⟨0, 0, Nat.zero_le _, rfl, rfl⟩
  case round =>
    obtain ⟨k, m, hk, rfl, rfl⟩ := hrel
    by_cases hlt : k < n
    · have hy : (xs.map Value.string)[k]? = some (.string (xs[k]'(by omega))) := by rw [List.getElem?_map, List.getElem?_eq_getElem (by omega)]; rfl
      generalize (xs[k]'(by omega)) = y at hy
      have hlen : (xs.map Value.string).length = n := by rw [List.length_map]; exact hn
      obtain ⟨b1, p1, i1, g1, _⟩ := Lies.idx (P := Try.prog) (c := c1) Try.underlying35 size9 h1 hlen hy
      obtain ⟨b2, p2, i2, g2, _⟩ := Lies.idx (P := Try.prog) (c := c2) Try.underlying35 size9 h2 hlen hy
      have t1 : (y.toList != y.toList) = false := by simp
      generalize hW : w.drewN m = wq at *
      have g1' : wq.cell? ⟨b1, p1, none⟩ = some (.string y) := by rw [← hW]; exact g1
      have g2' : wq.cell? ⟨b2, p2, none⟩ = some (.string y) := by rw [← hW]; exact g2
      replace hW := Hid.mk' hW
      clear hy hlen
      go_wp2_with fail
      go_quiet (fail)
      go_wp2_with fail
      go_roundw
      case rel => exact ⟨k + 1, m + nq, by omega, by go_num, by rw [← hW.out, World.drewN_drewN]⟩
      case measure => simp [intOf]; omega
    · go_wp2
      go_ret
      exact ⟨rfl, rfl, rfl, rfl, Nat.le_refl _, fun _ _ => rfl⟩
/-- 'long': are there more adds, or periods, than may be asked about? -/
def longB (l : List Add') (Bk : Int) : Bool := (l.any fun d => decide (60 < d.1.size)) || (decide (40 < l.length) || (decide (60 < Bk) && decide (Bk ≤ 1000)))
theorem longB_no {l : List Add'} {Bk : Int} (h : longB l Bk = false) : (∀ d ∈ l, d.1.size ≤ 60) ∧ l.length ≤ 40 ∧ (Bk ≤ 60 ∨ 1000 < Bk) := by
  unfold longB at h
  simp only [Bool.or_eq_false_iff, List.any_eq_false, decide_eq_true_eq, decide_eq_false_iff_not, Bool.and_eq_false_iff] at h
  refine ⟨fun d hd => by have := h.1 d hd; omega, by omega, by omega⟩
def LongS (w : World) (l : List Add') (P Bk : Int) (g : Nat) (i : Value) (wr : World) : Prop :=
  ∃ k : Nat, k ≤ l.length ∧ g = l.length - k ∧ i = .int .i64 k ∧ (∀ d ∈ l.take k, d.1.size ≤ 60) ∧ Below w.heap.size w wr ∧ wr.cell? ⟨w.heap.size, 1, none⟩ = some (.int .i64 Bk) ∧ w.heap.size < wr.heap.size
set_option maxHeartbeats 4000000 in
theorem long_any (A : Option Addr) (cap : Nat) (l : List Add') (P Bk : Int) (w : World) (hl : l.length ≤ maxLen) (hs : SlAt rdAdd w A l) (hB1 : -9223372036854775808 ≤ Bk) (hB2 : Bk ≤ 9223372036854775807) :
    Calls Try.prog 39 #[.slice A l.length cap, .agg #[.int .i64 P, .int .i64 Bk]] w fun e w' => e = .returned (.bool (longB l Bk)) ∧ Below w.heap.size w w' := by
  unfold maxLen at hl
  have hO := (Owns.nil w.heap.size w).alloc_cells (Nat.le_refl _) #[.int .i64 P, .int .i64 Bk] 53
  have hst : LongS w l P Bk l.length (.int .i64 0) (w.alloc (.cells #[.int .i64 P, .int .i64 Bk] 53)) := ⟨0, Nat.zero_le _, rfl, rfl, by simp, (Below.refl _ w).alloc (Nat.le_refl _) _, by rw [cell_of hO.cellsE.1]; rfl, by simp⟩
  replace hst := Hid.mk' hst
  clear hO
  go_enter Try.func39, Try.ntmps39
  go_wp2_with fail
  go_loopg [9] l.length (fun g i wr => LongS w l P Bk g i wr)
  case atStart => exact hst.out
  case round =>
    clear hst
    obtain ⟨k, hk, hgk, rfl, hsm, hbr, c1, hzr⟩ := hrel
    by_cases hlt : k < l.length
    · have hy : l[k]? = some (l[k]'(by omega)) := List.getElem?_eq_getElem (by omega)
      generalize (l[k]'(by omega)) = y at hy
      have hym := (hs.1 y (List.mem_of_getElem? hy)).1
      have hyl : y.1.size ≤ 9223372036854775807 := by have : y.1.size ≤ maxLen := hym; unfold maxLen at this; omega
      obtain ⟨bb, o, hidx, hc, hbl⟩ := hs.idx (cap := cap) Try.underlying61 size74 rfl hy
      obtain ⟨d0', d1', d2'⟩ := add_at hc
      have d0 : wr.cell? ⟨bb, o, none⟩ = some (.string y.1) := (hbr.cell (p := ⟨bb, o, none⟩) hbl).trans d0'
      have d1 : wr.cell? ⟨bb, o + 1, none⟩ = some (.int .i64 y.2.1) := (hbr.cell (p := ⟨bb, o + 1, none⟩) hbl).trans d1'
      have d2 : wr.cell? ⟨bb, o + 2, none⟩ = some (.int .i64 y.2.2) := (hbr.cell (p := ⟨bb, o + 2, none⟩) hbl).trans d2'
      have hbn : Below w.heap.size w (wr.alloc (.cells #[.string y.1, .int .i64 y.2.1, .int .i64 y.2.2] 74)) := hbr.alloc (by omega) _
      have c1n : (wr.alloc (.cells #[.string y.1, .int .i64 y.2.1, .int .i64 y.2.2] 74)).cell? ⟨w.heap.size, 1, none⟩ = some (.int .i64 Bk) := by rw [alloc_cell _ _ (p := ⟨w.heap.size, 1, none⟩) hzr]; exact c1
      by_cases hlong : 60 < y.1.size
      · have hres : Hid (longB l Bk = true) := Hid.mk' (by
          unfold longB
          rw [Bool.or_eq_true]
          exact .inl (List.any_eq_true.2 ⟨y, List.mem_of_getElem? hy, decide_eq_true hlong⟩))
        clear hy hc d0' d1' d2'
        go_wp2_with fail
        go_ret
        exact ⟨ret_bool hres.out.symm, hbn⟩
      · have hsm2 : ∀ d ∈ l.take (k + 1), d.1.size ≤ 60 := fun d hd => by
          rw [take_succ' hy] at hd
          rcases List.mem_append.1 hd with hd | hd
          · exact hsm d hd
          · obtain rfl : d = y := by simpa using hd
            omega
        replace hsm2 := Hid.mk' hsm2
        clear hy hc d0' d1' d2' hsm
        go_wp2_with fail
        go_roundg (l.length - (k + 1))
        case rel => exact ⟨k + 1, by omega, rfl, by go_num, hsm2.out, hbn, c1n, by simp; omega⟩
        case measure => omega
    · rw [List.take_of_length_le (by omega)] at hsm
      have hany : (l.any fun d => decide (60 < d.1.size)) = false := List.any_eq_false.2 (fun d hd => by have := hsm d hd; simp; omega)
      have hcs : (40 < l.length ∧ longB l Bk = true) ∨ (l.length ≤ 40 ∧ Bk ≤ 60 ∧ longB l Bk = false) ∨ (l.length ≤ 40 ∧ 60 < Bk ∧ Bk ≤ 1000 ∧ longB l Bk = true) ∨ (l.length ≤ 40 ∧ 60 < Bk ∧ 1000 < Bk ∧ longB l Bk = false) := by
        unfold longB
        rw [hany]
        by_cases h1 : 40 < l.length
        · exact .inl ⟨h1, by simp [h1]⟩
        · by_cases h2 : 60 < Bk
          · by_cases h3 : Bk ≤ 1000
            · exact .inr (.inr (.inl ⟨by omega, h2, h3, by simp [h2, h3]⟩))
            · exact .inr (.inr (.inr ⟨by omega, h2, by omega, by simp [h3]; omega⟩))
          · exact .inr (.inl ⟨by omega, by omega, by simp [h2]; omega⟩)
      clear hany hsm
      rcases hcs with ⟨q1, hv⟩ | ⟨q1, q2, hv⟩ | ⟨q1, q2, q3, hv⟩ | ⟨q1, q2, q3, hv⟩
      all_goals
        replace hv := Hid.mk' hv
        go_wp2_with fail
        go_ret
        first | exact ⟨ret_bool hv.out.symm, hbr⟩ | exact ⟨ret_bool (by rw [hv.out]; simp; omega), hbr⟩ | exact ⟨ret_bool (by rw [hv.out]; exact decide_eq_true (by omega)), hbr⟩ | exact ⟨ret_bool (by rw [hv.out]; exact decide_eq_false (by omega)), hbr⟩
def FillO (B : Nat) (w : World) (p : Nat) (W : Int) (l : List Add') (lr : List Asrt) (g : Nat) (i : Value) (wr : World) : Prop :=
  ∃ k : Nat, k ≤ l.length ∧ g = l.length - k ∧ i = .int .i64 k ∧ Below B w wr ∧ Owns B (PanR p W ((l.take k).map actOf) :: lr) wr
set_option maxHeartbeats 4000000 in
theorem fill_own {B : Nat} {lr : List Asrt} (width : Int) (A : Option Addr) (cap : Nat) (l : List Add') (w w0 : World) (hl : l.length ≤ 900) (hs : SlAt rdAdd w0 A l) (hw0 : B = w0.heap.size) (hb0 : Below B w0 w) (hO : Owns B lr w) (hk : ∀ x ∈ l, x.1.size ≤ 1000) :
    Calls Try.prog 40 #[.int .i64 width, .slice A l.length cap] w fun e w' => ∃ p, e = .returned (.pointer (some ⟨p, 0, none⟩)) ∧ Owns B (PanR p (wf width) (l.map actOf) :: lr) w' ∧ Below B w0 w' := by
  subst hw0
  have hn1 := newR width hO hb0.size
  have hwb := wf_bd width
  generalize wf width = W at hn1 hwb ⊢
  obtain ⟨hw1, hw2⟩ := hwb
  go_enter Try.func40, Try.ntmps40
  go_wp2_with fail
  refine hn1.mono ?_
  rintro e w2 ⟨p, rfl, hO2, b2⟩
  have hst : FillO w0.heap.size w0 p W l lr l.length (.int .i64 0) w2 := ⟨0, Nat.zero_le _, rfl, rfl, hb0.trans b2, hO2⟩
  replace hst := Hid.mk' hst
  clear hn1 hO2 b2
  go_wp2_with fail
  go_loopg [14] l.length (fun g i wr => FillO w0.heap.size w0 p W l lr g i wr)
  case atStart => exact hst.out
  case round =>
    clear hst
    obtain ⟨k, hk2, hgk, rfl, hbr, hOr⟩ := hrel
    have hzr := hbr.size
    by_cases hlt : k < l.length
    · have hy : l[k]? = some (l[k]'(by omega)) := List.getElem?_eq_getElem (by omega)
      generalize (l[k]'(by omega)) = y at hy
      have hyk := hk y (List.mem_of_getElem? hy)
      obtain ⟨bb, o, hidx, hc, hbl⟩ := hs.idx (cap := cap) Try.underlying61 size74 rfl hy
      obtain ⟨d0', d1', d2'⟩ := add_at hc
      have d0 : wr.cell? ⟨bb, o, none⟩ = some (.string y.1) := (hbr.cell (p := ⟨bb, o, none⟩) hbl).trans d0'
      have d1 : wr.cell? ⟨bb, o + 1, none⟩ = some (.int .i64 y.2.1) := (hbr.cell (p := ⟨bb, o + 1, none⟩) hbl).trans d1'
      have d2 : wr.cell? ⟨bb, o + 2, none⟩ = some (.int .i64 y.2.2) := (hbr.cell (p := ⟨bb, o + 2, none⟩) hbl).trans d2'
      have hA := hOr.alloc_cells hzr #[.string y.1, .int .i64 y.2.1, .int .i64 y.2.2] 74
      have bA : Below w0.heap.size w0 (wr.alloc (.cells #[.string y.1, .int .i64 y.2.1, .int .i64 y.2.2] 74)) := hbr.alloc hzr _
      have cells : ∀ {W' : World} {l' : List Asrt}, Owns w0.heap.size (Asrt.cells wr.heap.size #[.string y.1, .int .i64 y.2.1, .int .i64 y.2.2] 74 :: l') W' → W'.cell? ⟨wr.heap.size, 0, none⟩ = some (.string y.1) ∧ W'.cell? ⟨wr.heap.size, 1, none⟩ = some (.int .i64 y.2.1) ∧ W'.cell? ⟨wr.heap.size, 2, none⟩ = some (.int .i64 y.2.2) := fun h =>
        ⟨by rw [cell_of h.cellsE.1]; rfl, by rw [cell_of h.cellsE.1]; rfl, by rw [cell_of h.cellsE.1]; rfl⟩
      obtain ⟨i0, i1, i2⟩ := cells hA
      have hadd := addR 1 y.1 y.2.1 y.2.2 hA.drew.swap bA.drew.size (by rw [List.length_map, List.length_take]; omega) hw1 hw2
      have hright := fun (W0 : World) => right_any y W0 (by omega)
      have hts : (l.take (k + 1)).map actOf = (l.take k).map actOf ++ [(1, y.1, y.2.1, y.2.2)] := by rw [take_succ' hy]; simp [actOf]
      have t2 : ((decide (mayAdd y.1 y.2.1 y.2.2)) == (decide (mayAdd y.1 y.2.1 y.2.2))) = true := by simp
      generalize decide (mayAdd y.1 y.2.1 y.2.2) = bq at hadd hright t2
      replace hts := Hid.mk' hts
      clear hc d0' d1' d2' hy
      go_wp2_with fail
      go_region_held3 (fun w' => w'.cell? ⟨wr.heap.size, 0, none⟩ = some (.string y.1) ∧ w'.cell? ⟨wr.heap.size, 1, none⟩ = some (.int .i64 y.2.1) ∧ w'.cell? ⟨wr.heap.size, 2, none⟩ = some (.int .i64 y.2.2)) (go_keep)
        (first
          | (go_at_call 19; refine hadd.mono ?_; rintro e x4 ⟨rfl, hO4, b4⟩; have hb4 := bA.drew.trans b4; obtain ⟨s0, s1, s2⟩ := cells (hO4.front 1 _ rfl))
          | (go_at_call 55; refine (hright _).mono ?_; rintro e x5 ⟨rfl, b5⟩; have hb5 := hb4.trans (b5.mono hb4.size); have hO5 := hO4.keep b5; obtain ⟨r0, r1, r2⟩ := cells (hO5.front 1 _ rfl)))
      have hO6 := hO5.swap.tail
      go_wp2_with fail
      go_roundg (l.length - (k + 1))
      case rel => exact ⟨k + 1, by omega, rfl, by go_num, hb5, by rw [hts.out]; exact hO6⟩
      case measure => omega
    · rw [List.take_of_length_le (by omega)] at hOr
      go_wp2_with fail
      go_ret
      exact ⟨p, rfl, hOr, hbr⟩
/-- awake's adds. -/
def awA : List Act' := [(1, sA, 5, 3), (1, sA, 15, 5), (1, sA, 25, 9)]
theorem aw_now : sago 1 10 25 awA sA 0 = 9 := by decide +kernel
theorem aw_then : sthen (sago 1 10 25 awA sA) 2 = 8 := by decide +kernel
theorem aw_odd : oddB 1 10 2 25 1 awA sA = true := by decide +kernel
theorem aw_other {k : ByteArray} (h : 0 < sago 1 10 25 awA k 0) : k = sA := by
  rw [sago_zero] at h
  obtain ⟨d, hd, rfl⟩ := asum_mem h
  simp [awA] at hd
  rcases hd with rfl | rfl | rfl <;> rfl
theorem wf_one : wf 1 = 1 := rfl
end Go.Proofs.Pan
