/- season: the document's Odd, Right, Same. -/
import Derived.Test.YtfolnnmgnkalkaaSeaOdd
namespace Go.Proofs.Pan
open Go.RowKit Go.Cic Go.ChangeMaps
set_option linter.unusedVariables false
set_option linter.unusedSimpArgs false
set_option maxRecDepth 100000
theorem right41 (P Bk W now : Int) (w : World) (hP1 : -9223372036854775808 ≤ P) (hP2 : P ≤ 9223372036854775807) (hB1 : -9223372036854775808 ≤ Bk) (hB2 : Bk ≤ 9223372036854775807) (hW1 : -9223372036854775808 ≤ W) (hW2 : W ≤ 9223372036854775807) :
    Calls Try.prog 41 #[.agg #[.int .i64 P, .int .i64 Bk], .int .i64 W, .int .i64 now] w fun e w' => e = .returned (.bool (decide (sok P Bk W now))) ∧ Below w.heap.size w w' := by
  have hA : Below w.heap.size w (w.alloc (.cells #[.int .i64 P, .int .i64 Bk] 53)) := (Below.refl _ w).alloc (Nat.le_refl _) _
  have hm := refmay_any P Bk W (w.alloc (.cells #[.int .i64 P, .int .i64 Bk] 53)) hP1 hP2 hB1 hB2 hW1 hW2
  have hcs : (¬ smay P Bk W ∧ ¬ sok P Bk W now) ∨ (smay P Bk W ∧ now < 0 ∧ ¬ sok P Bk W now) ∨ (smay P Bk W ∧ 0 ≤ now ∧ 1099511627776 < now ∧ ¬ sok P Bk W now) ∨ (smay P Bk W ∧ 0 ≤ now ∧ now ≤ 1099511627776 ∧ sok P Bk W now) := by
    unfold sok
    by_cases hs : smay P Bk W
    · simp only [hs, true_and, not_true_eq_false, false_and, false_or]; omega
    · exact .inl ⟨hs, fun h => hs h.1⟩
  rcases hcs with ⟨h, hs⟩ | ⟨h, h2, hs⟩ | ⟨h, h2, h3, hs⟩ | ⟨h, h2, h3, hs⟩
  all_goals
    first | rw [decide_eq_false h] at hm | rw [decide_eq_true h] at hm
    first | rw [decide_eq_false hs] | rw [decide_eq_true hs]
    clear h hs
    go_enter Try.func41, Try.ntmps41
    go_wp2_with fail
    refine hm.mono ?_
    rintro e w2 ⟨rfl, b2⟩
    go_wp2_with fail
    go_ret
    first | exact ⟨rfl, hA.trans (b2.mono hA.size)⟩ | exact ⟨ret_bool (decide_eq_true (by omega)), hA.trans (b2.mono hA.size)⟩ | exact ⟨ret_bool (decide_eq_false (by omega)), hA.trans (b2.mono hA.size)⟩
/-- Is a key told? -/
def doB (W P Bk begin_ floor : Int) (acts : List Act') (key : ByteArray) : Prop := 0 < sago W P begin_ acts key 0 ∧ oddB W P Bk begin_ floor acts key = true
section
variable {A : Option Addr} {cap : Nat} {l : List Add'} {w : World} {P Bk W now floor : Int}
def OddR (w : World) (W P Bk begin_ floor : Int) (l : List Add') (g : Nat) (v11 i : Value) (wr : World) : Prop :=
  ∃ (j : Nat) (ks : List ByteArray) (a : Option Addr) (c : Nat), j ≤ l.length ∧ g = l.length - j ∧ i = .int .i64 j ∧ v11 = .slice a ks.length c ∧ Rising ks ∧ (∀ x, x ∈ ks ↔ (∃ d ∈ l.take j, d.1 = x) ∧ doB W P Bk begin_ floor (l.map actOf) x) ∧ (∀ x ∈ ks, rdS.ok x) ∧ ks.length ≤ j ∧ Below w.heap.size w wr ∧
    Owns w.heap.size [Asrt.rows rdS (.slice a ks.length c) ks, Asrt.cells w.heap.size #[.int .i64 P, .int .i64 Bk] 53] wr
set_option maxHeartbeats 8000000 in
theorem refodd_no (hl : l.length ≤ 900) (hP1 : -9223372036854775808 ≤ P) (hP2 : P ≤ 9223372036854775807) (hB1 : -9223372036854775808 ≤ Bk) (hB2 : Bk ≤ 9223372036854775807) (hW1 : 1 ≤ W) (hW2 : W ≤ 1099511627776) (h : ¬ sok P Bk W now) :
    Calls Try.prog 45 #[.slice A l.length cap, .agg #[.int .i64 P, .int .i64 Bk], .int .i64 W, .int .i64 now, .int .i64 floor] w fun e w' => ∃ (a : Option Addr) (c : Nat), e = .returned (.slice a 0 c) ∧ Below w.heap.size w w' := by
  have hA : Below w.heap.size w ((w.alloc (.cells #[.int .i64 P, .int .i64 Bk] 53)).alloc (.cells #[] 9)) := ((Below.refl _ w).alloc (Nat.le_refl _) _).alloc (by simp) _
  have hr := right41 P Bk W now ((w.alloc (.cells #[.int .i64 P, .int .i64 Bk] 53)).alloc (.cells #[] 9)) hP1 hP2 hB1 hB2 (by omega) (by omega)
  rw [decide_eq_false h] at hr
  go_enter Try.func45, Try.ntmps45
  go_wp2_with fail
  refine hr.mono ?_
  rintro e w2 ⟨rfl, b2⟩
  go_wp2_with fail
  go_ret
  exact ⟨_, _, rfl, hA.trans (b2.mono hA.size)⟩
set_option maxHeartbeats 8000000 in
theorem refodd_yes (hl : l.length ≤ 800) (hs : SlAt rdAdd w A l) (hW1 : 1 ≤ W) (hW2 : W ≤ 1099511627776) (hk : ∀ x ∈ l, x.1.size ≤ 1000) (h : sok P Bk W now) :
    Calls Try.prog 45 #[.slice A l.length cap, .agg #[.int .i64 P, .int .i64 Bk], .int .i64 W, .int .i64 now, .int .i64 floor] w fun e w' => ∃ (ks : List ByteArray) (a : Option Addr) (c : Nat), e = .returned (.slice a ks.length c) ∧ Rising ks ∧ (∀ k, k ∈ ks ↔ (∃ d ∈ l, d.1 = k) ∧ doB W P Bk (now - now % W) floor (l.map actOf) k) ∧ ks.length ≤ 900 ∧ (∀ k ∈ ks, rdS.ok k) ∧
      Owns w.heap.size [Asrt.rows rdS (.slice a ks.length c) ks] w' ∧ Below w.heap.size w w' := by
  have h' := h
  obtain ⟨⟨h1, h2, h3, h4, h5, h6⟩, h7, h8⟩ := h'
  have hA := (Owns.nil w.heap.size w).alloc_cells (Nat.le_refl _) #[.int .i64 P, .int .i64 Bk] 53
  have bA : Below w.heap.size w (w.alloc (.cells #[.int .i64 P, .int .i64 Bk] 53)) := (Below.refl _ w).alloc (Nat.le_refl _) _
  have hE := hA.rowsLit (L := []) (r := rdS) bA.size (cs := #[]) (n := 0) (by simp [Rd.all]) rfl (Nat.zero_le _)
  have hz : (w.alloc (.cells #[.int .i64 P, .int .i64 Bk] 53)).heap.size = w.heap.size + 1 := World.size_alloc _ _
  rw [hz] at hE
  have bE := bA.trans hE.2
  have hr := right41 P Bk W now ((w.alloc (.cells #[.int .i64 P, .int .i64 Bk] 53)).alloc (.cells #[] 9)) (by omega) (by omega) (by omega) (by omega) (by omega) (by omega)
  rw [decide_eq_true h] at hr
  have hnow := fun (key : ByteArray) (W0 : World) (hb : Below w.heap.size w W0) => refnow_any (cap := cap) (now := now) (P := P) (Bk := Bk) key (show l.length ≤ 1000 by omega) (hs.below hb) hW1 hW2 hk h
  have hthen := fun (key : ByteArray) (W0 : World) (hb : Below w.heap.size w W0) => refthen_any (cap := cap) (now := now) (P := P) (Bk := Bk) key (show l.length ≤ 1000 by omega) (hs.below hb) hW1 hW2 hk h
  have hbd := fun k i => sago_bd (W := W) (P := P) (begin_ := now - now % W) (acts := l.map actOf) (by simp; omega) k i
  obtain ⟨begin_, hbe⟩ : ∃ b, Hid (now - now % W = b) := ⟨_, Hid.mk' rfl⟩
  rw [hbe.out]
  simp only [hbe.out] at hnow hthen hbd
  have hO0 := hE.1
  clear h4 h hE hbe
  go_enter Try.func45, Try.ntmps45
  go_wp2_with fail
  refine hr.mono ?_
  rintro e w2 ⟨rfl, b2⟩
  have hb2 := bE.trans (b2.mono bE.size)
  have hst : OddR w W P Bk begin_ floor l l.length (.slice (some ⟨w.heap.size + 1, 0, none⟩) 0 0) (.int .i64 0) w2 := ⟨0, [], _, _, Nat.zero_le _, rfl, rfl, rfl, List.Pairwise.nil, fun x => by simp, by simp, Nat.le_refl _, hb2, hO0.keep b2⟩
  replace hst := Hid.mk' hst
  clear hO0 hA bA bE hr b2 hb2
  go_wp2_with fail
  go_loopg [11, 12] l.length (fun g v11 i wr => OddR w W P Bk begin_ floor l g v11 i wr)
  case atStart => exact hst.out
  case round =>
    clear hst
    obtain ⟨j, ks, a, c, hj, hgj, rfl, rfl, hri, hmem, hoks, hkl, hbr, hOr⟩ := hrel
    have hzr := hbr.size
    by_cases hlt : j < l.length
    · have hy : l[j]? = some (l[j]'(by omega)) := List.getElem?_eq_getElem (by omega)
      generalize (l[j]'(by omega)) = y at hy
      have hyk : rdS.ok y.1 := (hs.1 y (List.mem_of_getElem? hy)).1
      obtain ⟨bb, o, hidx, hc, hbl⟩ := hs.idx (cap := cap) Try.underlying61 size74 rfl hy
      have hcell : ∀ W', Below w.heap.size w W' → W'.cell? ⟨bb, o, none⟩ = some (.string y.1) := fun W' hb' => (hb'.cell (p := ⟨bb, o, none⟩) hbl).trans (add_at hc).1
      have d0 := hcell wr hbr
      have hn := hnow y.1 wr hbr
      obtain ⟨hn1, hn2⟩ := hbd y.1 0
      have htb := sthen_bd (hbd y.1) Bk.toNat
      have hth := fun (W0 : World) (hb : Below w.heap.size w W0) => hthen y.1 W0 hb
      have hdo : doB W P Bk begin_ floor (l.map actOf) y.1 ↔ 0 < sago W P begin_ (l.map actOf) y.1 0 ∧ floor ≤ sago W P begin_ (l.map actOf) y.1 0 ∧ 2 * sthen (sago W P begin_ (l.map actOf) y.1) Bk.toNat < sago W P begin_ (l.map actOf) y.1 0 * Bk := by unfold doB oddB; simp
      have hBN : (Bk.toNat : Int) = Bk := Int.toNat_of_nonneg (by omega)
      obtain ⟨n0, hn0⟩ : ∃ n0, Hid (sago W P begin_ (l.map actOf) y.1 0 = n0) := ⟨_, Hid.mk' rfl⟩
      obtain ⟨th, hth0⟩ : ∃ th, Hid (sthen (sago W P begin_ (l.map actOf) y.1) Bk.toNat = th) := ⟨_, Hid.mk' rfl⟩
      rw [hn0.out] at hn hn1 hn2
      rw [hth0.out] at htb
      rw [hn0.out, hth0.out] at hdo
      simp only [hth0.out] at hth
      have hm1 : 0 ≤ n0 * Bk := Int.mul_nonneg hn1 (by omega)
      have hm2 : n0 * Bk ≤ 1048576000 * Bk := Int.mul_le_mul_of_nonneg_right hn2 (by omega)
      have htb2 : 0 ≤ th ∧ th ≤ 1048576000000 := by
        refine ⟨htb.1, ?_⟩
        have := htb.2
        have h9 : (Bk.toNat : Int) * 1048576000 ≤ 1000 * 1048576000 := Int.mul_le_mul_of_nonneg_right (by omega) (by omega)
        omega
      obtain ⟨x, hx⟩ : ∃ x, n0 * Bk = x := ⟨_, rfl⟩
      rw [hx] at hm1 hm2 hdo
      obtain ⟨htb3, htb4⟩ := htb2
      have hskip : ¬ doB W P Bk begin_ floor (l.map actOf) y.1 → ∀ W', Below w.heap.size w W' → Owns w.heap.size [Asrt.rows rdS (.slice a ks.length c) ks, Asrt.cells w.heap.size #[.int .i64 P, .int .i64 Bk] 53] W' → OddR w W P Bk begin_ floor l (l.length - (j + 1)) (.slice a ks.length c) (.int .i64 (j + 1 : Nat)) W' := fun hn W' hb hO =>
        ⟨j + 1, ks, a, c, by omega, rfl, rfl, rfl, hri, fun z => by
          rw [hmem, take_succ' hy]
          constructor
          · rintro ⟨⟨d, hd, rfl⟩, h⟩; exact ⟨⟨d, by simp [hd], rfl⟩, h⟩
          · rintro ⟨⟨d, hd, rfl⟩, h⟩
            rcases List.mem_append.1 hd with hd | hd
            · exact ⟨⟨d, hd, rfl⟩, h⟩
            · obtain rfl : d = y := by simpa using hd
              exact absurd h hn, hoks, by omega, hb, hO⟩
      have hputs : doB W P Bk begin_ floor (l.map actOf) y.1 → ∀ (ks' : List ByteArray), (∀ z, z ∈ ks' ↔ z = y.1 ∨ z ∈ ks) → ∀ z, z ∈ ks' ↔ (∃ d ∈ l.take (j + 1), d.1 = z) ∧ doB W P Bk begin_ floor (l.map actOf) z := fun hd ks' hk' z => by
        rw [hk', hmem, take_succ' hy]
        constructor
        · rintro (rfl | ⟨⟨d, hd', rfl⟩, h⟩)
          · exact ⟨⟨y, by simp, rfl⟩, hd⟩
          · exact ⟨⟨d, by simp [hd'], rfl⟩, h⟩
        · rintro ⟨⟨d, hd', rfl⟩, h⟩
          rcases List.mem_append.1 hd' with hd' | hd'
          · exact .inr ⟨⟨d, hd', rfl⟩, h⟩
          · obtain rfl : d = y := by simpa using hd'
            exact .inl rfl
      replace hy := Hid.mk' hy
      clear htb hBN hmem hc
      have hcs : n0 ≤ 0 ∨ (0 < n0 ∧ n0 < floor) ∨ (0 < n0 ∧ floor ≤ n0) := by omega
      rcases hcs with g1 | ⟨g1, g2⟩ | ⟨g1, g2⟩
      · have hskip := hskip (fun h => by have := (hdo.1 h).1; omega)
        clear hdo hputs
        · go_wp2_with fail
          refine hn.mono ?_
          rintro e w7 ⟨rfl, b7⟩
          have hb7 := hbr.trans (b7.mono hzr)
          have hO7 := hOr.keep b7
          have c0 : w7.drew.cell? ⟨w.heap.size, 0, none⟩ = some (.int .i64 P) := by
            show w7.cell? _ = _
            rw [cell_of (hO7.front 1 _ rfl).cellsE.1]; rfl
          have c1 : w7.drew.cell? ⟨w.heap.size, 1, none⟩ = some (.int .i64 Bk) := by
            show w7.cell? _ = _
            rw [cell_of (hO7.front 1 _ rfl).cellsE.1]; rfl
          go_wp2_with fail
          have t1 : decide (0 < n0) = false := decide_eq_false (by omega)
          refine wp_region_held_drew (S := fun w' => w'.cell? ⟨w.heap.size, 0, none⟩ = some (.int .i64 P) ∧ w'.cell? ⟨w.heap.size, 1, none⟩ = some (.int .i64 Bk)) (by kernel_rfl) ?_ (fun hHeld => ?_)
          · (try dsimp only); exact ⟨by assumption, by assumption⟩
          refine wpAnyH_take (i := 0) (v := ?_) (by simp only [List.getElem?_toArray, List.getElem?_cons_succ, List.getElem?_cons_zero]; exact rfl) (by kernel_rfl) (by kernel_rfl) (by kernel_rfl) (by exact fun _ _ _ h => h) (Or.inl ⟨by rfl, ?_⟩) (by assumption) ?_; rotate_left; (intro w hSw; (try dsimp only at hSw); go_simp; try with_reducible rfl); try simp only [Act.put, List.setIfInBounds_toArray, List.set_cons_zero, List.set_cons_succ]
          refine wpAnyH_take (i := 1) (v := ?_) (by simp only [List.getElem?_toArray, List.getElem?_cons_succ, List.getElem?_cons_zero]; exact rfl) (by kernel_rfl) (by kernel_rfl) (by kernel_rfl) (by exact fun _ _ _ h => h) (Or.inl ⟨by rfl, ?_⟩) (by assumption) ?_; rotate_left; (intro w hSw; (try dsimp only at hSw); go_simp; try with_reducible rfl); try simp only [Act.put, List.setIfInBounds_toArray, List.set_cons_zero, List.set_cons_succ]
          refine wpAnyH_take (i := 2) (v := ?_) (by simp only [List.getElem?_toArray, List.getElem?_cons_succ, List.getElem?_cons_zero]; exact rfl) (by kernel_rfl) (by kernel_rfl) (by kernel_rfl) (by exact fun _ _ _ h => h) (Or.inl ⟨by rfl, ?_⟩) (by assumption) ?_; rotate_left; (intro w hSw; (try dsimp only at hSw); go_simp; try with_reducible rfl); try simp only [Act.put, List.setIfInBounds_toArray, List.set_cons_zero, List.set_cons_succ]
          refine wpAnyH_take (i := 3) (v := undef) (by simp only [List.getElem?_toArray, List.getElem?_cons_succ, List.getElem?_cons_zero]; exact rfl) (by kernel_rfl) (by kernel_rfl) (by kernel_rfl) (by exact fun _ _ _ h => h) (Or.inr ⟨by rfl, rfl⟩) (by assumption) ?_; try simp only [Act.put, List.setIfInBounds_toArray, List.set_cons_zero, List.set_cons_succ]
          refine wpAnyH_take (i := 4) (v := undef) (by simp only [List.getElem?_toArray, List.getElem?_cons_succ, List.getElem?_cons_zero]; exact rfl) (by kernel_rfl) (by kernel_rfl) (by kernel_rfl) (by exact fun _ _ _ h => h) (Or.inr ⟨by rfl, rfl⟩) (by assumption) ?_; try simp only [Act.put, List.setIfInBounds_toArray, List.set_cons_zero, List.set_cons_succ]
          refine wpAnyH_take (i := 5) (v := undef) (by simp only [List.getElem?_toArray, List.getElem?_cons_succ, List.getElem?_cons_zero]; exact rfl) (by kernel_rfl) (by kernel_rfl) (by kernel_rfl) (by exact fun _ _ _ h => h) (Or.inr ⟨by rfl, rfl⟩) (by assumption) ?_; try simp only [Act.put, List.setIfInBounds_toArray, List.set_cons_zero, List.set_cons_succ]
          refine wpAnyH_take (i := 6) (v := ?_) (by simp only [List.getElem?_toArray, List.getElem?_cons_succ, List.getElem?_cons_zero]; exact rfl) (by kernel_rfl) (by kernel_rfl) (by kernel_rfl) (by exact fun _ _ _ h => h) (Or.inl ⟨by rfl, ?_⟩) (by assumption) ?_; rotate_left; (intro w hSw; (try dsimp only at hSw); go_simp; try with_reducible rfl); try simp only [Act.put, List.setIfInBounds_toArray, List.set_cons_zero, List.set_cons_succ]
          refine wpAnyH_take (i := 7) (v := ?_) (by simp only [List.getElem?_toArray, List.getElem?_cons_succ, List.getElem?_cons_zero]; exact rfl) (by kernel_rfl) (by kernel_rfl) (by kernel_rfl) (by exact fun _ _ _ h => h) (Or.inl ⟨by rfl, ?_⟩) (by assumption) ?_; rotate_left; (intro w hSw; (try dsimp only at hSw); go_simp; try with_reducible rfl); try simp only [Act.put, List.setIfInBounds_toArray, List.set_cons_zero, List.set_cons_succ]
          refine wpAnyH_take (i := 8) (v := undef) (by simp only [List.getElem?_toArray, List.getElem?_cons_succ, List.getElem?_cons_zero]; exact rfl) (by kernel_rfl) (by kernel_rfl) (by kernel_rfl) (by exact fun _ _ _ h => h) (Or.inr ⟨by rfl, rfl⟩) (by assumption) ?_; try simp only [Act.put, List.setIfInBounds_toArray, List.set_cons_zero, List.set_cons_succ]
          refine wpAnyH_take (i := 9) (v := undef) (by simp only [List.getElem?_toArray, List.getElem?_cons_succ, List.getElem?_cons_zero]; exact rfl) (by kernel_rfl) (by kernel_rfl) (by kernel_rfl) (by exact fun _ _ _ h => h) (Or.inr ⟨by rfl, rfl⟩) (by assumption) ?_; try simp only [Act.put, List.setIfInBounds_toArray, List.set_cons_zero, List.set_cons_succ]
          refine wpAnyH_take (i := 10) (v := undef) (by simp only [List.getElem?_toArray, List.getElem?_cons_succ, List.getElem?_cons_zero]; exact rfl) (by kernel_rfl) (by kernel_rfl) (by kernel_rfl) (by exact fun _ _ _ h => h) (Or.inr ⟨by rfl, rfl⟩) (by assumption) ?_; try simp only [Act.put, List.setIfInBounds_toArray, List.set_cons_zero, List.set_cons_succ]
          refine wpAnyH_take (i := 11) (v := undef) (by simp only [List.getElem?_toArray, List.getElem?_cons_succ, List.getElem?_cons_zero]; exact rfl) (by kernel_rfl) (by kernel_rfl) (by kernel_rfl) (by exact fun _ _ _ h => h) (Or.inr ⟨by rfl, rfl⟩) (by assumption) ?_; try simp only [Act.put, List.setIfInBounds_toArray, List.set_cons_zero, List.set_cons_succ]
          refine wpAnyH_take (i := 12) (v := undef) (by simp only [List.getElem?_toArray, List.getElem?_cons_succ, List.getElem?_cons_zero]; exact rfl) (by kernel_rfl) (by kernel_rfl) (by kernel_rfl) (by exact fun _ _ _ h => h) (Or.inr ⟨by rfl, rfl⟩) (by assumption) ?_; try simp only [Act.put, List.setIfInBounds_toArray, List.set_cons_zero, List.set_cons_succ]
          refine wpAnyH_take (i := 13) (v := undef) (by simp only [List.getElem?_toArray, List.getElem?_cons_succ, List.getElem?_cons_zero]; exact rfl) (by kernel_rfl) (by kernel_rfl) (by kernel_rfl) (by exact fun _ _ _ h => h) (Or.inr ⟨by rfl, rfl⟩) (by assumption) ?_; try simp only [Act.put, List.setIfInBounds_toArray, List.set_cons_zero, List.set_cons_succ]
          refine wpAnyH_take (i := 14) (v := undef) (by simp only [List.getElem?_toArray, List.getElem?_cons_succ, List.getElem?_cons_zero]; exact rfl) (by kernel_rfl) (by kernel_rfl) (by kernel_rfl) (by exact fun _ _ _ h => h) (Or.inr ⟨by rfl, rfl⟩) (by assumption) ?_; try simp only [Act.put, List.setIfInBounds_toArray, List.set_cons_zero, List.set_cons_succ]
          refine wpAnyH_take (i := 15) (v := undef) (by simp only [List.getElem?_toArray, List.getElem?_cons_succ, List.getElem?_cons_zero]; exact rfl) (by kernel_rfl) (by kernel_rfl) (by kernel_rfl) (by exact fun _ _ _ h => h) (Or.inr ⟨by rfl, rfl⟩) (by assumption) ?_; try simp only [Act.put, List.setIfInBounds_toArray, List.set_cons_zero, List.set_cons_succ]
          refine wpAnyH_take (i := 16) (v := undef) (by simp only [List.getElem?_toArray, List.getElem?_cons_succ, List.getElem?_cons_zero]; exact rfl) (by kernel_rfl) (by kernel_rfl) (by kernel_rfl) (by exact fun _ _ _ h => h) (Or.inr ⟨by rfl, rfl⟩) (by assumption) ?_; try simp only [Act.put, List.setIfInBounds_toArray, List.set_cons_zero, List.set_cons_succ]
          refine wpAnyH_take (i := 17) (v := undef) (by simp only [List.getElem?_toArray, List.getElem?_cons_succ, List.getElem?_cons_zero]; exact rfl) (by kernel_rfl) (by kernel_rfl) (by kernel_rfl) (by exact fun _ _ _ h => h) (Or.inr ⟨by rfl, rfl⟩) (by assumption) ?_; try simp only [Act.put, List.setIfInBounds_toArray, List.set_cons_zero, List.set_cons_succ]
          refine wpAnyH_take (i := 18) (v := undef) (by simp only [List.getElem?_toArray, List.getElem?_cons_succ, List.getElem?_cons_zero]; exact rfl) (by kernel_rfl) (by kernel_rfl) (by kernel_rfl) (by exact fun _ _ _ h => h) (Or.inr ⟨by rfl, rfl⟩) (by assumption) ?_; try simp only [Act.put, List.setIfInBounds_toArray, List.set_cons_zero, List.set_cons_succ]
          refine wpAnyH_take (i := 19) (v := undef) (by simp only [List.getElem?_toArray, List.getElem?_cons_succ, List.getElem?_cons_zero]; exact rfl) (by kernel_rfl) (by kernel_rfl) (by kernel_rfl) (by exact fun _ _ _ h => h) (Or.inr ⟨by rfl, rfl⟩) (by assumption) ?_; try simp only [Act.put, List.setIfInBounds_toArray, List.set_cons_zero, List.set_cons_succ]
          refine wpAnyH_take (i := 20) (v := undef) (by simp only [List.getElem?_toArray, List.getElem?_cons_succ, List.getElem?_cons_zero]; exact rfl) (by kernel_rfl) (by kernel_rfl) (by kernel_rfl) (by exact fun _ _ _ h => h) (Or.inr ⟨by rfl, rfl⟩) (by assumption) ?_; try simp only [Act.put, List.setIfInBounds_toArray, List.set_cons_zero, List.set_cons_succ]
          refine wpAnyH_take (i := 21) (v := undef) (by simp only [List.getElem?_toArray, List.getElem?_cons_succ, List.getElem?_cons_zero]; exact rfl) (by kernel_rfl) (by kernel_rfl) (by kernel_rfl) (by exact fun _ _ _ h => h) (Or.inr ⟨by rfl, rfl⟩) (by assumption) ?_; try simp only [Act.put, List.setIfInBounds_toArray, List.set_cons_zero, List.set_cons_succ]
          refine wpAnyH_take (i := 22) (v := undef) (by simp only [List.getElem?_toArray, List.getElem?_cons_succ, List.getElem?_cons_zero]; exact rfl) (by kernel_rfl) (by kernel_rfl) (by kernel_rfl) (by exact fun _ _ _ h => h) (Or.inr ⟨by rfl, rfl⟩) (by assumption) ?_; try simp only [Act.put, List.setIfInBounds_toArray, List.set_cons_zero, List.set_cons_succ]
          refine wpAnyH_take (i := 23) (v := undef) (by simp only [List.getElem?_toArray, List.getElem?_cons_succ, List.getElem?_cons_zero]; exact rfl) (by kernel_rfl) (by kernel_rfl) (by kernel_rfl) (by exact fun _ _ _ h => h) (Or.inr ⟨by rfl, rfl⟩) (by assumption) ?_; try simp only [Act.put, List.setIfInBounds_toArray, List.set_cons_zero, List.set_cons_succ]
          refine wpAnyH_take (i := 24) (v := ?_) (by simp only [List.getElem?_toArray, List.getElem?_cons_succ, List.getElem?_cons_zero]; exact rfl) (by kernel_rfl) (by kernel_rfl) (by kernel_rfl) (by exact fun _ _ _ h => h) (Or.inl ⟨by rfl, ?_⟩) (by assumption) ?_; rotate_left; (intro w hSw; (try dsimp only at hSw); go_simp; try with_reducible rfl); try simp only [Act.put, List.setIfInBounds_toArray, List.set_cons_zero, List.set_cons_succ]
          refine wpAnyH_done (by kernel_rfl) ?_ _
          go_wp2_with fail
          go_roundg (l.length - (j + 1))
          case rel => exact hskip _ hb7.drew hO7.drew
          case measure => omega
      · have hskip := hskip (fun h => by have := (hdo.1 h).2.1; omega)
        clear hdo hputs
        · go_wp2_with fail
          refine hn.mono ?_
          rintro e w7 ⟨rfl, b7⟩
          have hb7 := hbr.trans (b7.mono hzr)
          have hO7 := hOr.keep b7
          have c0 : w7.drew.cell? ⟨w.heap.size, 0, none⟩ = some (.int .i64 P) := by
            show w7.cell? _ = _
            rw [cell_of (hO7.front 1 _ rfl).cellsE.1]; rfl
          have c1 : w7.drew.cell? ⟨w.heap.size, 1, none⟩ = some (.int .i64 Bk) := by
            show w7.cell? _ = _
            rw [cell_of (hO7.front 1 _ rfl).cellsE.1]; rfl
          go_wp2_with fail
          have t1 : decide (0 < n0) = true := decide_eq_true (by omega)
          have t2 : decide (floor ≤ n0) = false := decide_eq_false (by omega)
          refine wp_region_held_drew (S := fun w' => w'.cell? ⟨w.heap.size, 0, none⟩ = some (.int .i64 P) ∧ w'.cell? ⟨w.heap.size, 1, none⟩ = some (.int .i64 Bk)) (by kernel_rfl) ?_ (fun hHeld => ?_)
          · (try dsimp only); exact ⟨by assumption, by assumption⟩
          refine wpAnyH_take (i := 0) (v := ?_) (by simp only [List.getElem?_toArray, List.getElem?_cons_succ, List.getElem?_cons_zero]; exact rfl) (by kernel_rfl) (by kernel_rfl) (by kernel_rfl) (by exact fun _ _ _ h => h) (Or.inl ⟨by rfl, ?_⟩) (by assumption) ?_; rotate_left; (intro w hSw; (try dsimp only at hSw); go_simp; try with_reducible rfl); try simp only [Act.put, List.setIfInBounds_toArray, List.set_cons_zero, List.set_cons_succ]
          refine wpAnyH_take (i := 1) (v := ?_) (by simp only [List.getElem?_toArray, List.getElem?_cons_succ, List.getElem?_cons_zero]; exact rfl) (by kernel_rfl) (by kernel_rfl) (by kernel_rfl) (by exact fun _ _ _ h => h) (Or.inl ⟨by rfl, ?_⟩) (by assumption) ?_; rotate_left; (intro w hSw; (try dsimp only at hSw); go_simp; try with_reducible rfl); try simp only [Act.put, List.setIfInBounds_toArray, List.set_cons_zero, List.set_cons_succ]
          refine wpAnyH_take (i := 2) (v := ?_) (by simp only [List.getElem?_toArray, List.getElem?_cons_succ, List.getElem?_cons_zero]; exact rfl) (by kernel_rfl) (by kernel_rfl) (by kernel_rfl) (by exact fun _ _ _ h => h) (Or.inl ⟨by rfl, ?_⟩) (by assumption) ?_; rotate_left; (intro w hSw; (try dsimp only at hSw); go_simp; try with_reducible rfl); try simp only [Act.put, List.setIfInBounds_toArray, List.set_cons_zero, List.set_cons_succ]
          refine wpAnyH_take (i := 3) (v := ?_) (by simp only [List.getElem?_toArray, List.getElem?_cons_succ, List.getElem?_cons_zero]; exact rfl) (by kernel_rfl) (by kernel_rfl) (by kernel_rfl) (by exact fun _ _ _ h => h) (Or.inl ⟨by rfl, ?_⟩) (by assumption) ?_; rotate_left; (intro w hSw; (try dsimp only at hSw); go_simp; try with_reducible rfl); try simp only [Act.put, List.setIfInBounds_toArray, List.set_cons_zero, List.set_cons_succ]
          refine wpAnyH_take (i := 4) (v := ?_) (by simp only [List.getElem?_toArray, List.getElem?_cons_succ, List.getElem?_cons_zero]; exact rfl) (by kernel_rfl) (by kernel_rfl) (by kernel_rfl) (by exact fun _ _ _ h => h) (Or.inl ⟨by rfl, ?_⟩) (by assumption) ?_; rotate_left; (intro w hSw; (try dsimp only at hSw); go_simp; try with_reducible rfl); try simp only [Act.put, List.setIfInBounds_toArray, List.set_cons_zero, List.set_cons_succ]
          refine wpAnyH_take (i := 5) (v := ?_) (by simp only [List.getElem?_toArray, List.getElem?_cons_succ, List.getElem?_cons_zero]; exact rfl) (by kernel_rfl) (by kernel_rfl) (by kernel_rfl) (by exact fun _ _ _ h => h) (Or.inl ⟨by rfl, ?_⟩) (by assumption) ?_; rotate_left; (intro w hSw; (try dsimp only at hSw); go_simp; try with_reducible rfl); try simp only [Act.put, List.setIfInBounds_toArray, List.set_cons_zero, List.set_cons_succ]
          refine wpAnyH_take (i := 6) (v := ?_) (by simp only [List.getElem?_toArray, List.getElem?_cons_succ, List.getElem?_cons_zero]; exact rfl) (by kernel_rfl) (by kernel_rfl) (by kernel_rfl) (by exact fun _ _ _ h => h) (Or.inl ⟨by rfl, ?_⟩) (by assumption) ?_; rotate_left; (intro w hSw; (try dsimp only at hSw); go_simp; try with_reducible rfl); try simp only [Act.put, List.setIfInBounds_toArray, List.set_cons_zero, List.set_cons_succ]
          refine wpAnyH_take (i := 7) (v := ?_) (by simp only [List.getElem?_toArray, List.getElem?_cons_succ, List.getElem?_cons_zero]; exact rfl) (by kernel_rfl) (by kernel_rfl) (by kernel_rfl) (by exact fun _ _ _ h => h) (Or.inl ⟨by rfl, ?_⟩) (by assumption) ?_; rotate_left; (intro w hSw; (try dsimp only at hSw); go_simp; try with_reducible rfl); try simp only [Act.put, List.setIfInBounds_toArray, List.set_cons_zero, List.set_cons_succ]
          refine wpAnyH_take (i := 8) (v := undef) (by simp only [List.getElem?_toArray, List.getElem?_cons_succ, List.getElem?_cons_zero]; exact rfl) (by kernel_rfl) (by kernel_rfl) (by kernel_rfl) (by exact fun _ _ _ h => h) (Or.inr ⟨by rfl, rfl⟩) (by assumption) ?_; try simp only [Act.put, List.setIfInBounds_toArray, List.set_cons_zero, List.set_cons_succ]
          refine wpAnyH_take (i := 9) (v := undef) (by simp only [List.getElem?_toArray, List.getElem?_cons_succ, List.getElem?_cons_zero]; exact rfl) (by kernel_rfl) (by kernel_rfl) (by kernel_rfl) (by exact fun _ _ _ h => h) (Or.inr ⟨by rfl, rfl⟩) (by assumption) ?_; try simp only [Act.put, List.setIfInBounds_toArray, List.set_cons_zero, List.set_cons_succ]
          refine wpAnyH_take (i := 10) (v := undef) (by simp only [List.getElem?_toArray, List.getElem?_cons_succ, List.getElem?_cons_zero]; exact rfl) (by kernel_rfl) (by kernel_rfl) (by kernel_rfl) (by exact fun _ _ _ h => h) (Or.inr ⟨by rfl, rfl⟩) (by assumption) ?_; try simp only [Act.put, List.setIfInBounds_toArray, List.set_cons_zero, List.set_cons_succ]
          refine wpAnyH_take (i := 11) (v := undef) (by simp only [List.getElem?_toArray, List.getElem?_cons_succ, List.getElem?_cons_zero]; exact rfl) (by kernel_rfl) (by kernel_rfl) (by kernel_rfl) (by exact fun _ _ _ h => h) (Or.inr ⟨by rfl, rfl⟩) (by assumption) ?_; try simp only [Act.put, List.setIfInBounds_toArray, List.set_cons_zero, List.set_cons_succ]
          refine wpAnyH_take (i := 12) (v := undef) (by simp only [List.getElem?_toArray, List.getElem?_cons_succ, List.getElem?_cons_zero]; exact rfl) (by kernel_rfl) (by kernel_rfl) (by kernel_rfl) (by exact fun _ _ _ h => h) (Or.inr ⟨by rfl, rfl⟩) (by assumption) ?_; try simp only [Act.put, List.setIfInBounds_toArray, List.set_cons_zero, List.set_cons_succ]
          refine wpAnyH_take (i := 13) (v := undef) (by simp only [List.getElem?_toArray, List.getElem?_cons_succ, List.getElem?_cons_zero]; exact rfl) (by kernel_rfl) (by kernel_rfl) (by kernel_rfl) (by exact fun _ _ _ h => h) (Or.inr ⟨by rfl, rfl⟩) (by assumption) ?_; try simp only [Act.put, List.setIfInBounds_toArray, List.set_cons_zero, List.set_cons_succ]
          refine wpAnyH_take (i := 14) (v := undef) (by simp only [List.getElem?_toArray, List.getElem?_cons_succ, List.getElem?_cons_zero]; exact rfl) (by kernel_rfl) (by kernel_rfl) (by kernel_rfl) (by exact fun _ _ _ h => h) (Or.inr ⟨by rfl, rfl⟩) (by assumption) ?_; try simp only [Act.put, List.setIfInBounds_toArray, List.set_cons_zero, List.set_cons_succ]
          refine wpAnyH_take (i := 15) (v := undef) (by simp only [List.getElem?_toArray, List.getElem?_cons_succ, List.getElem?_cons_zero]; exact rfl) (by kernel_rfl) (by kernel_rfl) (by kernel_rfl) (by exact fun _ _ _ h => h) (Or.inr ⟨by rfl, rfl⟩) (by assumption) ?_; try simp only [Act.put, List.setIfInBounds_toArray, List.set_cons_zero, List.set_cons_succ]
          refine wpAnyH_take (i := 16) (v := undef) (by simp only [List.getElem?_toArray, List.getElem?_cons_succ, List.getElem?_cons_zero]; exact rfl) (by kernel_rfl) (by kernel_rfl) (by kernel_rfl) (by exact fun _ _ _ h => h) (Or.inr ⟨by rfl, rfl⟩) (by assumption) ?_; try simp only [Act.put, List.setIfInBounds_toArray, List.set_cons_zero, List.set_cons_succ]
          refine wpAnyH_take (i := 17) (v := undef) (by simp only [List.getElem?_toArray, List.getElem?_cons_succ, List.getElem?_cons_zero]; exact rfl) (by kernel_rfl) (by kernel_rfl) (by kernel_rfl) (by exact fun _ _ _ h => h) (Or.inr ⟨by rfl, rfl⟩) (by assumption) ?_; try simp only [Act.put, List.setIfInBounds_toArray, List.set_cons_zero, List.set_cons_succ]
          refine wpAnyH_take (i := 18) (v := undef) (by simp only [List.getElem?_toArray, List.getElem?_cons_succ, List.getElem?_cons_zero]; exact rfl) (by kernel_rfl) (by kernel_rfl) (by kernel_rfl) (by exact fun _ _ _ h => h) (Or.inr ⟨by rfl, rfl⟩) (by assumption) ?_; try simp only [Act.put, List.setIfInBounds_toArray, List.set_cons_zero, List.set_cons_succ]
          refine wpAnyH_take (i := 19) (v := undef) (by simp only [List.getElem?_toArray, List.getElem?_cons_succ, List.getElem?_cons_zero]; exact rfl) (by kernel_rfl) (by kernel_rfl) (by kernel_rfl) (by exact fun _ _ _ h => h) (Or.inr ⟨by rfl, rfl⟩) (by assumption) ?_; try simp only [Act.put, List.setIfInBounds_toArray, List.set_cons_zero, List.set_cons_succ]
          refine wpAnyH_take (i := 20) (v := undef) (by simp only [List.getElem?_toArray, List.getElem?_cons_succ, List.getElem?_cons_zero]; exact rfl) (by kernel_rfl) (by kernel_rfl) (by kernel_rfl) (by exact fun _ _ _ h => h) (Or.inr ⟨by rfl, rfl⟩) (by assumption) ?_; try simp only [Act.put, List.setIfInBounds_toArray, List.set_cons_zero, List.set_cons_succ]
          refine wpAnyH_take (i := 21) (v := undef) (by simp only [List.getElem?_toArray, List.getElem?_cons_succ, List.getElem?_cons_zero]; exact rfl) (by kernel_rfl) (by kernel_rfl) (by kernel_rfl) (by exact fun _ _ _ h => h) (Or.inr ⟨by rfl, rfl⟩) (by assumption) ?_; try simp only [Act.put, List.setIfInBounds_toArray, List.set_cons_zero, List.set_cons_succ]
          refine wpAnyH_take (i := 22) (v := undef) (by simp only [List.getElem?_toArray, List.getElem?_cons_succ, List.getElem?_cons_zero]; exact rfl) (by kernel_rfl) (by kernel_rfl) (by kernel_rfl) (by exact fun _ _ _ h => h) (Or.inr ⟨by rfl, rfl⟩) (by assumption) ?_; try simp only [Act.put, List.setIfInBounds_toArray, List.set_cons_zero, List.set_cons_succ]
          refine wpAnyH_take (i := 23) (v := undef) (by simp only [List.getElem?_toArray, List.getElem?_cons_succ, List.getElem?_cons_zero]; exact rfl) (by kernel_rfl) (by kernel_rfl) (by kernel_rfl) (by exact fun _ _ _ h => h) (Or.inr ⟨by rfl, rfl⟩) (by assumption) ?_; try simp only [Act.put, List.setIfInBounds_toArray, List.set_cons_zero, List.set_cons_succ]
          refine wpAnyH_take (i := 24) (v := ?_) (by simp only [List.getElem?_toArray, List.getElem?_cons_succ, List.getElem?_cons_zero]; exact rfl) (by kernel_rfl) (by kernel_rfl) (by kernel_rfl) (by exact fun _ _ _ h => h) (Or.inl ⟨by rfl, ?_⟩) (by assumption) ?_; rotate_left; (intro w hSw; (try dsimp only at hSw); go_simp; try with_reducible rfl); try simp only [Act.put, List.setIfInBounds_toArray, List.set_cons_zero, List.set_cons_succ]
          refine wpAnyH_done (by kernel_rfl) ?_ _
          go_wp2_with fail
          go_roundg (l.length - (j + 1))
          case rel => exact hskip _ hb7.drew hO7.drew
          case measure => omega
      · go_wp2_with fail
        refine hn.mono ?_
        rintro e w7 ⟨rfl, b7⟩
        have hb7 := hbr.trans (b7.mono hzr)
        have hO7 := hOr.keep b7
        have c0 : w7.cell? ⟨w.heap.size, 0, none⟩ = some (.int .i64 P) := by rw [cell_of (hO7.front 1 _ rfl).cellsE.1]; rfl
        have c1 : w7.cell? ⟨w.heap.size, 1, none⟩ = some (.int .i64 Bk) := by rw [cell_of (hO7.front 1 _ rfl).cellsE.1]; rfl
        have d7 := hcell w7 hb7
        have hth1 := hth w7.drew hb7.drew
        have e1 : IntKind.i64.wrap x = x := IntWalk.i64_in _ (by omega)
        have e2 : IntKind.i64.wrap (2 * th) = 2 * th := IntWalk.i64_in _ (by omega)
        replace hdo := Hid.mk' hdo
        clear hth
        go_wp2_with fail
        have t1 : decide (0 < n0) = true := decide_eq_true (by omega)
        have t2 : decide (floor ≤ n0) = true := decide_eq_true (by omega)
        go_region_held3 (fun w' => w'.cell? ⟨w.heap.size, 0, none⟩ = some (.int .i64 P) ∧ w'.cell? ⟨w.heap.size, 1, none⟩ = some (.int .i64 Bk) ∧ w'.cell? ⟨bb, o, none⟩ = some (.string y.1)) (go_keep)
          ((go_at_call 43; refine hth1.mono ?_; rintro e w8 ⟨rfl, b8⟩; have hb8 := hb7.drew.trans (b8.mono hb7.size); have hO8 := hO7.drew.keep b8; have hx0 := (hO8.front 1 _ rfl).cellsE; have i0 : w8.cell? ⟨w.heap.size, 0, none⟩ = some (.int .i64 P) := (by rw [cell_of hx0.1]; rfl); have i1 : w8.cell? ⟨w.heap.size, 1, none⟩ = some (.int .i64 Bk) := (by rw [cell_of hx0.1]; rfl); have i2 := hcell w8 hb8))
        by_cases hod : 2 * th < x
        · have hput := rput_any a c y.1 hO8 hb8.size hoks hyk (by omega) hri
          have hputs := hputs (hdo.out.2 ⟨g1, g2, hod⟩)
          go_wp2_with fail
          refine hput.mono ?_
          rintro e w9 ⟨ks', a', c', rfl, hri', hk', hok', hlen', hO9, b9⟩
          have hb9 := hb8.trans b9
          have hk2 := hputs ks' hk'
          replace hk2 := Hid.mk' hk2
          replace hk' := Hid.mk' hk'
          clear hputs
          go_wp2_with fail
          go_roundg (l.length - (j + 1))
          case rel => exact ⟨j + 1, ks', a', c', by omega, rfl, by go_num, rfl, hri', hk2.out, hok', by omega, hb9, hO9⟩
          case measure => omega
        · have hskip := hskip (fun h => hod (hdo.out.1 h).2.2)
          clear hputs
          go_wp2_with fail
          go_roundg (l.length - (j + 1))
          case rel => exact hskip _ hb8 hO8
          case measure => omega
    · rw [List.take_of_length_le (by omega)] at hmem
      have hO9 := hOr.drop1
      replace hmem := Hid.mk' hmem
      go_wp2_with fail
      go_ret
      exact ⟨ks, a, c, rfl, hri, hmem.out, by omega, hoks, hO9, hbr⟩
end
end Go.Proofs.Pan
