/- frame: the document's value, Open. -/
import Derived.Test.YtnjakbkecimjcaaFraRef
import Derived.Test.YtnjakbkecimjcaaFraAll
namespace Go.Proofs.Fra
open Go.RowKit Go.Cic Go.ChangeMaps
set_option linter.unusedVariables false
set_option maxRecDepth 100000
theorem tx_extract (l : List UInt8) (a b : Nat) : (tx l).extract a b = tx ((l.drop a).take (b - a)) := by
  apply ByteArray.ext
  simp [ByteArray.data_extract]
theorem refvalue_any (l : List UInt8) (w : World) (hl : l.length ≤ 4) :
    Calls Try.prog 24 #[.string (tx l)] w fun e w' => e = .returned (.int .i64 (beN l)) ∧ w = w' := by
  have hsz := tx_size l
  go_enter Try.func24, Try.ntmps24
  go_wp2
  go_loop [3, 4] (fun a i => ∃ k : Nat, k ≤ l.length ∧ i = .int .i64 k ∧ a = .int .i64 (beN (l.take k))) (fun _ i => l.length - (intOf i).toNat)
  case atStart => exact ⟨0, Nat.zero_le _, rfl, rfl⟩
  case round =>
    obtain ⟨k, hk, rfl, rfl⟩ := hrel
    by_cases hlt : k < l.length
    · have hy : l[k]? = some l[k] := List.getElem?_eq_getElem (by omega)
      have hsn := Hid.mk' (beN_snoc l k l[k] hy)
      have hy2 := l[k].toNat_lt
      have hbe := beN_lt (l.take k)
      have hbe2 : beN (l.take k) < 16777216 := by
        refine Nat.lt_of_lt_of_le hbe ?_
        have : (l.take k).length ≤ 3 := by simp; omega
        exact Nat.pow_le_pow_right (by omega) this
      clear hbe
      generalize beN (l.take k) = p at hsn hbe2
      have hi : (k : Int) < ((tx l).size : Int) := by omega
      go_wp2
      refine ⟨⟨k + 1, by omega, by go_num, ?_⟩, by simp [intOf]; omega⟩
      rw [show (tx l)[k] = l[k] from rfl, hsn.out]
      generalize l[k].toNat = x at hy2
      refine congrArg (fun x => Value.int .i64 x) ?_
      unfold wrap64
      omega
    · have hk3 : l.take k = l := List.take_of_length_le (by omega)
      rw [hk3]
      go_wp2
      go_ret
      exact ⟨rfl, rfl⟩
theorem idx_tx (l : List UInt8) (k : Nat) (y : UInt8) (h : l[k]? = some y) : ∀ W : World, (Instr.index 9 (.string (tx l)) (.int .i64 k)).run Try.prog W = .ok (.int .u8 y.toNat) W := fun W => by
  have hk : k < l.length := (List.getElem?_eq_some_iff.1 h).1
  rw [run_index_string _ 9 _ .i64 k Try.underlying9, dif_pos (by rw [tx_size]; omega)]
  have : l[k] = y := (List.getElem?_eq_some_iff.1 h).2
  subst this
  rfl
def refPost (l : List UInt8) (w : World) (e : Ending) (w' : World) : Prop :=
  e = .returned (.tuple #[.string (tx (openL l).1), .int .i64 ((openL l).2.1 : Nat), .int .i64 ((openL l).2.2 : Nat)]) ∧ Below w.heap.size w w'
set_option maxHeartbeats 4000000 in
theorem refopen_any (l : List UInt8) (w : World) (hl : l.length ≤ 4294967296) : Calls Try.prog 14 #[.string (tx l)] w (refPost l w) := by
  have hsz := tx_size l
  go_enter Try.func14, Try.ntmps14
  go_wp2_with fail
  go_loopw [5] (fun i wr => ∃ k : Nat, k ≤ 3 ∧ (k ≤ l.length ∨ k = 0) ∧ i = .int .i64 ((k : Int) + 3) ∧ Below w.heap.size w wr ∧ ∀ j, j < k → wr3 l j = false) (fun i _ => 6 - (intOf i).toNat)
  case atStart => exact ⟨0, by omega, .inr rfl, rfl, Below.refl _ _, fun j h => by omega⟩
  case round =>
    obtain ⟨k, hk, _, rfl, hb, hj⟩ := hrel
    have hj := Hid.mk' hj
    by_cases hlt : k < 3 ∧ 3 + k < l.length
    · obtain ⟨h3, hlen⟩ := hlt
      have hy : l[3 + k]? = some l[3 + k] := List.getElem?_eq_getElem hlen
      generalize l[3 + k] = y at hy
      have hz : l[k]? = some l[k] := List.getElem?_eq_getElem (by omega)
      generalize l[k] = z at hz
      have i1 := idx_tx l (3 + k) y hy
      have i2 := idx_tx l k z hz
      rw [show (((3 + k : Nat)) : Int) = (k : Int) + 3 by omega] at i1
      have hy2 := y.toNat_lt
      have hz2 := z.toNat_lt
      have HW := Hid.mk' (show wr3 l k = decide (y.toNat ≠ 255 - z.toNat) by unfold wr3; rw [hy, hz]; simp [hlen])
      have e1 : IntKind.i64.wrap ((k : Int) + 3 - 3) = (k : Int) := by rw [IntKind.wrap_i64]; omega
      have e1b : IntKind.i64.wrap (k : Int) = (k : Int) := by rw [IntKind.wrap_i64]; omega
      have e2 : IntKind.u8.wrap (255 - (z.toNat : Int)) = 255 - (z.toNat : Int) := by rw [IntKind.wrap_u8]; omega
      have hki : (k : Int) + 3 < (l.length : Int) := by omega
      have hk6 : (k : Int) + 3 < 6 := by omega
      have hby : 3 + k < l.length := hlen
      generalize y.toNat = y at i1 hy2 HW
      generalize z.toNat = z at i2 hz2 HW e2
      go_wp2_with fail
      refine wp_region_held_drew (S := fun _ => True) (by kernel_rfl) trivial (fun hHeld => ?_)
      refine wpAnyH_take (i := 0) (v := .string (tx l)) rfl (by kernel_rfl) (by kernel_rfl) (by kernel_rfl) (fun _ _ _ h => h) (Or.inl ⟨by rfl, ?_⟩) (by assumption) ?_
      · intro w hSw; go_simp
      try simp only [List.getElem_toArray, List.getElem_cons_succ, List.getElem_cons_zero, Act.put, List.setIfInBounds_toArray, List.set_cons_zero, List.set_cons_succ]
      refine wpAnyH_take (i := 1) (v := .int .i64 ((k : Int) + 3)) rfl (by kernel_rfl) (by kernel_rfl) (by kernel_rfl) (fun _ _ _ h => h) (Or.inl ⟨by rfl, ?_⟩) (by assumption) ?_
      · intro w hSw; go_simp
      try simp only [List.getElem_toArray, List.getElem_cons_succ, List.getElem_cons_zero, Act.put, List.setIfInBounds_toArray, List.set_cons_zero, List.set_cons_succ]
      refine wpAnyH_take (i := 2) (v := .int .u8 (y : Int)) rfl (by kernel_rfl) (by kernel_rfl) (by kernel_rfl) (fun _ _ _ h => h) (Or.inl ⟨by rfl, ?_⟩) (by assumption) ?_
      · intro w hSw; go_simp
      try simp only [List.getElem_toArray, List.getElem_cons_succ, List.getElem_cons_zero, Act.put, List.setIfInBounds_toArray, List.set_cons_zero, List.set_cons_succ]
      refine wpAnyH_take (i := 3) (v := .string (tx l)) rfl (by kernel_rfl) (by kernel_rfl) (by kernel_rfl) (fun _ _ _ h => h) (Or.inl ⟨by rfl, ?_⟩) (by assumption) ?_
      · intro w hSw; go_simp
      try simp only [List.getElem_toArray, List.getElem_cons_succ, List.getElem_cons_zero, Act.put, List.setIfInBounds_toArray, List.set_cons_zero, List.set_cons_succ]
      refine wpAnyH_take (i := 4) (v := .int .i64 ((k : Int) + 3)) rfl (by kernel_rfl) (by kernel_rfl) (by kernel_rfl) (fun _ _ _ h => h) (Or.inl ⟨by rfl, ?_⟩) (by assumption) ?_
      · intro w hSw; go_simp
      try simp only [List.getElem_toArray, List.getElem_cons_succ, List.getElem_cons_zero, Act.put, List.setIfInBounds_toArray, List.set_cons_zero, List.set_cons_succ]
      refine wpAnyH_take (i := 5) (v := .int .i64 (k : Int)) rfl (by kernel_rfl) (by kernel_rfl) (by kernel_rfl) (fun _ _ _ h => h) (Or.inl ⟨by rfl, ?_⟩) (by assumption) ?_
      · intro w hSw; go_simp
      try simp only [List.getElem_toArray, List.getElem_cons_succ, List.getElem_cons_zero, Act.put, List.setIfInBounds_toArray, List.set_cons_zero, List.set_cons_succ]
      refine wpAnyH_take (i := 6) (v := .int .u8 (z : Int)) rfl (by kernel_rfl) (by kernel_rfl) (by kernel_rfl) (fun _ _ _ h => h) (Or.inl ⟨by rfl, ?_⟩) (by assumption) ?_
      · intro w hSw; go_simp
      try simp only [List.getElem_toArray, List.getElem_cons_succ, List.getElem_cons_zero, Act.put, List.setIfInBounds_toArray, List.set_cons_zero, List.set_cons_succ]
      refine wpAnyH_take (i := 7) (v := .int .u8 (255 - (z : Int))) rfl (by kernel_rfl) (by kernel_rfl) (by kernel_rfl) (fun _ _ _ h => h) (Or.inl ⟨by rfl, ?_⟩) (by assumption) ?_
      · intro w hSw; go_simp
      try simp only [List.getElem_toArray, List.getElem_cons_succ, List.getElem_cons_zero, Act.put, List.setIfInBounds_toArray, List.set_cons_zero, List.set_cons_succ]
      refine wpAnyH_take (i := 8) (v := .bool ((y : Int) != 255 - (z : Int))) rfl (by kernel_rfl) (by kernel_rfl) (by kernel_rfl) (fun _ _ _ h => h) (Or.inl ⟨by rfl, ?_⟩) (by assumption) ?_
      · intro w hSw; go_simp
      try simp only [List.getElem_toArray, List.getElem_cons_succ, List.getElem_cons_zero, Act.put, List.setIfInBounds_toArray, List.set_cons_zero, List.set_cons_succ]
      refine wpAnyH_done (by kernel_rfl) ?_ _
      by_cases hne : y = 255 - z
      · have hne2 : (y : Int) = 255 - (z : Int) := by omega
        have hnb : ((y : Int) != 255 - (z : Int)) = false := by simpa using hne2
        rw [hnb]
        have hw3 : wr3 l k = false := by rw [HW.out]; exact decide_eq_false (by omega)
        have HJ2 := Hid.mk' (show ∀ j, j < k + 1 → wr3 l j = false from fun j hjk => by
          rcases Nat.lt_or_ge j k with h | h
          · exact hj.out j h
          · have : j = k := by omega
            subst this; exact hw3)
        clear hw3 HW
        go_wp2_with fail
        go_roundw
        case rel => exact ⟨k + 1, by omega, .inl (by omega), by go_num, hb.drew, HJ2.out⟩
        case measure => simp [intOf]; omega
      · have hne2 : ¬ (y : Int) = 255 - (z : Int) := by omega
        have hnb : ((y : Int) != 255 - (z : Int)) = true := by simpa using hne2
        rw [hnb]
        have hw3 : wr3 l k = true := by rw [HW.out]; exact decide_eq_true (by omega)
        have HB := Hid.mk' (show openL l = ([], 0, 2) by
          have hbad : badB l = true := by
            unfold badB
            obtain rfl | rfl | rfl : k = 0 ∨ k = 1 ∨ k = 2 := by omega
            all_goals simp [hw3]
          unfold openL; rw [hbad]; rfl)
        clear hw3 HW
        go_wp2_with fail
        go_ret3
        exact ⟨by rw [HB.out]; rfl, hb.drew⟩
    · have hw3 : ∀ j, j < 3 → wr3 l j = false := fun j h => by
        rcases Nat.lt_or_ge j k with h1 | h1
        · exact hj.out j h1
        · unfold wr3
          exact decide_eq_false (by omega)
      have w0 := Hid.mk' (hw3 0 (by omega))
      have w1 := Hid.mk' (hw3 1 (by omega))
      have w2 := Hid.mk' (hw3 2 (by omega))
      clear hw3 hj
      have hex : (k = 3) ∨ (k < 3 ∧ l.length ≤ 3 + k) := by omega
      have hexI : (6 : Int) ≤ (k : Int) + 3 ∨ ((k : Int) + 3 < 6 ∧ (l.length : Int) ≤ (k : Int) + 3) := by omega
      clear hlt hex
      by_cases hA : l.length < 3
      · have hAi : (l.length : Int) < 3 := by omega
        have HB := Hid.mk' (show openL l = ([], 0, 1) by
          have g1 : wr1 l = false := by unfold wr1; exact decide_eq_false (by omega)
          have g2 : wr2 l = false := by unfold wr2; exact decide_eq_false (by omega)
          have g3 : tornB l = true := by unfold tornB; exact decide_eq_true (by omega)
          unfold openL badB
          rw [g1, g2, w0.out, w1.out, w2.out, g3]; rfl)
        rcases hexI with hexI | ⟨hexI, hexJ⟩
        all_goals go_wp2_with fail
        all_goals go_ret3
        all_goals exact ⟨by rw [HB.out]; rfl, hb⟩
      have hAi : (3 : Int) ≤ (l.length : Int) := by omega
      have hbT : beN (l.take 3) = toldN l := by
        rcases l with _ | ⟨x, _ | ⟨y, _ | ⟨z, r⟩⟩⟩
        · simp at hA
        · simp at hA
        · simp at hA
        · simp [beN, toldN]; omega
      have hV : ∀ W, Calls Try.prog 24 #[.string ((tx l).extract 0 3)] W fun e w' => e = .returned (.int .i64 (toldN l)) ∧ W = w' := fun W => by
        rw [tx_extract, ← hbT]; exact refvalue_any _ W (by simp; omega)
      have cT := told_lt l
      obtain ⟨T, hT⟩ : ∃ T, Hid (toldN l = T) := ⟨_, rfl⟩
      rw [hT.out] at hV cT
      clear hbT
      by_cases hB : 65536 < T
      · have hBi : (65536 : Int) < (T : Int) := by omega
        have HB := Hid.mk' (show openL l = ([], 0, 2) by
          have g1 : wr1 l = true := by unfold wr1; exact decide_eq_true (by rw [hT.out]; omega)
          unfold openL badB
          rw [g1]; rfl)
        rcases hexI with hexI | ⟨hexI, hexJ⟩
        all_goals go_wp2_with (go_at_call 24; refine (hV _).mono ?_; rintro e w' ⟨rfl, rfl⟩)
        all_goals go_ret3
        all_goals exact ⟨by rw [HB.out]; rfl, hb⟩
      have hBi : (T : Int) ≤ 65536 := by omega
      by_cases hC : l.length < T + 10
      · have hCi : (l.length : Int) < 10 + (T : Int) := by omega
        have HB := Hid.mk' (show openL l = ([], 0, 1) by
          have g1 : wr1 l = false := by unfold wr1; exact decide_eq_false (by rw [hT.out]; omega)
          have g2 : wr2 l = false := by unfold wr2; exact decide_eq_false (by rw [hT.out]; omega)
          have g3 : tornB l = true := by unfold tornB; exact decide_eq_true (by rw [hT.out]; omega)
          unfold openL badB
          rw [g1, g2, w0.out, w1.out, w2.out, g3]; rfl)
        rcases hexI with hexI | ⟨hexI, hexJ⟩
        all_goals go_wp2_with (go_at_call 24; refine (hV _).mono ?_; rintro e w' ⟨rfl, rfl⟩)
        all_goals go_ret3
        all_goals exact ⟨by rw [HB.out]; rfl, hb⟩
      have hCi : 10 + (T : Int) ≤ (l.length : Int) := by omega
      have hex3 : (6 : Int) ≤ (k : Int) + 3 := by omega
      go_wp2_with (go_at_call 24; refine (hV _).mono ?_; rintro e w' ⟨rfl, rfl⟩)
      generalize hX1 : (l.drop (6 + T)).take 4 = X1
      generalize hX2 : l.take (6 + T) = X2
      have hl1 : X1.length ≤ 4 := by rw [← hX1]; simp; omega
      have hl2 : X2.length ≤ 4294967296 := by rw [← hX2]; simp; omega
      have s1 : ∀ W : World, (Instr.sliceAt 9 (.string (tx l)) (some (.int .i64 (6 + (T : Int)))) (some (.int .i64 (10 + (T : Int)))) none).run Try.prog W = .ok (.string (tx X1)) W := fun W => by
        rw [run_sliceAt_string _ 9 _ _ _ _ Try.underlying9, run_slice_string _ 9 (tx l) .i64 .i64 (6 + (T : Int)) (10 + (T : Int)) Try.underlying9 (by omega) (by omega) (by rw [tx_size]; omega)]
        rw [show (6 + (T : Int)).toNat = 6 + T by omega, show (10 + (T : Int)).toNat = 10 + T by omega, tx_extract, show 10 + T - (6 + T) = 4 by omega, hX1]
      have s2 : ∀ W : World, (Instr.sliceAt 9 (.string (tx l)) none (some (.int .i64 (6 + (T : Int)))) none).run Try.prog W = .ok (.string (tx X2)) W := fun W => by
        rw [run_sliceAt_string _ 9 _ _ _ _ Try.underlying9]
        have e : (Instr.slice 9 (.string (tx l)) none (some (.int .i64 (6 + (T : Int)))) none).run Try.prog W = .ok (.string ((tx l).extract 0 (6 + (T : Int)).toNat)) W := by
          have h1 : 0 ≤ 6 + (T : Int) ∧ 6 + (T : Int) ≤ ((tx l).size : Int) := by rw [tx_size]; omega
          rw [run_slice_string_to_if _ 9 (tx l) .i64 (6 + (T : Int)) Try.underlying9]
          simp [h1]
        rw [e, show (6 + (T : Int)).toNat = 6 + T by omega, tx_extract, List.drop_zero, Nat.sub_zero, hX2]
      have hv1 : ∀ W, Calls Try.prog 24 #[.string (tx X1)] W fun e w' => e = .returned (.int .i64 (beN X1)) ∧ W = w' := fun W => refvalue_any X1 W hl1
      have hv2 : ∀ W, Calls Try.prog 20 #[.string (tx X2)] W fun e w' => e = .returned (.int .i64 (sumN X2)) ∧ W = w' := fun W => refsum_any X2 W hl2
      have r6 : IntKind.i64.wrap (6 + (T : Int)) = 6 + (T : Int) := by rw [IntKind.wrap_i64]; omega
      have r10 : IntKind.i64.wrap (10 + (T : Int)) = 10 + (T : Int) := by rw [IntKind.wrap_i64]; omega
      generalize hp : beN X1 = vp at hv1
      generalize hq : sumN X2 = vq at hv2
      have hwr : wr2 l = decide (vp ≠ vq) := by
        unfold wr2
        rw [hT.out, hX1, hX2, hp, hq, decide_eq_decide]
        constructor
        · intro h; exact h.2.2
        · intro h; exact ⟨by omega, by omega, h⟩
      have g1 : wr1 l = false := by unfold wr1; exact decide_eq_false (by rw [hT.out]; omega)
      by_cases hpq : vp = vq
      · have HB := Hid.mk' (show openL l = ((l.drop 6).take T, T + 10, 0) by
          have g2 : wr2 l = false := by rw [hwr]; exact decide_eq_false (fun h => h hpq)
          have g3 : tornB l = false := by unfold tornB; exact decide_eq_false (by rw [hT.out]; omega)
          unfold openL badB
          rw [g1, g2, w0.out, w1.out, w2.out, g3, hT.out]; rfl)
        have s3 : (tx l).extract 6 (6 + T) = tx ((l.drop 6).take T) := by rw [tx_extract, show 6 + T - 6 = T by omega]
        have HS := Hid.mk' s3
        subst hpq
        clear hwr g1 hX1 hX2 hp hq s3 hj
        go_region_held3 (fun _ => True) (trivial) (first | (go_at_call 24; refine (hv1 _).mono ?_; rintro e w' ⟨rfl, rfl⟩) | (go_at_call 20; refine (hv2 _).mono ?_; rintro e w' ⟨rfl, rfl⟩))
        all_goals go_wp2_with fail
        all_goals go_ret3
        all_goals refine ⟨?_, hb.drew⟩
        all_goals rw [HB.out, ← HS.out]
        all_goals show _ = Ending.returned (.tuple #[.string ((tx l).extract 6 (6 + T)), .int .i64 ((T + 10 : Nat) : Int), .int .i64 ((0 : Nat) : Int)])
        all_goals rw [show ((T + 10 : Nat) : Int) = 10 + (T : Int) by omega]
        all_goals rfl
      · have HB := Hid.mk' (show openL l = ([], 0, 2) by
          have g2 : wr2 l = true := by rw [hwr]; exact decide_eq_true hpq
          unfold openL badB
          rw [g1, g2]; rfl)
        have hpi : ¬ (vp : Int) = (vq : Int) := by omega
        have hpb : ((vp : Int) != (vq : Int)) = true := by simpa using hpi
        clear hwr g1 hX1 hX2 hp hq hj
        go_region_held3 (fun _ => True) (trivial) (first | (go_at_call 24; refine (hv1 _).mono ?_; rintro e w' ⟨rfl, rfl⟩) | (go_at_call 20; refine (hv2 _).mono ?_; rintro e w' ⟨rfl, rfl⟩))
        all_goals go_wp2_with fail
        all_goals go_ret3
        all_goals exact ⟨by rw [HB.out]; rfl, hb.drew⟩
end Go.Proofs.Fra
