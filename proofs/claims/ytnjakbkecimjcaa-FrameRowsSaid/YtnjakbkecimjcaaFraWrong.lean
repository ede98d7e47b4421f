/- frame: what may be wrong, each closure. -/
import Derived.Test.YtnjakbkecimjcaaFraBase
namespace Go.Proofs.Fra
open Go.RowKit Go.Cic Go.ChangeMaps
set_option linter.unusedVariables false
set_option maxRecDepth 100000
def wr1 (l : List UInt8) : Bool := decide (3 ≤ l.length ∧ 65536 < toldN l)
def beN (l : List UInt8) : Nat := l.foldl (fun v x => v * 256 + x.toNat) 0
def wr2 (l : List UInt8) : Bool := decide (6 ≤ l.length ∧ toldN l + 10 ≤ l.length ∧ beN ((l.drop (6 + toldN l)).take 4) ≠ sumN (l.take (6 + toldN l)))
def wr3 (l : List UInt8) (i : Nat) : Bool := decide (3 + i < l.length ∧ (l[3 + i]?.getD 0).toNat ≠ 255 - (l[i]?.getD 0).toNat)
theorem told_lt (l : List UInt8) : toldN l < 16777216 := by
  unfold toldN
  have h1 := (l[0]?.getD 0).toNat_lt
  have h2 := (l[1]?.getD 0).toNat_lt
  have h3 := (l[2]?.getD 0).toNat_lt
  omega
theorem ret_bool {a b : Bool} (h : a = b) : Ending.returned (.bool a) = .returned (.bool b) := by rw [h]
theorem Lies.drew {w : World} {ao : Option Addr} {ys : List Value} (h : Lies w ao ys) : Lies w.drew ao ys := h
theorem wr1_any (bx n c : Nat) (ao : Option Addr) (l : List UInt8) (w : World) (cb : w.cell? ⟨bx, 0, none⟩ = some (.slice ao n c)) (hs : Lies w ao (bv l)) (hn : l.length = n) (hl : n ≤ 9223372036854775806) :
    Calls Try.prog 25 #[.pointer (some ⟨bx, 0, none⟩)] w fun e w' => e = .returned (.bool (wr1 l)) ∧ Below w.heap.size w w' := by
  have hb := (Below.refl w.heap.size w).drew
  have ht := told_lt l
  by_cases h3 : 3 ≤ n
  · have HN := Hid.mk' (show wr1 l = decide (65536 < toldN l) by unfold wr1; rw [hn]; simp [h3])
    have htold := told_any ao n c l w hs hn h3
    generalize toldN l = T at *
    go_enter Try.func25, Try.ntmps25
    go_wp2_with (go_at_call 22; refine htold.mono ?_; rintro e w' ⟨rfl, rfl⟩)
    go_ret
    exact ⟨ret_bool (by rw [HN.out]; exact decide_eq_decide.2 (by omega)), hb⟩
  · have HN := Hid.mk' (show wr1 l = false by unfold wr1; rw [hn]; simp [h3])
    go_enter Try.func25, Try.ntmps25
    go_wp2
    go_ret
    exact ⟨ret_bool HN.out.symm, Below.refl _ _⟩
set_option maxHeartbeats 1000000 in
theorem wr3_0 (bx bi n c : Nat) (ao : Option Addr) (l : List UInt8) (w : World) (cb : w.cell? ⟨bx, 0, none⟩ = some (.slice ao n c)) (ci : w.cell? ⟨bi, 0, none⟩ = some (.int .i64 0)) (hs : Lies w ao (bv l)) (hn : l.length = n) (hl : n ≤ 9223372036854775806) :
    Calls Try.prog 27 #[.pointer (some ⟨bx, 0, none⟩), .pointer (some ⟨bi, 0, none⟩)] w fun e w' => e = .returned (.bool (wr3 l 0)) ∧ Below w.heap.size w w' := by
  have hb := (Below.refl w.heap.size w).drew
  by_cases h3 : 3 < n
  · have hy : l[3]? = some l[3] := List.getElem?_eq_getElem (by omega)
    have hz : l[0]? = some l[0] := List.getElem?_eq_getElem (by omega)
    generalize l[3] = y at hy
    generalize l[0] = z at hz
    have HN := Hid.mk' (show wr3 l 0 = decide (y.toNat ≠ 255 - z.toNat) by unfold wr3; rw [show 3 + 0 = 3 from rfl, hy, hz, hn]; simp [h3])
    have hy2 := y.toNat_lt
    have hz2 := z.toNat_lt
    obtain ⟨b0, p0, q0, c0, _⟩ := hs.idx (c := c) (k := 3) Try.underlying22 size5 ((bv_len _).trans hn) (bv_at hy)
    obtain ⟨b1, p1, q1, c1, _⟩ := hs.idx (c := c) (k := 0) Try.underlying22 size5 ((bv_len _).trans hn) (bv_at hz)
    generalize y.toNat = y at *
    generalize z.toNat = z at *
    have q0 : ∀ W, (Instr.indexAt 22 (.slice ao n c) (.int .i64 3)).run Try.prog W = .ok (.pointer (some ⟨b0, p0, none⟩)) W := q0
    have q1 : ∀ W, (Instr.indexAt 22 (.slice ao n c) (.int .i64 0)).run Try.prog W = .ok (.pointer (some ⟨b1, p1, none⟩)) W := q1
    have h3' : (3 : Int) < (n : Int) := by omega
    have e6 : IntKind.i64.wrap 3 = 3 := by decide
    have e7 : decide ((3 : Int) < (n : Int)) = true := decide_eq_true h3'
    have e8 : decide (IntKind.i64.wrap 3 < (n : Int)) = true := by rw [e6]; exact e7
    have hz3 : (z : Int) ≤ 255 := by omega
    have e5 : IntKind.u8.wrap (255 - (z : Int)) = 255 - (z : Int) := by rw [IntKind.wrap_u8]; omega
    go_enter Try.func27, Try.ntmps27
    go_wp2_with fail
    go_region_held3 (fun w' => w'.cell? ⟨bx, 0, none⟩ = some (.slice ao n c) ∧ w'.cell? ⟨bi, 0, none⟩ = some (.int .i64 0) ∧ w'.cell? ⟨b0, p0, none⟩ = some (.int .u8 y) ∧ w'.cell? ⟨b1, p1, none⟩ = some (.int .u8 z)) (go_keep) (fail)
    all_goals go_wp2
    all_goals go_ret
    all_goals (refine ⟨ret_bool ?_, hb⟩; rw [HN.out, Bool.eq_iff_iff]; simp; (try rw [e5]); omega)
  · have HN := Hid.mk' (show wr3 l 0 = false by unfold wr3; rw [hn]; simp [h3])
    have h3' : ¬ (3 : Int) < (n : Int) := by omega
    have e6 : IntKind.i64.wrap 3 = 3 := by decide
    have e7 : decide ((3 : Int) < (n : Int)) = false := decide_eq_false h3'
    have e8 : decide (IntKind.i64.wrap 3 < (n : Int)) = false := by rw [e6]; exact e7
    go_enter Try.func27, Try.ntmps27
    go_wp2_with fail
    refine wp_region_held_drew (S := fun w' => w'.cell? ⟨bx, 0, none⟩ = some (.slice ao n c) ∧ w'.cell? ⟨bi, 0, none⟩ = some (.int .i64 0)) (by kernel_rfl) ⟨cb, ci⟩ (fun hHeld => ?_)
    refine wpAnyH_take (i := 0) (v := .slice ao n c) rfl (by kernel_rfl) (by kernel_rfl) (by kernel_rfl) (fun _ _ _ h => h) (Or.inl ⟨by rfl, ?_⟩) (by assumption) ?_
    · intro w hSw; obtain ⟨g1, g2⟩ := hSw; go_simp
    simp only [List.getElem_toArray, List.getElem_cons_succ, List.getElem_cons_zero, Act.put, List.setIfInBounds_toArray, List.set_cons_zero, List.set_cons_succ]
    refine wpAnyH_take (i := 1) (v := .int .i64 n) rfl (by kernel_rfl) (by kernel_rfl) (by kernel_rfl) (fun _ _ _ h => h) (Or.inl ⟨by rfl, ?_⟩) (by assumption) ?_
    · intro w hSw; obtain ⟨g1, g2⟩ := hSw; go_simp
    simp only [List.getElem_toArray, List.getElem_cons_succ, List.getElem_cons_zero, Act.put, List.setIfInBounds_toArray, List.set_cons_zero, List.set_cons_succ]
    refine wpAnyH_take (i := 2) (v := .int .i64 0) rfl (by kernel_rfl) (by kernel_rfl) (by kernel_rfl) (fun _ _ _ h => h) (Or.inl ⟨by rfl, ?_⟩) (by assumption) ?_
    · intro w hSw; obtain ⟨g1, g2⟩ := hSw; go_simp
    simp only [List.getElem_toArray, List.getElem_cons_succ, List.getElem_cons_zero, Act.put, List.setIfInBounds_toArray, List.set_cons_zero, List.set_cons_succ]
    refine wpAnyH_take (i := 3) (v := .int .i64 3) rfl (by kernel_rfl) (by kernel_rfl) (by kernel_rfl) (fun _ _ _ h => h) (Or.inl ⟨by rfl, ?_⟩) (by assumption) ?_
    · intro w hSw; obtain ⟨g1, g2⟩ := hSw; go_simp
    simp only [List.getElem_toArray, List.getElem_cons_succ, List.getElem_cons_zero, Act.put, List.setIfInBounds_toArray, List.set_cons_zero, List.set_cons_succ]
    refine wpAnyH_take (i := 4) (v := .bool false) rfl (by kernel_rfl) (by kernel_rfl) (by kernel_rfl) (fun _ _ _ h => h) (Or.inl ⟨by rfl, ?_⟩) (by assumption) ?_
    · intro w hSw; obtain ⟨g1, g2⟩ := hSw; go_simp
    simp only [List.getElem_toArray, List.getElem_cons_succ, List.getElem_cons_zero, Act.put, List.setIfInBounds_toArray, List.set_cons_zero, List.set_cons_succ]
    refine wpAnyH_take (i := 5) (v := .bool false) rfl (by kernel_rfl) (by kernel_rfl) (by kernel_rfl) (fun _ _ _ h => h) (Or.inl ⟨by rfl, ?_⟩) (by assumption) ?_
    · intro w hSw; obtain ⟨g1, g2⟩ := hSw; go_simp
    simp only [List.getElem_toArray, List.getElem_cons_succ, List.getElem_cons_zero, Act.put, List.setIfInBounds_toArray, List.set_cons_zero, List.set_cons_succ]
    refine wpAnyH_take (i := 6) (v := undef) rfl (by kernel_rfl) (by kernel_rfl) (by kernel_rfl) (fun _ _ _ h => h) (Or.inr ⟨by rfl, rfl⟩) (by assumption) ?_
    simp only [List.getElem_toArray, List.getElem_cons_succ, List.getElem_cons_zero, Act.put, List.setIfInBounds_toArray, List.set_cons_zero, List.set_cons_succ]
    refine wpAnyH_take (i := 7) (v := undef) rfl (by kernel_rfl) (by kernel_rfl) (by kernel_rfl) (fun _ _ _ h => h) (Or.inr ⟨by rfl, rfl⟩) (by assumption) ?_
    simp only [List.getElem_toArray, List.getElem_cons_succ, List.getElem_cons_zero, Act.put, List.setIfInBounds_toArray, List.set_cons_zero, List.set_cons_succ]
    refine wpAnyH_take (i := 8) (v := undef) rfl (by kernel_rfl) (by kernel_rfl) (by kernel_rfl) (fun _ _ _ h => h) (Or.inr ⟨by rfl, rfl⟩) (by assumption) ?_
    simp only [List.getElem_toArray, List.getElem_cons_succ, List.getElem_cons_zero, Act.put, List.setIfInBounds_toArray, List.set_cons_zero, List.set_cons_succ]
    refine wpAnyH_take (i := 9) (v := undef) rfl (by kernel_rfl) (by kernel_rfl) (by kernel_rfl) (fun _ _ _ h => h) (Or.inr ⟨by rfl, rfl⟩) (by assumption) ?_
    simp only [List.getElem_toArray, List.getElem_cons_succ, List.getElem_cons_zero, Act.put, List.setIfInBounds_toArray, List.set_cons_zero, List.set_cons_succ]
    refine wpAnyH_take (i := 10) (v := undef) rfl (by kernel_rfl) (by kernel_rfl) (by kernel_rfl) (fun _ _ _ h => h) (Or.inr ⟨by rfl, rfl⟩) (by assumption) ?_
    simp only [List.getElem_toArray, List.getElem_cons_succ, List.getElem_cons_zero, Act.put, List.setIfInBounds_toArray, List.set_cons_zero, List.set_cons_succ]
    refine wpAnyH_take (i := 11) (v := undef) rfl (by kernel_rfl) (by kernel_rfl) (by kernel_rfl) (fun _ _ _ h => h) (Or.inr ⟨by rfl, rfl⟩) (by assumption) ?_
    simp only [List.getElem_toArray, List.getElem_cons_succ, List.getElem_cons_zero, Act.put, List.setIfInBounds_toArray, List.set_cons_zero, List.set_cons_succ]
    refine wpAnyH_take (i := 12) (v := undef) rfl (by kernel_rfl) (by kernel_rfl) (by kernel_rfl) (fun _ _ _ h => h) (Or.inr ⟨by rfl, rfl⟩) (by assumption) ?_
    simp only [List.getElem_toArray, List.getElem_cons_succ, List.getElem_cons_zero, Act.put, List.setIfInBounds_toArray, List.set_cons_zero, List.set_cons_succ]
    refine wpAnyH_take (i := 13) (v := undef) rfl (by kernel_rfl) (by kernel_rfl) (by kernel_rfl) (fun _ _ _ h => h) (Or.inr ⟨by rfl, rfl⟩) (by assumption) ?_
    simp only [List.getElem_toArray, List.getElem_cons_succ, List.getElem_cons_zero, Act.put, List.setIfInBounds_toArray, List.set_cons_zero, List.set_cons_succ]
    refine wpAnyH_take (i := 14) (v := undef) rfl (by kernel_rfl) (by kernel_rfl) (by kernel_rfl) (fun _ _ _ h => h) (Or.inr ⟨by rfl, rfl⟩) (by assumption) ?_
    simp only [List.getElem_toArray, List.getElem_cons_succ, List.getElem_cons_zero, Act.put, List.setIfInBounds_toArray, List.set_cons_zero, List.set_cons_succ]
    refine wpAnyH_take (i := 15) (v := undef) rfl (by kernel_rfl) (by kernel_rfl) (by kernel_rfl) (fun _ _ _ h => h) (Or.inr ⟨by rfl, rfl⟩) (by assumption) ?_
    simp only [List.getElem_toArray, List.getElem_cons_succ, List.getElem_cons_zero, Act.put, List.setIfInBounds_toArray, List.set_cons_zero, List.set_cons_succ]
    refine wpAnyH_take (i := 16) (v := undef) rfl (by kernel_rfl) (by kernel_rfl) (by kernel_rfl) (fun _ _ _ h => h) (Or.inr ⟨by rfl, rfl⟩) (by assumption) ?_
    simp only [List.getElem_toArray, List.getElem_cons_succ, List.getElem_cons_zero, Act.put, List.setIfInBounds_toArray, List.set_cons_zero, List.set_cons_succ]
    refine wpAnyH_take (i := 17) (v := .bool false) rfl (by kernel_rfl) (by kernel_rfl) (by kernel_rfl) (fun _ _ _ h => h) (Or.inl ⟨by rfl, ?_⟩) (by assumption) ?_
    · intro w hSw; obtain ⟨g1, g2⟩ := hSw; go_simp
    simp only [List.getElem_toArray, List.getElem_cons_succ, List.getElem_cons_zero, Act.put, List.setIfInBounds_toArray, List.set_cons_zero, List.set_cons_succ]
    refine wpAnyH_take (i := 18) (v := .bool false) rfl (by kernel_rfl) (by kernel_rfl) (by kernel_rfl) (fun _ _ _ h => h) (Or.inl ⟨by rfl, ?_⟩) (by assumption) ?_
    · intro w hSw; obtain ⟨g1, g2⟩ := hSw; go_simp
    simp only [List.getElem_toArray, List.getElem_cons_succ, List.getElem_cons_zero, Act.put, List.setIfInBounds_toArray, List.set_cons_zero, List.set_cons_succ]
    refine wpAnyH_done (by kernel_rfl) ?_ _
    all_goals go_wp2
    all_goals go_ret
    all_goals exact ⟨ret_bool HN.out.symm, hb⟩
set_option maxHeartbeats 1000000 in
theorem wr3_1 (bx bi n c : Nat) (ao : Option Addr) (l : List UInt8) (w : World) (cb : w.cell? ⟨bx, 0, none⟩ = some (.slice ao n c)) (ci : w.cell? ⟨bi, 0, none⟩ = some (.int .i64 1)) (hs : Lies w ao (bv l)) (hn : l.length = n) (hl : n ≤ 9223372036854775806) :
    Calls Try.prog 27 #[.pointer (some ⟨bx, 0, none⟩), .pointer (some ⟨bi, 0, none⟩)] w fun e w' => e = .returned (.bool (wr3 l 1)) ∧ Below w.heap.size w w' := by
  have hb := (Below.refl w.heap.size w).drew
  by_cases h3 : 4 < n
  · have hy : l[4]? = some l[4] := List.getElem?_eq_getElem (by omega)
    have hz : l[1]? = some l[1] := List.getElem?_eq_getElem (by omega)
    generalize l[4] = y at hy
    generalize l[1] = z at hz
    have HN := Hid.mk' (show wr3 l 1 = decide (y.toNat ≠ 255 - z.toNat) by unfold wr3; rw [show 3 + 1 = 4 from rfl, hy, hz, hn]; simp [h3])
    have hy2 := y.toNat_lt
    have hz2 := z.toNat_lt
    obtain ⟨b0, p0, q0, c0, _⟩ := hs.idx (c := c) (k := 4) Try.underlying22 size5 ((bv_len _).trans hn) (bv_at hy)
    obtain ⟨b1, p1, q1, c1, _⟩ := hs.idx (c := c) (k := 1) Try.underlying22 size5 ((bv_len _).trans hn) (bv_at hz)
    generalize y.toNat = y at *
    generalize z.toNat = z at *
    have q0 : ∀ W, (Instr.indexAt 22 (.slice ao n c) (.int .i64 4)).run Try.prog W = .ok (.pointer (some ⟨b0, p0, none⟩)) W := q0
    have q1 : ∀ W, (Instr.indexAt 22 (.slice ao n c) (.int .i64 1)).run Try.prog W = .ok (.pointer (some ⟨b1, p1, none⟩)) W := q1
    have h3' : (4 : Int) < (n : Int) := by omega
    have e6 : IntKind.i64.wrap 4 = 4 := by decide
    have e7 : decide ((4 : Int) < (n : Int)) = true := decide_eq_true h3'
    have e8 : decide (IntKind.i64.wrap 4 < (n : Int)) = true := by rw [e6]; exact e7
    have hz3 : (z : Int) ≤ 255 := by omega
    have e5 : IntKind.u8.wrap (255 - (z : Int)) = 255 - (z : Int) := by rw [IntKind.wrap_u8]; omega
    go_enter Try.func27, Try.ntmps27
    go_wp2_with fail
    go_region_held3 (fun w' => w'.cell? ⟨bx, 0, none⟩ = some (.slice ao n c) ∧ w'.cell? ⟨bi, 0, none⟩ = some (.int .i64 1) ∧ w'.cell? ⟨b0, p0, none⟩ = some (.int .u8 y) ∧ w'.cell? ⟨b1, p1, none⟩ = some (.int .u8 z)) (go_keep) (fail)
    all_goals go_wp2
    all_goals go_ret
    all_goals (refine ⟨ret_bool ?_, hb⟩; rw [HN.out, Bool.eq_iff_iff]; simp; (try rw [e5]); omega)
  · have HN := Hid.mk' (show wr3 l 1 = false by unfold wr3; rw [hn]; simp [h3])
    have h3' : ¬ (4 : Int) < (n : Int) := by omega
    have e6 : IntKind.i64.wrap 4 = 4 := by decide
    have e7 : decide ((4 : Int) < (n : Int)) = false := decide_eq_false h3'
    have e8 : decide (IntKind.i64.wrap 4 < (n : Int)) = false := by rw [e6]; exact e7
    go_enter Try.func27, Try.ntmps27
    go_wp2_with fail
    refine wp_region_held_drew (S := fun w' => w'.cell? ⟨bx, 0, none⟩ = some (.slice ao n c) ∧ w'.cell? ⟨bi, 0, none⟩ = some (.int .i64 1)) (by kernel_rfl) ⟨cb, ci⟩ (fun hHeld => ?_)
    refine wpAnyH_take (i := 0) (v := .slice ao n c) rfl (by kernel_rfl) (by kernel_rfl) (by kernel_rfl) (fun _ _ _ h => h) (Or.inl ⟨by rfl, ?_⟩) (by assumption) ?_
    · intro w hSw; obtain ⟨g1, g2⟩ := hSw; go_simp
    simp only [List.getElem_toArray, List.getElem_cons_succ, List.getElem_cons_zero, Act.put, List.setIfInBounds_toArray, List.set_cons_zero, List.set_cons_succ]
    refine wpAnyH_take (i := 1) (v := .int .i64 n) rfl (by kernel_rfl) (by kernel_rfl) (by kernel_rfl) (fun _ _ _ h => h) (Or.inl ⟨by rfl, ?_⟩) (by assumption) ?_
    · intro w hSw; obtain ⟨g1, g2⟩ := hSw; go_simp
    simp only [List.getElem_toArray, List.getElem_cons_succ, List.getElem_cons_zero, Act.put, List.setIfInBounds_toArray, List.set_cons_zero, List.set_cons_succ]
    refine wpAnyH_take (i := 2) (v := .int .i64 1) rfl (by kernel_rfl) (by kernel_rfl) (by kernel_rfl) (fun _ _ _ h => h) (Or.inl ⟨by rfl, ?_⟩) (by assumption) ?_
    · intro w hSw; obtain ⟨g1, g2⟩ := hSw; go_simp
    simp only [List.getElem_toArray, List.getElem_cons_succ, List.getElem_cons_zero, Act.put, List.setIfInBounds_toArray, List.set_cons_zero, List.set_cons_succ]
    refine wpAnyH_take (i := 3) (v := .int .i64 4) rfl (by kernel_rfl) (by kernel_rfl) (by kernel_rfl) (fun _ _ _ h => h) (Or.inl ⟨by rfl, ?_⟩) (by assumption) ?_
    · intro w hSw; obtain ⟨g1, g2⟩ := hSw; go_simp
    simp only [List.getElem_toArray, List.getElem_cons_succ, List.getElem_cons_zero, Act.put, List.setIfInBounds_toArray, List.set_cons_zero, List.set_cons_succ]
    refine wpAnyH_take (i := 4) (v := .bool false) rfl (by kernel_rfl) (by kernel_rfl) (by kernel_rfl) (fun _ _ _ h => h) (Or.inl ⟨by rfl, ?_⟩) (by assumption) ?_
    · intro w hSw; obtain ⟨g1, g2⟩ := hSw; go_simp
    simp only [List.getElem_toArray, List.getElem_cons_succ, List.getElem_cons_zero, Act.put, List.setIfInBounds_toArray, List.set_cons_zero, List.set_cons_succ]
    refine wpAnyH_take (i := 5) (v := .bool false) rfl (by kernel_rfl) (by kernel_rfl) (by kernel_rfl) (fun _ _ _ h => h) (Or.inl ⟨by rfl, ?_⟩) (by assumption) ?_
    · intro w hSw; obtain ⟨g1, g2⟩ := hSw; go_simp
    simp only [List.getElem_toArray, List.getElem_cons_succ, List.getElem_cons_zero, Act.put, List.setIfInBounds_toArray, List.set_cons_zero, List.set_cons_succ]
    refine wpAnyH_take (i := 6) (v := undef) rfl (by kernel_rfl) (by kernel_rfl) (by kernel_rfl) (fun _ _ _ h => h) (Or.inr ⟨by rfl, rfl⟩) (by assumption) ?_
    simp only [List.getElem_toArray, List.getElem_cons_succ, List.getElem_cons_zero, Act.put, List.setIfInBounds_toArray, List.set_cons_zero, List.set_cons_succ]
    refine wpAnyH_take (i := 7) (v := undef) rfl (by kernel_rfl) (by kernel_rfl) (by kernel_rfl) (fun _ _ _ h => h) (Or.inr ⟨by rfl, rfl⟩) (by assumption) ?_
    simp only [List.getElem_toArray, List.getElem_cons_succ, List.getElem_cons_zero, Act.put, List.setIfInBounds_toArray, List.set_cons_zero, List.set_cons_succ]
    refine wpAnyH_take (i := 8) (v := undef) rfl (by kernel_rfl) (by kernel_rfl) (by kernel_rfl) (fun _ _ _ h => h) (Or.inr ⟨by rfl, rfl⟩) (by assumption) ?_
    simp only [List.getElem_toArray, List.getElem_cons_succ, List.getElem_cons_zero, Act.put, List.setIfInBounds_toArray, List.set_cons_zero, List.set_cons_succ]
    refine wpAnyH_take (i := 9) (v := undef) rfl (by kernel_rfl) (by kernel_rfl) (by kernel_rfl) (fun _ _ _ h => h) (Or.inr ⟨by rfl, rfl⟩) (by assumption) ?_
    simp only [List.getElem_toArray, List.getElem_cons_succ, List.getElem_cons_zero, Act.put, List.setIfInBounds_toArray, List.set_cons_zero, List.set_cons_succ]
    refine wpAnyH_take (i := 10) (v := undef) rfl (by kernel_rfl) (by kernel_rfl) (by kernel_rfl) (fun _ _ _ h => h) (Or.inr ⟨by rfl, rfl⟩) (by assumption) ?_
    simp only [List.getElem_toArray, List.getElem_cons_succ, List.getElem_cons_zero, Act.put, List.setIfInBounds_toArray, List.set_cons_zero, List.set_cons_succ]
    refine wpAnyH_take (i := 11) (v := undef) rfl (by kernel_rfl) (by kernel_rfl) (by kernel_rfl) (fun _ _ _ h => h) (Or.inr ⟨by rfl, rfl⟩) (by assumption) ?_
    simp only [List.getElem_toArray, List.getElem_cons_succ, List.getElem_cons_zero, Act.put, List.setIfInBounds_toArray, List.set_cons_zero, List.set_cons_succ]
    refine wpAnyH_take (i := 12) (v := undef) rfl (by kernel_rfl) (by kernel_rfl) (by kernel_rfl) (fun _ _ _ h => h) (Or.inr ⟨by rfl, rfl⟩) (by assumption) ?_
    simp only [List.getElem_toArray, List.getElem_cons_succ, List.getElem_cons_zero, Act.put, List.setIfInBounds_toArray, List.set_cons_zero, List.set_cons_succ]
    refine wpAnyH_take (i := 13) (v := undef) rfl (by kernel_rfl) (by kernel_rfl) (by kernel_rfl) (fun _ _ _ h => h) (Or.inr ⟨by rfl, rfl⟩) (by assumption) ?_
    simp only [List.getElem_toArray, List.getElem_cons_succ, List.getElem_cons_zero, Act.put, List.setIfInBounds_toArray, List.set_cons_zero, List.set_cons_succ]
    refine wpAnyH_take (i := 14) (v := undef) rfl (by kernel_rfl) (by kernel_rfl) (by kernel_rfl) (fun _ _ _ h => h) (Or.inr ⟨by rfl, rfl⟩) (by assumption) ?_
    simp only [List.getElem_toArray, List.getElem_cons_succ, List.getElem_cons_zero, Act.put, List.setIfInBounds_toArray, List.set_cons_zero, List.set_cons_succ]
    refine wpAnyH_take (i := 15) (v := undef) rfl (by kernel_rfl) (by kernel_rfl) (by kernel_rfl) (fun _ _ _ h => h) (Or.inr ⟨by rfl, rfl⟩) (by assumption) ?_
    simp only [List.getElem_toArray, List.getElem_cons_succ, List.getElem_cons_zero, Act.put, List.setIfInBounds_toArray, List.set_cons_zero, List.set_cons_succ]
    refine wpAnyH_take (i := 16) (v := undef) rfl (by kernel_rfl) (by kernel_rfl) (by kernel_rfl) (fun _ _ _ h => h) (Or.inr ⟨by rfl, rfl⟩) (by assumption) ?_
    simp only [List.getElem_toArray, List.getElem_cons_succ, List.getElem_cons_zero, Act.put, List.setIfInBounds_toArray, List.set_cons_zero, List.set_cons_succ]
    refine wpAnyH_take (i := 17) (v := .bool false) rfl (by kernel_rfl) (by kernel_rfl) (by kernel_rfl) (fun _ _ _ h => h) (Or.inl ⟨by rfl, ?_⟩) (by assumption) ?_
    · intro w hSw; obtain ⟨g1, g2⟩ := hSw; go_simp
    simp only [List.getElem_toArray, List.getElem_cons_succ, List.getElem_cons_zero, Act.put, List.setIfInBounds_toArray, List.set_cons_zero, List.set_cons_succ]
    refine wpAnyH_take (i := 18) (v := .bool false) rfl (by kernel_rfl) (by kernel_rfl) (by kernel_rfl) (fun _ _ _ h => h) (Or.inl ⟨by rfl, ?_⟩) (by assumption) ?_
    · intro w hSw; obtain ⟨g1, g2⟩ := hSw; go_simp
    simp only [List.getElem_toArray, List.getElem_cons_succ, List.getElem_cons_zero, Act.put, List.setIfInBounds_toArray, List.set_cons_zero, List.set_cons_succ]
    refine wpAnyH_done (by kernel_rfl) ?_ _
    all_goals go_wp2
    all_goals go_ret
    all_goals exact ⟨ret_bool HN.out.symm, hb⟩
set_option maxHeartbeats 1000000 in
theorem wr3_2 (bx bi n c : Nat) (ao : Option Addr) (l : List UInt8) (w : World) (cb : w.cell? ⟨bx, 0, none⟩ = some (.slice ao n c)) (ci : w.cell? ⟨bi, 0, none⟩ = some (.int .i64 2)) (hs : Lies w ao (bv l)) (hn : l.length = n) (hl : n ≤ 9223372036854775806) :
    Calls Try.prog 27 #[.pointer (some ⟨bx, 0, none⟩), .pointer (some ⟨bi, 0, none⟩)] w fun e w' => e = .returned (.bool (wr3 l 2)) ∧ Below w.heap.size w w' := by
  have hb := (Below.refl w.heap.size w).drew
  by_cases h3 : 5 < n
  · have hy : l[5]? = some l[5] := List.getElem?_eq_getElem (by omega)
    have hz : l[2]? = some l[2] := List.getElem?_eq_getElem (by omega)
    generalize l[5] = y at hy
    generalize l[2] = z at hz
    have HN := Hid.mk' (show wr3 l 2 = decide (y.toNat ≠ 255 - z.toNat) by unfold wr3; rw [show 3 + 2 = 5 from rfl, hy, hz, hn]; simp [h3])
    have hy2 := y.toNat_lt
    have hz2 := z.toNat_lt
    obtain ⟨b0, p0, q0, c0, _⟩ := hs.idx (c := c) (k := 5) Try.underlying22 size5 ((bv_len _).trans hn) (bv_at hy)
    obtain ⟨b1, p1, q1, c1, _⟩ := hs.idx (c := c) (k := 2) Try.underlying22 size5 ((bv_len _).trans hn) (bv_at hz)
    generalize y.toNat = y at *
    generalize z.toNat = z at *
    have q0 : ∀ W, (Instr.indexAt 22 (.slice ao n c) (.int .i64 5)).run Try.prog W = .ok (.pointer (some ⟨b0, p0, none⟩)) W := q0
    have q1 : ∀ W, (Instr.indexAt 22 (.slice ao n c) (.int .i64 2)).run Try.prog W = .ok (.pointer (some ⟨b1, p1, none⟩)) W := q1
    have h3' : (5 : Int) < (n : Int) := by omega
    have e6 : IntKind.i64.wrap 5 = 5 := by decide
    have e7 : decide ((5 : Int) < (n : Int)) = true := decide_eq_true h3'
    have e8 : decide (IntKind.i64.wrap 5 < (n : Int)) = true := by rw [e6]; exact e7
    have hz3 : (z : Int) ≤ 255 := by omega
    have e5 : IntKind.u8.wrap (255 - (z : Int)) = 255 - (z : Int) := by rw [IntKind.wrap_u8]; omega
    go_enter Try.func27, Try.ntmps27
    go_wp2_with fail
    go_region_held3 (fun w' => w'.cell? ⟨bx, 0, none⟩ = some (.slice ao n c) ∧ w'.cell? ⟨bi, 0, none⟩ = some (.int .i64 2) ∧ w'.cell? ⟨b0, p0, none⟩ = some (.int .u8 y) ∧ w'.cell? ⟨b1, p1, none⟩ = some (.int .u8 z)) (go_keep) (fail)
    all_goals go_wp2
    all_goals go_ret
    all_goals (refine ⟨ret_bool ?_, hb⟩; rw [HN.out, Bool.eq_iff_iff]; simp; (try rw [e5]); omega)
  · have HN := Hid.mk' (show wr3 l 2 = false by unfold wr3; rw [hn]; simp [h3])
    have h3' : ¬ (5 : Int) < (n : Int) := by omega
    have e6 : IntKind.i64.wrap 5 = 5 := by decide
    have e7 : decide ((5 : Int) < (n : Int)) = false := decide_eq_false h3'
    have e8 : decide (IntKind.i64.wrap 5 < (n : Int)) = false := by rw [e6]; exact e7
    go_enter Try.func27, Try.ntmps27
    go_wp2_with fail
    refine wp_region_held_drew (S := fun w' => w'.cell? ⟨bx, 0, none⟩ = some (.slice ao n c) ∧ w'.cell? ⟨bi, 0, none⟩ = some (.int .i64 2)) (by kernel_rfl) ⟨cb, ci⟩ (fun hHeld => ?_)
    refine wpAnyH_take (i := 0) (v := .slice ao n c) rfl (by kernel_rfl) (by kernel_rfl) (by kernel_rfl) (fun _ _ _ h => h) (Or.inl ⟨by rfl, ?_⟩) (by assumption) ?_
    · intro w hSw; obtain ⟨g1, g2⟩ := hSw; go_simp
    simp only [List.getElem_toArray, List.getElem_cons_succ, List.getElem_cons_zero, Act.put, List.setIfInBounds_toArray, List.set_cons_zero, List.set_cons_succ]
    refine wpAnyH_take (i := 1) (v := .int .i64 n) rfl (by kernel_rfl) (by kernel_rfl) (by kernel_rfl) (fun _ _ _ h => h) (Or.inl ⟨by rfl, ?_⟩) (by assumption) ?_
    · intro w hSw; obtain ⟨g1, g2⟩ := hSw; go_simp
    simp only [List.getElem_toArray, List.getElem_cons_succ, List.getElem_cons_zero, Act.put, List.setIfInBounds_toArray, List.set_cons_zero, List.set_cons_succ]
    refine wpAnyH_take (i := 2) (v := .int .i64 2) rfl (by kernel_rfl) (by kernel_rfl) (by kernel_rfl) (fun _ _ _ h => h) (Or.inl ⟨by rfl, ?_⟩) (by assumption) ?_
    · intro w hSw; obtain ⟨g1, g2⟩ := hSw; go_simp
    simp only [List.getElem_toArray, List.getElem_cons_succ, List.getElem_cons_zero, Act.put, List.setIfInBounds_toArray, List.set_cons_zero, List.set_cons_succ]
    refine wpAnyH_take (i := 3) (v := .int .i64 5) rfl (by kernel_rfl) (by kernel_rfl) (by kernel_rfl) (fun _ _ _ h => h) (Or.inl ⟨by rfl, ?_⟩) (by assumption) ?_
    · intro w hSw; obtain ⟨g1, g2⟩ := hSw; go_simp
    simp only [List.getElem_toArray, List.getElem_cons_succ, List.getElem_cons_zero, Act.put, List.setIfInBounds_toArray, List.set_cons_zero, List.set_cons_succ]
    refine wpAnyH_take (i := 4) (v := .bool false) rfl (by kernel_rfl) (by kernel_rfl) (by kernel_rfl) (fun _ _ _ h => h) (Or.inl ⟨by rfl, ?_⟩) (by assumption) ?_
    · intro w hSw; obtain ⟨g1, g2⟩ := hSw; go_simp
    simp only [List.getElem_toArray, List.getElem_cons_succ, List.getElem_cons_zero, Act.put, List.setIfInBounds_toArray, List.set_cons_zero, List.set_cons_succ]
    refine wpAnyH_take (i := 5) (v := .bool false) rfl (by kernel_rfl) (by kernel_rfl) (by kernel_rfl) (fun _ _ _ h => h) (Or.inl ⟨by rfl, ?_⟩) (by assumption) ?_
    · intro w hSw; obtain ⟨g1, g2⟩ := hSw; go_simp
    simp only [List.getElem_toArray, List.getElem_cons_succ, List.getElem_cons_zero, Act.put, List.setIfInBounds_toArray, List.set_cons_zero, List.set_cons_succ]
    refine wpAnyH_take (i := 6) (v := undef) rfl (by kernel_rfl) (by kernel_rfl) (by kernel_rfl) (fun _ _ _ h => h) (Or.inr ⟨by rfl, rfl⟩) (by assumption) ?_
    simp only [List.getElem_toArray, List.getElem_cons_succ, List.getElem_cons_zero, Act.put, List.setIfInBounds_toArray, List.set_cons_zero, List.set_cons_succ]
    refine wpAnyH_take (i := 7) (v := undef) rfl (by kernel_rfl) (by kernel_rfl) (by kernel_rfl) (fun _ _ _ h => h) (Or.inr ⟨by rfl, rfl⟩) (by assumption) ?_
    simp only [List.getElem_toArray, List.getElem_cons_succ, List.getElem_cons_zero, Act.put, List.setIfInBounds_toArray, List.set_cons_zero, List.set_cons_succ]
    refine wpAnyH_take (i := 8) (v := undef) rfl (by kernel_rfl) (by kernel_rfl) (by kernel_rfl) (fun _ _ _ h => h) (Or.inr ⟨by rfl, rfl⟩) (by assumption) ?_
    simp only [List.getElem_toArray, List.getElem_cons_succ, List.getElem_cons_zero, Act.put, List.setIfInBounds_toArray, List.set_cons_zero, List.set_cons_succ]
    refine wpAnyH_take (i := 9) (v := undef) rfl (by kernel_rfl) (by kernel_rfl) (by kernel_rfl) (fun _ _ _ h => h) (Or.inr ⟨by rfl, rfl⟩) (by assumption) ?_
    simp only [List.getElem_toArray, List.getElem_cons_succ, List.getElem_cons_zero, Act.put, List.setIfInBounds_toArray, List.set_cons_zero, List.set_cons_succ]
    refine wpAnyH_take (i := 10) (v := undef) rfl (by kernel_rfl) (by kernel_rfl) (by kernel_rfl) (fun _ _ _ h => h) (Or.inr ⟨by rfl, rfl⟩) (by assumption) ?_
    simp only [List.getElem_toArray, List.getElem_cons_succ, List.getElem_cons_zero, Act.put, List.setIfInBounds_toArray, List.set_cons_zero, List.set_cons_succ]
    refine wpAnyH_take (i := 11) (v := undef) rfl (by kernel_rfl) (by kernel_rfl) (by kernel_rfl) (fun _ _ _ h => h) (Or.inr ⟨by rfl, rfl⟩) (by assumption) ?_
    simp only [List.getElem_toArray, List.getElem_cons_succ, List.getElem_cons_zero, Act.put, List.setIfInBounds_toArray, List.set_cons_zero, List.set_cons_succ]
    refine wpAnyH_take (i := 12) (v := undef) rfl (by kernel_rfl) (by kernel_rfl) (by kernel_rfl) (fun _ _ _ h => h) (Or.inr ⟨by rfl, rfl⟩) (by assumption) ?_
    simp only [List.getElem_toArray, List.getElem_cons_succ, List.getElem_cons_zero, Act.put, List.setIfInBounds_toArray, List.set_cons_zero, List.set_cons_succ]
    refine wpAnyH_take (i := 13) (v := undef) rfl (by kernel_rfl) (by kernel_rfl) (by kernel_rfl) (fun _ _ _ h => h) (Or.inr ⟨by rfl, rfl⟩) (by assumption) ?_
    simp only [List.getElem_toArray, List.getElem_cons_succ, List.getElem_cons_zero, Act.put, List.setIfInBounds_toArray, List.set_cons_zero, List.set_cons_succ]
    refine wpAnyH_take (i := 14) (v := undef) rfl (by kernel_rfl) (by kernel_rfl) (by kernel_rfl) (fun _ _ _ h => h) (Or.inr ⟨by rfl, rfl⟩) (by assumption) ?_
    simp only [List.getElem_toArray, List.getElem_cons_succ, List.getElem_cons_zero, Act.put, List.setIfInBounds_toArray, List.set_cons_zero, List.set_cons_succ]
    refine wpAnyH_take (i := 15) (v := undef) rfl (by kernel_rfl) (by kernel_rfl) (by kernel_rfl) (fun _ _ _ h => h) (Or.inr ⟨by rfl, rfl⟩) (by assumption) ?_
    simp only [List.getElem_toArray, List.getElem_cons_succ, List.getElem_cons_zero, Act.put, List.setIfInBounds_toArray, List.set_cons_zero, List.set_cons_succ]
    refine wpAnyH_take (i := 16) (v := undef) rfl (by kernel_rfl) (by kernel_rfl) (by kernel_rfl) (fun _ _ _ h => h) (Or.inr ⟨by rfl, rfl⟩) (by assumption) ?_
    simp only [List.getElem_toArray, List.getElem_cons_succ, List.getElem_cons_zero, Act.put, List.setIfInBounds_toArray, List.set_cons_zero, List.set_cons_succ]
    refine wpAnyH_take (i := 17) (v := .bool false) rfl (by kernel_rfl) (by kernel_rfl) (by kernel_rfl) (fun _ _ _ h => h) (Or.inl ⟨by rfl, ?_⟩) (by assumption) ?_
    · intro w hSw; obtain ⟨g1, g2⟩ := hSw; go_simp
    simp only [List.getElem_toArray, List.getElem_cons_succ, List.getElem_cons_zero, Act.put, List.setIfInBounds_toArray, List.set_cons_zero, List.set_cons_succ]
    refine wpAnyH_take (i := 18) (v := .bool false) rfl (by kernel_rfl) (by kernel_rfl) (by kernel_rfl) (fun _ _ _ h => h) (Or.inl ⟨by rfl, ?_⟩) (by assumption) ?_
    · intro w hSw; obtain ⟨g1, g2⟩ := hSw; go_simp
    simp only [List.getElem_toArray, List.getElem_cons_succ, List.getElem_cons_zero, Act.put, List.setIfInBounds_toArray, List.set_cons_zero, List.set_cons_succ]
    refine wpAnyH_done (by kernel_rfl) ?_ _
    all_goals go_wp2
    all_goals go_ret
    all_goals exact ⟨ret_bool HN.out.symm, hb⟩
end Go.Proofs.Fra
