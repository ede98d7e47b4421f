/- frame: Clone of bytes; the list of what may be wrong. -/
import Derived.Test.YtnjakbkecimjcaaFraWr2
import Derived.LoopN
namespace Go.Proofs.Fra
open Go.RowKit Go.Cic Go.ChangeMaps
set_option linter.unusedVariables false
set_option maxRecDepth 100000
theorem info23 : (Try.prog.info? 23).map (fun i => (i.zero, i.size, i.bytes)) = some (some .nilFunc, 1, 8) := by kernel_rfl
theorem Owns.setCell {B b o T : Nat} {cs : Array Value} {l : List Asrt} {w : World} (h : Owns B (Asrt.cells b cs T :: l) w) (hB : B ≤ w.heap.size) (v : Value) : Owns B (Asrt.cells b (cs.setIfInBounds o v) T :: l) (w.setCell ⟨b, o, none⟩ v) ∧ Below B w (w.setCell ⟨b, o, none⟩ v) :=
  h.step hB (step_cells (setCell_of h.cellsE.1 v) (keeps_setCell w b o v))
theorem clone_own {B : Nat} {l : List Asrt} {w : World} (hO : Owns B l w) (hB : B ≤ w.heap.size) (ao : Option Addr) (n c : Nat) (xs : List UInt8) (hs : Lies w ao (bv xs)) (hn : xs.length = n) (hl : n ≤ 4294967296) :
    Calls Try.prog 23 #[.slice ao n c] w fun e w' => ∃ ao' c', e = .returned (.slice ao' n c') ∧ Owns B (Asrt.row 5 (.slice ao' n c') (bv xs) :: l) w' ∧ Below B w w' := by
  have heq : ∀ (w : World) (a : Option Addr) (n c : Nat), (binOp .eql 22 (.slice a n c) (.slice none 0 0)).run Try.prog w = .ok (.bool a.isNone) w := fun w a n c => Lib.run_eql_slice_nil w 22 5 a n c 0 0 Try.underlying22
  cases ao with
  | none =>
    have hx : xs = [] := by
      cases xs with
      | nil => rfl
      | cons y ys => obtain ⟨_, _, h1, _⟩ := hs 0 _ rfl; cases h1
    subst hx
    subst hn
    go_enter Try.func23, Try.ntmps23
    go_wp2
    go_ret
    exact ⟨none, 0, rfl, hO.rowNil, Below.refl _ _⟩
  | some a =>
    go_enter Try.func23, Try.ntmps23
    have h2 := (hO.alloc_cells hB #[] 5).rowOfCells (xs := []) rfl (Nat.zero_le _)
    have hb2 := (Below.refl B w).alloc hB (.cells #[] 5)
    have hs2 : Lies (w.alloc (.cells #[] 5)) (some a) (bv xs) := hs.below ((Below.refl _ _).alloc (Nat.le_refl _) _)
    have hz2 := Nat.le_trans hB hb2.size
    have k1 : ([] : List Value).length + n ≤ maxLen := by simp [maxLen]; omega
    have k2 : (([] : List Value).length + n) * 1 ≤ 140737488355328 := by simp; omega
    have k3 : ([] : List Value).length + n = n := Nat.zero_add _
    have k4 := (bv_len xs).trans hn
    go_wp2_with (refine wpList_appendRow rfl _ _ 22 rfl Try.underlying22 info5 rfl rfl rfl h2 hz2 hs2 k4 (bv_one _) k1 k2 k3 ?_; intro ao1 c1 w1 hO1 hb1)
    go_ret
    exact ⟨_, _, rfl, hO1, hb2.trans hb1⟩
/-- The values of the closures. -/
abbrev fv (f : FuncId) (caps : Array Value) : Value := .func (.func f) #[] caps
abbrev ptr (b : Nat) : Value := .pointer (some ⟨b, 0, none⟩)
theorem round_facts (x : Int) {B bx : Nat} {l : List Asrt} {w : World} {v : Value} {xs : List Value} (h : Owns B (Asrt.row 23 v xs :: l) w) (hB : B ≤ w.heap.size) :
    Owns B (Asrt.row 23 v xs :: Asrt.cells w.heap.size #[.int .i64 x] 3 :: l) ((w.alloc (.cells #[.int .i64 x] 3)).alloc (.cells #[fv 27 #[ptr bx, ptr w.heap.size]] 23)) ∧
    B ≤ ((w.alloc (.cells #[.int .i64 x] 3)).alloc (.cells #[fv 27 #[ptr bx, ptr w.heap.size]] 23)).heap.size ∧
    Lies ((w.alloc (.cells #[.int .i64 x] 3)).alloc (.cells #[fv 27 #[ptr bx, ptr w.heap.size]] 23)) (some ⟨w.heap.size + 1, 0, none⟩) [fv 27 #[ptr bx, ptr w.heap.size]] ∧
    Below B w ((w.alloc (.cells #[.int .i64 x] 3)).alloc (.cells #[fv 27 #[ptr bx, ptr w.heap.size]] 23)) := by
  have h1 := h.alloc_cells hB #[.int .i64 x] 3
  have b1 : Below B w (w.alloc (.cells #[.int .i64 x] 3)) := (Below.refl B w).alloc hB _
  have z1 := Nat.le_trans hB b1.size
  have h3 := h1.alloc_cells z1 #[fv 27 #[ptr bx, ptr w.heap.size]] 23
  have b3 : Below B _ ((w.alloc (.cells #[.int .i64 x] 3)).alloc (.cells #[fv 27 #[ptr bx, ptr w.heap.size]] 23)) := (Below.refl B _).alloc z1 _
  have hsz : (w.alloc (.cells #[.int .i64 x] 3)).heap.size = w.heap.size + 1 := by simp
  have hl := Owns.cellsLies (xs := [fv 27 #[ptr bx, ptr w.heap.size]]) h3
  rw [hsz] at hl
  exact ⟨(h3.tail).swap, Nat.le_trans z1 b3.size, hl, b1.trans b3⟩
set_option maxHeartbeats 1000000 in
theorem wrongs_own (ao : Option Addr) (n c : Nat) (w : World) :
    Calls Try.prog 21 #[.slice ao n c] w fun e w' => Below w.heap.size w w' ∧ ∃ ao' c' bx i0 i1 i2, e = .returned (.slice ao' 5 c') ∧
      Lies w' ao' [fv 25 #[ptr bx], fv 26 #[ptr bx], fv 27 #[ptr bx, ptr i0], fv 27 #[ptr bx, ptr i1], fv 27 #[ptr bx, ptr i2]] ∧
      w'.cell? ⟨bx, 0, none⟩ = some (.slice ao n c) ∧ w'.cell? ⟨i0, 0, none⟩ = some (.int .i64 0) ∧ w'.cell? ⟨i1, 0, none⟩ = some (.int .i64 1) ∧ w'.cell? ⟨i2, 0, none⟩ = some (.int .i64 2) := by
  have hmf : ∀ (fn : Fn) (first cap : Array Value) (w : World), (Instr.makeFunc fn first cap).run Try.prog w = .ok (.func fn first cap) w := fun _ _ _ _ => rfl
  have h0 := Owns.nil w.heap.size w
  have h1 := h0.alloc_cells (Nat.le_refl _) #[.slice ao n c] 22
  have b1 : Below w.heap.size w (w.alloc (.cells #[.slice ao n c] 22)) := (Below.refl _ w).alloc (Nat.le_refl _) _
  have h2 := h1.alloc_cells b1.size #[fv 25 #[ptr w.heap.size], fv 26 #[ptr w.heap.size]] 23
  have b2 := b1.alloc b1.size (.cells #[fv 25 #[ptr w.heap.size], fv 26 #[ptr w.heap.size]] 23)
  have h3 := h2.rowOfCells (xs := [fv 25 #[ptr w.heap.size], fv 26 #[ptr w.heap.size]]) (n := 2) rfl (by decide)
  have hsz : (w.alloc (.cells #[.slice ao n c] 22)).heap.size = w.heap.size + 1 := by simp
  rw [hsz] at h3
  have one1 : ∀ x y : Nat, ∀ u ∈ [fv 27 #[ptr x, ptr y]], u.oneCell' = true := by
    intro x y u hu
    simp at hu
    subst hu
    rfl
  have m2 : ∀ x y : Value, [x, y].length + 1 ≤ maxLen := fun _ _ => (show 2 + 1 ≤ maxLen by decide)
  have m3 : ∀ x y z : Value, [x, y, z].length + 1 ≤ maxLen := fun _ _ _ => (show 3 + 1 ≤ maxLen by decide)
  have m4 : ∀ x y z t : Value, [x, y, z, t].length + 1 ≤ maxLen := fun _ _ _ _ => (show 4 + 1 ≤ maxLen by decide)
  have n2 : ∀ x y : Value, ([x, y].length + 1) * 8 ≤ 140737488355328 := fun _ _ => (show (2 + 1) * 8 ≤ 140737488355328 by decide)
  have n3 : ∀ x y z : Value, ([x, y, z].length + 1) * 8 ≤ 140737488355328 := fun _ _ _ => (show (3 + 1) * 8 ≤ 140737488355328 by decide)
  have n4 : ∀ x y z t : Value, ([x, y, z, t].length + 1) * 8 ≤ 140737488355328 := fun _ _ _ _ => (show (4 + 1) * 8 ≤ 140737488355328 by decide)
  go_enter Try.func21, Try.ntmps21
  go_wp2_with fail
  generalize ((w.alloc (.cells #[.slice ao n c] 22)).alloc (.cells #[fv 25 #[ptr w.heap.size], fv 26 #[ptr w.heap.size]] 23)) = w2 at h3 b2
  have q2 := b2.size
  refine wp_loop_rounds 4 ?_
  rw [rounds_succ]
  obtain ⟨r1, r2, r3, r4⟩ := round_facts 0 (bx := w.heap.size) h3 q2
  go_wp2_with (refine wpList_appendRow rfl _ _ 53 rfl Try.underlying53 info23 rfl rfl rfl r1 r2 r3 rfl (one1 _ _) (m2 _ _) (n2 _ _) (N := 3) rfl ?_; intro ao1 c1 w3 h4 b4)
  have b5 := b2.trans (r4.trans b4)
  clear r1 r2 r3 r4
  rw [rounds_succ]
  obtain ⟨r1, r2, r3, r4⟩ := round_facts 1 (bx := w.heap.size) h4 b5.size
  go_wp2_with (refine wpList_appendRow rfl _ _ 53 rfl Try.underlying53 info23 rfl rfl rfl r1 r2 r3 rfl (one1 _ _) (m3 _ _ _) (n3 _ _ _) (N := 4) rfl ?_; intro ao2 c2 w5 h6 b6)
  have b7 := b5.trans (r4.trans b6)
  clear r1 r2 r3 r4
  rw [rounds_succ]
  obtain ⟨r1, r2, r3, r4⟩ := round_facts 2 (bx := w.heap.size) h6 b7.size
  go_wp2_with (refine wpList_appendRow rfl _ _ 53 rfl Try.underlying53 info23 rfl rfl rfl r1 r2 r3 rfl (one1 _ _) (m4 _ _ _ _) (n4 _ _ _ _) (N := 5) rfl ?_; intro ao3 c3 w7 h8 b8)
  have b9 := b7.trans (r4.trans b8)
  clear r1 r2 r3 r4
  rw [rounds_succ]
  go_wp2
  go_ret
  refine ⟨b9, _, _, w.heap.size, w2.heap.size, w3.heap.size, w5.heap.size, rfl, h8.rowLies.1, ?_, ?_, ?_, ?_⟩
  · rw [cell_of (h8.front 4 (Asrt.cells w.heap.size #[.slice ao n c] 22) rfl).cellsE.1]; rfl
  · rw [cell_of (h8.front 3 (Asrt.cells w2.heap.size #[.int .i64 0] 3) rfl).cellsE.1]; rfl
  · rw [cell_of (h8.front 2 (Asrt.cells w3.heap.size #[.int .i64 1] 3) rfl).cellsE.1]; rfl
  · rw [cell_of (h8.front 1 (Asrt.cells w5.heap.size #[.int .i64 2] 3) rfl).cellsE.1]; rfl
end Go.Proofs.Fra
