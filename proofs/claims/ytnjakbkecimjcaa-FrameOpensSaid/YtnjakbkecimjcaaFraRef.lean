/- frame: the document's sum, numbers, Seal. -/
import Derived.Test.YtnjakbkecimjcaaFraPlain
import Derived.Test.YtnjakbkecimjcaaCicSum
namespace Go.Proofs.Fra
open Go.RowKit Go.Cic Go.ChangeMaps
set_option linter.unusedVariables false
set_option maxRecDepth 100000
/-- A text of bytes. -/
abbrev tx (l : List UInt8) : ByteArray := ⟨l.toArray⟩
theorem tx_size (l : List UInt8) : (tx l).size = l.length := by simp [ByteArray.size]
theorem refsum_any (l : List UInt8) (w : World) (hl : l.length ≤ 4294967296) :
    Calls Try.prog 20 #[.string (tx l)] w fun e w' => e = .returned (.int .i64 (sumN l)) ∧ w = w' := by
  have hsz := tx_size l
  go_enter Try.func20, Try.ntmps20
  go_wp2
  go_loop [3, 4, 5] (fun a b i => ∃ k : Nat, k ≤ l.length ∧ i = .int .i64 k ∧ a = .int .i64 (sumP (l.take k)).1 ∧ b = .int .i64 (sumP (l.take k)).2) (fun _ _ i => l.length - (intOf i).toNat)
  case atStart => exact ⟨0, Nat.zero_le _, rfl, rfl, rfl⟩
  case round =>
    obtain ⟨k, hk, rfl, rfl, rfl⟩ := hrel
    obtain ⟨b1, b2⟩ := sumP_lt (l.take k)
    by_cases hlt : k < l.length
    · have hy : l[k]? = some l[k] := List.getElem?_eq_getElem (by omega)
      have hsn := Hid.mk' (sumP_snoc l k l[k] hy)
      have hy2 := l[k].toNat_lt
      generalize sumP (l.take k) = p at b1 b2 hsn
      have hi : (k : Int) < ((tx l).size : Int) := by omega
      go_wp2
      refine ⟨⟨k + 1, by omega, by go_num, ?_, ?_⟩, by simp [intOf]; omega⟩
      all_goals
        rw [show (tx l)[k] = l[k] from rfl, hsn.out]
        unfold sumS
        generalize l[k].toNat = x at hy2
        rw [show wrap64 (x : Int) = x from wrap_id (by omega) (by omega), show wrap64 ((p.1 : Int) + x) = ((p.1 + x : Nat) : Int) from wrap_id (by omega) (by omega)]
      · exact congrArg (fun x => Value.int .i64 x) (Int.ofNat_tmod _ _)
      · rw [show ((p.1 + x : Nat) : Int).tmod 65521 = (((p.1 + x) % 65521 : Nat) : Int) from Int.ofNat_tmod _ _, show wrap64 ((p.2 : Int) + (((p.1 + x) % 65521 : Nat) : Int)) = ((p.2 + (p.1 + x) % 65521 : Nat) : Int) from wrap_id (by omega) (by omega)]
        exact congrArg (fun x => Value.int .i64 x) (Int.ofNat_tmod _ _)
    · have hk3 : l.take k = l := List.take_of_length_le (by omega)
      rw [hk3]
      rw [hk3] at b1 b2
      have HN := Hid.mk' (show sumN l = (sumP l).2 * 65536 + (sumP l).1 from rfl)
      generalize sumP l = p at b1 b2 HN
      obtain ⟨p1, p2⟩ := p
      simp only at b1 b2
      go_wp2
      go_ret
      exact ⟨by rw [HN.out]; simp, rfl⟩
def beL (n : Nat) : Nat → List UInt8
  | 0 => []
  | k + 1 => beL (n / 256) k ++ [u8 (n % 256)]
theorem conv1 (W : World) (x : Int) : (convert 22 9 (.slice (some ⟨W.heap.size, 0, none⟩) 1 1)).run Try.prog (W.alloc (.cells #[.int .u8 x] 5)) = .ok (.string ⟨#[UInt8.ofNat x.toNat]⟩) (W.alloc (.cells #[.int .u8 x] 5)) := by
  rw [run_convert_bytes_string _ 22 9 5 _ 1 1 Try.underlying22 Try.underlying5 Try.underlying9]
  have hh : (W.alloc (.cells #[.int .u8 x] 5)).heap[W.heap.size]? = some (.cells #[.int .u8 x] 5) := (MapKept.heap_alloc W _).1
  have hload : (loadCells ⟨W.heap.size, 0, none⟩ 1).run Try.prog (W.alloc (.cells #[.int .u8 x] 5)) = .ok ([x].map (Value.int .u8)).toArray (W.alloc (.cells #[.int .u8 x] 5)) := by
    have := run_firstCells_some (P := Try.prog) (W.alloc (.cells #[.int .u8 x] 5)) 1 1 ⟨W.heap.size, 0, none⟩ 1 1 [.int .u8 x] (by simp) (fun j u hj => by
      rw [add_one', cell_of hh]
      simpa using hj)
    simpa [Builtin.firstCells] using this
  rw [run_bytesToString _ _ 1 1 [x] hload]
  rfl
theorem tx_app (a b : List UInt8) : tx a ++ tx b = tx (a ++ b) := by
  apply ByteArray.ext
  simp [ByteArray.data_append]
set_option maxHeartbeats 1000000 in
theorem num3_any (n : Nat) (w : World) (hn : n < 65537) : Calls Try.prog 19 #[.int .i64 n, .int .i64 3] w fun e w' => e = .returned (.string (tx (hdA n))) ∧ Below w.heap.size w w' := by
  have hni : (n : Int) < 65537 := by omega
  have hcv := conv1
  have b0 := Below.refl w.heap.size w
  go_enter Try.func19, Try.ntmps19
  go_wp2
  refine wp_loop_rounds 4 ?_
  rw [rounds_succ]
  go_wp2_with fail
  have b1 := b0.alloc b0.size (.cells #[.int .u8 ((n : Int) % 256)] 5)
  generalize w.alloc (.cells #[.int .u8 ((n : Int) % 256)] 5) = w1 at b1
  rw [rounds_succ]
  go_wp2_with fail
  have b2 := b1.alloc b1.size (.cells #[.int .u8 ((n : Int) / 256 % 256)] 5)
  generalize w1.alloc (.cells #[.int .u8 ((n : Int) / 256 % 256)] 5) = w2 at b2
  rw [rounds_succ]
  go_wp2_with fail
  have b3 := b2.alloc b2.size (.cells #[.int .u8 ((n : Int) / 256 / 256 % 256)] 5)
  generalize w2.alloc (.cells #[.int .u8 ((n : Int) / 256 / 256 % 256)] 5) = w3 at b3
  rw [rounds_succ]
  go_wp2_with fail
  go_ret
  refine ⟨congrArg (fun s => Ending.returned (Value.string s)) ?_, b3⟩
  show tx [u8 (n / 256 / 256 % 256)] ++ (tx [u8 (n / 256 % 256)] ++ (tx [u8 (n % 256)] ++ tx [])) = tx (hdA n)
  rw [tx_app, tx_app, tx_app, show n / 256 / 256 % 256 = n / 65536 by omega]
  rfl
set_option maxHeartbeats 1000000 in
theorem num4_any (n : Nat) (w : World) (hn : n < 4294967296) : Calls Try.prog 19 #[.int .i64 n, .int .i64 4] w fun e w' => e = .returned (.string (tx (tlL n))) ∧ Below w.heap.size w w' := by
  have hni : (n : Int) < 4294967296 := by omega
  have hcv := conv1
  have b0 := Below.refl w.heap.size w
  go_enter Try.func19, Try.ntmps19
  go_wp2
  refine wp_loop_rounds 5 ?_
  rw [rounds_succ]
  go_wp2_with fail
  have b1 := b0.alloc b0.size (.cells #[.int .u8 ((n : Int) % 256)] 5)
  generalize w.alloc (.cells #[.int .u8 ((n : Int) % 256)] 5) = w1 at b1
  rw [rounds_succ]
  go_wp2_with fail
  have b2 := b1.alloc b1.size (.cells #[.int .u8 ((n : Int) / 256 % 256)] 5)
  generalize w1.alloc (.cells #[.int .u8 ((n : Int) / 256 % 256)] 5) = w2 at b2
  rw [rounds_succ]
  go_wp2_with fail
  have b3 := b2.alloc b2.size (.cells #[.int .u8 ((n : Int) / 256 / 256 % 256)] 5)
  generalize w2.alloc (.cells #[.int .u8 ((n : Int) / 256 / 256 % 256)] 5) = w3 at b3
  rw [rounds_succ]
  go_wp2_with fail
  have b4 := b3.alloc b3.size (.cells #[.int .u8 ((n : Int) / 256 / 256 / 256 % 256)] 5)
  generalize w3.alloc (.cells #[.int .u8 ((n : Int) / 256 / 256 / 256 % 256)] 5) = w4 at b4
  rw [rounds_succ]
  go_wp2_with fail
  go_ret
  refine ⟨congrArg (fun s => Ending.returned (Value.string s)) ?_, b4⟩
  show tx [u8 (n / 256 / 256 / 256 % 256)] ++ (tx [u8 (n / 256 / 256 % 256)] ++ (tx [u8 (n / 256 % 256)] ++ (tx [u8 (n % 256)] ++ tx []))) = tx (tlL n)
  rw [tx_app, tx_app, tx_app, tx_app, show n / 256 / 256 / 256 % 256 = n / 16777216 by omega, show n / 256 / 256 % 256 = n / 65536 % 256 by omega]
  rfl
theorem refseal_long (l : List UInt8) (w : World) (hl : 65536 < l.length) (hl2 : l.length ≤ 4294967296) : Calls Try.prog 12 #[.string (tx l)] w fun e w' => e = .returned (.tuple #[.string ByteArray.empty, .bool false]) ∧ w = w' := by
  have hsz := tx_size l
  have h : (65536 : Int) < ((tx l).size : Int) := by omega
  go_enter Try.func12, Try.ntmps12
  go_wp2
  go_ret2
  exact ⟨rfl, rfl⟩
set_option maxHeartbeats 4000000 in
theorem refseal_any (l : List UInt8) (w : World) (hl : l.length ≤ 65536) : Calls Try.prog 12 #[.string (tx l)] w fun e w' => e = .returned (.tuple #[.string (tx (sealL l)), .bool true]) ∧ Below w.heap.size w w' := by
  have hsz := tx_size l
  have h : ((tx l).size : Int) ≤ 65536 := by omega
  have hN := num3_any l.length w (by omega)
  rw [← hsz] at hN
  go_enter Try.func12, Try.ntmps12
  go_wp2_with (go_at_call 19; refine hN.mono ?_; rintro e w1 ⟨rfl, b1⟩)
  obtain ⟨x0, x1, x2, hx0, hx1, hx2, hS⟩ : ∃ x0 x1 x2 : Nat, x0 < 256 ∧ x1 < 256 ∧ x2 < 256 ∧ hdA l.length = [u8 x0, u8 x1, u8 x2] ∧ hdB l.length = [u8 (255 - x0), u8 (255 - x1), u8 (255 - x2)] :=
    ⟨_, _, _, by omega, by omega, by omega, rfl, rfl⟩
  obtain ⟨hA, hB⟩ := hS
  have HB := Hid.mk' hB
  clear hB
  rw [hA]
  have i0 : ∀ W : World, (Instr.index 9 (.string (tx [u8 x0, u8 x1, u8 x2])) (.int .i64 0)).run Try.prog W = .ok (.int .u8 (x0 : Int)) W := fun W => by
    rw [run_index_string _ 9 _ .i64 0 Try.underlying9, dif_pos (show (0 : Int) ≤ 0 ∧ (0 : Int) < ((tx [u8 x0, u8 x1, u8 x2]).size : Int) by rw [show (tx [u8 x0, u8 x1, u8 x2]).size = 3 from rfl]; omega)]
    exact congrArg (fun n : Nat => Result.ok (Value.int .u8 (n : Int)) W) (u8_nat hx0)
  have i1 : ∀ W : World, (Instr.index 9 (.string (tx [u8 x0, u8 x1, u8 x2])) (.int .i64 1)).run Try.prog W = .ok (.int .u8 (x1 : Int)) W := fun W => by
    rw [run_index_string _ 9 _ .i64 1 Try.underlying9, dif_pos (show (0 : Int) ≤ 1 ∧ (1 : Int) < ((tx [u8 x0, u8 x1, u8 x2]).size : Int) by rw [show (tx [u8 x0, u8 x1, u8 x2]).size = 3 from rfl]; omega)]
    exact congrArg (fun n : Nat => Result.ok (Value.int .u8 (n : Int)) W) (u8_nat hx1)
  have i2 : ∀ W : World, (Instr.index 9 (.string (tx [u8 x0, u8 x1, u8 x2])) (.int .i64 2)).run Try.prog W = .ok (.int .u8 (x2 : Int)) W := fun W => by
    rw [run_index_string _ 9 _ .i64 2 Try.underlying9, dif_pos (show (0 : Int) ≤ 2 ∧ (2 : Int) < ((tx [u8 x0, u8 x1, u8 x2]).size : Int) by rw [show (tx [u8 x0, u8 x1, u8 x2]).size = 3 from rfl]; omega)]
    exact congrArg (fun n : Nat => Result.ok (Value.int .u8 (n : Int)) W) (u8_nat hx2)
  have s0 : IntKind.u8.wrap (255 - (x0 : Int)) = ((255 - x0 : Nat) : Int) := by rw [IntKind.wrap_u8]; omega
  have s1 : IntKind.u8.wrap (255 - (x1 : Int)) = ((255 - x1 : Nat) : Int) := by rw [IntKind.wrap_u8]; omega
  have s2 : IntKind.u8.wrap (255 - (x2 : Int)) = ((255 - x2 : Nat) : Int) := by rw [IntKind.wrap_u8]; omega
  generalize hSS : tx [u8 x0, u8 x1, u8 x2] = S at i0 i1 i2
  have hSz : S.size = 3 := by rw [← hSS]; rfl
  have hcv : (convert 22 9 (.slice (some ⟨w1.heap.size, 0, none⟩) 3 3)).run Try.prog (w1.alloc (.cells #[.int .u8 ((255 - x0 : Nat) : Int), .int .u8 ((255 - x1 : Nat) : Int), .int .u8 ((255 - x2 : Nat) : Int)] 5)).drew = .ok (.string (tx [u8 (255 - x0), u8 (255 - x1), u8 (255 - x2)])) (w1.alloc (.cells #[.int .u8 ((255 - x0 : Nat) : Int), .int .u8 ((255 - x1 : Nat) : Int), .int .u8 ((255 - x2 : Nat) : Int)] 5)).drew := by
    have hL := (lit_facts 5 [.int .u8 ((255 - x0 : Nat) : Int), .int .u8 ((255 - x1 : Nat) : Int), .int .u8 ((255 - x2 : Nat) : Int)] (Owns.nil w1.heap.size w1) (Nat.le_refl _)).2.2.1
    have e : ([.int .u8 ((255 - x0 : Nat) : Int), .int .u8 ((255 - x1 : Nat) : Int), .int .u8 ((255 - x2 : Nat) : Int)] : List Value) = bv [u8 (255 - x0), u8 (255 - x1), u8 (255 - x2)] := by
      simp only [bv, List.map_cons, List.map_nil]
      rw [u8_nat (n := 255 - x0) (by omega), u8_nat (n := 255 - x1) (by omega), u8_nat (n := 255 - x2) (by omega)]
    refine bytes_of_lies (l := [u8 (255 - x0), u8 (255 - x1), u8 (255 - x2)]) ?_ rfl 22 9 5 Try.underlying22 Try.underlying5 Try.underlying9
    intro j u hj
    exact hL j u (by rw [e]; exact hj)
  have bw := (b1.alloc b1.size (.cells #[.int .u8 ((255 - x0 : Nat) : Int), .int .u8 ((255 - x1 : Nat) : Int), .int .u8 ((255 - x2 : Nat) : Int)] 5)).drew
  generalize hTT : tx [u8 (255 - x0), u8 (255 - x1), u8 (255 - x2)] = T at hcv
  have hTz : T.size = 3 := by rw [← hTT]; rfl
  have hST : (S ++ T).size = 6 := by rw [ByteArray.size_append, hSz, hTz]
  have a1 : ∀ W : World, (binOp .add 9 (.string S) (.string T)).run Try.prog W = .ok (.string (S ++ T)) W := fun W => by
    simp [binOp, run_string_add_sum W S T (by omega)]
  have a2 : ∀ W : World, (binOp .add 9 (.string (S ++ T)) (.string (tx l))).run Try.prog W = .ok (.string (S ++ T ++ tx l)) W := fun W => by
    simp [binOp, run_string_add_sum W (S ++ T) (tx l) (by omega)]
  have hFP : S ++ T ++ tx l = tx (fpL l) := by
    rw [← hSS, ← hTT, tx_app, tx_app, fpL, hA, HB.out]
  have hfl : (fpL l).length = l.length + 6 := fpL_len l
  have hsl := sumN_lt (fpL l)
  have hR : ∀ W : World, Calls Try.prog 20 #[.string (S ++ T ++ tx l)] W fun e w' => e = .returned (.int .i64 (sumN (fpL l))) ∧ W = w' := fun W => by rw [hFP]; exact refsum_any _ W (by omega)
  have hN4 := fun W => num4_any (sumN (fpL l)) W hsl
  have a3 : ∀ W : World, (binOp .add 9 (.string (S ++ T ++ tx l)) (.string (tx (tlL (sumN (fpL l)))))).run Try.prog W = .ok (.string (tx (sealL l))) W := fun W => by
    have hz : (tx (tlL (sumN (fpL l)))).size = 4 := rfl
    rw [show tx (sealL l) = S ++ T ++ tx l ++ tx (tlL (sumN (fpL l))) by rw [hFP, tx_app]; rfl]
    simp [binOp, run_string_add_sum W (S ++ T ++ tx l) (tx (tlL (sumN (fpL l)))) (by rw [hFP, tx_size, hz, hfl]; omega)]
  have HFL := Hid.mk' hfl
  clear hfl
  refine wp_region_held_drew (S := fun _ => True) (by kernel_rfl) trivial (fun hHeld => ?_)
  refine wpAnyH_take (i := 0) (v := .string S) rfl (by kernel_rfl) (by kernel_rfl) (by kernel_rfl) (fun _ _ _ h => h) (Or.inl ⟨by rfl, ?_⟩) (by assumption) ?_
  · intro w hSw; go_simp
  simp only [List.getElem_toArray, List.getElem_cons_succ, List.getElem_cons_zero, Act.put, List.setIfInBounds_toArray, List.set_cons_zero, List.set_cons_succ]
  refine wpAnyH_take (i := 1) (v := .string S) rfl (by kernel_rfl) (by kernel_rfl) (by kernel_rfl) (fun _ _ _ h => h) (Or.inl ⟨by rfl, ?_⟩) (by assumption) ?_
  · intro w hSw; go_simp
  simp only [List.getElem_toArray, List.getElem_cons_succ, List.getElem_cons_zero, Act.put, List.setIfInBounds_toArray, List.set_cons_zero, List.set_cons_succ]
  refine wpAnyH_take (i := 4) (v := .string S) rfl (by kernel_rfl) (by kernel_rfl) (by kernel_rfl) (fun _ _ _ h => h) (Or.inl ⟨by rfl, ?_⟩) (by assumption) ?_
  · intro w hSw; go_simp
  simp only [List.getElem_toArray, List.getElem_cons_succ, List.getElem_cons_zero, Act.put, List.setIfInBounds_toArray, List.set_cons_zero, List.set_cons_succ]
  refine wpAnyH_take (i := 7) (v := .string S) rfl (by kernel_rfl) (by kernel_rfl) (by kernel_rfl) (fun _ _ _ h => h) (Or.inl ⟨by rfl, ?_⟩) (by assumption) ?_
  · intro w hSw; go_simp
  simp only [List.getElem_toArray, List.getElem_cons_succ, List.getElem_cons_zero, Act.put, List.setIfInBounds_toArray, List.set_cons_zero, List.set_cons_succ]
  refine wpAnyH_take (i := 13) (v := .string (tx l)) rfl (by kernel_rfl) (by kernel_rfl) (by kernel_rfl) (fun _ _ _ h => h) (Or.inl ⟨by rfl, ?_⟩) (by assumption) ?_
  · intro w hSw; go_simp
  simp only [List.getElem_toArray, List.getElem_cons_succ, List.getElem_cons_zero, Act.put, List.setIfInBounds_toArray, List.set_cons_zero, List.set_cons_succ]
  refine wpAnyH_take (i := 2) (v := .int .u8 (x0 : Int)) rfl (by kernel_rfl) (by kernel_rfl) (by kernel_rfl) (fun _ _ _ h => h) (Or.inl ⟨by rfl, ?_⟩) (by assumption) ?_
  · intro w hSw; go_simp
  simp only [List.getElem_toArray, List.getElem_cons_succ, List.getElem_cons_zero, Act.put, List.setIfInBounds_toArray, List.set_cons_zero, List.set_cons_succ]
  refine wpAnyH_take (i := 3) (v := .int .u8 ((255 - x0 : Nat) : Int)) rfl (by kernel_rfl) (by kernel_rfl) (by kernel_rfl) (fun _ _ _ h => h) (Or.inl ⟨by rfl, ?_⟩) (by assumption) ?_
  · intro w hSw; go_simp
  simp only [List.getElem_toArray, List.getElem_cons_succ, List.getElem_cons_zero, Act.put, List.setIfInBounds_toArray, List.set_cons_zero, List.set_cons_succ]
  refine wpAnyH_take (i := 5) (v := .int .u8 (x1 : Int)) rfl (by kernel_rfl) (by kernel_rfl) (by kernel_rfl) (fun _ _ _ h => h) (Or.inl ⟨by rfl, ?_⟩) (by assumption) ?_
  · intro w hSw; go_simp
  simp only [List.getElem_toArray, List.getElem_cons_succ, List.getElem_cons_zero, Act.put, List.setIfInBounds_toArray, List.set_cons_zero, List.set_cons_succ]
  refine wpAnyH_take (i := 6) (v := .int .u8 ((255 - x1 : Nat) : Int)) rfl (by kernel_rfl) (by kernel_rfl) (by kernel_rfl) (fun _ _ _ h => h) (Or.inl ⟨by rfl, ?_⟩) (by assumption) ?_
  · intro w hSw; go_simp
  simp only [List.getElem_toArray, List.getElem_cons_succ, List.getElem_cons_zero, Act.put, List.setIfInBounds_toArray, List.set_cons_zero, List.set_cons_succ]
  refine wpAnyH_take (i := 8) (v := .int .u8 (x2 : Int)) rfl (by kernel_rfl) (by kernel_rfl) (by kernel_rfl) (fun _ _ _ h => h) (Or.inl ⟨by rfl, ?_⟩) (by assumption) ?_
  · intro w hSw; go_simp
  simp only [List.getElem_toArray, List.getElem_cons_succ, List.getElem_cons_zero, Act.put, List.setIfInBounds_toArray, List.set_cons_zero, List.set_cons_succ]
  refine wpAnyH_take (i := 9) (v := .int .u8 ((255 - x2 : Nat) : Int)) rfl (by kernel_rfl) (by kernel_rfl) (by kernel_rfl) (fun _ _ _ h => h) (Or.inl ⟨by rfl, ?_⟩) (by assumption) ?_
  · intro w hSw; go_simp
  simp only [List.getElem_toArray, List.getElem_cons_succ, List.getElem_cons_zero, Act.put, List.setIfInBounds_toArray, List.set_cons_zero, List.set_cons_succ]
  refine wpAnyH_ready (rs := [10]) (by kernel_rfl) (by simp) ?_
  refine AllReadyH.cons rfl (fun K hK => ?_) AllReadyH.nil
  go_simp
  refine hK.out _ _ trivial (fun hHeld => ?_)
  clear hK K
  try simp only [List.getElem_toArray, List.getElem_cons_succ, List.getElem_cons_zero, Act.put, List.setIfInBounds_toArray, List.set_cons_zero, List.set_cons_succ]
  refine wpAnyH_ready (rs := [11]) (by kernel_rfl) (by simp) ?_
  refine AllReadyH.cons rfl (fun K hK => ?_) AllReadyH.nil
  go_simp
  refine hK.out _ _ trivial (fun hHeld => ?_)
  clear hK K
  try simp only [List.getElem_toArray, List.getElem_cons_succ, List.getElem_cons_zero, Act.put, List.setIfInBounds_toArray, List.set_cons_zero, List.set_cons_succ]
  refine wpAnyH_take (i := 12) (v := .string (S ++ T)) rfl (by kernel_rfl) (by kernel_rfl) (by kernel_rfl) (fun _ _ _ h => h) (Or.inl ⟨by rfl, ?_⟩) (by assumption) ?_
  · intro w hSw; go_simp
  try simp only [List.getElem_toArray, List.getElem_cons_succ, List.getElem_cons_zero, Act.put, List.setIfInBounds_toArray, List.set_cons_zero, List.set_cons_succ]
  refine wpAnyH_take (i := 14) (v := .string (S ++ T ++ tx l)) rfl (by kernel_rfl) (by kernel_rfl) (by kernel_rfl) (fun _ _ _ h => h) (Or.inl ⟨by rfl, ?_⟩) (by assumption) ?_
  · intro w hSw; go_simp; all_goals (first | omega | skip)
  try simp only [List.getElem_toArray, List.getElem_cons_succ, List.getElem_cons_zero, Act.put, List.setIfInBounds_toArray, List.set_cons_zero, List.set_cons_succ]
  refine wpAnyH_take (i := 15) (v := .string (S ++ T ++ tx l)) rfl (by kernel_rfl) (by kernel_rfl) (by kernel_rfl) (fun _ _ _ h => h) (Or.inl ⟨by rfl, ?_⟩) (by assumption) ?_
  · intro w hSw; go_simp
  try simp only [List.getElem_toArray, List.getElem_cons_succ, List.getElem_cons_zero, Act.put, List.setIfInBounds_toArray, List.set_cons_zero, List.set_cons_succ]
  refine wpAnyH_done (by kernel_rfl) ?_ _
  generalize (w1.alloc (.cells #[.int .u8 ((255 - x0 : Nat) : Int), .int .u8 ((255 - x1 : Nat) : Int), .int .u8 ((255 - x2 : Nat) : Int)] 5)).drew = w2 at bw
  clear hcv a1 a2 i0 i1 i2 s0 s1 s2
  have hFG : S ++ T ++ tx l ++ tx (tlL (sumN (fpL l))) = tx (sealL l) := by rw [hFP, tx_app]; rfl
  have hFz : (S ++ T ++ tx l).size = l.length + 6 := by rw [hFP, tx_size]; exact HFL.out
  have hGz : (tx (tlL (sumN (fpL l)))).size = 4 := rfl
  clear a3
  generalize S ++ T ++ tx l = F at hR hFP hFG hFz
  generalize sumN (fpL l) = v at hR hN4 hsl hFG hGz
  generalize tx (tlL v) = G at hN4 hFG hGz
  have HFG := Hid.mk' hFG
  clear hFG
  have hsum : (F.size : Int) + (G.size : Int) ≤ 9223372036854775807 := by omega
  clear hFP HFL hSS hTT hSz hTz hST hA HB hN hx0 hx1 hx2 b1
  have hR2 := hR w2
  have hN2 := hN4 w2
  clear hR hN4
  go_wp2_with fail
  refine hR2.mono ?_
  rintro e w3 ⟨rfl, rfl⟩
  go_wp2_with fail
  refine hN2.mono ?_
  rintro e w4 ⟨rfl, b4⟩
  go_wp2_with fail
  go_ret2
  exact ⟨by rw [HFG.out]; rfl, bw.trans (b4.mono bw.size)⟩
end Go.Proofs.Fra
