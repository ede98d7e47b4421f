/- FrameCuts: the chapter's example; the walk of the law. -/
import Derived.Test.YtnjakbkecimjcaaFraPlain
import Derived.Lib.SlBytesConst
namespace Go.Proofs.Fra
open Go.RowKit Go.Cic Go.ChangeMaps
set_option linter.unusedVariables false
set_option maxRecDepth 100000
theorem seal_nil : sealL [] = [0, 0, 0, 255, 255, 255, 6, 0, 2, 254] := by decide +kernel
theorem co5 : Try.prog.cellsOf 5 = 1 := by kernel_rfl
/-- Bytes that come in. -/
noncomputable def rdU8 : Rd Try.prog 5 UInt8 :=
  ⟨1, fun a => [.int .u8 a.toNat], fun _ => True, fun _ => rfl, co5, fun h => by
    obtain ⟨a, rfl, _, hw⟩ := DataW.trod_int Try.underlying5 h
    have hb : 0 ≤ a ∧ a ≤ 255 := by simpa [Lit.wf, IntKind.min, IntKind.max, IntKind.signed, IntKind.bits] using hw
    refine ⟨UInt8.ofNat a.toNat, ?_, trivial⟩
    rw [UInt8.toNat_ofNat', Nat.mod_eq_of_lt (by omega)]
    simp only [List.cons.injEq, Value.int.injEq, true_and, and_true]
    omega⟩
theorem lies_of {w : World} {a : Option Addr} {l : List UInt8} (h : SlAt rdU8 w a l) : Lies w a (bv l) := by
  intro j u hj
  rw [List.getElem?_map] at hj
  cases hl : l[j]? with
  | none => rw [hl] at hj; cases hj
  | some x =>
    rw [hl] at hj
    obtain ⟨b, o, h1, h2, h3⟩ := h.2 j x hl
    refine ⟨b, o, h1, h2, ?_⟩
    have := h3 0 u (by simpa [rdU8] using hj)
    simpa [rdU8] using this
theorem lit_marked (e : TypeId) (ys : List Value) (fz : Nat × Nat) {B : Nat} {l : List Asrt} {w : World} (h : Owns B l w) (hB : B ≤ w.heap.size) :
    Owns B l (w.alloc (.cells ys.toArray e fz)) ∧ B ≤ (w.alloc (.cells ys.toArray e fz)).heap.size ∧ Lies (w.alloc (.cells ys.toArray e fz)) (some ⟨w.heap.size, 0, none⟩) ys ∧ Below B w (w.alloc (.cells ys.toArray e fz)) := by
  have b1 : Below B w (w.alloc (.cells ys.toArray e fz)) := (Below.refl B w).alloc hB _
  refine ⟨h.keep ((Below.refl _ w).alloc (Nat.le_refl _) _), Nat.le_trans hB b1.size, fun j u hj => ⟨_, 0, rfl, by simp, ?_⟩, b1⟩
  have hh : (w.alloc (.cells ys.toArray e fz)).heap[w.heap.size]? = some (.cells ys.toArray e fz) := (MapKept.heap_alloc w _).1
  rw [cell_of hh]
  simpa using hj
abbrev lit10 : List Value := [.int .u8 0, .int .u8 0, .int .u8 0, .int .u8 255, .int .u8 255, .int .u8 255, .int .u8 6, .int .u8 0, .int .u8 2, .int .u8 254]
set_option maxHeartbeats 1000000 in
theorem awake_any (w : World) : Calls Try.prog 10 #[] w fun e w' => e = .returned (.bool true) ∧ Below w.heap.size w w' := by
  have hO := Owns.nil w.heap.size w
  have S1 := seal_own hO (Nat.le_refl _) none 0 0 [] (Lies.nil _ _) (fun _ _ _ => Lies.nil _ _) rfl (by omega)
  go_enter Try.func10, Try.ntmps10
  go_wp2_with (go_at_call 11; refine S1.mono ?_; rintro e w1 ⟨a1, c1, rfl, hO1, b1⟩; obtain ⟨r1, r2, r3, r4⟩ := lit_marked 5 lit10 (10, 11) hO1 b1.size; have hcv := Lib.run_convert_bytes_const (P := Try.prog) w1 22 5 lit10.toArray 10 10 Try.underlying22 Try.underlying5)
  have Q1 := b1.trans r4
  have hst : ∀ W, Lies W a1 (bv (sealL [])) → (convert 22 9 (.slice a1 10 c1)).run Try.prog W = .ok (.string { data := #[0, 0, 0, 255, 255, 255, 6, 0, 2, 254] }) W := fun W h => by
    rw [bytes_of_lies h (by rw [seal_nil]; rfl) 22 9 5 Try.underlying22 Try.underlying5 Try.underlying9, seal_nil]
  have S2 := open_own r1 r2 (some ⟨w1.heap.size, 0, none⟩) 10 10 (sealL []) (by rw [seal_nil]; exact r3) (by rw [seal_nil]; rfl) (by omega) (Nat.le_refl _)
  have ho := open_seal (p := []) (r := []) (by decide)
  rw [List.append_nil] at ho
  go_wp2_with fail
  refine S2.mono ?_
  rintro e w2 ⟨a2, c2, rfl, hO2, b2⟩
  rw [ho] at hO2 ⊢
  have hs3 := hst w2 hO2.tail.rowLies.1
  go_wp2_with fail
  go_ret
  exact ⟨rfl, Q1.trans b2⟩
set_option maxHeartbeats 1000000 in
theorem law_cuts (ao : Option Addr) (cap : Nat) (p : List UInt8) (cut : Int) (w : World) (hl : p.length ≤ maxLen) (hs : Lies w ao (bv p)) (h1 : -9223372036854775808 ≤ cut) (h2 : cut ≤ 9223372036854775807) :
    Calls Try.prog 4 #[.slice ao p.length cap, .int .i64 cut] w fun e w' => e = .returned (.bool true) ∧ Below w.heap.size w w' := by
  have hl2 : p.length ≤ 9223372036854775807 := by unfold maxLen at hl; omega
  clear hl
  by_cases hlong : 5000 < p.length
  · have hi : (5000 : Int) < (p.length : Int) := by omega
    go_enter Try.func4, Try.ntmps4
    go_wp2_with (go_at_call 10; refine (awake_any w).mono ?_; rintro e w1 ⟨rfl, q1⟩)
    go_ret
    exact ⟨rfl, q1⟩
  have hi : (p.length : Int) ≤ 5000 := by omega
  go_enter Try.func4, Try.ntmps4
  go_wp2_with (go_at_call 10; refine (awake_any w).mono ?_; rintro e w1 ⟨rfl, q1⟩; have S1 := seal_own (Owns.nil w.heap.size w1) q1.size ao p.length cap p (hs.below q1) (fun w' hb _ => hs.below (q1.trans hb)) rfl (by omega))
  have hcl : (sealL p).length = p.length + 10 := sealL_len p
  by_cases hcut : cut < 0 ∨ (p.length : Int) + 10 ≤ cut
  · rcases hcut with hcut | hcut
    · refine S1.mono ?_
      rintro e w2 ⟨a2, c2, rfl, hO2, b2⟩
      go_wp2_with fail
      go_ret
      exact ⟨rfl, q1.trans b2⟩
    · have hc0 : 0 ≤ cut := by omega
      have hc1 : ((p.length + 10 : Nat) : Int) ≤ cut := by omega
      refine S1.mono ?_
      rintro e w2 ⟨a2, c2, rfl, hO2, b2⟩
      go_wp2_with fail
      go_ret
      exact ⟨rfl, q1.trans b2⟩
  obtain ⟨k, rfl⟩ : ∃ k : Nat, cut = k := ⟨cut.toNat, by omega⟩
  have hk : k < p.length + 10 := by omega
  have hk1 : (k : Int) < ((p.length + 10 : Nat) : Int) := by omega
  refine S1.mono ?_
  rintro e w2 ⟨a2, c2, rfl, hO2, b2⟩
  obtain ⟨hL, _, hle⟩ := hO2.rowLies
  have hkc : (k : Int) ≤ (c2 : Int) := by omega
  have z2 := Nat.le_trans q1.size b2.size
  have S2 := open_own hO2 z2 a2 k c2 ((sealL p).take k) (Lies.take' hL k) (by rw [List.length_take, hcl]; omega) (by omega) (by omega)
  go_wp2_with fail
  refine S2.mono ?_
  rintro e w3 ⟨a3, c3, rfl, hO3, b3⟩
  rw [open_cut (by omega) hk]
  go_wp2_with fail
  go_ret
  exact ⟨rfl, q1.trans (b2.trans b3)⟩
theorem row_cuts {H : Type} {enc : TypeId × Value → H} (a : Option Addr) (len cap : Nat) (cut : Int) (w : World) {d : DataW H} {ps : List MemPlace}
    (hs : DataW.Trod enc Try.prog w 0 (fun _ => true) true 22 (.slice a len cap) d ps) (h1 : (Lit.int .i64 cut).wf = true) :
    Calls Try.prog 4 #[.slice a len cap, .int .i64 cut] w fun e w' => e = .returned (.bool true) ∧ Below w.heap.size w w' := by
  obtain ⟨l, rfl, hl, hsl⟩ := SlAt.open (r := rdU8) (by decide) Try.underlying22 hs
  exact law_cuts a cap l cut w hl (lies_of hsl) (bounds_i64 h1).1 (bounds_i64 h1).2
end Go.Proofs.Fra
