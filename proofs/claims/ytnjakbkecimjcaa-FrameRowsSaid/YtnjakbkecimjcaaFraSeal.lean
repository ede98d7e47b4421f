/- frame: Seal. -/
import Derived.Test.YtnjakbkecimjcaaFraOpen
namespace Go.Proofs.Fra
open Go.RowKit Go.Cic Go.ChangeMaps
set_option linter.unusedVariables false
set_option maxRecDepth 100000
theorem lit_facts (e : TypeId) (ys : List Value) {B : Nat} {l : List Asrt} {w : World} (h : Owns B l w) (hB : B ≤ w.heap.size) :
    Owns B l (w.alloc (.cells ys.toArray e)) ∧ B ≤ (w.alloc (.cells ys.toArray e)).heap.size ∧ Lies (w.alloc (.cells ys.toArray e)) (some ⟨w.heap.size, 0, none⟩) ys ∧ Below B w (w.alloc (.cells ys.toArray e)) := by
  have h1 := h.alloc_cells hB ys.toArray e
  have b1 : Below B w (w.alloc (.cells ys.toArray e)) := (Below.refl B w).alloc hB _
  exact ⟨h1.tail, Nat.le_trans hB b1.size, h1.cellsLies, b1⟩
def u8 (n : Nat) : UInt8 := UInt8.ofNat n
theorem u8_nat {n : Nat} (h : n < 256) : (u8 n).toNat = n := by
  unfold u8; rw [UInt8.toNat_ofNat']; exact Nat.mod_eq_of_lt h
def hdA (n : Nat) : List UInt8 := [u8 (n / 65536), u8 (n / 256 % 256), u8 (n % 256)]
def hdB (n : Nat) : List UInt8 := [u8 (255 - n / 65536), u8 (255 - n / 256 % 256), u8 (255 - n % 256)]
def tlL (v : Nat) : List UInt8 := [u8 (v / 16777216), u8 (v / 65536 % 256), u8 (v / 256 % 256), u8 (v % 256)]
def fpL (p : List UInt8) : List UInt8 := hdA p.length ++ hdB p.length ++ p
def sealL (p : List UInt8) : List UInt8 := fpL p ++ tlL (sumN (fpL p))
theorem xor_zero {x : Nat} (h : x < 256) : bits .xor .u8 (x : Int) 0 = (x : Int) := by
  have h1 : (BitVec.ofInt 8 (x : Int)).toNat = x := by rw [BitVec.ofInt_natCast, BitVec.toNat_ofNat]; exact Nat.mod_eq_of_lt (by omega)
  show IntKind.u8.wrap ((BitVec.ofInt 8 (x : Int) ^^^ BitVec.ofInt 8 0).toNat : Int) = _
  rw [BitVec.toNat_xor, h1, show (BitVec.ofInt 8 0).toNat = 0 from rfl, Nat.xor_zero, IntKind.wrap_u8]
  omega
theorem xor_all {x : Nat} (h : x < 256) : bits .xor .u8 (x : Int) 255 = ((255 - x : Nat) : Int) := by
  have : ∀ x : Fin 256, bits .xor .u8 ((x.val : Nat) : Int) 255 = ((255 - x.val : Nat) : Int) := by decide +kernel
  exact this ⟨x, h⟩
theorem hdA_eq {n : Nat} (h : n ≤ 65536) : [Value.int .u8 (bits .xor .u8 ((n : Int) / 65536) 0), .int .u8 (bits .xor .u8 ((n : Int) / 256 % 256) 0), .int .u8 (bits .xor .u8 ((n : Int) % 256) 0)] = bv (hdA n) := by
  have e1 := xor_zero (x := n / 65536) (by omega)
  have e2 := xor_zero (x := n / 256 % 256) (by omega)
  have e3 := xor_zero (x := n % 256) (by omega)
  rw [show ((n / 65536 : Nat) : Int) = (n : Int) / 65536 by omega] at e1
  rw [show ((n / 256 % 256 : Nat) : Int) = (n : Int) / 256 % 256 by omega] at e2
  rw [show ((n % 256 : Nat) : Int) = (n : Int) % 256 by omega] at e3
  have f1 := u8_nat (n := n / 65536) (by omega)
  have f2 := u8_nat (n := n / 256 % 256) (by omega)
  have f3 := u8_nat (n := n % 256) (by omega)
  rw [e1, e2, e3]
  simp only [bv, hdA, List.map_cons, List.map_nil, f1, f2, f3]
  try rfl
theorem hdB_eq {n : Nat} (h : n ≤ 65536) : [Value.int .u8 (bits .xor .u8 ((n : Int) / 65536) 255), .int .u8 (bits .xor .u8 ((n : Int) / 256 % 256) 255), .int .u8 (bits .xor .u8 ((n : Int) % 256) 255)] = bv (hdB n) := by
  have e1 := xor_all (x := n / 65536) (by omega)
  have e2 := xor_all (x := n / 256 % 256) (by omega)
  have e3 := xor_all (x := n % 256) (by omega)
  rw [show ((n / 65536 : Nat) : Int) = (n : Int) / 65536 by omega] at e1
  rw [show ((n / 256 % 256 : Nat) : Int) = (n : Int) / 256 % 256 by omega] at e2
  rw [show ((n % 256 : Nat) : Int) = (n : Int) % 256 by omega] at e3
  have f1 := u8_nat (n := 255 - n / 65536) (by omega)
  have f2 := u8_nat (n := 255 - n / 256 % 256) (by omega)
  have f3 := u8_nat (n := 255 - n % 256) (by omega)
  rw [e1, e2, e3]
  simp only [bv, hdB, List.map_cons, List.map_nil, f1, f2, f3]
  try rfl
theorem tlL_eq {v : Nat} (h : v < 4294967296) : [Value.int .u8 ((v : Int) / 16777216), .int .u8 ((v : Int) / 65536 % 256), .int .u8 ((v : Int) / 256 % 256), .int .u8 ((v : Int) % 256)] = bv (tlL v) := by
  have f1 := u8_nat (n := v / 16777216) (by omega)
  have f2 := u8_nat (n := v / 65536 % 256) (by omega)
  have f3 := u8_nat (n := v / 256 % 256) (by omega)
  have f4 := u8_nat (n := v % 256) (by omega)
  simp only [bv, tlL, List.map_cons, List.map_nil, f1, f2, f3, f4]
  rfl
theorem sumN_lt (l : List UInt8) : sumN l < 4294967296 := by
  have := sumP_lt l
  unfold sumN
  omega
def SealPost (B : Nat) (L : List Asrt) (p : List UInt8) (w : World) (e : Ending) (w' : World) : Prop :=
  ∃ ao' c', e = .returned (.tuple #[.slice ao' (p.length + 10) c', .int .i64 0]) ∧ Owns B (Asrt.row 5 (.slice ao' (p.length + 10) c') (bv (sealL p)) :: L) w' ∧ Below B w w'
theorem seal_long (ao : Option Addr) (n c : Nat) (w : World) (hl : 65536 < n) : Calls Try.prog 11 #[.slice ao n c] w fun e w' => e = .returned (.tuple #[.slice none 0 0, .int .i64 9]) ∧ w = w' := by
  have h : (65536 : Int) < (n : Int) := by omega
  go_enter Try.func11, Try.ntmps11
  go_wp2
  go_ret2
  exact ⟨rfl, rfl⟩
set_option maxHeartbeats 4000000 in
theorem seal_own {B : Nat} {L : List Asrt} {w : World} (hO : Owns B L w) (hB : B ≤ w.heap.size) (ao : Option Addr) (n c : Nat) (p : List UInt8) (hs : Lies w ao (bv p)) (hs2 : ∀ w' : World, Below B w w' → Owns B L w' → Lies w' ao (bv p)) (hn : p.length = n) (hl : n ≤ 65536) :
    Calls Try.prog 11 #[.slice ao n c] w (SealPost B L p w) := by
  subst hn
  have hi1 : (p.length : Int) ≤ 65536 := by omega
  have k1 : 1 * (p.length + 10) ≤ 281474976710656 := by omega
  have k2 : p.length + 10 ≤ maxLen := by unfold maxLen; omega
  go_enter Try.func11, Try.ntmps11
  go_wp2_with (refine wpList_makeRow rfl _ _ 22 rfl Try.underlying22 info5 (n := p.length + 10) rfl rfl (by omega) k1 k2 hO hB ?_; intro a1 w1 hO1 b1)
  have z1 := Nat.le_trans hB b1.size
  have h2 := hO1.alloc_cells z1 #[.int .u8 0, .int .u8 255] 5
  have b2 := b1.trans ((Below.refl B w1).alloc z1 (.cells #[.int .u8 0, .int .u8 255] 5))
  generalize hb0 : w1.heap.size = b0 at *
  generalize w1.alloc (.cells #[.int .u8 0, .int .u8 255] 5) = w2 at h2 b2
  clear z1 hb0 b1 hO1
  have z2 := Nat.le_trans hB b2.size
  have y0 : w2.cell? ⟨b0, 0, none⟩ = some (.int .u8 0) := by rw [cell_of h2.cellsE.1]; rfl
  have h3 := h2.swap
  have n3 : ∀ x y z : Value, [x, y, z].length = 3 := fun _ _ _ => rfl
  have u3 : ∀ x y z : Int, ∀ u ∈ [Value.int .u8 x, .int .u8 y, .int .u8 z], u.oneCell' = true := by
    intro x y z u hu; simp at hu; rcases hu with rfl | rfl | rfl <;> rfl
  have m3 : ([] : List Value).length + 3 ≤ maxLen := by decide
  have m3b : (([] : List Value).length + 3) * 1 ≤ 140737488355328 := by decide
  refine wp_loop_rounds 3 ?_
  rw [rounds_succ]
  go_wp2_with (refine wpList_appendRow rfl _ _ 22 rfl Try.underlying22 info5 rfl rfl rfl (lit_facts 5 _ h3 z2).1 (lit_facts 5 _ h3 z2).2.1 (lit_facts 5 _ h3 z2).2.2.1 (n3 _ _ _) (u3 _ _ _) m3 m3b (N := 3) rfl ?_; intro a2 c2 w3 h4 b4)
  have b5 := b2.trans ((lit_facts 5 _ h3 z2).2.2.2.trans b4)
  rw [List.nil_append, hdA_eq hl] at h4
  clear b2 b4 h3 h2
  have z5 := Nat.le_trans hB b5.size
  have y1 : w3.cell? ⟨b0, 1, none⟩ = some (.int .u8 255) := by rw [cell_of h4.swap.cellsE.1]; rfl
  have m6 : ∀ n, (bv (hdA n)).length + 3 ≤ maxLen := fun _ => (show 3 + 3 ≤ maxLen by decide)
  have m6b : ∀ n, ((bv (hdA n)).length + 3) * 1 ≤ 140737488355328 := fun _ => (show (3 + 3) * 1 ≤ 140737488355328 by decide)
  rw [rounds_succ]
  go_wp2_with (refine wpList_appendRow rfl _ _ 22 rfl Try.underlying22 info5 rfl rfl rfl (lit_facts 5 _ h4 z5).1 (lit_facts 5 _ h4 z5).2.1 (lit_facts 5 _ h4 z5).2.2.1 (n3 _ _ _) (u3 _ _ _) (m6 _) (m6b _) (N := 6) rfl ?_; intro a3 c3 w4 h6 b6)
  have b7 := b5.trans ((lit_facts 5 _ h4 z5).2.2.2.trans b6)
  rw [hdB_eq hl] at h6
  have h6 : Owns B (Asrt.row 5 (.slice a3 6 c3) (bv (hdA p.length ++ hdB p.length)) :: Asrt.cells b0 #[.int .u8 0, .int .u8 255] 5 :: L) w4 := by
    rw [bv, List.map_append]; exact h6
  clear b5 b6 h4
  rw [rounds_succ]
  have z7 := Nat.le_trans hB b7.size
  have hs4 := hs2 w4 b7 h6.tail.tail
  have m7 : (bv (hdA p.length ++ hdB p.length)).length + p.length ≤ maxLen := (show 6 + p.length ≤ maxLen by unfold maxLen; omega)
  have m7b : ((bv (hdA p.length ++ hdB p.length)).length + p.length) * 1 ≤ 140737488355328 := (show (6 + p.length) * 1 ≤ 140737488355328 by omega)
  have m7c : (bv (hdA p.length ++ hdB p.length)).length + p.length = p.length + 6 := (show 6 + p.length = p.length + 6 by omega)
  go_wp2_with (refine wpList_appendRow rfl _ _ 22 rfl Try.underlying22 info5 rfl rfl rfl h6 z7 hs4 (bv_len p) (bv_one p) m7 m7b m7c ?_; intro a4 c4 w5 h8 b8)
  have b9 := b7.trans b8
  have h8 : Owns B (Asrt.row 5 (.slice a4 (p.length + 6) c4) (bv (fpL p)) :: Asrt.cells b0 #[.int .u8 0, .int .u8 255] 5 :: L) w5 := by
    rw [bv, fpL, List.map_append]; exact h8
  clear b7 b8 h6
  have hfl : (fpL p).length = p.length + 6 := by simp [fpL, hdA, hdB]
  have hv := sumN_lt (fpL p)
  have hsum := sum_any a4 (p.length + 6) c4 (fpL p) w5 h8.rowLies.1 hfl (by omega)
  obtain ⟨v, hV⟩ : ∃ v, Hid (sumN (fpL p) = v) := ⟨_, rfl⟩
  rw [hV.out] at hv hsum
  have z9 := Nat.le_trans hB b9.size
  refine hsum.mono ?_
  rintro e w6 ⟨rfl, rfl⟩
  have hvi : (v : Int) < 4294967296 := by omega
  have n4 : ∀ x y z t : Value, [x, y, z, t].length = 4 := fun _ _ _ _ => rfl
  have u4 : ∀ x y z t : Int, ∀ u ∈ [Value.int .u8 x, .int .u8 y, .int .u8 z, .int .u8 t], u.oneCell' = true := by
    intro x y z t u hu; simp at hu; rcases hu with rfl | rfl | rfl | rfl <;> rfl
  have hfl' : (bv (fpL p)).length = p.length + 6 := (bv_len _).trans hfl
  have m9 : (bv (fpL p)).length + 4 ≤ maxLen := by rw [hfl']; unfold maxLen; omega
  have m9b : ((bv (fpL p)).length + 4) * 1 ≤ 140737488355328 := by rw [hfl']; omega
  have m9c : (bv (fpL p)).length + 4 = p.length + 10 := by rw [hfl']
  go_wp2_with (refine wpList_appendRow rfl _ _ 22 rfl Try.underlying22 info5 rfl rfl rfl (lit_facts 5 _ h8 z9).1 (lit_facts 5 _ h8 z9).2.1 (lit_facts 5 _ h8 z9).2.2.1 (n4 _ _ _ _) (u4 _ _ _ _) m9 m9b m9c ?_; intro a5 c5 w7 ha ba)
  go_ret2
  rw [tlL_eq hv] at ha
  refine ⟨a5, c5, rfl, ?_, b9.trans ((lit_facts 5 _ h8 z9).2.2.2.trans ba)⟩
  rw [sealL, hV.out, bv, List.map_append]
  exact (ha.swap).tail
end Go.Proofs.Fra
