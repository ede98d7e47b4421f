/- frame: facts of the types; the sum of bytes. -/
import Derived.Test.YtnjakbkecimjcaaCicRow
import Derived.Test.YtnjakbkecimjcaaProg
import Derived.WalkKit
import Derived.Deep.RegionWith
import Derived.Deep.RegionHeld3
namespace Go.Proofs.Fra
open Go.RowKit Go.Cic Go.ChangeMaps
set_option linter.unusedVariables false
set_option maxRecDepth 100000
theorem size5 (w : World) : (sizeOf 5).run Try.prog w = .ok 1 w := by kernel_rfl
theorem info5 : (Try.prog.info? 5).map (fun i => (i.zero, i.size, i.bytes)) = some (some (.int .u8 0), 1, 1) := by kernel_rfl
/-- Bytes, as cells. -/
abbrev bv (l : List UInt8) : List Value := l.map fun b => Value.int .u8 b.toNat
theorem bv_at {l : List UInt8} {k : Nat} {y : UInt8} (h : l[k]? = some y) : (bv l)[k]? = some (.int .u8 y.toNat) := by rw [List.getElem?_map, h]; rfl
theorem bv_one (l : List UInt8) : ∀ u ∈ bv l, u.oneCell' = true := by
  intro u hu
  obtain ⟨_, _, rfl⟩ := List.mem_map.1 hu
  rfl
theorem bv_len (l : List UInt8) : (bv l).length = l.length := by simp
theorem or_u32 {a b : Nat} (i : Nat) (h : b < 2 ^ i) (hi : a * 2 ^ i + b < 4294967296) : bits .or .u32 ((a : Int) * (2 ^ i : Nat)) (b : Int) = ((a * 2 ^ i + b : Nat) : Int) := by
  have h1 : (BitVec.ofInt 32 ((a : Int) * (2 ^ i : Nat))).toNat = a * 2 ^ i := by
    rw [← Int.natCast_mul, BitVec.ofInt_natCast, BitVec.toNat_ofNat]; exact Nat.mod_eq_of_lt (by omega)
  have h2 : (BitVec.ofInt 32 (b : Int)).toNat = b := by
    rw [BitVec.ofInt_natCast, BitVec.toNat_ofNat]; exact Nat.mod_eq_of_lt (by omega)
  show IntKind.u32.wrap ((BitVec.ofInt 32 ((a : Int) * (2 ^ i : Nat)) ||| BitVec.ofInt 32 (b : Int)).toNat : Int) = _
  rw [BitVec.toNat_or, h1, h2, Nat.mul_comm a, ← Nat.two_pow_add_eq_or_of_lt h, IntKind.wrap_u32, Nat.mul_comm _ a]
  omega
theorem or_i64 {a b : Nat} (i : Nat) (h : b < 2 ^ i) (hi : a * 2 ^ i + b < 4294967296) : bits .or .i64 ((a : Int) * (2 ^ i : Nat)) (b : Int) = ((a * 2 ^ i + b : Nat) : Int) := by
  have h1 : (BitVec.ofInt 64 ((a : Int) * (2 ^ i : Nat))).toNat = a * 2 ^ i := by
    rw [← Int.natCast_mul, BitVec.ofInt_natCast, BitVec.toNat_ofNat]; exact Nat.mod_eq_of_lt (by omega)
  have h2 : (BitVec.ofInt 64 (b : Int)).toNat = b := by
    rw [BitVec.ofInt_natCast, BitVec.toNat_ofNat]; exact Nat.mod_eq_of_lt (by omega)
  show IntKind.i64.wrap ((BitVec.ofInt 64 ((a : Int) * (2 ^ i : Nat)) ||| BitVec.ofInt 64 (b : Int)).toNat : Int) = _
  rw [BitVec.toNat_or, h1, h2, Nat.mul_comm a, ← Nat.two_pow_add_eq_or_of_lt h, IntKind.wrap_i64, Nat.mul_comm _ a]
  omega
theorem or_told {x y z : Nat} (hx : x < 256) (hy : y < 256) (hz : z < 256) : bits .or .i64 (bits .or .i64 ((x : Int) * 65536) ((y : Int) * 256)) (z : Int) = ((x * 65536 + y * 256 + z : Nat) : Int) := by
  have e1 := or_i64 (a := x) (b := y * 256) 16 (by omega) (by omega)
  have e2 := or_i64 (a := x * 256 + y) (b := z) 8 (by omega) (by omega)
  rw [show ((y * 256 : Nat) : Int) = (y : Int) * 256 by omega] at e1
  rw [show ((2 ^ 16 : Nat) : Int) = 65536 by rfl] at e1
  rw [e1]
  rw [show (((x * 256 + y : Nat) : Int) * (2 ^ 8 : Nat)) = ((x * 2 ^ 16 + y * 256 : Nat) : Int) by omega] at e2
  rw [e2]
  omega
/-- A step of the sum. -/
def sumS (p : Nat × Nat) (x : UInt8) : Nat × Nat := ((p.1 + x.toNat) % 65521, (p.2 + (p.1 + x.toNat) % 65521) % 65521)
def sumP (l : List UInt8) : Nat × Nat := l.foldl sumS (1, 0)
def sumN (l : List UInt8) : Nat := (sumP l).2 * 65536 + (sumP l).1
theorem sumP_lt (l : List UInt8) : (sumP l).1 < 65521 ∧ (sumP l).2 < 65521 := by
  unfold sumP
  have : ∀ (l : List UInt8) (p : Nat × Nat), p.1 < 65521 → p.2 < 65521 → (l.foldl sumS p).1 < 65521 ∧ (l.foldl sumS p).2 < 65521 := by
    intro l
    induction l with
    | nil => intro p h1 h2; exact ⟨h1, h2⟩
    | cons x l ih => intro p h1 h2; exact ih _ (by unfold sumS; omega) (by unfold sumS; omega)
  exact this l _ (by omega) (by omega)
theorem sumP_snoc (l : List UInt8) (k : Nat) (y : UInt8) (h : l[k]? = some y) : sumP (l.take (k + 1)) = sumS (sumP (l.take k)) y := by
  unfold sumP
  rw [List.take_add_one, h, List.foldl_append]; rfl
theorem sum_any (ao : Option Addr) (n c : Nat) (l : List UInt8) (w : World) (hs : Lies w ao (bv l)) (hn : l.length = n) (hl : n ≤ 9223372036854775806) :
    Calls Try.prog 18 #[.slice ao n c] w fun e w' => e = .returned (.int .u32 (sumN l)) ∧ w = w' := by
  go_enter Try.func18, Try.ntmps18
  go_wp2
  go_loop [3, 4, 9] (fun a b i => ∃ k : Nat, k ≤ n ∧ i = .int .i64 k ∧ a = .int .u32 (sumP (l.take k)).1 ∧ b = .int .u32 (sumP (l.take k)).2) (fun _ _ i => n - (intOf i).toNat)
  case atStart => exact ⟨0, Nat.zero_le _, rfl, rfl, rfl⟩
  case round =>
    obtain ⟨k, hk, rfl, rfl, rfl⟩ := hrel
    obtain ⟨b1, b2⟩ := sumP_lt (l.take k)
    by_cases hlt : k < n
    · have hy : l[k]? = some l[k] := List.getElem?_eq_getElem (by omega)
      generalize l[k] = y at hy
      have hsn := Hid.mk' (sumP_snoc l k y hy)
      have hy2 := y.toNat_lt
      have hyv := bv_at hy
      generalize sumP (l.take k) = p at b1 b2 hsn
      go_wp2_with (refine wpList_idx rfl _ _ 22 rfl Try.underlying22 size5 rfl (k := k) rfl hs ((bv_len l).trans hn) hyv ?_; intro b p hc hb)
      go_round
      case rel =>
        refine ⟨k + 1, by omega, by go_num, ?_, ?_⟩
        all_goals rw [hsn.out]; unfold sumS
        all_goals (congr 1)
      case measure => simp [intOf]; omega
    · have hk3 : l.take k = l := List.take_of_length_le (by omega)
      rw [hk3]
      rw [hk3] at b1 b2
      have HN := Hid.mk' (show sumN l = (sumP l).2 * 65536 + (sumP l).1 from rfl)
      generalize sumP l = p at b1 b2 HN
      obtain ⟨p1, p2⟩ := p
      simp only at b1 b2
      go_wp2
      have e1 := or_u32 (a := p2) (b := p1) 16 (by omega) (by omega)
      go_ret
      exact ⟨by rw [HN.out]; exact congrArg (fun x => Ending.returned (Value.int .u32 x)) e1, rfl⟩
/-- The number that the first three bytes tell. -/
def toldN (l : List UInt8) : Nat := (l[0]?.getD 0).toNat * 65536 + (l[1]?.getD 0).toNat * 256 + (l[2]?.getD 0).toNat
theorem told_any (ao : Option Addr) (n c : Nat) (l : List UInt8) (w : World) (hs : Lies w ao (bv l)) (hn : l.length = n) (h3 : 3 ≤ n) :
    Calls Try.prog 22 #[.slice ao n c] w fun e w' => e = .returned (.int .i64 (toldN l)) ∧ w' = w.drew := by
  rcases l with _ | ⟨x, _ | ⟨y, _ | ⟨z, r⟩⟩⟩
  · simp at hn; omega
  · simp at hn; omega
  · simp at hn; omega
  ·
    obtain ⟨b0, p0, q0, c0, _⟩ := hs.idx (c := c) (k := 0) Try.underlying22 size5 ((bv_len _).trans hn) (u := .int .u8 x.toNat) rfl
    obtain ⟨b1, p1, q1, c1, _⟩ := hs.idx (c := c) (k := 1) Try.underlying22 size5 ((bv_len _).trans hn) (u := .int .u8 y.toNat) rfl
    obtain ⟨b2, p2, q2, c2, _⟩ := hs.idx (c := c) (k := 2) Try.underlying22 size5 ((bv_len _).trans hn) (u := .int .u8 z.toNat) rfl
    have q0 : ∀ W, (Instr.indexAt 22 (.slice ao n c) (.int .i64 0)).run Try.prog W = .ok (.pointer (some ⟨b0, p0, none⟩)) W := q0
    have q1 : ∀ W, (Instr.indexAt 22 (.slice ao n c) (.int .i64 1)).run Try.prog W = .ok (.pointer (some ⟨b1, p1, none⟩)) W := q1
    have q2 : ∀ W, (Instr.indexAt 22 (.slice ao n c) (.int .i64 2)).run Try.prog W = .ok (.pointer (some ⟨b2, p2, none⟩)) W := q2
    have hx := x.toNat_lt
    have hy := y.toNat_lt
    have hz := z.toNat_lt
    have HN := Hid.mk' (show toldN (x :: y :: z :: r) = x.toNat * 65536 + y.toNat * 256 + z.toNat from rfl)
    generalize x.toNat = x at *
    generalize y.toNat = y at *
    generalize z.toNat = z at *
    have o1 := or_told (x := x) (y := y) (z := z) (by omega) (by omega) (by omega)
    have v1 : IntKind.i64.wrap (x : Int) = x := by rw [IntKind.wrap_i64]; omega
    have v2 : IntKind.i64.wrap (y : Int) = y := by rw [IntKind.wrap_i64]; omega
    have v3 : IntKind.i64.wrap (z : Int) = z := by rw [IntKind.wrap_i64]; omega
    have v4 : IntKind.i64.wrap ((x : Int) * 65536) = x * 65536 := by rw [IntKind.wrap_i64]; omega
    have v5 : IntKind.i64.wrap ((y : Int) * 256) = y * 256 := by rw [IntKind.wrap_i64]; omega
    go_enter Try.func22, Try.ntmps22
    go_wp2_with fail
    go_region_with fail
    all_goals (try simp only [v1, v2, v3, v4, v5, o1])
    all_goals go_wp2
    all_goals go_ret
    all_goals exact ⟨by rw [HN.out]; rfl, rfl⟩
end Go.Proofs.Fra
