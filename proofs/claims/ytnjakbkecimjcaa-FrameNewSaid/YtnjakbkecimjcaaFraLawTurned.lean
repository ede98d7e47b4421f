/- FrameTurned: the walk of the law. -/
import Derived.Test.YtnjakbkecimjcaaFraLawCuts
import Derived.Test.YtnjakbkecimjcaaFraTurn
namespace Go.Proofs.Fra
open Go.RowKit Go.Cic Go.ChangeMaps
set_option linter.unusedVariables false
set_option maxRecDepth 100000
theorem take_set_aux : ∀ (l : List Value) (n k : Nat) (u : Value), (l.set k u).take n = (l.take n).set k u
  | [], n, k, u => by simp
  | a :: l, 0, k, u => by simp
  | a :: l, n + 1, 0, u => by simp
  | a :: l, n + 1, k + 1, u => by simp only [List.set_cons_succ, List.take_succ_cons, take_set_aux l n k u]
theorem Owns.rowAt {B : Nat} {e : TypeId} {ao : Option Addr} {n c k : Nat} {xs : List Value} {l : List Asrt} {w : World} (h : Owns B (Asrt.row e (.slice ao n c) xs :: l) w) (hB : B ≤ w.heap.size) {x : Value} (hk : xs[k]? = some x) :
    ∃ b, ao = some ⟨b, 0, none⟩ ∧ w.cell? ⟨b, k, none⟩ = some x ∧ w.frozen? ⟨b, k, none⟩ = false ∧ b < w.heap.size ∧
      ∀ u : Value, Owns B (Asrt.row e (.slice ao n c) (xs.set k u) :: l) (w.setCell ⟨b, k, none⟩ u) ∧ Below B w (w.setCell ⟨b, k, none⟩ u) := by
  obtain ⟨S, ⟨h1, h2⟩, h3⟩ := h.head
  have hkl := (List.getElem?_eq_some_iff.1 hk).1
  rcases h1.2 with ⟨_, h0⟩ | ⟨g, cap, cur, hv, _, hg, hnc, hcm, hcs, htake⟩
  · omega
  injection hv with e1 e2 e3
  subst e1; subst e3
  have hlt := (Array.getElem?_eq_some_iff.1 hg).1
  have hcu : k < cur.size := by omega
  refine ⟨g, rfl, ?_, free_of hg k, hlt, fun u => ?_⟩
  · rw [cell_of hg]
    have : (cur.toList.take (xs.length * 1))[k]? = some x := by rw [htake]; exact hk
    rw [List.getElem?_take, if_pos (by omega)] at this
    simpa using this
  · refine h.step hB ?_
    rintro S' ⟨g1, g2⟩
    have hw := setCell_of (o := k) hg u
    refine ⟨S', ⟨⟨by simp, .inr ⟨g, c, cur.setIfInBounds k u, by rw [List.length_set, ← e2], Nat.zero_le _, hw, by simpa using hnc, hcm, by simpa using hcs, ?_⟩⟩, g2⟩, fun b hb => .inl hb, ?_⟩
    · rw [Array.toList_setIfInBounds, List.length_set, take_set_aux, htake]
    · exact (keeps_setCell w g k u).mono (fun b _ hb => by subst hb; exact (g2 b).2 rfl)
set_option maxHeartbeats 2000000 in
theorem law_turned (ap ar : Option Addr) (cp cr : Nat) (p r : List UInt8) (at_ by_ : Int) (w : World) (hl : p.length ≤ maxLen) (hlr : r.length ≤ maxLen) (hs : Lies w ap (bv p)) (hsr : Lies w ar (bv r)) (h1 : -9223372036854775808 ≤ at_) (h2 : at_ ≤ 9223372036854775807) (h3 : 0 ≤ by_) (h4 : by_ ≤ 255) :
    Calls Try.prog 5 #[.slice ap p.length cp, .slice ar r.length cr, .int .i64 at_, .int .u8 by_] w fun e w' => e = .returned (.bool true) ∧ Below w.heap.size w w' := by
  have hl2 : p.length ≤ 9223372036854775807 := by unfold maxLen at hl; omega
  have hl3 : r.length ≤ 9223372036854775807 := by unfold maxLen at hlr; omega
  clear hl hlr
  by_cases hlong : 5000 < p.length ∨ 3000 < r.length ∨ by_ = 0
  · by_cases hp : 5000 < p.length
    · have hi : (5000 : Int) < (p.length : Int) := by omega
      go_enter Try.func5, Try.ntmps5
      go_wp2_with (go_at_call 10; refine (awake_any w).mono ?_; rintro e w1 ⟨rfl, q1⟩)
      go_ret
      exact ⟨rfl, q1⟩
    · by_cases hr : 3000 < r.length
      · have hi : (p.length : Int) ≤ 5000 := by omega
        have hi2 : (3000 : Int) < (r.length : Int) := by omega
        go_enter Try.func5, Try.ntmps5
        go_wp2_with (go_at_call 10; refine (awake_any w).mono ?_; rintro e w1 ⟨rfl, q1⟩)
        go_ret
        exact ⟨rfl, q1⟩
      · have hi : (p.length : Int) ≤ 5000 := by omega
        have hi2 : (r.length : Int) ≤ 3000 := by omega
        obtain rfl : by_ = 0 := by omega
        go_enter Try.func5, Try.ntmps5
        go_wp2_with (go_at_call 10; refine (awake_any w).mono ?_; rintro e w1 ⟨rfl, q1⟩)
        go_ret
        exact ⟨rfl, q1⟩
  have hi : (p.length : Int) ≤ 5000 := by omega
  have hi2 : (r.length : Int) ≤ 3000 := by omega
  have hb0 : by_ ≠ 0 := by omega
  have hb0' : (by_ == 0) = false := by simpa using hb0
  have hb1 : 0 < by_ := by omega
  have hcl : (sealL p).length = p.length + 10 := sealL_len p
  clear hlong
  go_enter Try.func5, Try.ntmps5
  go_wp2_with (go_at_call 10; refine (awake_any w).mono ?_; rintro e w1 ⟨rfl, q1⟩; have S1 := seal_own (Owns.nil w.heap.size w1) q1.size ap p.length cp p (hs.below q1) (fun w' hb _ => hs.below (q1.trans hb)) rfl (by omega))
  refine S1.mono ?_
  rintro e w2 ⟨a2, c2, rfl, hO2, b2⟩
  have z2 := Nat.le_trans q1.size b2.size
  by_cases hcut : at_ < 0 ∨ (p.length : Int) + 10 ≤ at_
  · rcases hcut with hcut | hcut
    · go_wp2_with fail
      go_ret
      exact ⟨rfl, q1.trans b2⟩
    · have hc0 : 0 ≤ at_ := by omega
      have hc1 : ((p.length + 10 : Nat) : Int) ≤ at_ := by omega
      go_wp2_with fail
      go_ret
      exact ⟨rfl, q1.trans b2⟩
  obtain ⟨k, rfl⟩ : ∃ k : Nat, at_ = k := ⟨at_.toNat, by omega⟩
  have hk : k < p.length + 10 := by omega
  have hk1 : (k : Int) < ((p.length + 10 : Nat) : Int) := by omega
  clear hcut
  have hy : (sealL p)[k]? = some (sealL p)[k] := List.getElem?_eq_getElem (by omega)
  generalize (sealL p)[k] = y at hy
  obtain ⟨z, hz1, hz2⟩ := xor_byte y h3 h4 hb0
  obtain ⟨b, rfl, hc2, hf2, hb2, hset⟩ := Owns.rowAt hO2 z2 (bv_at hy)
  obtain ⟨hO3, b3⟩ := hset (.int .u8 z.toNat)
  have e3 : (bv (sealL p)).set k (.int .u8 z.toNat) = bv ((sealL p).set k z) := by rw [bv, bv, List.map_set]
  rw [e3] at hO3
  have z3 := Nat.le_trans z2 b3.size
  have hlr3 : Lies (w2.setCell ⟨b, k, none⟩ (.int .u8 z.toNat)) ar (bv r) := hsr.below (q1.trans (b2.trans b3))
  have hln : (bv ((sealL p).set k z)).length = p.length + 10 := by rw [bv_len, List.length_set, hcl]
  have m1 : (bv ((sealL p).set k z)).length + r.length ≤ maxLen := by rw [hln]; unfold maxLen; omega
  have m2 : ((bv ((sealL p).set k z)).length + r.length) * 1 ≤ 140737488355328 := by rw [hln]; omega
  have m3 : (bv ((sealL p).set k z)).length + r.length = p.length + 10 + r.length := by rw [hln]
  have ho := Hid.mk' (open_turned (p := p) (r := r) (by omega) hy hz1)
  have hbr := bv_len r
  go_wp2_with (refine wpList_appendRow rfl _ _ 22 rfl Try.underlying22 info5 rfl rfl rfl hO3 z3 hlr3 hbr (bv_one r) m1 m2 m3 ?_; intro a4 c4 w4 hO4 b4)
  have hO4 : Owns w.heap.size [Asrt.row 5 (.slice a4 (p.length + 10 + r.length) c4) (bv ((sealL p).set k z ++ r))] w4 := by
    rw [show bv ((sealL p).set k z ++ r) = bv ((sealL p).set k z) ++ bv r from List.map_append]; exact hO4
  obtain ⟨hL4, _, hle4⟩ := hO4.rowLies
  have z4 := Nat.le_trans z3 b4.size
  refine (open_own hO4 z4 a4 (p.length + 10 + r.length) c4 _ hL4 (by rw [List.length_append, List.length_set, hcl]) (by omega) hle4).mono ?_
  rintro e w5 ⟨a5, c5, rfl, hO5, b5⟩
  rw [ho.out]
  go_wp2_with fail
  go_ret
  exact ⟨rfl, q1.trans (b2.trans (b3.trans (b4.trans b5)))⟩
theorem row_turned {H : Type} {enc : TypeId × Value → H} (a : Option Addr) (len cap : Nat) (a1 : Option Addr) (len1 cap1 : Nat) (at_ by_ : Int) (w : World) {d d1 : DataW H} {ps ps1 : List MemPlace}
    (hs : DataW.Trod enc Try.prog w 0 (fun _ => true) true 22 (.slice a len cap) d ps) (hs1 : DataW.Trod enc Try.prog w 0 (fun _ => true) true 22 (.slice a1 len1 cap1) d1 ps1) (h1 : (Lit.int .i64 at_).wf = true) (h2 : (Lit.int .u8 by_).wf = true) :
    Calls Try.prog 5 #[.slice a len cap, .slice a1 len1 cap1, .int .i64 at_, .int .u8 by_] w fun e w' => e = .returned (.bool true) ∧ Below w.heap.size w w' := by
  obtain ⟨l, rfl, hl, hsl⟩ := SlAt.open (r := rdU8) (by decide) Try.underlying22 hs
  obtain ⟨l1, rfl, hl1, hsl1⟩ := SlAt.open (r := rdU8) (by decide) Try.underlying22 hs1
  have hb : 0 ≤ by_ ∧ by_ ≤ 255 := by simpa [Lit.wf, IntKind.min, IntKind.max, IntKind.signed, IntKind.bits] using h2
  exact law_turned a a1 cap cap1 l l1 at_ by_ w hl hl1 (lies_of hsl) (lies_of hsl1) (bounds_i64 h1).1 (bounds_i64 h1).2 hb.1 hb.2
end Go.Proofs.Fra
