/- frame: the sum that does not fit. -/
import Derived.Test.YtnjakbkecimjcaaFraWrong
namespace Go.Proofs.Fra
open Go.RowKit Go.Cic Go.ChangeMaps
set_option linter.unusedVariables false
set_option maxRecDepth 100000
theorem beN_snoc (l : List UInt8) (k : Nat) (y : UInt8) (h : l[k]? = some y) : beN (l.take (k + 1)) = beN (l.take k) * 256 + y.toNat := by
  unfold beN
  rw [List.take_add_one, h, List.foldl_append]; rfl
theorem beN_lt (l : List UInt8) : beN l < 256 ^ l.length := by
  unfold beN
  have : ∀ (l : List UInt8) (v m : Nat), v < m → l.foldl (fun v x => v * 256 + x.toNat) v < m * 256 ^ l.length := by
    intro l
    induction l with
    | nil => intro v m h; simpa using h
    | cons x l ih =>
      intro v m h
      have hx := x.toNat_lt
      have := ih (v * 256 + x.toNat) (m * 256) (by omega)
      rw [List.foldl_cons, List.length_cons, Nat.pow_succ, Nat.mul_comm (256 ^ l.length) 256, ← Nat.mul_assoc]
      exact this
  have := this l 0 1 (by omega)
  simpa using this
theorem Lies.sub' {w : World} {ao : Option Addr} {l : List UInt8} (h : Lies w ao (bv l)) {lo hi cap : Nat} (hc : hi ≤ cap) : Lies w (if cap = lo then ao else ao.map (·.add (lo * 1))) (bv ((l.drop lo).take (hi - lo))) := by
  have := h.sub (lo := lo) (hi := hi) hc 1 rfl
  simpa [List.map_drop, List.map_take] using this
theorem Lies.take' {w : World} {ao : Option Addr} {l : List UInt8} (h : Lies w ao (bv l)) (k : Nat) : Lies w ao (bv (l.take k)) := fun j u hj => by
  rw [List.getElem?_map, List.getElem?_take] at hj
  split at hj
  · exact h j u (by rw [List.getElem?_map]; exact hj)
  · cases hj
set_option maxHeartbeats 1000000 in
theorem wr2_any (bx n c : Nat) (ao : Option Addr) (l : List UInt8) (w : World) (cb : w.cell? ⟨bx, 0, none⟩ = some (.slice ao n c)) (hs : Lies w ao (bv l)) (hn : l.length = n) (hl : n ≤ 9223372036854775806) (hc : n ≤ c) :
    Calls Try.prog 26 #[.pointer (some ⟨bx, 0, none⟩)] w fun e w' => e = .returned (.bool (wr2 l)) ∧ Below w.heap.size w w' := by
  have hb := (Below.refl w.heap.size w).drew
  have ht := told_lt l
  by_cases h6 : 6 ≤ n
  · have htold := told_any ao n c l w hs hn (by omega)
    obtain ⟨T, hT⟩ : ∃ T, Hid (toldN l = T) := ⟨_, rfl⟩
    rw [hT.out] at htold ht
    by_cases h7 : T + 10 ≤ n
    · have HN := Hid.mk' (show wr2 l = decide (beN ((l.drop (6 + T)).take 4) ≠ sumN (l.take (6 + T))) by unfold wr2; rw [hn, hT.out]; simp [h6, h7])
      have hS := Lies.sub' hs (lo := 6 + T) (hi := 6 + T + 4) (cap := c) (by omega)
      have hS2 := Lies.take' hs (6 + T)
      rw [if_neg (show ¬ c = 6 + T by omega), show 6 + T + 4 - (6 + T) = 4 by omega] at hS
      generalize hl4 : (l.drop (6 + T)).take 4 = l4 at HN hS
      generalize hl5 : l.take (6 + T) = l5 at HN hS2
      have hn4 : l4.length = 4 := by rw [← hl4]; simp; omega
      have hn5 : l5.length = 6 + T := by rw [← hl5]; simp; omega
      have H4 := Hid.mk' hl4
      have H5 := Hid.mk' hl5
      clear hl4 hl5
      have i1 : (0 : Int) ≤ (T : Int) := by omega
      have i2 : (6 : Int) + (T : Int) ≤ (n : Int) := by omega
      have i3 : (6 : Int) + (T : Int) + 4 ≤ (n : Int) := by omega
      have i4 : (n : Int) ≤ (c : Int) := by omega
      go_enter Try.func26, Try.ntmps26
      go_wp2_with (go_at_call 22; refine htold.mono ?_; rintro e w' ⟨rfl, rfl⟩)
      have e44 : 6 + T + 4 - (6 + T) = 4 := by omega
      simp only [e44]
      simp only [Nat.mul_one] at hS
      have ed : w.drew.heap.size = w.heap.size := rfl
      have hSd : Lies w.drew (ao.map (fun x => x.add (6 + T))) (bv l4) := hS
      have hS2d : Lies w.drew ao (bv l5) := hS2
      go_loop [3, 23] (fun a i => ∃ k : Nat, k ≤ 4 ∧ i = .int .i64 k ∧ a = .int .u32 (beN (l4.take k))) (fun _ i => 4 - (intOf i).toNat)
      case atStart => exact ⟨0, Nat.zero_le _, rfl, rfl⟩
      case round =>
        obtain ⟨k, hk, rfl, rfl⟩ := hrel
        by_cases hlt : k < 4
        · have hy : l4[k]? = some l4[k] := List.getElem?_eq_getElem (by omega)
          generalize l4[k] = y at hy
          have hsn := Hid.mk' (beN_snoc l4 k y hy)
          have hy2 := y.toNat_lt
          have hyv := bv_at hy
          have hbe := beN_lt (l4.take k)
          have hbe2 : beN (l4.take k) < 16777216 := by
            refine Nat.lt_of_lt_of_le hbe ?_
            have : (l4.take k).length ≤ 3 := by simp; omega
            exact Nat.pow_le_pow_right (by omega) this
          clear hbe
          have ho := or_u32 (a := beN (l4.take k)) (b := y.toNat) 8 hy2 (by omega)
          have hw8 : IntKind.u32.wrap ((beN (l4.take k) : Int) * 256) = (beN (l4.take k) : Int) * 256 := by rw [IntKind.wrap_u32]; omega
          generalize beN (l4.take k) = p at hsn hbe2 ho hw8
          go_wp2_with (refine wpList_idx rfl _ _ 22 rfl Try.underlying22 size5 rfl (k := k) rfl hSd ((bv_len l4).trans hn4) hyv ?_; intro b p hc hb)
          go_round
          case rel =>
            refine ⟨k + 1, by omega, by go_num, ?_⟩
            rw [hsn.out]
            exact congrArg (fun x => Value.int .u32 x) ho
          case measure => simp [intOf]; omega
        · have hk3 : l4.take k = l4 := List.take_of_length_le (by omega)
          rw [hk3]
          generalize beN l4 = p at HN
          generalize hq : sumN l5 = q at HN
          have hsum := sum_any ao (6 + T) c l5 w.drew hS2d hn5 (by omega)
          rw [hq] at hsum
          clear hq
          go_wp2_with (go_at_call 18; refine hsum.mono ?_; rintro e w' ⟨rfl, rfl⟩)
          go_ret
          refine ⟨ret_bool ?_, hb⟩
          rw [HN.out, Bool.eq_iff_iff]
          simp
          omega
    · have HN := Hid.mk' (show wr2 l = false by unfold wr2; rw [hn, hT.out]; simp [h7])
      go_enter Try.func26, Try.ntmps26
      go_wp2_with (go_at_call 22; refine htold.mono ?_; rintro e w' ⟨rfl, rfl⟩)
      go_ret
      exact ⟨ret_bool HN.out.symm, hb⟩
  · have HN := Hid.mk' (show wr2 l = false by unfold wr2; rw [hn]; simp [h6])
    go_enter Try.func26, Try.ntmps26
    go_wp2
    go_ret
    exact ⟨ret_bool HN.out.symm, Below.refl _ _⟩
end Go.Proofs.Fra
