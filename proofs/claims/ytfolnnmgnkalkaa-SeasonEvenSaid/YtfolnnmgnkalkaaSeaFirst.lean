/- SeasonFirst: the plain law, the closure. -/
import Derived.Test.YtfolnnmgnkalkaaSeaLawOdds
namespace Go.Proofs.Pan
open Go.RowKit Go.Cic Go.ChangeMaps
set_option linter.unusedVariables false
set_option linter.unusedSimpArgs false
set_option maxRecDepth 100000
abbrev sN : ByteArray := { data := #[110, 101, 119] }
theorem asum_noone {W a b : Int} {key : ByteArray} {l : List Act'} (h : ∀ d ∈ l, d.2.1 ≠ key) : asum W (inr key a b) l = 0 := by
  induction l with
  | nil => rfl
  | cons d r ih =>
    rw [asum_cons, ih (fun x hx => h x (by simp [hx])), inr_no (fun hh => h d (by simp) hh.1)]
    simp
section
variable {W P Bk now n : Int} {key : ByteArray} {acts : List Act'}
theorem first_sago (hs : sok P Bk W now) (hno : ∀ d ∈ acts, d.2.1 ≠ key) (hm : mayAdd key now n) (i : Int) (h0 : 0 ≤ i) :
    sago W P (now - now % W) (acts ++ [(1, key, now, n)]) key i = if i = 0 then n else 0 := by
  obtain ⟨⟨hW, hP, _, hmd, _, _⟩, _, _⟩ := hs
  unfold sago
  rw [asum_snoc, asum_noone hno]
  have hpw : W * (P / W) = P := by have := Int.mul_ediv_add_emod P W; omega
  have hq : now - now % W = W * (now / W) := by have := Int.mul_ediv_add_emod now W; omega
  have hx : now - now % W - i * P = W * (now / W - i * (P / W)) := by rw [hq, Int.mul_sub, Int.mul_left_comm, hpw]
  have hp1 : 1 ≤ P / W := by
    by_cases h : P / W < 1
    · have h2 : W * (P / W) ≤ W * 0 := Int.mul_le_mul_of_nonneg_left (by omega) (by omega)
      omega
    · omega
  have e1 : pn W (now - now % W - i * P) = now / W - i * (P / W) := by
    rw [hx]; unfold pn; exact Int.mul_ediv_cancel_left _ (by omega)
  have e2 : pn W (now - now % W - i * P + W) = now / W - i * (P / W) + 1 := by
    rw [hx]; unfold pn
    rw [show W * (now / W - i * (P / W)) + W = W * (now / W - i * (P / W) + 1) by rw [Int.mul_add]; omega]
    exact Int.mul_ediv_cancel_left _ (by omega)
  have hok : okA ((1, key, now, n) : Act') := hm
  rw [if_pos hok, e1, e2]
  show 0 + n * inr key _ _ (key, pn W now) = _
  by_cases hi : i = 0
  · subst hi
    rw [inr_yes (c := (key, pn W now)) rfl (by unfold pn; simp) (by unfold pn; simp; omega), if_pos rfl]; omega
  · have h3 : 1 * (P / W) ≤ i * (P / W) := Int.mul_le_mul_of_nonneg_right (by omega) (by omega)
    rw [inr_no (fun h => by have := h.2.2; unfold pn at this; simp only at this; omega), if_neg hi]; omega
theorem first_then (hs : sok P Bk W now) (hno : ∀ d ∈ acts, d.2.1 ≠ key) (hm : mayAdd key now n) : ∀ k : Nat, sthen (sago W P (now - now % W) (acts ++ [(1, key, now, n)]) key) k = 0
  | 0 => rfl
  | k + 1 => by
    simp only [sthen]
    rw [first_then hs hno hm k, first_sago hs hno hm _ (by omega), if_neg (by omega)]; rfl
theorem first_in (hs : sok P Bk W now) (hno : ∀ d ∈ acts, d.2.1 ≠ key) (hm : mayAdd key now n) (hn : 1 ≤ n) (floor : Int) :
    (0 < sago W P (now - now % W) (acts ++ [(1, key, now, n)]) key 0 ∧ oddB W P Bk (now - now % W) floor (acts ++ [(1, key, now, n)]) key = true) ↔ floor ≤ n := by
  unfold oddB
  rw [first_then hs hno hm, first_sago hs hno hm 0 (by omega), if_pos rfl]
  have hB : 1 ≤ Bk := hs.1.2.2.2.2.1
  have : 0 < n * Bk := Int.mul_pos (by omega) (by omega)
  simp only [decide_eq_true_eq]
  constructor
  · rintro ⟨_, h, _⟩; exact h
  · intro h; exact ⟨by omega, h, by omega⟩
end
section
variable {B p b1 b2 b3 : Nat} {W P Bk now n floor : Int} {acts : List Act'} {l : List Asrt} {w : World}
def FoundO (B : Nat) (w : World) (p b1 b2 b3 : Nat) (W P Bk now : Int) (acts : List Act') (ks : List ByteArray) (a : Option Addr) (c : Nat) (l : List Asrt) (g : Nat) (i : Value) (wr : World) : Prop :=
  ∃ j : Nat, j ≤ ks.length ∧ g = ks.length - j ∧ i = .int .i64 j ∧ (∀ x ∈ ks.take j, x ≠ sN) ∧ Below B w wr ∧ Owns B (Asrt.rows rdS (.slice a ks.length c) ks :: PanR p W acts :: Asrt.cells b1 #[.pointer (some ⟨p, 0, none⟩)] 25 :: Asrt.cells b2 #[.int .i64 P, .int .i64 Bk] 53 :: Asrt.cells b3 #[.int .i64 now] 3 :: l) wr
set_option maxHeartbeats 4000000 in
theorem found_own (bq : Bool) (hO : Owns B (PanR p W acts :: Asrt.cells b1 #[.pointer (some ⟨p, 0, none⟩)] 25 :: Asrt.cells b2 #[.int .i64 P, .int .i64 Bk] 53 :: Asrt.cells b3 #[.int .i64 now] 3 :: l) w) (hB : B ≤ w.heap.size) (hl : acts.length ≤ 900) (hW1 : 1 ≤ W) (hW2 : W ≤ 1099511627776) (h : sok P Bk W now) (hok : ∀ a ∈ acts, rdS.ok a.2.1)
    (hin : (0 < sago W P (now - now % W) acts sN 0 ∧ oddB W P Bk (now - now % W) floor acts sN = true) ↔ bq = true) :
    Calls Try.prog 46 #[.int .i64 floor, .pointer (some ⟨b1, 0, none⟩), .pointer (some ⟨b2, 0, none⟩), .pointer (some ⟨b3, 0, none⟩)] w fun e w' => e = .returned (.bool bq) ∧
      Owns B (PanR p W acts :: Asrt.cells b1 #[.pointer (some ⟨p, 0, none⟩)] 25 :: Asrt.cells b2 #[.int .i64 P, .int .i64 Bk] 53 :: Asrt.cells b3 #[.int .i64 now] 3 :: l) w' ∧ Below B w w' := by
  have c1 : w.cell? ⟨b1, 0, none⟩ = some (.pointer (some ⟨p, 0, none⟩)) := by rw [cell_of (hO.front 1 _ rfl).cellsE.1]; rfl
  have c2 : w.cell? ⟨b2, 0, none⟩ = some (.int .i64 P) := by rw [cell_of (hO.front 2 _ rfl).cellsE.1]; rfl
  have c3 : w.cell? ⟨b2, 1, none⟩ = some (.int .i64 Bk) := by rw [cell_of (hO.front 2 _ rfl).cellsE.1]; rfl
  have c4 : w.cell? ⟨b3, 0, none⟩ = some (.int .i64 now) := by rw [cell_of (hO.front 3 _ rfl).cellsE.1]; rfl
  have hod := odd_yes (P := P) (Bk := Bk) (now := now) (floor := floor) hO hB hl hW1 hW2 h hok
  replace hin := Hid.mk' hin
  go_enter Try.func46, Try.ntmps46
  go_wp2_with fail
  refine hod.mono ?_
  rintro e w2 ⟨ks, a, c, rfl, hri, hks, hkl, hokk, hO2, b2'⟩
  have hst : FoundO B w p b1 b2 b3 W P Bk now acts ks a c l ks.length (.int .i64 0) w2 := ⟨0, Nat.zero_le _, rfl, rfl, by simp, b2', hO2⟩
  have hmem : Hid (sN ∈ ks ↔ bq = true) := Hid.mk' ((hks sN).trans hin.out)
  replace hst := Hid.mk' hst
  clear hks hod hO2 b2' c1 c2 c3 c4
  go_wp2_with fail
  go_loopg [14] ks.length (fun g i wr => FoundO B w p b1 b2 b3 W P Bk now acts ks a c l g i wr)
  case atStart => exact hst.out
  case round =>
    clear hst
    obtain ⟨j, hj, hgj, rfl, hno, hbr, hOr⟩ := hrel
    by_cases hlt : j < ks.length
    · have hy : ks[j]? = some (ks[j]'(by omega)) := List.getElem?_eq_getElem (by omega)
      generalize (ks[j]'(by omega)) = y at hy
      obtain ⟨bb, o, hidx, hc, _⟩ := VS.idx (c := c) (VS.sl hOr hokk).1 rfl hy
      have f0 : wr.cell? ⟨bb, o, none⟩ = some (.string y) := hc 0 _ rfl
      have hO3 := hOr.tail
      by_cases hyn : y = sN
      · subst hyn
        have hbt : bq = true := hmem.out.1 (List.mem_of_getElem? hy)
        subst hbt
        clear hc hy
        go_wp2_with fail
        go_ret
        exact ⟨rfl, hO3, hbr⟩
      · have t1 : (y.toList == sN.toList) = false := beq_eq_false_iff_ne.2 (fun e => hyn (str_inj e))
        have eN : sN.toList = [110, 101, 119] := by rw [ByteArray.toList_eq]
        rw [eN] at t1
        clear eN
        have hno2 : ∀ x ∈ ks.take (j + 1), x ≠ sN := fun x hx => by
          rw [take_succ' hy] at hx
          rcases List.mem_append.1 hx with hx | hx
          · exact hno x hx
          · obtain rfl : x = y := by simpa using hx
            exact hyn
        replace hno2 := Hid.mk' hno2
        replace hyn := Hid.mk' hyn
        clear hc hy hno
        go_wp2_with fail
        go_roundg (ks.length - (j + 1))
        case rel => exact ⟨j + 1, by omega, rfl, by go_num, hno2.out, hbr, hOr⟩
        case measure => omega
    · rw [List.take_of_length_le (by omega)] at hno
      have hbf : bq = false := by
        cases bq with
        | false => rfl
        | true => exact absurd rfl (hno sN (hmem.out.2 rfl))
      subst hbf
      have hO3 := hOr.tail
      go_wp2_with fail
      go_ret
      exact ⟨rfl, hO3, hbr⟩
end
end Go.Proofs.Pan
