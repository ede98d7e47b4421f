/- SeasonEven: the plain law, the walk. -/
import Derived.Test.YtfolnnmgnkalkaaSeaFirst
import Derived.Deep.LoopGhost
namespace Go.Proofs.Pan
open Go.RowKit Go.Cic Go.ChangeMaps
set_option linter.unusedVariables false
set_option linter.unusedSimpArgs false
set_option maxRecDepth 100000
/-- The adds: one a period. -/
def evA (e P n : Int) (k : Nat) : List Act' := (List.range k).map fun (i : Nat) => (1, sA, e - (i : Int) * P, n)
theorem evA_succ (e P n : Int) (k : Nat) : evA e P n (k + 1) = evA e P n k ++ [(1, sA, e - (k : Int) * P, n)] := by
  unfold evA; rw [List.range_succ, List.map_append]; rfl
theorem evA_len (e P n : Int) (k : Nat) : (evA e P n k).length = k := by simp [evA]
section
variable {W P Bk e n : Int}
/-- The pane of the i-th add is the i-th one back: it, and no other one. -/
theorem ev_pane (hW : 1 ≤ W) (hmd : P % W = 0) (hP : 1 ≤ P) (i j : Int) :
    (pn W (e - e % W - j * P) ≤ pn W (e - i * P) ∧ pn W (e - i * P) < pn W (e - e % W - j * P + W)) ↔ i = j := by
  have hpw : W * (P / W) = P := by have := Int.mul_ediv_add_emod P W; omega
  have hq : e - e % W = W * (e / W) := by have := Int.mul_ediv_add_emod e W; omega
  have hp1 : 1 ≤ P / W := by
    by_cases h : P / W < 1
    · have h2 : W * (P / W) ≤ W * 0 := Int.mul_le_mul_of_nonneg_left (by omega) (by omega)
      omega
    · omega
  have hx : ∀ k : Int, e - e % W - k * P = W * (e / W - k * (P / W)) := fun k => by rw [hq, Int.mul_sub, Int.mul_left_comm, hpw]
  have e1 : pn W (e - e % W - j * P) = e / W - j * (P / W) := by
    rw [hx]; unfold pn; exact Int.mul_ediv_cancel_left _ (by omega)
  have e2 : pn W (e - e % W - j * P + W) = e / W - j * (P / W) + 1 := by
    rw [hx]; unfold pn
    rw [show W * (e / W - j * (P / W)) + W = W * (e / W - j * (P / W) + 1) by rw [Int.mul_add]; omega]
    exact Int.mul_ediv_cancel_left _ (by omega)
  have e3 : pn W (e - i * P) = e / W - i * (P / W) := by
    have : e - i * P = e % W + W * (e / W - i * (P / W)) := by have := hx i; omega
    unfold pn
    rw [this, Int.add_mul_ediv_left _ _ (by omega), Int.ediv_eq_zero_of_lt (Int.emod_nonneg _ (by omega)) (Int.emod_lt_of_pos _ (by omega))]; omega
  rw [e1, e2, e3]
  constructor
  · rintro ⟨h1, h2⟩
    have h3 : i * (P / W) = j * (P / W) := by omega
    exact Int.eq_of_mul_eq_mul_right (by omega) h3
  · rintro rfl; omega
theorem ev_sago {M : Nat} (hW : 1 ≤ W) (hmd : P % W = 0) (hP : 1 ≤ P) (hok : ∀ i : Nat, i < M → mayAdd sA (e - (i : Int) * P) n) (j : Int) (h0 : 0 ≤ j) : ∀ k : Nat, k ≤ M →
    sago W P (e - e % W) (evA e P n k) sA j = if j < k then n else 0
  | 0, _ => by rw [if_neg (by omega)]; rfl
  | k + 1, hk => by
    have ih := ev_sago hW hmd hP hok j h0 k (by omega)
    unfold sago at ih ⊢
    rw [evA_succ, asum_snoc, ih]
    have ho : okA ((1, sA, e - (k : Int) * P, n) : Act') := hok k (by omega)
    rw [if_pos ho]
    show _ + n * inr sA _ _ (sA, pn W (e - (k : Int) * P)) = _
    by_cases hj : (k : Int) = j
    · have h := (ev_pane (e := e) hW hmd hP k j).2 hj
      rw [inr_yes (c := (sA, pn W (e - (k : Int) * P))) rfl h.1 h.2, if_neg (by omega), if_pos (by push_cast; omega)]; omega
    · rw [inr_no (fun h => hj ((ev_pane (e := e) hW hmd hP k j).1 ⟨h.2.1, h.2.2⟩))]
      by_cases h1 : j < k
      · rw [if_pos h1, if_pos (by push_cast; omega)]; omega
      · rw [if_neg h1, if_neg (by push_cast; omega)]; omega
theorem sthen_const {f : Int → Int} {n : Int} : ∀ {k : Nat}, (∀ i : Int, 1 ≤ i → i ≤ k → f i = n) → sthen f k = k * n
  | 0, _ => by simp [sthen]
  | k + 1, h => by
    simp only [sthen]
    rw [sthen_const (k := k) (fun i h0 h1 => h i h0 (by push_cast; omega)), h _ (by push_cast; omega) (by omega)]
    push_cast; rw [Int.add_mul]; omega
end
theorem ev_one {M : Nat} {W P e n : Int} (hW : 1 ≤ W) (hmd : P % W = 0) (hP : 1 ≤ P) (hn : 0 ≤ n) (hok : ∀ i : Nat, i < M → mayAdd sA (e - (i : Int) * P) n) (key : ByteArray) (c : Int) : ∀ k : Nat, k ≤ M →
    0 ≤ asum W (inr key c (c + 1)) (evA e P n k) ∧ asum W (inr key c (c + 1)) (evA e P n k) ≤ n ∧ (asum W (inr key c (c + 1)) (evA e P n k) ≠ 0 → e / W - k * (P / W) < c)
  | 0, _ => by refine ⟨Int.le_refl _, hn, fun h => absurd rfl h⟩
  | k + 1, hk => by
    have ih := ev_one hW hmd hP hn hok key c k (by omega)
    have hpw : W * (P / W) = P := by have := Int.mul_ediv_add_emod P W; omega
    have hp1 : 1 ≤ P / W := by
      by_cases h : P / W < 1
      · have h2 : W * (P / W) ≤ W * 0 := Int.mul_le_mul_of_nonneg_left (by omega) (by omega)
        omega
      · omega
    have e3 : pn W (e - (k : Int) * P) = e / W - k * (P / W) := by
      have h0 : (k : Int) * P = W * (k * (P / W)) := by rw [Int.mul_left_comm, hpw]
      have : e - (k : Int) * P = e % W + W * (e / W - k * (P / W)) := by
        have := Int.mul_ediv_add_emod e W
        rw [Int.mul_sub, ← h0]; omega
      unfold pn
      rw [this, Int.add_mul_ediv_left _ _ (by omega), Int.ediv_eq_zero_of_lt (Int.emod_nonneg _ (by omega)) (Int.emod_lt_of_pos _ (by omega))]; omega
    have hs : ((k + 1 : Nat) : Int) * (P / W) = k * (P / W) + P / W := by push_cast; rw [Int.add_mul]; omega
    rw [evA_succ, asum_snoc, hs]
    have ho : okA ((1, sA, e - (k : Int) * P, n) : Act') := hok k (by omega)
    rw [if_pos ho]
    have hin := inr_01 key c (c + 1) (sA, pn W (e - (k : Int) * P))
    show 0 ≤ _ + n * inr key c (c + 1) (sA, pn W (e - (k : Int) * P)) ∧ _ + n * inr key c (c + 1) (sA, pn W (e - (k : Int) * P)) ≤ n ∧ (_ + n * inr key c (c + 1) (sA, pn W (e - (k : Int) * P)) ≠ 0 → _)
    by_cases hc : c = pn W (e - (k : Int) * P)
    · have hz : asum W (inr key c (c + 1)) (evA e P n k) = 0 := by
        apply Classical.byContradiction
        intro h
        have := ih.2.2 h
        rw [hc, e3] at this; omega
      rw [hz]
      by_cases hk2 : sA = key
      · rw [inr_yes (c := (sA, pn W (e - (k : Int) * P))) hk2 (by rw [hc]; simp) (by rw [hc]; simp; omega)]
        refine ⟨by omega, by omega, fun _ => by rw [hc, e3]; omega⟩
      · rw [inr_no (fun h => hk2 h.1)]
        refine ⟨by omega, by omega, fun h => absurd (by omega) h⟩
    · rw [inr_no (fun h => by have h1 := h.2.1; have h2 := h.2.2; simp only at h1 h2; omega)]
      refine ⟨by omega, by omega, fun h => ?_⟩
      have := ih.2.2 (by omega)
      omega
theorem ev_key {W P e n a b : Int} {k : ByteArray} {m : Nat} (h : 0 < asum W (inr k a b) (evA e P n m)) : k = sA := by
  obtain ⟨d, hd, rfl⟩ := asum_mem h
  obtain ⟨i, _, rfl⟩ := List.mem_map.1 hd
  rfl
def EvenO (B : Nat) (w : World) (p bs : Nat) (W P Bk e n : Int) (g : Nat) (i : Value) (wr : World) : Prop :=
  ∃ k : Nat, (k : Int) ≤ Bk + 1 ∧ g = (Bk + 1).toNat - k ∧ i = .int .i64 k ∧ Below B w wr ∧ Owns B [PanR p W (evA e P n k), Asrt.cells bs #[.int .i64 P, .int .i64 Bk] 53] wr
set_option maxHeartbeats 16000000 in
theorem law_even (width times back at_ n now : Int) (w : World) (h1 : 0 ≤ width) (h2 : width ≤ 255) (h3 : 0 ≤ times) (h4 : times ≤ 255) (h5 : 0 ≤ back) (h6 : back ≤ 255) (h7 : 0 ≤ at_) (h8 : at_ ≤ 65535) (h9 : 0 ≤ n) (h10 : n ≤ 255) (h11 : 0 ≤ now) (h12 : now ≤ 65535) :
    Calls Try.prog 13 #[.int .u8 width, .int .u8 times, .int .u8 back, .int .u16 at_, .int .u8 n, .int .u16 now] w fun e w' => e = .returned (.bool true) ∧ Below w.heap.size w w' := by
  obtain ⟨W, hW⟩ : ∃ W, 1 + width % 20 = W := ⟨_, rfl⟩
  obtain ⟨T, hT⟩ : ∃ T, 1 + times % 9 = T := ⟨_, rfl⟩
  obtain ⟨Bk, hB⟩ : ∃ Bk, 1 + back % 20 = Bk := ⟨_, rfl⟩
  have hW2 : 1 ≤ W ∧ W ≤ 20 := by omega
  have hT2 : 1 ≤ T ∧ T ≤ 9 := by omega
  have hB2 : 1 ≤ Bk ∧ Bk ≤ 20 := by omega
  have hP2 : 1 ≤ W * T ∧ W * T ≤ 180 := by
    refine ⟨Int.mul_pos (by omega) (by omega), ?_⟩
    have := Int.mul_le_mul_of_nonneg_right hW2.2 (show 0 ≤ T by omega)
    omega
  have hmd : (W * T) % W = 0 := Int.mul_emod_right _ _
  obtain ⟨P, hP⟩ : ∃ P, W * T = P := ⟨_, rfl⟩
  rw [hP] at hP2 hmd
  have hPB : 1 ≤ P * Bk ∧ P * Bk ≤ 3600 := by
    refine ⟨Int.mul_pos (by omega) (by omega), ?_⟩
    have := Int.mul_le_mul_of_nonneg_right hP2.2 (show 0 ≤ Bk by omega)
    omega
  obtain ⟨Q, hQ⟩ : ∃ Q, P * Bk = Q := ⟨_, rfl⟩
  rw [hQ] at hPB
  have hmay : smay P Bk W := ⟨by omega, by omega, by omega, hmd, by omega, by omega⟩
  have hiP : ∀ i : Nat, (i : Int) ≤ Bk → 0 ≤ (i : Int) * P ∧ (i : Int) * P ≤ Q := fun i hi => ⟨Int.mul_nonneg (by omega) (by omega), by
    have := Int.mul_le_mul_of_nonneg_right hi (show 0 ≤ P by omega)
    rw [Int.mul_comm Bk P] at this; omega⟩
  have hA := ((Owns.nil w.heap.size w).alloc_cells (Nat.le_refl _) #[.int .i64 P, .int .i64 Bk] 53)
  have bA : Below w.heap.size w (w.alloc (.cells #[.int .i64 P, .int .i64 Bk] 53)) := (Below.refl _ w).alloc (Nat.le_refl _) _
  have hn1 := newR W hA bA.size
  have hwf : wf W = W := by unfold wf; omega
  rw [hwf] at hn1
  have cells : ∀ {W' : World} {l' : List Asrt}, Owns w.heap.size (Asrt.cells w.heap.size #[.int .i64 P, .int .i64 Bk] 53 :: l') W' → W'.cell? ⟨w.heap.size, 0, none⟩ = some (.int .i64 P) ∧ W'.cell? ⟨w.heap.size, 1, none⟩ = some (.int .i64 Bk) := fun h =>
    ⟨by rw [cell_of h.cellsE.1]; rfl, by rw [cell_of h.cellsE.1]; rfl⟩
  have hmy := fun (W0 : World) => may_any P Bk W W0 (by omega) (by omega) (by omega) (by omega) (by omega) (by omega)
  have hmy := fun W0 => (decide_eq_true hmay) ▸ hmy W0
  have hBN : (Bk.toNat : Int) = Bk := Int.toNat_of_nonneg (by omega)
  have hskE : sok P Bk W (at_ + Q) := ⟨hmay, by omega, by omega⟩
  have hskN : sok P Bk W now := ⟨hmay, by omega, by omega⟩
  have hok : ∀ i : Nat, i < Bk.toNat + 1 → mayAdd sA (at_ + Q - (i : Int) * P) n := fun i hi => by
    have := hiP i (by omega)
    exact ⟨by decide, by decide, by omega, by omega, h9, by omega⟩
  have hS := fun (j : Int) (h0 : 0 ≤ j) => ev_sago (W := W) (P := P) (e := at_ + Q) (n := n) (M := Bk.toNat + 1) (by omega) hmd (by omega) hok j h0 (Bk.toNat + 1) (Nat.le_refl _)
  have hone := fun (key : ByteArray) (c : Int) => ev_one (W := W) (P := P) (e := at_ + Q) (n := n) (M := Bk.toNat + 1) (by omega) hmd (by omega) h9 hok key c (Bk.toNat + 1) (Nat.le_refl _)
  obtain ⟨e, he⟩ : ∃ e, at_ + Q = e := ⟨_, rfl⟩
  rw [he] at hok hS hone hskE
  replace hBN := Hid.mk' hBN
  replace hok := Hid.mk' hok
  replace hS := Hid.mk' hS
  replace hone := Hid.mk' hone
  replace hiP := Hid.mk' hiP
  clear hwf hmay
  go_enter Try.func13, Try.ntmps13
  go_wp2_with fail
  refine hn1.mono ?_
  rintro e1 w1 ⟨p, rfl, hO1, b1⟩
  have hb1 := bA.trans b1
  obtain ⟨i0, i1⟩ := cells hO1.tail
  go_wp2_with fail
  refine (hmy _).mono ?_
  rintro e2 w2 ⟨rfl, b2⟩
  have hO2 := hO1.keep b2
  have hb2 := hb1.trans (b2.mono hb1.size)
  obtain ⟨j0, j1⟩ := cells hO2.tail
  have hst : EvenO w.heap.size w p w.heap.size W P Bk e n (Bk + 1).toNat (.int .i64 0) w2 := ⟨0, by omega, rfl, rfl, hb2, hO2⟩
  replace hst := Hid.mk' hst
  clear hn1 hO1 b1 hb1 b2 hO2 hb2 i0 i1 hA bA
  go_wp2_with fail
  go_loopg [55] (Bk + 1).toNat (fun g i wr => EvenO w.heap.size w p w.heap.size W P Bk e n g i wr)
  case atStart => exact hst.out
  case round =>
    clear hst j0 j1
    obtain ⟨k, hk, hgk, rfl, hbr, hOr⟩ := hrel
    have hzr := hbr.size
    obtain ⟨j0, j1⟩ := cells hOr.tail
    by_cases hlt : (k : Int) < Bk + 1
    · obtain ⟨hx0, hx1⟩ := hiP.out k (by omega)
      obtain ⟨x, hx⟩ : ∃ x, (k : Int) * P = x := ⟨_, rfl⟩
      rw [hx] at hx0 hx1
      have hm := hok.out k (by have := hBN.out; omega)
      rw [hx] at hm
      have hadd := addR 1 sA (e - x) n hOr hzr (by rw [evA_len]; omega) (by omega) (by omega)
      rw [decide_eq_true hm] at hadd
      have hev : evA e P n (k + 1) = evA e P n k ++ [(1, sA, e - x, n)] := by rw [evA_succ, hx]
      replace hev := Hid.mk' hev
      clear hm
      go_wp2_with fail
      refine hadd.mono ?_
      rintro e3 w3 ⟨rfl, hO3, b3⟩
      have hb3 := hbr.trans b3
      go_wp2_with fail
      go_roundg ((Bk + 1).toNat - (k + 1))
      case rel => exact ⟨k + 1, by push_cast; omega, rfl, by go_num, hb3, by rw [hev.out]; exact hO3⟩
      case measure => omega
    · have hkB : k = Bk.toNat + 1 := by have := hBN.out; omega
      rw [hkB] at hOr
      have hS0 := hS.out 0 (by omega)
      rw [if_pos (by have := hBN.out; omega)] at hS0
      have hSt : sthen (sago W P (e - e % W) (evA e P n (Bk.toNat + 1)) sA) Bk.toNat = Bk * n := by
        rw [sthen_const (n := n) (fun i h0 h1 => by rw [hS.out i (by omega), if_pos (by push_cast; omega)]), hBN.out]
      have hl9 : (evA e P n (Bk.toNat + 1)).length ≤ 900 := by rw [evA_len]; have := hBN.out; omega
      have hokA : ∀ a ∈ evA e P n (Bk.toNat + 1), rdS.ok a.2.1 := fun a ha => by
        obtain ⟨i, _, rfl⟩ := List.mem_map.1 ha
        show (1 : Nat) ≤ maxLen
        unfold maxLen; omega
      have hus := usual_yes P Bk e sA hOr hzr (by omega) (by omega) (by omega) hskE
      have hnw := fun {lA : List Asrt} {W0 : World} (hO : Owns w.heap.size (PanR p W (evA e P n (Bk.toNat + 1)) :: lA) W0) (hB : w.heap.size ≤ W0.heap.size) => now_yes P Bk e sA hO hB (by omega) (by omega) (by omega) hskE
      have hod1 := fun {lA : List Asrt} {W0 : World} (hO : Owns w.heap.size (PanR p W (evA e P n (Bk.toNat + 1)) :: lA) W0) (hB : w.heap.size ≤ W0.heap.size) => odd_yes (P := P) (Bk := Bk) (now := e) (floor := 0) hO hB hl9 (by omega) (by omega) hskE hokA
      have hod2 := fun {lA : List Asrt} {W0 : World} (hO : Owns w.heap.size (PanR p W (evA e P n (Bk.toNat + 1)) :: lA) W0) (hB : w.heap.size ≤ W0.heap.size) => odd_yes (P := P) (Bk := Bk) (now := now) (floor := 1000) hO hB hl9 (by omega) (by omega) hskN hokA
      have hnone1 : ∀ k, ¬ (0 < sago W P (e - e % W) (evA e P n (Bk.toNat + 1)) k 0 ∧ oddB W P Bk (e - e % W) 0 (evA e P n (Bk.toNat + 1)) k = true) := fun k ⟨g1, g2⟩ => by
        have hks : k = sA := by rw [sago_zero] at g1; exact ev_key g1
        subst hks
        unfold oddB at g2
        rw [hSt, hS0] at g2
        simp only [decide_eq_true_eq] at g2
        have e9 : Bk * n = n * Bk := Int.mul_comm _ _
        have e8 : 0 ≤ n * Bk := Int.mul_nonneg h9 (by omega)
        omega
      have hnone2 : ∀ k, ¬ (0 < sago W P (now - now % W) (evA e P n (Bk.toNat + 1)) k 0 ∧ oddB W P Bk (now - now % W) 1000 (evA e P n (Bk.toNat + 1)) k = true) := fun k ⟨g1, g2⟩ => by
        unfold oddB at g2
        simp only [decide_eq_true_eq] at g2
        have e7 : pn W (now - now % W + W) = pn W (now - now % W) + 1 := by
          unfold pn
          rw [show now - now % W + W = now - now % W + 1 * W by omega, Int.add_mul_ediv_right _ _ (by omega)]
        have := (hone.out k (pn W (now - now % W))).2.1
        have h0 := g2.1
        rw [sago_zero, e7] at h0
        omega
      rw [hSt] at hus
      simp only [hS0] at hnw
      have nil1 : ∀ ks : List ByteArray, (∀ k, k ∈ ks ↔ 0 < sago W P (e - e % W) (evA e P n (Bk.toNat + 1)) k 0 ∧ oddB W P Bk (e - e % W) 0 (evA e P n (Bk.toNat + 1)) k = true) → ks = [] := fun ks h => List.eq_nil_iff_forall_not_mem.2 (fun k hk => hnone1 k ((h k).1 hk))
      have nil2 : ∀ ks : List ByteArray, (∀ k, k ∈ ks ↔ 0 < sago W P (now - now % W) (evA e P n (Bk.toNat + 1)) k 0 ∧ oddB W P Bk (now - now % W) 1000 (evA e P n (Bk.toNat + 1)) k = true) → ks = [] := fun ks h => List.eq_nil_iff_forall_not_mem.2 (fun k hk => hnone2 k ((h k).1 hk))
      replace nil1 := Hid.mk' nil1
      replace nil2 := Hid.mk' nil2
      have hbn : Bk * n = n * Bk := Int.mul_comm _ _
      have hbn2 : 0 ≤ n * Bk := Int.mul_nonneg h9 (by omega)
      have hbn3 : n * Bk ≤ 255 * Bk := Int.mul_le_mul_of_nonneg_right h10 (by omega)
      rw [hbn] at hus
      obtain ⟨Z, hZ⟩ : ∃ Z, n * Bk = Z := ⟨_, rfl⟩
      rw [hZ] at hus hbn2 hbn3
      clear hnone1 hnone2 hS0 hSt hbn hokA hl9
      go_wp2_with fail
      refine hus.mono ?_
      rintro e4 w4 ⟨rfl, hO4, b4⟩
      have hb4 := hbr.trans b4
      have hU := (hO4.alloc_cells hb4.size #[.int .i64 Z, .int .i64 Bk] 57).front 1 _ rfl
      have bU : Below w.heap.size w (w4.alloc (.cells #[.int .i64 Z, .int .i64 Bk] 57)) := hb4.alloc hb4.size _
      have ucells : ∀ {W' : World} {l' : List Asrt}, Owns w.heap.size (Asrt.cells w4.heap.size #[.int .i64 Z, .int .i64 Bk] 57 :: l') W' → W'.cell? ⟨w4.heap.size, 0, none⟩ = some (.int .i64 Z) ∧ W'.cell? ⟨w4.heap.size, 1, none⟩ = some (.int .i64 Bk) := fun h =>
        ⟨by rw [cell_of h.cellsE.1]; rfl, by rw [cell_of h.cellsE.1]; rfl⟩
      -- PanR, U, box
      obtain ⟨m0, m1⟩ := cells hU.tail.tail
      obtain ⟨m2, m3⟩ := ucells hU.tail
      have hn2 := hnw hU bU.size
      go_wp2_with fail
      refine hn2.mono ?_
      rintro e5 w5 ⟨rfl, hO5, b5⟩
      have hb5 := bU.trans b5
      obtain ⟨m0, m1⟩ := cells hO5.tail.tail
      obtain ⟨m2, m3⟩ := ucells hO5.tail
      have ho1 := hod1 hO5 hb5.size
      go_wp2_with fail
      refine ho1.mono ?_
      rintro e6 w6 ⟨ks1, a1, c1, rfl, _, hks1, _, _, hO6, b6⟩
      obtain rfl := nil1.out ks1 hks1
      have hO6 := hO6.tail
      have hb6 := hb5.trans b6
      obtain ⟨m0, m1⟩ := cells hO6.tail.tail
      obtain ⟨m2, m3⟩ := ucells hO6.tail
      have ho2 := hod2 hO6 hb6.size
      clear hks1
      go_wp2_with fail
      refine ho2.mono ?_
      rintro e7 w7 ⟨ks2, a2, c2, rfl, _, hks2, _, _, hO7, b7⟩
      obtain rfl := nil2.out ks2 hks2
      have hb7 := hb6.trans b7
      clear hks2
      go_wp2_with fail
      refine (awake33 _).mono ?_
      rintro e8 w8 ⟨rfl, b8⟩
      go_wp2_with fail
      go_ret
      exact ⟨rfl, hb7.trans (b8.mono hb7.size)⟩
theorem row_even (width times back at_ n now : Int) (w : World) (h1 : (Lit.int .u8 width).wf = true) (h2 : (Lit.int .u8 times).wf = true) (h3 : (Lit.int .u8 back).wf = true) (h4 : (Lit.int .u16 at_).wf = true) (h5 : (Lit.int .u8 n).wf = true) (h6 : (Lit.int .u16 now).wf = true) :
    Calls Try.prog 13 #[.int .u8 width, .int .u8 times, .int .u8 back, .int .u16 at_, .int .u8 n, .int .u16 now] w fun e w' => e = .returned (.bool true) ∧ Below w.heap.size w w' := by
  have b1 := bounds_u8 h1
  have b2 := bounds_u8 h2
  have b3 := bounds_u8 h3
  have b4 := bounds_u16 h4
  have b5 := bounds_u8 h5
  have b6 := bounds_u16 h6
  exact law_even width times back at_ n now w b1.1 b1.2 b2.1 b2.2 b3.1 b3.2 b4.1 b4.2 b5.1 b5.2 b6.1 b6.2
end Go.Proofs.Pan
