/- season: the document's Now, Then, Right, Same. -/
import Derived.Test.YtfolnnmgnkalkaaSeaPut
namespace Go.Proofs.Pan
open Go.RowKit Go.Cic Go.ChangeMaps
set_option linter.unusedVariables false
set_option linter.unusedSimpArgs false
set_option maxRecDepth 100000
theorem sago_din {W P begin_ : Int} (hW : 1 ≤ W) (hP : P % W = 0) (hb : begin_ % W = 0) (key : ByteArray) (ago : Int) (l : List Add') : din key (begin_ - ago * P) (begin_ - ago * P + W) l = sago W P begin_ (l.map actOf) key ago := by
  refine din_asum hW ?_ key l
  obtain ⟨p, hp⟩ := Int.dvd_of_emod_eq_zero hP
  obtain ⟨q, hq⟩ := Int.dvd_of_emod_eq_zero hb
  rw [hp, hq]
  have : W * q - ago * (W * p) = W * (q - ago * p) := by rw [Int.mul_sub, Int.mul_left_comm]
  rw [this]; exact Int.mul_emod_right _ _
theorem begin_mod {W now : Int} : (now - now % W) % W = 0 := by rw [Int.sub_emod]; simp
section
variable {A : Option Addr} {cap : Nat} {l : List Add'} {w : World} {P Bk W now : Int}
/-- Now. -/
theorem refnow_any (key : ByteArray) (hl : l.length ≤ 1000) (hs : SlAt rdAdd w A l) (hW1 : 1 ≤ W) (hW2 : W ≤ 1099511627776) (hk : ∀ x ∈ l, x.1.size ≤ 1000) (h : sok P Bk W now) :
    Calls Try.prog 42 #[.slice A l.length cap, .int .i64 W, .string key, .int .i64 now] w fun e w' => e = .returned (.int .i64 (sago W P (now - now % W) (l.map actOf) key 0)) ∧ Below w.heap.size w w' := by
  obtain ⟨⟨h1, h2, h3, h4, h5, h6⟩, h7, h8⟩ := h
  obtain ⟨g1, g2⟩ := begin_bd hW1 h7 h8
  have e := sago_din hW1 h4 (begin_mod (W := W) (now := now)) key 0 l
  rw [Int.zero_mul, Int.sub_zero] at e
  rw [← e]
  have hin := in_any A cap l key (now - now % W) W w hl hs hW1 hW2 (by omega) (by omega) hk
  have m0 : 0 ≤ now % W := Int.emod_nonneg _ (by omega)
  clear h4 e
  go_enter Try.func42, Try.ntmps42
  go_wp2_with fail
  refine hin.mono ?_
  rintro e w2 ⟨rfl, b2⟩
  go_wp2_with fail
  go_ret
  exact ⟨rfl, b2⟩
def ThenR (w : World) (bx : Nat) (f : Int → Int) (P Bk : Int) (g : Nat) (n i : Value) (wr : World) : Prop :=
  ∃ k : Nat, (k : Int) ≤ Bk ∧ g = Bk.toNat - k ∧ n = .int .i64 (sthen f k) ∧ i = .int .i64 ((k + 1 : Nat) : Int) ∧ Below w.heap.size w wr ∧ wr.cell? ⟨bx, 0, none⟩ = some (.int .i64 P) ∧ wr.cell? ⟨bx, 1, none⟩ = some (.int .i64 Bk) ∧ w.heap.size < wr.heap.size
set_option maxHeartbeats 2000000 in
/-- Then. -/
theorem refthen_any (key : ByteArray) (hl : l.length ≤ 1000) (hs : SlAt rdAdd w A l) (hW1 : 1 ≤ W) (hW2 : W ≤ 1099511627776) (hk : ∀ x ∈ l, x.1.size ≤ 1000) (h : sok P Bk W now) :
    Calls Try.prog 43 #[.slice A l.length cap, .agg #[.int .i64 P, .int .i64 Bk], .int .i64 W, .string key, .int .i64 now] w fun e w' => e = .returned (.int .i64 (sthen (sago W P (now - now % W) (l.map actOf) key) Bk.toNat)) ∧ Below w.heap.size w w' := by
  obtain ⟨⟨h1, h2, h3, h4, h5, h6⟩, h7, h8⟩ := h
  obtain ⟨g1, g2⟩ := begin_bd hW1 h7 h8
  have ef := fun ago : Int => sago_din hW1 h4 (begin_mod (W := W) (now := now)) key ago l
  have hbd := fun i => sago_bd (W := W) (P := P) (begin_ := now - now % W) (acts := l.map actOf) (by simpa using hl) key i
  obtain ⟨f, hf⟩ : ∃ f, Hid (sago W P (now - now % W) (l.map actOf) key = f) := ⟨_, Hid.mk' rfl⟩
  rw [hf.out] at hbd ⊢
  replace hf := hf.out
  have ef' : ∀ ago : Int, din key (now - now % W - ago * P) (now - now % W - ago * P + W) l = f ago := fun ago => by rw [ef, hf]
  clear ef hf
  replace ef' := Hid.mk' ef'
  have m0 : 0 ≤ now % W := Int.emod_nonneg _ (by omega)
  have hBN : (Bk.toNat : Int) = Bk := Int.toNat_of_nonneg (by omega)
  replace hBN := Hid.mk' hBN
  have hA : Below w.heap.size w (w.alloc (.cells #[.int .i64 P, .int .i64 Bk] 53)) := (Below.refl _ w).alloc (Nat.le_refl _) _
  have hst : ThenR w w.heap.size f P Bk Bk.toNat (.int .i64 0) (.int .i64 1) (w.alloc (.cells #[.int .i64 P, .int .i64 Bk] 53)) := by
    have hO := (Owns.nil w.heap.size w).alloc_cells (Nat.le_refl _) #[.int .i64 P, .int .i64 Bk] 53
    exact ⟨0, by omega, rfl, rfl, rfl, hA, by rw [cell_of hO.cellsE.1]; rfl, by rw [cell_of hO.cellsE.1]; rfl, by simp⟩
  replace hst := Hid.mk' hst
  clear h4
  go_enter Try.func43, Try.ntmps43
  go_wp2_with fail
  go_loopg [11, 12] Bk.toNat (fun g n i wr => ThenR w w.heap.size f P Bk g n i wr)
  case atStart => exact hst.out
  case round =>
    clear hst
    obtain ⟨k, hk2, hgk, rfl, rfl, hbr, c0, c1, hzr⟩ := hrel
    have hsb := sthen_bd hbd k
    have hs1 : sthen f (k + 1) = sthen f k + f ((k + 1 : Nat) : Int) := rfl
    have hb1 := hbd ((k + 1 : Nat) : Int)
    by_cases hlt : ((k + 1 : Nat) : Int) ≤ Bk
    · have m1 : 0 ≤ ((k + 1 : Nat) : Int) * P := Int.mul_nonneg (by omega) (by omega)
      have m2 : ((k + 1 : Nat) : Int) * P ≤ 1000 * P := Int.mul_le_mul_of_nonneg_right (by omega) (by omega)
      have hin := fun (W0 : World) (hb0 : Below w.heap.size w W0) => in_any A cap l key (now - now % W - ((k + 1 : Nat) : Int) * P) W W0 hl (hs.below hb0) hW1 hW2 (by omega) (by omega) hk
      simp only [ef'.out] at hin
      generalize sthen f k = S0 at *
      generalize f ((k + 1 : Nat) : Int) = S1 at *
      obtain ⟨x, hx⟩ : ∃ x, ((k + 1 : Nat) : Int) * P = x := ⟨_, rfl⟩
      have hx2 : ((k : Int) + 1) * P = x := by rw [← hx]; push_cast; rfl
      rw [hx] at m1 m2 hin
      clear hx
      replace hs1 := Hid.mk' hs1
      have hk1000 : (k : Int) ≤ 1000 := by omega
      have hin1 := hin wr.drew hbr.drew
      have hw0 : (W == 0) = false := by simpa using (by omega : W ≠ 0)
      have hw9 : ¬ W = 0 := by omega
      have et : now.tmod W = now % W := Int.tmod_eq_emod_of_nonneg (by omega)
      have e1 : IntKind.i64.wrap (now % W) = now % W := IntWalk.i64_in _ (by omega)
      have e2 : IntKind.i64.wrap (now - now % W) = now - now % W := IntWalk.i64_in _ (by omega)
      have e3 : IntKind.i64.wrap x = x := IntWalk.i64_in _ (by omega)
      have e4 : IntKind.i64.wrap (now - now % W - x) = now - now % W - x := IntWalk.i64_in _ (by omega)
      have e5 : IntKind.i64.wrap (S0 + S1) = S0 + S1 := IntWalk.i64_in _ (by omega)
      go_wp2_with fail
      refine wp_region_held_drew (S := fun w' => w'.cell? ⟨w.heap.size, 0, none⟩ = some (.int .i64 P)) (by kernel_rfl) ?_ (fun hHeld => ?_)
      · (try dsimp only); assumption
      refine wpAnyH_take (i := 0) (v := ?_) (by simp only [List.getElem?_toArray, List.getElem?_cons_zero]; exact rfl) (by kernel_rfl) (by kernel_rfl) (by kernel_rfl) (by exact fun _ _ _ h => h) (Or.inl ⟨by rfl, ?_⟩) (by assumption) ?_; rotate_left; (intro w hSw; (try dsimp only at hSw); go_simp; try with_reducible rfl); try simp only [Act.put, List.setIfInBounds_toArray, List.set_cons_zero, List.set_cons_succ]
      refine wpAnyH_take (i := 1) (v := ?_) (by simp only [List.getElem?_toArray, List.getElem?_cons_succ, List.getElem?_cons_zero]; exact rfl) (by kernel_rfl) (by kernel_rfl) (by kernel_rfl) (by exact fun _ _ _ h => h) (Or.inl ⟨by rfl, ?_⟩) (by assumption) ?_; rotate_left; (intro w hSw; (try dsimp only at hSw); go_simp; try with_reducible rfl); try simp only [Act.put, List.setIfInBounds_toArray, List.set_cons_zero, List.set_cons_succ]
      refine wpAnyH_take (i := 2) (v := ?_) (by simp only [List.getElem?_toArray, List.getElem?_cons_succ, List.getElem?_cons_zero]; exact rfl) (by kernel_rfl) (by kernel_rfl) (by kernel_rfl) (by exact fun _ _ _ h => h) (Or.inl ⟨by rfl, ?_⟩) (by assumption) ?_; rotate_left; (intro w hSw; (try dsimp only at hSw); go_simp; try with_reducible rfl); try simp only [Act.put, List.setIfInBounds_toArray, List.set_cons_zero, List.set_cons_succ]
      refine wpAnyH_take (i := 3) (v := ?_) (by simp only [List.getElem?_toArray, List.getElem?_cons_succ, List.getElem?_cons_zero]; exact rfl) (by kernel_rfl) (by kernel_rfl) (by kernel_rfl) (by exact fun _ _ _ h => h) (Or.inl ⟨by rfl, ?_⟩) (by assumption) ?_; rotate_left; (intro w hSw; (try dsimp only at hSw); go_simp; try with_reducible rfl); try simp only [Act.put, List.setIfInBounds_toArray, List.set_cons_zero, List.set_cons_succ]
      refine wpAnyH_take (i := 4) (v := ?_) (by simp only [List.getElem?_toArray, List.getElem?_cons_succ, List.getElem?_cons_zero]; exact rfl) (by kernel_rfl) (by kernel_rfl) (by kernel_rfl) (by exact fun _ _ _ h => h) (Or.inl ⟨by rfl, ?_⟩) (by assumption) ?_; rotate_left; (intro w hSw; (try dsimp only at hSw); go_simp; try with_reducible rfl); try simp only [Act.put, List.setIfInBounds_toArray, List.set_cons_zero, List.set_cons_succ]
      refine wpAnyH_take (i := 5) (v := ?_) (by simp only [List.getElem?_toArray, List.getElem?_cons_succ, List.getElem?_cons_zero]; exact rfl) (by kernel_rfl) (by kernel_rfl) (by kernel_rfl) (by exact fun _ _ _ h => h) (Or.inl ⟨by rfl, ?_⟩) (by assumption) ?_; rotate_left; (intro w hSw; (try dsimp only at hSw); go_simp; try with_reducible rfl); try simp only [Act.put, List.setIfInBounds_toArray, List.set_cons_zero, List.set_cons_succ]
      refine wpAnyH_take (i := 6) (v := ?_) (by simp only [List.getElem?_toArray, List.getElem?_cons_succ, List.getElem?_cons_zero]; exact rfl) (by kernel_rfl) (by kernel_rfl) (by kernel_rfl) (by exact fun _ _ _ h => h) (Or.inl ⟨by rfl, ?_⟩) (by assumption) ?_; rotate_left; (intro w hSw; (try dsimp only at hSw); go_simp; try with_reducible rfl); try simp only [Act.put, List.setIfInBounds_toArray, List.set_cons_zero, List.set_cons_succ]
      refine wpAnyH_take (i := 7) (v := ?_) (by simp only [List.getElem?_toArray, List.getElem?_cons_succ, List.getElem?_cons_zero]; exact rfl) (by kernel_rfl) (by kernel_rfl) (by kernel_rfl) (by exact fun _ _ _ h => h) (Or.inl ⟨by rfl, ?_⟩) (by assumption) ?_; rotate_left; (intro w hSw; (try dsimp only at hSw); go_simp; try with_reducible rfl); try simp only [Act.put, List.setIfInBounds_toArray, List.set_cons_zero, List.set_cons_succ]
      refine wpAnyH_take (i := 8) (v := ?_) (by simp only [List.getElem?_toArray, List.getElem?_cons_succ, List.getElem?_cons_zero]; exact rfl) (by kernel_rfl) (by kernel_rfl) (by kernel_rfl) (by exact fun _ _ _ h => h) (Or.inl ⟨by rfl, ?_⟩) (by assumption) ?_; rotate_left; (intro w hSw; (try dsimp only at hSw); go_simp; try with_reducible rfl); try simp only [Act.put, List.setIfInBounds_toArray, List.set_cons_zero, List.set_cons_succ]
      refine wpAnyH_take (i := 9) (v := ?_) (by simp only [List.getElem?_toArray, List.getElem?_cons_succ, List.getElem?_cons_zero]; exact rfl) (by kernel_rfl) (by kernel_rfl) (by kernel_rfl) (by exact fun _ _ _ h => h) (Or.inl ⟨by rfl, ?_⟩) (by assumption) ?_; rotate_left; (intro w hSw; (try dsimp only at hSw); go_simp; try with_reducible rfl); try simp only [Act.put, List.setIfInBounds_toArray, List.set_cons_zero, List.set_cons_succ]
      refine wpAnyH_take (i := 10) (v := ?_) (by simp only [List.getElem?_toArray, List.getElem?_cons_succ, List.getElem?_cons_zero]; exact rfl) (by kernel_rfl) (by kernel_rfl) (by kernel_rfl) (by exact fun _ _ _ h => h) (Or.inl ⟨by rfl, ?_⟩) (by assumption) ?_; rotate_left; (intro w hSw; (try dsimp only at hSw); go_simp; try with_reducible rfl); try simp only [Act.put, List.setIfInBounds_toArray, List.set_cons_zero, List.set_cons_succ]
      refine wpAnyH_take (i := 11) (v := ?_) (by simp only [List.getElem?_toArray, List.getElem?_cons_succ, List.getElem?_cons_zero]; exact rfl) (by kernel_rfl) (by kernel_rfl) (by kernel_rfl) (by exact fun _ _ _ h => h) (Or.inl ⟨by rfl, ?_⟩) (by assumption) ?_; rotate_left; (intro w hSw; (try dsimp only at hSw); go_simp; try with_reducible rfl); try simp only [Act.put, List.setIfInBounds_toArray, List.set_cons_zero, List.set_cons_succ]
      refine wpAnyH_take (i := 12) (v := ?_) (by simp only [List.getElem?_toArray, List.getElem?_cons_succ, List.getElem?_cons_zero]; exact rfl) (by kernel_rfl) (by kernel_rfl) (by kernel_rfl) (by exact fun _ _ _ h => h) (Or.inl ⟨by rfl, ?_⟩) (by assumption) ?_; rotate_left; (intro w hSw; (try dsimp only at hSw); go_simp; try with_reducible rfl); try simp only [Act.put, List.setIfInBounds_toArray, List.set_cons_zero, List.set_cons_succ]
      refine wpAnyH_take (i := 13) (v := ?_) (by simp only [List.getElem?_toArray, List.getElem?_cons_succ, List.getElem?_cons_zero]; exact rfl) (by kernel_rfl) (by kernel_rfl) (by kernel_rfl) (by exact fun _ _ _ h => h) (Or.inl ⟨by rfl, ?_⟩) (by assumption) ?_; rotate_left; (intro w hSw; (try dsimp only at hSw); go_simp; try with_reducible rfl); try simp only [Act.put, List.setIfInBounds_toArray, List.set_cons_zero, List.set_cons_succ]
      refine wpAnyH_ready (rs := [14]) (by kernel_rfl) (by simp) ?_
      refine AllReadyH.cons (by simp only [List.getElem?_toArray, List.getElem?_cons_succ, List.getElem?_cons_zero]; exact rfl) (fun K hK => ?_) AllReadyH.nil
      go_simp
      refine hin1.mono ?_
      rintro e w4 ⟨rfl, b4⟩
      have i0 := (b4.cell (p := ⟨w.heap.size, 0, none⟩) hzr).trans c0
      have i1 := (b4.cell (p := ⟨w.heap.size, 1, none⟩) hzr).trans c1
      go_wp2_with fail
      refine hK.out _ _ ?_ (fun hHeld => ?_)
      · (try dsimp only); assumption
      clear hK K
      try simp only [Act.put, List.setIfInBounds_toArray, List.set_cons_zero, List.set_cons_succ]
      refine wpAnyH_take (i := 15) (v := ?_) (by simp only [List.getElem?_toArray, List.getElem?_cons_succ, List.getElem?_cons_zero]; exact rfl) (by kernel_rfl) (by kernel_rfl) (by kernel_rfl) (by exact fun _ _ _ h => h) (Or.inl ⟨by rfl, ?_⟩) (by assumption) ?_; rotate_left; (intro w hSw; (try dsimp only at hSw); go_simp; try with_reducible rfl); try simp only [Act.put, List.setIfInBounds_toArray, List.set_cons_zero, List.set_cons_succ]
      refine wpAnyH_take (i := 16) (v := ?_) (by simp only [List.getElem?_toArray, List.getElem?_cons_succ, List.getElem?_cons_zero]; exact rfl) (by kernel_rfl) (by kernel_rfl) (by kernel_rfl) (by exact fun _ _ _ h => h) (Or.inl ⟨by rfl, ?_⟩) (by assumption) ?_; rotate_left; (intro w hSw; (try dsimp only at hSw); go_simp; try with_reducible rfl); try simp only [Act.put, List.setIfInBounds_toArray, List.set_cons_zero, List.set_cons_succ]
      refine wpAnyH_done (by kernel_rfl) ?_ _
      have hb4 : Below w.heap.size w w4 := hbr.drew.trans (b4.mono hbr.size)
      have hz4 : w.heap.size < w4.heap.size := by have := b4.size; simp at this; omega
      go_wp2_with fail
      go_roundg (Bk.toNat - (k + 1))
      case rel => exact ⟨k + 1, hlt, rfl, by rw [hs1.out], by go_num, hb4, i0, i1, hz4⟩
      case measure => have := hBN.out; omega
    · have hkk : k = Bk.toNat := by have := hBN.out; omega
      subst hkk
      clear hs1 hb1
      go_wp2_with fail
      go_ret
      exact ⟨rfl, hbr⟩
end
end Go.Proofs.Pan
