/- season: Odd. -/
import Derived.Test.YtfolnnmgnkalkaaSeaRefs
namespace Go.Proofs.Pan
open Go.RowKit Go.Cic Go.ChangeMaps
set_option linter.unusedVariables false
set_option linter.unusedSimpArgs false
set_option maxRecDepth 100000
/-- Is a key odd? -/
def oddB (W P Bk begin_ floor : Int) (acts : List Act') (key : ByteArray) : Bool := decide (floor ≤ sago W P begin_ acts key 0 ∧ 2 * sthen (sago W P begin_ acts key) Bk.toNat < sago W P begin_ acts key 0 * Bk)
theorem filter_snoc {γ : Type} {q : γ → Bool} {l : List γ} {y : γ} {k : Nat} (hy : l[k]? = some y) : (l.take (k + 1)).filter q = (l.take k).filter q ++ if q y then [y] else [] := by
  rw [take_succ' hy, List.filter_append]
  by_cases h : q y <;> simp [h]
theorem asum_mem {W a b : Int} {key : ByteArray} {l : List Act'} (h : 0 < asum W (inr key a b) l) : ∃ d ∈ l, d.2.1 = key := by
  induction l with
  | nil => simp [asum] at h
  | cons d r ih =>
    by_cases hd : d.2.1 = key
    · exact ⟨d, by simp, hd⟩
    · rw [asum_cons, inr_no (fun hh => hd hh.1)] at h
      simp at h
      obtain ⟨x, hx, he⟩ := ih h
      exact ⟨x, by simp [hx], he⟩
theorem sago_zero (W P begin_ : Int) (acts : List Act') (key : ByteArray) : sago W P begin_ acts key 0 = asum W (inr key (pn W begin_) (pn W (begin_ + W))) acts := by unfold sago; rw [Int.zero_mul, Int.sub_zero]
section
variable {B p : Nat} {W P Bk now floor : Int} {acts : List Act'} {l : List Asrt} {w : World}
theorem odd_no (hO : Owns B (PanR p W acts :: l) w) (hB : B ≤ w.heap.size) (hP1 : -9223372036854775808 ≤ P) (hP2 : P ≤ 9223372036854775807) (hB1 : -9223372036854775808 ≤ Bk) (hB2 : Bk ≤ 9223372036854775807) (hW1 : 1 ≤ W) (hW2 : W ≤ 1099511627776) (hn1 : -9223372036854775808 ≤ now) (hn2 : now ≤ 9223372036854775807) (h : ¬ sok P Bk W now) :
    Calls Try.prog 38 #[.pointer (some ⟨p, 0, none⟩), .agg #[.int .i64 P, .int .i64 Bk], .int .i64 now, .int .i64 floor] w fun e w' => e = .returned (.slice none 0 0) ∧ Owns B (PanR p W acts :: l) w' ∧ Below B w w' := by
  have hA : Below w.heap.size w (w.alloc (.cells #[.int .i64 P, .int .i64 Bk] 53)) := (Below.refl _ w).alloc (Nat.le_refl _) _
  have hs := sums_no P Bk now (hO.keep hA) (Nat.le_trans hB hA.size) hP1 hP2 hB1 hB2 hW1 hW2 hn1 hn2 h
  go_enter Try.func38, Try.ntmps38
  go_wp2_with fail
  refine hs.mono ?_
  rintro e w4 ⟨⟨v, rfl⟩, hO4, b4⟩
  go_wp2_with fail
  go_ret
  exact ⟨rfl, hO4, (hA.mono hB).trans b4⟩
def OddO (B : Nat) (w : World) (p : Nat) (W P Bk begin_ floor : Int) (b1 b2 b3 : Nat) (acts : List Act') (ks : List ByteArray) (ao : Option Addr) (c bx : Nat) (l : List Asrt) (g : Nat) (v12 i : Value) (wr : World) : Prop :=
  ∃ (j : Nat) (a : Option Addr) (cp : Nat), j ≤ ks.length ∧ g = ks.length - j ∧ i = .int .i64 j ∧ v12 = .slice a ((ks.take j).filter (oddB W P Bk begin_ floor acts)).length cp ∧ Below B w wr ∧
    Owns B (Asrt.rows rdS (.slice a ((ks.take j).filter (oddB W P Bk begin_ floor acts)).length cp) ((ks.take j).filter (oddB W P Bk begin_ floor acts)) :: SeaA p W P Bk begin_ b1 b2 b3 acts :: Asrt.row 9 (.slice ao ks.length c) (ks.map Value.string) :: Asrt.cells bx #[.int .i64 P, .int .i64 Bk] 53 :: l) wr
set_option maxHeartbeats 8000000 in
theorem odd_yes (hO : Owns B (PanR p W acts :: l) w) (hB : B ≤ w.heap.size) (hl : acts.length ≤ 900) (hW1 : 1 ≤ W) (hW2 : W ≤ 1099511627776) (h : sok P Bk W now) (hok : ∀ a ∈ acts, rdS.ok a.2.1) :
    Calls Try.prog 38 #[.pointer (some ⟨p, 0, none⟩), .agg #[.int .i64 P, .int .i64 Bk], .int .i64 now, .int .i64 floor] w fun e w' => ∃ (ks : List ByteArray) (a : Option Addr) (c : Nat), e = .returned (.slice a ks.length c) ∧ Rising ks ∧ (∀ k, k ∈ ks ↔ 0 < sago W P (now - now % W) acts k 0 ∧ oddB W P Bk (now - now % W) floor acts k = true) ∧ ks.length ≤ 1000 ∧ (∀ k ∈ ks, rdS.ok k) ∧
      Owns B (Asrt.rows rdS (.slice a ks.length c) ks :: PanR p W acts :: l) w' ∧ Below B w w' := by
  have hA := (hO.alloc_cells hB #[.int .i64 P, .int .i64 Bk] 53)
  have bA : Below B w (w.alloc (.cells #[.int .i64 P, .int .i64 Bk] 53)) := (Below.refl B w).alloc hB _
  have hn := sean_of (acts := acts) (by omega) hW1 hW2 h
  have h' := h
  obtain ⟨⟨h1, h2, h3, h4, h5, h6⟩, h7, h8⟩ := h'
  have hs := sums_yes P Bk now hA.swap (Nat.le_trans hB bA.size) (by omega) (by omega) (by omega) (by omega) hW1 hW2 (by omega) (by omega) h
  have m0 : 0 ≤ now % W := Int.emod_nonneg _ (by omega)
  obtain ⟨begin_, hbe⟩ : ∃ b, now - now % W = b := ⟨_, rfl⟩
  rw [hbe] at hn hs ⊢
  have hbd := fun k i => sago_bd (W := W) (P := P) (begin_ := begin_) (acts := acts) (by omega) k i
  clear h4 h
  go_enter Try.func38, Try.ntmps38
  go_wp2_with fail
  refine hs.mono ?_
  rintro e w4 ⟨b1, b2, b3, rfl, hO4, b4⟩
  have hb4 := bA.trans b4
  have hz4 := Nat.le_trans hB hb4.size
  have hwd := width_any p W w4 (panR_width (hO4.front 3 _ rfl))
  have hb1' := hn.b1
  have hb2' := hn.b2
  have hk := keysR begin_ (begin_ + W) (hO4.front 3 _ rfl) hz4 (by omega) hW1 hW2 (by omega) (by omega) (by omega) (by omega)
  go_wp2_with fail
  refine hwd.mono ?_
  rintro e w' ⟨rfl, rfl⟩
  replace hbe := hbe
  go_wp2_with fail
  refine hwd.mono ?_
  rintro e w' ⟨rfl, rfl⟩
  go_wp2_with fail
  refine hk.mono ?_
  rintro e w5 ⟨ks, ao, c, rfl, hri, hks, hkl, hO5, b5⟩
  have hb5 := hb4.trans b5
  have hz5 := Nat.le_trans hB hb5.size
  -- row, PanR, b1, b2, b3, box
  have hO6 : Owns B (SeaA p W P Bk begin_ b1 b2 b3 acts :: _) w5 := sea_iff.2 ((hO5.front 1 _ rfl).front 4 _ rfl |>.front 4 _ rfl |>.front 4 _ rfl)
  have hks2 : ∀ k, k ∈ ks ↔ 0 < sago W P begin_ acts k 0 := fun k => by rw [hks, sago_zero]
  have hokk : ∀ k ∈ ks, rdS.ok k := fun k hk => by
    obtain ⟨d, hd, rfl⟩ := asum_mem ((hks k).1 hk)
    exact hok d hd
  have hst : OddO B w p W P Bk begin_ floor b1 b2 b3 acts ks ao c w.heap.size l ks.length (.slice none 0 0) (.int .i64 0) w5 := ⟨0, none, 0, Nat.zero_le _, rfl, rfl, by simp, hb5, by simpa using (hO6.rowsNil (r := rdS))⟩
  replace hst := Hid.mk' hst
  replace hks2 := Hid.mk' hks2
  clear hks hk hwd hO5 hO6 b5 hs hA hO4
  go_wp2_with fail
  go_loopg [12, 39] ks.length (fun g v12 i wr => OddO B w p W P Bk begin_ floor b1 b2 b3 acts ks ao c w.heap.size l g v12 i wr)
  case atStart => exact hst.out
  case round =>
    clear hst
    obtain ⟨j, a, cp, hj, hgj, rfl, rfl, hbr, hOr⟩ := hrel
    have hzr := Nat.le_trans hB hbr.size
    have hcl : ((ks.take j).filter (oddB W P Bk begin_ floor acts)).length ≤ 1000 := by
      have e1 := List.length_filter_le (oddB W P Bk begin_ floor acts) (ks.take j)
      have e2 : (ks.take j).length ≤ ks.length := by rw [List.length_take]; omega
      omega
    by_cases hlt : j < ks.length
    · have hy : ks[j]? = some (ks[j]'(by omega)) := List.getElem?_eq_getElem (by omega)
      generalize (ks[j]'(by omega)) = y at hy
      have hyk := hokk y (List.mem_of_getElem? hy)
      have hfs := filter_snoc (q := oddB W P Bk begin_ floor acts) hy
      obtain ⟨b4', o4, i4, f4, _⟩ := Lies.idx (P := Try.prog) (c := c) Try.underlying35 size9 (hOr.front 2 _ rfl).rowLies.1 (by rw [List.length_map]) (k := j) (u := .string y) (by rw [List.getElem?_map, hy]; rfl)
      have hclo := clo_own y 0 (hOr.front 1 _ rfl) hzr hn (by omega) (by omega)
      obtain ⟨hn1, hn2⟩ := hbd y 0
      have htb := sthen_bd (hbd y) Bk.toNat
      have hth := fun {lA : List Asrt} {W0 : World} (hO : Owns B (SeaA p W P Bk begin_ b1 b2 b3 acts :: lA) W0) (hB : B ≤ W0.heap.size) => then_own y hO hB hn
      have hodd : oddB W P Bk begin_ floor acts y = decide (floor ≤ sago W P begin_ acts y 0 ∧ 2 * sthen (sago W P begin_ acts y) Bk.toNat < sago W P begin_ acts y 0 * Bk) := rfl
      have hBN : (Bk.toNat : Int) = Bk := Int.toNat_of_nonneg (by omega)
      obtain ⟨n0, hn0⟩ : ∃ n0, Hid (sago W P begin_ acts y 0 = n0) := ⟨_, Hid.mk' rfl⟩
      obtain ⟨th, hth0⟩ : ∃ th, Hid (sthen (sago W P begin_ acts y) Bk.toNat = th) := ⟨_, Hid.mk' rfl⟩
      rw [hn0.out] at hclo hodd hn1 hn2
      rw [hth0.out] at hodd htb
      simp only [hth0.out] at hth
      have hm1 : 0 ≤ n0 * Bk := Int.mul_nonneg hn1 (by omega)
      have hm2 : n0 * Bk ≤ 1048576000 * Bk := Int.mul_le_mul_of_nonneg_right hn2 (by omega)
      have htb2 : 0 ≤ th ∧ th ≤ 1048576000000 := by
        refine ⟨htb.1, ?_⟩
        have := htb.2
        have h9 : (Bk.toNat : Int) * 1048576000 ≤ 1000 * 1048576000 := Int.mul_le_mul_of_nonneg_right (by omega) (by omega)
        omega
      obtain ⟨x, hx⟩ : ∃ x, n0 * Bk = x := ⟨_, rfl⟩
      rw [hx] at hm1 hm2 hodd
      obtain ⟨htb3, htb4⟩ := htb2
      replace hfs := Hid.mk' hfs
      clear htb hBN
      by_cases hfl : floor ≤ n0
      · go_wp2_with fail
        refine hclo.mono ?_
        rintro e w6 ⟨rfl, hO6, b6⟩
        have hb6 := hbr.trans b6
        have c0 : w6.cell? ⟨w.heap.size, 0, none⟩ = some (.int .i64 P) := by rw [cell_of (hO6.front 3 _ rfl).cellsE.1]; rfl
        have c1 : w6.cell? ⟨w.heap.size, 1, none⟩ = some (.int .i64 Bk) := by rw [cell_of (hO6.front 3 _ rfl).cellsE.1]; rfl
        have hth1 := hth hO6.drew (Nat.le_trans hB hb6.size)
        have e1 : IntKind.i64.wrap x = x := IntWalk.i64_in _ (by omega)
        have e2 : IntKind.i64.wrap (2 * th) = 2 * th := IntWalk.i64_in _ (by omega)
        clear hclo hth
        go_wp2_with fail
        have t1 : decide (floor ≤ n0) = true := decide_eq_true (by omega)
        go_region_held3 (fun w' => w'.cell? ⟨w.heap.size, 0, none⟩ = some (.int .i64 P) ∧ w'.cell? ⟨w.heap.size, 1, none⟩ = some (.int .i64 Bk)) (go_keep)
          ((go_at_call 54; refine hth1.mono ?_; rintro e w7 ⟨rfl, hO7, b7⟩; have hx0 := (hO7.front 3 _ rfl).cellsE; have i0 : w7.cell? ⟨w.heap.size, 0, none⟩ = some (.int .i64 P) := (by rw [cell_of hx0.1]; rfl); have i1 : w7.cell? ⟨w.heap.size, 1, none⟩ = some (.int .i64 Bk) := (by rw [cell_of hx0.1]; rfl)))
        have hb7 := hb6.drew.trans b7
        have hO8 := hO7.front 1 _ rfl
        by_cases hod : 2 * th < x
        · have hq : oddB W P Bk begin_ floor acts y = true := by rw [hodd]; exact decide_eq_true ⟨hfl, hod⟩
          rw [hq] at hfs
          have hokf : ∀ k ∈ (ks.take j).filter (oddB W P Bk begin_ floor acts), rdS.ok k := fun k hk => hokk k (List.mem_of_mem_take (List.mem_filter.1 hk).1)
          generalize (ks.take j).filter (oddB W P Bk begin_ floor acts) = out at *
          obtain ⟨sl1, hO9, b9⟩ := SlAt.ofLit hO8 (Nat.le_trans hB hb7.size) y hyk (cs := #[.string y]) rfl
          have hb9 := hb7.trans b9
          obtain ⟨a6, c6, w8, hr6, hO10, b10⟩ := VS.app 35 hO9 hokf (Nat.le_trans hB hb9.size) (c := 1) sl1 (m := 1) rfl (N := out.length + 1) rfl (by omega)
          have hb10 := hb9.trans b10
          have hlen9 : (out ++ [y]).length = out.length + 1 := by simp
          replace hlen9 := Hid.mk' hlen9
          have hfs2 : Hid ((ks.take (j + 1)).filter (oddB W P Bk begin_ floor acts) = out ++ [y]) := Hid.mk' (by rw [hfs.out]; rfl)
          clear hO9 b9 hb9 sl1 hodd hq hfs
          go_wp2_with (refine wpList_appRun hr6 rfl rfl rfl rfl rfl ?_; clear hr6)
          go_roundg (ks.length - (j + 1))
          case rel => exact ⟨j + 1, a6, c6, by omega, rfl, by go_num, by rw [hfs2.out, hlen9.out], hb10, by rw [hfs2.out, hlen9.out]; exact hO10⟩
          case measure => omega
        · have hq : oddB W P Bk begin_ floor acts y = false := by rw [hodd]; exact decide_eq_false (fun h => hod h.2)
          rw [hq] at hfs
          clear hodd hq
          go_wp2_with fail
          go_roundg (ks.length - (j + 1))
          case rel => exact ⟨j + 1, a, cp, by omega, rfl, by go_num, by rw [hfs.out]; simp, hb7, by rw [hfs.out]; simpa using hO8⟩
          case measure => omega
      · have hq : oddB W P Bk begin_ floor acts y = false := by rw [hodd]; exact decide_eq_false (fun h => hfl h.1)
        rw [hq] at hfs
        clear hodd hq
        go_wp2_with fail
        refine hclo.mono ?_
        rintro e w6 ⟨rfl, hO6, b6⟩
        have hb6 := hbr.trans b6
        have c0 : w6.drew.cell? ⟨w.heap.size, 0, none⟩ = some (.int .i64 P) := by
          show w6.cell? _ = _
          rw [cell_of (hO6.front 3 _ rfl).cellsE.1]; rfl
        have c1 : w6.drew.cell? ⟨w.heap.size, 1, none⟩ = some (.int .i64 Bk) := by
          show w6.cell? _ = _
          rw [cell_of (hO6.front 3 _ rfl).cellsE.1]; rfl
        go_wp2_with fail
        have t1 : decide (floor ≤ n0) = false := decide_eq_false (by omega)
        refine wp_region_held_drew (S := fun w' => w'.cell? ⟨w.heap.size, 0, none⟩ = some (.int .i64 P) ∧ w'.cell? ⟨w.heap.size, 1, none⟩ = some (.int .i64 Bk)) (by kernel_rfl) ?_ (fun hHeld => ?_)
        · (try dsimp only); exact ⟨by assumption, by assumption⟩
        refine wpAnyH_take (i := 0) (v := ?_) (by simp only [List.getElem?_toArray, List.getElem?_cons_succ, List.getElem?_cons_zero]; exact rfl) (by kernel_rfl) (by kernel_rfl) (by kernel_rfl) (by exact fun _ _ _ h => h) (Or.inl ⟨by rfl, ?_⟩) (by assumption) ?_; rotate_left; (intro w hSw; (try dsimp only at hSw); go_simp; try with_reducible rfl); try simp only [Act.put, List.setIfInBounds_toArray, List.set_cons_zero, List.set_cons_succ]
        refine wpAnyH_take (i := 1) (v := ?_) (by simp only [List.getElem?_toArray, List.getElem?_cons_succ, List.getElem?_cons_zero]; exact rfl) (by kernel_rfl) (by kernel_rfl) (by kernel_rfl) (by exact fun _ _ _ h => h) (Or.inl ⟨by rfl, ?_⟩) (by assumption) ?_; rotate_left; (intro w hSw; (try dsimp only at hSw); go_simp; try with_reducible rfl); try simp only [Act.put, List.setIfInBounds_toArray, List.set_cons_zero, List.set_cons_succ]
        refine wpAnyH_take (i := 2) (v := ?_) (by simp only [List.getElem?_toArray, List.getElem?_cons_succ, List.getElem?_cons_zero]; exact rfl) (by kernel_rfl) (by kernel_rfl) (by kernel_rfl) (by exact fun _ _ _ h => h) (Or.inl ⟨by rfl, ?_⟩) (by assumption) ?_; rotate_left; (intro w hSw; (try dsimp only at hSw); go_simp; try with_reducible rfl); try simp only [Act.put, List.setIfInBounds_toArray, List.set_cons_zero, List.set_cons_succ]
        refine wpAnyH_take (i := 3) (v := ?_) (by simp only [List.getElem?_toArray, List.getElem?_cons_succ, List.getElem?_cons_zero]; exact rfl) (by kernel_rfl) (by kernel_rfl) (by kernel_rfl) (by exact fun _ _ _ h => h) (Or.inl ⟨by rfl, ?_⟩) (by assumption) ?_; rotate_left; (intro w hSw; (try dsimp only at hSw); go_simp; try with_reducible rfl); try simp only [Act.put, List.setIfInBounds_toArray, List.set_cons_zero, List.set_cons_succ]
        refine wpAnyH_take (i := 4) (v := undef) (by simp only [List.getElem?_toArray, List.getElem?_cons_succ, List.getElem?_cons_zero]; exact rfl) (by kernel_rfl) (by kernel_rfl) (by kernel_rfl) (by exact fun _ _ _ h => h) (Or.inr ⟨by rfl, rfl⟩) (by assumption) ?_; try simp only [Act.put, List.setIfInBounds_toArray, List.set_cons_zero, List.set_cons_succ]
        refine wpAnyH_take (i := 5) (v := undef) (by simp only [List.getElem?_toArray, List.getElem?_cons_succ, List.getElem?_cons_zero]; exact rfl) (by kernel_rfl) (by kernel_rfl) (by kernel_rfl) (by exact fun _ _ _ h => h) (Or.inr ⟨by rfl, rfl⟩) (by assumption) ?_; try simp only [Act.put, List.setIfInBounds_toArray, List.set_cons_zero, List.set_cons_succ]
        refine wpAnyH_take (i := 6) (v := undef) (by simp only [List.getElem?_toArray, List.getElem?_cons_succ, List.getElem?_cons_zero]; exact rfl) (by kernel_rfl) (by kernel_rfl) (by kernel_rfl) (by exact fun _ _ _ h => h) (Or.inr ⟨by rfl, rfl⟩) (by assumption) ?_; try simp only [Act.put, List.setIfInBounds_toArray, List.set_cons_zero, List.set_cons_succ]
        refine wpAnyH_take (i := 7) (v := undef) (by simp only [List.getElem?_toArray, List.getElem?_cons_succ, List.getElem?_cons_zero]; exact rfl) (by kernel_rfl) (by kernel_rfl) (by kernel_rfl) (by exact fun _ _ _ h => h) (Or.inr ⟨by rfl, rfl⟩) (by assumption) ?_; try simp only [Act.put, List.setIfInBounds_toArray, List.set_cons_zero, List.set_cons_succ]
        refine wpAnyH_take (i := 8) (v := undef) (by simp only [List.getElem?_toArray, List.getElem?_cons_succ, List.getElem?_cons_zero]; exact rfl) (by kernel_rfl) (by kernel_rfl) (by kernel_rfl) (by exact fun _ _ _ h => h) (Or.inr ⟨by rfl, rfl⟩) (by assumption) ?_; try simp only [Act.put, List.setIfInBounds_toArray, List.set_cons_zero, List.set_cons_succ]
        refine wpAnyH_take (i := 9) (v := undef) (by simp only [List.getElem?_toArray, List.getElem?_cons_succ, List.getElem?_cons_zero]; exact rfl) (by kernel_rfl) (by kernel_rfl) (by kernel_rfl) (by exact fun _ _ _ h => h) (Or.inr ⟨by rfl, rfl⟩) (by assumption) ?_; try simp only [Act.put, List.setIfInBounds_toArray, List.set_cons_zero, List.set_cons_succ]
        refine wpAnyH_take (i := 10) (v := undef) (by simp only [List.getElem?_toArray, List.getElem?_cons_succ, List.getElem?_cons_zero]; exact rfl) (by kernel_rfl) (by kernel_rfl) (by kernel_rfl) (by exact fun _ _ _ h => h) (Or.inr ⟨by rfl, rfl⟩) (by assumption) ?_; try simp only [Act.put, List.setIfInBounds_toArray, List.set_cons_zero, List.set_cons_succ]
        refine wpAnyH_take (i := 11) (v := undef) (by simp only [List.getElem?_toArray, List.getElem?_cons_succ, List.getElem?_cons_zero]; exact rfl) (by kernel_rfl) (by kernel_rfl) (by kernel_rfl) (by exact fun _ _ _ h => h) (Or.inr ⟨by rfl, rfl⟩) (by assumption) ?_; try simp only [Act.put, List.setIfInBounds_toArray, List.set_cons_zero, List.set_cons_succ]
        refine wpAnyH_take (i := 12) (v := undef) (by simp only [List.getElem?_toArray, List.getElem?_cons_succ, List.getElem?_cons_zero]; exact rfl) (by kernel_rfl) (by kernel_rfl) (by kernel_rfl) (by exact fun _ _ _ h => h) (Or.inr ⟨by rfl, rfl⟩) (by assumption) ?_; try simp only [Act.put, List.setIfInBounds_toArray, List.set_cons_zero, List.set_cons_succ]
        refine wpAnyH_take (i := 13) (v := undef) (by simp only [List.getElem?_toArray, List.getElem?_cons_succ, List.getElem?_cons_zero]; exact rfl) (by kernel_rfl) (by kernel_rfl) (by kernel_rfl) (by exact fun _ _ _ h => h) (Or.inr ⟨by rfl, rfl⟩) (by assumption) ?_; try simp only [Act.put, List.setIfInBounds_toArray, List.set_cons_zero, List.set_cons_succ]
        refine wpAnyH_take (i := 14) (v := ?_) (by simp only [List.getElem?_toArray, List.getElem?_cons_succ, List.getElem?_cons_zero]; exact rfl) (by kernel_rfl) (by kernel_rfl) (by kernel_rfl) (by exact fun _ _ _ h => h) (Or.inl ⟨by rfl, ?_⟩) (by assumption) ?_; rotate_left; (intro w hSw; (try dsimp only at hSw); go_simp; try with_reducible rfl); try simp only [Act.put, List.setIfInBounds_toArray, List.set_cons_zero, List.set_cons_succ]
        refine wpAnyH_done (by kernel_rfl) ?_ _
        go_wp2_with fail
        go_roundg (ks.length - (j + 1))
        case rel => exact ⟨j + 1, a, cp, by omega, rfl, by go_num, by rw [hfs.out]; simp, hb6.drew, by rw [hfs.out]; simpa using (hO6.front 1 _ rfl).drew⟩
        case measure => omega
    · rw [List.take_of_length_le (by omega)] at hOr hcl ⊢
      have hO9 := (sea_iff.1 (hOr.front 1 _ rfl)).tail.tail.tail
      have hfin : ∀ k, k ∈ ks.filter (oddB W P Bk begin_ floor acts) ↔ 0 < sago W P begin_ acts k 0 ∧ oddB W P Bk begin_ floor acts k = true := fun k => by rw [List.mem_filter, hks2.out]
      have hO10 := ((hO9.front 3 _ rfl).tail.front 2 _ rfl).tail.swap
      replace hfin := Hid.mk' hfin
      have hri2 : Rising (ks.filter (oddB W P Bk begin_ floor acts)) := hri.sublist List.filter_sublist
      have hok2 : ∀ k ∈ ks.filter (oddB W P Bk begin_ floor acts), rdS.ok k := fun k hk => hokk k (List.mem_filter.1 hk).1
      go_wp2_with fail
      go_ret
      exact ⟨_, a, cp, rfl, hri2, hfin.out, hcl, hok2, hO10, hbr⟩
end
end Go.Proofs.Pan
