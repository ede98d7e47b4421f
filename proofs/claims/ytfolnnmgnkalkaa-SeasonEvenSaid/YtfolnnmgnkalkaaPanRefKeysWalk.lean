/- pane: the walk of the document's Keys. -/
import Derived.Test.YtfolnnmgnkalkaaPanRefKeys
import Derived.Test.YtfolnnmgnkalkaaPanDoDrop
import Derived.Test.YtfolnnmgnkalkaaCicVec
namespace Go.Proofs.Pan
open Go.RowKit Go.Cic Go.ChangeMaps
set_option linter.unusedVariables false
set_option linter.unusedSimpArgs false
set_option maxRecDepth 100000
noncomputable def rdS : Rd Try.prog 9 ByteArray := Rd.str Try.underlying9 co9
theorem VS : Vec (P := Try.prog) 35 rdS := ⟨Try.underlying35, by decide, fun w => by kernel_rfl, ⟨_, _, rfl, rfl, by decide⟩, fun x u h => by
  have : rdS.cells x = [.string x] := rfl
  rw [this] at h
  simp at h; subst h; rfl⟩
def KeysO (B q : Nat) (width count F T : Int) (L : List Sm) (ao : Option Addr) (c : Nat) (l : List Asrt) (w0 : World) (g : Nat) (v7 i : Value) (wr : World) : Prop :=
  ∃ (j : Nat) (ks : List ByteArray), j ≤ L.length ∧ g = L.length - j ∧ i = .int .i64 j ∧ KInv L F T j ks ∧ (∀ x ∈ ks, rdS.ok x) ∧ Below B w0 wr ∧ Owns B (Asrt.rows rdS v7 ks :: Asrt.cells q #[.int .i64 width, .slice ao L.length c, .int .i64 count] 47 :: Asrt.rows rdSum (.slice ao L.length c) L :: l) wr
set_option maxHeartbeats 4000000 in
theorem refkeys_own {B q : Nat} {width count : Int} {L : List Sm} {l : List Asrt} {w : World} (from_ to_ : Int) (hO : Owns B (RefA q width L count :: l) w) (hB : B ≤ w.heap.size) (hok : ∀ x ∈ L, rdSum.ok x) (hlen : L.length ≤ 1000) (hL : ∀ s ∈ L, 0 ≤ s.2.2 ∧ s.2.2 ≤ 1048576) (h1 : 1 ≤ width) (h2 : width ≤ 1099511627776)
    (hf1 : -9223372036854775808 ≤ from_) (hf2 : from_ ≤ 9223372036854775807) (ht1 : -9223372036854775808 ≤ to_) (ht2 : to_ ≤ 9223372036854775807) :
    Calls Try.prog 29 #[.pointer (some ⟨q, 0, none⟩), .int .i64 from_, .int .i64 to_] w fun e w' => ∃ (ks : List ByteArray) (ao : Option Addr) (c : Nat), e = .returned (.slice ao ks.length c) ∧ Rising ks ∧ (∀ k, k ∈ ks ↔ 0 < rsum k (pn width from_) (pn width to_) L) ∧ ks.length ≤ 1000 ∧ (∀ x ∈ ks, rdS.ok x) ∧
      Owns B (Asrt.rows rdS (.slice ao ks.length c) ks :: RefA q width L count :: l) w' ∧ Below B w w' := by
  have hsum := fun (key : ByteArray) {lA : List Asrt} {W : World} (hO : Owns B (RefA q width L count :: lA) W) => refsum_own key from_ to_ hO hok hlen hL h1 h2 hf1 hf2 ht1 ht2
  generalize pn width from_ = F at hsum ⊢
  generalize pn width to_ = T at hsum ⊢
  obtain ⟨v, hO⟩ := ref_iff.1 hO
  obtain ⟨ao, c, rfl, hsl⟩ := sums_at hO.swap hok
  have hst : KeysO B q width count F T L ao c l w L.length (.slice none 0 0) (.int .i64 0) w := ⟨0, [], Nat.zero_le _, rfl, rfl, KInv.start L F T, by simp, Below.refl B w, hO.rowsNil⟩
  replace hst := Hid.mk' hst
  go_enter Try.func29, Try.ntmps29
  go_wp2_with fail
  go_loopg [7, 8] L.length (fun g v7 i wr => KeysO B q width count F T L ao c l w g v7 i wr)
  case atStart => exact hst.out
  case round =>
    clear hst
    obtain ⟨j, ks, hj, hgj, rfl, hinv, hoks, hbr, hOr⟩ := hrel
    have hzr := hbr.size
    obtain ⟨hc3, _⟩ := (hOr.front 1 _ rfl).cellsE
    have c1 : wr.cell? ⟨q, 1, none⟩ = some (.slice ao L.length c) := by rw [cell_of hc3]; rfl
    have hks := hinv.len
    obtain ⟨ak, ck, rfl, hkc, hsk⟩ := VS.at_ hOr hoks
    by_cases hlt : j < L.length
    · have hy : L[j]? = some (L[j]'(by omega)) := List.getElem?_eq_getElem (by omega)
      generalize (L[j]'(by omega)) = y at hy
      obtain ⟨bb, o, hidx, hc, _⟩ := (sums_lie (hOr.front 2 _ rfl) hok).1.idx (cap := c) Try.underlying45 size89 rfl hy
      obtain ⟨d0, _, _⟩ := sum_at hc
      have hyk : rdS.ok y.1 := (hok y (List.mem_of_getElem? hy)).1
      replace hy := Hid.mk' hy
      clear hc
      go_wp2_with fail
      go_loop [10] (fun kk => ∃ k : Nat, k ≤ ks.length ∧ kk = .int .i64 k ∧ ∀ x ∈ ks.take k, x.toList < y.1.toList) (fun kk => ks.length - (intOf kk).toNat)
      case atStart => exact ⟨0, Nat.zero_le _, rfl, by simp⟩
      case round =>
        obtain ⟨k, hk, rfl, hless⟩ := hrel
        by_cases hgo : ∃ x, ks[k]? = some x ∧ x.toList < y.1.toList
        · obtain ⟨x, hx, hxl⟩ := hgo
          have hkl : k < ks.length := (List.getElem?_eq_some_iff.1 hx).1
          obtain ⟨b3, o3, hidx3, hc4, _⟩ := VS.idx (c := ck) hsk rfl hx
          have f0 : wr.cell? ⟨b3, o3, none⟩ = some (.string x) := hc4 0 _ rfl
          have t1 : Op.bytesLess x.toList y.1.toList = true := by rw [bytesLess_eq]; exact decide_eq_true hxl
          have hnx : ∀ z ∈ ks.take (k + 1), z.toList < y.1.toList := fun z hz => by
            rw [take_succ' hx] at hz
            rcases List.mem_append.1 hz with hz | hz
            · exact hless z hz
            · obtain rfl : z = x := by simpa using hz
              exact hxl
          replace hnx := Hid.mk' hnx
          clear hc4 hx hless
          go_wp2_with fail
          go_round
          case rel => exact ⟨k + 1, by omega, by go_num, hnx.out⟩
          case measure => simp [intOf]; omega
        · have hpl : Place ks y.1 k := ⟨hk, hless, fun x hx hl => hgo ⟨x, hx, hl⟩⟩
          have hbd := rsum_bd (key := y.1) (a := F) (b := T) (L := L) hL
          have hsm := hsum y.1 (ref_iff.2 ⟨_, hOr.tail⟩)
          have ends : ∀ (W : World), Below B w W → Owns B (Asrt.rows rdS (.slice ak ks.length ck) ks :: Asrt.cells q #[.int .i64 width, .slice ao L.length c, .int .i64 count] 47 :: Asrt.rows rdSum (.slice ao L.length c) L :: l) W → (y.1 ∈ ks ∨ ¬ 0 < rsum y.1 F T L) → KeysO B q width count F T L ao c l w (L.length - (j + 1)) (.slice ak ks.length ck) (.int .i64 (j + 1 : Nat)) W :=
            fun W hbW hOW hn => ⟨j + 1, ks, by omega, rfl, rfl, hinv.skip hy.out hn, hoks, hbW, hOW⟩
          have hins := fun (hp : 0 < rsum y.1 F T L) (hne : ∀ x, ks[k]? = some x → x ≠ y.1) => hinv.put hy.out hp hpl hne
          obtain ⟨rs, hrs⟩ : ∃ rs, rsum y.1 F T L = rs := ⟨_, rfl⟩
          rw [hrs] at hsm hbd ends hins
          by_cases hput : 0 < rs ∧ ∀ x, ks[k]? = some x → x ≠ y.1
          · obtain ⟨hp, hne⟩ := hput
            have hins' := Hid.mk' (hins hp hne)
            have hlen3 : (ks.take k ++ [y.1] ++ ks.drop k).length = ks.length + 1 := by simp; omega
            have hok3 : ∀ x ∈ ks.take k ++ [y.1] ++ ks.drop k, rdS.ok x := fun x hx => by
              rcases (mem_insert x).1 hx with rfl | hx
              · exact hyk
              · exact hoks x hx
            have hcs : k = ks.length ∨ ∃ x, ks[k]? = some x ∧ (x.toList == y.1.toList) = false ∧ Op.bytesLess x.toList y.1.toList = false ∧ k < ks.length := by
              by_cases hkl : k = ks.length
              · exact .inl hkl
              · refine .inr ⟨_, List.getElem?_eq_getElem (by omega), ?_, ?_, by omega⟩
                · have := hne _ (List.getElem?_eq_getElem (by omega : k < ks.length))
                  exact beq_eq_false_iff_ne.2 (fun e => this (str_inj e))
                · rw [bytesLess_eq]; exact decide_eq_false (hpl.at_ _ (List.getElem?_eq_getElem (by omega)))
            rcases hcs with rfl | ⟨x, hx, t1, t2, hkl⟩
            · have fin : ∀ (W : World) (a3 : Option Addr) (c3 : Nat), Below B w W → Owns B (Asrt.rows rdS (.slice a3 (ks.length + 1) c3) (ks.take ks.length ++ [y.1] ++ ks.drop ks.length) :: Asrt.rows rdS (.slice ak ks.length ck) ks :: Asrt.cells q #[.int .i64 width, .slice ao L.length c, .int .i64 count] 47 :: Asrt.rows rdSum (.slice ao L.length c) L :: l) W → KeysO B q width count F T L ao c l w (L.length - (j + 1)) (.slice a3 (ks.length + 1) c3) (.int .i64 (j + 1 : Nat)) W :=
                fun W a3 c3 hbW hOW => ⟨j + 1, ks.take ks.length ++ [y.1] ++ ks.drop ks.length, by omega, rfl, rfl, hins'.out, hok3, hbW, (hOW.front 1 _ rfl).tail⟩
              have sl1 := VS.runTo ak ks.length ck ks.length (by omega)
              have sl2 := VS.runFrom ak ks.length ck ks.length hk
              have ins := fun (m : Nat) => VS.ins3d 35 (hOr.drewN m) (Nat.le_trans hB hzr) hoks hk y.1 hyk (by omega) (cs := #[.string y.1]) rfl
              generalize (if ck = 0 then ak else ak.map (·.add (0 * rdS.n))) = A1 at sl1 ins
              generalize (if ck = ks.length then ak else ak.map (·.add (ks.length * rdS.n))) = A2 at sl2 ins
              generalize ks.length - ks.length = dn at sl2 ins
              generalize ck - ks.length = dc at sl2 ins
              replace hgo := Hid.mk' hgo
              clear hinv hins hlen3 hok3 hless hpl hoks ends hrs
              go_wp2_with fail
              refine hsm.mono ?_
              rintro e w2 ⟨rfl, _, b2, m, rfl⟩
              have hbm : Below B w (wr.drewN m) := (hbr.trans (Below.drewN' wr m |>.mono (Nat.le_trans hB hzr)))
              obtain ⟨⟨a1, d1, x1, a2, d2, x2, a3, d3, x3, r1, r2, r3, O3, B3⟩, ⟨e1, g1, y1, e2, g2, y2, e3, g3, y3, s1, s2, s3, P3, C3⟩, ⟨i1, m1, z1, i2, m2, z2, i3, m3, z3, q1, q2, q3, Q3, D3⟩⟩ := ins m
              replace O3 := Hid.mk' (fin _ _ _ (hbm.trans B3) O3)
              replace P3 := Hid.mk' (fin _ _ _ (hbm.trans C3) P3)
              replace Q3 := Hid.mk' (fin _ _ _ (hbm.trans D3) Q3)
              clear B3 C3 D3 fin ins
              generalize wr.drewN m = wq at *
              go_wp2_with fail
              refine wp_region_held_drew (S := fun _ => True) (by kernel_rfl) trivial (fun hHeld => ?_)
              refine wpAnyH_take (i := 1) (v := ?_) (by simp only [List.getElem?_toArray, List.getElem?_cons_succ, List.getElem?_cons_zero]; exact rfl) (by kernel_rfl) (by kernel_rfl) (by kernel_rfl) (by exact fun _ _ _ h => h) (Or.inl ⟨by rfl, ?_⟩) (by assumption) ?_; rotate_left; (intro w hSw; (try dsimp only at hSw); go_simp; try with_reducible rfl); try simp only [Act.put, List.setIfInBounds_toArray, List.set_cons_zero, List.set_cons_succ]
              refine wpAnyH_take (i := 2) (v := ?_) (by simp only [List.getElem?_toArray, List.getElem?_cons_succ, List.getElem?_cons_zero]; exact rfl) (by kernel_rfl) (by kernel_rfl) (by kernel_rfl) (by exact fun _ _ _ h => h) (Or.inl ⟨by rfl, ?_⟩) (by assumption) ?_; rotate_left; (intro w hSw; (try dsimp only at hSw); go_simp; try with_reducible rfl); try simp only [Act.put, List.setIfInBounds_toArray, List.set_cons_zero, List.set_cons_succ]
              refine wpAnyH_take (i := 3) (v := ?_) (by simp only [List.getElem?_toArray, List.getElem?_cons_succ, List.getElem?_cons_zero]; exact rfl) (by kernel_rfl) (by kernel_rfl) (by kernel_rfl) (by exact fun _ _ _ h => h) (Or.inl ⟨by rfl, ?_⟩) (by assumption) ?_; rotate_left; (intro w hSw; (try dsimp only at hSw); go_simp; try with_reducible rfl); try simp only [Act.put, List.setIfInBounds_toArray, List.set_cons_zero, List.set_cons_succ]
              refine wpAnyH_take (i := 5) (v := ?_) (by simp only [List.getElem?_toArray, List.getElem?_cons_succ, List.getElem?_cons_zero]; exact rfl) (by kernel_rfl) (by kernel_rfl) (by kernel_rfl) (by exact fun _ _ _ h => h) (Or.inl ⟨by rfl, ?_⟩) (by assumption) ?_; rotate_left; (intro w hSw; (try dsimp only at hSw); go_simp; try with_reducible rfl); try simp only [Act.put, List.setIfInBounds_toArray, List.set_cons_zero, List.set_cons_succ]
              refine wpAnyH_take (i := 8) (v := ?_) (by simp only [List.getElem?_toArray, List.getElem?_cons_succ, List.getElem?_cons_zero]; exact rfl) (by kernel_rfl) (by kernel_rfl) (by kernel_rfl) (by exact fun _ _ _ h => h) (Or.inl ⟨by rfl, ?_⟩) (by assumption) ?_; rotate_left; (intro w hSw; (try dsimp only at hSw); go_simp; try with_reducible rfl); try simp only [Act.put, List.setIfInBounds_toArray, List.set_cons_zero, List.set_cons_succ]
              refine wpAnyH_take (i := 9) (v := ?_) (by simp only [List.getElem?_toArray, List.getElem?_cons_succ, List.getElem?_cons_zero]; exact rfl) (by kernel_rfl) (by kernel_rfl) (by kernel_rfl) (by exact fun _ _ _ h => h) (Or.inl ⟨by rfl, ?_⟩) (by assumption) ?_; rotate_left; (intro w hSw; (try dsimp only at hSw); go_simp; try with_reducible rfl); try simp only [Act.put, List.setIfInBounds_toArray, List.set_cons_zero, List.set_cons_succ]
              refine wpAnyH_take (i := 10) (v := ?_) (by simp only [List.getElem?_toArray, List.getElem?_cons_succ, List.getElem?_cons_zero]; exact rfl) (by kernel_rfl) (by kernel_rfl) (by kernel_rfl) (by exact fun _ _ _ h => h) (Or.inl ⟨by rfl, ?_⟩) (by assumption) ?_; rotate_left; (intro w hSw; (try dsimp only at hSw); go_simp; try with_reducible rfl); try simp only [Act.put, List.setIfInBounds_toArray, List.set_cons_zero, List.set_cons_succ]
              refine wpAnyH_ready (rs := [0, 6]) (by kernel_rfl) (by simp) ?_
              refine AllReadyH.cons (by simp only [List.getElem?_toArray, List.getElem?_cons_succ, List.getElem?_cons_zero]; exact rfl) (fun K hK => ?_) ?_
              · go_simp
                refine hK.out _ _ trivial (fun hHeld => ?_)
                clear hK K
                try simp only [Act.put, List.setIfInBounds_toArray, List.set_cons_zero, List.set_cons_succ]
                refine wpAnyH_ready (rs := [4, 6]) (by kernel_rfl) (by simp) ?_
                refine AllReadyH.cons (by simp only [List.getElem?_toArray, List.getElem?_cons_succ, List.getElem?_cons_zero]; exact rfl) (fun K hK => ?_) ?_
                · refine step_appRun r1 rfl rfl (by rfl) rfl rfl ?_
                  refine hK.out _ _ trivial (fun hHeld => ?_)
                  clear hK K
                  try simp only [Act.put, List.setIfInBounds_toArray, List.set_cons_zero, List.set_cons_succ]
                  refine wpAnyH_ready (rs := [6]) (by kernel_rfl) (by simp) ?_
                  refine AllReadyH.cons (by simp only [List.getElem?_toArray, List.getElem?_cons_succ, List.getElem?_cons_zero]; exact rfl) (fun K hK => ?_) AllReadyH.nil
                  go_simp
                  refine hK.out _ _ trivial (fun hHeld => ?_)
                  clear hK K
                  try simp only [Act.put, List.setIfInBounds_toArray, List.set_cons_zero, List.set_cons_succ]
                  refine wpAnyH_ready (rs := [7]) (by kernel_rfl) (by simp) ?_
                  refine AllReadyH.cons (by simp only [List.getElem?_toArray, List.getElem?_cons_succ, List.getElem?_cons_zero]; exact rfl) (fun K hK => ?_) AllReadyH.nil
                  refine step_appRun r2 rfl rfl (by rfl) rfl rfl ?_
                  refine hK.out _ _ trivial (fun hHeld => ?_)
                  clear hK K
                  try simp only [Act.put, List.setIfInBounds_toArray, List.set_cons_zero, List.set_cons_succ]
                  refine wpAnyH_ready (rs := [11]) (by kernel_rfl) (by simp) ?_
                  refine AllReadyH.cons (by simp only [List.getElem?_toArray, List.getElem?_cons_succ, List.getElem?_cons_zero]; exact rfl) (fun K hK => ?_) AllReadyH.nil
                  refine step_appRun r3 rfl rfl (by rfl) rfl rfl ?_
                  refine hK.out _ _ trivial (fun hHeld => ?_)
                  clear hK K
                  try simp only [Act.put, List.setIfInBounds_toArray, List.set_cons_zero, List.set_cons_succ]
                  refine wpAnyH_take (i := 12) (v := ?_) (by simp only [List.getElem?_toArray, List.getElem?_cons_succ, List.getElem?_cons_zero]; exact rfl) (by kernel_rfl) (by kernel_rfl) (by kernel_rfl) (by exact fun _ _ _ h => h) (Or.inl ⟨by rfl, ?_⟩) (by assumption) ?_; rotate_left; (intro w hSw; (try dsimp only at hSw); go_simp; try with_reducible rfl); try simp only [Act.put, List.setIfInBounds_toArray, List.set_cons_zero, List.set_cons_succ]
                  refine wpAnyH_done (by kernel_rfl) ?_ _
                  go_wp2_with fail
                  go_roundg (L.length - (j + 1))
                  case rel => exact O3.out
                  case measure => omega
                · refine AllReadyH.cons (by simp only [List.getElem?_toArray, List.getElem?_cons_succ, List.getElem?_cons_zero]; exact rfl) (fun K hK => ?_) AllReadyH.nil
                  go_simp
                  refine hK.out _ _ trivial (fun hHeld => ?_)
                  clear hK K
                  try simp only [Act.put, List.setIfInBounds_toArray, List.set_cons_zero, List.set_cons_succ]
                  refine wpAnyH_ready (rs := [4]) (by kernel_rfl) (by simp) ?_
                  refine AllReadyH.cons (by simp only [List.getElem?_toArray, List.getElem?_cons_succ, List.getElem?_cons_zero]; exact rfl) (fun K hK => ?_) AllReadyH.nil
                  refine step_appRun s1 rfl rfl (by rfl) rfl rfl ?_
                  refine hK.out _ _ trivial (fun hHeld => ?_)
                  clear hK K
                  try simp only [Act.put, List.setIfInBounds_toArray, List.set_cons_zero, List.set_cons_succ]
                  refine wpAnyH_ready (rs := [7]) (by kernel_rfl) (by simp) ?_
                  refine AllReadyH.cons (by simp only [List.getElem?_toArray, List.getElem?_cons_succ, List.getElem?_cons_zero]; exact rfl) (fun K hK => ?_) AllReadyH.nil
                  refine step_appRun s2 rfl rfl (by rfl) rfl rfl ?_
                  refine hK.out _ _ trivial (fun hHeld => ?_)
                  clear hK K
                  try simp only [Act.put, List.setIfInBounds_toArray, List.set_cons_zero, List.set_cons_succ]
                  refine wpAnyH_ready (rs := [11]) (by kernel_rfl) (by simp) ?_
                  refine AllReadyH.cons (by simp only [List.getElem?_toArray, List.getElem?_cons_succ, List.getElem?_cons_zero]; exact rfl) (fun K hK => ?_) AllReadyH.nil
                  refine step_appRun s3 rfl rfl (by rfl) rfl rfl ?_
                  refine hK.out _ _ trivial (fun hHeld => ?_)
                  clear hK K
                  try simp only [Act.put, List.setIfInBounds_toArray, List.set_cons_zero, List.set_cons_succ]
                  refine wpAnyH_take (i := 12) (v := ?_) (by simp only [List.getElem?_toArray, List.getElem?_cons_succ, List.getElem?_cons_zero]; exact rfl) (by kernel_rfl) (by kernel_rfl) (by kernel_rfl) (by exact fun _ _ _ h => h) (Or.inl ⟨by rfl, ?_⟩) (by assumption) ?_; rotate_left; (intro w hSw; (try dsimp only at hSw); go_simp; try with_reducible rfl); try simp only [Act.put, List.setIfInBounds_toArray, List.set_cons_zero, List.set_cons_succ]
                  refine wpAnyH_done (by kernel_rfl) ?_ _
                  go_wp2_with fail
                  go_roundg (L.length - (j + 1))
                  case rel => exact P3.out
                  case measure => omega
              · refine AllReadyH.cons (by simp only [List.getElem?_toArray, List.getElem?_cons_succ, List.getElem?_cons_zero]; exact rfl) (fun K hK => ?_) AllReadyH.nil
                go_simp
                refine hK.out _ _ trivial (fun hHeld => ?_)
                clear hK K
                try simp only [Act.put, List.setIfInBounds_toArray, List.set_cons_zero, List.set_cons_succ]
                refine wpAnyH_ready (rs := [0]) (by kernel_rfl) (by simp) ?_
                refine AllReadyH.cons (by simp only [List.getElem?_toArray, List.getElem?_cons_succ, List.getElem?_cons_zero]; exact rfl) (fun K hK => ?_) AllReadyH.nil
                go_simp
                refine hK.out _ _ trivial (fun hHeld => ?_)
                clear hK K
                try simp only [Act.put, List.setIfInBounds_toArray, List.set_cons_zero, List.set_cons_succ]
                refine wpAnyH_ready (rs := [4]) (by kernel_rfl) (by simp) ?_
                refine AllReadyH.cons (by simp only [List.getElem?_toArray, List.getElem?_cons_succ, List.getElem?_cons_zero]; exact rfl) (fun K hK => ?_) AllReadyH.nil
                refine step_appRun q1 rfl rfl (by rfl) rfl rfl ?_
                refine hK.out _ _ trivial (fun hHeld => ?_)
                clear hK K
                try simp only [Act.put, List.setIfInBounds_toArray, List.set_cons_zero, List.set_cons_succ]
                refine wpAnyH_ready (rs := [7]) (by kernel_rfl) (by simp) ?_
                refine AllReadyH.cons (by simp only [List.getElem?_toArray, List.getElem?_cons_succ, List.getElem?_cons_zero]; exact rfl) (fun K hK => ?_) AllReadyH.nil
                refine step_appRun q2 rfl rfl (by rfl) rfl rfl ?_
                refine hK.out _ _ trivial (fun hHeld => ?_)
                clear hK K
                try simp only [Act.put, List.setIfInBounds_toArray, List.set_cons_zero, List.set_cons_succ]
                refine wpAnyH_ready (rs := [11]) (by kernel_rfl) (by simp) ?_
                refine AllReadyH.cons (by simp only [List.getElem?_toArray, List.getElem?_cons_succ, List.getElem?_cons_zero]; exact rfl) (fun K hK => ?_) AllReadyH.nil
                refine step_appRun q3 rfl rfl (by rfl) rfl rfl ?_
                refine hK.out _ _ trivial (fun hHeld => ?_)
                clear hK K
                try simp only [Act.put, List.setIfInBounds_toArray, List.set_cons_zero, List.set_cons_succ]
                refine wpAnyH_take (i := 12) (v := ?_) (by simp only [List.getElem?_toArray, List.getElem?_cons_succ, List.getElem?_cons_zero]; exact rfl) (by kernel_rfl) (by kernel_rfl) (by kernel_rfl) (by exact fun _ _ _ h => h) (Or.inl ⟨by rfl, ?_⟩) (by assumption) ?_; rotate_left; (intro w hSw; (try dsimp only at hSw); go_simp; try with_reducible rfl); try simp only [Act.put, List.setIfInBounds_toArray, List.set_cons_zero, List.set_cons_succ]
                refine wpAnyH_done (by kernel_rfl) ?_ _
                go_wp2_with fail
                go_roundg (L.length - (j + 1))
                case rel => exact Q3.out
                case measure => omega
            · obtain ⟨b3, o3, hidx3, hc4, _⟩ := VS.idx (c := ck) hsk rfl hx
              have f0 : wr.cell? ⟨b3, o3, none⟩ = some (.string x) := hc4 0 _ rfl
              clear hc4
              have fin : ∀ (W : World) (a3 : Option Addr) (c3 : Nat), Below B w W → Owns B (Asrt.rows rdS (.slice a3 (ks.length + 1) c3) (ks.take k ++ [y.1] ++ ks.drop k) :: Asrt.rows rdS (.slice ak ks.length ck) ks :: Asrt.cells q #[.int .i64 width, .slice ao L.length c, .int .i64 count] 47 :: Asrt.rows rdSum (.slice ao L.length c) L :: l) W → KeysO B q width count F T L ao c l w (L.length - (j + 1)) (.slice a3 (ks.length + 1) c3) (.int .i64 (j + 1 : Nat)) W :=
                fun W a3 c3 hbW hOW => ⟨j + 1, ks.take k ++ [y.1] ++ ks.drop k, by omega, rfl, rfl, hins'.out, hok3, hbW, (hOW.front 1 _ rfl).tail⟩
              have sl1 := VS.runTo ak ks.length ck k (by omega)
              have sl2 := VS.runFrom ak ks.length ck k hk
              have ins := fun (m : Nat) => VS.ins3d 35 (hOr.drewN m) (Nat.le_trans hB hzr) hoks hk y.1 hyk (by omega) (cs := #[.string y.1]) rfl
              generalize (if ck = 0 then ak else ak.map (·.add (0 * rdS.n))) = A1 at sl1 ins
              generalize (if ck = k then ak else ak.map (·.add (k * rdS.n))) = A2 at sl2 ins
              generalize ks.length - k = dn at sl2 ins
              generalize ck - k = dc at sl2 ins
              replace hgo := Hid.mk' hgo
              clear hinv hins hlen3 hok3 hless hpl hoks ends hrs
              go_wp2_with fail
              refine hsm.mono ?_
              rintro e w2 ⟨rfl, _, b2, m, rfl⟩
              have fq : (wr.drewN m).cell? ⟨b3, o3, none⟩ = some (.string x) := f0
              have hbm : Below B w (wr.drewN m) := (hbr.trans (Below.drewN' wr m |>.mono (Nat.le_trans hB hzr)))
              obtain ⟨⟨a1, d1, x1, a2, d2, x2, a3, d3, x3, r1, r2, r3, O3, B3⟩, ⟨e1, g1, y1, e2, g2, y2, e3, g3, y3, s1, s2, s3, P3, C3⟩, ⟨i1, m1, z1, i2, m2, z2, i3, m3, z3, q1, q2, q3, Q3, D3⟩⟩ := ins m
              replace O3 := Hid.mk' (fin _ _ _ (hbm.trans B3) O3)
              replace P3 := Hid.mk' (fin _ _ _ (hbm.trans C3) P3)
              replace Q3 := Hid.mk' (fin _ _ _ (hbm.trans D3) Q3)
              clear B3 C3 D3 fin ins
              generalize wr.drewN m = wq at *
              go_wp2_with fail
              refine wp_region_held_drew (S := fun _ => True) (by kernel_rfl) trivial (fun hHeld => ?_)
              refine wpAnyH_take (i := 1) (v := ?_) (by simp only [List.getElem?_toArray, List.getElem?_cons_succ, List.getElem?_cons_zero]; exact rfl) (by kernel_rfl) (by kernel_rfl) (by kernel_rfl) (by exact fun _ _ _ h => h) (Or.inl ⟨by rfl, ?_⟩) (by assumption) ?_; rotate_left; (intro w hSw; (try dsimp only at hSw); go_simp; try with_reducible rfl); try simp only [Act.put, List.setIfInBounds_toArray, List.set_cons_zero, List.set_cons_succ]
              refine wpAnyH_take (i := 2) (v := ?_) (by simp only [List.getElem?_toArray, List.getElem?_cons_succ, List.getElem?_cons_zero]; exact rfl) (by kernel_rfl) (by kernel_rfl) (by kernel_rfl) (by exact fun _ _ _ h => h) (Or.inl ⟨by rfl, ?_⟩) (by assumption) ?_; rotate_left; (intro w hSw; (try dsimp only at hSw); go_simp; try with_reducible rfl); try simp only [Act.put, List.setIfInBounds_toArray, List.set_cons_zero, List.set_cons_succ]
              refine wpAnyH_take (i := 3) (v := ?_) (by simp only [List.getElem?_toArray, List.getElem?_cons_succ, List.getElem?_cons_zero]; exact rfl) (by kernel_rfl) (by kernel_rfl) (by kernel_rfl) (by exact fun _ _ _ h => h) (Or.inl ⟨by rfl, ?_⟩) (by assumption) ?_; rotate_left; (intro w hSw; (try dsimp only at hSw); go_simp; try with_reducible rfl); try simp only [Act.put, List.setIfInBounds_toArray, List.set_cons_zero, List.set_cons_succ]
              refine wpAnyH_take (i := 5) (v := ?_) (by simp only [List.getElem?_toArray, List.getElem?_cons_succ, List.getElem?_cons_zero]; exact rfl) (by kernel_rfl) (by kernel_rfl) (by kernel_rfl) (by exact fun _ _ _ h => h) (Or.inl ⟨by rfl, ?_⟩) (by assumption) ?_; rotate_left; (intro w hSw; (try dsimp only at hSw); go_simp; try with_reducible rfl); try simp only [Act.put, List.setIfInBounds_toArray, List.set_cons_zero, List.set_cons_succ]
              refine wpAnyH_take (i := 8) (v := ?_) (by simp only [List.getElem?_toArray, List.getElem?_cons_succ, List.getElem?_cons_zero]; exact rfl) (by kernel_rfl) (by kernel_rfl) (by kernel_rfl) (by exact fun _ _ _ h => h) (Or.inl ⟨by rfl, ?_⟩) (by assumption) ?_; rotate_left; (intro w hSw; (try dsimp only at hSw); go_simp; try with_reducible rfl); try simp only [Act.put, List.setIfInBounds_toArray, List.set_cons_zero, List.set_cons_succ]
              refine wpAnyH_take (i := 9) (v := ?_) (by simp only [List.getElem?_toArray, List.getElem?_cons_succ, List.getElem?_cons_zero]; exact rfl) (by kernel_rfl) (by kernel_rfl) (by kernel_rfl) (by exact fun _ _ _ h => h) (Or.inl ⟨by rfl, ?_⟩) (by assumption) ?_; rotate_left; (intro w hSw; (try dsimp only at hSw); go_simp; try with_reducible rfl); try simp only [Act.put, List.setIfInBounds_toArray, List.set_cons_zero, List.set_cons_succ]
              refine wpAnyH_take (i := 10) (v := ?_) (by simp only [List.getElem?_toArray, List.getElem?_cons_succ, List.getElem?_cons_zero]; exact rfl) (by kernel_rfl) (by kernel_rfl) (by kernel_rfl) (by exact fun _ _ _ h => h) (Or.inl ⟨by rfl, ?_⟩) (by assumption) ?_; rotate_left; (intro w hSw; (try dsimp only at hSw); go_simp; try with_reducible rfl); try simp only [Act.put, List.setIfInBounds_toArray, List.set_cons_zero, List.set_cons_succ]
              refine wpAnyH_ready (rs := [0, 6]) (by kernel_rfl) (by simp) ?_
              refine AllReadyH.cons (by simp only [List.getElem?_toArray, List.getElem?_cons_succ, List.getElem?_cons_zero]; exact rfl) (fun K hK => ?_) ?_
              · go_simp
                refine hK.out _ _ trivial (fun hHeld => ?_)
                clear hK K
                try simp only [Act.put, List.setIfInBounds_toArray, List.set_cons_zero, List.set_cons_succ]
                refine wpAnyH_ready (rs := [4, 6]) (by kernel_rfl) (by simp) ?_
                refine AllReadyH.cons (by simp only [List.getElem?_toArray, List.getElem?_cons_succ, List.getElem?_cons_zero]; exact rfl) (fun K hK => ?_) ?_
                · refine step_appRun r1 rfl rfl (by rfl) rfl rfl ?_
                  refine hK.out _ _ trivial (fun hHeld => ?_)
                  clear hK K
                  try simp only [Act.put, List.setIfInBounds_toArray, List.set_cons_zero, List.set_cons_succ]
                  refine wpAnyH_ready (rs := [6]) (by kernel_rfl) (by simp) ?_
                  refine AllReadyH.cons (by simp only [List.getElem?_toArray, List.getElem?_cons_succ, List.getElem?_cons_zero]; exact rfl) (fun K hK => ?_) AllReadyH.nil
                  go_simp
                  refine hK.out _ _ trivial (fun hHeld => ?_)
                  clear hK K
                  try simp only [Act.put, List.setIfInBounds_toArray, List.set_cons_zero, List.set_cons_succ]
                  refine wpAnyH_ready (rs := [7]) (by kernel_rfl) (by simp) ?_
                  refine AllReadyH.cons (by simp only [List.getElem?_toArray, List.getElem?_cons_succ, List.getElem?_cons_zero]; exact rfl) (fun K hK => ?_) AllReadyH.nil
                  refine step_appRun r2 rfl rfl (by rfl) rfl rfl ?_
                  refine hK.out _ _ trivial (fun hHeld => ?_)
                  clear hK K
                  try simp only [Act.put, List.setIfInBounds_toArray, List.set_cons_zero, List.set_cons_succ]
                  refine wpAnyH_ready (rs := [11]) (by kernel_rfl) (by simp) ?_
                  refine AllReadyH.cons (by simp only [List.getElem?_toArray, List.getElem?_cons_succ, List.getElem?_cons_zero]; exact rfl) (fun K hK => ?_) AllReadyH.nil
                  refine step_appRun r3 rfl rfl (by rfl) rfl rfl ?_
                  refine hK.out _ _ trivial (fun hHeld => ?_)
                  clear hK K
                  try simp only [Act.put, List.setIfInBounds_toArray, List.set_cons_zero, List.set_cons_succ]
                  refine wpAnyH_take (i := 12) (v := ?_) (by simp only [List.getElem?_toArray, List.getElem?_cons_succ, List.getElem?_cons_zero]; exact rfl) (by kernel_rfl) (by kernel_rfl) (by kernel_rfl) (by exact fun _ _ _ h => h) (Or.inl ⟨by rfl, ?_⟩) (by assumption) ?_; rotate_left; (intro w hSw; (try dsimp only at hSw); go_simp; try with_reducible rfl); try simp only [Act.put, List.setIfInBounds_toArray, List.set_cons_zero, List.set_cons_succ]
                  refine wpAnyH_done (by kernel_rfl) ?_ _
                  go_wp2_with fail
                  go_roundg (L.length - (j + 1))
                  case rel => exact O3.out
                  case measure => omega
                · refine AllReadyH.cons (by simp only [List.getElem?_toArray, List.getElem?_cons_succ, List.getElem?_cons_zero]; exact rfl) (fun K hK => ?_) AllReadyH.nil
                  go_simp
                  refine hK.out _ _ trivial (fun hHeld => ?_)
                  clear hK K
                  try simp only [Act.put, List.setIfInBounds_toArray, List.set_cons_zero, List.set_cons_succ]
                  refine wpAnyH_ready (rs := [4]) (by kernel_rfl) (by simp) ?_
                  refine AllReadyH.cons (by simp only [List.getElem?_toArray, List.getElem?_cons_succ, List.getElem?_cons_zero]; exact rfl) (fun K hK => ?_) AllReadyH.nil
                  refine step_appRun s1 rfl rfl (by rfl) rfl rfl ?_
                  refine hK.out _ _ trivial (fun hHeld => ?_)
                  clear hK K
                  try simp only [Act.put, List.setIfInBounds_toArray, List.set_cons_zero, List.set_cons_succ]
                  refine wpAnyH_ready (rs := [7]) (by kernel_rfl) (by simp) ?_
                  refine AllReadyH.cons (by simp only [List.getElem?_toArray, List.getElem?_cons_succ, List.getElem?_cons_zero]; exact rfl) (fun K hK => ?_) AllReadyH.nil
                  refine step_appRun s2 rfl rfl (by rfl) rfl rfl ?_
                  refine hK.out _ _ trivial (fun hHeld => ?_)
                  clear hK K
                  try simp only [Act.put, List.setIfInBounds_toArray, List.set_cons_zero, List.set_cons_succ]
                  refine wpAnyH_ready (rs := [11]) (by kernel_rfl) (by simp) ?_
                  refine AllReadyH.cons (by simp only [List.getElem?_toArray, List.getElem?_cons_succ, List.getElem?_cons_zero]; exact rfl) (fun K hK => ?_) AllReadyH.nil
                  refine step_appRun s3 rfl rfl (by rfl) rfl rfl ?_
                  refine hK.out _ _ trivial (fun hHeld => ?_)
                  clear hK K
                  try simp only [Act.put, List.setIfInBounds_toArray, List.set_cons_zero, List.set_cons_succ]
                  refine wpAnyH_take (i := 12) (v := ?_) (by simp only [List.getElem?_toArray, List.getElem?_cons_succ, List.getElem?_cons_zero]; exact rfl) (by kernel_rfl) (by kernel_rfl) (by kernel_rfl) (by exact fun _ _ _ h => h) (Or.inl ⟨by rfl, ?_⟩) (by assumption) ?_; rotate_left; (intro w hSw; (try dsimp only at hSw); go_simp; try with_reducible rfl); try simp only [Act.put, List.setIfInBounds_toArray, List.set_cons_zero, List.set_cons_succ]
                  refine wpAnyH_done (by kernel_rfl) ?_ _
                  go_wp2_with fail
                  go_roundg (L.length - (j + 1))
                  case rel => exact P3.out
                  case measure => omega
              · refine AllReadyH.cons (by simp only [List.getElem?_toArray, List.getElem?_cons_succ, List.getElem?_cons_zero]; exact rfl) (fun K hK => ?_) AllReadyH.nil
                go_simp
                refine hK.out _ _ trivial (fun hHeld => ?_)
                clear hK K
                try simp only [Act.put, List.setIfInBounds_toArray, List.set_cons_zero, List.set_cons_succ]
                refine wpAnyH_ready (rs := [0]) (by kernel_rfl) (by simp) ?_
                refine AllReadyH.cons (by simp only [List.getElem?_toArray, List.getElem?_cons_succ, List.getElem?_cons_zero]; exact rfl) (fun K hK => ?_) AllReadyH.nil
                go_simp
                refine hK.out _ _ trivial (fun hHeld => ?_)
                clear hK K
                try simp only [Act.put, List.setIfInBounds_toArray, List.set_cons_zero, List.set_cons_succ]
                refine wpAnyH_ready (rs := [4]) (by kernel_rfl) (by simp) ?_
                refine AllReadyH.cons (by simp only [List.getElem?_toArray, List.getElem?_cons_succ, List.getElem?_cons_zero]; exact rfl) (fun K hK => ?_) AllReadyH.nil
                refine step_appRun q1 rfl rfl (by rfl) rfl rfl ?_
                refine hK.out _ _ trivial (fun hHeld => ?_)
                clear hK K
                try simp only [Act.put, List.setIfInBounds_toArray, List.set_cons_zero, List.set_cons_succ]
                refine wpAnyH_ready (rs := [7]) (by kernel_rfl) (by simp) ?_
                refine AllReadyH.cons (by simp only [List.getElem?_toArray, List.getElem?_cons_succ, List.getElem?_cons_zero]; exact rfl) (fun K hK => ?_) AllReadyH.nil
                refine step_appRun q2 rfl rfl (by rfl) rfl rfl ?_
                refine hK.out _ _ trivial (fun hHeld => ?_)
                clear hK K
                try simp only [Act.put, List.setIfInBounds_toArray, List.set_cons_zero, List.set_cons_succ]
                refine wpAnyH_ready (rs := [11]) (by kernel_rfl) (by simp) ?_
                refine AllReadyH.cons (by simp only [List.getElem?_toArray, List.getElem?_cons_succ, List.getElem?_cons_zero]; exact rfl) (fun K hK => ?_) AllReadyH.nil
                refine step_appRun q3 rfl rfl (by rfl) rfl rfl ?_
                refine hK.out _ _ trivial (fun hHeld => ?_)
                clear hK K
                try simp only [Act.put, List.setIfInBounds_toArray, List.set_cons_zero, List.set_cons_succ]
                refine wpAnyH_take (i := 12) (v := ?_) (by simp only [List.getElem?_toArray, List.getElem?_cons_succ, List.getElem?_cons_zero]; exact rfl) (by kernel_rfl) (by kernel_rfl) (by kernel_rfl) (by exact fun _ _ _ h => h) (Or.inl ⟨by rfl, ?_⟩) (by assumption) ?_; rotate_left; (intro w hSw; (try dsimp only at hSw); go_simp; try with_reducible rfl); try simp only [Act.put, List.setIfInBounds_toArray, List.set_cons_zero, List.set_cons_succ]
                refine wpAnyH_done (by kernel_rfl) ?_ _
                go_wp2_with fail
                go_roundg (L.length - (j + 1))
                case rel => exact Q3.out
                case measure => omega
          · have hn : y.1 ∈ ks ∨ ¬ 0 < rs := by
              by_cases hp : 0 < rs
              · left
                apply Classical.byContradiction
                intro hno
                exact hput ⟨hp, fun x hx e => hno (e ▸ List.mem_of_getElem? hx)⟩
              · exact .inr hp
            have hcs : (rs ≤ 0 ∧ k = ks.length) ∨ (rs ≤ 0 ∧ ∃ x, ks[k]? = some x ∧ Op.bytesLess x.toList y.1.toList = false ∧ k < ks.length) ∨ (0 < rs ∧ ks[k]? = some y.1 ∧ Op.bytesLess y.1.toList y.1.toList = false ∧ k < ks.length) := by
              have hl : ∀ x, ks[k]? = some x → Op.bytesLess x.toList y.1.toList = false := fun x hx => by rw [bytesLess_eq]; exact decide_eq_false (hpl.at_ _ hx)
              by_cases hp : 0 < rs
              · refine .inr (.inr ⟨hp, ?_⟩)
                apply Classical.byContradiction
                intro hno
                refine hput ⟨hp, fun x hx e => ?_⟩
                subst e
                exact hno ⟨hx, hl _ hx, (List.getElem?_eq_some_iff.1 hx).1⟩
              · by_cases hkl : k = ks.length
                · exact .inl ⟨by omega, hkl⟩
                · exact .inr (.inl ⟨by omega, _, List.getElem?_eq_getElem (by omega), hl _ (List.getElem?_eq_getElem (by omega)), by omega⟩)
            have fin := fun (m : Nat) => ends (wr.drewN m) (hbr.trans (Below.drewN' wr m |>.mono (Nat.le_trans hB hzr))) (hOr.drewN m) hn
            replace hgo := Hid.mk' hgo
            clear hinv hins hless hpl hoks ends hrs hput hn
            rcases hcs with ⟨hp, rfl⟩ | ⟨hp, x, hx, t2, hkl⟩ | ⟨hp, hx, t2, hkl⟩
            · go_wp2_with fail
              refine hsm.mono ?_
              rintro e w2 ⟨rfl, _, b2, m, rfl⟩
              replace fin := Hid.mk' (fin m)
              generalize wr.drewN m = wq at *
              go_wp2_with fail
              go_roundg (L.length - (j + 1))
              case rel => exact fin.out
              case measure => omega
            · obtain ⟨b3, o3, hidx3, hc4, _⟩ := VS.idx (c := ck) hsk rfl hx
              have f0 : wr.cell? ⟨b3, o3, none⟩ = some (.string x) := hc4 0 _ rfl
              clear hc4
              go_wp2_with fail
              refine hsm.mono ?_
              rintro e w2 ⟨rfl, _, b2, m, rfl⟩
              replace fin := Hid.mk' (fin m)
              generalize wr.drewN m = wq at *
              go_wp2_with fail
              go_roundg (L.length - (j + 1))
              case rel => exact fin.out
              case measure => omega
            · obtain ⟨b3, o3, hidx3, hc4, _⟩ := VS.idx (c := ck) hsk rfl hx
              have f0 : wr.cell? ⟨b3, o3, none⟩ = some (.string y.1) := hc4 0 _ rfl
              have t1 : (y.1.toList != y.1.toList) = false := by simp
              clear hc4
              go_wp2_with fail
              refine hsm.mono ?_
              rintro e w2 ⟨rfl, _, b2, m, rfl⟩
              have fq : (wr.drewN m).cell? ⟨b3, o3, none⟩ = some (.string y.1) := f0
              replace fin := Hid.mk' (fin m)
              generalize wr.drewN m = wq at *
              go_wp2_with fail
              go_roundg (L.length - (j + 1))
              case rel => exact fin.out
              case measure => omega
    · obtain rfl : j = L.length := by omega
      have hfin : Owns B (Asrt.rows rdS (.slice ak ks.length ck) ks :: RefA q width L count :: l) wr := (ref_iff.2 ⟨_, (hOr.front 1 _ rfl).front 2 _ rfl |>.front 1 _ rfl⟩).swap
      replace hfin := Hid.mk' hfin
      replace hinv := Hid.mk' hinv
      clear hOr
      go_wp2_with fail
      go_ret
      exact ⟨ks, ak, ck, rfl, hinv.out.rising, hinv.out.done, by omega, hoks, hfin.out, hbr⟩
end Go.Proofs.Pan
