/- FrameRows: the walk of the law. -/
import Derived.Test.YtnjakbkecimjcaaFraRowsPlain
namespace Go.Proofs.Fra
open Go.RowKit Go.Cic Go.ChangeMaps
set_option linter.unusedVariables false
set_option maxRecDepth 100000
theorem info3 : (Try.prog.info? 3).map (fun i => (i.zero, i.size, i.bytes)) = some (some (Value.int .i64 0), 1, 8) := by kernel_rfl
theorem size22 (w : World) : (sizeOf 22).run Try.prog w = .ok 1 w := by kernel_rfl
theorem size3 (w : World) : (sizeOf 3).run Try.prog w = .ok 1 w := by kernel_rfl
theorem und45 : Try.prog.underlying 45 = some (.slice 3) := Try.underlying45
def endV (L : List (List UInt8)) (k : Nat) : List Value := (List.range k).map fun j => Value.int .i64 (endN (L.take (j + 1)))
theorem endV_succ (L : List (List UInt8)) (k : Nat) : endV L (k + 1) = endV L k ++ [Value.int .i64 (endN (L.take (k + 1)))] := by unfold endV; rw [List.range_succ, List.map_append]; rfl
theorem endV_len (L : List (List UInt8)) (k : Nat) : (endV L k).length = k := by simp [endV]
theorem endN_le (L : List (List UInt8)) (k : Nat) (h : ∀ q ∈ L.take k, q.length ≤ 1000) : endN (L.take k) ≤ 1010 * k := by
  induction k with
  | zero => simp [endN, rowsL]
  | succ k ih =>
    have h1 := ih (fun q hq => h q (List.take_subset_take_left L (by omega) hq))
    rw [List.take_add_one]
    cases hk : L[k]? with
    | none => simp; omega
    | some q =>
      have := h q (by rw [List.take_add_one, hk]; simp)
      simp only [Option.toList_some]
      rw [endN_snoc]; omega
def RowS (B : Nat) (w : World) (L : List (List UInt8)) (b e i : Value) (wr : World) : Prop :=
  ∃ (k : Nat) (ab ae : Option Addr) (cb ce : Nat), k ≤ L.length ∧ i = .int .i64 k ∧ b = .slice ab (endN (L.take k)) cb ∧ e = .slice ae k ce ∧ Below B w wr ∧ (∀ q ∈ L.take k, q.length ≤ 1000) ∧
    Owns B [Asrt.row 5 (.slice ab (endN (L.take k)) cb) (bv (rowsL (L.take k))), Asrt.row 3 (.slice ae k ce) (endV L k)] wr
set_option maxHeartbeats 4000000 in
theorem law_rows (ap : Option Addr) (cp : Nat) (L : List (List UInt8)) (cut : Int) (w : World) (hl : L.length ≤ maxLen) (hR : RowsRead w ap L) (h1 : -9223372036854775808 ≤ cut) (h2 : cut ≤ 9223372036854775807) :
    Calls Try.prog 7 #[.slice ap L.length cp, .int .i64 cut] w fun e w' => e = .returned (.bool true) ∧ Below w.heap.size w w' := by
  have hl1 : L.length ≤ 9223372036854775807 := by unfold maxLen at hl; omega
  clear hl
  by_cases hp : 100 < L.length
  · have hi : (100 : Int) < (L.length : Int) := by omega
    go_enter Try.func7, Try.ntmps7
    go_wp2_with (go_at_call 10; refine (awake_any w).mono ?_; rintro e w1 ⟨rfl, q1⟩)
    go_ret
    exact ⟨rfl, q1⟩
  have hi : (L.length : Int) ≤ 100 := by omega
  have cv : ∀ (W : World) (a : Option Addr) (l : List UInt8) (n c : Nat), Lies W a (bv l) → l.length = n → (convert 22 9 (.slice a n c)).run Try.prog W = .ok (.string (tx' l)) W := fun W a l n c h hn => bytes_of_lies h hn 22 9 5 Try.underlying22 Try.underlying5 Try.underlying9
  obtain ⟨vs, hv1, hv2, hv3⟩ := hR
  go_enter Try.func7, Try.ntmps7
  go_wp2_with (go_at_call 10; refine (awake_any w).mono ?_; rintro e w1 ⟨rfl, q1⟩)
  go_loopw [5, 6, 7] (fun b e i wr => RowS w.heap.size w L b e i wr) (fun _ _ i _ => L.length - (intOf i).toNat)
  case atStart => exact ⟨0, none, none, 0, 0, Nat.zero_le _, rfl, rfl, rfl, q1, by simp, (Owns.nil _ _).rowNil.rowNil⟩
  case round =>
    obtain ⟨k, ab, ae, cb, ce, hk, rfl, rfl, rfl, hb, hq, hO⟩ := hrel
    have hz := hb.size
    by_cases hlt : k < L.length
    · have hlti : (k : Int) < (L.length : Int) := by omega
      have hy : L[k]? = some L[k] := List.getElem?_eq_getElem hlt
      generalize L[k] = y at hy
      obtain ⟨a1, c1, hv4, hv5⟩ := hv3 k y hy
      have hvb := hv2.below hb
      by_cases hlong : 1000 < y.length
      · have hyi : (1000 : Int) < (y.length : Int) := by omega
        go_wp2_with (refine wpList_idx rfl _ _ 37 rfl Try.underlying37 size22 rfl (k := k) rfl hvb hv1 hv4 ?_; intro b p hc hbb)
        go_ret
        exact ⟨rfl, hb⟩
      have hyi : (y.length : Int) ≤ 1000 := by omega
      have S1 := seal_own hO hz a1 y.length c1 y (hv5.below hb) (fun w' h _ => hv5.below (hb.trans h)) rfl (by omega)
      have hcl : (sealL y).length = y.length + 10 := sealL_len y
      go_wp2_with (refine wpList_idx rfl _ _ 37 rfl Try.underlying37 size22 rfl (k := k) rfl hvb hv1 hv4 ?_; intro b p hc hbb)
      refine S1.mono ?_
      rintro e w2 ⟨a2, c2, rfl, hO2, b2⟩
      have z2 := Nat.le_trans hz b2.size
      have hle := endN_le L k hq
      have hO3 := hO2.swap
      have hf := hO2.rowLies.1
      have m4 := (bv_len (sealL y)).trans hcl
      have m0 : (bv (rowsL (L.take k))).length = endN (L.take k) := bv_len _
      have m1 : (bv (rowsL (L.take k))).length + (y.length + 10) ≤ maxLen := by rw [m0]; unfold maxLen; omega
      have m2 : ((bv (rowsL (L.take k))).length + (y.length + 10)) * 1 ≤ 140737488355328 := by rw [m0]; omega
      have hend : endN (L.take (k + 1)) = endN (L.take k) + (y.length + 10) := by
        rw [List.take_add_one, hy]; simp only [Option.toList_some]; exact endN_snoc _ _
      have m3 : (bv (rowsL (L.take k))).length + (y.length + 10) = endN (L.take (k + 1)) := by rw [m0, hend]
      have hrow : bv (rowsL (L.take (k + 1))) = bv (rowsL (L.take k)) ++ bv (sealL y) := by
        rw [List.take_add_one, hy]; simp only [Option.toList_some]; rw [rowsL_snoc]; exact List.map_append
      have HE := Hid.mk' hend
      have n0 := endV_len L k
      have n1 : (endV L k).length + 1 ≤ maxLen := by rw [n0]; unfold maxLen; omega
      have n2 : ((endV L k).length + 1) * 8 ≤ 140737488355328 := by rw [n0]; omega
      have n3 : (endV L k).length + 1 = k + 1 := by rw [n0]
      have u1 : ∀ x : Int, ∀ u ∈ [Value.int .i64 x], u.oneCell' = true := by
        intro x u hu; simp at hu; subst hu; rfl
      have HR := Hid.mk' hrow
      clear hend hrow
      generalize hE2 : endN (L.take (k + 1)) = E2 at m3 HE
      have HE2 := Hid.mk' hE2
      clear hE2
      go_wp2_with (first
        | (refine wpList_appendRow rfl _ _ 22 rfl Try.underlying22 info5 rfl rfl rfl hO3 z2 hf m4 (bv_one _) m1 m2 m3 ?_; intro a4 c4 w4 hO4 b4; have z4 := Nat.le_trans z2 b4.size; have hO5 : Owns w.heap.size [Asrt.row 3 (.slice ae k ce) (endV L k), Asrt.row 5 (.slice a4 E2 c4) (bv (rowsL (L.take k)) ++ bv (sealL y))] w4 := hO4.sel 3 [2, 0] rfl (by decide); obtain ⟨r1, r2, r3, r4⟩ := lit_facts 3 [Value.int .i64 (E2 : Int)] hO5 z4)
        | (refine wpList_appendRow rfl _ _ 45 rfl und45 info3 rfl rfl rfl r1 r2 r3 rfl (u1 _) n1 n2 n3 ?_; intro a6 c6 w6 hO6 b6))
      go_roundw
      case rel =>
        refine ⟨k + 1, a4, a6, c4, c6, by omega, by go_num, by rw [HE2.out], rfl, hb.trans (b2.trans (b4.trans (r4.trans b6))), ?_, ?_⟩
        · intro q hq2
          rw [List.take_add_one, hy] at hq2
          rcases List.mem_append.1 hq2 with h | h
          · exact hq q h
          · simp at h; subst h; omega
        · rw [HE2.out, HR.out, endV_succ, HE2.out]
          exact hO6.swap
      case measure => simp [intOf]; omega
    · have hki : k = L.length := by omega
      subst hki
      rw [List.take_length] at hO hq ⊢
      have hlti : (L.length : Int) ≤ (L.length : Int) := Int.le_refl _
      obtain ⟨hLb, _, hcb⟩ := hO.rowLies
      have hle : endN L ≤ 1010 * L.length := by have := endN_le L L.length (by rw [List.take_length]; exact hq); rwa [List.take_length] at this
      by_cases hcut : cut < 0 ∨ (endN L : Int) < cut
      · rcases hcut with hcut | hcut
        · go_wp2_with fail
          go_ret
          exact ⟨rfl, hb⟩
        · have hc0 : 0 ≤ cut := by omega
          go_wp2_with fail
          go_ret
          exact ⟨rfl, hb⟩
      obtain ⟨c, rfl⟩ : ∃ c : Nat, cut = c := ⟨cut.toNat, by omega⟩
      have hcE : (c : Int) ≤ (endN L : Int) := by omega
      clear hcut
      have hLe := (hO.front 1 (Asrt.row 3 (.slice ae L.length ce) (endV L L.length)) rfl).rowLies.1
      go_wp2_with fail
      go_loopw [10, 11, 12] (fun wt en i wv => ∃ k : Nat, k ≤ L.length ∧ i = .int .i64 k ∧ wt = .int .i64 (wantR L c k) ∧ en = .int .i64 (endN (L.take (wantR L c k))) ∧ Below wr.heap.size wr wv) (fun _ _ i _ => L.length - (intOf i).toNat)
      case atStart => exact ⟨0, Nat.zero_le _, rfl, rfl, rfl, Below.refl _ wr⟩
      case round =>
        obtain ⟨k, hk, rfl, rfl, rfl, hbv⟩ := hrel
        by_cases hlt2 : k < L.length
        · have hlt2i : (k : Int) < (L.length : Int) := by omega
          have hke : (endV L L.length)[k]? = some (.int .i64 (endN (L.take (k + 1)))) := by
            unfold endV
            rw [List.getElem?_map, List.getElem?_range hlt2]; rfl
          have hLv := hLe.below hbv
          have hel := endV_len L L.length
          by_cases hwh : endN (L.take (k + 1)) ≤ c
          · have HW := Hid.mk' (show wantR L c (k + 1) = k + 1 by rw [wantR, if_pos hwh])
            have HE := Hid.mk' (show endN (L.take (wantR L c (k + 1))) = endN (L.take (k + 1)) by rw [wantR, if_pos hwh])
            obtain ⟨b1, o1, hx1, hc1, _⟩ := hLv.idx (c := ce) und45 size3 hel hke
            generalize endN (L.take (k + 1)) = E1 at hke hwh HE hc1
            have hwi : (E1 : Int) ≤ (c : Int) := by omega
            have e1 : IntKind.i64.wrap ((k : Int) + 1) = (k : Int) + 1 := by rw [IntKind.wrap_i64]; omega
            go_wp2_with fail
            go_region_held3 (fun w' => w'.cell? ⟨b1, o1, none⟩ = some (.int .i64 E1)) (go_keep) (fail)
            all_goals go_wp2
            go_roundw
            case rel => exact ⟨k + 1, by omega, by go_num, by rw [HW.out]; rfl, by rw [HE.out], hbv.drew⟩
            case measure => simp [intOf]; omega
          · have HW := Hid.mk' (show wantR L c (k + 1) = wantR L c k by rw [wantR, if_neg hwh])
            obtain ⟨b1, o1, hx1, hc1, _⟩ := hLv.idx (c := ce) und45 size3 hel hke
            generalize endN (L.take (k + 1)) = E1 at hke hwh hc1
            have hwi : (c : Int) < (E1 : Int) := by omega
            go_wp2_with fail
            go_roundw
            case rel => exact ⟨k + 1, by omega, by go_num, by rw [HW.out], by rw [HW.out], hbv⟩
            case measure => simp [intOf]; omega
        · have hki : k = L.length := by omega
          subst hki
          have hbw := hb.trans (hbv.mono hz)
          have hcut := rows_cut L c (fun q h => by have := hq q h; omega) (by omega)
          have hWl := wantR_le L c L.length
          have hL25 := Lies.take' (hLb.below hbv) c
          have hlc : ((rowsL L).take c).length = c := by rw [List.length_take]; unfold endN at hcE; omega
          have hcb2 : (c : Int) ≤ (cb : Int) := by omega
          generalize wantR L c L.length = W at hcut hWl
          have hWq : (L.take W).length = W := by rw [List.length_take]; omega
          have hsub : ∀ i q, (L.take W)[i]? = some q → L[i]? = some q := fun i q h => by
            rw [List.getElem?_take] at h
            split at h
            · exact h
            · cases h
          generalize endN (L.take W) = E at hcut
          generalize L.take W = qs at hcut hWq hsub
          subst hWq
          go_wp2_with fail
          refine (all_any ab c cb _ _ hL25 hlc (by omega) (by omega)).mono ?_
          rintro e w3 ⟨am, cm, qs', en', st', hA, hen, rfl, hR3, b3, hq10⟩
          have hdet := AllR.det hA hcut
          simp only [Prod.mk.injEq] at hdet
          obtain ⟨rfl, rfl, rfl⟩ := hdet
          have Q3 := hbw.trans (b3.mono hbw.size)
          obtain ⟨us, hu1, hu2, hu3⟩ := hR3
          clear hA hcut hen hL25 hLb hLe hO hlc
          by_cases hE : en' = c
          · have hEx := hE
            subst hE
            rw [if_pos rfl]
            go_wp2_with fail
            clear hEx
            go_loopw [16] (fun i wv => ∃ k : Nat, k ≤ qs'.length ∧ i = .int .i64 k ∧ Below w3.heap.size w3 wv) (fun i _ => qs'.length - (intOf i).toNat)
            case atStart => exact ⟨0, Nat.zero_le _, rfl, Below.refl _ w3⟩
            case round =>
              obtain ⟨k, hk3, rfl, hb3⟩ := hrel
              by_cases hlt3 : k < qs'.length
              · have hlt3i : (k : Int) < (qs'.length : Int) := by omega
                have hy : qs'[k]? = some qs'[k] := List.getElem?_eq_getElem hlt3
                generalize qs'[k] = y at hy
                obtain ⟨a1, c1, hv4, hv5⟩ := hv3 k y (hsub k y hy)
                obtain ⟨a9, c9, hu4, hu5⟩ := hu3 k y hy
                have hbb := Q3.trans (hb3.mono Q3.size)
                obtain ⟨b1, o1, hx1, hc1, _⟩ := (hv2.below hbb).idx (c := cp) Try.underlying37 size22 hv1 hv4
                obtain ⟨b2, o2, hx2, hc2, _⟩ := (hu2.below hb3).idx (c := cm) Try.underlying37 size22 hu1 hu4
                have hlL : (k : Int) < (L.length : Int) := by omega
                go_wp2_with fail
                have g1 : (convert 22 9 (.slice a1 y.length c1)).run Try.prog wr.drew = .ok (.string (tx' y)) wr.drew := cv wr.drew a1 y y.length c1 (hv5.below hbb.drew) rfl
                have g2 : (convert 22 9 (.slice a9 y.length c9)).run Try.prog wr.drew = .ok (.string (tx' y)) wr.drew := cv wr.drew a9 y y.length c9 (hu5.below hb3.drew) rfl
                go_region_held3 (fun w' => w'.cell? ⟨b1, o1, none⟩ = some (.slice a1 y.length c1) ∧ w'.cell? ⟨b2, o2, none⟩ = some (.slice a9 y.length c9) ∧ (convert 22 9 (.slice a1 y.length c1)).run Try.prog w' = .ok (.string (tx' y)) w' ∧ (convert 22 9 (.slice a9 y.length c9)).run Try.prog w' = .ok (.string (tx' y)) w') (go_keep) (fail)
                all_goals go_wp2
                go_roundw
                case rel => exact ⟨k + 1, by omega, by go_num, hb3.drew⟩
                case measure => simp [intOf]; omega
              · have hlt3i : (qs'.length : Int) ≤ (k : Int) := by omega
                go_wp2_with fail
                go_ret
                exact ⟨rfl, Q3.trans (hb3.mono Q3.size)⟩
          · have hEx : ¬ (en' : Int) = (c : Int) := by omega
            have hEb : ((en' : Int) == (c : Int)) = false := by simpa using hEx
            rw [if_neg hE]
            go_wp2_with fail
            clear hEx
            go_loopw [16] (fun i wv => ∃ k : Nat, k ≤ qs'.length ∧ i = .int .i64 k ∧ Below w3.heap.size w3 wv) (fun i _ => qs'.length - (intOf i).toNat)
            case atStart => exact ⟨0, Nat.zero_le _, rfl, Below.refl _ w3⟩
            case round =>
              obtain ⟨k, hk3, rfl, hb3⟩ := hrel
              by_cases hlt3 : k < qs'.length
              · have hlt3i : (k : Int) < (qs'.length : Int) := by omega
                have hy : qs'[k]? = some qs'[k] := List.getElem?_eq_getElem hlt3
                generalize qs'[k] = y at hy
                obtain ⟨a1, c1, hv4, hv5⟩ := hv3 k y (hsub k y hy)
                obtain ⟨a9, c9, hu4, hu5⟩ := hu3 k y hy
                have hbb := Q3.trans (hb3.mono Q3.size)
                obtain ⟨b1, o1, hx1, hc1, _⟩ := (hv2.below hbb).idx (c := cp) Try.underlying37 size22 hv1 hv4
                obtain ⟨b2, o2, hx2, hc2, _⟩ := (hu2.below hb3).idx (c := cm) Try.underlying37 size22 hu1 hu4
                have hlL : (k : Int) < (L.length : Int) := by omega
                go_wp2_with fail
                have g1 : (convert 22 9 (.slice a1 y.length c1)).run Try.prog wr.drew = .ok (.string (tx' y)) wr.drew := cv wr.drew a1 y y.length c1 (hv5.below hbb.drew) rfl
                have g2 : (convert 22 9 (.slice a9 y.length c9)).run Try.prog wr.drew = .ok (.string (tx' y)) wr.drew := cv wr.drew a9 y y.length c9 (hu5.below hb3.drew) rfl
                go_region_held3 (fun w' => w'.cell? ⟨b1, o1, none⟩ = some (.slice a1 y.length c1) ∧ w'.cell? ⟨b2, o2, none⟩ = some (.slice a9 y.length c9) ∧ (convert 22 9 (.slice a1 y.length c1)).run Try.prog w' = .ok (.string (tx' y)) w' ∧ (convert 22 9 (.slice a9 y.length c9)).run Try.prog w' = .ok (.string (tx' y)) w') (go_keep) (fail)
                all_goals go_wp2
                go_roundw
                case rel => exact ⟨k + 1, by omega, by go_num, hb3.drew⟩
                case measure => simp [intOf]; omega
              · have hlt3i : (qs'.length : Int) ≤ (k : Int) := by omega
                go_wp2_with fail
                go_ret
                exact ⟨rfl, Q3.trans (hb3.mono Q3.size)⟩
theorem row_rows {H : Type} {enc : TypeId × Value → H} (a : Option Addr) (len cap : Nat) (cut : Int) (w : World) {d : DataW H} {ps : List MemPlace}
    (hs : DataW.Trod enc Try.prog w 0 (fun _ => true) true 37 (.slice a len cap) d ps) (h1 : (Lit.int .i64 cut).wf = true) :
    Calls Try.prog 7 #[.slice a len cap, .int .i64 cut] w fun e w' => e = .returned (.bool true) ∧ Below w.heap.size w w' := by
  obtain ⟨L, rfl, hl, hR⟩ := rows_open hs
  exact law_rows a cap L cut w hl hR (bounds_i64 h1).1 (bounds_i64 h1).2
end Go.Proofs.Fra
