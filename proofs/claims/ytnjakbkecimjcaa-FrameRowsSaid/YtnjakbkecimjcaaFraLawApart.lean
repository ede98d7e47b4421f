/- FrameApart: the walk of the law. -/
import Derived.Test.YtnjakbkecimjcaaFraAll
namespace Go.Proofs.Fra
open Go.RowKit Go.Cic Go.ChangeMaps
set_option linter.unusedVariables false
set_option maxRecDepth 100000
abbrev tx' (l : List UInt8) : ByteArray := ⟨l.toArray⟩
theorem tx_inj {a b : List UInt8} (h : tx' a = tx' b) : a = b := by
  have := congrArg ByteArray.data h
  simpa using this
theorem seal_inj {p q : List UInt8} (hp : p.length ≤ 65536) (hq : q.length ≤ 65536) (h : sealL p = sealL q) : p = q := by
  have h1 := open_seal (p := p) (r := []) hp
  have h2 := open_seal (p := q) (r := []) hq
  rw [h, h2] at h1
  exact (congrArg Prod.fst h1).symm
theorem AllR.det {l : List UInt8} {k : Nat} {r r' : List (List UInt8) × Nat × Nat} (h : AllR l k r) (h' : AllR l k r') : r = r' := by
  induction h generalizing r' with
  | done h1 =>
    cases h' with
    | done => rfl
    | stop h2 => exact absurd h2 h1
    | step h2 => exact absurd h2 h1
  | stop h1 h2 h3 =>
    cases h' with
    | done h4 => exact absurd h1 h4
    | stop _ h5 _ => rw [h2] at h5; simp at h5; obtain ⟨_, _, rfl⟩ := h5; rfl
    | step _ h5 _ => rw [h2] at h5; simp at h5; exact absurd h5.2.2 h3
  | step h1 h2 h3 ih =>
    cases h' with
    | done h4 => exact absurd h1 h4
    | stop _ h5 h6 => rw [h2] at h5; simp at h5; exact absurd h5.2.2.symm h6
    | step _ h5 h6 =>
      rw [h2] at h5
      simp at h5
      obtain ⟨rfl, rfl⟩ := h5
      have := ih h6
      simp at this
      obtain ⟨rfl, rfl, rfl⟩ := this
      rfl
theorem AllR.shift {l : List UInt8} {k : Nat} {r : List (List UInt8) × Nat × Nat} (h : AllR l k r) (a : List UInt8) : AllR (a ++ l) (a.length + k) (r.1, a.length + r.2.1, r.2.2) := by
  induction h with
  | done h1 => exact AllR.done (by rw [List.length_append]; omega)
  | @stop k n s q h1 h2 h3 =>
    refine AllR.stop (n := n) (q := q) (by rw [List.length_append]; omega) ?_ h3
    rw [List.drop_append, List.drop_of_length_le (by omega), List.nil_append, Nat.add_sub_cancel_left]; exact h2
  | @step k n e s q qs h1 h2 h3 ih =>
    refine AllR.step (n := n) (by rw [List.length_append]; omega) ?_ (by rw [Nat.add_assoc]; exact ih)
    rw [List.drop_append, List.drop_of_length_le (by omega), List.nil_append, Nat.add_sub_cancel_left]; exact h2
theorem AllR.ahead {p r : List UInt8} (hp : p.length ≤ 65536) {qs : List (List UInt8)} {e s : Nat} (h : AllR r 0 (qs, e, s)) : AllR (sealL p ++ r) 0 (p :: qs, p.length + 10 + e, s) := by
  have h1 := h.shift (sealL p)
  rw [sealL_len] at h1
  refine AllR.step (n := p.length + 10) (by rw [List.length_append, sealL_len]; omega) (by rw [List.drop_zero]; exact open_seal hp) ?_
  rw [Nat.zero_add]; exact h1
set_option maxHeartbeats 4000000 in
theorem law_apart (ap aq ar : Option Addr) (cp cq cr : Nat) (p q r : List UInt8) (w : World) (hl : p.length ≤ maxLen) (hlq : q.length ≤ maxLen) (hlr : r.length ≤ maxLen) (hrc : r.length ≤ cr) (hs : Lies w ap (bv p)) (hsq : Lies w aq (bv q)) (hsr : Lies w ar (bv r)) :
    Calls Try.prog 9 #[.slice ap p.length cp, .slice aq q.length cq, .slice ar r.length cr] w fun e w' => e = .returned (.bool true) ∧ Below w.heap.size w w' := by
  have hl1 : p.length ≤ 9223372036854775807 := by unfold maxLen at hl; omega
  have hl2 : q.length ≤ 9223372036854775807 := by unfold maxLen at hlq; omega
  have hl3 : r.length ≤ 9223372036854775807 := by unfold maxLen at hlr; omega
  clear hl hlr hlq
  by_cases hp : 3000 < p.length
  · have hi : (3000 : Int) < (p.length : Int) := by omega
    go_enter Try.func9, Try.ntmps9
    go_wp2_with (go_at_call 10; refine (awake_any w).mono ?_; rintro e w1 ⟨rfl, q1⟩)
    go_ret
    exact ⟨rfl, q1⟩
  have hi : (p.length : Int) ≤ 3000 := by omega
  by_cases hq : 3000 < q.length
  · have hi2 : (3000 : Int) < (q.length : Int) := by omega
    go_enter Try.func9, Try.ntmps9
    go_wp2_with (go_at_call 10; refine (awake_any w).mono ?_; rintro e w1 ⟨rfl, q1⟩)
    go_ret
    exact ⟨rfl, q1⟩
  have hi2 : (q.length : Int) ≤ 3000 := by omega
  by_cases hr : 3000 < r.length
  · have hi3 : (3000 : Int) < (r.length : Int) := by omega
    go_enter Try.func9, Try.ntmps9
    go_wp2_with (go_at_call 10; refine (awake_any w).mono ?_; rintro e w1 ⟨rfl, q1⟩)
    go_ret
    exact ⟨rfl, q1⟩
  have hi3 : (r.length : Int) ≤ 3000 := by omega
  have cv : ∀ (W : World) (a : Option Addr) (l : List UInt8) (n c : Nat), Lies W a (bv l) → l.length = n → (convert 22 9 (.slice a n c)).run Try.prog W = .ok (.string (tx' l)) W := fun W a l n c h hn => bytes_of_lies h hn 22 9 5 Try.underlying22 Try.underlying5 Try.underlying9
  have hcl : (sealL p).length = p.length + 10 := sealL_len p
  have hcq : (sealL q).length = q.length + 10 := sealL_len q
  have heq : (sealL p == sealL q) = (p == q) := by
    by_cases h : p = q
    · subst h; simp
    · have h2 : ¬ sealL p = sealL q := fun e => h (seal_inj (by omega) (by omega) e)
      rw [beq_eq_false_iff_ne.2 h, beq_eq_false_iff_ne.2 h2]
  go_enter Try.func9, Try.ntmps9
  go_wp2_with (go_at_call 10; refine (awake_any w).mono ?_; rintro e w1 ⟨rfl, q1⟩; have S1 := seal_own (Owns.nil w.heap.size w1) q1.size ap p.length cp p (hs.below q1) (fun w' hb _ => hs.below (q1.trans hb)) rfl (by omega))
  refine S1.mono ?_
  rintro e w2 ⟨a2, c2, rfl, hO2, b2⟩
  have z2 := Nat.le_trans q1.size b2.size
  have Q2 := q1.trans b2
  go_wp2_with fail
  refine (seal_own hO2 z2 aq q.length cq q (hsq.below Q2) (fun w' hb _ => hsq.below (Q2.trans hb)) rfl (by omega)).mono ?_
  rintro e w3 ⟨a3, c3, rfl, hO3, b3⟩
  have z3 := Nat.le_trans z2 b3.size
  have Q3 := Q2.trans b3
  have f1 := cv w3 a2 (sealL p) (p.length + 10) c2 hO3.tail.rowLies.1 hcl
  have f2 := cv w3 a3 (sealL q) (q.length + 10) c3 hO3.rowLies.1 hcq
  have f3 := cv w3 ap p p.length cp (hs.below Q3) rfl
  have f4 := cv w3 aq q q.length cq (hsq.below Q3) rfl
  go_wp2_with fail
  clear f1 f2 f3 f4
  refine (all_any ar r.length cr r w3 (hsr.below Q3) rfl (by omega) hrc).mono ?_
  rintro e w4 ⟨al, cl, qs, en, st, hA, hen, rfl, hR, b4, hq10⟩
  have hO4 := hO3.keep b4
  have Q4 := Q3.trans (b4.mono z3)
  have z4 := Q4.size
  have hO5 := ((Owns.nil w4.heap.size w4).alloc_cells (Nat.le_refl _) #[] 5).rowOfCells (xs := []) rfl (Nat.zero_le _)
  have b5 : Below w4.heap.size w4 (w4.alloc (.cells #[] 5)) := (Below.refl _ w4).alloc (Nat.le_refl _) _
  have z5 := b5.size
  have hL5 : Lies (w4.alloc (.cells #[] 5)) a2 (bv (sealL p)) := hO4.tail.rowLies.1.below b5
  have m1 : ([] : List Value).length + (p.length + 10) ≤ maxLen := by simp [maxLen]; omega
  have m2 : (([] : List Value).length + (p.length + 10)) * 1 ≤ 140737488355328 := by simp; omega
  have m3 : ([] : List Value).length + (p.length + 10) = p.length + 10 := Nat.zero_add _
  have m4 := (bv_len (sealL p)).trans hcl
  have m5 := bv_len r
  have m6 : ([] ++ bv (sealL p)).length + r.length ≤ maxLen := by rw [List.nil_append, m4]; unfold maxLen; omega
  have m7 : (([] ++ bv (sealL p)).length + r.length) * 1 ≤ 140737488355328 := by rw [List.nil_append, m4]; omega
  have m8 : ([] ++ bv (sealL p)).length + r.length = p.length + 10 + r.length := by rw [List.nil_append, m4]
  have hsr4 : ∀ W, Below w4.heap.size (w4.alloc (.cells #[] 5)) W → Lies W ar (bv r) := fun W h => hsr.below (Q4.trans ((b5.trans h).mono z4))
  go_wp2_with (first
    | (refine wpList_appendRow rfl _ _ 22 rfl Try.underlying22 info5 rfl rfl rfl hO5 z5 hL5 m4 (bv_one _) m1 m2 m3 ?_; intro a6 c6 w6 hO6 b6; have z6 := Nat.le_trans z5 b6.size; have hsr6 := hsr4 w6 b6)
    | (refine wpList_appendRow rfl _ _ 22 rfl Try.underlying22 info5 rfl rfl rfl hO6 z6 hsr6 m5 (bv_one _) m6 m7 m8 ?_; intro a7 c7 w7 hO7 b7))
  have hO7' : Owns w4.heap.size [Asrt.row 5 (.slice a7 (p.length + 10 + r.length) c7) (bv (sealL p ++ r))] w7 := by
    rw [show bv (sealL p ++ r) = [] ++ bv (sealL p) ++ bv r by rw [List.nil_append]; exact List.map_append]
    exact hO7
  obtain ⟨hL7, _, hle7⟩ := hO7'.rowLies
  have b47 := b5.trans (b6.trans b7)
  have Q7 := Q4.trans (b47.mono z4)
  clear hO5 hO6 hO7 hO7' hL5 hsr4 hsr6 b5 b6 b7 z5 z6 m1 m2 m3 m4 m5 m6 m7 m8
  refine (all_any a7 (p.length + 10 + r.length) c7 _ w7 hL7 (by rw [List.length_append, hcl]) (by omega) hle7).mono ?_
  rintro e w8 ⟨am, cm, qs', en', st', hA', hen', rfl, hR', b8, hq10'⟩
  have hdet := AllR.det hA' (hA.ahead (by omega))
  simp only [Prod.mk.injEq] at hdet
  obtain ⟨rfl, rfl, rfl⟩ := hdet
  have Q8 := Q7.trans (b8.mono Q7.size)
  have hRl : RowsRead w8 al qs := hR.below (b47.trans (b8.mono b47.size))
  have hsp := hs.below Q8
  clear hA hA' hen' b8 b47 hR Q7 hL7 hle7 hO3 hO4
  obtain ⟨vs, hv1, hv2, hv3⟩ := hRl
  obtain ⟨us, hu1, hu2, hu3⟩ := hR'
  obtain ⟨a0, c0, hu0, hL0⟩ := hu3 0 p rfl
  obtain ⟨b0, o0, hx0, hcell0, _⟩ := hu2.idx (c := cm) Try.underlying37 (fun w => by kernel_rfl) (hu1.trans rfl) hu0
  have hx0 : ∀ W, (Instr.indexAt 37 (.slice am (qs.length + 1) cm) (.int .i64 0)).run Try.prog W = .ok (.pointer (some ⟨b0, o0, none⟩)) W := hx0
  go_wp2_with fail
  have g1 : (convert 22 9 (.slice a0 p.length c0)).run Try.prog w8.drew = .ok (.string (tx' p)) w8.drew := cv w8.drew a0 p p.length c0 hL0 rfl
  have g2 : (convert 22 9 (.slice ap p.length cp)).run Try.prog w8.drew = .ok (.string (tx' p)) w8.drew := cv w8.drew ap p p.length cp hsp rfl
  have e1 : IntKind.i64.wrap ((qs.length : Int) + 1) = (qs.length : Int) + 1 := by rw [IntKind.wrap_i64]; omega
  have e2 : IntKind.i64.wrap ((en : Int) + ((p.length : Int) + 10)) = (p.length : Int) + 10 + (en : Int) := by rw [IntKind.wrap_i64]; omega
  go_region_held3 (fun w' => w'.cell? ⟨b0, o0, none⟩ = some (.slice a0 p.length c0) ∧ (convert 22 9 (.slice a0 p.length c0)).run Try.prog w' = .ok (.string (tx' p)) w' ∧ (convert 22 9 (.slice ap p.length cp)).run Try.prog w' = .ok (.string (tx' p)) w') (go_keep) (fail)
  clear g1 g2 e1 e2 hx0 hcell0 hL0 hu0 hcl hcq heq S1
  have size22 : ∀ w : World, (sizeOf 22).run Try.prog w = .ok 1 w := fun w => by kernel_rfl
  have hqb : qs.length ≤ 3000 := by omega
  go_wp2_with fail
  go_loopw [17] (fun i wr => ∃ k : Nat, k ≤ qs.length ∧ i = .int .i64 k ∧ Below w8.heap.size w8 wr) (fun i _ => qs.length - (intOf i).toNat)
  case atStart => exact ⟨0, Nat.zero_le _, rfl, (Below.refl _ w8).drew⟩
  case round =>
    obtain ⟨k, hk, rfl, hb⟩ := hrel
    by_cases hlt : k < qs.length
    · have hy : qs[k]? = some qs[k] := List.getElem?_eq_getElem hlt
      generalize qs[k] = y at hy
      have hy2 : (p :: qs)[k + 1]? = some y := by rw [List.getElem?_cons_succ]; exact hy
      obtain ⟨a1, c1, hv4, hv5⟩ := hv3 k y hy
      obtain ⟨a9, c9, hu4, hu5⟩ := hu3 (k + 1) y hy2
      obtain ⟨b1, o1, hx1, hc1, _⟩ := (hv2.below hb).idx (c := cl) Try.underlying37 size22 hv1 hv4
      obtain ⟨b2, o2, hx2, hc2, _⟩ := (hu2.below hb).idx (c := cm) Try.underlying37 size22 (hu1.trans rfl) hu4
      have hx2 : ∀ W, (Instr.indexAt 37 (.slice am (qs.length + 1) cm) (.int .i64 ((k : Int) + 1))).run Try.prog W = .ok (.pointer (some ⟨b2, o2, none⟩)) W := hx2
      have g1 : (convert 22 9 (.slice a1 y.length c1)).run Try.prog wr.drew = .ok (.string (tx' y)) wr.drew := cv wr.drew a1 y y.length c1 (hv5.below hb.drew) rfl
      have g2 : (convert 22 9 (.slice a9 y.length c9)).run Try.prog wr.drew = .ok (.string (tx' y)) wr.drew := cv wr.drew a9 y y.length c9 (hu5.below hb.drew) rfl
      have e1 : IntKind.i64.wrap ((k : Int) + 1) = (k : Int) + 1 := by rw [IntKind.wrap_i64]; omega
      go_wp2_with fail
      go_region_held3 (fun w' => w'.cell? ⟨b1, o1, none⟩ = some (.slice a1 y.length c1) ∧ w'.cell? ⟨b2, o2, none⟩ = some (.slice a9 y.length c9) ∧ (convert 22 9 (.slice a1 y.length c1)).run Try.prog w' = .ok (.string (tx' y)) w' ∧ (convert 22 9 (.slice a9 y.length c9)).run Try.prog w' = .ok (.string (tx' y)) w') (go_keep) (fail)
      all_goals go_wp2
      go_roundw
      case rel => exact ⟨k + 1, by omega, by go_num, hb.drew⟩
      case measure => simp [intOf]; omega
    · have hki : k = qs.length := by omega
      subst hki
      go_wp2_with fail
      go_ret
      exact ⟨rfl, Q8.trans (hb.mono Q8.size)⟩
theorem cap_of {H : Type} {enc : TypeId × Value → H} {w : World} {base : Nat} {spare : Nat → Bool} {held : Bool} {t e : TypeId} (ht : Try.prog.underlying t = some (.slice e)) {a : Option Addr} {len cap : Nat} {d : DataW H} {ps : List MemPlace}
    (h : DataW.Trod enc Try.prog w base spare held t (.slice a len cap) d ps) : len ≤ cap := by
  obtain ⟨fuel, hf⟩ := h
  rcases Go.Deep.open_slice ht hf with ⟨h1, _⟩ | ⟨a', len', cap', m, n, D, Pl, h1, hb, hl, _⟩
  · simp [Value.cells] at h1
    obtain ⟨rfl, rfl, rfl⟩ := h1
    exact Nat.le_refl _
  · simp [Value.cells] at h1
    obtain ⟨rfl, rfl, rfl⟩ := h1
    exact hl
theorem row_apart {H : Type} {enc : TypeId × Value → H} (a : Option Addr) (len cap : Nat) (a1 : Option Addr) (len1 cap1 : Nat) (a2 : Option Addr) (len2 cap2 : Nat) (w : World) {d d1 d2 : DataW H} {ps ps1 ps2 : List MemPlace}
    (hs : DataW.Trod enc Try.prog w 0 (fun _ => true) true 22 (.slice a len cap) d ps) (hs1 : DataW.Trod enc Try.prog w 0 (fun _ => true) true 22 (.slice a1 len1 cap1) d1 ps1) (hs2 : DataW.Trod enc Try.prog w 0 (fun _ => true) true 22 (.slice a2 len2 cap2) d2 ps2) :
    Calls Try.prog 9 #[.slice a len cap, .slice a1 len1 cap1, .slice a2 len2 cap2] w fun e w' => e = .returned (.bool true) ∧ Below w.heap.size w w' := by
  have hc := cap_of Try.underlying22 hs2
  obtain ⟨l, rfl, hl, hsl⟩ := SlAt.open (r := rdU8) (by decide) Try.underlying22 hs
  obtain ⟨l1, rfl, hl1, hsl1⟩ := SlAt.open (r := rdU8) (by decide) Try.underlying22 hs1
  obtain ⟨l2, rfl, hl2, hsl2⟩ := SlAt.open (r := rdU8) (by decide) Try.underlying22 hs2
  exact law_apart a a1 a2 cap cap1 cap2 l l1 l2 w hl hl1 hl2 hc (lies_of hsl) (lies_of hsl1) (lies_of hsl2)
end Go.Proofs.Fra
