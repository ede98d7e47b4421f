/- DecayHalves: the walk of the law. -/
import Derived.Test.YtliedcinkmbedaaDcyArgs
import Derived.Test.YtliedcinkmbedaaDcyLawWeight
namespace Go.Proofs.Dcy
open Go.RowKit Go.Cic Go.ChangeMaps
set_option linter.unusedVariables false
set_option maxRecDepth 100000
/-- What the three counters have, behind k deeds. -/
structure Halv (now : Int) (k : Nat) (A1 A2 A3 : AddL) : Prop where
  l1 : A1.length ≤ k
  l2 : A2.length ≤ k
  l3 : A3.length ≤ k
  sum : ∀ key f, asum key f A3 = asum key f A1 + asum key f A2
  o1 : ∀ a ∈ A1, a.2.1 ≤ now ∧ 0 ≤ a.2.2 ∧ a.2.2 ≤ 1048576
  o2 : ∀ a ∈ A2, now < a.2.1 ∧ 0 ≤ a.2.2 ∧ a.2.2 ≤ 1048576
theorem Halv.nil (now : Int) : Halv now 0 [] [] [] := ⟨by simp, by simp, by simp, fun _ _ => rfl, by simp, by simp⟩
theorem Halv.old {now : Int} {k : Nat} {A1 A2 A3 : AddL} (h : Halv now k A1 A2 A3) (key : ByteArray) (t n : Int) (ht : t ≤ now) : Halv now (k + 1) (acc A1 key t n) A2 (acc A3 key t n) := by
  obtain ⟨h1, h2, h3, h4, h5, h6⟩ := h
  unfold acc
  by_cases hm : mayAdd key t n
  · rw [if_pos hm, if_pos hm]
    unfold mayAdd at hm
    refine ⟨by simp; omega, by omega, by simp; omega, fun k f => ?_, fun a ha => ?_, h6⟩
    · rw [asum_append, asum_append, h4]; omega
    · rcases List.mem_append.1 ha with ha | ha
      · exact h5 a ha
      · simp at ha; subst ha; exact ⟨ht, hm.2.2.2.2.1, hm.2.2.2.2.2⟩
  · rw [if_neg hm, if_neg hm]
    exact ⟨by omega, by omega, by omega, h4, h5, h6⟩
theorem Halv.fresh {now : Int} {k : Nat} {A1 A2 A3 : AddL} (h : Halv now k A1 A2 A3) (key : ByteArray) (t n : Int) (ht : now < t) : Halv now (k + 1) A1 (acc A2 key t n) (acc A3 key t n) := by
  obtain ⟨h1, h2, h3, h4, h5, h6⟩ := h
  unfold acc
  by_cases hm : mayAdd key t n
  · rw [if_pos hm, if_pos hm]
    unfold mayAdd at hm
    refine ⟨by omega, by simp; omega, by simp; omega, fun k f => ?_, h5, fun a ha => ?_⟩
    · rw [asum_append, asum_append, h4]; omega
    · rcases List.mem_append.1 ha with ha | ha
      · exact h6 a ha
      · simp at ha; subst ha; exact ⟨ht, hm.2.2.2.2.1, hm.2.2.2.2.2⟩
  · rw [if_neg hm, if_neg hm]
    exact ⟨by omega, by omega, by omega, h4, h5, h6⟩
theorem asum_zero {key : ByteArray} {f : Int → Int} {A : AddL} (h : ∀ a ∈ A, f a.2.1 = 0) : asum key f A = 0 := by
  induction A with
  | nil => rfl
  | cons a r ih =>
    have h1 := h a (by simp)
    have h2 := ih (fun x hx => h x (by simp [hx]))
    simp only [asum, List.map_cons, List.sum_cons] at h2 ⊢
    rw [h1, h2]; simp
theorem asum_half {key : ByteArray} {half now : Int} {A : AddL} (hh : 1 ≤ half) (h : ∀ a ∈ A, a.2.1 ≤ now ∧ 0 ≤ a.2.2 ∧ a.2.2 ≤ 1048576) : 2 * asum key (wf half (now + half)) A ≤ asum key (wf half now) A := by
  induction A with
  | nil => simp [asum]
  | cons a r ih =>
    obtain ⟨h1, h1b, _⟩ := h a (by simp)
    have h2 := ih (fun x hx => h x (by simp [hx]))
    have h3 : wf half (now + half) a.2.1 = wf half now a.2.1 / 2 := by
      unfold wf
      have := wt_half (age := now - a.2.1) (half := half) (by omega) hh
      rw [show now + half - a.2.1 = now - a.2.1 + half by omega]; exact this
    have h4 : 2 * (wf half now a.2.1 / 2) ≤ wf half now a.2.1 := by omega
    have h5 : 2 * (a.2.2 * (wf half now a.2.1 / 2)) ≤ a.2.2 * wf half now a.2.1 := by
      rw [← Int.mul_assoc, Int.mul_comm 2, Int.mul_assoc]
      exact Int.mul_le_mul_of_nonneg_left h4 h1b
    simp only [asum, List.map_cons, List.sum_cons] at h2 ⊢
    rw [h3]
    split <;> omega
theorem hf_id {half : Int} (h1 : 1 ≤ half) (h2 : half ≤ 1099511627776) : hf half = half := by unfold hf; omega

/-- The loop's state. -/
def HalvR (B : Nat) (w : World) (p1 p2 p3 : Nat) (half now : Int) (n : Nat) (i : Value) (wr : World) : Prop :=
  ∃ (k : Nat) (A1 A2 A3 : AddL), k ≤ n ∧ i = .int .i64 k ∧ Below B w wr ∧ Owns B [DecM p1 half A1, DecM p2 half A2, DecM p3 half A3] wr ∧ Halv now k A1 A2 A3

set_option maxHeartbeats 1000000 in
theorem law_halves (half now : Int) (a : Option Addr) (cap : Nat) (l : List Deed) (key : ByteArray) (w : World) (h1 : -9223372036854775808 ≤ half) (h2 : half ≤ 9223372036854775807) (h3 : -9223372036854775808 ≤ now) (h4 : now ≤ 9223372036854775807)
    (hkey : key.size ≤ 9223372036854775807) (hl : l.length ≤ maxLen) (hs : SlAt rdDeed w a l) :
    Calls Try.prog 4 #[.int .i64 half, .slice a l.length cap, .string key, .int .i64 now] w fun e w' => e = .returned (.bool true) ∧ Below w.heap.size w w' := by
  have hl2 : l.length ≤ 9223372036854775807 := by unfold maxLen at hl; omega
  by_cases hv : heavyB l 30 = true
  · have H := Hid.mk' hv
    clear hv
    go_enter Try.func4, Try.ntmps4
    go_wp2_with (first
      | (go_at_call 10; refine (lives_any w).mono ?_; rintro e w1 ⟨rfl, hb1⟩; have hs1 := hs.below hb1)
      | (go_at_call 13; refine (heavy_any a cap l 30 _ hl hs1).mono ?_; rintro e w' ⟨rfl, rfl⟩; rw [H.out]))
    go_ret
    exact ⟨rfl, hb1⟩
  have H := Hid.mk' (show heavyB l 30 = false by simpa using hv)
  clear hv
  by_cases hc : 100 < key.size ∨ half < 1 ∨ 1099511627776 < half ∨ now < 0 ∨ 1099511627776 < now
  · go_enter Try.func4, Try.ntmps4
    go_wp2_with (first
      | (go_at_call 10; refine (lives_any w).mono ?_; rintro e w1 ⟨rfl, hb1⟩; have hs1 := hs.below hb1)
      | (go_at_call 13; refine (heavy_any a cap l 30 _ hl hs1).mono ?_; rintro e w' ⟨rfl, rfl⟩; rw [H.out]))
    all_goals (go_ret; exact ⟨rfl, hb1⟩)
  have c1 : key.size ≤ 100 := by omega
  have c2 : 1 ≤ half := by omega
  have c3 : half ≤ 1099511627776 := by omega
  have c4 : 0 ≤ now := by omega
  have c5 : now ≤ 1099511627776 := by omega
  clear hc
  have hll : l.length ≤ 30 := by
    have := H.out
    unfold heavyB at this
    simp at this
    omega
  have hfe := Hid.mk' (hf_id c2 c3)
  go_enter Try.func4, Try.ntmps4
  go_wp2_with (first
    | (go_at_call 10; refine (lives_any w).mono ?_; rintro e w1 ⟨rfl, hb1⟩; have hs1 := hs.below hb1; have hO1 := Owns.nil w.heap.size w1; have hz1 := hb1.size)
    | (go_at_call 13; refine (heavy_any a cap l 30 _ hl hs1).mono ?_; rintro e w' ⟨rfl, rfl⟩; rw [H.out]))
  refine (newM half hO1 hz1).mono ?_
  rintro e w2 ⟨p1, rfl, hO2, hb2⟩
  rw [hfe.out] at hO2
  have hz2 := Nat.le_trans hz1 hb2.size
  go_wp2_with fail
  refine (newM half hO2 hz2).mono ?_
  rintro e w3 ⟨p2, rfl, hO3, hb3⟩
  rw [hfe.out] at hO3
  have hz3 := Nat.le_trans hz2 hb3.size
  go_wp2_with fail
  refine (newM half hO3 hz3).mono ?_
  rintro e w4 ⟨p3, rfl, hO4, hb4⟩
  rw [hfe.out] at hO4
  have hb5 : Below w.heap.size w w4 := hb1.trans (hb2.trans (hb3.trans hb4))
  have hO5 : Owns w.heap.size [DecM p1 half [], DecM p2 half [], DecM p3 half []] w4 := hO4.perm (by
    exact (List.Perm.swap _ _ _).trans ((List.Perm.cons _ (List.Perm.swap _ _ _)).trans (List.Perm.swap _ _ _)))
  go_wp2_with fail
  go_loopw [12] (fun i wr => HalvR w.heap.size w p1 p2 p3 half now l.length i wr) (fun i _ => l.length - (intOf i).toNat)
  case atStart => exact ⟨0, [], [], [], Nat.zero_le _, rfl, hb5, hO5, Halv.nil _⟩
  case round =>
    obtain ⟨k, A1, A2, A3, hk, rfl, hbr, hOr, hJ⟩ := hrel
    have hzr := hbr.size
    have hsr := hs.below hbr
    have g1 := hJ.l1
    have g2 := hJ.l2
    have g3 := hJ.l3
    by_cases hlt : k < l.length
    · have hy : l[k]? = some l[k] := List.getElem?_eq_getElem hlt
      generalize l[k] = y at hy
      obtain ⟨kd, ⟨dk, dt, dn⟩, dnow⟩ := y
      go_wp2_with (refine wpList_indexSl (r := rdDeed) rfl _ _ 25 rfl Try.underlying25 size32 rfl (k := k) rfl hsr rfl hy ?_; intro b p hc hb; obtain ⟨d0, d1, d2, d3, d4⟩ := deed_at hc; clear hc)
      have hOa := hOr.alloc_cells hzr #[.string dk, .int .i64 dt, .int .i64 dn] 30
      have hza : w.heap.size ≤ (wr.alloc (.cells #[.string dk, .int .i64 dt, .int .i64 dn] 30)).heap.size := by simp; omega
      have hba : Below w.heap.size w (wr.alloc (.cells #[.string dk, .int .i64 dt, .int .i64 dn] 30)) := hbr.alloc hzr _
      refine (addM dk dt dn (hOa.front 3 (DecM p3 half A3) rfl) hza (by omega)).mono ?_
      rintro e w6 ⟨rfl, hO6, hb6⟩
      have hz6 := Nat.le_trans hza hb6.size
      have hc6 := (hO6.front 1 (Asrt.cells wr.heap.size #[.string dk, .int .i64 dt, .int .i64 dn] 30) rfl).cellsE.1
      have q0 : w6.cell? ⟨wr.heap.size, 0, none⟩ = some (.string dk) := by rw [cell_of hc6]; rfl
      have q1 : w6.cell? ⟨wr.heap.size, 1, none⟩ = some (.int .i64 dt) := by rw [cell_of hc6]; rfl
      have q2 : w6.cell? ⟨wr.heap.size, 2, none⟩ = some (.int .i64 dn) := by rw [cell_of hc6]; rfl
      have hb7 : Below w.heap.size w w6 := hba.trans hb6
      by_cases hle : dt ≤ now
      · have hJ2 := Hid.mk' (hJ.old dk dt dn hle)
        go_wp2_with fail
        refine (addM dk dt dn (hO6.front 2 (DecM p1 half A1) rfl) hz6 (by omega)).mono ?_
        rintro e w7 ⟨rfl, hO7, hb8⟩
        go_wp2_with fail
        go_roundw
        case rel => exact ⟨k + 1, acc A1 dk dt dn, A2, acc A3 dk dt dn, by omega, by go_num, hb7.trans hb8, hO7.sel 4 [0, 3, 1] rfl (by decide), hJ2.out⟩
        case measure => simp [intOf]; omega
      · have hJ2 := Hid.mk' (hJ.fresh dk dt dn (by omega))
        go_wp2_with fail
        refine (addM dk dt dn (hO6.front 3 (DecM p2 half A2) rfl) hz6 (by omega)).mono ?_
        rintro e w7 ⟨rfl, hO7, hb8⟩
        go_wp2_with fail
        go_roundw
        case rel => exact ⟨k + 1, A1, acc A2 dk dt dn, acc A3 dk dt dn, by omega, by go_num, hb7.trans hb8, hO7.sel 4 [3, 0, 1] rfl (by decide), hJ2.out⟩
        case measure => simp [intOf]; omega
    · have bA : ∀ {A : AddL}, A.length ≤ k → (∀ a ∈ A, 0 ≤ a.2.2 ∧ a.2.2 ≤ 1048576) → ∀ t, 0 ≤ asum key (wf half t) A ∧ asum key (wf half t) A ≤ 32985348833280 := by
        intro A hA1 hA2 t
        have := asum_bd (key := key) (A := A) (m := 1048576) (by omega) (wf_bd' half t) hA2
        omega
      have n1 := bA g1 (fun a ha => (hJ.o1 a ha).2)
      have n2 := bA g2 (fun a ha => (hJ.o2 a ha).2)
      have e1 := asum_half (key := key) c2 hJ.o1
      have z0 : asum key (wf half now) A2 = 0 := asum_zero (fun a ha => by
        have := (hJ.o2 a ha).1
        exact wt_neg (by omega))
      have s0 := hJ.sum key (wf half now)
      have s1 := hJ.sum key (wf half (now + half))
      rw [z0] at s0
      obtain ⟨x1, E1⟩ : ∃ x, Hid (asum key (wf half (now + half)) A1 = x) := ⟨_, rfl⟩
      obtain ⟨x0, E0⟩ : ∃ x, Hid (asum key (wf half now) A1 = x) := ⟨_, rfl⟩
      obtain ⟨y1, F1⟩ : ∃ x, Hid (asum key (wf half (now + half)) A2 = x) := ⟨_, rfl⟩
      have b1 := n1 now
      have b2 := n1 (now + half)
      have b3 := n2 (now + half)
      have F0 := Hid.mk' z0
      rw [E1.out] at s1 e1 b2
      rw [E0.out] at s0 e1 b1
      rw [F1.out] at s1 b3
      have G0 := Hid.mk' s0
      have G1 := Hid.mk' s1
      obtain ⟨b1a, b1b⟩ := b1
      obtain ⟨b2a, b2b⟩ := b2
      obtain ⟨b3a, b3b⟩ := b3
      clear s0 s1 z0 n1 n2 bA
      have km : key.size ≤ maxLen := by unfold maxLen; omega
      go_wp2_with fail
      refine (atM key (now + half) hOr hzr (by omega) km (by omega) (by omega) c2 c3).mono ?_
      rintro e v1 ⟨rfl, hP1, hq1⟩
      rw [E1.out]
      have hy1 := Nat.le_trans hzr hq1.size
      go_wp2_with fail
      refine (atM key now hP1 hy1 (by omega) km (by omega) (by omega) c2 c3).mono ?_
      rintro e v2 ⟨rfl, hP2, hq2⟩
      rw [E0.out]
      have hy2 := Nat.le_trans hy1 hq2.size
      go_wp2_with fail
      refine (atM key now (hP2.sel 3 [1, 0, 2] rfl (by decide)) hy2 (by omega) km (by omega) (by omega) c2 c3).mono ?_
      rintro e v3 ⟨rfl, hP3, hq3⟩
      rw [F0.out]
      have hy3 := Nat.le_trans hy2 hq3.size
      go_wp2_with fail
      refine (atM key now (hP3.sel 3 [2, 0, 1] rfl (by decide)) hy3 (by omega) km (by omega) (by omega) c2 c3).mono ?_
      rintro e v4 ⟨rfl, hP4, hq4⟩
      rw [G0.out]
      have hy4 := Nat.le_trans hy3 hq4.size
      go_wp2_with fail
      have hP5 : Owns w.heap.size [DecM p1 half A1, DecM p3 half A3, DecM p2 half A2] v4 := hP4.sel 3 [2, 0, 1] rfl (by decide)
      refine (atM key now hP5 hy4 (by omega) km (by omega) (by omega) c2 c3).mono ?_
      rintro e v5 ⟨rfl, hP6, hq5⟩
      rw [E0.out]
      have hy5 := Nat.le_trans hy4 hq5.size
      go_wp2_with fail
      refine (atM key (now + half) hP6.swap hy5 (by omega) km (by omega) (by omega) c2 c3).mono ?_
      rintro e v6 ⟨rfl, hP7, hq6⟩
      rw [G1.out]
      have hy6 := Nat.le_trans hy5 hq6.size
      go_wp2_with fail
      refine (atM key (now + half) hP7.swap hy6 (by omega) km (by omega) (by omega) c2 c3).mono ?_
      rintro e v7 ⟨rfl, hP8, hq7⟩
      rw [E1.out]
      have hy7 := Nat.le_trans hy6 hq7.size
      have hP9 : Owns w.heap.size [DecM p2 half A2, DecM p1 half A1, DecM p3 half A3] v7 := hP8.sel 3 [2, 0, 1] rfl (by decide)
      go_wp2_with fail
      refine (atM key (now + half) hP9 hy7 (by omega) km (by omega) (by omega) c2 c3).mono ?_
      rintro e v8 ⟨rfl, hPa, hq8⟩
      rw [F1.out]
      go_wp2_with fail
      go_ret
      exact ⟨rfl, hbr.trans (hq1.trans (hq2.trans (hq3.trans (hq4.trans (hq5.trans (hq6.trans (hq7.trans hq8)))))))⟩
theorem row_halves {H : Type} {enc : TypeId × Value → H} (half : Int) (a : Option Addr) (len cap : Nat) (key : ByteArray) (now : Int) (w : World) (h1 : (Lit.int .i64 half).wf = true) {d : DataW H} {ps : List MemPlace}
    (hs : DataW.Trod enc Try.prog w 0 (fun _ => true) true 25 (.slice a len cap) d ps) (hk : key.size ≤ 140737488351232) (h2 : (Lit.int .i64 now).wf = true) :
    Calls Try.prog 4 #[.int .i64 half, .slice a len cap, .string key, .int .i64 now] w fun e w' => e = .returned (.bool true) ∧ Below w.heap.size w w' := by
  obtain ⟨l, rfl, hl, hsl⟩ := SlAt.open (r := rdDeed) (by decide) Try.underlying25 hs
  exact law_halves half now a cap l key w (wf_bd h1).1 (wf_bd h1).2 (wf_bd h2).1 (wf_bd h2).2 (by omega) hl hsl
end Go.Proofs.Dcy
