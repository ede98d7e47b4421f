/- SeasonFirst: the walk of the law. -/
import Derived.Test.YtfolnnmgnkalkaaSeaFirst
namespace Go.Proofs.Pan
open Go.RowKit Go.Cic Go.ChangeMaps
set_option linter.unusedVariables false
set_option linter.unusedSimpArgs false
set_option maxRecDepth 100000
def FirstO (B : Nat) (w : World) (p : Nat) (W : Int) (b11 : Nat) (P Bk now : Int) (l : List Add') (g : Nat) (i : Value) (wr : World) : Prop :=
  ∃ k : Nat, k ≤ l.length ∧ g = l.length - k ∧ i = .int .i64 k ∧ (∀ d ∈ l.take k, d.1 ≠ sN) ∧ Below B w wr ∧ Owns B [PanR p W (l.map actOf), Asrt.cells b11 #[.pointer (some ⟨p, 0, none⟩)] 25, Asrt.cells B #[.int .i64 P, .int .i64 Bk] 53, Asrt.cells (B + 1) #[.int .i64 now] 3] wr
set_option maxHeartbeats 16000000 in
theorem law_first (width P Bk now n : Int) (A : Option Addr) (cap : Nat) (l : List Add') (w : World) (hl : l.length ≤ maxLen) (hs : SlAt rdAdd w A l) (hP1 : -9223372036854775808 ≤ P) (hP2 : P ≤ 9223372036854775807) (hB1 : -9223372036854775808 ≤ Bk) (hB2 : Bk ≤ 9223372036854775807) (hn1 : -9223372036854775808 ≤ now) (hn2 : now ≤ 9223372036854775807) (hz1 : 0 ≤ n) (hz2 : n ≤ 255) :
    Calls Try.prog 15 #[.int .i64 width, .slice A l.length cap, .agg #[.int .i64 P, .int .i64 Bk], .int .i64 now, .int .u8 n] w fun e w' => e = .returned (.bool true) ∧ Below w.heap.size w w' := by
  have hO0 := ((Owns.nil w.heap.size w).alloc_cells (Nat.le_refl _) #[.int .i64 P, .int .i64 Bk] 53)
  have bA0 : Below w.heap.size w (w.alloc (.cells #[.int .i64 P, .int .i64 Bk] 53)) := (Below.refl _ w).alloc (Nat.le_refl _) _
  have hO : Owns w.heap.size [Asrt.cells w.heap.size #[.int .i64 P, .int .i64 Bk] 53, Asrt.cells (w.heap.size + 1) #[.int .i64 now] 3] ((w.alloc (.cells #[.int .i64 P, .int .i64 Bk] 53)).alloc (.cells #[.int .i64 now] 3)) := by
    have := hO0.alloc_cells bA0.size #[.int .i64 now] 3
    rw [World.size_alloc] at this
    exact this.swap
  have bA : Below w.heap.size w ((w.alloc (.cells #[.int .i64 P, .int .i64 Bk] 53)).alloc (.cells #[.int .i64 now] 3)) := bA0.alloc bA0.size _
  have cells : ∀ {W' : World} {l' : List Asrt}, Owns w.heap.size (Asrt.cells w.heap.size #[.int .i64 P, .int .i64 Bk] 53 :: Asrt.cells (w.heap.size + 1) #[.int .i64 now] 3 :: l') W' → W'.cell? ⟨w.heap.size, 0, none⟩ = some (.int .i64 P) ∧ W'.cell? ⟨w.heap.size, 1, none⟩ = some (.int .i64 Bk) ∧ W'.cell? ⟨w.heap.size + 1, 0, none⟩ = some (.int .i64 now) := fun h =>
    ⟨by rw [cell_of h.cellsE.1]; rfl, by rw [cell_of h.cellsE.1]; rfl, by rw [cell_of h.tail.cellsE.1]; rfl⟩
  have haw := fun (W0 : World) => awake33 W0
  have hlg := long_any A cap l P Bk ((w.alloc (.cells #[.int .i64 P, .int .i64 Bk] 53)).alloc (.cells #[.int .i64 now] 3)) hl (hs.below bA) hB1 hB2
  obtain ⟨c0, c1, c2⟩ := cells hO
  by_cases hv : longB l Bk = true ∨ n = 0
  · have hcs : longB l Bk = true ∨ (longB l Bk = false ∧ n = 0) := by
      by_cases hf : longB l Bk = true
      · exact .inl hf
      · exact .inr ⟨by simpa using hf, hv.resolve_left hf⟩
    clear hv
    rcases hcs with hf | ⟨hf, rfl⟩
    all_goals
      rw [hf] at hlg
      clear hf
      go_enter Try.func15, Try.ntmps15
      go_wp2_with fail
      refine hlg.mono ?_
      rintro e w1 ⟨rfl, b1⟩
      have hb1 := bA.trans (b1.mono bA.size)
      go_wp2_with fail
      refine (haw _).mono ?_
      rintro e w2 ⟨rfl, b2⟩
      go_wp2_with fail
      go_ret
      exact ⟨rfl, hb1.trans (b2.mono hb1.size)⟩
  obtain ⟨hf, hnz⟩ : longB l Bk = false ∧ ¬ n = 0 := by
    simp only [not_or] at hv
    exact ⟨by simpa using hv.1, hv.2⟩
  clear hv
  have tn : (n == 0) = false := by simpa using hnz
  rw [hf] at hlg
  obtain ⟨hsm, hll, _⟩ := longB_no hf
  clear hf
  have hk1000 : ∀ x ∈ l, x.1.size ≤ 1000 := fun x hx => by have := hsm x hx; omega
  go_enter Try.func15, Try.ntmps15
  go_wp2_with fail
  refine hlg.mono ?_
  rintro e w1 ⟨rfl, b1⟩
  have hb1 := bA.trans (b1.mono bA.size)
  have hO1 := hO.keep b1
  have hfl := fill_own width A cap l w1 w (by omega) hs rfl hb1 hO1 hk1000
  have hwb := wf_bd width
  generalize wf width = W at hfl hwb
  obtain ⟨hW1, hW2⟩ := hwb
  go_wp2_with fail
  refine hfl.mono ?_
  rintro e w2 ⟨p, rfl, hO2, hb2⟩
  have hokA : ∀ a ∈ l.map actOf, rdS.ok a.2.1 := fun a ha => by
    obtain ⟨d, hd, rfl⟩ := List.mem_map.1 ha
    exact (hs.1 d hd).1
  have hF := ((hO2.alloc_cells hb2.size #[.pointer (some ⟨p, 0, none⟩)] 25).front 1 _ rfl)
  have bF : Below w.heap.size w (w2.alloc (.cells #[.pointer (some ⟨p, 0, none⟩)] 25)) := hb2.alloc hb2.size _
  obtain ⟨b11, hb11⟩ : ∃ b, Hid (w2.heap.size = b) := ⟨_, Hid.mk' rfl⟩
  rw [hb11.out] at hF
  have fcells : ∀ {W' : World}, Owns w.heap.size [PanR p W (l.map actOf), Asrt.cells b11 #[.pointer (some ⟨p, 0, none⟩)] 25, Asrt.cells w.heap.size #[.int .i64 P, .int .i64 Bk] 53, Asrt.cells (w.heap.size + 1) #[.int .i64 now] 3] W' → W'.cell? ⟨w.heap.size, 0, none⟩ = some (.int .i64 P) ∧ W'.cell? ⟨w.heap.size, 1, none⟩ = some (.int .i64 Bk) ∧ W'.cell? ⟨w.heap.size + 1, 0, none⟩ = some (.int .i64 now) ∧ W'.cell? ⟨b11, 0, none⟩ = some (.pointer (some ⟨p, 0, none⟩)) := fun h =>
    ⟨(cells h.tail.tail).1, (cells h.tail.tail).2.1, (cells h.tail.tail).2.2, by rw [cell_of h.tail.cellsE.1]; rfl⟩
  have hst : FirstO w.heap.size w p W b11 P Bk now l l.length (.int .i64 0) (w2.alloc (.cells #[.pointer (some ⟨p, 0, none⟩)] 25)) := ⟨0, Nat.zero_le _, rfl, rfl, by simp, bF, hF⟩
  have c25 : (w2.alloc (.cells #[.pointer (some ⟨p, 0, none⟩)] 25)).cell? ⟨b11, 0, none⟩ = some (.pointer (some ⟨p, 0, none⟩)) := (fcells hF).2.2.2
  replace hst := Hid.mk' hst
  clear hF bF hO2 hb2 hfl hlg hO1 hb1
  go_wp2_with fail
  rw [hb11.out]
  go_loopg [30] l.length (fun g i wr => FirstO w.heap.size w p W b11 P Bk now l g i wr)
  case atStart => exact hst.out
  case round =>
    clear hst c25
    obtain ⟨k, hk, hgk, rfl, hno, hbr, hOr⟩ := hrel
    have hzr := hbr.size
    obtain ⟨j0, j1, j2, j3⟩ := fcells hOr
    by_cases hlt : k < l.length
    · have hy : l[k]? = some (l[k]'(by omega)) := List.getElem?_eq_getElem (by omega)
      generalize (l[k]'(by omega)) = y at hy
      obtain ⟨bb, o, hidx, hc, hbl⟩ := hs.idx (cap := cap) Try.underlying61 size74 rfl hy
      obtain ⟨d0', d1', d2'⟩ := add_at hc
      have d0 : wr.cell? ⟨bb, o, none⟩ = some (.string y.1) := (hbr.cell (p := ⟨bb, o, none⟩) hbl).trans d0'
      have d1 : wr.cell? ⟨bb, o + 1, none⟩ = some (.int .i64 y.2.1) := (hbr.cell (p := ⟨bb, o + 1, none⟩) hbl).trans d1'
      have d2 : wr.cell? ⟨bb, o + 2, none⟩ = some (.int .i64 y.2.2) := (hbr.cell (p := ⟨bb, o + 2, none⟩) hbl).trans d2'
      have hA := hOr.keep ((Below.refl _ wr).alloc (Nat.le_refl _) (.cells #[.string y.1, .int .i64 y.2.1, .int .i64 y.2.2] 74))
      have bA2 : Below w.heap.size w (wr.alloc (.cells #[.string y.1, .int .i64 y.2.1, .int .i64 y.2.2] 74)) := hbr.alloc hzr _
      have eN : sN.toList = [110, 101, 119] := by rw [ByteArray.toList_eq]
      by_cases hyn : y.1 = sN
      · have t1 : (y.1.toList == [110, 101, 119]) = true := by rw [← eN]; exact beq_iff_eq.2 (congrArg _ hyn)
        clear hc hy d0' d1' d2' eN hyn
        go_wp2_with fail
        refine (haw _).mono ?_
        rintro e w4 ⟨rfl, b4⟩
        go_wp2_with fail
        go_ret
        exact ⟨rfl, bA2.trans (b4.mono bA2.size)⟩
      · have t1 : (y.1.toList == [110, 101, 119]) = false := by rw [← eN]; exact beq_eq_false_iff_ne.2 (fun e => hyn (str_inj e))
        have hno2 : ∀ d ∈ l.take (k + 1), d.1 ≠ sN := fun d hd => by
          rw [take_succ' hy] at hd
          rcases List.mem_append.1 hd with hd | hd
          · exact hno d hd
          · obtain rfl : d = y := by simpa using hd
            exact hyn
        replace hno2 := Hid.mk' hno2
        replace hyn := Hid.mk' hyn
        clear hc hy d0' d1' d2' eN hno
        go_wp2_with fail
        go_roundg (l.length - (k + 1))
        case rel => exact ⟨k + 1, by omega, rfl, by go_num, hno2.out, bA2, hA⟩
        case measure => omega
    · rw [List.take_of_length_le (by omega)] at hno
      have hwd := width_any p W wr.drew (panR_width hOr.drew)
      have hr41 := fun (W0 : World) => right41 P Bk W now W0 hP1 hP2 hB1 hB2 (by omega) (by omega)
      by_cases hsk : sok P Bk W now
      · have hr41 := fun W0 => (decide_eq_true hsk) ▸ hr41 W0
        have hnow := hsk.2
        have hmay : mayAdd sN now n := ⟨by decide, by decide, hnow.1, hnow.2, hz1, by omega⟩
        have hadd := fun {lA : List Asrt} {W0 : World} (hO : Owns w.heap.size (PanR p W (l.map actOf) :: lA) W0) (hB : w.heap.size ≤ W0.heap.size) => addR 1 sN now n hO hB (by rw [List.length_map]; omega) hW1 hW2
        rw [decide_eq_true hmay] at hadd
        have hnoA : ∀ d ∈ l.map actOf, d.2.1 ≠ sN := fun d hd => by
          obtain ⟨x, hx, rfl⟩ := List.mem_map.1 hd
          exact hno x hx
        have hokB : ∀ a ∈ l.map actOf ++ [(1, sN, now, n)], rdS.ok a.2.1 := fun a ha => (List.mem_append.1 ha).elim (hokA a) (fun h => by simp at h; subst h; show (3 : Nat) ≤ maxLen; unfold maxLen; omega)
        have hfi := fun (floor : Int) => first_in hsk hnoA hmay (by omega) floor
        have hfo := fun (floor : Int) (bq : Bool) (hq : floor ≤ n ↔ bq = true) {W0 : World} (hO : Owns w.heap.size [PanR p W (l.map actOf ++ [(1, sN, now, n)]), Asrt.cells b11 #[.pointer (some ⟨p, 0, none⟩)] 25, Asrt.cells w.heap.size #[.int .i64 P, .int .i64 Bk] 53, Asrt.cells (w.heap.size + 1) #[.int .i64 now] 3] W0) (hB : w.heap.size ≤ W0.heap.size) => found_own bq hO hB (by simp; omega) hW1 hW2 hsk hokB ((hfi floor).trans hq)
        have hmf : ∀ (fn : Fn) (first cap : Array Value) (w : World), (Instr.makeFunc fn first cap).run Try.prog w = .ok (.func fn first cap) w := fun _ _ _ _ => rfl
        have e1 : IntKind.i64.wrap n = n := IntWalk.i64_in _ (by omega)
        obtain ⟨hnow1, hnow2⟩ := hnow
        clear hno hnoA hokB hfi hmay
        go_wp2_with fail
        go_region_held3 (fun w' => w'.cell? ⟨w.heap.size, 0, none⟩ = some (.int .i64 P) ∧ w'.cell? ⟨w.heap.size, 1, none⟩ = some (.int .i64 Bk) ∧ w'.cell? ⟨w.heap.size + 1, 0, none⟩ = some (.int .i64 now) ∧ w'.cell? ⟨b11, 0, none⟩ = some (.pointer (some ⟨p, 0, none⟩))) (go_keep)
          (first
            | (go_at_call 21; refine hwd.mono ?_; rintro e w' ⟨rfl, rfl⟩)
            | (go_at_call 41; refine (hr41 _).mono ?_; rintro e x1 ⟨rfl, q1⟩; have hQ1 := hOr.drew.keep q1; have hbq1 := hbr.drew.trans (q1.mono hzr); obtain ⟨m0, m1, m2, m3⟩ := fcells hQ1; have hadd1 := hadd hQ1 hbq1.size)
            | (go_at_call 19; refine hadd1.mono ?_; rintro e x2 ⟨rfl, hQ2, q2⟩; have hbq2 := hbq1.trans q2; have m0 : x2.cell? ⟨w.heap.size, 0, none⟩ = some (.int .i64 P) := (cells hQ2.tail.tail).1; have m1 : x2.cell? ⟨w.heap.size, 1, none⟩ = some (.int .i64 Bk) := (cells hQ2.tail.tail).2.1; have m2 : x2.cell? ⟨w.heap.size + 1, 0, none⟩ = some (.int .i64 now) := (cells hQ2.tail.tail).2.2; have m3 : x2.cell? ⟨b11, 0, none⟩ = some (.pointer (some ⟨p, 0, none⟩)) := (by rw [cell_of hQ2.tail.cellsE.1]; rfl)))
        have h1 := hfo 0 true ⟨fun _ => rfl, fun _ => by omega⟩ hQ2 hbq2.size
        clear hadd hadd1 hwd hr41
        go_wp2_with fail
        refine h1.mono ?_
        rintro e x3 ⟨rfl, hQ3, q3⟩
        have hbq3 := hbq2.trans q3
        have h2 := hfo n true ⟨fun _ => rfl, fun _ => by omega⟩ hQ3 hbq3.size
        go_wp2_with fail
        refine h2.mono ?_
        rintro e x4 ⟨rfl, hQ4, q4⟩
        have hbq4 := hbq3.trans q4
        have h3 := hfo (n + 1) false ⟨fun h => by omega, fun h => by cases h⟩ hQ4 hbq4.size
        go_wp2_with fail
        refine h3.mono ?_
        rintro e x5 ⟨rfl, hQ5, q5⟩
        have hbq5 := hbq4.trans q5
        go_wp2_with fail
        refine (haw _).mono ?_
        rintro e x6 ⟨rfl, q6⟩
        go_wp2_with fail
        go_ret
        exact ⟨rfl, hbq5.trans (q6.mono hbq5.size)⟩
      · have hr41 := fun W0 => (decide_eq_false hsk) ▸ hr41 W0
        replace hno := Hid.mk' hno
        go_wp2_with fail
        refine wp_region_held_drew (S := fun w' => w'.cell? ⟨w.heap.size, 0, none⟩ = some (.int .i64 P) ∧ w'.cell? ⟨w.heap.size, 1, none⟩ = some (.int .i64 Bk) ∧ w'.cell? ⟨w.heap.size + 1, 0, none⟩ = some (.int .i64 now) ∧ w'.cell? ⟨b11, 0, none⟩ = some (.pointer (some ⟨p, 0, none⟩))) (by kernel_rfl) ?_ (fun hHeld => ?_)
        · (try dsimp only); exact ⟨by assumption, by assumption, by assumption, by assumption⟩
        refine wpAnyH_take (i := 0) (v := ?_) (by simp only [List.getElem?_toArray, List.getElem?_cons_zero]; exact rfl) (by kernel_rfl) (by kernel_rfl) (by kernel_rfl) (by exact fun _ _ _ h => h) (Or.inl ⟨by rfl, ?_⟩) (by assumption) ?_; rotate_left; (intro w hSw; (try dsimp only at hSw); go_simp; try with_reducible rfl); try simp only [Act.put, List.setIfInBounds_toArray, List.set_cons_zero, List.set_cons_succ]
        refine wpAnyH_take (i := 1) (v := ?_) (by simp only [List.getElem?_toArray, List.getElem?_cons_succ, List.getElem?_cons_zero]; exact rfl) (by kernel_rfl) (by kernel_rfl) (by kernel_rfl) (by exact fun _ _ _ h => h) (Or.inl ⟨by rfl, ?_⟩) (by assumption) ?_; rotate_left; (intro w hSw; (try dsimp only at hSw); go_simp; try with_reducible rfl); try simp only [Act.put, List.setIfInBounds_toArray, List.set_cons_zero, List.set_cons_succ]
        refine wpAnyH_take (i := 3) (v := ?_) (by simp only [List.getElem?_toArray, List.getElem?_cons_succ, List.getElem?_cons_zero]; exact rfl) (by kernel_rfl) (by kernel_rfl) (by kernel_rfl) (by exact fun _ _ _ h => h) (Or.inl ⟨by rfl, ?_⟩) (by assumption) ?_; rotate_left; (intro w hSw; (try dsimp only at hSw); go_simp; try with_reducible rfl); try simp only [Act.put, List.setIfInBounds_toArray, List.set_cons_zero, List.set_cons_succ]
        refine wpAnyH_ready (rs := [2]) (by kernel_rfl) (by simp) ?_
        refine AllReadyH.cons (by simp only [List.getElem?_toArray, List.getElem?_cons_succ, List.getElem?_cons_zero]; exact rfl) (fun K hK => ?_) AllReadyH.nil
        go_simp
        refine hwd.mono ?_
        rintro e w' ⟨rfl, rfl⟩
        go_wp2_with fail
        refine hK.out _ _ ?_ (fun hHeld => ?_)
        · (try dsimp only); exact ⟨by assumption, by assumption, by assumption, by assumption⟩
        clear hK K
        try simp only [Act.put, List.setIfInBounds_toArray, List.set_cons_zero, List.set_cons_succ]
        refine wpAnyH_ready (rs := [4]) (by kernel_rfl) (by simp) ?_
        refine AllReadyH.cons (by simp only [List.getElem?_toArray, List.getElem?_cons_succ, List.getElem?_cons_zero]; exact rfl) (fun K hK => ?_) AllReadyH.nil
        go_simp
        refine (hr41 _).mono ?_
        rintro e x1 ⟨rfl, q1⟩
        have hQ1 := hOr.drew.keep q1
        have hbq1 := hbr.drew.trans (q1.mono hzr)
        obtain ⟨m0, m1, m2, m3⟩ := fcells hQ1
        go_wp2_with fail
        refine hK.out _ _ ?_ (fun hHeld => ?_)
        · (try dsimp only); exact ⟨by assumption, by assumption, by assumption, by assumption⟩
        clear hK K
        try simp only [Act.put, List.setIfInBounds_toArray, List.set_cons_zero, List.set_cons_succ]
        refine wpAnyH_take (i := 5) (v := ?_) (by simp only [List.getElem?_toArray, List.getElem?_cons_succ, List.getElem?_cons_zero]; exact rfl) (by kernel_rfl) (by kernel_rfl) (by kernel_rfl) (by exact fun _ _ _ h => h) (Or.inl ⟨by rfl, ?_⟩) (by assumption) ?_; rotate_left; (intro w hSw; (try dsimp only at hSw); go_simp; try with_reducible rfl); try simp only [Act.put, List.setIfInBounds_toArray, List.set_cons_zero, List.set_cons_succ]
        refine wpAnyH_take (i := 6) (v := ?_) (by simp only [List.getElem?_toArray, List.getElem?_cons_succ, List.getElem?_cons_zero]; exact rfl) (by kernel_rfl) (by kernel_rfl) (by kernel_rfl) (by exact fun _ _ _ h => h) (Or.inl ⟨by rfl, ?_⟩) (by assumption) ?_; rotate_left; (intro w hSw; (try dsimp only at hSw); go_simp; try with_reducible rfl); try simp only [Act.put, List.setIfInBounds_toArray, List.set_cons_zero, List.set_cons_succ]
        refine wpAnyH_take (i := 7) (v := undef) (by simp only [List.getElem?_toArray, List.getElem?_cons_succ, List.getElem?_cons_zero]; exact rfl) (by kernel_rfl) (by kernel_rfl) (by kernel_rfl) (by exact fun _ _ _ h => h) (Or.inr ⟨by rfl, rfl⟩) (by assumption) ?_; try simp only [Act.put, List.setIfInBounds_toArray, List.set_cons_zero, List.set_cons_succ]
        refine wpAnyH_take (i := 8) (v := undef) (by simp only [List.getElem?_toArray, List.getElem?_cons_succ, List.getElem?_cons_zero]; exact rfl) (by kernel_rfl) (by kernel_rfl) (by kernel_rfl) (by exact fun _ _ _ h => h) (Or.inr ⟨by rfl, rfl⟩) (by assumption) ?_; try simp only [Act.put, List.setIfInBounds_toArray, List.set_cons_zero, List.set_cons_succ]
        refine wpAnyH_take (i := 9) (v := undef) (by simp only [List.getElem?_toArray, List.getElem?_cons_succ, List.getElem?_cons_zero]; exact rfl) (by kernel_rfl) (by kernel_rfl) (by kernel_rfl) (by exact fun _ _ _ h => h) (Or.inr ⟨by rfl, rfl⟩) (by assumption) ?_; try simp only [Act.put, List.setIfInBounds_toArray, List.set_cons_zero, List.set_cons_succ]
        refine wpAnyH_take (i := 10) (v := undef) (by simp only [List.getElem?_toArray, List.getElem?_cons_succ, List.getElem?_cons_zero]; exact rfl) (by kernel_rfl) (by kernel_rfl) (by kernel_rfl) (by exact fun _ _ _ h => h) (Or.inr ⟨by rfl, rfl⟩) (by assumption) ?_; try simp only [Act.put, List.setIfInBounds_toArray, List.set_cons_zero, List.set_cons_succ]
        refine wpAnyH_take (i := 11) (v := undef) (by simp only [List.getElem?_toArray, List.getElem?_cons_succ, List.getElem?_cons_zero]; exact rfl) (by kernel_rfl) (by kernel_rfl) (by kernel_rfl) (by exact fun _ _ _ h => h) (Or.inr ⟨by rfl, rfl⟩) (by assumption) ?_; try simp only [Act.put, List.setIfInBounds_toArray, List.set_cons_zero, List.set_cons_succ]
        refine wpAnyH_take (i := 12) (v := undef) (by simp only [List.getElem?_toArray, List.getElem?_cons_succ, List.getElem?_cons_zero]; exact rfl) (by kernel_rfl) (by kernel_rfl) (by kernel_rfl) (by exact fun _ _ _ h => h) (Or.inr ⟨by rfl, rfl⟩) (by assumption) ?_; try simp only [Act.put, List.setIfInBounds_toArray, List.set_cons_zero, List.set_cons_succ]
        refine wpAnyH_take (i := 13) (v := ?_) (by simp only [List.getElem?_toArray, List.getElem?_cons_succ, List.getElem?_cons_zero]; exact rfl) (by kernel_rfl) (by kernel_rfl) (by kernel_rfl) (by exact fun _ _ _ h => h) (Or.inl ⟨by rfl, ?_⟩) (by assumption) ?_; rotate_left; (intro w hSw; (try dsimp only at hSw); go_simp; try with_reducible rfl); try simp only [Act.put, List.setIfInBounds_toArray, List.set_cons_zero, List.set_cons_succ]
        refine wpAnyH_done (by kernel_rfl) ?_ _
        have hwd2 := width_any p W x1.drew (panR_width hQ1.drew)
        go_wp2_with fail
        go_region_held3 (fun w' => w'.cell? ⟨w.heap.size, 0, none⟩ = some (.int .i64 P) ∧ w'.cell? ⟨w.heap.size, 1, none⟩ = some (.int .i64 Bk) ∧ w'.cell? ⟨w.heap.size + 1, 0, none⟩ = some (.int .i64 now) ∧ w'.cell? ⟨b11, 0, none⟩ = some (.pointer (some ⟨p, 0, none⟩))) (go_keep)
          (first
            | (go_at_call 21; refine hwd2.mono ?_; rintro e w' ⟨rfl, rfl⟩)
            | (go_at_call 41; refine (hr41 _).mono ?_; rintro e x2 ⟨rfl, q2⟩; have hQ2 := hQ1.drew.keep q2; have hbq2 := hbq1.drew.trans (q2.mono hbq1.size); obtain ⟨m0, m1, m2, m3⟩ := fcells hQ2)
            | (go_at_call 33; refine (haw _).mono ?_; rintro e x3 ⟨rfl, q3⟩; have hQ3 := hQ2.keep q3; have hbq3 := hbq2.trans (q3.mono hbq2.size); obtain ⟨m0, m1, m2, m3⟩ := fcells hQ3))
        go_wp2_with fail
        go_ret
        exact ⟨rfl, hbq3⟩
theorem row_first {H : Type} {enc : TypeId × Value → H} {base : Nat} (width : Int) (a : Option Addr) (len cap : Nat) (v : Value) (now n : Int) (w : World) (h0 : (Lit.int .i64 width).wf = true) {d : DataW H} {ps : List MemPlace}
    (hs : DataW.Trod enc Try.prog w 0 (fun _ => true) true 61 (.slice a len cap) d ps) {d2 : DataW H} {ps2 : List MemPlace} (h : DataW.Trod enc Try.prog w 0 (fun _ => true) true 53 v d2 ps2) (hv : Value.okWide Try.prog w .any base 53 v) (h2 : (Lit.int .i64 now).wf = true) (h3 : (Lit.int .u8 n).wf = true) :
    Calls Try.prog 15 #[.int .i64 width, .slice a len cap, v, .int .i64 now, .int .u8 n] w fun e w' => e = .returned (.bool true) ∧ Below w.heap.size w w' := by
  obtain ⟨P, Bk, rfl, ⟨hP1, hP2⟩, ⟨hB1, hB2⟩⟩ := open_season h hv
  obtain ⟨l, rfl, hl, hsl⟩ := SlAt.open (r := rdAdd) (by decide) Try.underlying61 hs
  have hn := bounds_u8 h3
  exact law_first width P Bk now n a cap l w hl hsl hP1 hP2 hB1 hB2 (wf_bd' h2).1 (wf_bd' h2).2 hn.1 hn.2
end Go.Proofs.Pan
