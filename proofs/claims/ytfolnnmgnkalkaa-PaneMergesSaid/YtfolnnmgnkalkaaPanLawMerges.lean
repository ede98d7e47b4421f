/- PaneMerges: the walk of the law. -/
import Derived.Test.YtfolnnmgnkalkaaPanRefMerge
import Derived.Test.YtfolnnmgnkalkaaPanLawPlays
namespace Go.Proofs.Pan
open Go.RowKit Go.Cic Go.ChangeMaps
set_option linter.unusedVariables false
set_option maxRecDepth 100000
/-- One add to both. -/
theorem both_add {k : Nat} {width count : Int} {L : List Sm} {T : Tab} (B p q : Nat) (a : Act') (hS : Sim T L count k) (hk : k ≤ 1000) (hw1 : 1 ≤ width) (hw2 : width ≤ 1099511627776) (hok : rdAct.ok a) : ∃ T' L' count' bq, Sim T' L' count' (k + 1) ∧
    (∀ {lA : List Asrt} {W : World}, Owns B (PanA p width count T :: lA) W → B ≤ W.heap.size → Calls Try.prog 19 #[.pointer (some ⟨p, 0, none⟩), .string a.2.1, .int .i64 a.2.2.1, .int .i64 a.2.2.2] W fun e w' => e = .returned (.bool bq) ∧ Owns B (PanA p width count' T' :: lA) w' ∧ Below B W w') ∧
    (∀ {lA : List Asrt} {W : World}, Owns B (RefA q width L count :: lA) W → B ≤ W.heap.size → Calls Try.prog 30 #[.pointer (some ⟨q, 0, none⟩), .string a.2.1, .int .i64 a.2.2.1, .int .i64 a.2.2.2] W fun e w' => e = .returned (.bool bq) ∧ Owns B (RefA q width L' count' :: lA) w' ∧ Below B W w') := by
  obtain ⟨kd, key, at_, n⟩ := a
  obtain ⟨o1, o2, o3, o4⟩ : (Lit.int .i64 kd).wf = true ∧ key.size ≤ maxLen ∧ (Lit.int .i64 at_).wf = true ∧ (Lit.int .i64 n).wf = true := hok
  dsimp only
  have hkey : key.size ≤ 9223372036854775807 := by unfold maxLen at o2; omega
  have hsk : mayAdd key at_ n → rdSum.ok (key, pn width at_, n) := fun hm => by
    obtain ⟨m1, m2, m3, m4, m5, m6⟩ := hm
    have := (pn_bd (width := width) (at_ := at_) hw1).1 m3
    exact ⟨o2, WalkArith.wf_i64 (by simp only; omega), o4⟩
  have hc1 : count < 1048576 := by have := hS.c1; omega
  have e1 : (mayAdd key at_ n ∧ count < 1048576) ↔ mayAdd key at_ n := ⟨fun h => h.1, fun h => ⟨h, hc1⟩⟩
  refine ⟨if mayAdd key at_ n ∧ 0 < n then AL.put T (key, pn width at_) (wrap64 ((AL.get T (key, pn width at_)).getD 0 + n)) else T, if mayAdd key at_ n then L ++ [(key, pn width at_, n)] else L, if mayAdd key at_ n then count + 1 else count, decide (mayAdd key at_ n), ?_, ?_, ?_⟩
  · by_cases hm : mayAdd key at_ n
    · simp only [hm, true_and, if_true]; exact hS.add hk key at_ n hm (hsk hm)
    · simp only [hm, false_and, if_false]; exact hS.mono (Nat.le_succ k)
  · intro lA W hO hB
    have hadd := add_own key at_ n hO hB hS.c0 hw1 hw2
    simp only [e1] at hadd
    exact hadd
  · intro lA W hO hB
    exact refadd_own key at_ n hO hB hS hk hw1 hw2 hkey hsk
/-- Both merged. -/
theorem both_merge {k1 k2 : Nat} {W1 W2 c1 c2 : Int} {L1 L2 : List Sm} {T1 T2 : Tab} (B p q a s : Nat) (hS1 : Sim T1 L1 c1 k1) (hS2 : Sim T2 L2 c2 k2) (hk1 : k1 ≤ 400) (hk2 : k2 ≤ 400) : ∃ (L' : List Sm) (c' : Int) (kk : Nat) (bq : Bool), kk ≤ 800 ∧
    (∀ {lA : List Asrt} {W : World}, Owns B (PanA p W1 c1 T1 :: PanA q W2 c2 T2 :: lA) W → B ≤ W.heap.size → Calls Try.prog 31 #[.pointer (some ⟨p, 0, none⟩), .pointer (some ⟨q, 0, none⟩)] W fun e w' => e = .returned (.bool bq) ∧ (∃ T', Sim T' L' c' kk ∧ Owns B (PanA p W1 c' T' :: PanA q W2 c2 T2 :: lA) w') ∧ Below B W w') ∧
    (∀ {lA : List Asrt} {W : World}, Owns B (RefA a W1 L1 c1 :: RefA s W2 L2 c2 :: lA) W → B ≤ W.heap.size → Calls Try.prog 32 #[.pointer (some ⟨a, 0, none⟩), .pointer (some ⟨s, 0, none⟩)] W fun e w' => e = .returned (.bool bq) ∧ Owns B (RefA a W1 L' c' :: RefA s W2 L2 c2 :: lA) w' ∧ Below B W w') := by
  by_cases hw : W1 = W2
  · subst hw
    refine ⟨L1 ++ L2, c1 + c2, k1 + k2, true, by omega, ?_, ?_⟩
    · intro lA W hO hB
      exact merge_own hO hB hS1 hS2 (by omega) (by omega)
    · intro lA W hO hB
      have z1 := hS1.c0; have z2 := hS2.c0; have z3 := hS1.c1; have z4 := hS2.c1
      exact refmerge_own hO hB hS1.lok hS2.lok (by have := hS1.llen; omega) (by have := hS2.llen; omega) z1 z2 (by omega)
  · refine ⟨L1, c1, k1, false, by omega, ?_, ?_⟩
    · intro lA W hO hB
      refine (merge_other p q W1 W2 W (pan_cell hO) (pan_cell hO.swap) hw).mono ?_
      rintro e w' ⟨rfl, m, rfl⟩
      exact ⟨rfl, ⟨T1, hS1, hO.drewN m⟩, (Below.drewN' W m).mono hB⟩
    · intro lA W hO hB
      refine (refmerge_other a s W1 W2 W (ref_cell hO) (ref_cell hO.swap) hw).mono ?_
      rintro e w' ⟨rfl, m, rfl⟩
      exact ⟨rfl, hO.drewN m, (Below.drewN' W m).mono hB⟩
/-- The loops' state. -/
def LoopM (B : Nat) (w : World) (p q : Nat) (wd : Int) (n : Nat) (lr : List Asrt) (g : Nat) (i : Value) (wr : World) : Prop :=
  ∃ (k : Nat) (T : Tab) (L : List Sm) (count : Int), k ≤ n ∧ g = n - k ∧ i = .int .i64 k ∧ Sim T L count k ∧ Below B w wr ∧ Owns B (PanA p wd count T :: RefA q wd L count :: lr) wr
def LoopN (B : Nat) (w : World) (lr : List Asrt) (n g : Nat) (i : Value) (wr : World) : Prop :=
  ∃ k : Nat, k ≤ n ∧ g = n - k ∧ i = .int .i64 k ∧ Below B w wr ∧ Owns B lr wr
theorem vs_cell {B : Nat} {l : List Asrt} {w : World} {ao : Option Addr} {n c : Nat} {ks : List ByteArray} (h : Owns B (Asrt.rows rdS (.slice ao n c) ks :: l) w) (hok : ∀ x ∈ ks, rdS.ok x) {b o k : Nat} {x : ByteArray} (hk : ks[k]? = some x)
    (hidx : ∀ W : World, (Instr.indexAt 35 (.slice ao n c) (.int .i64 k)).run Try.prog W = .ok (.pointer (some ⟨b, o, none⟩)) W) : w.cell? ⟨b, o, none⟩ = some (.string x) := by
  obtain ⟨hs, hn, _⟩ := VS.sl h hok
  obtain ⟨b1, o1, i1, g1, _⟩ := VS.idx (c := c) hs hn hk
  have := (hidx w).symm.trans (i1 w)
  simp only [Result.ok.injEq, Value.pointer.injEq, Option.some.injEq, Addr.mk.injEq, and_true] at this
  rw [this.1, this.2]; exact g1 0 _ rfl
set_option maxHeartbeats 16000000 in
theorem law_merges (width other from_ to_ : Int) (A1 A2 : Option Addr) (cap1 cap2 : Nat) (l m : List Act') (w : World) (hl : l.length ≤ maxLen) (hm : m.length ≤ maxLen) (hs : SlAt rdAct w A1 l) (ht : SlAt rdAct w A2 m)
    (hf1 : -9223372036854775808 ≤ from_) (hf2 : from_ ≤ 9223372036854775807) (ht1 : -9223372036854775808 ≤ to_) (ht2 : to_ ≤ 9223372036854775807) :
    Calls Try.prog 9 #[.int .i64 width, .int .i64 other, .slice A1 l.length cap1, .slice A2 m.length cap2, .int .i64 from_, .int .i64 to_] w fun e w' => e = .returned (.bool true) ∧ Below w.heap.size w w' := by
  have haw := awake_any w
  by_cases hv : fewB l = false ∨ fewB m = false
  · have hcs : fewB l = false ∨ (fewB l = true ∧ fewB m = false) := by
      by_cases hf : fewB l = true
      · exact .inr ⟨hf, hv.resolve_left (by rw [hf]; simp)⟩
      · exact .inl (by simpa using hf)
    clear hv
    rcases hcs with hf | ⟨hf, h2⟩
    · replace hf := Hid.mk' hf
      go_enter Try.func9, Try.ntmps9
      go_wp2_with fail
      refine haw.mono ?_
      rintro e w1 ⟨rfl, b1⟩
      have hfw := few_any A1 cap1 l w1 hl (hs.below b1)
      rw [hf.out] at hfw
      go_wp2_with fail
      refine hfw.mono ?_
      rintro e w2 ⟨rfl, rfl⟩
      go_wp2_with fail
      go_ret
      exact ⟨rfl, b1⟩
    · replace hf := Hid.mk' hf
      replace h2 := Hid.mk' h2
      go_enter Try.func9, Try.ntmps9
      go_wp2_with fail
      refine haw.mono ?_
      rintro e w1 ⟨rfl, b1⟩
      have hfw := few_any A1 cap1 l w1 hl (hs.below b1)
      have hfx := few_any A2 cap2 m w1 hm (ht.below b1)
      rw [hf.out] at hfw
      rw [h2.out] at hfx
      go_wp2_with fail
      refine hfw.mono ?_
      rintro e w2 ⟨rfl, rfl⟩
      go_wp2_with fail
      refine hfx.mono ?_
      rintro e w2 ⟨rfl, rfl⟩
      go_wp2_with fail
      go_ret
      exact ⟨rfl, b1⟩
  obtain ⟨hfe, hfe2⟩ : fewB l = true ∧ fewB m = true := by
    simp only [not_or] at hv
    exact ⟨by simpa using hv.1, by simpa using hv.2⟩
  clear hv
  have H := Hid.mk' hfe
  have H2 := Hid.mk' hfe2
  clear hfe hfe2
  have hll := (fewB_spec H.out).1
  have hlm := (fewB_spec H2.out).1
  have hwb := wf_bd width
  have hwo := wf_bd other
  have hnewp := fun {lA : List Asrt} {W : World} (hO : Owns w.heap.size lA W) (hB : w.heap.size ≤ W.heap.size) => new_own width hO hB
  have hnewr := fun {lA : List Asrt} {W : World} (hO : Owns w.heap.size lA W) (hB : w.heap.size ≤ W.heap.size) => refnew_own width hO hB
  have hnewq := fun {lA : List Asrt} {W : World} (hO : Owns w.heap.size lA W) (hB : w.heap.size ≤ W.heap.size) => new_own other hO hB
  have hnews := fun {lA : List Asrt} {W : World} (hO : Owns w.heap.size lA W) (hB : w.heap.size ≤ W.heap.size) => refnew_own other hO hB
  generalize wf width = wd at hwb hnewp hnewr
  generalize wf other = od at hwo hnewq hnews
  obtain ⟨hw1, hw2⟩ := hwb
  obtain ⟨ho1, ho2⟩ := hwo
  go_enter Try.func9, Try.ntmps9
  go_wp2_with fail
  refine haw.mono ?_
  rintro e w1 ⟨rfl, b1⟩
  have hfw := few_any A1 cap1 l w1 hl (hs.below b1)
  have hfx := few_any A2 cap2 m w1 hm (ht.below b1)
  rw [H.out] at hfw
  rw [H2.out] at hfx
  go_wp2_with fail
  refine hfw.mono ?_
  rintro e w2 ⟨rfl, rfl⟩
  go_wp2_with fail
  refine hfx.mono ?_
  rintro e w2 ⟨rfl, rfl⟩
  have hn1 := hnewp (Owns.nil w.heap.size w1) b1.size
  go_wp2_with fail
  refine hn1.mono ?_
  rintro e w2 ⟨p, rfl, hO2, b2⟩
  have hb2 := b1.trans b2
  have hn2 := hnewq hO2 hb2.size
  go_wp2_with fail
  refine hn2.mono ?_
  rintro e w3 ⟨q, rfl, hO3, b3⟩
  have hb3 := hb2.trans b3
  have hn3 := hnewr hO3 hb3.size
  go_wp2_with fail
  refine hn3.mono ?_
  rintro e w4 ⟨r, rfl, hO4, b4⟩
  have hb4 := hb3.trans b4
  have hn4 := hnews hO4 hb4.size
  go_wp2_with fail
  refine hn4.mono ?_
  rintro e w5 ⟨s, rfl, hO5, b5⟩
  have hb5 := hb4.trans b5
  -- RefA s, RefA r, PanA q, PanA p
  have hst : LoopM w.heap.size w p r wd l.length [PanA q od 0 [], RefA s od [] 0] l.length (.int .i64 0) w5 :=
    ⟨0, [], [], 0, Nat.zero_le _, rfl, rfl, Sim.start, hb5, (((hO5.front 2 _ rfl).front 2 _ rfl).front 3 _ rfl |>.perm (by
      refine List.Perm.cons _ ?_
      exact List.Perm.refl _))⟩
  replace hst := Hid.mk' hst
  clear hn1 hn2 hn3 hn4 hfw hfx hO2 hO3 hO4 hO5 haw b1 b2 b3 b4 b5 hb2 hb3 hb4 hb5 hnewp hnewq hnewr hnews
  go_wp2_with fail
  go_loopg [17] l.length (fun g i wr => LoopM w.heap.size w p r wd l.length [PanA q od 0 [], RefA s od [] 0] g i wr)
  case atStart => exact hst.out
  case round =>
    clear hst
    obtain ⟨k, T, L, count, hk2, hgk, rfl, hS, hbr, hOr⟩ := hrel
    have hzr := hbr.size
    by_cases hlt : k < l.length
    · have hy : l[k]? = some l[k] := List.getElem?_eq_getElem hlt
      generalize l[k] = y at hy
      have hyok := hs.1 y (List.mem_of_getElem? hy)
      obtain ⟨bb, o, hidx, hc, hbl⟩ := hs.idx (cap := cap1) Try.underlying22 size29 rfl hy
      obtain ⟨_, d1', d2', d3'⟩ := act_at hc
      have hcells : ∀ W, Below w.heap.size w W → W.cell? ⟨bb, o + 1, none⟩ = some (.string y.2.1) ∧ W.cell? ⟨bb, o + 2, none⟩ = some (.int .i64 y.2.2.1) ∧ W.cell? ⟨bb, o + 3, none⟩ = some (.int .i64 y.2.2.2) := fun W hW =>
        ⟨(hW.cell (p := ⟨bb, o + 1, none⟩) hbl).trans d1', (hW.cell (p := ⟨bb, o + 2, none⟩) hbl).trans d2', (hW.cell (p := ⟨bb, o + 3, none⟩) hbl).trans d3'⟩
      obtain ⟨c1, c2, c3⟩ := hcells wr hbr
      obtain ⟨T4, L4, n4, bq, hS4, hadd, hrad⟩ := both_add w.heap.size p r y hS (by omega) hw1 hw2 hyok
      clear hc d1' d2' d3' hS
      replace hadd := hadd hOr.drew hzr
      replace hy := Hid.mk' hy
      go_wp2_with fail
      go_region_held3 (fun w' => w'.cell? ⟨bb, o + 1, none⟩ = some (.string y.2.1) ∧ w'.cell? ⟨bb, o + 2, none⟩ = some (.int .i64 y.2.2.1) ∧ w'.cell? ⟨bb, o + 3, none⟩ = some (.int .i64 y.2.2.2)) (go_keep)
        ((go_at_call 19; refine hadd.mono ?_; rintro e x4 ⟨rfl, hO4, b4⟩; have hb4 := hbr.drew.trans b4; obtain ⟨i1, i2, i3⟩ := hcells x4 hb4))
      have hrad2 := hrad hO4.drew.swap hb4.size
      clear hadd hrad
      go_wp2_with fail
      go_region_held3 (fun w' => w'.cell? ⟨bb, o + 1, none⟩ = some (.string y.2.1) ∧ w'.cell? ⟨bb, o + 2, none⟩ = some (.int .i64 y.2.2.1) ∧ w'.cell? ⟨bb, o + 3, none⟩ = some (.int .i64 y.2.2.2)) (go_keep)
        ((go_at_call 30; refine hrad2.mono ?_; rintro e x5 ⟨rfl, hO5, b5⟩; have hb5 := hb4.drew.trans b5; obtain ⟨j1, j2, j3⟩ := hcells x5 hb5))
      go_wp2_with fail
      go_roundg (l.length - (k + 1))
      case rel => exact ⟨k + 1, T4, L4, n4, by omega, rfl, by go_num, hS4, hb5, hO5.swap⟩
      case measure => omega
    · have hst : LoopM w.heap.size w q s od m.length [PanA p wd count T, RefA r wd L count] m.length (.int .i64 0) wr :=
        ⟨0, [], [], 0, Nat.zero_le _, rfl, rfl, Sim.start, hbr, ((hOr.front 2 _ rfl).front 3 _ rfl |>.swap)⟩
      replace hst := Hid.mk' hst
      have hS1 := hS
      have hk1 : k ≤ 200 := by omega
      clear hOr hS
      go_wp2_with fail
      go_loopg [18] m.length (fun g i wr => LoopM w.heap.size w q s od m.length [PanA p wd count T, RefA r wd L count] g i wr)
      case atStart => exact hst.out
      case round =>
        clear hst hzr hbr
        obtain ⟨k, T', L', count', hk3, hgk3, rfl, hS, hbr, hOr⟩ := hrel
        have hzr := hbr.size
        by_cases hlt : k < m.length
        · have hy : m[k]? = some m[k] := List.getElem?_eq_getElem hlt
          generalize m[k] = y at hy
          have hyok := ht.1 y (List.mem_of_getElem? hy)
          obtain ⟨bb, o, hidx, hc, hbl⟩ := ht.idx (cap := cap2) Try.underlying22 size29 rfl hy
          obtain ⟨_, d1', d2', d3'⟩ := act_at hc
          have hcells : ∀ W, Below w.heap.size w W → W.cell? ⟨bb, o + 1, none⟩ = some (.string y.2.1) ∧ W.cell? ⟨bb, o + 2, none⟩ = some (.int .i64 y.2.2.1) ∧ W.cell? ⟨bb, o + 3, none⟩ = some (.int .i64 y.2.2.2) := fun W hW =>
            ⟨(hW.cell (p := ⟨bb, o + 1, none⟩) hbl).trans d1', (hW.cell (p := ⟨bb, o + 2, none⟩) hbl).trans d2', (hW.cell (p := ⟨bb, o + 3, none⟩) hbl).trans d3'⟩
          obtain ⟨c1, c2, c3⟩ := hcells wr hbr
          obtain ⟨T4, L4, n4, bq, hS4, hadd, hrad⟩ := both_add w.heap.size q s y hS (by omega) ho1 ho2 hyok
          clear hc d1' d2' d3' hS
          replace hadd := hadd hOr.drew hzr
          replace hy := Hid.mk' hy
          go_wp2_with fail
          go_region_held3 (fun w' => w'.cell? ⟨bb, o + 1, none⟩ = some (.string y.2.1) ∧ w'.cell? ⟨bb, o + 2, none⟩ = some (.int .i64 y.2.2.1) ∧ w'.cell? ⟨bb, o + 3, none⟩ = some (.int .i64 y.2.2.2)) (go_keep)
            ((go_at_call 19; refine hadd.mono ?_; rintro e x4 ⟨rfl, hO4, b4⟩; have hb4 := hbr.drew.trans b4; obtain ⟨i1, i2, i3⟩ := hcells x4 hb4))
          have hrad2 := hrad hO4.drew.swap hb4.size
          clear hadd hrad
          go_wp2_with fail
          go_region_held3 (fun w' => w'.cell? ⟨bb, o + 1, none⟩ = some (.string y.2.1) ∧ w'.cell? ⟨bb, o + 2, none⟩ = some (.int .i64 y.2.2.1) ∧ w'.cell? ⟨bb, o + 3, none⟩ = some (.int .i64 y.2.2.2)) (go_keep)
            ((go_at_call 30; refine hrad2.mono ?_; rintro e x5 ⟨rfl, hO5, b5⟩; have hb5 := hb4.drew.trans b5; obtain ⟨j1, j2, j3⟩ := hcells x5 hb5))
          go_wp2_with fail
          go_roundg (m.length - (k + 1))
          case rel => exact ⟨k + 1, T4, L4, n4, by omega, rfl, by go_num, hS4, hb5, hO5.swap⟩
          case measure => omega
        · obtain ⟨L9, c9, kk, bq, hkk, hmg, hrm⟩ := both_merge w.heap.size p q r s hS1 hS (by omega) (by omega)
          have hk3' : k ≤ 200 := by omega
          have hm1 := hmg (hOr.front 2 _ rfl) hzr
          clear hmg
          go_wp2_with fail
          refine hm1.mono ?_
          rintro e x1 ⟨rfl, ⟨T9, hS9, hO1⟩, b1⟩
          have hb1 := hbr.trans b1
          -- PanA p, PanA q, RefA s, RefA r
          have hm2 := merge_nil p x1
          have t1 : (bq != bq) = false := by simp
          have t2 : (bq == bq) = true := by simp
          have cs := fun {p : Nat} {wd : Int} {k' : Nat} {count' : Int} {L' : List Sm} {T' : Tab} {lA : List Asrt} {W : World} (ky : ByteArray) (hw1 : 1 ≤ wd) (hw2 : wd ≤ 1099511627776) (hO : Owns w.heap.size (PanA p wd count' T' :: lA) W) (hB : w.heap.size ≤ W.heap.size) (hS : Sim T' L' count' k') (hk : k' ≤ 1000) => psum ky from_ to_ hO hB hS hk hw1 hw2 hf1 hf2 ht1 ht2
          have cr := fun {q : Nat} {wd : Int} {count' : Int} {L' : List Sm} {lA : List Asrt} {W : World} (ky : ByteArray) (hw1 : 1 ≤ wd) (hw2 : wd ≤ 1099511627776) (hO : Owns w.heap.size (RefA q wd L' count' :: lA) W) (hok : ∀ x ∈ L', rdSum.ok x) (hlen : L'.length ≤ 1000) (hL : ∀ s ∈ L', 0 ≤ s.2.2 ∧ s.2.2 ≤ 1048576) => refsum_own ky from_ to_ hO hok hlen hL hw1 hw2 hf1 hf2 ht1 ht2
          have ck := fun {p : Nat} {wd : Int} {k' : Nat} {count' : Int} {L' : List Sm} {T' : Tab} {lA : List Asrt} {W : World} (hw1 : 1 ≤ wd) (hw2 : wd ≤ 1099511627776) (hO : Owns w.heap.size (PanA p wd count' T' :: lA) W) (hB : w.heap.size ≤ W.heap.size) (hS : Sim T' L' count' k') (hk : k' ≤ 1000) => pkeys from_ to_ hO hB hS hk hw1 hw2 hf1 hf2 ht1 ht2
          have cl := fun {q : Nat} {wd : Int} {count' : Int} {L' : List Sm} {lA : List Asrt} {W : World} (hw1 : 1 ≤ wd) (hw2 : wd ≤ 1099511627776) (hO : Owns w.heap.size (RefA q wd L' count' :: lA) W) (hB : w.heap.size ≤ W.heap.size) (hok : ∀ x ∈ L', rdSum.ok x) (hlen : L'.length ≤ 1000) (hL : ∀ s ∈ L', 0 ≤ s.2.2 ∧ s.2.2 ≤ 1048576) => refkeys_own from_ to_ hO hB hok hlen hL hw1 hw2 hf1 hf2 ht1 ht2
          generalize pn wd from_ = F1 at cs cr ck cl
          generalize pn wd to_ = U1 at cs cr ck cl
          clear hm1
          go_wp2_with fail
          refine hm2.mono ?_
          rintro e x2 ⟨rfl, m2, rfl⟩
          have hb2 := hb1.trans (Below.drewN' x1 m2 |>.mono hb1.size)
          have hO2 := hO1.drewN m2
          have h32 := hrm (hO2.front 3 _ rfl |>.front 3 _ rfl |>.front 1 _ rfl) hb2.size
          clear hm2 hrm hO1
          go_wp2_with fail
          refine h32.mono ?_
          rintro e x3 ⟨rfl, hO3, b3⟩
          have hb3 := hb2.trans b3
          -- RefA r, RefA s, PanA p, PanA q
          have h24 := ck ho1 ho2 (hO3.front 3 _ rfl) hb3.size hS (by omega)
          clear h32 hO2
          go_wp2_with fail
          refine h24.mono ?_
          rintro e x4 ⟨ks, ak, kc, rfl, hri, hks, hkl, hO4, b4⟩
          have hb4 := hb3.trans b4
          -- row, PanA q, RefA r, RefA s, PanA p
          have h29 := cl ho1 ho2 (hO4.front 3 _ rfl) hb4.size hS.lok (by have := hS.llen; omega) hS.lval
          replace hks := Hid.mk' hks
          clear h24 hO3
          go_wp2_with fail
          refine h29.mono ?_
          rintro e x5 ⟨ks2, al, lc, rfl, hri2, hks2, hkl2, hok2, hO5, b5⟩
          have hb5 := hb4.trans b5
          -- rows, RefA s, row, PanA q, RefA r, PanA p
          obtain rfl : ks2 = ks := (Rising.ext hri2 hri (fun x => (hks2 x).trans (hks.out x).symm))
          have h25 := texts_same ak al kc lc ks2.length ks2 x5 (hO5.front 2 _ rfl).rowLies.1 (rows_lies hO5 hok2) rfl (by omega)
          clear h29 hO4
          go_wp2_with fail
          refine h25.mono ?_
          rintro e x6 ⟨rfl, b6⟩
          have hb6 := hb5.trans (b6.mono hb5.size)
          have hO6 := hO5.keep b6
          have hO7 := (((hO6.front 2 _ rfl).tail).tail)
          -- RefA s, PanA q, RefA r, PanA p
          have h29 := cl hw1 hw2 (hO7.front 2 _ rfl) hb6.size hS9.lok (by have := hS9.llen; omega) hS9.lval
          clear h25 hO5 hO6 hri hri2 hks hks2 hkl hkl2 hok2
          go_wp2_with fail
          refine h29.mono ?_
          rintro e x7 ⟨ks, al, lc, rfl, hri, hks, hkl, hok, hO8, b7⟩
          have hb7 := hb6.trans b7
          -- rows, RefA r, RefA s, PanA q, PanA p
          have h24 := ck hw1 hw2 (hO8.front 4 _ rfl) hb7.size hS9 (by omega)
          replace hks := Hid.mk' hks
          clear h29 hO7
          go_wp2_with fail
          refine h24.mono ?_
          rintro e x8 ⟨ks2, ak2, kc2, rfl, hri2, hks2, hkl2, hO9, b8⟩
          have hb8 := hb7.trans b8
          obtain rfl : ks2 = ks := (Rising.ext hri2 hri (fun x => (hks2 x).trans (hks.out x).symm))
          -- row, PanA p, rows, RefA r, RefA s, PanA q
          have h25 := texts_same ak2 al kc2 lc ks2.length ks2 x8 hO9.rowLies.1 (rows_lies (hO9.front 2 _ rfl) hok) rfl (by omega)
          clear h24 hO8
          go_wp2_with fail
          refine h25.mono ?_
          rintro e x9 ⟨rfl, b9⟩
          have hb9 := hb8.trans (b9.mono hb8.size)
          have hO10 := (hO9.keep b9).tail
          -- PanA p, rows, RefA r, RefA s, PanA q
          have hst : LoopN w.heap.size w [PanA p wd c9 T9, Asrt.rows rdS (.slice al ks2.length lc) ks2, RefA r wd L9 c9, RefA s od L' count', PanA q od count' T'] ks2.length ks2.length (.int .i64 0) x9 := ⟨0, Nat.zero_le _, rfl, rfl, hb9, hO10⟩
          replace hst := Hid.mk' hst
          clear h25 hO9 hO10 hri hri2 hks hks2 hkl hOr hzr hbr ck cl b1 b3 b4 b5 b6 b7 b8 b9 hb1 hb2 hb3 hb4 hb5 hb6 hb7 hb8 hb9
          go_wp2_with fail
          go_loopg [21] ks2.length (fun g i wr => LoopN w.heap.size w [PanA p wd c9 T9, Asrt.rows rdS (.slice al ks2.length lc) ks2, RefA r wd L9 c9, RefA s od L' count', PanA q od count' T'] ks2.length g i wr)
          case atStart => exact hst.out
          case round =>
            clear hst
            obtain ⟨j, hj, hgj, rfl, hbr, hOr⟩ := hrel
            have hzr := hbr.size
            by_cases hlt : j < ks2.length
            · have hy : ks2[j]? = some ks2[j] := List.getElem?_eq_getElem hlt
              generalize ks2[j] = y at hy
              obtain ⟨bb, o, hidx, hc, hbl⟩ := VS.idx (c := lc) (VS.sl (hOr.front 1 _ rfl) hok).1 rfl hy
              have c1 := vs_cell (hOr.front 1 _ rfl).drew hok hy hidx
              have h22 := cs y hw1 hw2 hOr.drew hbr.drew.size hS9 (by omega)
              clear hc
              go_wp2_with fail
              go_region_held3 (fun w' => w'.cell? ⟨bb, o, none⟩ = some (.string y)) (go_keep)
                (first
                  | (go_at_call 22; refine h22.mono ?_; rintro e x2 ⟨rfl, hO2, b2⟩; have hb2 := hbr.drew.trans b2; have i1 := vs_cell (hO2.front 1 _ rfl) hok hy hidx; have h28 := cr y hw1 hw2 (hO2.front 2 _ rfl) hS9.lok (by have := hS9.llen; omega) hS9.lval; clear h22)
                  | (go_at_call 28; refine h28.mono ?_; rintro e x3 ⟨rfl, hO3, b3, _⟩; have hb3 := hb2.trans b3; have i2 := vs_cell (hO3.front 2 _ rfl) hok hy hidx; have h22b := cs y ho1 ho2 (hO3.front 4 _ rfl) hb3.size hS (by omega); clear h28)
                  | (go_at_call 22; refine h22b.mono ?_; rintro e x4 ⟨rfl, hO4, b4⟩; have hb4 := hb3.trans b4; have i3 := vs_cell (hO4.front 3 _ rfl) hok hy hidx; have h28b := cr y ho1 ho2 (hO4.front 4 _ rfl) hS.lok (by have := hS.llen; omega) hS.lval; clear h22b)
                  | (go_at_call 28; refine h28b.mono ?_; rintro e x5 ⟨rfl, hO5, b5, _⟩; have hb5 := hb4.trans b5; have i4 := vs_cell (hO5.front 4 _ rfl) hok hy hidx; clear h28b))
              have hO6 := hO5.front 2 _ rfl |>.front 4 _ rfl |>.front 4 _ rfl
              go_wp2_with fail
              go_roundg (ks2.length - (j + 1))
              case rel => exact ⟨j + 1, by omega, rfl, by go_num, hb5, hO6⟩
              case measure => omega
            · go_wp2_with fail
              go_ret
              exact ⟨rfl, hbr⟩
theorem row_merges {H : Type} {enc : TypeId × Value → H} (width other : Int) (a1 : Option Addr) (len1 cap1 : Nat) (a2 : Option Addr) (len2 cap2 : Nat) (from_ to_ : Int) (w : World) (h0 : (Lit.int .i64 width).wf = true) (h1 : (Lit.int .i64 other).wf = true) {d1 d2 : DataW H} {ps1 ps2 : List MemPlace}
    (hs : DataW.Trod enc Try.prog w 0 (fun _ => true) true 22 (.slice a1 len1 cap1) d1 ps1) (ht : DataW.Trod enc Try.prog w 0 (fun _ => true) true 22 (.slice a2 len2 cap2) d2 ps2) (h2 : (Lit.int .i64 from_).wf = true) (h3 : (Lit.int .i64 to_).wf = true) :
    Calls Try.prog 9 #[.int .i64 width, .int .i64 other, .slice a1 len1 cap1, .slice a2 len2 cap2, .int .i64 from_, .int .i64 to_] w fun e w' => e = .returned (.bool true) ∧ Below w.heap.size w w' := by
  obtain ⟨l, rfl, hl, hsl⟩ := SlAt.open (r := rdAct) (by decide) Try.underlying22 hs
  obtain ⟨m, rfl, hm, hsm⟩ := SlAt.open (r := rdAct) (by decide) Try.underlying22 ht
  exact law_merges width other from_ to_ a1 a2 cap1 cap2 l m w hl hm hsl hsm (wf_bd' h2).1 (wf_bd' h2).2 (wf_bd' h3).1 (wf_bd' h3).2
end Go.Proofs.Pan
