/- PanePlays: the walk of the law. -/
import Derived.Test.YtfolnnmgnkalkaaPanRefKeysWalk
namespace Go.Proofs.Pan
open Go.RowKit Go.Cic Go.ChangeMaps
set_option linter.unusedVariables false
set_option maxRecDepth 100000
theorem rows_lies {B : Nat} {l : List Asrt} {w : World} {ao : Option Addr} {n c : Nat} {ks : List ByteArray} (h : Owns B (Asrt.rows rdS (.slice ao n c) ks :: l) w) (hok : ∀ x ∈ ks, rdS.ok x) : Lies w ao (ks.map Value.string) := by
  obtain ⟨hs, hn, hc⟩ := VS.sl h hok
  intro j u hj
  rw [List.getElem?_map] at hj
  cases hx : ks[j]? with
  | none => rw [hx] at hj; cases hj
  | some x =>
    rw [hx] at hj
    obtain rfl : Value.string x = u := by simpa using hj
    obtain ⟨b, o, h1, h2, h3⟩ := hs.2 j x hx
    refine ⟨b, o, h1, h2, ?_⟩
    have := h3 0 _ rfl
    have e : o + j * rdS.n + 0 = o + j := by show o + j * 1 + 0 = o + j; omega
    rwa [e] at this
section
variable {B p q k : Nat} {width count : Int} {L : List Sm} {T : Tab} {l : List Asrt} {w : World}
theorem psum (key : ByteArray) (from_ to_ : Int) (hO : Owns B (PanA p width count T :: l) w) (hB : B ≤ w.heap.size) (hS : Sim T L count k) (hk : k ≤ 1000) (hw1 : 1 ≤ width) (hw2 : width ≤ 1099511627776) (h1 : -9223372036854775808 ≤ from_) (h2 : from_ ≤ 9223372036854775807) (h3 : -9223372036854775808 ≤ to_) (h4 : to_ ≤ 9223372036854775807) :
    Calls Try.prog 22 #[.pointer (some ⟨p, 0, none⟩), .string key, .int .i64 from_, .int .i64 to_] w fun e w' => e = .returned (.int .i64 (rsum key (pn width from_) (pn width to_) L)) ∧ Owns B (PanA p width count T :: l) w' ∧ Below B w w' := by
  have hb := rsum_bd (key := key) (a := pn width from_) (b := pn width to_) hS.lval
  have hl := hS.llen
  have e : wrap64 (wsum (inr key (pn width from_) (pn width to_)) T) = rsum key (pn width from_) (pn width to_) L := by
    rw [hS.sum, ← rsum_eq, wrap_id (by omega) (by omega)]
  rw [← e]
  exact sum_own key from_ to_ hO hB hw1 hw2 h1 h2 h3 h4
theorem pkeys (from_ to_ : Int) (hO : Owns B (PanA p width count T :: l) w) (hB : B ≤ w.heap.size) (hS : Sim T L count k) (hk : k ≤ 1000) (hw1 : 1 ≤ width) (hw2 : width ≤ 1099511627776) (h1 : -9223372036854775808 ≤ from_) (h2 : from_ ≤ 9223372036854775807) (h3 : -9223372036854775808 ≤ to_) (h4 : to_ ≤ 9223372036854775807) :
    Calls Try.prog 24 #[.pointer (some ⟨p, 0, none⟩), .int .i64 from_, .int .i64 to_] w fun e w' => ∃ (ks : List ByteArray) (ao : Option Addr) (c : Nat), e = .returned (.slice ao ks.length c) ∧ Rising ks ∧ (∀ k, k ∈ ks ↔ 0 < rsum k (pn width from_) (pn width to_) L) ∧ ks.length ≤ 1000 ∧
      Owns B (Asrt.row 9 (.slice ao ks.length c) (ks.map Value.string) :: PanA p width count T :: l) w' ∧ Below B w w' := by
  refine (keys_own from_ to_ hO hB (by have := hS.len; omega) hw1 hw2 h1 h2 h3 h4).mono ?_
  rintro e w' ⟨ks, ao, c, rfl, g1, g2, g3, g4, g5⟩
  exact ⟨ks, ao, c, rfl, g1, fun x => (g2 x).trans (hS.hasIn _ _ x), by have := hS.len; omega, g4, g5⟩
theorem do_any (a : Act') (hO : Owns B (PanA p width count T :: RefA q width L count :: l) w) (hB : B ≤ w.heap.size) (hS : Sim T L count k) (hk : k ≤ 1000) (hw1 : 1 ≤ width) (hw2 : width ≤ 1099511627776)
    (hok : rdAct.ok a) :
    Calls Try.prog 27 #[.pointer (some ⟨p, 0, none⟩), .pointer (some ⟨q, 0, none⟩), .agg #[.int .i64 a.1, .string a.2.1, .int .i64 a.2.2.1, .int .i64 a.2.2.2]] w fun e w' => e = .returned (.bool true) ∧ (∃ T' L' count', Sim T' L' count' (k + 1) ∧ Owns B (PanA p width count' T' :: RefA q width L' count' :: l) w') ∧ Below B w w' := by
  obtain ⟨kd, key, at_, n⟩ := a
  obtain ⟨o1, o2, o3, o4⟩ : (Lit.int .i64 kd).wf = true ∧ key.size ≤ maxLen ∧ (Lit.int .i64 at_).wf = true ∧ (Lit.int .i64 n).wf = true := hok
  have b3 := wf_bd' o3
  dsimp only
  by_cases hkd : kd = 0
  · subst hkd
    exact do_drop key at_ n hO hB hS hk hw1 hw2 b3.1 b3.2
  · refine do_add kd key at_ n hkd hO hB hS hk hw1 hw2 (by unfold maxLen at o2; omega) (fun hm => ?_)
    obtain ⟨m1, m2, m3, m4, m5, m6⟩ := hm
    have := (pn_bd (width := width) (at_ := at_) hw1).1 m3
    exact ⟨o2, WalkArith.wf_i64 (by simp only; omega), o4⟩
end
/-- The loop's state. -/
def LoopP (B : Nat) (w : World) (p q : Nat) (wd : Int) (n g : Nat) (i : Value) (wr : World) : Prop :=
  ∃ (k : Nat) (T : Tab) (L : List Sm) (count : Int), k ≤ n ∧ g = n - k ∧ i = .int .i64 k ∧ Sim T L count k ∧ Below B w wr ∧ Owns B [PanA p wd count T, RefA q wd L count] wr
theorem ref_cell {B q : Nat} {width count : Int} {L : List Sm} {l : List Asrt} {w : World} (hO : Owns B (RefA q width L count :: l) w) : w.cell? ⟨q, 0, none⟩ = some (.int .i64 width) := by
  obtain ⟨v, h⟩ := ref_iff.1 hO
  rw [cell_of h.cellsE.1]; rfl
set_option maxHeartbeats 8000000 in
theorem law_plays (width from_ to_ : Int) (a : Option Addr) (cap : Nat) (l : List Act') (key : ByteArray) (w : World) (hl : l.length ≤ maxLen) (hs : SlAt rdAct w a l) (hkey : key.size ≤ 9223372036854775807)
    (hf1 : -9223372036854775808 ≤ from_) (hf2 : from_ ≤ 9223372036854775807) (ht1 : -9223372036854775808 ≤ to_) (ht2 : to_ ≤ 9223372036854775807) :
    Calls Try.prog 8 #[.int .i64 width, .slice a l.length cap, .string key, .int .i64 from_, .int .i64 to_] w fun e w' => e = .returned (.bool true) ∧ Below w.heap.size w w' := by
  have haw := awake_any w
  by_cases hv : fewB l = false ∨ 100 < key.size
  · have hcs : fewB l = false ∨ (fewB l = true ∧ 100 < key.size) := by
      by_cases hf : fewB l = true
      · exact .inr ⟨hf, hv.resolve_left (by rw [hf]; simp)⟩
      · exact .inl (by simpa using hf)
    clear hv
    rcases hcs with hf | ⟨hf, h2⟩
    all_goals
      replace hf := Hid.mk' hf
      go_enter Try.func8, Try.ntmps8
      go_wp2_with fail
      refine haw.mono ?_
      rintro e w1 ⟨rfl, b1⟩
      have hfw := few_any a cap l w1 hl (hs.below b1)
      rw [hf.out] at hfw
      go_wp2_with fail
      refine hfw.mono ?_
      rintro e w2 ⟨rfl, rfl⟩
      go_wp2_with fail
      go_ret
      exact ⟨rfl, b1⟩
  obtain ⟨hfe, hk⟩ : fewB l = true ∧ key.size ≤ 100 := by
    simp only [not_or] at hv
    exact ⟨by simpa using hv.1, by omega⟩
  clear hv
  have H := Hid.mk' hfe
  clear hfe
  have hll := (fewB_spec H.out).1
  have hwb := wf_bd width
  have hnewp := fun {lA : List Asrt} {W : World} (hO : Owns w.heap.size lA W) (hB : w.heap.size ≤ W.heap.size) => new_own width hO hB
  have hnewr := fun {lA : List Asrt} {W : World} (hO : Owns w.heap.size lA W) (hB : w.heap.size ≤ W.heap.size) => refnew_own width hO hB
  generalize wf width = wd at hwb hnewp hnewr
  obtain ⟨hw1, hw2⟩ := hwb
  go_enter Try.func8, Try.ntmps8
  go_wp2_with fail
  refine haw.mono ?_
  rintro e w1 ⟨rfl, b1⟩
  have hfw := few_any a cap l w1 hl (hs.below b1)
  rw [H.out] at hfw
  go_wp2_with fail
  refine hfw.mono ?_
  rintro e w2 ⟨rfl, rfl⟩
  have hn1 := hnewp (Owns.nil w.heap.size w1) b1.size
  go_wp2_with fail
  refine hn1.mono ?_
  rintro e w2 ⟨p, rfl, hO2, b2⟩
  have hb2 := b1.trans b2
  have hn2 := hnewr hO2 hb2.size
  go_wp2_with fail
  refine hn2.mono ?_
  rintro e w3 ⟨q, rfl, hO3, b3⟩
  have hb3 := hb2.trans b3
  have pc := pan_cell hO3.swap
  have rc := ref_cell hO3
  have hwd := width_any p wd w3.drew pc
  have hst : LoopP w.heap.size w p q wd l.length l.length (.int .i64 0) w3.drew := ⟨0, [], [], 0, Nat.zero_le _, rfl, rfl, Sim.start, hb3.drew, hO3.drew.swap⟩
  replace hst := Hid.mk' hst
  clear hn1 hn2 hfw hO2 haw b1 b2 b3 hb2 hnewp hnewr
  go_wp2_with fail
  go_region_held3 (fun w' => w'.cell? ⟨q, 0, none⟩ = some (.int .i64 wd)) (go_keep) ((go_at_call 21; refine hwd.mono ?_; rintro e w4 ⟨rfl, rfl⟩))
  go_wp2_with fail
  go_loopg [13] l.length (fun g i wr => LoopP w.heap.size w p q wd l.length g i wr)
  case atStart => exact hst.out
  case round =>
    clear hst pc rc hwd
    obtain ⟨k, T, L, count, hk2, hgk, rfl, hS, hbr, hOr⟩ := hrel
    have hzr := hbr.size
    by_cases hlt : k < l.length
    · have hy : l[k]? = some l[k] := List.getElem?_eq_getElem hlt
      generalize l[k] = y at hy
      have hyok := hs.1 y (List.mem_of_getElem? hy)
      obtain ⟨bb, o, hidx, hc, hbl⟩ := hs.idx (cap := cap) Try.underlying22 size29 rfl hy
      obtain ⟨d0', d1', d2', d3'⟩ := act_at hc
      have hcells : ∀ W, Below w.heap.size w W → W.cell? ⟨bb, o, none⟩ = some (.int .i64 y.1) ∧ W.cell? ⟨bb, o + 1, none⟩ = some (.string y.2.1) ∧ W.cell? ⟨bb, o + 2, none⟩ = some (.int .i64 y.2.2.1) ∧ W.cell? ⟨bb, o + 3, none⟩ = some (.int .i64 y.2.2.2) := fun W hW =>
        ⟨(hW.cell (p := ⟨bb, o, none⟩) hbl).trans d0', (hW.cell (p := ⟨bb, o + 1, none⟩) hbl).trans d1', (hW.cell (p := ⟨bb, o + 2, none⟩) hbl).trans d2', (hW.cell (p := ⟨bb, o + 3, none⟩) hbl).trans d3'⟩
      obtain ⟨c0, c1, c2, c3⟩ := hcells wr hbr
      have hdo := do_any y hOr.drew hzr hS (by omega) hw1 hw2 hyok
      have cs := fun {p : Nat} {k' : Nat} {count' : Int} {L' : List Sm} {T' : Tab} {lA : List Asrt} {W : World} (ky : ByteArray) (hO : Owns w.heap.size (PanA p wd count' T' :: lA) W) (hB : w.heap.size ≤ W.heap.size) (hS : Sim T' L' count' k') (hk : k' ≤ 1000) => psum ky from_ to_ hO hB hS hk hw1 hw2 hf1 hf2 ht1 ht2
      have cr := fun {q : Nat} {count' : Int} {L' : List Sm} {lA : List Asrt} {W : World} (ky : ByteArray) (hO : Owns w.heap.size (RefA q wd L' count' :: lA) W) (hok : ∀ x ∈ L', rdSum.ok x) (hlen : L'.length ≤ 1000) (hL : ∀ s ∈ L', 0 ≤ s.2.2 ∧ s.2.2 ≤ 1048576) => refsum_own ky from_ to_ hO hok hlen hL hw1 hw2 hf1 hf2 ht1 ht2
      have ck := fun {p : Nat} {k' : Nat} {count' : Int} {L' : List Sm} {T' : Tab} {lA : List Asrt} {W : World} (hO : Owns w.heap.size (PanA p wd count' T' :: lA) W) (hB : w.heap.size ≤ W.heap.size) (hS : Sim T' L' count' k') (hk : k' ≤ 1000) => pkeys from_ to_ hO hB hS hk hw1 hw2 hf1 hf2 ht1 ht2
      have cl := fun {q : Nat} {count' : Int} {L' : List Sm} {lA : List Asrt} {W : World} (hO : Owns w.heap.size (RefA q wd L' count' :: lA) W) (hB : w.heap.size ≤ W.heap.size) (hok : ∀ x ∈ L', rdSum.ok x) (hlen : L'.length ≤ 1000) (hL : ∀ s ∈ L', 0 ≤ s.2.2 ∧ s.2.2 ≤ 1048576) => refkeys_own from_ to_ hO hB hok hlen hL hw1 hw2 hf1 hf2 ht1 ht2
      generalize pn wd from_ = F at cs cr ck cl
      generalize pn wd to_ = U at cs cr ck cl
      clear hc d0' d1' d2' d3' hS
      replace hy := Hid.mk' hy
      go_wp2_with fail
      go_region_held3 (fun w' => w'.cell? ⟨bb, o, none⟩ = some (.int .i64 y.1) ∧ w'.cell? ⟨bb, o + 1, none⟩ = some (.string y.2.1) ∧ w'.cell? ⟨bb, o + 2, none⟩ = some (.int .i64 y.2.2.1) ∧ w'.cell? ⟨bb, o + 3, none⟩ = some (.int .i64 y.2.2.2)) (go_keep)
        (first
          | (go_at_call 27; refine hdo.mono ?_; rintro e w4 ⟨rfl, ⟨T4, L4, n4, hS4, hO4⟩, b4⟩; have hb4 := hbr.drew.trans b4; obtain ⟨i0, i1, i2, i3⟩ := hcells w4 hb4; have h22 := cs key hO4 hb4.size hS4 (by omega); clear hdo)
          | (go_at_call 22; refine h22.mono ?_; rintro e w5 ⟨rfl, hO5, b5⟩; have hb5 := hb4.trans b5; obtain ⟨i0, i1, i2, i3⟩ := hcells w5 hb5; have h28 := cr key hO5.swap hS4.lok (by have := hS4.llen; omega) hS4.lval; clear h22)
          | (go_at_call 28; refine h28.mono ?_; rintro e w6 ⟨rfl, hO6, b6, _⟩; have hb6 := hb5.trans b6; obtain ⟨i0, i1, i2, i3⟩ := hcells w6 hb6; have h22b := cs y.2.1 hO6.swap hb6.size hS4 (by omega); clear h28)
          | (go_at_call 22; refine h22b.mono ?_; rintro e w7 ⟨rfl, hO7, b7⟩; have hb7 := hb6.trans b7; obtain ⟨i0, i1, i2, i3⟩ := hcells w7 hb7; have h28b := cr y.2.1 hO7.swap hS4.lok (by have := hS4.llen; omega) hS4.lval; clear h22b)
          | (go_at_call 28; refine h28b.mono ?_; rintro e w8 ⟨rfl, hO8, b8, _⟩; have hb8 := hb7.trans b8; obtain ⟨i0, i1, i2, i3⟩ := hcells w8 hb8; have h24 := ck hO8.swap hb8.size hS4 (by omega); clear h28b)
          | (go_at_call 24; refine h24.mono ?_; rintro e w9 ⟨ks, ak, ck, rfl, hri, hks, hkl, hO9, b9⟩; have hb9 := hb8.trans b9; obtain ⟨i0, i1, i2, i3⟩ := hcells w9 hb9; have h29 := cl (hO9.front 2 _ rfl) hb9.size hS4.lok (by have := hS4.llen; omega) hS4.lval; replace hks := Hid.mk' hks; clear h24)
          | (go_at_call 29; refine h29.mono ?_; rintro e w10 ⟨ks2, al, cl2, rfl, hri2, hks2, hkl2, hok2, hO10, b10⟩; have hb10 := hb9.trans b10; obtain ⟨i0, i1, i2, i3⟩ := hcells w10 hb10; obtain rfl : ks2 = ks := (Rising.ext hri2 hri (fun x => (hks2 x).trans (hks.out x).symm)); have h25 := texts_same ak al ck cl2 ks2.length ks2 w10 (hO10.front 2 _ rfl).rowLies.1 (rows_lies hO10 hok2) rfl (by omega); clear h29)
          | (go_at_call 25; refine h25.mono ?_; rintro e w11 ⟨rfl, b11⟩; have hb11 := hb10.trans (b11.mono hb10.size); obtain ⟨i0, i1, i2, i3⟩ := hcells w11 hb11; have hO11 := hO10.keep b11; clear h25))
      have hO12 : Owns w.heap.size [PanA p wd n4 T4, RefA q wd L4 n4] w11 := (((hO11.front 2 _ rfl).tail).tail).swap
      go_wp2_with fail
      go_roundg (l.length - (k + 1))
      case rel => exact ⟨k + 1, T4, L4, n4, by omega, rfl, by go_num, hS4, hb11, hO12⟩
      case measure => omega
    · go_wp2_with fail
      go_ret
      exact ⟨rfl, hbr⟩
theorem row_plays {H : Type} {enc : TypeId × Value → H} (width : Int) (a : Option Addr) (len cap : Nat) (key : ByteArray) (from_ to_ : Int) (w : World) (h0 : (Lit.int .i64 width).wf = true) {d : DataW H} {ps : List MemPlace}
    (hs : DataW.Trod enc Try.prog w 0 (fun _ => true) true 22 (.slice a len cap) d ps) (hk : key.size ≤ 140737488351232) (h2 : (Lit.int .i64 from_).wf = true) (h3 : (Lit.int .i64 to_).wf = true) :
    Calls Try.prog 8 #[.int .i64 width, .slice a len cap, .string key, .int .i64 from_, .int .i64 to_] w fun e w' => e = .returned (.bool true) ∧ Below w.heap.size w w' := by
  obtain ⟨l, rfl, hl, hsl⟩ := SlAt.open (r := rdAct) (by decide) Try.underlying22 hs
  exact law_plays width from_ to_ a cap l key w hl hsl (by omega) (wf_bd' h2).1 (wf_bd' h2).2 (wf_bd' h3).1 (wf_bd' h3).2
end Go.Proofs.Pan
