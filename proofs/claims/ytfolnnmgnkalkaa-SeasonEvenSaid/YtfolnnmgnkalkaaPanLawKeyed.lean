/- PaneKeyed: the walk of the law. -/
import Derived.Test.YtfolnnmgnkalkaaPanRun
import Derived.Outline
import Derived.Deep.LoopGhost
namespace Go.Proofs.Pan
open Go.RowKit Go.Cic Go.ChangeMaps
set_option linter.unusedVariables false
set_option maxRecDepth 100000
/-- Those of one key. -/
def ofKey (key : ByteArray) (l : List Act') : List Act' := l.filter fun d => decide (d.2.1 = key)
theorem ofKey_snoc_yes {key : ByteArray} {l : List Act'} {d : Act'} (h : d.2.1 = key) : ofKey key (l ++ [d]) = ofKey key l ++ [d] := by unfold ofKey; rw [List.filter_append]; simp [h]
theorem ofKey_snoc_no {key : ByteArray} {l : List Act'} {d : Act'} (h : d.2.1 ≠ key) : ofKey key (l ++ [d]) = ofKey key l := by unfold ofKey; rw [List.filter_append]; simp [h]
theorem ofKey_sum (width : Int) (key : ByteArray) (a b : Int) (l : List Act') : asum width (inr key a b) (ofKey key l) = asum width (inr key a b) l := by
  induction l with
  | nil => rfl
  | cons d r ih =>
    unfold ofKey at ih ⊢
    by_cases h : d.2.1 = key
    · rw [List.filter_cons, decide_eq_true h, if_pos rfl, asum_cons, asum_cons, ih]
    · rw [List.filter_cons, decide_eq_false h, asum_cons, ← ih]
      have : inr key a b (d.2.1, pn width d.2.2.1) = 0 := inr_no (fun h2 => h h2.1)
      rw [this]; simp
theorem ofKey_other (width : Int) {key k : ByteArray} (hk : k ≠ key) (a b : Int) (l : List Act') : asum width (inr k a b) (ofKey key l) = 0 := by
  induction l with
  | nil => rfl
  | cons d r ih =>
    unfold ofKey at ih ⊢
    by_cases h : d.2.1 = key
    · rw [List.filter_cons, decide_eq_true h, if_pos rfl, asum_cons, ih]
      have : inr k a b (d.2.1, pn width d.2.2.1) = 0 := inr_no (fun h2 => hk (h2.1.symm.trans h))
      rw [this]; simp
    · rw [List.filter_cons, decide_eq_false h]; simpa using ih
theorem ofKey_len (key : ByteArray) (l : List Act') : (ofKey key l).length ≤ l.length := List.length_filter_le _ _
theorem keyed_ks {width : Int} {key : ByteArray} {a b : Int} {l : List Act'} {ks : List ByteArray} (hr : Rising ks) (hm : ∀ k, k ∈ ks ↔ 0 < asum width (inr k a b) (ofKey key l)) : (ks = [] ∧ ¬ 0 < asum width (inr key a b) l) ∨ (ks.length = 1 ∧ 0 < asum width (inr key a b) l) := by
  have hall : ∀ k ∈ ks, k = key := fun k hk => by
    by_cases h : k = key
    · exact h
    · have := (hm k).1 hk
      rw [ofKey_other width h] at this; omega
  cases ks with
  | nil => exact .inl ⟨rfl, fun h => by have := (hm key).2 (by rw [ofKey_sum]; exact h); cases this⟩
  | cons x r =>
    have hx := hall x (by simp)
    subst hx
    cases r with
    | nil => exact .inr ⟨rfl, by have := (hm x).1 (by simp); rwa [ofKey_sum] at this⟩
    | cons y r =>
      have hy := hall y (by simp)
      subst hy
      have := (List.pairwise_cons.1 hr).1 y (by simp)
      exact absurd this (List.lt_irrefl _)
/-- The loop's state. -/
def LoopK (B : Nat) (w : World) (p q : Nat) (wd : Int) (key : ByteArray) (l : List Act') (g : Nat) (i : Value) (wr : World) : Prop :=
  ∃ k : Nat, k ≤ l.length ∧ g = l.length - k ∧ i = .int .i64 k ∧ Below B w wr ∧ Owns B [PanR p wd (l.take k), PanR q wd (ofKey key (l.take k))] wr
theorem take_succ' {α : Type} {l : List α} {k : Nat} {y : α} (h : l[k]? = some y) : l.take (k + 1) = l.take k ++ [y] := by rw [List.take_add_one, h]; rfl
set_option maxHeartbeats 4000000 in
theorem law_keyed (width from_ to_ : Int) (a : Option Addr) (cap : Nat) (l : List Act') (key : ByteArray) (w : World) (hl : l.length ≤ maxLen) (hs : SlAt rdAct w a l) (hkey : key.size ≤ 9223372036854775807)
    (hf1 : -9223372036854775808 ≤ from_) (hf2 : from_ ≤ 9223372036854775807) (ht1 : -9223372036854775808 ≤ to_) (ht2 : to_ ≤ 9223372036854775807) :
    Calls Try.prog 6 #[.int .i64 width, .slice a l.length cap, .string key, .int .i64 from_, .int .i64 to_] w fun e w' => e = .returned (.bool true) ∧ Below w.heap.size w w' := by
  have haw := awake_any w
  by_cases hv : fewB l = false ∨ 100 < key.size
  · by_cases hf : fewB l = false
    · replace hf := Hid.mk' hf
      clear hv
      go_enter Try.func6, Try.ntmps6
      go_wp2_with fail
      refine haw.mono ?_
      rintro e w1 ⟨rfl, b1⟩
      have hfw := few_any a cap l w1 hl (hs.below b1)
      rw [hf.out] at hfw
      go_wp2_with fail
      refine hfw.mono ?_
      rintro e w2 ⟨rfl, rfl⟩
      go_wp2_with fail
      go_ret
      exact ⟨rfl, b1⟩
    · have hf' : fewB l = true := by simpa using hf
      have hk : 100 < key.size := hv.resolve_left hf
      replace hf' := Hid.mk' hf'
      clear hv hf
      go_enter Try.func6, Try.ntmps6
      go_wp2_with fail
      refine haw.mono ?_
      rintro e w1 ⟨rfl, b1⟩
      have hfw := few_any a cap l w1 hl (hs.below b1)
      rw [hf'.out] at hfw
      go_wp2_with fail
      refine hfw.mono ?_
      rintro e w2 ⟨rfl, rfl⟩
      go_wp2_with fail
      go_ret
      exact ⟨rfl, b1⟩
  have H := Hid.mk' (show fewB l = true by by_cases h : fewB l = true; exact h; exact absurd (.inl (by simpa using h)) hv)
  have hk : key.size ≤ 100 := by omega
  clear hv
  have hll := (fewB_spec H.out).1
  obtain ⟨g1, g2⟩ := wf_bd width
  have hnew := fun {lA : List Asrt} {W : World} (hO : Owns w.heap.size lA W) (hB : w.heap.size ≤ W.heap.size) => newR width hO hB
  generalize wf width = wd at g1 g2 hnew
  go_enter Try.func6, Try.ntmps6
  go_wp2_with fail
  refine haw.mono ?_
  rintro e w1 ⟨rfl, b1⟩
  have hfw := few_any a cap l w1 hl (hs.below b1)
  rw [H.out] at hfw
  go_wp2_with fail
  refine hfw.mono ?_
  rintro e w2 ⟨rfl, rfl⟩
  have hn1 := hnew (Owns.nil w.heap.size w1) b1.size
  go_wp2_with fail
  refine hn1.mono ?_
  rintro e w2 ⟨p, rfl, hO2, b2⟩
  have hb2 := b1.trans b2
  have hn2 := hnew hO2 hb2.size
  go_wp2_with fail
  refine hn2.mono ?_
  rintro e w3 ⟨q, rfl, hO3, b3⟩
  have hb3 := hb2.trans b3
  have hst : LoopK w.heap.size w p q wd key l l.length (.int .i64 0) w3 := ⟨0, Nat.zero_le _, rfl, rfl, hb3, hO3.swap⟩
  replace hst := Hid.mk' hst
  clear hn1 hn2 hfw hO2 hO3 hnew haw b1 b2 b3 hb2 hb3
  go_wp2_with fail
  go_loopg [13] l.length (fun g i wr => LoopK w.heap.size w p q wd key l g i wr)
  case atStart => exact hst.out
  case round =>
    clear hst
    obtain ⟨k, hk2, hgk, rfl, hbr, hOr⟩ := hrel
    have hzr := hbr.size
    by_cases hlt : k < l.length
    · have hy : l[k]? = some l[k] := List.getElem?_eq_getElem hlt
      generalize l[k] = y at hy
      obtain ⟨kd, dk, dt, dn⟩ := y
      obtain ⟨b, o, hidx, hc, hbl⟩ := hs.idx (cap := cap) Try.underlying22 size29 rfl hy
      obtain ⟨_, d1', d2', d3'⟩ := act_at hc
      have hcells : ∀ W, Below w.heap.size w W → W.cell? ⟨b, o + 1, none⟩ = some (.string dk) ∧ W.cell? ⟨b, o + 2, none⟩ = some (.int .i64 dt) ∧ W.cell? ⟨b, o + 3, none⟩ = some (.int .i64 dn) := fun W hW =>
        ⟨(hW.cell (p := ⟨b, o + 1, none⟩) hbl).trans d1', (hW.cell (p := ⟨b, o + 2, none⟩) hbl).trans d2', (hW.cell (p := ⟨b, o + 3, none⟩) hbl).trans d3'⟩
      obtain ⟨c1, c2, c3⟩ := hcells wr hbr
      have hadd := addR kd dk dt dn hOr.drew hzr (by rw [List.length_take]; omega) g1 g2
      clear hc d1' d2' d3'
      replace hy := Hid.mk' hy
      go_wp2_with fail
      go_region_held3 (fun w' => w'.cell? ⟨b, o + 1, none⟩ = some (.string dk) ∧ w'.cell? ⟨b, o + 2, none⟩ = some (.int .i64 dt) ∧ w'.cell? ⟨b, o + 3, none⟩ = some (.int .i64 dn)) (go_keep)
        (first | (go_at_call 19; refine hadd.mono ?_; rintro e w4 ⟨rfl, hO4, b4⟩; have hb4 := hbr.drew.trans b4; obtain ⟨s1, s2, s3⟩ := hcells w4 hb4))
      clear hadd
      have hO4' : Owns w.heap.size [PanR p wd (l.take (k + 1)), PanR q wd (ofKey key (l.take k))] w4 := by rw [take_succ' hy.out]; exact hO4
      by_cases hke : dk = key
      · have hkb : (dk.toList == key.toList) = true := beq_iff_eq.2 (congrArg _ hke)
        have hadd2 := addR kd dk dt dn hO4'.swap.drew hb4.size (by have := ofKey_len key (l.take k); rw [List.length_take] at this; omega) g1 g2
        rw [← ofKey_snoc_yes (l := l.take k) (d := (kd, dk, dt, dn)) hke, ← take_succ' hy.out] at hadd2
        replace hke := Hid.mk' hke
        go_wp2_with fail
        go_region_held3 (fun w' => w'.cell? ⟨b, o + 1, none⟩ = some (.string dk) ∧ w'.cell? ⟨b, o + 2, none⟩ = some (.int .i64 dt) ∧ w'.cell? ⟨b, o + 3, none⟩ = some (.int .i64 dn)) (go_keep)
          (first | (go_at_call 19; refine hadd2.mono ?_; rintro e w5 ⟨rfl, hO5, b5⟩; have hb5 := hb4.drew.trans b5; obtain ⟨r1, r2, r3⟩ := hcells w5 hb5))
        go_wp2_with fail
        go_roundg (l.length - (k + 1))
        case rel => exact ⟨k + 1, by omega, rfl, by go_num, hb5, hO5.swap⟩
        case measure => omega
      · have hkb : (dk.toList == key.toList) = false := beq_eq_false_iff_ne.2 (fun e => hke (str_inj e))
        rw [← ofKey_snoc_no (l := l.take k) (d := (kd, dk, dt, dn)) hke, ← take_succ' hy.out] at hO4'
        go_wp2_with fail
        go_roundg (l.length - (k + 1))
        case rel => exact ⟨k + 1, by omega, rfl, by go_num, hb4, hO4'⟩
        case measure => omega
    · have hkk : l.take k = l := List.take_of_length_le (by omega)
      rw [hkk] at hOr
      clear hkk
      have hkl : l.length ≤ 101 := by omega
      obtain ⟨fi, hfi⟩ : ∃ x, Hid (pn wd from_ = x) := ⟨_, rfl⟩
      obtain ⟨la, hla⟩ : ∃ x, Hid (pn wd to_ = x) := ⟨_, rfl⟩
      have hky := keysR from_ to_ hOr.swap hzr (by have := ofKey_len key l; omega) g1 g2 hf1 hf2 ht1 ht2
      rw [hfi.out, hla.out] at hky
      go_wp2_with fail
      refine hky.mono ?_
      rintro e w4 ⟨ks, ak, ck, rfl, hri, hks, hkl2, h4, b4⟩
      have hb4 := hbr.trans b4
      have hways := keyed_ks hri hks
      have hs1 := sumR key from_ to_ (h4.front 2 _ rfl) hb4.size (by omega) g1 g2 hf1 hf2 ht1 ht2
      rw [hfi.out, hla.out] at hs1
      replace hks := Hid.mk' hks
      go_wp2_with fail
      refine hs1.mono ?_
      rintro e w5 ⟨rfl, h5, b5⟩
      have hb5 := hb4.trans b5
      have hs2 := sumR key from_ to_ (h5.front 2 _ rfl) hb5.size (by have := ofKey_len key l; omega) g1 g2 hf1 hf2 ht1 ht2
      rw [hfi.out, hla.out, ofKey_sum] at hs2
      go_wp2_with fail
      refine hs2.mono ?_
      rintro e w6 ⟨rfl, h6, b6⟩
      have hb6 := hb5.trans b6
      have hs3 := sumR key from_ to_ (h6.front 1 _ rfl) hb6.size (by omega) g1 g2 hf1 hf2 ht1 ht2
      rw [hfi.out, hla.out] at hs3
      generalize asum wd (inr key fi la) l = sm at *
      clear hs1 hs2 hky
      rcases hways with ⟨rfl, hsm⟩ | ⟨hk1, hsm⟩
      · go_wp2_with fail
        refine hs3.mono ?_
        rintro e w7 ⟨rfl, h7, b7⟩
        have t1 : decide (sm > 0) = false := by simpa using hsm
        have t2 : decide (0 < sm) = false := by simpa using hsm
        go_wp2_with fail
        go_ret
        exact ⟨rfl, hb6.trans b7⟩
      · obtain ⟨x, rfl⟩ := List.length_eq_one_iff.1 hk1
        clear hk1
        go_wp2_with fail
        refine hs3.mono ?_
        rintro e w7 ⟨rfl, h7, b7⟩
        have t1 : decide (sm > 0) = true := by simpa using hsm
        have t2 : decide (0 < sm) = true := by simpa using hsm
        go_wp2_with fail
        go_ret
        exact ⟨rfl, hb6.trans b7⟩
theorem row_keyed {H : Type} {enc : TypeId × Value → H} (width : Int) (a : Option Addr) (len cap : Nat) (key : ByteArray) (from_ to_ : Int) (w : World) (h0 : (Lit.int .i64 width).wf = true) {d : DataW H} {ps : List MemPlace}
    (hs : DataW.Trod enc Try.prog w 0 (fun _ => true) true 22 (.slice a len cap) d ps) (hk : key.size ≤ 140737488351232) (h2 : (Lit.int .i64 from_).wf = true) (h3 : (Lit.int .i64 to_).wf = true) :
    Calls Try.prog 6 #[.int .i64 width, .slice a len cap, .string key, .int .i64 from_, .int .i64 to_] w fun e w' => e = .returned (.bool true) ∧ Below w.heap.size w w' := by
  obtain ⟨l, rfl, hl, hsl⟩ := SlAt.open (r := rdAct) (by decide) Try.underlying22 hs
  exact law_keyed width from_ to_ a cap l key w hl hsl (by omega) (bounds_i64 h2).1 (bounds_i64 h2).2 (bounds_i64 h3).1 (bounds_i64 h3).2
end Go.Proofs.Pan
