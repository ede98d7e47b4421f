/- PaneOrder: the walk of the law. -/
import Derived.Test.YtfolnnmgnkalkaaPanOrderPlain
import Derived.Test.YtfolnnmgnkalkaaPanLawParts
namespace Go.Proofs.Pan
open Go.RowKit Go.Cic Go.ChangeMaps
set_option linter.unusedVariables false
set_option linter.unusedSimpArgs false
set_option maxRecDepth 100000
def LoopO (B : Nat) (w : World) (p q : Nat) (wd : Int) (l m : List Act') (ao : Option Addr) (c : Nat) (g : Nat) (i : Value) (wr : World) : Prop :=
  ∃ k : Nat, k ≤ l.length ∧ g = l.length - k ∧ i = .int .i64 k ∧ Below B w wr ∧ Owns B [PanR p wd (l.take k), Asrt.rows rdAct (.slice ao l.length c) m, PanR q wd (m.take k)] wr
def LoopS (B : Nat) (w : World) (p q : Nat) (wd : Int) (l m : List Act') (ks : List ByteArray) (ao : Option Addr) (ck : Nat) (g : Nat) (i : Value) (wr : World) : Prop :=
  ∃ k : Nat, k ≤ ks.length ∧ g = ks.length - k ∧ i = .int .i64 k ∧ Below B w wr ∧ Owns B [Asrt.row 9 (.slice ao ks.length ck) (ks.map Value.string), PanR q wd m, PanR p wd l] wr
set_option maxHeartbeats 4000000 in
theorem law_order (width turn from_ to_ : Int) (A : Option Addr) (cap : Nat) (l : List Act') (w : World) (hl : l.length ≤ maxLen) (hcap : l.length ≤ cap) (hs : SlAt rdAct w A l)
    (hu1 : -9223372036854775808 ≤ turn) (hu2 : turn ≤ 9223372036854775807) (hf1 : -9223372036854775808 ≤ from_) (hf2 : from_ ≤ 9223372036854775807) (ht1 : -9223372036854775808 ≤ to_) (ht2 : to_ ≤ 9223372036854775807) :
    Calls Try.prog 5 #[.int .i64 width, .slice A l.length cap, .int .i64 turn, .int .i64 from_, .int .i64 to_] w fun e w' => e = .returned (.bool true) ∧ Below w.heap.size w w' := by
  have haw := awake_any w
  by_cases hv : fewB l = false ∨ turn < 0 ∨ (l.length : Int) < turn
  · have hcs : fewB l = false ∨ (fewB l = true ∧ turn < 0) ∨ (fewB l = true ∧ 0 ≤ turn ∧ (l.length : Int) < turn) := by
      by_cases hf : fewB l = true
      · have h2 : turn < 0 ∨ (l.length : Int) < turn := hv.resolve_left (by rw [hf]; simp)
        simp only [hf, true_and]; omega
      · exact .inl (by simpa using hf)
    clear hv
    rcases hcs with hf | ⟨hf, h2⟩ | ⟨hf, h2, h3⟩
    all_goals
      replace hf := Hid.mk' hf
      go_enter Try.func5, Try.ntmps5
      go_wp2_with fail
      refine haw.mono ?_
      rintro e w1 ⟨rfl, b1⟩
      have hfw := few_any A cap l w1 hl (hs.below b1)
      rw [hf.out] at hfw
      go_wp2_with fail
      refine hfw.mono ?_
      rintro e w2 ⟨rfl, rfl⟩
      go_wp2_with fail
      go_ret
      exact ⟨rfl, b1⟩
  have H := Hid.mk' (show fewB l = true by by_cases h : fewB l = true; exact h; exact absurd (.inl (by simpa using h)) hv)
  obtain ⟨t, rfl⟩ : ∃ t : Nat, turn = t := ⟨turn.toNat, by omega⟩
  have htl : t ≤ l.length := by omega
  clear hv
  have hll := (fewB_spec H.out).1
  obtain ⟨g1, g2⟩ := wf_bd width
  have hnew := fun {lA : List Asrt} {W : World} (hO : Owns w.heap.size lA W) (hB : w.heap.size ≤ W.heap.size) => newR width hO hB
  generalize wf width = wd at g1 g2 hnew
  go_enter Try.func5, Try.ntmps5
  go_wp2_with fail
  refine haw.mono ?_
  rintro e w1 ⟨rfl, b1⟩
  have hfw := few_any A cap l w1 hl (hs.below b1)
  rw [H.out] at hfw
  go_wp2_with fail
  refine hfw.mono ?_
  rintro e w2 ⟨rfl, rfl⟩
  have hn1 := hnew (Owns.nil w.heap.size w1) b1.size
  go_wp2_with fail
  refine hn1.mono ?_
  rintro e w2 ⟨p, rfl, hO2, b2⟩
  have hb2 := b1.trans b2
  have hn2 := hnew hO2 hb2.size
  go_wp2_with fail
  refine hn2.mono ?_
  rintro e w3 ⟨q, rfl, hO3, b3⟩
  have hb3 := hb2.trans b3
  clear hn1 hn2 hfw hO2 hnew haw b1 b2 b3 hb2
  go_wp2_with fail
  have sl1 := run_from A l.length cap t htl
  have sl2 := run_to A l.length cap t htl hcap
  have at1 : SlAt rdAct w (if cap = t then A else A.map (·.add (t * 4))) (l.drop t) := by
    have := slat_sub hs (lo := t) (hi := l.length) (c := cap) hcap
    rwa [List.take_of_length_le (by simp)] at this
  have at2 : SlAt rdAct w (if cap = 0 then A else A.map (·.add (0 * 4))) (l.take t) := by
    have := slat_sub hs (lo := 0) (hi := t) (c := cap) (by omega)
    simpa using this
  have ok1 : ∀ x ∈ l.drop t, rdAct.ok x := at1.1
  have ok2 : ∀ x ∈ l.take t, rdAct.ok x := at2.1
  generalize (if cap = t then A else A.map (·.add (t * 4))) = A1 at sl1 at1
  generalize (if cap = 0 then A else A.map (·.add (0 * 4))) = A2 at sl2 at2
  have n1 : (l.drop t).length = l.length - t := List.length_drop
  have n2 : (l.take t).length = t := by rw [List.length_take]; omega
  have hbd := hb3.drew
  have hrn : Owns w.heap.size (Asrt.rows rdAct (.slice (some ⟨w3.heap.size, 0, none⟩) 0 0) [] :: [PanR q wd [], PanR p wd []]) (w3.alloc (.cells #[] 29)).drew := rows_new hO3.drew hbd.size
  have hbn : Below w.heap.size w (w3.alloc (.cells #[] 29)).drew := hbd.alloc hbd.size _
  obtain ⟨ao1, c1, w4, hr4, hO4, b4⟩ := append_acts 22 hrn (by simp) hbn.size (c := cap - t) (at1.below hbn) n1 (by simp; omega)
  rw [show ([] : List Act').length + (l.length - t) = l.length - t by simp] at hr4 hO4
  rw [List.nil_append] at hO4
  have hb4 := hbn.trans b4
  obtain ⟨ao2, c2, w5, hr5, hO5, b5⟩ := append_acts 22 hO4 ok1 hb4.size (c := cap) (at2.below hb4) n2 (by rw [n1]; omega)
  rw [n1] at hr5 hO5
  rw [show l.length - t + t = l.length by omega] at hr5 hO5
  have hb5 := hb4.trans b5
  clear hrn hO4 at1 at2
  refine wp_region_held_drew (S := fun _ => True) (by kernel_rfl) trivial (fun hHeld => ?_)
  refine wpAnyH_take (i := 1) (v := ?_) (by simp only [List.getElem?_toArray, List.getElem?_cons_succ, List.getElem?_cons_zero]; exact rfl) (by kernel_rfl) (by kernel_rfl) (by kernel_rfl) (by exact fun _ _ _ h => h) (Or.inl ⟨by rfl, ?_⟩) (by assumption) ?_; rotate_left; (intro w hSw; (try dsimp only at hSw); go_simp; try with_reducible rfl); try simp only [Act.put, List.setIfInBounds_toArray, List.set_cons_zero, List.set_cons_succ]
  refine wpAnyH_take (i := 2) (v := ?_) (by simp only [List.getElem?_toArray, List.getElem?_cons_succ, List.getElem?_cons_zero]; exact rfl) (by kernel_rfl) (by kernel_rfl) (by kernel_rfl) (by exact fun _ _ _ h => h) (Or.inl ⟨by rfl, ?_⟩) (by assumption) ?_; rotate_left; (intro w hSw; (try dsimp only at hSw); go_simp; try with_reducible rfl); try simp only [Act.put, List.setIfInBounds_toArray, List.set_cons_zero, List.set_cons_succ]
  refine wpAnyH_take (i := 3) (v := ?_) (by simp only [List.getElem?_toArray, List.getElem?_cons_succ, List.getElem?_cons_zero]; exact rfl) (by kernel_rfl) (by kernel_rfl) (by kernel_rfl) (by exact fun _ _ _ h => h) (Or.inl ⟨by rfl, ?_⟩) (by assumption) ?_; rotate_left; (intro w hSw; (try dsimp only at hSw); go_simp; try with_reducible rfl); try simp only [Act.put, List.setIfInBounds_toArray, List.set_cons_zero, List.set_cons_succ]
  refine wpAnyH_take (i := 5) (v := ?_) (by simp only [List.getElem?_toArray, List.getElem?_cons_succ, List.getElem?_cons_zero]; exact rfl) (by kernel_rfl) (by kernel_rfl) (by kernel_rfl) (by exact fun _ _ _ h => h) (Or.inl ⟨by rfl, ?_⟩) (by assumption) ?_; rotate_left; (intro w hSw; (try dsimp only at hSw); go_simp; try with_reducible rfl); try simp only [Act.put, List.setIfInBounds_toArray, List.set_cons_zero, List.set_cons_succ]
  refine wpAnyH_take (i := 6) (v := ?_) (by simp only [List.getElem?_toArray, List.getElem?_cons_succ, List.getElem?_cons_zero]; exact rfl) (by kernel_rfl) (by kernel_rfl) (by kernel_rfl) (by exact fun _ _ _ h => h) (Or.inl ⟨by rfl, ?_⟩) (by assumption) ?_; rotate_left; (intro w hSw; (try dsimp only at hSw); go_simp; try with_reducible rfl); try simp only [Act.put, List.setIfInBounds_toArray, List.set_cons_zero, List.set_cons_succ]
  refine wpAnyH_take (i := 7) (v := ?_) (by simp only [List.getElem?_toArray, List.getElem?_cons_succ, List.getElem?_cons_zero]; exact rfl) (by kernel_rfl) (by kernel_rfl) (by kernel_rfl) (by exact fun _ _ _ h => h) (Or.inl ⟨by rfl, ?_⟩) (by assumption) ?_; rotate_left; (intro w hSw; (try dsimp only at hSw); go_simp; try with_reducible rfl); try simp only [Act.put, List.setIfInBounds_toArray, List.set_cons_zero, List.set_cons_succ]
  refine wpAnyH_ready (rs := [0]) (by kernel_rfl) (by simp) ?_
  refine AllReadyH.cons (by simp only [List.getElem?_toArray, List.getElem?_cons_succ, List.getElem?_cons_zero]; exact rfl) (fun K hK => ?_) AllReadyH.nil
  go_simp
  refine hK.out _ _ trivial (fun hHeld => ?_)
  clear hK K
  try simp only [Act.put, List.setIfInBounds_toArray, List.set_cons_zero, List.set_cons_succ]
  refine wpAnyH_ready (rs := [4]) (by kernel_rfl) (by simp) ?_
  refine AllReadyH.cons (by simp only [List.getElem?_toArray, List.getElem?_cons_succ, List.getElem?_cons_zero]; exact rfl) (fun K hK => ?_) AllReadyH.nil
  refine step_append rfl rfl (by rfl) rfl rfl hr4 ?_
  refine hK.out _ _ trivial (fun hHeld => ?_)
  clear hK K
  try simp only [Act.put, List.setIfInBounds_toArray, List.set_cons_zero, List.set_cons_succ]
  refine wpAnyH_ready (rs := [8]) (by kernel_rfl) (by simp) ?_
  refine AllReadyH.cons (by simp only [List.getElem?_toArray, List.getElem?_cons_succ, List.getElem?_cons_zero]; exact rfl) (fun K hK => ?_) AllReadyH.nil
  refine step_append rfl rfl (by rfl) rfl rfl hr5 ?_
  refine hK.out _ _ trivial (fun hHeld => ?_)
  clear hK K
  try simp only [Act.put, List.setIfInBounds_toArray, List.set_cons_zero, List.set_cons_succ]
  refine wpAnyH_take (i := 9) (v := ?_) (by simp only [List.getElem?_toArray, List.getElem?_cons_succ, List.getElem?_cons_zero]; exact rfl) (by kernel_rfl) (by kernel_rfl) (by kernel_rfl) (by exact fun _ _ _ h => h) (Or.inl ⟨by rfl, ?_⟩) (by assumption) ?_; rotate_left; (intro w hSw; (try dsimp only at hSw); go_simp; try with_reducible rfl); try simp only [Act.put, List.setIfInBounds_toArray, List.set_cons_zero, List.set_cons_succ]
  refine wpAnyH_done (by kernel_rfl) ?_ _
  have hm1 : (l.drop t ++ l.take t).length = l.length := turn_len l t
  have hm2 : ∀ f, asum wd f (l.drop t ++ l.take t) = asum wd f l := fun f => turn_sum wd f l t
  have hm3 : ∀ x ∈ l.drop t ++ l.take t, rdAct.ok x := fun x hx => (List.mem_append.1 hx).elim (ok1 x) (ok2 x)
  generalize l.drop t ++ l.take t = m at hO5 hm1 hm2 hm3
  have hst : LoopO w.heap.size w p q wd l m ao2 c2 l.length (.int .i64 0) w5 := ⟨0, Nat.zero_le _, rfl, rfl, hb5, hO5.front 2 _ rfl⟩
  replace hst := Hid.mk' hst
  replace hm2 := Hid.mk' hm2
  clear hO5 hb5 b5 hr5 hb4 b4 hr4 hbn hbd hO3 hb3 ok1 ok2 sl1 sl2 n1 n2
  go_wp2_with fail
  go_loopg [14] l.length (fun g i wr => LoopO w.heap.size w p q wd l m ao2 c2 g i wr)
  case atStart => exact hst.out
  case round =>
    clear hst
    obtain ⟨k, hk2, hgk, rfl, hbr, hOr⟩ := hrel
    have hzr := hbr.size
    by_cases hlt : k < l.length
    · have hy : l[k]? = some l[k] := List.getElem?_eq_getElem hlt
      generalize l[k] = y at hy
      obtain ⟨kd, dk, dt, dn⟩ := y
      obtain ⟨bb, o, hidx, hc, hbl⟩ := hs.idx (cap := cap) Try.underlying22 size29 rfl hy
      obtain ⟨_, d1', d2', d3'⟩ := act_at hc
      have hcells : ∀ W, Below w.heap.size w W → W.cell? ⟨bb, o + 1, none⟩ = some (.string dk) ∧ W.cell? ⟨bb, o + 2, none⟩ = some (.int .i64 dt) ∧ W.cell? ⟨bb, o + 3, none⟩ = some (.int .i64 dn) := fun W hW =>
        ⟨(hW.cell (p := ⟨bb, o + 1, none⟩) hbl).trans d1', (hW.cell (p := ⟨bb, o + 2, none⟩) hbl).trans d2', (hW.cell (p := ⟨bb, o + 3, none⟩) hbl).trans d3'⟩
      obtain ⟨c1, c2', c3⟩ := hcells wr hbr
      have hadd := addR kd dk dt dn hOr.drew hzr (by rw [List.length_take]; omega) g1 g2
      have hv : m[k]? = some (m[k]'(by omega)) := List.getElem?_eq_getElem (by omega)
      generalize (m[k]'(by omega)) = v at hv
      obtain ⟨kd2, ek, et, en⟩ := v
      obtain ⟨b2, o2, hidx2, _, _⟩ := (rows_at hOr.swap hm3).1.idx (cap := c2) Try.underlying22 size29 hm1 hv
      have hmc : ∀ (W : World) (LA : List Asrt), Owns w.heap.size (Asrt.rows rdAct (.slice ao2 l.length c2) m :: LA) W → W.cell? ⟨b2, o2 + 1, none⟩ = some (.string ek) ∧ W.cell? ⟨b2, o2 + 2, none⟩ = some (.int .i64 et) ∧ W.cell? ⟨b2, o2 + 3, none⟩ = some (.int .i64 en) := fun W LA hW => slat_cells (c := c2) (rows_at hW hm3).1 hm1 hv hidx2
      clear hc d1' d2' d3'
      replace hy := Hid.mk' hy
      replace hv := Hid.mk' hv
      go_wp2_with fail
      go_region_held3 (fun w' => w'.cell? ⟨bb, o + 1, none⟩ = some (.string dk) ∧ w'.cell? ⟨bb, o + 2, none⟩ = some (.int .i64 dt) ∧ w'.cell? ⟨bb, o + 3, none⟩ = some (.int .i64 dn)) (go_keep)
        (first | (go_at_call 19; refine hadd.mono ?_; rintro e w4 ⟨rfl, hO4, b4⟩; have hb4 := hbr.drew.trans b4; obtain ⟨s1, s2, s3⟩ := hcells w4 hb4))
      clear hadd
      obtain ⟨z1, z2, z3⟩ := hmc w4 _ hO4.swap
      have hadd2 := addR kd2 ek et en (hO4.front 2 _ rfl).drew hb4.size (by rw [List.length_take]; omega) g1 g2
      go_wp2_with fail
      go_region_held3 (fun w' => w'.cell? ⟨b2, o2 + 1, none⟩ = some (.string ek) ∧ w'.cell? ⟨b2, o2 + 2, none⟩ = some (.int .i64 et) ∧ w'.cell? ⟨b2, o2 + 3, none⟩ = some (.int .i64 en)) (go_keep)
        (first | (go_at_call 19; refine hadd2.mono ?_; rintro e w5 ⟨rfl, hO5, b5⟩; have hb5 := hb4.drew.trans b5; obtain ⟨r1, r2, r3⟩ := hmc w5 _ (hO5.front 2 _ rfl)))
      clear hadd2
      have hO5' : Owns w.heap.size [PanR p wd (l.take (k + 1)), Asrt.rows rdAct (.slice ao2 l.length c2) m, PanR q wd (m.take (k + 1))] w5 := by
        rw [take_succ' hy.out, take_succ' hv.out]; exact ((hO5.front 1 _ rfl).front 2 _ rfl).swap
      go_wp2_with fail
      go_roundg (l.length - (k + 1))
      case rel => exact ⟨k + 1, by omega, rfl, by go_num, hb5, hO5'⟩
      case measure => omega
    · have hkk : l.take k = l := List.take_of_length_le (by omega)
      have hkm : m.take k = m := List.take_of_length_le (by omega)
      rw [hkk, hkm] at hOr
      clear hkk hkm
      have hO0 : Owns w.heap.size [PanR p wd l, PanR q wd m] wr := hOr.swap.tail
      have hml : m.length ≤ 1000 := by omega
      clear hOr
      have hk1 := keysR from_ to_ hO0 hzr (by omega) g1 g2 hf1 hf2 ht1 ht2
      go_wp2_with fail
      refine hk1.mono ?_
      rintro e w6 ⟨ks, ak, ck, rfl, hri, hks, hkl2, h6, b6⟩
      have hb6 := hbr.trans b6
      have hk2' := keysR from_ to_ (h6.front 2 _ rfl) hb6.size hml g1 g2 hf1 hf2 ht1 ht2
      replace hks := Hid.mk' hks
      replace hri := Hid.mk' hri
      clear hk1
      go_wp2_with fail
      refine hk2'.mono ?_
      rintro e w7 ⟨ks2, ak2, ck2, rfl, hri2, hks2, hkl3, h7, b7⟩
      obtain rfl : ks2 = ks := Rising.ext hri2 hri.out (fun x => (hks2 x).trans (by rw [hm2.out]; exact (hks.out x).symm))
      have hb7 := hb6.trans b7
      have htx := texts_same ak ak2 ck ck2 ks2.length ks2 w7 (h7.front 2 _ rfl).rowLies.1 h7.rowLies.1 rfl (by omega)
      clear hks2 hk2'
      go_wp2_with fail
      refine htx.mono ?_
      rintro e w8 ⟨rfl, b8⟩
      have hb8 := hb7.trans (b8.mono hb7.size)
      have hst : LoopS w.heap.size w p q wd l m ks2 ak ck ks2.length (.int .i64 0) w8 := ⟨0, Nat.zero_le _, rfl, rfl, hb8, (h7.keep b8).tail.swap⟩
      replace hst := Hid.mk' hst
      clear htx hb8 b8 h7 b7 hb7 h6 b6 hb6 hri2 hO0 hbr hzr
      go_wp2_with fail
      go_loopg [16] ks2.length (fun g i wr => LoopS w.heap.size w p q wd l m ks2 ak ck g i wr)
      case atStart => exact hst.out
      case round =>
        clear hst
        obtain ⟨k, hk2, hgk, rfl, hbr, hOr⟩ := hrel
        have hzr := hbr.size
        have hln : (ks2.map Value.string).length = ks2.length := by simp
        by_cases hlt : k < ks2.length
        · have hx0 : ks2[k]? = some ks2[k] := List.getElem?_eq_getElem hlt
          generalize ks2[k] = x at hx0
          have hx : (ks2.map Value.string)[k]? = some (.string x) := by rw [List.getElem?_map, hx0]; rfl
          obtain ⟨bx, px, ix, gx, _⟩ := Lies.idx (P := Try.prog) (c := ck) Try.underlying35 size9 hOr.rowLies.1 hln hx
          have hs1 := sumR x from_ to_ (hOr.front 2 _ rfl).drew hzr (by omega) g1 g2 hf1 hf2 ht1 ht2
          have hs2g := fun {lA : List Asrt} {W : World} (hO : Owns w.heap.size (PanR q wd m :: lA) W) (hB : w.heap.size ≤ W.heap.size) => sumR x from_ to_ hO hB hml g1 g2 hf1 hf2 ht1 ht2
          simp only [hm2.out] at hs2g
          generalize asum wd (inr x (pn wd from_) (pn wd to_)) l = sx at hs1 hs2g
          have t1 : (sx != sx) = false := by simp
          replace hx0 := Hid.mk' hx0
          go_wp2_with fail
          go_region_held3 (fun w' => w'.cell? ⟨bx, px, none⟩ = some (.string x)) (go_keep)
            (first
              | (go_at_call_of 22 (Value.pointer (some ⟨p, 0, none⟩)); refine hs1.mono ?_; rintro e w4 ⟨rfl, hO4, b4⟩; have hb4 := hbr.drew.trans b4; have s1 := lies_cell (hO4.front 1 _ rfl).rowLies.1 hln hx ix; have hs2 := hs2g (hO4.front 2 _ rfl) hb4.size)
              | (go_at_call_of 22 (Value.pointer (some ⟨q, 0, none⟩)); refine hs2.mono ?_; rintro e w5 ⟨rfl, hO5, b5⟩; have hb5 := hb4.trans b5; have s2 := lies_cell (hO5.front 2 _ rfl).rowLies.1 hln hx ix))
          go_wp2_with fail
          go_roundg (ks2.length - (k + 1))
          case rel => exact ⟨k + 1, by omega, rfl, by go_num, hb5, (hO5.front 2 _ rfl)⟩
          case measure => omega
        · go_wp2_with fail
          go_ret
          exact ⟨rfl, hbr⟩
theorem cap_of {H : Type} {enc : TypeId × Value → H} {w : World} {base : Nat} {spare : Nat → Bool} {held : Bool} {t e : TypeId} (ht : Try.prog.underlying t = some (.slice e)) {a : Option Addr} {len cap : Nat} {d : DataW H} {ps : List MemPlace}
    (h : DataW.Trod enc Try.prog w base spare held t (.slice a len cap) d ps) : len ≤ cap := by
  obtain ⟨fuel, hf⟩ := h
  rcases Go.Deep.open_slice ht hf with ⟨h1, _⟩ | ⟨a', len', cap', m, n, D, Pl, h1, hb, hl, _⟩
  · simp [Value.cells] at h1
    obtain ⟨rfl, rfl, rfl⟩ := h1
    exact Nat.le_refl _
  · simp [Value.cells] at h1
    obtain ⟨rfl, rfl, rfl⟩ := h1
    exact hl
theorem row_order {H : Type} {enc : TypeId × Value → H} (width : Int) (A : Option Addr) (len cap : Nat) (turn from_ to_ : Int) (w : World) (h0 : (Lit.int .i64 width).wf = true) {d : DataW H} {ps : List MemPlace}
    (hs : DataW.Trod enc Try.prog w 0 (fun _ => true) true 22 (.slice A len cap) d ps) (h2 : (Lit.int .i64 turn).wf = true) (h3 : (Lit.int .i64 from_).wf = true) (h4 : (Lit.int .i64 to_).wf = true) :
    Calls Try.prog 5 #[.int .i64 width, .slice A len cap, .int .i64 turn, .int .i64 from_, .int .i64 to_] w fun e w' => e = .returned (.bool true) ∧ Below w.heap.size w w' := by
  have hc := cap_of Try.underlying22 hs
  obtain ⟨l, rfl, hl, hsl⟩ := SlAt.open (r := rdAct) (by decide) Try.underlying22 hs
  exact law_order width turn from_ to_ A cap l w hl hc hsl (bounds_i64 h2).1 (bounds_i64 h2).2 (bounds_i64 h3).1 (bounds_i64 h3).2 (bounds_i64 h4).1 (bounds_i64 h4).2
end Go.Proofs.Pan
