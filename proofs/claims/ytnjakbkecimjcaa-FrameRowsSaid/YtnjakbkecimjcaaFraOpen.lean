/- frame: Open. -/
import Derived.Test.YtnjakbkecimjcaaFraWrongs
namespace Go.Proofs.Fra
open Go.RowKit Go.Cic Go.ChangeMaps
set_option linter.unusedVariables false
set_option maxRecDepth 100000
theorem size23 (w : World) : (sizeOf 23).run Try.prog w = .ok 1 w := by kernel_rfl
def badB (l : List UInt8) : Bool := wr1 l || wr2 l || wr3 l 0 || wr3 l 1 || wr3 l 2
def tornB (l : List UInt8) : Bool := decide (l.length < 6 ∨ l.length < toldN l + 10)
def openL (l : List UInt8) : List UInt8 × Nat × Nat := if badB l then ([], 0, 2) else if tornB l then ([], 0, 1) else ((l.drop 6).take (toldN l), toldN l + 10, 0)
theorem Lies.lit {w : World} {ao : Option Addr} {l : List UInt8} (h : Lies w ao (bv l)) (k m : Nat) : Lies w (ao.map (fun x => ⟨x.block, x.off + k, none⟩)) (bv ((l.drop k).take m)) := fun j u hj => by
  rw [List.getElem?_map, List.getElem?_take] at hj
  split at hj
  · rw [List.getElem?_drop] at hj
    obtain ⟨b, o, rfl, h2, h3⟩ := h (k + j) u (by rw [List.getElem?_map]; exact hj)
    exact ⟨b, o + k, rfl, h2, by rw [Nat.add_assoc]; exact h3⟩
  · cases hj
/-- What the loop over the closures wants of the world. -/
structure WF (ao : Option Addr) (n c : Nat) (l : List UInt8) (ao' : Option Addr) (bx i0 i1 i2 : Nat) (w : World) : Prop where
  fs : Lies w ao' [fv 25 #[ptr bx], fv 26 #[ptr bx], fv 27 #[ptr bx, ptr i0], fv 27 #[ptr bx, ptr i1], fv 27 #[ptr bx, ptr i2]]
  cb : w.cell? ⟨bx, 0, none⟩ = some (.slice ao n c)
  c0 : w.cell? ⟨i0, 0, none⟩ = some (.int .i64 0)
  c1 : w.cell? ⟨i1, 0, none⟩ = some (.int .i64 1)
  c2 : w.cell? ⟨i2, 0, none⟩ = some (.int .i64 2)
  ls : Lies w ao (bv l)
theorem WF.below {ao : Option Addr} {n c : Nat} {l : List UInt8} {ao' : Option Addr} {bx i0 i1 i2 : Nat} {w w' : World} (h : WF ao n c l ao' bx i0 i1 i2 w) (hb : Below w.heap.size w w') : WF ao n c l ao' bx i0 i1 i2 w' :=
  ⟨h.fs.below hb, cell_later hb h.cb, cell_later hb h.c0, cell_later hb h.c1, cell_later hb h.c2, h.ls.below hb⟩
/-- Of n bytes: too little, or what is told. -/
def OpenPost (B : Nat) (L : List Asrt) (l : List UInt8) (w : World) (e : Ending) (w' : World) : Prop :=
  ∃ ao' c', e = .returned (.tuple #[.slice ao' (openL l).1.length c', .int .i64 (openL l).2.1, .int .i64 (openL l).2.2]) ∧ Owns B (Asrt.row 5 (.slice ao' (openL l).1.length c') (bv (openL l).1) :: L) w' ∧ Below B w w'
theorem OpenPost.of {B : Nat} {L : List Asrt} {l : List UInt8} {w w' : World} {ao' : Option Addr} {c' m x y : Nat} {q : List UInt8} (h : openL l = (q, x, y)) (hm : q.length = m) (hO : Owns B (Asrt.row 5 (.slice ao' m c') (bv q) :: L) w') (hb : Below B w w') : OpenPost B L l w (.returned (.tuple #[.slice ao' m c', .int .i64 x, .int .i64 y])) w' := by
  subst hm
  refine ⟨ao', c', ?_⟩
  rw [h]
  exact ⟨rfl, hO, hb⟩
set_option maxHeartbeats 4000000 in
theorem open_own {B : Nat} {L : List Asrt} {w : World} (hO : Owns B L w) (hB : B ≤ w.heap.size) (ao : Option Addr) (n c : Nat) (l : List UInt8) (hs : Lies w ao (bv l)) (hn : l.length = n) (hl : n ≤ 4294967296) (hc : n ≤ c) :
    Calls Try.prog 13 #[.slice ao n c] w (OpenPost B L l w) := by
  go_enter Try.func13, Try.ntmps13
  go_wp2_with (go_at_call 21; refine (wrongs_own ao n c w).mono ?_; rintro e w1 ⟨q1, ao', c', bx, i0, i1, i2, rfl, f1, f2, f3, f4, f5⟩; have F1 : WF ao n c l ao' bx i0 i1 i2 w1 := ⟨f1, f2, f3, f4, f5, hs.below q1⟩; clear f1 f2 f3 f4 f5)
  have O1 := hO.keep q1
  have Q1 := q1.mono hB
  refine wp_loop_rounds 6 ?_
  rw [rounds_succ]
  by_cases hw0 : wr1 l = true
  · have H := Hid.mk' hw0
    have HB := Hid.mk' (show openL l = ([], 0, 2) by unfold openL badB; simp [hw0])
    clear hw0
    go_wp2_with (first | (refine wpList_idx rfl _ _ 53 rfl Try.underlying53 size23 rfl (k := 0) rfl F1.fs rfl rfl ?_; intro b p hcb hbb) | (go_at_call 25; refine (wr1_any bx n c ao l _ F1.cb F1.ls hn (by omega)).mono ?_; rintro e w2 ⟨rfl, q2⟩; rw [H.out]))
    refine bodyPost_ret (results_tmp3 rfl _ _ _) rfl ?_
    exact OpenPost.of HB.out rfl (O1.keep q2).rowNil (Q1.trans (q2.mono (Nat.le_trans hB Q1.size)))
  simp only [Bool.not_eq_true] at hw0
  have H := Hid.mk' hw0
  go_wp2_with (first | (refine wpList_idx rfl _ _ 53 rfl Try.underlying53 size23 rfl (k := 0) rfl F1.fs rfl rfl ?_; intro b p hcb hbb) | (go_at_call 25; refine (wr1_any bx n c ao l _ F1.cb F1.ls hn (by omega)).mono ?_; rintro e w2 ⟨rfl, q2⟩; rw [H.out]))
  have O2 := O1.keep q2
  have Q2 := Q1.trans (q2.mono (Nat.le_trans hB Q1.size))
  have F2 := F1.below q2
  clear O1 Q1 F1 q2 H
  rw [rounds_succ]
  by_cases hw1 : wr2 l = true
  · have H := Hid.mk' hw1
    have HB := Hid.mk' (show openL l = ([], 0, 2) by unfold openL badB; simp [hw0, hw1])
    clear hw1
    go_wp2_with (first | (refine wpList_idx rfl _ _ 53 rfl Try.underlying53 size23 rfl (k := 1) rfl F2.fs rfl rfl ?_; intro b p hcb hbb) | (go_at_call 26; refine (wr2_any bx n c ao l _ F2.cb F2.ls hn (by omega) hc).mono ?_; rintro e w2 ⟨rfl, q2⟩; rw [H.out]))
    refine bodyPost_ret (results_tmp3 rfl _ _ _) rfl ?_
    exact OpenPost.of HB.out rfl (O2.keep q2).rowNil (Q2.trans (q2.mono (Nat.le_trans hB Q2.size)))
  simp only [Bool.not_eq_true] at hw1
  have H := Hid.mk' hw1
  go_wp2_with (first | (refine wpList_idx rfl _ _ 53 rfl Try.underlying53 size23 rfl (k := 1) rfl F2.fs rfl rfl ?_; intro b p hcb hbb) | (go_at_call 26; refine (wr2_any bx n c ao l _ F2.cb F2.ls hn (by omega) hc).mono ?_; rintro e w2 ⟨rfl, q2⟩; rw [H.out]))
  have O3 := O2.keep q2
  have Q3 := Q2.trans (q2.mono (Nat.le_trans hB Q2.size))
  have F3 := F2.below q2
  clear O2 Q2 F2 q2 H
  rw [rounds_succ]
  by_cases hw2 : wr3 l 0 = true
  · have H := Hid.mk' hw2
    have HB := Hid.mk' (show openL l = ([], 0, 2) by unfold openL badB; simp [hw0, hw1, hw2])
    clear hw2
    go_wp2_with (first | (refine wpList_idx rfl _ _ 53 rfl Try.underlying53 size23 rfl (k := 2) rfl F3.fs rfl rfl ?_; intro b p hcb hbb) | (go_at_call 27; refine (wr3_0 bx i0 n c ao l _ F3.cb F3.c0 F3.ls hn (by omega)).mono ?_; rintro e w2 ⟨rfl, q2⟩; rw [H.out]))
    refine bodyPost_ret (results_tmp3 rfl _ _ _) rfl ?_
    exact OpenPost.of HB.out rfl (O3.keep q2).rowNil (Q3.trans (q2.mono (Nat.le_trans hB Q3.size)))
  simp only [Bool.not_eq_true] at hw2
  have H := Hid.mk' hw2
  go_wp2_with (first | (refine wpList_idx rfl _ _ 53 rfl Try.underlying53 size23 rfl (k := 2) rfl F3.fs rfl rfl ?_; intro b p hcb hbb) | (go_at_call 27; refine (wr3_0 bx i0 n c ao l _ F3.cb F3.c0 F3.ls hn (by omega)).mono ?_; rintro e w2 ⟨rfl, q2⟩; rw [H.out]))
  have O4 := O3.keep q2
  have Q4 := Q3.trans (q2.mono (Nat.le_trans hB Q3.size))
  have F4 := F3.below q2
  clear O3 Q3 F3 q2 H
  rw [rounds_succ]
  by_cases hw3 : wr3 l 1 = true
  · have H := Hid.mk' hw3
    have HB := Hid.mk' (show openL l = ([], 0, 2) by unfold openL badB; simp [hw0, hw1, hw2, hw3])
    clear hw3
    go_wp2_with (first | (refine wpList_idx rfl _ _ 53 rfl Try.underlying53 size23 rfl (k := 3) rfl F4.fs rfl rfl ?_; intro b p hcb hbb) | (go_at_call 27; refine (wr3_1 bx i1 n c ao l _ F4.cb F4.c1 F4.ls hn (by omega)).mono ?_; rintro e w2 ⟨rfl, q2⟩; rw [H.out]))
    refine bodyPost_ret (results_tmp3 rfl _ _ _) rfl ?_
    exact OpenPost.of HB.out rfl (O4.keep q2).rowNil (Q4.trans (q2.mono (Nat.le_trans hB Q4.size)))
  simp only [Bool.not_eq_true] at hw3
  have H := Hid.mk' hw3
  go_wp2_with (first | (refine wpList_idx rfl _ _ 53 rfl Try.underlying53 size23 rfl (k := 3) rfl F4.fs rfl rfl ?_; intro b p hcb hbb) | (go_at_call 27; refine (wr3_1 bx i1 n c ao l _ F4.cb F4.c1 F4.ls hn (by omega)).mono ?_; rintro e w2 ⟨rfl, q2⟩; rw [H.out]))
  have O5 := O4.keep q2
  have Q5 := Q4.trans (q2.mono (Nat.le_trans hB Q4.size))
  have F5 := F4.below q2
  clear O4 Q4 F4 q2 H
  rw [rounds_succ]
  by_cases hw4 : wr3 l 2 = true
  · have H := Hid.mk' hw4
    have HB := Hid.mk' (show openL l = ([], 0, 2) by unfold openL badB; simp [hw0, hw1, hw2, hw3, hw4])
    clear hw4
    go_wp2_with (first | (refine wpList_idx rfl _ _ 53 rfl Try.underlying53 size23 rfl (k := 4) rfl F5.fs rfl rfl ?_; intro b p hcb hbb) | (go_at_call 27; refine (wr3_2 bx i2 n c ao l _ F5.cb F5.c2 F5.ls hn (by omega)).mono ?_; rintro e w2 ⟨rfl, q2⟩; rw [H.out]))
    refine bodyPost_ret (results_tmp3 rfl _ _ _) rfl ?_
    exact OpenPost.of HB.out rfl (O5.keep q2).rowNil (Q5.trans (q2.mono (Nat.le_trans hB Q5.size)))
  simp only [Bool.not_eq_true] at hw4
  have H := Hid.mk' hw4
  go_wp2_with (first | (refine wpList_idx rfl _ _ 53 rfl Try.underlying53 size23 rfl (k := 4) rfl F5.fs rfl rfl ?_; intro b p hcb hbb) | (go_at_call 27; refine (wr3_2 bx i2 n c ao l _ F5.cb F5.c2 F5.ls hn (by omega)).mono ?_; rintro e w2 ⟨rfl, q2⟩; rw [H.out]))
  have O6 := O5.keep q2
  have Q6 := Q5.trans (q2.mono (Nat.le_trans hB Q5.size))
  have F6 := F5.below q2
  clear O5 Q5 F5 q2 H
  have HB := Hid.mk' (show badB l = false by unfold badB; simp [hw0, hw1, hw2, hw3, hw4])
  clear hw0 hw1 hw2 hw3 hw4
  rw [rounds_succ]
  have cT := told_lt l
  obtain ⟨T, hT⟩ : ∃ T, Hid (toldN l = T) := ⟨_, rfl⟩
  rw [hT.out] at cT
  by_cases h6 : n < 6
  · have HO := Hid.mk' (show openL l = ([], 0, 1) by unfold openL; rw [HB.out]; unfold tornB; rw [hn]; simp [h6])
    have h6' : (n : Int) < 6 := by omega
    go_wp2_with fail
    refine bodyPost_ret (results_tmp3 rfl _ _ _) rfl ?_
    exact OpenPost.of HO.out rfl O6.rowNil Q6
  have h6' : (6 : Int) ≤ (n : Int) := by omega
  by_cases h7 : n < T + 10
  · have HO := Hid.mk' (show openL l = ([], 0, 1) by unfold openL; rw [HB.out]; unfold tornB; rw [hn, hT.out]; simp [h7])
    go_wp2_with (go_at_call 22; refine (told_any ao n c l _ F6.ls hn (by omega)).mono ?_; rintro e w3 ⟨rfl, rfl⟩; rw [hT.out])
    refine bodyPost_ret (results_tmp3 rfl _ _ _) rfl ?_
    exact OpenPost.of HO.out rfl O6.drew.rowNil Q6.drew
  have HO := Hid.mk' (show openL l = ((l.drop 6).take T, T + 10, 0) by unfold openL; rw [HB.out]; unfold tornB; rw [hn, hT.out]; simp [h7, h6])
  have hS := Lies.lit F6.ls 6 T
  generalize hq : (l.drop 6).take T = q at hS HO
  have hqn : q.length = T := by rw [← hq]; simp; omega
  clear hq
  have j1 : (6 : Int) + (T : Int) ≤ (n : Int) := by omega
  have j2 : (6 : Int) + (T : Int) ≤ (c : Int) := by omega
  have hlT : T ≤ 4294967296 := by omega
  have eT : 6 + T - 6 = T := by omega
  have hld := Lies.drew F6.ls
  have hS2 : Lies w2.drew.drew (ao.map (fun x => ⟨x.block, x.off + 6, none⟩)) (bv q) := hS
  have hn3 : 3 ≤ n := by omega
  go_wp2_with (first | (go_at_call 22; refine (told_any ao n c l _ F6.ls hn hn3).mono ?_; rintro e w3 ⟨rfl, rfl⟩; rw [hT.out]) | (go_at_call 22; refine (told_any ao n c l _ hld hn hn3).mono ?_; rintro e w3 ⟨rfl, rfl⟩; rw [hT.out]))
  refine (clone_own (O6.drew.drew) (Nat.le_trans hB Q6.size) _ T (c - 6) q hS2 hqn hlT).mono ?_
  rintro e w3 ⟨a3, c3, rfl, O7, Q7⟩
  go_wp2_with fail
  refine bodyPost_ret (results_tmp3 rfl _ _ _) rfl ?_
  have e10 : (6 : Int) + (T : Int) + 4 = ((T + 10 : Nat) : Int) := by omega
  have := OpenPost.of (L := L) (w := w) HO.out hqn O7 (Q6.trans (show Below B w2 w3 from (((Below.refl B w2).drew).drew).trans Q7))
  rw [← e10] at this
  exact this
end Go.Proofs.Fra
