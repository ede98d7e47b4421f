/- cache: slices.DeleteFunc with 'k == key'. -/
import Derived.Test.YtbdikfadnfjmoaaCacPred
import Derived.Test.YtbdikfadnfjmoaaCicLib
import Derived.Outline
namespace Go.Proofs.Cac
open Go.RowKit Go.Cic Go.ChangeMaps
set_option linter.unusedVariables false
set_option maxRecDepth 100000
theorem zero9 (w : World) : (zeroValue 9).run Try.prog w = .ok (.string ByteArray.empty) w := by kernel_rfl
/-- What stays. -/
abbrev nk (key y : ByteArray) : Bool := !isB key y
/-- The row under way: k are gone through, j stay. -/
def Half (key : ByteArray) (xs cur : List ByteArray) (j k : Nat) : Prop := cur.length = xs.length ∧ j ≤ k ∧ k ≤ xs.length ∧ cur.take j = (xs.take k).filter (nk key) ∧ cur.drop k = xs.drop k
theorem Half.at {key : ByteArray} {xs cur : List ByteArray} {j k : Nat} (h : Half key xs cur j k) (hk : k < xs.length) : cur[k]? = xs[k]? := by
  have := congrArg (fun l : List ByteArray => l[0]?) h.2.2.2.2
  simpa using this
theorem Half.keep {key y : ByteArray} {xs cur : List ByteArray} {j k : Nat} (h : Half key xs cur j k) (hy : xs[k]? = some y) (hf : isB key y = false) : Half key xs (cur.set j y) (j + 1) (k + 1) := by
  obtain ⟨h1, h2, h3, h4, h5⟩ := h
  have hk := (List.getElem?_eq_some_iff.1 hy).1
  refine ⟨by simpa using h1, by omega, by omega, ?_, ?_⟩
  · rw [List.take_add_one, List.take_add_one, List.filter_append, ← h4, take_set_aux', hy, List.getElem?_set, if_pos rfl, if_pos (by omega)]
    simp only [Option.toList_some, List.filter_cons, nk, hf, Bool.not_false, if_true, List.filter_nil]
    rw [List.set_eq_of_length_le (by rw [List.length_take]; omega)]
  · rw [List.drop_set_of_lt (by omega)]
    have := congrArg (List.drop 1) h5
    simpa [List.drop_drop] using this
theorem Half.skip {key y : ByteArray} {xs cur : List ByteArray} {j k : Nat} (h : Half key xs cur j k) (hy : xs[k]? = some y) (hf : isB key y = true) : Half key xs cur j (k + 1) := by
  obtain ⟨h1, h2, h3, h4, h5⟩ := h
  have hk := (List.getElem?_eq_some_iff.1 hy).1
  refine ⟨h1, by omega, by omega, ?_, ?_⟩
  · rw [h4, List.take_add_one, List.filter_append, hy]
    simp [nk, hf]
  · have := congrArg (List.drop 1) h5
    simpa [List.drop_drop] using this
theorem Half.done {key : ByteArray} {xs cur : List ByteArray} {j : Nat} (h : Half key xs cur j xs.length) : cur.take j = xs.filter (nk key) := by
  have := h.2.2.2.1
  rwa [List.take_length] at this
theorem Half.start {key : ByteArray} {xs : List ByteArray} (h : xs.any (isB key) = true) : Half key xs xs (xs.findIdx (isB key)) (xs.findIdx (isB key) + 1) := by
  obtain ⟨y, hy, hf⟩ := List.any_eq_true.1 h
  have hlt : xs.findIdx (isB key) < xs.length := List.findIdx_lt_length_of_exists ⟨y, hy, hf⟩
  have hat : isB key xs[xs.findIdx (isB key)] = true := List.findIdx_getElem
  refine ⟨rfl, by omega, by omega, ?_, rfl⟩
  rw [List.take_add_one, List.filter_append, List.getElem?_eq_getElem hlt]
  simp only [Option.toList_some, List.filter_cons, nk, hat, Bool.not_true, Bool.false_eq_true, if_false, List.filter_nil, List.append_nil]
  refine (List.filter_eq_self.2 fun x hx => ?_).symm
  obtain ⟨i, hi, rfl⟩ := List.mem_take_iff_getElem.1 hx
  have := List.not_of_lt_findIdx (p := isB key) (xs := xs) (i := i) (by omega)
  simpa using this
set_option maxHeartbeats 1000000 in
theorem delete_50 {B b0 : Nat} {l : List Asrt} {w : World} (key : ByteArray) (T : TypeId) (ao : Option Addr) (n c : Nat) (xs : List ByteArray) (hO : Owns B (Asrt.row 9 (.slice ao n c) (sv xs) :: Asrt.cells b0 #[.string key] T :: l) w) (hB : B ≤ w.heap.size) (hl : n ≤ 4294967296) :
    Calls Try.prog 49 #[.slice ao n c, .func (.func 50) #[] #[.pointer (some ⟨b0, 0, none⟩)]] w fun e w' => ∃ n' c', e = .returned (.slice ao n' c') ∧ n' = (xs.filter (nk key)).length ∧ Owns B (Asrt.row 9 (.slice ao n' c') (sv (xs.filter (nk key))) :: Asrt.cells b0 #[.string key] T :: l) w' ∧ Below B w w' := by
  have hn : xs.length = n := by have := hO.rowLies.2.1; simpa using this
  have hnc := hO.rowLies.2.2
  have hcl : ∀ {W : World} {v : Value} {ys : List Value}, Owns B (Asrt.row 9 v ys :: Asrt.cells b0 #[.string key] T :: l) W → W.cell? ⟨b0, 0, none⟩ = some (.string key) := fun h => by rw [cell_of h.swap.cellsE.1]; rfl
  have hix := indexFunc_50 b0 (isB key) ao n c xs w hO.rowLies.1 hn hl (fun W y hb => out1_any b0 key y W (cell_later hb (hcl hO)))
  by_cases hany : xs.any (isB key) = true
  · have hst := Half.start hany
    have hfi : findI (isB key) xs = ((xs.findIdx (isB key) : Nat) : Int) := by unfold findI; rw [if_pos hany]
    rw [hfi] at hix
    generalize xs.findIdx (isB key) = j0 at hst hix
    have hj0 : j0 + 1 ≤ n := by have := hst.2.2.1; omega
    have ht := Hid.mk' hst
    replace hn := Hid.mk' hn
    have t1 : (((j0 : Nat) : Int) == -1) = false := beq_eq_false_iff_ne.2 (by omega)
    clear hst hany hfi
    have HO := hO
    clear hO
    go_enter Try.func49, Try.ntmps49
    go_wp2_with (go_at_call 42; refine hix.mono ?_; rintro e w1 ⟨rfl, q1⟩)
    have hO1 := HO.keep q1
    have hb1 := q1.mono hB
    clear HO hix
    go_loopw [5, 6, 7] (fun a b _ wr => ∃ (j k : Nat) (cur : List ByteArray), a = .int .i64 j ∧ b = .int .i64 k ∧ Half key xs cur j k ∧ Owns B (Asrt.row 9 (.slice ao n c) (sv cur) :: Asrt.cells b0 #[.string key] T :: l) wr ∧ Below B w wr) (fun _ b _ _ => n - (intOf b).toNat)
    case atStart => exact ⟨j0, j0 + 1, xs, rfl, by go_num, ht.out, hO1, hb1⟩
    case round =>
      obtain ⟨j, k, cur, rfl, rfl, hh, hOr, hbr⟩ := hrel
      have hkn : k ≤ n := by have := hh.2.2.1; have := hn.out; omega
      have hjk := hh.2.1
      replace hh := Hid.mk' hh
      have hzr : B ≤ wr.heap.size := Nat.le_trans hB hbr.size
      have hcn : Hid (cur.length = n) := Hid.mk' (hh.out.1.trans hn.out)
      by_cases hlt : k < n
      · have hy : xs[k]? = some (xs[k]'(by have := hn.out; omega)) := List.getElem?_eq_getElem _
        generalize (xs[k]'(by have := hn.out; omega)) = y at hy
        have hyc : cur[k]? = some y := (hh.out.at (by have := hn.out; omega)).trans hy
        have Hy := Hid.mk' hy
        clear hy
        have hcall := out1_any b0 key y wr (hcl hOr)
        by_cases hf : isB key y = true
        · rw [hf] at hcall
          have HF := Hid.mk' hf
          clear hf
          go_wp2_with (first | (refine wpList_idx rfl _ _ 27 rfl Try.underlying27 size9 rfl (k := k) rfl hOr.rowLies.1 ((sv_len cur).trans hcn.out) (sv_at hyc) ?_; intro b p hc hbb) | (go_at_call 50; refine hcall.mono ?_; rintro e w2 ⟨rfl, q2⟩))
          go_roundw
          case rel => exact ⟨j, k + 1, cur, rfl, by go_num, hh.out.skip Hy.out HF.out, hOr.keep q2, hbr.trans (q2.mono hzr)⟩
          case measure => simp [intOf]; omega
        · have hf' : isB key y = false := by simpa using hf
          rw [hf'] at hcall
          have HF := Hid.mk' hf'
          clear hf hf'
          have hjn : cur[j]? = some (cur[j]'(by have := hcn.out; omega)) := List.getElem?_eq_getElem _
          generalize (cur[j]'(by have := hcn.out; omega)) = z at hjn
          obtain ⟨bb, rfl, hcz, hfz, _⟩ := Owns.rowAt' hOr hzr (sv_at hjn)
          have hat : ∀ {W : World}, Below wr.heap.size wr W → _ := fun {W} q => Owns.rowAt' (hOr.keep q) (Nat.le_trans hzr q.size) (sv_at hjn)
          have hjlt : j < n := by omega
          have hset : ∀ u : ByteArray, (sv cur).set j (.string u) = sv (cur.set j u) := fun u => by rw [← List.map_set]
          have hatc : ∀ {W : World}, Below wr.heap.size wr W → W.cell? ⟨bb, j, none⟩ = some (.string z) ∧ W.frozen? ⟨bb, j, none⟩ = false := fun {W} q => by
            obtain ⟨b2, hb2, hc2, hf2, _⟩ := hat q
            cases hb2
            exact ⟨hc2, hf2⟩
          go_wp2_with (first | (refine wpList_idx rfl _ _ 27 rfl Try.underlying27 size9 rfl (k := k) rfl hOr.rowLies.1 ((sv_len cur).trans hcn.out) (sv_at hyc) ?_; intro b p hc hbb) | (go_at_call 50; refine hcall.mono ?_; rintro e w2 ⟨rfl, q2⟩; obtain ⟨hc2, hf2⟩ := hatc q2))
          obtain ⟨b2, hb2, _, _, _, hst2⟩ := hat q2
          cases hb2
          go_roundw
          case rel =>
            obtain ⟨h5, h6⟩ := hst2 (.string y)
            rw [hset] at h5
            exact ⟨j + 1, k + 1, cur.set j y, by go_num, by go_num, hh.out.keep Hy.out HF.out, h5, (hbr.trans (q2.mono hzr)).trans h6⟩
          case measure => simp [intOf]; omega
      · have hkn2 : k = n := by omega
        subst hkn2
        have hd := Hid.mk' (show cur.take j = xs.filter (nk key) from Half.done (j := j) (by rw [hn.out]; exact hh.out))
        have hsl : ∀ W : World, (Instr.slice 27 (.slice ao k c) (some (.int .i64 j)) none none).run Try.prog W = .ok (.slice (if c = j then ao else ao.map (·.add (j * 1))) (k - j) (c - j)) W := fun W => run_sliceFrom Try.underlying27 size9 ao k c j hjk W
        obtain ⟨v, hv⟩ : ∃ v, Value.slice (if c = j then ao else ao.map (·.add (j * 1))) (k - j) (c - j) = v := ⟨_, rfl⟩
        rw [hv] at hsl
        replace hv := Hid.mk' hv
        have hc9 : (Value.string ByteArray.empty).cells = #[Value.string ByteArray.empty] := rfl
        have ho9 : (Value.string ByteArray.empty).oneCell' = true := rfl
        have hjc : j ≤ c := by omega
        go_wp2_with (refine wpList_clearRow rfl _ rfl Try.underlying27 zero9 hc9 ho9 hv.out.symm rfl hOr hzr hjk ?_; intro w2 hO2 hb2)
        go_ret
        have h5 := hO2.rowTake hjk
        rw [List.take_append_of_le_length (by rw [List.length_take, sv_len]; have := hcn.out; omega), List.take_take, Nat.min_self, ← List.map_take, hd.out] at h5
        exact ⟨j, c, rfl, by rw [← hd.out, List.length_take]; have := hcn.out; omega, h5, hbr.trans hb2⟩
  · have hfi : findI (isB key) xs = -1 := findI_none (by simpa using hany)
    rw [hfi] at hix
    have hd : xs.filter (nk key) = xs := List.filter_eq_self.2 fun x hx => by
      have := List.any_eq_false.1 (by simpa using hany) x hx
      simpa using this
    rw [hd]
    clear hfi hd hany
    replace hn := Hid.mk' hn
    have HO := hO
    clear hO
    go_enter Try.func49, Try.ntmps49
    go_wp2_with (go_at_call 42; refine hix.mono ?_; rintro e w1 ⟨rfl, q1⟩)
    go_ret
    exact ⟨n, c, rfl, hn.out.symm, HO.keep q1, q1.mono hB⟩
end Go.Proofs.Cac
