/- season: the document's Put. -/
import Derived.Test.YtfolnnmgnkalkaaSeaRef
namespace Go.Proofs.Pan
open Go.RowKit Go.Cic Go.ChangeMaps
set_option linter.unusedVariables false
set_option linter.unusedSimpArgs false
set_option maxRecDepth 100000
noncomputable instance memDec (x : ByteArray) (ks : List ByteArray) : Decidable (x ∈ ks) := Classical.propDecidable _
section
variable {B : Nat} {l : List Asrt} {w : World} {ks : List ByteArray}
theorem rin_any (ao : Option Addr) (c : Nat) (x : ByteArray) (hs : SlAt rdS w ao ks) (hl : ks.length ≤ 1000) :
    Calls Try.prog 63 #[.slice ao ks.length c, .string x] w fun e w' => e = .returned (.bool (decide (x ∈ ks))) ∧ w = w' := by
  go_enter Try.func63, Try.ntmps63
  go_wp2_with fail
  go_loop [5] (fun i => ∃ k : Nat, k ≤ ks.length ∧ i = .int .i64 k ∧ x ∉ ks.take k) (fun i => ks.length - (intOf i).toNat)
  case atStart => exact ⟨0, Nat.zero_le _, rfl, by simp⟩
  case round =>
    obtain ⟨k, hk, rfl, hno⟩ := hrel
    by_cases hlt : k < ks.length
    · have hy : ks[k]? = some (ks[k]'(by omega)) := List.getElem?_eq_getElem (by omega)
      generalize (ks[k]'(by omega)) = y at hy
      obtain ⟨b3, o3, hidx3, hc4, _⟩ := VS.idx (c := c) hs rfl hy
      have f0 : w.cell? ⟨b3, o3, none⟩ = some (.string y) := hc4 0 _ rfl
      by_cases hyx : y = x
      · have t1 : (y.toList == x.toList) = true := beq_iff_eq.2 (congrArg _ hyx)
        have hin : Hid (decide (x ∈ ks) = true) := Hid.mk' (decide_eq_true (hyx ▸ List.mem_of_getElem? hy))
        clear hc4 hy hno hyx
        go_wp2_with fail
        go_ret
        exact ⟨ret_bool hin.out.symm, rfl⟩
      · have t1 : (y.toList == x.toList) = false := beq_eq_false_iff_ne.2 (fun e => hyx (str_inj e))
        have hno2 : x ∉ ks.take (k + 1) := by
          rw [take_succ' hy]
          intro h
          rcases List.mem_append.1 h with h | h
          · exact hno h
          · simp at h; exact hyx h.symm
        replace hno2 := Hid.mk' hno2
        clear hc4 hy hno
        go_wp2_with fail
        go_round
        case rel => exact ⟨k + 1, by omega, by go_num, hno2.out⟩
        case measure => simp [intOf]; omega
    · rw [List.take_of_length_le (by omega)] at hno
      have hin : Hid (decide (x ∈ ks) = false) := Hid.mk' (decide_eq_false hno)
      clear hno
      go_wp2_with fail
      go_ret
      exact ⟨ret_bool hin.out.symm, rfl⟩
/-- What has been copied so far. -/
structure PutS (ks : List ByteArray) (x : ByteArray) (i : Nat) (done : Bool) (out : List ByteArray) : Prop where
  rising : Rising out
  mem : ∀ y, y ∈ out ↔ y ∈ ks.take i ∨ (done = true ∧ y = x)
  len : out.length = i + done.toNat
  no : done = false → ∀ y ∈ ks.take i, y.toList < x.toList
  yes : done = true → ∀ y ∈ ks.drop i, x.toList < y.toList
theorem PutS.start (ks : List ByteArray) (x : ByteArray) : PutS ks x 0 false [] := ⟨List.Pairwise.nil, by simp, rfl, by simp, by simp⟩
theorem rising_snoc {out : List ByteArray} {y : ByteArray} (h : Rising out) (hy : ∀ z ∈ out, z.toList < y.toList) : Rising (out ++ [y]) :=
  List.pairwise_append.2 ⟨h, by simp, fun a ha b hb => by simp at hb; subst hb; exact hy a ha⟩
theorem rising_take {ks : List ByteArray} (h : Rising ks) {k : Nat} {y : ByteArray} (hy : ks[k]? = some y) : (∀ z ∈ ks.take k, z.toList < y.toList) ∧ ∀ z ∈ ks.drop (k + 1), y.toList < z.toList := by
  have hlt := (List.getElem?_eq_some_iff.1 hy).1
  have e : ks = ks.take k ++ y :: ks.drop (k + 1) := by
    have h2 : ks.drop k = y :: ks.drop (k + 1) := by
      rw [List.drop_eq_getElem_cons hlt]
      congr 1
      have := (List.getElem?_eq_some_iff.1 hy).2
      exact this
    rw [← h2, List.take_append_drop]
  unfold Rising at h
  rw [e] at h
  obtain ⟨_, h2, h3⟩ := List.pairwise_append.1 h
  exact ⟨fun z hz => h3 z hz y (by simp), (List.pairwise_cons.1 h2).1⟩
/-- x comes ahead of the next one. -/
theorem PutS.put {x : ByteArray} {i : Nat} {out : List ByteArray} (h : PutS ks x i false out) (hr : Rising ks) {y : ByteArray} (hy : ks[i]? = some y) (hxy : x.toList < y.toList) : PutS ks x i true (out ++ [x]) := by
  refine ⟨rising_snoc h.rising (fun z hz => ?_), fun z => ?_, by rw [List.length_append, h.len]; rfl, by simp, fun _ z hz => ?_⟩
  · rcases (h.mem z).1 hz with h1 | ⟨h1, _⟩
    · exact h.no rfl z h1
    · cases h1
  · rw [List.mem_append, h.mem]; simp
  · have hlt := (List.getElem?_eq_some_iff.1 hy).1
    rw [List.drop_eq_getElem_cons hlt] at hz
    rcases List.mem_cons.1 hz with rfl | hz
    · have := (List.getElem?_eq_some_iff.1 hy).2
      rw [this]; exact hxy
    · exact List.lt_trans hxy ((rising_take hr hy).2 z hz)
theorem PutS.next {x : ByteArray} {i : Nat} {done : Bool} {out : List ByteArray} (h : PutS ks x i done out) (hr : Rising ks) {y : ByteArray} (hy : ks[i]? = some y) (hn : done = false → y.toList < x.toList) : PutS ks x (i + 1) done (out ++ [y]) := by
  have hlt := (List.getElem?_eq_some_iff.1 hy).1
  refine ⟨rising_snoc h.rising (fun z hz => ?_), fun z => ?_, by rw [List.length_append, h.len]; simp; omega, fun hd z hz => ?_, fun hd z hz => ?_⟩
  · rcases (h.mem z).1 hz with h1 | ⟨h1, rfl⟩
    · exact (rising_take hr hy).1 z h1
    · refine h.yes h1 y ?_
      rw [List.drop_eq_getElem_cons hlt]
      have := (List.getElem?_eq_some_iff.1 hy).2
      rw [this]; simp
  · rw [List.mem_append, h.mem, take_succ' hy, List.mem_append]
    constructor
    · rintro ((h1 | h1) | h1)
      · exact .inl (.inl h1)
      · exact .inr h1
      · exact .inl (.inr h1)
    · rintro ((h1 | h1) | h1)
      · exact .inl (.inl h1)
      · exact .inr h1
      · exact .inl (.inr h1)
  · rw [take_succ' hy] at hz
    rcases List.mem_append.1 hz with hz | hz
    · exact h.no hd z hz
    · obtain rfl : z = y := by simpa using hz
      exact hn hd
  · exact h.yes hd z (by rw [List.drop_eq_getElem_cons hlt]; exact List.mem_cons_of_mem _ hz)
theorem PutS.last {x : ByteArray} {out : List ByteArray} (h : PutS ks x ks.length false out) : PutS ks x ks.length true (out ++ [x]) := by
  refine ⟨rising_snoc h.rising (fun z hz => ?_), fun z => ?_, by rw [List.length_append, h.len]; rfl, by simp, by simp⟩
  · rcases (h.mem z).1 hz with h1 | ⟨h1, _⟩
    · exact h.no rfl z h1
    · cases h1
  · rw [List.mem_append, h.mem]; simp
def PutO (B : Nat) (v : Value) (ks : List ByteArray) (x : ByteArray) (l : List Asrt) (w0 : World) (g : Nat) (v5 v6 i : Value) (wr : World) : Prop :=
  ∃ (j : Nat) (done : Bool) (out : List ByteArray) (a5 : Option Addr) (c5 : Nat), j ≤ ks.length ∧ g = ks.length - j ∧ v5 = .slice a5 out.length c5 ∧ v6 = .bool done ∧ i = .int .i64 j ∧ PutS ks x j done out ∧ (∀ y ∈ out, rdS.ok y) ∧ Below B w0 wr ∧ Owns B (Asrt.rows rdS (.slice a5 out.length c5) out :: Asrt.rows rdS v ks :: l) wr
set_option maxHeartbeats 4000000 in
theorem rput_any (ao : Option Addr) (c : Nat) (x : ByteArray) (hO : Owns B (Asrt.rows rdS (.slice ao ks.length c) ks :: l) w) (hB : B ≤ w.heap.size) (hok : ∀ y ∈ ks, rdS.ok y) (hx : rdS.ok x) (hl : ks.length ≤ 900) (hr : Rising ks) :
    Calls Try.prog 57 #[.slice ao ks.length c, .string x] w fun e w' => ∃ (ks' : List ByteArray) (a' : Option Addr) (c' : Nat), e = .returned (.slice a' ks'.length c') ∧ Rising ks' ∧ (∀ y, y ∈ ks' ↔ y = x ∨ y ∈ ks) ∧ (∀ y ∈ ks', rdS.ok y) ∧ ks'.length ≤ ks.length + 1 ∧ Owns B (Asrt.rows rdS (.slice a' ks'.length c') ks' :: l) w' ∧ Below B w w' := by
  have hin := rin_any ao c x (VS.sl hO hok).1 (by omega)
  by_cases hxk : x ∈ ks
  · have hin := (decide_eq_true hxk) ▸ hin
    have hfin : ∀ y, y ∈ ks ↔ y = x ∨ y ∈ ks := fun y => ⟨.inr, fun h => h.elim (fun e => e ▸ hxk) id⟩
    replace hfin := Hid.mk' hfin
    clear hxk
    go_enter Try.func57, Try.ntmps57
    go_wp2_with fail
    refine hin.mono ?_
    rintro e w2 ⟨rfl, rfl⟩
    go_wp2_with fail
    go_ret
    exact ⟨ks, ao, c, rfl, hr, hfin.out, hok, by omega, hO, Below.refl _ _⟩
  · have hin := (decide_eq_false hxk) ▸ hin
    have hE := hO.rowsLit (L := []) (r := rdS) hB (cs := #[]) (n := 0) (by simp [Rd.all]) rfl (Nat.zero_le _)
    have hst : PutO B (.slice ao ks.length c) ks x l w ks.length (.slice (some ⟨w.heap.size, 0, none⟩) 0 0) (.bool false) (.int .i64 0) (w.alloc (.cells #[] 9)) := ⟨0, false, [], _, _, Nat.zero_le _, rfl, rfl, rfl, rfl, PutS.start ks x, by simp, hE.2, hE.1⟩
    replace hst := Hid.mk' hst
    replace hxk := Hid.mk' hxk
    clear hE
    go_enter Try.func57, Try.ntmps57
    go_wp2_with fail
    refine hin.mono ?_
    rintro e w2 ⟨rfl, rfl⟩
    go_wp2_with fail
    go_loopg [5, 6, 7] ks.length (fun g v5 v6 i wr => PutO B (.slice ao ks.length c) ks x l w g v5 v6 i wr)
    case atStart => exact hst.out
    case round =>
      clear hst
      obtain ⟨j, done, out, a5, c5, hj, hgj, rfl, rfl, rfl, hp, hoo, hbr, hOr⟩ := hrel
      have hzr := hbr.size
      have hpl := hp.len
      have hdn : done.toNat ≤ 1 := by cases done <;> simp
      by_cases hlt : j < ks.length
      · have hy : ks[j]? = some (ks[j]'(by omega)) := List.getElem?_eq_getElem (by omega)
        generalize (ks[j]'(by omega)) = y at hy
        have hyk := hok y (List.mem_of_getElem? hy)
        obtain ⟨b3, o3, hidx3, hc4, hbl⟩ := VS.idx (c := c) (VS.sl hOr.tail hok).1 rfl hy
        have cell : ∀ {W : World} {v5 : Value} {o5 : List ByteArray}, Owns B (Asrt.rows rdS v5 o5 :: Asrt.rows rdS (.slice ao ks.length c) ks :: l) W → W.cell? ⟨b3, o3, none⟩ = some (.string y) := fun h => by
          have := VS.idx (c := c) (VS.sl h.tail hok).1 rfl hy
          obtain ⟨b1, o1, i1, g1, _⟩ := this
          have := (hidx3 wr).symm.trans (i1 wr)
          simp only [Result.ok.injEq, Value.pointer.injEq, Option.some.injEq, Addr.mk.injEq, and_true] at this
          rw [this.1, this.2]; exact g1 0 _ rfl
        have f0 := cell hOr
        by_cases hput : done = false ∧ x.toList < y.toList
        · obtain ⟨rfl, hxy⟩ := hput
          have t1 : Op.bytesLess x.toList y.toList = true := by rw [bytesLess_eq]; exact decide_eq_true hxy
          obtain ⟨sl1, hO1, b1⟩ := SlAt.ofLit hOr (Nat.le_trans hB hzr) x hx (cs := #[.string x]) rfl
          have hb1 := hbr.trans b1
          obtain ⟨a6, c6, w6, hr6, hO6, b6⟩ := VS.app 35 hO1 hoo (Nat.le_trans hB hb1.size) (c := 1) sl1 (m := 1) rfl (N := out.length + 1) rfl (by omega)
          have hb6 := hb1.trans b6
          have f6 := cell hO6
          have hoo6 : ∀ z ∈ out ++ [x], rdS.ok z := fun z hz => (List.mem_append.1 hz).elim (hoo z) (fun h => by simp at h; subst h; exact hx)
          obtain ⟨sl2, hO2, b2⟩ := SlAt.ofLit hO6 (Nat.le_trans hB hb6.size) y hyk (cs := #[.string y]) rfl
          have hb2 := hb6.trans b2
          obtain ⟨a7, c7, w7, hr7, hO7, b7⟩ := VS.app 35 hO2 hoo6 (Nat.le_trans hB hb2.size) (c := 1) sl2 (m := 1) rfl (N := out.length + 1 + 1) (by simp) (by omega)
          have hb7 := hb2.trans b7
          have hfin : PutO B (.slice ao ks.length c) ks x l w (ks.length - (j + 1)) (.slice a7 (out.length + 1 + 1) c7) (.bool true) (.int .i64 (j + 1 : Nat)) w7 :=
            ⟨j + 1, true, out ++ [x] ++ [y], a7, c7, by omega, rfl, by simp, rfl, rfl, (hp.put hr hy hxy).next hr hy (by simp), fun z hz => (List.mem_append.1 hz).elim (hoo6 z) (fun h => by simp at h; subst h; exact hyk), hb7, by simpa using hO7⟩
          replace hfin := Hid.mk' hfin
          clear hO1 b1 hb1 hO6 b6 hb6 hO2 b2 hb2 hO7 b7 hb7 sl1 sl2 hp hpl hc4
          go_wp2_with (first | (refine wpList_appRun hr6 rfl rfl rfl rfl rfl ?_; clear hr6) | (refine wpList_appRun hr7 rfl rfl rfl rfl rfl ?_; clear hr7))
          go_roundg (ks.length - (j + 1))
          case rel => exact hfin.out
          case measure => omega
        · obtain ⟨sl2, hO2, b2⟩ := SlAt.ofLit hOr (Nat.le_trans hB hzr) y hyk (cs := #[.string y]) rfl
          have hb2 := hbr.trans b2
          obtain ⟨a7, c7, w7, hr7, hO7, b7⟩ := VS.app 35 hO2 hoo (Nat.le_trans hB hb2.size) (c := 1) sl2 (m := 1) rfl (N := out.length + 1) (by simp) (by omega)
          have hb7 := hb2.trans b7
          have hfin : PutO B (.slice ao ks.length c) ks x l w (ks.length - (j + 1)) (.slice a7 (out.length + 1) c7) (.bool done) (.int .i64 (j + 1 : Nat)) w7 :=
            ⟨j + 1, done, out ++ [y], a7, c7, by omega, rfl, by simp, rfl, rfl, hp.next hr hy (fun hd => by
              have h1 : ¬ x.toList < y.toList := fun h => hput ⟨hd, h⟩
              have h2 : y.toList ≤ x.toList := List.not_lt.1 h1
              rcases List.le_iff_lt_or_eq.1 h2 with h | h
              · exact h
              · exact absurd (str_inj h ▸ List.mem_of_getElem? hy) hxk.out), fun z hz => (List.mem_append.1 hz).elim (hoo z) (fun h => by simp at h; subst h; exact hyk), hb7, by simpa using hO7⟩
          replace hfin := Hid.mk' hfin
          clear hO2 b2 hb2 hO7 b7 hb7 sl2 hp hpl hc4
          cases done with
          | true =>
            go_wp2_with (refine wpList_appRun hr7 rfl rfl rfl rfl rfl ?_; clear hr7)
            go_roundg (ks.length - (j + 1))
            case rel => exact hfin.out
            case measure => omega
          | false =>
            have t1 : Op.bytesLess x.toList y.toList = false := by rw [bytesLess_eq]; exact decide_eq_false (fun h => hput ⟨rfl, h⟩)
            go_wp2_with (refine wpList_appRun hr7 rfl rfl rfl rfl rfl ?_; clear hr7)
            go_roundg (ks.length - (j + 1))
            case rel => exact hfin.out
            case measure => omega
      · obtain rfl : j = ks.length := by omega
        cases done with
        | true =>
          have hO9 := hOr.swap.tail
          replace hp := Hid.mk' hp
          replace hpl := Hid.mk' hpl
          go_wp2_with fail
          go_ret
          exact ⟨out, a5, c5, rfl, hp.out.rising, fun y => (hp.out.mem y).trans (by simp; exact Or.comm), hoo, by have := hpl.out; simp at this; omega, hO9, hbr⟩
        | false =>
          obtain ⟨sl1, hO1, b1⟩ := SlAt.ofLit hOr (Nat.le_trans hB hzr) x hx (cs := #[.string x]) rfl
          have hb1 := hbr.trans b1
          obtain ⟨a6, c6, w6, hr6, hO6, b6⟩ := VS.app 35 hO1 hoo (Nat.le_trans hB hb1.size) (c := 1) sl1 (m := 1) rfl (N := out.length + 1) rfl (by omega)
          have hb6 := hb1.trans b6
          have hp2 := hp.last
          have hO9 := hO6.swap.tail
          replace hp2 := Hid.mk' hp2
          replace hpl := Hid.mk' hpl
          have hlen9 : (out ++ [x]).length = out.length + 1 := by simp
          rw [← hlen9] at hO9
          replace hlen9 := Hid.mk' hlen9
          clear hO1 b1 hb1 hO6 sl1 hp
          go_wp2_with (refine wpList_appRun hr6 rfl rfl rfl rfl rfl ?_; clear hr6)
          go_ret
          exact ⟨out ++ [x], a6, c6, by rw [hlen9.out]; rfl, hp2.out.rising, fun y => (hp2.out.mem y).trans (by simp; exact Or.comm), fun z hz => (List.mem_append.1 hz).elim (hoo z) (fun h => by simp at h; subst h; exact hx), by have := hpl.out; simp at this; rw [hlen9.out]; omega, hO9, hb6⟩
end
end Go.Proofs.Pan
