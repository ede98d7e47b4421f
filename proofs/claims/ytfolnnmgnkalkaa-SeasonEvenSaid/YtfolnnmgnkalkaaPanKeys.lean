/- pane: Keys. -/
import Derived.Test.YtfolnnmgnkalkaaPanSum
import Derived.Test.YtfolnnmgnkalkaaPanIter
import Derived.Test.YtfolnnmgnkalkaaCicKeys
namespace Go.Proofs.Pan
open Go.RowKit Go.Cic Go.ChangeMaps
open Go.Maps (Keyed)
set_option linter.unusedVariables false
set_option maxRecDepth 100000
attribute [local go_sem] cE_v
def sE : Enc Try.prog 9 ByteArray := strEnc Try.underlying9
theorem sE_v (s : ByteArray) : sE.v s = .string s := rfl
theorem K9 : Keyed Try.prog 9 := Go.Maps.string_keyed Try.underlying9
abbrev bV : Bool → Value := Value.bool
/-- Which keys have something there. -/
def HasIn (first last : Int) (T : Tab) (k : ByteArray) : Prop := ∃ c n, (c, n) ∈ T ∧ c.1 = k ∧ first ≤ c.2 ∧ c.2 < last
/-- What has been seen. -/
def Seen (first last : Int) (T L : Tab) (S : List (ByteArray × Bool)) : Prop := (∀ k, k ∈ S.map (·.1) ↔ ∃ c n, (c, n) ∈ T ∧ (c, n) ∉ L ∧ c.1 = k ∧ first ≤ c.2 ∧ c.2 < last) ∧ S.length + L.length ≤ T.length
theorem Seen.start (first last : Int) (T : Tab) : Seen first last T T [] := ⟨fun k => by
  constructor
  · intro h; simp at h
  · rintro ⟨c, n, h1, h2, _⟩; exact absurd h1 h2, by simp⟩
theorem Seen.done {first last : Int} {T : Tab} {S : List (ByteArray × Bool)} (h : Seen first last T [] S) (k : ByteArray) : k ∈ S.map (·.1) ↔ HasIn first last T k := by
  rw [h.1]; unfold HasIn
  constructor
  · rintro ⟨c, n, h1, _, h2⟩; exact ⟨c, n, h1, h2⟩
  · rintro ⟨c, n, h1, h2⟩; exact ⟨c, n, h1, by simp, h2⟩
theorem not_mem_del {L : Tab} {c x : Cell} {n m : Int} (hn : (L.map (·.1)).Nodup) (hc : (x, m) ∈ L) : (c, n) ∉ AL.del L x ↔ (c, n) ∉ L ∨ c = x := by
  unfold AL.del
  rw [List.mem_filter]
  by_cases h : c = x <;> simp [h]
theorem nodup_val {T : Tab} (hn : (T.map (·.1)).Nodup) {c : Cell} {n m : Int} (h1 : (c, n) ∈ T) (h2 : (c, m) ∈ T) : n = m := by
  have e1 := AL.get_some hn h1
  have e2 := AL.get_some hn h2
  simp only at e1 e2
  rw [e1] at e2; injection e2
theorem Seen.skip {first last : Int} {T L : Tab} {S : List (ByteArray × Bool)} (h : Seen first last T L S) (hT : (T.map (·.1)).Nodup) (hs : L.Sublist T) {ck : ByteArray} {cp n : Int} (hq : ((ck, cp), n) ∈ L) (ho : ¬ (first ≤ cp ∧ cp < last)) : Seen first last T (AL.del L (ck, cp)) S := by
  have hlt := AL.del_length_lt hq
  refine ⟨fun k => ?_, by have := h.2; simp only at hlt; omega⟩
  rw [h.1]
  constructor
  · rintro ⟨c, m, h1, h2, h3⟩; exact ⟨c, m, h1, (not_mem_del ((hs.map _).nodup hT) hq).2 (.inl h2), h3⟩
  · rintro ⟨c, m, h1, h2, h3, h4⟩
    rcases (not_mem_del ((hs.map _).nodup hT) hq).1 h2 with h5 | h5
    · exact ⟨c, m, h1, h5, h3, h4⟩
    · subst h5; exact absurd h4 ho
theorem Seen.put {first last : Int} {T L : Tab} {S : List (ByteArray × Bool)} (h : Seen first last T L S) (hT : (T.map (·.1)).Nodup) (hs : L.Sublist T) {ck : ByteArray} {cp n : Int} (hq : ((ck, cp), n) ∈ L) (h1 : first ≤ cp) (h2 : cp < last) (b : Bool) : Seen first last T (AL.del L (ck, cp)) (AL.put S ck b) := by
  have hlt := AL.del_length_lt hq
  have hle := AL.put_length_le S ck b
  refine ⟨fun k => ?_, by have := h.2; simp only at hlt; omega⟩
  have hm : k ∈ (AL.put S ck b).map (·.1) ↔ k = ck ∨ k ∈ S.map (·.1) := by
    rw [AL.put_keys]
    split
    · rename_i hin; exact ⟨.inr, fun e => e.elim (fun e => e ▸ hin) id⟩
    · rw [List.mem_append, List.mem_singleton]; exact Or.comm
  rw [hm, h.1]
  constructor
  · rintro (rfl | ⟨c, m, g1, g2, g3⟩)
    · exact ⟨(k, cp), n, hs.subset hq, (not_mem_del ((hs.map _).nodup hT) hq).2 (.inr rfl), rfl, h1, h2⟩
    · exact ⟨c, m, g1, (not_mem_del ((hs.map _).nodup hT) hq).2 (.inl g2), g3⟩
  · rintro ⟨c, m, g1, g2, g3, g4⟩
    rcases (not_mem_del ((hs.map _).nodup hT) hq).1 g2 with h5 | h5
    · exact .inr ⟨c, m, g1, h5, g3, g4⟩
    · subst h5; exact .inl g3.symm
def KLoop (bm rr : Nat) (first last : Int) (T : Tab) (w wr : World) : Prop := ∃ L S, RngT cE iV wr bm rr T L ∧ MapT sE bV wr w.heap.size S ∧ Below w.heap.size w wr ∧ Seen first last T L S
def KeysPost (first last : Int) (T : Tab) (w : World) (e : Ending) (w' : World) : Prop := ∃ (ks : List ByteArray) (v : Value), e = .returned v ∧ Rising ks ∧ (∀ k, k ∈ ks ↔ HasIn first last T k) ∧ ks.length ≤ T.length ∧ w'.ownsRow w.heap.size 9 1 v (ks.map Value.string).length (ks.map Value.string) ∧ Below w.heap.size w w'
set_option maxHeartbeats 1000000 in
theorem keys_any (p bm : Nat) (width added : Int) (from_ to_ : Int) (T : Tab) (w : World) (hr : w.heap[p]? = some (.cells #[.int .i64 width, .int .i64 added, .map (some bm)] 79 (0, 0))) (hM : MapT cE iV w bm T) (hTl : T.length ≤ 4294967296)
    (hw1 : 1 ≤ width) (hw2 : width ≤ 1099511627776) (h1 : -9223372036854775808 ≤ from_) (h2 : from_ ≤ 9223372036854775807) (h3 : -9223372036854775808 ≤ to_) (h4 : to_ ≤ 9223372036854775807) :
    Calls Try.prog 24 #[.pointer (some ⟨p, 0, none⟩), .int .i64 from_, .int .i64 to_] w (KeysPost (pn width from_) (pn width to_) T w) := by
  have c0 : w.cell? ⟨p, 0, none⟩ = some (.int .i64 width) := by rw [cell_of hr]; rfl
  have hbm := hM.lt
  have hp : p < w.heap.size := (Array.getElem?_eq_some_iff.1 hr).1
  have hmm := @run_makeMap Try.prog
  have c2 : (w.alloc (.map #[] 0)).cell? ⟨p, 2, none⟩ = some (.map (some bm)) := by rw [alloc_cell _ _ (p := ⟨p, 2, none⟩) hp, cell_of hr]; rfl
  have hM1 := hM.alloc (.map #[] 0)
  have hS0 : MapT sE bV (w.alloc (.map #[] 0)) w.heap.size ([] : List (ByteArray × Bool)) := MapT.made sE bV w
  have hTn := hM.nodup
  have hTok := hM.ok
  obtain ⟨first, hfi⟩ : ∃ x, Hid (pn width from_ = x) := ⟨_, rfl⟩
  obtain ⟨last, hla⟩ : ∃ x, Hid (pn width to_ = x) := ⟨_, rfl⟩
  have hpost : Hid (KeysPost (pn width from_) (pn width to_) T w = KeysPost first last T w) := by rw [hfi.out, hla.out]; exact Hid.mk' rfl
  rw [hpost.out]
  clear hpost
  go_enter Try.func24, Try.ntmps24
  go_wp2_with fail
  refine (pane_any p width from_ _ c0 hw1 hw2 h1 h2).mono ?_
  rintro e w' ⟨rfl, rfl⟩
  rw [hfi.out]
  go_wp2_with fail
  refine (pane_any p width to_ _ c0 hw1 hw2 h3 h4).mono ?_
  rintro e w' ⟨rfl, rfl⟩
  rw [hla.out]
  go_wp2_with (at_range; refine wpList_rangeT (E := cE) (V := iV) rfl _ 77 rfl Try.underlying77 rfl hM1 ?_; intro ob hrg0)
  try go_frame
  have hS1 := hS0.alloc ob
  have hb1 : Below w.heap.size w ((w.alloc (.map #[] 0)).alloc ob) := ((Below.refl _ _).alloc (Nat.le_refl _) _).alloc (by simp) _
  clear hS0 hM1 c2 hmm
  have hrr0 : (w.alloc (.map #[] 0)).heap.size = w.heap.size + 1 := World.size_alloc _ _
  generalize (w.alloc (.map #[] 0)).heap.size = rr at hrg0 hrr0 ⊢
  have hrr : w.heap.size < rr := by omega
  clear hrr0
  go_loopw [10] (fun _ wr => KLoop bm rr first last T w wr) (fun _ wr => wr.rangeLeft bm rr)
  case atStart => exact ⟨T, [], hrg0, hS1, hb1, Seen.start first last T⟩
  case round =>
    obtain ⟨L, S, hrg, hS, hbl, hsn⟩ := hrel
    replace hsn := Hid.mk' hsn
    have hsz := hbl.size
    go_wp2_with (at_next; refine wpList_nextT (E := cE) (V := iV) rfl _ rfl rfl hrg ?_ ?_)
    · intro hL
      subst hL
      obtain ⟨D0, R, nn, hown, hperm, hsize⟩ := MapT.keysOwn Try.underlying9 hS (by have := hsn.out.2; unfold maxLen; simp at this; omega)
      have hbd : S.length ≤ 4294967296 := by have := hsn.out.2; simp at this; omega
      replace hsize := Hid.mk' hsize
      go_wp2_with fail
      refine (callsIn_wide.1 (maps_Keys_50 (some w.heap.size) wr)).mono ?_
      rintro e w1 ⟨rfl, rfl⟩
      go_wp2_with fail
      refine (callsIn_wide.1 (slices_Sorted_keys_49_50 w.heap.size nn D0 R wr hown (by rw [hsize.out]; unfold maxLen; omega) (by rw [hsize.out]; omega))).mono ?_
      rintro e w2 ⟨v, ss, rfl, hss, hrow, _, hb2⟩
      have hpp : ss.Perm ((S.map (·.1)).map fun s => s.data.toList) := hss.trans (by rw [List.map_map]; exact hperm)
      obtain ⟨ks, hk1, hk2, hk3, hk4⟩ := sorted_texts hpp hS.nodup
      have hb3 : Below w.heap.size w w2 := (hbl.alloc hsz _).trans (hb2.mono (by simp; omega))
      have hrow2 : w2.ownsRow w.heap.size 9 1 v (ks.map Value.string).length (ks.map Value.string) := by
        rw [hk1] at hrow
        have hl : ss.length = (ks.map Value.string).length := by rw [List.length_map, hk4, hpp.length_eq, List.length_map]
        rw [hl] at hrow
        refine ⟨hrow.1, ?_⟩
        rcases hrow.2 with hn | ⟨g, cap, cur, rfl, hg, r⟩
        · exact .inl hn
        · exact .inr ⟨g, cap, cur, rfl, by simp at hg; omega, r⟩
      have hfin : KeysPost first last T w (.returned v) w2 := ⟨ks, v, rfl, hk2, fun k => (hk3 k).trans (hsn.out.done k), by rw [hk4, List.length_map]; have := hsn.out.2; simp at this; omega, hrow2, hb3⟩
      replace hfin := Hid.mk' hfin
      clear hrow hrow2 hss hperm hpp hk1 hk2 hk3 hk4 hown
      go_wp2_with fail
      go_ret
      exact hfin.out
    · intro ck cp n w1 hq hk1 hs1 hrg1 hen
      have hlt := Hid.mk' (AL.del_length_lt hq)
      have hbl1 : Below w.heap.size w w1 := hbl.trans (hk1.below hsz (by omega))
      have hS2 : MapT sE bV (w1.alloc (.cells #[.string ck, .int .i64 cp] 81)) w.heap.size S := (hS.keeps hk1 (by omega)).alloc _
      have hok : sE.ok ck := (hTok _ (hrg.sub.subset hq)).1
      by_cases hc : first ≤ cp ∧ cp < last
      · obtain ⟨q2, q3⟩ := hc
        have hin := Hid.mk' (hsn.out.put hTn hrg.sub hq q2 q3 true)
        go_wp2_with (refine wpList_updateT (E := sE) (V := bV) rfl _ _ _ 83 rfl K9 Try.underlying83 rfl hS2 ck rfl hok true rfl ?_; intro ob2 hS3)
        go_roundw
        case rel => exact ⟨AL.del L (ck, cp), AL.put S ck true, (hrg1.alloc _).keeps (keeps_setBlock _ _ ob2) (by omega) (by omega), hS3, (hbl1.alloc (by omega) _).trans ((keeps_setBlock _ w.heap.size ob2).below (by simp; omega) (fun b hb => by omega)), hin.out⟩
        case measure => rw [((hrg1.alloc _).keeps (keeps_setBlock _ _ ob2) (by omega) (by omega)).left, hrg.left]; exact hlt.out
      · have hin := Hid.mk' (hsn.out.skip hTn hrg.sub hq hc)
        go_wp2
        all_goals first
          | (exfalso; exact hc ⟨by assumption, by assumption⟩)
          | (go_roundw
             case rel => exact ⟨AL.del L (ck, cp), S, hrg1.alloc _, hS2, hbl1.alloc (by omega) _, hin.out⟩
             case measure => rw [(hrg1.alloc _).left, hrg.left]; exact hlt.out)
theorem keys_own {B p : Nat} {width added : Int} {T : Tab} {l : List Asrt} {w : World} (from_ to_ : Int) (hO : Owns B (PanA p width added T :: l) w) (hB : B ≤ w.heap.size) (hTl : T.length ≤ 4294967296) (hw1 : 1 ≤ width) (hw2 : width ≤ 1099511627776)
    (h1 : -9223372036854775808 ≤ from_) (h2 : from_ ≤ 9223372036854775807) (h3 : -9223372036854775808 ≤ to_) (h4 : to_ ≤ 9223372036854775807) :
    Calls Try.prog 24 #[.pointer (some ⟨p, 0, none⟩), .int .i64 from_, .int .i64 to_] w fun e w' => ∃ (ks : List ByteArray) (ao : Option Addr) (c : Nat), e = .returned (.slice ao ks.length c) ∧ Rising ks ∧ (∀ k, k ∈ ks ↔ HasIn (pn width from_) (pn width to_) T k) ∧ ks.length ≤ T.length ∧
      Owns B (Asrt.row 9 (.slice ao ks.length c) (ks.map Value.string) :: PanA p width added T :: l) w' ∧ Below B w w' := by
  obtain ⟨bm, h⟩ := pan_iff.1 hO
  refine (keys_any p bm width added from_ to_ T w h.cellsE.1 h.swap.mapE.1 hTl hw1 hw2 h1 h2 h3 h4).mono ?_
  rintro e w' ⟨ks, v, rfl, k1, k2, k3, k4, hb⟩
  have h5 := hO.newRow hB k4 (Nat.le_refl _) hb
  obtain ⟨ao, c, rfl, _⟩ := h5.rowE
  rw [List.length_map] at h5
  exact ⟨ks, ao, c, by rw [List.length_map], k1, k2, k3, h5, hb.mono hB⟩
end Go.Proofs.Pan
