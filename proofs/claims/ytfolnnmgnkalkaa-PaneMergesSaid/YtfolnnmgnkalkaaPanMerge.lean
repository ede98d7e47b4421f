/- pane: Merge. -/
import Derived.Test.YtfolnnmgnkalkaaPanSim
import Derived.Test.YtfolnnmgnkalkaaCicNe
import Derived.Deep.QuietTactic
import Derived.BigQuiet
import Derived.RegionTactic
import Derived.ChangeAlike
import Derived.BigRegion
namespace Go.Proofs.Pan
open Go.RowKit Go.Cic Go.ChangeMaps
open Go.Maps (Keyed)
set_option linter.unusedVariables false
set_option maxRecDepth 100000
attribute [local go_sem] cE_v
theorem merge_nil (p : Nat) (w : World) : Calls Try.prog 31 #[.pointer (some ⟨p, 0, none⟩), .pointer none] w fun e w' => e = .returned (.bool false) ∧ ∃ m, w' = w.drewN m := by
  go_enter Try.func31, Try.ntmps31
  go_wp2_with fail
  go_quiet (fail)
  go_wp2_with fail
  go_ret
  exact ⟨rfl, _, rfl⟩
theorem merge_other (p q : Nat) (width other : Int) (w : World) (hp : w.cell? ⟨p, 0, none⟩ = some (.int .i64 width)) (hq : w.cell? ⟨q, 0, none⟩ = some (.int .i64 other)) (hne : width ≠ other) :
    Calls Try.prog 31 #[.pointer (some ⟨p, 0, none⟩), .pointer (some ⟨q, 0, none⟩)] w fun e w' => e = .returned (.bool false) ∧ ∃ m, w' = w.drewN m := by
  have t1 : (other != width) = true := by simpa using Ne.symm hne
  have t2 : (other == width) = false := by simpa using Ne.symm hne
  go_enter Try.func31, Try.ntmps31
  go_wp2_with fail
  go_quiet (fail)
  go_wp2_with fail
  go_ret
  exact ⟨rfl, _, rfl⟩
/-- What has been taken in so far. -/
structure MInv (T1 T2 T' L : Tab) : Prop where
  sum : ∀ f, wsum f T' + wsum f L = wsum f T1 + wsum f T2
  pos : ∀ x ∈ T', 1 ≤ x.2
  len : T'.length + L.length ≤ T1.length + T2.length
theorem MInv.start {T1 T2 : Tab} (h : ∀ x ∈ T1, 1 ≤ x.2) : MInv T1 T2 T1 T2 := ⟨fun f => rfl, h, Nat.le_refl _⟩
theorem wsum_one_bd {T : Tab} (hn : (T.map (·.1)).Nodup) {K : Int} (hK : 0 ≤ K) (h : ∀ x ∈ T, 1 ≤ x.2 ∧ x.2 ≤ K) (c : Cell) : 0 ≤ wsum (fun x => if x = c then 1 else 0) T ∧ wsum (fun x => if x = c then 1 else 0) T ≤ K := by
  rw [wsum_at hn]
  cases hg : AL.get T c with
  | none => simp; omega
  | some v => have := h _ (AL.get_mem hg); simp only [Option.getD_some] at this ⊢; omega
theorem MInv.get_bd {T1 T2 T' L : Tab} (h : MInv T1 T2 T' L) (hn : (T'.map (·.1)).Nodup) (h1 : (T1.map (·.1)).Nodup) (h2 : (T2.map (·.1)).Nodup) (hL : (L.map (·.1)).Nodup) {K1 K2 : Int} (k1 : 0 ≤ K1) (k2 : 0 ≤ K2) (b1 : ∀ x ∈ T1, 1 ≤ x.2 ∧ x.2 ≤ K1) (b2 : ∀ x ∈ T2, 1 ≤ x.2 ∧ x.2 ≤ K2) (c : Cell) :
    (AL.get T' c).getD 0 + (AL.get L c).getD 0 ≤ K1 + K2 ∧ 0 ≤ (AL.get T' c).getD 0 := by
  have e := h.sum (fun x => if x = c then 1 else 0)
  have e1 := wsum_one_bd h1 k1 b1 c
  have e2 := wsum_one_bd h2 k2 b2 c
  rw [wsum_at hn, wsum_at hL] at e
  refine ⟨by omega, ?_⟩
  cases hg : AL.get T' c with
  | none => simp
  | some v => have := h.pos _ (AL.get_mem hg); simp only [Option.getD_some] at this ⊢; omega
theorem MInv.step {T1 T2 T' L : Tab} (h : MInv T1 T2 T' L) (hL : (L.map (·.1)).Nodup) {c : Cell} {n : Int} (hc : (c, n) ∈ L) (hn : 1 ≤ n) (h0 : 0 ≤ (AL.get T' c).getD 0) : MInv T1 T2 (AL.put T' c ((AL.get T' c).getD 0 + n)) (AL.del L c) := by
  refine ⟨fun f => ?_, fun x hx => ?_, ?_⟩
  · rw [wsum_put, wsum_del hL hc]; have := h.sum f; omega
  · rcases AL.mem_put hx with rfl | hx
    · simp only; omega
    · exact h.pos x hx
  · have h1 := AL.put_length_le T' c ((AL.get T' c).getD 0 + n)
    have h2 := AL.del_length_lt hc
    have h3 := h.len
    simp only at h2; omega
def MergePost (p bm : Nat) (width added : Int) (T1 T2 : Tab) (w : World) (e : Ending) (w' : World) : Prop :=
  e = .returned (.bool true) ∧ w'.heap[p]? = some (.cells #[.int .i64 width, .int .i64 added, .map (some bm)] 79 (0, 0)) ∧ (∃ T', MapT cE iV w' bm T' ∧ MInv T1 T2 T' []) ∧ Keeps (fun b => b = p ∨ b = bm) w w'
def MLoop (p bm cb rr : Nat) (width added : Int) (T1 T2 : Tab) (w wr : World) : Prop :=
  ∃ T' L, RngT cE iV wr cb rr T2 L ∧ MapT cE iV wr bm T' ∧ MInv T1 T2 T' L ∧ wr.heap[p]? = some (.cells #[.int .i64 width, .int .i64 added, .map (some bm)] 79 (0, 0)) ∧ Keeps (fun b => b = p ∨ b = bm) w wr
set_option maxHeartbeats 2000000 in
theorem merge_any (p bm q bq : Nat) (width a1 a2 : Int) (T1 T2 : Tab) (w : World) (hr : w.heap[p]? = some (.cells #[.int .i64 width, .int .i64 a1, .map (some bm)] 79 (0, 0))) (hq : w.heap[q]? = some (.cells #[.int .i64 width, .int .i64 a2, .map (some bq)] 79 (0, 0)))
    (hM : MapT cE iV w bm T1) (hN : MapT cE iV w bq T2) (n1 : p ≠ bm) (n2 : q ≠ p) (n3 : bq ≠ p) (n4 : bq ≠ bm) (n5 : q ≠ bm) (z1 : 0 ≤ a1) (z2 : 0 ≤ a2) (z3 : a1 + a2 ≤ 10000) (b1 : ∀ x ∈ T1, 1 ≤ x.2 ∧ x.2 ≤ 4000000000000) (b2 : ∀ x ∈ T2, 1 ≤ x.2 ∧ x.2 ≤ 4000000000000) :
    Calls Try.prog 31 #[.pointer (some ⟨p, 0, none⟩), .pointer (some ⟨q, 0, none⟩)] w (MergePost p bm width (a1 + a2) T1 T2 w) := by
  have c0 : w.cell? ⟨p, 0, none⟩ = some (.int .i64 width) := by rw [cell_of hr]; rfl
  have c1 : w.cell? ⟨p, 1, none⟩ = some (.int .i64 a1) := by rw [cell_of hr]; rfl
  have f1 : w.frozen? ⟨p, 1, none⟩ = false := free_of hr _
  have d0 : w.cell? ⟨q, 0, none⟩ = some (.int .i64 width) := by rw [cell_of hq]; rfl
  have d1 : w.cell? ⟨q, 1, none⟩ = some (.int .i64 a2) := by rw [cell_of hq]; rfl
  have hplt := (Array.getElem?_eq_some_iff.1 hr).1
  have hqlt := (Array.getElem?_eq_some_iff.1 hq).1
  have hblt := hM.lt
  have nT1 := hM.nodup
  have nT2 := hN.nodup
  have ok2 := hN.ok
  go_enter Try.func31, Try.ntmps31
  go_wp2_with fail
  go_quiet (fail)
  go_wp2_with fail
  have hk0 : Keeps (fun b => b = p ∨ b = bm) w (w.drewN nq) := ⟨rfl, rfl, rfl, Nat.le_refl _, fun _ _ _ => rfl⟩
  have c1' : (w.drewN nq).cell? ⟨p, 1, none⟩ = some (.int .i64 a1) := c1
  have f1' : (w.drewN nq).frozen? ⟨p, 1, none⟩ = false := f1
  have d1' : (w.drewN nq).cell? ⟨q, 1, none⟩ = some (.int .i64 a2) := d1
  have hr' : (w.drewN nq).heap[p]? = some (.cells #[.int .i64 width, .int .i64 a1, .map (some bm)] 79 (0, 0)) := hr
  have hsz : (w.drewN nq).heap.size = w.heap.size := rfl
  have hsame : ∀ b : Nat, (w.drewN nq).heap[b]? = w.heap[b]? := fun _ => rfl
  generalize w.drewN nq = w1 at *
  go_region
  obtain ⟨w2, hW⟩ : ∃ w2, (w1.setCell ⟨p, 1, none⟩ (.int .i64 (a1 + a2))).drew = w2 := ⟨_, rfl⟩
  have hk2 : Keeps (fun b => b = p ∨ b = bm) w w2 := by rw [← hW]; exact (hk0.setCell (fun _ => .inl rfl) _).drew
  have hr2 : w2.heap[p]? = some (.cells #[.int .i64 width, .int .i64 (a1 + a2), .map (some bm)] 79 (0, 0)) := by rw [← hW]; exact setCell_of (o := 1) hr' _
  have hblk : ∀ b : Nat, b ≠ p → w2.heap[b]? = w.heap[b]? := fun b hb => by
    rw [← hW]
    show (w1.setCell ⟨p, 1, none⟩ _).heap[b]? = _
    rw [Go.RowKit.Below.heap_setCell w1 ⟨p, 1, none⟩ _ b hb]; exact hsame b
  rw [hW]
  have d2 : w2.cell? ⟨q, 2, none⟩ = some (.map (some bq)) := by
    have : w2.heap[q]? = _ := (hblk q n2).trans hq
    rw [cell_of this]; rfl
  have hM2 : MapT cE iV w2 bm T1 := hM.of_block (hblk bm (Ne.symm n1))
  have hN2 : MapT cE iV w2 bq T2 := hN.of_block (hblk bq n3)
  have hz2 := hk2.size
  clear c1' f1' d1' hr' hsz hk0 hsame hW hblk c0 c1 f1 d0 d1 hr hq hM hN
  go_wp2_with fail
  refine (clone_any bq T2 w2 hN2).mono ?_
  rintro e w3 ⟨rfl, ob, rfl, hC⟩
  have hk3 : Keeps (fun b => b = p ∨ b = bm) w (w2.alloc ob) := hk2.alloc ob
  have hr3 : (w2.alloc ob).heap[p]? = some (.cells #[.int .i64 width, .int .i64 (a1 + a2), .map (some bm)] 79 (0, 0)) := by rw [Go.RowKit.Below.heap_alloc w2 ob p (by omega)]; exact hr2
  have hM3 : MapT cE iV (w2.alloc ob) bm T1 := hM2.alloc ob
  have hz3 : (w2.alloc ob).heap.size = w2.heap.size + 1 := World.size_alloc _ _
  generalize hcb : w2.heap.size = cb at *
  generalize w2.alloc ob = w3 at *
  go_wp2_with (at_range; refine wpList_rangeT (E := cE) (V := iV) rfl _ 77 rfl Try.underlying77 rfl hC ?_; intro ob2 hrg0)
  try go_frame
  have hst : MLoop p bm cb w3.heap.size width (a1 + a2) T1 T2 w (w3.alloc ob2) := ⟨T1, T2, hrg0, hM3.alloc _, MInv.start (fun x hx => (b1 x hx).1), by rw [Go.RowKit.Below.heap_alloc w3 ob2 p (by omega)]; exact hr3, hk3.alloc _⟩
  replace hst := Hid.mk' hst
  have hrr : w.heap.size ≤ w3.heap.size ∧ w.heap.size ≤ cb ∧ cb < w3.heap.size := by omega
  generalize w3.heap.size = rr at *
  clear hrg0 hM3 hk3 hr3 hC hk2 hr2 hM2 hN2 d2 hz2 hz3 hcb
  go_loopw [6] (fun _ wr => MLoop p bm cb rr width (a1 + a2) T1 T2 w wr) (fun _ wr => wr.rangeLeft cb rr)
  case atStart => exact hst.out
  case round =>
    clear hst
    obtain ⟨T', L, hrg, hM, hinv, hr, hk⟩ := hrel
    have hsz := hk.size
    replace hinv := Hid.mk' hinv
    go_wp2_with (at_next; refine wpList_nextT (E := cE) (V := iV) rfl _ rfl rfl hrg ?_ ?_)
    · intro hL
      subst hL
      go_wp2_with fail
      go_ret
      exact ⟨rfl, hr, ⟨T', hM, hinv.out⟩, hk⟩
    · intro ck cp n w1 hq hk1 hs1 hrg1 hen
      have hlt := Hid.mk' (AL.del_length_lt hq)
      have hbd := hinv.out.get_bd hM.nodup nT1 nT2 hrg.nodup (by omega) (by omega) b1 b2 (ck, cp)
      have hgL := AL.get_some hrg.nodup hq
      simp only at hgL
      rw [hgL, Option.getD_some] at hbd
      obtain ⟨bd1, bd2⟩ := hbd
      have hn1 := (b2 _ (hrg.sub.subset hq)).1
      simp only at hn1
      have hstep := hinv.out.step hrg.nodup hq hn1 bd2
      have hok : cE.ok (ck, cp) := ok2 _ (hrg.sub.subset hq)
      have hr1 : w1.heap[p]? = some (.cells #[.int .i64 width, .int .i64 (a1 + a2), .map (some bm)] 79 (0, 0)) := (hk1.block p (by omega) (by omega)).trans hr
      have hM1 : MapT cE iV (w1.alloc (.cells #[.string ck, .int .i64 cp] 81)).drew bm T' := ((hM.keeps hk1 (by omega)).alloc _)
      have hkk : Keeps (fun b => b = p ∨ b = bm) w (w1.alloc (.cells #[.string ck, .int .i64 cp] 81)).drew := ((hk.trans hk1 (fun x hx e => by omega)).alloc _).drew
      have hrg2 := (hrg1.alloc (.cells #[.string ck, .int .i64 cp] 81)).drew
      have hr2 : (w1.alloc (.cells #[.string ck, .int .i64 cp] 81)).drew.heap[p]? = some (.cells #[.int .i64 width, .int .i64 (a1 + a2), .map (some bm)] 79 (0, 0)) := by
        show (w1.alloc _).heap[p]? = _
        rw [Go.RowKit.Below.heap_alloc w1 _ p (by omega)]; exact hr1
      have c2 : (w1.alloc (.cells #[.string ck, .int .i64 cp] 81)).cell? ⟨p, 2, none⟩ = some (.map (some bm)) := by
        have : (w1.alloc (.cells #[.string ck, .int .i64 cp] 81)).heap[p]? = _ := hr2
        rw [cell_of this]; rfl
      obtain ⟨ob3, st, he, hM2, hst⟩ := hM1.entry K81 Try.underlying77 (zero2 _) hok
      have hl0 := hM1.lookup K81 Try.underlying77 (zero2 _) hok false
      have hl1 := hM2.lookup K81 Try.underlying77 (zero2 _) hok false
      rw [AL.get_put_same] at hl1
      obtain ⟨v, hv⟩ : ∃ v, (AL.get T' (ck, cp)).getD 0 = v := ⟨_, rfl⟩
      have hv2 : ((AL.get T' (ck, cp)).map iV).getD (.int .i64 0) = .int .i64 v := by
        rw [← hv]; cases AL.get T' (ck, cp) <;> rfl
      rw [hv] at he hM2 hl1 bd1 bd2 hstep
      rw [hv2] at hl0
      obtain ⟨ob4, hs, hM3⟩ := hM2.entryStore (t := 77) hst (v + n)
      simp only [Bool.false_eq_true, if_false, cE_v, Option.map_some, Option.getD_some] at he hl0 hl1 hs
      simp only [goInt] at hs he
      rw [AL.put_put] at hM3
      have hfin : MLoop p bm cb rr width (a1 + a2) T1 T2 w (setBlock (setBlock (w1.alloc (.cells #[.string ck, .int .i64 cp] 81)).drew bm ob3) bm ob4) :=
        ⟨_, _, (hrg2.keeps ((Keeps.refl (· = bm) _).setBlock (fun _ => rfl) ob3) (by omega) (by omega)).keeps ((Keeps.refl (· = bm) _).setBlock (fun _ => rfl) ob4) (by omega) (by omega), hM3, hstep, by rw [setBlock_other _ _ _ n1, setBlock_other _ _ _ n1]; exact hr2, (hkk.setBlock (fun _ => .inr rfl) _).setBlock (fun _ => .inr rfl) _⟩
      have hleft : (setBlock (setBlock (w1.alloc (.cells #[.string ck, .int .i64 cp] 81)).drew bm ob3) bm ob4).rangeLeft cb rr < wr.rangeLeft cb rr := by
        rw [((hrg2.keeps ((Keeps.refl (· = bm) _).setBlock (fun _ => rfl) ob3) (by omega) (by omega)).keeps ((Keeps.refl (· = bm) _).setBlock (fun _ => rfl) ob4) (by omega) (by omega)).left, hrg.left]
        exact hlt.out
      replace hfin := Hid.mk' hfin
      replace hleft := Hid.mk' hleft
      clear hM3 hM2 hst hM1 hv hv2 hstep hr1 hr2 hkk hrg2 hgL hok
      have ew : IntKind.i64.wrap (v + n) = v + n := IntWalk.i64_in _ (by omega)
      go_wp2_with fail
      go_region_with (fail)
      all_goals go_wp2
      all_goals
        go_roundw
        case rel => exact hfin.out
        case measure => exact hleft.out
/-- Two tables and two lists, put together. -/
theorem Sim.merge {T1 T2 T' : Tab} {L1 L2 : List Sm} {c1 c2 : Int} {k1 k2 : Nat} (h1 : Sim T1 L1 c1 k1) (h2 : Sim T2 L2 c2 k2) (hn : (T'.map (·.1)).Nodup) (hi : MInv T1 T2 T' []) : Sim T' (L1 ++ L2) (c1 + c2) (k1 + k2) := by
  have hsum : ∀ f, wsum f T' = wsum f T1 + wsum f T2 := fun f => by have := hi.sum f; simpa [wsum] using this
  refine ⟨hn, ?_, fun x hx => ⟨hi.pos x hx, ?_⟩, ?_, fun s hs => (List.mem_append.1 hs).elim (h1.lval s) (h2.lval s), fun s hs => (List.mem_append.1 hs).elim (h1.lok s) (h2.lok s), ?_, ?_, fun f => ?_⟩
  · have := hi.len; have a := h1.len; have b := h2.len; simp at this; omega
  · have hb := hi.get_bd hn h1.nd h2.nd (by simp) (K1 := k1 * 1048576) (K2 := k2 * 1048576) (by omega) (by omega) h1.val h2.val x.1
    rw [AL.get_some hn hx] at hb
    simp only [Option.getD_some, AL.get, Option.getD_none] at hb
    push_cast; rw [Int.add_mul]; omega
  · have a := h1.llen; have b := h2.llen; simp; omega
  · have a := h1.c0; have b := h2.c0; omega
  · have a := h1.c1; have b := h2.c1; push_cast; omega
  · rw [hsum, h1.sum, h2.sum]; simp [lsum]
theorem merge_own {B p q k1 k2 : Nat} {width c1 c2 : Int} {T1 T2 : Tab} {L1 L2 : List Sm} {l : List Asrt} {w : World} (hO : Owns B (PanA p width c1 T1 :: PanA q width c2 T2 :: l) w) (hB : B ≤ w.heap.size) (hS1 : Sim T1 L1 c1 k1) (hS2 : Sim T2 L2 c2 k2) (hk1 : k1 ≤ 1000) (hk2 : k2 ≤ 1000) :
    Calls Try.prog 31 #[.pointer (some ⟨p, 0, none⟩), .pointer (some ⟨q, 0, none⟩)] w fun e w' => e = .returned (.bool true) ∧ (∃ T', Sim T' (L1 ++ L2) (c1 + c2) (k1 + k2) ∧ Owns B (PanA p width (c1 + c2) T' :: PanA q width c2 T2 :: l) w') ∧ Below B w w' := by
  obtain ⟨bm, h1⟩ := pan_iff.1 hO
  obtain ⟨bq, h2⟩ := pan_iff.1 (h1.front 2 _ rfl)
  -- cells q, map bq, cells p, map bm
  have n1 : p ≠ bm := (h1).ne_cm
  have n2 : q ≠ p := (h2.front 2 _ rfl).swap.tail.perm (List.Perm.refl _) |> fun _ => by
    have := (h2.perm (List.Perm.cons _ (List.Perm.swap _ _ _)))
    exact this.ne_cc
  have n3 : bq ≠ p := fun e => (h2.tail.swap.ne_cm) e.symm
  have n4 : bq ≠ bm := by
    have := h2.tail.perm (List.Perm.cons _ (List.Perm.swap _ _ _))
    exact this.ne_mm
  have n5 : q ≠ bm := by
    have h3 := (h2.front 3 _ rfl).swap
    exact h3.ne_cm
  have hr := h1.cellsE.1
  have hM := h1.tail.mapE.1
  have hq := h2.cellsE.1
  have hN := h2.tail.mapE.1
  have b1 : ∀ x ∈ T1, 1 ≤ x.2 ∧ x.2 ≤ 4000000000000 := fun x hx => by have := hS1.val x hx; omega
  have b2 : ∀ x ∈ T2, 1 ≤ x.2 ∧ x.2 ≤ 4000000000000 := fun x hx => by have := hS2.val x hx; omega
  have z1 := hS1.c0; have z2 := hS2.c0; have z3 := hS1.c1; have z4 := hS2.c1
  refine (merge_any p bm q bq width c1 c2 T1 T2 w hr hq hM hN n1 n2 n3 n4 n5 z1 z2 (by omega) b1 b2).mono ?_
  rintro e w' ⟨rfl, hr', ⟨T', hM', hi⟩, hk⟩
  obtain ⟨h3, h4⟩ := h1.step_cm hB hr' hM' hk
  exact ⟨rfl, ⟨T', hS1.merge hS2 hM'.nodup hi, pan_iff.2 ⟨bm, h3⟩⟩, h4⟩
end Go.Proofs.Pan
