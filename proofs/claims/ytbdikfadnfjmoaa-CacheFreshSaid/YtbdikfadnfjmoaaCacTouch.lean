/- cache: Touch. -/
import Derived.Test.YtbdikfadnfjmoaaCacGet
namespace Go.Proofs.Cac
open Go.RowKit Go.Cic Go.ChangeMaps
open Go.Maps (Keyed)
set_option linter.unusedVariables false
set_option maxRecDepth 100000
/-- Does a key's entry hang on one of these? -/
def hitK (C : Tab) (deps : List ByteArray) (y : ByteArray) : Bool := ((AL.get C y).map fun c => c.2.any (hitB deps)).getD false
def tStep (deps : List ByteArray) (s : List ByteArray × Tab × Nat) (y : ByteArray) : List ByteArray × Tab × Nat :=
  if hitK s.2.1 deps y then (s.1.filter (nk y), AL.del s.2.1 y, s.2.2 + 1) else s
def tAll (deps ks : List ByteArray) (C : Tab) : List ByteArray × Tab × Nat := ks.foldl (tStep deps) (ks, C, 0)
theorem tAll_len (deps : List ByteArray) : ∀ (ys : List ByteArray) (s : List ByteArray × Tab × Nat), (ys.foldl (tStep deps) s).1.length ≤ s.1.length ∧ (ys.foldl (tStep deps) s).2.2 ≤ s.2.2 + ys.length
  | [], s => ⟨Nat.le_refl _, Nat.le_refl _⟩
  | y :: ys, s => by
    have ih := tAll_len deps ys (tStep deps s y)
    have h1 : (tStep deps s y).1.length ≤ s.1.length ∧ (tStep deps s y).2.2 ≤ s.2.2 + 1 := by
      unfold tStep; split
      · exact ⟨List.length_filter_le _ _, Nat.le_refl _⟩
      · exact ⟨Nat.le_refl _, by omega⟩
    rw [List.foldl_cons, List.length_cons]
    omega
theorem tAll_sub (deps : List ByteArray) : ∀ (ys : List ByteArray) (s : List ByteArray × Tab × Nat) (x : ByteArray × Ent), x ∈ (ys.foldl (tStep deps) s).2.1 → x ∈ s.2.1
  | [], s, x, h => h
  | y :: ys, s, x, h => by
    have h1 := tAll_sub deps ys (tStep deps s y) x h
    unfold tStep at h1
    split at h1
    · exact (List.mem_filter.1 h1).1
    · exact h1
theorem field59 (s : ByteArray) (ab : Option Addr) (m cs : Nat) (W : World) : (Instr.field 59 (.agg #[.string s, .slice ab m cs]) 1).run Try.prog W = .ok (.slice ab m cs) W := by kernel_rfl
def Under (B p : Nat) (size : Int) (deps ks : List ByteArray) (C : Tab) (l : List Asrt) (ac : Option Addr) (cc : Nat) (ad : Option Addr) (nd cd bx k : Nat) (wr : World) : Prop :=
  Owns B (CacA p size ((ks.take k).foldl (tStep deps) (ks, C, 0)).1 ((ks.take k).foldl (tStep deps) (ks, C, 0)).2.1 :: Asrt.row 9 (.slice ac ks.length cc) (sv ks) :: Asrt.cells bx #[.slice ad nd cd] 27 :: l) wr
theorem take_step {deps ks : List ByteArray} {C : Tab} {k : Nat} {y : ByteArray} (hy : ks[k]? = some y) : (ks.take (k + 1)).foldl (tStep deps) (ks, C, 0) = tStep deps ((ks.take k).foldl (tStep deps) (ks, C, 0)) y := by
  rw [List.take_add_one, hy, List.foldl_append]; rfl
set_option maxHeartbeats 1000000 in
theorem touch_own {B p : Nat} {size : Int} {ks : List ByteArray} {C : Tab} {l : List Asrt} {w : World} (ad : Option Addr) (nd cd : Nat) (deps : List ByteArray) (hO : Owns B (CacA p size ks C :: l) w) (hB : B ≤ w.heap.size) (hk : ks.length ≤ 4294967295) (hks : ∀ k ∈ ks, k.size ≤ maxLen)
    (hld : ∀ c ∈ C, c.2.2.length ≤ 4294967296) (hd : ∀ W, Below B w W → Owns B l W → Lies W ad (sv deps)) (hnd : deps.length = nd) (hl : nd ≤ 4294967296) :
    Calls Try.prog 13 #[.pointer (some ⟨p, 0, none⟩), .slice ad nd cd] w fun e w' => e = .returned (.int .i64 (tAll deps ks C).2.2) ∧ Owns B (CacA p size (tAll deps ks C).1 (tAll deps ks C).2.1 :: l) w' ∧ Below B w w' := by
  have hbx := (hO.alloc_cells hB #[.slice ad nd cd] 27).swap
  have bb := (Below.refl B w).alloc hB (.cells #[.slice ad nd cd] 27)
  have hzb := Nat.le_trans hB bb.size
  obtain ⟨bm, v, h⟩ := cac_iff.1 hbx
  have hp := h.cellsE.1
  obtain ⟨ao, cap, rfl, _, hL, _⟩ := h.swap.rowE
  rw [sv_len] at hp
  have c2 : (w.alloc (.cells #[.slice ad nd cd] 27)).cell? ⟨p, 2, none⟩ = some (.slice ao ks.length cap) := by rw [cell_of hp]; rfl
  have hcl := clone_own hbx hzb ao ks.length cap ks hL rfl (by omega)
  have hlen : ∀ k, ((ks.take k).foldl (tStep deps) (ks, C, 0)).1.length ≤ ks.length ∧ ((ks.take k).foldl (tStep deps) (ks, C, 0)).2.2 ≤ ks.length := fun k => by
    have := tAll_len deps (ks.take k) (ks, C, 0)
    have := (List.take_sublist k ks).length_le
    have e0 : (ks, C, 0).1.length = ks.length := rfl
    rw [e0] at *
    have e1 : ((ks, C, 0) : List ByteArray × Tab × Nat).2.2 = 0 := rfl
    omega
  have hsub : ∀ k x, x ∈ ((ks.take k).foldl (tStep deps) (ks, C, 0)).2.1 → x ∈ C := fun k x hx => tAll_sub deps (ks.take k) (ks, C, 0) x hx
  clear h hp hL hO
  have hf59 := field59
  go_enter Try.func13, Try.ntmps13
  go_wp2_with fail
  refine hcl.mono ?_
  rintro e w1 ⟨ac, cc, rfl, h1, hb1⟩
  have hU : Under B p size deps ks C l ac cc ad nd cd w.heap.size 0 w1 := h1.swap
  have hB1 : Below B w w1 := bb.trans hb1
  have hbxB : B ≤ w.heap.size := hB
  clear h1 hbx hcl c2 bb hzb hb1
  generalize w.heap.size = bx at hU hbxB
  go_wp2_with fail
  go_loopw [5, 15] (fun g i wr => ∃ k : Nat, k ≤ ks.length ∧ i = .int .i64 k ∧ g = .int .i64 ((ks.take k).foldl (tStep deps) (ks, C, 0)).2.2 ∧ Under B p size deps ks C l ac cc ad nd cd bx k wr ∧ Below B w wr) (fun _ i _ => ks.length - (intOf i).toNat)
  case atStart => exact ⟨0, Nat.zero_le _, rfl, rfl, hU, hB1⟩
  case round =>
    obtain ⟨k, hkn, rfl, rfl, hUr, hbr⟩ := hrel
    have hzr : B ≤ wr.heap.size := Nat.le_trans (by simpa using hB) hbr.size
    by_cases hlt : k < ks.length
    · have hy : ks[k]? = some (ks[k]) := List.getElem?_eq_getElem hlt
      generalize ks[k] = y at hy
      have hstep := take_step (deps := deps) (C := C) hy
      have hl1 := hlen k
      have hsb := hsub k
      unfold Under at hUr
      generalize (ks.take k).foldl (tStep deps) (ks, C, 0) = s at *
      obtain ⟨sk, sC, sg⟩ := s
      simp only at hUr hl1 hsb
      have hrow := hUr.front 1 _ rfl
      have hdr := hd wr hbr (hUr.tail.tail.tail)
      have hcb : wr.cell? ⟨bx, 0, none⟩ = some (.slice ad nd cd) := by rw [cell_of (hUr.front 2 _ rfl).cellsE.1]; rfl
      obtain ⟨bm', v', h⟩ := cac_iff.1 hUr
      have cp1 : wr.cell? ⟨p, 1, none⟩ = some (.map (some bm')) := by rw [cell_of h.cellsE.1]; rfl
      have hok : sE.ok y := hks y (List.mem_of_getElem? hy)
      have hLr := hrow.rowLies.1
      have hsy := sv_at hy
      have hkl : (sv ks).length = ks.length := sv_len ks
      replace hy := Hid.mk' hy
      replace hstep := Hid.mk' hstep
      cases hg : AL.get sC y with
      | none =>
        obtain ⟨T, R, hT, _, hTg, _⟩ := (h.front 2 _ rfl).over
        have hTn := (hTg y).2 hg
        have hM := hT.mapE.1
        have hh : tStep deps (sk, sC, sg) y = (sk, sC, sg) := by unfold tStep hitK; simp [hg]
        have hst := Hid.mk' (hstep.out.trans hh)
        replace hg := Hid.mk' hg
        have hcf := containsFunc_any bx ad nd cd deps none 0 0 [] wr hcb hdr hnd hl (Lies.nil _ _) rfl (by omega)
        simp only [List.any_nil] at hcf
        clear h hh hstep hdr
        go_wp2_with (first | (refine wpList_idx rfl _ _ 27 rfl Try.underlying27 size9 rfl (k := k) rfl hLr hkl hsy ?_; intro b q hc hbb) | (refine wpList_lookupN rfl _ _ 54 rfl K9 Try.underlying54 rfl hM (zero59 _) y rfl hok hTn ?_))
        refine hcf.mono ?_
        rintro e w2 ⟨rfl, q2⟩
        go_wp2_with fail
        go_roundw
        case rel => exact ⟨k + 1, by omega, by go_num, by rw [hst.out], by unfold Under; rw [hst.out]; exact hUr.keep q2, hbr.trans (q2.mono hzr)⟩
        case measure => simp [intOf]; omega
      | some c =>
        obtain ⟨x, T, R, hT, hTs, _, _⟩ := (h.front 2 _ rfl).focus hg
        obtain ⟨hx, hro⟩ := Owns.fact_iff.1 (Owns.star_iff.1 (hT.front 1 _ rfl))
        obtain ⟨ab, cs, hx2, _, hLx, _⟩ := hro.rowE
        have hVx : eV x = .agg #[.string c.1, .slice ab (sv c.2).length cs] := by unfold eV; rw [hx, hx2]
        have hM := hT.mapE.1
        have hcl : c.2.length ≤ 4294967296 := hld _ (hsb _ (AL.get_mem hg))
        have hcf := containsFunc_any bx ad nd cd deps ab (sv c.2).length cs c.2 wr hcb hdr hnd hl hLx (sv_len _).symm (by rw [sv_len]; exact hcl)
        by_cases hany : c.2.any (hitB deps) = true
        · have hh : tStep deps (sk, sC, sg) y = (sk.filter (nk y), AL.del sC y, sg + 1) := by unfold tStep hitK; simp [hg, hany]
          have hst := Hid.mk' (hstep.out.trans hh)
          rw [hany] at hcf
          replace hg := Hid.mk' hg
          clear h hh hstep hdr hany hx hx2 hcl hro
          generalize (sv c.2).length = m at *
          go_wp2_with (first | (refine wpList_idx rfl _ _ 27 rfl Try.underlying27 size9 rfl (k := k) rfl hLr hkl hsy ?_; intro b q hc hbb) | (refine wpList_lookupS rfl _ _ 54 rfl K9 Try.underlying54 rfl hM (zero59 _) y rfl hok hTs ?_; simp only [hVx]))
          refine hcf.mono ?_
          rintro e w2 ⟨rfl, q2⟩
          have hU2 := hUr.keep q2
          have hdr2 := drop_own y hU2 (Nat.le_trans hzr q2.size) (by omega) hok
          go_wp2_with fail
          refine hdr2.mono ?_
          rintro e w3 ⟨rfl, h3, hb3⟩
          go_wp2_with fail
          go_roundw
          case rel => exact ⟨k + 1, by omega, by go_num, by rw [hst.out]; go_num, by unfold Under; rw [hst.out]; exact h3, (hbr.trans (q2.mono hzr)).trans hb3⟩
          case measure => simp [intOf]; omega
        · have hany' : c.2.any (hitB deps) = false := by simpa using hany
          have hh : tStep deps (sk, sC, sg) y = (sk, sC, sg) := by unfold tStep hitK; simp only [hg, Option.map_some, Option.getD_some, hany']; rfl
          have hst := Hid.mk' (hstep.out.trans hh)
          rw [hany'] at hcf
          replace hg := Hid.mk' hg
          clear h hh hstep hdr hany hany' hx hx2 hcl hro
          generalize (sv c.2).length = m at *
          go_wp2_with (first | (refine wpList_idx rfl _ _ 27 rfl Try.underlying27 size9 rfl (k := k) rfl hLr hkl hsy ?_; intro b q hc hbb) | (refine wpList_lookupS rfl _ _ 54 rfl K9 Try.underlying54 rfl hM (zero59 _) y rfl hok hTs ?_; simp only [hVx]))
          refine hcf.mono ?_
          rintro e w2 ⟨rfl, q2⟩
          go_wp2_with fail
          go_roundw
          case rel => exact ⟨k + 1, by omega, by go_num, by rw [hst.out], by unfold Under; rw [hst.out]; exact hUr.keep q2, hbr.trans (q2.mono hzr)⟩
          case measure => simp [intOf]; omega
    · have hk2 : ks.take k = ks := List.take_of_length_le (by omega)
      have hlk := hlen k
      have H1 := Hid.mk' (show (ks.take k).foldl (tStep deps) (ks, C, 0) = tAll deps ks C by rw [hk2]; rfl)
      unfold Under at hUr
      rw [H1.out] at hUr hlk
      simp only [H1.out]
      clear hk2
      go_wp2_with fail
      go_ret
      exact ⟨rfl, (hUr.drop1).drop1, hbr⟩
end Go.Proofs.Cac
