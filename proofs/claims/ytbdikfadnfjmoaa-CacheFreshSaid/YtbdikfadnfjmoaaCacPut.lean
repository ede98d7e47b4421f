/- cache: Put. -/
import Derived.Test.YtbdikfadnfjmoaaCacCore
import Derived.Deep.RegionWith
import Derived.Deep.QuietTactic
import Derived.BigQuiet
namespace Go.Proofs.Cac
open Go.RowKit Go.Cic Go.ChangeMaps
open Go.Maps (Keyed)
set_option linter.unusedVariables false
set_option maxRecDepth 100000
/-- The row, the entries behind a Put. -/
def putK (size : Int) (ks : List ByteArray) (key : ByteArray) : List ByteArray :=
  if size < ((ks.filter (nk key) ++ [key]).length : Int) then (ks.filter (nk key) ++ [key]).filter (nk ((ks.filter (nk key) ++ [key]).headD key)) else ks.filter (nk key) ++ [key]
def putC (size : Int) (ks : List ByteArray) (C : Tab) (key value : ByteArray) (deps : List ByteArray) : Tab :=
  if size < ((ks.filter (nk key) ++ [key]).length : Int) then AL.del (AL.put C key (value, deps)) ((ks.filter (nk key) ++ [key]).headD key) else AL.put C key (value, deps)
def Put0 (B p : Nat) (size : Int) (ks : List ByteArray) (C : Tab) (l : List Asrt) (w w' : World) : Prop := Owns B (CacA p size ks C :: l) w' ∧ Below B w w'
set_option maxHeartbeats 1000000 in
theorem put_own {B p : Nat} {size : Int} {ks : List ByteArray} {C : Tab} {l : List Asrt} {w : World} (key value : ByteArray) (ao : Option Addr) (n c : Nat) (deps : List ByteArray) (hO : Owns B (CacA p size ks C :: l) w) (hB : B ≤ w.heap.size) (hk : ks.length ≤ 4294967295) (hks : ∀ k ∈ ks, k.size ≤ maxLen) (hkey : key.size ≤ maxLen)
    (hs : Lies w ao (sv deps)) (hn : deps.length = n) (hl : n ≤ 4294967296) (hsz : 0 ≤ size) :
    Calls Try.prog 10 #[.pointer (some ⟨p, 0, none⟩), .string key, .string value, .slice ao n c] w fun e w' => e = .returned (.tuple #[]) ∧ Put0 B p size (putK size ks key) (putC size ks C key value deps) l w w' := by
  obtain ⟨bm, v, h⟩ := cac_iff.1 hO
  obtain ⟨T, R, hT, _, hback⟩ := (h.front 2 _ rfl).mapOf_put key
  have hok : sE.ok key := hkey
  have hcl := clone_own hT.drew (show B ≤ w.drew.heap.size from hB) ao n c deps (hs.below (Below.refl _ _).drew) hn hl
  have c0 : w.drew.cell? ⟨p, 1, none⟩ = some (.map (some bm)) := by rw [cell_of (hT.drew.front 2 _ rfl).cellsE.1]; rfl
  obtain ⟨kk, hkk⟩ : ∃ kk, ks.filter (nk key) ++ [key] = kk := ⟨_, rfl⟩
  have hkl : kk.length ≤ 4294967296 := by
    rw [← hkk, List.length_append]
    have := List.length_filter_le (nk key) ks
    simp; omega
  obtain ⟨y, ys, hyy⟩ : ∃ y ys, kk = y :: ys := by
    cases hc : kk with
    | nil => rw [hc] at hkk; simp at hkk
    | cons y ys => exact ⟨y, ys, rfl⟩
  have hyk : y.size ≤ maxLen := by
    have : y ∈ ks.filter (nk key) ++ [key] := by rw [hkk, hyy]; simp
    rcases List.mem_append.1 this with hm | hm
    · exact hks y (List.mem_filter.1 hm).1
    · rw [List.mem_singleton.1 hm]; exact hkey
  have hpk : Hid (putK size ks key = if size < (kk.length : Int) then kk.filter (nk y) else kk) := by unfold putK; rw [hkk, hyy]; exact Hid.mk' rfl
  have hpc : Hid (putC size ks C key value deps = if size < (kk.length : Int) then AL.del (AL.put C key (value, deps)) y else AL.put C key (value, deps)) := by unfold putC; rw [hkk, hyy]; exact Hid.mk' rfl
  generalize putK size ks key = pk at *
  generalize putC size ks C key value deps = pc at *
  replace hkk := Hid.mk' hkk
  replace hyy := Hid.mk' hyy
  replace hn := Hid.mk' hn
  clear hO h hT
  go_enter Try.func10, Try.ntmps10
  go_wp2_with fail
  go_region_with (go_at_call 25; refine hcl.mono ?_; rintro e w1 ⟨ao', c', rfl, h1, hb1⟩; have c1 := ((cell_of (h1.front 3 _ rfl).cellsE.1 1).trans rfl : w1.cell? ⟨p, 1, none⟩ = some (.map (some bm))); obtain ⟨ob, hrun, hM2⟩ := (h1.front 1 _ rfl).mapE.1.update K9 Try.underlying54 hok (value, Value.slice ao' n c'); simp only [sE_v, eV] at hrun)
  all_goals
    have hz1 : B ≤ w1.heap.size := Nat.le_trans hB hb1.size
    obtain ⟨h5, h6⟩ := (h1.front 1 _ rfl).step hz1 (step_map hM2 (keeps_setBlock w1 bm ob))
    have h7 := hback _ _ (value, Value.slice ao' n c') (value, deps) ((Owns.star_iff.2 (Owns.fact_iff.2 ⟨rfl, h5.front 1 _ rfl⟩)).swap)
    have h8 : Owns B (CacA p size ks (AL.put C key (value, deps)) :: l) (setBlock w1 bm ob) := cac_iff.2 ⟨bm, v, h7.perm (by exact (List.Perm.swap _ _ _).trans (List.Perm.cons _ (List.Perm.swap _ _ _)))⟩
    have hz2 : B ≤ (setBlock w1 bm ob).heap.size := Nat.le_trans hz1 h6.size
    have hb2 : Below B w (setBlock w1 bm ob) := ((Below.refl B w).drew.trans hb1).trans h6
    have hus := used_own key h8 hz2 hk
    rw [hkk.out] at hus
    generalize setBlock w1 bm ob = w2 at *
    clear h5 h6 h7 h8 hback hM2 hrun hcl c0 c1 h1
    go_wp2_with fail
    refine hus.mono ?_
    rintro e w3 ⟨rfl, h9, hb3⟩
    have hz3 : B ≤ w3.heap.size := Nat.le_trans hz2 hb3.size
    obtain ⟨bm3, v3, g3⟩ := cac_iff.1 h9
    obtain ⟨a3, cap3, rfl, _, hL3, _⟩ := g3.swap.rowE
    rw [sv_len] at g3
    have cc := g3.cellsE.1
    have c30 : w3.cell? ⟨p, 0, none⟩ = some (.int .i64 size) := by rw [cell_of cc]; rfl
    have c32 : w3.cell? ⟨p, 2, none⟩ = some (.slice a3 kk.length cap3) := by rw [cell_of cc]; rfl
    by_cases hlt : size < (kk.length : Int)
    · have HK := hpk.out
      rw [if_pos hlt] at HK
      have HC := hpc.out
      rw [if_pos hlt] at HC
      replace HK := Hid.mk' HK
      replace HC := Hid.mk' HC
      have d1 : decide ((kk.length : Int) > size) = true := by simpa using hlt
      have d2 : decide (size < (kk.length : Int)) = true := by simpa using hlt
      have hd := fun m => drop_own y (h9.drewN m) (show B ≤ (w3.drewN m).heap.size from hz3) hkl hyk
      have hy0 : (sv kk)[0]? = some (.string y) := by rw [hyy.out]; rfl
      have hsvl : (sv kk).length = kk.length := sv_len kk
      have hL3d : ∀ m, Lies (w3.drewN m) a3 (sv kk) := fun m => hL3.below (Below.drewN' _ m)
      clear hus h9 g3 cc
      go_wp2_with fail
      go_quiet (fail)
      go_wp2_with (refine wpList_idx rfl _ _ 27 rfl Try.underlying27 size9 rfl (k := 0) rfl (hL3d _) hsvl hy0 ?_; intro b p hc hb)
      refine (hd _).mono ?_
      rintro e w4 ⟨rfl, h10, hb4⟩
      go_wp2_with fail
      go_end0
      rw [HK.out, HC.out]
      exact ⟨rfl, h10, ((hb2.trans hb3).trans ((Below.drewN' w3 _).mono hz3)).trans hb4⟩
    · have HK := hpk.out
      rw [if_neg hlt] at HK
      have HC := hpc.out
      rw [if_neg hlt] at HC
      replace HK := Hid.mk' HK
      replace HC := Hid.mk' HC
      have d1 : decide ((kk.length : Int) > size) = false := by simpa using hlt
      have d2 : decide (size < (kk.length : Int)) = false := by simpa using hlt
      clear hus g3 cc
      go_wp2_with fail
      go_quiet (fail)
      go_wp2_with fail
      go_end0
      rw [HK.out, HC.out]
      exact ⟨rfl, h9.drewN _, (hb2.trans hb3).trans ((Below.drewN' w3 _).mono hz3)⟩
end Go.Proofs.Cac
