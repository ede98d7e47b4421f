/- cache: a cache in memory; New, out, used, drop, Len, Keys. -/
import Derived.Test.YtbdikfadnfjmoaaCacDel
import Derived.Test.YtbdikfadnfjmoaaCicLib
namespace Go.Proofs.Cac
open Go.RowKit Go.Cic Go.ChangeMaps
open Go.Maps (Keyed)
set_option linter.unusedVariables false
set_option maxRecDepth 100000
/-- What a key has: a value, and on what it hangs. -/
abbrev Ent := ByteArray × List ByteArray
abbrev Tab := List (ByteArray × Ent)
def sE : Enc Try.prog 9 ByteArray := strEnc Try.underlying9
theorem sE_v (s : ByteArray) : sE.v s = .string s := rfl
theorem K9 : Keyed Try.prog 9 := Go.Maps.string_keyed Try.underlying9
def eV (x : ByteArray × Value) : Value := .agg #[.string x.1, x.2]
def eI (x : ByteArray × Value) (c : Ent) : Asrt := Asrt.star (Asrt.fact (x.1 = c.1)) (Asrt.row 9 x.2 (sv c.2))
/-- A cache in memory. -/
def CacA (p : Nat) (size : Int) (ks : List ByteArray) (C : Tab) : Asrt :=
  Asrt.some' fun m : Nat × Value => Asrt.star (Asrt.cells p #[.int .i64 size, .map (some m.1), m.2] 56) (Asrt.star (Asrt.row 9 m.2 (sv ks)) (Asrt.mapOf sE eV eI m.1 C))
theorem cac_iff {B p : Nat} {size : Int} {ks : List ByteArray} {C : Tab} {l : List Asrt} {w : World} : Owns B (CacA p size ks C :: l) w ↔
    ∃ bm v, Owns B (Asrt.cells p #[.int .i64 size, .map (some bm), v] 56 :: Asrt.row 9 v (sv ks) :: Asrt.mapOf sE eV eI bm C :: l) w := by
  unfold CacA
  rw [Owns.ex_iff]
  constructor
  · rintro ⟨⟨bm, v⟩, h⟩
    rw [Owns.star_iff] at h
    exact ⟨bm, v, (Owns.star_iff.1 h.swap).perm (by
      exact (List.Perm.cons _ (List.Perm.swap _ _ _)).trans (List.Perm.swap _ _ _))⟩
  · rintro ⟨bm, v, h⟩
    refine ⟨(bm, v), ?_⟩
    rw [Owns.star_iff]
    refine Owns.swap (Owns.star_iff.2 (h.perm ?_))
    exact (List.Perm.swap _ _ _).trans (List.Perm.cons _ (List.Perm.swap _ _ _))
/-- The size that is kept. -/
def szf (n : Int) : Int := min (max n 0) 4096
theorem new_own {B : Nat} {l : List Asrt} {w : World} (n : Int) (hO : Owns B l w) (hB : B ≤ w.heap.size) :
    Calls Try.prog 9 #[.int .i64 n] w fun e w' => ∃ p, e = .returned (.pointer (some ⟨p, 0, none⟩)) ∧ Owns B (CacA p (szf n) [] [] :: l) w' ∧ Below B w w' := by
  have hmm := @run_makeMap Try.prog
  have key : Calls Try.prog 9 #[.int .i64 n] w fun e w' => e = .returned (.pointer (some ⟨w.heap.size + 1, 0, none⟩)) ∧ w' = (w.alloc (.map #[] 0)).alloc (.cells #[.int .i64 (szf n), .map (some w.heap.size), .slice none 0 0] 56) := by
    go_enter Try.func9, Try.ntmps9
    go_wp2
    all_goals
      refine bodyPost_ret (results_tmp rfl _ _ _) rfl ⟨rfl, ?_⟩
      congr 5
      unfold szf; omega
  refine key.mono ?_
  rintro e w' ⟨rfl, rfl⟩
  have h1 := hO.alloc_map sE eV hB
  have h2 := (Owns.mapOf_nil (I := eI) h1).rowNil (e := 9)
  have h3 := h2.alloc_cells (by simp; omega) #[.int .i64 (szf n), .map (some w.heap.size), .slice none 0 0] 56
  refine ⟨_, rfl, cac_iff.2 ⟨w.heap.size, .slice none 0 0, ?_⟩, ((Below.refl B w).alloc hB _).alloc (by simp; omega) _⟩
  simpa using h3
theorem len_own {B p : Nat} {size : Int} {ks : List ByteArray} {C : Tab} {l : List Asrt} {w : World} (hO : Owns B (CacA p size ks C :: l) w) :
    Calls Try.prog 19 #[.pointer (some ⟨p, 0, none⟩)] w fun e w' => e = .returned (.int .i64 ks.length) ∧ w = w' := by
  obtain ⟨bm, v, h⟩ := cac_iff.1 hO
  have c2 : w.cell? ⟨p, 2, none⟩ = some v := by rw [cell_of h.cellsE.1]; rfl
  obtain ⟨ao, cap, rfl, _⟩ := h.swap.rowE
  go_enter Try.func19, Try.ntmps19
  go_wp2
  go_ret
  exact ⟨by simp, rfl⟩
theorem keys_own {B p : Nat} {size : Int} {ks : List ByteArray} {C : Tab} {l : List Asrt} {w : World} (hO : Owns B (CacA p size ks C :: l) w) (hB : B ≤ w.heap.size) (hk : ks.length ≤ 4294967296) :
    Calls Try.prog 21 #[.pointer (some ⟨p, 0, none⟩)] w fun e w' => ∃ ao c, e = .returned (.slice ao ks.length c) ∧ Owns B (Asrt.row 9 (.slice ao ks.length c) (sv ks) :: CacA p size ks C :: l) w' ∧ Below B w w' := by
  obtain ⟨bm, v, h⟩ := cac_iff.1 hO
  have c2 : w.cell? ⟨p, 2, none⟩ = some v := by rw [cell_of h.cellsE.1]; rfl
  obtain ⟨ao, cap, rfl, _, hL, _⟩ := h.swap.rowE
  rw [sv_len] at c2
  have hcl := clone_own hO hB ao ks.length cap ks hL rfl hk
  go_enter Try.func21, Try.ntmps21
  go_wp2_with (go_at_call 25; refine hcl.mono ?_; rintro e w1 ⟨ao', c', rfl, h1, h2⟩)
  go_ret
  exact ⟨ao', c', rfl, h1, h2⟩
theorem out_own {B p : Nat} {size : Int} {ks : List ByteArray} {C : Tab} {l : List Asrt} {w : World} (key : ByteArray) (hO : Owns B (CacA p size ks C :: l) w) (hB : B ≤ w.heap.size) (hk : ks.length ≤ 4294967296) :
    Calls Try.prog 40 #[.pointer (some ⟨p, 0, none⟩), .string key] w fun e w' => e = .returned (.tuple #[]) ∧ Owns B (CacA p size (ks.filter (nk key)) C :: l) w' ∧ Below B w w' := by
  obtain ⟨bm, v, h⟩ := cac_iff.1 hO
  obtain ⟨ao, cap, rfl, _⟩ := h.swap.rowE
  rw [sv_len] at h
  have hA := h.alloc_cells hB #[.string key] 9
  have hbA := (Below.refl B w).alloc hB (.cells #[.string key] 9)
  have hzA := Nat.le_trans hB hbA.size
  have hB2 : Owns B (Asrt.row 9 (.slice ao ks.length cap) (sv ks) :: Asrt.cells w.heap.size #[.string key] 9 :: Asrt.cells p #[.int .i64 size, .map (some bm), .slice ao ks.length cap] 56 :: Asrt.mapOf sE eV eI bm C :: l) (w.alloc (.cells #[.string key] 9)) :=
    hA.perm ((List.Perm.cons _ (List.Perm.swap _ _ _)).trans (List.Perm.swap _ _ _))
  have c2 : (w.alloc (.cells #[.string key] 9)).cell? ⟨p, 2, none⟩ = some (.slice ao ks.length cap) := by rw [cell_of hA.swap.cellsE.1]; rfl
  have hdel := delete_50 key 9 ao ks.length cap ks hB2 hzA hk
  clear hO h
  go_enter Try.func40, Try.ntmps40
  go_wp2_with fail
  refine hdel.mono ?_
  rintro e w1 ⟨n', c', rfl, hn', hO1, hb1⟩
  have hp1 := (hO1.front 2 _ rfl).cellsE.1
  have c2' : w1.cell? ⟨p, 2, none⟩ = some (.slice ao ks.length cap) := by rw [cell_of hp1]; rfl
  have f2' : w1.frozen? ⟨p, 2, none⟩ = false := free_of hp1 _
  have hn' := Hid.mk' hn'
  go_wp2_with fail
  go_end0
  rw [hn'.out] at hO1
  obtain ⟨h5, h6⟩ := ((hO1.front 1 _ rfl).tail.front 1 _ rfl).poke (Nat.le_trans hzA hb1.size) 2 (.slice ao n' c')
  rw [hn'.out] at h5 h6
  exact ⟨rfl, cac_iff.2 ⟨bm, _, h5⟩, (hbA.trans hb1).trans h6⟩
theorem used_own {B p : Nat} {size : Int} {ks : List ByteArray} {C : Tab} {l : List Asrt} {w : World} (key : ByteArray) (hO : Owns B (CacA p size ks C :: l) w) (hB : B ≤ w.heap.size) (hk : ks.length ≤ 4294967295) :
    Calls Try.prog 26 #[.pointer (some ⟨p, 0, none⟩), .string key] w fun e w' => e = .returned (.tuple #[]) ∧ Owns B (CacA p size (ks.filter (nk key) ++ [key]) C :: l) w' ∧ Below B w w' := by
  have hout := out_own key hO hB (by omega)
  have hkl : (ks.filter (nk key)).length ≤ 4294967295 := Nat.le_trans (List.length_filter_le _ _) hk
  generalize ks.filter (nk key) = fs at *
  clear hO
  go_enter Try.func26, Try.ntmps26
  go_wp2_with fail
  refine hout.mono ?_
  rintro e w1 ⟨rfl, h1, hb1⟩
  have hz1 := Nat.le_trans hB hb1.size
  obtain ⟨bm, v, h⟩ := cac_iff.1 h1
  have hp := h.cellsE.1
  obtain ⟨ao, cap, rfl, _⟩ := h.swap.rowE
  rw [sv_len] at h hp
  have c2 : w1.cell? ⟨p, 2, none⟩ = some (.slice ao fs.length cap) := by rw [cell_of hp]; rfl
  have f2 : w1.frozen? ⟨p, 2, none⟩ = false := free_of hp _
  have hlit := h.alloc_cells hz1 #[.string key] 9
  have hlL : Lies (w1.alloc (.cells #[.string key] 9)) (some ⟨w1.heap.size, 0, none⟩) [.string key] := Owns.cellsLies (xs := [.string key]) hlit
  have hbl := (Below.refl B w1).alloc hz1 (.cells #[.string key] 9)
  have hzl := Nat.le_trans hz1 hbl.size
  have hlr := hlit.tail.front 1 _ rfl
  have k1 : (sv fs).length + 1 ≤ maxLen := by simp [maxLen]; omega
  have k2 : ((sv fs).length + 1) * 16 ≤ 140737488355328 := by simp; omega
  have k3 : (sv fs).length + 1 = fs.length + 1 := by simp
  have k5 : ∀ u ∈ [Value.string key], u.oneCell' = true := by simp [Value.oneCell']
  clear h1 h
  go_wp2_with (refine wpList_appendRow rfl _ _ 27 rfl Try.underlying27 info9 rfl rfl rfl hlr hzl hlL rfl k5 k1 k2 k3 ?_; intro ao1 c1 w2 hO2 hb2; have hp2 := (hO2.front 1 _ rfl).cellsE.1; have c2' : w2.cell? ⟨p, 2, none⟩ = some (.slice ao fs.length cap) := (cell_of hp2 2).trans rfl; have f2' : w2.frozen? ⟨p, 2, none⟩ = false := free_of hp2 _)
  go_end0
  obtain ⟨h5, h6⟩ := (hO2.front 1 _ rfl).poke (Nat.le_trans hzl hb2.size) 2 (.slice ao1 (fs.length + 1) c1)
  refine ⟨rfl, cac_iff.2 ⟨bm, .slice ao1 (fs.length + 1) c1, ?_⟩, ((hb1.trans hbl).trans hb2).trans h6⟩
  rw [show sv (fs ++ [key]) = sv fs ++ [Value.string key] by simp]
  exact h5
theorem drop_own {B p : Nat} {size : Int} {ks : List ByteArray} {C : Tab} {l : List Asrt} {w : World} (key : ByteArray) (hO : Owns B (CacA p size ks C :: l) w) (hB : B ≤ w.heap.size) (hk : ks.length ≤ 4294967296) (hkey : key.size ≤ maxLen) :
    Calls Try.prog 27 #[.pointer (some ⟨p, 0, none⟩), .string key] w fun e w' => e = .returned (.tuple #[]) ∧ Owns B (CacA p size (ks.filter (nk key)) (AL.del C key) :: l) w' ∧ Below B w w' := by
  have hout := out_own key hO hB (by omega)
  generalize ks.filter (nk key) = fs at *
  clear hO
  go_enter Try.func27, Try.ntmps27
  go_wp2_with fail
  refine hout.mono ?_
  rintro e w1 ⟨rfl, h1, hb1⟩
  have hz1 := Nat.le_trans hB hb1.size
  obtain ⟨bm, v, h⟩ := cac_iff.1 h1
  have hp := h.cellsE.1
  have c1 : w1.cell? ⟨p, 1, none⟩ = some (.map (some bm)) := by rw [cell_of hp]; rfl
  obtain ⟨T, R, hT, hback⟩ := (h.front 2 _ rfl).mapOf_delete key
  have hok : sE.ok key := hkey
  have hM := hT.mapE.1
  clear h1 h
  go_wp2_with (refine wpList_deleteT rfl _ _ 54 rfl K9 Try.underlying54 rfl hM key rfl hok ?_; intro ob hM2)
  go_end0
  obtain ⟨h5, h6⟩ := hT.step hz1 (step_map hM2 (keeps_setBlock w1 bm ob))
  have h7 := hback _ _ h5
  exact ⟨rfl, cac_iff.2 ⟨bm, v, h7.perm (by exact (List.Perm.swap _ _ _).trans (List.Perm.cons _ (List.Perm.swap _ _ _)))⟩, hb1.trans h6⟩
end Go.Proofs.Cac
