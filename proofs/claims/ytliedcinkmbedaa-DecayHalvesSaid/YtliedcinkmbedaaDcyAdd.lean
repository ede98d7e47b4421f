/- decay: what a Counter is in memory; New, put, Add, At by what is owned. -/
import Derived.Test.YtliedcinkmbedaaDcyAt
namespace Go.Proofs.Dcy
open Go.RowKit Go.Cic Go.ChangeMaps
open Go.Maps (Keyed)
set_option linter.unusedVariables false
set_option maxRecDepth 100000

abbrev Content := List (ByteArray × List (Int × Int))
/-- A Counter that holds C, its keys in the order in which they came. -/
def DecA (p : Nat) (half cnt : Int) (C : Content) : Asrt :=
  Asrt.some' fun bm => Asrt.star (Asrt.cells p #[.int .i64 half, .map (some bm), .int .i64 cnt] 59) (Asrt.mapOf kE pV (fun x T => Asrt.map tE iV x T) bm C)
theorem dec_iff {B p : Nat} {half cnt : Int} {C : Content} {l : List Asrt} {w : World} : Owns B (DecA p half cnt C :: l) w ↔
    ∃ bm, Owns B (Asrt.cells p #[.int .i64 half, .map (some bm), .int .i64 cnt] 59 :: Asrt.mapOf kE pV (fun x T => Asrt.map tE iV x T) bm C :: l) w := by
  unfold DecA
  rw [Owns.ex_iff]
  exact exists_congr fun _ => Owns.star_iff

theorem new_own {B : Nat} {l : List Asrt} {w : World} (half : Int) (hO : Owns B l w) (hB : B ≤ w.heap.size) :
    Calls Try.prog 14 #[.int .i64 half] w fun e w' => ∃ p, e = .returned (.pointer (some ⟨p, 0, none⟩)) ∧ Owns B (DecA p (hf half) 0 [] :: l) w' ∧ Below B w w' := by
  refine (new_any half w).mono ?_
  rintro e w' ⟨rfl, rfl⟩
  have h1 : Owns B (Asrt.map kE pV w.heap.size [] :: l) (w.alloc (.map #[] 0)) :=
    hO.new hB (S := (· = w.heap.size)) ⟨MapT.made kE pV w, fun _ => Iff.rfl⟩ (fun b hb => Nat.le_of_eq hb.symm) ((Below.refl _ _).alloc (Nat.le_refl _) _)
  have h2 : Owns B (Asrt.cells (w.heap.size + 1) #[.int .i64 (hf half), .map (some w.heap.size), .int .i64 0] 59 :: Asrt.map kE pV w.heap.size [] :: l) ((w.alloc (.map #[] 0)).alloc (.cells #[.int .i64 (hf half), .map (some w.heap.size), .int .i64 0] 59)) :=
    h1.new (by simp; omega) (S := (· = w.heap.size + 1)) ⟨by have := heap_alloc_new (w.alloc (.map #[] 0)) (.cells #[.int .i64 (hf half), .map (some w.heap.size), .int .i64 0] 59); simpa using this, fun _ => Iff.rfl⟩ (fun b hb => by simp [hb]) ((Below.refl _ _).alloc (Nat.le_refl _) _)
  refine ⟨_, rfl, dec_iff.2 ⟨w.heap.size, (Owns.mapOf_nil h2.swap).swap⟩, ((Below.refl B w).alloc hB _).alloc (by simp; omega) _⟩

/-- What put does to the ticks. -/
def putC (C : Content) (key : ByteArray) (at_ n : Int) : Content :=
  AL.put C key (AL.put ((AL.get C key).getD []) at_ (wrap64 ((AL.get ((AL.get C key).getD []) at_).getD 0 + n)))

theorem put_own {B p : Nat} {half cnt : Int} {C : Content} {l : List Asrt} {w : World} (key : ByteArray) (at_ n : Int) (hO : Owns B (DecA p half cnt C :: l) w) (hB : B ≤ w.heap.size) (hk : kE.ok key) (ha : tE.ok at_) :
    Calls Try.prog 28 #[.pointer (some ⟨p, 0, none⟩), .string key, .int .i64 at_, .int .i64 n] w fun e w' => e = .returned (.tuple #[]) ∧ Owns B (DecA p half cnt (putC C key at_ n) :: l) w' ∧ Below B w w' := by
  obtain ⟨bm, h⟩ := dec_iff.1 hO
  have hrow := h.cellsE
  have hp1 : w.cell? ⟨p, 1, none⟩ = some (.map (some bm)) := by rw [cell_of hrow.1]; rfl
  unfold putC
  cases hg : AL.get C key with
  | some T =>
    obtain ⟨x, T0, R, h1, h2, _, h3⟩ := Owns.focus h.swap hg
    have hM := h1.mapE.1
    have hI := h1.swap.mapE.1
    refine (put_old p bm x key at_ n _ T w hp1 hM h2 hI hk ha).mono ?_
    rintro e w' ⟨rfl, ob, rfl, hT'⟩
    obtain ⟨h4, h5⟩ := h1.swap.step hB (step_map hT' (keeps_setBlock _ _ _))
    exact ⟨rfl, dec_iff.2 ⟨bm, (h3 _ _ _ h4.swap).swap⟩, h5⟩
  | none =>
    obtain ⟨T0, R, h1, h2, _, h3⟩ := Owns.fresh h.swap hg
    have hM := h1.mapE.1
    have hne : p ≠ bm := by
      obtain ⟨S1, S2, ⟨_, e1⟩, ⟨_, e2⟩, h4⟩ := Owns.apart (A := Asrt.map kE pV bm T0) (C := Asrt.cells p #[.int .i64 half, .map (some bm), .int .i64 cnt] 59) (l := R :: l) (h1.perm (List.Perm.cons _ (List.Perm.swap _ _ _)))
      intro e
      exact h4 bm ((e1 bm).2 rfl) ((e2 bm).2 e.symm)
    refine (put_new p bm key at_ n _ w hrow.2.2 hne hp1 hM h2 hk ha).mono ?_
    rintro e w' ⟨rfl, hM', hN', hkp, hsz⟩
    obtain ⟨h4, h5⟩ := h1.turn (As := [Asrt.map kE pV bm (AL.put T0 key w.heap.size), Asrt.map tE iV w.heap.size [(at_, wrap64 (0 + n))]]) (w' := w') hB (by
      rintro S ⟨_, e2⟩
      refine ⟨fun b => b = bm ∨ b = w.heap.size, ⟨(· = bm), (· = w.heap.size), ⟨hM', fun _ => Iff.rfl⟩, ⟨(· = w.heap.size), fun _ => False, ⟨hN', fun _ => Iff.rfl⟩, fun _ h => h, fun _ _ h => h, fun b => by simp⟩, fun b e1 e3 => ?_, fun b => Iff.rfl⟩, fun b hb => hb.elim (fun h => .inl ((e2 b).2 h)) (fun h => .inr (Nat.le_of_eq h.symm)), hkp.mono (fun b _ hb => (e2 b).2 hb)⟩
      have := hM.lt
      omega)
    exact ⟨rfl, dec_iff.2 ⟨bm, (h3 _ _ _ _ h4).swap⟩, h5⟩

theorem at_own {B p : Nat} {half cnt : Int} {C : Content} {l : List Asrt} {w : World} (key : ByteArray) (now : Int) (hO : Owns B (DecA p half cnt C :: l) w) (hB : B ≤ w.heap.size) (hk : kE.ok key) (hnow2 : now ≤ 9223372036854775807)
    (hb : ∀ c ∈ C, ∀ x ∈ c.2, 0 ≤ x.1 ∧ x.1 ≤ 1099511627776) (hh1 : 1 ≤ half) (hh2 : half ≤ 1099511627776) :
    Calls Try.prog 16 #[.pointer (some ⟨p, 0, none⟩), .string key, .int .i64 now] w fun e w' => e = .returned (.int .i64 (if now < 0 then 0 else wrap64 (dsum half now ((AL.get C key).getD [])))) ∧ Owns B (DecA p half cnt C :: l) w' ∧ Below B w w' := by
  obtain ⟨bm, h⟩ := dec_iff.1 hO
  have hrow := h.cellsE
  have hp0 : w.cell? ⟨p, 0, none⟩ = some (.int .i64 half) := by rw [cell_of hrow.1]; rfl
  have hp1 : w.cell? ⟨p, 1, none⟩ = some (.map (some bm)) := by rw [cell_of hrow.1]; rfl
  have fin : ∀ r e w', AtPost r w e w' → r = (if now < 0 then 0 else wrap64 (dsum half now ((AL.get C key).getD []))) → e = .returned (.int .i64 (if now < 0 then 0 else wrap64 (dsum half now ((AL.get C key).getD [])))) ∧ Owns B (DecA p half cnt C :: l) w' ∧ Below B w w' := by
    rintro r e w' ⟨rfl, hbl⟩ rfl
    exact ⟨rfl, hO.keep hbl, hbl.mono hB⟩
  by_cases hneg : now < 0
  · exact (at_neg p key now w hneg).mono fun e w' h => fin _ e w' h (by rw [if_pos hneg])
  · cases hg : AL.get C key with
    | some T =>
      obtain ⟨x, T0, R, h1, h2, _, h3⟩ := Owns.focus h.swap hg
      refine (at_some p bm x half key now _ T w hneg hnow2 hp0 hp1 h1.mapE.1 h2 hk h1.swap.mapE.1 (hb _ (AL.get_mem hg)) hh1 hh2 hrow.2.2).mono fun e w' h => ?_
      rw [hg] at fin
      exact fin _ e w' h (by rw [if_neg hneg]; rfl)
    | none =>
      obtain ⟨T0, R, h1, h2, _, h3⟩ := Owns.fresh h.swap hg
      refine (at_none p bm key now _ w hneg hp1 h1.mapE.1 h2 hk).mono fun e w' h => ?_
      rw [hg] at fin
      exact fin _ e w' h (by rw [if_neg hneg]; simp [dsum, wrap64])

def mayAdd (key : ByteArray) (at_ n : Int) : Prop := 1 ≤ key.size ∧ key.size ≤ 24 ∧ 0 ≤ at_ ∧ at_ ≤ 1099511627776 ∧ 0 ≤ n ∧ n ≤ 1048576
instance (key : ByteArray) (at_ n : Int) : Decidable (mayAdd key at_ n) := by unfold mayAdd; infer_instance

theorem add_bad (p : Nat) (cnt : Int) (key : ByteArray) (at_ n : Int) (w : World) (hc : w.cell? ⟨p, 2, none⟩ = some (.int .i64 cnt)) (h : ¬ (mayAdd key at_ n ∧ cnt < 1048576)) :
    Calls Try.prog 15 #[.pointer (some ⟨p, 0, none⟩), .string key, .int .i64 at_, .int .i64 n] w fun e w' => e = .returned (.bool false) ∧ w = w' := by
  have h' : key.size < 1 ∨ 24 < key.size ∨ at_ < 0 ∨ 1099511627776 < at_ ∨ n < 0 ∨ 1048576 < n ∨ 1048576 ≤ cnt := by unfold mayAdd at h; omega
  clear h
  go_enter Try.func15, Try.ntmps15
  go_wp2
  all_goals (go_ret; exact ⟨rfl, rfl⟩)

def AddPost (B p : Nat) (half cnt : Int) (C : Content) (l : List Asrt) (w : World) (e : Ending) (w' : World) : Prop :=
  e = .returned (.bool true) ∧ Owns B (DecA p half (cnt + 1) C :: l) w' ∧ Below B w w'
theorem wf_i64 {a : Int} (h1 : -9223372036854775808 ≤ a) (h2 : a ≤ 9223372036854775807) : (Lit.int .i64 a).wf = true := by
  exact WalkArith.wf_i64 (by omega)
theorem add_ok {B p : Nat} {half cnt : Int} {C : Content} {l : List Asrt} {w : World} (key : ByteArray) (at_ n : Int) (hO : Owns B (DecA p half cnt C :: l) w) (hB : B ≤ w.heap.size)
    (h : mayAdd key at_ n) (hc0 : 0 ≤ cnt) (hc1 : cnt < 1048576) :
    Calls Try.prog 15 #[.pointer (some ⟨p, 0, none⟩), .string key, .int .i64 at_, .int .i64 n] w (AddPost B p half cnt (putC C key at_ n) l w) := by
  obtain ⟨m1, m2, m3, m4, m5, m6⟩ := h
  have hk : kE.ok key := show key.size ≤ maxLen by unfold maxLen; omega
  have ha : tE.ok at_ := wf_i64 (by omega) (by omega)
  have hc : w.cell? ⟨p, 2, none⟩ = some (.int .i64 cnt) := by
    obtain ⟨bm, h⟩ := dec_iff.1 hO
    rw [cell_of h.cellsE.1]; rfl
  go_enter Try.func15, Try.ntmps15
  go_wp2_with (go_at_call 28; refine (put_own key at_ n hO hB hk ha).mono ?_; rintro e w1 ⟨rfl, hO1, hB1⟩; obtain ⟨bm1, h1⟩ := dec_iff.1 hO1; have hr1 := h1.cellsE.1; have c1 : w1.cell? ⟨p, 2, none⟩ = some (.int .i64 cnt) := (by rw [cell_of hr1]; rfl); have f1 : w1.frozen? ⟨p, 2, none⟩ = false := free_of hr1 _)
  go_ret
  have hs := hB1.size
  obtain ⟨h4, h5⟩ := h1.step (A' := Asrt.cells p #[.int .i64 half, .map (some bm1), .int .i64 (cnt + 1)] 59) (by omega) (step_cells (by rw [setCell_of hr1]; rfl) (keeps_setCell w1 p 2 (.int .i64 (cnt + 1))))
  exact ⟨rfl, dec_iff.2 ⟨bm1, h4⟩, hB1.trans h5⟩
theorem add_own {B p : Nat} {half cnt : Int} {C : Content} {l : List Asrt} {w : World} (key : ByteArray) (at_ n : Int) (hO : Owns B (DecA p half cnt C :: l) w) (hB : B ≤ w.heap.size) (hc0 : 0 ≤ cnt) :
    Calls Try.prog 15 #[.pointer (some ⟨p, 0, none⟩), .string key, .int .i64 at_, .int .i64 n] w fun e w' => e = .returned (.bool (decide (mayAdd key at_ n ∧ cnt < 1048576))) ∧
      Owns B (DecA p half (if mayAdd key at_ n ∧ cnt < 1048576 then cnt + 1 else cnt) (if mayAdd key at_ n ∧ cnt < 1048576 then putC C key at_ n else C) :: l) w' ∧ Below B w w' := by
  by_cases h : mayAdd key at_ n ∧ cnt < 1048576
  · refine (add_ok key at_ n hO hB h.1 hc0 h.2).mono ?_
    rintro e w' ⟨rfl, h1, h2⟩
    rw [if_pos h, if_pos h]
    exact ⟨by simp [h], h1, h2⟩
  · have hc : w.cell? ⟨p, 2, none⟩ = some (.int .i64 cnt) := by
      obtain ⟨bm, h⟩ := dec_iff.1 hO
      rw [cell_of h.cellsE.1]; rfl
    refine (add_bad p cnt key at_ n w hc h).mono ?_
    rintro e w' ⟨rfl, rfl⟩
    rw [if_neg h, if_neg h]
    exact ⟨by simp [h], hO, Below.refl _ _⟩
end Go.Proofs.Dcy
