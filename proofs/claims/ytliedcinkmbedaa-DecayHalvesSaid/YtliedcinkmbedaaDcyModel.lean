/- decay: a Counter as the list of what was added. -/
import Derived.Test.YtliedcinkmbedaaDcyLives
namespace Go.Proofs.Dcy
open Go.RowKit Go.Cic Go.ChangeMaps
set_option linter.unusedVariables false
set_option maxRecDepth 100000

abbrev AddL := List (ByteArray × Int × Int)
/-- Ticks by a weighing. -/
def dsumF (f : Int → Int) (T : List (Int × Int)) : Int := (T.map fun x => x.2 * f x.1).sum
/-- What was added of a key, by a weighing. -/
def asum (key : ByteArray) (f : Int → Int) (A : AddL) : Int := (A.map fun a => if a.1 = key then a.2.2 * f a.2.1 else 0).sum
theorem asum_append (key : ByteArray) (f : Int → Int) (A A' : AddL) : asum key f (A ++ A') = asum key f A + asum key f A' := by
  simp [asum, List.map_append, List.sum_append]
theorem asum_one (key k : ByteArray) (f : Int → Int) (t n : Int) : asum key f [(k, t, n)] = if k = key then n * f t else 0 := by simp [asum]
theorem dsumF_put (f : Int → Int) (T : List (Int × Int)) (t n : Int) : dsumF f (AL.put T t ((AL.get T t).getD 0 + n)) = dsumF f T + n * f t := by
  induction T with
  | nil => simp [AL.put, AL.get, dsumF]
  | cons q r ih =>
    simp only [AL.put, AL.get]
    split
    · rename_i h
      subst h
      simp only [Option.getD_some, dsumF, List.map_cons, List.sum_cons, Int.add_mul]; omega
    · simp only [dsumF, List.map_cons, List.sum_cons] at ih ⊢
      omega
theorem dsumF_at {T : List (Int × Int)} (hn : (T.map (·.1)).Nodup) (t : Int) : dsumF (fun x => if x = t then 1 else 0) T = (AL.get T t).getD 0 := by
  induction T with
  | nil => rfl
  | cons q r ih =>
    simp only [List.map_cons, List.nodup_cons] at hn
    simp only [AL.get]
    split
    · rename_i h
      subst h
      have : dsumF (fun x => if x = q.1 then 1 else 0) r = 0 := by
        rw [ih hn.2, AL.get_none (fun p hp e => hn.1 (List.mem_map.2 ⟨p, hp, e⟩))]; rfl
      simp only [dsumF, List.map_cons, List.sum_cons, Option.getD_some] at this ⊢
      simp [this]
    · rename_i h
      have := ih hn.2
      simp only [dsumF, List.map_cons, List.sum_cons] at this ⊢
      simp [h, this]

/-- The maps hold just what was added. -/
structure DM (C : Content) (A : AddL) : Prop where
  rep : ∀ key f, dsumF f ((AL.get C key).getD []) = asum key f A
  nd : ∀ c ∈ C, (c.2.map (·.1)).Nodup
  bd : ∀ c ∈ C, ∀ x ∈ c.2, 0 ≤ x.1 ∧ x.1 ≤ 1099511627776
  ok : ∀ a ∈ A, mayAdd a.1 a.2.1 a.2.2
theorem DM.nil : DM [] [] := ⟨fun _ _ => rfl, by simp, by simp, by simp⟩
theorem asum_bd {key : ByteArray} {f : Int → Int} {A : AddL} {m : Int} (hm : 0 ≤ m) (hf : ∀ t, 0 ≤ f t ∧ f t ≤ m) (hA : ∀ a ∈ A, 0 ≤ a.2.2 ∧ a.2.2 ≤ 1048576) : 0 ≤ asum key f A ∧ asum key f A ≤ A.length * (1048576 * m) := by
  induction A with
  | nil => simp [asum]
  | cons a r ih =>
    obtain ⟨i1, i2⟩ := ih (fun x hx => hA x (by simp [hx]))
    obtain ⟨a1, a2⟩ := hA a (by simp)
    obtain ⟨f1, f2⟩ := hf a.2.1
    have h1 : 0 ≤ a.2.2 * f a.2.1 := Int.mul_nonneg a1 f1
    have h2 : a.2.2 * f a.2.1 ≤ 1048576 * m := Int.mul_le_mul a2 f2 f1 (by omega)
    have h3 : 0 ≤ 1048576 * m := by omega
    simp only [asum, List.map_cons, List.sum_cons, List.length_cons] at i1 i2 ⊢
    push_cast
    rw [Int.add_mul]
    split <;> omega
theorem DM.bdA {C : Content} {A : AddL} (h : DM C A) : ∀ a ∈ A, 0 ≤ a.2.2 ∧ a.2.2 ≤ 1048576 := fun a ha => by
  have := h.ok a ha; unfold mayAdd at this; omega
theorem DM.add {C : Content} {A : AddL} (h : DM C A) (hl : A.length < 1048576) {key : ByteArray} {t n : Int} (hm : mayAdd key t n) : DM (putC C key t n) (A ++ [(key, t, n)]) := by
  have hT : ((AL.get C key).getD [] |>.map (·.1)).Nodup := by
    cases hg : AL.get C key with
    | none => simp
    | some T => exact h.nd _ (AL.get_mem hg)
  have hv : (AL.get ((AL.get C key).getD []) t).getD 0 = asum key (fun x => if x = t then 1 else 0) A := by
    rw [← dsumF_at hT, h.rep]
  have hb := asum_bd (key := key) (f := fun x => if x = t then 1 else 0) (m := 1) (by omega) (fun x => by split <;> omega) h.bdA
  rw [← hv] at hb
  have hm' := hm
  unfold mayAdd at hm'
  have hw : wrap64 ((AL.get ((AL.get C key).getD []) t).getD 0 + n) = (AL.get ((AL.get C key).getD []) t).getD 0 + n := by unfold wrap64; omega
  unfold putC
  rw [hw]
  refine ⟨fun k f => ?_, ?_, ?_, ?_⟩
  · rw [asum_append, asum_one]
    by_cases hk : key = k
    · subst hk
      rw [AL.get_put_same, if_pos rfl, Option.getD_some, dsumF_put, h.rep]
    · rw [AL.get_put_other _ _ (Ne.symm hk), if_neg hk, h.rep]; omega
  · intro c hc
    rcases AL.mem_put hc with rfl | hc
    · exact AL.put_nodup hT _ _
    · exact h.nd c hc
  · intro c hc
    rcases AL.mem_put hc with rfl | hc
    · intro x hx
      rcases AL.mem_put hx with rfl | hx
      · exact ⟨by omega, by omega⟩
      · cases hg : AL.get C key with
        | none => rw [hg] at hx; cases hx
        | some T => rw [hg] at hx; exact h.bd _ (AL.get_mem hg) x hx
    · exact h.bd c hc
  · intro a ha
    rcases List.mem_append.1 ha with ha | ha
    · exact h.ok a ha
    · simp at ha; subst ha; exact hm

/-- A Counter to which A was added. -/
def DecM (p : Nat) (half : Int) (A : AddL) : Asrt := Asrt.some' fun C : Content => Asrt.star (Asrt.fact (DM C A)) (DecA p half A.length C)
theorem decM_iff {B p : Nat} {half : Int} {A : AddL} {l : List Asrt} {w : World} : Owns B (DecM p half A :: l) w ↔ ∃ C, DM C A ∧ Owns B (DecA p half A.length C :: l) w := by
  unfold DecM
  rw [Owns.ex_iff]
  exact exists_congr fun C => by rw [Owns.star_iff, Owns.fact_iff]
/-- What is there behind one more. -/
def acc (A : AddL) (key : ByteArray) (t n : Int) : AddL := if mayAdd key t n then A ++ [(key, t, n)] else A
theorem acc_len (A : AddL) (key : ByteArray) (t n : Int) : (acc A key t n).length ≤ A.length + 1 := by unfold acc; split <;> simp
/-- What a weight makes of a tick, now. -/
def wf (half now : Int) : Int → Int := fun t => wt (now - t) half
theorem wf_bd' (half now t : Int) : 0 ≤ wf half now t ∧ wf half now t ≤ 1048576 := by
  unfold wf wt
  split
  · omega
  · split
    · omega
    · generalize hq : ((now - t) / max half 1).toNat = q
      have := half_pow q (by omega)
      omega

theorem newM {B : Nat} {l : List Asrt} {w : World} (half : Int) (hO : Owns B l w) (hB : B ≤ w.heap.size) :
    Calls Try.prog 14 #[.int .i64 half] w fun e w' => ∃ p, e = .returned (.pointer (some ⟨p, 0, none⟩)) ∧ Owns B (DecM p (hf half) [] :: l) w' ∧ Below B w w' := by
  refine (new_own half hO hB).mono ?_
  rintro e w' ⟨p, rfl, h1, h2⟩
  exact ⟨p, rfl, decM_iff.2 ⟨[], DM.nil, h1⟩, h2⟩
theorem addM {B p : Nat} {half : Int} {A : AddL} {l : List Asrt} {w : World} (key : ByteArray) (t n : Int) (hO : Owns B (DecM p half A :: l) w) (hB : B ≤ w.heap.size) (hl : A.length < 1048576) :
    Calls Try.prog 15 #[.pointer (some ⟨p, 0, none⟩), .string key, .int .i64 t, .int .i64 n] w fun e w' => e = .returned (.bool (decide (mayAdd key t n))) ∧ Owns B (DecM p half (acc A key t n) :: l) w' ∧ Below B w w' := by
  obtain ⟨C, hC, h⟩ := decM_iff.1 hO
  refine (add_own key t n h hB (by omega)).mono ?_
  rintro e w' ⟨rfl, h1, h2⟩
  unfold acc
  by_cases hm : mayAdd key t n
  · have hm2 : mayAdd key t n ∧ ((A.length : Nat) : Int) < 1048576 := ⟨hm, by omega⟩
    rw [if_pos hm2, if_pos hm2] at h1
    rw [if_pos hm]
    refine ⟨by rw [decide_eq_true hm2, decide_eq_true hm], decM_iff.2 ⟨_, hC.add hl hm, ?_⟩, h2⟩
    simpa using h1
  · have hm2 : ¬ (mayAdd key t n ∧ ((A.length : Nat) : Int) < 1048576) := fun h => hm h.1
    rw [if_neg hm2, if_neg hm2] at h1
    rw [if_neg hm]
    exact ⟨by rw [decide_eq_false hm2, decide_eq_false hm], decM_iff.2 ⟨C, hC, h1⟩, h2⟩
theorem atM {B p : Nat} {half : Int} {A : AddL} {l : List Asrt} {w : World} (key : ByteArray) (now : Int) (hO : Owns B (DecM p half A :: l) w) (hB : B ≤ w.heap.size) (hl : A.length ≤ 1048576) (hk : key.size ≤ maxLen) (hnow : 0 ≤ now)
    (hnow2 : now ≤ 9223372036854775807) (hh1 : 1 ≤ half) (hh2 : half ≤ 1099511627776) :
    Calls Try.prog 16 #[.pointer (some ⟨p, 0, none⟩), .string key, .int .i64 now] w fun e w' => e = .returned (.int .i64 (asum key (wf half now) A)) ∧ Owns B (DecM p half A :: l) w' ∧ Below B w w' := by
  obtain ⟨C, hC, h⟩ := decM_iff.1 hO
  refine (at_own key now h hB hk hnow2 hC.bd hh1 hh2).mono ?_
  rintro e w' ⟨rfl, h1, h2⟩
  refine ⟨?_, decM_iff.2 ⟨C, hC, h1⟩, h2⟩
  rw [if_neg (by omega)]
  have e1 : dsum half now ((AL.get C key).getD []) = asum key (wf half now) A := hC.rep key (wf half now)
  have hb := asum_bd (key := key) (A := A) (m := 1048576) (by omega) (wf_bd' half now) hC.bdA
  rw [e1]
  congr 2
  unfold wrap64
  omega
end Go.Proofs.Dcy
