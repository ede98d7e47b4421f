/- cache: the document's list and the row with its entries go together. -/
import Derived.Test.YtbdikfadnfjmoaaCacPlain
namespace Go.Proofs.Cac
open Go.RowKit Go.Cic Go.Proofs.YtbdikfadnfjmoaaW.PrintWords Go.Proofs.Ytbdikfadnfjmoaa.PCachePlays
set_option linter.unusedVariables false
/-- The document's list tells the row and the entries. -/
structure Sim (size : Int) (ms : List S41) (ks : List ByteArray) (C : Tab) : Prop where
  keys : ks = keysM ms
  nodup : (keysM ms).Nodup
  has : ∀ e ∈ ms, AL.get C e.f0 = some (e.f1, e.f2)
  lacks : ∀ y, y ∉ keysM ms → AL.get C y = none
  size : (ms.length : Int) ≤ size
theorem Sim.start {size : Int} (h : 0 ≤ size) : Sim size [] [] [] := ⟨rfl, by simp, by simp, fun _ _ => rfl, h⟩
theorem keys_app (a b : List S41) : keysM (a ++ b) = keysM a ++ keysM b := List.map_append
theorem keys_filter (key : ByteArray) (ms : List S41) : keysM (ms.filter fun x => !isM key x) = (keysM ms).filter (nk key) := by
  induction ms with
  | nil => rfl
  | cons a r ih =>
    simp only [List.filter_cons, keysM, List.map_cons] at ih ⊢
    by_cases h : (!isM key a) = true
    · have h2 : nk key a.f0 = true := h
      rw [if_pos h, if_pos h2, List.map_cons, ih]
    · have h2 : ¬ nk key a.f0 = true := h
      rw [if_neg h, if_neg h2, ih]
theorem Sim.get_iff {size : Int} {ms : List S41} {ks : List ByteArray} {C : Tab} (h : Sim size ms ks C) (y : ByteArray) : AL.get C y = (ms.find? (isM y)).map fun e => (e.f1, e.f2) := by
  cases hf : ms.find? (isM y) with
  | none =>
    have := List.find?_eq_none.1 hf
    refine h.lacks y (fun hy => ?_)
    obtain ⟨e, he, rfl⟩ := List.mem_map.1 hy
    exact this e he (isB_iff.2 rfl)
  | some e =>
    have h1 := List.mem_of_find?_eq_some hf
    have h2 : isM y e = true := List.find?_some hf
    have h3 := isB_iff.1 h2
    rw [← h3]; exact h.has e h1
theorem put_nodup {ms : List S41} (h : (keysM ms).Nodup) (e : S41) : (keysM (ms.filter (fun x => !isM e.f0 x) ++ [e])).Nodup := by
  rw [keys_app, keys_filter]
  refine List.nodup_append.2 ⟨h.filter _, by simp, fun a ha b hb => ?_⟩
  simp at hb
  subst hb
  exact nk_iff.1 (List.mem_filter.1 ha).2
/-- What is got stands last. -/
theorem Sim.used {size : Int} {ms : List S41} {ks : List ByteArray} {C : Tab} (h : Sim size ms ks C) {e : S41} (he : e ∈ ms) : Sim size (ms.filter (fun x => !isM e.f0 x) ++ [e]) (ks.filter (nk e.f0) ++ [e.f0]) C := by
  refine ⟨?_, put_nodup h.nodup e, ?_, ?_, ?_⟩
  · rw [h.keys]; simp only [keysM, List.map_append, List.map_cons, List.map_nil]
    have := keys_filter e.f0 ms
    simp only [keysM] at this
    rw [this]
  · intro x hx
    rcases List.mem_append.1 hx with hx | hx
    · exact h.has x (List.mem_filter.1 hx).1
    · rw [List.mem_singleton.1 hx]; exact h.has e he
  · intro y hy
    refine h.lacks y (fun hy2 => hy ?_)
    rw [keys_app, keys_filter]
    by_cases hey : y = e.f0
    · subst hey; simp
    · exact List.mem_append_left _ (List.mem_filter.2 ⟨hy2, nk_iff.2 hey⟩)
  · have hlt : (ms.filter (fun x => !isM e.f0 x)).length < ms.length := by
      rcases Nat.lt_or_ge (ms.filter (fun x => !isM e.f0 x)).length ms.length with h1 | h1
      · exact h1
      · have := List.filter_eq_self.1 (List.Sublist.eq_of_length_le List.filter_sublist h1) e he
        simp [isM, isB] at this
    have := h.size
    simp only [List.length_append, List.length_cons, List.length_nil]
    omega
theorem putM_used {size : Int} {ms : List S41} {ks : List ByteArray} {C : Tab} (h : Sim size ms ks C) {e : S41} (he : e ∈ ms) : putM size ms e = ms.filter (fun x => !isM e.f0 x) ++ [e] := by
  have := (h.used he).size
  unfold putM
  rw [if_neg (by omega)]
/-- Put. -/
theorem Sim.put {size : Int} {ms : List S41} {ks : List ByteArray} {C : Tab} (h : Sim size ms ks C) (hs : 0 ≤ size) (key value : ByteArray) (deps : List ByteArray) : Sim size (putM size ms ⟨key, value, deps⟩) (putK size ks key) (putC size ks C key value deps) := by
  have hnd := put_nodup h.nodup ⟨key, value, deps⟩
  have hk : keysM (ms.filter (fun x => !isM key x) ++ [⟨key, value, deps⟩]) = ks.filter (nk key) ++ [key] := by
    rw [keys_app, keys_filter, h.keys]; rfl
  have hlen : ((ks.filter (nk key) ++ [key]).length : Int) = ((ms.filter (fun x => !isM key x) ++ [(⟨key, value, deps⟩ : S41)]).length : Int) := by rw [← hk, List.length_map]
  have hget : ∀ e ∈ ms.filter (fun x => !isM key x) ++ [(⟨key, value, deps⟩ : S41)], AL.get (AL.put C key (value, deps)) e.f0 = some (e.f1, e.f2) := by
    intro e he
    rcases List.mem_append.1 he with he | he
    · obtain ⟨h1, h2⟩ := List.mem_filter.1 he
      have : e.f0 ≠ key := by
        have : nk key e.f0 = true := h2
        exact nk_iff.1 this
      rw [AL.get_put_other _ _ this]
      exact h.has e h1
    · rw [List.mem_singleton.1 he]; exact AL.get_put_same _ _ _
  have hnone : ∀ y, y ∉ keysM (ms.filter (fun x => !isM key x) ++ [(⟨key, value, deps⟩ : S41)]) → AL.get (AL.put C key (value, deps)) y = none := by
    intro y hy
    rw [hk, h.keys] at hy
    have h1 : y ≠ key := fun e => hy (by subst e; simp)
    rw [AL.get_put_other _ _ h1]
    refine h.lacks y (fun h2 => hy (List.mem_append_left _ (List.mem_filter.2 ⟨h2, nk_iff.2 h1⟩)))
  unfold putM putK putC
  simp only
  rw [hlen]
  generalize hb : ms.filter (fun x => !isM key x) ++ [(⟨key, value, deps⟩ : S41)] = base at *
  rw [← hk]
  by_cases hlt : size < (base.length : Int)
  · rw [if_pos hlt, if_pos hlt, if_pos hlt]
    cases base with
    | nil => simp at hb
    | cons a r =>
      simp only [keysM, List.map_cons, List.headD_cons, List.drop_succ_cons, List.drop_zero] at hnd hget hnone hlt ⊢
      obtain ⟨hn1, hn2⟩ := List.nodup_cons.1 hnd
      have hne : ∀ x ∈ r, x.f0 ≠ a.f0 := fun x hx e => hn1 (e ▸ List.mem_map.2 ⟨x, hx, rfl⟩)
      have hrest : (r.map (·.f0)).filter (nk a.f0) = r.map (·.f0) := List.filter_eq_self.2 fun y hy => by
        obtain ⟨x, hx, rfl⟩ := List.mem_map.1 hy
        exact nk_iff.2 (hne x hx)
      have ha : nk a.f0 a.f0 = false := by
        have : ¬ nk a.f0 a.f0 = true := fun h => nk_iff.1 h rfl
        simpa using this
      refine ⟨?_, hn2, ?_, ?_, ?_⟩
      · rw [List.filter_cons, ha]; simp only [Bool.false_eq_true, if_false]; exact hrest
      · intro e he
        rw [AL.get_del_other _ (hne e he)]
        exact hget e (List.mem_cons_of_mem _ he)
      · intro y hy
        by_cases hya : y = a.f0
        · subst hya; exact AL.get_del_same _ _
        · rw [AL.get_del_other _ hya]
          exact hnone y (by
            intro h2
            rcases List.mem_cons.1 h2 with h2 | h2
            · exact hya h2
            · exact hy h2)
      · have h1 := congrArg List.length hb
        have h2 := List.length_filter_le (fun x => !isM key x) ms
        have h3 := h.size
        simp only [List.length_append, List.length_cons, List.length_nil] at h1 hlt
        omega
  · rw [if_neg hlt, if_neg hlt, if_neg hlt]
    exact ⟨rfl, hnd, hget, hnone, by omega⟩
/-! ### Touch -/
theorem any_mem {ys : List ByteArray} {y : ByteArray} : ys.any (isB y) = true ↔ y ∈ ys := by
  rw [List.any_eq_true]
  exact ⟨fun ⟨x, h1, h2⟩ => isB_iff.1 h2 ▸ h1, fun h => ⟨y, h, isB_iff.2 rfl⟩⟩
theorem any_cons (y z : ByteArray) (ys : List ByteArray) : (y :: ys).any (isB z) = (isB z y || ys.any (isB z)) := rfl
theorem isB_self (y : ByteArray) : isB y y = true := isB_iff.2 rfl
theorem isB_ne {y z : ByteArray} (h : z ≠ y) : isB z y = false := by
  have : ¬ isB z y = true := fun e => h (isB_iff.1 e).symm
  simpa using this
theorem tAll_spec (deps : List ByteArray) : ∀ (ys sk : List ByteArray) (sC : Tab) (sg : Nat), ys.Nodup →
    (ys.foldl (tStep deps) (sk, sC, sg)).1 = sk.filter (fun y => !(ys.any (isB y) && hitK sC deps y)) ∧ (∀ y, AL.get (ys.foldl (tStep deps) (sk, sC, sg)).2.1 y = if (ys.any (isB y) && hitK sC deps y) = true then none else AL.get sC y) ∧
      (ys.foldl (tStep deps) (sk, sC, sg)).2.2 = sg + ys.countP (hitK sC deps)
  | [], sk, sC, sg, _ => ⟨(List.filter_eq_self.2 fun y _ => by simp).symm, by simp, by simp⟩
  | y :: ys, sk, sC, sg, hn => by
    obtain ⟨hn1, hn2⟩ := List.nodup_cons.1 hn
    rw [List.foldl_cons]
    by_cases hh : hitK sC deps y = true
    · have e1 : tStep deps (sk, sC, sg) y = (sk.filter (nk y), AL.del sC y, sg + 1) := by unfold tStep; rw [if_pos hh]
      rw [e1]
      obtain ⟨i1, i2, i3⟩ := tAll_spec deps ys (sk.filter (nk y)) (AL.del sC y) (sg + 1) hn2
      have hsame : ∀ z, z ≠ y → hitK (AL.del sC y) deps z = hitK sC deps z := fun z hz => by unfold hitK; rw [AL.get_del_other _ hz]
      refine ⟨?_, ?_, ?_⟩
      · rw [i1, List.filter_filter]
        apply List.filter_congr
        intro z _
        by_cases hz : z = y
        · subst hz
          have : nk z z = false := by
            have : ¬ nk z z = true := fun h => nk_iff.1 h rfl
            simpa using this
          rw [this, any_cons, isB_self]; simp [hh]
        · rw [hsame z hz, show nk y z = true from nk_iff.2 hz, any_cons, isB_ne hz]; simp
      · intro z
        rw [i2 z]
        by_cases hz : z = y
        · subst hz
          rw [AL.get_del_same, any_cons, isB_self]; simp [hh]
        · rw [hsame z hz, AL.get_del_other _ hz, any_cons, isB_ne hz]; simp
      · rw [i3, List.countP_cons, if_pos hh]
        have : ys.countP (hitK (AL.del sC y) deps) = ys.countP (hitK sC deps) := List.countP_congr fun z hz => by rw [hsame z (fun e => hn1 (e ▸ hz))]
        rw [this]; omega
    · have hf : hitK sC deps y = false := by simpa using hh
      have e1 : tStep deps (sk, sC, sg) y = (sk, sC, sg) := by unfold tStep; rw [if_neg hh]
      rw [e1]
      obtain ⟨i1, i2, i3⟩ := tAll_spec deps ys sk sC sg hn2
      refine ⟨?_, ?_, ?_⟩
      · rw [i1]
        apply List.filter_congr
        intro z _
        by_cases hz : z = y
        · subst hz; simp [hf]
        · rw [any_cons, isB_ne hz]; simp
      · intro z
        rw [i2 z]
        by_cases hz : z = y
        · subst hz; simp [hf]
        · rw [any_cons, isB_ne hz]; simp
      · rw [i3, List.countP_cons, if_neg hh]; omega
theorem hit_swap (deps l : List ByteArray) : l.any (hitB deps) = deps.any fun d => l.any (isB d) := by
  rw [Bool.eq_iff_iff, List.any_eq_true, List.any_eq_true]
  constructor
  · rintro ⟨y, hy, h⟩
    obtain ⟨d, hd, h2⟩ := List.any_eq_true.1 h
    exact ⟨d, hd, List.any_eq_true.2 ⟨y, hy, h2⟩⟩
  · rintro ⟨d, hd, h⟩
    obtain ⟨y, hy, h2⟩ := List.any_eq_true.1 h
    exact ⟨y, hy, List.any_eq_true.2 ⟨d, hd, h2⟩⟩
theorem Sim.hit {size : Int} {ms : List S41} {ks : List ByteArray} {C : Tab} (h : Sim size ms ks C) (deps : List ByteArray) {e : S41} (he : e ∈ ms) : hitK C deps e.f0 = hitM deps e := by
  unfold hitK hitM
  rw [h.has e he]
  simp only [Option.map_some, Option.getD_some]
  exact hit_swap deps e.f2
theorem Sim.touch {size : Int} {ms : List S41} {ks : List ByteArray} {C : Tab} (h : Sim size ms ks C) (deps : List ByteArray) : Sim size (ms.filter fun e => !hitM deps e) (tAll deps ks C).1 (tAll deps ks C).2.1 ∧ (tAll deps ks C).2.2 + (ms.filter fun e => !hitM deps e).length = ms.length := by
  have hn := h.nodup
  rw [← h.keys] at hn
  obtain ⟨i1, i2, i3⟩ := tAll_spec deps ks ks C 0 hn
  have hkeys : ks.filter (fun y => !(ks.any (isB y) && hitK C deps y)) = keysM (ms.filter fun e => !hitM deps e) := by
    have h1 : ks.filter (fun y => !(ks.any (isB y) && hitK C deps y)) = ks.filter (fun y => !hitK C deps y) := List.filter_congr fun y hy => by rw [any_mem.2 hy]; simp
    rw [h1, h.keys]
    have key : ∀ l : List S41, (∀ e ∈ l, e ∈ ms) → (keysM l).filter (fun y => !hitK C deps y) = keysM (l.filter fun e => !hitM deps e) := by
      intro l
      induction l with
      | nil => intro _; rfl
      | cons a r ih =>
        intro hl
        have ih := ih (fun e he => hl e (by simp [he]))
        simp only [keysM, List.map_cons, List.filter_cons] at ih ⊢
        rw [h.hit deps (hl a (by simp)), ih]
        split <;> rfl
    exact key ms (fun _ h => h)
  have hcount : ks.countP (hitK C deps) + (ms.filter fun e => !hitM deps e).length = ms.length := by
    rw [h.keys]
    have key : ∀ l : List S41, (∀ e ∈ l, e ∈ ms) → (keysM l).countP (hitK C deps) + (l.filter fun e => !hitM deps e).length = l.length := by
      intro l
      induction l with
      | nil => intro _; rfl
      | cons a r ih =>
        intro hl
        have ih := ih (fun e he => hl e (by simp [he]))
        simp only [keysM, List.map_cons, List.countP_cons, List.filter_cons, List.length_cons] at ih ⊢
        rw [h.hit deps (hl a (by simp))]
        cases hitM deps a <;> simp only [Bool.not_true, Bool.not_false, if_true, if_false, Bool.false_eq_true, List.length_cons] <;> omega
    exact key ms (fun _ h => h)
  refine ⟨⟨i1.trans hkeys, ?_, ?_, ?_, ?_⟩, ?_⟩
  · exact (List.Sublist.map _ List.filter_sublist).nodup h.nodup
  · intro e he
    obtain ⟨h1, h2⟩ := List.mem_filter.1 he
    show AL.get (ks.foldl (tStep deps) (ks, C, 0)).2.1 e.f0 = _
    rw [i2, if_neg (by rw [h.hit deps h1]; simp at h2; simp [h2])]
    exact h.has e h1
  · intro y hy
    show AL.get (ks.foldl (tStep deps) (ks, C, 0)).2.1 y = _
    rw [i2]
    split
    · rfl
    · rename_i hc
      refine h.lacks y (fun h2 => ?_)
      obtain ⟨e, he, rfl⟩ := List.mem_map.1 h2
      rw [h.keys, h.hit deps he, any_mem.2 h2] at hc
      exact hy (List.mem_map.2 ⟨e, List.mem_filter.2 ⟨he, by
        simpa using hc⟩, rfl⟩)
  · have := List.length_filter_le (fun e => !hitM deps e) ms
    have := h.size
    omega
  · show (ks.foldl (tStep deps) (ks, C, 0)).2.2 + _ = _
    rw [i3]; omega
end Go.Proofs.Cac
