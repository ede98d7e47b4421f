/- 'for k, v := range m' over a map as a list of pairs: who is still to come. Own library text. -/
import Derived.Test.YtfolnnmgnkalkaaCicMap
import Derived.Maps.Range
namespace Go.Cic
set_option linter.unusedSectionVars false
set_option linter.unusedVariables false
set_option linter.unusedSimpArgs false
open Go.MapKept Go.ChangeMaps
open Go.Maps (Keyed)

variable {α β : Type} [DecidableEq α]

/-- Block r is an iterator over the map of block b, which holds T; L: what is still to come. -/
def RngT {P : Program} {k : TypeId} (E : Enc P k α) (V : β → Value) (w : World) (b r : Nat) (T L : List (α × β)) : Prop :=
  ∃ es clk since seen c0, w.heap[b]? = some (.map es clk) ∧ es.toList.map (fun e => (e.key, e.val)) = T.map (fun p => (E.v p.1, V p.2)) ∧ Stamped es clk ∧ (∀ p ∈ T, E.ok p.1) ∧
    w.heap[r]? = some (.mapIter (some b) since seen c0) ∧ (∀ x ∈ es.toList, x.born < since) ∧ since ≤ c0 ∧ since ≤ clk ∧
    (es.toList.filter (fun e => !seen.contains e.born)).map (fun e => (e.key, e.val)) = L.map (fun p => (E.v p.1, V p.2)) ∧ L.Sublist T

section
variable {P : Program} {k : TypeId} {E : Enc P k α} {V : β → Value} {w : World} {b r : Nat} {T L : List (α × β)}

theorem RngT.map (h : RngT E V w b r T L) : MapT E V w b T := by
  obtain ⟨es, clk, since, seen, c0, h1, h2, h3, h4, _⟩ := h
  exact ⟨es, clk, h1, h2, h3, h4⟩
theorem RngT.sub (h : RngT E V w b r T L) : L.Sublist T := by
  obtain ⟨es, clk, since, seen, c0, h1, h2, h3, h4, _, _, _, _, _, h⟩ := h
  exact h
theorem RngT.lt (h : RngT E V w b r T L) : r < w.heap.size := by
  obtain ⟨es, clk, since, seen, c0, h1, h2, h3, h4, h5, _⟩ := h
  exact (Array.getElem?_eq_some_iff.1 h5).1
theorem RngT.ne (h : RngT E V w b r T L) : r ≠ b := by
  obtain ⟨es, clk, since, seen, c0, h1, h2, h3, h4, h5, _⟩ := h
  intro e; rw [e, h1] at h5; cases h5
theorem RngT.of_block {w' : World} (h : RngT E V w b r T L) (hb : w'.heap[b]? = w.heap[b]?) (hr : w'.heap[r]? = w.heap[r]?) : RngT E V w' b r T L := by
  obtain ⟨es, clk, since, seen, c0, h1, h2, h3, h4, h5, r⟩ := h
  exact ⟨es, clk, since, seen, c0, hb.trans h1, h2, h3, h4, hr.trans h5, r⟩
theorem RngT.keeps {w' : World} {S : Nat → Prop} (h : RngT E V w b r T L) (hk : Keeps S w w') (hb : ¬ S b) (hr : ¬ S r) : RngT E V w' b r T L :=
  h.of_block (hk.block b h.map.lt hb) (hk.block r h.lt hr)
theorem RngT.nodup (h : RngT E V w b r T L) : (L.map (·.1)).Nodup := (h.sub.map _).nodup h.map.nodup

/-- 'range m'. -/
theorem MapT.range {t e : TypeId} (ht : P.underlying t = some (.map k e)) (h : MapT E V w b T) :
    ∃ o, (Instr.range t (.map (some b))).run P w = .ok (.pointer (some ⟨w.heap.size, 0, none⟩)) (w.alloc o) ∧ RngT E V (w.alloc o) b w.heap.size T T := by
  have hlt := h.lt
  obtain ⟨es, clk, hb, he, hs, hok⟩ := h
  refine ⟨_, run_range_map w t k e b es clk ht hb, ⟨es, clk, clk, #[], clk, ((MapKept.heap_alloc w _).2 b hlt).trans hb, he, hs, hok, (MapKept.heap_alloc w _).1, hs.1, Nat.le_refl _, Nat.le_refl _, ?_, List.Sublist.refl _⟩⟩
  simp only [List.contains_toArray, List.contains_nil, Bool.not_false]
  rw [List.filter_eq_self.2 (fun _ _ => by simp)]
  exact he

theorem mem_typed {es : List MapEntry} {T : List (α × β)} (he : es.map (fun e => (e.key, e.val)) = T.map (fun p => (E.v p.1, V p.2))) {e : MapEntry} (h : e ∈ es) : ∃ p ∈ T, E.v p.1 = e.key ∧ V p.2 = e.val := by
  have : (e.key, e.val) ∈ es.map (fun e => (e.key, e.val)) := List.mem_map.2 ⟨e, h, rfl⟩
  rw [he] at this
  obtain ⟨p, hp, hpe⟩ := List.mem_map.1 this
  simp only [Prod.mk.injEq] at hpe
  exact ⟨p, hp, hpe.1, hpe.2⟩

open Classical in
/-- Striking a key from entries and from pairs. -/
theorem strike_typed : ∀ {es : List MapEntry} {L : List (α × β)} (_ : es.map (fun e => (e.key, e.val)) = L.map (fun p => (E.v p.1, V p.2))) (a : α) (f : MapEntry → Bool) (_ : ∀ e ∈ es, f e = decide (e.key ≠ E.v a)),
    (es.filter f).map (fun e => (e.key, e.val)) = (AL.del L a).map (fun p => (E.v p.1, V p.2))
  | [], [], _, _, _, _ => rfl
  | [], _ :: _, h, _, _, _ => by simp at h
  | _ :: _, [], h, _, _, _ => by simp at h
  | e :: es, p :: L, h, a, f, hf => by
    simp only [List.map_cons, List.cons.injEq, Prod.mk.injEq] at h
    obtain ⟨⟨h1, h2⟩, h3⟩ := h
    have ih := strike_typed h3 a f (fun e he => hf e (by simp [he]))
    have hfe := hf e (by simp)
    unfold AL.del at ih ⊢
    by_cases hp : p.1 = a
    · have h4 : f e = false := by rw [hfe, h1, hp]; simp
      have h5 : decide (p.1 ≠ a) = false := by simp [hp]
      simp only [List.filter_cons, h4, h5, Bool.false_eq_true, if_false]
      exact ih
    · have h4 : f e = true := by rw [hfe, h1]; simpa using fun e => hp (E.inj _ _ e)
      have h5 : decide (p.1 ≠ a) = true := by simp [hp]
      simp only [List.filter_cons, h4, h5, if_true, List.map_cons, ih, h1, h2]

theorem toList_left (es : Array MapEntry) (seen : Array Nat) : (leftOf es seen).toList = es.toList.filter (fun e => !seen.contains e.born) := by
  unfold leftOf; simp

open Classical in
/-- THE STEP. -/
theorem RngT.next (h : RngT E V w b r T L) (ty : TypeId) :
    (L = [] ∧ (Instr.next (.pointer (some ⟨r, 0, none⟩)) false ty).run P w = .ok (.tuple #[.bool false]) w) ∨
    ∃ p ∈ L, ∃ w1 o, (w1 = w ∨ w1 = w.drew) ∧ (Instr.next (.pointer (some ⟨r, 0, none⟩)) false ty).run P w = .ok (.tuple #[.bool true, E.v p.1, V p.2]) (setBlock w1 r o) ∧
      RngT E V (setBlock w1 r o) b r T (AL.del L p.1) ∧ (Instr.entry (.pointer (some ⟨r, 0, none⟩))).run P (setBlock w1 r o) = .ok (.tuple #[E.v p.1, V p.2]) (setBlock w1 r o) := by
  have hne := h.ne
  obtain ⟨es, clk, since, seen, c0, hb, he, hs, hok, hr, hold, hsc, hsk, hL, hsub⟩ := h
  rcases run_next_at (P := P) w ty r b since c0 seen es clk hr hb hold hsc with ⟨h0, hrun⟩ | ⟨e, hem, w1, hal, hrun⟩
  · refine .inl ⟨?_, hrun⟩
    have : (es.toList.filter (fun e => !seen.contains e.born)) = [] := by
      rw [← toList_left]
      have : leftOf es seen = #[] := Array.eq_empty_of_size_eq_zero h0
      rw [this]
    rw [this] at hL
    simpa using hL.symm
  · have hem' := hem
    rw [toList_left] at hem'
    obtain ⟨p, hp, hpk, hpv⟩ := mem_typed hL hem'
    obtain ⟨hemT, hes⟩ := mem_left hem
    have hr1 : w1.heap[r]? = some (.mapIter (some b) since seen c0) := by rcases hal with rfl | rfl <;> exact hr
    have hb1 : w1.heap[b]? = some (.map es clk) := by rcases hal with rfl | rfl <;> exact hb
    have hlt1 : r < w1.heap.size := (Array.getElem?_eq_some_iff.1 hr1).1
    have hb' : (setBlock w1 r (.mapIter (some b) since (seen.push e.born) clk)).heap[b]? = some (.map es clk) := (setBlock_other w1 r _ (fun e1 => hne e1.symm)).trans hb1
    refine .inr ⟨p, hp, w1, .mapIter (some b) since (seen.push e.born) clk, hal, by rw [hpk, hpv]; exact hrun, ⟨es, clk, since, seen.push e.born, clk, hb', he, hs, hok, setBlock_same w1 r _ hlt1, hold, hsk, hsk, ?_, ?_⟩, ?_⟩
    · have e1 : es.toList.filter (fun x => !(seen.push e.born).contains x.born) = (es.toList.filter (fun x => !seen.contains x.born)).filter (fun x => !(x.born == e.born)) := by
        rw [List.filter_filter]
        apply List.filter_congr
        intro x _
        rw [contains_push]
        cases seen.contains x.born <;> cases (x.born == e.born) <;> rfl
      rw [e1]
      refine strike_typed hL p.1 _ (fun x hx => ?_)
      have hxT := (List.mem_filter.1 hx).1
      rw [hpk]
      by_cases hb2 : x.born = e.born
      · have := born_inj hs.2.1 hxT hemT hb2
        subst this
        simp
      · have h1 : (x.born == e.born) = false := by simpa using hb2
        rw [h1]
        have : x.key ≠ e.key := fun e3 => hb2 (congrArg MapEntry.born (entry_eq_of_key ((stamped_iff es clk).1 hs).2.2 hxT hemT e3))
        simp [this]
    · exact (List.filter_sublist).trans hsub
    · rw [hpk, hpv]
      exact run_entry_at _ r b since seen es clk e (setBlock_same w1 r _ hlt1) hb' hemT hs.2.1

/-- Of a nil map: nothing comes. -/
theorem range_nil {t e : TypeId} (ht : P.underlying t = some (.map k e)) (w : World) : ∃ o, (Instr.range t (.map none)).run P w = .ok (.pointer (some ⟨w.heap.size, 0, none⟩)) (w.alloc o) ∧
    ∀ ty (w' : World), w'.heap[w.heap.size]? = some o → (Instr.next (.pointer (some ⟨w.heap.size, 0, none⟩)) false ty).run P w' = .ok (.tuple #[.bool false]) w' := by
  refine ⟨.mapIter none 0 #[] 0, run_range_nilMap w t k e ht, fun ty w' h => ?_⟩
  simp [Instr.next, getObj, Sem.run_bind, Sem.run, h, Result.andThen]

open Classical in
/-- 'delete(m, k)' in the round. -/
theorem RngT.delete {t e : TypeId} (K : Keyed P k) (ht : P.underlying t = some (.map k e)) (h : RngT E V w b r T L) {a : α} (ha : E.ok a) :
    ∃ o, (∀ ty, (Builtin.delete_ #[t, k] ty #[.map (some b), E.v a]).run P w = .ok (.tuple #[]) (setBlock w b o)) ∧ RngT E V (setBlock w b o) b r (AL.del T a) (AL.del L a) := by
  have hne := h.ne
  have hnd := h.map.nodup
  have hlt := h.map.lt
  obtain ⟨es, clk, since, seen, c0, hb, he, hs, hok, hr, hold, hsc, hsk, hL, hsub⟩ := h
  obtain ⟨l, hl⟩ := E.key a ha
  have hr' : ∀ o, (setBlock w b o).heap[r]? = some (.mapIter (some b) since seen c0) := fun o => (setBlock_other w b o hne).trans hr
  rcases find_spec K he hok w ha with ⟨h1, h2, h3⟩ | ⟨j, e0, p, h1, h2, h3, h4, rfl, h6⟩
  · refine ⟨.map es clk, ?_, ⟨es, clk, since, seen, c0, setBlock_same w b _ hlt, ?_, hs, ?_, hr' _, hold, hsc, hsk, ?_, ?_⟩⟩
    · intro ty; simp [Builtin.delete_, run_underlying ht, MapKept.run_getObj_map hb, K.check w _ hl, h1, MapKept.run_setObj_map _ hb, Result.andThen, setBlock]
    · rw [AL.del_keep h2]; exact he
    · rw [AL.del_keep h2]; exact hok
    · rw [AL.del_keep (fun p hp => h2 p (hsub.subset hp))]; exact hL
    · rw [AL.del_keep h2, AL.del_keep (fun p hp => h2 p (hsub.subset hp))]; exact hsub
  · obtain ⟨hjl, hje⟩ := List.getElem?_eq_some_iff.1 h2
    have hjs : j < es.size := by simpa using hjl
    have hsb : (es.eraseIdxIfInBounds j).toList = es.toList.eraseIdx j := by
      unfold Array.eraseIdxIfInBounds
      rw [dif_pos hjs]
      simp
    have hflt : es.toList.eraseIdx j = es.toList.filter (fun x => decide (x.key ≠ E.v p.1)) := by
      have hst := ((stamped_iff es clk).1 hs).2.2
      have := filter_eq_eraseIdx (fun x : MapEntry => decide (x.key = E.v p.1)) es.toList j e0 h2 (by simpa using h3) (hst.imp (fun {a b} hab hc => hab (by
        have h7 := hc.1; have h8 := hc.2
        simp at h7 h8
        rw [h7, h8])))
      rw [← this]
      apply List.filter_congr
      intro x _
      simp
    refine ⟨.map (es.eraseIdxIfInBounds j) clk, ?_, ⟨_, _, since, seen, c0, setBlock_same w b _ hlt, ?_, stamped_erase hs j, ?_, hr' _, ?_, hsc, hsk, ?_, ?_⟩⟩
    · intro ty; simp [Builtin.delete_, run_underlying ht, MapKept.run_getObj_map hb, K.check w _ hl, h1, MapKept.run_setObj_map _ hb, Result.andThen, setBlock]
    · rw [hsb, map_eraseIdx, he, AL.del_erase hnd h4, map_eraseIdx]
    · intro q hq
      exact hok q (List.mem_filter.1 hq).1
    · intro x hx
      rw [hsb] at hx
      exact hold x (List.mem_of_mem_eraseIdx hx)
    · rw [hsb, hflt, List.filter_filter]
      have e1 : es.toList.filter (fun x => !seen.contains x.born && decide (x.key ≠ E.v p.1)) = (es.toList.filter (fun x => !seen.contains x.born)).filter (fun x => decide (x.key ≠ E.v p.1)) := by
        rw [List.filter_filter]
        apply List.filter_congr
        intro x _
        rw [Bool.and_comm]
      rw [e1]
      exact strike_typed hL p.1 _ (fun x _ => rfl)
    · exact hsub.filter _
end

theorem RngT.alloc {P : Program} {k : TypeId} {E : Enc P k α} {V : β → Value} {w : World} {b r : Nat} {T L : List (α × β)} (h : RngT E V w b r T L) (o : Obj) : RngT E V (w.alloc o) b r T L :=
  h.keeps ((Keeps.refl (fun _ => False) w).alloc o) (fun h => h) (fun h => h)
theorem RngT.drew {P : Program} {k : TypeId} {E : Enc P k α} {V : β → Value} {w : World} {b r : Nat} {T L : List (α × β)} (h : RngT E V w b r T L) : RngT E V w.drew b r T L := h
theorem MapT.alloc {P : Program} {k : TypeId} {E : Enc P k α} {V : β → Value} {w : World} {b : Nat} {T : List (α × β)} (h : MapT E V w b T) (o : Obj) : MapT E V (w.alloc o) b T :=
  h.keeps ((Keeps.refl (fun _ => False) w).alloc o) (fun h => h)
/-- HOW MANY ARE STILL TO COME, read off the world: the loop's measure. -/
theorem RngT.left {P : Program} {k : TypeId} {E : Enc P k α} {V : β → Value} {w : World} {b r : Nat} {T L : List (α × β)} (h : RngT E V w b r T L) : w.rangeLeft b r = L.length := by
  obtain ⟨es, clk, since, seen, c0, hb, he, hs, hok, hr, hold, hsc, hsk, hL, hsub⟩ := h
  simp only [World.rangeLeft, hb, hr]
  have := congrArg List.length hL
  rw [List.length_map, List.length_map, ← toList_left] at this
  simpa using this
theorem AL.del_length_lt {L : List (α × β)} {p : α × β} (hp : p ∈ L) : (AL.del L p.1).length < L.length := by
  unfold AL.del
  rcases Nat.lt_or_ge (L.filter (fun q => decide (q.1 ≠ p.1))).length L.length with h | h
  · exact h
  · have := List.filter_eq_self.1 (List.Sublist.eq_of_length_le List.filter_sublist h) p hp
    simp at this
end Go.Cic
