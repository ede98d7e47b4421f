/- pane: Drop, Copy, Width. -/
import Derived.Test.YtfolnnmgnkalkaaPanSum
import Derived.StillTailTactics
namespace Go.Proofs.Pan
open Go.RowKit Go.Cic Go.ChangeMaps
set_option linter.unusedVariables false
set_option maxRecDepth 100000
attribute [local go_sem] cE_v
/-- What stays behind a drop. -/
def kept (last : Int) (T : Tab) : Tab := T.filter fun x => decide (last ≤ x.1.2)
/-- A drop under way: T' is still there, L is still to come. -/
structure DropS (last : Int) (T T' L : Tab) : Prop where
  sub : T'.Sublist T
  all : ∀ x ∈ T, last ≤ x.1.2 → x ∈ T'
  rest : ∀ x ∈ T', x ∈ L ∨ last ≤ x.1.2
theorem DropS.start (last : Int) (T : Tab) : DropS last T T T := ⟨List.Sublist.refl _, fun x hx _ => hx, fun x hx => .inl hx⟩
theorem DropS.strike {last : Int} {T T' L : Tab} (h : DropS last T T' L) {c : Cell} (hc : c.2 < last) : DropS last T (AL.del T' c) (AL.del (AL.del L c) c) := by
  refine ⟨List.filter_sublist.trans h.sub, fun x hx hl => List.mem_filter.2 ⟨h.all x hx hl, ?_⟩, fun x hx => ?_⟩
  · have : x.1 ≠ c := fun e => by rw [e] at hl; omega
    simpa using this
  · obtain ⟨h1, h2⟩ := List.mem_filter.1 hx
    rcases h.rest x h1 with h3 | h3
    · exact .inl (List.mem_filter.2 ⟨List.mem_filter.2 ⟨h3, h2⟩, h2⟩)
    · exact .inr h3
theorem DropS.skip {last : Int} {T T' L : Tab} (h : DropS last T T' L) {c : Cell} (hc : ¬ c.2 < last) : DropS last T T' (AL.del L c) := by
  refine ⟨h.sub, h.all, fun x hx => ?_⟩
  rcases h.rest x hx with h3 | h3
  · by_cases e : x.1 = c
    · exact .inr (by rw [e]; omega)
    · exact .inl (List.mem_filter.2 ⟨h3, by simpa using e⟩)
  · exact .inr h3
theorem sub_filter {γ : Type} {q : γ → Bool} : ∀ {T' T : List γ}, T'.Sublist T → T.Nodup → (∀ x ∈ T, q x = true → x ∈ T') → (∀ x ∈ T', q x = true) → T' = T.filter q := by
  intro T' T hs
  induction hs with
  | slnil => intro _ _ _; rfl
  | @cons l₁ l₂ a hs ih =>
    intro hn h1 h2
    obtain ⟨hn1, hn2⟩ := List.nodup_cons.1 hn
    have ha : q a = false := by
      cases hq : q a with
      | false => rfl
      | true => exact absurd (hs.subset (h1 a (by simp) hq)) hn1
    rw [List.filter_cons_of_neg (by simp [ha])]
    exact ih hn2 (fun x hx hq => h1 x (by simp [hx]) hq) h2
  | @cons_cons l₁ l₂ a hs ih =>
    intro hn h1 h2
    obtain ⟨hn1, hn2⟩ := List.nodup_cons.1 hn
    rw [List.filter_cons_of_pos (h2 a (by simp))]
    rw [ih hn2 (fun x hx hq => ?_) (fun x hx => h2 x (by simp [hx]))]
    rcases List.mem_cons.1 (h1 x (by simp [hx]) hq) with e | e
    · subst e; exact absurd hx hn1
    · exact e
theorem DropS.done {last : Int} {T T' : Tab} (h : DropS last T T' []) (hn : (T.map (·.1)).Nodup) : T' = kept last T :=
  sub_filter h.sub (List.Pairwise.of_map (·.1) (fun _ _ h e => h (by rw [e])) hn) (fun x hx hq => h.all x hx (by simpa using hq)) (fun x hx => by
    rcases h.rest x hx with h | h
    · cases h
    · simpa using h)
theorem del_len {γ δ : Type} [DecidableEq γ] {L : List (γ × δ)} (hn : (L.map (·.1)).Nodup) {x : γ} {y : δ} (hp : (x, y) ∈ L) : (AL.del L x).length + 1 = L.length := by
  obtain ⟨j, hj⟩ := List.getElem?_of_mem hp
  obtain ⟨hl, _⟩ := List.getElem?_eq_some_iff.1 hj
  have := AL.del_erase hn hj
  rw [show x = (x, y).1 from rfl, this, List.length_eraseIdx]
  simp [hl]; omega
def DropPost (bm : Nat) (last : Int) (T : Tab) (w : World) (e : Ending) (w' : World) : Prop :=
  e = .returned (.int .i64 ((T.length - (kept last T).length : Nat) : Int)) ∧ MapT cE iV w' bm (kept last T) ∧ Keeps (· = bm) w w'
theorem drop_any (p bm : Nat) (width added : Int) (before : Int) (T : Tab) (w : World) (hr : w.heap[p]? = some (.cells #[.int .i64 width, .int .i64 added, .map (some bm)] 79 (0, 0))) (hM : MapT cE iV w bm T) (hne : p ≠ bm)
    (hw1 : 1 ≤ width) (hw2 : width ≤ 1099511627776) (h1 : -9223372036854775808 ≤ before) (h2 : before ≤ 9223372036854775807) (hT : T.length ≤ 1048576) :
    Calls Try.prog 23 #[.pointer (some ⟨p, 0, none⟩), .int .i64 before] w (DropPost bm (pn width before) T w) := by
  have c0 : w.cell? ⟨p, 0, none⟩ = some (.int .i64 width) := by rw [cell_of hr]; rfl
  have c2 : w.cell? ⟨p, 2, none⟩ = some (.map (some bm)) := by rw [cell_of hr]; rfl
  have hplt := (Array.getElem?_eq_some_iff.1 hr).1
  obtain ⟨last, hla⟩ : ∃ x, Hid (pn width before = x) := ⟨_, rfl⟩
  go_enter Try.func23, Try.ntmps23
  go_wp2_with fail
  refine (pane_any p width before _ c0 hw1 hw2 h1 h2).mono ?_
  rintro e w' ⟨rfl, rfl⟩
  rw [hla.out]
  go_wp2_with (at_range; refine wpList_rangeT (E := cE) (V := iV) rfl _ 77 rfl Try.underlying77 rfl hM ?_; intro ob hrg0)
  try go_frame
  go_loopw [6] (fun v wr => ∃ T' L, RngT cE iV wr bm w.heap.size T' L ∧ Keeps (· = bm) w wr ∧ v = .int .i64 ((T.length - T'.length : Nat) : Int) ∧ DropS last T T' L) (fun _ wr => wr.rangeLeft bm w.heap.size)
  case atStart => exact ⟨T, T, hrg0, (Keeps.refl _ _).alloc _, by simp, DropS.start _ _⟩
  case round =>
    obtain ⟨T', L, hrg, hbl, rfl, hS⟩ := hrel
    have hsz := hbl.size
    have hTl : T'.length ≤ T.length := hS.sub.length_le
    go_wp2_with (at_next; refine wpList_nextT (E := cE) (V := iV) rfl _ rfl rfl hrg ?_ ?_)
    · intro hL
      subst hL
      go_wp2
      go_ret
      have := hS.done hM.nodup
      subst this
      refine ⟨?_, ?_, hbl⟩
      · rw [hla.out]; rfl
      · rw [hla.out]; exact hrg.map
    · intro ck cp n w1 hq hk1 hz1 hrg1 hen
      have hlt := Hid.mk' (AL.del_length_lt hq)
      have hk2 : Keeps (· = bm) w w1 := hbl.trans hk1 (fun x hx e => absurd hx (by omega))
      by_cases hc : cp < last
      · have e2 : w1.cell? ⟨p, 2, none⟩ = some (.map (some bm)) := (hk2.cell (p := ⟨p, 2, none⟩) hplt hne).trans c2
        have hok : cE.ok (ck, cp) := hrg.map.ok _ (hrg.sub.subset hq)
        have HS := Hid.mk' (hS.strike (c := (ck, cp)) hc)
        have hdl := Hid.mk' (del_len hrg.map.nodup (hrg.sub.subset hq))
        have hrg2 := (hrg1.alloc (.cells #[.string ck, .int .i64 cp] 81)).drew
        obtain ⟨ob2, hdel, hrg3⟩ := hrg2.delete K81 Try.underlying77 hok
        simp only [cE_v] at hdel
        have e3 : (w1.alloc (.cells #[.string ck, .int .i64 cp] 81)).cell? ⟨p, 2, none⟩ = some (.map (some bm)) := by rw [alloc_cell _ _ (by simp; omega)]; exact e2
        go_wp2_with fail
        go_region_with (fail)
        all_goals go_wp2
        all_goals
          go_roundw
          case rel => exact ⟨_, _, hrg3, ((hk2.alloc _).drew).setBlock (fun _ => rfl) _, by have := hdl.out; congr 1; omega, HS.out⟩
          case measure =>
            rw [hrg3.left, hrg.left]
            exact Nat.lt_of_le_of_lt (List.length_filter_le _ _) hlt.out
      · have HS := Hid.mk' (hS.skip (c := (ck, cp)) hc)
        go_wp2
        go_roundw
        case rel => exact ⟨_, _, hrg1.alloc _, hk2.alloc _, rfl, HS.out⟩
        case measure => rw [(hrg1.alloc _).left, hrg.left]; exact hlt.out
theorem drop_own {B p : Nat} {width added : Int} {T : Tab} {l : List Asrt} {w : World} (before : Int) (hO : Owns B (PanA p width added T :: l) w) (hB : B ≤ w.heap.size) (hw1 : 1 ≤ width) (hw2 : width ≤ 1099511627776)
    (h1 : -9223372036854775808 ≤ before) (h2 : before ≤ 9223372036854775807) (hT : T.length ≤ 1048576) :
    Calls Try.prog 23 #[.pointer (some ⟨p, 0, none⟩), .int .i64 before] w fun e w' => e = .returned (.int .i64 ((T.length - (kept (pn width before) T).length : Nat) : Int)) ∧ Owns B (PanA p width added (kept (pn width before) T) :: l) w' ∧ Below B w w' := by
  obtain ⟨bm, h⟩ := pan_iff.1 hO
  have hne : p ≠ bm := by
    obtain ⟨S1, S2, ⟨_, e1⟩, ⟨_, e2⟩, h4⟩ := Owns.apart h
    intro e
    exact h4 p ((e1 p).2 rfl) ((e2 p).2 e)
  refine (drop_any p bm width added before T w h.cellsE.1 h.swap.mapE.1 hne hw1 hw2 h1 h2 hT).mono ?_
  rintro e w' ⟨rfl, hM, hk⟩
  obtain ⟨h5, h6⟩ := h.swap.step hB (step_map hM hk)
  exact ⟨rfl, pan_iff.2 ⟨bm, h5.swap⟩, h6⟩
end Go.Proofs.Pan
