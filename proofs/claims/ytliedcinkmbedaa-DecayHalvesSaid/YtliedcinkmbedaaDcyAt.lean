/- decay: At walked. -/
import Derived.Test.YtliedcinkmbedaaDcyPut
namespace Go.Proofs.Dcy
open Go.RowKit Go.Cic Go.ChangeMaps
open Go.Maps (Keyed)
set_option linter.unusedVariables false
set_option maxRecDepth 100000

attribute [local go_sem] kE_v tE_v
/-- What a key's ticks count. -/
def dsum (half now : Int) (T : List (Int × Int)) : Int := (T.map fun x => x.2 * wt (now - x.1) half).sum
theorem dsum_del {half now : Int} {L : List (Int × Int)} (hn : (L.map (·.1)).Nodup) {p : Int × Int} (hp : p ∈ L) : dsum half now (AL.del L p.1) = dsum half now L - p.2 * wt (now - p.1) half := by
  induction L with
  | nil => cases hp
  | cons q r ih =>
    simp only [List.map_cons, List.nodup_cons] at hn
    unfold AL.del at ih ⊢
    rcases List.mem_cons.1 hp with rfl | hp'
    · have h1 : r.filter (fun x => decide (x.1 ≠ p.1)) = r := AL.del_keep (fun x hx e => hn.1 (e ▸ List.mem_map.2 ⟨x, hx, rfl⟩))
      have h2 : decide (p.1 ≠ p.1) = false := by simp
      simp only [List.filter_cons, h2, Bool.false_eq_true, if_false]
      rw [h1]; simp only [dsum, List.map_cons, List.sum_cons]; omega
    · have h2 : decide (q.1 ≠ p.1) = true := by
        have : q.1 ≠ p.1 := fun e => hn.1 (e ▸ List.mem_map.2 ⟨p, hp', rfl⟩)
        simpa using this
      have := ih hn.2 hp'
      simp only [List.filter_cons, h2, if_true]
      simp only [dsum, List.map_cons, List.sum_cons] at this ⊢; omega

theorem wrap_add (a b : Int) : wrap64 (wrap64 a + wrap64 b) = wrap64 (a + b) := by unfold wrap64; omega

def AtPost (r : Int) (w : World) (e : Ending) (w' : World) : Prop := e = .returned (.int .i64 r) ∧ Below w.heap.size w w'

theorem at_neg (p : Nat) (key : ByteArray) (now : Int) (w : World) (h : now < 0) : Calls Try.prog 16 #[.pointer (some ⟨p, 0, none⟩), .string key, .int .i64 now] w (AtPost 0 w) := by
  go_enter Try.func16, Try.ntmps16
  go_wp2
  go_ret
  exact ⟨rfl, Below.refl _ _⟩

theorem at_none (p bm : Nat) (key : ByteArray) (now : Int) (M : List (ByteArray × Nat)) (w : World) (hnow : ¬ now < 0)
    (hp : w.cell? ⟨p, 1, none⟩ = some (.map (some bm))) (hM : MapT kE pV w bm M) (hget : AL.get M key = none) (hk : kE.ok key) :
    Calls Try.prog 16 #[.pointer (some ⟨p, 0, none⟩), .string key, .int .i64 now] w (AtPost 0 w) := by
  obtain ⟨ob, hr1, hr2⟩ := range_nil (k := 3) (e := 2) (t := 61) Try.underlying61 w
  have hr3 := fun ty => hr2 ty (w.alloc ob) (heap_alloc_new w ob)
  clear hr2
  go_enter Try.func16, Try.ntmps16
  go_wp2_with (at_lookup; refine wpList_lookupN (E := kE) (V := pV) rfl _ _ 57 rfl K9 Try.underlying57 rfl hM (zero61 _) key rfl hk hget ?_)
  refine wp_loop_rounds 1 ?_; rw [rounds_succ]
  go_wp2
  go_ret
  exact ⟨rfl, (Below.refl _ _).alloc (Nat.le_refl _) _⟩

theorem at_some (p bm bi : Nat) (half : Int) (key : ByteArray) (now : Int) (M : List (ByteArray × Nat)) (T : List (Int × Int)) (w : World) (hnow : ¬ now < 0) (hnow2 : now ≤ 9223372036854775807)
    (hp0 : w.cell? ⟨p, 0, none⟩ = some (.int .i64 half)) (hp : w.cell? ⟨p, 1, none⟩ = some (.map (some bm))) (hM : MapT kE pV w bm M) (hget : AL.get M key = some bi) (hk : kE.ok key)
    (hT : MapT tE iV w bi T) (hb : ∀ x ∈ T, 0 ≤ x.1 ∧ x.1 ≤ 1099511627776) (hh1 : 1 ≤ half) (hh2 : half ≤ 1099511627776) (hlt : p < w.heap.size) :
    Calls Try.prog 16 #[.pointer (some ⟨p, 0, none⟩), .string key, .int .i64 now] w (AtPost (wrap64 (dsum half now T)) w) := by
  go_enter Try.func16, Try.ntmps16
  go_wp2_with (first
    | (at_lookup; refine wpList_lookupS (E := kE) (V := pV) rfl _ _ 57 rfl K9 Try.underlying57 rfl hM (zero61 _) key rfl hk hget ?_)
    | (at_range; refine wpList_rangeT (E := tE) (V := iV) rfl _ 61 rfl Try.underlying61 rfl hT ?_; intro ob hrg0))
  try go_frame
  go_loopw [7] (fun v wr => ∃ L, RngT tE iV wr bi w.heap.size T L ∧ Below w.heap.size w wr ∧ v = .int .i64 (wrap64 (dsum half now T - dsum half now L))) (fun _ wr => wr.rangeLeft bi w.heap.size)
  case atStart => exact ⟨T, hrg0, (Below.refl _ _).alloc (Nat.le_refl _) _, by simp [wrap64]⟩
  case round =>
    obtain ⟨L, hrg, hbl, rfl⟩ := hrel
    have hp0' : wr.cell? ⟨p, 0, none⟩ = some (.int .i64 half) := (hbl.cell (p := ⟨p, 0, none⟩) hlt).trans hp0
    have hsz := hbl.size
    go_wp2_with (at_next; refine wpList_nextT (E := tE) (V := iV) rfl _ rfl rfl hrg ?_ ?_)
    · intro hL
      subst hL
      go_wp2
      go_ret
      refine ⟨ret_int ?_, hbl⟩
      simp [dsum]
    · intro qa qn w1 hq hk1 hs1 hrg1 hen
      have hp1 : w1.cell? ⟨p, 0, none⟩ = some (.int .i64 half) := (hk1.cell (p := ⟨p, 0, none⟩) (by simp; omega) (by simp; omega)).trans hp0'
      have hq1 : 0 ≤ qa := (hb _ (hrg.sub.subset hq)).1
      have hq2 : qa ≤ 1099511627776 := (hb _ (hrg.sub.subset hq)).2
      have hd := Hid.mk' (dsum_del (half := half) (now := now) hrg.nodup hq)
      have hlt := Hid.mk' (AL.del_length_lt hq)
      have hbl1 : Below w.heap.size w w1 := hbl.trans (hk1.below hsz (by omega))
      go_wp2_with (go_at_call 11; refine (weight_any _ _ _ (by omega) (by omega) (by omega) (by omega)).mono ?_; rintro e w' ⟨rfl, rfl⟩)
      go_roundw
      case rel => exact ⟨AL.del L qa, hrg1, hbl1, by have := hd.out; rw [this, wrap_add]; congr 2; omega⟩
      case measure => rw [hrg1.left, hrg.left]; exact hlt.out
end Go.Proofs.Dcy
