/- pane: the document's Sum. -/
import Derived.Test.YtfolnnmgnkalkaaPanRef
import Derived.Deep.QuietTactic
import Derived.BigQuiet
namespace Go.Proofs.Pan
open Go.RowKit Go.Cic Go.ChangeMaps
set_option linter.unusedVariables false
set_option maxRecDepth 100000
theorem quiet_left {P : Program} {f : FuncId} {args : Array Value} {w : World} {n : Nat} {v : Value} (h : Calls P f args (w.drewN n) fun e w' => e = .returned v ∧ w.drewN n = w') : Calls P f args (w.drewN n) fun e w'' => e = .returned v ∧ ∃ m, w'' = w.drewN m :=
  h.mono fun _ _ ⟨he, hm⟩ => ⟨he, n, hm.symm⟩
/-- The document's sum. -/
def rsum (key : ByteArray) (a b : Int) (L : List Sm) : Int := (L.map fun s => s.2.2 * inr key a b (s.1, s.2.1)).sum
theorem rsum_snoc (key : ByteArray) (a b : Int) (L : List Sm) (s : Sm) : rsum key a b (L ++ [s]) = rsum key a b L + s.2.2 * inr key a b (s.1, s.2.1) := by simp [rsum]
theorem rsum_bd {key : ByteArray} {a b : Int} {L : List Sm} (h : ∀ s ∈ L, 0 ≤ s.2.2 ∧ s.2.2 ≤ 1048576) : 0 ≤ rsum key a b L ∧ rsum key a b L ≤ L.length * 1048576 := by
  induction L with
  | nil => simp [rsum]
  | cons x r ih =>
    have e : rsum key a b (x :: r) = x.2.2 * inr key a b (x.1, x.2.1) + rsum key a b r := by simp [rsum]
    have := ih (fun s hs => h s (by simp [hs]))
    obtain ⟨h1, h2⟩ := h x (by simp)
    obtain ⟨f1, f2⟩ := inr_01 key a b (x.1, x.2.1)
    have h3 := Int.mul_nonneg h1 f1
    have h4 : x.2.2 * inr key a b (x.1, x.2.1) ≤ x.2.2 * 1 := Int.mul_le_mul_of_nonneg_left f2 h1
    rw [e, List.length_cons]; push_cast; omega
set_option maxHeartbeats 2000000 in
theorem refsum_any (p : Nat) (width : Int) (key : ByteArray) (from_ to_ : Int) (ao : Option Addr) (n c : Nat) (L : List Sm) (w : World) (hp : w.cell? ⟨p, 0, none⟩ = some (.int .i64 width)) (hv : w.cell? ⟨p, 1, none⟩ = some (.slice ao n c)) (hs : SlAt rdSum w ao L) (hn : L.length = n) (hl : n ≤ 1000)
    (hL : ∀ s ∈ L, 0 ≤ s.2.2 ∧ s.2.2 ≤ 1048576) (h1 : 1 ≤ width) (h2 : width ≤ 1099511627776) (hf1 : -9223372036854775808 ≤ from_) (hf2 : from_ ≤ 9223372036854775807) (ht1 : -9223372036854775808 ≤ to_) (ht2 : to_ ≤ 9223372036854775807) :
    Calls Try.prog 28 #[.pointer (some ⟨p, 0, none⟩), .string key, .int .i64 from_, .int .i64 to_] w fun e w' => e = .returned (.int .i64 (rsum key (pn width from_) (pn width to_) L)) ∧ ∃ m, w' = w.drewN m := by
  have hq1 : ∀ m', Calls Try.prog 52 #[.pointer (some ⟨p, 0, none⟩), .int .i64 from_] (w.drewN m') fun e w' => e = .returned (.int .i64 (pn width from_)) ∧ w.drewN m' = w' := fun m' => refpane_any p width from_ (w.drewN m') hp h1 h2 hf1 hf2
  have hq2 : ∀ m', Calls Try.prog 52 #[.pointer (some ⟨p, 0, none⟩), .int .i64 to_] (w.drewN m') fun e w' => e = .returned (.int .i64 (pn width to_)) ∧ w.drewN m' = w' := fun m' => refpane_any p width to_ (w.drewN m') hp h1 h2 ht1 ht2
  generalize pn width from_ = F at hq1 ⊢
  generalize pn width to_ = T at hq2 ⊢
  go_enter Try.func28, Try.ntmps28
  go_wp2
  go_loopw [9, 10] (fun s i wr => ∃ k m : Nat, k ≤ n ∧ s = .int .i64 (rsum key F T (L.take k)) ∧ i = .int .i64 k ∧ wr = w.drewN m) (fun _ i _ => n - (intOf i).toNat)
  case atStart => exact ⟨0, 0, Nat.zero_le _, rfl, rfl, rfl⟩
  case round =>
    obtain ⟨k, m, hk, rfl, rfl, rfl⟩ := hrel
    have hbd := rsum_bd (key := key) (a := F) (b := T) (L := L.take k) (fun s hs => hL s (List.mem_of_mem_take hs))
    have hlk : (L.take k).length ≤ 1000 := by rw [List.length_take]; omega
    by_cases hlt : k < n
    · have hy : L[k]? = some (L[k]'(by omega)) := List.getElem?_eq_getElem (by omega)
      generalize (L[k]'(by omega)) = y at hy
      have hsn := rsum_snoc key F T (L.take k) y
      rw [← take_succ' hy] at hsn
      obtain ⟨hy1, hy2⟩ := hL y (List.mem_of_getElem? hy)
      obtain ⟨bb, o, hidx, hc, _⟩ := hs.idx (cap := c) Try.underlying45 size89 hn hy
      obtain ⟨ky, pa, nn⟩ := y
      obtain ⟨d0, d1, d2⟩ := sum_at hc
      dsimp only at hy1 hy2 hsn d0 d1 d2
      generalize hA : rsum key F T (L.take k) = A0 at *
      obtain ⟨A1, A2⟩ := hbd
      have A3 : A0 ≤ 1048576000 := by omega
      have hq1' : ∀ m', Calls Try.prog 52 #[.pointer (some ⟨p, 0, none⟩), .int .i64 from_] ((w.drewN m).drewN m') fun e w' => e = .returned (.int .i64 F) ∧ (w.drewN m).drewN m' = w' := fun m' => by rw [World.drewN_drewN]; exact hq1 _
      have hq2' : ∀ m', Calls Try.prog 52 #[.pointer (some ⟨p, 0, none⟩), .int .i64 to_] ((w.drewN m).drewN m') fun e w' => e = .returned (.int .i64 T) ∧ (w.drewN m).drewN m' = w' := fun m' => by rw [World.drewN_drewN]; exact hq2 _
      generalize hW : w.drewN m = wq at *
      have c0 : wq.cell? ⟨p, 0, none⟩ = some (.int .i64 width) := by rw [← hW]; exact hp
      have c1 : wq.cell? ⟨p, 1, none⟩ = some (.slice ao n c) := by rw [← hW]; exact hv
      have e0 : wq.cell? ⟨bb, o, none⟩ = some (.string ky) := by rw [← hW]; exact d0
      have e1 : wq.cell? ⟨bb, o + 1, none⟩ = some (.int .i64 pa) := by rw [← hW]; exact d1
      have e2 : wq.cell? ⟨bb, o + 2, none⟩ = some (.int .i64 nn) := by rw [← hW]; exact d2
      replace hW := Hid.mk' hW
      replace hsn := Hid.mk' hsn
      clear hy hc d0 d1 d2 A2 hA hq1 hq2 hp hv hs hL hlk
      have hcs : (ky.toList == key.toList) = false ∧ inr key F T (ky, pa) = 0 ∨ ((ky.toList == key.toList) = true ∧ decide (F ≤ pa) = false ∧ inr key F T (ky, pa) = 0) ∨ ((ky.toList == key.toList) = true ∧ decide (F ≤ pa) = true ∧ decide (pa < T) = false ∧ inr key F T (ky, pa) = 0) ∨ ((ky.toList == key.toList) = true ∧ decide (F ≤ pa) = true ∧ decide (pa < T) = true ∧ inr key F T (ky, pa) = 1) := by
        by_cases hke : ky = key
        · have hb : (ky.toList == key.toList) = true := beq_iff_eq.2 (congrArg _ hke)
          by_cases hF : F ≤ pa
          · by_cases hT : pa < T
            · exact .inr (.inr (.inr ⟨hb, decide_eq_true hF, decide_eq_true hT, inr_yes (c := (ky, pa)) hke hF hT⟩))
            · exact .inr (.inr (.inl ⟨hb, decide_eq_true hF, decide_eq_false hT, inr_no (fun h => hT h.2.2)⟩))
          · exact .inr (.inl ⟨hb, decide_eq_false hF, inr_no (fun h => hF h.2.1)⟩)
        · exact .inl ⟨beq_eq_false_iff_ne.2 (fun e => hke (str_inj e)), inr_no (fun h => hke h.1)⟩
      rcases hcs with ⟨t1, hi⟩ | ⟨t1, t2, hi⟩ | ⟨t1, t2, t3, hi⟩ | ⟨t1, t2, t3, hi⟩
      all_goals
        rw [hi] at hsn
        clear hi
        go_wp2_with fail
        go_quiet (first | (go_at_call 52; with_reducible exact quiet_left (hq1' _)) | (go_at_call 52; with_reducible exact quiet_left (hq2' _)))
        go_wp2_with fail
        go_roundw
        case rel => exact ⟨k + 1, m + nq, by omega, by rw [hsn.out]; simp, by go_num, by rw [← hW.out, World.drewN_drewN]⟩
        case measure => simp [intOf]; omega
    · have hkk : L.take k = L := List.take_of_length_le (by omega)
      rw [hkk] at hbd ⊢
      go_wp2_with fail
      go_ret
      exact ⟨rfl, m, rfl⟩
end Go.Proofs.Pan
