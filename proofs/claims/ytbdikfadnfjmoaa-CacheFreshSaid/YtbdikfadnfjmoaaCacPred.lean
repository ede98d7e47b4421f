/- cache: the predicates; Contains, ContainsFunc. -/
import Derived.Test.YtbdikfadnfjmoaaCacIndex
namespace Go.Proofs.Cac
open Go.RowKit Go.Cic Go.ChangeMaps
set_option linter.unusedVariables false
set_option maxRecDepth 100000
/-- 'k == key' -/
def isB (key y : ByteArray) : Bool := y.toList == key.toList
theorem out1_any (b : Nat) (key y : ByteArray) (w : World) (hc : w.cell? ⟨b, 0, none⟩ = some (.string key)) :
    Calls Try.prog 50 #[.string y, .pointer (some ⟨b, 0, none⟩)] w fun e w' => e = .returned (.bool (isB key y)) ∧ Below w.heap.size w w' := by
  go_enter Try.func50, Try.ntmps50
  go_wp2
  go_ret
  exact ⟨rfl, Below.refl _ _⟩
theorem index_any (ao : Option Addr) (n c : Nat) (l : List ByteArray) (key : ByteArray) (w : World) (hs : Lies w ao (sv l)) (hn : l.length = n) (hl : n ≤ 4294967296) :
    Calls Try.prog 41 #[.slice ao n c, .string key] w fun e w' => e = .returned (.int .i64 (findI (fun y => key.toList == y.toList) l)) ∧ w = w' := by
  go_enter Try.func41, Try.ntmps41
  go_wp2
  go_loop [5, 8] (fun _ i => ∃ k : Nat, k ≤ n ∧ i = .int .i64 k ∧ (l.take k).any (fun y => key.toList == y.toList) = false) (fun _ i => n - (intOf i).toNat)
  case atStart => exact ⟨0, Nat.zero_le _, rfl, rfl⟩
  case round =>
    obtain ⟨k, hk, rfl, hne⟩ := hrel
    have hne := Hid.mk' hne
    by_cases hlt : k < n
    · have hy : l[k]? = some l[k] := List.getElem?_eq_getElem (by omega)
      generalize l[k] = y at hy
      by_cases hf : (key.toList == y.toList) = true
      · have H := Hid.mk' (findI_hit (f := fun y => key.toList == y.toList) hy hf hne.out)
        go_wp2_with (refine wpList_idx rfl _ _ 27 rfl Try.underlying27 size9 rfl (k := k) rfl hs ((sv_len l).trans hn) (sv_at hy) ?_; intro b p hc hbb)
        go_ret
        exact ⟨by rw [H.out]; rfl, rfl⟩
      · have hf' : (key.toList == y.toList) = false := by simpa using hf
        have H := Hid.mk' (show (l.take (k + 1)).any (fun y => key.toList == y.toList) = false by
          rw [List.take_add_one, hy, List.any_append, hne.out]
          simp [hf'])
        go_wp2_with (refine wpList_idx rfl _ _ 27 rfl Try.underlying27 size9 rfl (k := k) rfl hs ((sv_len l).trans hn) (sv_at hy) ?_; intro b p hc hbb)
        go_round
        case rel => exact ⟨k + 1, by omega, by go_num, H.out⟩
        case measure => simp [intOf]; omega
    · have hk3 : l.take k = l := List.take_of_length_le (by omega)
      have H := Hid.mk' (findI_none (f := fun y => key.toList == y.toList) (l := l) (by rw [← hk3]; exact hne.out))
      go_wp2
      go_ret
      exact ⟨by rw [H.out]; rfl, rfl⟩
theorem findI_ge (f : ByteArray → Bool) (l : List ByteArray) : (0 ≤ findI f l) ↔ l.any f = true := by
  unfold findI
  split
  · rename_i h; exact ⟨fun _ => h, fun _ => by omega⟩
  · rename_i h; exact ⟨fun h2 => by omega, fun h2 => absurd h2 h⟩
theorem findI_bd (f : ByteArray → Bool) (l : List ByteArray) : -1 ≤ findI f l ∧ findI f l ≤ l.length := by
  unfold findI
  split
  · exact ⟨by omega, by have := List.findIdx_le_length (xs := l) (p := f); omega⟩
  · exact ⟨by omega, by omega⟩
theorem contains_any (ao : Option Addr) (n c : Nat) (l : List ByteArray) (key : ByteArray) (w : World) (hs : Lies w ao (sv l)) (hn : l.length = n) (hl : n ≤ 4294967296) :
    Calls Try.prog 29 #[.slice ao n c, .string key] w fun e w' => e = .returned (.bool (l.any fun y => key.toList == y.toList)) ∧ w = w' := by
  have h1 := index_any ao n c l key w hs hn hl
  have h2 := findI_ge (fun y => key.toList == y.toList) l
  have h3 := findI_bd (fun y => key.toList == y.toList) l
  obtain ⟨b, hb⟩ : ∃ b, Hid ((l.any fun y => key.toList == y.toList) = b) := ⟨_, rfl⟩
  rw [hb.out] at h2 ⊢
  generalize findI (fun y => key.toList == y.toList) l = i at *
  have H := Hid.mk' (show b = decide (0 ≤ i) by rw [Bool.eq_iff_iff, decide_eq_true_iff]; exact h2.symm)
  clear h2
  go_enter Try.func29, Try.ntmps29
  go_wp2_with (go_at_call 41; refine h1.mono ?_; rintro e w2 ⟨rfl, rfl⟩)
  go_ret
  exact ⟨ret_bool H.out.symm, rfl⟩
/-- Does a text stand among the deps? -/
def hitB (deps : List ByteArray) (y : ByteArray) : Bool := deps.any fun x => y.toList == x.toList
theorem hangs_any (b : Nat) (ad : Option Addr) (nd cd : Nat) (deps : List ByteArray) (y : ByteArray) (w : World) (hc : w.cell? ⟨b, 0, none⟩ = some (.slice ad nd cd)) (hs : Lies w ad (sv deps)) (hn : deps.length = nd) (hl : nd ≤ 4294967296) :
    Calls Try.prog 28 #[.string y, .pointer (some ⟨b, 0, none⟩)] w fun e w' => e = .returned (.bool (hitB deps y)) ∧ Below w.heap.size w w' := by
  have h1 := contains_any ad nd cd deps y w hs hn hl
  go_enter Try.func28, Try.ntmps28
  go_wp2_with (go_at_call 29; refine h1.mono ?_; rintro e w2 ⟨rfl, rfl⟩)
  go_ret
  exact ⟨rfl, Below.refl _ _⟩
theorem containsFunc_any (b : Nat) (ad : Option Addr) (nd cd : Nat) (deps : List ByteArray) (ao : Option Addr) (n c : Nat) (l : List ByteArray) (w : World) (hc : w.cell? ⟨b, 0, none⟩ = some (.slice ad nd cd)) (hd : Lies w ad (sv deps)) (hnd : deps.length = nd) (hld : nd ≤ 4294967296)
    (hs : Lies w ao (sv l)) (hn : l.length = n) (hl : n ≤ 4294967296) :
    Calls Try.prog 30 #[.slice ao n c, .func (.func 28) #[] #[.pointer (some ⟨b, 0, none⟩)]] w fun e w' => e = .returned (.bool (l.any (hitB deps))) ∧ Below w.heap.size w w' := by
  have h1 := indexFunc_28 b (hitB deps) ao n c l w hs hn hl (fun W y hb => hangs_any b ad nd cd deps y W (cell_later hb hc) (hd.below hb) hnd hld)
  have h2 := findI_ge (hitB deps) l
  have h3 := findI_bd (hitB deps) l
  obtain ⟨r, hr⟩ : ∃ r, Hid (l.any (hitB deps) = r) := ⟨_, rfl⟩
  rw [hr.out] at h2 ⊢
  generalize findI (hitB deps) l = i at *
  have H := Hid.mk' (show r = decide (0 ≤ i) by rw [Bool.eq_iff_iff, decide_eq_true_iff]; exact h2.symm)
  clear h2
  go_enter Try.func30, Try.ntmps30
  go_wp2_with (go_at_call 42; refine h1.mono ?_; rintro e w2 ⟨rfl, q2⟩)
  go_ret
  exact ⟨ret_bool H.out.symm, q2⟩
end Go.Proofs.Cac
