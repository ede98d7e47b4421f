/- season: the document's functions. -/
import Derived.Test.YtfolnnmgnkalkaaSeaFns
namespace Go.Proofs.Pan
open Go.RowKit Go.Cic Go.ChangeMaps
set_option linter.unusedVariables false
set_option linter.unusedSimpArgs false
set_option maxRecDepth 100000
theorem co74 : Try.prog.cellsOf 74 = 3 := by kernel_rfl
/-- What is added, as the document has it. -/
abbrev Add' := ByteArray × Int × Int
noncomputable def rdAdd : Rd Try.prog 74 Add' :=
  Rd.struct Try.underlying74 (FRd.cons (Rd.str Try.underlying9 co9) rfl (FRd.cons (Rd.int .i64 Try.underlying3 co3) rfl (FRd.last (Rd.int .i64 Try.underlying2 co2) rfl))) co74
theorem size74 (w : World) : (sizeOf 74).run Try.prog w = .ok rdAdd.n w := by kernel_rfl
theorem add_at {w : World} {b p : Nat} {d : Add'} (h : ∀ j u, (rdAdd.cells d)[j]? = some u → w.cell? ⟨b, p + j, none⟩ = some u) :
    w.cell? ⟨b, p, none⟩ = some (.string d.1) ∧ w.cell? ⟨b, p + 1, none⟩ = some (.int .i64 d.2.1) ∧ w.cell? ⟨b, p + 2, none⟩ = some (.int .i64 d.2.2) :=
  ⟨h 0 _ rfl, h 1 _ rfl, h 2 _ rfl⟩
def actOf (a : Add') : Act' := (1, a.1, a.2.1, a.2.2)
/-- In: what a key has in a pane from a tick on. -/
def dinOne (key : ByteArray) (a b : Int) (x : Add') : Int := if mayAdd x.1 x.2.1 x.2.2 ∧ x.1 = key ∧ a ≤ x.2.1 ∧ x.2.1 < b then x.2.2 else 0
def din (key : ByteArray) (a b : Int) (l : List Add') : Int := (l.map (dinOne key a b)).sum
theorem din_snoc (key : ByteArray) (a b : Int) (l : List Add') (x : Add') : din key a b (l ++ [x]) = din key a b l + dinOne key a b x := by simp [din]
theorem dinOne_bd (key : ByteArray) (a b : Int) (x : Add') : 0 ≤ dinOne key a b x ∧ dinOne key a b x ≤ 1048576 := by
  unfold dinOne
  split
  · rename_i h; have := h.1; unfold mayAdd at this; omega
  · omega
theorem din_bd (key : ByteArray) (a b : Int) (l : List Add') : 0 ≤ din key a b l ∧ din key a b l ≤ l.length * 1048576 := by
  induction l with
  | nil => simp [din]
  | cons x r ih =>
    have e : din key a b (x :: r) = dinOne key a b x + din key a b r := by simp [din]
    have := dinOne_bd key a b x
    rw [e, List.length_cons]; push_cast; omega
/-- The document's sum is the panes'. -/
theorem din_asum {W x : Int} (hW : 1 ≤ W) (hx : x % W = 0) (key : ByteArray) (l : List Add') : din key x (x + W) l = asum W (inr key (pn W x) (pn W (x + W))) (l.map actOf) := by
  induction l with
  | nil => rfl
  | cons a r ih =>
    have e : din key x (x + W) (a :: r) = dinOne key x (x + W) a + din key x (x + W) r := by simp [din]
    rw [e, List.map_cons, asum_cons, ih]
    congr 1
    have hok : okA (actOf a) ↔ mayAdd a.1 a.2.1 a.2.2 := Iff.rfl
    have e1 : pn W (x + W) = pn W x + 1 := by
      unfold pn
      have : x + W = x + 1 * W := by omega
      rw [this, Int.add_mul_ediv_right _ _ (by omega)]
    have e2 : pn W x * W = x := by
      unfold pn
      have := Int.mul_ediv_add_emod x W
      rw [Int.mul_comm]; omega
    have h1 : pn W x ≤ pn W a.2.1 ↔ x ≤ a.2.1 := by
      have := (Int.le_ediv_iff_mul_le (c := W) (a := pn W x) (b := a.2.1) (by omega))
      unfold pn at *; rw [this, e2]
    have h2 : pn W a.2.1 < pn W (x + W) ↔ a.2.1 < x + W := by
      have := (Int.ediv_lt_iff_lt_mul (c := W) (a := a.2.1) (b := pn W x + 1) (by omega))
      rw [e1]
      unfold pn at *; rw [this, Int.add_mul, e2]; omega
    unfold dinOne inr
    show (if mayAdd a.1 a.2.1 a.2.2 ∧ a.1 = key ∧ x ≤ a.2.1 ∧ a.2.1 < x + W then a.2.2 else 0) = if okA (actOf a) then a.2.2 * (if a.1 = key ∧ pn W x ≤ pn W a.2.1 ∧ pn W a.2.1 < pn W (x + W) then 1 else 0) else 0
    simp only [h1, h2]
    by_cases hm : mayAdd a.1 a.2.1 a.2.2
    · rw [if_pos (hok.2 hm)]
      by_cases hc : a.1 = key ∧ x ≤ a.2.1 ∧ a.2.1 < x + W
      · rw [if_pos ⟨hm, hc⟩, if_pos hc]; omega
      · rw [if_neg (fun h => hc h.2), if_neg hc]; omega
    · rw [if_neg (fun h => hm h.1), if_neg (fun h => hm (hok.1 h))]
set_option maxHeartbeats 4000000 in
/-- Right. -/
theorem right_any (x : Add') (w : World) (h1 : x.1.size ≤ 9223372036854775807) : Calls Try.prog 55 #[.agg #[.string x.1, .int .i64 x.2.1, .int .i64 x.2.2]] w fun e w' => e = .returned (.bool (decide (mayAdd x.1 x.2.1 x.2.2))) ∧ Below w.heap.size w w' := by
  obtain ⟨key, at_, n⟩ := x
  dsimp only at *
  have hcs : (key.size < 1 ∧ ¬ mayAdd key at_ n) ∨ (1 ≤ key.size ∧ 24 < key.size ∧ ¬ mayAdd key at_ n) ∨ (1 ≤ key.size ∧ key.size ≤ 24 ∧ at_ < 0 ∧ ¬ mayAdd key at_ n) ∨ (1 ≤ key.size ∧ key.size ≤ 24 ∧ 0 ≤ at_ ∧ 1099511627776 < at_ ∧ ¬ mayAdd key at_ n) ∨ (1 ≤ key.size ∧ key.size ≤ 24 ∧ 0 ≤ at_ ∧ at_ ≤ 1099511627776 ∧ n < 0 ∧ ¬ mayAdd key at_ n) ∨ (1 ≤ key.size ∧ key.size ≤ 24 ∧ 0 ≤ at_ ∧ at_ ≤ 1099511627776 ∧ 0 ≤ n ∧ 1048576 < n ∧ ¬ mayAdd key at_ n) ∨ (1 ≤ key.size ∧ key.size ≤ 24 ∧ 0 ≤ at_ ∧ at_ ≤ 1099511627776 ∧ 0 ≤ n ∧ n ≤ 1048576 ∧ mayAdd key at_ n) := by
    unfold mayAdd; omega
  rcases hcs with ⟨a1, hs⟩ | ⟨a1, a2, hs⟩ | ⟨a1, a2, a3, hs⟩ | ⟨a1, a2, a3, a4, hs⟩ | ⟨a1, a2, a3, a4, a5, hs⟩ | ⟨a1, a2, a3, a4, a5, a6, hs⟩ | ⟨a1, a2, a3, a4, a5, a6, hs⟩
  all_goals
    first | rw [decide_eq_false hs] | rw [decide_eq_true hs]
    clear hs
    go_enter Try.func55, Try.ntmps55
    go_wp2_with fail
    go_ret
    first | exact ⟨rfl, (Below.refl _ _).alloc (Nat.le_refl _) _⟩ | exact ⟨ret_bool (decide_eq_true (by omega)), (Below.refl _ _).alloc (Nat.le_refl _) _⟩ | exact ⟨ret_bool (decide_eq_false (by omega)), (Below.refl _ _).alloc (Nat.le_refl _) _⟩
theorem agg_right (x : Add') : rdAdd.cells x = [.string x.1, .int .i64 x.2.1, .int .i64 x.2.2] := rfl
set_option maxHeartbeats 4000000 in
/-- In. -/
theorem in_any (A : Option Addr) (cap : Nat) (l : List Add') (key : ByteArray) (a W : Int) (w : World) (hl : l.length ≤ 1000) (hs : SlAt rdAdd w A l) (hW1 : 1 ≤ W) (hW2 : W ≤ 1099511627776) (ha1 : -1099511627776000 ≤ a) (ha2 : a ≤ 1099511627776) (hk : ∀ x ∈ l, x.1.size ≤ 1000) :
    Calls Try.prog 56 #[.slice A l.length cap, .string key, .int .i64 a, .int .i64 W] w fun e w' => e = .returned (.int .i64 (din key a (a + W) l)) ∧ Below w.heap.size w w' := by
  obtain ⟨b, hb⟩ : ∃ b, Hid (a + W = b) := ⟨_, Hid.mk' rfl⟩
  rw [hb.out]
  go_enter Try.func56, Try.ntmps56
  go_wp2_with fail
  go_loopw [9, 10] (fun s i wr => ∃ k : Nat, k ≤ l.length ∧ s = .int .i64 (din key a b (l.take k)) ∧ i = .int .i64 k ∧ Below w.heap.size w wr) (fun _ i _ => l.length - (intOf i).toNat)
  case atStart => exact ⟨0, Nat.zero_le _, rfl, rfl, Below.refl _ _⟩
  case round =>
    obtain ⟨k, hk2, rfl, rfl, hbr⟩ := hrel
    have hbd := din_bd key a b (l.take k)
    have hlk : (l.take k).length ≤ 1000 := by rw [List.length_take]; omega
    by_cases hlt : k < l.length
    · have hy : l[k]? = some (l[k]'(by omega)) := List.getElem?_eq_getElem (by omega)
      generalize (l[k]'(by omega)) = y at hy
      have hsn := din_snoc key a b (l.take k) y
      rw [← take_succ' hy] at hsn
      have hob := dinOne_bd key a b y
      have hyk := hk y (List.mem_of_getElem? hy)
      obtain ⟨bb, o, hidx, hc, hbl⟩ := hs.idx (cap := cap) Try.underlying61 size74 rfl hy
      have hcells : ∀ W', Below w.heap.size w W' → W'.cell? ⟨bb, o, none⟩ = some (.string y.1) ∧ W'.cell? ⟨bb, o + 1, none⟩ = some (.int .i64 y.2.1) ∧ W'.cell? ⟨bb, o + 2, none⟩ = some (.int .i64 y.2.2) := fun W' hb' => by
        obtain ⟨d0, d1, d2⟩ := add_at hc
        exact ⟨(hb'.cell (p := ⟨bb, o, none⟩) hbl).trans d0, (hb'.cell (p := ⟨bb, o + 1, none⟩) hbl).trans d1, (hb'.cell (p := ⟨bb, o + 2, none⟩) hbl).trans d2⟩
      obtain ⟨c0, c1, c2⟩ := hcells wr hbr
      have hr := right_any y wr (by omega)
      generalize hA : din key a b (l.take k) = A0 at *
      replace hsn := Hid.mk' hsn
      have hcs : (¬ mayAdd y.1 y.2.1 y.2.2 ∧ dinOne key a b y = 0) ∨ (mayAdd y.1 y.2.1 y.2.2 ∧ (y.1.toList == key.toList) = false ∧ dinOne key a b y = 0) ∨ (mayAdd y.1 y.2.1 y.2.2 ∧ (y.1.toList == key.toList) = true ∧ y.2.1 < a ∧ dinOne key a b y = 0) ∨ (mayAdd y.1 y.2.1 y.2.2 ∧ (y.1.toList == key.toList) = true ∧ a ≤ y.2.1 ∧ a + W ≤ y.2.1 ∧ dinOne key a b y = 0) ∨ (mayAdd y.1 y.2.1 y.2.2 ∧ (y.1.toList == key.toList) = true ∧ a ≤ y.2.1 ∧ y.2.1 < a + W ∧ dinOne key a b y = y.2.2) := by
        have hbo := hb.out
        unfold dinOne
        by_cases hm : mayAdd y.1 y.2.1 y.2.2
        · by_cases hke : y.1 = key
          · have hb : (y.1.toList == key.toList) = true := beq_iff_eq.2 (congrArg _ hke)
            by_cases h1 : a ≤ y.2.1
            · by_cases h2 : y.2.1 < b
              · exact .inr (.inr (.inr (.inr ⟨hm, hb, h1, by omega, by rw [if_pos ⟨hm, hke, h1, h2⟩]⟩)))
              · exact .inr (.inr (.inr (.inl ⟨hm, hb, h1, by omega, by rw [if_neg (fun h => h2 h.2.2.2)]⟩)))
            · exact .inr (.inr (.inl ⟨hm, hb, by omega, by rw [if_neg (fun h => h1 h.2.2.1)]⟩))
          · have hb : (y.1.toList == key.toList) = false := beq_eq_false_iff_ne.2 (fun e => hke (str_inj e))
            exact .inr (.inl ⟨hm, hb, by rw [if_neg (fun h => hke h.2.1)]⟩)
        · exact .inl ⟨hm, by rw [if_neg (fun h => hm h.1)]⟩
      have hmb : mayAdd y.1 y.2.1 y.2.2 → 0 ≤ y.2.1 ∧ y.2.1 ≤ 1099511627776 ∧ 0 ≤ y.2.2 ∧ y.2.2 ≤ 1048576 := fun h => by unfold mayAdd at h; omega
      clear hc hy hA
      rcases hcs with ⟨hm, hv⟩ | ⟨hm, t1, hv⟩ | ⟨hm, t1, t2, hv⟩ | ⟨hm, t1, t2, t3, hv⟩ | ⟨hm, t1, t2, t3, hv⟩
      · have hr := (decide_eq_false hm) ▸ hr
        rw [hv] at hsn hob
        go_wp2_with fail
        refine hr.mono ?_
        rintro e w2 ⟨rfl, b2⟩
        have hb2 := hbr.trans (b2.mono hbr.size)
        go_wp2_with fail
        go_roundw
        case rel => exact ⟨k + 1, by omega, by rw [hsn.out]; simp, by go_num, hb2⟩
        case measure => simp [intOf]; omega
      all_goals
        have hr := (decide_eq_true hm) ▸ hr
        obtain ⟨m1, m2, m3, m4⟩ := hmb hm
        rw [hv] at hsn hob
        go_wp2_with fail
        refine hr.mono ?_
        rintro e w2 ⟨rfl, b2⟩
        have hb2 := hbr.trans (b2.mono hbr.size)
        obtain ⟨d0, d1, d2⟩ := hcells w2 hb2
        go_wp2_with fail
        go_roundw
        case rel => exact ⟨k + 1, by omega, by rw [hsn.out]; try simp, by go_num, hb2⟩
        case measure => simp [intOf]; omega
    · have hkk : l.take k = l := List.take_of_length_le (by omega)
      rw [hkk] at hbd ⊢
      go_wp2_with fail
      go_ret
      exact ⟨rfl, hbr⟩
end Go.Proofs.Pan
