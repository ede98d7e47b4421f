/- cache: CacheFresh. -/
import Derived.Test.YtbdikfadnfjmoaaCacRef
import Derived.Test.YtbdikfadnfjmoaaCacFreshPut
import Derived.Outline
import Derived.Deep.LoopGhost
import Derived.Deep.CutBlock
import Derived.Deep.DeepCutAuto
namespace Go.Proofs.Cac
open Go.RowKit Go.Cic Go.ChangeMaps Go.Proofs.YtbdikfadnfjmoaaW.PrintWords Go.Proofs.Ytbdikfadnfjmoaa.PCachePlays
set_option linter.unusedVariables false
set_option maxRecDepth 100000
theorem putK_mem {size : Int} {ks : List ByteArray} {k y : ByteArray} (h : y ∈ putK size ks k) : y = k ∨ y ∈ ks := by
  unfold putK at h
  split at h
  · exact (out_mem k y).1 (List.mem_filter.1 h).1
  · exact (out_mem k y).1 h
theorem putC_mem {size : Int} {ks : List ByteArray} {C : Tab} {k v : ByteArray} {d : List ByteArray} {c : ByteArray × Ent} (h : c ∈ putC size ks C k v d) : c = (k, (v, d)) ∨ c ∈ C := by
  unfold putC at h
  split at h
  · exact AL.mem_put (List.mem_filter.1 h).1
  · exact AL.mem_put h
theorem three_ways {put touched : Bool} {P : Prop} (h : put = true → touched = false → P) : put = false ∨ (put = true ∧ touched = true) ∨ (put = true ∧ touched = false ∧ P) := by
  cases put with
  | false => exact .inl rfl
  | true =>
    cases touched with
    | true => exact .inr (.inl ⟨rfl, rfl⟩)
    | false => exact .inr (.inr ⟨rfl, rfl, h rfl rfl⟩)
/-- The state between two deeds. -/
def FrS (w0 : World) (p : Nat) (size : Int) (key : ByteArray) (m : Nat) (vv vp vt vd vo : Value) (wr : World) : Prop := ∃ (value : ByteArray) (put touched : Bool) (Ad : Option Addr) (cd : Nat) (dl os ks : List ByteArray) (C : Tab),
  vv = .string value ∧ vp = .bool put ∧ vt = .bool touched ∧ vd = .slice Ad dl.length cd ∧ (∀ W, Below w0.heap.size w0 W → Lies W Ad (sv dl)) ∧ dl.length ≤ 10 ∧ os.length ≤ m ∧ Fr size key ks C value put touched dl os ∧ (∀ c ∈ C, c.2.2.length ≤ 10) ∧ (∀ y ∈ ks, y.size ≤ maxLen) ∧
  Owns w0.heap.size [CacA p size ks C, Asrt.row 9 vo (sv os)] wr ∧ Below w0.heap.size w0 wr
set_option maxHeartbeats 8000000 in
theorem law_fresh (size : Int) (A : Option Addr) (c : Nat) (l : List S29) (key : ByteArray) (w : World) (hF : Kd.F k29 w (fun k => k < w.heap.size) A l.length l) (hc : l.length ≤ c) (hok : ∀ d ∈ l, (Lit.int .u8 d.f0).wf = true ∧ d.f1.size ≤ maxLen ∧ d.f2.size ≤ maxLen)
    (hs1 : -9223372036854775808 ≤ size) (hs2 : size ≤ 9223372036854775807) (hkey : key.size ≤ maxLen) :
    Calls Try.prog 3 #[.int .i64 size, .slice A l.length c, .string key] w fun e w' => e = .returned (.bool true) ∧ Below w.heap.size w w' := by
  obtain ⟨hk, hr, hheavy, hfacts⟩ := heavy_f l
  have hlv := lives_any w
  have hnow : ∀ W, Below w.heap.size w W → Kd.C k29 W A l.length l := fun W hb => hF W (fun k hk _ => hb.block k hk)
  have hhv := fun W (hb : Below w.heap.size w W) => ciceronelaw29_heavy.calls hk A c l hr W (hnow W hb) hc hheavy
  go_enter Try.func3, Try.ntmps3
  go_wp2_with fail
  refine hlv.mono ?_
  rintro e w1 ⟨rfl, b1⟩
  have hhv1 := hhv w1 b1
  by_cases hcase : hr = true ∨ 100 < key.size ∨ size < 1 ∨ 4096 < size
  · have hcs : hr = true ∨ (hr = false ∧ 100 < key.size) ∨ (hr = false ∧ key.size ≤ 100 ∧ size < 1) ∨ (hr = false ∧ key.size ≤ 100 ∧ 1 ≤ size ∧ 4096 < size) := by
      cases hr <;> simp_all <;> omega
    clear hcase
    rcases hcs with rfl | ⟨rfl, h2⟩ | ⟨rfl, h3, h2⟩ | ⟨rfl, h3, h4, h2⟩
    all_goals
      go_wp2_with fail
      refine hhv1.mono ?_
      rintro e w2 ⟨rfl, d2⟩
      have b2 := d2.below
      go_wp2_with fail
      go_ret
      exact ⟨rfl, b1.trans (b2.mono b1.size)⟩
  · obtain ⟨rfl, hkey1, hsz0, hsz1⟩ : hr = false ∧ key.size ≤ 100 ∧ 1 ≤ size ∧ size ≤ 4096 := by cases hr <;> simp_all
    clear hcase
    obtain ⟨hl60, hl10⟩ := hfacts rfl
    have hszf : szf size = size := by unfold szf; omega
    clear hheavy hfacts hhv hlv hnow
    go_wp2_with fail
    refine hhv1.mono ?_
    rintro e w2 ⟨rfl, d2⟩
    have b2 := b1.trans (d2.below.mono b1.size)
    have hnw := new_own size (Owns.nil w.heap.size w2) b2.size
    rw [hszf] at hnw
    clear hhv1 d2 b1 hszf
    go_wp2_with fail
    refine hnw.mono ?_
    rintro e w3 ⟨p, rfl, hO3, b3⟩
    have b3' := b2.trans b3
    have b4 := b3'.alloc b3'.size (.cells #[] 9)
    have hO4 := hO3.keep ((Below.refl _ _).alloc (Nat.le_refl _) (.cells #[] 9))
    have hSt : FrS w p size key 0 (.string ⟨#[]⟩) (.bool false) (.bool false) (.slice (some ⟨w3.heap.size, 0, none⟩) 0 0) (.slice (some ⟨(w3.alloc (.cells #[] 9)).heap.size, 0, none⟩) 0 0) ((w3.alloc (.cells #[] 9)).alloc (.cells #[] 9)) :=
      ⟨_, _, _, _, 0, [], [], [], [], rfl, rfl, rfl, rfl, fun _ _ => Lies.nil _ _, by simp, by simp, Fr.start (by omega) key _ [], by simp, by simp, ((hO4.alloc_cells b4.size #[] 9).rowOfCells (xs := []) rfl (Nat.zero_le _)).swap, b4.alloc b4.size (.cells #[] 9)⟩
    rw [World.size_alloc] at hSt
    clear hO3 b3 hnw b2 b3' hO4 b4
    replace hSt := Hid.mk' hSt
    go_wp2_with fail
    go_loopg [8, 9, 10, 11, 12, 13] l.length (fun g vv vp vt vd vo i wr => ∃ k : Nat, k ≤ l.length ∧ g = l.length - k ∧ i = .int .i64 k ∧ FrS w p size key k vv vp vt vd vo wr)
    case atStart => exact ⟨0, Nat.zero_le _, rfl, rfl, hSt.out⟩
    case round =>
      clear hSt
      obtain ⟨k, hkl, hgk, rfl, value, put, touched, Ad, cd, dl, os, ks, C, rfl, rfl, rfl, rfl, hdl, hdl10, hosl, hFr, hC10, hksz, hO, hb⟩ := hrel
      obtain ⟨Ao, co, hvo, _⟩ := (hO.front 1 _ rfl).rowE
      rw [sv_len] at hvo
      subst hvo
      have hzr : w.heap.size ≤ wr.heap.size := hb.size
      have hkl4 : ks.length ≤ 4096 := by have := hFr.len; omega
      by_cases hlt : k < l.length
      · have hd : l[k]? = some l[k] := List.getElem?_eq_getElem hlt
        have hdm : l[k] ∈ l := List.getElem_mem _
        generalize l[k] = d at hd hdm
        obtain ⟨b, o, A3, c3, hix, hcells, hc3, hF3, hbb⟩ := deed_at (c := c) hF hd
        obtain ⟨q0, q1, q2, q3, q4⟩ := hcells wr hb
        have hd10 := hl10 d hdm
        obtain ⟨hu8, hf1, hf2⟩ := hok d hdm
        have hA1 := (hO.alloc_cells hzr #[.int .u8 d.f0, .string d.f1, .string d.f2, .slice A3 d.f3.length c3] 29)
        have hA2 := hA1.front 1 _ rfl
        have hbA := (Below.refl w.heap.size wr).alloc hzr (.cells #[.int .u8 d.f0, .string d.f1, .string d.f2, .slice A3 d.f3.length c3] 29)
        have hzA := Nat.le_trans hzr hbA.size
        by_cases hput : d.f0 = 0 ∨ d.f0 = 1
        case' pos =>
          have hpt := put_own d.f1 d.f2 A3 d.f3.length c3 d.f3 hA2 hzA (by omega) hksz hf1 (hcells _ (hb.trans hbA)).2.2.2.2 rfl (by omega) (by omega)
          have hkz' : ∀ y ∈ putK size ks d.f1, y.size ≤ maxLen := fun y hy => (putK_mem hy).elim (fun e => e ▸ hf1) (hksz y)
          have hC' : ∀ c ∈ putC size ks C d.f1 d.f2 d.f3, c.2.2.length ≤ 10 := fun c hc => (putC_mem hc).elim (fun e => by rw [e]; exact hd10) (hC10 c)
          obtain ⟨e0, e1⟩ : ((d.f0 == 0) = true ∨ (d.f0 == 0) = false) ∧ ((d.f0 == 0) = false → (d.f0 == 1) = true) := ⟨by cases h : (d.f0 == 0) <;> simp, fun h => by have := beq_eq_false_iff_ne.1 h; exact beq_iff_eq.2 (by omega)⟩
          clear hput
          rcases e0 with e0 | e0
          case' inl => clear e1
          case' inr => replace e1 := e1 e0
          all_goals
            by_cases hke : d.f1 = key
            case' pos =>
              have hkb : (d.f1.toList == key.toList) = true := beq_iff_eq.2 (congrArg _ hke)
              replace hke := Hid.mk' hke
              go_wp2_with fail
              refine hpt.mono ?_
              rintro e w4 ⟨rfl, h4, b4⟩
              have hcl := (h4.front 1 _ rfl).cellsE.1
              have g1 : w4.cell? ⟨wr.heap.size, 1, none⟩ = some (.string d.f1) := (cell_of hcl 1).trans rfl
              have g2 : w4.cell? ⟨wr.heap.size, 2, none⟩ = some (.string d.f2) := (cell_of hcl 2).trans rfl
              have g3 : w4.cell? ⟨wr.heap.size, 3, none⟩ = some (.slice A3 d.f3.length c3) := (cell_of hcl 3).trans rfl
              have hb4 := (hb.trans hbA).trans b4
              have FIN : FrS w p size key (k + 1) (.string d.f2) (.bool true) (.bool false) (.slice A3 d.f3.length c3) (.slice none 0 0) w4 :=
                ⟨d.f2, true, false, A3, c3, d.f3, [], _, _, rfl, rfl, rfl, rfl, fun W hW => (hcells W hW).2.2.2.2, hd10, by simp, by rw [hke.out]; exact hFr.put_key hsz0 d.f2 d.f3, hC', hkz', (h4.drop1_1.drop1.rowNil (e := 9)).swap, hb4⟩
              replace FIN := Hid.mk' FIN
              clear hcl h4 b4 hb4 hpt hA1 hA2
              go_wp2_with fail
              go_roundg (l.length - (k + 1))
              case rel => exact ⟨k + 1, by omega, rfl, by go_num, FIN.out⟩
              case measure => omega
            case' neg =>
              have hkb : (d.f1.toList == key.toList) = false := beq_eq_false_iff_ne.2 (fun e => hke (str_inj e))
              go_wp2_with fail
              refine hpt.mono ?_
              rintro e w4 ⟨rfl, h4, b4⟩
              have hcl := (h4.front 1 _ rfl).cellsE.1
              have g1 : w4.cell? ⟨wr.heap.size, 1, none⟩ = some (.string d.f1) := (cell_of hcl 1).trans rfl
              have hb4 := (hb.trans hbA).trans b4
              have hp8 := put08_own (w0 := w) d.f1 (h4.front 2 _ rfl) hb4 (by omega)
              clear hcl hpt hA1 hA2
              go_wp2_with fail
              refine hp8.mono ?_
              rintro e w5 ⟨v', r, rfl, hins, h5, b5⟩
              obtain ⟨i1, i2, i3⟩ := hins
              have FIN : FrS w p size key (k + 1) (.string value) (.bool put) (.bool touched) (.slice Ad dl.length cd) v' w5 :=
                ⟨_, _, _, _, _, dl, r, _, _, rfl, rfl, rfl, rfl, hdl, hdl10, by omega, hFr.put_other hsz0 hke d.f2 d.f3 (fun x hx => (i1 x).2 (.inr hx)) ((i1 _).2 (.inl rfl)) i2, hC', hkz', (h5.front 1 _ rfl).drop1_2, hb4.trans b5⟩
              obtain ⟨Ao', co', hvo', _⟩ := h5.rowE
              rw [sv_len] at hvo'
              subst hvo'
              replace FIN := Hid.mk' FIN
              clear h4 b4 hb4 hp8 i1 i2 i3 h5 b5
              go_wp2_with fail
              go_roundg (l.length - (k + 1))
              case rel => exact ⟨k + 1, by omega, rfl, by go_num, FIN.out⟩
              case measure => omega
        case' neg =>
          have n0 : (d.f0 == 0) = false := beq_eq_false_iff_ne.2 (fun e => hput (.inl e))
          have n1 : (d.f0 == 1) = false := beq_eq_false_iff_ne.2 (fun e => hput (.inr e))
          clear hput
          by_cases hgt : d.f0 = 2 ∨ d.f0 = 3
          case' pos =>
            have hgo := get_own d.f1 hA2 hzA (by omega) hf1
            obtain ⟨e0, e1⟩ : ((d.f0 == 2) = true ∨ (d.f0 == 2) = false) ∧ ((d.f0 == 2) = false → (d.f0 == 3) = true) := ⟨by cases h : (d.f0 == 2) <;> simp, fun h => by have := beq_eq_false_iff_ne.1 h; exact beq_iff_eq.2 (by omega)⟩
            clear hgt
            rcases e0 with e0 | e0
            case' inl => clear e1
            case' inr => replace e1 := e1 e0
            all_goals
              have hgo2 : Calls Try.prog 12 #[.pointer (some ⟨p, 0, none⟩), .string d.f1] (wr.alloc (.cells #[.int .u8 d.f0, .string d.f1, .string d.f2, .slice A3 d.f3.length c3] 29)) fun e w' => ∃ rv ok ks', e = .returned (.tuple #[.string rv, .bool ok]) ∧
                  (∀ os', (∀ x ∈ os, x ∈ os') → os.length ≤ os'.length → (d.f1 ≠ key → d.f1 ∈ os') → Fr size key ks' C value put touched dl os') ∧ (∀ y ∈ ks', y.size ≤ maxLen) ∧
                  Owns w.heap.size [CacA p size ks' C, Asrt.cells wr.heap.size #[.int .u8 d.f0, .string d.f1, .string d.f2, .slice A3 d.f3.length c3] 29, Asrt.row 9 (.slice Ao os.length co) (sv os)] w' ∧ Below w.heap.size (wr.alloc (.cells #[.int .u8 d.f0, .string d.f1, .string d.f2, .slice A3 d.f3.length c3] 29)) w' := by
                refine hgo.mono fun e w' h => ?_
                unfold Got at h
                cases hg : AL.get C d.f1 with
                | none =>
                  rw [hg] at h
                  obtain ⟨rfl, h1, h2⟩ := h
                  exact ⟨_, _, ks, rfl, fun os' q1 q2 _ => hFr.more q1 q2, hksz, h1, h2⟩
                | some cc =>
                  rw [hg] at h
                  obtain ⟨rfl, h1, h2⟩ := h
                  refine ⟨_, _, _, rfl, fun os' q1 q2 q3 => ?_, fun y hy => ((out_mem _ y).1 hy).elim (fun e => e ▸ hf1) (hksz y), h1, h2⟩
                  by_cases hke : d.f1 = key
                  · rw [hke] at hg ⊢
                    exact (hFr.get_key hg).more q1 q2
                  · exact hFr.get_other hke hg q1 (q3 hke) q2
              clear hgo
              by_cases hke : d.f1 = key
              case' pos =>
                have hkb : (d.f1.toList == key.toList) = true := beq_iff_eq.2 (congrArg _ hke)
                have hkb2 : (d.f1.toList != key.toList) = false := by simp [bne, hkb]
                replace hke := Hid.mk' hke
                go_wp2_with fail
                refine hgo2.mono ?_
                rintro e w4 ⟨rv, ok, ks', rfl, hfr, hkz', h4, b4⟩
                have hcl := (h4.front 1 _ rfl).cellsE.1
                have g1 : w4.cell? ⟨wr.heap.size, 1, none⟩ = some (.string d.f1) := (cell_of hcl 1).trans rfl
                have FIN : FrS w p size key (k + 1) (.string value) (.bool put) (.bool touched) (.slice Ad dl.length cd) (.slice Ao os.length co) w4 :=
                  ⟨_, _, _, _, _, dl, os, ks', C, rfl, rfl, rfl, rfl, hdl, hdl10, by omega, hfr os (fun _ h => h) (Nat.le_refl _) (fun h => absurd hke.out h), hC10, hkz', h4.drop1_1, (hb.trans hbA).trans b4⟩
                replace FIN := Hid.mk' FIN
                clear hcl h4 b4 hgo2 hA1 hA2 hfr
                go_wp2_with fail
                go_roundg (l.length - (k + 1))
                case rel => exact ⟨k + 1, by omega, rfl, by go_num, FIN.out⟩
                case measure => omega
              case' neg =>
                have hkb : (d.f1.toList == key.toList) = false := beq_eq_false_iff_ne.2 (fun e => hke (str_inj e))
                have hkb2 : (d.f1.toList != key.toList) = true := by simp [bne, hkb]
                go_wp2_with fail
                refine hgo2.mono ?_
                rintro e w4 ⟨rv, ok, ks', rfl, hfr, hkz', h4, b4⟩
                have hcl := (h4.front 1 _ rfl).cellsE.1
                have g1 : w4.cell? ⟨wr.heap.size, 1, none⟩ = some (.string d.f1) := (cell_of hcl 1).trans rfl
                have hb4 := (hb.trans hbA).trans b4
                have hp8 := put08_own (w0 := w) d.f1 (h4.front 2 _ rfl) hb4 (by omega)
                replace hfr := Hid.mk' hfr
                clear hcl hgo2 hA1 hA2
                go_wp2_with fail
                refine hp8.mono ?_
                rintro e w5 ⟨v', r, rfl, hins, h5, b5⟩
                obtain ⟨i1, i2, i3⟩ := hins
                have FIN : FrS w p size key (k + 1) (.string value) (.bool put) (.bool touched) (.slice Ad dl.length cd) v' w5 :=
                  ⟨_, _, _, _, _, dl, r, ks', C, rfl, rfl, rfl, rfl, hdl, hdl10, by omega, hfr.out r (fun x hx => (i1 x).2 (.inr hx)) i2 (fun _ => (i1 _).2 (.inl rfl)), hC10, hkz', (h5.front 1 _ rfl).drop1_2, hb4.trans b5⟩
                obtain ⟨Ao', co', hvo', _⟩ := h5.rowE
                rw [sv_len] at hvo'
                subst hvo'
                replace FIN := Hid.mk' FIN
                clear h4 b4 hb4 hp8 i1 i2 i3 h5 b5
                go_wp2_with fail
                go_roundg (l.length - (k + 1))
                case rel => exact ⟨k + 1, by omega, rfl, by go_num, FIN.out⟩
                case measure => omega
          case' neg =>
            have n2 : (d.f0 == 2) = false := beq_eq_false_iff_ne.2 (fun e => hgt (.inl e))
            have n3 : (d.f0 == 3) = false := beq_eq_false_iff_ne.2 (fun e => hgt (.inr e))
            clear hgt
            by_cases h4 : d.f0 = 4
            case' pos =>
              have n4 : (d.f0 == 4) = true := beq_iff_eq.2 h4
              clear h4
              have hb1 := hb.trans hbA
              have hto := touch_own A3 d.f3.length c3 d.f3 hA2 hzA (by omega) hksz (fun c hc => by have := hC10 c hc; omega) (fun W hW _ => (hcells W (hb1.trans hW)).2.2.2.2) rfl (by omega)
              have hft := hFr.touch d.f3
              have hC' : ∀ c ∈ (tAll d.f3 ks C).2.1, c.2.2.length ≤ 10 := fun c hc => hC10 c (tAll_sub d.f3 ks (ks, C, 0) c hc)
              have hkz' : ∀ y ∈ (tAll d.f3 ks C).1, y.size ≤ maxLen := fun y hy => by
                rw [show (tAll d.f3 ks C).1 = _ from (tAll_spec d.f3 ks ks C 0 hFr.nd).1] at hy
                exact hksz y (List.mem_filter.1 hy).1
              generalize tAll d.f3 ks C = T at *
              go_wp2_with fail
              refine hto.mono ?_
              rintro e w5 ⟨rfl, h5, b5⟩
              have hb5 := hb1.trans b5
              have hcl := (h5.front 1 _ rfl).cellsE.1
              have g3 : w5.cell? ⟨wr.heap.size, 3, none⟩ = some (.slice A3 d.f3.length c3) := (cell_of hcl 3).trans rfl
              have FIN : FrS w p size key (k + 1) (.string value) (.bool put) (.bool (touched || d.f3.any fun x => dl.any (isB x))) (.slice Ad dl.length cd) (.slice Ao os.length co) w5 :=
                ⟨_, _, _, _, _, dl, os, _, _, rfl, rfl, rfl, rfl, hdl, hdl10, by omega, hft, hC', hkz', h5.drop1_1, hb5⟩
              have hL3 := (hcells w5 hb5).2.2.2.2
              have hLd := hdl w5 hb5
              replace FIN := Hid.mk' FIN
              clear hcl h5 b5 hto hft hA1 hA2
              go_wp2_with fail
              go_loopg [10, 15] d.f3.length (fun g vt j w2 => ∃ k2 : Nat, k2 ≤ d.f3.length ∧ g = d.f3.length - k2 ∧ j = .int .i64 k2 ∧ vt = .bool (touched || (d.f3.take k2).any fun x => dl.any (isB x)) ∧ w2 = w5)
              case atStart => exact ⟨0, Nat.zero_le _, rfl, rfl, by simp, rfl⟩
              case round =>
                obtain ⟨k2, hk2, hg2, rfl, rfl, rfl⟩ := hrel
                by_cases hl2 : k2 < d.f3.length
                · have hx : d.f3[k2]? = some d.f3[k2] := List.getElem?_eq_getElem hl2
                  generalize d.f3[k2] = x at hx
                  have hnext : (touched || (d.f3.take (k2 + 1)).any fun x => dl.any (isB x)) = ((touched || (d.f3.take k2).any fun x => dl.any (isB x)) || dl.any (isB x)) := by
                    rw [List.take_add_one, hx, List.any_append]; simp [Bool.or_assoc]
                  replace hnext := Hid.mk' hnext
                  have hsx := sv_at hx
                  have hsl := sv_len d.f3
                  replace hx := Hid.mk' hx
                  by_cases htb : (touched || (d.f3.take k2).any fun x => dl.any (isB x)) = true
                  · have htb2 := Hid.mk' htb
                    generalize (touched || (d.f3.take k2).any fun x => dl.any (isB x)) = tb at *
                    subst htb
                    go_wp2_with fail
                    go_roundg (d.f3.length - (k2 + 1))
                    case rel => exact ⟨k2 + 1, by omega, rfl, by go_num, by rw [hnext.out]; rfl, rfl⟩
                    case measure => omega
                  · have htb' : (touched || (d.f3.take k2).any fun x => dl.any (isB x)) = false := by simpa using htb
                    generalize (touched || (d.f3.take k2).any fun x => dl.any (isB x)) = tb at *
                    subst htb'
                    have hin := in_any Ad dl.length cd dl x wr hLd rfl (by omega)
                    obtain ⟨bq, oq, hi9, hcq, hbq⟩ := Lies.idx (P := Try.prog) (c := c3) Try.underlying27 size9 hL3 hsl hsx
                    clear htb
                    go_wp2_with fail
                    refine hin.mono ?_
                    rintro e w7 ⟨rfl, rfl⟩
                    go_wp2_with fail
                    go_roundg (d.f3.length - (k2 + 1))
                    case rel => exact ⟨k2 + 1, by omega, rfl, by go_num, by rw [hnext.out, Bool.false_or]; rfl, rfl⟩
                    case measure => omega
                · have hk3 : d.f3.take k2 = d.f3 := List.take_of_length_le (by omega)
                  have hfin := FIN.out
                  rw [← hk3] at hfin
                  replace hfin := Hid.mk' hfin
                  go_wp2_with fail
                  go_roundg (l.length - (k + 1))
                  case rel => exact ⟨k + 1, by omega, rfl, by go_num, by have := FIN.out; rw [hk3]; exact this⟩
                  case measure => omega
            case' neg =>
              have n4 : (d.f0 == 4) = false := beq_eq_false_iff_ne.2 h4
              clear h4
              have FIN : FrS w p size key (k + 1) (.string value) (.bool put) (.bool touched) (.slice Ad dl.length cd) (.slice Ao os.length co) (wr.alloc (.cells #[.int .u8 d.f0, .string d.f1, .string d.f2, .slice A3 d.f3.length c3] 29)) :=
                ⟨_, _, _, _, _, dl, os, ks, C, rfl, rfl, rfl, rfl, hdl, hdl10, by omega, hFr, hC10, hksz, hA2.drop1_1, hb.trans hbA⟩
              replace FIN := Hid.mk' FIN
              clear hA1 hA2
              go_wp2_with fail
              go_roundg (l.length - (k + 1))
              case rel => exact ⟨k + 1, by omega, rfl, by go_num, FIN.out⟩
              case measure => omega
      · have : k = l.length := by omega
        subst this
        have hgo := get_own key hO hb.size (by omega) hkey
        cases hg : AL.get C key with
        | none =>
          have hn := hFr.none hg
          unfold Got at hgo
          rw [hg] at hgo
          clear hg
          have hn2 : put = false ∨ (put = true ∧ touched = true) ∨ (put = true ∧ touched = false ∧ size ≤ (os.length : Int)) := by
            clear hFr hC10 hksz hO hgo hdl
            exact three_ways hn
          clear hn
          have h3t : ∀ h3 : size ≤ (os.length : Int), decide ((os.length : Int) ≥ size) = true ∧ decide (size ≤ (os.length : Int)) = true := fun h3 => ⟨by simpa using h3, by simpa using h3⟩
          rcases hn2 with rfl | ⟨rfl, rfl⟩ | ⟨rfl, rfl, h3⟩
          case' inr.inr => obtain ⟨t3, t4⟩ := h3t h3
          all_goals
            clear h3t
            go_wp2_with fail
            refine hgo.mono ?_
            rintro e w4 ⟨rfl, h4, b4⟩
            go_wp2_with fail
            go_ret
            exact ⟨rfl, hb.trans b4⟩
        | some cc =>
          obtain ⟨rfl, rfl, rfl, _⟩ := hFr.some cc hg
          unfold Got at hgo
          rw [hg] at hgo
          clear hg
          have hvv : (value.toList == value.toList) = true := by simp
          go_wp2_with fail
          refine hgo.mono ?_
          rintro e w4 ⟨rfl, h4, b4⟩
          go_wp2_with fail
          go_ret
          exact ⟨rfl, hb.trans b4⟩
end Go.Proofs.Cac
