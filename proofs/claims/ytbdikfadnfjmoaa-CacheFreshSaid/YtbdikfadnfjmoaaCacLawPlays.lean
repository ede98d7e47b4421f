/- cache: CachePlays. -/
import Derived.Test.YtbdikfadnfjmoaaCacRef
import Derived.Outline
import Derived.Deep.RegionHeld3
import Derived.Deep.LoopGhost
import Derived.Deep.CutBlock
import Derived.Deep.DeepCutAuto
namespace Go.Proofs.Cac
open Go.RowKit Go.Cic Go.ChangeMaps Go.Proofs.YtbdikfadnfjmoaaW.PrintWords Go.Proofs.Ytbdikfadnfjmoaa.PCachePlays
set_option linter.unusedVariables false
set_option maxRecDepth 100000
def Fine (ms : List S41) : Prop := ∀ e ∈ ms, e.f2.length ≤ 10 ∧ e.f0.size ≤ maxLen
theorem Sim.keys_fine {size : Int} {ms : List S41} {ks : List ByteArray} {C : Tab} (h : Sim size ms ks C) (hf : Fine ms) : ∀ k ∈ ks, k.size ≤ maxLen := by
  intro k hk
  rw [h.keys] at hk
  obtain ⟨e, he, rfl⟩ := List.mem_map.1 hk
  exact (hf e he).2
theorem Sim.len {size : Int} {ms : List S41} {ks : List ByteArray} {C : Tab} (h : Sim size ms ks C) : ks.length = ms.length := by rw [h.keys, List.length_map]
theorem fine_put {size : Int} {ms : List S41} {e : S41} (h : Fine ms) (h1 : e.f2.length ≤ 10) (h2 : e.f0.size ≤ maxLen) : Fine (putM size ms e) := by
  have hb : ∀ x ∈ ms.filter (fun x => !isM e.f0 x) ++ [e], x.f2.length ≤ 10 ∧ x.f0.size ≤ maxLen := by
    intro x hx
    rcases List.mem_append.1 hx with hx | hx
    · exact h x (List.mem_filter.1 hx).1
    · rw [List.mem_singleton.1 hx]; exact ⟨h1, h2⟩
  intro x hx
  unfold putM at hx
  split at hx
  · exact hb x (List.mem_of_mem_drop hx)
  · exact hb x hx
theorem Sim.found {size : Int} {ms : List S41} {ks : List ByteArray} {C : Tab} (h : Sim size ms ks C) {key : ByteArray} {c : Ent} (hg : AL.get C key = some c) : ∃ (i : Nat) (e : S41), ms[i]? = some e ∧ e.f0 = key ∧ c = (e.f1, e.f2) ∧ findI (isB key) (keysM ms) = (i : Int) := by
  have h1 := h.get_iff key
  rw [hg] at h1
  cases hf : ms.find? (isM key) with
  | none => rw [hf] at h1; simp at h1
  | some e =>
    rw [hf] at h1
    simp only [Option.map_some, Option.some.injEq] at h1
    have hm := List.mem_of_find?_eq_some hf
    have hp : isM key e = true := List.find?_some hf
    have hany : (keysM ms).any (isB key) = true := List.any_eq_true.2 ⟨e.f0, List.mem_map.2 ⟨e, hm, rfl⟩, hp⟩
    have hlt : ms.findIdx (isM key) < ms.length := List.findIdx_lt_length_of_exists ⟨e, hm, hp⟩
    have hat : isM key ms[ms.findIdx (isM key)] = true := List.findIdx_getElem
    have hfe : ms[ms.findIdx (isM key)] = e := by
      have h2 := h.has _ (List.getElem_mem hlt)
      have h3 := isB_iff.1 hat
      have h4 := List.find?_eq_some_iff_getElem.1 hf
      obtain ⟨_, i, hi, he, hbefore⟩ := h4
      have : ms.findIdx (isM key) = i := by
        rw [List.findIdx_eq hi]
        exact ⟨by rw [he]; exact hp, fun j hj => by simpa using hbefore j hj⟩
      simp only [this]; exact he
    refine ⟨ms.findIdx (isM key), e, by rw [List.getElem?_eq_getElem hlt, hfe], isB_iff.1 hp, h1, ?_⟩
    unfold findI; rw [if_pos hany, findIdx_map]
theorem Sim.missing {size : Int} {ms : List S41} {ks : List ByteArray} {C : Tab} (h : Sim size ms ks C) {key : ByteArray} (hg : AL.get C key = none) : findI (isB key) (keysM ms) = -1 := by
  refine findI_none ?_
  rw [← Bool.not_eq_true]
  intro hany
  obtain ⟨y, hy, h1⟩ := List.any_eq_true.1 hany
  obtain ⟨e, he, rfl⟩ := List.mem_map.1 hy
  have := h.has e he
  rw [isB_iff.1 h1, hg] at this
  cases this
/-- The state between two deeds. -/
def St (B p : Nat) (size : Int) (w0 : World) (Am : Option Addr) (n cm : Nat) (wr : World) : Prop := ∃ ms ks C, n = List.length ms ∧ n ≤ cm ∧ Sim size ms ks C ∧ Fine ms ∧ Owns B [CacA p size ks C, Asrt.pool w0 B (PoolM Am ms)] wr ∧ Below B w0 wr
set_option maxHeartbeats 8000000 in
theorem law_plays (size : Int) (A : Option Addr) (c : Nat) (l : List S29) (w : World) (hF : Kd.F k29 w (fun k => k < w.heap.size) A l.length l) (hc : l.length ≤ c) (hok : ∀ d ∈ l, (Lit.int .u8 d.f0).wf = true ∧ d.f1.size ≤ maxLen ∧ d.f2.size ≤ maxLen)
    (hs1 : -9223372036854775808 ≤ size) (hs2 : size ≤ 9223372036854775807) :
    Calls Try.prog 4 #[.int .i64 size, .slice A l.length c] w fun e w' => e = .returned (.bool true) ∧ Below w.heap.size w w' := by
  obtain ⟨hk, hr, hheavy, hfacts⟩ := heavy_f l
  have hlv := lives_any w
  have hnow : ∀ W, Below w.heap.size w W → Kd.C k29 W A l.length l := fun W hb => hF W (fun k hk _ => hb.block k hk)
  have hhv := fun W (hb : Below w.heap.size w W) => ciceronelaw29_heavy.calls hk A c l hr W (hnow W hb) hc hheavy
  go_enter Try.func4, Try.ntmps4
  go_wp2_with fail
  refine hlv.mono ?_
  rintro e w1 ⟨rfl, b1⟩
  have hhv1 := hhv w1 b1
  cases hr with
  | true =>
    go_wp2_with fail
    refine hhv1.mono ?_
    rintro e w2 ⟨rfl, d2⟩
    have b2 := d2.below
    go_wp2_with fail
    go_ret
    exact ⟨rfl, b1.trans (b2.mono b1.size)⟩
  | false =>
    obtain ⟨hl60, hl10⟩ := hfacts rfl
    have hsz := show 0 ≤ szf size ∧ szf size ≤ 4096 by unfold szf; omega
    clear hheavy hfacts hhv hlv hnow
    go_wp2_with fail
    refine hhv1.mono ?_
    rintro e w2 ⟨rfl, d2⟩
    have b2 := b1.trans (d2.below.mono b1.size)
    have hO0 : Owns w.heap.size [Asrt.pool w w.heap.size (PoolM none [])] w2 := (Owns.nil w.heap.size w2).pool_init (fun w' hw' => C_nil' _ _ _)
    have hnw := new_own size hO0 b2.size
    clear hhv1 d2 b1
    go_wp2_with fail
    refine hnw.mono ?_
    rintro e w3 ⟨p, rfl, hO3, b3⟩
    have hSt : St w.heap.size p (szf size) w (some ⟨w3.heap.size, 0, none⟩) 0 0 (w3.alloc (.cells #[] 41)) := by
      have h1 := (hO3.swap.pool_imp (q := PoolM (some ⟨w3.heap.size, 0, none⟩) []) (fun w' h => C_nil' _ _ _)).swap
      exact ⟨[], [], [], rfl, Nat.le_refl _, Sim.start hsz.1, by simp [Fine], h1.keep ((Below.refl _ _).alloc (Nat.le_refl _) _), (b2.trans b3).alloc (b2.trans b3).size (.cells #[] 41)⟩
    clear hO3 b3 hnw hO0 b2
    replace hSt := Hid.mk' hSt
    obtain ⟨B, hB⟩ : ∃ B, B = w.heap.size := ⟨_, rfl⟩
    replace hB := Hid.mk' hB
    go_wp2_with fail
    go_loopg [6, 7] l.length (fun g m i wr => ∃ (k : Nat) (Am : Option Addr) (n cm : Nat), k ≤ l.length ∧ g = l.length - k ∧ i = .int .i64 k ∧ m = .slice Am n cm ∧ St w.heap.size p (szf size) w Am n cm wr)
    case atStart => exact ⟨0, _, 0, 0, Nat.zero_le _, rfl, rfl, rfl, hSt.out⟩
    case round =>
      clear hSt
      obtain ⟨k, Am, n, cm, hkl, hgk, rfl, rfl, ms, ks, C, rfl, hcm, hS, hfn, hO, hb⟩ := hrel
      have hzr : w.heap.size ≤ wr.heap.size := hb.size
      by_cases hlt : k < l.length
      · have hd : l[k]? = some l[k] := List.getElem?_eq_getElem hlt
        have hdm : l[k] ∈ l := List.getElem_mem _
        generalize l[k] = d at hd hdm
        obtain ⟨b, o, A3, c3, hix, hcells, hc3, hF3, hbb⟩ := deed_at (c := c) hF hd
        obtain ⟨q0, q1, q2, q3, q4⟩ := hcells wr hb
        have hd10 := hl10 d hdm
        obtain ⟨hu8, hf1, hf2⟩ := hok d hdm
        have hA1 := (hO.alloc_cells hzr #[.int .u8 d.f0, .string d.f1, .string d.f2, .slice A3 d.f3.length c3] 29).swap
        have hbA := (Below.refl w.heap.size wr).alloc hzr (.cells #[.int .u8 d.f0, .string d.f1, .string d.f2, .slice A3 d.f3.length c3] 29)
        have hzA := Nat.le_trans hzr hbA.size
        have hmsl : ms.length ≤ 4096 := by have := hS.size; omega
        have hksl := hS.len
        go_upto_block 2 with fail
        go_cut [6] (fun m wx => ∃ (Am : Option Addr) (n cm : Nat), m = .slice Am n cm ∧ St w.heap.size p (szf size) w Am n cm wx)
        case first =>
          by_cases hput : d.f0 = 0 ∨ d.f0 = 1
          case' pos =>
            have hpt := put_own d.f1 d.f2 A3 d.f3.length c3 d.f3 hA1 hzA (by omega) (hS.keys_fine hfn) hf1 (hcells _ (hb.trans hbA)).2.2.2.2 rfl (by omega) hsz.1
            obtain ⟨e0, e1⟩ : ((d.f0 == 0) = true ∨ (d.f0 == 0) = false) ∧ ((d.f0 == 0) = false → (d.f0 == 1) = true) := ⟨by cases h : (d.f0 == 0) <;> simp, fun h => by have := beq_eq_false_iff_ne.1 h; exact beq_iff_eq.2 (by omega)⟩
            clear hput
            rcases e0 with e0 | e0
            case' inl => clear e1
            case' inr => replace e1 := e1 e0
            all_goals
              go_wp2_with fail
              refine hpt.mono ?_
              rintro e w4 ⟨rfl, h4, b4⟩
              have hb4 := (hb.trans hbA).trans b4
              have hP4 : Owns w.heap.size [Asrt.pool w w.heap.size (PoolM Am ms), CacA p (szf size) (putK (szf size) ks d.f1) (putC (szf size) ks C d.f1 d.f2 d.f3), Asrt.cells wr.heap.size #[.int .u8 d.f0, .string d.f1, .string d.f2, .slice A3 d.f3.length c3] 29] w4.drew := (h4.front 2 _ rfl).drew
              have hrf := refput_own hP4 hb4.drew (Nat.le_refl _) hcm (szf size) d.f1 d.f2 A3 c3 d.f3 hc3 (fun ok hokB _ => Kd.F_mono (Kd.F_step hF3 (fun k hk _ => hb4.block k hk)) hokB) (by omega) hS.nodup
              have hcl := (h4.front 1 _ rfl).cellsE.1
              have c1 : w4.drew.cell? ⟨wr.heap.size, 1, none⟩ = some (.string d.f1) := (cell_of hcl 1).trans rfl
              have c2 : w4.drew.cell? ⟨wr.heap.size, 2, none⟩ = some (.string d.f2) := (cell_of hcl 2).trans rfl
              have c3' : w4.drew.cell? ⟨wr.heap.size, 3, none⟩ = some (.slice A3 d.f3.length c3) := (cell_of hcl 3).trans rfl
              clear hcl hP4 hpt hA1
              go_wp2_with fail
              go_region_held3 (fun w' => w'.cell? ⟨wr.heap.size, 1, none⟩ = some (.string d.f1) ∧ w'.cell? ⟨wr.heap.size, 2, none⟩ = some (.string d.f2) ∧ w'.cell? ⟨wr.heap.size, 3, none⟩ = some (.slice A3 d.f3.length c3)) (go_keep) (first | (go_at_call 16; refine (size_any _ _).mono ?_; rintro e w' ⟨rfl, rfl⟩) | (go_at_call 15; refine hrf.mono ?_; rintro e w5 ⟨Am', cm', n', rfl, hn', hcm', h5, b5⟩; replace hn' := Hid.mk' hn'; have hcl5 := (h5.front 2 _ rfl).cellsE.1; have g1 : w5.cell? ⟨wr.heap.size, 1, none⟩ = some (.string d.f1) := (cell_of hcl5 1).trans rfl; have g2 : w5.cell? ⟨wr.heap.size, 2, none⟩ = some (.string d.f2) := (cell_of hcl5 2).trans rfl; have g3 : w5.cell? ⟨wr.heap.size, 3, none⟩ = some (.slice A3 d.f3.length c3) := (cell_of hcl5 3).trans rfl))
              have FIN : St w.heap.size p (szf size) w Am' n' cm' w5 := ⟨_, _, _, hn'.out, hcm', hS.put hsz.1 d.f1 d.f2 d.f3, fine_put hfn hd10 hf1, (h5.front 1 _ rfl).drop1_2, hb4.drew.trans (b5.mono hb4.size)⟩
              clear h5 b5 hn' hcm' h4 b4 hb4 hrf c1 c2 c3' g1 g2 g3 hcl5
          case' neg =>
            have n0 : (d.f0 == 0) = false := beq_eq_false_iff_ne.2 (fun e => hput (.inl e))
            have n1 : (d.f0 == 1) = false := beq_eq_false_iff_ne.2 (fun e => hput (.inr e))
            clear hput
            by_cases hgt : d.f0 = 2 ∨ d.f0 = 3
            case' pos =>
              have hgo := get_own d.f1 hA1 hzA (by omega) hf1
              obtain ⟨e0, e1⟩ : ((d.f0 == 2) = true ∨ (d.f0 == 2) = false) ∧ ((d.f0 == 2) = false → (d.f0 == 3) = true) := ⟨by cases h : (d.f0 == 2) <;> simp, fun h => by have := beq_eq_false_iff_ne.1 h; exact beq_iff_eq.2 (by omega)⟩
              clear hgt
              rcases e0 with e0 | e0
              case' inl => clear e1
              case' inr => replace e1 := e1 e0
              all_goals
                rcases hg : AL.get C d.f1 with _ | cc
                case' none =>
                  have hfi := hS.missing hg
                  unfold Got at hgo
                  rw [hg] at hgo
                  replace hfi := Hid.mk' hfi
                  clear hg
                  go_wp2_with fail
                  refine hgo.mono ?_
                  rintro e w4 ⟨rfl, h4, b4⟩
                  have hb4 := (hb.trans hbA).trans b4
                  have hra := refat_any w4 Am cm ms (pool_now_m (h4.front 2 _ rfl) hb4 (Nat.le_refl _)) hcm d.f1 (by omega)
                  rw [hfi.out] at hra
                  have hcl := (h4.front 1 _ rfl).cellsE.1
                  have c1 : w4.cell? ⟨wr.heap.size, 1, none⟩ = some (.string d.f1) := (cell_of hcl 1).trans rfl
                  clear hcl
                  go_wp2_with fail
                  refine hra.mono ?_
                  rintro e w5 ⟨rfl, d5⟩
                  have b5 := d5.below
                  have FIN : St w.heap.size p (szf size) w Am ms.length cm w5 := ⟨ms, ks, C, rfl, hcm, hS, hfn, (h4.keep b5).drop1_1, hb4.trans (b5.mono hb4.size)⟩
                  clear h4 b4 hb4 hra c1 d5 b5 hgo hA1
                  go_wp2_with fail
                case' some =>
                  obtain ⟨i, e, hie, hek, rfl, hfi⟩ := hS.found hg
                  unfold Got at hgo
                  rw [hg] at hgo
                  have hil := (List.getElem?_eq_some_iff.1 hie).1
                  have hem : e ∈ ms := List.mem_of_getElem? hie
                  have hus := hS.used hem
                  have hpu := putM_used hS hem
                  rw [hek] at hus hpu
                  replace hfi := Hid.mk' hfi
                  replace hus := Hid.mk' hus
                  replace hek := Hid.mk' hek
                  clear hg
                  go_wp2_with fail
                  refine hgo.mono ?_
                  rintro e' w4 ⟨rfl, h4, b4⟩
                  have hb4 := (hb.trans hbA).trans b4
                  have hra := refat_any w4 Am cm ms (pool_now_m (h4.front 2 _ rfl) hb4 (Nat.le_refl _)) hcm d.f1 (by omega)
                  rw [hfi.out] at hra
                  have hcl := (h4.front 1 _ rfl).cellsE.1
                  have c1 : w4.cell? ⟨wr.heap.size, 1, none⟩ = some (.string d.f1) := (cell_of hcl 1).trans rfl
                  clear hcl
                  go_wp2_with fail
                  refine hra.mono ?_
                  rintro e' w5 ⟨rfl, d5⟩
                  have h5 := h4.keep d5.below
                  have hb5 := hb4.trans (d5.below.mono hb4.size)
                  obtain ⟨be, oe, A2, c2, hi2, g0, g1, g2, gc2, gbe, gF⟩ := elem_at (cm := cm) (pool_now_m (h5.front 2 _ rfl) hb5 (Nat.le_refl _)) hie
                  have hrf := refput_own (h5.front 2 _ rfl).drew hb5.drew (Nat.le_refl _) hcm (szf size) e.f0 e.f1 A2 c2 e.f2 gc2 (fun ok hokB hf => gF ok hf) (by omega) hS.nodup
                  rw [show (⟨e.f0, e.f1, e.f2⟩ : S41) = e from rfl] at hrf
                  have i1 : ¬ ((i : Int) < 0) := by omega
                  have i2 : decide ((i : Int) ≥ 0) = true := by simp
                  have i3 : decide (0 ≤ (i : Int)) = true := by simp
                  clear h4 b4 hb4 hra c1 d5 hgo hA1 gF
                  go_wp2_with fail
                  have s0 : w5.drew.cell? ⟨be, oe, none⟩ = some (.string e.f0) := g0
                  have s1 : w5.drew.cell? ⟨be, oe + 1, none⟩ = some (.string e.f1) := g1
                  have s2 : w5.drew.cell? ⟨be, oe + 2, none⟩ = some (.slice A2 e.f2.length c2) := g2
                  have gbe' : be < w5.drew.heap.size := gbe
                  go_region_held3 (fun w' => w'.cell? ⟨be, oe, none⟩ = some (.string e.f0) ∧ w'.cell? ⟨be, oe + 1, none⟩ = some (.string e.f1) ∧ w'.cell? ⟨be, oe + 2, none⟩ = some (.slice A2 e.f2.length c2)) (go_keep) (first | (go_at_call 16; refine (size_any _ _).mono ?_; rintro e' w' ⟨rfl, rfl⟩) | (go_at_call 15; refine hrf.mono ?_; rintro e' w6 ⟨Am', cm', n', rfl, hn', hcm', h6, b6⟩; replace hn' := Hid.mk' hn'; have g3 := (b6.cell (p := ⟨be, oe, none⟩) gbe').trans s0; have g4 := (b6.cell (p := ⟨be, oe + 1, none⟩) gbe').trans s1; have g5 := (b6.cell (p := ⟨be, oe + 2, none⟩) gbe').trans s2))
                  have FIN : St w.heap.size p (szf size) w Am' n' cm' w6 := by
                    replace hn' := hn'.out
                    rw [hpu] at hn' h6
                    refine ⟨_, _, _, hn', hcm', hus.out, ?_, (h6.front 1 _ rfl).drop1_2, hb5.drew.trans (b6.mono hb5.size)⟩
                    rw [← hpu]
                    have := fine_put (size := szf size) hfn (hfn e hem).1 (hfn e hem).2
                    exact this
                  clear h5 hb5 hrf g0 g1 g2 gc2 gbe s0 s1 s2 gbe' h6 b6 g3 g4 g5 hn' hcm' hi2
            case' neg =>
              have n2 : (d.f0 == 2) = false := beq_eq_false_iff_ne.2 (fun e => hgt (.inl e))
              have n3 : (d.f0 == 3) = false := beq_eq_false_iff_ne.2 (fun e => hgt (.inr e))
              clear hgt
              by_cases h4 : d.f0 = 4
              case' pos =>
                have n4 : (d.f0 == 4) = true := beq_iff_eq.2 h4
                clear h4
                have hP1 := hA1.front 2 _ rfl
                have hb1 := hb.trans hbA
                have hrt := reftouch_own hP1 hb1 (Nat.le_refl _) hcm A3 c3 d.f3 hc3 (C_of_lies (hcells _ hb1).2.2.2.2 rfl (by omega)) (by omega) (by omega) 10 (fun e he => (hfn e he).1) (by omega)
                obtain ⟨hst, hcnt⟩ := hS.touch d.f3
                have hcl := (hA1.front 1 _ rfl).cellsE.1
                have c3' : (wr.alloc (.cells #[.int .u8 d.f0, .string d.f1, .string d.f2, .slice A3 d.f3.length c3] 29)).cell? ⟨wr.heap.size, 3, none⟩ = some (.slice A3 d.f3.length c3) := (cell_of hcl 3).trans rfl
                clear hcl
                go_wp2_with fail
                refine hrt.mono ?_
                rintro e w5 ⟨Am', cm', n', rfl, hn', hcm', h5, b5⟩
                replace hn' := Hid.mk' hn'
                have hb5 := hb1.trans (b5.mono hzA)
                have htc := touch_own A3 d.f3.length c3 d.f3 (h5.front 1 _ rfl) hb5.size (by omega) (hS.keys_fine hfn) (fun c hc => by
                  obtain ⟨y, v⟩ := c
                  have hy := hS.get_iff y
                  have hnd := ((cac_iff.1 (h5.front 1 _ rfl)).choose_spec.choose_spec.front 2 _ rfl).mapOf_keys.1
                  rw [AL.get_some hnd hc] at hy
                  cases hf : ms.find? (isM y) with
                  | none => rw [hf] at hy; simp at hy
                  | some e =>
                    rw [hf] at hy
                    simp only [Option.map_some, Option.some.injEq] at hy
                    have := (hfn e (List.mem_of_find?_eq_some hf)).1
                    rw [hy]; simp only; omega) (fun W hW _ => (hcells W (hb5.trans hW)).2.2.2.2) rfl (by omega)
                have hcl := (h5.front 2 _ rfl).cellsE.1
                have c3' : w5.cell? ⟨wr.heap.size, 3, none⟩ = some (.slice A3 d.f3.length c3) := (cell_of hcl 3).trans rfl
                clear hcl
                go_wp2_with fail
                refine htc.mono ?_
                rintro e w6 ⟨rfl, h6, b6⟩
                have tb : (((tAll d.f3 ks C).2.2 : Int) != (ms.length : Int) - (n' : Int)) = false := by
                  rw [bne_eq_false_iff_eq]; have := hn'.out; omega
                have FIN : St w.heap.size p (szf size) w Am' n' cm' w6 := ⟨_, _, _, hn'.out, hcm', hst, fun e he => hfn e (List.mem_filter.1 he).1, h6.drop1_2, hb5.trans b6⟩
                replace hst := Hid.mk' hst
                have hn2 : n' ≤ 4096 := by have := hn'.out; have := List.length_filter_le (fun e => !hitM d.f3 e) ms; omega
                clear h5 b5 hn' h6 b6 htc hb5 hrt hP1 hb1 hA1
                go_wp2_with fail
              case' neg =>
                have n4 : (d.f0 == 4) = false := beq_eq_false_iff_ne.2 h4
                clear h4
                have FIN : St w.heap.size p (szf size) w Am ms.length cm (wr.alloc (.cells #[.int .u8 d.f0, .string d.f1, .string d.f2, .slice A3 d.f3.length c3] 29)) := ⟨ms, ks, C, rfl, hcm, hS, hfn, hA1.drop1_1, hb.trans hbA⟩
                clear hA1
                go_wp2_with fail
          all_goals (first | (go_meet; exact ⟨_, _, _, rfl, FIN⟩) | (go_wp2_with fail; go_meet; exact ⟨_, _, _, rfl, FIN⟩))
        case rest =>
          obtain ⟨Am', n', cm', rfl, ms', ks', C', hn', hcm', hS', hf', hO', hb'⟩ := hcut
          have hkl' := hS'.len
          have hms' : ms'.length ≤ 4096 := by have := hS'.size; omega
          obtain rfl : n' = ks'.length := by omega
          have hk9 : ks'.length ≤ 4096 := by omega
          have hlen := len_own hO'
          have hky := keys_own hO' hb'.size (by omega)
          replace hn' := Hid.mk' hn'
          clear hkl'
          go_wp2_with fail
          refine hlen.mono ?_
          rintro e' w8 ⟨rfl, rfl⟩
          go_wp2_with fail
          refine hky.mono ?_
          rintro e' w9 ⟨A9, c9, rfl, h9, b9⟩
          have hb9 := hb'.trans b9
          have hrk := refkeys_any w9 Am' cm' ms' (pool_now_m (h9.front 2 _ rfl) hb9 (Nat.le_refl _)) (hn'.out ▸ hcm') (by omega)
          rw [← hn'.out] at hrk
          go_wp2_with fail
          refine hrk.mono ?_
          rintro e' w10 ⟨A10, c10, n10, rfl, hn10, hc10, hC10, b10⟩
          have hb10 := hb9.trans (b10.mono hb9.size)
          have hR9 := (h9.keep b10).rowLies
          have htx := texts_any w10 A9 A10 c9 c10 (keysM ms') ks'.length n10 (by rw [hS'.keys]) hn10 (by rw [← hS'.keys]; exact C_of_lies (n := ks'.length) hR9.1 rfl (by omega)) hC10 hR9.2.2 hc10 (by rw [List.length_map]; omega)
          replace hn10 := Hid.mk' hn10
          clear hrk hky hlen
          go_wp2_with fail
          refine htx.mono ?_
          rintro e' w11 ⟨rfl, b11⟩
          go_wp2_with fail
          go_roundg (l.length - (k + 1))
          case rel => exact ⟨k + 1, _, _, _, by omega, rfl, by go_num, rfl, ms', ks', C', hn'.out, hcm', hS', hf', ((h9.tail).keep b10).keep b11, hb10.trans (b11.mono hb10.size)⟩
          case measure => omega
      · have : k = l.length := by omega
        subst this
        go_wp2_with fail
        go_ret
        exact ⟨rfl, hb⟩
end Go.Proofs.Cac
