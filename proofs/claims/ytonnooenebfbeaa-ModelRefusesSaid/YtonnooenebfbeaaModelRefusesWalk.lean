/- The walk of ModelRefuses. -/
import Derived.Test.YtonnooenebfbeaaMdlRef
import Derived.Test.YtonnooenebfbeaaEarly21
import Derived.Test.YtonnooenebfbeaaMdlLives
import Derived.Test.YtonnooenebfbeaaMdlSame
import Derived.Test.YtonnooenebfbeaaPut9
namespace Go.Proofs.Ytonnooenebfbeaa
open Go.RowKit

def pR (a b d : Nat) : Nat → Prop := fun g => g < a ∨ (b ≤ g ∧ g < d)
def pX (a b d X : Nat) : Nat → Prop := fun g => pR a b d g ∨ g = X
def pY (a b d X Y : Nat) : Nat → Prop := fun g => pX a b d X g ∨ g = Y

set_option maxRecDepth 100000 in
set_option maxHeartbeats 8000000 in
theorem walk_ModelRefuses {w : World} (c : Cfg) (v : Value) (l : List (Dat callT)) (rd : Rd w w.heap.size (.slice callT) l [v]) (ov : Value) (ol : List Int) (osl : SlV w ov (ol.map (Value.int .i64))) :
    Calls Try.prog 7 #[.agg c.cells, v, ov] w fun e w' => e = .returned (.bool true) ∧ Below w.heap.size w w' := by
  have kb := Blk.made w c.cells 25
  have m0 : Mod (fun _ => False) w (w.alloc (.cells c.cells 25)) := (Mod.refl _ _).alloc _
  have RD := Lib.hid rd
  have OSL := Lib.hid osl
  obtain ⟨a, len, cap, hv, -⟩ := id rd
  obtain rfl : v = .slice a len cap := by simpa using hv
  obtain ⟨oa, on, oc, rfl, hol, hoc, hom, -⟩ := id osl
  rw [List.length_map] at hol
  have HOL := Lib.hid hol
  unfold maxLen at hom
  obtain ⟨hok2, -, -⟩ := c.small_ok
  have HOK := Lib.hid hok2
  clear rd osl hv hol hok2
  simp only [Cfg.cells] at kb m0 ⊢
  go_enter Try.func7, Try.ntmps7
  go_wp2_with fail
  refine (run_lives21 _).mono ?_
  rintro e w1 ⟨rfl, m1⟩
  have k1 := kb.later m1 (by simp)
  have mm1 := m0.trans m1 (by simp)
  obtain ⟨c0, c1, c2, c3, c4, c5, c6, c7, c8⟩ := cfg_cells k1
  clear kb m0 m1
  go_wp2_with fail
  refine (run_Small c _).mono ?_
  rintro e w2 ⟨rfl, m2⟩
  have k2 := k1.later m2 (by simp)
  have mm2 := mm1.trans m2 (by simp)
  clear k1 mm1 m2 c0 c1 c2 c3 c4 c5 c6 c7 c8
  have l2 := k2.lt
  have z0 := k2.fz 0
  have z1 := k2.fz 1
  have z2 := k2.fz 2
  have z3 := k2.fz 3
  have z4 := k2.fz 4
  have z5 := k2.fz 5
  have z6 := k2.fz 6
  have z7 := k2.fz 7
  have z8 := k2.fz 8
  obtain ⟨c0, c1, c2, c3, c4, c5, c6, c7, c8⟩ := cfg_cells k2
  go_upto_region 4 with fail
  have k3 := put9_blk (d := c.small) k2
  have mm3 := put9_mod mm2 (b := w.heap.size) (Or.inr (Nat.le_refl _)) c.small
  change Code.wp Try.prog _ _ _ (put9 w2 w.heap.size c.small)
  generalize put9 w2 w.heap.size c.small = w3 at k3 mm3 ⊢
  clear k2 mm2 l2 c0 c1 c2 c3 c4 c5 c6 c7 c8 z0 z1 z2 z3 z4 z5 z6 z7 z8
  clear w1 w2
  generalize c.small = t at *
  have LT3 := k3.lt
  obtain ⟨c0, c1, c2, c3, c4, c5, c6, c7, c8⟩ := cfg_cells k3
  go_wp2_with fail
  refine (at_Open t _ HOK.out).mono ?_
  rintro e w5 ⟨pa, oa1, rfl, m5, ha, la⟩
  have k5 := k3.later m5 (by simp)
  have mm5 := mm3.trans m5 (by simp)
  have HA := Lib.hid ha
  have LA := Lib.hid la
  clear ha la k3 c0 c1 c2 c3 c4 c5 c6 c7 c8
  obtain ⟨c0, c1, c2, c3, c4, c5, c6, c7, c8⟩ := cfg_cells k5
  go_wp2_with fail
  refine (at_Open t _ HOK.out).mono ?_
  rintro e w6 ⟨pb, ob1, rfl, m6, hb, lb⟩
  have T6 := Lib.hid (two_open HA.out LA.out hb lb m5 m6)
  have k6 := k5.later m6 (by simp)
  have mm6 := mm5.trans m6 (by simp)
  have sz6 : w3.heap.size ≤ w6.heap.size := Nat.le_trans m5.size m6.size
  clear HA LA hb lb k5 mm5 m5 m6 c0 c1 c2 c3 c4 c5 c6 c7 c8
  obtain ⟨c0, c1, c2, c3, c4, c5, c6, c7, c8⟩ := cfg_cells k6
  go_wp2_with fail
  refine (ref_Nodes t _).mono ?_
  rintro e w7 ⟨rfl, m7⟩
  have T7 := Lib.hid (T6.out.later (MX.stable _ _ _ _) (MX.stable _ _ _ _) m7)
  have k7 := k6.later m7 (by simp)
  have mm7 := mm6.trans m7 (by simp)
  have sz7 : w3.heap.size ≤ w7.heap.size := Nat.le_trans sz6 m7.size
  clear T6 k6 mm6 m7 sz6 c0 c1 c2 c3 c4 c5 c6 c7 c8
  obtain ⟨c0, c1, c2, c3, c4, c5, c6, c7, c8⟩ := cfg_cells k7
  go_wp2_with fail
  refine (run_early21 t _ l 60 _ w.heap.size HOK.out (Rd.later mm7 (Nat.le_refl _) (by simp) _ _ _ RD.out) mm7.size (by omega)).mono ?_
  rintro e w8 ⟨r, rfl, m8, hcv⟩
  have hwf : ∀ x ∈ ((l.map mcall).take 60).map (early21 t), x.wf ∧ x.Data.size ≤ 70 ∧ x.Set.length ≤ 6 := by
    intro x hx
    obtain ⟨y, hy, rfl⟩ := List.mem_map.1 hx
    exact ⟨early21_wf (rd_wf (Nat.le_refl _) RD.out y (List.mem_of_mem_take hy)), early21_size _ _, early21_len _ _⟩
  have hlen : (((l.map mcall).take 60).map (early21 t)).length ≤ 60 := by simp; omega
  generalize ((l.map mcall).take 60).map (early21 t) = L at hcv hwf hlen
  have T8 := Lib.hid (T7.out.more (P' := pR w3.heap.size w7.heap.size w8.heap.size) (MX.stable _ _ _ _) (MX.stable _ _ _ _) m8 (by simp) (fun g hg => hg))
  have k8 := k7.later m8 (by simp)
  have mm8 := mm7.trans m8 (by simp)
  have HWF := Lib.hid hwf
  have HCV := Lib.hid hcv
  obtain ⟨ca, cn, cc, xs, rfl, hcl, hcc, hcm, -⟩ := id hcv
  have HCL := Lib.hid hcl
  have hcn : cn ≤ 60 := by omega
  clear hwf hcv hcl T7 k7 mm7 m8 c0 c1 c2 c3 c4 c5 c6 c7 c8 hlen RD
  unfold maxLen at hcm
  obtain ⟨nn, hnn⟩ : ∃ n, t.nodes = n := ⟨_, rfl⟩
  rw [hnn]
  have HNN := Lib.hid hnn
  have HB := Lib.hid (show 0 ≤ t.Bound ∧ t.Bound ≤ 16 from ⟨by have := HOK.out.B1; omega, HOK.out.B2⟩)
  have HZ := Lib.hid (show t.is 0 = true from (t.is_iff 0).2 ⟨by omega, by rw [Cfg.nodes_ok HOK.out]; have := mul_le_4096 HOK.out.W1 HOK.out.W2 HOK.out.H1 HOK.out.H2; omega⟩)
  clear hnn
  obtain ⟨p1, hp1⟩ : ∃ p, p = w3.heap.size := ⟨_, rfl⟩
  obtain ⟨p2, hp2⟩ : ∃ p, p = w7.heap.size := ⟨_, rfl⟩
  obtain ⟨p3, hp3⟩ : ∃ p, p = w8.heap.size := ⟨_, rfl⟩
  rw [← hp1] at LT3 sz7 T8
  rw [← hp2] at sz7 T8 HCV
  rw [← hp3] at T8 HCV
  have HP3 := Lib.hid hp3
  clear hp1 hp2 hp3
  go_wp2
  generalize hlg : (ByteArray.mk #[109, 111, 114, 101, 32, 116, 104, 97, 110, 32, 115, 105, 120, 116, 121, 45, 102, 111, 117, 114, 32, 98, 121, 116, 101, 115, 44, 32, 119, 104, 105, 99, 104, 32, 105, 115, 32, 119, 104, 97, 116, 32, 97, 32, 112, 97, 99, 107, 101, 116, 32, 104, 97, 115, 32, 114, 111, 111, 109, 32, 102, 111, 114, 32, 97, 116, 32, 109, 111, 115, 116]) = lg
  have HLG := Lib.hid (show 64 < lg.size from by rw [← hlg]; decide)
  have LGS := Lib.hid (show lg.size ≤ 4294967295 from by rw [← hlg]; decide)
  clear hlg
  go_loopw [13] (fun i wr => ∃ (k : Nat) (s : MS), k ≤ cn ∧ i = .int .i64 k ∧ Two (pR p1 p2 p3) wr pa pb t (200 * k) (200 * k) s s ∧ s.Short ∧ Mod (fun g => ¬ pR p1 p2 p3 g) w8 wr) (fun i _ => cn - (intOf i).toNat)
  case atStart => exact ⟨0, MS.new t, by omega, by simp, T8.out, MS.new_short t, Mod.refl _ _⟩
  case round =>
    obtain ⟨k, s, hk, rfl, hT, hsh, hm⟩ := hrel
    obtain ⟨wA, rfl⟩ : ∃ wo : World, wo = wr := ⟨_, rfl⟩
    have TT := Lib.hid hT
    have SH := Lib.hid hsh
    have kA := k8.later hm (fun h => h (Or.inl LT3))
    have mmA : Mod (fun _ => False) w wA := mm8.trans hm (fun i hi h => h (Or.inl (by omega)))
    have sA := hm.size
    rw [← HP3.out] at sA
    clear hT hsh
    by_cases hlt : k < cn
    · have b0 : (0 : Int) ≤ (k : Int) := by omega
      have b1 : (k : Int) < (cn : Int) := by omega
      go_upto_if 60 with fail
      go_cut [14] (fun v w' => ∃ kk, v = .int .i64 kk ∧ t.is kk = true ∧ Mod (fun _ => False) wA w')
      case first => as_aux_lemma =>
        by_cases hlo : k < on
        · obtain ⟨x, hx⟩ : ∃ x, ol[k]? = some x := ⟨_, List.getElem?_eq_getElem (by have := HOL.out; omega)⟩
          obtain ⟨B, off, rfl, hB, dx⟩ := OSL.out.at k hlo
          rw [ints_getR hx] at dx
          have dx := (mmA.cell (p := ⟨B, off + k, none⟩) hB (by simp)).trans dx
          have b2 : (k : Int) < (on : Int) := by omega
          have hBA : B < wA.heap.size := Nat.lt_of_lt_of_le hB mmA.size
          obtain ⟨c0, c1, c2, c3, c4, c5, c6, c7, c8⟩ := cfg_cells kA
          clear hx
          go_wp2
          go_region_held3 (fun w' => w'.cell? ⟨B, off + k, none⟩ = some (.int .i64 x) ∧ w'.cell? ⟨w.heap.size, 0, none⟩ = some (Value.int .i64 t.W) ∧ w'.cell? ⟨w.heap.size, 1, none⟩ = some (Value.int .i64 t.H) ∧ w'.cell? ⟨w.heap.size, 2, none⟩ = some (Value.int .i64 t.Lanes) ∧ w'.cell? ⟨w.heap.size, 3, none⟩ = some (Value.int .i64 t.Depth) ∧ w'.cell? ⟨w.heap.size, 4, none⟩ = some (Value.int .i64 t.Ring) ∧ w'.cell? ⟨w.heap.size, 5, none⟩ = some (Value.int .i64 t.Inbox) ∧ w'.cell? ⟨w.heap.size, 6, none⟩ = some (Value.int .i64 t.Bound) ∧ w'.cell? ⟨w.heap.size, 7, none⟩ = some (Value.bool t.West) ∧ w'.cell? ⟨w.heap.size, 8, none⟩ = some (Value.bool t.Cast))
            (first
              | exact ⟨B9, cfg_cells K9⟩
              | go_keep)
            ((go_at_call_of 16 x; refine (ref_Node t x _ HOK.out).mono ?_; rintro e w9 ⟨rfl, m9⟩; have B9 := (m9.cell (p := ⟨B, off + k, none⟩) hBA (by simp)).trans dx; have K9 := kA.drew.later m9 (by simp)))
          all_goals go_wp2_with fail
          all_goals go_meet
          all_goals exact ⟨_, rfl, Cfg.um_is HOK.out x, (Mod.refl _ _).drew.trans m9 (by simp)⟩
        · go_wp2_with fail
          all_goals go_meet
          all_goals exact ⟨0, by simp, HZ.out, Mod.refl _ _⟩
      case rest =>
        obtain ⟨kk, rfl, hkk, m9⟩ := hcut
        have HKK := Lib.hid hkk
        have T9 := Lib.hid (TT.out.later (MX.stable _ _ _ _) (MX.stable _ _ _ _) m9)
        have mm9 : Mod (fun g => ¬ pR p1 p2 p3 g) w8 wc := hm.trans m9 (fun i hi e => e.elim)
        have SNIL : ∀ W : World, SlV W (.slice none 0 0) (([] : List Int).map (Value.int .i64)) := fun W => ⟨_, _, _, rfl, rfl, Nat.le_refl _, by decide, Or.inl rfl⟩
        clear hkk m9 TT kA mmA sA
        go_wp2_with fail
        refine (two_SendA nn kk _ T9.out (by omega) (by decide) HB.out).mono ?_
        rw [show s.sendE t nn kk (⟨#[97]⟩ : ByteArray) = 5 from by rw [← HNN.out]; exact ref_send1 HKK.out _]
        rintro e w10 ⟨rfl, T10, m10⟩
        rw [MS.send_same (by rw [show s.sendE t nn kk (⟨#[97]⟩ : ByteArray) = 5 from by rw [← HNN.out]; exact ref_send1 HKK.out _]; decide)] at T10
        have T10 := Lib.hid T10
        have mm10 := mm9.trans m10 (fun i hi h => h)
        clear m10 mm9 T9
        go_wp2_with fail
        refine (two_SendA kk (-1) _ T10.out (by omega) (by decide) HB.out).mono ?_
        rw [show s.sendE t kk (-1) (⟨#[97]⟩ : ByteArray) = 5 from ref_send2 _ _]
        rintro e w11 ⟨rfl, T11, m11⟩
        rw [MS.send_same (by rw [show s.sendE t kk (-1) (⟨#[97]⟩ : ByteArray) = 5 from ref_send2 _ _]; decide)] at T11
        have T11 := Lib.hid T11
        have mm11 := mm10.trans m11 (fun i hi h => h)
        clear m11 mm10 T10
        go_wp2_with fail
        refine (two_SendA kk kk lg T11.out (by omega) LGS.out HB.out).mono ?_
        have hne : s.sendE t kk kk lg ≠ 0 := ref_send3 _ _ HLG.out
        rw [MS.send_same hne]
        have q12 : (s.sendE t kk kk lg == 0) = false := beq_eq_false_iff_ne.2 hne
        generalize s.sendE t kk kk lg = y12 at q12 ⊢
        clear hne
        rintro e w12 ⟨rfl, T12, m12⟩
        have T12 := Lib.hid T12
        have mm12 := mm11.trans m12 (fun i hi h => h)
        clear m12 mm11 T11
        go_wp2_with fail
        refine (two_CastA kk _ [] _ T12.out (by omega) (SNIL _) (by simp) (by decide) HB.out (fun a n c e => by simp at e)).mono ?_
        have hne : s.castE t kk [] (⟨#[97]⟩ : ByteArray) ≠ 0 := ref_cast1 _ _
        rw [MS.cast_same hne]
        have q13 : (s.castE t kk [] (⟨#[97]⟩ : ByteArray) == 0) = false := beq_eq_false_iff_ne.2 hne
        generalize s.castE t kk [] (⟨#[97]⟩ : ByteArray) = y13 at q13 ⊢
        clear hne
        rintro e w13 ⟨rfl, T13, m13⟩
        have T13 := Lib.hid T13
        have mm13 := mm12.trans m13 (fun i hi h => h)
        clear m13 mm12 T12
        have mal := (Mod.refl (fun _ => False) w13).alloc (.cells #[.int .i64 kk, .int .i64 kk] 3)
        have T13b := Lib.hid (T13.out.more (P' := fun g => pR p1 p2 p3 g ∨ g = w13.heap.size) (MX.stable _ _ _ _) (MX.stable _ _ _ _) mal (by simp) (fun g hg => hg.imp id (fun e => by subst e; simp)))
        have SKK : SlV (w13.alloc (.cells #[.int .i64 kk, .int .i64 kk] 3)) (.slice (some ⟨w13.heap.size, 0, none⟩) 2 2) (([kk, kk] : List Int).map (Value.int .i64)) := SlV.new _ _ _ rfl _ rfl
        have HSKK := Lib.hid SKK
        clear SKK
        go_wp2_with fail
        refine (two_CastA kk _ [kk, kk] _ T13b.out (by omega) HSKK.out (by simp) (by decide) HB.out (fun a n c e => Or.inr (by simp at e; rw [← e.1]))).mono ?_
        have hne : s.castE t kk [kk, kk] (⟨#[97]⟩ : ByteArray) ≠ 0 := ref_cast2 _ _
        rw [MS.cast_same hne]
        have q14 : (s.castE t kk [kk, kk] (⟨#[97]⟩ : ByteArray) == 0) = false := beq_eq_false_iff_ne.2 hne
        generalize s.castE t kk [kk, kk] (⟨#[97]⟩ : ByteArray) = y14 at q14 ⊢
        clear hne
        rintro e w14 ⟨rfl, T14, m14⟩
        have T14 := Lib.hid (T14.less (P := pR p1 p2 p3) (fun g hg => Or.inl hg))
        have mm14 := (mm13.trans mal (fun i hi e => e.elim)).trans m14 (fun i hi h hp => h (Or.inl hp))
        clear m14 mm13 T13 T13b mal HSKK
        go_wp2_with fail
        refine (two_TookA nn 0 0 0 _ T14.out (by omega)).mono ?_
        rw [show s.tookE t nn 0 0 ⟨#[]⟩ = 5 from by rw [← HNN.out]; exact ref_took1 _ _ _]
        rintro e w15 ⟨rfl, T15, m15⟩
        rw [MS.took_same (by rw [show s.tookE t nn 0 0 ⟨#[]⟩ = 5 from by rw [← HNN.out]; exact ref_took1 _ _ _]; decide)] at T15
        have T15 := Lib.hid T15
        have mm15 := mm14.trans m15 (fun i hi h => h)
        clear m15 mm14 T14
        go_wp2_with fail
        refine (two_TookA kk kk kk 0 lg T15.out (by omega)).mono ?_
        rw [show s.tookE t kk kk kk lg = 13 from ref_took2 HKK.out SH.out HLG.out]
        rintro e w16 ⟨rfl, T16, m16⟩
        rw [MS.took_same (by rw [show s.tookE t kk kk kk lg = 13 from ref_took2 HKK.out SH.out HLG.out]; decide)] at T16
        have T16 := Lib.hid T16
        have mm16 := mm15.trans m16 (fun i hi h => h)
        clear m16 mm15 T15
        go_wp2_with fail
        refine (two_CloseA (-1) T16.out).mono ?_
        rw [show s.may t (-1) = 5 from ref_close1]
        rintro e w17 ⟨rfl, T17, m17⟩
        rw [MS.close_same (by rw [show s.may t (-1) = 5 from ref_close1]; decide)] at T17
        have T17 := Lib.hid T17
        have mm17 := mm16.trans m17 (fun i hi h => h)
        clear m17 mm16 T16
        obtain ⟨g, x, s', rfl, hlo, hhi, hx, hs, hso, hcells⟩ := (HCV.out.later mm17 (fun g h1 h2 h => h (Or.inr ⟨h1, h2⟩))).at hlt
        have hwx := HWF.out x (List.mem_of_getElem? hx)
        obtain ⟨⟨wK, wA', wB', wN⟩, hds, hsl⟩ := hwx
        have hdsz : x.Data.size ≤ 4294967295 := by omega
        have d0 := hcells 0 (by omega)
        have d1 := hcells 1 (by omega)
        have d2 := hcells 2 (by omega)
        have d3 := hcells 3 (by omega)
        have d4 := hcells 4 (by omega)
        have d5 := hcells 5 (by omega)
        simp [MCall.cells] at d0 d1 d2 d3 d4 d5
        obtain ⟨sa', sn', sc', rfl, -, -, -, -⟩ := id hs
        have HS := Lib.hid hs
        have HSO := Lib.hid hso
        have WA := Lib.hid wA'
        have WB := Lib.hid wB'
        obtain ⟨X, hX⟩ : ∃ X, X = w17.heap.size := ⟨_, rfl⟩
        have mX : Mod (fun _ => False) w17 (w17.alloc (.cells #[.int .i64 x.K, .int .i64 x.A, .int .i64 x.B, .int .i64 x.N, .slice sa' sn' sc', .string x.Data] 41)) := (Mod.refl _ _).alloc _
        have kX := Blk.made w17 #[.int .i64 x.K, .int .i64 x.A, .int .i64 x.B, .int .i64 x.N, .slice sa' sn' sc', .string x.Data] 41
        have TX := Lib.hid (T17.out.more (P' := pX p1 p2 p3 X) (MX.stable _ _ _ _) (MX.stable _ _ _ _) mX (by simp) (fun g hg => hg.imp id (fun e => by subst e; rw [hX]; simp)))
        have SX := Lib.hid (HS.out.later mX (by simp))
        have mmX := mm17.trans mX (fun i hi e => e.elim)
        clear hcells hs hx wK wN wA' wB' hso hlo hhi HS T17 T10 T11 T12 T14 T15 T16 mm17
        go_upto_block 2 with fail
        rw [← hX] at kX
        generalize w17.alloc (.cells #[.int .i64 x.K, .int .i64 x.A, .int .i64 x.B, .int .i64 x.N, .slice sa' sn' sc', .string x.Data] 41) = wX at kX TX SX mmX mX ⊢
        have HX := Lib.hid hX
        clear mX
        rw [← HX.out]
        clear hX
        have tz := two_drew TX.out
        have kz := kX.drew
        have mz : Mod (fun g => ¬ pX p1 p2 p3 X g) wX wX.drew := (Mod.refl _ _).drew
        have sz := SX.out.later (Mod.refl (fun _ => False) wX).drew (by simp)
        have HSEP := Lib.hid (show ∀ (a : Addr) (n c : Nat), Value.slice sa' sn' sc' = .slice (some a) n c → (pX p1 p2 p3 X) a.block from fun a n c e => Or.inl (Or.inr (HSO.out _ (by rw [e]; rfl))))
        have y0 := kX.cell 0
        have y1 := kX.cell 1
        have y2 := kX.cell 2
        have y4 := kX.cell 4
        have y5 := kX.cell 5
        simp at y0 y1 y2 y4 y5
        have hXl := kX.lt
        go_cut [16] (fun v w' => v = .bool true ∧ ∃ s2 : MS, Two (pX p1 p2 p3 X) w' pa pb t (200 * k + 150) (200 * k + 150) s2 s2 ∧ s2.Short ∧ Blk w' X #[.int .i64 x.K, .int .i64 x.A, .int .i64 x.B, .int .i64 x.N, .slice sa' sn' sc', .string x.Data] 41 ∧ Mod (fun g => ¬ pX p1 p2 p3 X g) wX w')
        case first => as_aux_lemma =>
          by_cases h0 : x.K = 0
          · as_aux_lemma =>
            have q0 : (x.K == 0) = true := beq_iff_eq.2 h0
            clear h0
            go_upto_region 25 with fail
            go_region_held3 (fun w' => w'.cell? ⟨X, 1, none⟩ = some (.int .i64 x.A) ∧ w'.cell? ⟨X, 2, none⟩ = some (.int .i64 x.B) ∧ w'.cell? ⟨X, 5, none⟩ = some (.string x.Data)) (first | exact ⟨kz.cell 1, kz.cell 2, kz.cell 5⟩ | go_keep)
              ((first
                | (go_at_call_of 11 pa; refine (two_SendA x.A x.B x.Data tz (by omega) hdsz HB.out).mono ?_; rintro e w9 ⟨rfl, T9, m9⟩; have kz := blk_keep kz m9 (Or.inr rfl); have mz := mz.trans m9 (fun i hi h => h); have tz := T9)
                | (go_at_call_of 11 pb; refine (two_SendB x.A x.B x.Data tz (by omega) hdsz HB.out).mono ?_; rintro e w9 ⟨rfl, T9, m9⟩; have kz := blk_keep kz m9 (Or.inr rfl); have mz := mz.trans m9 (fun i hi h => h); have tz := T9)))
            all_goals go_wp2_with fail
            all_goals go_meet
            all_goals exact ⟨by simp, _, (two_mono (P := pX p1 p2 p3 X) tz (by omega) (by omega)), MS.send_short SH.out _ _ _, kz, mz⟩
          · have q0 : (x.K == 0) = false := beq_eq_false_iff_ne.2 h0
            by_cases h1 : x.K = 1
            · as_aux_lemma =>
              have q1 : (x.K == 1) = true := beq_iff_eq.2 h1
              clear h0 h1
              go_upto_region 27 with fail
              go_region_held3 (fun w' => w'.cell? ⟨X, 1, none⟩ = some (.int .i64 x.A) ∧ w'.cell? ⟨X, 4, none⟩ = some (.slice sa' sn' sc') ∧ w'.cell? ⟨X, 5, none⟩ = some (.string x.Data)) (first | exact ⟨kz.cell 1, kz.cell 4, kz.cell 5⟩ | go_keep)
                ((first
                  | (go_at_call_of 18 pa; refine (two_CastA x.A _ x.Set x.Data tz (by omega) sz (by omega) hdsz HB.out HSEP.out).mono ?_; rintro e w9 ⟨rfl, T9, m9⟩; have kz := blk_keep kz m9 (Or.inr rfl); have mz := mz.trans m9 (fun i hi h => h); have tz := T9; have sz := sz.later m9 (fun a n c e h => h (HSEP.out a n c e)))
                  | (go_at_call_of 18 pb; refine (two_CastB x.A _ x.Set x.Data tz (by omega) sz (by omega) hdsz HB.out HSEP.out).mono ?_; rintro e w9 ⟨rfl, T9, m9⟩; have kz := blk_keep kz m9 (Or.inr rfl); have mz := mz.trans m9 (fun i hi h => h); have tz := T9; have sz := sz.later m9 (fun a n c e h => h (HSEP.out a n c e)))))
              all_goals go_wp2_with fail
              all_goals go_meet
              all_goals exact ⟨by simp, _, (two_mono (P := pX p1 p2 p3 X) tz (by omega) (by omega)), MS.cast_short SH.out _ _ _, kz, mz⟩
            · have q1 : (x.K == 1) = false := beq_eq_false_iff_ne.2 h1
              by_cases h3 : x.K = 3
              · as_aux_lemma =>
                have q3 : (x.K == 3) = true := beq_iff_eq.2 h3
                clear h0 h1 h3
                go_upto_region 29 with fail
                go_region_held3 (fun w' => w'.cell? ⟨X, 1, none⟩ = some (.int .i64 x.A)) (first | exact kz.cell 1 | go_keep)
                  ((first
                    | (go_at_call_of 26 pa; refine (two_CloseA x.A tz).mono ?_; rintro e w9 ⟨rfl, T9, m9⟩; have kz := blk_keep kz m9 (Or.inr rfl); have mz := mz.trans m9 (fun i hi h => h); have tz := T9)
                    | (go_at_call_of 26 pb; refine (two_CloseB x.A tz).mono ?_; rintro e w9 ⟨rfl, T9, m9⟩; have kz := blk_keep kz m9 (Or.inr rfl); have mz := mz.trans m9 (fun i hi h => h); have tz := T9)))
                all_goals go_wp2_with fail
                all_goals go_meet
                all_goals exact ⟨by simp, _, (two_mono (P := pX p1 p2 p3 X) tz (by omega) (by omega)), MS.close_short SH.out _, kz, mz⟩
              · as_aux_lemma =>
                have q3 : (x.K == 3) = false := beq_eq_false_iff_ne.2 h3
                clear h0 h1 h3
                obtain ⟨Y, hY⟩ : ∃ Y, Y = wX.heap.size := ⟨_, rfl⟩
                have mY : Mod (fun _ => False) wX (wX.alloc (.cells #[.int .i64 x.B, .int .i64 x.A, .int .i64 0, .string x.Data] 36)) := (Mod.refl _ _).alloc _
                have kY := Blk.made wX #[.int .i64 x.B, .int .i64 x.A, .int .i64 0, .string x.Data] 36
                have TY := Lib.hid (TX.out.more (P' := pY p1 p2 p3 X Y) (MX.stable _ _ _ _) (MX.stable _ _ _ _) mY (by simp) (fun g hg => hg.imp id (fun e => by subst e; rw [hY]; simp)))
                have kXY := kX.later mY (by simp)
                go_upto_region 23 with fail
                rw [← hY] at kY
                generalize wX.alloc (.cells #[.int .i64 x.B, .int .i64 x.A, .int .i64 0, .string x.Data] 36) = wY at kY kXY TY mY ⊢
                have HY := Lib.hid hY
                rw [← HY.out]
                clear hY tz kz mz sz y0 y1 y2 y4 y5
                have y1 := kXY.cell 1
                have v0 := kY.cell 0
                have v1 := kY.cell 1
                have v2 := kY.cell 2
                have v3 := kY.cell 3
                simp at y1 v0 v1 v2 v3
                have tz := two_drew TY.out
                have kz := kXY.drew
                have yz := kY.drew
                have mz : Mod (fun g => ¬ pY p1 p2 p3 X Y g) wY wY.drew := (Mod.refl _ _).drew
                have mzY : Mod (fun g => ¬ pX p1 p2 p3 X g) wX wY := mY.mono (fun i hi e => e.elim)
                clear mY
                go_region_held3 (fun w' => w'.cell? ⟨X, 1, none⟩ = some (.int .i64 x.A) ∧ w'.cell? ⟨Y, 0, none⟩ = some (.int .i64 x.B) ∧ w'.cell? ⟨Y, 1, none⟩ = some (.int .i64 x.A) ∧ w'.cell? ⟨Y, 2, none⟩ = some (.int .i64 0) ∧ w'.cell? ⟨Y, 3, none⟩ = some (.string x.Data)) (first | exact ⟨kz.cell 1, yz.cell 0, yz.cell 1, yz.cell 2, yz.cell 3⟩ | go_keep)
                  ((first
                    | (go_at_call_of 12 pa; refine (two_TookA x.A x.B x.A 0 x.Data tz (by omega)).mono ?_; rintro e w9 ⟨rfl, T9, m9⟩; have kz := blk_keep kz m9 (Or.inl (Or.inr rfl)); have mz := mz.trans m9 (fun i hi h => h); have tz := T9; have yz := blk_keep yz m9 (Or.inr rfl))
                    | (go_at_call_of 12 pb; refine (two_TookB x.A x.B x.A 0 x.Data tz (by omega)).mono ?_; rintro e w9 ⟨rfl, T9, m9⟩; have kz := blk_keep kz m9 (Or.inl (Or.inr rfl)); have mz := mz.trans m9 (fun i hi h => h); have tz := T9; have yz := blk_keep yz m9 (Or.inr rfl))))
                all_goals go_wp2_with fail
                all_goals go_meet
                all_goals exact ⟨by simp, _, (two_mono (P := pX p1 p2 p3 X) (tz.less (fun g hg => Or.inl hg)) (by omega) (by omega)), MS.took_short SH.out _ _ _ _, kz, (mzY.trans mz (fun i hi h hp => h (Or.inl hp)))⟩
        case rest => as_aux_lemma =>
          obtain ⟨rfl, s2, T2, SH2, K2, M2⟩ := hcut
          have T2 := Lib.hid T2
          have SH2 := Lib.hid SH2
          have mmc := mmX.trans M2 (fun i hi h hp => h (Or.inl hp))
          clear tz kz mz sz y0 y1 y2 y4 y5 TX SX mmX M2 kX SH
          have y1 := K2.cell 1
          have y2 := K2.cell 2
          simp at y1 y2
          obtain ⟨wB, rfl⟩ : ∃ wo : World, wo = wc := ⟨_, rfl⟩
          have tz := two_drew T2.out
          have kz := K2.drew
          have mz : Mod (fun _ => False) wB wB.drew := (Mod.refl _ _).drew
          go_upto_region 30 with fail
          go_cut [229] (fun v w' => v = .bool false ∧ Two (pX p1 p2 p3 X) w' pa pb t (200 * k + 150) (200 * k + 150) s2 s2 ∧ Mod (fun _ => False) wB w')
          case first => as_aux_lemma =>
            go_region_held3 (fun w' => w'.cell? ⟨X, 1, none⟩ = some (.int .i64 x.A) ∧ w'.cell? ⟨X, 2, none⟩ = some (.int .i64 x.B)) (first | exact ⟨kz.cell 1, kz.cell 2⟩ | go_keep)
              ((first
                | (go_at_call_of 13 pa; refine (two_UnderA kk tz).mono ?_; rintro e w9 ⟨rfl, T9, m9⟩; have kz := blk_keep0 kz m9; have mz := mz.trans m9 (fun i hi h => h); have tz := T9)
                | (go_at_call_of 14 pa; refine (two_EmptyA tz).mono ?_; rintro e w9 ⟨rfl, T9, m9⟩; have kz := blk_keep0 kz m9; have mz := mz.trans m9 (fun i hi h => h); have tz := T9)
                | (go_at_call_of 21 pa; refine (two_QueueA x.A x.B tz (by omega) WA.out WB.out).mono ?_; rintro e w9 ⟨r9, rfl, T9, m9, q9⟩; have kz := blk_keep0 kz m9; have mz := mz.trans m9 (fun i hi h => h); have tz := T9; (try have qo := qz.later m9 (by simp)); have qz := q9)
                | (go_at_call_of 13 pb; refine (two_UnderB kk tz).mono ?_; rintro e w9 ⟨rfl, T9, m9⟩; have kz := blk_keep0 kz m9; have mz := mz.trans m9 (fun i hi h => h); have tz := T9)
                | (go_at_call_of 14 pb; refine (two_EmptyB tz).mono ?_; rintro e w9 ⟨rfl, T9, m9⟩; have kz := blk_keep0 kz m9; have mz := mz.trans m9 (fun i hi h => h); have tz := T9)
                | (go_at_call_of 21 pb; refine (two_QueueB x.A x.B tz (by omega) WA.out WB.out).mono ?_; rintro e w9 ⟨r9, rfl, T9, m9, q9⟩; have kz := blk_keep0 kz m9; have mz := mz.trans m9 (fun i hi h => h); have tz := T9; (try have qo := qz.later m9 (by simp)); have qz := q9)
                | (go_at_call 20; refine (ref_SameS _ _ _ _ _ (by assumption) (by assumption)).mono ?_; rw [show decide (s2.Q x.A x.B = s2.Q x.A x.B) = true from by simp]; rintro e w9 ⟨rfl, d9⟩; have kz := kz.later (d9.mod (fun _ => False)) (by simp); have mz := mz.trans (d9.mod (fun _ => False)) (fun i hi h => h); have tz := tz.later (MX.stable _ _ _ _) (MX.stable _ _ _ _) (d9.mod (fun _ => False)))))
            all_goals go_wp2_with fail
            all_goals go_meet
            all_goals exact ⟨by simp, tz, mz⟩
          case rest =>
            obtain ⟨rfl, T3, M3⟩ := hcut
            have mmd := mmc.trans M3 (fun i hi h => h.elim)
            have T3 := Lib.hid (two_mono (ka' := 200 * (k + 1)) (kb' := 200 * (k + 1)) (T3.less (P := pR p1 p2 p3) (fun g hg => Or.inl hg)) (by omega) (by omega))
            clear tz kz mz T2 K2 y1 y2 M3 mmc
            go_wp2
            go_roundw
            case rel => exact ⟨k + 1, s2, by omega, by go_num, T3.out, SH2.out, mmd⟩
            case measure => simp [intOf]; omega
    · go_wp2
      go_ret
      exact ⟨rfl, mmA.below⟩

end Go.Proofs.Ytonnooenebfbeaa
