/- The walk of ModelPlays. -/
import Derived.Test.YtonnooenebfbeaaR21E
import Derived.Test.YtonnooenebfbeaaEarly21
import Derived.Test.YtonnooenebfbeaaMdlLives
import Derived.Test.YtonnooenebfbeaaMdlSame
import Derived.Test.YtonnooenebfbeaaPut9
namespace Go.Proofs.Ytonnooenebfbeaa
open Go.RowKit

def pR (a b d : Nat) : Nat → Prop := fun g => g < a ∨ (b ≤ g ∧ g < d)
def pX (a b d X : Nat) : Nat → Prop := fun g => pR a b d g ∨ g = X
def pY (a b d X Y : Nat) : Nat → Prop := fun g => pX a b d X g ∨ g = Y

set_option maxRecDepth 100000 in
set_option maxHeartbeats 8000000 in
theorem walk_ModelPlays {w : World} (c : Cfg) (v : Value) (l : List (Dat callT)) (rd : Rd w w.heap.size (.slice callT) l [v]) (tv : Value) (tl : List (Dat packetT)) (trd : Rd w w.heap.size (.slice packetT) tl [tv]) :
    Calls Try.prog 5 #[.agg c.cells, v, tv] w fun e w' => e = .returned (.bool true) ∧ Below w.heap.size w w' := by
  have kb := Blk.made w c.cells 25
  have m0 : Mod (fun _ => False) w (w.alloc (.cells c.cells 25)) := (Mod.refl _ _).alloc _
  have RD := Lib.hid rd
  have TRD := Lib.hid trd
  obtain ⟨a, len, cap, hv, -⟩ := id rd
  obtain rfl : v = .slice a len cap := by simpa using hv
  obtain ⟨ta, tn, tc, htv, htl, htc, htm, -⟩ := id trd
  obtain rfl : tv = .slice ta tn tc := by simpa using htv
  unfold maxLen at htm
  obtain ⟨hok2, -, -⟩ := c.small_ok
  have HOK := Lib.hid hok2
  clear rd trd hv htv hok2 htl
  simp only [Cfg.cells] at kb m0 ⊢
  go_enter Try.func5, Try.ntmps5
  go_wp2_with fail
  refine (run_lives21 _).mono ?_
  rintro e w1 ⟨rfl, m1⟩
  have k1 := kb.later m1 (by simp)
  have mm1 := m0.trans m1 (by simp)
  obtain ⟨c0, c1, c2, c3, c4, c5, c6, c7, c8⟩ := cfg_cells k1
  clear kb m0 m1
  go_wp2_with fail
  refine (run_Small c _).mono ?_
  rintro e w2 ⟨rfl, m2⟩
  have k2 := k1.later m2 (by simp)
  have mm2 := mm1.trans m2 (by simp)
  clear k1 mm1 m2 c0 c1 c2 c3 c4 c5 c6 c7 c8
  have l2 := k2.lt
  have z0 := k2.fz 0
  have z1 := k2.fz 1
  have z2 := k2.fz 2
  have z3 := k2.fz 3
  have z4 := k2.fz 4
  have z5 := k2.fz 5
  have z6 := k2.fz 6
  have z7 := k2.fz 7
  have z8 := k2.fz 8
  obtain ⟨c0, c1, c2, c3, c4, c5, c6, c7, c8⟩ := cfg_cells k2
  go_upto_region 4 with fail
  have k3 := put9_blk (d := c.small) k2
  have mm3 := put9_mod mm2 (b := w.heap.size) (Or.inr (Nat.le_refl _)) c.small
  change Code.wp Try.prog _ _ _ (put9 w2 w.heap.size c.small)
  generalize put9 w2 w.heap.size c.small = w3 at k3 mm3 ⊢
  clear k2 mm2 l2 c0 c1 c2 c3 c4 c5 c6 c7 c8 z0 z1 z2 z3 z4 z5 z6 z7 z8
  clear w1 w2
  generalize c.small = t at *
  have LT3 := k3.lt
  obtain ⟨c0, c1, c2, c3, c4, c5, c6, c7, c8⟩ := cfg_cells k3
  go_wp2_with fail
  refine (at_Open t _ HOK.out).mono ?_
  rintro e w5 ⟨pa, oa1, rfl, m5, ha, la⟩
  have k5 := k3.later m5 (by simp)
  have mm5 := mm3.trans m5 (by simp)
  have HA := Lib.hid ha
  have LA := Lib.hid la
  clear ha la k3 c0 c1 c2 c3 c4 c5 c6 c7 c8
  obtain ⟨c0, c1, c2, c3, c4, c5, c6, c7, c8⟩ := cfg_cells k5
  go_wp2_with fail
  refine (run_ROpen t _ HOK.out).mono ?_
  rintro e w6 ⟨pb, pc, rfl, m6, hb, lb, lc⟩
  have T6 := Lib.hid (duo_open HA.out LA.out hb lb lc m5 m6)
  have k6 := k5.later m6 (by simp)
  have mm6 := mm5.trans m6 (by simp)
  have sz6 : w3.heap.size ≤ w6.heap.size := Nat.le_trans m5.size m6.size
  clear HA LA hb lb lc k5 mm5 m5 m6 c0 c1 c2 c3 c4 c5 c6 c7 c8
  obtain ⟨c0, c1, c2, c3, c4, c5, c6, c7, c8⟩ := cfg_cells k6
  go_wp2_with fail
  refine (run_early21 t _ l 80 _ w.heap.size HOK.out (Rd.later mm6 (Nat.le_refl _) (by simp) _ _ _ RD.out) mm6.size (by omega)).mono ?_
  rintro e w8 ⟨r, rfl, m8, hcv⟩
  have hwf : ∀ x ∈ ((l.map mcall).take 80).map (early21 t), x.wf ∧ x.Data.size ≤ 70 ∧ x.Set.length ≤ 6 := by
    intro x hx
    obtain ⟨y, hy, rfl⟩ := List.mem_map.1 hx
    exact ⟨early21_wf (rd_wf (Nat.le_refl _) RD.out y (List.mem_of_mem_take hy)), early21_size _ _, early21_len _ _⟩
  have hlen : (((l.map mcall).take 80).map (early21 t)).length ≤ 80 := by simp; omega
  generalize ((l.map mcall).take 80).map (early21 t) = L at hcv hwf hlen
  have T8 := Lib.hid (T6.out.more (P' := pR w3.heap.size w6.heap.size w8.heap.size) (MX.stable _ _ _ _) (RX.stable _ _ _ _) m8 (by simp) (fun g hg => hg))
  have k8 := k6.later m8 (by simp)
  have mm8 := mm6.trans m8 (by simp)
  have HWF := Lib.hid hwf
  have HCV := Lib.hid hcv
  obtain ⟨ca, cn, cc, xs, rfl, hcl, hcc, hcm, -⟩ := id hcv
  have HCL := Lib.hid hcl
  have hcn : cn ≤ 80 := by omega
  clear hwf hcv hcl T6 k6 mm6 m8 c0 c1 c2 c3 c4 c5 c6 c7 c8 hlen RD
  unfold maxLen at hcm
  have HB := Lib.hid (show 0 ≤ t.Bound ∧ t.Bound ≤ 16 from ⟨by have := HOK.out.B1; omega, HOK.out.B2⟩)
  obtain ⟨P1, hp1⟩ : ∃ p, p = w3.heap.size := ⟨_, rfl⟩
  obtain ⟨P2, hp2⟩ : ∃ p, p = w6.heap.size := ⟨_, rfl⟩
  obtain ⟨P3, hp3⟩ : ∃ p, p = w8.heap.size := ⟨_, rfl⟩
  rw [← hp1] at LT3 sz6 T8
  rw [← hp2] at sz6 T8 HCV
  rw [← hp3] at T8 HCV
  have HP3 := Lib.hid hp3
  clear hp1 hp2 hp3
  go_wp2
  go_loopw [11] (fun i wr => ∃ (k : Nat) (s : MS) (r : RS), k ≤ cn ∧ i = .int .i64 k ∧ Duo (pR P1 P2 P3) wr pa pb t (200 * k) s r ∧ Rel t s r ∧ Mod (fun g => ¬ pR P1 P2 P3 g) w8 wr) (fun i _ => cn - (intOf i).toNat)
  case atStart => exact ⟨0, MS.new t, RS.new t, by omega, by simp, T8.out, rel_new t, Mod.refl _ _⟩
  case round =>
    obtain ⟨k, s, r, hk, rfl, hT, hrl, hm⟩ := hrel
    obtain ⟨wA, rfl⟩ : ∃ wo : World, wo = wr := ⟨_, rfl⟩
    have TT := Lib.hid hT
    have SH := Lib.hid hrl
    have mmA : Mod (fun _ => False) w wA := mm8.trans hm (fun i hi h => h (Or.inl (by omega)))
    clear hT hrl
    by_cases hlt : k < cn
    · have b0 : (0 : Int) ≤ (k : Int) := by omega
      have b1 : (k : Int) < (cn : Int) := by omega
      obtain ⟨g, x, s', rfl, hlo, hhi, hx, hs, hso, hcells⟩ := (HCV.out.later hm (fun g h1 h2 h => h (Or.inr ⟨h1, h2⟩))).at hlt
      have hwx := HWF.out x (List.mem_of_getElem? hx)
      obtain ⟨⟨wK, wA', wB', wN⟩, hds, hsl⟩ := hwx
      have hdsz : x.Data.size ≤ 4294967295 := by omega
      have d0 := hcells 0 (by omega)
      have d1 := hcells 1 (by omega)
      have d2 := hcells 2 (by omega)
      have d3 := hcells 3 (by omega)
      have d4 := hcells 4 (by omega)
      have d5 := hcells 5 (by omega)
      simp [MCall.cells] at d0 d1 d2 d3 d4 d5
      obtain ⟨sa', sn', sc', rfl, -, -, -, -⟩ := id hs
      have HS := Lib.hid hs
      have HSO := Lib.hid hso
      have WA := Lib.hid wA'
      have WB := Lib.hid wB'
      obtain ⟨X, hX⟩ : ∃ X, X = wA.heap.size := ⟨_, rfl⟩
      have mX : Mod (fun _ => False) wA (wA.alloc (.cells #[.int .i64 x.K, .int .i64 x.A, .int .i64 x.B, .int .i64 x.N, .slice sa' sn' sc', .string x.Data] 41)) := (Mod.refl _ _).alloc _
      have kX := Blk.made wA #[.int .i64 x.K, .int .i64 x.A, .int .i64 x.B, .int .i64 x.N, .slice sa' sn' sc', .string x.Data] 41
      have TX := Lib.hid (TT.out.more (P' := pX P1 P2 P3 X) (MX.stable _ _ _ _) (RX.stable _ _ _ _) mX (by simp) (fun g hg => hg.imp id (fun e => by subst e; rw [hX]; simp)))
      have SX := Lib.hid (HS.out.later mX (by simp))
      have mmX : Mod (fun g => ¬ pR P1 P2 P3 g) w8 (wA.alloc (.cells #[.int .i64 x.K, .int .i64 x.A, .int .i64 x.B, .int .i64 x.N, .slice sa' sn' sc', .string x.Data] 41)) := hm.trans mX (fun i hi e => e.elim)
      have mwX : Mod (fun _ => False) w (wA.alloc (.cells #[.int .i64 x.K, .int .i64 x.A, .int .i64 x.B, .int .i64 x.N, .slice sa' sn' sc', .string x.Data] 41)) := mmA.trans mX (fun i hi e => e)
      have hXw : w.heap.size ≤ X := by rw [hX]; exact mmA.size
      have gA : g < wA.heap.size := by have := hm.size; rw [← HP3.out] at this; omega
      clear hcells hx hs hso wK wA' wB' wN TT
      go_upto_block 2 with fail
      rw [← hX] at kX
      generalize wA.alloc (.cells #[.int .i64 x.K, .int .i64 x.A, .int .i64 x.B, .int .i64 x.N, .slice sa' sn' sc', .string x.Data] 41) = wX at mX kX TX SX mmX mwX ⊢
      have HX := Lib.hid hX
      clear mX
      rw [← HX.out]
      clear hX d0 d1 d2 d3 d4 d5
      have tz := duo_drew TX.out
      have kz := kX.drew
      have mz : Mod (fun g => ¬ pX P1 P2 P3 X g) wX wX.drew := (Mod.refl _ _).drew
      have sz := SX.out.later (Mod.refl (fun _ => False) wX).drew (by simp)
      have HSEP := Lib.hid (show ∀ (a : Addr) (n c : Nat), Value.slice sa' sn' sc' = .slice (some a) n c → (pX P1 P2 P3 X) a.block from fun a n c e => Or.inl (Or.inr (HSO.out _ (by rw [e]; rfl))))
      have y0 := kX.cell 0
      have y1 := kX.cell 1
      have y2 := kX.cell 2
      have y3 := kX.cell 3
      have y4 := kX.cell 4
      have y5 := kX.cell 5
      simp at y0 y1 y2 y3 y4 y5
      have hXl := kX.lt
      go_cut [13] (fun v w' => v = .bool true ∧ ∃ (s2 : MS) (r2 : RS), Duo (pX P1 P2 P3 X) w' pa pb t (200 * k + 150) s2 r2 ∧ Rel t s2 r2 ∧ Blk w' X #[.int .i64 x.K, .int .i64 x.A, .int .i64 x.B, .int .i64 x.N, .slice sa' sn' sc', .string x.Data] 41 ∧ Mod (fun g => ¬ pX P1 P2 P3 X g) wX w')
      case first => as_aux_lemma =>
        by_cases h0 : x.K = 0
        · as_aux_lemma =>
          have q0 : (x.K == 0) = true := beq_iff_eq.2 h0
          clear h0
          go_upto_region 23 with fail
          obtain ⟨E0, hE0⟩ : ∃ E0, rsendE t r.L r.C x.A x.B x.Data.size = E0 := ⟨_, rfl⟩
          have HE0 := Lib.hid hE0
          clear hE0
          go_region_held3 (fun w' => w'.cell? ⟨X, 1, none⟩ = some (.int .i64 x.A) ∧ w'.cell? ⟨X, 2, none⟩ = some (.int .i64 x.B) ∧ w'.cell? ⟨X, 5, none⟩ = some (.string x.Data)) (first | exact ⟨kz.cell 1, kz.cell 2, kz.cell 5⟩ | go_keep)
            ((first
              | (go_at_call_of 11 pa; refine (duo_SendA x.A x.B x.Data tz (by omega) hdsz HB.out).mono ?_; rw [(rel_sendE SH.out x.A x.B x.Data), HE0.out]; rintro e w9 ⟨rfl, T9, m9⟩; have kz := blk_keep kz m9 (Or.inr rfl); have mz := mz.trans m9 (fun i hi h => h); have tz := T9)
              | (go_at_call_of 24 pb; refine (duo_SendB x.A x.B x.Data tz (by omega) hdsz HB.out).mono ?_; rw [HE0.out]; rintro e w9 ⟨rfl, T9, m9⟩; have kz := blk_keep kz m9 (Or.inr rfl); have mz := mz.trans m9 (fun i hi h => h); have tz := T9)))
          all_goals go_wp2_with fail
          all_goals go_meet
          all_goals exact ⟨by simp, _, _, (duo_mono (P := pX P1 P2 P3 X) tz (by omega) (by omega)), (rel_send SH.out _ _ _), kz, mz⟩
        · have q0 : (x.K == 0) = false := beq_eq_false_iff_ne.2 h0
          by_cases h1 : x.K = 1
          · as_aux_lemma =>
            have q1 : (x.K == 1) = true := beq_iff_eq.2 h1
            clear h0 h1
            go_upto_region 25 with fail
            obtain ⟨E0, hE0⟩ : ∃ E0, rcastE t r.L r.C x.A x.Set x.Data.size = E0 := ⟨_, rfl⟩
            have HE0 := Lib.hid hE0
            clear hE0
            go_region_held3 (fun w' => w'.cell? ⟨X, 1, none⟩ = some (.int .i64 x.A) ∧ w'.cell? ⟨X, 4, none⟩ = some (.slice sa' sn' sc') ∧ w'.cell? ⟨X, 5, none⟩ = some (.string x.Data)) (first | exact ⟨kz.cell 1, kz.cell 4, kz.cell 5⟩ | go_keep)
              ((first
                | (go_at_call_of 18 pa; refine (duo_CastA x.A _ x.Set x.Data tz (by omega) sz (by omega) hdsz HB.out HSEP.out).mono ?_; rw [(rel_castE SH.out x.A x.Set x.Data), HE0.out]; rintro e w9 ⟨rfl, T9, m9⟩; have kz := blk_keep kz m9 (Or.inr rfl); have mz := mz.trans m9 (fun i hi h => h); have tz := T9; have sz := sz.later m9 (fun a n c e => fun h => h (HSEP.out a n c e)))
                | (go_at_call_of 25 pb; refine (duo_CastB x.A _ x.Set x.Data tz (by omega) sz (by omega) hdsz HB.out HSEP.out).mono ?_; rw [HE0.out]; rintro e w9 ⟨rfl, T9, m9⟩; have kz := blk_keep kz m9 (Or.inr rfl); have mz := mz.trans m9 (fun i hi h => h); have tz := T9; have sz := sz.later m9 (fun a n c e => fun h => h (HSEP.out a n c e)))))
            all_goals go_wp2_with fail
            all_goals go_meet
            all_goals exact ⟨by simp, _, _, (duo_mono (P := pX P1 P2 P3 X) tz (by omega) (by omega)), (rel_cast SH.out _ _ _), kz, mz⟩
          · have q1 : (x.K == 1) = false := beq_eq_false_iff_ne.2 h1
            by_cases h3 : x.K = 3
            · as_aux_lemma =>
              have q3 : (x.K == 3) = true := beq_iff_eq.2 h3
              clear h0 h1 h3
              go_upto_region 27 with fail
              obtain ⟨E0, hE0⟩ : ∃ E0, rcloseE t r.C x.A = E0 := ⟨_, rfl⟩
              have HE0 := Lib.hid hE0
              clear hE0
              go_region_held3 (fun w' => w'.cell? ⟨X, 1, none⟩ = some (.int .i64 x.A)) (first | exact kz.cell 1 | go_keep)
                ((first
                  | (go_at_call_of 26 pa; refine (duo_CloseA x.A tz).mono ?_; rw [(rel_closeE SH.out x.A), HE0.out]; rintro e w9 ⟨rfl, T9, m9⟩; have kz := blk_keep kz m9 (Or.inr rfl); have mz := mz.trans m9 (fun i hi h => h); have tz := T9)
                  | (go_at_call_of 27 pb; refine (duo_CloseB x.A tz).mono ?_; rw [HE0.out]; rintro e w9 ⟨rfl, T9, m9⟩; have kz := blk_keep kz m9 (Or.inr rfl); have mz := mz.trans m9 (fun i hi h => h); have tz := T9)))
              all_goals go_wp2_with fail
              all_goals go_meet
              all_goals exact ⟨by simp, _, _, (duo_mono (P := pX P1 P2 P3 X) tz (by omega) (by omega)), (rel_close SH.out _), kz, mz⟩
            · as_aux_lemma =>
              have q3 : (x.K == 3) = false := beq_eq_false_iff_ne.2 h3
              clear h0 h1 h3
              obtain ⟨Y, hY⟩ : ∃ Y, Y = wX.heap.size := ⟨_, rfl⟩
              have mY : Mod (fun _ => False) wX (wX.alloc (.cells #[.int .i64 x.B, .int .i64 x.A, .int .i64 0, .string x.Data] 36)) := (Mod.refl _ _).alloc _
              have kY := Blk.made wX #[.int .i64 x.B, .int .i64 x.A, .int .i64 0, .string x.Data] 36
              have TY := Lib.hid (TX.out.more (P' := pY P1 P2 P3 X Y) (MX.stable _ _ _ _) (RX.stable _ _ _ _) mY (by simp) (fun g hg => hg.imp id (fun e => by subst e; rw [hY]; simp)))
              have kXY := kX.later mY (by simp)
              go_upto_region 16 with fail
              rw [← hY] at kY
              generalize wX.alloc (.cells #[.int .i64 x.B, .int .i64 x.A, .int .i64 0, .string x.Data] 36) = wY at kY kXY TY mY ⊢
              have HY := Lib.hid hY
              rw [← HY.out]
              have hXY : X < Y := by rw [hY]; exact kX.lt
              clear hY tz kz mz sz y0 y1 y2 y3 y4 y5
              obtain ⟨oa, ob, ha, ⟨bc, vv, hb, rfl⟩, hd, hpp⟩ := TY.out
              have HBB := Lib.hid hb
              have y1 := kXY.cell 1
              have y2 := kXY.cell 2
              simp at y1 y2
              clear ha hb hd hpp
              go_wp2_with fail
              refine (run_RQueue x.B x.A HBB.out (by omega)).mono ?_
              rintro e wQ ⟨rq, rfl, mQ, sQ⟩
              have TQ := Lib.hid (TY.out.later (MX.stable _ _ _ _) (RX.stable _ _ _ _) mQ)
              have kQ := kXY.later mQ (by simp)
              have kYQ := kY.later mQ (by simp)
              have mYQ := mY.trans mQ (fun i hi e => e)
              obtain ⟨qa, qn, qc, rfl, hqn, hqc, hqm, -⟩ := id sQ
              rw [List.length_map] at hqn
              have HQN := Lib.hid hqn
              have SQ := Lib.hid sQ
              have hqb := Lib.hid (show ∀ B off, qa = some ⟨B, off, none⟩ → 0 < qn → B < wQ.heap.size from fun B off e h0 => by
                subst e
                obtain ⟨B2, off2, e2, hB2, -⟩ := SQ.out.at 0 h0
                simp at e2
                omega)
              unfold maxLen at hqm
              clear sQ hqn HBB TY kY kXY mY mQ y1 y2
              have y3 := kQ.cell 3
              simp at y3
              have v3 := kYQ.cell 3
              have f3 := kYQ.fz 3
              simp at v3
              go_upto_region 17 with fail
              go_cut [76] (fun z w' => ∃ bb : Bool, z = .bool bb ∧ (bb = true → 0 < qn) ∧ wQ = w')
              case first => as_aux_lemma =>
                by_cases hq0 : 0 < qn
                · have q1 : (0 : Int) < (qn : Int) := by omega
                  go_wp2_with fail
                  all_goals go_meet
                  all_goals exact ⟨_, rfl, fun _ => hq0, rfl⟩
                · have q1 : ¬ (0 : Int) < (qn : Int) := by omega
                  go_wp2_with fail
                  all_goals go_meet
                  all_goals exact ⟨false, by simp, (fun e => by cases e), rfl⟩
              case rest => as_aux_lemma =>
              obtain ⟨bb, rfl, hbb, rfl⟩ := hcut
              go_upto_if 76 with fail
              go_cut [] (fun w' => ∃ d : ByteArray, Blk w' Y #[.int .i64 x.B, .int .i64 x.A, .int .i64 0, .string d] 36 ∧ Mod (fun g => g = Y) wQ w')
              case first => as_aux_lemma =>
                cases bb with
                | true =>
                  have hq0 := hbb rfl
                  obtain ⟨B, off, rfl, hB, dq⟩ := SQ.out.at 0 hq0
                  obtain ⟨d, hd⟩ : ∃ d, (qOf r.L x.B x.A)[0]? = some d := ⟨_, List.getElem?_eq_getElem (by rw [HQN.out]; exact hq0)⟩
                  rw [strs_get hd] at dq
                  simp only [Nat.add_zero] at dq
                  have q1 : (0 : Int) < (qn : Int) := by omega
                  have hkk := Lib.hid kYQ
                  clear hd hbb
                  go_wp2_with fail
                  all_goals go_meet
                  all_goals exact ⟨d, by simpa using hkk.out.set 3 (.string d), (Mod.refl (fun g => g = Y) _).setCell (p := ⟨Y, 3, none⟩) (Or.inl rfl) _⟩
                | false =>
                  have hkk := Lib.hid kYQ
                  clear hbb
                  go_wp2_with fail
                  all_goals go_meet
                  all_goals exact ⟨x.Data, hkk.out, Mod.refl _ _⟩
              case rest => as_aux_lemma =>
              obtain ⟨d1, kY2, m2⟩ := hcut
              obtain ⟨w2, rfl⟩ : ∃ wo : World, wo = wc := ⟨_, rfl⟩
              have hXY' : X ≠ Y := by omega
              have kX2 := kQ.later m2 hXY'
              have TY2 := Lib.hid (TQ.out.other (MX.stable _ _ _ _) (RX.stable _ _ _ _) m2 (fun g e => Or.inr e))
              have m02 := (mYQ.mono (S' := fun g => g = Y) (fun i hi e => e.elim)).trans m2 (fun i hi e => e)
              clear y3 v3 f3 TQ kQ kYQ mYQ m2
              have y3 := kX2.cell 3
              simp at y3
              have v0 := kY2.cell 0
              have v1 := kY2.cell 1
              have v2 := kY2.cell 2
              have v3 := kY2.cell 3
              have f0 := kY2.fz 0
              have f1 := kY2.fz 1
              have f2 := kY2.fz 2
              have f3 := kY2.fz 3
              simp at v0 v1 v2 v3
              have mw2 : Mod (fun _ => False) w w2 := mwX.trans m02 (fun i hi e => by omega)
              go_upto_region 19 with fail
              go_cut [90] (fun z w' => ∃ bb : Bool, z = .bool bb ∧ (bb = true → k < tn) ∧ w2 = w')
              case first => as_aux_lemma =>
                by_cases ht0 : k < tn
                · have q1 : (k : Int) < (tn : Int) := by omega
                  go_wp2_with fail
                  all_goals go_meet
                  all_goals exact ⟨_, rfl, fun _ => ht0, rfl⟩
                · have q1 : ¬ (k : Int) < (tn : Int) := by omega
                  go_wp2_with fail
                  all_goals go_meet
                  all_goals exact ⟨false, by simp, (fun e => by cases e), rfl⟩
              case rest => as_aux_lemma =>
              obtain ⟨bb2, rfl, hbb2, rfl⟩ := hcut
              go_upto_if 90 with fail
              go_cut [] (fun w' => ∃ (p0 p1 p2 : Int) (d : ByteArray), Blk w' Y #[.int .i64 p0, .int .i64 p1, .int .i64 p2, .string d] 36 ∧ Mod (fun g => g = Y) w2 w')
              case first => as_aux_lemma =>
                have hkk := Lib.hid kY2
                cases bb2 with
                | true =>
                  have ht0 := hbb2 rfl
                  obtain ⟨g2, off, p0, p1, p2, d, rfl, hg2, hpc⟩ := rd_packet TRD.out ht0
                  have e0 := (mw2.cell (p := ⟨g2, off + k * 4 + 0, none⟩) hg2 (by simp)).trans (hpc 0 (by omega))
                  have e1 := (mw2.cell (p := ⟨g2, off + k * 4 + 1, none⟩) hg2 (by simp)).trans (hpc 1 (by omega))
                  have e2 := (mw2.cell (p := ⟨g2, off + k * 4 + 2, none⟩) hg2 (by simp)).trans (hpc 2 (by omega))
                  have e3 := (mw2.cell (p := ⟨g2, off + k * 4 + 3, none⟩) hg2 (by simp)).trans (hpc 3 (by omega))
                  simp at e0 e1 e2 e3
                  have q1 : (k : Int) < (tn : Int) := by omega
                  clear hpc hbb2
                  go_wp2_with fail
                  all_goals go_meet
                  all_goals exact ⟨p0, p1, p2, d, by simpa using ((((hkk.out.set 0 (.int .i64 p0)).set 1 (.int .i64 p1)).set 2 (.int .i64 p2)).set 3 (.string d)), ((((Mod.refl (fun g => g = Y) _).setCell (p := ⟨Y, 0, none⟩) (Or.inl rfl) _).setCell (p := ⟨Y, 1, none⟩) (Or.inl rfl) _).setCell (p := ⟨Y, 2, none⟩) (Or.inl rfl) _).setCell (p := ⟨Y, 3, none⟩) (Or.inl rfl) _⟩
                | false =>
                  clear hbb2
                  go_wp2_with fail
                  all_goals go_meet
                  all_goals exact ⟨_, _, _, _, hkk.out, Mod.refl _ _⟩
              case rest => as_aux_lemma =>
              obtain ⟨p0, p1, p2, d, kY3, m3⟩ := hcut
              obtain ⟨w3, rfl⟩ : ∃ wo : World, wo = wc := ⟨_, rfl⟩
              have kX3 := kX2.later m3 hXY'
              have TY3 := Lib.hid (TY2.out.other (MX.stable _ _ _ _) (RX.stable _ _ _ _) m3 (fun g e => Or.inr e))
              have m03 := m02.trans m3 (fun i hi e => e)
              clear y3 v0 v1 v2 v3 f0 f1 f2 f3 TY2 kX2 kY2 m02 m3 mw2
              have y1 := kX3.cell 1
              simp at y1
              have tz := duo_drew TY3.out
              have kz := kX3.drew
              have yz := kY3.drew
              have mz : Mod (fun g => ¬ pY P1 P2 P3 X Y g) w3 w3.drew := (Mod.refl _ _).drew
              have mzY : Mod (fun g => ¬ pX P1 P2 P3 X g) wX w3 := ⟨m03.os, m03.tape, m03.output, m03.size, fun i hi h => m03.block i hi (fun e => by have := HY.out; omega)⟩
              clear m03
              go_upto_region 21 with fail
              obtain ⟨E0, hE0⟩ : ∃ E0, rtookE t r.L x.A p0 p1 d = E0 := ⟨_, rfl⟩
              have HE0 := Lib.hid hE0
              clear hE0
              go_region_held3 (fun w' => w'.cell? ⟨X, 1, none⟩ = some (.int .i64 x.A) ∧ w'.cell? ⟨Y, 0, none⟩ = some (.int .i64 p0) ∧ w'.cell? ⟨Y, 1, none⟩ = some (.int .i64 p1) ∧ w'.cell? ⟨Y, 2, none⟩ = some (.int .i64 p2) ∧ w'.cell? ⟨Y, 3, none⟩ = some (.string d)) (first | exact ⟨kz.cell 1, yz.cell 0, yz.cell 1, yz.cell 2, yz.cell 3⟩ | go_keep)
                ((first
                  | (go_at_call_of 12 pa; refine (duo_TookA x.A p0 p1 p2 d tz (by omega)).mono ?_; rw [(rel_tookE SH.out x.A p0 p1 d), HE0.out]; rintro e w9 ⟨rfl, T9, m9⟩; have kz := blk_keep kz m9 (Or.inl (Or.inr rfl)); have mz := mz.trans m9 (fun i hi h => h); have tz := T9; have yz := blk_keep yz m9 (Or.inr rfl))
                  | (go_at_call_of 29 pb; refine (duo_TookB x.A p0 p1 p2 d tz (by omega)).mono ?_; rw [HE0.out]; rintro e w9 ⟨rfl, T9, m9⟩; have kz := blk_keep kz m9 (Or.inl (Or.inr rfl)); have mz := mz.trans m9 (fun i hi h => h); have tz := T9; have yz := blk_keep yz m9 (Or.inr rfl))))
              all_goals go_wp2_with fail
              all_goals go_meet
              all_goals exact ⟨by simp, _, _, (duo_mono (P := pX P1 P2 P3 X) (tz.less (fun g hg => Or.inl hg)) (by omega) (by omega)), (rel_took SH.out _ _ _ _), kz, (mzY.trans mz (fun i hi h hp => h (Or.inl hp)))⟩
      case rest => as_aux_lemma =>
        obtain ⟨rfl, s2, r2, T2, SH2, K2, M2⟩ := hcut
        have SH2 := Lib.hid SH2
        have mmc := mmX.trans M2 (fun i hi h hp => h (Or.inl hp))
        have T2 := Lib.hid T2
        clear tz kz mz sz y0 y1 y2 y3 y4 y5 TX SX mmX M2 kX SH
        have y1 := K2.cell 1
        have y2 := K2.cell 2
        simp at y1 y2
        obtain ⟨wB, rfl⟩ : ∃ wo : World, wo = wc := ⟨_, rfl⟩
        obtain ⟨oa, ob, za, ⟨bc, vv, zb, rfl⟩, -, -⟩ := id T2.out
        obtain ⟨va, vc, rfl, hvc, hvm⟩ := own_formM zb.row
        obtain ⟨n2, hn2⟩ : ∃ n2, r2.L.length = n2 := ⟨_, rfl⟩
        rw [hn2] at zb
        have za : MdlAt wB.drew pa t (200 * k + 150) s2 oa := za.later ((Mod.refl (fun _ => False) wB).drew) (by simp)
        have zb := zb.later ((Mod.refl (fun _ => False) wB).drew) (by simp)
        have kz := K2.drew
        have mz : Mod (fun _ => False) wB wB.drew := (Mod.refl _ _).drew
        obtain ⟨bE, hbE⟩ : ∃ bE, s2.empty = bE := ⟨_, rfl⟩
        have hbE2 : ((n2 : Int) == 0) = bE := by
          rw [← hbE, rel_empty SH2.out, hn2]
          by_cases h : n2 = 0
          · rw [h]; rfl
          · rw [decide_eq_false h]; simp; omega
        have HBE := Lib.hid hbE
        obtain ⟨uA, huA⟩ : ∃ uA, uOf r2.L x.A = uA := ⟨_, rfl⟩
        have HUA := Lib.hid huA
        have HUA2 := Lib.hid (show s2.under t x.A = (uA : Int) by rw [rel_under SH2.out, huA])
        have HQ1 := Lib.hid (SH2.out.q x.A x.B)
        have HQ2 := Lib.hid (SH2.out.q x.B x.A)
        clear hbE huA hn2
        go_upto_region 28 with fail
        go_cut [210] (fun v w' => v = .bool false ∧ Mod (fun _ => False) wB w')
        case first => as_aux_lemma =>
          go_region_held3 (fun w' => w'.cell? ⟨X, 1, none⟩ = some (.int .i64 x.A) ∧ w'.cell? ⟨X, 2, none⟩ = some (.int .i64 x.B) ∧ w'.cell? ⟨pb, 9, none⟩ = some (.slice va n2 vc)) (first | exact ⟨kz.cell 1, kz.cell 2, zb.blk.cell 9⟩ | go_keep)
            ((first
              | (go_at_call_of 14 pa; refine (at_Empty za).mono ?_; rw [HBE.out]; rintro e w9 ⟨rfl, m9⟩; have kz := blk_keep0 kz m9; have mz := mz.trans m9 (fun i hi h => h); have za := za.later m9 (by simp); have zb := zb.later m9 (by simp))
              | (go_at_call_of 13 pa; refine (at_Under x.A za).mono ?_; rw [HUA2.out]; rintro e w9 ⟨rfl, m9⟩; have kz := blk_keep0 kz m9; have mz := mz.trans m9 (fun i hi h => h); have za := za.later m9 (by simp); have zb := zb.later m9 (by simp))
              | (go_at_call_of 30 pb; refine (run_RUnder x.A zb (by omega)).mono ?_; rw [HUA.out]; rintro e w9 ⟨rfl, d9⟩; have m9 := d9.mod (fun _ => False); have kz := blk_keep0 kz m9; have mz := mz.trans m9 (fun i hi h => h); have za := za.later m9 (by simp); have zb := zb.later m9 (by simp))
              | (go_at_call_of 21 pa; refine (at_Queue _ _ za (by omega) (by first | exact WA.out | exact WB.out) (by first | exact WA.out | exact WB.out)).mono ?_; rw [SH2.out.q]; rintro e w9 ⟨r9, rfl, m9, q9⟩; have kz := blk_keep0 kz m9; have mz := mz.trans m9 (fun i hi h => h); have za := za.later m9 (by simp); have zb := zb.later m9 (by simp); have qz := q9)
              | (go_at_call_of 28 pb; refine (run_RQueue _ _ zb (by omega)).mono ?_; rintro e w9 ⟨r9, rfl, m9, q9⟩; have kz := blk_keep0 kz m9; have mz := mz.trans m9 (fun i hi h => h); have za := za.later m9 (by simp); have zb := zb.later m9 (by simp); have qo := qz.later m9 (by simp); have qz := q9)
              | (go_at_call 20; refine (ref_SameS _ _ _ _ _ (by assumption) (by assumption)).mono ?_; rw [decide_eq_true rfl]; rintro e w9 ⟨rfl, d9⟩; have m9 := d9.mod (fun _ => False); have kz := blk_keep0 kz m9; have mz := mz.trans m9 (fun i hi h => h); have za := za.later m9 (by simp); have zb := zb.later m9 (by simp))))
          all_goals go_wp2_with fail
          all_goals go_meet
          all_goals exact ⟨by simp, mz⟩
        case rest =>
          obtain ⟨rfl, M3⟩ := hcut
          have mmd := mmc.trans M3 (fun i hi h => h.elim)
          have T3 := Lib.hid (duo_mono (k := 200 * (k + 1)) ((T2.out.later (MX.stable _ _ _ _) (RX.stable _ _ _ _) M3).less (P := pR P1 P2 P3) (fun g hg => Or.inl hg)) (by omega) (by omega))
          clear za zb kz mz T2 K2 y1 y2 M3 mmc
          go_wp2
          go_roundw
          case rel => exact ⟨k + 1, s2, r2, by omega, by go_num, T3.out, SH2.out, mmd⟩
          case measure => simp [intOf]; omega
    · go_wp2
      go_ret
      exact ⟨rfl, mmA.below⟩

end Go.Proofs.Ytonnooenebfbeaa
