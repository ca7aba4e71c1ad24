/- The walk of ModelCasts. -/
import Derived.Test.YtonnooenebfbeaaMdlTwo
import Derived.Test.YtonnooenebfbeaaMdlLives
import Derived.Test.YtonnooenebfbeaaMdlSame
import Derived.Test.YtonnooenebfbeaaRefD
import Derived.Test.YtonnooenebfbeaaPut9
namespace Go.Proofs.Ytonnooenebfbeaa
open Go.RowKit

def Cfg.castC (c : Cfg) : Cfg := { c.small with Cast := true, Lanes := if c.small.Lanes < 2 then 2 else c.small.Lanes }
theorem Cfg.castC_ok (c : Cfg) : c.castC.Ok ∧ c.castC.Cast = true := by
  obtain ⟨h, -, -⟩ := c.small_ok
  have h1 := h.L1
  have h2 := h.L2
  have e : c.castC.Lanes = if c.small.Lanes < 2 then 2 else c.small.Lanes := rfl
  have e2 : 2 ≤ c.castC.Lanes ∧ c.castC.Lanes ≤ 8 := by rw [e]; split <;> omega
  exact ⟨⟨h.W1, h.W2, h.H1, h.H2, by omega, by omega, fun _ => e2.1, h.D1, h.D2, h.R1, h.R2, h.I1, h.I2, h.B1, h.B2⟩, rfl⟩

def g9 (ra : Option Addr) (rn rc sz : Nat) : Nat → Prop := fun g => g < sz ∨ (Value.slice ra rn rc).ownBlock = some g

theorem call_cells {w : World} {g : Nat} {k a b n : Int} {s : Value} {data : ByteArray} {t : TypeId} (h : Blk w g #[.int .i64 k, .int .i64 a, .int .i64 b, .int .i64 n, s, .string data] t) :
    w.cell? ⟨g, 0, none⟩ = some (.int .i64 k) ∧ w.cell? ⟨g, 1, none⟩ = some (.int .i64 a) ∧ w.cell? ⟨g, 2, none⟩ = some (.int .i64 b) ∧ w.cell? ⟨g, 3, none⟩ = some (.int .i64 n) ∧ w.cell? ⟨g, 4, none⟩ = some s ∧ w.cell? ⟨g, 5, none⟩ = some (.string data) := by
  refine ⟨?_, ?_, ?_, ?_, ?_, ?_⟩ <;> (rw [h.cell]; rfl)

set_option maxRecDepth 100000 in
set_option maxHeartbeats 1000000 in
theorem walk_ModelCasts {w : World} (c : Cfg) (k a b n : Int) (s : Value) (l : List Int) (data : ByteArray) (sl : SlV w s (l.map (Value.int .i64))) (wl : ∀ x ∈ [k, a, b, n], (Lit.int .i64 x).wf = true) (ll : data.size ≤ maxLen) :
    Calls Try.prog 4 #[.agg c.cells, .agg #[.int .i64 k, .int .i64 a, .int .i64 b, .int .i64 n, s, .string data]] w fun e w' => e = .returned (.bool true) ∧ Below w.heap.size w w' := by
  have kb := (Blk.made w c.cells 25).alloc (.cells #[.int .i64 k, .int .i64 a, .int .i64 b, .int .i64 n, s, .string data] 41)
  have ka := Blk.made (w.alloc (.cells c.cells 25)) #[.int .i64 k, .int .i64 a, .int .i64 b, .int .i64 n, s, .string data] 41
  have m0 : Mod (fun _ => False) w ((w.alloc (.cells c.cells 25)).alloc (.cells #[.int .i64 k, .int .i64 a, .int .i64 b, .int .i64 n, s, .string data] 41)) := ((Mod.refl _ _).alloc _).alloc _
  simp only [World.size_alloc] at ka
  obtain ⟨hok2, hct⟩ := c.castC_ok
  have HCT := Lib.hid hct
  have HOK := Lib.hid hok2
  clear hct hok2
  obtain ⟨sa, sn, sc, rfl, -, -, -, -⟩ := id sl
  have HSL := Lib.hid sl
  simp only [Cfg.cells] at kb m0 ka ⊢
  clear sl wl
  go_enter Try.func4, Try.ntmps4
  go_wp2_with fail
  refine (run_lives21 _).mono ?_
  rintro e w1 ⟨rfl, m1⟩
  have k1 := kb.later m1 (by simp)
  have a1 := ka.later m1 (by simp)
  have mm1 := m0.trans m1 (by simp)
  obtain ⟨c0, c1, c2, c3, c4, c5, c6, c7, c8⟩ := cfg_cells k1
  clear kb ka m0 m1
  go_wp2_with fail
  refine (run_Small c _).mono ?_
  rintro e w2 ⟨rfl, m2⟩
  have k2 := k1.later m2 (by simp)
  have a2 := a1.later m2 (by simp)
  have mm2 := mm1.trans m2 (by simp)
  clear k1 a1 mm1 m2 c0 c1 c2 c3 c4 c5 c6 c7 c8
  have l2 := k2.lt
  have z0 := k2.fz 0
  have z1 := k2.fz 1
  have z2 := k2.fz 2
  have z3 := k2.fz 3
  have z4 := k2.fz 4
  have z5 := k2.fz 5
  have z6 := k2.fz 6
  have z7 := k2.fz 7
  have z8 := k2.fz 8
  obtain ⟨c0, c1, c2, c3, c4, c5, c6, c7, c8⟩ := cfg_cells k2
  go_upto_region 4 with fail
  have k3 := put9_blk (d := c.small) k2
  have a3 := a2.later ((put9_mod (S := fun g => g = w.heap.size) (Mod.refl _ w2) (b := w.heap.size) (Or.inl rfl) c.small)) (by omega)
  have mm3 := put9_mod mm2 (b := w.heap.size) (Or.inr (Nat.le_refl _)) c.small
  change Code.wp Try.prog _ _ _ (put9 w2 w.heap.size c.small)
  generalize put9 w2 w.heap.size c.small = w3 at k3 a3 mm3 ⊢
  clear k2 a2 mm2 l2 c0 c1 c2 c3 c4 c5 c6 c7 c8 z0 z1 z2 z3 z4 z5 z6 z7 z8
  clear w1 w2
  have l2 := k3.lt
  have z2 := k3.fz 2
  have z8 := k3.fz 8
  obtain ⟨c0, c1, c2, c3, c4, c5, c6, c7, c8⟩ := cfg_cells k3
  go_upto_region 6 with fail
  have k4 : Blk ((w3.setCell ⟨w.heap.size, 8, none⟩ (.bool true)).setCell ⟨w.heap.size, 2, none⟩ (.int .i64 (if c.small.Lanes < 2 then 2 else c.small.Lanes))) w.heap.size c.castC.cells 25 := by
    have := (k3.set 8 (.bool true)).set 2 (.int .i64 (if c.small.Lanes < 2 then 2 else c.small.Lanes))
    simpa [Cfg.cells, Cfg.castC] using this
  have mq : Mod (fun g => g = w.heap.size) w3 ((w3.setCell ⟨w.heap.size, 8, none⟩ (.bool true)).setCell ⟨w.heap.size, 2, none⟩ (.int .i64 (if c.small.Lanes < 2 then 2 else c.small.Lanes))) := ((Mod.refl (fun g => g = w.heap.size) w3).setCell (p := ⟨w.heap.size, 8, none⟩) (Or.inl rfl) _).setCell (p := ⟨w.heap.size, 2, none⟩) (Or.inl rfl) _
  have a4 := a3.later mq (by omega)
  have mm4 := mm3.trans mq (fun i hi e => by omega)
  clear mq
  generalize (w3.setCell ⟨w.heap.size, 8, none⟩ (.bool true)).setCell ⟨w.heap.size, 2, none⟩ (.int .i64 (if c.small.Lanes < 2 then 2 else c.small.Lanes)) = w4 at k4 a4 mm4 ⊢
  have LT4 := a4.lt
  clear k3 a3 mm3 l2 z2 z8 c0 c1 c2 c3 c4 c5 c6 c7 c8
  generalize c.castC = t at *
  generalize (if c.small.Lanes < 2 then 2 else c.small.Lanes) = z
  clear w3
  obtain ⟨c0, c1, c2, c3, c4, c5, c6, c7, c8⟩ := cfg_cells k4
  go_wp2_with fail
  refine (at_Open t _ HOK.out).mono ?_
  rintro e w5 ⟨pa, oa, rfl, m5, ha, la⟩
  have k5 := k4.later m5 (by simp)
  have a5 := a4.later m5 (by simp)
  have mm5 := mm4.trans m5 (by simp)
  have HA := Lib.hid ha
  have LA := Lib.hid la
  clear ha la k4 a4 c0 c1 c2 c3 c4 c5 c6 c7 c8
  obtain ⟨c0, c1, c2, c3, c4, c5, c6, c7, c8⟩ := cfg_cells k5
  go_wp2_with fail
  refine (at_Open t _ HOK.out).mono ?_
  rintro e w6 ⟨pb, ob, rfl, m6, hb, lb⟩
  have T6 := Lib.hid (two_open HA.out LA.out hb lb m5 m6)
  have k6 := k5.later m6 (by simp)
  have a6 := a5.later m6 (by simp)
  have mm6 := mm5.trans m6 (by simp)
  clear HA LA hb lb k5 a5 mm5 c0 c1 c2 c3 c4 c5 c6 c7 c8
  obtain ⟨c0, c1, c2, c3, c4, c5, c6, c7, c8⟩ := cfg_cells k6
  obtain ⟨d0, d1, d2, d3, d4, d5⟩ := call_cells a6
  go_wp2_with fail
  refine (ref_Node t a _ HOK.out).mono ?_
  rintro e w7 ⟨rfl, m7⟩
  have T7 := Lib.hid (T6.out.later (MX.stable _ _ _ _) (MX.stable _ _ _ _) m7)
  have k7 := k6.later m7 (by simp)
  have a7 := a6.later m7 (by simp)
  have mm7 := mm6.trans m7 (by simp)
  have HN := Lib.hid (Cfg.um_is HOK.out a)
  have sz4 : w4.heap.size ≤ w7.heap.size := Nat.le_trans m5.size (Nat.le_trans m6.size m7.size)
  generalize um a t.nodes = src at HN ⊢
  clear T6 k6 a6 mm6 m5 m6 m7 c0 c1 c2 c3 c4 c5 c6 c7 c8 d0 d1 d2 d3 d4 d5
  obtain ⟨c0, c1, c2, c3, c4, c5, c6, c7, c8⟩ := cfg_cells k7
  obtain ⟨d0, d1, d2, d3, d4, d5⟩ := call_cells a7
  go_wp2_with fail
  refine (ref_SetN t _ l 6 _ HOK.out (HSL.out.later mm7 (by simp)) (by omega)).mono ?_
  rintro e w8 ⟨r, rfl, m8, hr, hrl⟩
  obtain ⟨s1, s2, s3⟩ := Cfg.setL_spec HOK.out l 6
  generalize t.setL l 6 = ts at s1 s2 s3 hr
  have T8 := Lib.hid (T7.out.more (P' := fun g => g < w4.heap.size ∨ r.ownBlock = some g) (MX.stable _ _ _ _) (MX.stable _ _ _ _) m8 (by simp) (fun g hg => hg.imp id (fun e => hrl g e)))
  have k8 := k7.later m8 (by simp)
  have a8 := a7.later m8 (by simp)
  have mm8 := mm7.trans m8 (by simp)
  have sz8 : w4.heap.size ≤ w8.heap.size := Nat.le_trans sz4 m8.size
  have HR := Lib.hid hr
  have HS := Lib.hid s2
  have HND := Lib.hid s1
  obtain ⟨ra, rn, rc, rfl, hl, -, -, -⟩ := id hr
  rw [List.length_map] at hl
  have HL := Lib.hid hl
  clear hrl hr hl s1 s2 T7 k7 a7 mm7 m8 c0 c1 c2 c3 c4 c5 c6 c7 c8 d0 d1 d2 d3 d4 d5 HSL
  obtain ⟨c0, c1, c2, c3, c4, c5, c6, c7, c8⟩ := cfg_cells k8
  obtain ⟨d0, d1, d2, d3, d4, d5⟩ := call_cells a8
  unfold maxLen at ll
  go_upto_region 10 with fail
  go_cut [11] (fun v w' => ∃ d : ByteArray, v = .string d ∧ d.size ≤ 64 ∧ w' = w8)
  case first =>
    go_wp2_with fail
    all_goals go_meet
    all_goals exact ⟨_, rfl, by first | omega | (simp; omega), rfl⟩
  case rest =>
    obtain ⟨d, rfl, hd, rfl⟩ := hcut
    have sz : w.heap.size ≤ w4.heap.size := mm4.size
    have sz1 : w.heap.size + 1 < w4.heap.size := Nat.lt_of_lt_of_le LT4 (Nat.le_refl _)
    go_wp2_with fail
    refine (two_CastA src _ ts d T8.out (by omega) HR.out (by omega) (by omega) ⟨by have := HOK.out.B1; omega, HOK.out.B2⟩ (fun a n c e => Or.inr (by rw [e]; rfl))).mono ?_
    rintro e w9 ⟨rfl, T9, m9⟩
    have k9 := k8.later m9 (fun h => h (Or.inl (by omega)))
    have mm9 : Mod (fun _ => False) w w9 := mm8.trans m9 (fun i hi h => h (Or.inl (by omega)))
    have HR9 := Lib.hid (HR.out.later m9 (fun a n c e h => h (Or.inr (by rw [e]; rfl))))
    have hE := new_castE HOK.out HCT.out HN.out hd ts HS.out HND.out
    clear T8 HR k8 mm8 m9 c0 c1 c2 c3 c4 c5 c6 c7 c8 d0 d1 d2 d3 d4 d5 a8 sz8 sz4 mm4
    by_cases h0 : ts = []
    · rw [if_pos h0] at hE
      rw [hE]
      rw [new_cast_same (by rw [hE]; decide)] at T9
      obtain rfl : rn = 0 := by rw [← HL.out, h0]; rfl
      have T := Lib.hid T9
      clear hE T9 h0
      go_wp2_with fail
      refine (two_EmptyA T.out).mono ?_
      rw [new_empty]
      rintro e w10 ⟨rfl, T10, m10⟩
      have mm10 := mm9.trans m10 (by simp)
      clear T10 m10
      go_wp2
      go_ret
      exact ⟨rfl, mm10.below⟩
    · rw [if_neg h0] at hE
      have hrn : rn ≠ 0 := fun e => h0 (List.eq_nil_of_length_eq_zero (by rw [HL.out, e]))
      have q0 : (((rn : Nat) : Int) == 0) = false := beq_eq_false_iff_ne.2 (by omega)
      have q1 : ¬ ((rn : Nat) : Int) = 0 := by omega
      have hrl : rn ≤ 6 := by have := HL.out; omega
      obtain ⟨c0, c1, c2, c3, c4, c5, c6, c7, c8⟩ := cfg_cells k9
      by_cases hbd : t.Bound < ts.length
      · rw [if_pos hbd] at hE
        rw [hE]
        rw [new_cast_same (by rw [hE]; decide)] at T9
        have hbd2 : t.Bound < (rn : Int) := by rw [← HL.out]; exact hbd
        have T := Lib.hid T9
        clear hE T9 h0 hbd
        go_wp2_with fail
        refine (two_EmptyA T.out).mono ?_
        rw [new_empty]
        rintro e w10 ⟨rfl, T10, m10⟩
        have mm10 := mm9.trans m10 (by simp)
        have TT := Lib.hid T10
        clear T10 m10 c0 c1 c2 c3 c4 c5 c6 c7 c8 T
        go_wp2_with fail
        refine (two_UnderA src TT.out).mono ?_
        rw [new_under]
        rintro e w11 ⟨rfl, T11, m11⟩
        have mm11 := mm10.trans m11 (by simp)
        clear T11 m11
        go_wp2
        go_ret
        exact ⟨rfl, mm11.below⟩
      · rw [if_neg hbd] at hE
        obtain ⟨hsame, hund⟩ := new_cast_is HOK.out HN.out hd h0 HS.out (by omega) hE
        have HSAME := Lib.hid hsame
        have HUND := Lib.hid hund
        rw [hE]
        have hbd2 : (rn : Int) ≤ t.Bound := by rw [← HL.out]; omega
        have T := Lib.hid T9
        generalize (MS.new t).cast t src ts d = sa at HSAME HUND T
        clear hE T9 h0 hbd hsame hund
        go_wp2
        have hP0 : ∀ B off, ra = some ⟨B, off, none⟩ → g9 ra rn rc w4.heap.size B := fun B off e => Or.inr (by rw [e]; rfl)
        have T := Lib.hid (show Two (g9 ra rn rc w4.heap.size) w9 pa pb t 12 0 sa (MS.new t) from T.out)
        go_loopw [13] (fun i wr => ∃ k : Nat, k ≤ rn ∧ i = .int .i64 k ∧ Two (g9 ra rn rc w4.heap.size) wr pa pb t 12 (12 * k) sa ((MS.new t).sends t src d (ts.take k)) ∧ Mod (fun g => ¬ g9 ra rn rc w4.heap.size g) w9 wr) (fun i _ => rn - (intOf i).toNat)
        case atStart => exact ⟨0, by omega, by simp, T.out, Mod.refl _ _⟩
        case round =>
          obtain ⟨k, hk, rfl, hT, hm⟩ := hrel
          obtain ⟨wA, rfl⟩ : ∃ wo : World, wo = wr := ⟨_, rfl⟩
          by_cases hlt : k < rn
          · obtain ⟨x, hx⟩ : ∃ x, ts[k]? = some x := ⟨_, List.getElem?_eq_getElem (by have := HL.out; omega)⟩
            obtain ⟨B, off, rfl, hB, dx⟩ := HR9.out.at k hlt
            rw [ints_get hx] at dx
            have dx := (hm.cell (p := ⟨B, off + k, none⟩) hB (fun h => h (hP0 B off rfl))).trans dx
            have hse := MS.sends_ok HOK.out HN.out hd ts HS.out (by have := HL.out; omega) k x hx
            have hst := MS.sends_step t (MS.new t) src d ts k x hx
            have HSE := Lib.hid hse
            have HST := Lib.hid hst
            have TT := Lib.hid hT
            clear hse hst hx hT
            have b0 : (0 : Int) ≤ (k : Int) := by omega
            have b1 : (k : Int) < (rn : Int) := by omega
            go_wp2_with fail
            refine (two_SendB src x d TT.out (by omega) (by omega) ⟨by have := HOK.out.B1; omega, HOK.out.B2⟩).mono ?_
            rw [HSE.out]
            rintro e w11 ⟨rfl, T11, m11⟩
            rw [← HST.out] at T11
            have hm2 := hm.trans m11 (fun i hi h => h)
            clear dx
            go_wp2
            go_roundw
            case rel => exact ⟨k + 1, by omega, by go_num, by simpa [Nat.mul_add] using T11, hm2⟩
            case measure => simp [intOf]; omega
          · have hk2 : k = rn := by omega
            have hfin : ts.take k = ts := List.take_of_length_le (by have := HL.out; omega)
            rw [hfin, ← HSAME.out] at hT
            have TT := Lib.hid hT
            have kA := k9.later hm (fun h => h (Or.inl (by omega)))
            have mmA : Mod (fun _ => False) w wA := mm9.trans hm (fun i hi h => h (Or.inl (by omega)))
            clear hfin hT hk2 hm T HSAME
            obtain ⟨n0, hn0⟩ : ∃ n0 : Nat, t.nodes = (n0 : Int) := ⟨t.nodes.toNat, by have := t.nodes_bd; omega⟩
            have hn1 : n0 ≤ 4096 := by have := t.nodes_bd; omega
            have HN0 := Lib.hid hn0
            clear hn0
            go_wp2
            go_loopw [14] (fun i wr => ∃ k : Nat, k ≤ n0 ∧ i = .int .i64 k ∧ Mod (fun _ => False) wA wr) (fun i _ => n0 - (intOf i).toNat)
            case atStart => exact ⟨0, by omega, by simp, Mod.refl _ _⟩
            case round =>
              obtain ⟨j, hj, rfl, hm⟩ := hrel
              obtain ⟨wB, rfl⟩ : ∃ wo : World, wo = wr := ⟨_, rfl⟩
              have kB := kA.later hm (by simp)
              have mmB := mmA.trans hm (by simp)
              have TB := Lib.hid (TT.out.later (MX.stable _ _ _ _) (MX.stable _ _ _ _) hm)
              obtain ⟨c0, c1, c2, c3, c4, c5, c6, c7, c8⟩ := cfg_cells kB
              by_cases hlt2 : j < n0
              · have hjis : t.is (j : Int) = true := (t.is_iff _).2 ⟨by omega, by rw [HN0.out]; omega⟩
                have HJ := Lib.hid (is_wf hjis)
                have HSW := Lib.hid (is_wf HN.out)
                clear hjis
                go_wp2_with fail
                refine (ref_Nodes t _).mono ?_
                rw [HN0.out]
                rintro e w12 ⟨rfl, m12⟩
                have T12 := Lib.hid (TB.out.later (MX.stable _ _ _ _) (MX.stable _ _ _ _) m12)
                have hm12 := hm.trans m12 (by simp)
                clear c0 c1 c2 c3 c4 c5 c6 c7 c8 kB mmB TB m12 hm
                go_wp2_with fail
                refine (two_QueueA src j T12.out (by omega) HSW.out HJ.out).mono ?_
                rintro e w13 ⟨r1, rfl, T13, m13, s13⟩
                have T13 := Lib.hid T13
                have S13 := Lib.hid s13
                have hm13 := hm12.trans m13 (by simp)
                clear T12 s13 hm12 m13
                go_wp2_with fail
                refine (two_QueueB src j T13.out (by omega) HSW.out HJ.out).mono ?_
                rintro e w14 ⟨r2, rfl, T14, m14, s14⟩
                have S14 := Lib.hid s14
                have hm14 := hm13.trans m14 (by simp)
                have S15 := Lib.hid (S13.out.later m14 (by simp))
                clear T13 s14 hm13 m14 S13 T14
                go_wp2_with fail
                refine (ref_SameS r1 r2 _ _ _ S15.out S14.out).mono ?_
                rw [show decide (sa.Q src (j : Int) = sa.Q src (j : Int)) = true from by simp]
                rintro e w15 ⟨rfl, d15⟩
                have hm15 := hm14.trans (d15.mod (fun _ => False)) (by simp)
                clear S14 S15 d15 hm14
                go_wp2
                go_roundw
                case rel => exact ⟨j + 1, by omega, by go_num, hm15⟩
                case measure => simp [intOf]; omega
              · go_wp2_with fail
                refine (ref_Nodes t _).mono ?_
                rw [HN0.out]
                rintro e w12 ⟨rfl, m12⟩
                have T12 := Lib.hid (TB.out.later (MX.stable _ _ _ _) (MX.stable _ _ _ _) m12)
                have hm12 := mmB.trans m12 (by simp)
                clear c0 c1 c2 c3 c4 c5 c6 c7 c8 kB TB m12 hm
                go_wp2_with fail
                refine (two_UnderA src T12.out).mono ?_
                rw [HUND.out, HL.out]
                rintro e w13 ⟨rfl, T13, m13⟩
                have hm13 := hm12.trans m13 (by simp)
                clear T13 m13 T12 hm12
                go_wp2
                go_ret
                exact ⟨by simp, hm13.below⟩

end Go.Proofs.Ytonnooenebfbeaa
