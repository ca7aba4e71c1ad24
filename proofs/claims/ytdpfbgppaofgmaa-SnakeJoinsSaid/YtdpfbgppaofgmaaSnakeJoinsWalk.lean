/- The walk of SnakeJoins. -/
import Derived.Test.YtdpfbgppaofgmaaSnakeJ
import Derived.Test.YtdpfbgppaofgmaaRefD
namespace Go.Proofs.Ytdpfbgppaofgmaa
open Go.RowKit

set_option maxRecDepth 100000 in
set_option maxHeartbeats 4000000 in
theorem walk_SnakeJoins {w : World} (c : Cfg) (a1 : Int) (w1 : (Lit.int .i64 a1).wf = true) (v2 : Value) (l2 : List Int) (sl2 : SlV w v2 (l2.map (Value.int .i64))) (ll2 : l2.length ≤ maxLen) (wl2 : ∀ x ∈ l2, (Lit.int .i64 x).wf = true) :
    Calls Try.prog 6 #[.agg c.cells, .int .i64 a1, v2] w fun e w' => e = .returned (.bool true) ∧ Below w.heap.size w w' := by
  clear w1 wl2 ll2
  have HSL := Lib.hid sl2
  clear sl2
  have kb := Blk.made w c.cells 23
  have m0 : Mod (fun _ => False) w (w.alloc (.cells c.cells 23)) := (Mod.refl _ _).alloc _
  obtain ⟨hok, hW, hH⟩ := c.small_ok
  simp only [Cfg.cells] at kb m0 ⊢
  go_enter Try.func6, Try.ntmps6
  go_wp2_with fail
  refine (run_lives _).mono ?_
  rintro e w1 ⟨rfl, m1⟩
  have k1 := kb.later m1 (by simp)
  have mm1 := m0.trans m1 (by simp)
  obtain ⟨c0, c1, c2, c3, c4, c5, c6, c7, c8⟩ := cfg_cells k1
  clear kb m0 m1
  go_wp2_with fail
  refine (run_Small c _).mono ?_
  rintro e w2 ⟨rfl, m2⟩
  have k2 := k1.later m2 (by simp)
  have mm2 := mm1.trans m2 (by simp)
  clear k1 mm1 m2 c0 c1 c2 c3 c4 c5 c6 c7 c8
  have l2 := k2.lt
  have z0 := k2.fz 0
  have z1 := k2.fz 1
  have z2 := k2.fz 2
  have z3 := k2.fz 3
  have z4 := k2.fz 4
  have z5 := k2.fz 5
  have z6 := k2.fz 6
  have z7 := k2.fz 7
  have z8 := k2.fz 8
  obtain ⟨c0, c1, c2, c3, c4, c5, c6, c7, c8⟩ := cfg_cells k2
  go_wp2_with fail
  have k3 := put9_blk (d := c.small) k2
  have mm3 := put9_mod mm2 (b := w.heap.size) (Or.inr (Nat.le_refl _)) c.small
  change Calls Try.prog _ _ (put9 w2 w.heap.size c.small) _
  generalize put9 w2 w.heap.size c.small = w3 at k3 mm3 ⊢
  clear k2 mm2 l2 c0 c1 c2 c3 c4 c5 c6 c7 c8 z0 z1 z2 z3 z4 z5 z6 z7 z8
  clear w1 w2
  generalize c.small = s at *
  refine (ref_Node s a1 _ hok).mono ?_
  rintro e w4 ⟨rfl, m4⟩
  have k4 := k3.later m4 (by simp)
  have mm4 := mm3.trans m4 (by simp)
  clear k3 mm3 m4
  obtain ⟨c0, c1, c2, c3, c4, c5, c6, c7, c8⟩ := cfg_cells k4
  have hn := Cfg.um_is hok a1
  generalize um a1 s.nodes = n at hn ⊢
  go_wp2_with fail
  refine (ref_Set s _ l2 8 _ hok (HSL.out.later mm4 (by simp)) (by omega)).mono ?_
  rintro e w5 ⟨r5, rfl, m5, s5⟩
  have k5 := k4.later m5 (by simp)
  have mm5 := mm4.trans m5 (by simp)
  clear k4 mm4 m5 HSL c0 c1 c2 c3 c4 c5 c6 c7 c8
  obtain ⟨hnd, his, hlen⟩ := Cfg.setL_spec hok l2 8
  generalize s.setL l2 8 = ts at hnd his hlen s5
  obtain ⟨ta, tn, tc, rfl, htn, htc, htm, -⟩ := id s5
  rw [List.length_map] at htn
  have hway : s.way n ts = n :: s.tail n ts := by
    unfold Cfg.way
    rw [hn, (List.all_eq_true.2 his : ts.all s.is = true)]
    rfl
  have htl := Cfg.tail_len ts n hn his
  have htnb : tn ≤ 8 := by omega
  have HTL : (n :: s.tail n ts).length ≤ 1 + 4096 * tn := by simp; omega
  have S5 := Lib.hid s5
  have HTN := Lib.hid htn
  have HIS := Lib.hid his
  have HWAY := Lib.hid hway
  have HTT := Lib.hid HTL
  unfold maxLen at htm
  clear s5 htn his hway htl HTL hnd hlen
  have lb := k5.lt
  go_wp2_with (at_builtin; refine wpList_appendE rfl _ _ 31 rfl w5.heap.size 3 (.int .i64 0) 1 8 Try.underlying31 info_int' rfl (by decide) (.slice none 0 0) 0 [] rfl (World.ownsRow_nil _ _ _ _) #[_] rfl rfl (by simp [Value.oneCell']) (by decide) (by decide) (by omega) ?_; intro g cap w6 hown6 m6 hat6)
  have hmod6 : Mod (fun q => w5.heap.size ≤ q) w5 w6 := m6.mono (by simp [Value.ownBlock])
  rw [List.nil_append] at hown6
  have hown7 : w6.ownsRow w5.heap.size 3 1 (.slice (some ⟨g, 0, none⟩) (0 + 1) cap) [n].length ([n].map (Value.int .i64)) := by simpa using hown6
  clear hown6 m6 hat6
  go_wp2
  go_loopw [8, 9, 10] (fun o a i wr => ∃ (k : Nat) (m' : Int) (xs : List Int), k ≤ tn ∧ i = .int .i64 k ∧ a = .int .i64 m' ∧ wr.ownsRow w5.heap.size 3 1 o xs.length (xs.map (Value.int .i64)) ∧ Mod (fun q => w5.heap.size ≤ q) w5 wr ∧ s.is m' = true ∧ xs ++ s.tail m' (ts.drop k) = n :: s.tail n ts) (fun _ _ i _ => tn - (intOf i).toNat)
  case atStart => exact ⟨0, n, [n], by omega, rfl, rfl, hown7, hmod6, hn, rfl⟩
  case round =>
    obtain ⟨k, m', xs, hk, rfl, rfl, hown, hmod, hm', hxs⟩ := hrel
    obtain ⟨wA, rfl⟩ : ∃ wo : World, wo = wr := ⟨_, rfl⟩
    have HM := Lib.hid hm'
    have HX := Lib.hid hxs
    have MA : Mod (fun _ => False) w wA := mm5.trans hmod (fun i hi h => by have := mm5.size; omega)
    have kA := k5.later hmod (by omega)
    clear hm' hxs hown7
    obtain ⟨c0, c1, c2, c3, c4, c5, c6, c7, c8⟩ := cfg_cells kA
    by_cases hlt : k < tn
    · have hkl : k < ts.length := by have := HTN.out; omega
      obtain ⟨t, ht⟩ : ∃ t, ts[k]? = some t := ⟨_, List.getElem?_eq_getElem hkl⟩
      obtain ⟨B, off, rfl, hB, dt⟩ := S5.out.at k hlt
      rw [ints_get ht] at dt
      have dt0 := dt
      have dt := (hmod.cell (p := ⟨B, off + k, none⟩) hB (Nat.not_le.2 hB)).trans dt
      have hBA : B < wA.heap.size := Nat.lt_of_lt_of_le hB hmod.size
      have htis : s.is t = true := HIS.out t (List.mem_of_getElem? ht)
      have hdr : ts.drop k = t :: ts.drop (k + 1) := by
        obtain ⟨h2, h3⟩ := List.getElem?_eq_some_iff.1 ht
        rw [List.drop_eq_getElem_cons h2, h3]
      have hX2 : xs ++ (s.leg m' t ++ s.tail t (ts.drop (k + 1))) = n :: s.tail n ts := by rw [← HX.out, hdr]; rfl
      have hone : s.way m' [t] = m' :: s.leg m' t := Cfg.way_one HM.out htis
      have hlb : xs.length + (s.leg m' t).length ≤ 1 + 4096 * tn := by
        have h1 := HTT.out
        rw [← hX2] at h1
        simp only [List.length_append] at h1
        omega
      have HT := Lib.hid htis
      have HX2 := Lib.hid hX2
      have HO := Lib.hid hone
      have HLB := Lib.hid hlb
      clear ht hdr hX2 hone htis hlb HX hkl
      have b0 : (0 : Int) ≤ (k : Int) := by omega
      have b1 : (k : Int) < (tn : Int) := by omega
      go_wp2
      go_upto_region 12 with fail
      go_cut [11] (fun v w' => Mod (fun _ => False) wA w' ∧ SlV w' v ((s.way m' [t]).map (Value.int .i64)))
      case first =>
        have spn : SlV (wA.alloc (.cells #[.int .i64 t] 3)).drew (.slice (some ⟨wA.heap.size, 0, none⟩) 1 1) (([t] : List Int).map (Value.int .i64)) := (SlV.new 3 1 #[.int .i64 t] rfl 1 rfl).later (Mod.refl (fun _ => False) _).drew (by simp)
        have mn : Mod (fun _ => False) wA (wA.alloc (.cells #[.int .i64 t] 3)).drew := ((Mod.refl _ _).alloc _).drew
        go_region_held3 (fun w' => w'.cell? ⟨B, off + k, none⟩ = some (.int .i64 t) ∧ w'.cell? ⟨w.heap.size, 0, none⟩ = some (Value.int .i64 s.W) ∧ w'.cell? ⟨w.heap.size, 1, none⟩ = some (Value.int .i64 s.H) ∧ w'.cell? ⟨w.heap.size, 2, none⟩ = some (Value.int .i64 s.Lanes) ∧ w'.cell? ⟨w.heap.size, 3, none⟩ = some (Value.int .i64 s.Depth) ∧ w'.cell? ⟨w.heap.size, 4, none⟩ = some (Value.int .i64 s.Ring) ∧ w'.cell? ⟨w.heap.size, 5, none⟩ = some (Value.int .i64 s.Inbox) ∧ w'.cell? ⟨w.heap.size, 6, none⟩ = some (Value.int .i64 s.Bound) ∧ w'.cell? ⟨w.heap.size, 7, none⟩ = some (Value.bool s.West) ∧ w'.cell? ⟨w.heap.size, 8, none⟩ = some (Value.bool s.Cast))
          (first
            | go_keep
            | exact ⟨dt, cfg_cells kA.drew⟩
            | exact ⟨(mn.cell hBA (by simp)).trans dt, cfg_cells (kA.later mn (by simp))⟩
            | exact ⟨(mz.cell hBA (by simp)).trans dt, cfg_cells (kA.later mz (by simp))⟩)
          ((go_at_call 22; refine (run_Way s m' _ [t] _ spn (by simp)).mono ?_; rintro e w9 ⟨r9, rfl, m9, s9⟩; have mz := mn.trans m9 (by simp)))
        all_goals go_wp2_with fail
        all_goals go_meet
        all_goals exact ⟨mz, s9⟩
      case rest =>
        obtain ⟨m10, sv⟩ := hcut
        obtain ⟨wB, rfl⟩ : ∃ wo : World, wo = wc := ⟨_, rfl⟩
        rw [HO.out] at sv
        have kB := kA.later m10 (by simp)
        have hmB := hmod.trans m10 (by simp)
        have hownB := own_later hown m10
        have dtB := (m10.cell (p := ⟨B, off + k, none⟩) hBA (by simp)).trans dt
        obtain ⟨va, vn, vc, rfl, hvn, hvc, hvm, -⟩ := id sv
        obtain ⟨L, hL⟩ : ∃ L, L = (s.leg m' t).length := ⟨_, rfl⟩
        obtain rfl : vn = L + 1 := by simpa [hL] using hvn.symm
        obtain ⟨Bv, ov, rfl, hBv, -⟩ := sv.at 0 (by omega)
        have hnews : ∀ j u, ((s.leg m' t).map (Value.int .i64))[j]? = some u → wB.cell? ⟨Bv, ov + 1 + j, none⟩ = some u := by
          intro j u hj
          have hj2 : j < L := by
            rcases Nat.lt_or_ge j L with h | h
            · exact h
            · rw [List.getElem?_eq_none (by simp; omega)] at hj
              cases hj
          obtain ⟨B', o', e, -, d⟩ := sv.at (j + 1) (by omega)
          simp only [Option.some.injEq, Addr.mk.injEq, and_true] at e
          obtain ⟨rfl, rfl⟩ := e
          rw [Nat.add_assoc, Nat.add_comm 1 j, d]
          simp only [List.map_cons, List.getD_eq_getElem?_getD, List.getElem?_cons_succ, hj]
          rfl
        have hlb : xs.length + L ≤ 1 + 4096 * tn := by have := HLB.out; omega
        have HNE := Lib.hid hnews
        have HL := Lib.hid hL
        have hz1 : (((L : Int) + 1) == 0) = false := by simp; omega
        have hz2 : ¬ ((L : Int) + 1 = 0) := by omega
        unfold maxLen at hvm
        clear hvn sv hnews hL kA hmod hown m10 dt hBA c0 c1 c2 c3 c4 c5 c6 c7 c8 HLB
        obtain ⟨ad, had, hcells⟩ : ∃ ad : Addr, (if vc = 1 then some (⟨Bv, ov, none⟩ : Addr) else some ⟨Bv, ov + 1, none⟩) = some ad ∧ ∀ j u, ((s.leg m' t).map (Value.int .i64))[j]? = some u → wB.cell? (ad.add j) = some u := by
          by_cases h1 : vc = 1
          · refine ⟨⟨Bv, ov, none⟩, by rw [if_pos h1], fun j u hj => ?_⟩
            exfalso
            have h0 : L = 0 := by omega
            rw [List.getElem?_eq_none (by have := HL.out; simp; omega)] at hj
            cases hj
          · refine ⟨⟨Bv, ov + 1, none⟩, by rw [if_neg h1], fun j u hj => ?_⟩
            have e : (⟨Bv, ov + 1, none⟩ : Addr).add j = ⟨Bv, ov + 1 + j, none⟩ := by
              unfold Addr.add
              split <;> simp_all
            rw [e]
            exact HNE.out j u hj
        have HC := Lib.hid hcells
        have HAD := Lib.hid had
        obtain ⟨i0, hi, hq0, hq1, hq2⟩ := info_parts info_i
        have hs6 := hmB.size
        obtain ⟨ao, no, co, rfl, hno, -, -, -⟩ := id (SlV.own hownB)
        obtain rfl : no = xs.length := by simpa using hno.symm
        have hlow6 := fun i e => (hownB.lt i e).1
        have hll : ((s.leg m' t).map (Value.int .i64)).length = L * 1 := by have := HL.out; simp; omega
        clear had hcells HNE
        go_wp2_with (at_builtin; rw [HAD.out]; refine wpList_append_own _ rfl _ _ 31 rfl w5.heap.size 3 i0 (.int .i64 0) 1 8 Try.underlying31 hi hq0 hq1 hq2 rfl (by decide) (.slice ao xs.length co) xs.length (xs.map (Value.int .i64)) rfl hownB ad L (vc - 1) ((s.leg m' t).map (Value.int .i64)) rfl hll HC.out (by intro u hu; obtain ⟨x, _, rfl⟩ := List.mem_map.1 hu; rfl) (by unfold maxLen; omega) (by omega) (by omega) ?_; intro v' w7 hown7 hg7 _; have hmod7 := hmB.trans (S := fun q => w5.heap.size ≤ q) (Mod.grown0 hg7) (fun i hi hs => hlow6 i hs); have dtC := (hmod7.cell (p := ⟨B, off + k, none⟩) hB (Nat.not_le.2 hB)).trans dt0)
        have hown8 : w7.ownsRow w5.heap.size 3 1 v' (xs ++ s.leg m' t).length ((xs ++ s.leg m' t).map (Value.int .i64)) := by
          have e : (xs ++ s.leg m' t).length = xs.length + L := by have := HL.out; simp; omega
          rw [e, List.map_append]
          exact hown7
        clear hno HC HAD hi hq0 hq1 hq2 hlow6 hll hown7 hg7 hownB hmB dtB kB
        go_wp2
        go_roundw
        case rel => exact ⟨k + 1, t, xs ++ s.leg m' t, by omega, by go_num, rfl, hown8, hmod7, HT.out, by rw [List.append_assoc]; exact HX2.out⟩
        case measure => simp [intOf]; omega
    · have hfin : xs = s.way n ts := by
        rw [HWAY.out, ← HX.out, List.drop_eq_nil_of_le (by have := HTN.out; omega)]
        simp [Cfg.tail]
      have SK := S5.out.later (hmod.mono (S' := fun _ => False) (fun k hk h => by omega)) (by simp)
      have so := SlV.own hown
      have hd1 : decide (s.way n ts = xs) = true := by simp [hfin]
      have hxl : (s.way n ts).length = xs.length := by rw [hfin]
      have hxp : 1 ≤ xs.length := by rw [hfin, HWAY.out]; simp
      have hxq : xs.length ≤ 1 + 4096 * tn := by rw [hfin, HWAY.out]; exact HTT.out
      obtain ⟨ao, no, co, rfl, hno, -, -, -⟩ := id so
      obtain rfl : no = xs.length := by simpa using hno.symm
      have HD1 := Lib.hid hd1
      have HXL := Lib.hid hxl
      have HTK := Lib.hid (show ts.length ≤ 1000000 by have := HTN.out; omega)
      clear hd1 hxl hfin hno hown
      go_wp2_with fail
      refine (run_Way s n _ ts _ SK HTK.out).mono ?_
      rintro e wC ⟨rW, rfl, mC, sW⟩
      have kC := kA.later mC (by simp)
      have mmC := MA.trans mC (by simp)
      have soC := so.later mC (by simp)
      have SC := SK.later mC (by simp)
      clear kA c0 c1 c2 c3 c4 c5 c6 c7 c8
      go_wp2_with fail
      refine (ref_Same _ _ (s.way n ts) xs _ sW soC).mono ?_
      rw [HD1.out]
      rintro e wD ⟨rfl, dD⟩
      have mD := dD.mod (fun _ => False)
      have kD := kC.later mD (by simp)
      have mmD := mmC.trans mD (by simp)
      have SD := SC.later mD (by simp)
      obtain ⟨c0, c1, c2, c3, c4, c5, c6, c7, c8⟩ := cfg_cells kD
      clear kC so SC sW soC
      go_wp2_with fail
      refine (run_Steps s n _ ts _ SD HTK.out).mono ?_
      rw [HXL.out]
      rintro e wE ⟨rfl, mE⟩
      have mmE := mmD.trans mE (by simp)
      clear kD SD c0 c1 c2 c3 c4 c5 c6 c7 c8
      have u1 : IntKind.i64.wrap ((xs.length : Int) - 1) = (xs.length : Int) - 1 := IntWalk.i64_in _ (by omega)
      go_wp2
      go_ret
      exact ⟨by simp, mmE.below⟩

end Go.Proofs.Ytdpfbgppaofgmaa
