/- The walk of SnakeSets. -/
import Derived.Test.YtdpfbgppaofgmaaSnakeK
import Derived.Test.YtdpfbgppaofgmaaRefD
namespace Go.Proofs.Ytdpfbgppaofgmaa
open Go.RowKit

/-- The three lists of a plan, by number. -/
def plc (c : Cfg) (n : Int) (ys : List Int) : Nat → List Int
  | 0 => c.ups n ys
  | 1 => (c.dns n ys).reverse
  | _ => c.eqs n ys
def psum (c : Cfg) (n : Int) (ys : List Int) (x : Int) : Nat → Nat
  | 0 => 0
  | q + 1 => psum c n ys x q + (plc c n ys q).count x
theorem psum_le (c : Cfg) (n : Int) (ys : List Int) (x : Int) (q : Nat) (hq : q ≤ 3) : psum c n ys x q ≤ psum c n ys x 3 := by
  match q, hq with
  | 0, _ => exact Nat.zero_le _
  | 1, _ => unfold psum; exact Nat.le_trans (Nat.le_add_right _ _) (Nat.le_add_right _ _)
  | 2, _ => exact Nat.le_add_right _ _
  | 3, _ => exact Nat.le_refl _

set_option maxRecDepth 100000 in
set_option maxHeartbeats 8000000 in
theorem walk_SnakeSets {w : World} (c : Cfg) (a1 : Int) (w1 : (Lit.int .i64 a1).wf = true) (v2 : Value) (l2 : List Int) (sl2 : SlV w v2 (l2.map (Value.int .i64))) (ll2 : l2.length ≤ maxLen) (wl2 : ∀ x ∈ l2, (Lit.int .i64 x).wf = true) :
    Calls Try.prog 5 #[.agg c.cells, .int .i64 a1, v2] w fun e w' => e = .returned (.bool true) ∧ Below w.heap.size w w' := by
  clear w1 wl2 ll2
  have HSL := Lib.hid sl2
  clear sl2
  have kb := Blk.made w c.cells 23
  have m0 : Mod (fun _ => False) w (w.alloc (.cells c.cells 23)) := (Mod.refl _ _).alloc _
  obtain ⟨hok, hW, hH⟩ := c.small_ok
  simp only [Cfg.cells] at kb m0 ⊢
  go_enter Try.func5, Try.ntmps5
  go_wp2_with fail
  refine (run_lives _).mono ?_
  rintro e w1 ⟨rfl, m1⟩
  have k1 := kb.later m1 (by simp)
  have mm1 := m0.trans m1 (by simp)
  obtain ⟨c0, c1, c2, c3, c4, c5, c6, c7, c8⟩ := cfg_cells k1
  clear kb m0 m1
  go_wp2_with fail
  refine (run_Small c _).mono ?_
  rintro e w2 ⟨rfl, m2⟩
  have k2 := k1.later m2 (by simp)
  have mm2 := mm1.trans m2 (by simp)
  clear k1 mm1 m2 c0 c1 c2 c3 c4 c5 c6 c7 c8
  have l2 := k2.lt
  have z0 := k2.fz 0
  have z1 := k2.fz 1
  have z2 := k2.fz 2
  have z3 := k2.fz 3
  have z4 := k2.fz 4
  have z5 := k2.fz 5
  have z6 := k2.fz 6
  have z7 := k2.fz 7
  have z8 := k2.fz 8
  obtain ⟨c0, c1, c2, c3, c4, c5, c6, c7, c8⟩ := cfg_cells k2
  go_wp2_with fail
  have k3 := put9_blk (d := c.small) k2
  have mm3 := put9_mod mm2 (b := w.heap.size) (Or.inr (Nat.le_refl _)) c.small
  change Calls Try.prog _ _ (put9 w2 w.heap.size c.small) _
  generalize put9 w2 w.heap.size c.small = w3 at k3 mm3 ⊢
  clear k2 mm2 l2 c0 c1 c2 c3 c4 c5 c6 c7 c8 z0 z1 z2 z3 z4 z5 z6 z7 z8
  clear w1 w2
  generalize c.small = s at *
  refine (ref_Node s a1 _ hok).mono ?_
  rintro e w4 ⟨rfl, m4⟩
  have k4 := k3.later m4 (by simp)
  have mm4 := mm3.trans m4 (by simp)
  clear k3 mm3 m4
  obtain ⟨c0, c1, c2, c3, c4, c5, c6, c7, c8⟩ := cfg_cells k4
  have hn := Cfg.um_is hok a1
  generalize um a1 s.nodes = n at hn ⊢
  go_wp2_with fail
  refine (ref_Set s _ l2 10 _ hok (HSL.out.later mm4 (by simp)) (by omega)).mono ?_
  rintro e w5 ⟨r5, rfl, m5, s5⟩
  have k5 := k4.later m5 (by simp)
  have mm5 := mm4.trans m5 (by simp)
  clear k4 mm4 m5 HSL c0 c1 c2 c3 c4 c5 c6 c7 c8
  obtain ⟨hnd, his, hlen⟩ := Cfg.setL_spec hok l2 10
  generalize s.setL l2 10 = ts at hnd his hlen s5
  obtain ⟨ta, tn, tc, rfl, htn, htc, htm, -⟩ := id s5
  rw [List.length_map] at htn
  have htnb : tn ≤ 10 := by omega
  have HTN := Lib.hid htn
  unfold maxLen at htm
  by_cases hz : tn = 0
  · subst hz
    clear s5 his hnd hlen htn
    go_wp2
    go_ret
    exact ⟨rfl, mm5.below⟩
  have hz1 : (((tn : Int)) == 0) = false := by simp; omega
  have hz2 : ¬ ((tn : Int) = 0) := by omega
  have hne : ts ≠ [] := by intro h; rw [h] at htn; simp at htn; omega
  have HP1 := Lib.hid (run_Plan_yes s n _ ts w5 s5 (by omega) hne hn his hnd)
  have HIS := Lib.hid his
  have HND := Lib.hid hnd
  clear htn his hnd hlen hne
  obtain ⟨c0, c1, c2, c3, c4, c5, c6, c7, c8⟩ := cfg_cells k5
  go_wp2_with fail
  refine HP1.out.mono ?_
  rintro e w8 ⟨p0, p1, p2, ys, rfl, m8, hp, hso, sp0, sp1, sp2⟩
  have k8 := k5.later m8 (by simp)
  have mm8 := mm5.trans m8 (by simp)
  have s8 := s5.later m8 (by simp)
  obtain ⟨pa0, pn0, pc0, rfl, pl0, -, -, -⟩ := id sp0
  obtain ⟨pa1, pn1, pc1, rfl, pl1, -, -, -⟩ := id sp1
  obtain ⟨pa2, pn2, pc2, rfl, pl2, -, -, -⟩ := id sp2
  rw [List.length_map] at pl0 pl1 pl2
  have hisy : ∀ x ∈ ys, s.is x = true := fun x hx => HIS.out x (hp.subset hx)
  have hndy : ys.Nodup := hp.nodup_iff.2 HND.out
  have hsum := plan_len (c := s) (n := n) hp
  rw [pl0, pl1, pl2, HTN.out] at hsum
  have he2 := plan_eqs (c := s) (n := n) hisy hndy
  rw [pl2] at he2
  have G0 := Lib.hid (Cfg.good_up hn hisy hndy hso)
  have G1 := Lib.hid (Cfg.good_dn hn hisy hndy hso)
  have hcount : ∀ x ∈ ts, psum s n ys x 3 = 1 := fun x hx => by
    have := plan_count (c := s) (n := n) hp HND.out hx
    show 0 + (s.ups n ys).count x + ((s.dns n ys).reverse).count x + (s.eqs n ys).count x = 1
    omega
  have HC := Lib.hid hcount
  have HPB := Lib.hid (show ∀ q, q < 3 → (plc s n ys q).length ≤ 10 by
    intro q hq
    match q, hq with
    | 0, _ => show (s.ups n ys).length ≤ 10; omega
    | 1, _ => show ((s.dns n ys).reverse).length ≤ 10; omega
    | 2, _ => show (s.eqs n ys).length ≤ 10; omega)
  have mX : Mod (fun _ => False) w8 (w8.alloc (.cells #[.slice pa0 pn0 pc0, .slice pa1 pn1 pc1, .slice pa2 pn2 pc2] 33)) := (Mod.refl _ _).alloc _
  have kX := k8.later mX (by simp)
  have kpX := Blk.made w8 #[.slice pa0 pn0 pc0, .slice pa1 pn1 pc1, .slice pa2 pn2 pc2] 33
  have sX := s8.later mX (by simp)
  have mmX := mm8.trans mX (by simp)
  have hpl : ∀ q, q < 3 → ∃ pa pn pc, (w8.alloc (.cells #[.slice pa0 pn0 pc0, .slice pa1 pn1 pc1, .slice pa2 pn2 pc2] 33)).cell? ⟨w8.heap.size, q, none⟩ = some (.slice pa pn pc) ∧ SlV (w8.alloc (.cells #[.slice pa0 pn0 pc0, .slice pa1 pn1 pc1, .slice pa2 pn2 pc2] 33)) (.slice pa pn pc) ((plc s n ys q).map (Value.int .i64)) := by
    intro q hq
    match q, hq with
    | 0, _ => exact ⟨_, _, _, by simp, sp0.later mX (by simp)⟩
    | 1, _ => exact ⟨_, _, _, by simp, sp1.later mX (by simp)⟩
    | 2, _ => exact ⟨_, _, _, by simp, sp2.later mX (by simp)⟩
  have x0 := kpX.cell 0
  have x1 := kpX.cell 1
  have x2 := kpX.cell 2
  simp at x0 x1 x2
  have HPL := Lib.hid hpl
  have SX := Lib.hid sX
  have u1 : IntKind.i64.wrap ((pn0 : Int) + (pn1 : Int)) = (pn0 : Int) + (pn1 : Int) := IntWalk.i64_in _ (by omega)
  have u2 : IntKind.i64.wrap ((pn0 : Int) + (pn1 : Int) + (pn2 : Int)) = (tn : Int) := by rw [IntWalk.i64_in _ (by omega)]; omega
  have q2 : decide ((1 : Int) < (pn2 : Int)) = false := by simp; omega
  have l8 := k8.lt
  clear HP1 m8 mm5 k5 s5 hp hso sp0 sp1 sp2 pl0 pl1 pl2 hisy hndy hcount s8 k8 mm8 hpl sX mX c0 c1 c2 c3 c4 c5 c6 c7 c8
  go_upto_region 12 with fail
  have hpb : ∀ q, q < 3 → (plc s n ys q).length ≤ 10 := HPB.out
  have lX : w8.heap.size < (w8.alloc (.cells #[.slice pa0 pn0 pc0, .slice pa1 pn1 pc1, .slice pa2 pn2 pc2] 33)).heap.size := by simp
  clear x0 x1 x2 kpX u1 u2 q2 hpb
  generalize w8.alloc (.cells #[.slice pa0 pn0 pc0, .slice pa1 pn1 pc1, .slice pa2 pn2 pc2] 33) = wX at kX HPL SX mmX lX ⊢
  go_wp2
  go_loopw [11] (fun k wr => ∃ kk : Nat, kk ≤ 2 ∧ k = .int .i64 kk ∧ Mod (fun _ => False) wX wr) (fun k _ => 2 - (intOf k).toNat)
  case atStart => exact ⟨0, by omega, by simp, Mod.refl _ _⟩
  case round =>
    obtain ⟨kk, hkk, rfl, hmod⟩ := hrel
    obtain ⟨wA, rfl⟩ : ∃ wo : World, wo = wr := ⟨_, rfl⟩
    have kA := kX.later hmod (by simp)
    have mmA := mmX.trans hmod (by simp)
    by_cases hlt : kk < 2
    · have hgood : s.Good n (plc s n ys kk) := by
        match kk, hlt with
        | 0, _ => exact G0.out
        | 1, _ => exact G1.out
      have hp10 := HPB.out kk (by omega)
      obtain ⟨pa, pn, pc, hcell, hsl⟩ := HPL.out kk (by omega)
      have hcell := (hmod.cell (p := ⟨w8.heap.size, kk, none⟩) lX (by simp)).trans hcell
      have hsl := hsl.later hmod (by simp)
      have hpn : (plc s n ys kk).length = pn := by
        obtain ⟨a', n', c', hv, hn', -⟩ := id hsl
        simp only [Value.slice.injEq] at hv
        obtain ⟨rfl, rfl, rfl⟩ := hv
        simpa using hn'
      generalize plc s n ys kk = p at hgood hsl hpn hp10
      have hpm : pn ≤ 10 := by omega
      have lA : w8.heap.size < wA.heap.size := Nat.lt_of_lt_of_le lX hmod.size
      have HPN := Lib.hid hpn
      have HG := Lib.hid hgood
      have HSLP := Lib.hid hsl
      clear hgood hpn hp10
      obtain ⟨c0, c1, c2, c3, c4, c5, c6, c7, c8⟩ := cfg_cells kA
      have b0 : (0 : Int) ≤ (kk : Int) := by omega
      have b1 : (kk : Int) < 3 := by omega
      have b2 : (kk : Int) < 2 := by omega
      have b3 : kk < 3 := by omega
      go_wp2
      go_upto_region 15 with fail
      go_cut [12] (fun v w' => Mod (fun _ => False) wA w' ∧ SlV w' v ((s.way n p).map (Value.int .i64)))
      case first =>
        have spd : SlV wA.drew (.slice pa pn pc) (p.map (Value.int .i64)) := hsl.later (Mod.refl (fun _ => False) wA).drew (by simp)
        have hpl : p.length ≤ 1000000 := by have := HPN.out; omega
        go_region_held3 (fun w' => w'.cell? ⟨w8.heap.size, kk, none⟩ = some (.slice pa pn pc) ∧ w'.cell? ⟨w.heap.size, 0, none⟩ = some (Value.int .i64 s.W) ∧ w'.cell? ⟨w.heap.size, 1, none⟩ = some (Value.int .i64 s.H) ∧ w'.cell? ⟨w.heap.size, 2, none⟩ = some (Value.int .i64 s.Lanes) ∧ w'.cell? ⟨w.heap.size, 3, none⟩ = some (Value.int .i64 s.Depth) ∧ w'.cell? ⟨w.heap.size, 4, none⟩ = some (Value.int .i64 s.Ring) ∧ w'.cell? ⟨w.heap.size, 5, none⟩ = some (Value.int .i64 s.Inbox) ∧ w'.cell? ⟨w.heap.size, 6, none⟩ = some (Value.int .i64 s.Bound) ∧ w'.cell? ⟨w.heap.size, 7, none⟩ = some (Value.bool s.West) ∧ w'.cell? ⟨w.heap.size, 8, none⟩ = some (Value.bool s.Cast))
          (first
            | go_keep
            | exact ⟨hcell, cfg_cells kA.drew⟩
            | exact ⟨(mz.cell lA (by simp)).trans hcell, cfg_cells (kA.later mz (by simp))⟩)
          ((go_at_call 22; refine (run_Way s n _ p _ spd hpl).mono ?_; rintro e w9 ⟨r9, rfl, m9, s9⟩; have mz := (Mod.refl (fun _ => False) wA).drew.trans m9 (by simp)))
        all_goals go_wp2_with fail
        all_goals go_meet
        all_goals exact ⟨mz, s9⟩
      case rest =>
        obtain ⟨m10, sv⟩ := hcut
        obtain ⟨wB, rfl⟩ : ∃ wo : World, wo = wc := ⟨_, rfl⟩
        obtain ⟨va, vn, vc, rfl, hvn, hvc, hvm, -⟩ := id sv
        rw [List.length_map] at hvn
        have hw0 := HG.out.way
        have hwnd := HG.out.nodup
        have hwm := HG.out.meet
        generalize s.way n p = W at hw0 hwnd hwm hvn sv
        have hw1 : W[0]? = some n := by rw [hw0]; rfl
        have hvp : 1 ≤ vn := by rw [← hvn, hw0]; simp
        have hcB := (m10.cell (p := ⟨w8.heap.size, kk, none⟩) lA (by simp)).trans hcell
        have hslB := hsl.later m10 (by simp)
        have hmB := hmod.trans m10 (by simp)
        unfold maxLen at hvm
        have HVN := Lib.hid hvn
        have HWN := Lib.hid hwnd
        have HWM := Lib.hid hwm
        have HW1 := Lib.hid hw1
        have SV := Lib.hid sv
        have SLB := Lib.hid hslB
        clear hvn hw0 hwnd hwm hw1 sv hslB hsl hcell m10 kA lA mmA hmod HSLP HG c0 c1 c2 c3 c4 c5 c6 c7 c8
        go_wp2
        go_loopw [13, 14] (fun a i wr => ∃ q ii : Nat, ii ≤ vn ∧ q ≤ pn ∧ i = .int .i64 ii ∧ a = .int .i64 q ∧ Drw wB wr ∧ q + meet (W.drop ii) (p.drop q) = pn) (fun _ i _ => vn - (intOf i).toNat)
        case atStart => exact ⟨0, 0, by omega, by omega, by simp, by simp, Drw.refl _, by rw [Nat.zero_add]; exact HWM.out.trans HPN.out⟩
        case round =>
          obtain ⟨q, ii, hii, hq, rfl, rfl, hd, hmeet⟩ := hrel
          obtain ⟨wC, rfl⟩ : ∃ wo : World, wo = wr := ⟨_, rfl⟩
          have HMT := Lib.hid hmeet
          clear hmeet
          by_cases hil : ii < vn
          · obtain ⟨x, hx⟩ : ∃ x, W[ii]? = some x := ⟨_, List.getElem?_eq_getElem (by have := HVN.out; omega)⟩
            obtain ⟨B, off, rfl, hB, dx⟩ := SV.out.at ii hil
            rw [ints_get hx] at dx
            have HX := Lib.hid hx
            clear hx
            go_wp2
            go_loopw [15] (fun j wr => ∃ jj : Nat, jj ≤ ii ∧ j = .int .i64 jj ∧ Drw wB wr) (fun j _ => ii - (intOf j).toNat)
            case atStart => exact ⟨0, by omega, by simp, hd⟩
            case round =>
              obtain ⟨jj, hjj, rfl, hd2⟩ := hrel
              obtain ⟨wD, rfl⟩ : ∃ wo : World, wo = wr := ⟨_, rfl⟩
              by_cases hjl : jj < ii
              · obtain ⟨y, hy⟩ : ∃ y, W[jj]? = some y := ⟨_, List.getElem?_eq_getElem (by have := HVN.out; omega)⟩
                obtain ⟨B', o', e1, -, dy⟩ := SV.out.at jj (by omega)
                simp only [Option.some.injEq, Addr.mk.injEq, and_true] at e1
                rw [← e1.1, ← e1.2] at dy
                rw [ints_get hy] at dy
                have dy := (hd2.cell ⟨B, off + jj, none⟩).trans dy
                have dx2 := (hd2.cell ⟨B, off + ii, none⟩).trans dx
                have hxy : y ≠ x := by
                  intro e
                  obtain ⟨h1, h2⟩ := List.getElem?_eq_some_iff.1 HX.out
                  obtain ⟨h3, h4⟩ := List.getElem?_eq_some_iff.1 hy
                  have := List.pairwise_iff_getElem.1 HWN.out jj ii h3 h1 hjl
                  rw [h2, h4] at this
                  exact this e
                have q1 : (y == x) = false := by simp [hxy]
                have r0 : (0 : Int) ≤ (jj : Int) := by omega
                have r1 : (jj : Int) < (vn : Int) := by omega
                have r2 : (0 : Int) ≤ (ii : Int) := by omega
                have r3 : (ii : Int) < (vn : Int) := by omega
                clear e1 hy hxy dx
                go_wp2
                go_upto_region 23 with fail
                go_cut [94] (fun v w' => v = .bool false ∧ Drw wD w')
                case first =>
                  go_quiet (fail)
                  all_goals go_wp2_with fail
                  all_goals go_meet
                  all_goals exact ⟨by simp [q1], Drw.drewN _ _⟩
                case rest =>
                  obtain ⟨rfl, m11⟩ := hcut
                  have hd3 := hd2.trans m11
                  go_wp2
                  go_roundw
                  case rel => exact ⟨jj + 1, by omega, by go_num, hd3⟩
                  case measure => simp [intOf]; omega
              · obtain rfl : jj = ii := by omega
                have hcD := (hd2.cell ⟨w8.heap.size, kk, none⟩).trans hcB
                have dx2 := (hd2.cell ⟨B, off + jj, none⟩).trans dx
                have r2 : (0 : Int) ≤ (jj : Int) := by omega
                have r3 : (jj : Int) < (vn : Int) := by omega
                have hWd : W.drop jj = x :: W.drop (jj + 1) := by
                  obtain ⟨h2, h3⟩ := List.getElem?_eq_some_iff.1 HX.out
                  rw [List.drop_eq_getElem_cons h2, h3]
                by_cases hqp : q < pn
                · obtain ⟨z, hz'⟩ : ∃ z, p[q]? = some z := ⟨_, List.getElem?_eq_getElem (by have := HPN.out; omega)⟩
                  obtain ⟨Bp, op, rfl, hBp, dz⟩ := SLB.out.at q hqp
                  rw [ints_get hz'] at dz
                  have dz2 := (hd2.cell ⟨Bp, op + q, none⟩).trans dz
                  have hpd : p.drop q = z :: p.drop (q + 1) := by
                    obtain ⟨h2, h3⟩ := List.getElem?_eq_some_iff.1 hz'
                    rw [List.drop_eq_getElem_cons h2, h3]
                  have r4 : (0 : Int) ≤ (q : Int) := by omega
                  have r5 : (q : Int) < (pn : Int) := by omega
                  have r6 : decide ((q : Int) < (pn : Int)) = true := by simp; omega
                  by_cases hxz : x = z
                  · have q1 : (x == z) = true := by simp [hxz]
                    have hN : (q + 1) + meet (W.drop (jj + 1)) (p.drop (q + 1)) = pn := by
                      have := HMT.out
                      rw [hWd, hpd] at this
                      unfold meet at this
                      rw [if_pos hxz] at this
                      omega
                    have HN := Lib.hid hN
                    clear hN hWd hpd hz' hxz HMT dz dx
                    go_wp2
                    go_upto_region 25 with fail
                    go_cut [113] (fun v w' => v = .bool true ∧ Drw wD w')
                    case first =>
                      go_quiet (fail)
                      all_goals go_wp2_with fail
                      all_goals go_meet
                      all_goals exact ⟨by simp [q1], Drw.drewN _ _⟩
                    case rest =>
                      obtain ⟨rfl, m11⟩ := hcut
                      have hd3 := hd2.trans m11
                      go_wp2
                      go_roundw
                      case rel => exact ⟨q + 1, jj + 1, by omega, by omega, by go_num, by go_num, hd3, HN.out⟩
                      case measure => simp [intOf]; omega
                  · have q1 : (x == z) = false := by simp [hxz]
                    have hN : q + meet (W.drop (jj + 1)) (p.drop q) = pn := by
                      have := HMT.out
                      rw [hWd, hpd] at this
                      unfold meet at this
                      rw [if_neg hxz] at this
                      rw [hpd]
                      exact this
                    have HN := Lib.hid hN
                    clear hN hWd hpd hz' hxz HMT dz dx
                    go_wp2
                    go_upto_region 25 with fail
                    go_cut [113] (fun v w' => v = .bool false ∧ Drw wD w')
                    case first =>
                      go_quiet (fail)
                      all_goals go_wp2_with fail
                      all_goals go_meet
                      all_goals exact ⟨by simp [q1], Drw.drewN _ _⟩
                    case rest =>
                      obtain ⟨rfl, m11⟩ := hcut
                      have hd3 := hd2.trans m11
                      go_wp2
                      go_roundw
                      case rel => exact ⟨q, jj + 1, by omega, by omega, by go_num, by go_num, hd3, HN.out⟩
                      case measure => simp [intOf]; omega
                · obtain rfl : q = pn := by omega
                  have q1 : decide ((q : Int) < (q : Int)) = false := by simp
                  have hN : q + meet (W.drop (jj + 1)) (p.drop q) = q := by
                    rw [show p.drop q = [] from List.drop_eq_nil_of_le (by have := HPN.out; omega)]
                    cases W.drop (jj + 1) <;> rfl
                  have HN := Lib.hid hN
                  clear hN hWd HMT dx
                  go_wp2
                  go_upto_region 25 with fail
                  go_cut [113] (fun v w' => v = .bool false ∧ Drw wD w')
                  case first =>
                    go_quiet (fail)
                    all_goals go_wp2_with fail
                    all_goals go_meet
                    all_goals exact ⟨by simp [q1], Drw.drewN _ _⟩
                  case rest =>
                    obtain ⟨rfl, m11⟩ := hcut
                    have hd3 := hd2.trans m11
                    go_wp2
                    go_roundw
                    case rel => exact ⟨q, jj + 1, by omega, by omega, by go_num, by go_num, hd3, HN.out⟩
                    case measure => simp [intOf]; omega
          · obtain rfl : ii = vn := by omega
            have hqe : q = pn := by
              have := HMT.out
              rw [List.drop_eq_nil_of_le (by have := HVN.out; omega)] at this
              unfold meet at this
              omega
            subst hqe
            obtain ⟨B, off, rfl, hB, dx⟩ := SV.out.at 0 (by omega)
            rw [ints_get HW1.out] at dx
            have dx2 := (hd.cell ⟨B, off + 0, none⟩).trans dx
            simp only [Nat.add_zero] at dx2
            have hcD := (hd.cell ⟨w8.heap.size, kk, none⟩).trans hcB
            have r2 : 0 < ii := by omega
            have r3 : (0 : Int) < (ii : Int) := by omega
            have r4 : ((ii : Int) == 0) = false := by simp; omega
            have r5 : ¬ ((ii : Int) = 0) := by omega
            have hmD := hmB.trans (hd.mod (fun _ => False)) (by simp)
            clear dx HMT
            go_wp2
            go_roundw
            case rel => exact ⟨kk + 1, by omega, by go_num, hmD⟩
            case measure => simp [intOf]; omega
    · have lA : w8.heap.size < wA.heap.size := Nat.lt_of_lt_of_le lX hmod.size
      have HPA := Lib.hid (show ∀ q, q < 3 → ∃ pa pn pc, wA.cell? ⟨w8.heap.size, q, none⟩ = some (.slice pa pn pc) ∧ SlV wA (.slice pa pn pc) ((plc s n ys q).map (Value.int .i64)) ∧ (plc s n ys q).length = pn by
        intro q hq
        obtain ⟨pa, pn, pc, h1, h2⟩ := HPL.out q hq
        refine ⟨pa, pn, pc, (hmod.cell (p := ⟨w8.heap.size, q, none⟩) lX (by simp)).trans h1, h2.later hmod (by simp), ?_⟩
        obtain ⟨a', n', c', hv, hn', -⟩ := id h2
        simp only [Value.slice.injEq] at hv
        obtain ⟨rfl, rfl, rfl⟩ := hv
        simpa using hn')
      have SA := Lib.hid (SX.out.later hmod (by simp))
      clear HPL SX kA hmod kX mmX lX G0 G1
      go_wp2
      go_loopw [16] (fun i wr => ∃ ii : Nat, ii ≤ tn ∧ i = .int .i64 ii ∧ Drw wA wr) (fun i _ => tn - (intOf i).toNat)
      case atStart => exact ⟨0, by omega, by simp, Drw.refl _⟩
      case round =>
        obtain ⟨ii, hii, rfl, hd⟩ := hrel
        obtain ⟨wB, rfl⟩ : ∃ wo : World, wo = wr := ⟨_, rfl⟩
        by_cases hil : ii < tn
        · obtain ⟨x, hx⟩ : ∃ x, ts[ii]? = some x := ⟨_, List.getElem?_eq_getElem (by have := HTN.out; omega)⟩
          obtain ⟨B, off, rfl, hB, dx⟩ := SA.out.at ii hil
          rw [ints_get hx] at dx
          have HCX := Lib.hid (HC.out x (List.mem_of_getElem? hx))
          clear hx
          go_wp2
          go_loopw [17, 18] (fun c k wr => ∃ kk : Nat, kk ≤ 3 ∧ k = .int .i64 kk ∧ c = .int .i64 (psum s n ys x kk : Nat) ∧ Drw wA wr) (fun _ k _ => 3 - (intOf k).toNat)
          case atStart => exact ⟨0, by omega, by simp, by simp [psum], hd⟩
          case round =>
            obtain ⟨kk, hkk3, rfl, rfl, hd2⟩ := hrel
            obtain ⟨wC, rfl⟩ : ∃ wo : World, wo = wr := ⟨_, rfl⟩
            by_cases hkl : kk < 3
            · obtain ⟨pa, pn, pc, hcell, hsl, hpn⟩ := HPA.out kk hkl
              have hcC := (hd2.cell ⟨w8.heap.size, kk, none⟩).trans hcell
              have hps : psum s n ys x (kk + 1) = psum s n ys x kk + (plc s n ys kk).count x := rfl
              have hle : psum s n ys x (kk + 1) ≤ 1 := Nat.le_trans (psum_le _ _ _ _ _ (by omega)) (Nat.le_of_eq HCX.out)
              have HPS := Lib.hid hps
              have hbd : psum s n ys x kk + (plc s n ys kk).count x ≤ 1 := by omega
              have hpm : pn ≤ 10 := by have := HPB.out kk hkl; omega
              clear hps hle hcell
              generalize plc s n ys kk = p at hsl hpn HPS hbd
              generalize psum s n ys x kk = c0 at HPS hbd
              have HPN := Lib.hid hpn
              have HSLP := Lib.hid hsl
              have r0 : (0 : Int) ≤ (kk : Int) := by omega
              have r1 : (kk : Int) < 3 := by omega
              clear hpn hsl
              go_wp2
              go_loopw [17, 19] (fun c j wr => ∃ jj : Nat, jj ≤ pn ∧ j = .int .i64 jj ∧ c = .int .i64 ((c0 + (p.take jj).count x : Nat) : Int) ∧ Drw wA wr) (fun _ j _ => pn - (intOf j).toNat)
              case atStart => exact ⟨0, by omega, by simp, by simp, hd2⟩
              case round =>
                obtain ⟨jj, hjj, rfl, rfl, hd3⟩ := hrel
                obtain ⟨wD, rfl⟩ : ∃ wo : World, wo = wr := ⟨_, rfl⟩
                have hcD := (hd3.cell ⟨w8.heap.size, kk, none⟩).trans ((hd2.cell ⟨w8.heap.size, kk, none⟩).symm.trans hcC)
                by_cases hjl : jj < pn
                · obtain ⟨y, hy⟩ : ∃ y, p[jj]? = some y := ⟨_, List.getElem?_eq_getElem (by have := HPN.out; omega)⟩
                  obtain ⟨Bp, op, rfl, hBp, dy⟩ := HSLP.out.at jj hjl
                  rw [ints_get hy] at dy
                  have dy2 := (hd3.cell ⟨Bp, op + jj, none⟩).trans dy
                  have dx2 := (hd3.cell ⟨B, off + ii, none⟩).trans dx
                  have htk : p.take (jj + 1) = p.take jj ++ [y] := by rw [List.take_add_one, hy]; rfl
                  have hcb : c0 + (p.take jj).count x ≤ 1 := by
                    have : (p.take jj).count x ≤ p.count x := (List.take_sublist _ _).count_le _
                    omega
                  have r2 : (0 : Int) ≤ (jj : Int) := by omega
                  have r3 : (jj : Int) < (pn : Int) := by omega
                  have r4 : (0 : Int) ≤ (ii : Int) := by omega
                  have r5 : (ii : Int) < (tn : Int) := by omega
                  clear hcC dy dx
                  by_cases hyx : y = x
                  · have q1 : (y == x) = true := by simp [hyx]
                    have hN : (p.take (jj + 1)).count x = (p.take jj).count x + 1 := by rw [htk, hyx]; simp
                    have HN := Lib.hid hN
                    generalize (p.take jj).count x = c1 at HN hcb
                    clear hN htk hy hyx
                    go_wp2
                    go_upto_region 39 with fail
                    go_cut [162] (fun v w' => v = .bool true ∧ Drw wD w')
                    case first =>
                      go_quiet (fail)
                      all_goals go_wp2_with fail
                      all_goals go_meet
                      all_goals exact ⟨by simp [q1], Drw.drewN _ _⟩
                    case rest =>
                      obtain ⟨rfl, m11⟩ := hcut
                      have hd4 := hd3.trans m11
                      go_wp2
                      go_roundw
                      case rel => exact ⟨jj + 1, by omega, by go_num, by rw [HN.out]; go_num, hd4⟩
                      case measure => simp [intOf]; omega
                  · have q1 : (y == x) = false := by simp [hyx]
                    have hN : (p.take (jj + 1)).count x = (p.take jj).count x := by rw [htk]; simp [hyx]
                    have HN := Lib.hid hN
                    clear hN htk hy hyx
                    go_wp2
                    go_upto_region 39 with fail
                    go_cut [162] (fun v w' => v = .bool false ∧ Drw wD w')
                    case first =>
                      go_quiet (fail)
                      all_goals go_wp2_with fail
                      all_goals go_meet
                      all_goals exact ⟨by simp [q1], Drw.drewN _ _⟩
                    case rest =>
                      obtain ⟨rfl, m11⟩ := hcut
                      have hd4 := hd3.trans m11
                      go_wp2
                      go_roundw
                      case rel => exact ⟨jj + 1, by omega, by go_num, by rw [HN.out], hd4⟩
                      case measure => simp [intOf]; omega
                · obtain rfl : jj = pn := by omega
                  have hN : psum s n ys x (kk + 1) = c0 + (p.take jj).count x := by
                    rw [HPS.out, List.take_of_length_le (by have := HPN.out; omega)]
                  have HN := Lib.hid hN
                  clear hN hcC
                  go_wp2
                  go_roundw
                  case rel => exact ⟨kk + 1, by omega, by go_num, by rw [HN.out], hd3⟩
                  case measure => simp [intOf]; omega
            · obtain rfl : kk = 3 := by omega
              rw [HCX.out]
              go_wp2
              go_roundw
              case rel => exact ⟨ii + 1, by omega, by go_num, hd2⟩
              case measure => simp [intOf]; omega
        · go_wp2
          go_ret
          exact ⟨rfl, (mmA.trans (hd.mod (fun _ => False)) (by simp)).below⟩

end Go.Proofs.Ytdpfbgppaofgmaa
