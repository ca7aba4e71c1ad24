/- The walk of SnakeRises. -/
import Derived.Test.YtdpfbgppaofgmaaSnakeJ
import Derived.Test.YtdpfbgppaofgmaaTake
namespace Go.Proofs.Ytdpfbgppaofgmaa
open Go.RowKit

set_option maxRecDepth 100000 in
set_option maxHeartbeats 4000000 in
theorem walk_SnakeRises {w : World} (c : Cfg) (a1 : Int) (w1 : (Lit.int .i64 a1).wf = true) (a2 : Int) (w2 : (Lit.int .i64 a2).wf = true) :
    Calls Try.prog 9 #[.agg c.cells, .int .i64 a1, .int .i64 a2] w fun e w' => e = .returned (.bool true) ∧ Below w.heap.size w w' := by
  clear w1 w2
  have kb := Blk.made w c.cells 23
  have m0 : Mod (fun _ => False) w (w.alloc (.cells c.cells 23)) := (Mod.refl _ _).alloc _
  obtain ⟨hok, hW, hH⟩ := c.small_ok
  simp only [Cfg.cells] at kb m0 ⊢
  go_enter Try.func9, Try.ntmps9
  go_wp2_with fail
  refine (run_lives _).mono ?_
  rintro e w1 ⟨rfl, m1⟩
  have k1 := kb.later m1 (by simp)
  have mm1 := m0.trans m1 (by simp)
  obtain ⟨c0, c1, c2, c3, c4, c5, c6, c7, c8⟩ := cfg_cells k1
  clear kb m0 m1
  go_wp2_with fail
  refine (run_Small c _).mono ?_
  rintro e w2 ⟨rfl, m2⟩
  have k2 := k1.later m2 (by simp)
  have mm2 := mm1.trans m2 (by simp)
  clear k1 mm1 m2 c0 c1 c2 c3 c4 c5 c6 c7 c8
  have l2 := k2.lt
  have z0 := k2.fz 0
  have z1 := k2.fz 1
  have z2 := k2.fz 2
  have z3 := k2.fz 3
  have z4 := k2.fz 4
  have z5 := k2.fz 5
  have z6 := k2.fz 6
  have z7 := k2.fz 7
  have z8 := k2.fz 8
  obtain ⟨c0, c1, c2, c3, c4, c5, c6, c7, c8⟩ := cfg_cells k2
  go_wp2_with fail
  have k3 := put9_blk (d := c.small) k2
  have mm3 := put9_mod mm2 (b := w.heap.size) (Or.inr (Nat.le_refl _)) c.small
  change Calls Try.prog _ _ (put9 w2 w.heap.size c.small) _
  generalize put9 w2 w.heap.size c.small = w3 at k3 mm3 ⊢
  clear k2 mm2 l2 c0 c1 c2 c3 c4 c5 c6 c7 c8 z0 z1 z2 z3 z4 z5 z6 z7 z8
  clear w1 w2
  generalize c.small = s at *
  refine (ref_Node s a1 _ hok).mono ?_
  rintro e w4 ⟨rfl, m4⟩
  have k4 := k3.later m4 (by simp)
  have mm4 := mm3.trans m4 (by simp)
  clear k3 mm3 m4
  obtain ⟨c0, c1, c2, c3, c4, c5, c6, c7, c8⟩ := cfg_cells k4
  have hn := Cfg.um_is hok a1
  generalize um a1 s.nodes = n at hn ⊢
  go_wp2_with fail
  refine (ref_Node s a2 _ hok).mono ?_
  rintro e w5 ⟨rfl, m5⟩
  have k5 := k4.later m5 (by simp)
  have mm5 := mm4.trans m5 (by simp)
  clear c0 c1 c2 c3 c4 c5 c6 c7 c8 k4 mm4 m5
  obtain ⟨c0, c1, c2, c3, c4, c5, c6, c7, c8⟩ := cfg_cells k5
  have ht := Cfg.um_is hok a2
  generalize um a2 s.nodes = t at ht ⊢
  have hpn : s.pe n = 0 := (Cfg.p_yes hn).2.2
  have hpt : s.pe t = 0 := (Cfg.p_yes ht).2.2
  have HPT := Lib.hid hpt
  clear hpt
  go_wp2_with fail
  refine (run_Label s n _).mono ?_
  rw [hpn]
  rintro e w6 ⟨rfl, m6⟩
  have k6 := k5.later m6 (by simp)
  have mm6 := mm5.trans m6 (by simp)
  clear k5 mm5 m6 hpn c0 c1 c2 c3 c4 c5 c6 c7 c8
  obtain ⟨c0, c1, c2, c3, c4, c5, c6, c7, c8⟩ := cfg_cells k6
  go_wp2_with fail
  refine (run_Label s t _).mono ?_
  rw [HPT.out]
  rintro e w7 ⟨rfl, m7⟩
  have k7 := k6.later m7 (by simp)
  have mm7 := mm6.trans m7 (by simp)
  clear k6 mm6 m7 c0 c1 c2 c3 c4 c5 c6 c7 c8
  obtain ⟨c0, c1, c2, c3, c4, c5, c6, c7, c8⟩ := cfg_cells k7
  have l7 := k7.lt
  have hwo := Cfg.way_one hn ht
  have hll := Cfg.leg_len ht _ n (Nat.le_refl _) hn
  have hlast := Cfg.leg_last ht _ n (Nat.le_refl _) hn
  have hprs := Cfg.leg_pairs ht _ n (Nat.le_refl _) hn
  have hgb := Cfg.gap_bd s n t
  have hgd : (s.gap n t : Int) = max (s.lab n - s.lab t) (s.lab t - s.lab n) := by unfold Cfg.gap; omega
  have hbn := Cfg.lab_bd (c := s) n
  have hbt := Cfg.lab_bd (c := s) t
  have HPRS := Lib.hid hprs
  have HWO := Lib.hid hwo
  have HLAST := Lib.hid hlast
  have HGD := Lib.hid hgd
  clear hprs hwo hlast hgd
  go_wp2_with fail
  have sp : SlV (w7.alloc (.cells #[.int .i64 t] 3)) (.slice (some ⟨w7.heap.size, 0, none⟩) 1 1) (([t] : List Int).map (Value.int .i64)) := SlV.new _ _ _ rfl _ rfl
  refine (run_Way s n _ [t] _ sp (by simp)).mono ?_
  rw [HWO.out]
  rintro e w8 ⟨r, rfl, m8, hr⟩
  have k8 := (k7.alloc (.cells #[.int .i64 t] 3)).later m8 (by simp)
  have mm8 := (mm7.alloc (.cells #[.int .i64 t] 3)).trans m8 (by simp)
  clear k7 mm7 m8 sp l7 c0 c1 c2 c3 c4 c5 c6 c7 c8 HWO HPT
  obtain ⟨a, len, cap, rfl, hlen, -, -, -⟩ := id hr
  obtain ⟨L, hL⟩ : ∃ L, L = (s.leg n t).length := ⟨_, rfl⟩
  obtain rfl : len = L + 1 := by simpa [hL] using hlen.symm
  rw [← hL] at hll
  have HL := Lib.hid hL
  obtain ⟨B, off, rfl, hB, d0⟩ := hr.at 0 (by omega)
  obtain ⟨B', off', hBB, -, dL⟩ := hr.at L (by omega)
  simp only [Option.some.injEq, Addr.mk.injEq, and_true] at hBB
  obtain ⟨rfl, rfl⟩ := hBB
  have hdL : (((n :: s.leg n t).map (Value.int .i64)).getD L undef) = .int .i64 t := by
    have := HLAST.out
    rw [← HL.out] at this
    simp only [List.getD_eq_getElem?_getD, List.getElem?_map, this]
    rfl
  rw [hdL] at dL
  simp only [Nat.add_zero, List.map_cons, List.getD_cons_zero] at d0
  have hdg : (L : Int) ≤ max (s.lab n - s.lab t) (s.lab t - s.lab n) := by have := HGD.out; omega
  have HR := Lib.hid hr
  obtain ⟨c0, c1, c2, c3, c4, c5, c6, c7, c8⟩ := cfg_cells k8
  have hz1 : (((L : Int) + 1) == 0) = false := by simp; omega
  have hz2 : ¬ ((L : Int) + 1 = 0) := by omega
  clear hr hdL hL hlen HGD HLAST
  by_cases ho : s.lab n < s.lab t
  · have hmo : s.lab n - s.lab t < s.lab t - s.lab n := by omega
    have hLL : (L : Int) ≤ s.lab t - s.lab n := by omega
    go_wp2
    go_loopw [12] (fun i wr => ∃ j : Nat, j ≤ L ∧ i = .int .i64 ((j : Int) + 1) ∧ Mod (fun _ => False) w8 wr) (fun i _ => L + 1 - (intOf i).toNat)
    case atStart => exact ⟨0, by omega, by simp, Mod.refl _ _⟩
    case round =>
      obtain ⟨j, hj, rfl, hmod⟩ := hrel
      by_cases hlt : j < L
      · obtain ⟨x, hx⟩ : ∃ x, (n :: s.leg n t)[j]? = some x := ⟨_, List.getElem?_eq_getElem (by have := HL.out; simp; omega)⟩
        obtain ⟨y, hy⟩ : ∃ y, (n :: s.leg n t)[j + 1]? = some y := ⟨_, List.getElem?_eq_getElem (by have := HL.out; simp; omega)⟩
        have P := HPRS.out j x y hx hy
        obtain ⟨B1, o1, e1, -, dx⟩ := HR.out.at j (by omega)
        obtain ⟨B2, o2, e2, -, dy⟩ := HR.out.at (j + 1) (by omega)
        simp only [Option.some.injEq, Addr.mk.injEq, and_true] at e1 e2
        rw [← e1.1, ← e1.2] at dx
        rw [← e2.1, ← e2.2] at dy
        have vx : ((n :: s.leg n t).map (Value.int .i64)).getD j undef = .int .i64 x := by simp only [List.getD_eq_getElem?_getD, List.getElem?_map, hx]; rfl
        have vy : ((n :: s.leg n t).map (Value.int .i64)).getD (j + 1) undef = .int .i64 y := by simp only [List.getD_eq_getElem?_getD, List.getElem?_map, hy]; rfl
        rw [vx] at dx
        rw [vy] at dy
        have dx := (hmod.cell (p := ⟨B, off + j, none⟩) hB (by simp)).trans dx
        have dy := (hmod.cell (p := ⟨B, off + (j + 1), none⟩) hB (by simp)).trans dy
        have hBr : B < wr.heap.size := Nat.lt_of_lt_of_le hB hmod.size
        have k9 := k8.later hmod (by simp)
        have hdir : (s.lab n < s.lab t ∧ s.lab x < s.lab y ∧ s.lab y ≤ s.lab t) ∨ (s.lab t < s.lab n ∧ s.lab y < s.lab x ∧ s.lab t ≤ s.lab y) := by
          rcases Int.lt_trichotomy (s.lab n) (s.lab t) with h | h | h
          · exact Or.inl ⟨h, P.up h⟩
          · exfalso
            have := HL.out
            rw [Cfg.lab_inj hn ht h, Cfg.leg_self] at this
            simp at this
            omega
          · exact Or.inr ⟨h, P.down h⟩
        have hpx := (Cfg.p_yes P.isx).2.2
        have hpy := (Cfg.p_yes P.isy).2.2
        have hfar := P.far
        have HPX := Lib.hid hpx
        have HPY := Lib.hid hpy
        have HF := Lib.hid hfar
        have HD := Lib.hid hdir
        clear vx vy hx hy P e1 e2 hpx hpy hfar hdir d0 dL k8 c0 c1 c2 c3 c4 c5 c6 c7 c8
        obtain ⟨c0, c1, c2, c3, c4, c5, c6, c7, c8⟩ := cfg_cells k9
        have u1 : IntKind.i64.wrap ((j : Int) + 1 - 1) = (j : Int) := by rw [Int.add_sub_cancel]; exact IntWalk.i64_in _ (by omega)
        have u2 : IntKind.i64.wrap (j : Int) = (j : Int) := IntWalk.i64_in _ (by omega)
        have u3 : IntKind.i64.wrap ((j : Int) + 1) = (j : Int) + 1 := IntWalk.i64_in _ (by omega)
        have b1 : (0 : Int) ≤ (j : Int) + 1 := by omega
        have b2 : (j : Int) + 1 < (L : Int) + 1 := by omega
        have b3 : (0 : Int) ≤ (j : Int) := by omega
        have b4 : (j : Int) < (L : Int) + 1 := by omega
        go_wp2
        go_upto_region 14 with fail
        go_cut [13] (fun v w' => v = .int .i64 (s.lab x) ∧ Mod (fun _ => False) wr w')
        case first =>
          go_region_held3 (fun w' => w'.cell? ⟨B, off + j, none⟩ = some (.int .i64 x) ∧ w'.cell? ⟨w.heap.size, 0, none⟩ = some (Value.int .i64 s.W) ∧ w'.cell? ⟨w.heap.size, 1, none⟩ = some (Value.int .i64 s.H) ∧ w'.cell? ⟨w.heap.size, 2, none⟩ = some (Value.int .i64 s.Lanes) ∧ w'.cell? ⟨w.heap.size, 3, none⟩ = some (Value.int .i64 s.Depth) ∧ w'.cell? ⟨w.heap.size, 4, none⟩ = some (Value.int .i64 s.Ring) ∧ w'.cell? ⟨w.heap.size, 5, none⟩ = some (Value.int .i64 s.Inbox) ∧ w'.cell? ⟨w.heap.size, 6, none⟩ = some (Value.int .i64 s.Bound) ∧ w'.cell? ⟨w.heap.size, 7, none⟩ = some (Value.bool s.West) ∧ w'.cell? ⟨w.heap.size, 8, none⟩ = some (Value.bool s.Cast))
            (first
              | go_keep
              | exact ⟨(m9.cell hBr (by simp)).trans dx, cfg_cells (k9.drew.later m9 (by simp))⟩)
            ((go_at_call_of 11 x; refine (run_Label s x _).mono ?_; rintro e w9 ⟨rfl, m9⟩))
          all_goals go_wp2_with fail
          all_goals go_meet
          all_goals exact ⟨rfl, (Mod.refl _ _).drew.trans m9 (by simp)⟩
        case rest =>
          obtain ⟨rfl, m10⟩ := hcut
          obtain ⟨wA, rfl⟩ : ∃ wo : World, wo = wc := ⟨_, rfl⟩
          have k10 := k9.later m10 (by simp)
          have hmA := hmod.trans m10 (by simp)
          have dxA := (m10.cell (p := ⟨B, off + j, none⟩) hBr (by simp)).trans dx
          have dyA := (m10.cell (p := ⟨B, off + (j + 1), none⟩) hBr (by simp)).trans dy
          have hBA : B < wA.heap.size := Nat.lt_of_lt_of_le hBr m10.size
          clear k9 hmod dx dy hBr m10 c0 c1 c2 c3 c4 c5 c6 c7 c8
          obtain ⟨c0, c1, c2, c3, c4, c5, c6, c7, c8⟩ := cfg_cells k10
          go_upto_region 15 with fail
          go_cut [15] (fun v w' => v = .int .i64 (s.lab y) ∧ Mod (fun _ => False) wA w')
          case first =>
            go_region_held3 (fun w' => w'.cell? ⟨B, off + (j + 1), none⟩ = some (.int .i64 y) ∧ w'.cell? ⟨w.heap.size, 0, none⟩ = some (Value.int .i64 s.W) ∧ w'.cell? ⟨w.heap.size, 1, none⟩ = some (Value.int .i64 s.H) ∧ w'.cell? ⟨w.heap.size, 2, none⟩ = some (Value.int .i64 s.Lanes) ∧ w'.cell? ⟨w.heap.size, 3, none⟩ = some (Value.int .i64 s.Depth) ∧ w'.cell? ⟨w.heap.size, 4, none⟩ = some (Value.int .i64 s.Ring) ∧ w'.cell? ⟨w.heap.size, 5, none⟩ = some (Value.int .i64 s.Inbox) ∧ w'.cell? ⟨w.heap.size, 6, none⟩ = some (Value.int .i64 s.Bound) ∧ w'.cell? ⟨w.heap.size, 7, none⟩ = some (Value.bool s.West) ∧ w'.cell? ⟨w.heap.size, 8, none⟩ = some (Value.bool s.Cast))
              (first
                | go_keep
                | exact ⟨(m9.cell hBA (by simp)).trans dyA, cfg_cells (k10.drew.later m9 (by simp))⟩)
              ((go_at_call_of 11 y; refine (run_Label s y _).mono ?_; rintro e w9 ⟨rfl, m9⟩))
            all_goals go_wp2_with fail
            all_goals go_meet
            all_goals exact ⟨rfl, (Mod.refl _ _).drew.trans m9 (by simp)⟩
          case rest =>
            obtain ⟨rfl, m10⟩ := hcut
            obtain ⟨wB, rfl⟩ : ∃ wo : World, wo = wc := ⟨_, rfl⟩
            have k11 := k10.later m10 (by simp)
            have hmB := hmA.trans m10 (by simp)
            have dxB := (m10.cell (p := ⟨B, off + j, none⟩) hBA (by simp)).trans dxA
            have dyB := (m10.cell (p := ⟨B, off + (j + 1), none⟩) hBA (by simp)).trans dyA
            have hBB : B < wB.heap.size := Nat.lt_of_lt_of_le hBA m10.size
            clear k10 hmA dxA dyA hBA m10 c0 c1 c2 c3 c4 c5 c6 c7 c8
            obtain ⟨c0, c1, c2, c3, c4, c5, c6, c7, c8⟩ := cfg_cells k11
            go_upto_region 16 with fail
            go_cut [143] (fun v w' => v = .bool false ∧ Mod (fun _ => False) wB w')
            case first =>
              have hdd := HD.out
              have q1 : decide (s.lab n < s.lab t) = true := by simp only [decide_eq_true_eq, decide_eq_false_iff_not]; omega
              have q2 : decide (s.lab y ≤ s.lab x) = false := by simp only [decide_eq_true_eq, decide_eq_false_iff_not]; omega
              have q3 : decide (s.lab t < s.lab y) = false := by simp only [decide_eq_true_eq, decide_eq_false_iff_not]; omega
              have q4 : decide (s.lab t < s.lab n) = false := by simp only [decide_eq_true_eq, decide_eq_false_iff_not]; omega
              clear hdd
              refine wp_region_held_drew (S := (fun w' => w'.cell? ⟨B, off + j, none⟩ = some (.int .i64 x) ∧ w'.cell? ⟨B, off + (j + 1), none⟩ = some (.int .i64 y) ∧ w'.cell? ⟨w.heap.size, 0, none⟩ = some (Value.int .i64 s.W) ∧ w'.cell? ⟨w.heap.size, 1, none⟩ = some (Value.int .i64 s.H) ∧ w'.cell? ⟨w.heap.size, 2, none⟩ = some (Value.int .i64 s.Lanes) ∧ w'.cell? ⟨w.heap.size, 3, none⟩ = some (Value.int .i64 s.Depth) ∧ w'.cell? ⟨w.heap.size, 4, none⟩ = some (Value.int .i64 s.Ring) ∧ w'.cell? ⟨w.heap.size, 5, none⟩ = some (Value.int .i64 s.Inbox) ∧ w'.cell? ⟨w.heap.size, 6, none⟩ = some (Value.int .i64 s.Bound) ∧ w'.cell? ⟨w.heap.size, 7, none⟩ = some (Value.bool s.West) ∧ w'.cell? ⟨w.heap.size, 8, none⟩ = some (Value.bool s.Cast))) (by kernel_rfl) ?_ (fun hHeld => ?_)
              · exact ⟨dxB, dyB, cfg_cells k11.drew⟩
              refine take_run 0 (v := ?_) rfl (by kernel_rfl) (by kernel_rfl) (by kernel_rfl) (fun _ _ _ h => h) (by rfl) ?_ (by assumption) ?_
              rotate_left
              · (intro wx hSw; (try dsimp only at hSw); go_simp; try with_reducible rfl)
              try simp only [Act.put, List.setIfInBounds_toArray, List.set_cons_zero, List.set_cons_succ]
              refine take_run 1 (v := ?_) rfl (by kernel_rfl) (by kernel_rfl) (by kernel_rfl) (fun _ _ _ h => h) (by rfl) ?_ (by assumption) ?_
              rotate_left
              · (intro wx hSw; (try dsimp only at hSw); go_simp; try with_reducible rfl)
              try simp only [Act.put, List.setIfInBounds_toArray, List.set_cons_zero, List.set_cons_succ]
              refine take_run 2 (v := ?_) rfl (by kernel_rfl) (by kernel_rfl) (by kernel_rfl) (fun _ _ _ h => h) (by rfl) ?_ (by assumption) ?_
              rotate_left
              · (intro wx hSw; (try dsimp only at hSw); go_simp; try with_reducible rfl)
              try simp only [Act.put, List.setIfInBounds_toArray, List.set_cons_zero, List.set_cons_succ]
              refine take_run 3 (v := ?_) rfl (by kernel_rfl) (by kernel_rfl) (by kernel_rfl) (fun _ _ _ h => h) (by rfl) ?_ (by assumption) ?_
              rotate_left
              · (intro wx hSw; (try dsimp only at hSw); go_simp; try with_reducible rfl)
              try simp only [Act.put, List.setIfInBounds_toArray, List.set_cons_zero, List.set_cons_succ]
              refine take_run 4 (v := ?_) rfl (by kernel_rfl) (by kernel_rfl) (by kernel_rfl) (fun _ _ _ h => h) (by rfl) ?_ (by assumption) ?_
              rotate_left
              · (intro wx hSw; (try dsimp only at hSw); go_simp; try with_reducible rfl)
              try simp only [Act.put, List.setIfInBounds_toArray, List.set_cons_zero, List.set_cons_succ]
              refine take_run 5 (v := ?_) rfl (by kernel_rfl) (by kernel_rfl) (by kernel_rfl) (fun _ _ _ h => h) (by rfl) ?_ (by assumption) ?_
              rotate_left
              · (intro wx hSw; (try dsimp only at hSw); go_simp; try with_reducible rfl)
              try simp only [Act.put, List.setIfInBounds_toArray, List.set_cons_zero, List.set_cons_succ]
              refine take_run 6 (v := ?_) rfl (by kernel_rfl) (by kernel_rfl) (by kernel_rfl) (fun _ _ _ h => h) (by rfl) ?_ (by assumption) ?_
              rotate_left
              · (intro wx hSw; (try dsimp only at hSw); go_simp; try with_reducible rfl)
              try simp only [Act.put, List.setIfInBounds_toArray, List.set_cons_zero, List.set_cons_succ]
              refine take_run 7 (v := ?_) rfl (by kernel_rfl) (by kernel_rfl) (by kernel_rfl) (fun _ _ _ h => h) (by rfl) ?_ (by assumption) ?_
              rotate_left
              · (intro wx hSw; (try dsimp only at hSw); go_simp; try with_reducible rfl)
              try simp only [Act.put, List.setIfInBounds_toArray, List.set_cons_zero, List.set_cons_succ]
              refine take_run 8 (v := ?_) rfl (by kernel_rfl) (by kernel_rfl) (by kernel_rfl) (fun _ _ _ h => h) (by rfl) ?_ (by assumption) ?_
              rotate_left
              · (intro wx hSw; (try dsimp only at hSw); go_simp; try with_reducible rfl)
              try simp only [Act.put, List.setIfInBounds_toArray, List.set_cons_zero, List.set_cons_succ]
              refine take_run 9 (v := ?_) rfl (by kernel_rfl) (by kernel_rfl) (by kernel_rfl) (fun _ _ _ h => h) (by rfl) ?_ (by assumption) ?_
              rotate_left
              · (intro wx hSw; (try dsimp only at hSw); go_simp; try with_reducible rfl)
              try simp only [Act.put, List.setIfInBounds_toArray, List.set_cons_zero, List.set_cons_succ]
              refine take_call 10 rfl (by kernel_rfl) (fun K hK => ?_)
              go_simp
              refine (run_Far s x y _).mono ?_
              rw [HF.out]
              rintro e w9 ⟨rfl, m9⟩
              refine hK.out _ _ ?_ (fun hHeld2 => ?_)
              · exact ⟨(m9.cell hBB (by simp)).trans dxB, (m9.cell hBB (by simp)).trans dyB, cfg_cells (k11.drew.later m9 (by simp))⟩
              clear hK K
              try simp only [Act.put, List.setIfInBounds_toArray, List.set_cons_zero, List.set_cons_succ]
              clear hHeld
              refine take_run 11 (v := ?_) rfl (by kernel_rfl) (by kernel_rfl) (by kernel_rfl) (fun _ _ _ h => h) (by rfl) ?_ (by assumption) ?_
              rotate_left
              · (intro wx hSw; (try dsimp only at hSw); go_simp; try with_reducible rfl)
              try simp only [Act.put, List.setIfInBounds_toArray, List.set_cons_zero, List.set_cons_succ]
              refine take_run 12 (v := ?_) rfl (by kernel_rfl) (by kernel_rfl) (by kernel_rfl) (fun _ _ _ h => h) (by rfl) ?_ (by assumption) ?_
              rotate_left
              · (intro wx hSw; (try dsimp only at hSw); go_simp; try with_reducible rfl)
              try simp only [Act.put, List.setIfInBounds_toArray, List.set_cons_zero, List.set_cons_succ]
              refine take_run 13 (v := ?_) rfl (by kernel_rfl) (by kernel_rfl) (by kernel_rfl) (fun _ _ _ h => h) (by rfl) ?_ (by assumption) ?_
              rotate_left
              · (intro wx hSw; (try dsimp only at hSw); go_simp; try with_reducible rfl)
              try simp only [Act.put, List.setIfInBounds_toArray, List.set_cons_zero, List.set_cons_succ]
              refine take_run 14 (v := ?_) rfl (by kernel_rfl) (by kernel_rfl) (by kernel_rfl) (fun _ _ _ h => h) (by rfl) ?_ (by assumption) ?_
              rotate_left
              · (intro wx hSw; (try dsimp only at hSw); go_simp; try with_reducible rfl)
              try simp only [Act.put, List.setIfInBounds_toArray, List.set_cons_zero, List.set_cons_succ]
              refine take_run 15 (v := ?_) rfl (by kernel_rfl) (by kernel_rfl) (by kernel_rfl) (fun _ _ _ h => h) (by rfl) ?_ (by assumption) ?_
              rotate_left
              · (intro wx hSw; (try dsimp only at hSw); go_simp; try with_reducible rfl)
              try simp only [Act.put, List.setIfInBounds_toArray, List.set_cons_zero, List.set_cons_succ]
              refine take_run 16 (v := ?_) rfl (by kernel_rfl) (by kernel_rfl) (by kernel_rfl) (fun _ _ _ h => h) (by rfl) ?_ (by assumption) ?_
              rotate_left
              · (intro wx hSw; (try dsimp only at hSw); go_simp; try with_reducible rfl)
              try simp only [Act.put, List.setIfInBounds_toArray, List.set_cons_zero, List.set_cons_succ]
              refine take_run 17 (v := ?_) rfl (by kernel_rfl) (by kernel_rfl) (by kernel_rfl) (fun _ _ _ h => h) (by rfl) ?_ (by assumption) ?_
              rotate_left
              · (intro wx hSw; (try dsimp only at hSw); go_simp; try with_reducible rfl)
              try simp only [Act.put, List.setIfInBounds_toArray, List.set_cons_zero, List.set_cons_succ]
              refine take_run 18 (v := ?_) rfl (by kernel_rfl) (by kernel_rfl) (by kernel_rfl) (fun _ _ _ h => h) (by rfl) ?_ (by assumption) ?_
              rotate_left
              · (intro wx hSw; (try dsimp only at hSw); go_simp; try with_reducible rfl)
              try simp only [Act.put, List.setIfInBounds_toArray, List.set_cons_zero, List.set_cons_succ]
              refine take_run 19 (v := ?_) rfl (by kernel_rfl) (by kernel_rfl) (by kernel_rfl) (fun _ _ _ h => h) (by rfl) ?_ (by assumption) ?_
              rotate_left
              · (intro wx hSw; (try dsimp only at hSw); go_simp; try with_reducible rfl)
              try simp only [Act.put, List.setIfInBounds_toArray, List.set_cons_zero, List.set_cons_succ]
              refine take_run 20 (v := ?_) rfl (by kernel_rfl) (by kernel_rfl) (by kernel_rfl) (fun _ _ _ h => h) (by rfl) ?_ (by assumption) ?_
              rotate_left
              · (intro wx hSw; (try dsimp only at hSw); go_simp; try with_reducible rfl)
              try simp only [Act.put, List.setIfInBounds_toArray, List.set_cons_zero, List.set_cons_succ]
              refine take_run 21 (v := ?_) rfl (by kernel_rfl) (by kernel_rfl) (by kernel_rfl) (fun _ _ _ h => h) (by rfl) ?_ (by assumption) ?_
              rotate_left
              · (intro wx hSw; (try dsimp only at hSw); go_simp; try with_reducible rfl)
              try simp only [Act.put, List.setIfInBounds_toArray, List.set_cons_zero, List.set_cons_succ]
              refine take_run 22 (v := ?_) rfl (by kernel_rfl) (by kernel_rfl) (by kernel_rfl) (fun _ _ _ h => h) (by rfl) ?_ (by assumption) ?_
              rotate_left
              · (intro wx hSw; (try dsimp only at hSw); go_simp; try with_reducible rfl)
              try simp only [Act.put, List.setIfInBounds_toArray, List.set_cons_zero, List.set_cons_succ]
              refine take_run 23 (v := ?_) rfl (by kernel_rfl) (by kernel_rfl) (by kernel_rfl) (fun _ _ _ h => h) (by rfl) ?_ (by assumption) ?_
              rotate_left
              · (intro wx hSw; (try dsimp only at hSw); go_simp; try with_reducible rfl)
              try simp only [Act.put, List.setIfInBounds_toArray, List.set_cons_zero, List.set_cons_succ]
              refine take_run 24 (v := ?_) rfl (by kernel_rfl) (by kernel_rfl) (by kernel_rfl) (fun _ _ _ h => h) (by rfl) ?_ (by assumption) ?_
              rotate_left
              · (intro wx hSw; (try dsimp only at hSw); go_simp; try with_reducible rfl)
              try simp only [Act.put, List.setIfInBounds_toArray, List.set_cons_zero, List.set_cons_succ]
              refine take_run 25 (v := ?_) rfl (by kernel_rfl) (by kernel_rfl) (by kernel_rfl) (fun _ _ _ h => h) (by rfl) ?_ (by assumption) ?_
              rotate_left
              · (intro wx hSw; (try dsimp only at hSw); go_simp; try with_reducible rfl)
              try simp only [Act.put, List.setIfInBounds_toArray, List.set_cons_zero, List.set_cons_succ]
              refine take_run 26 (v := ?_) rfl (by kernel_rfl) (by kernel_rfl) (by kernel_rfl) (fun _ _ _ h => h) (by rfl) ?_ (by assumption) ?_
              rotate_left
              · (intro wx hSw; (try dsimp only at hSw); go_simp; try with_reducible rfl)
              try simp only [Act.put, List.setIfInBounds_toArray, List.set_cons_zero, List.set_cons_succ]
              refine take_run 27 (v := ?_) rfl (by kernel_rfl) (by kernel_rfl) (by kernel_rfl) (fun _ _ _ h => h) (by rfl) ?_ (by assumption) ?_
              rotate_left
              · (intro wx hSw; (try dsimp only at hSw); go_simp; try with_reducible rfl)
              try simp only [Act.put, List.setIfInBounds_toArray, List.set_cons_zero, List.set_cons_succ]
              refine take_run 28 (v := ?_) rfl (by kernel_rfl) (by kernel_rfl) (by kernel_rfl) (fun _ _ _ h => h) (by rfl) ?_ (by assumption) ?_
              rotate_left
              · (intro wx hSw; (try dsimp only at hSw); go_simp; try with_reducible rfl)
              try simp only [Act.put, List.setIfInBounds_toArray, List.set_cons_zero, List.set_cons_succ]
              refine take_run 29 (v := ?_) rfl (by kernel_rfl) (by kernel_rfl) (by kernel_rfl) (fun _ _ _ h => h) (by rfl) ?_ (by assumption) ?_
              rotate_left
              · (intro wx hSw; (try dsimp only at hSw); go_simp; try with_reducible rfl)
              try simp only [Act.put, List.setIfInBounds_toArray, List.set_cons_zero, List.set_cons_succ]
              refine take_run 30 (v := ?_) rfl (by kernel_rfl) (by kernel_rfl) (by kernel_rfl) (fun _ _ _ h => h) (by rfl) ?_ (by assumption) ?_
              rotate_left
              · (intro wx hSw; (try dsimp only at hSw); go_simp; try with_reducible rfl)
              try simp only [Act.put, List.setIfInBounds_toArray, List.set_cons_zero, List.set_cons_succ]
              refine take_run 31 (v := ?_) rfl (by kernel_rfl) (by kernel_rfl) (by kernel_rfl) (fun _ _ _ h => h) (by rfl) ?_ (by assumption) ?_
              rotate_left
              · (intro wx hSw; (try dsimp only at hSw); go_simp; try with_reducible rfl)
              try simp only [Act.put, List.setIfInBounds_toArray, List.set_cons_zero, List.set_cons_succ]
              refine take_skip 32 rfl (by kernel_rfl) (by kernel_rfl) (by kernel_rfl) (fun _ _ _ h => h) (by rfl) (by assumption) ?_
              try simp only [Act.put, List.setIfInBounds_toArray, List.set_cons_zero, List.set_cons_succ]
              refine take_skip 33 rfl (by kernel_rfl) (by kernel_rfl) (by kernel_rfl) (fun _ _ _ h => h) (by rfl) (by assumption) ?_
              try simp only [Act.put, List.setIfInBounds_toArray, List.set_cons_zero, List.set_cons_succ]
              refine take_skip 34 rfl (by kernel_rfl) (by kernel_rfl) (by kernel_rfl) (fun _ _ _ h => h) (by rfl) (by assumption) ?_
              try simp only [Act.put, List.setIfInBounds_toArray, List.set_cons_zero, List.set_cons_succ]
              refine take_skip 35 rfl (by kernel_rfl) (by kernel_rfl) (by kernel_rfl) (fun _ _ _ h => h) (by rfl) (by assumption) ?_
              try simp only [Act.put, List.setIfInBounds_toArray, List.set_cons_zero, List.set_cons_succ]
              refine take_skip 36 rfl (by kernel_rfl) (by kernel_rfl) (by kernel_rfl) (fun _ _ _ h => h) (by rfl) (by assumption) ?_
              try simp only [Act.put, List.setIfInBounds_toArray, List.set_cons_zero, List.set_cons_succ]
              refine take_skip 37 rfl (by kernel_rfl) (by kernel_rfl) (by kernel_rfl) (fun _ _ _ h => h) (by rfl) (by assumption) ?_
              try simp only [Act.put, List.setIfInBounds_toArray, List.set_cons_zero, List.set_cons_succ]
              refine take_skip 38 rfl (by kernel_rfl) (by kernel_rfl) (by kernel_rfl) (fun _ _ _ h => h) (by rfl) (by assumption) ?_
              try simp only [Act.put, List.setIfInBounds_toArray, List.set_cons_zero, List.set_cons_succ]
              refine take_skip 39 rfl (by kernel_rfl) (by kernel_rfl) (by kernel_rfl) (fun _ _ _ h => h) (by rfl) (by assumption) ?_
              try simp only [Act.put, List.setIfInBounds_toArray, List.set_cons_zero, List.set_cons_succ]
              refine take_run 40 (v := ?_) rfl (by kernel_rfl) (by kernel_rfl) (by kernel_rfl) (fun _ _ _ h => h) (by rfl) ?_ (by assumption) ?_
              rotate_left
              · (intro wx hSw; (try dsimp only at hSw); go_simp; try with_reducible rfl)
              try simp only [Act.put, List.setIfInBounds_toArray, List.set_cons_zero, List.set_cons_succ]
              refine take_run 41 (v := ?_) rfl (by kernel_rfl) (by kernel_rfl) (by kernel_rfl) (fun _ _ _ h => h) (by rfl) ?_ (by assumption) ?_
              rotate_left
              · (intro wx hSw; (try dsimp only at hSw); go_simp; try with_reducible rfl)
              try simp only [Act.put, List.setIfInBounds_toArray, List.set_cons_zero, List.set_cons_succ]
              refine wpAnyH_done (by kernel_rfl) ?_ _
              all_goals go_wp2_with fail
              all_goals go_meet
              all_goals exact ⟨rfl, (Mod.refl _ _).drew.trans m9 (by simp)⟩
            case rest =>
              obtain ⟨rfl, m10⟩ := hcut
              have hmC := hmB.trans m10 (by simp)
              go_wp2
              go_roundw
              case rel => exact ⟨j + 1, by omega, by go_num, hmC⟩
              case measure => simp [intOf]; omega
      · go_wp2
        go_ret
        exact ⟨rfl, (mm8.trans hmod (by simp)).below⟩

  · have hmo : ¬ s.lab n - s.lab t < s.lab t - s.lab n := by omega
    have hLL : (L : Int) ≤ s.lab n - s.lab t := by omega
    go_wp2
    go_loopw [12] (fun i wr => ∃ j : Nat, j ≤ L ∧ i = .int .i64 ((j : Int) + 1) ∧ Mod (fun _ => False) w8 wr) (fun i _ => L + 1 - (intOf i).toNat)
    case atStart => exact ⟨0, by omega, by simp, Mod.refl _ _⟩
    case round =>
      obtain ⟨j, hj, rfl, hmod⟩ := hrel
      by_cases hlt : j < L
      · obtain ⟨x, hx⟩ : ∃ x, (n :: s.leg n t)[j]? = some x := ⟨_, List.getElem?_eq_getElem (by have := HL.out; simp; omega)⟩
        obtain ⟨y, hy⟩ : ∃ y, (n :: s.leg n t)[j + 1]? = some y := ⟨_, List.getElem?_eq_getElem (by have := HL.out; simp; omega)⟩
        have P := HPRS.out j x y hx hy
        obtain ⟨B1, o1, e1, -, dx⟩ := HR.out.at j (by omega)
        obtain ⟨B2, o2, e2, -, dy⟩ := HR.out.at (j + 1) (by omega)
        simp only [Option.some.injEq, Addr.mk.injEq, and_true] at e1 e2
        rw [← e1.1, ← e1.2] at dx
        rw [← e2.1, ← e2.2] at dy
        have vx : ((n :: s.leg n t).map (Value.int .i64)).getD j undef = .int .i64 x := by simp only [List.getD_eq_getElem?_getD, List.getElem?_map, hx]; rfl
        have vy : ((n :: s.leg n t).map (Value.int .i64)).getD (j + 1) undef = .int .i64 y := by simp only [List.getD_eq_getElem?_getD, List.getElem?_map, hy]; rfl
        rw [vx] at dx
        rw [vy] at dy
        have dx := (hmod.cell (p := ⟨B, off + j, none⟩) hB (by simp)).trans dx
        have dy := (hmod.cell (p := ⟨B, off + (j + 1), none⟩) hB (by simp)).trans dy
        have hBr : B < wr.heap.size := Nat.lt_of_lt_of_le hB hmod.size
        have k9 := k8.later hmod (by simp)
        have hdir : (s.lab n < s.lab t ∧ s.lab x < s.lab y ∧ s.lab y ≤ s.lab t) ∨ (s.lab t < s.lab n ∧ s.lab y < s.lab x ∧ s.lab t ≤ s.lab y) := by
          rcases Int.lt_trichotomy (s.lab n) (s.lab t) with h | h | h
          · exact Or.inl ⟨h, P.up h⟩
          · exfalso
            have := HL.out
            rw [Cfg.lab_inj hn ht h, Cfg.leg_self] at this
            simp at this
            omega
          · exact Or.inr ⟨h, P.down h⟩
        have hpx := (Cfg.p_yes P.isx).2.2
        have hpy := (Cfg.p_yes P.isy).2.2
        have hfar := P.far
        have HPX := Lib.hid hpx
        have HPY := Lib.hid hpy
        have HF := Lib.hid hfar
        have HD := Lib.hid hdir
        clear vx vy hx hy P e1 e2 hpx hpy hfar hdir d0 dL k8 c0 c1 c2 c3 c4 c5 c6 c7 c8
        obtain ⟨c0, c1, c2, c3, c4, c5, c6, c7, c8⟩ := cfg_cells k9
        have u1 : IntKind.i64.wrap ((j : Int) + 1 - 1) = (j : Int) := by rw [Int.add_sub_cancel]; exact IntWalk.i64_in _ (by omega)
        have u2 : IntKind.i64.wrap (j : Int) = (j : Int) := IntWalk.i64_in _ (by omega)
        have u3 : IntKind.i64.wrap ((j : Int) + 1) = (j : Int) + 1 := IntWalk.i64_in _ (by omega)
        have b1 : (0 : Int) ≤ (j : Int) + 1 := by omega
        have b2 : (j : Int) + 1 < (L : Int) + 1 := by omega
        have b3 : (0 : Int) ≤ (j : Int) := by omega
        have b4 : (j : Int) < (L : Int) + 1 := by omega
        go_wp2
        go_upto_region 14 with fail
        go_cut [13] (fun v w' => v = .int .i64 (s.lab x) ∧ Mod (fun _ => False) wr w')
        case first =>
          go_region_held3 (fun w' => w'.cell? ⟨B, off + j, none⟩ = some (.int .i64 x) ∧ w'.cell? ⟨w.heap.size, 0, none⟩ = some (Value.int .i64 s.W) ∧ w'.cell? ⟨w.heap.size, 1, none⟩ = some (Value.int .i64 s.H) ∧ w'.cell? ⟨w.heap.size, 2, none⟩ = some (Value.int .i64 s.Lanes) ∧ w'.cell? ⟨w.heap.size, 3, none⟩ = some (Value.int .i64 s.Depth) ∧ w'.cell? ⟨w.heap.size, 4, none⟩ = some (Value.int .i64 s.Ring) ∧ w'.cell? ⟨w.heap.size, 5, none⟩ = some (Value.int .i64 s.Inbox) ∧ w'.cell? ⟨w.heap.size, 6, none⟩ = some (Value.int .i64 s.Bound) ∧ w'.cell? ⟨w.heap.size, 7, none⟩ = some (Value.bool s.West) ∧ w'.cell? ⟨w.heap.size, 8, none⟩ = some (Value.bool s.Cast))
            (first
              | go_keep
              | exact ⟨(m9.cell hBr (by simp)).trans dx, cfg_cells (k9.drew.later m9 (by simp))⟩)
            ((go_at_call_of 11 x; refine (run_Label s x _).mono ?_; rintro e w9 ⟨rfl, m9⟩))
          all_goals go_wp2_with fail
          all_goals go_meet
          all_goals exact ⟨rfl, (Mod.refl _ _).drew.trans m9 (by simp)⟩
        case rest =>
          obtain ⟨rfl, m10⟩ := hcut
          obtain ⟨wA, rfl⟩ : ∃ wo : World, wo = wc := ⟨_, rfl⟩
          have k10 := k9.later m10 (by simp)
          have hmA := hmod.trans m10 (by simp)
          have dxA := (m10.cell (p := ⟨B, off + j, none⟩) hBr (by simp)).trans dx
          have dyA := (m10.cell (p := ⟨B, off + (j + 1), none⟩) hBr (by simp)).trans dy
          have hBA : B < wA.heap.size := Nat.lt_of_lt_of_le hBr m10.size
          clear k9 hmod dx dy hBr m10 c0 c1 c2 c3 c4 c5 c6 c7 c8
          obtain ⟨c0, c1, c2, c3, c4, c5, c6, c7, c8⟩ := cfg_cells k10
          go_upto_region 15 with fail
          go_cut [15] (fun v w' => v = .int .i64 (s.lab y) ∧ Mod (fun _ => False) wA w')
          case first =>
            go_region_held3 (fun w' => w'.cell? ⟨B, off + (j + 1), none⟩ = some (.int .i64 y) ∧ w'.cell? ⟨w.heap.size, 0, none⟩ = some (Value.int .i64 s.W) ∧ w'.cell? ⟨w.heap.size, 1, none⟩ = some (Value.int .i64 s.H) ∧ w'.cell? ⟨w.heap.size, 2, none⟩ = some (Value.int .i64 s.Lanes) ∧ w'.cell? ⟨w.heap.size, 3, none⟩ = some (Value.int .i64 s.Depth) ∧ w'.cell? ⟨w.heap.size, 4, none⟩ = some (Value.int .i64 s.Ring) ∧ w'.cell? ⟨w.heap.size, 5, none⟩ = some (Value.int .i64 s.Inbox) ∧ w'.cell? ⟨w.heap.size, 6, none⟩ = some (Value.int .i64 s.Bound) ∧ w'.cell? ⟨w.heap.size, 7, none⟩ = some (Value.bool s.West) ∧ w'.cell? ⟨w.heap.size, 8, none⟩ = some (Value.bool s.Cast))
              (first
                | go_keep
                | exact ⟨(m9.cell hBA (by simp)).trans dyA, cfg_cells (k10.drew.later m9 (by simp))⟩)
              ((go_at_call_of 11 y; refine (run_Label s y _).mono ?_; rintro e w9 ⟨rfl, m9⟩))
            all_goals go_wp2_with fail
            all_goals go_meet
            all_goals exact ⟨rfl, (Mod.refl _ _).drew.trans m9 (by simp)⟩
          case rest =>
            obtain ⟨rfl, m10⟩ := hcut
            obtain ⟨wB, rfl⟩ : ∃ wo : World, wo = wc := ⟨_, rfl⟩
            have k11 := k10.later m10 (by simp)
            have hmB := hmA.trans m10 (by simp)
            have dxB := (m10.cell (p := ⟨B, off + j, none⟩) hBA (by simp)).trans dxA
            have dyB := (m10.cell (p := ⟨B, off + (j + 1), none⟩) hBA (by simp)).trans dyA
            have hBB : B < wB.heap.size := Nat.lt_of_lt_of_le hBA m10.size
            clear k10 hmA dxA dyA hBA m10 c0 c1 c2 c3 c4 c5 c6 c7 c8
            obtain ⟨c0, c1, c2, c3, c4, c5, c6, c7, c8⟩ := cfg_cells k11
            go_upto_region 16 with fail
            go_cut [143] (fun v w' => v = .bool false ∧ Mod (fun _ => False) wB w')
            case first =>
              have hdd := HD.out
              have q1 : decide (s.lab n < s.lab t) = false := by simp only [decide_eq_true_eq, decide_eq_false_iff_not]; omega
              have q2 : decide (s.lab t < s.lab n) = true := by simp only [decide_eq_true_eq, decide_eq_false_iff_not]; omega
              have q3 : decide (s.lab x ≤ s.lab y) = false := by simp only [decide_eq_true_eq, decide_eq_false_iff_not]; omega
              have q4 : decide (s.lab y < s.lab t) = false := by simp only [decide_eq_true_eq, decide_eq_false_iff_not]; omega
              clear hdd
              refine wp_region_held_drew (S := (fun w' => w'.cell? ⟨B, off + j, none⟩ = some (.int .i64 x) ∧ w'.cell? ⟨B, off + (j + 1), none⟩ = some (.int .i64 y) ∧ w'.cell? ⟨w.heap.size, 0, none⟩ = some (Value.int .i64 s.W) ∧ w'.cell? ⟨w.heap.size, 1, none⟩ = some (Value.int .i64 s.H) ∧ w'.cell? ⟨w.heap.size, 2, none⟩ = some (Value.int .i64 s.Lanes) ∧ w'.cell? ⟨w.heap.size, 3, none⟩ = some (Value.int .i64 s.Depth) ∧ w'.cell? ⟨w.heap.size, 4, none⟩ = some (Value.int .i64 s.Ring) ∧ w'.cell? ⟨w.heap.size, 5, none⟩ = some (Value.int .i64 s.Inbox) ∧ w'.cell? ⟨w.heap.size, 6, none⟩ = some (Value.int .i64 s.Bound) ∧ w'.cell? ⟨w.heap.size, 7, none⟩ = some (Value.bool s.West) ∧ w'.cell? ⟨w.heap.size, 8, none⟩ = some (Value.bool s.Cast))) (by kernel_rfl) ?_ (fun hHeld => ?_)
              · exact ⟨dxB, dyB, cfg_cells k11.drew⟩
              refine take_run 0 (v := ?_) rfl (by kernel_rfl) (by kernel_rfl) (by kernel_rfl) (fun _ _ _ h => h) (by rfl) ?_ (by assumption) ?_
              rotate_left
              · (intro wx hSw; (try dsimp only at hSw); go_simp; try with_reducible rfl)
              try simp only [Act.put, List.setIfInBounds_toArray, List.set_cons_zero, List.set_cons_succ]
              refine take_run 1 (v := ?_) rfl (by kernel_rfl) (by kernel_rfl) (by kernel_rfl) (fun _ _ _ h => h) (by rfl) ?_ (by assumption) ?_
              rotate_left
              · (intro wx hSw; (try dsimp only at hSw); go_simp; try with_reducible rfl)
              try simp only [Act.put, List.setIfInBounds_toArray, List.set_cons_zero, List.set_cons_succ]
              refine take_run 2 (v := ?_) rfl (by kernel_rfl) (by kernel_rfl) (by kernel_rfl) (fun _ _ _ h => h) (by rfl) ?_ (by assumption) ?_
              rotate_left
              · (intro wx hSw; (try dsimp only at hSw); go_simp; try with_reducible rfl)
              try simp only [Act.put, List.setIfInBounds_toArray, List.set_cons_zero, List.set_cons_succ]
              refine take_run 3 (v := ?_) rfl (by kernel_rfl) (by kernel_rfl) (by kernel_rfl) (fun _ _ _ h => h) (by rfl) ?_ (by assumption) ?_
              rotate_left
              · (intro wx hSw; (try dsimp only at hSw); go_simp; try with_reducible rfl)
              try simp only [Act.put, List.setIfInBounds_toArray, List.set_cons_zero, List.set_cons_succ]
              refine take_run 4 (v := ?_) rfl (by kernel_rfl) (by kernel_rfl) (by kernel_rfl) (fun _ _ _ h => h) (by rfl) ?_ (by assumption) ?_
              rotate_left
              · (intro wx hSw; (try dsimp only at hSw); go_simp; try with_reducible rfl)
              try simp only [Act.put, List.setIfInBounds_toArray, List.set_cons_zero, List.set_cons_succ]
              refine take_run 5 (v := ?_) rfl (by kernel_rfl) (by kernel_rfl) (by kernel_rfl) (fun _ _ _ h => h) (by rfl) ?_ (by assumption) ?_
              rotate_left
              · (intro wx hSw; (try dsimp only at hSw); go_simp; try with_reducible rfl)
              try simp only [Act.put, List.setIfInBounds_toArray, List.set_cons_zero, List.set_cons_succ]
              refine take_run 6 (v := ?_) rfl (by kernel_rfl) (by kernel_rfl) (by kernel_rfl) (fun _ _ _ h => h) (by rfl) ?_ (by assumption) ?_
              rotate_left
              · (intro wx hSw; (try dsimp only at hSw); go_simp; try with_reducible rfl)
              try simp only [Act.put, List.setIfInBounds_toArray, List.set_cons_zero, List.set_cons_succ]
              refine take_run 7 (v := ?_) rfl (by kernel_rfl) (by kernel_rfl) (by kernel_rfl) (fun _ _ _ h => h) (by rfl) ?_ (by assumption) ?_
              rotate_left
              · (intro wx hSw; (try dsimp only at hSw); go_simp; try with_reducible rfl)
              try simp only [Act.put, List.setIfInBounds_toArray, List.set_cons_zero, List.set_cons_succ]
              refine take_run 8 (v := ?_) rfl (by kernel_rfl) (by kernel_rfl) (by kernel_rfl) (fun _ _ _ h => h) (by rfl) ?_ (by assumption) ?_
              rotate_left
              · (intro wx hSw; (try dsimp only at hSw); go_simp; try with_reducible rfl)
              try simp only [Act.put, List.setIfInBounds_toArray, List.set_cons_zero, List.set_cons_succ]
              refine take_run 9 (v := ?_) rfl (by kernel_rfl) (by kernel_rfl) (by kernel_rfl) (fun _ _ _ h => h) (by rfl) ?_ (by assumption) ?_
              rotate_left
              · (intro wx hSw; (try dsimp only at hSw); go_simp; try with_reducible rfl)
              try simp only [Act.put, List.setIfInBounds_toArray, List.set_cons_zero, List.set_cons_succ]
              refine take_call 10 rfl (by kernel_rfl) (fun K hK => ?_)
              go_simp
              refine (run_Far s x y _).mono ?_
              rw [HF.out]
              rintro e w9 ⟨rfl, m9⟩
              refine hK.out _ _ ?_ (fun hHeld2 => ?_)
              · exact ⟨(m9.cell hBB (by simp)).trans dxB, (m9.cell hBB (by simp)).trans dyB, cfg_cells (k11.drew.later m9 (by simp))⟩
              clear hK K
              try simp only [Act.put, List.setIfInBounds_toArray, List.set_cons_zero, List.set_cons_succ]
              clear hHeld
              refine take_run 11 (v := ?_) rfl (by kernel_rfl) (by kernel_rfl) (by kernel_rfl) (fun _ _ _ h => h) (by rfl) ?_ (by assumption) ?_
              rotate_left
              · (intro wx hSw; (try dsimp only at hSw); go_simp; try with_reducible rfl)
              try simp only [Act.put, List.setIfInBounds_toArray, List.set_cons_zero, List.set_cons_succ]
              refine take_run 12 (v := ?_) rfl (by kernel_rfl) (by kernel_rfl) (by kernel_rfl) (fun _ _ _ h => h) (by rfl) ?_ (by assumption) ?_
              rotate_left
              · (intro wx hSw; (try dsimp only at hSw); go_simp; try with_reducible rfl)
              try simp only [Act.put, List.setIfInBounds_toArray, List.set_cons_zero, List.set_cons_succ]
              refine take_run 13 (v := ?_) rfl (by kernel_rfl) (by kernel_rfl) (by kernel_rfl) (fun _ _ _ h => h) (by rfl) ?_ (by assumption) ?_
              rotate_left
              · (intro wx hSw; (try dsimp only at hSw); go_simp; try with_reducible rfl)
              try simp only [Act.put, List.setIfInBounds_toArray, List.set_cons_zero, List.set_cons_succ]
              refine take_run 14 (v := ?_) rfl (by kernel_rfl) (by kernel_rfl) (by kernel_rfl) (fun _ _ _ h => h) (by rfl) ?_ (by assumption) ?_
              rotate_left
              · (intro wx hSw; (try dsimp only at hSw); go_simp; try with_reducible rfl)
              try simp only [Act.put, List.setIfInBounds_toArray, List.set_cons_zero, List.set_cons_succ]
              refine take_run 15 (v := ?_) rfl (by kernel_rfl) (by kernel_rfl) (by kernel_rfl) (fun _ _ _ h => h) (by rfl) ?_ (by assumption) ?_
              rotate_left
              · (intro wx hSw; (try dsimp only at hSw); go_simp; try with_reducible rfl)
              try simp only [Act.put, List.setIfInBounds_toArray, List.set_cons_zero, List.set_cons_succ]
              refine take_run 16 (v := ?_) rfl (by kernel_rfl) (by kernel_rfl) (by kernel_rfl) (fun _ _ _ h => h) (by rfl) ?_ (by assumption) ?_
              rotate_left
              · (intro wx hSw; (try dsimp only at hSw); go_simp; try with_reducible rfl)
              try simp only [Act.put, List.setIfInBounds_toArray, List.set_cons_zero, List.set_cons_succ]
              refine take_skip 17 rfl (by kernel_rfl) (by kernel_rfl) (by kernel_rfl) (fun _ _ _ h => h) (by rfl) (by assumption) ?_
              try simp only [Act.put, List.setIfInBounds_toArray, List.set_cons_zero, List.set_cons_succ]
              refine take_skip 18 rfl (by kernel_rfl) (by kernel_rfl) (by kernel_rfl) (fun _ _ _ h => h) (by rfl) (by assumption) ?_
              try simp only [Act.put, List.setIfInBounds_toArray, List.set_cons_zero, List.set_cons_succ]
              refine take_skip 19 rfl (by kernel_rfl) (by kernel_rfl) (by kernel_rfl) (fun _ _ _ h => h) (by rfl) (by assumption) ?_
              try simp only [Act.put, List.setIfInBounds_toArray, List.set_cons_zero, List.set_cons_succ]
              refine take_skip 20 rfl (by kernel_rfl) (by kernel_rfl) (by kernel_rfl) (fun _ _ _ h => h) (by rfl) (by assumption) ?_
              try simp only [Act.put, List.setIfInBounds_toArray, List.set_cons_zero, List.set_cons_succ]
              refine take_skip 21 rfl (by kernel_rfl) (by kernel_rfl) (by kernel_rfl) (fun _ _ _ h => h) (by rfl) (by assumption) ?_
              try simp only [Act.put, List.setIfInBounds_toArray, List.set_cons_zero, List.set_cons_succ]
              refine take_skip 22 rfl (by kernel_rfl) (by kernel_rfl) (by kernel_rfl) (fun _ _ _ h => h) (by rfl) (by assumption) ?_
              try simp only [Act.put, List.setIfInBounds_toArray, List.set_cons_zero, List.set_cons_succ]
              refine take_skip 23 rfl (by kernel_rfl) (by kernel_rfl) (by kernel_rfl) (fun _ _ _ h => h) (by rfl) (by assumption) ?_
              try simp only [Act.put, List.setIfInBounds_toArray, List.set_cons_zero, List.set_cons_succ]
              refine take_skip 24 rfl (by kernel_rfl) (by kernel_rfl) (by kernel_rfl) (fun _ _ _ h => h) (by rfl) (by assumption) ?_
              try simp only [Act.put, List.setIfInBounds_toArray, List.set_cons_zero, List.set_cons_succ]
              refine take_run 25 (v := ?_) rfl (by kernel_rfl) (by kernel_rfl) (by kernel_rfl) (fun _ _ _ h => h) (by rfl) ?_ (by assumption) ?_
              rotate_left
              · (intro wx hSw; (try dsimp only at hSw); go_simp; try with_reducible rfl)
              try simp only [Act.put, List.setIfInBounds_toArray, List.set_cons_zero, List.set_cons_succ]
              refine take_run 26 (v := ?_) rfl (by kernel_rfl) (by kernel_rfl) (by kernel_rfl) (fun _ _ _ h => h) (by rfl) ?_ (by assumption) ?_
              rotate_left
              · (intro wx hSw; (try dsimp only at hSw); go_simp; try with_reducible rfl)
              try simp only [Act.put, List.setIfInBounds_toArray, List.set_cons_zero, List.set_cons_succ]
              refine take_run 27 (v := ?_) rfl (by kernel_rfl) (by kernel_rfl) (by kernel_rfl) (fun _ _ _ h => h) (by rfl) ?_ (by assumption) ?_
              rotate_left
              · (intro wx hSw; (try dsimp only at hSw); go_simp; try with_reducible rfl)
              try simp only [Act.put, List.setIfInBounds_toArray, List.set_cons_zero, List.set_cons_succ]
              refine take_run 28 (v := ?_) rfl (by kernel_rfl) (by kernel_rfl) (by kernel_rfl) (fun _ _ _ h => h) (by rfl) ?_ (by assumption) ?_
              rotate_left
              · (intro wx hSw; (try dsimp only at hSw); go_simp; try with_reducible rfl)
              try simp only [Act.put, List.setIfInBounds_toArray, List.set_cons_zero, List.set_cons_succ]
              refine take_run 29 (v := ?_) rfl (by kernel_rfl) (by kernel_rfl) (by kernel_rfl) (fun _ _ _ h => h) (by rfl) ?_ (by assumption) ?_
              rotate_left
              · (intro wx hSw; (try dsimp only at hSw); go_simp; try with_reducible rfl)
              try simp only [Act.put, List.setIfInBounds_toArray, List.set_cons_zero, List.set_cons_succ]
              refine take_run 30 (v := ?_) rfl (by kernel_rfl) (by kernel_rfl) (by kernel_rfl) (fun _ _ _ h => h) (by rfl) ?_ (by assumption) ?_
              rotate_left
              · (intro wx hSw; (try dsimp only at hSw); go_simp; try with_reducible rfl)
              try simp only [Act.put, List.setIfInBounds_toArray, List.set_cons_zero, List.set_cons_succ]
              refine take_run 31 (v := ?_) rfl (by kernel_rfl) (by kernel_rfl) (by kernel_rfl) (fun _ _ _ h => h) (by rfl) ?_ (by assumption) ?_
              rotate_left
              · (intro wx hSw; (try dsimp only at hSw); go_simp; try with_reducible rfl)
              try simp only [Act.put, List.setIfInBounds_toArray, List.set_cons_zero, List.set_cons_succ]
              refine take_run 32 (v := ?_) rfl (by kernel_rfl) (by kernel_rfl) (by kernel_rfl) (fun _ _ _ h => h) (by rfl) ?_ (by assumption) ?_
              rotate_left
              · (intro wx hSw; (try dsimp only at hSw); go_simp; try with_reducible rfl)
              try simp only [Act.put, List.setIfInBounds_toArray, List.set_cons_zero, List.set_cons_succ]
              refine take_run 33 (v := ?_) rfl (by kernel_rfl) (by kernel_rfl) (by kernel_rfl) (fun _ _ _ h => h) (by rfl) ?_ (by assumption) ?_
              rotate_left
              · (intro wx hSw; (try dsimp only at hSw); go_simp; try with_reducible rfl)
              try simp only [Act.put, List.setIfInBounds_toArray, List.set_cons_zero, List.set_cons_succ]
              refine take_run 34 (v := ?_) rfl (by kernel_rfl) (by kernel_rfl) (by kernel_rfl) (fun _ _ _ h => h) (by rfl) ?_ (by assumption) ?_
              rotate_left
              · (intro wx hSw; (try dsimp only at hSw); go_simp; try with_reducible rfl)
              try simp only [Act.put, List.setIfInBounds_toArray, List.set_cons_zero, List.set_cons_succ]
              refine take_run 35 (v := ?_) rfl (by kernel_rfl) (by kernel_rfl) (by kernel_rfl) (fun _ _ _ h => h) (by rfl) ?_ (by assumption) ?_
              rotate_left
              · (intro wx hSw; (try dsimp only at hSw); go_simp; try with_reducible rfl)
              try simp only [Act.put, List.setIfInBounds_toArray, List.set_cons_zero, List.set_cons_succ]
              refine take_run 36 (v := ?_) rfl (by kernel_rfl) (by kernel_rfl) (by kernel_rfl) (fun _ _ _ h => h) (by rfl) ?_ (by assumption) ?_
              rotate_left
              · (intro wx hSw; (try dsimp only at hSw); go_simp; try with_reducible rfl)
              try simp only [Act.put, List.setIfInBounds_toArray, List.set_cons_zero, List.set_cons_succ]
              refine take_run 37 (v := ?_) rfl (by kernel_rfl) (by kernel_rfl) (by kernel_rfl) (fun _ _ _ h => h) (by rfl) ?_ (by assumption) ?_
              rotate_left
              · (intro wx hSw; (try dsimp only at hSw); go_simp; try with_reducible rfl)
              try simp only [Act.put, List.setIfInBounds_toArray, List.set_cons_zero, List.set_cons_succ]
              refine take_run 38 (v := ?_) rfl (by kernel_rfl) (by kernel_rfl) (by kernel_rfl) (fun _ _ _ h => h) (by rfl) ?_ (by assumption) ?_
              rotate_left
              · (intro wx hSw; (try dsimp only at hSw); go_simp; try with_reducible rfl)
              try simp only [Act.put, List.setIfInBounds_toArray, List.set_cons_zero, List.set_cons_succ]
              refine take_run 39 (v := ?_) rfl (by kernel_rfl) (by kernel_rfl) (by kernel_rfl) (fun _ _ _ h => h) (by rfl) ?_ (by assumption) ?_
              rotate_left
              · (intro wx hSw; (try dsimp only at hSw); go_simp; try with_reducible rfl)
              try simp only [Act.put, List.setIfInBounds_toArray, List.set_cons_zero, List.set_cons_succ]
              refine take_run 40 (v := ?_) rfl (by kernel_rfl) (by kernel_rfl) (by kernel_rfl) (fun _ _ _ h => h) (by rfl) ?_ (by assumption) ?_
              rotate_left
              · (intro wx hSw; (try dsimp only at hSw); go_simp; try with_reducible rfl)
              try simp only [Act.put, List.setIfInBounds_toArray, List.set_cons_zero, List.set_cons_succ]
              refine take_run 41 (v := ?_) rfl (by kernel_rfl) (by kernel_rfl) (by kernel_rfl) (fun _ _ _ h => h) (by rfl) ?_ (by assumption) ?_
              rotate_left
              · (intro wx hSw; (try dsimp only at hSw); go_simp; try with_reducible rfl)
              try simp only [Act.put, List.setIfInBounds_toArray, List.set_cons_zero, List.set_cons_succ]
              refine wpAnyH_done (by kernel_rfl) ?_ _
              all_goals go_wp2_with fail
              all_goals go_meet
              all_goals exact ⟨rfl, (Mod.refl _ _).drew.trans m9 (by simp)⟩
            case rest =>
              obtain ⟨rfl, m10⟩ := hcut
              have hmC := hmB.trans m10 (by simp)
              go_wp2
              go_roundw
              case rel => exact ⟨j + 1, by omega, by go_num, hmC⟩
              case measure => simp [intOf]; omega
      · go_wp2
        go_ret
        exact ⟨rfl, (mm8.trans hmod (by simp)).below⟩

end Go.Proofs.Ytdpfbgppaofgmaa
