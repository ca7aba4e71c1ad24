/- The walk of SnakeLine. -/
import Derived.Test.YtdpfbgppaofgmaaSnakeI
namespace Go.Proofs.Ytdpfbgppaofgmaa
open Go.RowKit

set_option maxRecDepth 100000 in
set_option maxHeartbeats 1600000 in
theorem walk_SnakeLine {w : World} (c : Cfg) (a1 : Int) (w1 : (Lit.int .i64 a1).wf = true) :
    Calls Try.prog 8 #[.agg c.cells, .int .i64 a1] w fun e w' => e = .returned (.bool true) ∧ Below w.heap.size w w' := by
  clear w1
  have kb := Blk.made w c.cells 23
  have m0 : Mod (fun _ => False) w (w.alloc (.cells c.cells 23)) := (Mod.refl _ _).alloc _
  obtain ⟨hok, hW, hH⟩ := c.small_ok
  simp only [Cfg.cells] at kb m0 ⊢
  go_enter Try.func8, Try.ntmps8
  go_wp2_with fail
  refine (run_lives _).mono ?_
  rintro e w1 ⟨rfl, m1⟩
  have k1 := kb.later m1 (by simp)
  have mm1 := m0.trans m1 (by simp)
  obtain ⟨c0, c1, c2, c3, c4, c5, c6, c7, c8⟩ := cfg_cells k1
  clear kb m0 m1
  go_wp2_with fail
  refine (run_Small c _).mono ?_
  rintro e w2 ⟨rfl, m2⟩
  have k2 := k1.later m2 (by simp)
  have mm2 := mm1.trans m2 (by simp)
  clear k1 mm1 m2 c0 c1 c2 c3 c4 c5 c6 c7 c8
  have l2 := k2.lt
  have z0 := k2.fz 0
  have z1 := k2.fz 1
  have z2 := k2.fz 2
  have z3 := k2.fz 3
  have z4 := k2.fz 4
  have z5 := k2.fz 5
  have z6 := k2.fz 6
  have z7 := k2.fz 7
  have z8 := k2.fz 8
  obtain ⟨c0, c1, c2, c3, c4, c5, c6, c7, c8⟩ := cfg_cells k2
  go_wp2_with fail
  have k3 := put9_blk (d := c.small) k2
  have mm3 := put9_mod mm2 (b := w.heap.size) (Or.inr (Nat.le_refl _)) c.small
  change Calls Try.prog _ _ (put9 w2 w.heap.size c.small) _
  generalize put9 w2 w.heap.size c.small = w3 at k3 mm3 ⊢
  clear k2 mm2 l2 c0 c1 c2 c3 c4 c5 c6 c7 c8 z0 z1 z2 z3 z4 z5 z6 z7 z8
  clear w1 w2
  generalize c.small = s at *
  refine (ref_Node s a1 _ hok).mono ?_
  rintro e w4 ⟨rfl, m4⟩
  have k4 := k3.later m4 (by simp)
  have mm4 := mm3.trans m4 (by simp)
  clear k3 mm3 m4
  obtain ⟨c0, c1, c2, c3, c4, c5, c6, c7, c8⟩ := cfg_cells k4
  have hl := Cfg.um_is hok a1
  generalize um a1 s.nodes = l at hl ⊢
  have hnb := mul_le_4096 hok.W1 hok.W2 hok.H1 hok.H2
  have hl2 := (s.is_iff _).1 hl
  have hnn := Cfg.nodes_ok hok
  rw [hnn] at hl2
  have hls : s.lab (s.lab l) = l := Cfg.lab_lab hl
  have hli := (Cfg.lab_is hl).1
  have hpe : s.pe l = 0 := (Cfg.p_yes hl).2.2
  have hpe2 : s.pe (s.lab l) = 0 := (Cfg.p_yes hli).2.2
  have HPE2 := Lib.hid hpe2
  have HLS := Lib.hid hls
  have hww : wrap64 (s.W * s.H) = s.W * s.H := by unfold wrap64; omega
  go_wp2_with fail
  refine (run_Node s l _).mono ?_
  rw [hpe]
  rintro e w5 ⟨rfl, m5⟩
  have k5 := k4.later m5 (by simp)
  have mm5 := mm4.trans m5 (by simp)
  clear k4 mm4 m5 c0 c1 c2 c3 c4 c5 c6 c7 c8 hpe hpe2 hls
  obtain ⟨c0, c1, c2, c3, c4, c5, c6, c7, c8⟩ := cfg_cells k5
  go_wp2_with fail
  refine (run_Label s (s.lab l) _).mono ?_
  rw [HPE2.out, HLS.out]
  rintro e w6 ⟨rfl, m6⟩
  have k6 := k5.later m6 (by simp)
  have mm6 := mm5.trans m6 (by simp)
  clear k5 mm5 m6 c0 c1 c2 c3 c4 c5 c6 c7 c8
  obtain ⟨c0, c1, c2, c3, c4, c5, c6, c7, c8⟩ := cfg_cells k6
  go_wp2_with fail
  refine (run_Node s (l + 1) _).mono ?_
  cases hi : s.is (l + 1) with
  | true =>
    have hf := Cfg.far_next hl hi
    have hlt := (s.is_iff _).1 hi
    rw [hnn] at hlt
    rw [(Cfg.p_yes hi).2.2]
    have HF := Lib.hid hf
    clear hf
    rintro e w7 ⟨rfl, m7⟩
    have k7 := k6.later m7 (by simp)
    have mm7 := mm6.trans m7 (by simp)
    clear k6 mm6 m7 c0 c1 c2 c3 c4 c5 c6 c7 c8
    obtain ⟨c0, c1, c2, c3, c4, c5, c6, c7, c8⟩ := cfg_cells k7
    go_wp2_with fail
    refine (run_Far s (s.lab l) (s.lab (l + 1)) _).mono ?_
    rw [HF.out]
    rintro e w8 ⟨rfl, m8⟩
    have mm8 := mm7.trans m8 (by simp)
    go_wp2
    go_ret
    exact ⟨rfl, mm8.below⟩
  | false =>
    have hlt : ¬ l + 1 < s.W * s.H := by
      intro h
      have := (s.is_iff (l + 1)).2 ⟨by omega, by rw [hnn]; exact h⟩
      rw [hi] at this
      cases this
    have hdec : decide (l + 1 < s.W * s.H) = false := decide_eq_false hlt
    rw [(Cfg.p_no hi).2.2]
    rintro e w7 ⟨rfl, m7⟩
    have k7 := k6.later m7 (by simp)
    have mm7 := mm6.trans m7 (by simp)
    clear k6 mm6 m7 c0 c1 c2 c3 c4 c5 c6 c7 c8
    obtain ⟨c0, c1, c2, c3, c4, c5, c6, c7, c8⟩ := cfg_cells k7
    go_wp2
    go_ret
    exact ⟨rfl, mm7.below⟩

end Go.Proofs.Ytdpfbgppaofgmaa
