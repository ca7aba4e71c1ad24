/- The walk of SnakeLabels. -/
import Derived.Test.YtdpfbgppaofgmaaRefF
import Derived.Test.YtdpfbgppaofgmaaSnakeH
namespace Go.Proofs.Ytdpfbgppaofgmaa
open Go.RowKit

set_option maxRecDepth 100000 in
set_option maxHeartbeats 3200000 in
theorem walk_SnakeLabels {w : World} (c : Cfg) (a1 : Int) (w1 : (Lit.int .i64 a1).wf = true) (a2 : Int) (w2 : (Lit.int .i64 a2).wf = true) :
    Calls Try.prog 3 #[.agg c.cells, .int .i64 a1, .int .i64 a2] w fun e w' => e = .returned (.bool true) ∧ Below w.heap.size w w' := by
  clear w1 w2
  have kb := Blk.made w c.cells 23
  have m0 : Mod (fun _ => False) w (w.alloc (.cells c.cells 23)) := (Mod.refl _ _).alloc _
  simp only [Cfg.cells] at kb m0 ⊢
  go_enter Try.func3, Try.ntmps3
  go_wp2_with fail
  refine (run_lives _).mono ?_
  rintro e w1 ⟨rfl, m1⟩
  have k1 := kb.later m1 (by simp)
  have mm1 := m0.trans m1 (by simp)
  clear kb m0 m1
  obtain ⟨c0, c1, c2, c3, c4, c5, c6, c7, c8⟩ := cfg_cells k1
  by_cases hW : 16 < c.W
  · go_wp2
    go_ret
    exact ⟨rfl, mm1.below⟩
  by_cases hH : 16 < c.H
  · go_wp2
    go_ret
    exact ⟨rfl, mm1.below⟩
  go_wp2_with fail
  refine (run_Label c a1 _).mono ?_
  rintro e w2 ⟨rfl, m2⟩
  have k2 := k1.later m2 (by simp)
  have mm2 := mm1.trans m2 (by simp)
  clear k1 mm1 m2 c0 c1 c2 c3 c4 c5 c6 c7 c8
  obtain ⟨c0, c1, c2, c3, c4, c5, c6, c7, c8⟩ := cfg_cells k2
  go_wp2_with fail
  refine (ref_Label c a1 _).mono ?_
  rintro e w3 ⟨rfl, m3⟩
  have k3 := k2.later m3 (by simp)
  have mm3 := mm2.trans m3 (by simp)
  clear k2 mm2 m3 c0 c1 c2 c3 c4 c5 c6 c7 c8
  obtain ⟨c0, c1, c2, c3, c4, c5, c6, c7, c8⟩ := cfg_cells k3
  go_wp2_with fail
  refine (run_Node c a2 _).mono ?_
  rintro e w4 ⟨rfl, m4⟩
  have k4 := k3.later m4 (by simp)
  have mm4 := mm3.trans m4 (by simp)
  clear k3 mm3 m4 c0 c1 c2 c3 c4 c5 c6 c7 c8
  obtain ⟨c0, c1, c2, c3, c4, c5, c6, c7, c8⟩ := cfg_cells k4
  go_wp2_with fail
  refine (ref_find c a2 _).mono ?_
  rintro e w5 ⟨rfl, m5⟩
  have k5 := k4.later m5 (by simp)
  have mm5 := mm4.trans m5 (by simp)
  clear k4 mm4 m5 c0 c1 c2 c3 c4 c5 c6 c7 c8
  obtain ⟨c0, c1, c2, c3, c4, c5, c6, c7, c8⟩ := cfg_cells k5
  go_wp2_with fail
  refine (run_Step c a1 a2 _).mono ?_
  rintro e w6 ⟨rfl, m6⟩
  have k6 := k5.later m6 (by simp)
  have mm6 := mm5.trans m6 (by simp)
  clear k5 mm5 m6 c0 c1 c2 c3 c4 c5 c6 c7 c8
  obtain ⟨c0, c1, c2, c3, c4, c5, c6, c7, c8⟩ := cfg_cells k6
  go_wp2_with fail
  refine (ref_Step c a1 a2 _).mono ?_
  rintro e w7 ⟨rfl, m7⟩
  have mm7 := mm6.trans m7 (by simp)
  clear k6 mm6 m7 c0 c1 c2 c3 c4 c5 c6 c7 c8
  generalize c.lab a1 = x1
  generalize c.pe a1 = x2
  generalize c.lab a2 = x3
  generalize c.pe a2 = x4
  generalize c.stepV a1 a2 = x5
  generalize (c.is a1 && c.is a2) = x6
  go_wp2
  go_ret
  exact ⟨by simp, mm7.below⟩

end Go.Proofs.Ytdpfbgppaofgmaa
