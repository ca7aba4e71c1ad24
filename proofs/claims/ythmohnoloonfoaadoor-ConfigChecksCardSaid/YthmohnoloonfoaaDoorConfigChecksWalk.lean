/- The walk of ConfigChecks. -/
import Derived.Test.YthmohnoloonfoaaDoorLives04
import Derived.Test.YthmohnoloonfoaaDoorRef4C
import Derived.Test.YthmohnoloonfoaaDoorRef4T
namespace Go.Proofs.YthmohnoloonfoaaDoor
open Go.RowKit

set_option maxRecDepth 100000 in
set_option maxHeartbeats 1600000 in
theorem walk_ConfigChecks {w : World} (c : Cfg) (hc : c.wf) (L : LibV w) (hw : 8 ≤ w.heap.size) :
    Calls Tryd.prog 3 #[.agg c.cells] w fun e w' => e = .returned (.bool true) ∧ Below w.heap.size w w' := by
  have kb := Blk.made w c.cells 23
  have m0 : Mod (fun _ => False) w (w.alloc (.cells c.cells 23)) := (Mod.refl _ _).alloc _
  have HL := Lib.hid L
  clear L
  simp only [Cfg.cells] at kb m0 ⊢
  go_enter Tryd.func3, Tryd.ntmps3
  go_wp2_with fail
  refine (run_lives04 _ (HL.out.later0 m0) (by simp; omega)).mono ?_
  rintro e w1 ⟨rfl, m1⟩
  have k1 := kb.later m1 (by simp)
  have mm1 := m0.trans m1 (by simp)
  clear kb m0 m1
  obtain ⟨c0, c1, c2, c3, c4, c5, c6, c7, c8⟩ := cells9 k1
  go_wp2_with fail
  refine (run_Class c false _).mono ?_
  rintro e w2 ⟨rfl, m2⟩
  have k2 := k1.later m2 (by simp)
  have mm2 := mm1.trans m2 (by simp)
  clear k1 mm1 m2 c0 c1 c2 c3 c4 c5 c6 c7 c8
  obtain ⟨c0, c1, c2, c3, c4, c5, c6, c7, c8⟩ := cells9 k2
  go_wp2_with fail
  refine (ref_Class c false _).mono ?_
  rintro e w3 ⟨rfl, m3⟩
  have k3 := k2.later m3 (by simp)
  have mm3 := mm2.trans m3 (by simp)
  clear k2 mm2 m3 c0 c1 c2 c3 c4 c5 c6 c7 c8
  obtain ⟨c0, c1, c2, c3, c4, c5, c6, c7, c8⟩ := cells9 k3
  go_wp2_with fail
  refine (run_Class c true _).mono ?_
  rintro e w4 ⟨rfl, m4⟩
  have k4 := k3.later m4 (by simp)
  have mm4 := mm3.trans m4 (by simp)
  clear k3 mm3 m4 c0 c1 c2 c3 c4 c5 c6 c7 c8
  obtain ⟨c0, c1, c2, c3, c4, c5, c6, c7, c8⟩ := cells9 k4
  go_wp2_with fail
  refine (ref_Class c true _).mono ?_
  rintro e w5 ⟨rfl, m5⟩
  have k5 := k4.later m5 (by simp)
  have mm5 := mm4.trans m5 (by simp)
  clear k4 mm4 m5 c0 c1 c2 c3 c4 c5 c6 c7 c8
  generalize (c.cls false).1 = x1
  generalize (c.cls false).2 = x2
  generalize (c.cls true).1 = x3
  generalize (c.cls true).2 = x4
  obtain ⟨c0, c1, c2, c3, c4, c5, c6, c7, c8⟩ := cells9 k5
  go_wp2_with fail
  have kz := k5.drew
  have mz := mm5.drew
  go_region_held3 (fun w' => w'.cell? ⟨w.heap.size, 0, none⟩ = some (.int .i64 c.W) ∧ w'.cell? ⟨w.heap.size, 1, none⟩ = some (.int .i64 c.H) ∧ w'.cell? ⟨w.heap.size, 2, none⟩ = some (.int .i64 c.Lanes) ∧ w'.cell? ⟨w.heap.size, 3, none⟩ = some (.int .i64 c.Depth) ∧ w'.cell? ⟨w.heap.size, 4, none⟩ = some (.int .i64 c.Ring) ∧ w'.cell? ⟨w.heap.size, 5, none⟩ = some (.int .i64 c.Inbox) ∧ w'.cell? ⟨w.heap.size, 6, none⟩ = some (.int .i64 c.Bound) ∧ w'.cell? ⟨w.heap.size, 7, none⟩ = some (.bool c.West) ∧ w'.cell? ⟨w.heap.size, 8, none⟩ = some (.bool c.Cast))
    (first | exact cells9 kz | go_keep)
    ((first
      | (go_at_call 11; refine (run_Check c _).mono ?_; rintro e w10 ⟨rfl, m10⟩; have kz := kz.later m10 (by simp); have mz := mz.trans m10 (by simp))
      | (go_at_call 12; refine (ref_Check c _).mono ?_; rintro e w11 ⟨rfl, m11⟩; have kz := kz.later m11 (by simp); have mz := mz.trans m11 (by simp))
      | (go_at_call 13; refine (run_Nodes c _).mono ?_; rintro e w12 ⟨rfl, m12⟩; have kz := kz.later m12 (by simp); have mz := mz.trans m12 (by simp))
      | (go_at_call 14; refine (ref_Nodes c _).mono ?_; rintro e w13 ⟨rfl, m13⟩; have kz := kz.later m13 (by simp); have mz := mz.trans m13 (by simp))
      | (go_at_call 15; refine (run_Text c hc _ (HL.out.later0 mz)).mono ?_; rintro e w14 ⟨rfl, m14⟩; have kz := kz.later m14 (by simp); have mz := mz.trans m14 (by simp))
      | (go_at_call 16; refine (ref_Text c hc _).mono ?_; rintro e w15 ⟨rfl, m15⟩; have kz := kz.later m15 (by simp); have mz := mz.trans m15 (by simp))))
  all_goals go_wp2
  all_goals go_ret
  all_goals exact ⟨rfl, mz.below⟩

end Go.Proofs.YthmohnoloonfoaaDoor
