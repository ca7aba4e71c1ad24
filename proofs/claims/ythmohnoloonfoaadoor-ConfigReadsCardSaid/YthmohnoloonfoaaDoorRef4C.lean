/- Contract of the reference of layer 4: Class. -/
import Derived.Test.YthmohnoloonfoaaDoorRef4
import Derived.Test.YthmohnoloonfoaaDoorCfgLive
namespace Go.Proofs.YthmohnoloonfoaaDoor
open Go.RowKit

set_option maxRecDepth 100000 in
set_option maxHeartbeats 1600000 in
theorem ref_Class_true_true (W H La D R I B : Int) (we : Bool) (w : World) :
    Calls Tryd.prog 10 #[.agg (⟨W, H, La, D, R, I, B, we, true⟩ : Cfg).cells, .bool true] w fun e w' => e = .returned (.tuple #[.int .i64 ((⟨W, H, La, D, R, I, B, we, true⟩ : Cfg).cls true).1, .int .i64 ((⟨W, H, La, D, R, I, B, we, true⟩ : Cfg).cls true).2]) ∧ Mod (fun _ => False) w w' := by
  have kb := Blk.made w (⟨W, H, La, D, R, I, B, we, true⟩ : Cfg).cells 23
  have m0 : Mod (fun _ => False) w (w.alloc (.cells (⟨W, H, La, D, R, I, B, we, true⟩ : Cfg).cells 23)) := (Mod.refl _ _).alloc _
  have HFIN := Lib.hid (show ∀ x : Int × Int, (⟨W, H, La, D, R, I, B, we, true⟩ : Cfg).cls true = x → Value.tuple #[.int .i64 ((⟨W, H, La, D, R, I, B, we, true⟩ : Cfg).cls true).1, .int .i64 ((⟨W, H, La, D, R, I, B, we, true⟩ : Cfg).cls true).2] = .tuple #[.int .i64 x.1, .int .i64 x.2] from fun x h => by rw [h])
  simp only [Cfg.cells] at kb m0 ⊢
  go_enter Tryd.func10, Tryd.ntmps10
  go_wp2_with fail
  refine (ref_Check (⟨W, H, La, D, R, I, B, we, true⟩ : Cfg) _).mono ?_
  rintro e w1 ⟨rfl, m1⟩
  have mm1 := m0.trans m1 (by simp)
  have k1 := kb.later m1 (by simp)
  have c2 := k1.cell 2
  have c8 := k1.cell 8
  simp at c2 c8
  clear kb m0 m1
  by_cases hk : (⟨W, H, La, D, R, I, B, we, true⟩ : Cfg).chk = 0
  · have hok := Cfg.chk_iff (⟨W, H, La, D, R, I, B, we, true⟩ : Cfg) |>.1 hk
    have hl1 := hok.L1
    have hl2 := hok.L2
    dsimp only at hl1 hl2
    have HC := Lib.hid (show (⟨W, H, La, D, R, I, B, we, true⟩ : Cfg).cls true = (La - 1, 1) from by unfold Cfg.cls; simp [hk])
    rw [hk]
    clear hk hok
    go_wp2
    first
    | (go_ret2
       exact ⟨congrArg Ending.returned (HFIN.out _ HC.out).symm, mm1⟩)
    | (go_region
       all_goals go_wp2
       all_goals go_ret2
       all_goals exact ⟨congrArg Ending.returned (HFIN.out _ HC.out).symm, by first | exact mm1 | exact mm1.drew⟩)
  · have HC := Lib.hid (show (⟨W, H, La, D, R, I, B, we, true⟩ : Cfg).cls true = (0, 0) from by unfold Cfg.cls; rw [if_neg (fun h => hk h.1)])
    have hk2 : ((⟨W, H, La, D, R, I, B, we, true⟩ : Cfg).chk != 0) = true := by simp [hk]
    have hk3 : ((⟨W, H, La, D, R, I, B, we, true⟩ : Cfg).chk == 0) = false := by simp [hk]
    generalize (⟨W, H, La, D, R, I, B, we, true⟩ : Cfg).chk = E at hk hk2 hk3 ⊢
    clear hk
    go_wp2
    go_ret2
    exact ⟨congrArg Ending.returned (HFIN.out _ HC.out).symm, mm1⟩

set_option maxRecDepth 100000 in
set_option maxHeartbeats 1600000 in
theorem ref_Class_true_false (W H La D R I B : Int) (we : Bool) (w : World) :
    Calls Tryd.prog 10 #[.agg (⟨W, H, La, D, R, I, B, we, false⟩ : Cfg).cells, .bool true] w fun e w' => e = .returned (.tuple #[.int .i64 ((⟨W, H, La, D, R, I, B, we, false⟩ : Cfg).cls true).1, .int .i64 ((⟨W, H, La, D, R, I, B, we, false⟩ : Cfg).cls true).2]) ∧ Mod (fun _ => False) w w' := by
  have kb := Blk.made w (⟨W, H, La, D, R, I, B, we, false⟩ : Cfg).cells 23
  have m0 : Mod (fun _ => False) w (w.alloc (.cells (⟨W, H, La, D, R, I, B, we, false⟩ : Cfg).cells 23)) := (Mod.refl _ _).alloc _
  have HFIN := Lib.hid (show ∀ x : Int × Int, (⟨W, H, La, D, R, I, B, we, false⟩ : Cfg).cls true = x → Value.tuple #[.int .i64 ((⟨W, H, La, D, R, I, B, we, false⟩ : Cfg).cls true).1, .int .i64 ((⟨W, H, La, D, R, I, B, we, false⟩ : Cfg).cls true).2] = .tuple #[.int .i64 x.1, .int .i64 x.2] from fun x h => by rw [h])
  simp only [Cfg.cells] at kb m0 ⊢
  go_enter Tryd.func10, Tryd.ntmps10
  go_wp2_with fail
  refine (ref_Check (⟨W, H, La, D, R, I, B, we, false⟩ : Cfg) _).mono ?_
  rintro e w1 ⟨rfl, m1⟩
  have mm1 := m0.trans m1 (by simp)
  have k1 := kb.later m1 (by simp)
  have c2 := k1.cell 2
  have c8 := k1.cell 8
  simp at c2 c8
  clear kb m0 m1
  by_cases hk : (⟨W, H, La, D, R, I, B, we, false⟩ : Cfg).chk = 0
  · have hok := Cfg.chk_iff (⟨W, H, La, D, R, I, B, we, false⟩ : Cfg) |>.1 hk
    have hl1 := hok.L1
    have hl2 := hok.L2
    dsimp only at hl1 hl2
    have HC := Lib.hid (show (⟨W, H, La, D, R, I, B, we, false⟩ : Cfg).cls true = (0, 0) from by unfold Cfg.cls; simp [hk])
    rw [hk]
    clear hk hok
    go_wp2
    first
    | (go_ret2
       exact ⟨congrArg Ending.returned (HFIN.out _ HC.out).symm, mm1⟩)
    | (go_region
       all_goals go_wp2
       all_goals go_ret2
       all_goals exact ⟨congrArg Ending.returned (HFIN.out _ HC.out).symm, by first | exact mm1 | exact mm1.drew⟩)
  · have HC := Lib.hid (show (⟨W, H, La, D, R, I, B, we, false⟩ : Cfg).cls true = (0, 0) from by unfold Cfg.cls; rw [if_neg (fun h => hk h.1)])
    have hk2 : ((⟨W, H, La, D, R, I, B, we, false⟩ : Cfg).chk != 0) = true := by simp [hk]
    have hk3 : ((⟨W, H, La, D, R, I, B, we, false⟩ : Cfg).chk == 0) = false := by simp [hk]
    generalize (⟨W, H, La, D, R, I, B, we, false⟩ : Cfg).chk = E at hk hk2 hk3 ⊢
    clear hk
    go_wp2
    go_ret2
    exact ⟨congrArg Ending.returned (HFIN.out _ HC.out).symm, mm1⟩

set_option maxRecDepth 100000 in
set_option maxHeartbeats 1600000 in
theorem ref_Class_false_true (W H La D R I B : Int) (we : Bool) (w : World) :
    Calls Tryd.prog 10 #[.agg (⟨W, H, La, D, R, I, B, we, true⟩ : Cfg).cells, .bool false] w fun e w' => e = .returned (.tuple #[.int .i64 ((⟨W, H, La, D, R, I, B, we, true⟩ : Cfg).cls false).1, .int .i64 ((⟨W, H, La, D, R, I, B, we, true⟩ : Cfg).cls false).2]) ∧ Mod (fun _ => False) w w' := by
  have kb := Blk.made w (⟨W, H, La, D, R, I, B, we, true⟩ : Cfg).cells 23
  have m0 : Mod (fun _ => False) w (w.alloc (.cells (⟨W, H, La, D, R, I, B, we, true⟩ : Cfg).cells 23)) := (Mod.refl _ _).alloc _
  have HFIN := Lib.hid (show ∀ x : Int × Int, (⟨W, H, La, D, R, I, B, we, true⟩ : Cfg).cls false = x → Value.tuple #[.int .i64 ((⟨W, H, La, D, R, I, B, we, true⟩ : Cfg).cls false).1, .int .i64 ((⟨W, H, La, D, R, I, B, we, true⟩ : Cfg).cls false).2] = .tuple #[.int .i64 x.1, .int .i64 x.2] from fun x h => by rw [h])
  simp only [Cfg.cells] at kb m0 ⊢
  go_enter Tryd.func10, Tryd.ntmps10
  go_wp2_with fail
  refine (ref_Check (⟨W, H, La, D, R, I, B, we, true⟩ : Cfg) _).mono ?_
  rintro e w1 ⟨rfl, m1⟩
  have mm1 := m0.trans m1 (by simp)
  have k1 := kb.later m1 (by simp)
  have c2 := k1.cell 2
  have c8 := k1.cell 8
  simp at c2 c8
  clear kb m0 m1
  by_cases hk : (⟨W, H, La, D, R, I, B, we, true⟩ : Cfg).chk = 0
  · have hok := Cfg.chk_iff (⟨W, H, La, D, R, I, B, we, true⟩ : Cfg) |>.1 hk
    have hl1 := hok.L1
    have hl2 := hok.L2
    dsimp only at hl1 hl2
    have HC := Lib.hid (show (⟨W, H, La, D, R, I, B, we, true⟩ : Cfg).cls false = (0, La - 1) from by unfold Cfg.cls; simp [hk])
    rw [hk]
    clear hk hok
    go_wp2
    first
    | (go_ret2
       exact ⟨congrArg Ending.returned (HFIN.out _ HC.out).symm, mm1⟩)
    | (go_region
       all_goals go_wp2
       all_goals go_ret2
       all_goals exact ⟨congrArg Ending.returned (HFIN.out _ HC.out).symm, by first | exact mm1 | exact mm1.drew⟩)
  · have HC := Lib.hid (show (⟨W, H, La, D, R, I, B, we, true⟩ : Cfg).cls false = (0, 0) from by unfold Cfg.cls; rw [if_neg (fun h => hk h.1)])
    have hk2 : ((⟨W, H, La, D, R, I, B, we, true⟩ : Cfg).chk != 0) = true := by simp [hk]
    have hk3 : ((⟨W, H, La, D, R, I, B, we, true⟩ : Cfg).chk == 0) = false := by simp [hk]
    generalize (⟨W, H, La, D, R, I, B, we, true⟩ : Cfg).chk = E at hk hk2 hk3 ⊢
    clear hk
    go_wp2
    go_ret2
    exact ⟨congrArg Ending.returned (HFIN.out _ HC.out).symm, mm1⟩

set_option maxRecDepth 100000 in
set_option maxHeartbeats 1600000 in
theorem ref_Class_false_false (W H La D R I B : Int) (we : Bool) (w : World) :
    Calls Tryd.prog 10 #[.agg (⟨W, H, La, D, R, I, B, we, false⟩ : Cfg).cells, .bool false] w fun e w' => e = .returned (.tuple #[.int .i64 ((⟨W, H, La, D, R, I, B, we, false⟩ : Cfg).cls false).1, .int .i64 ((⟨W, H, La, D, R, I, B, we, false⟩ : Cfg).cls false).2]) ∧ Mod (fun _ => False) w w' := by
  have kb := Blk.made w (⟨W, H, La, D, R, I, B, we, false⟩ : Cfg).cells 23
  have m0 : Mod (fun _ => False) w (w.alloc (.cells (⟨W, H, La, D, R, I, B, we, false⟩ : Cfg).cells 23)) := (Mod.refl _ _).alloc _
  have HFIN := Lib.hid (show ∀ x : Int × Int, (⟨W, H, La, D, R, I, B, we, false⟩ : Cfg).cls false = x → Value.tuple #[.int .i64 ((⟨W, H, La, D, R, I, B, we, false⟩ : Cfg).cls false).1, .int .i64 ((⟨W, H, La, D, R, I, B, we, false⟩ : Cfg).cls false).2] = .tuple #[.int .i64 x.1, .int .i64 x.2] from fun x h => by rw [h])
  simp only [Cfg.cells] at kb m0 ⊢
  go_enter Tryd.func10, Tryd.ntmps10
  go_wp2_with fail
  refine (ref_Check (⟨W, H, La, D, R, I, B, we, false⟩ : Cfg) _).mono ?_
  rintro e w1 ⟨rfl, m1⟩
  have mm1 := m0.trans m1 (by simp)
  have k1 := kb.later m1 (by simp)
  have c2 := k1.cell 2
  have c8 := k1.cell 8
  simp at c2 c8
  clear kb m0 m1
  by_cases hk : (⟨W, H, La, D, R, I, B, we, false⟩ : Cfg).chk = 0
  · have hok := Cfg.chk_iff (⟨W, H, La, D, R, I, B, we, false⟩ : Cfg) |>.1 hk
    have hl1 := hok.L1
    have hl2 := hok.L2
    dsimp only at hl1 hl2
    have HC := Lib.hid (show (⟨W, H, La, D, R, I, B, we, false⟩ : Cfg).cls false = (0, La) from by unfold Cfg.cls; simp [hk])
    rw [hk]
    clear hk hok
    go_wp2
    first
    | (go_ret2
       exact ⟨congrArg Ending.returned (HFIN.out _ HC.out).symm, mm1⟩)
    | (go_region
       all_goals go_wp2
       all_goals go_ret2
       all_goals exact ⟨congrArg Ending.returned (HFIN.out _ HC.out).symm, by first | exact mm1 | exact mm1.drew⟩)
  · have HC := Lib.hid (show (⟨W, H, La, D, R, I, B, we, false⟩ : Cfg).cls false = (0, 0) from by unfold Cfg.cls; rw [if_neg (fun h => hk h.1)])
    have hk2 : ((⟨W, H, La, D, R, I, B, we, false⟩ : Cfg).chk != 0) = true := by simp [hk]
    have hk3 : ((⟨W, H, La, D, R, I, B, we, false⟩ : Cfg).chk == 0) = false := by simp [hk]
    generalize (⟨W, H, La, D, R, I, B, we, false⟩ : Cfg).chk = E at hk hk2 hk3 ⊢
    clear hk
    go_wp2
    go_ret2
    exact ⟨congrArg Ending.returned (HFIN.out _ HC.out).symm, mm1⟩

theorem ref_Class (c : Cfg) (b : Bool) (w : World) :
    Calls Tryd.prog 10 #[.agg c.cells, .bool b] w fun e w' => e = .returned (.tuple #[.int .i64 (c.cls b).1, .int .i64 (c.cls b).2]) ∧ Mod (fun _ => False) w w' := by
  obtain ⟨W, H, La, D, R, I, B, we, ca⟩ := c
  cases b <;> cases ca
  · exact ref_Class_false_false W H La D R I B we w
  · exact ref_Class_false_true W H La D R I B we w
  · exact ref_Class_true_false W H La D R I B we w
  · exact ref_Class_true_true W H La D R I B we w

end Go.Proofs.YthmohnoloonfoaaDoor
