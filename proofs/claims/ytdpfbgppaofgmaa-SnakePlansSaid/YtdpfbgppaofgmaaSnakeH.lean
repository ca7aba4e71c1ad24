/- snake.Steps, and the document's example of the snake laws. -/
import Derived.Test.YtdpfbgppaofgmaaSnakeW
import Derived.Test.YtdpfbgppaofgmaaPlanB
namespace Go.Proofs.Ytdpfbgppaofgmaa
open Go.RowKit

set_option maxHeartbeats 400000 in
theorem run_Steps (c : Cfg) (n : Int) (v : Value) (ts : List Int) (w : World) (hs : SlV w v (ts.map (Value.int .i64))) (hlen : ts.length ≤ 1000000) :
    Calls Try.prog 23 #[.agg c.cells, .int .i64 n, v] w fun e w' => e = .returned (.int .i64 (((c.way n ts).length : Int) - 1)) ∧ Mod (fun _ => False) w w' := by
  have kb := Blk.made w c.cells 23
  have m0 : Mod (fun _ => False) w (w.alloc (.cells c.cells 23)) := (Mod.refl _ _).alloc _
  have hs1 := hs.later m0 (by simp)
  have hw : (c.way n ts).length ≤ 5000000000 := by
    unfold Cfg.way
    split
    · rename_i h
      simp only [Bool.and_eq_true, List.all_eq_true] at h
      have := Cfg.tail_len ts n h.1 h.2
      simp
      omega
    · simp
  clear hs
  simp only [Cfg.cells] at kb m0 hs1 ⊢
  go_enter Try.func23, Try.ntmps23
  go_wp2_with fail
  refine (run_Way c n v ts _ hs1 hlen).mono ?_
  rintro e w1 ⟨r, rfl, m1, hr⟩
  obtain ⟨a, len, cap, rfl, hl, -, hm, -⟩ := id hr
  rw [List.length_map] at hl
  rw [hl] at hw
  have HL := Lib.hid hl
  clear hr hl
  go_wp2
  go_ret
  exact ⟨by rw [HL.out]; go_num, m0.trans m1 (by simp)⟩

def lifeC : Cfg := ⟨4, 4, 2, 1, 1, 1, 1, false, true⟩

set_option maxHeartbeats 400000 in
theorem run_some08 (w : World) :
    Calls Try.prog 28 #[] w fun e w' => e = .returned (.agg lifeC.cells) ∧ Mod (fun _ => False) w w' := by
  go_enter Try.func28, Try.ntmps28
  go_wp2
  go_returns
  exact ⟨rfl, (Mod.refl _ _).alloc _⟩

theorem filter_len_perm {ys set : List Int} (h : ys.Perm set) (p : Int → Bool) : (ys.filter p).length = (set.filter p).length := (h.filter p).length_eq

set_option maxRecDepth 100000 in
set_option maxHeartbeats 1600000 in
theorem run_lives (w : World) :
    Calls Try.prog 10 #[] w fun e w' => e = .returned (.bool true) ∧ Mod (fun _ => False) w w' := by
  go_enter Try.func10, Try.ntmps10
  go_wp2_with fail
  refine (run_some08 _).mono ?_
  rintro e w1 ⟨rfl, m1⟩
  go_wp2_with fail
  refine (run_Label lifeC 7 _).mono ?_
  rw [show lifeC.lab 7 = 4 from by decide, show lifeC.pe 7 = 0 from by decide]
  rintro e w2 ⟨rfl, m2⟩
  have mm2 := m1.trans m2 (by simp)
  clear m1 m2
  go_wp2_with fail
  refine (run_some08 _).mono ?_
  rintro e w3 ⟨rfl, m3⟩
  go_wp2_with fail
  refine (run_Node lifeC 4 _).mono ?_
  rw [show lifeC.lab 4 = 7 from by decide, show lifeC.pe 4 = 0 from by decide]
  rintro e w4 ⟨rfl, m4⟩
  have mm4 := (mm2.trans m3 (by simp)).trans m4 (by simp)
  clear mm2 m3 m4
  go_wp2_with fail
  refine (run_some08 _).mono ?_
  rintro e w5 ⟨rfl, m5⟩
  go_wp2_with fail
  refine (run_Step lifeC 3 7 _).mono ?_
  rw [show lifeC.stepV 3 7 = 3 from by decide, show (lifeC.is 3 && lifeC.is 7) = true from by decide]
  rintro e w6 ⟨rfl, m6⟩
  have mm6 := (mm4.trans m5 (by simp)).trans m6 (by simp)
  clear mm4 m5 m6
  go_wp2_with fail
  refine (run_some08 _).mono ?_
  rintro e w7 ⟨rfl, m7⟩
  have mm7 := mm6.trans m7 (by simp)
  clear mm6 m7
  go_wp2_with fail
  have sp : SlV (w7.alloc (.cells #[.int .i64 0, .int .i64 15, .int .i64 5, .int .i64 9] 3)) (.slice (some ⟨w7.heap.size, 0, none⟩) 4 4) (([0, 15, 5, 9] : List Int).map (Value.int .i64)) := SlV.new _ _ _ rfl _ rfl
  refine (run_Plan_yes lifeC 5 _ [0, 15, 5, 9] _ sp (by decide) (by decide) (by decide) (by decide) (by decide)).mono ?_
  rintro e w8 ⟨r0, r1, r2, ys, rfl, m8, hp, -, s0, s1, s2⟩
  have mm8 := (mm7.alloc (.cells #[.int .i64 0, .int .i64 15, .int .i64 5, .int .i64 9] 3)).trans m8 (by simp)
  obtain ⟨a0, n0, c0, rfl, h0, -, hm0, -⟩ := s0
  obtain ⟨a1, n1, c1, rfl, h1, -, hm1, -⟩ := s1
  obtain ⟨a2, n2, c2, rfl, h2, -, hm2, -⟩ := s2
  have e0 : n0 = 2 := by rw [← h0, List.length_map]; unfold Cfg.ups; rw [filter_len_perm hp]; decide
  have e1 : n1 = 1 := by rw [← h1, List.length_map, List.length_reverse]; unfold Cfg.dns; rw [filter_len_perm hp]; decide
  have e2 : n2 = 1 := by rw [← h2, List.length_map]; unfold Cfg.eqs; rw [filter_len_perm hp]; decide
  clear h0 h1 h2 hp mm7 m8 sp hm0 hm1 hm2
  subst e0 e1 e2
  go_wp2_with fail
  refine (run_some08 _).mono ?_
  rintro e w9 ⟨rfl, m9⟩
  have mm9 := (mm8.alloc (.cells #[.slice a0 2 c0, .slice a1 1 c1, .slice a2 1 c2] 33)).trans m9 (by simp)
  clear mm8 m9
  go_wp2_with fail
  have sp : SlV (w9.alloc (.cells #[.int .i64 7] 3)) (.slice (some ⟨w9.heap.size, 0, none⟩) 1 1) (([7] : List Int).map (Value.int .i64)) := SlV.new _ _ _ rfl _ rfl
  refine (run_Steps lifeC 3 _ [7] _ sp (by decide)).mono ?_
  rw [show (((lifeC.way 3 [7]).length : Int) - 1) = 1 from by decide]
  rintro e w10 ⟨rfl, m10⟩
  have mm10 := (mm9.alloc (.cells #[.int .i64 7] 3)).trans m10 (by simp)
  clear mm9 m10
  go_wp2
  go_ret
  exact ⟨rfl, mm10⟩

end Go.Proofs.Ytdpfbgppaofgmaa
