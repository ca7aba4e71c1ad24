/- The walk of ModelNil. -/
import Derived.Test.YtonnooenebfbeaaMdlNil
import Derived.Test.YtonnooenebfbeaaMdlLives
namespace Go.Proofs.Ytonnooenebfbeaa
open Go.RowKit

def zeroC : Cfg := ⟨0, 0, 0, 0, 0, 0, 0, false, false⟩

theorem call_cells {w : World} {g : Nat} {k a b n : Int} {s : Value} {data : ByteArray} {t : TypeId} (h : Blk w g #[.int .i64 k, .int .i64 a, .int .i64 b, .int .i64 n, s, .string data] t) :
    w.cell? ⟨g, 0, none⟩ = some (.int .i64 k) ∧ w.cell? ⟨g, 1, none⟩ = some (.int .i64 a) ∧ w.cell? ⟨g, 2, none⟩ = some (.int .i64 b) ∧ w.cell? ⟨g, 3, none⟩ = some (.int .i64 n) ∧ w.cell? ⟨g, 4, none⟩ = some s ∧ w.cell? ⟨g, 5, none⟩ = some (.string data) := by
  refine ⟨?_, ?_, ?_, ?_, ?_, ?_⟩ <;> (rw [h.cell]; rfl)

set_option maxRecDepth 100000 in
set_option maxHeartbeats 3200000 in
theorem walk_ModelNil {w : World} (k a b n : Int) (s : Value) (l : List Int) (data : ByteArray) (sl : SlV w s (l.map (Value.int .i64))) (wl : ∀ x ∈ [k, a, b, n], (Lit.int .i64 x).wf = true) (ll : data.size ≤ maxLen) :
    Calls Try.prog 6 #[.agg #[.int .i64 k, .int .i64 a, .int .i64 b, .int .i64 n, s, .string data]] w fun e w' => e = .returned (.bool true) ∧ Below w.heap.size w w' := by
  have kb := Blk.made w #[.int .i64 k, .int .i64 a, .int .i64 b, .int .i64 n, s, .string data] 41
  have m0 : Mod (fun _ => False) w (w.alloc (.cells #[.int .i64 k, .int .i64 a, .int .i64 b, .int .i64 n, s, .string data] 41)) := (Mod.refl _ _).alloc _
  obtain ⟨sa, sn, sc, rfl, -, -, -, -⟩ := id sl
  clear sl wl ll
  go_enter Try.func6, Try.ntmps6
  go_wp2_with fail
  refine (run_lives21 _).mono ?_
  rintro e w1 ⟨rfl, m1⟩
  have k1 := kb.later m1 (by simp)
  have mm1 := m0.trans m1 (by simp)
  clear kb m0 m1
  go_wp2_with fail
  refine (run_MOpen zeroC _).mono ?_
  rw [show zeroC.chk = 4 from by decide]
  rintro e w2 ⟨p, rfl, m2, ⟨-, rfl⟩ | ⟨h0, -⟩⟩
  rotate_left
  · exact absurd h0 (by decide)
  have k2 := k1.later m2 (by simp)
  have mm2 := mm1.trans m2 (by simp)
  clear k1 mm1 m2
  obtain ⟨c0, c1, c2, c3, c4, c5⟩ := call_cells k2
  go_wp2_with fail
  refine (run_Send_nil a b data _).mono ?_
  rintro e w3 ⟨rfl, m3⟩
  have k3 := k2.later m3 (by simp)
  have mm3 := mm2.trans m3 (by simp)
  clear k2 mm2 m3 c0 c1 c2 c3 c4 c5
  obtain ⟨c0, c1, c2, c3, c4, c5⟩ := call_cells k3
  go_wp2_with fail
  refine (run_Multicast_nil a (.slice sa sn sc) data _).mono ?_
  rintro e w4 ⟨rfl, m4⟩
  have k4 := k3.later m4 (by simp)
  have mm4 := mm3.trans m4 (by simp)
  clear k3 mm3 m4 c0 c1 c2 c3 c4 c5
  obtain ⟨c0, c1, c2, c3, c4, c5⟩ := call_cells k4
  go_wp2_with fail
  refine (run_Close_nil a _).mono ?_
  rintro e w5 ⟨rfl, m5⟩
  have k5 := k4.later m5 (by simp)
  have mm5 := mm4.trans m5 (by simp)
  clear k4 mm4 m5 c0 c1 c2 c3 c4 c5
  obtain ⟨c0, c1, c2, c3, c4, c5⟩ := call_cells k5
  go_wp2_with fail
  refine (run_Took_nil a 0 0 0 ⟨#[]⟩ _).mono ?_
  rintro e w6 ⟨rfl, m6⟩
  have k6 := k5.later m6 (by simp)
  have mm6 := mm5.trans m6 (by simp)
  clear k5 mm5 m6 c0 c1 c2 c3 c4 c5
  obtain ⟨c0, c1, c2, c3, c4, c5⟩ := call_cells k6
  go_wp2_with fail
  refine (run_Queue_nil a b _).mono ?_
  rintro e w7 ⟨rfl, m7⟩
  have k7 := k6.later m7 (by simp)
  have mm7 := mm6.trans m7 (by simp)
  clear k6 mm6 m7 c0 c1 c2 c3 c4 c5
  obtain ⟨c0, c1, c2, c3, c4, c5⟩ := call_cells k7
  go_wp2_with fail
  refine (run_Under_nil a _).mono ?_
  rintro e w8 ⟨rfl, m8⟩
  have k8 := k7.later m8 (by simp)
  have mm8 := mm7.trans m8 (by simp)
  clear k7 mm7 m8 c0 c1 c2 c3 c4 c5
  obtain ⟨c0, c1, c2, c3, c4, c5⟩ := call_cells k8
  go_wp2_with fail
  refine (run_Empty_nil _).mono ?_
  rintro e w9 ⟨rfl, m9⟩
  have k9 := k8.later m9 (by simp)
  have mm9 := mm8.trans m9 (by simp)
  clear k8 mm8 m9 c0 c1 c2 c3 c4 c5
  obtain ⟨c0, c1, c2, c3, c4, c5⟩ := call_cells k9
  go_wp2
  go_ret
  exact ⟨rfl, mm9.below⟩

end Go.Proofs.Ytonnooenebfbeaa
