/- One that isn't there: what a nil model answers. -/
import Derived.Test.YtonnooenebfbeaaMdlOpen
namespace Go.Proofs.Ytonnooenebfbeaa
open Go.RowKit

set_option maxHeartbeats 800000 in
theorem run_may_nil (n : Int) (w : World) :
    Calls Try.prog 34 #[.pointer none, .int .i64 n] w fun e w' => e = .returned (.int .i64 1) ∧ Mod (fun _ => False) w w' := by
  go_enter Try.func34, Try.ntmps34
  go_wp2
  go_ret
  exact ⟨rfl, Mod.refl _ _⟩

set_option maxHeartbeats 800000 in
theorem run_Send_nil (src dst : Int) (data : ByteArray) (w : World) :
    Calls Try.prog 11 #[.pointer none, .int .i64 src, .int .i64 dst, .string data] w fun e w' => e = .returned (.int .i64 1) ∧ Mod (fun _ => False) w w' := by
  go_enter Try.func11, Try.ntmps11
  go_wp2_with fail
  refine (run_may_nil src _).mono ?_
  rintro e w1 ⟨rfl, m1⟩
  go_wp2
  go_ret
  exact ⟨rfl, m1⟩

set_option maxHeartbeats 800000 in
theorem run_Multicast_nil (src : Int) (s : Value) (data : ByteArray) (w : World) :
    Calls Try.prog 18 #[.pointer none, .int .i64 src, s, .string data] w fun e w' => e = .returned (.int .i64 1) ∧ Mod (fun _ => False) w w' := by
  go_enter Try.func18, Try.ntmps18
  go_wp2_with fail
  refine (run_may_nil src _).mono ?_
  rintro e w1 ⟨rfl, m1⟩
  go_wp2
  go_ret
  exact ⟨rfl, m1⟩

set_option maxHeartbeats 800000 in
theorem run_Close_nil (n : Int) (w : World) :
    Calls Try.prog 26 #[.pointer none, .int .i64 n] w fun e w' => e = .returned (.int .i64 1) ∧ Mod (fun _ => False) w w' := by
  go_enter Try.func26, Try.ntmps26
  go_wp2_with fail
  refine (run_may_nil n _).mono ?_
  rintro e w1 ⟨rfl, m1⟩
  go_wp2
  go_ret
  exact ⟨rfl, m1⟩

set_option maxHeartbeats 800000 in
theorem run_Took_nil (n : Int) (src dst sq : Int) (data : ByteArray) (w : World) :
    Calls Try.prog 12 #[.pointer none, .int .i64 n, .agg #[.int .i64 src, .int .i64 dst, .int .i64 sq, .string data]] w fun e w' => e = .returned (.int .i64 1) ∧ Mod (fun _ => False) w w' := by
  go_enter Try.func12, Try.ntmps12
  go_wp2
  go_ret
  exact ⟨rfl, ((Mod.refl _ _).alloc _)⟩

set_option maxHeartbeats 800000 in
theorem run_Queue_nil (a b : Int) (w : World) :
    Calls Try.prog 21 #[.pointer none, .int .i64 a, .int .i64 b] w fun e w' => e = .returned (.slice none 0 0) ∧ Mod (fun _ => False) w w' := by
  go_enter Try.func21, Try.ntmps21
  go_wp2
  go_ret
  exact ⟨rfl, Mod.refl _ _⟩

set_option maxHeartbeats 800000 in
theorem run_Under_nil (n : Int) (w : World) :
    Calls Try.prog 13 #[.pointer none, .int .i64 n] w fun e w' => e = .returned (.int .i64 0) ∧ Mod (fun _ => False) w w' := by
  go_enter Try.func13, Try.ntmps13
  go_wp2
  go_ret
  exact ⟨rfl, Mod.refl _ _⟩

set_option maxHeartbeats 800000 in
theorem run_Empty_nil  (w : World) :
    Calls Try.prog 14 #[.pointer none] w fun e w' => e = .returned (.bool true) ∧ Mod (fun _ => False) w w' := by
  go_enter Try.func14, Try.ntmps14
  go_wp2
  go_ret
  exact ⟨rfl, Mod.refl _ _⟩

end Go.Proofs.Ytonnooenebfbeaa
