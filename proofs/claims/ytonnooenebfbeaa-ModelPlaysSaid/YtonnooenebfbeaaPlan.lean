/- The contract of snake.Plan. -/
import Derived.Test.YtonnooenebfbeaaSnakeW
import Derived.Test.YtonnooenebfbeaaSlices
namespace Go.Proofs.Ytonnooenebfbeaa
open Go.RowKit

set_option maxRecDepth 100000 in
set_option maxHeartbeats 800000 in
theorem run_plan1 (c : Cfg) (B : Nat) (x y : Int) (w : World) (hB : Blk w B c.cells 25) :
    Calls Try.prog 49 #[.int .i64 x, .int .i64 y, .pointer (some ⟨B, 0, none⟩)] w fun e w' => e = .returned (.int .i64 (cmpI (c.lab x) (c.lab y))) ∧ Mod (fun _ => False) w w' := by
  obtain ⟨c0, c1, c2, c3, c4, c5, c6, c7, c8⟩ := cfg_cells hB
  have lB := hB.lt
  go_enter Try.func49, Try.ntmps49
  go_wp2_with fail
  go_region_held3 (fun w' => w'.cell? ⟨B, 0, none⟩ = some (.int .i64 c.W) ∧ w'.cell? ⟨B, 1, none⟩ = some (.int .i64 c.H) ∧ w'.cell? ⟨B, 2, none⟩ = some (.int .i64 c.Lanes) ∧ w'.cell? ⟨B, 3, none⟩ = some (.int .i64 c.Depth) ∧ w'.cell? ⟨B, 4, none⟩ = some (.int .i64 c.Ring) ∧ w'.cell? ⟨B, 5, none⟩ = some (.int .i64 c.Inbox) ∧ w'.cell? ⟨B, 6, none⟩ = some (.int .i64 c.Bound) ∧ w'.cell? ⟨B, 7, none⟩ = some (.bool c.West) ∧ w'.cell? ⟨B, 8, none⟩ = some (.bool c.Cast))
    (first
      | go_keep
      | exact cfg_cells (hB.drew.later m3 (by simp))
      | exact cfg_cells (hB.drew.later m4 (by simp))
      | exact cfg_cells ((hB.drew.later m3 (by simp)).later m4 (by simp))
      | exact cfg_cells ((hB.drew.later m4 (by simp)).later m3 (by simp)))
    (first
      | (go_at_call_of 51 (Value.int IntKind.i64 x); refine (run_label c x _).mono ?_; rintro e w3 ⟨rfl, m3⟩)
      | (go_at_call_of 51 (Value.int IntKind.i64 y); refine (run_label c y _).mono ?_; rintro e w4 ⟨rfl, m4⟩)
      | (go_at_call 50; refine (run_Compare _ _ _).mono ?_; rintro e w5 ⟨rfl, rfl⟩))
  all_goals go_wp2
  all_goals go_ret
  all_goals first
    | exact ⟨rfl, ((Mod.refl _ w).drew).trans (m3.trans m4 (by simp)) (by simp)⟩
    | exact ⟨rfl, ((Mod.refl _ w).drew).trans (m4.trans m3 (by simp)) (by simp)⟩

theorem cmps_plan (c : Cfg) (B G : Nat) (w : World) (hB : Blk w B c.cells 25) (hG : B ≠ G) :
    Cmps w G 49 #[.pointer (some ⟨B, 0, none⟩)] c.lab where
  enters := enters_of Try.func49 (by kernel_rfl) rfl
  call := fun W x y hm => run_plan1 c B x y W (hB.later hm hG)

set_option maxHeartbeats 400000 in
theorem run_plan2 (c : Cfg) (B : Nat) (n : Int) (w : World) (hB : Blk w B c.cells 25) :
    Calls Try.prog 52 #[.int .i64 n, .pointer (some ⟨B, 0, none⟩)] w fun e w' => e = .returned (.bool (!c.is n)) ∧ Mod (fun _ => False) w w' := by
  obtain ⟨c0, c1, c2, c3, c4, c5, c6, c7, c8⟩ := cfg_cells hB
  go_enter Try.func52, Try.ntmps52
  go_wp2_with fail
  refine (run_Is c n _).mono ?_
  rintro e w1 ⟨rfl, m1⟩
  go_wp2
  go_ret
  exact ⟨rfl, m1⟩

theorem tells_plan2 (c : Cfg) (B : Nat) (w : World) (hB : Blk w B c.cells 25) :
    Tells w 52 #[.pointer (some ⟨B, 0, none⟩)] (fun n => !c.is n) where
  enters := enters_of Try.func52 (by kernel_rfl) rfl
  call := fun W x hm => run_plan2 c B x W (hB.later hm (by simp))

/-- Two slices of the call's own share no block. -/
def Dj (v v' : Value) : Prop := ∀ k, v.ownBlock = some k → v'.ownBlock ≠ some k
theorem Dj.symm {v v' : Value} (h : Dj v v') : Dj v' v := fun k h1 h2 => h k h2 h1
theorem own_other {w w' : World} {base : Nat} {e : TypeId} {size : Nat} {v v' : Value} {n : Nat} {xs : List Value} (h : w.ownsRow base e size v' n xs) (m : Mod (fun k => v.ownBlock = some k) w w') (d : Dj v v') : w'.ownsRow base e size v' n xs := by
  refine h.kept (row := v.ownBlock) ⟨m.os, m.tape, m.output, m.size, fun q hq hne => m.block q hq (fun e => hne e.symm)⟩ ?_
  cases hv : v'.ownBlock with
  | none => exact Or.inl rfl
  | some k => exact Or.inr (fun e => d k e.symm hv)
theorem Dj.grown {w : World} {base : Nat} {e : TypeId} {size : Nat} {v v' : Value} {n g m cap : Nat} {xs : List Value} (d : Dj v v') (h : w.ownsRow base e size v' n xs) (hat : v.ownBlock = some g ∨ w.heap.size < g) : Dj (.slice (some ⟨g, 0, none⟩) m cap) v' := by
  intro k hk hk'
  have : g = k := by simpa [Value.ownBlock] using hk
  subst this
  rcases hat with h1 | h1
  · exact d g h1 hk'
  · have := (h.lt g hk').2
    omega

end Go.Proofs.Ytonnooenebfbeaa
