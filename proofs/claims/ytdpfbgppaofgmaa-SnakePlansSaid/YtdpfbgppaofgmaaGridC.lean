/- Contracts of package grid: Ports, Far. -/
import Derived.Test.YtdpfbgppaofgmaaGridB
namespace Go.Proofs.Ytdpfbgppaofgmaa
open Go.RowKit

/-- The ports of a node. -/
def Cfg.ports (c : Cfg) (n : Int) : List Int := [1, 2, 3, 4].filter fun p => c.besB n p

theorem info_int' : (Try.prog.info? 3).map (fun i => (i.zero, i.size, i.bytes)) = some (some (.int .i64 0), 1, 8) := by kernel_rfl

/-- The ports below one. -/
def Cfg.portsTo (c : Cfg) (n : Int) (k : Nat) : List Int := ((List.range k).map fun (j : Nat) => ((j : Int) + 1)).filter fun p => c.besB n p
theorem Cfg.portsTo_step (c : Cfg) (n : Int) (k : Nat) : c.portsTo n (k + 1) = c.portsTo n k ++ if c.besB n ((k : Int) + 1) then [(k : Int) + 1] else [] := by
  unfold Cfg.portsTo
  rw [List.range_succ, List.map_append, List.filter_append]
  congr 1
  simp only [List.map_cons, List.map_nil, List.filter_cons, List.filter_nil]
theorem Cfg.portsTo_all (c : Cfg) (n : Int) : c.portsTo n 4 = c.ports n := rfl
theorem Cfg.portsTo_le (c : Cfg) (n : Int) (k : Nat) : (c.portsTo n k).length ≤ k := by
  unfold Cfg.portsTo
  exact Nat.le_trans (List.length_filter_le _ _) (by simp)

set_option maxHeartbeats 800000 in
theorem run_Ports (c : Cfg) (n : Int) (w : World) :
    Calls Try.prog 40 #[.agg c.cells, .int .i64 n] w fun e w' => ∃ v, e = .returned v ∧ Mod (fun _ => False) w w' ∧ SlV w' v ((c.ports n).map (Value.int .i64)) := by
  have kb := Blk.made w c.cells 23
  have m0 : Mod (fun _ => False) w (w.alloc (.cells c.cells 23)) := (Mod.refl _ _).alloc _
  simp only [Cfg.cells] at kb m0 ⊢
  go_enter Try.func40, Try.ntmps40
  go_wp2
  generalize w.alloc (.cells #[.int .i64 c.W, .int .i64 c.H, .int .i64 c.Lanes, .int .i64 c.Depth, .int .i64 c.Ring, .int .i64 c.Inbox, .int .i64 c.Bound, .bool c.West, .bool c.Cast] 23) = w0 at kb m0 ⊢
  go_loopw [5, 6] (fun o i wr => ∃ k : Nat, k ≤ 4 ∧ i = .int .i64 ((k : Int) + 1) ∧ wr.ownsRow w0.heap.size 3 1 o (c.portsTo n k).length ((c.portsTo n k).map (Value.int .i64)) ∧ Mod (fun _ => False) w0 wr) (fun _ i _ => 5 - (intOf i).toNat)
  case atStart => exact ⟨0, by omega, rfl, World.ownsRow_nil _ _ _ _, Mod.refl _ _⟩
  case round =>
    obtain ⟨k, hk, rfl, hown, hmod⟩ := hrel
    have hsz := hmod.size
    have hle := c.portsTo_le n k
    by_cases hlt : k < 4
    · have k1 := kb.later hmod (by simp)
      obtain ⟨c0, c1, c2, c3, c4, c5, c6, c7, c8⟩ := cfg_cells k1
      have hst := Lib.hid (c.portsTo_step n k)
      go_wp2_with fail
      refine (run_Beside c n _ _).mono ?_
      rintro e w1 ⟨rfl, m1⟩
      have hown1 := hown.kept (row := none) ⟨m1.os, m1.tape, m1.output, m1.size, fun q hq _ => m1.block q hq (by simp)⟩ (by cases hv : Value.ownBlock _ <;> simp)
      have hm1 := hmod.trans m1 (by simp)
      have hsz1 := hm1.size
      clear c0 c1 c2 c3 c4 c5 c6 c7 c8 hown k1 m1 hmod
      cases hb : c.besB n ((k : Int) + 1) with
      | true =>
        have HB := Lib.hid hb
        clear hb
        have hlow := fun i (hi : i < w0.heap.size) e => Nat.not_le_of_lt hi (hown1.lt i e).1
        go_wp2_with (at_builtin; refine wpList_appendE rfl _ _ 31 rfl w0.heap.size 3 (.int .i64 0) 1 8 Try.underlying31 info_int' rfl (by decide) _ _ _ rfl hown1 #[_] rfl rfl (by simp [Value.oneCell']) (by unfold maxLen; omega) (by omega) (by omega) ?_; intro g cap wz hown2 hm2 hat2)
        have hm3 := hm1.trans' (S := fun _ => False) hm2 (fun _ _ h => h) (fun i hi hs => hlow i hi hs)
        go_wp2
        go_roundw
        case rel => exact ⟨k + 1, by omega, by go_num, by rw [hst.out, HB.out]; simpa using hown2, hm3⟩
        case measure => simp [intOf]; omega
      | false =>
        have HB := Lib.hid hb
        clear hb
        go_wp2
        go_roundw
        case rel => exact ⟨k + 1, by omega, by go_num, by rw [hst.out, HB.out]; simpa using hown1, hm1⟩
        case measure => simp [intOf]; omega
    · have hk4 : k = 4 := by omega
      subst hk4
      rw [Cfg.portsTo_all] at hown
      have hs := Lib.hid (SlV.own hown)
      clear hown
      go_wp2
      go_ret
      exact ⟨_, rfl, m0.trans hmod (by simp), hs.out⟩

end Go.Proofs.Ytdpfbgppaofgmaa
