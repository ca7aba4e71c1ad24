/- Contracts of package grid: Ports, Far. -/
import Derived.Test.YtonnooenebfbeaaGridB
namespace Go.Proofs.Ytonnooenebfbeaa
open Go.RowKit

/-- The ports of a node. -/
def Cfg.ports (c : Cfg) (n : Int) : List Int := [1, 2, 3, 4].filter fun p => c.besB n p

theorem info_int' : (Try.prog.info? 3).map (fun i => (i.zero, i.size, i.bytes)) = some (some (.int .i64 0), 1, 8) := by kernel_rfl

/-- The ports below one. -/
def Cfg.portsTo (c : Cfg) (n : Int) (k : Nat) : List Int := ((List.range k).map fun (j : Nat) => ((j : Int) + 1)).filter fun p => c.besB n p
theorem Cfg.portsTo_step (c : Cfg) (n : Int) (k : Nat) : c.portsTo n (k + 1) = c.portsTo n k ++ if c.besB n ((k : Int) + 1) then [(k : Int) + 1] else [] := by
  unfold Cfg.portsTo
  rw [List.range_succ, List.map_append, List.filter_append]
  congr 1
  simp only [List.map_cons, List.map_nil, List.filter_cons, List.filter_nil]
theorem Cfg.portsTo_all (c : Cfg) (n : Int) : c.portsTo n 4 = c.ports n := rfl
theorem Cfg.portsTo_le (c : Cfg) (n : Int) (k : Nat) : (c.portsTo n k).length ≤ k := by
  unfold Cfg.portsTo
  exact Nat.le_trans (List.length_filter_le _ _) (by simp)


end Go.Proofs.Ytonnooenebfbeaa
