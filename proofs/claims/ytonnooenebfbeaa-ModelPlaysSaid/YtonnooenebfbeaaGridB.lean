/- Contracts of package grid: Beside, Ports, Far. -/
import Derived.Test.YtonnooenebfbeaaGrid
namespace Go.Proofs.Ytonnooenebfbeaa
open Go.RowKit

/-- Where a port leads. -/
def dX (p : Int) : Int := if p = 1 then 1 else if p = 2 then -1 else 0
def dY (p : Int) : Int := if p = 3 then 1 else if p = 4 then -1 else 0
abbrev pt (x y : Int) : Value := .agg #[.int .i64 x, .int .i64 y]


/-- The node beside one. -/
def Cfg.besB (c : Cfg) (n p : Int) : Bool := c.is n && decide (0 ≤ p) && decide (p < 5) && c.atB (n % c.W + dX p) (n / c.W + dY p)
def Cfg.besV (c : Cfg) (n p : Int) : Int := if c.besB n p then (n / c.W + dY p) * c.W + (n % c.W + dX p) else 0

theorem cfg_cells {w : World} {b : Nat} {c : Cfg} {t : TypeId} (h : Blk w b c.cells t) :
    w.cell? ⟨b, 0, none⟩ = some (.int .i64 c.W) ∧ w.cell? ⟨b, 1, none⟩ = some (.int .i64 c.H) ∧ w.cell? ⟨b, 2, none⟩ = some (.int .i64 c.Lanes) ∧ w.cell? ⟨b, 3, none⟩ = some (.int .i64 c.Depth) ∧ w.cell? ⟨b, 4, none⟩ = some (.int .i64 c.Ring) ∧
    w.cell? ⟨b, 5, none⟩ = some (.int .i64 c.Inbox) ∧ w.cell? ⟨b, 6, none⟩ = some (.int .i64 c.Bound) ∧ w.cell? ⟨b, 7, none⟩ = some (.bool c.West) ∧ w.cell? ⟨b, 8, none⟩ = some (.bool c.Cast) :=
  ⟨h.cell 0, h.cell 1, h.cell 2, h.cell 3, h.cell 4, h.cell 5, h.cell 6, h.cell 7, h.cell 8⟩

theorem Cfg.atE_eq (c : Cfg) (x y : Int) : (c.atE x y == 0) = c.atB x y := by
  unfold Cfg.atE
  cases c.atB x y <;> rfl


end Go.Proofs.Ytonnooenebfbeaa
