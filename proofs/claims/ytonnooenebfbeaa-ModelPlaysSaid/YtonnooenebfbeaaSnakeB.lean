/- The contract of snake.Step. -/
import Derived.Test.YtonnooenebfbeaaSnakeA
namespace Go.Proofs.Ytonnooenebfbeaa
open Go.RowKit

/-- Is a label a step further, toward the goal and not past it? -/
def nearer (start goal best l : Int) : Bool := (decide (best < l) && decide (l ≤ goal) && decide (start < goal)) || (decide (l < best) && decide (goal ≤ l) && decide (goal < start))
/-- One port looked at: the best label so far, and its port. -/
def updS (c : Cfg) (n start goal : Int) (s : Int × Int) (p : Int) : Int × Int :=
  if nearer start goal s.1 (c.lab (c.besV n p)) then (c.lab (c.besV n p), p) else s
def Cfg.stepS (c : Cfg) (n tt : Int) (l : List Int) : Int × Int := l.foldl (updS c n (c.lab n) (c.lab tt)) (c.lab n, 0)
/-- The port of the step toward a node. -/
def Cfg.stepV (c : Cfg) (n tt : Int) : Int := if c.is n && c.is tt then (c.stepS n tt (c.ports n)).2 else 0

theorem Cfg.stepS_take (c : Cfg) (n tt : Int) (l : List Int) (k : Nat) (h : k < l.length) : c.stepS n tt (l.take (k + 1)) = updS c n (c.lab n) (c.lab tt) (c.stepS n tt (l.take k)) l[k] := by
  unfold Cfg.stepS
  rw [List.take_succ_eq_append_getElem h, List.foldl_append]
  rfl

theorem foldl_bd (c : Cfg) (n a g : Int) (l : List Int) : ∀ s : Int × Int, (0 ≤ s.1 ∧ s.1 < 4096) → 0 ≤ (l.foldl (updS c n a g) s).1 ∧ (l.foldl (updS c n a g) s).1 < 4096 := by
  induction l with
  | nil => intro s h; exact h
  | cons p ps ih =>
    intro s h
    rw [List.foldl_cons]
    refine ih _ ?_
    unfold updS
    split
    · exact Cfg.lab_bd _
    · exact h
theorem Cfg.stepS_bd (c : Cfg) (n tt : Int) (l : List Int) : 0 ≤ (c.stepS n tt l).1 ∧ (c.stepS n tt l).1 < 4096 := foldl_bd c n _ _ l _ (Cfg.lab_bd _)


end Go.Proofs.Ytonnooenebfbeaa
