/- A config stored whole over another one. -/
import Derived.Test.YtonnooenebfbeaaCfg
import Derived.Test.YtonnooenebfbeaaGrow
namespace Go.Proofs.Ytonnooenebfbeaa
open Go.RowKit

/-- A config stored over another one. -/
def put9 (w : World) (b : Nat) (c : Cfg) : World :=
  ((((((((w.setCell ⟨b, 0, none⟩ (.int .i64 c.W)).setCell ⟨b, 1, none⟩ (.int .i64 c.H)).setCell ⟨b, 2, none⟩ (.int .i64 c.Lanes)).setCell ⟨b, 3, none⟩ (.int .i64 c.Depth)).setCell ⟨b, 4, none⟩ (.int .i64 c.Ring)).setCell ⟨b, 5, none⟩ (.int .i64 c.Inbox)).setCell ⟨b, 6, none⟩ (.int .i64 c.Bound)).setCell ⟨b, 7, none⟩ (.bool c.West)).setCell ⟨b, 8, none⟩ (.bool c.Cast)
theorem put9_blk {w : World} {b : Nat} {c d : Cfg} {t : TypeId} (h : Blk w b c.cells t) : Blk (put9 w b d) b d.cells t := by
  have := ((((((((h.set 0 (.int .i64 d.W)).set 1 (.int .i64 d.H)).set 2 (.int .i64 d.Lanes)).set 3 (.int .i64 d.Depth)).set 4 (.int .i64 d.Ring)).set 5 (.int .i64 d.Inbox)).set 6 (.int .i64 d.Bound)).set 7 (.bool d.West)).set 8 (.bool d.Cast)
  unfold put9
  simpa [Cfg.cells] using this
theorem put9_mod {S : Nat → Prop} {a w : World} (h : Mod S a w) {b : Nat} (hb : S b ∨ a.heap.size ≤ b) (c : Cfg) : Mod S a (put9 w b c) :=
  ((((((((h.setCell hb _).setCell hb _).setCell hb _).setCell hb _).setCell hb _).setCell hb _).setCell hb _).setCell hb _).setCell hb _

end Go.Proofs.Ytonnooenebfbeaa
