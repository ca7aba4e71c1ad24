/- What the snake laws share: a config stored whole; labels one behind the other are of nodes beside one another. -/
import Derived.Test.YtdpfbgppaofgmaaSnakeH
import Derived.Test.YtdpfbgppaofgmaaRefC
namespace Go.Proofs.Ytdpfbgppaofgmaa
open Go.RowKit

/-- A config stored over another one. -/
def put9 (w : World) (b : Nat) (c : Cfg) : World :=
  ((((((((w.setCell ⟨b, 0, none⟩ (.int .i64 c.W)).setCell ⟨b, 1, none⟩ (.int .i64 c.H)).setCell ⟨b, 2, none⟩ (.int .i64 c.Lanes)).setCell ⟨b, 3, none⟩ (.int .i64 c.Depth)).setCell ⟨b, 4, none⟩ (.int .i64 c.Ring)).setCell ⟨b, 5, none⟩ (.int .i64 c.Inbox)).setCell ⟨b, 6, none⟩ (.int .i64 c.Bound)).setCell ⟨b, 7, none⟩ (.bool c.West)).setCell ⟨b, 8, none⟩ (.bool c.Cast)
theorem put9_blk {w : World} {b : Nat} {c d : Cfg} {t : TypeId} (h : Blk w b c.cells t) : Blk (put9 w b d) b d.cells t := by
  have := ((((((((h.set 0 (.int .i64 d.W)).set 1 (.int .i64 d.H)).set 2 (.int .i64 d.Lanes)).set 3 (.int .i64 d.Depth)).set 4 (.int .i64 d.Ring)).set 5 (.int .i64 d.Inbox)).set 6 (.int .i64 d.Bound)).set 7 (.bool d.West)).set 8 (.bool d.Cast)
  unfold put9
  simpa [Cfg.cells] using this
theorem put9_mod {S : Nat → Prop} {a w : World} (h : Mod S a w) {b : Nat} (hb : S b ∨ a.heap.size ≤ b) (c : Cfg) : Mod S a (put9 w b c) :=
  ((((((((h.setCell hb _).setCell hb _).setCell hb _).setCell hb _).setCell hb _).setCell hb _).setCell hb _).setCell hb _).setCell hb _

theorem Cfg.far_bes {c : Cfg} {n p : Int} (h : p ∈ c.ports n) : c.far n (c.besV n p) = 1 := by
  obtain ⟨hp, hb⟩ := Cfg.mem_ports.1 h
  obtain ⟨h1, -, -, h4, h5, h6, -⟩ := Cfg.bes_is hb
  unfold Cfg.far
  rw [h1, h4, h5, h6]
  simp only [Bool.and_self, if_true]
  rcases hp with rfl | rfl | rfl | rfl <;> simp [dX, dY] <;> omega

theorem Cfg.far_next {c : Cfg} {l : Int} (h : c.is l = true) (h1 : c.is (l + 1) = true) : c.far (c.lab l) (c.lab (l + 1)) = 1 := by
  have hl := Cfg.lab_lab h
  have hl1 := Cfg.lab_lab h1
  have hi := (Cfg.lab_is h).1
  have hi1 := (Cfg.lab_is h1).1
  obtain ⟨p, hp, hq⟩ := Cfg.next_up hi (by rw [hl]; exact ((c.is_iff _).1 h1).2)
  have hb := (Cfg.mem_ports.1 hp).2
  have : c.besV (c.lab l) p = c.lab (l + 1) := Cfg.lab_inj (Cfg.bes_is hb).2.2.2.1 hi1 (by rw [hq, hl, hl1])
  rw [← this]
  exact Cfg.far_bes hp

end Go.Proofs.Ytdpfbgppaofgmaa
