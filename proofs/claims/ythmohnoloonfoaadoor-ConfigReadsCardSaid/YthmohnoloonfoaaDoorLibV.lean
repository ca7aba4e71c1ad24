/- What the library's contracts ask of the package-level variables, out of what the row lists; it stands while no old block turns. -/
import Derived.Test.YthmohnoloonfoaaDoorBase
import Derived.Stop.LaidErr
import Derived.Lib.LaidTab
import Derived.HandedShaped
import Derived.Shelf.Vars
import Derived.Lib.ItoaNum
import Derived.LaidLaws
import Derived.LaidMore
import Derived.Stop.Joined
namespace Go.Proofs.YthmohnoloonfoaaDoor
open Go.RowKit

structure LibV (w : World) : Prop where
  ml : ∃ m, w.cell? ⟨0, 0, none⟩ = some (.int .i64 m)
  tab : Lib.TabIs Tryd.prog w "internal/strconv.uint64pow10" .u64 Lib.pow10Tab
  es : ∃ tp p, w.var? Tryd.prog "strconv.ErrSyntax" = some #[.iface tp p]
  er : ∃ tp p, w.var? Tryd.prog "strconv.ErrRange" = some #[.iface tp p]

theorem var_later {w w' : World} {S : Nat → Prop} (m : Mod S w w') {n : String} {g : Nat} (hg : Tryd.prog.globalNamed n = some g) (hS : ¬ S g) {cs : Array Value} (h : w.var? Tryd.prog n = some cs) : w'.var? Tryd.prog n = some cs := by
  unfold World.var? at h ⊢
  rw [hg] at h ⊢
  simp only [Option.bind_some] at h ⊢
  have hlt : g < w.heap.size := by
    rcases Nat.lt_or_ge g w.heap.size with h1 | h1
    · exact h1
    · rw [Array.getElem?_eq_none h1] at h
      simp at h
  rw [m.block g hlt hS]
  exact h

theorem gTab : Tryd.prog.globalNamed "internal/strconv.uint64pow10" = some 1 := by kernel_rfl
theorem gSyn : Tryd.prog.globalNamed "strconv.ErrSyntax" = some 2 := by kernel_rfl
theorem gRan : Tryd.prog.globalNamed "strconv.ErrRange" = some 3 := by kernel_rfl

theorem LibV.later {w w' : World} {S : Nat → Prop} (h : LibV w) (m : Mod S w w') (hS : ∀ g, g < 8 → ¬ S g) : LibV w' := by
  obtain ⟨⟨k, hk⟩, h2, ⟨tp, p, h3⟩, ⟨tq, q, h4⟩⟩ := h
  refine ⟨⟨k, (m.cell (World.block_lt_of_cell? _ _ hk) (hS _ (by decide))).trans hk⟩, var_later m gTab (hS _ (by decide)) h2, ⟨tp, p, var_later m gSyn (hS _ (by decide)) h3⟩, ⟨tq, q, var_later m gRan (hS _ (by decide)) h4⟩⟩
theorem LibV.later0 {w w' : World} (h : LibV w) (m : Mod (fun _ => False) w w') : LibV w' := h.later m (by simp)
theorem LibV.below {w w' : World} (h : LibV w) (m : Below w.heap.size w w') : LibV w' := h.later0 (Mod.of_below m rfl _)

end Go.Proofs.YthmohnoloonfoaaDoor
