/- Contracts of the reference: Node of layer 5. -/
import Derived.Test.YtonnooenebfbeaaRefB
namespace Go.Proofs.Ytonnooenebfbeaa
open Go.RowKit

set_option maxHeartbeats 400000 in
theorem ref_Node (c : Cfg) (n : Int) (w : World) (hc : c.Ok) :
    Calls Try.prog 16 #[.agg c.cells, .int .i64 n] w fun e w' => e = .returned (.int .i64 (um n c.nodes)) ∧ Mod (fun _ => False) w w' := by
  have kb := Blk.made w c.cells 25
  have m0 : Mod (fun _ => False) w (w.alloc (.cells c.cells 25)) := (Mod.refl _ _).alloc _
  simp only [Cfg.cells] at kb m0 ⊢
  have hb := mul_le_4096 hc.W1 hc.W2 hc.H1 hc.H2
  rw [← Cfg.nodes_ok hc] at hb
  have hz : (IntKind.u64.wrap c.nodes) = c.nodes := by simp only [IntKind.wrap_u64]; omega
  have hz2 : (c.nodes == 0) = false := by simp; omega
  have hv : wrap64 ((IntKind.u64.wrap n).tmod c.nodes) = um n c.nodes := um_eq (by omega) (by omega)
  have HV := Lib.hid hv
  clear hv
  go_enter Try.func16, Try.ntmps16
  go_wp2_with fail
  refine (ref_Nodes c _).mono ?_
  rintro e w1 ⟨rfl, m1⟩
  have mm := m0.trans m1 (by simp)
  clear m1
  go_wp2
  go_ret
  exact ⟨by rw [← HV.out]; rfl, mm⟩

theorem Cfg.um_is {c : Cfg} (hc : c.Ok) (n : Int) : c.is (um n c.nodes) = true := by
  have hb := mul_le_4096 hc.W1 hc.W2 hc.H1 hc.H2
  rw [← Cfg.nodes_ok hc] at hb
  exact (c.is_iff _).2 (um_bd (by omega))

end Go.Proofs.Ytonnooenebfbeaa
