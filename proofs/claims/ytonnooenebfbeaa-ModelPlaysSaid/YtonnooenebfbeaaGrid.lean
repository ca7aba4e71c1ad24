/- Contracts of package grid. -/
import Derived.Test.YtonnooenebfbeaaCfg
namespace Go.Proofs.Ytonnooenebfbeaa
open Go.RowKit

/-- Is there a node? -/
def Cfg.is (c : Cfg) (n : Int) : Bool := decide (0 ≤ n) && decide (n < c.nodes)
theorem Cfg.is_iff (c : Cfg) (n : Int) : c.is n = true ↔ 0 ≤ n ∧ n < c.nodes := by simp [Cfg.is]
theorem Cfg.is_ok {c : Cfg} {n : Int} (h : c.is n = true) : c.Ok ∧ 0 ≤ n ∧ n < c.W * c.H := by
  rw [Cfg.is_iff] at h
  unfold Cfg.nodes at h
  split at h
  · rename_i hc
    exact ⟨c.ok_of hc, h.1, h.2⟩
  · omega
theorem Cfg.nodes_ok {c : Cfg} (h : c.Ok) : c.nodes = c.W * c.H := by unfold Cfg.nodes; rw [if_pos (c.chk_of h)]

set_option maxHeartbeats 400000 in
theorem run_Is (c : Cfg) (n : Int) (w : World) :
    Calls Try.prog 33 #[.agg c.cells, .int .i64 n] w fun e w' => e = .returned (.bool (c.is n)) ∧ Mod (fun _ => False) w w' := by
  have kb := Blk.made w c.cells 25
  have m0 : Mod (fun _ => False) w (w.alloc (.cells c.cells 25)) := (Mod.refl _ _).alloc _
  simp only [Cfg.cells] at kb m0 ⊢
  by_cases h : 0 ≤ n
  · have hv : c.is n = decide (n < c.nodes) := by simp [Cfg.is, h]
    have HV := Lib.hid hv
    clear hv
    go_enter Try.func33, Try.ntmps33
    go_wp2_with fail
    refine (run_Nodes c _).mono ?_
    rintro e w1 ⟨rfl, m1⟩
    go_wp2
    go_ret
    exact ⟨by rw [HV.out]; rfl, m0.trans m1 (by simp)⟩
  · have hv : c.is n = false := by simp [Cfg.is, h]
    have HV := Lib.hid hv
    clear hv
    go_enter Try.func33, Try.ntmps33
    go_wp2
    go_ret
    exact ⟨by rw [HV.out]; rfl, m0⟩

/-- The place of a node that is there. -/
def Cfg.px (c : Cfg) (n : Int) : Int := if c.is n then n % c.W else 0
def Cfg.py (c : Cfg) (n : Int) : Int := if c.is n then n / c.W else 0
def Cfg.pe (c : Cfg) (n : Int) : Int := if c.is n then 0 else 5

set_option maxHeartbeats 400000 in
theorem run_Place (c : Cfg) (n : Int) (w : World) :
    Calls Try.prog 74 #[.agg c.cells, .int .i64 n] w fun e w' => e = .returned (.tuple #[.int .i64 (c.px n), .int .i64 (c.py n), .int .i64 (c.pe n)]) ∧ Mod (fun _ => False) w w' := by
  have kb := Blk.made w c.cells 25
  have m0 : Mod (fun _ => False) w (w.alloc (.cells c.cells 25)) := (Mod.refl _ _).alloc _
  simp only [Cfg.cells] at kb m0 ⊢
  go_enter Try.func74, Try.ntmps74
  go_wp2_with fail
  refine (run_Is c n _).mono ?_
  rintro e w1 ⟨rfl, m1⟩
  have k1 := kb.later m1 (by simp)
  have mm := m0.trans m1 (by simp)
  clear kb m0 m1
  cases h : c.is n with
  | true =>
    obtain ⟨hok, h0, hlt⟩ := Cfg.is_ok h
    have hW1 := hok.W1
    have hW2 := hok.W2
    have hbd := mul_le_4096 hok.W1 hok.W2 hok.H1 hok.H2
    have h4 : n < 4096 := by omega
    have hfin : Value.tuple #[.int .i64 (n % c.W), .int .i64 (n / c.W), .int .i64 0] = .tuple #[.int .i64 (c.px n), .int .i64 (c.py n), .int .i64 (c.pe n)] := by simp [Cfg.px, Cfg.py, Cfg.pe, h]
    have HF := Lib.hid hfin
    have c0 := k1.cell 0
    simp at c0
    clear hfin h hok hbd hlt
    go_wp2
    go_quiet (fail)
    go_wp2
    go_ret3
    exact ⟨by rw [← HF.out]; rfl, mm.drewN _⟩
  | false =>
    have hfin : Value.tuple #[.int .i64 0, .int .i64 0, .int .i64 5] = .tuple #[.int .i64 (c.px n), .int .i64 (c.py n), .int .i64 (c.pe n)] := by simp [Cfg.px, Cfg.py, Cfg.pe, h]
    have HF := Lib.hid hfin
    clear hfin h
    go_wp2
    go_ret3
    exact ⟨by rw [← HF.out]; rfl, mm⟩

/-- The node of a place; false: there is none. -/
def Cfg.atB (c : Cfg) (x y : Int) : Bool := decide (c.chk = 0) && decide (0 ≤ x) && decide (0 ≤ y) && decide (x < c.W) && decide (y < c.H)
def Cfg.atV (c : Cfg) (x y : Int) : Int := if c.atB x y then y * c.W + x else 0
def Cfg.atE (c : Cfg) (x y : Int) : Int := if c.atB x y then 0 else 5


end Go.Proofs.Ytonnooenebfbeaa
