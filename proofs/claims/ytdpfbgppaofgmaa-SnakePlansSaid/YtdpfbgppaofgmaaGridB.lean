/- Contracts of package grid: Beside, Ports, Far. -/
import Derived.Test.YtdpfbgppaofgmaaGrid
namespace Go.Proofs.Ytdpfbgppaofgmaa
open Go.RowKit

/-- Where a port leads. -/
def dX (p : Int) : Int := if p = 1 then 1 else if p = 2 then -1 else 0
def dY (p : Int) : Int := if p = 3 then 1 else if p = 4 then -1 else 0
abbrev pt (x y : Int) : Value := .agg #[.int .i64 x, .int .i64 y]

set_option maxHeartbeats 400000 in
theorem run_steps (w : World) :
    Calls Try.prog 55 #[] w fun e w' => e = .returned (.agg #[.int .i64 0, .int .i64 0, .int .i64 1, .int .i64 0, .int .i64 (-1), .int .i64 0, .int .i64 0, .int .i64 1, .int .i64 0, .int .i64 (-1)]) ∧ Mod (fun _ => False) w w' := by
  go_enter Try.func55, Try.ntmps55
  go_wp2
  go_returns
  exact ⟨rfl, (Mod.refl _ _).alloc _⟩

/-- The node beside one. -/
def Cfg.besB (c : Cfg) (n p : Int) : Bool := c.is n && decide (0 ≤ p) && decide (p < 5) && c.atB (n % c.W + dX p) (n / c.W + dY p)
def Cfg.besV (c : Cfg) (n p : Int) : Int := if c.besB n p then (n / c.W + dY p) * c.W + (n % c.W + dX p) else 0

theorem cfg_cells {w : World} {b : Nat} {c : Cfg} {t : TypeId} (h : Blk w b c.cells t) :
    w.cell? ⟨b, 0, none⟩ = some (.int .i64 c.W) ∧ w.cell? ⟨b, 1, none⟩ = some (.int .i64 c.H) ∧ w.cell? ⟨b, 2, none⟩ = some (.int .i64 c.Lanes) ∧ w.cell? ⟨b, 3, none⟩ = some (.int .i64 c.Depth) ∧ w.cell? ⟨b, 4, none⟩ = some (.int .i64 c.Ring) ∧
    w.cell? ⟨b, 5, none⟩ = some (.int .i64 c.Inbox) ∧ w.cell? ⟨b, 6, none⟩ = some (.int .i64 c.Bound) ∧ w.cell? ⟨b, 7, none⟩ = some (.bool c.West) ∧ w.cell? ⟨b, 8, none⟩ = some (.bool c.Cast) :=
  ⟨h.cell 0, h.cell 1, h.cell 2, h.cell 3, h.cell 4, h.cell 5, h.cell 6, h.cell 7, h.cell 8⟩

theorem Cfg.atE_eq (c : Cfg) (x y : Int) : (c.atE x y == 0) = c.atB x y := by
  unfold Cfg.atE
  cases c.atB x y <;> rfl

set_option maxRecDepth 100000 in
set_option maxHeartbeats 1600000 in
theorem run_Beside (c : Cfg) (n p : Int) (w : World) :
    Calls Try.prog 41 #[.agg c.cells, .int .i64 n, .int .i64 p] w fun e w' => e = .returned (.tuple #[.int .i64 (c.besV n p), .bool (c.besB n p)]) ∧ Mod (fun _ => False) w w' := by
  have kb := Blk.made w c.cells 23
  have m0 : Mod (fun _ => False) w (w.alloc (.cells c.cells 23)) := (Mod.refl _ _).alloc _
  have hno : c.besB n p = false → Value.tuple #[.int .i64 0, .bool false] = .tuple #[.int .i64 (c.besV n p), .bool (c.besB n p)] := by intro h; simp [Cfg.besV, h]
  have HN := Lib.hid hno
  clear hno
  simp only [Cfg.cells] at kb m0 ⊢
  go_enter Try.func41, Try.ntmps41
  go_wp2_with fail
  refine (run_Place c n _).mono ?_
  rintro e w1 ⟨rfl, m1⟩
  have k1 := kb.later m1 (by simp)
  have mm := m0.trans m1 (by simp)
  clear kb m0 m1
  cases h : c.is n with
  | false =>
    have hb : c.besB n p = false := by simp [Cfg.besB, h]
    have e1 : c.px n = 0 := by simp [Cfg.px, h]
    have e2 : c.py n = 0 := by simp [Cfg.py, h]
    have e3 : c.pe n = 5 := by simp [Cfg.pe, h]
    rw [e1, e2, e3]
    have HB := Lib.hid hb
    clear hb h e1 e2 e3
    go_wp2
    go_ret2
    exact ⟨by rw [← HN.out HB.out]; rfl, mm⟩
  | true =>
  obtain ⟨hok, h0, hlt⟩ := Cfg.is_ok h
  have hW1 := hok.W1
  have hW2 := hok.W2
  have hbd := mul_le_4096 hok.W1 hok.W2 hok.H1 hok.H2
  have e1 : c.px n = n % c.W := by simp [Cfg.px, h]
  have e2 : c.py n = n / c.W := by simp [Cfg.py, h]
  have e3 : c.pe n = 0 := by simp [Cfg.pe, h]
  rw [e1, e2, e3]
  by_cases hp : 0 ≤ p ∧ p < 5
  · obtain ⟨hp0, hp5⟩ := hp
    have hx0 : 0 ≤ n % c.W := Int.emod_nonneg _ (by omega)
    have hx1 : n % c.W < c.W := Int.emod_lt_of_pos _ (by omega)
    have hy0 : 0 ≤ n / c.W := Int.ediv_nonneg h0 (by omega)
    have hy1 : n / c.W ≤ n := Int.ediv_le_self _ h0
    have hfin : Value.tuple #[.int .i64 (c.atV (n % c.W + dX p) (n / c.W + dY p)), .bool (c.atE (n % c.W + dX p) (n / c.W + dY p) == 0)] = .tuple #[.int .i64 (c.besV n p), .bool (c.besB n p)] := by
      rw [Cfg.atE_eq]
      have hb : c.besB n p = c.atB (n % c.W + dX p) (n / c.W + dY p) := by simp [Cfg.besB, h, hp0, hp5]
      rw [hb]
      unfold Cfg.besV Cfg.atV
      rw [hb]
    have HF := Lib.hid hfin
    clear hfin h hok e1 e2 e3 HN
    generalize n % c.W = x at hx0 hx1 HF ⊢
    generalize n / c.W = y at hy0 hy1 HF ⊢
    have hn : n < 4096 := by omega
    clear hbd hlt
    have hpp : p = 0 ∨ p = 1 ∨ p = 2 ∨ p = 3 ∨ p = 4 := by omega
    have i0 : ∀ w, (Instr.index 60 (.agg #[.int .i64 0, .int .i64 0, .int .i64 1, .int .i64 0, .int .i64 (-1), .int .i64 0, .int .i64 0, .int .i64 1, .int .i64 0, .int .i64 (-1)]) (.int .i64 0)).run Try.prog w = .ok (.agg #[.int .i64 0, .int .i64 0]) w := fun _ => by kernel_rfl
    have i1 : ∀ w, (Instr.index 60 (.agg #[.int .i64 0, .int .i64 0, .int .i64 1, .int .i64 0, .int .i64 (-1), .int .i64 0, .int .i64 0, .int .i64 1, .int .i64 0, .int .i64 (-1)]) (.int .i64 1)).run Try.prog w = .ok (.agg #[.int .i64 1, .int .i64 0]) w := fun _ => by kernel_rfl
    have i2 : ∀ w, (Instr.index 60 (.agg #[.int .i64 0, .int .i64 0, .int .i64 1, .int .i64 0, .int .i64 (-1), .int .i64 0, .int .i64 0, .int .i64 1, .int .i64 0, .int .i64 (-1)]) (.int .i64 2)).run Try.prog w = .ok (.agg #[.int .i64 (-1), .int .i64 0]) w := fun _ => by kernel_rfl
    have i3 : ∀ w, (Instr.index 60 (.agg #[.int .i64 0, .int .i64 0, .int .i64 1, .int .i64 0, .int .i64 (-1), .int .i64 0, .int .i64 0, .int .i64 1, .int .i64 0, .int .i64 (-1)]) (.int .i64 3)).run Try.prog w = .ok (.agg #[.int .i64 0, .int .i64 1]) w := fun _ => by kernel_rfl
    have i4 : ∀ w, (Instr.index 60 (.agg #[.int .i64 0, .int .i64 0, .int .i64 1, .int .i64 0, .int .i64 (-1), .int .i64 0, .int .i64 0, .int .i64 1, .int .i64 0, .int .i64 (-1)]) (.int .i64 4)).run Try.prog w = .ok (.agg #[.int .i64 0, .int .i64 (-1)]) w := fun _ => by kernel_rfl
    rcases hpp with rfl | rfl | rfl | rfl | rfl
    all_goals
      go_wp2_with fail
      refine (run_steps _).mono ?_
      rintro e w2 ⟨rfl, m2⟩
      have k2 := k1.later m2 (by simp)
      have mm2 := mm.trans m2 (by simp)
      clear k1 m2 mm
      obtain ⟨c0, c1, c2, c3, c4, c5, c6, c7, c8⟩ := cfg_cells k2
      have lt2 := k2.lt
      simp only [dX, dY] at HF
      simp at HF
      go_wp2_with fail
      refine (run_At c _ _ _).mono ?_
      rintro e w3 ⟨rfl, m3⟩
      have mm3 := (mm2.alloc _).trans m3 (by simp)
      go_wp2
      go_ret2
      exact ⟨by rw [← HF.out.1, ← HF.out.2]; rfl, mm3⟩
  · have hb : c.besB n p = false := by
      rw [Bool.eq_false_iff]
      intro hh
      simp [Cfg.besB] at hh
      exact hp ⟨hh.1.1.2, hh.1.2⟩
    have HB := Lib.hid hb
    clear hb e1 e2 e3 h hok hbd hlt
    by_cases h1 : p < 0
    · clear hp
      go_wp2
      go_ret2
      exact ⟨by rw [← HN.out HB.out]; rfl, mm⟩
    · have h2 : 5 ≤ p := by omega
      clear hp
      go_wp2
      go_ret2
      exact ⟨by rw [← HN.out HB.out]; rfl, mm⟩

end Go.Proofs.Ytdpfbgppaofgmaa
