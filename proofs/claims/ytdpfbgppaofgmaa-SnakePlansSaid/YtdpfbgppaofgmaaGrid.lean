/- Contracts of package grid. -/
import Derived.Test.YtdpfbgppaofgmaaCfg
namespace Go.Proofs.Ytdpfbgppaofgmaa
open Go.RowKit

/-- Is there a node? -/
def Cfg.is (c : Cfg) (n : Int) : Bool := decide (0 ≤ n) && decide (n < c.nodes)
theorem Cfg.is_iff (c : Cfg) (n : Int) : c.is n = true ↔ 0 ≤ n ∧ n < c.nodes := by simp [Cfg.is]
theorem Cfg.is_ok {c : Cfg} {n : Int} (h : c.is n = true) : c.Ok ∧ 0 ≤ n ∧ n < c.W * c.H := by
  rw [Cfg.is_iff] at h
  unfold Cfg.nodes at h
  split at h
  · rename_i hc
    exact ⟨c.ok_of hc, h.1, h.2⟩
  · omega
theorem Cfg.nodes_ok {c : Cfg} (h : c.Ok) : c.nodes = c.W * c.H := by unfold Cfg.nodes; rw [if_pos (c.chk_of h)]

set_option maxHeartbeats 400000 in
theorem run_Is (c : Cfg) (n : Int) (w : World) :
    Calls Try.prog 38 #[.agg c.cells, .int .i64 n] w fun e w' => e = .returned (.bool (c.is n)) ∧ Mod (fun _ => False) w w' := by
  have kb := Blk.made w c.cells 23
  have m0 : Mod (fun _ => False) w (w.alloc (.cells c.cells 23)) := (Mod.refl _ _).alloc _
  simp only [Cfg.cells] at kb m0 ⊢
  by_cases h : 0 ≤ n
  · have hv : c.is n = decide (n < c.nodes) := by simp [Cfg.is, h]
    have HV := Lib.hid hv
    clear hv
    go_enter Try.func38, Try.ntmps38
    go_wp2_with fail
    refine (run_Nodes c _).mono ?_
    rintro e w1 ⟨rfl, m1⟩
    go_wp2
    go_ret
    exact ⟨by rw [HV.out]; rfl, m0.trans m1 (by simp)⟩
  · have hv : c.is n = false := by simp [Cfg.is, h]
    have HV := Lib.hid hv
    clear hv
    go_enter Try.func38, Try.ntmps38
    go_wp2
    go_ret
    exact ⟨by rw [HV.out]; rfl, m0⟩

/-- The place of a node that is there. -/
def Cfg.px (c : Cfg) (n : Int) : Int := if c.is n then n % c.W else 0
def Cfg.py (c : Cfg) (n : Int) : Int := if c.is n then n / c.W else 0
def Cfg.pe (c : Cfg) (n : Int) : Int := if c.is n then 0 else 5

set_option maxHeartbeats 400000 in
theorem run_Place (c : Cfg) (n : Int) (w : World) :
    Calls Try.prog 29 #[.agg c.cells, .int .i64 n] w fun e w' => e = .returned (.tuple #[.int .i64 (c.px n), .int .i64 (c.py n), .int .i64 (c.pe n)]) ∧ Mod (fun _ => False) w w' := by
  have kb := Blk.made w c.cells 23
  have m0 : Mod (fun _ => False) w (w.alloc (.cells c.cells 23)) := (Mod.refl _ _).alloc _
  simp only [Cfg.cells] at kb m0 ⊢
  go_enter Try.func29, Try.ntmps29
  go_wp2_with fail
  refine (run_Is c n _).mono ?_
  rintro e w1 ⟨rfl, m1⟩
  have k1 := kb.later m1 (by simp)
  have mm := m0.trans m1 (by simp)
  clear kb m0 m1
  cases h : c.is n with
  | true =>
    obtain ⟨hok, h0, hlt⟩ := Cfg.is_ok h
    have hW1 := hok.W1
    have hW2 := hok.W2
    have hbd := mul_le_4096 hok.W1 hok.W2 hok.H1 hok.H2
    have h4 : n < 4096 := by omega
    have hfin : Value.tuple #[.int .i64 (n % c.W), .int .i64 (n / c.W), .int .i64 0] = .tuple #[.int .i64 (c.px n), .int .i64 (c.py n), .int .i64 (c.pe n)] := by simp [Cfg.px, Cfg.py, Cfg.pe, h]
    have HF := Lib.hid hfin
    have c0 := k1.cell 0
    simp at c0
    clear hfin h hok hbd hlt
    go_wp2
    go_quiet (fail)
    go_wp2
    go_ret3
    exact ⟨by rw [← HF.out]; rfl, mm.drewN _⟩
  | false =>
    have hfin : Value.tuple #[.int .i64 0, .int .i64 0, .int .i64 5] = .tuple #[.int .i64 (c.px n), .int .i64 (c.py n), .int .i64 (c.pe n)] := by simp [Cfg.px, Cfg.py, Cfg.pe, h]
    have HF := Lib.hid hfin
    clear hfin h
    go_wp2
    go_ret3
    exact ⟨by rw [← HF.out]; rfl, mm⟩

/-- The node of a place; false: there is none. -/
def Cfg.atB (c : Cfg) (x y : Int) : Bool := decide (c.chk = 0) && decide (0 ≤ x) && decide (0 ≤ y) && decide (x < c.W) && decide (y < c.H)
def Cfg.atV (c : Cfg) (x y : Int) : Int := if c.atB x y then y * c.W + x else 0
def Cfg.atE (c : Cfg) (x y : Int) : Int := if c.atB x y then 0 else 5

set_option maxHeartbeats 800000 in
theorem run_At (c : Cfg) (x y : Int) (w : World) :
    Calls Try.prog 35 #[.agg c.cells, .int .i64 x, .int .i64 y] w fun e w' => e = .returned (.tuple #[.int .i64 (c.atV x y), .int .i64 (c.atE x y)]) ∧ Mod (fun _ => False) w w' := by
  have kb := Blk.made w c.cells 23
  have m0 : Mod (fun _ => False) w (w.alloc (.cells c.cells 23)) := (Mod.refl _ _).alloc _
  simp only [Cfg.cells] at kb m0 ⊢
  go_enter Try.func35, Try.ntmps35
  go_wp2_with fail
  refine (run_Check c _).mono ?_
  rintro e w1 ⟨rfl, m1⟩
  have k1 := kb.later m1 (by simp)
  have mm := m0.trans m1 (by simp)
  have c0 := k1.cell 0
  have c1 := k1.cell 1
  simp at c0 c1
  clear kb m0 m1
  have hno : c.atB x y = false → Value.tuple #[.int .i64 0, .int .i64 5] = .tuple #[.int .i64 (c.atV x y), .int .i64 (c.atE x y)] := by intro h; simp [Cfg.atV, Cfg.atE, h]
  have HN := Lib.hid hno
  clear hno
  by_cases h : c.chk = 0
  · have hok := c.ok_of h
    by_cases hx : 0 ≤ x ∧ 0 ≤ y ∧ x < c.W ∧ y < c.H
    · obtain ⟨hx0, hy0, hxW, hyH⟩ := hx
      have hW1 := hok.W1
      have hW2 := hok.W2
      have hH2 := hok.H2
      have hb : c.atB x y = true := by simp [Cfg.atB, *]
      have hm := Int.mul_le_mul (show y ≤ 63 by omega) hW2 (by omega) (by omega)
      have hm0 : 0 ≤ y * c.W := Int.mul_nonneg hy0 (by omega)
      have hw : wrap64 (y * c.W) = y * c.W := by unfold wrap64; omega
      have hw2 : wrap64 (wrap64 (y * c.W) + x) = y * c.W + x := by rw [hw]; unfold wrap64; omega
      have hfin : Value.tuple #[.int .i64 (wrap64 (wrap64 (y * c.W) + x)), .int .i64 0] = .tuple #[.int .i64 (c.atV x y), .int .i64 (c.atE x y)] := by rw [hw2]; simp [Cfg.atV, Cfg.atE, hb]
      have HF := Lib.hid hfin
      rw [h]
      clear h hok hb hm hm0 hw hw2 hfin HN
      go_wp2
      go_ret2
      exact ⟨by rw [← HF.out]; rfl, mm⟩
    · have hb : c.atB x y = false := by
        simp only [Cfg.atB]
        rw [Bool.eq_false_iff]
        intro hh
        simp at hh
        exact hx ⟨hh.1.1.1.2, hh.1.1.2, hh.1.2, hh.2⟩
      have HB := Lib.hid hb
      rw [h]
      clear hb h hok
      by_cases h1 : x < 0
      · go_wp2
        go_ret2
        exact ⟨by rw [← HN.out HB.out]; rfl, mm⟩
      by_cases h2 : y < 0
      · go_wp2
        go_ret2
        exact ⟨by rw [← HN.out HB.out]; rfl, mm⟩
      by_cases h3 : x < c.W
      · have h4 : ¬ y < c.H := fun hh => hx ⟨by omega, by omega, h3, hh⟩
        clear hx
        go_wp2
        go_ret2
        exact ⟨by rw [← HN.out HB.out]; rfl, mm⟩
      · clear hx
        go_wp2
        go_ret2
        exact ⟨by rw [← HN.out HB.out]; rfl, mm⟩
  · have hb : c.atB x y = false := by simp [Cfg.atB, h]
    have h1 : (c.chk == 0) = false := by simpa using h
    have h2 : (c.chk != 0) = true := by simpa using h
    have HB := Lib.hid hb
    clear hb h
    go_wp2
    go_ret2
    exact ⟨by rw [← HN.out HB.out]; rfl, mm⟩

end Go.Proofs.Ytdpfbgppaofgmaa
