/- Contracts of package snake: turned, Label, label, Node; grid.Far. -/
import Derived.Test.YtonnooenebfbeaaGridC
namespace Go.Proofs.Ytonnooenebfbeaa
open Go.RowKit

/-- How many steps two nodes are apart. -/
def Cfg.far (c : Cfg) (a b : Int) : Int :=
  if c.is a && c.is b then max (a % c.W - b % c.W) (b % c.W - a % c.W) + max (a / c.W - b / c.W) (b / c.W - a / c.W) else -1

theorem Cfg.p_yes {c : Cfg} {n : Int} (h : c.is n = true) : c.px n = n % c.W ∧ c.py n = n / c.W ∧ c.pe n = 0 := by simp [Cfg.px, Cfg.py, Cfg.pe, h]
theorem Cfg.p_no {c : Cfg} {n : Int} (h : c.is n = false) : c.px n = 0 ∧ c.py n = 0 ∧ c.pe n = 5 := by simp [Cfg.px, Cfg.py, Cfg.pe, h]
theorem Cfg.p_bd {c : Cfg} {n : Int} (h : c.is n = true) : 0 ≤ n % c.W ∧ n % c.W < c.W ∧ 0 ≤ n / c.W ∧ n / c.W < c.H ∧ c.W ≤ 64 ∧ c.H ≤ 64 ∧ 1 ≤ c.W := by
  obtain ⟨hok, h0, hlt⟩ := Cfg.is_ok h
  have hW := hok.W1
  refine ⟨Int.emod_nonneg _ (by omega), Int.emod_lt_of_pos _ (by omega), Int.ediv_nonneg h0 (by omega), ?_, hok.W2, hok.H2, hW⟩
  exact Int.ediv_lt_of_lt_mul (by omega) (by rw [Int.mul_comm]; exact hlt)


/-- A place along a row of the snake. -/
def turnX (W x y : Int) : Int := if y % 2 = 1 then W - 1 - x else x

set_option maxHeartbeats 400000 in
theorem run_turned (c : Cfg) (x y : Int) (w : World) (hx0 : 0 ≤ x) (hx1 : x < c.W) (hW : c.W ≤ 64) (hy0 : 0 ≤ y) (hy1 : y ≤ 5000) :
    Calls Try.prog 75 #[.agg c.cells, .int .i64 x, .int .i64 y] w fun e w' => e = .returned (.int .i64 (turnX c.W x y)) ∧ Mod (fun _ => False) w w' := by
  have kb := Blk.made w c.cells 25
  have m0 : Mod (fun _ => False) w (w.alloc (.cells c.cells 25)) := (Mod.refl _ _).alloc _
  simp only [Cfg.cells] at kb m0 ⊢
  by_cases h : y % 2 = 1
  · have hv : turnX c.W x y = c.W - 1 - x := by unfold turnX; rw [if_pos h]
    have HV := Lib.hid hv
    have ht : (y % 2 == 1) = true := by simp [h]
    clear hv h
    go_enter Try.func75, Try.ntmps75
    go_wp2
    go_ret
    exact ⟨by rw [HV.out]; rfl, m0⟩
  · have hv : turnX c.W x y = x := by unfold turnX; rw [if_neg h]
    have HV := Lib.hid hv
    have ht : (y % 2 == 1) = false := by simp [h]
    clear hv h
    go_enter Try.func75, Try.ntmps75
    go_wp2
    go_ret
    exact ⟨by rw [HV.out]; rfl, m0⟩

/-- A node's label; and the node of a label. -/
def Cfg.lab (c : Cfg) (n : Int) : Int := if c.is n then n / c.W * c.W + turnX c.W (n % c.W) (n / c.W) else 0

theorem turnX_bd {W x y : Int} (h0 : 0 ≤ x) (h1 : x < W) : 0 ≤ turnX W x y ∧ turnX W x y < W := by
  unfold turnX
  split <;> omega

theorem Cfg.lab_is {c : Cfg} {n : Int} (h : c.is n = true) : c.is (c.lab n) = true ∧ c.lab n % c.W = turnX c.W (n % c.W) (n / c.W) ∧ c.lab n / c.W = n / c.W := by
  obtain ⟨hok, h0, hlt⟩ := Cfg.is_ok h
  obtain ⟨x0, x1, y0, y1, b1, b2, b3⟩ := Cfg.p_bd h
  obtain ⟨t0, t1⟩ := turnX_bd (y := n / c.W) x0 x1
  have hl : c.lab n = n / c.W * c.W + turnX c.W (n % c.W) (n / c.W) := by unfold Cfg.lab; rw [if_pos h]
  rw [hl]
  generalize turnX c.W (n % c.W) (n / c.W) = t at *
  generalize n / c.W = y at *
  have hy : y * c.W ≤ (c.H - 1) * c.W := Int.mul_le_mul_of_nonneg_right (by omega) (by omega)
  have hyy : (c.H - 1) * c.W = c.W * c.H - c.W := by rw [Int.sub_mul, Int.one_mul, Int.mul_comm]
  have hy0 : 0 ≤ y * c.W := Int.mul_nonneg y0 (by omega)
  refine ⟨(Cfg.is_iff _ _).2 ⟨by omega, by rw [Cfg.nodes_ok hok]; omega⟩, ?_, ?_⟩
  · rw [Int.add_comm, Int.add_mul_emod_self_right, Int.emod_eq_of_lt t0 t1]
  · rw [Int.add_comm, Int.add_mul_ediv_right _ _ (by omega), Int.ediv_eq_zero_of_lt t0 t1, Int.zero_add]

theorem Cfg.lab_lab {c : Cfg} {n : Int} (h : c.is n = true) : c.lab (c.lab n) = n := by
  obtain ⟨h1, h2, h3⟩ := Cfg.lab_is h
  obtain ⟨x0, x1, y0, y1, b1, b2, b3⟩ := Cfg.p_bd h
  have hl : c.lab (c.lab n) = c.lab n / c.W * c.W + turnX c.W (c.lab n % c.W) (c.lab n / c.W) := by rw [Cfg.lab, if_pos h1]
  rw [hl, h2, h3]
  have ht : turnX c.W (turnX c.W (n % c.W) (n / c.W)) (n / c.W) = n % c.W := by
    unfold turnX
    split <;> omega
  rw [ht]
  have := Int.mul_ediv_add_emod n c.W
  rw [Int.mul_comm]
  omega

theorem Cfg.lab_bd {c : Cfg} (n : Int) : 0 ≤ c.lab n ∧ c.lab n < 4096 := by
  cases h : c.is n with
  | true =>
    obtain ⟨h1, -, -⟩ := Cfg.lab_is h
    rw [Cfg.is_iff] at h1
    have := c.nodes_bd
    omega
  | false =>
    unfold Cfg.lab
    rw [h]
    simp

set_option maxHeartbeats 800000 in
theorem run_Label (c : Cfg) (n : Int) (w : World) :
    Calls Try.prog 62 #[.agg c.cells, .int .i64 n] w fun e w' => e = .returned (.tuple #[.int .i64 (c.lab n), .int .i64 (c.pe n)]) ∧ Mod (fun _ => False) w w' := by
  have kb := Blk.made w c.cells 25
  have m0 : Mod (fun _ => False) w (w.alloc (.cells c.cells 25)) := (Mod.refl _ _).alloc _
  simp only [Cfg.cells] at kb m0 ⊢
  go_enter Try.func62, Try.ntmps62
  go_wp2_with fail
  refine (run_Place c n _).mono ?_
  rintro e w1 ⟨rfl, m1⟩
  have k1 := kb.later m1 (by simp)
  have mm1 := m0.trans m1 (by simp)
  obtain ⟨c0, c1, c2, c3, c4, c5, c6, c7, c8⟩ := cfg_cells k1
  clear kb m0 m1
  cases h : c.is n with
  | false =>
    obtain ⟨e1, e2, e3⟩ := Cfg.p_no h
    have hl : c.lab n = 0 := by unfold Cfg.lab; rw [h]; rfl
    have hfin : Value.tuple #[.int .i64 0, .int .i64 5] = .tuple #[.int .i64 (c.lab n), .int .i64 (c.pe n)] := by rw [hl, e3]
    have HF := Lib.hid hfin
    rw [e1, e2, e3]
    clear h e1 e2 e3 hl hfin
    go_wp2
    go_ret2
    exact ⟨by rw [← HF.out]; rfl, mm1⟩
  | true =>
    obtain ⟨e1, e2, e3⟩ := Cfg.p_yes h
    obtain ⟨x0, x1, y0, y1, b1, b2, b3⟩ := Cfg.p_bd h
    have hl : c.lab n = n / c.W * c.W + turnX c.W (n % c.W) (n / c.W) := by unfold Cfg.lab; rw [if_pos h]
    have hbd := Cfg.lab_bd (c := c) n
    rw [hl] at hbd
    obtain ⟨t0, t1⟩ := turnX_bd (y := n / c.W) x0 x1
    have hw : IntKind.i64.wrap (n / c.W * c.W) = n / c.W * c.W := IntWalk.i64_in _ (by omega)
    have hw2 : IntKind.i64.wrap (n / c.W * c.W + turnX c.W (n % c.W) (n / c.W)) = n / c.W * c.W + turnX c.W (n % c.W) (n / c.W) := IntWalk.i64_in _ (by omega)
    have hfin : Value.tuple #[.int .i64 (n / c.W * c.W + turnX c.W (n % c.W) (n / c.W)), .int .i64 0] = .tuple #[.int .i64 (c.lab n), .int .i64 (c.pe n)] := by rw [hl, e3]
    have HF := Lib.hid hfin
    rw [e1, e2, e3]
    clear h e1 e2 e3 hl hfin hbd
    generalize n % c.W = x at *
    generalize n / c.W = y at *
    go_wp2_with fail
    go_region_held3 (fun w' => w'.cell? ⟨w.heap.size, 0, none⟩ = some (.int .i64 c.W) ∧ w'.cell? ⟨w.heap.size, 1, none⟩ = some (.int .i64 c.H) ∧ w'.cell? ⟨w.heap.size, 2, none⟩ = some (.int .i64 c.Lanes) ∧ w'.cell? ⟨w.heap.size, 3, none⟩ = some (.int .i64 c.Depth) ∧ w'.cell? ⟨w.heap.size, 4, none⟩ = some (.int .i64 c.Ring) ∧ w'.cell? ⟨w.heap.size, 5, none⟩ = some (.int .i64 c.Inbox) ∧ w'.cell? ⟨w.heap.size, 6, none⟩ = some (.int .i64 c.Bound) ∧ w'.cell? ⟨w.heap.size, 7, none⟩ = some (.bool c.West) ∧ w'.cell? ⟨w.heap.size, 8, none⟩ = some (.bool c.Cast))
      (first
        | go_keep
        | exact cfg_cells (k1.drew.later m2 (by simp)))
      ((go_at_call 75; refine (run_turned c x y _ x0 x1 b1 y0 (by omega)).mono ?_; rintro e w2 ⟨rfl, m2⟩))
    have mm2 := mm1.drew.trans m2 (by simp)
    generalize turnX c.W x y = t at *
    go_wp2
    go_ret2
    exact ⟨by rw [← HF.out]; rfl, mm2⟩

set_option maxHeartbeats 400000 in
theorem run_label (c : Cfg) (n : Int) (w : World) :
    Calls Try.prog 51 #[.agg c.cells, .int .i64 n] w fun e w' => e = .returned (.int .i64 (c.lab n)) ∧ Mod (fun _ => False) w w' := by
  have m0 : Mod (fun _ => False) w (w.alloc (.cells c.cells 25)) := (Mod.refl _ _).alloc _
  simp only [Cfg.cells] at m0 ⊢
  go_enter Try.func51, Try.ntmps51
  go_wp2_with fail
  refine (run_Label c n _).mono ?_
  rintro e w1 ⟨rfl, m1⟩
  go_wp2
  go_ret
  exact ⟨rfl, m0.trans m1 (by simp)⟩

theorem Cfg.atB_turned {c : Cfg} {l : Int} (h : c.is l = true) : c.atB (turnX c.W (l % c.W) (l / c.W)) (l / c.W) = true := by
  obtain ⟨hok, h0, hlt⟩ := Cfg.is_ok h
  obtain ⟨x0, x1, y0, y1, b1, b2, b3⟩ := Cfg.p_bd h
  obtain ⟨t0, t1⟩ := turnX_bd (y := l / c.W) x0 x1
  simp [Cfg.atB, c.chk_of hok, t0, t1, y0, y1]


end Go.Proofs.Ytonnooenebfbeaa
