/- Contracts of the reference: X, Y, At, Beside of layer 5; Label, of of layer 8. -/
import Derived.Test.YtonnooenebfbeaaRefB
import Derived.Test.YtonnooenebfbeaaSnakeA
namespace Go.Proofs.Ytonnooenebfbeaa
open Go.RowKit

set_option maxHeartbeats 400000 in
theorem ref_X (c : Cfg) (n : Int) (w : World) (h0 : 0 ≤ n) (hW : 1 ≤ c.W) :
    Calls Try.prog 76 #[.agg c.cells, .int .i64 n] w fun e w' => e = .returned (.int .i64 (n % c.W)) ∧ Mod (fun _ => False) w w' := by
  have m0 : Mod (fun _ => False) w (w.alloc (.cells c.cells 25)) := (Mod.refl _ _).alloc _
  simp only [Cfg.cells] at m0 ⊢
  have ht : n.tmod c.W = n % c.W := Int.tmod_eq_emod_of_nonneg h0
  have HT := Lib.hid ht
  have hz : (c.W == 0) = false := by simp; omega
  clear ht
  go_enter Try.func76, Try.ntmps76
  go_wp2
  go_ret
  exact ⟨by first | rfl | (rw [← HT.out]; rfl), m0⟩

set_option maxHeartbeats 400000 in
theorem ref_Y (c : Cfg) (n : Int) (w : World) (h0 : 0 ≤ n) (h1 : n ≤ 1000000) (hW : 1 ≤ c.W) :
    Calls Try.prog 77 #[.agg c.cells, .int .i64 n] w fun e w' => e = .returned (.int .i64 (n / c.W)) ∧ Mod (fun _ => False) w w' := by
  have m0 : Mod (fun _ => False) w (w.alloc (.cells c.cells 25)) := (Mod.refl _ _).alloc _
  simp only [Cfg.cells] at m0 ⊢
  have hz : (c.W == 0) = false := by simp; omega
  have hd0 : 0 ≤ n / c.W := Int.ediv_nonneg h0 (by omega)
  have hd1 : n / c.W ≤ n := Int.ediv_le_self _ h0
  go_enter Try.func77, Try.ntmps77
  go_wp2
  go_ret
  exact ⟨by first | rfl | go_num, m0⟩



set_option maxRecDepth 100000 in
set_option maxHeartbeats 1600000 in
theorem ref_Label (c : Cfg) (n : Int) (w : World) :
    Calls Try.prog 63 #[.agg c.cells, .int .i64 n] w fun e w' => e = .returned (.tuple #[.int .i64 (c.lab n), .int .i64 (c.pe n)]) ∧ Mod (fun _ => False) w w' := by
  have kb := Blk.made w c.cells 25
  have m0 : Mod (fun _ => False) w (w.alloc (.cells c.cells 25)) := (Mod.refl _ _).alloc _
  simp only [Cfg.cells] at kb m0 ⊢
  go_enter Try.func63, Try.ntmps63
  go_wp2_with fail
  refine (ref_Is c n _).mono ?_
  rintro e w1 ⟨rfl, m1⟩
  have k1 := kb.later m1 (by simp)
  have mm1 := m0.trans m1 (by simp)
  obtain ⟨c0, c1, c2, c3, c4, c5, c6, c7, c8⟩ := cfg_cells k1
  clear kb m0 m1
  cases h : c.is n with
  | false =>
    obtain ⟨-, -, e3⟩ := Cfg.p_no h
    have hl : c.lab n = 0 := by unfold Cfg.lab; rw [h]; rfl
    have hfin : Value.tuple #[.int .i64 0, .int .i64 5] = .tuple #[.int .i64 (c.lab n), .int .i64 (c.pe n)] := by rw [hl, e3]
    have HF := Lib.hid hfin
    clear h e3 hl hfin
    go_wp2
    go_ret2
    exact ⟨by rw [← HF.out]; rfl, mm1⟩
  | true =>
    obtain ⟨-, -, e3⟩ := Cfg.p_yes h
    obtain ⟨hok, h0, hlt⟩ := Cfg.is_ok h
    have hbb := mul_le_4096 hok.W1 hok.W2 hok.H1 hok.H2
    have hn4 : n ≤ 1000000 := by omega
    obtain ⟨x0, x1, y0, y1, b1, b2, b3⟩ := Cfg.p_bd h
    have hl : c.lab n = n / c.W * c.W + turnX c.W (n % c.W) (n / c.W) := by unfold Cfg.lab; rw [if_pos h]
    have hbd := Cfg.lab_bd (c := c) n
    rw [hl] at hbd
    obtain ⟨t0, t1⟩ := turnX_bd (y := n / c.W) x0 x1
    have hm0 : 0 ≤ n / c.W * c.W := Int.mul_nonneg y0 (by omega)
    have hw : IntKind.i64.wrap (n / c.W * c.W) = n / c.W * c.W := IntWalk.i64_in _ (by omega)
    have hw2 : IntKind.i64.wrap (n / c.W * c.W + turnX c.W (n % c.W) (n / c.W)) = n / c.W * c.W + turnX c.W (n % c.W) (n / c.W) := IntWalk.i64_in _ (by omega)
    have hfin : Value.tuple #[.int .i64 (n / c.W * c.W + turnX c.W (n % c.W) (n / c.W)), .int .i64 0] = .tuple #[.int .i64 (c.lab n), .int .i64 (c.pe n)] := by rw [hl, e3]
    have HF := Lib.hid hfin
    clear h e3 hl hfin hbd hlt hbb hok
    go_upto_region 3 with fail
    go_cut [6, 7] (fun a b w' => a = .int .i64 (n % c.W) ∧ b = .int .i64 (n / c.W) ∧ Mod (fun _ => False) w1 w')
    case first =>
      go_region_held3 (fun w' => w'.cell? ⟨w.heap.size, 0, none⟩ = some (.int .i64 c.W) ∧ w'.cell? ⟨w.heap.size, 1, none⟩ = some (.int .i64 c.H) ∧ w'.cell? ⟨w.heap.size, 2, none⟩ = some (.int .i64 c.Lanes) ∧ w'.cell? ⟨w.heap.size, 3, none⟩ = some (.int .i64 c.Depth) ∧ w'.cell? ⟨w.heap.size, 4, none⟩ = some (.int .i64 c.Ring) ∧ w'.cell? ⟨w.heap.size, 5, none⟩ = some (.int .i64 c.Inbox) ∧ w'.cell? ⟨w.heap.size, 6, none⟩ = some (.int .i64 c.Bound) ∧ w'.cell? ⟨w.heap.size, 7, none⟩ = some (.bool c.West) ∧ w'.cell? ⟨w.heap.size, 8, none⟩ = some (.bool c.Cast))
        (first
          | go_keep
          | exact cfg_cells (k1.drew.later m3 (by simp))
          | exact cfg_cells (k1.drew.later m4 (by simp))
          | exact cfg_cells ((k1.drew.later m3 (by simp)).later m4 (by simp))
          | exact cfg_cells ((k1.drew.later m4 (by simp)).later m3 (by simp)))
        (first
          | (go_at_call 76; refine (ref_X c n _ h0 b3).mono ?_; rintro e w3 ⟨rfl, m3⟩)
          | (go_at_call 77; refine (ref_Y c n _ h0 hn4 b3).mono ?_; rintro e w4 ⟨rfl, m4⟩))
      all_goals go_wp2_with fail
      all_goals go_meet
      all_goals first
        | exact ⟨rfl, rfl, ((Mod.refl _ w1).drew).trans (m3.trans m4 (by simp)) (by simp)⟩
        | exact ⟨rfl, rfl, ((Mod.refl _ w1).drew).trans (m4.trans m3 (by simp)) (by simp)⟩
    case rest =>
      obtain ⟨rfl, rfl, m5⟩ := hcut
      have k5 := k1.later m5 (by simp)
      have mm5 := mm1.trans m5 (by simp)
      clear k1 mm1 m5 c0 c1 c2 c3 c4 c5 c6 c7 c8
      obtain ⟨c0, c1, c2, c3, c4, c5, c6, c7, c8⟩ := cfg_cells k5
      generalize n % c.W = x at *
      generalize n / c.W = y at *
      by_cases hy : y % 2 = 1
      · have hv : turnX c.W x y = c.W - 1 - x := by unfold turnX; rw [if_pos hy]
        have ht : (y % 2 == 1) = true := by simp [hy]
        have hu1 : IntKind.i64.wrap (c.W - 1) = c.W - 1 := IntWalk.i64_in _ (by omega)
        have hu2 : IntKind.i64.wrap (c.W - 1 - x) = c.W - 1 - x := IntWalk.i64_in _ (by omega)
        rw [hv] at hw2 HF t0 t1
        clear hv hy
        go_wp2
        go_ret2
        exact ⟨by rw [← HF.out]; rfl, mm5⟩
      · have hv : turnX c.W x y = x := by unfold turnX; rw [if_neg hy]
        have ht : (y % 2 == 1) = false := by simp [hy]
        rw [hv] at hw2 HF t0 t1
        clear hv hy
        go_wp2
        go_ret2
        exact ⟨by rw [← HF.out]; rfl, mm5⟩

set_option maxHeartbeats 400000 in
theorem ref_of (c : Cfg) (n : Int) (w : World) :
    Calls Try.prog 57 #[.agg c.cells, .int .i64 n] w fun e w' => e = .returned (.int .i64 (c.lab n)) ∧ Mod (fun _ => False) w w' := by
  have m0 : Mod (fun _ => False) w (w.alloc (.cells c.cells 25)) := (Mod.refl _ _).alloc _
  simp only [Cfg.cells] at m0 ⊢
  go_enter Try.func57, Try.ntmps57
  go_wp2_with fail
  refine (ref_Label c n _).mono ?_
  rintro e w1 ⟨rfl, m1⟩
  have mm := m0.trans m1 (by simp)
  go_wp2
  go_ret
  exact ⟨rfl, mm⟩

end Go.Proofs.Ytonnooenebfbeaa
