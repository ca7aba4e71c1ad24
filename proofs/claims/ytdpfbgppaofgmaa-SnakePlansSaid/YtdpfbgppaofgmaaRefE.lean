/- Contracts of the reference: X, Y, At, Beside of layer 5; Label, of of layer 8. -/
import Derived.Test.YtdpfbgppaofgmaaRefB
import Derived.Test.YtdpfbgppaofgmaaSnakeA
namespace Go.Proofs.Ytdpfbgppaofgmaa
open Go.RowKit

set_option maxHeartbeats 400000 in
theorem ref_X (c : Cfg) (n : Int) (w : World) (h0 : 0 ≤ n) (hW : 1 ≤ c.W) :
    Calls Try.prog 32 #[.agg c.cells, .int .i64 n] w fun e w' => e = .returned (.int .i64 (n % c.W)) ∧ Mod (fun _ => False) w w' := by
  have m0 : Mod (fun _ => False) w (w.alloc (.cells c.cells 23)) := (Mod.refl _ _).alloc _
  simp only [Cfg.cells] at m0 ⊢
  have ht : n.tmod c.W = n % c.W := Int.tmod_eq_emod_of_nonneg h0
  have HT := Lib.hid ht
  have hz : (c.W == 0) = false := by simp; omega
  clear ht
  go_enter Try.func32, Try.ntmps32
  go_wp2
  go_ret
  exact ⟨by first | rfl | (rw [← HT.out]; rfl), m0⟩

set_option maxHeartbeats 400000 in
theorem ref_Y (c : Cfg) (n : Int) (w : World) (h0 : 0 ≤ n) (h1 : n ≤ 1000000) (hW : 1 ≤ c.W) :
    Calls Try.prog 33 #[.agg c.cells, .int .i64 n] w fun e w' => e = .returned (.int .i64 (n / c.W)) ∧ Mod (fun _ => False) w w' := by
  have m0 : Mod (fun _ => False) w (w.alloc (.cells c.cells 23)) := (Mod.refl _ _).alloc _
  simp only [Cfg.cells] at m0 ⊢
  have hz : (c.W == 0) = false := by simp; omega
  have hd0 : 0 ≤ n / c.W := Int.ediv_nonneg h0 (by omega)
  have hd1 : n / c.W ≤ n := Int.ediv_le_self _ h0
  go_enter Try.func33, Try.ntmps33
  go_wp2
  go_ret
  exact ⟨by first | rfl | go_num, m0⟩

set_option maxHeartbeats 1600000 in
theorem ref_At (c : Cfg) (x y : Int) (w : World) :
    Calls Try.prog 56 #[.agg c.cells, .int .i64 x, .int .i64 y] w fun e w' => e = .returned (.tuple #[.int .i64 (c.atV x y), .int .i64 (c.atE x y)]) ∧ Mod (fun _ => False) w w' := by
  have kb := Blk.made w c.cells 23
  have m0 : Mod (fun _ => False) w (w.alloc (.cells c.cells 23)) := (Mod.refl _ _).alloc _
  simp only [Cfg.cells] at kb m0 ⊢
  go_enter Try.func56, Try.ntmps56
  go_wp2_with fail
  refine (ref_Nodes c _).mono ?_
  rintro e w1 ⟨rfl, m1⟩
  have k1 := kb.later m1 (by simp)
  have mm := m0.trans m1 (by simp)
  have c0 := k1.cell 0
  have c1 := k1.cell 1
  simp at c0 c1
  clear kb m0 m1
  have hno : c.atB x y = false → Value.tuple #[.int .i64 0, .int .i64 5] = .tuple #[.int .i64 (c.atV x y), .int .i64 (c.atE x y)] := by intro h; simp [Cfg.atV, Cfg.atE, h]
  have HN := Lib.hid hno
  clear hno
  by_cases h : c.chk = 0
  · have hok := c.ok_of h
    have hn1 := mul_le_4096 hok.W1 hok.W2 hok.H1 hok.H2
    rw [← Cfg.nodes_ok hok] at hn1
    have hz : (c.nodes == 0) = false := by simp; omega
    by_cases hx : 0 ≤ x ∧ 0 ≤ y ∧ x < c.W ∧ y < c.H
    · obtain ⟨hx0, hy0, hxW, hyH⟩ := hx
      have hW1 := hok.W1
      have hW2 := hok.W2
      have hH2 := hok.H2
      have hb : c.atB x y = true := by simp [Cfg.atB, *]
      have hm := Int.mul_le_mul (show y ≤ 63 by omega) hW2 (by omega) (by omega)
      have hm0 : 0 ≤ y * c.W := Int.mul_nonneg hy0 (by omega)
      have hw : wrap64 (y * c.W) = y * c.W := by unfold wrap64; omega
      have hw2 : wrap64 (wrap64 (y * c.W) + x) = y * c.W + x := by rw [hw]; unfold wrap64; omega
      have hfin : Value.tuple #[.int .i64 (wrap64 (wrap64 (y * c.W) + x)), .int .i64 0] = .tuple #[.int .i64 (c.atV x y), .int .i64 (c.atE x y)] := by rw [hw2]; simp [Cfg.atV, Cfg.atE, hb]
      have HF := Lib.hid hfin
      clear h hok hb hm hm0 hw hw2 hfin HN hn1
      generalize c.nodes = N at hz ⊢
      go_wp2
      go_ret2
      exact ⟨by rw [← HF.out]; rfl, mm⟩
    · have hb : c.atB x y = false := by
        simp only [Cfg.atB]
        rw [Bool.eq_false_iff]
        intro hh
        simp at hh
        exact hx ⟨hh.1.1.1.2, hh.1.1.2, hh.1.2, hh.2⟩
      have HB := Lib.hid hb
      clear hb h hok hn1
      generalize c.nodes = N at hz ⊢
      by_cases h1 : x < 0
      · go_wp2
        go_ret2
        exact ⟨by rw [← HN.out HB.out]; rfl, mm⟩
      by_cases h2 : c.W ≤ x
      · go_wp2
        go_ret2
        exact ⟨by rw [← HN.out HB.out]; rfl, mm⟩
      by_cases h3 : y < 0
      · go_wp2
        go_ret2
        exact ⟨by rw [← HN.out HB.out]; rfl, mm⟩
      have h4 : c.H ≤ y := by omega
      go_wp2
      go_ret2
      exact ⟨by rw [← HN.out HB.out]; rfl, mm⟩
  · have hb : c.atB x y = false := by simp [Cfg.atB, h]
    have HB := Lib.hid hb
    have hz : c.nodes = 0 := by unfold Cfg.nodes; rw [if_neg h]
    rw [hz]
    clear hb h hz
    go_wp2
    go_ret2
    exact ⟨by rw [← HN.out HB.out]; rfl, mm⟩

set_option maxRecDepth 100000 in
set_option maxHeartbeats 3200000 in
theorem ref_Beside (c : Cfg) (n p : Int) (w : World) :
    Calls Try.prog 42 #[.agg c.cells, .int .i64 n, .int .i64 p] w fun e w' => e = .returned (.tuple #[.int .i64 (c.besV n p), .bool (c.besB n p)]) ∧ Mod (fun _ => False) w w' := by
  have kb := Blk.made w c.cells 23
  have m0 : Mod (fun _ => False) w (w.alloc (.cells c.cells 23)) := (Mod.refl _ _).alloc _
  have hno : c.besB n p = false → Value.tuple #[.int .i64 0, .bool false] = .tuple #[.int .i64 (c.besV n p), .bool (c.besB n p)] := by intro h; simp [Cfg.besV, h]
  have HN := Lib.hid hno
  clear hno
  simp only [Cfg.cells] at kb m0 ⊢
  go_enter Try.func42, Try.ntmps42
  go_wp2_with fail
  refine (ref_Is c n _).mono ?_
  rintro e w1 ⟨rfl, m1⟩
  have k1 := kb.later m1 (by simp)
  have mm := m0.trans m1 (by simp)
  clear kb m0 m1
  cases h : c.is n with
  | false =>
    have hb : c.besB n p = false := by simp [Cfg.besB, h]
    have HB := Lib.hid hb
    clear hb h
    go_wp2
    go_ret2
    exact ⟨by rw [← HN.out HB.out]; rfl, mm⟩
  | true =>
  obtain ⟨hok, h0, hlt⟩ := Cfg.is_ok h
  have hW1 := hok.W1
  have hW2 := hok.W2
  have hbd := mul_le_4096 hok.W1 hok.W2 hok.H1 hok.H2
  by_cases hp0 : p < 0
  · have hb : c.besB n p = false := by
      have : ¬ 0 ≤ p := by omega
      simp [Cfg.besB, this]
    have HB := Lib.hid hb
    clear hb h
    go_wp2
    go_ret2
    exact ⟨by rw [← HN.out HB.out]; rfl, mm⟩
  by_cases hp4 : 4 < p
  · have hb : c.besB n p = false := by
      have : ¬ p < 5 := by omega
      simp [Cfg.besB, this]
    have HB := Lib.hid hb
    clear hb h
    go_wp2
    go_ret2
    exact ⟨by rw [← HN.out HB.out]; rfl, mm⟩
  have hx0 : 0 ≤ n % c.W := Int.emod_nonneg _ (by omega)
  have hx1 : n % c.W < c.W := Int.emod_lt_of_pos _ (by omega)
  have hy0 : 0 ≤ n / c.W := Int.ediv_nonneg h0 (by omega)
  have hy1 : n / c.W ≤ n := Int.ediv_le_self _ h0
  have hfin : Value.tuple #[.int .i64 (c.atV (n % c.W + dX p) (n / c.W + dY p)), .bool (c.atE (n % c.W + dX p) (n / c.W + dY p) == 0)] = .tuple #[.int .i64 (c.besV n p), .bool (c.besB n p)] := by
    rw [Cfg.atE_eq]
    have hb : c.besB n p = c.atB (n % c.W + dX p) (n / c.W + dY p) := by
      have : 0 ≤ p := by omega
      have : p < 5 := by omega
      simp [Cfg.besB, h, *]
    rw [hb]
    unfold Cfg.besV Cfg.atV
    rw [hb]
  have HF := Lib.hid hfin
  have hn4 : n ≤ 1000000 := by omega
  obtain ⟨c0, c1, c2, c3, c4, c5, c6, c7, c8⟩ := cfg_cells k1
  clear hfin h hok HN hbd
  go_upto_region 3 with fail
  go_cut [8, 9] (fun a b w' => a = .int .i64 (n % c.W) ∧ b = .int .i64 (n / c.W) ∧ Mod (fun _ => False) w1 w')
  case first =>
    go_region_held3 (fun w' => w'.cell? ⟨w.heap.size, 0, none⟩ = some (.int .i64 c.W) ∧ w'.cell? ⟨w.heap.size, 1, none⟩ = some (.int .i64 c.H) ∧ w'.cell? ⟨w.heap.size, 2, none⟩ = some (.int .i64 c.Lanes) ∧ w'.cell? ⟨w.heap.size, 3, none⟩ = some (.int .i64 c.Depth) ∧ w'.cell? ⟨w.heap.size, 4, none⟩ = some (.int .i64 c.Ring) ∧ w'.cell? ⟨w.heap.size, 5, none⟩ = some (.int .i64 c.Inbox) ∧ w'.cell? ⟨w.heap.size, 6, none⟩ = some (.int .i64 c.Bound) ∧ w'.cell? ⟨w.heap.size, 7, none⟩ = some (.bool c.West) ∧ w'.cell? ⟨w.heap.size, 8, none⟩ = some (.bool c.Cast))
      (first
        | go_keep
        | exact cfg_cells (k1.drew.later m3 (by simp))
        | exact cfg_cells (k1.drew.later m4 (by simp))
        | exact cfg_cells ((k1.drew.later m3 (by simp)).later m4 (by simp))
        | exact cfg_cells ((k1.drew.later m4 (by simp)).later m3 (by simp)))
      (first
        | (go_at_call 32; refine (ref_X c n _ h0 hW1).mono ?_; rintro e w3 ⟨rfl, m3⟩)
        | (go_at_call 33; refine (ref_Y c n _ h0 hn4 hW1).mono ?_; rintro e w4 ⟨rfl, m4⟩))
    all_goals go_wp2_with fail
    all_goals go_meet
    all_goals first
      | exact ⟨rfl, rfl, ((Mod.refl _ w1).drew).trans (m3.trans m4 (by simp)) (by simp)⟩
      | exact ⟨rfl, rfl, ((Mod.refl _ w1).drew).trans (m4.trans m3 (by simp)) (by simp)⟩
  case rest =>
    obtain ⟨rfl, rfl, m5⟩ := hcut
    have k5 := k1.later m5 (by simp)
    have mm5 := mm.trans m5 (by simp)
    clear k1 mm m5 c0 c1 c2 c3 c4 c5 c6 c7 c8
    obtain ⟨c0, c1, c2, c3, c4, c5, c6, c7, c8⟩ := cfg_cells k5
    generalize n % c.W = x at hx0 hx1 HF ⊢
    generalize n / c.W = y at hy0 hy1 HF ⊢
    clear hlt
    have hpp : p = 0 ∨ p = 1 ∨ p = 2 ∨ p = 3 ∨ p = 4 := by omega
    have u1 : IntKind.i64.wrap (x + 1) = x + 1 := IntWalk.i64_in _ (by omega)
    have u2 : IntKind.i64.wrap (x - 1) = x + -1 := IntWalk.i64_in _ (by omega)
    have u3 : IntKind.i64.wrap (y + 1) = y + 1 := IntWalk.i64_in _ (by omega)
    have u4 : IntKind.i64.wrap (y - 1) = y + -1 := IntWalk.i64_in _ (by omega)
    rcases hpp with rfl | rfl | rfl | rfl | rfl
    all_goals
      simp only [dX, dY] at HF
      simp at HF
      go_wp2_with fail
      refine (ref_At c _ _ _).mono ?_
      rintro e w6 ⟨rfl, m6⟩
      have mm6 := mm5.trans m6 (by simp)
      go_wp2
      go_ret2
      exact ⟨by rw [← HF.out.1, ← HF.out.2]; rfl, mm6⟩

set_option maxRecDepth 100000 in
set_option maxHeartbeats 1600000 in
theorem ref_Label (c : Cfg) (n : Int) (w : World) :
    Calls Try.prog 12 #[.agg c.cells, .int .i64 n] w fun e w' => e = .returned (.tuple #[.int .i64 (c.lab n), .int .i64 (c.pe n)]) ∧ Mod (fun _ => False) w w' := by
  have kb := Blk.made w c.cells 23
  have m0 : Mod (fun _ => False) w (w.alloc (.cells c.cells 23)) := (Mod.refl _ _).alloc _
  simp only [Cfg.cells] at kb m0 ⊢
  go_enter Try.func12, Try.ntmps12
  go_wp2_with fail
  refine (ref_Is c n _).mono ?_
  rintro e w1 ⟨rfl, m1⟩
  have k1 := kb.later m1 (by simp)
  have mm1 := m0.trans m1 (by simp)
  obtain ⟨c0, c1, c2, c3, c4, c5, c6, c7, c8⟩ := cfg_cells k1
  clear kb m0 m1
  cases h : c.is n with
  | false =>
    obtain ⟨-, -, e3⟩ := Cfg.p_no h
    have hl : c.lab n = 0 := by unfold Cfg.lab; rw [h]; rfl
    have hfin : Value.tuple #[.int .i64 0, .int .i64 5] = .tuple #[.int .i64 (c.lab n), .int .i64 (c.pe n)] := by rw [hl, e3]
    have HF := Lib.hid hfin
    clear h e3 hl hfin
    go_wp2
    go_ret2
    exact ⟨by rw [← HF.out]; rfl, mm1⟩
  | true =>
    obtain ⟨-, -, e3⟩ := Cfg.p_yes h
    obtain ⟨hok, h0, hlt⟩ := Cfg.is_ok h
    have hbb := mul_le_4096 hok.W1 hok.W2 hok.H1 hok.H2
    have hn4 : n ≤ 1000000 := by omega
    obtain ⟨x0, x1, y0, y1, b1, b2, b3⟩ := Cfg.p_bd h
    have hl : c.lab n = n / c.W * c.W + turnX c.W (n % c.W) (n / c.W) := by unfold Cfg.lab; rw [if_pos h]
    have hbd := Cfg.lab_bd (c := c) n
    rw [hl] at hbd
    obtain ⟨t0, t1⟩ := turnX_bd (y := n / c.W) x0 x1
    have hm0 : 0 ≤ n / c.W * c.W := Int.mul_nonneg y0 (by omega)
    have hw : IntKind.i64.wrap (n / c.W * c.W) = n / c.W * c.W := IntWalk.i64_in _ (by omega)
    have hw2 : IntKind.i64.wrap (n / c.W * c.W + turnX c.W (n % c.W) (n / c.W)) = n / c.W * c.W + turnX c.W (n % c.W) (n / c.W) := IntWalk.i64_in _ (by omega)
    have hfin : Value.tuple #[.int .i64 (n / c.W * c.W + turnX c.W (n % c.W) (n / c.W)), .int .i64 0] = .tuple #[.int .i64 (c.lab n), .int .i64 (c.pe n)] := by rw [hl, e3]
    have HF := Lib.hid hfin
    clear h e3 hl hfin hbd hlt hbb hok
    go_upto_region 3 with fail
    go_cut [6, 7] (fun a b w' => a = .int .i64 (n % c.W) ∧ b = .int .i64 (n / c.W) ∧ Mod (fun _ => False) w1 w')
    case first =>
      go_region_held3 (fun w' => w'.cell? ⟨w.heap.size, 0, none⟩ = some (.int .i64 c.W) ∧ w'.cell? ⟨w.heap.size, 1, none⟩ = some (.int .i64 c.H) ∧ w'.cell? ⟨w.heap.size, 2, none⟩ = some (.int .i64 c.Lanes) ∧ w'.cell? ⟨w.heap.size, 3, none⟩ = some (.int .i64 c.Depth) ∧ w'.cell? ⟨w.heap.size, 4, none⟩ = some (.int .i64 c.Ring) ∧ w'.cell? ⟨w.heap.size, 5, none⟩ = some (.int .i64 c.Inbox) ∧ w'.cell? ⟨w.heap.size, 6, none⟩ = some (.int .i64 c.Bound) ∧ w'.cell? ⟨w.heap.size, 7, none⟩ = some (.bool c.West) ∧ w'.cell? ⟨w.heap.size, 8, none⟩ = some (.bool c.Cast))
        (first
          | go_keep
          | exact cfg_cells (k1.drew.later m3 (by simp))
          | exact cfg_cells (k1.drew.later m4 (by simp))
          | exact cfg_cells ((k1.drew.later m3 (by simp)).later m4 (by simp))
          | exact cfg_cells ((k1.drew.later m4 (by simp)).later m3 (by simp)))
        (first
          | (go_at_call 32; refine (ref_X c n _ h0 b3).mono ?_; rintro e w3 ⟨rfl, m3⟩)
          | (go_at_call 33; refine (ref_Y c n _ h0 hn4 b3).mono ?_; rintro e w4 ⟨rfl, m4⟩))
      all_goals go_wp2_with fail
      all_goals go_meet
      all_goals first
        | exact ⟨rfl, rfl, ((Mod.refl _ w1).drew).trans (m3.trans m4 (by simp)) (by simp)⟩
        | exact ⟨rfl, rfl, ((Mod.refl _ w1).drew).trans (m4.trans m3 (by simp)) (by simp)⟩
    case rest =>
      obtain ⟨rfl, rfl, m5⟩ := hcut
      have k5 := k1.later m5 (by simp)
      have mm5 := mm1.trans m5 (by simp)
      clear k1 mm1 m5 c0 c1 c2 c3 c4 c5 c6 c7 c8
      obtain ⟨c0, c1, c2, c3, c4, c5, c6, c7, c8⟩ := cfg_cells k5
      generalize n % c.W = x at *
      generalize n / c.W = y at *
      by_cases hy : y % 2 = 1
      · have hv : turnX c.W x y = c.W - 1 - x := by unfold turnX; rw [if_pos hy]
        have ht : (y % 2 == 1) = true := by simp [hy]
        have hu1 : IntKind.i64.wrap (c.W - 1) = c.W - 1 := IntWalk.i64_in _ (by omega)
        have hu2 : IntKind.i64.wrap (c.W - 1 - x) = c.W - 1 - x := IntWalk.i64_in _ (by omega)
        rw [hv] at hw2 HF t0 t1
        clear hv hy
        go_wp2
        go_ret2
        exact ⟨by rw [← HF.out]; rfl, mm5⟩
      · have hv : turnX c.W x y = x := by unfold turnX; rw [if_neg hy]
        have ht : (y % 2 == 1) = false := by simp [hy]
        rw [hv] at hw2 HF t0 t1
        clear hv hy
        go_wp2
        go_ret2
        exact ⟨by rw [← HF.out]; rfl, mm5⟩

set_option maxHeartbeats 400000 in
theorem ref_of (c : Cfg) (n : Int) (w : World) :
    Calls Try.prog 37 #[.agg c.cells, .int .i64 n] w fun e w' => e = .returned (.int .i64 (c.lab n)) ∧ Mod (fun _ => False) w w' := by
  have m0 : Mod (fun _ => False) w (w.alloc (.cells c.cells 23)) := (Mod.refl _ _).alloc _
  simp only [Cfg.cells] at m0 ⊢
  go_enter Try.func37, Try.ntmps37
  go_wp2_with fail
  refine (ref_Label c n _).mono ?_
  rintro e w1 ⟨rfl, m1⟩
  have mm := m0.trans m1 (by simp)
  go_wp2
  go_ret
  exact ⟨rfl, mm⟩

end Go.Proofs.Ytdpfbgppaofgmaa
