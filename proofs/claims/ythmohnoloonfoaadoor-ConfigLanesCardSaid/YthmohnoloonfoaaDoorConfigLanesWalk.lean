/- The walk of ConfigLanes. -/
import Derived.Test.YthmohnoloonfoaaDoorLives04
namespace Go.Proofs.YthmohnoloonfoaaDoor
open Go.RowKit

theorem lanes_law {c : Cfg} (h : c.chk = 0) : (c.cls false).1 = 0 ∧ 1 ≤ (c.cls false).2 ∧ (c.cls false).2 + (c.cls true).2 = c.Lanes ∧ ((c.cls true).2 == 1) = c.Cast ∧ ((c.cls true).2 = 0 ∨ (c.cls true).1 = (c.cls false).2) ∧ 1 ≤ c.nodes ∧ (c.cls false).2 ≤ 8 ∧ 0 ≤ (c.cls true).2 ∧ (c.cls true).2 ≤ 1 := by
  have hok := c.chk_iff.1 h
  have hn := mul_le_4096 hok.W1 hok.W2 hok.H1 hok.H2
  have hn2 : c.nodes = c.W * c.H := by unfold Cfg.nodes; rw [if_pos h]
  have h1 := hok.L1
  have h2 := hok.L2
  have h3 := hok.C
  unfold Cfg.cls
  cases hc : c.Cast with
  | false => simp [h, hn2]; omega
  | true =>
    have := h3 hc
    simp [h, hn2]; omega
theorem lanes_no {c : Cfg} (h : c.chk ≠ 0) : c.cls false = (0, 0) ∧ c.cls true = (0, 0) ∧ c.nodes = 0 := by
  unfold Cfg.cls Cfg.nodes
  simp [h]

set_option maxRecDepth 100000 in
set_option maxHeartbeats 400000 in
theorem walk_ConfigLanes {w : World} (c : Cfg) (L : LibV w) (hw : 8 ≤ w.heap.size) :
    Calls Tryd.prog 6 #[.agg c.cells] w fun e w' => e = .returned (.bool true) ∧ Below w.heap.size w w' := by
  have kb := Blk.made w c.cells 23
  have m0 : Mod (fun _ => False) w (w.alloc (.cells c.cells 23)) := (Mod.refl _ _).alloc _
  have HL := Lib.hid L
  clear L
  simp only [Cfg.cells] at kb m0 ⊢
  go_enter Tryd.func6, Tryd.ntmps6
  go_wp2_with fail
  refine (run_lives04 _ (HL.out.later0 m0) (by simp; omega)).mono ?_
  rintro e w1 ⟨rfl, m1⟩
  have k1 := kb.later m1 (by simp)
  have mm1 := m0.trans m1 (by simp)
  clear kb m0 m1
  obtain ⟨c0, c1, c2, c3, c4, c5, c6, c7, c8⟩ := cells9 k1
  go_wp2_with fail
  refine (run_Class c false _).mono ?_
  rintro e w2 ⟨rfl, m2⟩
  have k2 := k1.later m2 (by simp)
  have mm2 := mm1.trans m2 (by simp)
  clear k1 mm1 m2 c0 c1 c2 c3 c4 c5 c6 c7 c8
  obtain ⟨c0, c1, c2, c3, c4, c5, c6, c7, c8⟩ := cells9 k2
  go_wp2_with fail
  refine (run_Class c true _).mono ?_
  rintro e w3 ⟨rfl, m3⟩
  have k3 := k2.later m3 (by simp)
  have mm3 := mm2.trans m3 (by simp)
  clear k2 mm2 m3 c0 c1 c2 c3 c4 c5 c6 c7 c8
  obtain ⟨c0, c1, c2, c3, c4, c5, c6, c7, c8⟩ := cells9 k3
  go_wp2_with fail
  refine (run_Check c _).mono ?_
  by_cases hk : c.chk = 0
  · obtain ⟨h1, h2, h3, h4, h5, h6, h7, h8, h9⟩ := lanes_law hk
    rw [hk]
    rintro e w4 ⟨rfl, m4⟩
    have k4 := k3.later m4 (by simp)
    have mm4 := mm3.trans m4 (by simp)
    clear k3 mm3 m4 c0 c1 c2 c3 c4 c5 c6 c7 c8 hk
    rw [h1]
    have HN := Lib.hid h6
    generalize (c.cls false).2 = n at h2 h3 h5 h7 ⊢
    generalize (c.cls true).2 = m at h3 h4 h5 h8 h9 ⊢
    generalize (c.cls true).1 = b at h5 ⊢
    clear h1 h6
    obtain ⟨W, H, La, D, R, I, B, we, ca⟩ := c
    dsimp only at h3 h4
    have hm : m = 0 ∧ ca = false ∧ n = La ∨ m = 1 ∧ ca = true ∧ b = n ∧ n = La - 1 := by
      cases ca with
      | false =>
        left
        have : m ≠ 1 := by simpa using h4
        exact ⟨by omega, rfl, by omega⟩
      | true =>
        right
        have : m = 1 := by simpa using h4
        exact ⟨this, rfl, h5.resolve_left (by omega), by omega⟩
    clear h3 h4 h5
    rcases hm with ⟨rfl, rfl, rfl⟩ | ⟨rfl, rfl, rfl, rfl⟩
    · obtain ⟨c0, c1, c2, c3, c4, c5, c6, c7, c8⟩ := cells9 k4
      dsimp only at c0 c1 c2 c3 c4 c5 c6 c7 c8
      go_wp2_with fail
      refine (run_Nodes ⟨W, H, n, D, R, I, B, we, false⟩ _).mono ?_
      rintro e w5 ⟨rfl, m5⟩
      have h6 := HN.out
      generalize Cfg.nodes _ = N at h6 ⊢
      have mm5 := mm4.trans m5 (by simp)
      go_wp2
      go_ret
      exact ⟨by simp [h6], mm5.below⟩
    · obtain ⟨c0, c1, c2, c3, c4, c5, c6, c7, c8⟩ := cells9 k4
      dsimp only at c0 c1 c2 c3 c4 c5 c6 c7 c8
      have q3 : (La - 1 + 1 == La) = true := by simp
      have q4 : (wrap64 (La - 1 + 1) == La) = true := by
        have : wrap64 (La - 1 + 1) = La := by unfold wrap64; omega
        rw [this]
        simp
      go_wp2_with fail
      refine (run_Nodes ⟨W, H, La, D, R, I, B, we, true⟩ _).mono ?_
      rintro e w5 ⟨rfl, m5⟩
      have h6 := HN.out
      generalize Cfg.nodes _ = N at h6 ⊢
      have mm5 := mm4.trans m5 (by simp)
      go_wp2
      go_ret
      exact ⟨by simp [h6], mm5.below⟩
  · obtain ⟨h1, h2, h3⟩ := lanes_no hk
    have H3 := Lib.hid h3
    have hk2 : (c.chk != 0) = true := by simp [hk]
    have hk3 : (c.chk == 0) = false := by simp [hk]
    generalize c.chk = E at hk hk2 hk3 ⊢
    rw [h1, h2]
    rintro e w4 ⟨rfl, m4⟩
    have k4 := k3.later m4 (by simp)
    have mm4 := mm3.trans m4 (by simp)
    clear k3 mm3 m4 c0 c1 c2 c3 c4 c5 c6 c7 c8 hk h1 h2 h3
    obtain ⟨c0, c1, c2, c3, c4, c5, c6, c7, c8⟩ := cells9 k4
    go_wp2_with fail
    refine (run_Nodes c _).mono ?_
    rw [H3.out]
    rintro e w5 ⟨rfl, m5⟩
    have mm5 := mm4.trans m5 (by simp)
    go_wp2
    go_ret
    exact ⟨rfl, mm5.below⟩

end Go.Proofs.YthmohnoloonfoaaDoor
