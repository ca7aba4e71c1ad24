/- The walk of SnakePlans. -/
import Derived.Test.YtdpfbgppaofgmaaRefJ
import Derived.Test.YtdpfbgppaofgmaaRefG
import Derived.Test.YtdpfbgppaofgmaaSnakeH
namespace Go.Proofs.Ytdpfbgppaofgmaa
open Go.RowKit

theorem slv_take {w : World} {a : Option Addr} {n c : Nat} {xs : List Value} (h : SlV w (.slice a n c) xs) (k : Nat) (hk : k ≤ n) : SlV w (.slice a k c) (xs.take k) := by
  obtain ⟨a', n', c', hv, hn, hc, hm, h⟩ := h
  simp only [Value.slice.injEq] at hv
  obtain ⟨rfl, rfl, rfl⟩ := hv
  refine ⟨_, _, _, rfl, by simp; omega, by omega, hm, ?_⟩
  rcases h with rfl | ⟨B, off, ha, hB, h⟩
  · exact Or.inl (by simp)
  · refine Or.inr ⟨B, off, ha, hB, fun j hj => ?_⟩
    simp only [List.length_take] at hj
    rw [h j (by omega)]
    simp only [List.getD_eq_getElem?_getD, List.getElem?_take]
    rw [if_pos (by omega)]

set_option maxHeartbeats 400000 in
theorem run_few (v : Value) (l : List Int) (w : World) (hs : SlV w v (l.map (Value.int .i64))) :
    Calls Try.prog 17 #[v] w fun e w' => ∃ r, e = .returned r ∧ w' = w ∧ SlV w r ((l.take 12).map (Value.int .i64)) := by
  obtain ⟨a, n, c, rfl, hn, hc, hm, -⟩ := id hs
  rw [List.length_map] at hn
  have HS := Lib.hid hs
  have HN := Lib.hid hn
  unfold maxLen at hm
  clear hs hn
  by_cases h : n ≤ 12
  · have hfin : SlV w (.slice a n c) ((l.take 12).map (Value.int .i64)) := by
      rw [List.take_of_length_le (by have := HN.out; omega)]
      exact HS.out
    generalize (l.take 12).map (Value.int .i64) = X at hfin ⊢
    have HF := Lib.hid hfin
    have q : ¬ (12 : Int) < (n : Int) := by omega
    clear hfin
    go_enter Try.func17, Try.ntmps17
    go_wp2
    all_goals go_ret
    all_goals exact ⟨_, rfl, rfl, HF.out⟩
  · have hfin : SlV w (.slice a 12 c) ((l.take 12).map (Value.int .i64)) := by
      rw [List.map_take]
      exact slv_take HS.out 12 (by omega)
    generalize (l.take 12).map (Value.int .i64) = X at hfin ⊢
    have HF := Lib.hid hfin
    have q : (12 : Int) < (n : Int) := by omega
    have q2 : (12 : Int) ≤ (c : Int) := by omega
    clear hfin
    go_enter Try.func17, Try.ntmps17
    go_wp2
    all_goals go_ret
    all_goals exact ⟨_, rfl, rfl, HF.out⟩

theorem same_nil (w : World) : SlV w (.slice none 0 0) (([] : List Int).map (Value.int .i64)) := ⟨_, _, _, rfl, rfl, Nat.le_refl _, by decide, Or.inl rfl⟩

set_option maxRecDepth 100000 in
set_option maxHeartbeats 8000000 in
theorem walk_SnakePlans {w : World} (c : Cfg) (a1 : Int) (w1 : (Lit.int .i64 a1).wf = true) (v2 : Value) (l2 : List Int) (sl2 : SlV w v2 (l2.map (Value.int .i64))) (ll2 : l2.length ≤ maxLen) (wl2 : ∀ x ∈ l2, (Lit.int .i64 x).wf = true) :
    Calls Try.prog 4 #[.agg c.cells, .int .i64 a1, v2] w fun e w' => e = .returned (.bool true) ∧ Below w.heap.size w w' := by
  clear w1 wl2 ll2
  have HSL := Lib.hid sl2
  have kb := Blk.made w c.cells 23
  have m0 : Mod (fun _ => False) w (w.alloc (.cells c.cells 23)) := (Mod.refl _ _).alloc _
  clear sl2
  simp only [Cfg.cells] at kb m0 ⊢
  go_enter Try.func4, Try.ntmps4
  go_wp2_with fail
  refine (run_lives _).mono ?_
  rintro e w1 ⟨rfl, m1⟩
  have k1 := kb.later m1 (by simp)
  have mm1 := m0.trans m1 (by simp)
  clear kb m0 m1
  obtain ⟨c0, c1, c2, c3, c4, c5, c6, c7, c8⟩ := cfg_cells k1
  by_cases hW : 8 < c.W
  · go_wp2
    go_ret
    exact ⟨rfl, mm1.below⟩
  by_cases hH : 8 < c.H
  · go_wp2
    go_ret
    exact ⟨rfl, mm1.below⟩
  go_wp2_with fail
  refine (run_few _ l2 _ (HSL.out.later mm1 (by simp))).mono ?_
  rintro e w2 ⟨r2, rfl, rfl, s2⟩
  have hl12 : (l2.take 12).length ≤ 12 := by simp; omega
  generalize l2.take 12 = ts at s2 hl12
  clear HSL
  have PP := fun W (h : SlV W r2 (ts.map (Value.int .i64))) => ref_Plan c a1 r2 ts W h hl12
  have PY := fun W (h : SlV W r2 (ts.map (Value.int .i64))) (hv : ts ≠ [] ∧ c.is a1 = true ∧ (∀ n ∈ ts, c.is n = true) ∧ ts.Nodup) => run_Plan_yes c a1 r2 ts W h hl12 hv.1 hv.2.1 hv.2.2.1 hv.2.2.2
  have PN := fun W (h : SlV W r2 (ts.map (Value.int .i64))) (hv : ¬ (ts ≠ [] ∧ c.is a1 = true ∧ (∀ n ∈ ts, c.is n = true) ∧ ts.Nodup)) => run_Plan_no c a1 r2 ts W h hl12 hv
  have W1 := fun W (h : SlV W r2 (ts.map (Value.int .i64))) => run_Way c a1 r2 ts W h (by omega)
  have W2 := fun W (h : SlV W r2 (ts.map (Value.int .i64))) => ref_Way c a1 r2 ts W h (by omega)
  have W3 := fun W (h : SlV W r2 (ts.map (Value.int .i64))) => run_Steps c a1 r2 ts W h (by omega)
  have HPP := Lib.hid PP
  have HPY := Lib.hid PY
  have HPN := Lib.hid PN
  have HW1 := Lib.hid W1
  have HW2 := Lib.hid W2
  have HW3 := Lib.hid W3
  have hwl : (c.way a1 ts).length ≤ 100000 := by
    unfold Cfg.way
    split
    · rename_i h
      simp only [Bool.and_eq_true, List.all_eq_true] at h
      have := Cfg.tail_len ts a1 h.1 h.2
      simp
      omega
    · simp
  clear PP PY PN W1 W2 W3
  by_cases hv : ts ≠ [] ∧ c.is a1 = true ∧ (∀ n ∈ ts, c.is n = true) ∧ ts.Nodup
  · have HV := Lib.hid hv
    clear hv
    go_wp2_with fail
    refine (HPY.out _ s2 HV.out).mono ?_
    rintro e w3 ⟨p0, p1, p2, ys, rfl, m3, hp, hso, sp0, sp1, sp2⟩
    obtain ⟨pa0, pn0, pc0, rfl, -, -, -, -⟩ := id sp0
    obtain ⟨pa1, pn1, pc1, rfl, -, -, -, -⟩ := id sp1
    obtain ⟨pa2, pn2, pc2, rfl, -, -, -, -⟩ := id sp2
    have hby := byl_plan c ys ts hp hso HV.out.2.2.1 HV.out.2.2.2
    have k3 := k1.later m3 (by simp)
    have mm3 := mm1.trans m3 (by simp)
    have l3 := k3.lt
    have mX : Mod (fun _ => False) w3 (w3.alloc (.cells #[.slice pa0 pn0 pc0, .slice pa1 pn1 pc1, .slice pa2 pn2 pc2] 33)) := (Mod.refl _ _).alloc _
    have kX := k3.later mX (by simp)
    have kp := Blk.made w3 #[.slice pa0 pn0 pc0, .slice pa1 pn1 pc1, .slice pa2 pn2 pc2] 33
    have mmX := mm3.trans mX (by simp)
    have SP0 := Lib.hid (sp0.later mX (by simp))
    have SP1 := Lib.hid (sp1.later mX (by simp))
    have SP2 := Lib.hid (sp2.later mX (by simp))
    have S2 := Lib.hid ((s2.later m3 (by simp)).later mX (by simp))
    clear sp0 sp1 sp2 s2 k1 mm1 m3 c0 c1 c2 c3 c4 c5 c6 c7 c8
    obtain ⟨c0, c1, c2, c3, c4, c5, c6, c7, c8⟩ := cfg_cells k3
    go_wp2_with fail
    skip
    refine (HPP.out _ S2.out).mono ?_
    rintro e w4 ⟨m4, ⟨hno, -⟩ | ⟨-, q0, q1, q2, rfl, sq0, sq1, sq2⟩⟩
    · exact absurd HV.out hno
    rw [hby] at sq0 sq1 sq2
    obtain ⟨qa0, qn0, qc0, rfl, -, -, -, -⟩ := id sq0
    obtain ⟨qa1, qn1, qc1, rfl, -, -, -, -⟩ := id sq1
    obtain ⟨qa2, qn2, qc2, rfl, -, -, -, -⟩ := id sq2
    clear hby hp hso
    have k4 := kX.later m4 (by simp)
    have kp4 := kp.later m4 (by simp)
    have mm4 := mmX.trans m4 (by simp)
    have l4 := k4.lt
    have lp4 := kp4.lt
    have mY : Mod (fun _ => False) w4 (w4.alloc (.cells #[.slice qa0 qn0 qc0, .slice qa1 qn1 qc1, .slice qa2 qn2 qc2] 33)) := (Mod.refl _ _).alloc _
    have kY := k4.later mY (by simp)
    have kpY := kp4.later mY (by simp)
    have kqY := Blk.made w4 #[.slice qa0 qn0 qc0, .slice qa1 qn1 qc1, .slice qa2 qn2 qc2] 33
    have mmY := mm4.trans mY (by simp)
    have SPY0 := Lib.hid ((SP0.out.later m4 (by simp)).later mY (by simp))
    have SQY0 := Lib.hid (sq0.later mY (by simp))
    have SPY1 := Lib.hid ((SP1.out.later m4 (by simp)).later mY (by simp))
    have SQY1 := Lib.hid (sq1.later mY (by simp))
    have SPY2 := Lib.hid ((SP2.out.later m4 (by simp)).later mY (by simp))
    have SQY2 := Lib.hid (sq2.later mY (by simp))
    have SY := Lib.hid ((S2.out.later m4 (by simp)).later mY (by simp))
    clear sq0 sq1 sq2 SP0 SP1 SP2 S2 kX kp mmX mX k3 mm3 m4 c0 c1 c2 c3 c4 c5 c6 c7 c8
    obtain ⟨c0, c1, c2, c3, c4, c5, c6, c7, c8⟩ := cfg_cells k4
    go_wp2_with fail
    refine (HW2.out _ SY.out).mono ?_
    rintro e w5 ⟨rw5, rfl, m5, sw5⟩
    obtain ⟨wa, wn, wc, rfl, hwn, -, -, -⟩ := id sw5
    rw [List.length_map] at hwn
    have HWN := Lib.hid hwn
    have hwb : wn ≤ 100000 := by omega
    clear hwn k4 mm4 mY kp4 l4 lp4 c0 c1 c2 c3 c4 c5 c6 c7 c8
    have kpx0 := kpY.later m5 (by simp)
    have kqx0 := kqY.later m5 (by simp)
    have y0 := kpx0.cell 0
    have z0 := kqx0.cell 0
    simp at y0 z0
    go_wp2_with fail
    refine (ref_Same _ _ (c.ups a1 ys) (c.ups a1 ys) _ (SPY0.out.later m5 (by simp)) (SQY0.out.later m5 (by simp))).mono ?_
    rw [decide_eq_true (rfl : (c.ups a1 ys) = (c.ups a1 ys))]
    rintro e w6 ⟨rfl, d6⟩
    have n6 := m5.trans (d6.mod (fun _ => False)) (by simp)
    have kpx1 := kpY.later n6 (by simp)
    have kqx1 := kqY.later n6 (by simp)
    have y1 := kpx1.cell 1
    have z1 := kqx1.cell 1
    simp at y1 z1
    go_wp2_with fail
    refine (ref_Same _ _ (c.dns a1 ys).reverse (c.dns a1 ys).reverse _ (SPY1.out.later n6 (by simp)) (SQY1.out.later n6 (by simp))).mono ?_
    rw [decide_eq_true (rfl : (c.dns a1 ys).reverse = (c.dns a1 ys).reverse)]
    rintro e w7 ⟨rfl, d7⟩
    have n7 := n6.trans (d7.mod (fun _ => False)) (by simp)
    have kpx2 := kpY.later n7 (by simp)
    have kqx2 := kqY.later n7 (by simp)
    have y2 := kpx2.cell 2
    have z2 := kqx2.cell 2
    simp at y2 z2
    go_wp2_with fail
    refine (ref_Same _ _ (c.eqs a1 ys) (c.eqs a1 ys) _ (SPY2.out.later n7 (by simp)) (SQY2.out.later n7 (by simp))).mono ?_
    rw [decide_eq_true (rfl : (c.eqs a1 ys) = (c.eqs a1 ys))]
    rintro e w8 ⟨rfl, d8⟩
    have n8 := n7.trans (d8.mod (fun _ => False)) (by simp)
    have k8 := kY.later n8 (by simp)
    obtain ⟨c0, c1, c2, c3, c4, c5, c6, c7, c8⟩ := cfg_cells k8
    have sw8 := ((sw5.later (d6.mod (fun _ => False)) (by simp)).later (d7.mod (fun _ => False)) (by simp)).later (d8.mod (fun _ => False)) (by simp)
    go_wp2_with fail
    refine (HW1.out _ (SY.out.later n8 (by simp))).mono ?_
    rintro e w9 ⟨rw9, rfl, m9, sw9⟩
    have k9 := k8.later m9 (by simp)
    have n9 := n8.trans m9 (by simp)
    clear k8 c0 c1 c2 c3 c4 c5 c6 c7 c8
    go_wp2_with fail
    refine (ref_Same _ _ (c.way a1 ts) (c.way a1 ts) _ sw9 (sw8.later m9 (by simp))).mono ?_
    rw [decide_eq_true (rfl : c.way a1 ts = c.way a1 ts)]
    rintro e w10 ⟨rfl, d10⟩
    have k10 := k9.later (d10.mod (fun _ => False)) (by simp)
    have n10 := n9.trans (d10.mod (fun _ => False)) (by simp)
    clear k9
    obtain ⟨c0, c1, c2, c3, c4, c5, c6, c7, c8⟩ := cfg_cells k10
    go_wp2_with fail
    refine (HW3.out _ (SY.out.later n10 (by simp))).mono ?_
    rw [HWN.out]
    rintro e w11 ⟨rfl, m11⟩
    have n11 := (mmY.trans n10 (by simp)).trans m11 (by simp)
    have u1 : IntKind.i64.wrap ((wn : Int) - 1) = (wn : Int) - 1 := IntWalk.i64_in _ (by omega)
    go_wp2
    go_ret
    exact ⟨by simp, n11.below⟩
  · have HV := Lib.hid hv
    clear hv
    go_wp2_with fail
    refine (HPN.out _ s2 HV.out).mono ?_
    rintro e w3 ⟨rfl, m3⟩
    have sp0 := same_nil w3
    have sp1 := same_nil w3
    have sp2 := same_nil w3
    have k3 := k1.later m3 (by simp)
    have mm3 := mm1.trans m3 (by simp)
    have l3 := k3.lt
    have mX : Mod (fun _ => False) w3 (w3.alloc (.cells #[.slice none 0 0, .slice none 0 0, .slice none 0 0] 33)) := (Mod.refl _ _).alloc _
    have kX := k3.later mX (by simp)
    have kp := Blk.made w3 #[.slice none 0 0, .slice none 0 0, .slice none 0 0] 33
    have mmX := mm3.trans mX (by simp)
    have SP0 := Lib.hid (sp0.later mX (by simp))
    have SP1 := Lib.hid (sp1.later mX (by simp))
    have SP2 := Lib.hid (sp2.later mX (by simp))
    have S2 := Lib.hid ((s2.later m3 (by simp)).later mX (by simp))
    clear sp0 sp1 sp2 s2 k1 mm1 m3 c0 c1 c2 c3 c4 c5 c6 c7 c8
    obtain ⟨c0, c1, c2, c3, c4, c5, c6, c7, c8⟩ := cfg_cells k3
    go_wp2_with fail
    skip
    refine (HPP.out _ S2.out).mono ?_
    rintro e w4 ⟨m4, ⟨-, rfl⟩ | ⟨hyes, -⟩⟩
    rotate_left
    · exact absurd hyes HV.out
    have sq0 := same_nil w4
    have sq1 := same_nil w4
    have sq2 := same_nil w4
    have k4 := kX.later m4 (by simp)
    have kp4 := kp.later m4 (by simp)
    have mm4 := mmX.trans m4 (by simp)
    have l4 := k4.lt
    have lp4 := kp4.lt
    have mY : Mod (fun _ => False) w4 (w4.alloc (.cells #[.slice none 0 0, .slice none 0 0, .slice none 0 0] 33)) := (Mod.refl _ _).alloc _
    have kY := k4.later mY (by simp)
    have kpY := kp4.later mY (by simp)
    have kqY := Blk.made w4 #[.slice none 0 0, .slice none 0 0, .slice none 0 0] 33
    have mmY := mm4.trans mY (by simp)
    have SPY0 := Lib.hid ((SP0.out.later m4 (by simp)).later mY (by simp))
    have SQY0 := Lib.hid (sq0.later mY (by simp))
    have SPY1 := Lib.hid ((SP1.out.later m4 (by simp)).later mY (by simp))
    have SQY1 := Lib.hid (sq1.later mY (by simp))
    have SPY2 := Lib.hid ((SP2.out.later m4 (by simp)).later mY (by simp))
    have SQY2 := Lib.hid (sq2.later mY (by simp))
    have SY := Lib.hid ((S2.out.later m4 (by simp)).later mY (by simp))
    clear sq0 sq1 sq2 SP0 SP1 SP2 S2 kX kp mmX mX k3 mm3 m4 c0 c1 c2 c3 c4 c5 c6 c7 c8
    obtain ⟨c0, c1, c2, c3, c4, c5, c6, c7, c8⟩ := cfg_cells k4
    go_wp2_with fail
    refine (HW2.out _ SY.out).mono ?_
    rintro e w5 ⟨rw5, rfl, m5, sw5⟩
    obtain ⟨wa, wn, wc, rfl, hwn, -, -, -⟩ := id sw5
    rw [List.length_map] at hwn
    have HWN := Lib.hid hwn
    have hwb : wn ≤ 100000 := by omega
    clear hwn k4 mm4 mY kp4 l4 lp4 c0 c1 c2 c3 c4 c5 c6 c7 c8
    have kpx0 := kpY.later m5 (by simp)
    have kqx0 := kqY.later m5 (by simp)
    have y0 := kpx0.cell 0
    have z0 := kqx0.cell 0
    simp at y0 z0
    go_wp2_with fail
    refine (ref_Same _ _ ([] : List Int) ([] : List Int) _ (SPY0.out.later m5 (by simp)) (SQY0.out.later m5 (by simp))).mono ?_
    rw [decide_eq_true (rfl : ([] : List Int) = ([] : List Int))]
    rintro e w6 ⟨rfl, d6⟩
    have n6 := m5.trans (d6.mod (fun _ => False)) (by simp)
    have kpx1 := kpY.later n6 (by simp)
    have kqx1 := kqY.later n6 (by simp)
    have y1 := kpx1.cell 1
    have z1 := kqx1.cell 1
    simp at y1 z1
    go_wp2_with fail
    refine (ref_Same _ _ ([] : List Int) ([] : List Int) _ (SPY1.out.later n6 (by simp)) (SQY1.out.later n6 (by simp))).mono ?_
    rw [decide_eq_true (rfl : ([] : List Int) = ([] : List Int))]
    rintro e w7 ⟨rfl, d7⟩
    have n7 := n6.trans (d7.mod (fun _ => False)) (by simp)
    have kpx2 := kpY.later n7 (by simp)
    have kqx2 := kqY.later n7 (by simp)
    have y2 := kpx2.cell 2
    have z2 := kqx2.cell 2
    simp at y2 z2
    go_wp2_with fail
    refine (ref_Same _ _ ([] : List Int) ([] : List Int) _ (SPY2.out.later n7 (by simp)) (SQY2.out.later n7 (by simp))).mono ?_
    rw [decide_eq_true (rfl : ([] : List Int) = ([] : List Int))]
    rintro e w8 ⟨rfl, d8⟩
    have n8 := n7.trans (d8.mod (fun _ => False)) (by simp)
    have k8 := kY.later n8 (by simp)
    obtain ⟨c0, c1, c2, c3, c4, c5, c6, c7, c8⟩ := cfg_cells k8
    have sw8 := ((sw5.later (d6.mod (fun _ => False)) (by simp)).later (d7.mod (fun _ => False)) (by simp)).later (d8.mod (fun _ => False)) (by simp)
    go_wp2_with fail
    refine (HW1.out _ (SY.out.later n8 (by simp))).mono ?_
    rintro e w9 ⟨rw9, rfl, m9, sw9⟩
    have k9 := k8.later m9 (by simp)
    have n9 := n8.trans m9 (by simp)
    clear k8 c0 c1 c2 c3 c4 c5 c6 c7 c8
    go_wp2_with fail
    refine (ref_Same _ _ (c.way a1 ts) (c.way a1 ts) _ sw9 (sw8.later m9 (by simp))).mono ?_
    rw [decide_eq_true (rfl : c.way a1 ts = c.way a1 ts)]
    rintro e w10 ⟨rfl, d10⟩
    have k10 := k9.later (d10.mod (fun _ => False)) (by simp)
    have n10 := n9.trans (d10.mod (fun _ => False)) (by simp)
    clear k9
    obtain ⟨c0, c1, c2, c3, c4, c5, c6, c7, c8⟩ := cfg_cells k10
    go_wp2_with fail
    refine (HW3.out _ (SY.out.later n10 (by simp))).mono ?_
    rw [HWN.out]
    rintro e w11 ⟨rfl, m11⟩
    have n11 := (mmY.trans n10 (by simp)).trans m11 (by simp)
    have u1 : IntKind.i64.wrap ((wn : Int) - 1) = (wn : Int) - 1 := IntWalk.i64_in _ (by omega)
    go_wp2
    go_ret
    exact ⟨by simp, n11.below⟩

end Go.Proofs.Ytdpfbgppaofgmaa
