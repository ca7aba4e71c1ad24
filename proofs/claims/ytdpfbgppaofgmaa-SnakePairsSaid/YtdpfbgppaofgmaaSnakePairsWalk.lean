/- The walk of SnakePairs. -/
import Derived.Test.YtdpfbgppaofgmaaSnakeK
import Derived.Test.YtdpfbgppaofgmaaRefD
namespace Go.Proofs.Ytdpfbgppaofgmaa
open Go.RowKit

theorem SlV.pre {w : World} {a : Option Addr} {n c : Nat} {xs : List Value} (h : SlV w (.slice a n c) xs) (k : Nat) (hk : k ≤ n) : SlV w (.slice a k c) (xs.take k) := by
  obtain ⟨a', n', c', hv, hn, hc, hm, h⟩ := h
  simp only [Value.slice.injEq] at hv
  obtain ⟨rfl, rfl, rfl⟩ := hv
  refine ⟨_, _, _, rfl, by simp; omega, by omega, hm, ?_⟩
  rcases h with rfl | ⟨B, off, ha, hB, h⟩
  · exact Or.inl (by simp)
  · refine Or.inr ⟨B, off, ha, hB, fun j hj => ?_⟩
    simp only [List.length_take] at hj
    rw [h j (by omega)]
    simp only [List.getD_eq_getElem?_getD, List.getElem?_take]
    rw [if_pos (by omega)]

set_option maxRecDepth 100000 in
set_option maxHeartbeats 8000000 in
theorem walk_SnakePairs {w : World} (c : Cfg) (a1 : Int) (w1 : (Lit.int .i64 a1).wf = true) (v2 : Value) (l2 : List Int) (sl2 : SlV w v2 (l2.map (Value.int .i64))) (ll2 : l2.length ≤ maxLen) (wl2 : ∀ x ∈ l2, (Lit.int .i64 x).wf = true) :
    Calls Try.prog 7 #[.agg c.cells, .int .i64 a1, v2] w fun e w' => e = .returned (.bool true) ∧ Below w.heap.size w w' := by
  clear w1 wl2 ll2
  have HSL := Lib.hid sl2
  clear sl2
  have kb := Blk.made w c.cells 23
  have m0 : Mod (fun _ => False) w (w.alloc (.cells c.cells 23)) := (Mod.refl _ _).alloc _
  obtain ⟨hok, hW, hH⟩ := c.small_ok
  simp only [Cfg.cells] at kb m0 ⊢
  go_enter Try.func7, Try.ntmps7
  go_wp2_with fail
  refine (run_lives _).mono ?_
  rintro e w1 ⟨rfl, m1⟩
  have k1 := kb.later m1 (by simp)
  have mm1 := m0.trans m1 (by simp)
  obtain ⟨c0, c1, c2, c3, c4, c5, c6, c7, c8⟩ := cfg_cells k1
  clear kb m0 m1
  go_wp2_with fail
  refine (run_Small c _).mono ?_
  rintro e w2 ⟨rfl, m2⟩
  have k2 := k1.later m2 (by simp)
  have mm2 := mm1.trans m2 (by simp)
  clear k1 mm1 m2 c0 c1 c2 c3 c4 c5 c6 c7 c8
  have l2 := k2.lt
  have z0 := k2.fz 0
  have z1 := k2.fz 1
  have z2 := k2.fz 2
  have z3 := k2.fz 3
  have z4 := k2.fz 4
  have z5 := k2.fz 5
  have z6 := k2.fz 6
  have z7 := k2.fz 7
  have z8 := k2.fz 8
  obtain ⟨c0, c1, c2, c3, c4, c5, c6, c7, c8⟩ := cfg_cells k2
  go_wp2_with fail
  have k3 := put9_blk (d := c.small) k2
  have mm3 := put9_mod mm2 (b := w.heap.size) (Or.inr (Nat.le_refl _)) c.small
  change Calls Try.prog _ _ (put9 w2 w.heap.size c.small) _
  generalize put9 w2 w.heap.size c.small = w3 at k3 mm3 ⊢
  clear k2 mm2 l2 c0 c1 c2 c3 c4 c5 c6 c7 c8 z0 z1 z2 z3 z4 z5 z6 z7 z8
  clear w1 w2
  generalize c.small = s at *
  refine (ref_Node s a1 _ hok).mono ?_
  rintro e w4 ⟨rfl, m4⟩
  have k4 := k3.later m4 (by simp)
  have mm4 := mm3.trans m4 (by simp)
  clear k3 mm3 m4
  obtain ⟨c0, c1, c2, c3, c4, c5, c6, c7, c8⟩ := cfg_cells k4
  have hn := Cfg.um_is hok a1
  generalize um a1 s.nodes = n at hn ⊢
  go_wp2_with fail
  refine (ref_Set s _ l2 8 _ hok (HSL.out.later mm4 (by simp)) (by omega)).mono ?_
  rintro e w5 ⟨r5, rfl, m5, s5⟩
  have k5 := k4.later m5 (by simp)
  have mm5 := mm4.trans m5 (by simp)
  clear k4 mm4 m5 HSL c0 c1 c2 c3 c4 c5 c6 c7 c8
  obtain ⟨hnd, his, hlen⟩ := Cfg.setL_spec hok l2 8
  generalize s.setL l2 8 = ts at hnd his hlen s5
  obtain ⟨ta, tn, tc, rfl, htn, htc, htm, -⟩ := id s5
  rw [List.length_map] at htn
  have htnb : tn ≤ 8 := by omega
  have S5 := Lib.hid s5
  have HTN := Lib.hid htn
  have HIS := Lib.hid his
  have HND := Lib.hid hnd
  unfold maxLen at htm
  clear s5 htn his hnd hlen
  have lb := k5.lt
  by_cases hz : tn = 0
  · subst hz
    go_wp2
    go_ret
    exact ⟨rfl, mm5.below⟩
  have hz1 : (((tn : Int)) == 0) = false := by simp; omega
  have hz2 : ¬ ((tn : Int) = 0) := by omega
  have u0 : IntKind.i64.wrap ((tn : Int) - 1) = (tn : Int) - 1 := IntWalk.i64_in _ (by omega)
  go_wp2
  go_loopw [8, 9] (fun o i wr => ∃ (k : Nat) (xs : List Int), k ≤ tn ∧ i = .int .i64 ((k : Int) - 1) ∧ wr.ownsRow w5.heap.size 3 1 o xs.length (xs.map (Value.int .i64)) ∧ Mod (fun q => w5.heap.size ≤ q) w5 wr ∧ xs = (ts.drop k).reverse) (fun _ i _ => (intOf i + 1).toNat)
  case atStart => exact ⟨tn, [], Nat.le_refl _, rfl, World.ownsRow_nil _ _ _ _, Mod.refl _ _, by rw [List.drop_eq_nil_of_le (by have := HTN.out; omega)]; rfl⟩
  case round =>
    obtain ⟨k, xs, hk, rfl, hown, hmod, hxs⟩ := hrel
    obtain ⟨wA, rfl⟩ : ∃ wo : World, wo = wr := ⟨_, rfl⟩
    obtain ⟨ao, no, co, rfl, hno, -, -, -⟩ := id (SlV.own hown)
    obtain rfl : no = xs.length := by simpa using hno.symm
    have hxl : xs.length ≤ 8 := by rw [hxs]; have := HTN.out; simp; omega
    have HX := Lib.hid hxs
    clear hxs hno
    cases k with
    | succ j =>
      have hkl : j < ts.length := by have := HTN.out; omega
      have hlt : j < tn := by omega
      obtain ⟨t, ht⟩ : ∃ t, ts[j]? = some t := ⟨_, List.getElem?_eq_getElem hkl⟩
      obtain ⟨B, off, rfl, hB, dt⟩ := S5.out.at j hlt
      rw [ints_get ht] at dt
      have dt := (hmod.cell (p := ⟨B, off + j, none⟩) hB (Nat.not_le.2 hB)).trans dt
      have hdr : xs ++ [t] = (ts.drop j).reverse := by
        obtain ⟨h2, h3⟩ := List.getElem?_eq_some_iff.1 ht
        rw [HX.out, List.drop_eq_getElem_cons h2, h3, List.reverse_cons]
      have HDR := Lib.hid hdr
      have e1 : (((j + 1 : Nat) : Int) - 1) = (j : Int) := by omega
      rw [e1]
      have u1 : IntKind.i64.wrap ((j : Int) - 1) = (j : Int) - 1 := IntWalk.i64_in _ (by omega)
      have b0 : (0 : Int) ≤ (j : Int) := by omega
      have b1 : (j : Int) < (tn : Int) := by omega
      have hs6 := hmod.size
      have hlow6 := fun i e => (hown.lt i e).1
      clear ht hdr HX hkl e1
      go_wp2_with (at_builtin; refine wpList_appendE rfl _ _ 31 rfl w5.heap.size 3 (.int .i64 0) 1 8 Try.underlying31 info_int' rfl (by decide) (.slice ao xs.length co) xs.length (xs.map (Value.int .i64)) rfl hown #[_] rfl rfl (by simp [Value.oneCell']) (by unfold maxLen; omega) (by omega) (by omega) ?_; intro g cap w7 hown7 hm7 hat7)
      have hmod7 := hmod.trans (S := fun q => w5.heap.size ≤ q) hm7 (fun i hi hs => hlow6 i hs)
      have hown8 : w7.ownsRow w5.heap.size 3 1 (.slice (some ⟨g, 0, none⟩) (xs.length + 1) cap) (xs ++ [t]).length ((xs ++ [t]).map (Value.int .i64)) := by simpa using hown7
      clear hown hown7 hm7 hmod hlow6
      go_wp2
      go_roundw
      case rel => exact ⟨j, xs ++ [t], by omega, by go_num, hown8, hmod7, HDR.out⟩
      case measure => simp [intOf]
    | zero =>
      have e1 : (((0 : Nat) : Int) - 1) = -1 := rfl
      rw [e1]
      have hxr : xs = ts.reverse := HX.out
      have hperm : ts.reverse.Perm ts := List.reverse_perm ts
      rw [hxr] at hown
      have hxl2 : ts.reverse.length = xs.length := by rw [hxr]
      rw [hxl2] at hown
      have so := SlV.own hown
      have SK := S5.out.later (hmod.mono (S' := fun _ => False) (fun k hk h => by omega)) (by simp)
      have MA : Mod (fun _ => False) w wA := mm5.trans hmod (fun i hi h => by have := mm5.size; omega)
      have kA := k5.later hmod (by omega)
      have hne : ts ≠ [] := by intro h; rw [h] at HTN; have := HTN.out; simp at this; omega
      have hner : ts.reverse ≠ [] := by simpa using hne
      have hl12 : ts.length ≤ 12 := by have := HTN.out; omega
      have hl12r : ts.reverse.length ≤ 12 := by simpa using hl12
      have hisr : ∀ x ∈ ts.reverse, s.is x = true := fun x hx => HIS.out x (by simpa using hx)
      have hndr : ts.reverse.Nodup := by unfold List.Nodup; rw [List.pairwise_reverse]; exact HND.out.imp (fun h => h.symm)
      have P1 := fun W (h : SlV W (.slice ta tn tc) (ts.map (Value.int .i64))) => run_Plan_yes s n _ ts W h hl12 hne hn HIS.out HND.out
      have P2 := fun W (h : SlV W (.slice ao xs.length co) (ts.reverse.map (Value.int .i64))) => run_Plan_yes s n _ ts.reverse W h hl12r hner hn hisr hndr
      have HP1 := Lib.hid P1
      have HP2 := Lib.hid P2
      clear P1 P2 hxr hperm hxl2 hne hner hl12 hl12r hisr hndr hown hmod e1
      obtain ⟨c0, c1, c2, c3, c4, c5, c6, c7, c8⟩ := cfg_cells kA
      go_wp2_with fail
      refine (HP1.out _ SK).mono ?_
      rintro e w8 ⟨p0, p1, p2, ys, rfl, m8, hp, hso, sp0, sp1, sp2⟩
      have k8 := kA.later m8 (by simp)
      have mm8 := MA.trans m8 (by simp)
      have so8 := so.later m8 (by simp)
      have SK8 := SK.later m8 (by simp)
      have HYP := Lib.hid hp
      have HYS := Lib.hid hso
      clear kA MA so SK m8 hp hso c0 c1 c2 c3 c4 c5 c6 c7 c8
      obtain ⟨c0, c1, c2, c3, c4, c5, c6, c7, c8⟩ := cfg_cells k8
      obtain ⟨pa0, pn0, pc0, rfl, pl0, -, -, -⟩ := id sp0
      obtain ⟨pa1, pn1, pc1, rfl, pl1, -, -, -⟩ := id sp1
      obtain ⟨pa2, pn2, pc2, rfl, pl2, -, -, -⟩ := id sp2
      have l8 := k8.lt
      have SP0 := Lib.hid sp0
      have SP1 := Lib.hid sp1
      have SP2 := Lib.hid sp2
      clear sp0 sp1 sp2 pl0 pl1 pl2
      go_wp2_with fail
      have ka := k8.alloc (.cells #[.slice pa0 pn0 pc0, .slice pa1 pn1 pc1, .slice pa2 pn2 pc2] 33)
      have kpa := Blk.made w8 #[.slice pa0 pn0 pc0, .slice pa1 pn1 pc1, .slice pa2 pn2 pc2] 33
      have m8a : Mod (fun _ => False) w8 (w8.alloc (.cells #[.slice pa0 pn0 pc0, .slice pa1 pn1 pc1, .slice pa2 pn2 pc2] 33)) := (Mod.refl _ _).alloc _
      refine (HP2.out _ (so8.later m8a (by simp))).mono ?_
      rintro e w9 ⟨q0, q1, q2, yr, rfl, m9, hp, hso, sq0, sq1, sq2⟩
      have m89 := m8a.trans m9 (by simp)
      have k9 := ka.later m9 (by simp)
      have kp9 := kpa.later m9 (by simp)
      have mm9 := mm8.trans m89 (by simp)
      have SK9 := SK8.later m89 (by simp)
      have SP09 := Lib.hid (SP0.out.later m89 (by simp))
      have SP19 := Lib.hid (SP1.out.later m89 (by simp))
      have SP29 := Lib.hid (SP2.out.later m89 (by simp))
      have hyr : yr = ys := sorted_eq yr ys ((hp.trans (List.reverse_perm ts)).trans HYP.out.symm) hso HYS.out (fun x hx => HIS.out x (by have := hp.subset hx; simpa using this))
      rw [hyr] at sq0 sq1 sq2
      obtain ⟨qa0, qn0, qc0, rfl, -, -, -, -⟩ := id sq0
      obtain ⟨qa1, qn1, qc1, rfl, -, -, -, -⟩ := id sq1
      obtain ⟨qa2, qn2, qc2, rfl, -, -, -, -⟩ := id sq2
      have SQ0 := Lib.hid sq0
      have SQ1 := Lib.hid sq1
      have SQ2 := Lib.hid sq2
      clear k8 so8 SK8 SP0 SP1 SP2 ka kpa m8a m9 m89 mm8 hp hso hyr sq0 sq1 sq2 c0 c1 c2 c3 c4 c5 c6 c7 c8 HP1 HP2
      obtain ⟨t0, ht0⟩ : ∃ t0, ts[0]? = some t0 := ⟨_, List.getElem?_eq_getElem (by have := HTN.out; omega)⟩
      have ht1 : ts.take 1 = [t0] := by rw [List.take_add_one, ht0]; rfl
      have hst0 : s.is t0 = true := HIS.out t0 (List.mem_of_getElem? ht0)
      obtain ⟨B, off, rfl, hB, dt⟩ := SK9.at 0 (by omega)
      rw [ints_get ht0] at dt
      have SK1 := SlV.pre SK9 1 (by omega)
      rw [← List.map_take, ht1] at SK1
      have HP3 := Lib.hid (fun W (h : SlV W (.slice (some ⟨B, off, none⟩) 1 tc) (([t0] : List Int).map (Value.int .i64))) => run_Plan_yes s n _ [t0] W h (by simp) (by simp) hn (by simpa using hst0) (by simp))
      have HST0 := Lib.hid hst0
      clear ht0 ht1 SK9 hst0
      have l9 := k9.lt
      have l9p := kp9.lt
      obtain ⟨c0, c1, c2, c3, c4, c5, c6, c7, c8⟩ := cfg_cells k9
      have b1 : (1 : Int) ≤ (tn : Int) := by omega
      have b2 : (1 : Int) ≤ (tc : Int) := by omega
      go_upto_region 15 with fail
      have mX : Mod (fun _ => False) w9 (w9.alloc (.cells #[.slice qa0 qn0 qc0, .slice qa1 qn1 qc1, .slice qa2 qn2 qc2] 33)) := (Mod.refl _ _).alloc _
      have kX := k9.later mX (by simp)
      have kpX := kp9.later mX (by simp)
      have kqX := Blk.made w9 #[.slice qa0 qn0 qc0, .slice qa1 qn1 qc1, .slice qa2 qn2 qc2] 33
      have mmX := mm9.trans mX (by simp)
      have SK1X := SK1.later mX (by simp)
      have SP0X := Lib.hid (SP09.out.later mX (by simp))
      have SP1X := Lib.hid (SP19.out.later mX (by simp))
      have SP2X := Lib.hid (SP29.out.later mX (by simp))
      have SQ0X := Lib.hid (SQ0.out.later mX (by simp))
      have SQ1X := Lib.hid (SQ1.out.later mX (by simp))
      have SQ2X := Lib.hid (SQ2.out.later mX (by simp))
      have dtX := (mX.cell (p := ⟨B, off + 0, none⟩) hB (by simp)).trans dt
      have hBX : B < _ := Nat.lt_of_lt_of_le hB mX.size
      clear k9 kp9 mm9 SK1 SP09 SP19 SP29 SQ0 SQ1 SQ2 mX dt l9 l9p c0 c1 c2 c3 c4 c5 c6 c7 c8 S5
      generalize w9.alloc (.cells #[.slice qa0 qn0 qc0, .slice qa1 qn1 qc1, .slice qa2 qn2 qc2] 33) = wX at kX kpX kqX mmX SK1X SP0X SP1X SP2X SQ0X SQ1X SQ2X dtX hBX ⊢
      obtain ⟨c0, c1, c2, c3, c4, c5, c6, c7, c8⟩ := cfg_cells kX
      have lX := kX.lt
      have spA : SlV wX.drew (.slice (some ⟨B, off, none⟩) 1 tc) (([t0] : List Int).map (Value.int .i64)) := SK1X.later (Mod.refl (fun _ => False) wX).drew (by simp)
      have mz : Mod (fun _ => False) wX (wX.alloc (.cells #[.slice none 0 0, .slice none 0 0, .slice none 0 0] 33)).drew := ((Mod.refl _ _).alloc _).drew
      have spB : SlV (wX.alloc (.cells #[.slice none 0 0, .slice none 0 0, .slice none 0 0] 33)).drew (.slice (some ⟨B, off, none⟩) 1 tc) (([t0] : List Int).map (Value.int .i64)) := SK1X.later mz (by simp)
      have kz : Blk (wX.alloc (.cells #[.slice none 0 0, .slice none 0 0, .slice none 0 0] 33)).drew wX.heap.size #[.slice none 0 0, .slice none 0 0, .slice none 0 0] 33 := (Blk.made wX _ _).drew
      go_cut [14, 15] (fun g e w' => ∃ G a0 n0 d0 a1 n1 d1 a2 n2 d2 zs, g = .pointer (some ⟨G, 0, none⟩) ∧ e = .int .i64 0 ∧ Mod (fun _ => False) wX w' ∧ Blk w' G #[.slice a0 n0 d0, .slice a1 n1 d1, .slice a2 n2 d2] 33 ∧ zs.Perm [t0] ∧ n0 = (s.ups n zs).length ∧ n1 = (s.dns n zs).reverse.length ∧ n2 = (s.eqs n zs).length)
      case first =>
        go_region_held3 (fun w' => w'.cell? ⟨w.heap.size, 0, none⟩ = some (Value.int .i64 s.W) ∧ w'.cell? ⟨w.heap.size, 1, none⟩ = some (Value.int .i64 s.H) ∧ w'.cell? ⟨w.heap.size, 2, none⟩ = some (Value.int .i64 s.Lanes) ∧ w'.cell? ⟨w.heap.size, 3, none⟩ = some (Value.int .i64 s.Depth) ∧ w'.cell? ⟨w.heap.size, 4, none⟩ = some (Value.int .i64 s.Ring) ∧ w'.cell? ⟨w.heap.size, 5, none⟩ = some (Value.int .i64 s.Inbox) ∧ w'.cell? ⟨w.heap.size, 6, none⟩ = some (Value.int .i64 s.Bound) ∧ w'.cell? ⟨w.heap.size, 7, none⟩ = some (Value.bool s.West) ∧ w'.cell? ⟨w.heap.size, 8, none⟩ = some (Value.bool s.Cast))
          (first
            | go_keep
            | exact cfg_cells (kX.later m10a (by simp))
            | exact cfg_cells (kX.later (m10a.alloc _) (by simp))
            | exact cfg_cells (kX.later (((m10a.setCell (p := ⟨wX.heap.size, 0, none⟩) (Or.inr (Nat.le_refl _)) _).setCell (p := ⟨wX.heap.size, 1, none⟩) (Or.inr (Nat.le_refl _)) _).setCell (p := ⟨wX.heap.size, 2, none⟩) (Or.inr (Nat.le_refl _)) _) (by simp))
            | exact cfg_cells kX.drew
            | exact cfg_cells (kX.later mz (by simp)))
          (first
            | (go_at_call 18; refine (HP3.out _ spA).mono ?_; rintro e w10 ⟨r0, r1, r2, zs, rfl, m10, hzp, -, o0, o1, o2⟩; obtain ⟨a0, n0, d0, rfl, h0, -, -, -⟩ := o0; obtain ⟨a1, n1, d1, rfl, h1, -, -, -⟩ := o1; obtain ⟨a2, n2, d2, rfl, h2, -, -, -⟩ := o2; have m10a := (Mod.refl (fun _ => False) wX).drew.trans m10 (by simp); have q10 : True := trivial)
            | (go_at_call 18; refine (HP3.out _ spB).mono ?_; rintro e w10 ⟨r0, r1, r2, zs, rfl, m10, hzp, -, o0, o1, o2⟩; obtain ⟨a0, n0, d0, rfl, h0, -, -, -⟩ := o0; obtain ⟨a1, n1, d1, rfl, h1, -, -, -⟩ := o1; obtain ⟨a2, n2, d2, rfl, h2, -, -, -⟩ := o2; have m10a := mz.trans m10 (by simp); have k10 := kz.later m10 (by simp); have y0 := k10.cell 0; have y1 := k10.cell 1; have y2 := k10.cell 2; have z0 := k10.fz 0; have z1 := k10.fz 1; have z2 := k10.fz 2))
        all_goals go_wp2_with fail
        all_goals go_meet
        all_goals first
          | exact ⟨_, a0, n0, d0, a1, n1, d1, a2, n2, d2, zs, rfl, rfl, m10a.alloc _, Blk.made _ _ _, hzp, by rw [← h0]; simp, by rw [← h1]; simp, by rw [← h2]; simp⟩
          | exact ⟨wX.heap.size, a0, n0, d0, a1, n1, d1, a2, n2, d2, zs, rfl, rfl, ((m10a.setCell (p := ⟨wX.heap.size, 0, none⟩) (Or.inr (Nat.le_refl _)) _).setCell (p := ⟨wX.heap.size, 1, none⟩) (Or.inr (Nat.le_refl _)) _).setCell (p := ⟨wX.heap.size, 2, none⟩) (Or.inr (Nat.le_refl _)) _, by simpa using ((k10.set 0 (.slice a0 n0 d0)).set 1 (.slice a1 n1 d1)).set 2 (.slice a2 n2 d2), hzp, by rw [← h0]; simp, by rw [← h1]; simp, by rw [← h2]; simp⟩
      case rest =>
        obtain ⟨G, a0, n0, d0, a1, n1, d1, a2, n2, d2, zs, rfl, rfl, mY, kg, hzp, h0, h1, h2⟩ := hcut
        obtain ⟨wY, rfl⟩ : ∃ wo : World, wo = wc := ⟨_, rfl⟩
        obtain ⟨f0, f1, f2⟩ := plan_one (c := s) (n := n) hzp
        rw [← h0] at f0
        rw [← h1] at f1
        rw [← h2] at f2
        clear hzp h0 h1 h2 spA spB mz kz
        have kY := kX.later mY (by simp)
        have mmY := mmX.trans mY (by simp)
        have kpY := kpX.later mY (by simp)
        have kqY := kqX.later mY (by simp)
        have P0 := Lib.hid (SP0X.out.later mY (by simp))
        have P1 := Lib.hid (SP1X.out.later mY (by simp))
        have P2 := Lib.hid (SP2X.out.later mY (by simp))
        have Q0 := Lib.hid (SQ0X.out.later mY (by simp))
        have Q1 := Lib.hid (SQ1X.out.later mY (by simp))
        have Q2 := Lib.hid (SQ2X.out.later mY (by simp))
        have dtY := (mY.cell (p := ⟨B, off + 0, none⟩) hBX (by simp)).trans dtX
        have hBY : B < wY.heap.size := Nat.lt_of_lt_of_le hBX mY.size
        clear kX mmX kpX kqX SP0X SP1X SP2X SQ0X SQ1X SQ2X SK1X dtX hBX mY c0 c1 c2 c3 c4 c5 c6 c7 c8 lX
        obtain ⟨c0, c1, c2, c3, c4, c5, c6, c7, c8⟩ := cfg_cells kY
        have F0 := Lib.hid f0
        have F1 := Lib.hid f1
        have F2 := Lib.hid f2
        have hpn : s.pe n = 0 := (Cfg.p_yes hn).2.2
        have hpt : s.pe t0 = 0 := (Cfg.p_yes HST0.out).2.2
        have HPT := Lib.hid hpt
        clear f0 f1 f2 hpt
        go_wp2_with fail
        refine (run_Label s n _).mono ?_
        rw [hpn]
        rintro e wZ ⟨rfl, mZ⟩
        have kZ := kY.later mZ (by simp)
        have mmZ := mmY.trans mZ (by simp)
        have dtZ := (mZ.cell (p := ⟨B, off + 0, none⟩) hBY (by simp)).trans dtY
        have hBZ : B < wZ.heap.size := Nat.lt_of_lt_of_le hBY mZ.size
        clear kY mmY dtY hpn c0 c1 c2 c3 c4 c5 c6 c7 c8
        obtain ⟨c0, c1, c2, c3, c4, c5, c6, c7, c8⟩ := cfg_cells kZ
        have b0 : (0 : Int) ≤ (0 : Int) := Int.le_refl _
        have b3 : 0 < tn := by omega
        have b4 : (0 : Int) < (tn : Int) := by omega
        simp only [Nat.add_zero] at dtZ
        go_upto_region 19 with fail
        go_cut [18, 19] (fun l e w' => l = .int .i64 (s.lab t0) ∧ Mod (fun _ => False) wZ w')
        case first =>
          go_region_held3 (fun w' => w'.cell? ⟨B, off, none⟩ = some (.int .i64 t0) ∧ w'.cell? ⟨w.heap.size, 0, none⟩ = some (Value.int .i64 s.W) ∧ w'.cell? ⟨w.heap.size, 1, none⟩ = some (Value.int .i64 s.H) ∧ w'.cell? ⟨w.heap.size, 2, none⟩ = some (Value.int .i64 s.Lanes) ∧ w'.cell? ⟨w.heap.size, 3, none⟩ = some (Value.int .i64 s.Depth) ∧ w'.cell? ⟨w.heap.size, 4, none⟩ = some (Value.int .i64 s.Ring) ∧ w'.cell? ⟨w.heap.size, 5, none⟩ = some (Value.int .i64 s.Inbox) ∧ w'.cell? ⟨w.heap.size, 6, none⟩ = some (Value.int .i64 s.Bound) ∧ w'.cell? ⟨w.heap.size, 7, none⟩ = some (Value.bool s.West) ∧ w'.cell? ⟨w.heap.size, 8, none⟩ = some (Value.bool s.Cast))
            (first
              | go_keep
              | exact ⟨(m9.cell hBZ (by simp)).trans dtZ, cfg_cells (kZ.drew.later m9 (by simp))⟩)
            ((go_at_call 11; refine (run_Label s t0 _).mono ?_; rintro e w11 ⟨rfl, m9⟩))
          all_goals go_wp2_with fail
          all_goals go_meet
          all_goals exact ⟨rfl, (Mod.refl _ _).drew.trans m9 (by simp)⟩
        case rest =>
          obtain ⟨rfl, mV⟩ := hcut
          obtain ⟨wV, rfl⟩ : ∃ wo : World, wo = wc := ⟨_, rfl⟩
          have mU := mZ.trans mV (by simp)
          have kpV := kpY.later mU (by simp)
          have kqV := kqY.later mU (by simp)
          have kgV := kg.later mU (by simp)
          have mmV := mmZ.trans mV (by simp)
          have x0 := kpV.cell 0
          have y0 := kqV.cell 0
          simp at x0 y0
          clear kpY kqY kg mV mZ kZ mmZ dtZ hBZ hBY c0 c1 c2 c3 c4 c5 c6 c7 c8
          rcases Int.lt_trichotomy (s.lab n) (s.lab t0) with h | h | h
          · have e0 : n0 = 1 := by rw [F0.out, if_pos (by omega)]
            have e1 : n1 = 0 := by rw [F1.out, if_neg (by omega)]
            have e2 : n2 = 0 := by rw [F2.out, if_neg (by omega)]
            subst e0 e1 e2
            have q1 : decide (s.lab n < s.lab t0) = true := by simp only [decide_eq_true_eq, decide_eq_false_iff_not]; omega
            have q2 : decide (s.lab t0 < s.lab n) = false := by simp only [decide_eq_true_eq, decide_eq_false_iff_not]; omega
            have q3 : (s.lab t0 == s.lab n) = false := by simp; omega
            clear h
            go_wp2_with fail
            refine (ref_Same _ _ _ _ _ (P0.out.later mU (by simp)) (Q0.out.later mU (by simp))).mono ?_
            rw [decide_eq_true (rfl : s.ups n ys = s.ups n ys)]
            rintro e wa ⟨rfl, da⟩
            have ma := da.mod (fun _ => False)
            have mma := mU.trans ma (by simp)
            have kp1 := kpV.later ma (by simp)
            have kq1 := kqV.later ma (by simp)
            have kg1 := kgV.later ma (by simp)
            have x1 := kp1.cell 1
            have y1 := kq1.cell 1
            simp at x1 y1
            go_wp2_with fail
            refine (ref_Same _ _ _ _ _ (P1.out.later mma (by simp)) (Q1.out.later mma (by simp))).mono ?_
            rw [decide_eq_true (rfl : (s.dns n ys).reverse = (s.dns n ys).reverse)]
            rintro e wb ⟨rfl, db⟩
            have mb := db.mod (fun _ => False)
            have mmb := mma.trans mb (by simp)
            have kp2 := kp1.later mb (by simp)
            have kq2 := kq1.later mb (by simp)
            have kg2 := kg1.later mb (by simp)
            have x2 := kp2.cell 2
            have y2 := kq2.cell 2
            simp at x2 y2
            go_wp2_with fail
            refine (ref_Same _ _ _ _ _ (P2.out.later mmb (by simp)) (Q2.out.later mmb (by simp))).mono ?_
            rw [decide_eq_true (rfl : s.eqs n ys = s.eqs n ys)]
            rintro e wd ⟨rfl, dd⟩
            have md := dd.mod (fun _ => False)
            have mmd := mmV.trans (mb.trans md (by simp) |> fun z => ma.trans z (by simp)) (by simp)
            have kg3 := kg2.later md (by simp)
            have g0 := kg3.cell 0
            have g1 := kg3.cell 1
            have g2 := kg3.cell 2
            simp at g0 g1 g2
            go_wp2
            go_ret
            exact ⟨by simp, mmd.below⟩
          · have e0 : n0 = 0 := by rw [F0.out, if_neg (by omega)]
            have e1 : n1 = 0 := by rw [F1.out, if_neg (by omega)]
            have e2 : n2 = 1 := by rw [F2.out, if_pos (by omega)]
            subst e0 e1 e2
            have q1 : decide (s.lab n < s.lab t0) = false := by simp only [decide_eq_true_eq, decide_eq_false_iff_not]; omega
            have q2 : decide (s.lab t0 < s.lab n) = false := by simp only [decide_eq_true_eq, decide_eq_false_iff_not]; omega
            have q3 : (s.lab t0 == s.lab n) = true := by simp; omega
            clear h
            go_wp2_with fail
            refine (ref_Same _ _ _ _ _ (P0.out.later mU (by simp)) (Q0.out.later mU (by simp))).mono ?_
            rw [decide_eq_true (rfl : s.ups n ys = s.ups n ys)]
            rintro e wa ⟨rfl, da⟩
            have ma := da.mod (fun _ => False)
            have mma := mU.trans ma (by simp)
            have kp1 := kpV.later ma (by simp)
            have kq1 := kqV.later ma (by simp)
            have kg1 := kgV.later ma (by simp)
            have x1 := kp1.cell 1
            have y1 := kq1.cell 1
            simp at x1 y1
            go_wp2_with fail
            refine (ref_Same _ _ _ _ _ (P1.out.later mma (by simp)) (Q1.out.later mma (by simp))).mono ?_
            rw [decide_eq_true (rfl : (s.dns n ys).reverse = (s.dns n ys).reverse)]
            rintro e wb ⟨rfl, db⟩
            have mb := db.mod (fun _ => False)
            have mmb := mma.trans mb (by simp)
            have kp2 := kp1.later mb (by simp)
            have kq2 := kq1.later mb (by simp)
            have kg2 := kg1.later mb (by simp)
            have x2 := kp2.cell 2
            have y2 := kq2.cell 2
            simp at x2 y2
            go_wp2_with fail
            refine (ref_Same _ _ _ _ _ (P2.out.later mmb (by simp)) (Q2.out.later mmb (by simp))).mono ?_
            rw [decide_eq_true (rfl : s.eqs n ys = s.eqs n ys)]
            rintro e wd ⟨rfl, dd⟩
            have md := dd.mod (fun _ => False)
            have mmd := mmV.trans (mb.trans md (by simp) |> fun z => ma.trans z (by simp)) (by simp)
            have kg3 := kg2.later md (by simp)
            have g0 := kg3.cell 0
            have g1 := kg3.cell 1
            have g2 := kg3.cell 2
            simp at g0 g1 g2
            go_wp2
            go_ret
            exact ⟨by simp, mmd.below⟩
          · have e0 : n0 = 0 := by rw [F0.out, if_neg (by omega)]
            have e1 : n1 = 1 := by rw [F1.out, if_pos (by omega)]
            have e2 : n2 = 0 := by rw [F2.out, if_neg (by omega)]
            subst e0 e1 e2
            have q1 : decide (s.lab n < s.lab t0) = false := by simp only [decide_eq_true_eq, decide_eq_false_iff_not]; omega
            have q2 : decide (s.lab t0 < s.lab n) = true := by simp only [decide_eq_true_eq, decide_eq_false_iff_not]; omega
            have q3 : (s.lab t0 == s.lab n) = false := by simp; omega
            clear h
            go_wp2_with fail
            refine (ref_Same _ _ _ _ _ (P0.out.later mU (by simp)) (Q0.out.later mU (by simp))).mono ?_
            rw [decide_eq_true (rfl : s.ups n ys = s.ups n ys)]
            rintro e wa ⟨rfl, da⟩
            have ma := da.mod (fun _ => False)
            have mma := mU.trans ma (by simp)
            have kp1 := kpV.later ma (by simp)
            have kq1 := kqV.later ma (by simp)
            have kg1 := kgV.later ma (by simp)
            have x1 := kp1.cell 1
            have y1 := kq1.cell 1
            simp at x1 y1
            go_wp2_with fail
            refine (ref_Same _ _ _ _ _ (P1.out.later mma (by simp)) (Q1.out.later mma (by simp))).mono ?_
            rw [decide_eq_true (rfl : (s.dns n ys).reverse = (s.dns n ys).reverse)]
            rintro e wb ⟨rfl, db⟩
            have mb := db.mod (fun _ => False)
            have mmb := mma.trans mb (by simp)
            have kp2 := kp1.later mb (by simp)
            have kq2 := kq1.later mb (by simp)
            have kg2 := kg1.later mb (by simp)
            have x2 := kp2.cell 2
            have y2 := kq2.cell 2
            simp at x2 y2
            go_wp2_with fail
            refine (ref_Same _ _ _ _ _ (P2.out.later mmb (by simp)) (Q2.out.later mmb (by simp))).mono ?_
            rw [decide_eq_true (rfl : s.eqs n ys = s.eqs n ys)]
            rintro e wd ⟨rfl, dd⟩
            have md := dd.mod (fun _ => False)
            have mmd := mmV.trans (mb.trans md (by simp) |> fun z => ma.trans z (by simp)) (by simp)
            have kg3 := kg2.later md (by simp)
            have g0 := kg3.cell 0
            have g1 := kg3.cell 1
            have g2 := kg3.cell 2
            simp at g0 g1 g2
            go_wp2
            go_ret
            exact ⟨by simp, mmd.below⟩

end Go.Proofs.Ytdpfbgppaofgmaa
