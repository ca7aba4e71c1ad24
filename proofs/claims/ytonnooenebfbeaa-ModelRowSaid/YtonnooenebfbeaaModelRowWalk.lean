/- The walk of ModelRow. -/
import Derived.Test.YtonnooenebfbeaaRowSt
namespace Go.Proofs.Ytonnooenebfbeaa
open Go.RowKit

theorem rcells {base : Nat} {W : World} {b bq bu bc : Nat} {f : Int → Int → Value} {KN KO k : Nat} {Q : Int → Int → List ByteArray} {n0 n1 o0 o1 : Nat} (h : RowSt base W b bq bu bc f KN KO k Q n0 n1 o0 o1) :
    W.cell? ⟨KN, 0, none⟩ = some (.int .i64 n0) ∧ W.cell? ⟨KN, 1, none⟩ = some (.int .i64 n1) ∧ W.cell? ⟨KO, 0, none⟩ = some (.int .i64 o0) ∧ W.cell? ⟨KO, 1, none⟩ = some (.int .i64 o1) := by
  refine ⟨?_, ?_, ?_, ?_⟩
  · rw [h.kn.cell]; rfl
  · rw [h.kn.cell]; rfl
  · rw [h.ko.cell]; rfl
  · rw [h.ko.cell]; rfl

set_option maxRecDepth 100000 in
set_option maxHeartbeats 8000000 in
theorem walk_ModelRow {w : World} (v0 : Value) (l0 : List Bool) (sl0 : SlV w v0 (l0.map Value.bool)) (ll0 : l0.length ≤ maxLen) (v1 : Value) (l1 : List Bool) (sl1 : SlV w v1 (l1.map Value.bool)) (ll1 : l1.length ≤ maxLen) :
    Calls Try.prog 3 #[v0, v1] w fun e w' => e = .returned (.bool true) ∧ Below w.heap.size w w' := by
  obtain ⟨a0, n0, e0, rfl, hn0, hc0, hm0, -⟩ := id sl0
  obtain ⟨a1, n1, e1, rfl, hn1, hc1, hm1, -⟩ := id sl1
  rw [List.length_map] at hn0 hn1
  have S0 := Lib.hid sl0
  have S1 := Lib.hid sl1
  have L0 := Lib.hid hn0
  have L1 := Lib.hid hn1
  unfold maxLen at hm0 hm1
  clear sl0 sl1 hn0 hn1 ll0 ll1
  go_enter Try.func3, Try.ntmps3
  go_wp2_with fail
  refine (run_lives21 _).mono ?_
  rintro e w1 ⟨rfl, m1⟩
  go_wp2_with fail
  refine (run_some21 _).mono ?_
  rintro e w2 ⟨rfl, m2⟩
  have mm2 := m1.trans m2 (by simp)
  clear m1 m2
  go_wp2_with fail
  have mA : Mod (fun _ => False) w2 (w2.alloc (.cells rowC.cells 25)) := (Mod.refl _ _).alloc _
  have mmA := mm2.trans mA (by simp)
  change Calls Try.prog _ #[.agg rowC.cells] (w2.alloc (.cells rowC.cells 25)) _
  generalize w2.alloc (.cells rowC.cells 25) = w3 at mA mmA ⊢
  refine (run_MOpen rowC _).mono ?_
  rw [show rowC.chk = 0 from by decide, show rowC.nodes.toNat = 2 from by decide]
  rintro e w4 ⟨p, rfl, m4, ⟨h0, -⟩ | ⟨-, b, bq, bu, bc, rfl, hM, hO⟩⟩
  · exact absurd rfl h0
  have mm4 := mmA.trans m4 (by simp)
  have hOw : ∀ g, own4 b bq bu bc (fun _ _ => .slice none 0 0) g → w.heap.size ≤ g := fun g hg => Nat.le_trans mmA.size (hO g hg)
  have hlt4 := fun g hg => hM.own_lt (g := g) hg
  have mB : Mod (fun _ => False) w4 ((w4.alloc (.cells #[.int .i64 0, .int .i64 0] 31)).alloc (.cells #[.int .i64 0, .int .i64 0] 31)) := ((Mod.refl _ _).alloc _).alloc _
  have kn := (Blk.made w4 #[.int .i64 0, .int .i64 0] 31).alloc (.cells #[.int .i64 0, .int .i64 0] 31)
  have ko := Blk.made (w4.alloc (.cells #[.int .i64 0, .int .i64 0] 31)) #[.int .i64 0, .int .i64 0] 31
  simp only [World.size_alloc] at ko
  have HMB := Lib.hid (hM.later mB (by simp))
  have mmB := mm4.trans mB (by simp)
  have HOW := Lib.hid hOw
  have HLW := Lib.hid mm4.size
  have HLT := Lib.hid hlt4
  clear hM hO hOw hlt4 m4 mm2 mm4 mB mA mmA
  go_wp2
  generalize (w4.alloc (.cells #[.int .i64 0, .int .i64 0] 31)).alloc (.cells #[.int .i64 0, .int .i64 0] 31) = w5 at kn ko HMB mmB ⊢
  have hRS : RowSt w.heap.size w5 b bq bu bc (fun _ _ => .slice none 0 0) w4.heap.size (w4.heap.size + 1) 0 (fun _ _ => []) 0 0 0 0 :=
    ⟨HMB.out, kn, ko, rfl, rfl, by omega, fun g hg => by have h1 := HOW.out g hg; have h2 := HLT.out g hg; omega, by have := HLW.out; omega⟩
  have HRS := Lib.hid hRS
  clear hRS kn ko HMB HOW HLT
  obtain ⟨KN, hKN⟩ : ∃ KN, KN = w4.heap.size := ⟨_, rfl⟩
  obtain ⟨KO, hKO⟩ : ∃ KO, KO = w4.heap.size + 1 := ⟨_, rfl⟩
  rw [← hKO, ← hKN] at HRS
  rw [← hKO, ← hKN]
  clear hKN hKO
  go_loopw [10] (fun i wr => ∃ (ii : Nat) (f' : Int → Int → Value) (Q : Int → Int → List ByteArray) (p0 p1 : Nat), ii ≤ n0 ∧ ii ≤ 8 ∧ p0 + p1 = ii ∧ i = .int .i64 ii ∧ RowSt w.heap.size wr b bq bu bc f' KN KO ii Q p0 p1 0 0 ∧ Mod (fun _ => False) w wr) (fun i _ => n0 - (intOf i).toNat)
  case atStart => exact ⟨0, _, _, 0, 0, by omega, by omega, rfl, rfl, HRS.out, mmB⟩
  case round =>
    obtain ⟨ii, f', Q, p0, p1, hii, hi8, hpp, rfl, hR, hmod⟩ := hrel
    obtain ⟨wA, rfl⟩ : ∃ wo : World, wo = wr := ⟨_, rfl⟩
    have HR := Lib.hid hR
    clear hR HRS mmB
    by_cases hlt : ii < n0
    · by_cases hl8 : ii < 8
      · obtain ⟨x, hx⟩ : ∃ x, l0[ii]? = some x := ⟨_, List.getElem?_eq_getElem (by have := L0.out; omega)⟩
        obtain ⟨B, off, rfl, hB, dx⟩ := S0.out.at ii hlt
        have dx2 : w.cell? ⟨B, off + ii, none⟩ = some (.bool x) := by rw [dx]; simp [List.getD_eq_getElem?_getD, hx]
        have dxA := (hmod.cell (p := ⟨B, off + ii, none⟩) hB (by simp)).trans dx2
        have r0 : (0 : Int) ≤ (ii : Int) := by omega
        have r1 : (ii : Int) < (n0 : Int) := by omega
        have r2 : (ii : Int) < 8 := by omega
        clear dx hx
        have z0 := HR.out.kn.cell 0
        have z1 := HR.out.kn.cell 1
        have fz0 := HR.out.kn.fz 0
        have fz1 := HR.out.kn.fz 1
        simp at z0 z1
        have hb0 : p0 ≤ 8 := by omega
        have hb1 : p1 ≤ 8 := by omega
        cases x with
        | false =>
          have u1 : IntKind.i64.wrap (97 + (p0 : Int)) = 97 + (p0 : Int) := IntWalk.i64_in _ (by omega)
          have u2 : IntKind.u8.wrap (97 + (p0 : Int)) = 97 + (p0 : Int) := by rw [IntKind.wrap_u8]; omega
          have u3 : IntKind.i64.wrap ((p0 : Int) + 1) = (p0 : Int) + 1 := IntWalk.i64_in _ (by omega)
          have hcr := chr_run (W := wA.alloc (.cells #[.int .u8 (97 + (p0 : Int))] 5)) (g := wA.heap.size) (i := p0) (by omega) (by simp)
          have mC : Mod (fun _ => False) wA (wA.alloc (.cells #[.int .u8 (97 + (p0 : Int))] 5)) := (Mod.refl _ _).alloc _
          have HRC := Lib.hid (HR.out.later mC)
          go_wp2_with fail
          clear hcr
          generalize wA.alloc (.cells #[.int .u8 (97 + (p0 : Int))] 5) = wC at mC HRC ⊢
          refine (run_Send 0 0 (chr p0) _ HRC.out.mdl (by omega) (by show (1 : Nat) ≤ 4294967295; omega) (by decide)).mono ?_
          rw [sendE_row _ (by omega) 0 (Or.inl rfl) p0]
          rintro e w7 ⟨rfl, ⟨h0, -⟩ | ⟨-, m7, f2, hM, hO⟩⟩
          · exact absurd rfl h0
          change MdlIn w7 b bq bu bc f2 rowC (ii + 1) (updQ Q 0 0 (Q 0 0 ++ [chr p0])) [((p0 + p1 - 0 - 0 : Nat) : Int) + 1, 0] [false, false] at hM
          have hwC : w.heap.size ≤ wC.heap.size := Nat.le_trans hmod.size mC.size
          have hRS := RowSt.sent0 HRC.out (x := (p0 : Int) + 1) rfl hM m7 hO hwC (by omega)
          have k7 := HRC.out.kn.later m7 (fun e => (HRC.out.own _ e).2.1 rfl)
          have y0 := k7.cell 0
          have y1 := k7.cell 1
          simp at y0 y1
          have g0 := k7.fz 0
          have g1 := k7.fz 1
          have m8 : Mod (fun _ => False) w (w7.setCell ⟨KN, 0, none⟩ (.int .i64 ((p0 : Int) + 1))) := ((hmod.trans mC (by simp)).trans m7 (fun i hi e => by have := (HRC.out.own _ e).1; omega)).setCell (p := ⟨KN, 0, none⟩) (Or.inr HRC.out.kk.1) _
          have HRS := Lib.hid hRS
          clear hRS hM hO m7 k7 z0 z1 fz0 fz1 hwC HR hmod HRC mC dx2 dxA
          go_wp2
          go_roundw
          case rel => exact ⟨ii + 1, f2, _, p0 + 1, p1, by omega, by omega, by omega, by go_num, HRS.out, m8⟩
          case measure => simp [intOf]; omega
        | true =>
          have u1 : IntKind.i64.wrap (97 + (p1 : Int)) = 97 + (p1 : Int) := IntWalk.i64_in _ (by omega)
          have u2 : IntKind.u8.wrap (97 + (p1 : Int)) = 97 + (p1 : Int) := by rw [IntKind.wrap_u8]; omega
          have u3 : IntKind.i64.wrap ((p1 : Int) + 1) = (p1 : Int) + 1 := IntWalk.i64_in _ (by omega)
          have hcr := chr_run (W := wA.alloc (.cells #[.int .u8 (97 + (p1 : Int))] 5)) (g := wA.heap.size) (i := p1) (by omega) (by simp)
          have mC : Mod (fun _ => False) wA (wA.alloc (.cells #[.int .u8 (97 + (p1 : Int))] 5)) := (Mod.refl _ _).alloc _
          have HRC := Lib.hid (HR.out.later mC)
          go_wp2_with fail
          clear hcr
          generalize wA.alloc (.cells #[.int .u8 (97 + (p1 : Int))] 5) = wC at mC HRC ⊢
          refine (run_Send 0 1 (chr p1) _ HRC.out.mdl (by omega) (by show (1 : Nat) ≤ 4294967295; omega) (by decide)).mono ?_
          rw [sendE_row _ (by omega) 1 (Or.inr rfl) p1]
          rintro e w7 ⟨rfl, ⟨h0, -⟩ | ⟨-, m7, f2, hM, hO⟩⟩
          · exact absurd rfl h0
          change MdlIn w7 b bq bu bc f2 rowC (ii + 1) (updQ Q 0 1 (Q 0 1 ++ [chr p1])) [((p0 + p1 - 0 - 0 : Nat) : Int) + 1, 0] [false, false] at hM
          have hwC : w.heap.size ≤ wC.heap.size := Nat.le_trans hmod.size mC.size
          have hRS := RowSt.sent1 HRC.out (x := (p1 : Int) + 1) rfl hM m7 hO hwC (by omega)
          have k7 := HRC.out.kn.later m7 (fun e => (HRC.out.own _ e).2.1 rfl)
          have y0 := k7.cell 0
          have y1 := k7.cell 1
          simp at y0 y1
          have g0 := k7.fz 0
          have g1 := k7.fz 1
          have m8 : Mod (fun _ => False) w (w7.setCell ⟨KN, 1, none⟩ (.int .i64 ((p1 : Int) + 1))) := ((hmod.trans mC (by simp)).trans m7 (fun i hi e => by have := (HRC.out.own _ e).1; omega)).setCell (p := ⟨KN, 1, none⟩) (Or.inr HRC.out.kk.1) _
          have HRS := Lib.hid hRS
          clear hRS hM hO m7 k7 z0 z1 fz0 fz1 hwC HR hmod HRC mC dx2 dxA
          go_wp2
          go_roundw
          case rel => exact ⟨ii + 1, f2, _, p0, p1 + 1, by omega, by omega, by omega, by go_num, HRS.out, m8⟩
          case measure => simp [intOf]; omega
      · go_wp2
        go_loopw [12] (fun i wr => ∃ (jj : Nat) (f' : Int → Int → Value) (Q : Int → Int → List ByteArray) (o0 o1 kq : Nat), jj ≤ n1 ∧ jj ≤ 20 ∧ kq ≤ 8 + jj ∧ i = .int .i64 jj ∧ RowSt w.heap.size wr b bq bu bc f' KN KO kq Q p0 p1 o0 o1 ∧ Mod (fun _ => False) w wr) (fun i _ => n1 - (intOf i).toNat)
        case atStart => exact ⟨0, f', Q, 0, 0, ii, by omega, by omega, by omega, rfl, HR.out, hmod⟩
        case round =>
          obtain ⟨jj, f', Q, o0, o1, kq, hjj, hj20, hkq, rfl, hR, hmod⟩ := hrel
          obtain ⟨wB, rfl⟩ : ∃ wo : World, wo = wr := ⟨_, rfl⟩
          have HR := Lib.hid hR
          have hle := hR.le
          clear hR
          by_cases hlt : jj < n1
          · by_cases hl20 : jj < 20
            · obtain ⟨x, hx⟩ : ∃ x, l1[jj]? = some x := ⟨_, List.getElem?_eq_getElem (by have := L1.out; omega)⟩
              obtain ⟨B, off, rfl, hB, dx⟩ := S1.out.at jj hlt
              have dx2 : w.cell? ⟨B, off + jj, none⟩ = some (.bool x) := by rw [dx]; simp [List.getD_eq_getElem?_getD, hx]
              have dxA := (hmod.cell (p := ⟨B, off + jj, none⟩) hB (by simp)).trans dx2
              have r0 : (0 : Int) ≤ (jj : Int) := by omega
              have r1 : (jj : Int) < (n1 : Int) := by omega
              have r2 : (jj : Int) < 20 := by omega
              clear dx hx
              have z0 := HR.out.kn.cell 0
              have z1 := HR.out.kn.cell 1
              have y0 := HR.out.ko.cell 0
              have y1 := HR.out.ko.cell 1
              simp at z0 z1 y0 y1
              cases x with
              | false =>
                have u1 : IntKind.i64.wrap (97 + (o0 : Int)) = 97 + (o0 : Int) := IntWalk.i64_in _ (by omega)
                obtain ⟨ox, hox⟩ : ∃ ox : Nat, ox = o0 + 1 := ⟨_, rfl⟩
                have u2 : IntKind.i64.wrap (97 + (o0 : Int) + 1) = 97 + (ox : Int) := by rw [IntWalk.i64_in _ (by omega)]; omega
                have u3 : IntKind.u8.wrap (97 + (ox : Int)) = 97 + (ox : Int) := by rw [IntKind.wrap_u8]; omega
                have u4 : IntKind.u8.wrap (97 + (o0 : Int)) = 97 + (o0 : Int) := by rw [IntKind.wrap_u8]; omega
                have u5 : IntKind.i64.wrap ((o0 : Int) + 1) = (o0 : Int) + 1 := IntWalk.i64_in _ (by omega)
                have hox2 : ox ≤ 20 ∧ ox ≠ o0 := by omega
                have hcr := chr_run (W := wB.alloc (.cells #[.int .u8 (97 + (ox : Int))] 5)) (g := wB.heap.size) (i := ox) (by omega) (by simp)
                have mC : Mod (fun _ => False) wB (wB.alloc (.cells #[.int .u8 (97 + (ox : Int))] 5)) := (Mod.refl _ _).alloc _
                have HRC := Lib.hid (HR.out.later mC)
                clear hox
                go_wp2_with fail
                clear hcr
                generalize wB.alloc (.cells #[.int .u8 (97 + (ox : Int))] 5) = wC at mC HRC ⊢
                refine (run_Took 0 0 0 0 (chr ox) _ HRC.out.mdl (by omega)).mono ?_
                rw [tookE_row (Or.inl rfl) HRC.out.q0 (by omega) (by omega), if_neg (by omega)]
                rintro e w7 ⟨rfl, ⟨-, m7⟩ | ⟨h0, -⟩⟩
                rotate_left
                · exact absurd h0 (by decide)
                have HR7 := Lib.hid (HRC.out.later m7)
                have mm7 := (hmod.trans mC (by simp)).trans m7 (by simp)
                clear HRC HR m7 mC hmod z0 z1 y0 y1
                have y0 := HR7.out.ko.cell 0
                have y1 := HR7.out.ko.cell 1
                simp at y0 y1
                have hcr := chr_run (W := w7.alloc (.cells #[.int .u8 (97 + (o0 : Int))] 5)) (g := w7.heap.size) (i := o0) (by omega) (by simp)
                have mC : Mod (fun _ => False) w7 (w7.alloc (.cells #[.int .u8 (97 + (o0 : Int))] 5)) := (Mod.refl _ _).alloc _
                have HRC := Lib.hid (HR7.out.later mC)
                go_wp2_with fail
                clear hcr
                generalize w7.alloc (.cells #[.int .u8 (97 + (o0 : Int))] 5) = wC at mC HRC ⊢
                refine (run_Took 0 0 0 0 (chr o0) _ HRC.out.mdl (by omega)).mono ?_
                rw [tookE_row (Or.inl rfl) HRC.out.q0 (by omega) (by omega)]
                have hmC := mm7.trans mC (by simp)
                clear HR7 mC mm7 y0 y1
                by_cases hon : o0 < p0
                · rw [if_pos ⟨hon, rfl⟩]
                  rintro e w8 ⟨rfl, ⟨h0, -⟩ | ⟨-, m8, f2, hM, hO⟩⟩
                  · exact absurd rfl h0
                  change MdlIn w8 b bq bu bc f2 rowC (kq + 1) (updQ Q 0 0 (Q 0 0).tail) [((p0 + p1 - o0 - o1 : Nat) : Int) - 1, 0] [false, false] at hM
                  have k8 := HRC.out.kn.later m8 (fun e => (HRC.out.own _ e).2.1 rfl)
                  have o8 := HRC.out.ko.later m8 (fun e => (HRC.out.own _ e).2.2 rfl)
                  have z0 := k8.cell 0
                  have z1 := k8.cell 1
                  have y0 := o8.cell 0
                  have y1 := o8.cell 1
                  simp at z0 z1 y0 y1
                  have q1 : decide ((o0 : Int) < (p0 : Int)) = true := by simp; omega
                  go_upto_region 24 with fail
                  go_cut [107] (fun v w' => v = .bool false ∧ Drw w8 w')
                  case first =>
                    go_quiet (fail)
                    all_goals go_wp2_with fail
                    all_goals go_meet
                    all_goals exact ⟨by simp, Drw.drewN _ _⟩
                  case rest =>
                    obtain ⟨rfl, d9⟩ := hcut
                    obtain ⟨w9, rfl⟩ : ∃ wo : World, wo = wc := ⟨_, rfl⟩
                    have m9 := d9.mod (fun _ => False)
                    have m89 := m8.trans m9 (by simp)
                    have hRS := RowSt.took0 HRC.out (x := (o0 : Int) + 1) rfl (hM.later m9 (by simp)) m89 hO (Nat.le_trans (Nat.le_refl _) hmC.size) hon
                    have o9 := o8.later m9 (by simp)
                    have x0 := o9.cell 0
                    have x1 := o9.cell 1
                    simp at x0 x1
                    have g0 := o9.fz 0
                    have g1 := o9.fz 1
                    have m10 : Mod (fun _ => False) w (w9.setCell ⟨KO, 0, none⟩ (.int .i64 ((o0 : Int) + 1))) := (hmC.trans m89 (fun i hi e => by have := (HRC.out.own _ e).1; omega)).setCell (p := ⟨KO, 0, none⟩) (Or.inr HRC.out.kk.2.1) _
                    have HRS := Lib.hid hRS
                    clear hRS hM hO m8 k8 o8 z0 z1 y0 y1 hmC HRC m89 m9 d9 o9 q1
                    go_wp2
                    go_roundw
                    case rel => exact ⟨jj + 1, f2, _, o0 + 1, o1, kq + 1, by omega, by omega, by omega, by go_num, HRS.out, m10⟩
                    case measure => simp [intOf]; omega
                · rw [if_neg (fun e => hon e.1)]
                  rintro e w8 ⟨rfl, ⟨-, m8⟩ | ⟨h0, -⟩⟩
                  rotate_left
                  · exact absurd h0 (by decide)
                  have HR8 := Lib.hid (HRC.out.later m8)
                  have z0 := HR8.out.kn.cell 0
                  have z1 := HR8.out.kn.cell 1
                  have y0 := HR8.out.ko.cell 0
                  have y1 := HR8.out.ko.cell 1
                  simp at z0 z1 y0 y1
                  have q1 : decide ((o0 : Int) < (p0 : Int)) = false := by simp; omega
                  go_upto_region 24 with fail
                  go_cut [107] (fun v w' => v = .bool false ∧ Drw w8 w')
                  case first =>
                    go_quiet (fail)
                    all_goals go_wp2_with fail
                    all_goals go_meet
                    all_goals exact ⟨by simp, Drw.drewN _ _⟩
                  case rest =>
                    obtain ⟨rfl, d9⟩ := hcut
                    have m9 := d9.mod (fun _ => False)
                    have HR9 := Lib.hid (HR8.out.later m9)
                    have m10 := (hmC.trans m8 (by simp)).trans m9 (by simp)
                    clear HR8 m8 hmC HRC m9 d9 z0 z1 y0 y1 q1
                    go_wp2
                    go_roundw
                    case rel => exact ⟨jj + 1, f', Q, o0, o1, kq, by omega, by omega, by omega, by go_num, HR9.out, m10⟩
                    case measure => simp [intOf]; omega
              | true =>
                have u1 : IntKind.i64.wrap (97 + (o1 : Int)) = 97 + (o1 : Int) := IntWalk.i64_in _ (by omega)
                obtain ⟨ox, hox⟩ : ∃ ox : Nat, ox = o1 + 1 := ⟨_, rfl⟩
                have u2 : IntKind.i64.wrap (97 + (o1 : Int) + 1) = 97 + (ox : Int) := by rw [IntWalk.i64_in _ (by omega)]; omega
                have u3 : IntKind.u8.wrap (97 + (ox : Int)) = 97 + (ox : Int) := by rw [IntKind.wrap_u8]; omega
                have u4 : IntKind.u8.wrap (97 + (o1 : Int)) = 97 + (o1 : Int) := by rw [IntKind.wrap_u8]; omega
                have u5 : IntKind.i64.wrap ((o1 : Int) + 1) = (o1 : Int) + 1 := IntWalk.i64_in _ (by omega)
                have hox2 : ox ≤ 20 ∧ ox ≠ o1 := by omega
                have hcr := chr_run (W := wB.alloc (.cells #[.int .u8 (97 + (ox : Int))] 5)) (g := wB.heap.size) (i := ox) (by omega) (by simp)
                have mC : Mod (fun _ => False) wB (wB.alloc (.cells #[.int .u8 (97 + (ox : Int))] 5)) := (Mod.refl _ _).alloc _
                have HRC := Lib.hid (HR.out.later mC)
                clear hox
                go_wp2_with fail
                clear hcr
                generalize wB.alloc (.cells #[.int .u8 (97 + (ox : Int))] 5) = wC at mC HRC ⊢
                refine (run_Took 1 0 1 0 (chr ox) _ HRC.out.mdl (by omega)).mono ?_
                rw [tookE_row (Or.inr rfl) HRC.out.q1 (by omega) (by omega), if_neg (by omega)]
                rintro e w7 ⟨rfl, ⟨-, m7⟩ | ⟨h0, -⟩⟩
                rotate_left
                · exact absurd h0 (by decide)
                have HR7 := Lib.hid (HRC.out.later m7)
                have mm7 := (hmod.trans mC (by simp)).trans m7 (by simp)
                clear HRC HR m7 mC hmod z0 z1 y0 y1
                have y0 := HR7.out.ko.cell 0
                have y1 := HR7.out.ko.cell 1
                simp at y0 y1
                have hcr := chr_run (W := w7.alloc (.cells #[.int .u8 (97 + (o1 : Int))] 5)) (g := w7.heap.size) (i := o1) (by omega) (by simp)
                have mC : Mod (fun _ => False) w7 (w7.alloc (.cells #[.int .u8 (97 + (o1 : Int))] 5)) := (Mod.refl _ _).alloc _
                have HRC := Lib.hid (HR7.out.later mC)
                go_wp2_with fail
                clear hcr
                generalize w7.alloc (.cells #[.int .u8 (97 + (o1 : Int))] 5) = wC at mC HRC ⊢
                refine (run_Took 1 0 1 0 (chr o1) _ HRC.out.mdl (by omega)).mono ?_
                rw [tookE_row (Or.inr rfl) HRC.out.q1 (by omega) (by omega)]
                have hmC := mm7.trans mC (by simp)
                clear HR7 mC mm7 y0 y1
                by_cases hon : o1 < p1
                · rw [if_pos ⟨hon, rfl⟩]
                  rintro e w8 ⟨rfl, ⟨h0, -⟩ | ⟨-, m8, f2, hM, hO⟩⟩
                  · exact absurd rfl h0
                  change MdlIn w8 b bq bu bc f2 rowC (kq + 1) (updQ Q 0 1 (Q 0 1).tail) [((p0 + p1 - o0 - o1 : Nat) : Int) - 1, 0] [false, false] at hM
                  have k8 := HRC.out.kn.later m8 (fun e => (HRC.out.own _ e).2.1 rfl)
                  have o8 := HRC.out.ko.later m8 (fun e => (HRC.out.own _ e).2.2 rfl)
                  have z0 := k8.cell 0
                  have z1 := k8.cell 1
                  have y0 := o8.cell 0
                  have y1 := o8.cell 1
                  simp at z0 z1 y0 y1
                  have q1 : decide ((o1 : Int) < (p1 : Int)) = true := by simp; omega
                  go_upto_region 24 with fail
                  go_cut [107] (fun v w' => v = .bool false ∧ Drw w8 w')
                  case first =>
                    go_quiet (fail)
                    all_goals go_wp2_with fail
                    all_goals go_meet
                    all_goals exact ⟨by simp, Drw.drewN _ _⟩
                  case rest =>
                    obtain ⟨rfl, d9⟩ := hcut
                    obtain ⟨w9, rfl⟩ : ∃ wo : World, wo = wc := ⟨_, rfl⟩
                    have m9 := d9.mod (fun _ => False)
                    have m89 := m8.trans m9 (by simp)
                    have hRS := RowSt.took1 HRC.out (x := (o1 : Int) + 1) rfl (hM.later m9 (by simp)) m89 hO (Nat.le_trans (Nat.le_refl _) hmC.size) hon
                    have o9 := o8.later m9 (by simp)
                    have x0 := o9.cell 0
                    have x1 := o9.cell 1
                    simp at x0 x1
                    have g0 := o9.fz 0
                    have g1 := o9.fz 1
                    have m10 : Mod (fun _ => False) w (w9.setCell ⟨KO, 1, none⟩ (.int .i64 ((o1 : Int) + 1))) := (hmC.trans m89 (fun i hi e => by have := (HRC.out.own _ e).1; omega)).setCell (p := ⟨KO, 1, none⟩) (Or.inr HRC.out.kk.2.1) _
                    have HRS := Lib.hid hRS
                    clear hRS hM hO m8 k8 o8 z0 z1 y0 y1 hmC HRC m89 m9 d9 o9 q1
                    go_wp2
                    go_roundw
                    case rel => exact ⟨jj + 1, f2, _, o0, o1 + 1, kq + 1, by omega, by omega, by omega, by go_num, HRS.out, m10⟩
                    case measure => simp [intOf]; omega
                · rw [if_neg (fun e => hon e.1)]
                  rintro e w8 ⟨rfl, ⟨-, m8⟩ | ⟨h0, -⟩⟩
                  rotate_left
                  · exact absurd h0 (by decide)
                  have HR8 := Lib.hid (HRC.out.later m8)
                  have z0 := HR8.out.kn.cell 0
                  have z1 := HR8.out.kn.cell 1
                  have y0 := HR8.out.ko.cell 0
                  have y1 := HR8.out.ko.cell 1
                  simp at z0 z1 y0 y1
                  have q1 : decide ((o1 : Int) < (p1 : Int)) = false := by simp; omega
                  go_upto_region 24 with fail
                  go_cut [107] (fun v w' => v = .bool false ∧ Drw w8 w')
                  case first =>
                    go_quiet (fail)
                    all_goals go_wp2_with fail
                    all_goals go_meet
                    all_goals exact ⟨by simp, Drw.drewN _ _⟩
                  case rest =>
                    obtain ⟨rfl, d9⟩ := hcut
                    have m9 := d9.mod (fun _ => False)
                    have HR9 := Lib.hid (HR8.out.later m9)
                    have m10 := (hmC.trans m8 (by simp)).trans m9 (by simp)
                    clear HR8 m8 hmC HRC m9 d9 z0 z1 y0 y1 q1
                    go_wp2
                    go_roundw
                    case rel => exact ⟨jj + 1, f', Q, o0, o1, kq, by omega, by omega, by omega, by go_num, HR9.out, m10⟩
                    case measure => simp [intOf]; omega
            · have z0 := HR.out.kn.cell 0
              have z1 := HR.out.kn.cell 1
              have y0 := HR.out.ko.cell 0
              have y1 := HR.out.ko.cell 1
              simp at z0 z1 y0 y1
              have hle := HR.out.le
              have u1 : IntKind.i64.wrap ((p0 : Int) + (p1 : Int)) = (p0 : Int) + (p1 : Int) := IntWalk.i64_in _ (by omega)
              have u2 : IntKind.i64.wrap ((p0 : Int) + (p1 : Int) - (o0 : Int)) = (p0 : Int) + (p1 : Int) - (o0 : Int) := IntWalk.i64_in _ (by omega)
              have u3 : IntKind.i64.wrap ((p0 : Int) + (p1 : Int) - (o0 : Int) - (o1 : Int)) = (p0 : Int) + (p1 : Int) - (o0 : Int) - (o1 : Int) := IntWalk.i64_in _ (by omega)
              obtain ⟨mm, hmm⟩ : ∃ mm : Int, ((p0 + p1 - o0 - o1 : Nat) : Int) = mm := ⟨_, rfl⟩
              have q1 : (mm == (p0 : Int) + (p1 : Int) - (o0 : Int) - (o1 : Int)) = true := by simp; omega
              have hem : (!([mm, 0] : List Int).any fun n => decide (0 < n)) = (mm == 0) := by
                by_cases h : mm = 0
                · simp [h]
                · have h1 : 0 < mm := by omega
                  simp [h, h1]
              obtain ⟨em, hme⟩ : ∃ em, (mm == 0) = em := ⟨_, rfl⟩
              rw [hme] at hem
              have HME := Lib.hid hme
              clear hme
              have mq0 : Mod (fun _ => False) wB wB.drew := (Mod.refl _ _).drew
              go_upto_region 28 with fail
              refine wp_region_held_drew (S := fun w' => w'.cell? ⟨KN, 0, none⟩ = some (.int .i64 p0) ∧ w'.cell? ⟨KN, 1, none⟩ = some (.int .i64 p1) ∧ w'.cell? ⟨KO, 0, none⟩ = some (.int .i64 o0) ∧ w'.cell? ⟨KO, 1, none⟩ = some (.int .i64 o1)) (by kernel_rfl) ?_ (fun hHeld => ?_)
              · exact ⟨z0, z1, y0, y1⟩
              refine take_run 0 (v := ?_) rfl (by kernel_rfl) (by kernel_rfl) (by kernel_rfl) (fun _ _ _ h => h) (by rfl) ?_ (by assumption) ?_
              rotate_left
              · (intro wx hSw; (try dsimp only at hSw); go_simp; try with_reducible rfl)
              try simp only [Act.put, List.setIfInBounds_toArray, List.set_cons_zero, List.set_cons_succ]
              refine take_run 2 (v := ?_) rfl (by kernel_rfl) (by kernel_rfl) (by kernel_rfl) (fun _ _ _ h => h) (by rfl) ?_ (by assumption) ?_
              rotate_left
              · (intro wx hSw; (try dsimp only at hSw); go_simp; try with_reducible rfl)
              try simp only [Act.put, List.setIfInBounds_toArray, List.set_cons_zero, List.set_cons_succ]
              refine take_run 3 (v := ?_) rfl (by kernel_rfl) (by kernel_rfl) (by kernel_rfl) (fun _ _ _ h => h) (by rfl) ?_ (by assumption) ?_
              rotate_left
              · (intro wx hSw; (try dsimp only at hSw); go_simp; try with_reducible rfl)
              try simp only [Act.put, List.setIfInBounds_toArray, List.set_cons_zero, List.set_cons_succ]
              refine take_run 4 (v := ?_) rfl (by kernel_rfl) (by kernel_rfl) (by kernel_rfl) (fun _ _ _ h => h) (by rfl) ?_ (by assumption) ?_
              rotate_left
              · (intro wx hSw; (try dsimp only at hSw); go_simp; try with_reducible rfl)
              try simp only [Act.put, List.setIfInBounds_toArray, List.set_cons_zero, List.set_cons_succ]
              refine take_run 5 (v := ?_) rfl (by kernel_rfl) (by kernel_rfl) (by kernel_rfl) (fun _ _ _ h => h) (by rfl) ?_ (by assumption) ?_
              rotate_left
              · (intro wx hSw; (try dsimp only at hSw); go_simp; try with_reducible rfl)
              try simp only [Act.put, List.setIfInBounds_toArray, List.set_cons_zero, List.set_cons_succ]
              refine take_run 6 (v := ?_) rfl (by kernel_rfl) (by kernel_rfl) (by kernel_rfl) (fun _ _ _ h => h) (by rfl) ?_ (by assumption) ?_
              rotate_left
              · (intro wx hSw; (try dsimp only at hSw); go_simp; try with_reducible rfl)
              try simp only [Act.put, List.setIfInBounds_toArray, List.set_cons_zero, List.set_cons_succ]
              refine take_run 7 (v := ?_) rfl (by kernel_rfl) (by kernel_rfl) (by kernel_rfl) (fun _ _ _ h => h) (by rfl) ?_ (by assumption) ?_
              rotate_left
              · (intro wx hSw; (try dsimp only at hSw); go_simp; try with_reducible rfl)
              try simp only [Act.put, List.setIfInBounds_toArray, List.set_cons_zero, List.set_cons_succ]
              refine take_run 8 (v := ?_) rfl (by kernel_rfl) (by kernel_rfl) (by kernel_rfl) (fun _ _ _ h => h) (by rfl) ?_ (by assumption) ?_
              rotate_left
              · (intro wx hSw; (try dsimp only at hSw); go_simp; try with_reducible rfl)
              try simp only [Act.put, List.setIfInBounds_toArray, List.set_cons_zero, List.set_cons_succ]
              refine take_run 9 (v := ?_) rfl (by kernel_rfl) (by kernel_rfl) (by kernel_rfl) (fun _ _ _ h => h) (by rfl) ?_ (by assumption) ?_
              rotate_left
              · (intro wx hSw; (try dsimp only at hSw); go_simp; try with_reducible rfl)
              try simp only [Act.put, List.setIfInBounds_toArray, List.set_cons_zero, List.set_cons_succ]
              refine take_run 10 (v := ?_) rfl (by kernel_rfl) (by kernel_rfl) (by kernel_rfl) (fun _ _ _ h => h) (by rfl) ?_ (by assumption) ?_
              rotate_left
              · (intro wx hSw; (try dsimp only at hSw); go_simp; try with_reducible rfl)
              try simp only [Act.put, List.setIfInBounds_toArray, List.set_cons_zero, List.set_cons_succ]
              refine take_run 11 (v := ?_) rfl (by kernel_rfl) (by kernel_rfl) (by kernel_rfl) (fun _ _ _ h => h) (by rfl) ?_ (by assumption) ?_
              rotate_left
              · (intro wx hSw; (try dsimp only at hSw); go_simp; try with_reducible rfl)
              try simp only [Act.put, List.setIfInBounds_toArray, List.set_cons_zero, List.set_cons_succ]
              refine take_run 12 (v := ?_) rfl (by kernel_rfl) (by kernel_rfl) (by kernel_rfl) (fun _ _ _ h => h) (by rfl) ?_ (by assumption) ?_
              rotate_left
              · (intro wx hSw; (try dsimp only at hSw); go_simp; try with_reducible rfl)
              try simp only [Act.put, List.setIfInBounds_toArray, List.set_cons_zero, List.set_cons_succ]
              refine take_call 1 rfl (by kernel_rfl) (fun K hK => ?_)
              go_simp
              refine (run_Under 0 _ (HR.out.later mq0).mdl).mono ?_
              rw [show underV rowC [((p0 + p1 - o0 - o1 : Nat) : Int), 0] 0 = ((p0 + p1 - o0 - o1 : Nat) : Int) from by unfold underV; rw [if_pos (by decide)]; rfl, hmm]
              rintro e wu ⟨rfl, mu⟩
              have mq1 := mq0.trans mu (by simp)
              refine hK.out _ _ ?_ (fun hHeld2 => ?_)
              · exact rcells (HR.out.later mq1)
              clear hK K
              try simp only [Act.put, List.setIfInBounds_toArray, List.set_cons_zero, List.set_cons_succ]
              refine take_run 13 (v := ?_) rfl (by kernel_rfl) (by kernel_rfl) (by kernel_rfl) (fun _ _ _ h => h) (by rfl) ?_ (by assumption) ?_
              rotate_left
              · (intro wx hSw; (try dsimp only at hSw); go_simp; try with_reducible rfl)
              try simp only [Act.put, List.setIfInBounds_toArray, List.set_cons_zero, List.set_cons_succ]
              refine take_run 14 (v := ?_) rfl (by kernel_rfl) (by kernel_rfl) (by kernel_rfl) (fun _ _ _ h => h) (by rfl) ?_ (by assumption) ?_
              rotate_left
              · (intro wx hSw; (try dsimp only at hSw); go_simp; try with_reducible rfl)
              try simp only [Act.put, List.setIfInBounds_toArray, List.set_cons_zero, List.set_cons_succ]
              refine take_run 15 (v := ?_) rfl (by kernel_rfl) (by kernel_rfl) (by kernel_rfl) (fun _ _ _ h => h) (by rfl) ?_ (by assumption) ?_
              rotate_left
              · (intro wx hSw; (try dsimp only at hSw); go_simp; try with_reducible rfl)
              try simp only [Act.put, List.setIfInBounds_toArray, List.set_cons_zero, List.set_cons_succ]
              refine take_run 17 (v := ?_) rfl (by kernel_rfl) (by kernel_rfl) (by kernel_rfl) (fun _ _ _ h => h) (by rfl) ?_ (by assumption) ?_
              rotate_left
              · (intro wx hSw; (try dsimp only at hSw); go_simp; try with_reducible rfl)
              try simp only [Act.put, List.setIfInBounds_toArray, List.set_cons_zero, List.set_cons_succ]
              refine take_call 16 rfl (by kernel_rfl) (fun K hK => ?_)
              go_simp
              refine (run_Empty _ (HR.out.later mq1).mdl).mono ?_
              rw [hmm, hem]
              rintro e wv ⟨rfl, mv⟩
              have mq2 := mq1.trans mv (by simp)
              refine hK.out _ _ ?_ (fun hHeld3 => ?_)
              · exact rcells (HR.out.later mq2)
              clear hK K
              try simp only [Act.put, List.setIfInBounds_toArray, List.set_cons_zero, List.set_cons_succ]
              refine take_call 18 rfl (by kernel_rfl) (fun K hK => ?_)
              go_simp
              refine (run_Under 0 _ (HR.out.later mq2).mdl).mono ?_
              rw [show underV rowC [((p0 + p1 - o0 - o1 : Nat) : Int), 0] 0 = ((p0 + p1 - o0 - o1 : Nat) : Int) from by unfold underV; rw [if_pos (by decide)]; rfl, hmm]
              rintro e wy ⟨rfl, my⟩
              have mq3 := mq2.trans my (by simp)
              refine hK.out _ _ ?_ (fun hHeld4 => ?_)
              · exact rcells (HR.out.later mq3)
              clear hK K
              try simp only [Act.put, List.setIfInBounds_toArray, List.set_cons_zero, List.set_cons_succ]
              refine take_run 19 (v := ?_) rfl (by kernel_rfl) (by kernel_rfl) (by kernel_rfl) (fun _ _ _ h => h) (by rfl) ?_ (by assumption) ?_
              rotate_left
              · (intro wx hSw; (try dsimp only at hSw); go_simp; try with_reducible rfl)
              try simp only [Act.put, List.setIfInBounds_toArray, List.set_cons_zero, List.set_cons_succ]
              refine take_run 20 (v := ?_) rfl (by kernel_rfl) (by kernel_rfl) (by kernel_rfl) (fun _ _ _ h => h) (by rfl) ?_ (by assumption) ?_
              rotate_left
              · (intro wx hSw; (try dsimp only at hSw); go_simp; try with_reducible rfl)
              try simp only [Act.put, List.setIfInBounds_toArray, List.set_cons_zero, List.set_cons_succ]
              refine take_run 21 (v := ?_) rfl (by kernel_rfl) (by kernel_rfl) (by kernel_rfl) (fun _ _ _ h => h) (by rfl) ?_ (by assumption) ?_
              rotate_left
              · (intro wx hSw; (try dsimp only at hSw); go_simp; try with_reducible rfl)
              try simp only [Act.put, List.setIfInBounds_toArray, List.set_cons_zero, List.set_cons_succ]
              refine take_run 22 (v := ?_) rfl (by kernel_rfl) (by kernel_rfl) (by kernel_rfl) (fun _ _ _ h => h) (by rfl) ?_ (by assumption) ?_
              rotate_left
              · (intro wx hSw; (try dsimp only at hSw); go_simp; try with_reducible rfl)
              try simp only [Act.put, List.setIfInBounds_toArray, List.set_cons_zero, List.set_cons_succ]
              refine wpAnyH_done (by kernel_rfl) ?_ _
              go_wp2
              go_ret
              exact ⟨by simp; exact HME.out.symm, (hmod.trans mq3 (by simp)).below⟩
          · have z0 := HR.out.kn.cell 0
            have z1 := HR.out.kn.cell 1
            have y0 := HR.out.ko.cell 0
            have y1 := HR.out.ko.cell 1
            simp at z0 z1 y0 y1
            have hle := HR.out.le
            have u1 : IntKind.i64.wrap ((p0 : Int) + (p1 : Int)) = (p0 : Int) + (p1 : Int) := IntWalk.i64_in _ (by omega)
            have u2 : IntKind.i64.wrap ((p0 : Int) + (p1 : Int) - (o0 : Int)) = (p0 : Int) + (p1 : Int) - (o0 : Int) := IntWalk.i64_in _ (by omega)
            have u3 : IntKind.i64.wrap ((p0 : Int) + (p1 : Int) - (o0 : Int) - (o1 : Int)) = (p0 : Int) + (p1 : Int) - (o0 : Int) - (o1 : Int) := IntWalk.i64_in _ (by omega)
            obtain ⟨mm, hmm⟩ : ∃ mm : Int, ((p0 + p1 - o0 - o1 : Nat) : Int) = mm := ⟨_, rfl⟩
            have q1 : (mm == (p0 : Int) + (p1 : Int) - (o0 : Int) - (o1 : Int)) = true := by simp; omega
            have hem : (!([mm, 0] : List Int).any fun n => decide (0 < n)) = (mm == 0) := by
              by_cases h : mm = 0
              · simp [h]
              · have h1 : 0 < mm := by omega
                simp [h, h1]
            obtain ⟨em, hme⟩ : ∃ em, (mm == 0) = em := ⟨_, rfl⟩
            rw [hme] at hem
            have HME := Lib.hid hme
            clear hme
            have mq0 : Mod (fun _ => False) wB wB.drew := (Mod.refl _ _).drew
            go_upto_region 28 with fail
            refine wp_region_held_drew (S := fun w' => w'.cell? ⟨KN, 0, none⟩ = some (.int .i64 p0) ∧ w'.cell? ⟨KN, 1, none⟩ = some (.int .i64 p1) ∧ w'.cell? ⟨KO, 0, none⟩ = some (.int .i64 o0) ∧ w'.cell? ⟨KO, 1, none⟩ = some (.int .i64 o1)) (by kernel_rfl) ?_ (fun hHeld => ?_)
            · exact ⟨z0, z1, y0, y1⟩
            refine take_run 0 (v := ?_) rfl (by kernel_rfl) (by kernel_rfl) (by kernel_rfl) (fun _ _ _ h => h) (by rfl) ?_ (by assumption) ?_
            rotate_left
            · (intro wx hSw; (try dsimp only at hSw); go_simp; try with_reducible rfl)
            try simp only [Act.put, List.setIfInBounds_toArray, List.set_cons_zero, List.set_cons_succ]
            refine take_run 2 (v := ?_) rfl (by kernel_rfl) (by kernel_rfl) (by kernel_rfl) (fun _ _ _ h => h) (by rfl) ?_ (by assumption) ?_
            rotate_left
            · (intro wx hSw; (try dsimp only at hSw); go_simp; try with_reducible rfl)
            try simp only [Act.put, List.setIfInBounds_toArray, List.set_cons_zero, List.set_cons_succ]
            refine take_run 3 (v := ?_) rfl (by kernel_rfl) (by kernel_rfl) (by kernel_rfl) (fun _ _ _ h => h) (by rfl) ?_ (by assumption) ?_
            rotate_left
            · (intro wx hSw; (try dsimp only at hSw); go_simp; try with_reducible rfl)
            try simp only [Act.put, List.setIfInBounds_toArray, List.set_cons_zero, List.set_cons_succ]
            refine take_run 4 (v := ?_) rfl (by kernel_rfl) (by kernel_rfl) (by kernel_rfl) (fun _ _ _ h => h) (by rfl) ?_ (by assumption) ?_
            rotate_left
            · (intro wx hSw; (try dsimp only at hSw); go_simp; try with_reducible rfl)
            try simp only [Act.put, List.setIfInBounds_toArray, List.set_cons_zero, List.set_cons_succ]
            refine take_run 5 (v := ?_) rfl (by kernel_rfl) (by kernel_rfl) (by kernel_rfl) (fun _ _ _ h => h) (by rfl) ?_ (by assumption) ?_
            rotate_left
            · (intro wx hSw; (try dsimp only at hSw); go_simp; try with_reducible rfl)
            try simp only [Act.put, List.setIfInBounds_toArray, List.set_cons_zero, List.set_cons_succ]
            refine take_run 6 (v := ?_) rfl (by kernel_rfl) (by kernel_rfl) (by kernel_rfl) (fun _ _ _ h => h) (by rfl) ?_ (by assumption) ?_
            rotate_left
            · (intro wx hSw; (try dsimp only at hSw); go_simp; try with_reducible rfl)
            try simp only [Act.put, List.setIfInBounds_toArray, List.set_cons_zero, List.set_cons_succ]
            refine take_run 7 (v := ?_) rfl (by kernel_rfl) (by kernel_rfl) (by kernel_rfl) (fun _ _ _ h => h) (by rfl) ?_ (by assumption) ?_
            rotate_left
            · (intro wx hSw; (try dsimp only at hSw); go_simp; try with_reducible rfl)
            try simp only [Act.put, List.setIfInBounds_toArray, List.set_cons_zero, List.set_cons_succ]
            refine take_run 8 (v := ?_) rfl (by kernel_rfl) (by kernel_rfl) (by kernel_rfl) (fun _ _ _ h => h) (by rfl) ?_ (by assumption) ?_
            rotate_left
            · (intro wx hSw; (try dsimp only at hSw); go_simp; try with_reducible rfl)
            try simp only [Act.put, List.setIfInBounds_toArray, List.set_cons_zero, List.set_cons_succ]
            refine take_run 9 (v := ?_) rfl (by kernel_rfl) (by kernel_rfl) (by kernel_rfl) (fun _ _ _ h => h) (by rfl) ?_ (by assumption) ?_
            rotate_left
            · (intro wx hSw; (try dsimp only at hSw); go_simp; try with_reducible rfl)
            try simp only [Act.put, List.setIfInBounds_toArray, List.set_cons_zero, List.set_cons_succ]
            refine take_run 10 (v := ?_) rfl (by kernel_rfl) (by kernel_rfl) (by kernel_rfl) (fun _ _ _ h => h) (by rfl) ?_ (by assumption) ?_
            rotate_left
            · (intro wx hSw; (try dsimp only at hSw); go_simp; try with_reducible rfl)
            try simp only [Act.put, List.setIfInBounds_toArray, List.set_cons_zero, List.set_cons_succ]
            refine take_run 11 (v := ?_) rfl (by kernel_rfl) (by kernel_rfl) (by kernel_rfl) (fun _ _ _ h => h) (by rfl) ?_ (by assumption) ?_
            rotate_left
            · (intro wx hSw; (try dsimp only at hSw); go_simp; try with_reducible rfl)
            try simp only [Act.put, List.setIfInBounds_toArray, List.set_cons_zero, List.set_cons_succ]
            refine take_run 12 (v := ?_) rfl (by kernel_rfl) (by kernel_rfl) (by kernel_rfl) (fun _ _ _ h => h) (by rfl) ?_ (by assumption) ?_
            rotate_left
            · (intro wx hSw; (try dsimp only at hSw); go_simp; try with_reducible rfl)
            try simp only [Act.put, List.setIfInBounds_toArray, List.set_cons_zero, List.set_cons_succ]
            refine take_call 1 rfl (by kernel_rfl) (fun K hK => ?_)
            go_simp
            refine (run_Under 0 _ (HR.out.later mq0).mdl).mono ?_
            rw [show underV rowC [((p0 + p1 - o0 - o1 : Nat) : Int), 0] 0 = ((p0 + p1 - o0 - o1 : Nat) : Int) from by unfold underV; rw [if_pos (by decide)]; rfl, hmm]
            rintro e wu ⟨rfl, mu⟩
            have mq1 := mq0.trans mu (by simp)
            refine hK.out _ _ ?_ (fun hHeld2 => ?_)
            · exact rcells (HR.out.later mq1)
            clear hK K
            try simp only [Act.put, List.setIfInBounds_toArray, List.set_cons_zero, List.set_cons_succ]
            refine take_run 13 (v := ?_) rfl (by kernel_rfl) (by kernel_rfl) (by kernel_rfl) (fun _ _ _ h => h) (by rfl) ?_ (by assumption) ?_
            rotate_left
            · (intro wx hSw; (try dsimp only at hSw); go_simp; try with_reducible rfl)
            try simp only [Act.put, List.setIfInBounds_toArray, List.set_cons_zero, List.set_cons_succ]
            refine take_run 14 (v := ?_) rfl (by kernel_rfl) (by kernel_rfl) (by kernel_rfl) (fun _ _ _ h => h) (by rfl) ?_ (by assumption) ?_
            rotate_left
            · (intro wx hSw; (try dsimp only at hSw); go_simp; try with_reducible rfl)
            try simp only [Act.put, List.setIfInBounds_toArray, List.set_cons_zero, List.set_cons_succ]
            refine take_run 15 (v := ?_) rfl (by kernel_rfl) (by kernel_rfl) (by kernel_rfl) (fun _ _ _ h => h) (by rfl) ?_ (by assumption) ?_
            rotate_left
            · (intro wx hSw; (try dsimp only at hSw); go_simp; try with_reducible rfl)
            try simp only [Act.put, List.setIfInBounds_toArray, List.set_cons_zero, List.set_cons_succ]
            refine take_run 17 (v := ?_) rfl (by kernel_rfl) (by kernel_rfl) (by kernel_rfl) (fun _ _ _ h => h) (by rfl) ?_ (by assumption) ?_
            rotate_left
            · (intro wx hSw; (try dsimp only at hSw); go_simp; try with_reducible rfl)
            try simp only [Act.put, List.setIfInBounds_toArray, List.set_cons_zero, List.set_cons_succ]
            refine take_call 16 rfl (by kernel_rfl) (fun K hK => ?_)
            go_simp
            refine (run_Empty _ (HR.out.later mq1).mdl).mono ?_
            rw [hmm, hem]
            rintro e wv ⟨rfl, mv⟩
            have mq2 := mq1.trans mv (by simp)
            refine hK.out _ _ ?_ (fun hHeld3 => ?_)
            · exact rcells (HR.out.later mq2)
            clear hK K
            try simp only [Act.put, List.setIfInBounds_toArray, List.set_cons_zero, List.set_cons_succ]
            refine take_call 18 rfl (by kernel_rfl) (fun K hK => ?_)
            go_simp
            refine (run_Under 0 _ (HR.out.later mq2).mdl).mono ?_
            rw [show underV rowC [((p0 + p1 - o0 - o1 : Nat) : Int), 0] 0 = ((p0 + p1 - o0 - o1 : Nat) : Int) from by unfold underV; rw [if_pos (by decide)]; rfl, hmm]
            rintro e wy ⟨rfl, my⟩
            have mq3 := mq2.trans my (by simp)
            refine hK.out _ _ ?_ (fun hHeld4 => ?_)
            · exact rcells (HR.out.later mq3)
            clear hK K
            try simp only [Act.put, List.setIfInBounds_toArray, List.set_cons_zero, List.set_cons_succ]
            refine take_run 19 (v := ?_) rfl (by kernel_rfl) (by kernel_rfl) (by kernel_rfl) (fun _ _ _ h => h) (by rfl) ?_ (by assumption) ?_
            rotate_left
            · (intro wx hSw; (try dsimp only at hSw); go_simp; try with_reducible rfl)
            try simp only [Act.put, List.setIfInBounds_toArray, List.set_cons_zero, List.set_cons_succ]
            refine take_run 20 (v := ?_) rfl (by kernel_rfl) (by kernel_rfl) (by kernel_rfl) (fun _ _ _ h => h) (by rfl) ?_ (by assumption) ?_
            rotate_left
            · (intro wx hSw; (try dsimp only at hSw); go_simp; try with_reducible rfl)
            try simp only [Act.put, List.setIfInBounds_toArray, List.set_cons_zero, List.set_cons_succ]
            refine take_run 21 (v := ?_) rfl (by kernel_rfl) (by kernel_rfl) (by kernel_rfl) (fun _ _ _ h => h) (by rfl) ?_ (by assumption) ?_
            rotate_left
            · (intro wx hSw; (try dsimp only at hSw); go_simp; try with_reducible rfl)
            try simp only [Act.put, List.setIfInBounds_toArray, List.set_cons_zero, List.set_cons_succ]
            refine take_run 22 (v := ?_) rfl (by kernel_rfl) (by kernel_rfl) (by kernel_rfl) (fun _ _ _ h => h) (by rfl) ?_ (by assumption) ?_
            rotate_left
            · (intro wx hSw; (try dsimp only at hSw); go_simp; try with_reducible rfl)
            try simp only [Act.put, List.setIfInBounds_toArray, List.set_cons_zero, List.set_cons_succ]
            refine wpAnyH_done (by kernel_rfl) ?_ _
            go_wp2
            go_ret
            exact ⟨by simp; exact HME.out.symm, (hmod.trans mq3 (by simp)).below⟩
    · go_wp2
      go_loopw [12] (fun i wr => ∃ (jj : Nat) (f' : Int → Int → Value) (Q : Int → Int → List ByteArray) (o0 o1 kq : Nat), jj ≤ n1 ∧ jj ≤ 20 ∧ kq ≤ 8 + jj ∧ i = .int .i64 jj ∧ RowSt w.heap.size wr b bq bu bc f' KN KO kq Q p0 p1 o0 o1 ∧ Mod (fun _ => False) w wr) (fun i _ => n1 - (intOf i).toNat)
      case atStart => exact ⟨0, f', Q, 0, 0, ii, by omega, by omega, by omega, rfl, HR.out, hmod⟩
      case round =>
        obtain ⟨jj, f', Q, o0, o1, kq, hjj, hj20, hkq, rfl, hR, hmod⟩ := hrel
        obtain ⟨wB, rfl⟩ : ∃ wo : World, wo = wr := ⟨_, rfl⟩
        have HR := Lib.hid hR
        have hle := hR.le
        clear hR
        by_cases hlt : jj < n1
        · by_cases hl20 : jj < 20
          · obtain ⟨x, hx⟩ : ∃ x, l1[jj]? = some x := ⟨_, List.getElem?_eq_getElem (by have := L1.out; omega)⟩
            obtain ⟨B, off, rfl, hB, dx⟩ := S1.out.at jj hlt
            have dx2 : w.cell? ⟨B, off + jj, none⟩ = some (.bool x) := by rw [dx]; simp [List.getD_eq_getElem?_getD, hx]
            have dxA := (hmod.cell (p := ⟨B, off + jj, none⟩) hB (by simp)).trans dx2
            have r0 : (0 : Int) ≤ (jj : Int) := by omega
            have r1 : (jj : Int) < (n1 : Int) := by omega
            have r2 : (jj : Int) < 20 := by omega
            clear dx hx
            have z0 := HR.out.kn.cell 0
            have z1 := HR.out.kn.cell 1
            have y0 := HR.out.ko.cell 0
            have y1 := HR.out.ko.cell 1
            simp at z0 z1 y0 y1
            cases x with
            | false =>
              have u1 : IntKind.i64.wrap (97 + (o0 : Int)) = 97 + (o0 : Int) := IntWalk.i64_in _ (by omega)
              obtain ⟨ox, hox⟩ : ∃ ox : Nat, ox = o0 + 1 := ⟨_, rfl⟩
              have u2 : IntKind.i64.wrap (97 + (o0 : Int) + 1) = 97 + (ox : Int) := by rw [IntWalk.i64_in _ (by omega)]; omega
              have u3 : IntKind.u8.wrap (97 + (ox : Int)) = 97 + (ox : Int) := by rw [IntKind.wrap_u8]; omega
              have u4 : IntKind.u8.wrap (97 + (o0 : Int)) = 97 + (o0 : Int) := by rw [IntKind.wrap_u8]; omega
              have u5 : IntKind.i64.wrap ((o0 : Int) + 1) = (o0 : Int) + 1 := IntWalk.i64_in _ (by omega)
              have hox2 : ox ≤ 20 ∧ ox ≠ o0 := by omega
              have hcr := chr_run (W := wB.alloc (.cells #[.int .u8 (97 + (ox : Int))] 5)) (g := wB.heap.size) (i := ox) (by omega) (by simp)
              have mC : Mod (fun _ => False) wB (wB.alloc (.cells #[.int .u8 (97 + (ox : Int))] 5)) := (Mod.refl _ _).alloc _
              have HRC := Lib.hid (HR.out.later mC)
              clear hox
              go_wp2_with fail
              clear hcr
              generalize wB.alloc (.cells #[.int .u8 (97 + (ox : Int))] 5) = wC at mC HRC ⊢
              refine (run_Took 0 0 0 0 (chr ox) _ HRC.out.mdl (by omega)).mono ?_
              rw [tookE_row (Or.inl rfl) HRC.out.q0 (by omega) (by omega), if_neg (by omega)]
              rintro e w7 ⟨rfl, ⟨-, m7⟩ | ⟨h0, -⟩⟩
              rotate_left
              · exact absurd h0 (by decide)
              have HR7 := Lib.hid (HRC.out.later m7)
              have mm7 := (hmod.trans mC (by simp)).trans m7 (by simp)
              clear HRC HR m7 mC hmod z0 z1 y0 y1
              have y0 := HR7.out.ko.cell 0
              have y1 := HR7.out.ko.cell 1
              simp at y0 y1
              have hcr := chr_run (W := w7.alloc (.cells #[.int .u8 (97 + (o0 : Int))] 5)) (g := w7.heap.size) (i := o0) (by omega) (by simp)
              have mC : Mod (fun _ => False) w7 (w7.alloc (.cells #[.int .u8 (97 + (o0 : Int))] 5)) := (Mod.refl _ _).alloc _
              have HRC := Lib.hid (HR7.out.later mC)
              go_wp2_with fail
              clear hcr
              generalize w7.alloc (.cells #[.int .u8 (97 + (o0 : Int))] 5) = wC at mC HRC ⊢
              refine (run_Took 0 0 0 0 (chr o0) _ HRC.out.mdl (by omega)).mono ?_
              rw [tookE_row (Or.inl rfl) HRC.out.q0 (by omega) (by omega)]
              have hmC := mm7.trans mC (by simp)
              clear HR7 mC mm7 y0 y1
              by_cases hon : o0 < p0
              · rw [if_pos ⟨hon, rfl⟩]
                rintro e w8 ⟨rfl, ⟨h0, -⟩ | ⟨-, m8, f2, hM, hO⟩⟩
                · exact absurd rfl h0
                change MdlIn w8 b bq bu bc f2 rowC (kq + 1) (updQ Q 0 0 (Q 0 0).tail) [((p0 + p1 - o0 - o1 : Nat) : Int) - 1, 0] [false, false] at hM
                have k8 := HRC.out.kn.later m8 (fun e => (HRC.out.own _ e).2.1 rfl)
                have o8 := HRC.out.ko.later m8 (fun e => (HRC.out.own _ e).2.2 rfl)
                have z0 := k8.cell 0
                have z1 := k8.cell 1
                have y0 := o8.cell 0
                have y1 := o8.cell 1
                simp at z0 z1 y0 y1
                have q1 : decide ((o0 : Int) < (p0 : Int)) = true := by simp; omega
                go_upto_region 24 with fail
                go_cut [107] (fun v w' => v = .bool false ∧ Drw w8 w')
                case first =>
                  go_quiet (fail)
                  all_goals go_wp2_with fail
                  all_goals go_meet
                  all_goals exact ⟨by simp, Drw.drewN _ _⟩
                case rest =>
                  obtain ⟨rfl, d9⟩ := hcut
                  obtain ⟨w9, rfl⟩ : ∃ wo : World, wo = wc := ⟨_, rfl⟩
                  have m9 := d9.mod (fun _ => False)
                  have m89 := m8.trans m9 (by simp)
                  have hRS := RowSt.took0 HRC.out (x := (o0 : Int) + 1) rfl (hM.later m9 (by simp)) m89 hO (Nat.le_trans (Nat.le_refl _) hmC.size) hon
                  have o9 := o8.later m9 (by simp)
                  have x0 := o9.cell 0
                  have x1 := o9.cell 1
                  simp at x0 x1
                  have g0 := o9.fz 0
                  have g1 := o9.fz 1
                  have m10 : Mod (fun _ => False) w (w9.setCell ⟨KO, 0, none⟩ (.int .i64 ((o0 : Int) + 1))) := (hmC.trans m89 (fun i hi e => by have := (HRC.out.own _ e).1; omega)).setCell (p := ⟨KO, 0, none⟩) (Or.inr HRC.out.kk.2.1) _
                  have HRS := Lib.hid hRS
                  clear hRS hM hO m8 k8 o8 z0 z1 y0 y1 hmC HRC m89 m9 d9 o9 q1
                  go_wp2
                  go_roundw
                  case rel => exact ⟨jj + 1, f2, _, o0 + 1, o1, kq + 1, by omega, by omega, by omega, by go_num, HRS.out, m10⟩
                  case measure => simp [intOf]; omega
              · rw [if_neg (fun e => hon e.1)]
                rintro e w8 ⟨rfl, ⟨-, m8⟩ | ⟨h0, -⟩⟩
                rotate_left
                · exact absurd h0 (by decide)
                have HR8 := Lib.hid (HRC.out.later m8)
                have z0 := HR8.out.kn.cell 0
                have z1 := HR8.out.kn.cell 1
                have y0 := HR8.out.ko.cell 0
                have y1 := HR8.out.ko.cell 1
                simp at z0 z1 y0 y1
                have q1 : decide ((o0 : Int) < (p0 : Int)) = false := by simp; omega
                go_upto_region 24 with fail
                go_cut [107] (fun v w' => v = .bool false ∧ Drw w8 w')
                case first =>
                  go_quiet (fail)
                  all_goals go_wp2_with fail
                  all_goals go_meet
                  all_goals exact ⟨by simp, Drw.drewN _ _⟩
                case rest =>
                  obtain ⟨rfl, d9⟩ := hcut
                  have m9 := d9.mod (fun _ => False)
                  have HR9 := Lib.hid (HR8.out.later m9)
                  have m10 := (hmC.trans m8 (by simp)).trans m9 (by simp)
                  clear HR8 m8 hmC HRC m9 d9 z0 z1 y0 y1 q1
                  go_wp2
                  go_roundw
                  case rel => exact ⟨jj + 1, f', Q, o0, o1, kq, by omega, by omega, by omega, by go_num, HR9.out, m10⟩
                  case measure => simp [intOf]; omega
            | true =>
              have u1 : IntKind.i64.wrap (97 + (o1 : Int)) = 97 + (o1 : Int) := IntWalk.i64_in _ (by omega)
              obtain ⟨ox, hox⟩ : ∃ ox : Nat, ox = o1 + 1 := ⟨_, rfl⟩
              have u2 : IntKind.i64.wrap (97 + (o1 : Int) + 1) = 97 + (ox : Int) := by rw [IntWalk.i64_in _ (by omega)]; omega
              have u3 : IntKind.u8.wrap (97 + (ox : Int)) = 97 + (ox : Int) := by rw [IntKind.wrap_u8]; omega
              have u4 : IntKind.u8.wrap (97 + (o1 : Int)) = 97 + (o1 : Int) := by rw [IntKind.wrap_u8]; omega
              have u5 : IntKind.i64.wrap ((o1 : Int) + 1) = (o1 : Int) + 1 := IntWalk.i64_in _ (by omega)
              have hox2 : ox ≤ 20 ∧ ox ≠ o1 := by omega
              have hcr := chr_run (W := wB.alloc (.cells #[.int .u8 (97 + (ox : Int))] 5)) (g := wB.heap.size) (i := ox) (by omega) (by simp)
              have mC : Mod (fun _ => False) wB (wB.alloc (.cells #[.int .u8 (97 + (ox : Int))] 5)) := (Mod.refl _ _).alloc _
              have HRC := Lib.hid (HR.out.later mC)
              clear hox
              go_wp2_with fail
              clear hcr
              generalize wB.alloc (.cells #[.int .u8 (97 + (ox : Int))] 5) = wC at mC HRC ⊢
              refine (run_Took 1 0 1 0 (chr ox) _ HRC.out.mdl (by omega)).mono ?_
              rw [tookE_row (Or.inr rfl) HRC.out.q1 (by omega) (by omega), if_neg (by omega)]
              rintro e w7 ⟨rfl, ⟨-, m7⟩ | ⟨h0, -⟩⟩
              rotate_left
              · exact absurd h0 (by decide)
              have HR7 := Lib.hid (HRC.out.later m7)
              have mm7 := (hmod.trans mC (by simp)).trans m7 (by simp)
              clear HRC HR m7 mC hmod z0 z1 y0 y1
              have y0 := HR7.out.ko.cell 0
              have y1 := HR7.out.ko.cell 1
              simp at y0 y1
              have hcr := chr_run (W := w7.alloc (.cells #[.int .u8 (97 + (o1 : Int))] 5)) (g := w7.heap.size) (i := o1) (by omega) (by simp)
              have mC : Mod (fun _ => False) w7 (w7.alloc (.cells #[.int .u8 (97 + (o1 : Int))] 5)) := (Mod.refl _ _).alloc _
              have HRC := Lib.hid (HR7.out.later mC)
              go_wp2_with fail
              clear hcr
              generalize w7.alloc (.cells #[.int .u8 (97 + (o1 : Int))] 5) = wC at mC HRC ⊢
              refine (run_Took 1 0 1 0 (chr o1) _ HRC.out.mdl (by omega)).mono ?_
              rw [tookE_row (Or.inr rfl) HRC.out.q1 (by omega) (by omega)]
              have hmC := mm7.trans mC (by simp)
              clear HR7 mC mm7 y0 y1
              by_cases hon : o1 < p1
              · rw [if_pos ⟨hon, rfl⟩]
                rintro e w8 ⟨rfl, ⟨h0, -⟩ | ⟨-, m8, f2, hM, hO⟩⟩
                · exact absurd rfl h0
                change MdlIn w8 b bq bu bc f2 rowC (kq + 1) (updQ Q 0 1 (Q 0 1).tail) [((p0 + p1 - o0 - o1 : Nat) : Int) - 1, 0] [false, false] at hM
                have k8 := HRC.out.kn.later m8 (fun e => (HRC.out.own _ e).2.1 rfl)
                have o8 := HRC.out.ko.later m8 (fun e => (HRC.out.own _ e).2.2 rfl)
                have z0 := k8.cell 0
                have z1 := k8.cell 1
                have y0 := o8.cell 0
                have y1 := o8.cell 1
                simp at z0 z1 y0 y1
                have q1 : decide ((o1 : Int) < (p1 : Int)) = true := by simp; omega
                go_upto_region 24 with fail
                go_cut [107] (fun v w' => v = .bool false ∧ Drw w8 w')
                case first =>
                  go_quiet (fail)
                  all_goals go_wp2_with fail
                  all_goals go_meet
                  all_goals exact ⟨by simp, Drw.drewN _ _⟩
                case rest =>
                  obtain ⟨rfl, d9⟩ := hcut
                  obtain ⟨w9, rfl⟩ : ∃ wo : World, wo = wc := ⟨_, rfl⟩
                  have m9 := d9.mod (fun _ => False)
                  have m89 := m8.trans m9 (by simp)
                  have hRS := RowSt.took1 HRC.out (x := (o1 : Int) + 1) rfl (hM.later m9 (by simp)) m89 hO (Nat.le_trans (Nat.le_refl _) hmC.size) hon
                  have o9 := o8.later m9 (by simp)
                  have x0 := o9.cell 0
                  have x1 := o9.cell 1
                  simp at x0 x1
                  have g0 := o9.fz 0
                  have g1 := o9.fz 1
                  have m10 : Mod (fun _ => False) w (w9.setCell ⟨KO, 1, none⟩ (.int .i64 ((o1 : Int) + 1))) := (hmC.trans m89 (fun i hi e => by have := (HRC.out.own _ e).1; omega)).setCell (p := ⟨KO, 1, none⟩) (Or.inr HRC.out.kk.2.1) _
                  have HRS := Lib.hid hRS
                  clear hRS hM hO m8 k8 o8 z0 z1 y0 y1 hmC HRC m89 m9 d9 o9 q1
                  go_wp2
                  go_roundw
                  case rel => exact ⟨jj + 1, f2, _, o0, o1 + 1, kq + 1, by omega, by omega, by omega, by go_num, HRS.out, m10⟩
                  case measure => simp [intOf]; omega
              · rw [if_neg (fun e => hon e.1)]
                rintro e w8 ⟨rfl, ⟨-, m8⟩ | ⟨h0, -⟩⟩
                rotate_left
                · exact absurd h0 (by decide)
                have HR8 := Lib.hid (HRC.out.later m8)
                have z0 := HR8.out.kn.cell 0
                have z1 := HR8.out.kn.cell 1
                have y0 := HR8.out.ko.cell 0
                have y1 := HR8.out.ko.cell 1
                simp at z0 z1 y0 y1
                have q1 : decide ((o1 : Int) < (p1 : Int)) = false := by simp; omega
                go_upto_region 24 with fail
                go_cut [107] (fun v w' => v = .bool false ∧ Drw w8 w')
                case first =>
                  go_quiet (fail)
                  all_goals go_wp2_with fail
                  all_goals go_meet
                  all_goals exact ⟨by simp, Drw.drewN _ _⟩
                case rest =>
                  obtain ⟨rfl, d9⟩ := hcut
                  have m9 := d9.mod (fun _ => False)
                  have HR9 := Lib.hid (HR8.out.later m9)
                  have m10 := (hmC.trans m8 (by simp)).trans m9 (by simp)
                  clear HR8 m8 hmC HRC m9 d9 z0 z1 y0 y1 q1
                  go_wp2
                  go_roundw
                  case rel => exact ⟨jj + 1, f', Q, o0, o1, kq, by omega, by omega, by omega, by go_num, HR9.out, m10⟩
                  case measure => simp [intOf]; omega
          · have z0 := HR.out.kn.cell 0
            have z1 := HR.out.kn.cell 1
            have y0 := HR.out.ko.cell 0
            have y1 := HR.out.ko.cell 1
            simp at z0 z1 y0 y1
            have hle := HR.out.le
            have u1 : IntKind.i64.wrap ((p0 : Int) + (p1 : Int)) = (p0 : Int) + (p1 : Int) := IntWalk.i64_in _ (by omega)
            have u2 : IntKind.i64.wrap ((p0 : Int) + (p1 : Int) - (o0 : Int)) = (p0 : Int) + (p1 : Int) - (o0 : Int) := IntWalk.i64_in _ (by omega)
            have u3 : IntKind.i64.wrap ((p0 : Int) + (p1 : Int) - (o0 : Int) - (o1 : Int)) = (p0 : Int) + (p1 : Int) - (o0 : Int) - (o1 : Int) := IntWalk.i64_in _ (by omega)
            obtain ⟨mm, hmm⟩ : ∃ mm : Int, ((p0 + p1 - o0 - o1 : Nat) : Int) = mm := ⟨_, rfl⟩
            have q1 : (mm == (p0 : Int) + (p1 : Int) - (o0 : Int) - (o1 : Int)) = true := by simp; omega
            have hem : (!([mm, 0] : List Int).any fun n => decide (0 < n)) = (mm == 0) := by
              by_cases h : mm = 0
              · simp [h]
              · have h1 : 0 < mm := by omega
                simp [h, h1]
            obtain ⟨em, hme⟩ : ∃ em, (mm == 0) = em := ⟨_, rfl⟩
            rw [hme] at hem
            have HME := Lib.hid hme
            clear hme
            have mq0 : Mod (fun _ => False) wB wB.drew := (Mod.refl _ _).drew
            go_upto_region 28 with fail
            refine wp_region_held_drew (S := fun w' => w'.cell? ⟨KN, 0, none⟩ = some (.int .i64 p0) ∧ w'.cell? ⟨KN, 1, none⟩ = some (.int .i64 p1) ∧ w'.cell? ⟨KO, 0, none⟩ = some (.int .i64 o0) ∧ w'.cell? ⟨KO, 1, none⟩ = some (.int .i64 o1)) (by kernel_rfl) ?_ (fun hHeld => ?_)
            · exact ⟨z0, z1, y0, y1⟩
            refine take_run 0 (v := ?_) rfl (by kernel_rfl) (by kernel_rfl) (by kernel_rfl) (fun _ _ _ h => h) (by rfl) ?_ (by assumption) ?_
            rotate_left
            · (intro wx hSw; (try dsimp only at hSw); go_simp; try with_reducible rfl)
            try simp only [Act.put, List.setIfInBounds_toArray, List.set_cons_zero, List.set_cons_succ]
            refine take_run 2 (v := ?_) rfl (by kernel_rfl) (by kernel_rfl) (by kernel_rfl) (fun _ _ _ h => h) (by rfl) ?_ (by assumption) ?_
            rotate_left
            · (intro wx hSw; (try dsimp only at hSw); go_simp; try with_reducible rfl)
            try simp only [Act.put, List.setIfInBounds_toArray, List.set_cons_zero, List.set_cons_succ]
            refine take_run 3 (v := ?_) rfl (by kernel_rfl) (by kernel_rfl) (by kernel_rfl) (fun _ _ _ h => h) (by rfl) ?_ (by assumption) ?_
            rotate_left
            · (intro wx hSw; (try dsimp only at hSw); go_simp; try with_reducible rfl)
            try simp only [Act.put, List.setIfInBounds_toArray, List.set_cons_zero, List.set_cons_succ]
            refine take_run 4 (v := ?_) rfl (by kernel_rfl) (by kernel_rfl) (by kernel_rfl) (fun _ _ _ h => h) (by rfl) ?_ (by assumption) ?_
            rotate_left
            · (intro wx hSw; (try dsimp only at hSw); go_simp; try with_reducible rfl)
            try simp only [Act.put, List.setIfInBounds_toArray, List.set_cons_zero, List.set_cons_succ]
            refine take_run 5 (v := ?_) rfl (by kernel_rfl) (by kernel_rfl) (by kernel_rfl) (fun _ _ _ h => h) (by rfl) ?_ (by assumption) ?_
            rotate_left
            · (intro wx hSw; (try dsimp only at hSw); go_simp; try with_reducible rfl)
            try simp only [Act.put, List.setIfInBounds_toArray, List.set_cons_zero, List.set_cons_succ]
            refine take_run 6 (v := ?_) rfl (by kernel_rfl) (by kernel_rfl) (by kernel_rfl) (fun _ _ _ h => h) (by rfl) ?_ (by assumption) ?_
            rotate_left
            · (intro wx hSw; (try dsimp only at hSw); go_simp; try with_reducible rfl)
            try simp only [Act.put, List.setIfInBounds_toArray, List.set_cons_zero, List.set_cons_succ]
            refine take_run 7 (v := ?_) rfl (by kernel_rfl) (by kernel_rfl) (by kernel_rfl) (fun _ _ _ h => h) (by rfl) ?_ (by assumption) ?_
            rotate_left
            · (intro wx hSw; (try dsimp only at hSw); go_simp; try with_reducible rfl)
            try simp only [Act.put, List.setIfInBounds_toArray, List.set_cons_zero, List.set_cons_succ]
            refine take_run 8 (v := ?_) rfl (by kernel_rfl) (by kernel_rfl) (by kernel_rfl) (fun _ _ _ h => h) (by rfl) ?_ (by assumption) ?_
            rotate_left
            · (intro wx hSw; (try dsimp only at hSw); go_simp; try with_reducible rfl)
            try simp only [Act.put, List.setIfInBounds_toArray, List.set_cons_zero, List.set_cons_succ]
            refine take_run 9 (v := ?_) rfl (by kernel_rfl) (by kernel_rfl) (by kernel_rfl) (fun _ _ _ h => h) (by rfl) ?_ (by assumption) ?_
            rotate_left
            · (intro wx hSw; (try dsimp only at hSw); go_simp; try with_reducible rfl)
            try simp only [Act.put, List.setIfInBounds_toArray, List.set_cons_zero, List.set_cons_succ]
            refine take_run 10 (v := ?_) rfl (by kernel_rfl) (by kernel_rfl) (by kernel_rfl) (fun _ _ _ h => h) (by rfl) ?_ (by assumption) ?_
            rotate_left
            · (intro wx hSw; (try dsimp only at hSw); go_simp; try with_reducible rfl)
            try simp only [Act.put, List.setIfInBounds_toArray, List.set_cons_zero, List.set_cons_succ]
            refine take_run 11 (v := ?_) rfl (by kernel_rfl) (by kernel_rfl) (by kernel_rfl) (fun _ _ _ h => h) (by rfl) ?_ (by assumption) ?_
            rotate_left
            · (intro wx hSw; (try dsimp only at hSw); go_simp; try with_reducible rfl)
            try simp only [Act.put, List.setIfInBounds_toArray, List.set_cons_zero, List.set_cons_succ]
            refine take_run 12 (v := ?_) rfl (by kernel_rfl) (by kernel_rfl) (by kernel_rfl) (fun _ _ _ h => h) (by rfl) ?_ (by assumption) ?_
            rotate_left
            · (intro wx hSw; (try dsimp only at hSw); go_simp; try with_reducible rfl)
            try simp only [Act.put, List.setIfInBounds_toArray, List.set_cons_zero, List.set_cons_succ]
            refine take_call 1 rfl (by kernel_rfl) (fun K hK => ?_)
            go_simp
            refine (run_Under 0 _ (HR.out.later mq0).mdl).mono ?_
            rw [show underV rowC [((p0 + p1 - o0 - o1 : Nat) : Int), 0] 0 = ((p0 + p1 - o0 - o1 : Nat) : Int) from by unfold underV; rw [if_pos (by decide)]; rfl, hmm]
            rintro e wu ⟨rfl, mu⟩
            have mq1 := mq0.trans mu (by simp)
            refine hK.out _ _ ?_ (fun hHeld2 => ?_)
            · exact rcells (HR.out.later mq1)
            clear hK K
            try simp only [Act.put, List.setIfInBounds_toArray, List.set_cons_zero, List.set_cons_succ]
            refine take_run 13 (v := ?_) rfl (by kernel_rfl) (by kernel_rfl) (by kernel_rfl) (fun _ _ _ h => h) (by rfl) ?_ (by assumption) ?_
            rotate_left
            · (intro wx hSw; (try dsimp only at hSw); go_simp; try with_reducible rfl)
            try simp only [Act.put, List.setIfInBounds_toArray, List.set_cons_zero, List.set_cons_succ]
            refine take_run 14 (v := ?_) rfl (by kernel_rfl) (by kernel_rfl) (by kernel_rfl) (fun _ _ _ h => h) (by rfl) ?_ (by assumption) ?_
            rotate_left
            · (intro wx hSw; (try dsimp only at hSw); go_simp; try with_reducible rfl)
            try simp only [Act.put, List.setIfInBounds_toArray, List.set_cons_zero, List.set_cons_succ]
            refine take_run 15 (v := ?_) rfl (by kernel_rfl) (by kernel_rfl) (by kernel_rfl) (fun _ _ _ h => h) (by rfl) ?_ (by assumption) ?_
            rotate_left
            · (intro wx hSw; (try dsimp only at hSw); go_simp; try with_reducible rfl)
            try simp only [Act.put, List.setIfInBounds_toArray, List.set_cons_zero, List.set_cons_succ]
            refine take_run 17 (v := ?_) rfl (by kernel_rfl) (by kernel_rfl) (by kernel_rfl) (fun _ _ _ h => h) (by rfl) ?_ (by assumption) ?_
            rotate_left
            · (intro wx hSw; (try dsimp only at hSw); go_simp; try with_reducible rfl)
            try simp only [Act.put, List.setIfInBounds_toArray, List.set_cons_zero, List.set_cons_succ]
            refine take_call 16 rfl (by kernel_rfl) (fun K hK => ?_)
            go_simp
            refine (run_Empty _ (HR.out.later mq1).mdl).mono ?_
            rw [hmm, hem]
            rintro e wv ⟨rfl, mv⟩
            have mq2 := mq1.trans mv (by simp)
            refine hK.out _ _ ?_ (fun hHeld3 => ?_)
            · exact rcells (HR.out.later mq2)
            clear hK K
            try simp only [Act.put, List.setIfInBounds_toArray, List.set_cons_zero, List.set_cons_succ]
            refine take_call 18 rfl (by kernel_rfl) (fun K hK => ?_)
            go_simp
            refine (run_Under 0 _ (HR.out.later mq2).mdl).mono ?_
            rw [show underV rowC [((p0 + p1 - o0 - o1 : Nat) : Int), 0] 0 = ((p0 + p1 - o0 - o1 : Nat) : Int) from by unfold underV; rw [if_pos (by decide)]; rfl, hmm]
            rintro e wy ⟨rfl, my⟩
            have mq3 := mq2.trans my (by simp)
            refine hK.out _ _ ?_ (fun hHeld4 => ?_)
            · exact rcells (HR.out.later mq3)
            clear hK K
            try simp only [Act.put, List.setIfInBounds_toArray, List.set_cons_zero, List.set_cons_succ]
            refine take_run 19 (v := ?_) rfl (by kernel_rfl) (by kernel_rfl) (by kernel_rfl) (fun _ _ _ h => h) (by rfl) ?_ (by assumption) ?_
            rotate_left
            · (intro wx hSw; (try dsimp only at hSw); go_simp; try with_reducible rfl)
            try simp only [Act.put, List.setIfInBounds_toArray, List.set_cons_zero, List.set_cons_succ]
            refine take_run 20 (v := ?_) rfl (by kernel_rfl) (by kernel_rfl) (by kernel_rfl) (fun _ _ _ h => h) (by rfl) ?_ (by assumption) ?_
            rotate_left
            · (intro wx hSw; (try dsimp only at hSw); go_simp; try with_reducible rfl)
            try simp only [Act.put, List.setIfInBounds_toArray, List.set_cons_zero, List.set_cons_succ]
            refine take_run 21 (v := ?_) rfl (by kernel_rfl) (by kernel_rfl) (by kernel_rfl) (fun _ _ _ h => h) (by rfl) ?_ (by assumption) ?_
            rotate_left
            · (intro wx hSw; (try dsimp only at hSw); go_simp; try with_reducible rfl)
            try simp only [Act.put, List.setIfInBounds_toArray, List.set_cons_zero, List.set_cons_succ]
            refine take_run 22 (v := ?_) rfl (by kernel_rfl) (by kernel_rfl) (by kernel_rfl) (fun _ _ _ h => h) (by rfl) ?_ (by assumption) ?_
            rotate_left
            · (intro wx hSw; (try dsimp only at hSw); go_simp; try with_reducible rfl)
            try simp only [Act.put, List.setIfInBounds_toArray, List.set_cons_zero, List.set_cons_succ]
            refine wpAnyH_done (by kernel_rfl) ?_ _
            go_wp2
            go_ret
            exact ⟨by simp; exact HME.out.symm, (hmod.trans mq3 (by simp)).below⟩
        · have z0 := HR.out.kn.cell 0
          have z1 := HR.out.kn.cell 1
          have y0 := HR.out.ko.cell 0
          have y1 := HR.out.ko.cell 1
          simp at z0 z1 y0 y1
          have hle := HR.out.le
          have u1 : IntKind.i64.wrap ((p0 : Int) + (p1 : Int)) = (p0 : Int) + (p1 : Int) := IntWalk.i64_in _ (by omega)
          have u2 : IntKind.i64.wrap ((p0 : Int) + (p1 : Int) - (o0 : Int)) = (p0 : Int) + (p1 : Int) - (o0 : Int) := IntWalk.i64_in _ (by omega)
          have u3 : IntKind.i64.wrap ((p0 : Int) + (p1 : Int) - (o0 : Int) - (o1 : Int)) = (p0 : Int) + (p1 : Int) - (o0 : Int) - (o1 : Int) := IntWalk.i64_in _ (by omega)
          obtain ⟨mm, hmm⟩ : ∃ mm : Int, ((p0 + p1 - o0 - o1 : Nat) : Int) = mm := ⟨_, rfl⟩
          have q1 : (mm == (p0 : Int) + (p1 : Int) - (o0 : Int) - (o1 : Int)) = true := by simp; omega
          have hem : (!([mm, 0] : List Int).any fun n => decide (0 < n)) = (mm == 0) := by
            by_cases h : mm = 0
            · simp [h]
            · have h1 : 0 < mm := by omega
              simp [h, h1]
          obtain ⟨em, hme⟩ : ∃ em, (mm == 0) = em := ⟨_, rfl⟩
          rw [hme] at hem
          have HME := Lib.hid hme
          clear hme
          have mq0 : Mod (fun _ => False) wB wB.drew := (Mod.refl _ _).drew
          go_upto_region 28 with fail
          refine wp_region_held_drew (S := fun w' => w'.cell? ⟨KN, 0, none⟩ = some (.int .i64 p0) ∧ w'.cell? ⟨KN, 1, none⟩ = some (.int .i64 p1) ∧ w'.cell? ⟨KO, 0, none⟩ = some (.int .i64 o0) ∧ w'.cell? ⟨KO, 1, none⟩ = some (.int .i64 o1)) (by kernel_rfl) ?_ (fun hHeld => ?_)
          · exact ⟨z0, z1, y0, y1⟩
          refine take_run 0 (v := ?_) rfl (by kernel_rfl) (by kernel_rfl) (by kernel_rfl) (fun _ _ _ h => h) (by rfl) ?_ (by assumption) ?_
          rotate_left
          · (intro wx hSw; (try dsimp only at hSw); go_simp; try with_reducible rfl)
          try simp only [Act.put, List.setIfInBounds_toArray, List.set_cons_zero, List.set_cons_succ]
          refine take_run 2 (v := ?_) rfl (by kernel_rfl) (by kernel_rfl) (by kernel_rfl) (fun _ _ _ h => h) (by rfl) ?_ (by assumption) ?_
          rotate_left
          · (intro wx hSw; (try dsimp only at hSw); go_simp; try with_reducible rfl)
          try simp only [Act.put, List.setIfInBounds_toArray, List.set_cons_zero, List.set_cons_succ]
          refine take_run 3 (v := ?_) rfl (by kernel_rfl) (by kernel_rfl) (by kernel_rfl) (fun _ _ _ h => h) (by rfl) ?_ (by assumption) ?_
          rotate_left
          · (intro wx hSw; (try dsimp only at hSw); go_simp; try with_reducible rfl)
          try simp only [Act.put, List.setIfInBounds_toArray, List.set_cons_zero, List.set_cons_succ]
          refine take_run 4 (v := ?_) rfl (by kernel_rfl) (by kernel_rfl) (by kernel_rfl) (fun _ _ _ h => h) (by rfl) ?_ (by assumption) ?_
          rotate_left
          · (intro wx hSw; (try dsimp only at hSw); go_simp; try with_reducible rfl)
          try simp only [Act.put, List.setIfInBounds_toArray, List.set_cons_zero, List.set_cons_succ]
          refine take_run 5 (v := ?_) rfl (by kernel_rfl) (by kernel_rfl) (by kernel_rfl) (fun _ _ _ h => h) (by rfl) ?_ (by assumption) ?_
          rotate_left
          · (intro wx hSw; (try dsimp only at hSw); go_simp; try with_reducible rfl)
          try simp only [Act.put, List.setIfInBounds_toArray, List.set_cons_zero, List.set_cons_succ]
          refine take_run 6 (v := ?_) rfl (by kernel_rfl) (by kernel_rfl) (by kernel_rfl) (fun _ _ _ h => h) (by rfl) ?_ (by assumption) ?_
          rotate_left
          · (intro wx hSw; (try dsimp only at hSw); go_simp; try with_reducible rfl)
          try simp only [Act.put, List.setIfInBounds_toArray, List.set_cons_zero, List.set_cons_succ]
          refine take_run 7 (v := ?_) rfl (by kernel_rfl) (by kernel_rfl) (by kernel_rfl) (fun _ _ _ h => h) (by rfl) ?_ (by assumption) ?_
          rotate_left
          · (intro wx hSw; (try dsimp only at hSw); go_simp; try with_reducible rfl)
          try simp only [Act.put, List.setIfInBounds_toArray, List.set_cons_zero, List.set_cons_succ]
          refine take_run 8 (v := ?_) rfl (by kernel_rfl) (by kernel_rfl) (by kernel_rfl) (fun _ _ _ h => h) (by rfl) ?_ (by assumption) ?_
          rotate_left
          · (intro wx hSw; (try dsimp only at hSw); go_simp; try with_reducible rfl)
          try simp only [Act.put, List.setIfInBounds_toArray, List.set_cons_zero, List.set_cons_succ]
          refine take_run 9 (v := ?_) rfl (by kernel_rfl) (by kernel_rfl) (by kernel_rfl) (fun _ _ _ h => h) (by rfl) ?_ (by assumption) ?_
          rotate_left
          · (intro wx hSw; (try dsimp only at hSw); go_simp; try with_reducible rfl)
          try simp only [Act.put, List.setIfInBounds_toArray, List.set_cons_zero, List.set_cons_succ]
          refine take_run 10 (v := ?_) rfl (by kernel_rfl) (by kernel_rfl) (by kernel_rfl) (fun _ _ _ h => h) (by rfl) ?_ (by assumption) ?_
          rotate_left
          · (intro wx hSw; (try dsimp only at hSw); go_simp; try with_reducible rfl)
          try simp only [Act.put, List.setIfInBounds_toArray, List.set_cons_zero, List.set_cons_succ]
          refine take_run 11 (v := ?_) rfl (by kernel_rfl) (by kernel_rfl) (by kernel_rfl) (fun _ _ _ h => h) (by rfl) ?_ (by assumption) ?_
          rotate_left
          · (intro wx hSw; (try dsimp only at hSw); go_simp; try with_reducible rfl)
          try simp only [Act.put, List.setIfInBounds_toArray, List.set_cons_zero, List.set_cons_succ]
          refine take_run 12 (v := ?_) rfl (by kernel_rfl) (by kernel_rfl) (by kernel_rfl) (fun _ _ _ h => h) (by rfl) ?_ (by assumption) ?_
          rotate_left
          · (intro wx hSw; (try dsimp only at hSw); go_simp; try with_reducible rfl)
          try simp only [Act.put, List.setIfInBounds_toArray, List.set_cons_zero, List.set_cons_succ]
          refine take_call 1 rfl (by kernel_rfl) (fun K hK => ?_)
          go_simp
          refine (run_Under 0 _ (HR.out.later mq0).mdl).mono ?_
          rw [show underV rowC [((p0 + p1 - o0 - o1 : Nat) : Int), 0] 0 = ((p0 + p1 - o0 - o1 : Nat) : Int) from by unfold underV; rw [if_pos (by decide)]; rfl, hmm]
          rintro e wu ⟨rfl, mu⟩
          have mq1 := mq0.trans mu (by simp)
          refine hK.out _ _ ?_ (fun hHeld2 => ?_)
          · exact rcells (HR.out.later mq1)
          clear hK K
          try simp only [Act.put, List.setIfInBounds_toArray, List.set_cons_zero, List.set_cons_succ]
          refine take_run 13 (v := ?_) rfl (by kernel_rfl) (by kernel_rfl) (by kernel_rfl) (fun _ _ _ h => h) (by rfl) ?_ (by assumption) ?_
          rotate_left
          · (intro wx hSw; (try dsimp only at hSw); go_simp; try with_reducible rfl)
          try simp only [Act.put, List.setIfInBounds_toArray, List.set_cons_zero, List.set_cons_succ]
          refine take_run 14 (v := ?_) rfl (by kernel_rfl) (by kernel_rfl) (by kernel_rfl) (fun _ _ _ h => h) (by rfl) ?_ (by assumption) ?_
          rotate_left
          · (intro wx hSw; (try dsimp only at hSw); go_simp; try with_reducible rfl)
          try simp only [Act.put, List.setIfInBounds_toArray, List.set_cons_zero, List.set_cons_succ]
          refine take_run 15 (v := ?_) rfl (by kernel_rfl) (by kernel_rfl) (by kernel_rfl) (fun _ _ _ h => h) (by rfl) ?_ (by assumption) ?_
          rotate_left
          · (intro wx hSw; (try dsimp only at hSw); go_simp; try with_reducible rfl)
          try simp only [Act.put, List.setIfInBounds_toArray, List.set_cons_zero, List.set_cons_succ]
          refine take_run 17 (v := ?_) rfl (by kernel_rfl) (by kernel_rfl) (by kernel_rfl) (fun _ _ _ h => h) (by rfl) ?_ (by assumption) ?_
          rotate_left
          · (intro wx hSw; (try dsimp only at hSw); go_simp; try with_reducible rfl)
          try simp only [Act.put, List.setIfInBounds_toArray, List.set_cons_zero, List.set_cons_succ]
          refine take_call 16 rfl (by kernel_rfl) (fun K hK => ?_)
          go_simp
          refine (run_Empty _ (HR.out.later mq1).mdl).mono ?_
          rw [hmm, hem]
          rintro e wv ⟨rfl, mv⟩
          have mq2 := mq1.trans mv (by simp)
          refine hK.out _ _ ?_ (fun hHeld3 => ?_)
          · exact rcells (HR.out.later mq2)
          clear hK K
          try simp only [Act.put, List.setIfInBounds_toArray, List.set_cons_zero, List.set_cons_succ]
          refine take_call 18 rfl (by kernel_rfl) (fun K hK => ?_)
          go_simp
          refine (run_Under 0 _ (HR.out.later mq2).mdl).mono ?_
          rw [show underV rowC [((p0 + p1 - o0 - o1 : Nat) : Int), 0] 0 = ((p0 + p1 - o0 - o1 : Nat) : Int) from by unfold underV; rw [if_pos (by decide)]; rfl, hmm]
          rintro e wy ⟨rfl, my⟩
          have mq3 := mq2.trans my (by simp)
          refine hK.out _ _ ?_ (fun hHeld4 => ?_)
          · exact rcells (HR.out.later mq3)
          clear hK K
          try simp only [Act.put, List.setIfInBounds_toArray, List.set_cons_zero, List.set_cons_succ]
          refine take_run 19 (v := ?_) rfl (by kernel_rfl) (by kernel_rfl) (by kernel_rfl) (fun _ _ _ h => h) (by rfl) ?_ (by assumption) ?_
          rotate_left
          · (intro wx hSw; (try dsimp only at hSw); go_simp; try with_reducible rfl)
          try simp only [Act.put, List.setIfInBounds_toArray, List.set_cons_zero, List.set_cons_succ]
          refine take_run 20 (v := ?_) rfl (by kernel_rfl) (by kernel_rfl) (by kernel_rfl) (fun _ _ _ h => h) (by rfl) ?_ (by assumption) ?_
          rotate_left
          · (intro wx hSw; (try dsimp only at hSw); go_simp; try with_reducible rfl)
          try simp only [Act.put, List.setIfInBounds_toArray, List.set_cons_zero, List.set_cons_succ]
          refine take_run 21 (v := ?_) rfl (by kernel_rfl) (by kernel_rfl) (by kernel_rfl) (fun _ _ _ h => h) (by rfl) ?_ (by assumption) ?_
          rotate_left
          · (intro wx hSw; (try dsimp only at hSw); go_simp; try with_reducible rfl)
          try simp only [Act.put, List.setIfInBounds_toArray, List.set_cons_zero, List.set_cons_succ]
          refine take_run 22 (v := ?_) rfl (by kernel_rfl) (by kernel_rfl) (by kernel_rfl) (fun _ _ _ h => h) (by rfl) ?_ (by assumption) ?_
          rotate_left
          · (intro wx hSw; (try dsimp only at hSw); go_simp; try with_reducible rfl)
          try simp only [Act.put, List.setIfInBounds_toArray, List.set_cons_zero, List.set_cons_succ]
          refine wpAnyH_done (by kernel_rfl) ?_ _
          go_wp2
          go_ret
          exact ⟨by simp; exact HME.out.symm, (hmod.trans mq3 (by simp)).below⟩

end Go.Proofs.Ytonnooenebfbeaa
