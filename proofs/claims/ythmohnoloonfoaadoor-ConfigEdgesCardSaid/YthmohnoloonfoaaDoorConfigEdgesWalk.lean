/- The walk of ConfigEdges. -/
import Derived.Test.YthmohnoloonfoaaDoorLives04
import Derived.Test.YthmohnoloonfoaaDoorRef4
import Derived.Test.YthmohnoloonfoaaDoorPut9
namespace Go.Proofs.YthmohnoloonfoaaDoor
open Go.RowKit

theorem chk_cases (c : Cfg) : c.chk = 0 ∨ (c.chk = 4 ∧ (in1 64 c.W = false ∨ in1 64 c.H = false)) ∨ (c.chk = 10 ∧ in1 64 c.W = true ∧ in1 64 c.H = true) := by
  rw [← Cfg.chkR_eq]
  unfold Cfg.chkR
  by_cases a1 : in1 64 c.W = false
  · rw [if_pos a1]
    exact Or.inr (Or.inl ⟨rfl, Or.inl a1⟩)
  rw [if_neg a1]
  by_cases a2 : in1 64 c.H = false
  · rw [if_pos a2]
    exact Or.inr (Or.inl ⟨rfl, Or.inr a2⟩)
  rw [if_neg a2]
  have h : ∀ x : Int, x = 0 ∨ x = 10 → x = 0 ∨ (x = 4 ∧ (in1 64 c.W = false ∨ in1 64 c.H = false)) ∨ (x = 10 ∧ in1 64 c.W = true ∧ in1 64 c.H = true) := fun x hx => by
    rcases hx with hx | hx
    · exact Or.inl hx
    · exact Or.inr (Or.inr ⟨hx, by simpa using a1, by simpa using a2⟩)
  apply h
  repeat' split
  all_goals simp
theorem nodes_zero {c : Cfg} (h : c.chk ≠ 0) : c.nodes = 0 := by unfold Cfg.nodes; rw [if_neg h]
structure EdgeLaw (c b : Cfg) (most want n : Int) : Prop where
  yes : 1 ≤ n ∧ n ≤ most → c.chk = 0
  no : ¬ (1 ≤ n ∧ n ≤ most) → c.chk = want ∧ c.nodes = 0 ∧ b.chk = 4
theorem edge0 {W H La D R I B n : Int} {we ca : Bool} (h : (⟨W, H, La, D, R, I, B, we, ca⟩ : Cfg).Ok) : EdgeLaw (⟨n, H, La, D, R, I, B, we, false⟩ : Cfg) (⟨0, H, La, D, R, I, 0, we, false⟩ : Cfg) 64 4 n := by
  refine ⟨fun hn => Cfg.chk_of _ ⟨hn.1, hn.2, h.H1, h.H2, h.L1, h.L2, (fun hc => by cases hc), h.D1, h.D2, h.R1, h.R2, h.I1, h.I2, h.B1, h.B2⟩, fun hn => ?_⟩
  have h0 : (⟨n, H, La, D, R, I, B, we, false⟩ : Cfg).chk ≠ 0 := fun e => hn ⟨(Cfg.ok_of _ e).W1, (Cfg.ok_of _ e).W2⟩
  have hb : (⟨0, H, La, D, R, I, 0, we, false⟩ : Cfg).chk ≠ 0 := fun e => absurd (Cfg.ok_of _ e).W1 (show ¬ ((1 : Int) ≤ 0) by decide)
  have hb2 : (⟨0, H, La, D, R, I, 0, we, false⟩ : Cfg).chk = 4 := by
    rcases chk_cases (⟨0, H, La, D, R, I, 0, we, false⟩ : Cfg) with e | e | ⟨_, e, -⟩
    · exact absurd e hb
    · exact e.1
    · exact absurd (show in1 64 0 = true from e) (by decide)
  refine ⟨?_, nodes_zero h0, hb2⟩
  rcases chk_cases (⟨n, H, La, D, R, I, B, we, false⟩ : Cfg) with e | e | ⟨_, e, e'⟩
  · exact absurd e h0
  · exact e.1
  · exact absurd ((in1_iff 64 n).1 e) hn
theorem edge1 {W H La D R I B n : Int} {we ca : Bool} (h : (⟨W, H, La, D, R, I, B, we, ca⟩ : Cfg).Ok) : EdgeLaw (⟨W, n, La, D, R, I, B, we, false⟩ : Cfg) (⟨0, n, La, D, R, I, 0, we, false⟩ : Cfg) 64 4 n := by
  refine ⟨fun hn => Cfg.chk_of _ ⟨h.W1, h.W2, hn.1, hn.2, h.L1, h.L2, (fun hc => by cases hc), h.D1, h.D2, h.R1, h.R2, h.I1, h.I2, h.B1, h.B2⟩, fun hn => ?_⟩
  have h0 : (⟨W, n, La, D, R, I, B, we, false⟩ : Cfg).chk ≠ 0 := fun e => hn ⟨(Cfg.ok_of _ e).H1, (Cfg.ok_of _ e).H2⟩
  have hb : (⟨0, n, La, D, R, I, 0, we, false⟩ : Cfg).chk ≠ 0 := fun e => absurd (Cfg.ok_of _ e).W1 (show ¬ ((1 : Int) ≤ 0) by decide)
  have hb2 : (⟨0, n, La, D, R, I, 0, we, false⟩ : Cfg).chk = 4 := by
    rcases chk_cases (⟨0, n, La, D, R, I, 0, we, false⟩ : Cfg) with e | e | ⟨_, e, -⟩
    · exact absurd e hb
    · exact e.1
    · exact absurd (show in1 64 0 = true from e) (by decide)
  refine ⟨?_, nodes_zero h0, hb2⟩
  rcases chk_cases (⟨W, n, La, D, R, I, B, we, false⟩ : Cfg) with e | e | ⟨_, e, e'⟩
  · exact absurd e h0
  · exact e.1
  · exact absurd ((in1_iff 64 n).1 e') hn
theorem edge2 {W H La D R I B n : Int} {we ca : Bool} (h : (⟨W, H, La, D, R, I, B, we, ca⟩ : Cfg).Ok) : EdgeLaw (⟨W, H, n, D, R, I, B, we, false⟩ : Cfg) (⟨0, H, n, D, R, I, 0, we, false⟩ : Cfg) 8 10 n := by
  refine ⟨fun hn => Cfg.chk_of _ ⟨h.W1, h.W2, h.H1, h.H2, hn.1, hn.2, (fun hc => by cases hc), h.D1, h.D2, h.R1, h.R2, h.I1, h.I2, h.B1, h.B2⟩, fun hn => ?_⟩
  have h0 : (⟨W, H, n, D, R, I, B, we, false⟩ : Cfg).chk ≠ 0 := fun e => hn ⟨(Cfg.ok_of _ e).L1, (Cfg.ok_of _ e).L2⟩
  have hb : (⟨0, H, n, D, R, I, 0, we, false⟩ : Cfg).chk ≠ 0 := fun e => absurd (Cfg.ok_of _ e).W1 (show ¬ ((1 : Int) ≤ 0) by decide)
  have hb2 : (⟨0, H, n, D, R, I, 0, we, false⟩ : Cfg).chk = 4 := by
    rcases chk_cases (⟨0, H, n, D, R, I, 0, we, false⟩ : Cfg) with e | e | ⟨_, e, -⟩
    · exact absurd e hb
    · exact e.1
    · exact absurd (show in1 64 0 = true from e) (by decide)
  refine ⟨?_, nodes_zero h0, hb2⟩
  rcases chk_cases (⟨W, H, n, D, R, I, B, we, false⟩ : Cfg) with e | ⟨_, e⟩ | e
  · exact absurd e h0
  · have h1 := (in1_iff 64 W).2 ⟨h.W1, h.W2⟩
    have h2 := (in1_iff 64 H).2 ⟨h.H1, h.H2⟩
    dsimp only at e
    rw [h1, h2] at e
    simp at e
  · exact e.1
theorem edge3 {W H La D R I B n : Int} {we ca : Bool} (h : (⟨W, H, La, D, R, I, B, we, ca⟩ : Cfg).Ok) : EdgeLaw (⟨W, H, La, n, R, I, B, we, false⟩ : Cfg) (⟨0, H, La, n, R, I, 0, we, false⟩ : Cfg) 64 10 n := by
  refine ⟨fun hn => Cfg.chk_of _ ⟨h.W1, h.W2, h.H1, h.H2, h.L1, h.L2, (fun hc => by cases hc), hn.1, hn.2, h.R1, h.R2, h.I1, h.I2, h.B1, h.B2⟩, fun hn => ?_⟩
  have h0 : (⟨W, H, La, n, R, I, B, we, false⟩ : Cfg).chk ≠ 0 := fun e => hn ⟨(Cfg.ok_of _ e).D1, (Cfg.ok_of _ e).D2⟩
  have hb : (⟨0, H, La, n, R, I, 0, we, false⟩ : Cfg).chk ≠ 0 := fun e => absurd (Cfg.ok_of _ e).W1 (show ¬ ((1 : Int) ≤ 0) by decide)
  have hb2 : (⟨0, H, La, n, R, I, 0, we, false⟩ : Cfg).chk = 4 := by
    rcases chk_cases (⟨0, H, La, n, R, I, 0, we, false⟩ : Cfg) with e | e | ⟨_, e, -⟩
    · exact absurd e hb
    · exact e.1
    · exact absurd (show in1 64 0 = true from e) (by decide)
  refine ⟨?_, nodes_zero h0, hb2⟩
  rcases chk_cases (⟨W, H, La, n, R, I, B, we, false⟩ : Cfg) with e | ⟨_, e⟩ | e
  · exact absurd e h0
  · have h1 := (in1_iff 64 W).2 ⟨h.W1, h.W2⟩
    have h2 := (in1_iff 64 H).2 ⟨h.H1, h.H2⟩
    dsimp only at e
    rw [h1, h2] at e
    simp at e
  · exact e.1
theorem edge4 {W H La D R I B n : Int} {we ca : Bool} (h : (⟨W, H, La, D, R, I, B, we, ca⟩ : Cfg).Ok) : EdgeLaw (⟨W, H, La, D, n, I, B, we, false⟩ : Cfg) (⟨0, H, La, D, n, I, 0, we, false⟩ : Cfg) 64 10 n := by
  refine ⟨fun hn => Cfg.chk_of _ ⟨h.W1, h.W2, h.H1, h.H2, h.L1, h.L2, (fun hc => by cases hc), h.D1, h.D2, hn.1, hn.2, h.I1, h.I2, h.B1, h.B2⟩, fun hn => ?_⟩
  have h0 : (⟨W, H, La, D, n, I, B, we, false⟩ : Cfg).chk ≠ 0 := fun e => hn ⟨(Cfg.ok_of _ e).R1, (Cfg.ok_of _ e).R2⟩
  have hb : (⟨0, H, La, D, n, I, 0, we, false⟩ : Cfg).chk ≠ 0 := fun e => absurd (Cfg.ok_of _ e).W1 (show ¬ ((1 : Int) ≤ 0) by decide)
  have hb2 : (⟨0, H, La, D, n, I, 0, we, false⟩ : Cfg).chk = 4 := by
    rcases chk_cases (⟨0, H, La, D, n, I, 0, we, false⟩ : Cfg) with e | e | ⟨_, e, -⟩
    · exact absurd e hb
    · exact e.1
    · exact absurd (show in1 64 0 = true from e) (by decide)
  refine ⟨?_, nodes_zero h0, hb2⟩
  rcases chk_cases (⟨W, H, La, D, n, I, B, we, false⟩ : Cfg) with e | ⟨_, e⟩ | e
  · exact absurd e h0
  · have h1 := (in1_iff 64 W).2 ⟨h.W1, h.W2⟩
    have h2 := (in1_iff 64 H).2 ⟨h.H1, h.H2⟩
    dsimp only at e
    rw [h1, h2] at e
    simp at e
  · exact e.1
theorem edge5 {W H La D R I B n : Int} {we ca : Bool} (h : (⟨W, H, La, D, R, I, B, we, ca⟩ : Cfg).Ok) : EdgeLaw (⟨W, H, La, D, R, n, B, we, false⟩ : Cfg) (⟨0, H, La, D, R, n, 0, we, false⟩ : Cfg) 64 10 n := by
  refine ⟨fun hn => Cfg.chk_of _ ⟨h.W1, h.W2, h.H1, h.H2, h.L1, h.L2, (fun hc => by cases hc), h.D1, h.D2, h.R1, h.R2, hn.1, hn.2, h.B1, h.B2⟩, fun hn => ?_⟩
  have h0 : (⟨W, H, La, D, R, n, B, we, false⟩ : Cfg).chk ≠ 0 := fun e => hn ⟨(Cfg.ok_of _ e).I1, (Cfg.ok_of _ e).I2⟩
  have hb : (⟨0, H, La, D, R, n, 0, we, false⟩ : Cfg).chk ≠ 0 := fun e => absurd (Cfg.ok_of _ e).W1 (show ¬ ((1 : Int) ≤ 0) by decide)
  have hb2 : (⟨0, H, La, D, R, n, 0, we, false⟩ : Cfg).chk = 4 := by
    rcases chk_cases (⟨0, H, La, D, R, n, 0, we, false⟩ : Cfg) with e | e | ⟨_, e, -⟩
    · exact absurd e hb
    · exact e.1
    · exact absurd (show in1 64 0 = true from e) (by decide)
  refine ⟨?_, nodes_zero h0, hb2⟩
  rcases chk_cases (⟨W, H, La, D, R, n, B, we, false⟩ : Cfg) with e | ⟨_, e⟩ | e
  · exact absurd e h0
  · have h1 := (in1_iff 64 W).2 ⟨h.W1, h.W2⟩
    have h2 := (in1_iff 64 H).2 ⟨h.H1, h.H2⟩
    dsimp only at e
    rw [h1, h2] at e
    simp at e
  · exact e.1
theorem edge6 {W H La D R I B n : Int} {we ca : Bool} (h : (⟨W, H, La, D, R, I, B, we, ca⟩ : Cfg).Ok) : EdgeLaw (⟨W, H, La, D, R, I, n, we, false⟩ : Cfg) (⟨0, H, La, D, R, I, 0, we, false⟩ : Cfg) 16 10 n := by
  refine ⟨fun hn => Cfg.chk_of _ ⟨h.W1, h.W2, h.H1, h.H2, h.L1, h.L2, (fun hc => by cases hc), h.D1, h.D2, h.R1, h.R2, h.I1, h.I2, hn.1, hn.2⟩, fun hn => ?_⟩
  have h0 : (⟨W, H, La, D, R, I, n, we, false⟩ : Cfg).chk ≠ 0 := fun e => hn ⟨(Cfg.ok_of _ e).B1, (Cfg.ok_of _ e).B2⟩
  have hb : (⟨0, H, La, D, R, I, 0, we, false⟩ : Cfg).chk ≠ 0 := fun e => absurd (Cfg.ok_of _ e).W1 (show ¬ ((1 : Int) ≤ 0) by decide)
  have hb2 : (⟨0, H, La, D, R, I, 0, we, false⟩ : Cfg).chk = 4 := by
    rcases chk_cases (⟨0, H, La, D, R, I, 0, we, false⟩ : Cfg) with e | e | ⟨_, e, -⟩
    · exact absurd e hb
    · exact e.1
    · exact absurd (show in1 64 0 = true from e) (by decide)
  refine ⟨?_, nodes_zero h0, hb2⟩
  rcases chk_cases (⟨W, H, La, D, R, I, n, we, false⟩ : Cfg) with e | ⟨_, e⟩ | e
  · exact absurd e h0
  · have h1 := (in1_iff 64 W).2 ⟨h.W1, h.W2⟩
    have h2 := (in1_iff 64 H).2 ⟨h.H1, h.H2⟩
    dsimp only at e
    rw [h1, h2] at e
    simp at e
  · exact e.1

set_option maxRecDepth 100000 in
set_option maxHeartbeats 1600000 in
theorem walk_ConfigEdges {w : World} (c : Cfg) (which : Int) (_ : (Lit.int .i64 which).wf = true) (n : Int) (_ : (Lit.int .i64 n).wf = true) (L : LibV w) (hw : 8 ≤ w.heap.size) :
    Calls Tryd.prog 7 #[.agg c.cells, .int .i64 which, .int .i64 n] w fun e w' => e = .returned (.bool true) ∧ Below w.heap.size w w' := by
  have kb := Blk.made w c.cells 23
  have m0 : Mod (fun _ => False) w (w.alloc (.cells c.cells 23)) := (Mod.refl _ _).alloc _
  have HL := Lib.hid L
  clear L
  simp only [Cfg.cells] at kb m0 ⊢
  go_enter Tryd.func7, Tryd.ntmps7
  go_wp2_with fail
  refine (run_lives04 _ (HL.out.later0 m0) (by simp; omega)).mono ?_
  rintro e w1 ⟨rfl, m1⟩
  have k1 := kb.later m1 (by simp)
  have mm1 := m0.trans m1 (by simp)
  clear kb m0 m1
  obtain ⟨c0, c1, c2, c3, c4, c5, c6, c7, c8⟩ := cells9 k1
  go_wp2_with fail
  refine (run_Small c _).mono ?_
  have hok := c.small_ok
  generalize c.small = s at hok ⊢
  obtain ⟨W, H, La, D, R, I, B, we, ca⟩ := s
  obtain ⟨hok, hW4, hH4⟩ := hok
  rintro e w2 ⟨rfl, m2⟩
  have k2 := k1.later m2 (by simp)
  have mm2 := mm1.trans m2 (by simp)
  clear k1 mm1 m2 c0 c1 c2 c3 c4 c5 c6 c7 c8
  simp only [Cfg.cells] at k2 ⊢
  have hwh := um_bd (a := which) (n := 7) (by omega)
  obtain ⟨c0, c1, c2, c3, c4, c5, c6, c7, c8⟩ := cells9 k2
  have lk := k2.lt
  have z0 := k2.fz 0
  have z1 := k2.fz 1
  have z2 := k2.fz 2
  have z3 := k2.fz 3
  have z4 := k2.fz 4
  have z5 := k2.fz 5
  have z6 := k2.fz 6
  have z7 := k2.fz 7
  have z8 := k2.fz 8
  go_upto_region 7 with fail
  have kf : Blk _ _ (⟨W, H, La, D, R, I, B, we, false⟩ : Cfg).cells _ := (put9_blk (d := (⟨W, H, La, D, R, I, B, we, ca⟩ : Cfg)) (c := c) k2).set 8 (.bool false)
  have mf := (put9_mod mm2 (b := w.heap.size) (Or.inr (Nat.le_refl _)) (⟨W, H, La, D, R, I, B, we, ca⟩ : Cfg)).setCell (p := ⟨w.heap.size, 8, none⟩) (Or.inr (Nat.le_refl _)) (.bool false)
  change Code.wp _ _ _ _ ((put9 _ w.heap.size (⟨W, H, La, D, R, I, B, we, ca⟩ : Cfg)).setCell ⟨w.heap.size, 8, none⟩ (.bool false))
  generalize (put9 _ w.heap.size (⟨W, H, La, D, R, I, B, we, ca⟩ : Cfg)).setCell ⟨w.heap.size, 8, none⟩ (.bool false) = w3 at kf mf ⊢
  clear c0 c1 c2 c3 c4 c5 c6 c7 c8 z0 z1 z2 z3 z4 z5 z6 z7 z8 lk k2 mm2
  -- ARMS
  go_upto_region 8 with fail
  rw [um_eq (a := which) (n := 7) (by omega) (by omega)]
  generalize um which 7 = q at hwh ⊢
  generalize (IntKind.u64.wrap which).tmod 7 = q0
  have hq : q = 0 ∨ q = 1 ∨ q = 2 ∨ q = 3 ∨ q = 4 ∨ q = 5 ∨ q = 6 := by omega
  clear hwh
  have lk := kf.lt
  have z0 := kf.fz 0
  have z1 := kf.fz 1
  have z2 := kf.fz 2
  have z3 := kf.fz 3
  have z4 := kf.fz 4
  have z5 := kf.fz 5
  have z6 := kf.fz 6
  have z7 := kf.fz 7
  have z8 := kf.fz 8
  obtain ⟨c0, c1, c2, c3, c4, c5, c6, c7, c8⟩ := cells9 kf
  dsimp only at c0 c1 c2 c3 c4 c5 c6 c7 c8
  have HOK := Lib.hid hok
  clear hok
  rcases hq with rfl | rfl | rfl | rfl | rfl | rfl | rfl
  · have E := edge0 (n := n) HOK.out
    go_upto_region 26 with fail
    have k4 : Blk _ _ (⟨n, H, La, D, R, I, B, we, false⟩ : Cfg).cells _ := kf.set 0 (.int .i64 n)
    have m4 := mf.setCell (p := ⟨w.heap.size, 0, none⟩) (Or.inr (Nat.le_refl _)) (.int .i64 n)
    generalize w3.setCell ⟨w.heap.size, 0, none⟩ (.int .i64 n) = w4 at k4 m4 ⊢
    clear c0 c1 c2 c3 c4 c5 c6 c7 c8 z0 z1 z2 z3 z4 z5 z6 z7 z8 lk kf mf HOK hW4 hH4
    obtain ⟨c0, c1, c2, c3, c4, c5, c6, c7, c8⟩ := cells9 k4
    dsimp only at c0 c1 c2 c3 c4 c5 c6 c7 c8
    have k5 := k4.alloc (.cells (⟨0, H, La, D, R, I, 0, we, false⟩ : Cfg).cells 23)
    have m5 := m4.alloc (.cells (⟨0, H, La, D, R, I, 0, we, false⟩ : Cfg).cells 23)
    have kd := Blk.made w4 (⟨0, H, La, D, R, I, 0, we, false⟩ : Cfg).cells 23
    have HE := Lib.hid E
    clear E k4 m4
    simp only [Cfg.cells] at k5 m5 kd
    by_cases hin : 1 ≤ n ∧ n ≤ 64
    · have HC := Lib.hid (HE.out.yes hin)
      obtain ⟨hin1, hin2⟩ := hin
      go_upto_region 30 with fail
      generalize w4.alloc _ = w5 at k5 m5 kd ⊢
      clear c0 c1 c2 c3 c4 c5 c6 c7 c8
      obtain ⟨c0, c1, c2, c3, c4, c5, c6, c7, c8⟩ := cells9 (c := (⟨n, H, La, D, R, I, B, we, false⟩ : Cfg)) k5
      dsimp only at c0 c1 c2 c3 c4 c5 c6 c7 c8
      go_wp2_with fail
      refine (run_Check (⟨n, H, La, D, R, I, B, we, false⟩ : Cfg) _).mono ?_
      rw [HC.out]
      rintro e w6 ⟨rfl, m6⟩
      have m7 := m5.trans m6 (by simp)
      go_wp2
      go_ret
      exact ⟨rfl, m7.below⟩
    · have HC := Lib.hid (HE.out.no hin)
      have hor : (decide (1 ≤ n) && decide (n ≤ 64)) = false := by
        cases h : (decide (1 ≤ n) && decide (n ≤ 64)) with
        | false => rfl
        | true => exact absurd (by simpa using h) hin
      have hout : ¬ 1 ≤ n ∨ (1 ≤ n ∧ ¬ n ≤ 64) := by omega
      clear hin hor
      rcases hout with ho | ⟨ho, ho2⟩
      all_goals
        go_upto_region 30 with fail
        generalize w4.alloc _ = w5 at k5 m5 kd ⊢
        clear c0 c1 c2 c3 c4 c5 c6 c7 c8
        obtain ⟨c0, c1, c2, c3, c4, c5, c6, c7, c8⟩ := cells9 (c := (⟨n, H, La, D, R, I, B, we, false⟩ : Cfg)) k5
        dsimp only at c0 c1 c2 c3 c4 c5 c6 c7 c8
        go_wp2_with fail
        refine (run_Check (⟨n, H, La, D, R, I, B, we, false⟩ : Cfg) _).mono ?_
        rw [HC.out.1]
        rintro e w6 ⟨rfl, m6⟩
        have m7 := m5.trans m6 (by simp)
        have k7 := k5.later m6 (by simp)
        have kd7 := kd.later m6 (by simp)
        clear m5 m6 k5 kd c0 c1 c2 c3 c4 c5 c6 c7 c8
        obtain ⟨c0, c1, c2, c3, c4, c5, c6, c7, c8⟩ := cells9 (c := (⟨0, H, La, D, R, I, 0, we, false⟩ : Cfg)) kd7
        dsimp only at c0 c1 c2 c3 c4 c5 c6 c7 c8
        go_wp2_with fail
        refine (run_Check (⟨0, H, La, D, R, I, 0, we, false⟩ : Cfg) _).mono ?_
        rw [HC.out.2.2]
        rintro e w8 ⟨rfl, m8⟩
        have m9 := m7.trans m8 (by simp)
        have k9 := k7.later m8 (by simp)
        clear m7 m8 k7 kd7 c0 c1 c2 c3 c4 c5 c6 c7 c8
        obtain ⟨c0, c1, c2, c3, c4, c5, c6, c7, c8⟩ := cells9 (c := (⟨n, H, La, D, R, I, B, we, false⟩ : Cfg)) k9
        dsimp only at c0 c1 c2 c3 c4 c5 c6 c7 c8
        go_wp2_with fail
        refine (run_Nodes (⟨n, H, La, D, R, I, B, we, false⟩ : Cfg) _).mono ?_
        rw [HC.out.2.1]
        rintro e wa ⟨rfl, ma⟩
        have mb := m9.trans ma (by simp)
        go_wp2
        go_ret
        exact ⟨rfl, mb.below⟩
  · have E := edge1 (n := n) HOK.out
    go_upto_region 26 with fail
    have k4 : Blk _ _ (⟨W, n, La, D, R, I, B, we, false⟩ : Cfg).cells _ := kf.set 1 (.int .i64 n)
    have m4 := mf.setCell (p := ⟨w.heap.size, 1, none⟩) (Or.inr (Nat.le_refl _)) (.int .i64 n)
    generalize w3.setCell ⟨w.heap.size, 1, none⟩ (.int .i64 n) = w4 at k4 m4 ⊢
    clear c0 c1 c2 c3 c4 c5 c6 c7 c8 z0 z1 z2 z3 z4 z5 z6 z7 z8 lk kf mf HOK hW4 hH4
    obtain ⟨c0, c1, c2, c3, c4, c5, c6, c7, c8⟩ := cells9 k4
    dsimp only at c0 c1 c2 c3 c4 c5 c6 c7 c8
    have k5 := k4.alloc (.cells (⟨0, n, La, D, R, I, 0, we, false⟩ : Cfg).cells 23)
    have m5 := m4.alloc (.cells (⟨0, n, La, D, R, I, 0, we, false⟩ : Cfg).cells 23)
    have kd := Blk.made w4 (⟨0, n, La, D, R, I, 0, we, false⟩ : Cfg).cells 23
    have HE := Lib.hid E
    clear E k4 m4
    simp only [Cfg.cells] at k5 m5 kd
    by_cases hin : 1 ≤ n ∧ n ≤ 64
    · have HC := Lib.hid (HE.out.yes hin)
      obtain ⟨hin1, hin2⟩ := hin
      go_upto_region 30 with fail
      generalize w4.alloc _ = w5 at k5 m5 kd ⊢
      clear c0 c1 c2 c3 c4 c5 c6 c7 c8
      obtain ⟨c0, c1, c2, c3, c4, c5, c6, c7, c8⟩ := cells9 (c := (⟨W, n, La, D, R, I, B, we, false⟩ : Cfg)) k5
      dsimp only at c0 c1 c2 c3 c4 c5 c6 c7 c8
      go_wp2_with fail
      refine (run_Check (⟨W, n, La, D, R, I, B, we, false⟩ : Cfg) _).mono ?_
      rw [HC.out]
      rintro e w6 ⟨rfl, m6⟩
      have m7 := m5.trans m6 (by simp)
      go_wp2
      go_ret
      exact ⟨rfl, m7.below⟩
    · have HC := Lib.hid (HE.out.no hin)
      have hor : (decide (1 ≤ n) && decide (n ≤ 64)) = false := by
        cases h : (decide (1 ≤ n) && decide (n ≤ 64)) with
        | false => rfl
        | true => exact absurd (by simpa using h) hin
      have hout : ¬ 1 ≤ n ∨ (1 ≤ n ∧ ¬ n ≤ 64) := by omega
      clear hin hor
      rcases hout with ho | ⟨ho, ho2⟩
      all_goals
        go_upto_region 30 with fail
        generalize w4.alloc _ = w5 at k5 m5 kd ⊢
        clear c0 c1 c2 c3 c4 c5 c6 c7 c8
        obtain ⟨c0, c1, c2, c3, c4, c5, c6, c7, c8⟩ := cells9 (c := (⟨W, n, La, D, R, I, B, we, false⟩ : Cfg)) k5
        dsimp only at c0 c1 c2 c3 c4 c5 c6 c7 c8
        go_wp2_with fail
        refine (run_Check (⟨W, n, La, D, R, I, B, we, false⟩ : Cfg) _).mono ?_
        rw [HC.out.1]
        rintro e w6 ⟨rfl, m6⟩
        have m7 := m5.trans m6 (by simp)
        have k7 := k5.later m6 (by simp)
        have kd7 := kd.later m6 (by simp)
        clear m5 m6 k5 kd c0 c1 c2 c3 c4 c5 c6 c7 c8
        obtain ⟨c0, c1, c2, c3, c4, c5, c6, c7, c8⟩ := cells9 (c := (⟨0, n, La, D, R, I, 0, we, false⟩ : Cfg)) kd7
        dsimp only at c0 c1 c2 c3 c4 c5 c6 c7 c8
        go_wp2_with fail
        refine (run_Check (⟨0, n, La, D, R, I, 0, we, false⟩ : Cfg) _).mono ?_
        rw [HC.out.2.2]
        rintro e w8 ⟨rfl, m8⟩
        have m9 := m7.trans m8 (by simp)
        have k9 := k7.later m8 (by simp)
        clear m7 m8 k7 kd7 c0 c1 c2 c3 c4 c5 c6 c7 c8
        obtain ⟨c0, c1, c2, c3, c4, c5, c6, c7, c8⟩ := cells9 (c := (⟨W, n, La, D, R, I, B, we, false⟩ : Cfg)) k9
        dsimp only at c0 c1 c2 c3 c4 c5 c6 c7 c8
        go_wp2_with fail
        refine (run_Nodes (⟨W, n, La, D, R, I, B, we, false⟩ : Cfg) _).mono ?_
        rw [HC.out.2.1]
        rintro e wa ⟨rfl, ma⟩
        have mb := m9.trans ma (by simp)
        go_wp2
        go_ret
        exact ⟨rfl, mb.below⟩
  · have E := edge2 (n := n) HOK.out
    go_upto_region 26 with fail
    have k4 : Blk _ _ (⟨W, H, n, D, R, I, B, we, false⟩ : Cfg).cells _ := kf.set 2 (.int .i64 n)
    have m4 := mf.setCell (p := ⟨w.heap.size, 2, none⟩) (Or.inr (Nat.le_refl _)) (.int .i64 n)
    generalize w3.setCell ⟨w.heap.size, 2, none⟩ (.int .i64 n) = w4 at k4 m4 ⊢
    clear c0 c1 c2 c3 c4 c5 c6 c7 c8 z0 z1 z2 z3 z4 z5 z6 z7 z8 lk kf mf HOK hW4 hH4
    obtain ⟨c0, c1, c2, c3, c4, c5, c6, c7, c8⟩ := cells9 k4
    dsimp only at c0 c1 c2 c3 c4 c5 c6 c7 c8
    have k5 := k4.alloc (.cells (⟨0, H, n, D, R, I, 0, we, false⟩ : Cfg).cells 23)
    have m5 := m4.alloc (.cells (⟨0, H, n, D, R, I, 0, we, false⟩ : Cfg).cells 23)
    have kd := Blk.made w4 (⟨0, H, n, D, R, I, 0, we, false⟩ : Cfg).cells 23
    have HE := Lib.hid E
    clear E k4 m4
    simp only [Cfg.cells] at k5 m5 kd
    by_cases hin : 1 ≤ n ∧ n ≤ 8
    · have HC := Lib.hid (HE.out.yes hin)
      obtain ⟨hin1, hin2⟩ := hin
      go_upto_region 30 with fail
      generalize w4.alloc _ = w5 at k5 m5 kd ⊢
      clear c0 c1 c2 c3 c4 c5 c6 c7 c8
      obtain ⟨c0, c1, c2, c3, c4, c5, c6, c7, c8⟩ := cells9 (c := (⟨W, H, n, D, R, I, B, we, false⟩ : Cfg)) k5
      dsimp only at c0 c1 c2 c3 c4 c5 c6 c7 c8
      go_wp2_with fail
      refine (run_Check (⟨W, H, n, D, R, I, B, we, false⟩ : Cfg) _).mono ?_
      rw [HC.out]
      rintro e w6 ⟨rfl, m6⟩
      have m7 := m5.trans m6 (by simp)
      go_wp2
      go_ret
      exact ⟨rfl, m7.below⟩
    · have HC := Lib.hid (HE.out.no hin)
      have hor : (decide (1 ≤ n) && decide (n ≤ 8)) = false := by
        cases h : (decide (1 ≤ n) && decide (n ≤ 8)) with
        | false => rfl
        | true => exact absurd (by simpa using h) hin
      have hout : ¬ 1 ≤ n ∨ (1 ≤ n ∧ ¬ n ≤ 8) := by omega
      clear hin hor
      rcases hout with ho | ⟨ho, ho2⟩
      all_goals
        go_upto_region 30 with fail
        generalize w4.alloc _ = w5 at k5 m5 kd ⊢
        clear c0 c1 c2 c3 c4 c5 c6 c7 c8
        obtain ⟨c0, c1, c2, c3, c4, c5, c6, c7, c8⟩ := cells9 (c := (⟨W, H, n, D, R, I, B, we, false⟩ : Cfg)) k5
        dsimp only at c0 c1 c2 c3 c4 c5 c6 c7 c8
        go_wp2_with fail
        refine (run_Check (⟨W, H, n, D, R, I, B, we, false⟩ : Cfg) _).mono ?_
        rw [HC.out.1]
        rintro e w6 ⟨rfl, m6⟩
        have m7 := m5.trans m6 (by simp)
        have k7 := k5.later m6 (by simp)
        have kd7 := kd.later m6 (by simp)
        clear m5 m6 k5 kd c0 c1 c2 c3 c4 c5 c6 c7 c8
        obtain ⟨c0, c1, c2, c3, c4, c5, c6, c7, c8⟩ := cells9 (c := (⟨0, H, n, D, R, I, 0, we, false⟩ : Cfg)) kd7
        dsimp only at c0 c1 c2 c3 c4 c5 c6 c7 c8
        go_wp2_with fail
        refine (run_Check (⟨0, H, n, D, R, I, 0, we, false⟩ : Cfg) _).mono ?_
        rw [HC.out.2.2]
        rintro e w8 ⟨rfl, m8⟩
        have m9 := m7.trans m8 (by simp)
        have k9 := k7.later m8 (by simp)
        clear m7 m8 k7 kd7 c0 c1 c2 c3 c4 c5 c6 c7 c8
        obtain ⟨c0, c1, c2, c3, c4, c5, c6, c7, c8⟩ := cells9 (c := (⟨W, H, n, D, R, I, B, we, false⟩ : Cfg)) k9
        dsimp only at c0 c1 c2 c3 c4 c5 c6 c7 c8
        go_wp2_with fail
        refine (run_Nodes (⟨W, H, n, D, R, I, B, we, false⟩ : Cfg) _).mono ?_
        rw [HC.out.2.1]
        rintro e wa ⟨rfl, ma⟩
        have mb := m9.trans ma (by simp)
        go_wp2
        go_ret
        exact ⟨rfl, mb.below⟩
  · have E := edge3 (n := n) HOK.out
    go_upto_region 26 with fail
    have k4 : Blk _ _ (⟨W, H, La, n, R, I, B, we, false⟩ : Cfg).cells _ := kf.set 3 (.int .i64 n)
    have m4 := mf.setCell (p := ⟨w.heap.size, 3, none⟩) (Or.inr (Nat.le_refl _)) (.int .i64 n)
    generalize w3.setCell ⟨w.heap.size, 3, none⟩ (.int .i64 n) = w4 at k4 m4 ⊢
    clear c0 c1 c2 c3 c4 c5 c6 c7 c8 z0 z1 z2 z3 z4 z5 z6 z7 z8 lk kf mf HOK hW4 hH4
    obtain ⟨c0, c1, c2, c3, c4, c5, c6, c7, c8⟩ := cells9 k4
    dsimp only at c0 c1 c2 c3 c4 c5 c6 c7 c8
    have k5 := k4.alloc (.cells (⟨0, H, La, n, R, I, 0, we, false⟩ : Cfg).cells 23)
    have m5 := m4.alloc (.cells (⟨0, H, La, n, R, I, 0, we, false⟩ : Cfg).cells 23)
    have kd := Blk.made w4 (⟨0, H, La, n, R, I, 0, we, false⟩ : Cfg).cells 23
    have HE := Lib.hid E
    clear E k4 m4
    simp only [Cfg.cells] at k5 m5 kd
    by_cases hin : 1 ≤ n ∧ n ≤ 64
    · have HC := Lib.hid (HE.out.yes hin)
      obtain ⟨hin1, hin2⟩ := hin
      go_upto_region 30 with fail
      generalize w4.alloc _ = w5 at k5 m5 kd ⊢
      clear c0 c1 c2 c3 c4 c5 c6 c7 c8
      obtain ⟨c0, c1, c2, c3, c4, c5, c6, c7, c8⟩ := cells9 (c := (⟨W, H, La, n, R, I, B, we, false⟩ : Cfg)) k5
      dsimp only at c0 c1 c2 c3 c4 c5 c6 c7 c8
      go_wp2_with fail
      refine (run_Check (⟨W, H, La, n, R, I, B, we, false⟩ : Cfg) _).mono ?_
      rw [HC.out]
      rintro e w6 ⟨rfl, m6⟩
      have m7 := m5.trans m6 (by simp)
      go_wp2
      go_ret
      exact ⟨rfl, m7.below⟩
    · have HC := Lib.hid (HE.out.no hin)
      have hor : (decide (1 ≤ n) && decide (n ≤ 64)) = false := by
        cases h : (decide (1 ≤ n) && decide (n ≤ 64)) with
        | false => rfl
        | true => exact absurd (by simpa using h) hin
      have hout : ¬ 1 ≤ n ∨ (1 ≤ n ∧ ¬ n ≤ 64) := by omega
      clear hin hor
      rcases hout with ho | ⟨ho, ho2⟩
      all_goals
        go_upto_region 30 with fail
        generalize w4.alloc _ = w5 at k5 m5 kd ⊢
        clear c0 c1 c2 c3 c4 c5 c6 c7 c8
        obtain ⟨c0, c1, c2, c3, c4, c5, c6, c7, c8⟩ := cells9 (c := (⟨W, H, La, n, R, I, B, we, false⟩ : Cfg)) k5
        dsimp only at c0 c1 c2 c3 c4 c5 c6 c7 c8
        go_wp2_with fail
        refine (run_Check (⟨W, H, La, n, R, I, B, we, false⟩ : Cfg) _).mono ?_
        rw [HC.out.1]
        rintro e w6 ⟨rfl, m6⟩
        have m7 := m5.trans m6 (by simp)
        have k7 := k5.later m6 (by simp)
        have kd7 := kd.later m6 (by simp)
        clear m5 m6 k5 kd c0 c1 c2 c3 c4 c5 c6 c7 c8
        obtain ⟨c0, c1, c2, c3, c4, c5, c6, c7, c8⟩ := cells9 (c := (⟨0, H, La, n, R, I, 0, we, false⟩ : Cfg)) kd7
        dsimp only at c0 c1 c2 c3 c4 c5 c6 c7 c8
        go_wp2_with fail
        refine (run_Check (⟨0, H, La, n, R, I, 0, we, false⟩ : Cfg) _).mono ?_
        rw [HC.out.2.2]
        rintro e w8 ⟨rfl, m8⟩
        have m9 := m7.trans m8 (by simp)
        have k9 := k7.later m8 (by simp)
        clear m7 m8 k7 kd7 c0 c1 c2 c3 c4 c5 c6 c7 c8
        obtain ⟨c0, c1, c2, c3, c4, c5, c6, c7, c8⟩ := cells9 (c := (⟨W, H, La, n, R, I, B, we, false⟩ : Cfg)) k9
        dsimp only at c0 c1 c2 c3 c4 c5 c6 c7 c8
        go_wp2_with fail
        refine (run_Nodes (⟨W, H, La, n, R, I, B, we, false⟩ : Cfg) _).mono ?_
        rw [HC.out.2.1]
        rintro e wa ⟨rfl, ma⟩
        have mb := m9.trans ma (by simp)
        go_wp2
        go_ret
        exact ⟨rfl, mb.below⟩
  · have E := edge4 (n := n) HOK.out
    go_upto_region 26 with fail
    have k4 : Blk _ _ (⟨W, H, La, D, n, I, B, we, false⟩ : Cfg).cells _ := kf.set 4 (.int .i64 n)
    have m4 := mf.setCell (p := ⟨w.heap.size, 4, none⟩) (Or.inr (Nat.le_refl _)) (.int .i64 n)
    generalize w3.setCell ⟨w.heap.size, 4, none⟩ (.int .i64 n) = w4 at k4 m4 ⊢
    clear c0 c1 c2 c3 c4 c5 c6 c7 c8 z0 z1 z2 z3 z4 z5 z6 z7 z8 lk kf mf HOK hW4 hH4
    obtain ⟨c0, c1, c2, c3, c4, c5, c6, c7, c8⟩ := cells9 k4
    dsimp only at c0 c1 c2 c3 c4 c5 c6 c7 c8
    have k5 := k4.alloc (.cells (⟨0, H, La, D, n, I, 0, we, false⟩ : Cfg).cells 23)
    have m5 := m4.alloc (.cells (⟨0, H, La, D, n, I, 0, we, false⟩ : Cfg).cells 23)
    have kd := Blk.made w4 (⟨0, H, La, D, n, I, 0, we, false⟩ : Cfg).cells 23
    have HE := Lib.hid E
    clear E k4 m4
    simp only [Cfg.cells] at k5 m5 kd
    by_cases hin : 1 ≤ n ∧ n ≤ 64
    · have HC := Lib.hid (HE.out.yes hin)
      obtain ⟨hin1, hin2⟩ := hin
      go_upto_region 30 with fail
      generalize w4.alloc _ = w5 at k5 m5 kd ⊢
      clear c0 c1 c2 c3 c4 c5 c6 c7 c8
      obtain ⟨c0, c1, c2, c3, c4, c5, c6, c7, c8⟩ := cells9 (c := (⟨W, H, La, D, n, I, B, we, false⟩ : Cfg)) k5
      dsimp only at c0 c1 c2 c3 c4 c5 c6 c7 c8
      go_wp2_with fail
      refine (run_Check (⟨W, H, La, D, n, I, B, we, false⟩ : Cfg) _).mono ?_
      rw [HC.out]
      rintro e w6 ⟨rfl, m6⟩
      have m7 := m5.trans m6 (by simp)
      go_wp2
      go_ret
      exact ⟨rfl, m7.below⟩
    · have HC := Lib.hid (HE.out.no hin)
      have hor : (decide (1 ≤ n) && decide (n ≤ 64)) = false := by
        cases h : (decide (1 ≤ n) && decide (n ≤ 64)) with
        | false => rfl
        | true => exact absurd (by simpa using h) hin
      have hout : ¬ 1 ≤ n ∨ (1 ≤ n ∧ ¬ n ≤ 64) := by omega
      clear hin hor
      rcases hout with ho | ⟨ho, ho2⟩
      all_goals
        go_upto_region 30 with fail
        generalize w4.alloc _ = w5 at k5 m5 kd ⊢
        clear c0 c1 c2 c3 c4 c5 c6 c7 c8
        obtain ⟨c0, c1, c2, c3, c4, c5, c6, c7, c8⟩ := cells9 (c := (⟨W, H, La, D, n, I, B, we, false⟩ : Cfg)) k5
        dsimp only at c0 c1 c2 c3 c4 c5 c6 c7 c8
        go_wp2_with fail
        refine (run_Check (⟨W, H, La, D, n, I, B, we, false⟩ : Cfg) _).mono ?_
        rw [HC.out.1]
        rintro e w6 ⟨rfl, m6⟩
        have m7 := m5.trans m6 (by simp)
        have k7 := k5.later m6 (by simp)
        have kd7 := kd.later m6 (by simp)
        clear m5 m6 k5 kd c0 c1 c2 c3 c4 c5 c6 c7 c8
        obtain ⟨c0, c1, c2, c3, c4, c5, c6, c7, c8⟩ := cells9 (c := (⟨0, H, La, D, n, I, 0, we, false⟩ : Cfg)) kd7
        dsimp only at c0 c1 c2 c3 c4 c5 c6 c7 c8
        go_wp2_with fail
        refine (run_Check (⟨0, H, La, D, n, I, 0, we, false⟩ : Cfg) _).mono ?_
        rw [HC.out.2.2]
        rintro e w8 ⟨rfl, m8⟩
        have m9 := m7.trans m8 (by simp)
        have k9 := k7.later m8 (by simp)
        clear m7 m8 k7 kd7 c0 c1 c2 c3 c4 c5 c6 c7 c8
        obtain ⟨c0, c1, c2, c3, c4, c5, c6, c7, c8⟩ := cells9 (c := (⟨W, H, La, D, n, I, B, we, false⟩ : Cfg)) k9
        dsimp only at c0 c1 c2 c3 c4 c5 c6 c7 c8
        go_wp2_with fail
        refine (run_Nodes (⟨W, H, La, D, n, I, B, we, false⟩ : Cfg) _).mono ?_
        rw [HC.out.2.1]
        rintro e wa ⟨rfl, ma⟩
        have mb := m9.trans ma (by simp)
        go_wp2
        go_ret
        exact ⟨rfl, mb.below⟩
  · have E := edge5 (n := n) HOK.out
    go_upto_region 26 with fail
    have k4 : Blk _ _ (⟨W, H, La, D, R, n, B, we, false⟩ : Cfg).cells _ := kf.set 5 (.int .i64 n)
    have m4 := mf.setCell (p := ⟨w.heap.size, 5, none⟩) (Or.inr (Nat.le_refl _)) (.int .i64 n)
    generalize w3.setCell ⟨w.heap.size, 5, none⟩ (.int .i64 n) = w4 at k4 m4 ⊢
    clear c0 c1 c2 c3 c4 c5 c6 c7 c8 z0 z1 z2 z3 z4 z5 z6 z7 z8 lk kf mf HOK hW4 hH4
    obtain ⟨c0, c1, c2, c3, c4, c5, c6, c7, c8⟩ := cells9 k4
    dsimp only at c0 c1 c2 c3 c4 c5 c6 c7 c8
    have k5 := k4.alloc (.cells (⟨0, H, La, D, R, n, 0, we, false⟩ : Cfg).cells 23)
    have m5 := m4.alloc (.cells (⟨0, H, La, D, R, n, 0, we, false⟩ : Cfg).cells 23)
    have kd := Blk.made w4 (⟨0, H, La, D, R, n, 0, we, false⟩ : Cfg).cells 23
    have HE := Lib.hid E
    clear E k4 m4
    simp only [Cfg.cells] at k5 m5 kd
    by_cases hin : 1 ≤ n ∧ n ≤ 64
    · have HC := Lib.hid (HE.out.yes hin)
      obtain ⟨hin1, hin2⟩ := hin
      go_upto_region 30 with fail
      generalize w4.alloc _ = w5 at k5 m5 kd ⊢
      clear c0 c1 c2 c3 c4 c5 c6 c7 c8
      obtain ⟨c0, c1, c2, c3, c4, c5, c6, c7, c8⟩ := cells9 (c := (⟨W, H, La, D, R, n, B, we, false⟩ : Cfg)) k5
      dsimp only at c0 c1 c2 c3 c4 c5 c6 c7 c8
      go_wp2_with fail
      refine (run_Check (⟨W, H, La, D, R, n, B, we, false⟩ : Cfg) _).mono ?_
      rw [HC.out]
      rintro e w6 ⟨rfl, m6⟩
      have m7 := m5.trans m6 (by simp)
      go_wp2
      go_ret
      exact ⟨rfl, m7.below⟩
    · have HC := Lib.hid (HE.out.no hin)
      have hor : (decide (1 ≤ n) && decide (n ≤ 64)) = false := by
        cases h : (decide (1 ≤ n) && decide (n ≤ 64)) with
        | false => rfl
        | true => exact absurd (by simpa using h) hin
      have hout : ¬ 1 ≤ n ∨ (1 ≤ n ∧ ¬ n ≤ 64) := by omega
      clear hin hor
      rcases hout with ho | ⟨ho, ho2⟩
      all_goals
        go_upto_region 30 with fail
        generalize w4.alloc _ = w5 at k5 m5 kd ⊢
        clear c0 c1 c2 c3 c4 c5 c6 c7 c8
        obtain ⟨c0, c1, c2, c3, c4, c5, c6, c7, c8⟩ := cells9 (c := (⟨W, H, La, D, R, n, B, we, false⟩ : Cfg)) k5
        dsimp only at c0 c1 c2 c3 c4 c5 c6 c7 c8
        go_wp2_with fail
        refine (run_Check (⟨W, H, La, D, R, n, B, we, false⟩ : Cfg) _).mono ?_
        rw [HC.out.1]
        rintro e w6 ⟨rfl, m6⟩
        have m7 := m5.trans m6 (by simp)
        have k7 := k5.later m6 (by simp)
        have kd7 := kd.later m6 (by simp)
        clear m5 m6 k5 kd c0 c1 c2 c3 c4 c5 c6 c7 c8
        obtain ⟨c0, c1, c2, c3, c4, c5, c6, c7, c8⟩ := cells9 (c := (⟨0, H, La, D, R, n, 0, we, false⟩ : Cfg)) kd7
        dsimp only at c0 c1 c2 c3 c4 c5 c6 c7 c8
        go_wp2_with fail
        refine (run_Check (⟨0, H, La, D, R, n, 0, we, false⟩ : Cfg) _).mono ?_
        rw [HC.out.2.2]
        rintro e w8 ⟨rfl, m8⟩
        have m9 := m7.trans m8 (by simp)
        have k9 := k7.later m8 (by simp)
        clear m7 m8 k7 kd7 c0 c1 c2 c3 c4 c5 c6 c7 c8
        obtain ⟨c0, c1, c2, c3, c4, c5, c6, c7, c8⟩ := cells9 (c := (⟨W, H, La, D, R, n, B, we, false⟩ : Cfg)) k9
        dsimp only at c0 c1 c2 c3 c4 c5 c6 c7 c8
        go_wp2_with fail
        refine (run_Nodes (⟨W, H, La, D, R, n, B, we, false⟩ : Cfg) _).mono ?_
        rw [HC.out.2.1]
        rintro e wa ⟨rfl, ma⟩
        have mb := m9.trans ma (by simp)
        go_wp2
        go_ret
        exact ⟨rfl, mb.below⟩
  · have E := edge6 (n := n) HOK.out
    go_upto_region 26 with fail
    have k4 : Blk _ _ (⟨W, H, La, D, R, I, n, we, false⟩ : Cfg).cells _ := kf.set 6 (.int .i64 n)
    have m4 := mf.setCell (p := ⟨w.heap.size, 6, none⟩) (Or.inr (Nat.le_refl _)) (.int .i64 n)
    generalize w3.setCell ⟨w.heap.size, 6, none⟩ (.int .i64 n) = w4 at k4 m4 ⊢
    clear c0 c1 c2 c3 c4 c5 c6 c7 c8 z0 z1 z2 z3 z4 z5 z6 z7 z8 lk kf mf HOK hW4 hH4
    obtain ⟨c0, c1, c2, c3, c4, c5, c6, c7, c8⟩ := cells9 k4
    dsimp only at c0 c1 c2 c3 c4 c5 c6 c7 c8
    have k5 := k4.alloc (.cells (⟨0, H, La, D, R, I, 0, we, false⟩ : Cfg).cells 23)
    have m5 := m4.alloc (.cells (⟨0, H, La, D, R, I, 0, we, false⟩ : Cfg).cells 23)
    have kd := Blk.made w4 (⟨0, H, La, D, R, I, 0, we, false⟩ : Cfg).cells 23
    have HE := Lib.hid E
    clear E k4 m4
    simp only [Cfg.cells] at k5 m5 kd
    by_cases hin : 1 ≤ n ∧ n ≤ 16
    · have HC := Lib.hid (HE.out.yes hin)
      obtain ⟨hin1, hin2⟩ := hin
      go_upto_region 30 with fail
      generalize w4.alloc _ = w5 at k5 m5 kd ⊢
      clear c0 c1 c2 c3 c4 c5 c6 c7 c8
      obtain ⟨c0, c1, c2, c3, c4, c5, c6, c7, c8⟩ := cells9 (c := (⟨W, H, La, D, R, I, n, we, false⟩ : Cfg)) k5
      dsimp only at c0 c1 c2 c3 c4 c5 c6 c7 c8
      go_wp2_with fail
      refine (run_Check (⟨W, H, La, D, R, I, n, we, false⟩ : Cfg) _).mono ?_
      rw [HC.out]
      rintro e w6 ⟨rfl, m6⟩
      have m7 := m5.trans m6 (by simp)
      go_wp2
      go_ret
      exact ⟨rfl, m7.below⟩
    · have HC := Lib.hid (HE.out.no hin)
      have hor : (decide (1 ≤ n) && decide (n ≤ 16)) = false := by
        cases h : (decide (1 ≤ n) && decide (n ≤ 16)) with
        | false => rfl
        | true => exact absurd (by simpa using h) hin
      have hout : ¬ 1 ≤ n ∨ (1 ≤ n ∧ ¬ n ≤ 16) := by omega
      clear hin hor
      rcases hout with ho | ⟨ho, ho2⟩
      all_goals
        go_upto_region 30 with fail
        generalize w4.alloc _ = w5 at k5 m5 kd ⊢
        clear c0 c1 c2 c3 c4 c5 c6 c7 c8
        obtain ⟨c0, c1, c2, c3, c4, c5, c6, c7, c8⟩ := cells9 (c := (⟨W, H, La, D, R, I, n, we, false⟩ : Cfg)) k5
        dsimp only at c0 c1 c2 c3 c4 c5 c6 c7 c8
        go_wp2_with fail
        refine (run_Check (⟨W, H, La, D, R, I, n, we, false⟩ : Cfg) _).mono ?_
        rw [HC.out.1]
        rintro e w6 ⟨rfl, m6⟩
        have m7 := m5.trans m6 (by simp)
        have k7 := k5.later m6 (by simp)
        have kd7 := kd.later m6 (by simp)
        clear m5 m6 k5 kd c0 c1 c2 c3 c4 c5 c6 c7 c8
        obtain ⟨c0, c1, c2, c3, c4, c5, c6, c7, c8⟩ := cells9 (c := (⟨0, H, La, D, R, I, 0, we, false⟩ : Cfg)) kd7
        dsimp only at c0 c1 c2 c3 c4 c5 c6 c7 c8
        go_wp2_with fail
        refine (run_Check (⟨0, H, La, D, R, I, 0, we, false⟩ : Cfg) _).mono ?_
        rw [HC.out.2.2]
        rintro e w8 ⟨rfl, m8⟩
        have m9 := m7.trans m8 (by simp)
        have k9 := k7.later m8 (by simp)
        clear m7 m8 k7 kd7 c0 c1 c2 c3 c4 c5 c6 c7 c8
        obtain ⟨c0, c1, c2, c3, c4, c5, c6, c7, c8⟩ := cells9 (c := (⟨W, H, La, D, R, I, n, we, false⟩ : Cfg)) k9
        dsimp only at c0 c1 c2 c3 c4 c5 c6 c7 c8
        go_wp2_with fail
        refine (run_Nodes (⟨W, H, La, D, R, I, n, we, false⟩ : Cfg) _).mono ?_
        rw [HC.out.2.1]
        rintro e wa ⟨rfl, ma⟩
        have mb := m9.trans ma (by simp)
        go_wp2
        go_ret
        exact ⟨rfl, mb.below⟩
end Go.Proofs.YthmohnoloonfoaaDoor
