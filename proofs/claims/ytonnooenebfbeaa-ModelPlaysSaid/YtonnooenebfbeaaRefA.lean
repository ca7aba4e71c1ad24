/- Contracts of the reference of layer 4 and of numbers of layer 5: within, Check, Nodes, Is, Node, Small. -/
import Derived.Test.YtonnooenebfbeaaGrid
import Derived.Test.YtonnooenebfbeaaGridB
namespace Go.Proofs.Ytonnooenebfbeaa
open Go.RowKit

theorem ref_within (x m : Int) (w : World) :
    Calls Try.prog 55 #[.int .i64 x, .int .i64 1, .int .i64 m] w fun e w' => e = .returned (.bool (in1 m x)) ∧ w' = w := by
  cases h : in1 m x with
  | true =>
    have hp := (in1_iff _ _).1 h
    clear h
    go_enter Try.func55, Try.ntmps55
    go_wp2
    go_ret
    exact ⟨rfl, rfl⟩
  | false =>
    have hp : ¬ (1 ≤ x ∧ x ≤ m) := by
      intro hh
      have := (in1_iff _ _).2 hh
      rw [h] at this
      cases this
    clear h
    by_cases h1 : 1 ≤ x
    · have h2 : ¬ x ≤ m := fun h => hp ⟨h1, h⟩
      clear hp
      go_enter Try.func55, Try.ntmps55
      go_wp2
      go_ret
      exact ⟨rfl, rfl⟩
    · clear hp
      go_enter Try.func55, Try.ntmps55
      go_wp2
      go_ret
      exact ⟨rfl, rfl⟩

def Cfg.chkR (c : Cfg) : Int :=
  if in1 64 c.W = false then 4 else if in1 64 c.H = false then 4
  else if in1 8 c.Lanes = false then 10 else if (c.Cast && decide (c.Lanes < 2)) = true then 10
  else if in1 64 c.Depth = false then 10 else if in1 64 c.Ring = false then 10 else if in1 64 c.Inbox = false then 10
  else if in1 16 c.Bound = false then 10 else 0
theorem Cfg.chkR_eq (c : Cfg) : c.chkR = c.chk := by
  unfold Cfg.chkR Cfg.chk
  simp only [List.all_cons, List.all_nil, Bool.and_true]
  cases h1 : in1 64 c.W <;> cases h2 : in1 64 c.H <;> simp
  cases h3 : in1 8 c.Lanes <;> simp
  have h3' := (in1_iff _ _).1 h3
  have h4 : (c.Lanes < 2) ↔ c.Lanes = 1 := by omega
  simp only [h4]
  split
  · rfl
  · cases in1 64 c.Depth <;> cases in1 64 c.Ring <;> cases in1 64 c.Inbox <;> cases in1 16 c.Bound <;> simp

set_option maxHeartbeats 1600000 in
theorem ref_Check (c : Cfg) (w : World) :
    Calls Try.prog 39 #[.agg c.cells] w fun e w' => e = .returned (.int .i64 c.chk) ∧ Mod (fun _ => False) w w' := by
  have kb := Blk.made w c.cells 25
  have m0 : Mod (fun _ => False) w (w.alloc (.cells c.cells 25)) := (Mod.refl _ _).alloc _
  rw [← Cfg.chkR_eq]
  obtain ⟨W, H, Ln, D, R, I, B, we, ca⟩ := c
  simp only [Cfg.cells] at kb m0 ⊢
  go_enter Try.func39, Try.ntmps39
  obtain ⟨c0, c1, c2, c3, c4, c5, c6, c7, c8⟩ := cfg_cells (c := ⟨W, H, Ln, D, R, I, B, we, ca⟩) kb
  clear kb
  go_wp2_with fail
  refine (ref_within W 64 _).mono ?_
  rintro e w1 ⟨rfl, rfl⟩
  cases h1 : in1 64 W with
  | false =>
    have H1 := Lib.hid h1
    clear h1
    go_wp2
    go_ret
    exact ⟨by simp only [Cfg.chkR, H1.out, if_true]; rfl, m0⟩
  | true =>
  have H1 := Lib.hid h1
  clear h1
  go_wp2_with fail
  refine (ref_within H 64 _).mono ?_
  rintro e w1 ⟨rfl, rfl⟩
  cases h2 : in1 64 H with
  | false =>
    have H2 := Lib.hid h2
    clear h2
    go_wp2
    go_ret
    exact ⟨by simp only [Cfg.chkR, H1.out, H2.out, if_true]; rfl, m0⟩
  | true =>
  have H2 := Lib.hid h2
  clear h2
  go_wp2_with fail
  refine (ref_within Ln 8 _).mono ?_
  rintro e w1 ⟨rfl, rfl⟩
  cases h3 : in1 8 Ln with
  | false =>
    have H3 := Lib.hid h3
    clear h3
    go_wp2
    go_ret
    exact ⟨by simp only [Cfg.chkR, H1.out, H2.out, H3.out, if_true]; rfl, m0⟩
  | true =>
  have H3 := Lib.hid h3
  clear h3
  cases h4 : (ca && decide (Ln < 2)) with
  | true =>
    have H4 := Lib.hid h4
    obtain ⟨rfl, hl⟩ : ca = true ∧ Ln < 2 := by simpa using h4
    clear h4
    go_wp2
    go_ret
    exact ⟨by simp only [Cfg.chkR, H1.out, H2.out, H3.out, H4.out, if_true]; rfl, m0⟩
  | false =>
  have H4 := Lib.hid h4
  have hce : ca = false ∨ (ca = true ∧ ¬ Ln < 2) := by
    cases ca
    · exact Or.inl rfl
    · exact Or.inr ⟨rfl, by simpa using h4⟩
  clear h4
  rcases hce with rfl | ⟨rfl, hl⟩
  all_goals
    go_wp2_with fail
    refine (ref_within D 64 _).mono ?_
    rintro e w1 ⟨rfl, rfl⟩
    cases h5 : in1 64 D with
    | false =>
      have H5 := Lib.hid h5
      clear h5
      go_wp2
      go_ret
      exact ⟨by simp only [Cfg.chkR, H1.out, H2.out, H3.out, H4.out, H5.out, if_true]; rfl, m0⟩
    | true =>
    have H5 := Lib.hid h5
    clear h5
    go_wp2_with fail
    refine (ref_within R 64 _).mono ?_
    rintro e w1 ⟨rfl, rfl⟩
    cases h6 : in1 64 R with
    | false =>
      have H6 := Lib.hid h6
      clear h6
      go_wp2
      go_ret
      exact ⟨by simp only [Cfg.chkR, H1.out, H2.out, H3.out, H4.out, H5.out, H6.out, if_true]; rfl, m0⟩
    | true =>
    have H6 := Lib.hid h6
    clear h6
    go_wp2_with fail
    refine (ref_within I 64 _).mono ?_
    rintro e w1 ⟨rfl, rfl⟩
    cases h7 : in1 64 I with
    | false =>
      have H7 := Lib.hid h7
      clear h7
      go_wp2
      go_ret
      exact ⟨by simp only [Cfg.chkR, H1.out, H2.out, H3.out, H4.out, H5.out, H6.out, H7.out, if_true]; rfl, m0⟩
    | true =>
    have H7 := Lib.hid h7
    clear h7
    go_wp2_with fail
    refine (ref_within B 16 _).mono ?_
    rintro e w1 ⟨rfl, rfl⟩
    cases h8 : in1 16 B with
    | false =>
      have H8 := Lib.hid h8
      clear h8
      go_wp2
      go_ret
      exact ⟨by simp only [Cfg.chkR, H1.out, H2.out, H3.out, H4.out, H5.out, H6.out, H7.out, H8.out, if_true]; rfl, m0⟩
    | true =>
      have H8 := Lib.hid h8
      clear h8
      go_wp2
      go_ret
      exact ⟨by simp only [Cfg.chkR, H1.out, H2.out, H3.out, H4.out, H5.out, H6.out, H7.out, H8.out]; rfl, m0⟩

set_option maxHeartbeats 400000 in
theorem ref_Nodes (c : Cfg) (w : World) :
    Calls Try.prog 19 #[.agg c.cells] w fun e w' => e = .returned (.int .i64 c.nodes) ∧ Mod (fun _ => False) w w' := by
  have kb := Blk.made w c.cells 25
  have m0 : Mod (fun _ => False) w (w.alloc (.cells c.cells 25)) := (Mod.refl _ _).alloc _
  simp only [Cfg.cells] at kb m0 ⊢
  go_enter Try.func19, Try.ntmps19
  go_wp2_with fail
  refine (ref_Check c _).mono ?_
  rintro e w1 ⟨rfl, m1⟩
  have k1 := kb.later m1 (by simp)
  have mm := m0.trans m1 (by simp)
  clear kb m0 m1
  by_cases h : c.chk = 0
  · have k := c.ok_of h
    have hb := mul_le_4096 k.W1 k.W2 k.H1 k.H2
    have hw : wrap64 (c.W * c.H) = c.W * c.H := by unfold wrap64; omega
    have hn : c.nodes = c.W * c.H := by unfold Cfg.nodes; rw [if_pos h]
    have HW := Lib.hid hw
    have HN := Lib.hid hn
    have c0 := k1.cell 0
    have c1 := k1.cell 1
    simp at c0 c1
    rw [h]
    clear h hw hn k hb
    go_wp2
    go_ret
    exact ⟨by rw [HN.out]; show Ending.returned (.int .i64 (wrap64 (c.W * c.H))) = _; rw [HW.out], mm⟩
  · have hn : c.nodes = 0 := by unfold Cfg.nodes; rw [if_neg h]
    have h1 : (c.chk == 0) = false := by simpa using h
    have h2 : (c.chk != 0) = true := by simpa using h
    have HN := Lib.hid hn
    clear hn h
    go_wp2
    go_ret
    exact ⟨by rw [HN.out]; rfl, mm⟩

end Go.Proofs.Ytonnooenebfbeaa
