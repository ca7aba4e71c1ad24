/- Contracts of the reference of layers 4 and 5: Is, Node, Small. -/
import Derived.Test.YtonnooenebfbeaaRefA
namespace Go.Proofs.Ytonnooenebfbeaa
open Go.RowKit

set_option maxHeartbeats 400000 in
theorem ref_Is (c : Cfg) (n : Int) (w : World) :
    Calls Try.prog 56 #[.agg c.cells, .int .i64 n] w fun e w' => e = .returned (.bool (c.is n)) ∧ Mod (fun _ => False) w w' := by
  have kb := Blk.made w c.cells 25
  have m0 : Mod (fun _ => False) w (w.alloc (.cells c.cells 25)) := (Mod.refl _ _).alloc _
  simp only [Cfg.cells] at kb m0 ⊢
  by_cases h0 : 0 ≤ n
  · have hv : c.is n = decide (n < c.nodes) := by simp [Cfg.is, h0]
    have HV := Lib.hid hv
    clear hv
    go_enter Try.func56, Try.ntmps56
    go_wp2_with fail
    refine (ref_Nodes c _).mono ?_
    rintro e w1 ⟨rfl, m1⟩
    have mm := m0.trans m1 (by simp)
    go_wp2
    go_ret
    exact ⟨by rw [HV.out]; rfl, mm⟩
  · have hv : c.is n = false := by simp [Cfg.is, h0]
    have HV := Lib.hid hv
    clear hv
    go_enter Try.func56, Try.ntmps56
    go_wp2
    go_ret
    exact ⟨by rw [HV.out]; rfl, m0⟩

/-- The rest of a number by another one, the number as of no sign. -/
def um (a n : Int) : Int := (IntKind.u64.wrap a) % n
theorem um_bd {a n : Int} (h : 0 < n) : 0 ≤ um a n ∧ um a n < n := ⟨Int.emod_nonneg _ (by omega), Int.emod_lt_of_pos _ h⟩
theorem um_eq {a n : Int} (h : 0 < n) (h2 : n ≤ 1000000) : wrap64 ((IntKind.u64.wrap a).tmod n) = um a n := by
  have h1 : 0 ≤ IntKind.u64.wrap a := by simp only [IntKind.wrap_u64]; omega
  rw [Int.tmod_eq_emod_of_nonneg h1]
  have := um_bd (a := a) h
  unfold um at this ⊢
  unfold wrap64
  omega
theorem um1_eq {a n : Int} (h : 0 < n) (h2 : n ≤ 1000000) : wrap64 (1 + wrap64 ((IntKind.u64.wrap a).tmod n)) = 1 + um a n := by
  rw [um_eq h h2]
  have := um_bd (a := a) h
  unfold wrap64
  omega

/-- A small config, made of any. -/
def Cfg.small (c : Cfg) : Cfg :=
  { W := 1 + um c.W 4, H := 1 + um c.H 4, Lanes := if (c.Cast && decide (1 + um c.Lanes 3 < 2)) = true then 2 else 1 + um c.Lanes 3, Depth := 1 + um c.Depth 3, Ring := 1 + um c.Ring 3, Inbox := 1 + um c.Inbox 3, Bound := 1 + um c.Bound 4, West := c.West, Cast := c.Cast }
theorem Cfg.small_ok (c : Cfg) : c.small.Ok ∧ c.small.W ≤ 4 ∧ c.small.H ≤ 4 := by
  have h1 := um_bd (a := c.W) (n := 4) (by omega)
  have h2 := um_bd (a := c.H) (n := 4) (by omega)
  have h3 := um_bd (a := c.Lanes) (n := 3) (by omega)
  have h4 := um_bd (a := c.Depth) (n := 3) (by omega)
  have h5 := um_bd (a := c.Ring) (n := 3) (by omega)
  have h6 := um_bd (a := c.Inbox) (n := 3) (by omega)
  have h7 := um_bd (a := c.Bound) (n := 4) (by omega)
  have h8 : 1 ≤ c.small.Lanes ∧ c.small.Lanes ≤ 3 ∧ (c.Cast = true → 2 ≤ c.small.Lanes) := by
    unfold Cfg.small
    simp only
    split
    · omega
    · rename_i h
      refine ⟨by omega, by omega, fun hc => ?_⟩
      simp [hc] at h
      omega
  refine ⟨⟨?_, ?_, ?_, ?_, h8.1, by omega, h8.2.2, ?_, ?_, ?_, ?_, ?_, ?_, ?_, ?_⟩, ?_, ?_⟩ <;> simp only [Cfg.small] <;> omega

set_option maxHeartbeats 1600000 in
theorem run_Small (c : Cfg) (w : World) :
    Calls Try.prog 15 #[.agg c.cells] w fun e w' => e = .returned (.agg c.small.cells) ∧ Mod (fun _ => False) w w' := by
  have kb := Blk.made w c.cells 25
  have m0 : Mod (fun _ => False) w (w.alloc (.cells c.cells 25)) := (Mod.refl _ _).alloc _
  have hs : c.small.cells = #[.int .i64 (wrap64 (1 + wrap64 ((IntKind.u64.wrap c.W).tmod 4))), .int .i64 (wrap64 (1 + wrap64 ((IntKind.u64.wrap c.H).tmod 4))), .int .i64 c.small.Lanes, .int .i64 (wrap64 (1 + wrap64 ((IntKind.u64.wrap c.Depth).tmod 3))), .int .i64 (wrap64 (1 + wrap64 ((IntKind.u64.wrap c.Ring).tmod 3))), .int .i64 (wrap64 (1 + wrap64 ((IntKind.u64.wrap c.Inbox).tmod 3))), .int .i64 (wrap64 (1 + wrap64 ((IntKind.u64.wrap c.Bound).tmod 4))), .bool c.West, .bool c.Cast] := by
    rw [um1_eq (by omega) (by omega), um1_eq (by omega) (by omega), um1_eq (by omega) (by omega), um1_eq (by omega) (by omega), um1_eq (by omega) (by omega), um1_eq (by omega) (by omega)]
    rfl
  rw [hs]
  have hl : (c.Cast = true ∧ wrap64 (1 + wrap64 ((IntKind.u64.wrap c.Lanes).tmod 3)) < 2 ∧ c.small.Lanes = 2) ∨ ((c.Cast = false ∨ (c.Cast = true ∧ ¬ wrap64 (1 + wrap64 ((IntKind.u64.wrap c.Lanes).tmod 3)) < 2)) ∧ c.small.Lanes = wrap64 (1 + wrap64 ((IntKind.u64.wrap c.Lanes).tmod 3))) := by
    rw [um1_eq (by omega) (by omega)]
    unfold Cfg.small
    cases hc : c.Cast with
    | false => simp
    | true =>
      simp only [Bool.true_and, true_and, decide_eq_true_eq]
      by_cases h : 1 + um c.Lanes 3 < 2
      · simp [h]
      · simp [h]
  clear hs
  generalize c.small.Lanes = L at hl ⊢
  simp only [Cfg.cells] at kb m0 ⊢
  obtain ⟨W, H, Ln, D, R, I, B, we, ca⟩ := c
  simp only at hl kb m0 ⊢
  cases ca
  all_goals
   go_enter Try.func15, Try.ntmps15
   obtain ⟨c0, c1, c2, c3, c4, c5, c6, c7, c8⟩ := cfg_cells (c := ⟨W, H, Ln, D, R, I, B, we, _⟩) kb
   clear kb
   have HL := Lib.hid hl
   clear hl
   go_wp2
   all_goals go_returns
   all_goals
    rcases HL.out with ⟨h1, h2, rfl⟩ | ⟨h1, rfl⟩
    all_goals first
      | exact ⟨rfl, (m0.alloc _).alloc _⟩
      | (exfalso; omega)
      | (exfalso; simp_all; done)
      | (exfalso; simp at h1; omega)

end Go.Proofs.Ytonnooenebfbeaa
