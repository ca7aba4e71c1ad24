/- The walk of FairAll. -/
import Derived.Test.YtpcjhkkinmfjlaaFairC
namespace Go.Proofs.Ytpcjhkkinmfjlaa
open Go.RowKit

theorem run_all (p : Int) (w : World) : Calls Try.prog 21 #[.int .i64 p] w fun e w' => e = .returned (.bool true) ∧ w' = w := by
  go_enter Try.func21, Try.ntmps21
  go_wp2
  go_ret
  exact ⟨rfl, rfl⟩

/-- The premise of Next, paid by 'all'. -/
theorem asks_all (b : Nat) (places last : Int) (w : World) (hf : FairAt w b places last) (hfit : Fit places last) :
    Asks 21 #[] b places last (fun _ => true) (fun _ w' => Drw w w') where
  p1 := hfit.p1
  p2 := hfit.p2
  l1 := hfit.l1
  l2 := hfit.l2
  enters := enters_of Try.func21 (by kernel_rfl) rfl
  c0 := fun _ _ h => by rw [h.cell]; exact hf.c0
  c1 := fun _ _ h => by rw [h.cell]; exact hf.c1
  fz := fun _ _ h => by rw [h.frozen]; exact hf.fz 1
  drewN := fun _ _ m h => h.trans (Drw.drewN _ m)
  call := by
    intro i w1 hi hd
    refine (run_all _ _).mono ?_
    rintro e w' ⟨rfl, rfl⟩
    exact ⟨rfl, hd⟩

theorem seeR_all (places last : Int) (h : 1 ≤ places) : seeR places last (fun _ => true) = some ((last + 1) % places) := by
  have : firstI places (fun _ => true) = some 0 := firstI_some (by omega) rfl (by omega)
  simp [seeR, this]

theorem fair_next_all (b : Nat) (places last : Int) (w : World) (hf : FairAt w b places last) (hfit : Fit places last) :
    Calls Try.prog 19 #[.pointer (some ⟨b, 0, none⟩), .func (.func 21) #[] #[]] w fun e w' =>
      e = .returned (.tuple #[.int .i64 ((last + 1) % places), .bool true]) ∧ Mod (· = b) w w' ∧ FairAt w' b places ((last + 1) % places) := by
  refine (fair_next _ _ b places last _ _ _ (asks_all b places last w hf hfit) (Drw.refl _)).mono ?_
  rintro e w2 ⟨rfl, w1, hd, rfl⟩
  rw [seeR_all _ _ hfit.p1]
  have hf1 := hf.later (hd.mod (fun _ => False)) (by simp)
  exact ⟨rfl, (hd.mod _).trans (setLast_mod (S := (· = b)) _ rfl) (fun i _ h => h), hf1.set (some _)⟩

/-- Who was last, behind k turns. -/
def lastA (p : Int) (k : Nat) : Int := if k = 0 then -1 else ((k : Int) - 1) % p
theorem lastA_next (p : Int) (k : Nat) (hp : 1 ≤ p) : (lastA p k + 1) % p = (k : Int) % p ∧ lastA p (k + 1) = (k : Int) % p := by
  constructor
  · unfold lastA
    split
    · subst k; simp
    · rw [Int.emod_add_emod]; congr 1; omega
  · unfold lastA; simp
theorem lastA_fit (p : Int) (k : Nat) (hp : 1 ≤ p) (hp2 : p ≤ 12) : Fit p (lastA p k) := by
  have h1 := Int.emod_nonneg ((k : Int) - 1) (show p ≠ 0 by omega)
  have h2 := Int.emod_lt_of_pos ((k : Int) - 1) (show 0 < p by omega)
  unfold lastA
  refine ⟨by omega, by omega, ?_, ?_⟩ <;> split <;> omega
/-- How often a place had its turn, of k turns. -/
def cntA (p : Int) (k : Nat) (j : Nat) : Int := ((k : Int) + p - 1 - j) / p
theorem cntA_zero (p : Int) (j : Nat) (hp : 1 ≤ p) (hj : (j : Int) < p) : cntA p 0 j = 0 := by
  unfold cntA
  exact Int.ediv_eq_zero_of_lt (by omega) (by omega)
theorem cntA_step (p : Int) (k j : Nat) (hp : 1 ≤ p) (hp2 : p ≤ 12) (hj : (j : Int) < p) : cntA p (k + 1) j = cntA p k j + if (j : Int) = (k : Int) % p then 1 else 0 := by
  unfold cntA
  have : p = 1 ∨ p = 2 ∨ p = 3 ∨ p = 4 ∨ p = 5 ∨ p = 6 ∨ p = 7 ∨ p = 8 ∨ p = 9 ∨ p = 10 ∨ p = 11 ∨ p = 12 := by omega
  rcases this with rfl | rfl | rfl | rfl | rfl | rfl | rfl | rfl | rfl | rfl | rfl | rfl <;> split <;> omega
theorem cntA_bounds (p : Int) (k j : Nat) (hp : 1 ≤ p) (hp2 : p ≤ 12) (hj : (j : Int) < p) : 0 ≤ cntA p k j ∧ cntA p k j ≤ k ∧ (k : Int) / p ≤ cntA p k j ∧ cntA p k j ≤ (k : Int) / p + 1 := by
  unfold cntA
  have : p = 1 ∨ p = 2 ∨ p = 3 ∨ p = 4 ∨ p = 5 ∨ p = 6 ∨ p = 7 ∨ p = 8 ∨ p = 9 ∨ p = 10 ∨ p = 11 ∨ p = 12 := by omega
  rcases this with rfl | rfl | rfl | rfl | rfl | rfl | rfl | rfl | rfl | rfl | rfl | rfl <;> omega

theorem info_int : (Try.prog.info? 3).map (fun i => (i.zero, i.size, i.bytes)) = some (some (.int .i64 0), 1, 8) := by kernel_rfl

/-- A number of 1 to n, made of any. -/
def small (n : Int) (a : Int) : Int := IntKind.u64.wrap a % n

set_option maxHeartbeats 400000 in
theorem walk_FairAll {w : World} (a0 : Int) (w0 : (Lit.int .i64 a0).wf = true) (a1 : Int) (w1 : (Lit.int .i64 a1).wf = true) :
    Calls Try.prog 7 #[.int .i64 a0, .int .i64 a1] w fun e w' => e = .returned (.bool true) ∧ Below w.heap.size w w' := by
  clear w0 w1
  have hmk := fun (n : Nat) (h : n ≤ 12) => run_make_row' (P := Try.prog) 45 3 (.int .i64 0) 8 Try.underlying45 info_int rfl .i64 .i64 n (by omega) (by omega)
  obtain ⟨p, hp1, hp2, hp⟩ := umod1 a0 12 (by omega) (by omega)
  obtain ⟨t, ht1, ht⟩ := umod a1 60 (by omega) (by omega)
  have HP := Lib.hid hp
  have HT := Lib.hid ht
  clear hp ht
  go_enter Try.func7, Try.ntmps7
  go_wp2_with fail
  refine (fair_lives w).mono ?_
  rintro e w1 ⟨rfl, b1⟩
  go_wp2_with fail
  rw [HP.out, HT.out]
  refine (fair_new _ w1).mono ?_
  rintro e w2 ⟨rfl, hw2⟩
  have e0 : nPl p = p := by unfold nPl; omega
  rw [e0] at hw2
  have h2 : FairAt w2 w1.heap.size p (-1) := hw2 ▸ FairAt.made _ _ _
  have m2 : Mod (fun _ => False) w w2 := (Mod.of_below b1 rfl _).trans (hw2 ▸ (Mod.refl (fun _ => False) w1).alloc _) (by simp)
  have hs0 := b1.size
  have hb2 := h2.lt
  clear hw2 b1 e0
  have hmk := hmk p (by omega)
  go_wp2
  clear hmk
  have hr2 : (w2.alloc (.cells (madeCells #[.int .i64 0] p) 3)).rowIs w2.heap.size 3 p (fun j => .int .i64 (cntA p 0 j)) :=
    (World.rowIs_made w2 (.int .i64 0) p 3).congr fun j hj => by rw [cntA_zero _ _ (by omega) (by omega)]
  have hb2 : w1.heap.size < w2.heap.size := h2.lt
  have h2' := h2.later ((Mod.refl (fun _ => False) w2).alloc (.cells (madeCells #[.int .i64 0] p) 3)) (by simp)
  have m2' := m2.alloc (.cells (madeCells #[.int .i64 0] p) 3)
  go_loopw [7] (fun i wr => ∃ k : Nat, k ≤ t ∧ i = .int .i64 k ∧ FairAt wr w1.heap.size p (lastA p k) ∧ wr.rowIs w2.heap.size 3 p (fun j => .int .i64 (cntA p k j)) ∧ Mod (fun _ => False) w wr) (fun i _ => t - (intOf i).toNat)
  case atStart => exact ⟨0, by omega, rfl, h2', hr2, m2'⟩
  case round =>
    obtain ⟨k, hk, rfl, hf, hr, hm⟩ := hrel
    by_cases hlt : k < t
    · have hfit := lastA_fit p k (by omega) (by omega)
      obtain ⟨e1, e2⟩ := lastA_next p k (by omega)
      obtain ⟨q, hq⟩ : ∃ q : Nat, (k : Int) % p = q := ⟨((k : Int) % p).toNat, by have := Int.emod_nonneg (k : Int) (show (p : Int) ≠ 0 by omega); omega⟩
      have hqp : q < p := by have := Int.emod_lt_of_pos (k : Int) (show (0 : Int) < p by omega); omega
      have HQ := Lib.hid hq
      have E2 := Lib.hid e2
      clear hq e2
      go_wp2_with fail
      refine (fair_next_all _ p _ wr hf hfit).mono ?_
      rintro e w3 ⟨rfl, m3, h3⟩
      have hq : (k : Int) % p = q := HQ.out
      rw [e1, hq] at h3 ⊢
      have hr3 := hr.of_block (m3.block _ hr.lt (by omega))
      have m3' := hm.trans m3 (fun i hi h => by omega)
      clear e1 hq m3 hm hr hf
      have hq' := HQ.out
      go_wp2_with fail
      refine (fair_last _ _ _ h3.c1).mono ?_
      rintro e w4 ⟨rfl, rfl⟩
      have hcb := cntA_bounds p k q (by omega) (by omega) (by omega)
      have hcell := hr3.cell hqp
      have hfz := hr3.frozen q
      go_wp2
      have hr4 := (hr3.set q (.int .i64 (cntA p k q + 1))).congr (g := fun j => .int .i64 (cntA p (k + 1) j)) fun j hj => by
        have := cntA_step p k j (by omega) (by omega) (by omega)
        rw [HQ.out] at this
        by_cases hjq : j = q
        · subst hjq; simp only [if_true] at this ⊢; rw [this]
        · rw [if_neg hjq]; rw [if_neg (by omega)] at this; rw [this, Int.add_zero]
      have h4 := h3.later ((Mod.refl (· = w2.heap.size) w4).setCell (p := ⟨w2.heap.size, q, none⟩) (Or.inl rfl) (.int .i64 (cntA p k q + 1))) (by omega)
      have m4 := m3'.setCell (p := ⟨w2.heap.size, q, none⟩) (Or.inr (by have := h2.lt; have := m2.size; omega)) (.int .i64 (cntA p k q + 1))
      go_roundw
      case rel => exact ⟨k + 1, by omega, by go_num, by rw [E2.out, HQ.out]; exact h4, hr4, m4⟩
      case measure => simp [intOf]; omega
    · have hkt : k = t := by omega
      subst hkt
      go_wp2
      clear hf
      go_loopw [10] (fun i wr' => ∃ j : Nat, j ≤ p ∧ i = .int .i64 j ∧ Drw wr wr') (fun i _ => p - (intOf i).toNat)
      case atStart => exact ⟨0, by omega, rfl, Drw.refl _⟩
      case round =>
        obtain ⟨j, hj, rfl, hd⟩ := hrel
        rename_i wr' _
        by_cases hlt2 : j < p
        · have hcb := cntA_bounds p k j (by omega) (by omega) (by omega)
          have hcell := (hd.cell _).trans (hr.cell hlt2)
          have hd1 : decide (cntA p k j < (k : Int) / p) = false := by simp; omega
          have hd2 : decide ((k : Int) / p + 1 < cntA p k j) = false := by simp; omega
          go_wp2
          go_quiet (fail)
          go_wp2
          go_roundw
          case rel => exact ⟨j + 1, by omega, by go_num, hd.trans (Drw.drewN _ _)⟩
          case measure => simp [intOf]; omega
        · go_wp2
          go_ret
          exact ⟨rfl, (hm.trans (hd.mod (fun _ => False)) (fun _ _ h => h)).below⟩

end Go.Proofs.Ytpcjhkkinmfjlaa
