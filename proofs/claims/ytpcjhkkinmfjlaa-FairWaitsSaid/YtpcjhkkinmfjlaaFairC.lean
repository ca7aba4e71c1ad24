/- The head of the statements over package fair: the document's example. -/
import Derived.Test.YtpcjhkkinmfjlaaFairB
namespace Go.Proofs.Ytpcjhkkinmfjlaa
open Go.RowKit

theorem FairAt.made (n l : Int) (w : World) : FairAt (w.alloc (.cells #[.int .i64 n, .int .i64 l] 48)) w.heap.size n l := by
  show (w.heap.push _)[w.heap.size]? = _
  rw [Array.getElem?_push_size]

set_option maxHeartbeats 400000 in
theorem fair_lives (w : World) : Calls Try.prog 9 #[] w fun e w' => e = .returned (.bool true) ∧ Below w.heap.size w w' := by
  go_enter Try.func9, Try.ntmps9
  go_wp2_with fail
  refine (fair_new 3 w).mono ?_
  rintro e w1 ⟨rfl, hw1⟩
  have h1 : FairAt w1 w.heap.size (nPl 3) (-1) := hw1 ▸ FairAt.made _ _ _
  have m1 : Mod (· = w.heap.size) w w1 := hw1 ▸ (Mod.refl _ _).alloc _
  clear hw1
  go_wp2_with fail
  refine (fair_of w.heap.size (nPl 3) (-1) _ [true, true, true] _ (h1.later (S := fun _ => False) ((Mod.refl _ _).alloc _) (by simp)) (fit_new 3) (SlV.new _ _ _ rfl _ rfl)).mono ?_
  rintro e w2 ⟨rfl, m2, h2⟩
  have e2 : seeR (nPl 3) (-1) (ansL (nPl 3) (-1) [true, true, true]) = some 0 := by decide
  rw [e2] at h2 ⊢
  have m2 := m1.trans' (S := (· = w.heap.size)) (((Mod.refl (· = w.heap.size) w1).alloc _).trans m2 (fun i _ h => h)) (fun i _ h => h) (fun i _ h => h)
  clear m1 h1 e2
  simp only [Option.getD_some, Option.isSome_some] at h2 ⊢
  go_wp2_with fail
  refine (fair_of w.heap.size (nPl 3) 0 _ [true, true, true] _ (h2.later (S := fun _ => False) ((Mod.refl _ _).alloc _) (by simp)) ⟨by decide, by decide, by decide, by decide⟩ (SlV.new _ _ _ rfl _ rfl)).mono ?_
  rintro e w3 ⟨rfl, m3, h3⟩
  have e3 : seeR (nPl 3) 0 (ansL (nPl 3) 0 [true, true, true]) = some 1 := by decide
  rw [e3] at h3 ⊢
  have m3 := m2.trans' (S := (· = w.heap.size)) (((Mod.refl (· = w.heap.size) w2).alloc _).trans m3 (fun i _ h => h)) (fun i _ h => h) (fun i _ h => h)
  clear m2 h2 e3
  simp only [Option.getD_some, Option.isSome_some] at h3 ⊢
  go_wp2_with fail
  refine (fair_of w.heap.size (nPl 3) 1 _ [true] _ (h3.later (S := fun _ => False) ((Mod.refl _ _).alloc _) (by simp)) ⟨by decide, by decide, by decide, by decide⟩ (SlV.new _ _ _ rfl _ rfl)).mono ?_
  rintro e w4 ⟨rfl, m4, h4⟩
  have e4 : seeR (nPl 3) 1 (ansL (nPl 3) 1 [true]) = some 0 := by decide
  rw [e4] at h4 ⊢
  have m4 := m3.trans' (S := (· = w.heap.size)) (((Mod.refl (· = w.heap.size) w3).alloc _).trans m4 (fun i _ h => h)) (fun i _ h => h) (fun i _ h => h)
  clear m3 h3 e4
  simp only [Option.getD_some, Option.isSome_some] at h4 ⊢
  have e0 : nPl 3 = 3 := by decide
  rw [e0] at h4
  go_wp2_with fail
  refine (fair_places _ 3 _ h4.c0).mono ?_
  rintro e w5 ⟨rfl, rfl⟩
  go_wp2_with fail
  refine (fair_last _ 0 _ h4.c1).mono ?_
  rintro e w5 ⟨rfl, rfl⟩
  go_wp2
  go_ret
  exact ⟨rfl, (m4.mono (S' := fun _ => False) (fun k hk h => by omega)).below⟩

end Go.Proofs.Ytpcjhkkinmfjlaa
