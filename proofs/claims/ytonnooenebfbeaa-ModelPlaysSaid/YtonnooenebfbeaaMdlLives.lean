/- The document's example of the model lives. -/
import Derived.Test.YtonnooenebfbeaaMdlQueue
namespace Go.Proofs.Ytonnooenebfbeaa
open Go.RowKit

def lifeM : Cfg := ⟨2, 1, 2, 1, 1, 1, 2, false, true⟩

set_option maxHeartbeats 400000 in
theorem run_some21 (w : World) :
    Calls Try.prog 9 #[] w fun e w' => e = .returned (.agg lifeM.cells) ∧ Mod (fun _ => False) w w' := by
  go_enter Try.func9, Try.ntmps9
  go_wp2
  go_returns
  exact ⟨rfl, (Mod.refl _ _).alloc _⟩

def bA : ByteArray := ⟨#[97]⟩
def bB : ByteArray := ⟨#[98]⟩

set_option maxRecDepth 100000 in
set_option maxHeartbeats 3200000 in
theorem run_lives21 (w : World) :
    Calls Try.prog 8 #[] w fun e w' => e = .returned (.bool true) ∧ Mod (fun _ => False) w w' := by
  go_enter Try.func8, Try.ntmps8
  go_wp2_with fail
  refine (run_some21 _).mono ?_
  rintro e w1 ⟨rfl, m1⟩
  go_wp2_with fail
  refine (run_MOpen lifeM _).mono ?_
  rw [show lifeM.chk = 0 from by decide, show lifeM.nodes.toNat = 2 from by decide]
  rintro e w2 ⟨p, rfl, m2, ⟨h0, -⟩ | ⟨-, b, bq, bu, bc, rfl, hM, hO⟩⟩
  · exact absurd rfl h0
  have mm2 := m1.trans m2 (by simp)
  have HM2 := Lib.hid hM
  have HO2 := Lib.hid (fun g hg => Nat.le_trans m1.size (hO g hg))
  clear m1 m2 hM hO
  go_wp2_with fail
  refine (run_Send 0 1 bA _ HM2.out (by omega) (by decide) (by decide)).mono ?_
  rw [show sendE lifeM (List.replicate 2 0) (List.replicate 2 false) 0 1 bA.size = 0 from by decide]
  rintro e w3 ⟨rfl, ⟨h0, -⟩ | ⟨-, m3, f3, hM, hO⟩⟩
  · exact absurd rfl h0
  change MdlIn w3 b bq bu bc f3 lifeM 1 (updQ (fun _ _ => []) 0 1 [bA]) [1, 0] [false, false] at hM
  have HM3 := Lib.hid hM
  have HO3 := Lib.hid (fun g hg => (hO g hg).elim (HO2.out g) (fun h => Nat.le_trans mm2.size h))
  have mm3 : Mod (fun _ => False) w w3 := mm2.trans m3 (fun i hi e => by have := HO2.out i e; omega)
  clear m3 hM hO mm2
  go_wp2_with fail
  refine (run_Send 0 1 bB _ HM3.out (by omega) (by decide) (by decide)).mono ?_
  rw [show sendE lifeM [1, 0] [false, false] 0 1 bB.size = 0 from by decide]
  rintro e w4 ⟨rfl, ⟨h0, -⟩ | ⟨-, m4, f4, hM, hO⟩⟩
  · exact absurd rfl h0
  change MdlIn w4 b bq bu bc f4 lifeM 2 (updQ (updQ (fun _ _ => []) 0 1 [bA]) 0 1 [bA, bB]) [2, 0] [false, false] at hM
  have HM4 := Lib.hid hM
  have HO4 := Lib.hid (fun g hg => (hO g hg).elim (HO3.out g) (fun h => Nat.le_trans mm3.size h))
  have mm4 : Mod (fun _ => False) w w4 := mm3.trans m4 (fun i hi e => by have := HO3.out i e; omega)
  clear m4 hM hO mm3
  go_wp2_with fail
  refine (run_Took 1 0 1 0 bB _ HM4.out (by omega)).mono ?_
  rw [show tookE lifeM (updQ (updQ (fun _ _ => []) 0 1 [bA]) 0 1 [bA, bB]) 1 0 1 bB = 13 from by decide]
  rintro e w5 ⟨rfl, ⟨-, m5⟩ | ⟨h0, -⟩⟩
  rotate_left
  · exact absurd h0 (by decide)
  have HM5 := Lib.hid (HM4.out.later m5 (by simp))
  have mm5 := mm4.trans m5 (by simp)
  clear m5 mm4
  go_wp2_with fail
  refine (run_Took 1 0 1 0 bA _ HM5.out (by omega)).mono ?_
  rw [show tookE lifeM (updQ (updQ (fun _ _ => []) 0 1 [bA]) 0 1 [bA, bB]) 1 0 1 bA = 0 from by decide]
  rintro e w6 ⟨rfl, ⟨h0, -⟩ | ⟨-, m6, f6, hM, hO⟩⟩
  · exact absurd rfl h0
  change MdlIn w6 b bq bu bc f6 lifeM 3 (updQ (updQ (updQ (fun _ _ => []) 0 1 [bA]) 0 1 [bA, bB]) 0 1 [bB]) [1, 0] [false, false] at hM
  have HM6 := Lib.hid hM
  have mm6 : Mod (fun _ => False) w w6 := mm5.trans m6 (fun i hi e => by have := HO4.out i e; omega)
  clear m6 hM hO mm5
  go_wp2_with fail
  refine (run_Under 0 _ HM6.out).mono ?_
  rw [show underV lifeM [1, 0] 0 = 1 from by decide]
  rintro e w7 ⟨rfl, m7⟩
  have HM7 := Lib.hid (HM6.out.later m7 (by simp))
  have mm7 := mm6.trans m7 (by simp)
  clear m7 mm6
  go_wp2_with fail
  refine (run_Empty _ HM7.out).mono ?_
  rw [show (!([1, 0] : List Int).any fun n => decide (0 < n)) = false from by decide]
  rintro e w8 ⟨rfl, m8⟩
  have HM8 := Lib.hid (HM7.out.later m8 (by simp))
  have mm8 := mm7.trans m8 (by simp)
  clear m8 mm7
  go_wp2_with fail
  refine (run_Queue 0 1 _ HM8.out (by omega) (by decide) (by decide)).mono ?_
  rintro e w9 ⟨r, rfl, m9, hr⟩
  have mm9 := mm8.trans m9 (by simp)
  obtain ⟨ra, rn, rc, rfl, hrn, -, -, -⟩ := id hr
  obtain rfl : rn = 1 := by rw [← hrn]; decide
  clear hr hrn mm8 m9
  go_wp2
  go_ret
  exact ⟨rfl, mm9⟩

end Go.Proofs.Ytonnooenebfbeaa
