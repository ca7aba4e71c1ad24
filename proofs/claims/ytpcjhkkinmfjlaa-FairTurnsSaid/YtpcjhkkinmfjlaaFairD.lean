/- Contracts of the reference of layer 12, and of the statements' helpers. -/
import Derived.Test.YtpcjhkkinmfjlaaFairC
namespace Go.Proofs.Ytpcjhkkinmfjlaa
open Go.RowKit

set_option maxHeartbeats 400000 in
theorem ref12_new (n : Int) (w : World) :
    Calls Try.prog 11 #[.int .i64 n] w fun e w' => e = .returned (.agg #[.int .i64 (nPl n), .int .i64 (-1)]) ∧ Below w.heap.size w w' := by
  go_enter Try.func11, Try.ntmps11
  go_wp2
  all_goals go_returns
  all_goals exact ⟨by have : nPl n = min (max n 1) 4096 := rfl; congr 5; omega, by go_grown⟩

set_option maxHeartbeats 400000 in
theorem ref12_see (places last : Int) (v : Value) (l : List Bool) (w : World) (hfit : Fit places last) (hs : SlV w v (l.map Value.bool)) :
    Calls Try.prog 15 #[.agg #[.int .i64 places, .int .i64 last], v] w fun e w' =>
      e = .returned (.tuple #[.int .i64 ((seeR places last (ansL places last l)).getD 0), .bool (seeR places last (ansL places last l)).isSome]) ∧ Below w.heap.size w w' := by
  have hs1 := hs.later ((Mod.refl (fun _ => False) w).alloc (.cells #[.int .i64 places, .int .i64 last] 27)) (by simp)
  obtain ⟨a, n, c, rfl, hn, hnc, hm, _⟩ := id hs
  rw [List.length_map] at hn
  subst hn
  have HS := Lib.hid hs1
  clear hs hs1
  have p1 := hfit.p1
  have p2 := hfit.p2
  have l1 := hfit.l1
  have l2 := hfit.l2
  unfold maxLen at hm
  go_enter Try.func15, Try.ntmps15
  go_wp2
  go_loop [6] (fun i => ∃ k : Nat, (k : Int) ≤ places ∧ i = .int .i64 ((k : Int) + 1) ∧ ∀ j, j < k → ansL places last l j = false) (fun i => (places + 1 - intOf i).toNat)
  case atStart => exact ⟨0, by omega, rfl, fun j hj => by omega⟩
  case round =>
    obtain ⟨k, hk, rfl, hno⟩ := hrel
    by_cases hlt : (k : Int) < places
    · obtain ⟨q, hq⟩ : ∃ q : Int, q = (last + ((k : Int) + 1)) % places := ⟨_, rfl⟩
      have q0 : 0 ≤ (last + ((k : Int) + 1)) % places := Int.emod_nonneg _ (by omega)
      have q1 : (last + ((k : Int) + 1)) % places < places := Int.emod_lt_of_pos _ (by omega)
      have ha : ansL places last l k = l.getD ((last + ((k : Int) + 1)) % places).toNat false := by unfold ansL; rw [show last + 1 + (k : Int) = last + ((k : Int) + 1) by omega]
      have hp : (last + 1 + (k : Int)) % places = (last + ((k : Int) + 1)) % places := by congr 1; omega
      by_cases hin : (last + ((k : Int) + 1)) % places < (l.length : Int)
      · obtain ⟨B, off, rfl, hB, hcell⟩ := HS.out.at ((last + ((k : Int) + 1)) % places).toNat (by omega)
        have hv : (l.map Value.bool).getD ((last + ((k : Int) + 1)) % places).toNat undef = .bool (ansL places last l k) := by
          rw [ha, List.getD_eq_getElem?_getD, List.getD_eq_getElem?_getD, List.getElem?_map]
          rw [List.getElem?_eq_getElem (by omega)]; rfl
        rw [hv] at hcell
        clear hv ha hq
        by_cases hy : ansL places last l k = true
        · rw [hy] at hcell
          have HY := Lib.hid hy
          have HP := Lib.hid hp
          clear hy hp
          go_wp2
          go_ret2
          have hf := firstI_some hlt HY.out hno
          exact ⟨by simp [seeR, hf, HP.out], by go_grown⟩
        · have hy' : ansL places last l k = false := by simpa using hy
          rw [hy'] at hcell
          have HY := Lib.hid hy'
          clear hy hp hy'
          go_wp2
          go_round
          case rel => exact ⟨k + 1, by omega, by go_num, fun j hj => if h : j = k then h ▸ HY.out else hno j (by omega)⟩
          case measure => simp [intOf]; omega
      · have hy' : ansL places last l k = false := by rw [ha, List.getD_eq_getElem?_getD, List.getElem?_eq_none (by omega)]; rfl
        have HY := Lib.hid hy'
        clear hp hy' ha hq
        go_wp2
        go_round
        case rel => exact ⟨k + 1, by omega, by go_num, fun j hj => if h : j = k then h ▸ HY.out else hno j (by omega)⟩
        case measure => simp [intOf]; omega
    · go_wp2
      go_ret2
      have hf := firstI_none (places := places) (ans := ansL places last l) fun j hj => hno j (by omega)
      exact ⟨by simp [seeR, hf], by go_grown⟩

end Go.Proofs.Ytpcjhkkinmfjlaa
