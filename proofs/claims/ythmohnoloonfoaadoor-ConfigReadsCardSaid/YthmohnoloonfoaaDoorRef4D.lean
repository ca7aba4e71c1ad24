/- Contracts of the reference of layer 4: Digits, Text, Class. -/
import Derived.Test.YthmohnoloonfoaaDoorRef4
import Derived.Test.YthmohnoloonfoaaDoorCfgLive
namespace Go.Proofs.YthmohnoloonfoaaDoor
open Go.RowKit

def digsB : ByteArray := { data := #[48, 49, 50, 51, 52, 53, 54, 55, 56, 57] }
theorem digs_one : ∀ k : Fin 10, digsB.extract k.val (k.val + 1) = mkS [UInt8.ofNat (48 + k.val)] := by decide +kernel
theorem digs_one' {k : Nat} (h : k < 10) : digsB.extract k (k + 1) = mkS [UInt8.ofNat (48 + k)] := digs_one ⟨k, h⟩
theorem dec_big {u : Nat} (h : ¬ u < 10) : mkS (Lib.decDigits (u / 10)) ++ digsB.extract (u % 10) (u % 10 + 1) = mkS (Lib.decDigits u) := by
  rw [digs_one' (by omega)]
  conv => rhs; rw [Lib.decDigits, dif_neg h]
  apply ByteArray.ext
  simp [mkS]

set_option maxRecDepth 100000 in
set_option maxHeartbeats 1600000 in
theorem ref_DigitsNat : ∀ (u : Nat), u ≤ 9223372036854775807 → ∀ w : World,
    Calls Tryd.prog 24 #[.int .i64 u] w fun e w' => e = .returned (.string (mkS (Lib.decDigits u))) ∧ Mod (fun _ => False) w w' := by
  intro u
  induction u using Nat.strongRecOn with
  | _ u ih =>
    intro hu w
    by_cases h : u < 10
    · go_enter Tryd.func24, Tryd.ntmps24
      go_wp2_with fail
      go_ret
      refine ⟨?_, Mod.refl _ _⟩
      have e : mkS (Lib.decDigits u) = digsB.extract u (u + 1) := by rw [digs_one' h, Lib.decDigits, dif_pos h]
      rw [e]
      rfl
    · go_enter Tryd.func24, Tryd.ntmps24
      go_wp2_with fail
      have hrec := ih (u / 10) (by omega) (by omega)
      have hfin := dec_big h
      obtain ⟨r, hr⟩ : ∃ r, u % 10 = r := ⟨_, rfl⟩
      obtain ⟨q, hq⟩ : ∃ q, u / 10 = q := ⟨_, rfl⟩
      have hr10 : r < 10 := by omega
      have hq10 : q ≤ 9223372036854775807 := by omega
      have hrI : (u : Int) % 10 = (r : Int) := by omega
      have hqI : (u : Int) / 10 = (q : Int) := by omega
      have hw1 : IntKind.i64.wrap (q : Int) = (q : Int) := by rw [IntKind.wrap_i64]; omega
      have hw2 : IntKind.i64.wrap (r : Int) = (r : Int) := by rw [IntKind.wrap_i64]; omega
      have hw3 : IntKind.i64.wrap ((r : Int) + 1) = (r : Int) + 1 := by rw [IntKind.wrap_i64]; omega
      have hb1 : (0 : Int) ≤ (r : Int) := by omega
      have hb2 : (r : Int) ≤ (r : Int) + 1 := by omega
      have hb3 : (r : Int) + 1 ≤ 10 := by omega
      have hb4 : (0 : Int) ≤ (r : Int) + 1 := by omega
      have hb5 : (r : Int) ≤ 10 := by omega
      have hb6 : (ByteArray.size { data := #[48, 49, 50, 51, 52, 53, 54, 55, 56, 57] } : Nat) = 10 := by decide
      have hb7 : ((r : Int) + 1).toNat = r + 1 := by omega
      have hb8 : (u : Int).tmod 10 = (r : Int) := by rw [Int.tmod_eq_emod_of_nonneg (by omega)]; omega
      have hs0 : (Lib.decDigits q).length ≤ 21 := by
        have := Lib.itoa_length_le (q : Int) (by omega) (by omega)
        rwa [Lib.itoa_nonneg] at this
      have hs1 : (mkS (Lib.decDigits q)).size ≤ 21 := hs0
      have hs2 : (ByteArray.extract { data := #[48, 49, 50, 51, 52, 53, 54, 55, 56, 57] } r (r + 1)).size ≤ 10 := by
        rw [ByteArray.size_extract]
        omega
      rw [hq] at hrec hfin
      rw [hr] at hfin
      have HFIN := Lib.hid hfin
      have HREC := Lib.hid hrec
      clear ih hr hq hfin hrec
      go_region_with ((go_at_call 24; refine (HREC.out _).mono ?_; rintro e w3 ⟨rfl, m3⟩))
      all_goals go_wp2
      all_goals go_ret
      all_goals exact ⟨congrArg (fun s => Ending.returned (Value.string s)) HFIN.out, (Mod.refl _ w).drew.trans m3 (by simp)⟩

theorem least_itoa : Lib.itoa (-9223372036854775808) = [45, 57, 50, 50, 51, 51, 55, 50, 48, 51, 54, 56, 53, 52, 55, 55, 53, 56, 48, 56] := by decide +kernel

set_option maxRecDepth 100000 in
set_option maxHeartbeats 1600000 in
theorem ref_Digits (n : Int) (hn : (Lit.int .i64 n).wf = true) (w : World) :
    Calls Tryd.prog 24 #[.int .i64 n] w fun e w' => e = .returned (.string (mkS (Lib.itoa n))) ∧ Mod (fun _ => False) w w' := by
  have hb := bounds_i64 hn
  by_cases h0 : 0 ≤ n
  · have := ref_DigitsNat n.toNat (by omega) w
    have e : ((n.toNat : Nat) : Int) = n := by omega
    rw [e] at this
    have e2 : Lib.itoa n = Lib.decDigits n.toNat := by
      unfold Lib.itoa
      rw [if_neg (by omega)]
    rw [e2]
    exact this
  · by_cases hl : n < -9223372036854775807
    · obtain rfl : n = -9223372036854775808 := by omega
      go_enter Tryd.func24, Tryd.ntmps24
      go_wp2
      go_ret
      refine ⟨?_, Mod.refl _ _⟩
      rw [least_itoa]
      rfl
    · have hrec := ref_DigitsNat n.natAbs (by omega)
      have hq : -n = ((n.natAbs : Nat) : Int) := by omega
      have hs0 : (Lib.decDigits n.natAbs).length ≤ 21 := by
        have := Lib.itoa_length_le (n.natAbs : Int) (by omega) (by omega)
        rwa [Lib.itoa_nonneg] at this
      have hfin : ({ data := #[45] } : ByteArray) ++ mkS (Lib.decDigits n.natAbs) = mkS (Lib.itoa n) := by
        unfold Lib.itoa
        rw [if_pos (by omega)]
        apply ByteArray.ext
        simp [mkS]
      generalize Lib.itoa n = I at hfin ⊢
      generalize n.natAbs = q at hrec hq hs0 hfin
      obtain rfl : n = -(q : Int) := by omega
      have hs1 : (mkS (Lib.decDigits q)).size ≤ 21 := hs0
      have HREC := Lib.hid hrec
      have HFIN := Lib.hid hfin
      clear hrec hfin hq hn
      go_enter Tryd.func24, Tryd.ntmps24
      go_wp2_with fail
      refine (HREC.out _).mono ?_
      rintro e w3 ⟨rfl, m3⟩
      go_wp2
      go_ret
      exact ⟨congrArg (fun s => Ending.returned (Value.string s)) HFIN.out, m3⟩

end Go.Proofs.YthmohnoloonfoaaDoor
