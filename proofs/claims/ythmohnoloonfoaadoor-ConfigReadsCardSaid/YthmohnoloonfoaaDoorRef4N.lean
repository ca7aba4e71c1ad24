/- Contract of the reference of layer 4: Number. -/
import Derived.Test.YthmohnoloonfoaaDoorRef4D
import Derived.Test.YthmohnoloonfoaaDoorCfgRound
namespace Go.Proofs.YthmohnoloonfoaaDoor
open Go.RowKit

instance (c : UInt8) : Decidable (digB c) := by unfold digB; infer_instance
def numTail (s : List UInt8) : List UInt8 := if s.head? = some 45 then s.tail else s
def numSign (s : List UInt8) (v : Nat) : Int := if s.head? = some 45 then -(v : Int) else v
def numR (s : List UInt8) : Option Int :=
  if (∀ c ∈ (numTail s).take 10, digB c) ∧ (numTail s).length ≤ 9 ∧ Lib.itoa (numSign s (valL 0 ((numTail s).take 10))) = s then some (numSign s (valL 0 ((numTail s).take 10))) else none

theorem valL_lt : ∀ (l : List UInt8) (acc : Nat), (∀ c ∈ l, digB c) → valL acc l < (acc + 1) * 10 ^ l.length
  | [], acc, _ => by simp [valL]
  | c :: l, acc, h => by
    have hc := h c (by simp)
    unfold digB at hc
    have ih := valL_lt l (acc * 10 + (c.toNat - 48)) (fun x hx => h x (by simp [hx]))
    have e : valL acc (c :: l) = valL (acc * 10 + (c.toNat - 48)) l := rfl
    rw [e, List.length_cons, Nat.pow_succ, Nat.mul_comm (10 ^ l.length) 10, ← Nat.mul_assoc]
    exact Nat.lt_of_lt_of_le ih (Nat.mul_le_mul_right _ (by omega))
theorem valL_small {l : List UInt8} (h : ∀ c ∈ l, digB c) (hl : l.length ≤ 10) : valL 0 l ≤ 10000000000 := by
  have h1 := valL_lt l 0 h
  have h2 : 10 ^ l.length ≤ 10 ^ 10 := Nat.pow_le_pow_right (by omega) hl
  omega
theorem valL_snoc (l : List UInt8) (c : UInt8) : valL 0 (l ++ [c]) = valL 0 l * 10 + (c.toNat - 48) := by simp [valL]
theorem numR_no {l : List UInt8} {c : UInt8} {k : Nat} (hk : k < 10) (h : (numTail l)[k]? = some c) (hc : ¬ digB c) : numR l = none := by
  unfold numR
  rw [if_neg]
  rintro ⟨h1, -⟩
  exact hc (h1 c (List.mem_of_getElem? (i := k) (by rw [List.getElem?_take, if_pos hk]; exact h)))

set_option maxRecDepth 100000 in
set_option maxHeartbeats 1600000 in
theorem ref_Number (s : ByteArray) (hs : s.size ≤ 1000) (w : World) :
    Calls Tryd.prog 29 #[.string s] w fun e w' => (∃ n : Int, e = .returned (.tuple #[.int .i64 n, .bool (numR s.data.toList).isSome]) ∧ ∀ v, numR s.data.toList = some v → n = v) ∧ Mod (fun _ => False) w w' := by
  obtain ⟨l, hl⟩ : ∃ l, s.data.toList = l := ⟨_, rfl⟩
  have hlz : l.length = s.size := by rw [← hl]; rfl
  have hget : ∀ (i : Nat) (h : i < s.size) (h2 : i < l.length), s[i] = l[i] := by
    intro i h h2
    subst hl
    rfl
  rw [hl]
  have HL := Lib.hid hlz
  have HG := Lib.hid hget
  have HS := Lib.hid hl
  by_cases h0 : s.size = 0
  · have hl0 : l = [] := List.eq_nil_of_length_eq_zero (by omega)
    have HN := Lib.hid (show numR l = none by rw [hl0]; decide +kernel)
    clear hl hlz hget
    have h00 : ¬ 0 < s.size := by omega
    go_enter Tryd.func29, Tryd.ntmps29
    go_wp2_with fail
    go_loopw [4, 6] (fun n i wr => n = .int .i64 0 ∧ i = .int .i64 0 ∧ wr = w) (fun _ _ _ => 0)
    case atStart => exact ⟨rfl, rfl, rfl⟩
    case round =>
      obtain ⟨rfl, rfl, rfl⟩ := hrel
      go_wp2_with fail
      refine (ref_Digits 0 (by decide) _).mono ?_
      rintro e w1 ⟨rfl, m1⟩
      have hne : (Lib.itoa 0 == s.toList) = false := beq_eq_false_iff_ne.2 (fun e => by
        have e2 : s.toList.length = 0 := by rw [ByteArray.toList_eq]; exact h0
        rw [← e] at e2
        exact absurd e2 (by decide +kernel))
      go_wp2
      go_ret2
      exact ⟨⟨0, by rw [HN.out]; rfl, fun v hv => by rw [HN.out] at hv; cases hv⟩, m1⟩
  · have h00 : 0 < s.size := by omega
    by_cases h45 : s[0]'h00 = 45
    · have hh : l.head? = some 45 := by
        have := HG.out 0 (by omega) (by omega)
        rw [h45] at this
        rw [List.head?_eq_getElem?, List.getElem?_eq_getElem (by omega), ← this]
      obtain ⟨T, hT⟩ : ∃ T, numTail l = T := ⟨_, rfl⟩
      have hT2 : T = l.tail := by rw [← hT]; unfold numTail; rw [if_pos hh]
      have HTL := Lib.hid (show T.length + 1 = s.size by rw [hT2, List.length_tail]; omega)
      have HTG := Lib.hid (show ∀ j : Nat, T[j]? = l[1 + j]? by intro j; rw [hT2, List.getElem?_tail, Nat.add_comm])
      have HT := Lib.hid hT
      have HH := Lib.hid hh
      clear hT hT2 hh hl hlz hget
      go_enter Tryd.func29, Tryd.ntmps29
      go_wp2_with fail
      go_loopw [4, 6] (fun n i wr => ∃ k : Nat, k ≤ 10 ∧ k ≤ T.length ∧ n = .int .i64 (valL 0 (T.take k) : Nat) ∧ i = .int .i64 ((1 + k : Nat) : Int) ∧ (∀ c ∈ T.take k, digB c) ∧ wr = w) (fun _ i _ => s.size - (intOf i).toNat)
      case atStart => exact ⟨0, by omega, by omega, by simp [valL], by simp, by simp, rfl⟩
      case round =>
        obtain ⟨k, hk10, hkl, rfl, rfl, hd, rfl⟩ := hrel
        have hv := valL_small hd (by simp; omega)
        have HD := Lib.hid hd
        clear hd
        by_cases hlt : k < T.length ∧ k < 10
        · obtain ⟨hlt, hlt2⟩ := hlt
          have hlt3 : 1 + k < s.size := by have := HTL.out; omega
          obtain ⟨c, hc⟩ : ∃ c, T[k]? = some c := ⟨_, List.getElem?_eq_getElem hlt⟩
          have hsc : s[1 + k] = c := by
            rw [HG.out (1 + k) hlt3 (by have := HL.out; omega)]
            have := HTG.out k
            rw [hc, List.getElem?_eq_getElem (by have := HL.out; omega)] at this
            exact (Option.some.inj this).symm
          have HC := Lib.hid hc
          clear hc
          obtain ⟨V, hV⟩ : ∃ V, valL 0 (T.take k) = V := ⟨_, rfl⟩
          rw [hV] at hv ⊢
          have HV := Lib.hid hV
          clear hV
          by_cases hdc : digB c
          · have hd1 : (48 : Int) ≤ (c.toNat : Int) := by have := hdc.1; omega
            have hd2 : (c.toNat : Int) ≤ 57 := by have := hdc.2; omega
            have HDC := Lib.hid hdc
            clear hdc
            have hd3 : (48 : Nat) ≤ c.toNat := by omega
            go_wp2_with fail
            go_roundw
            case rel =>
              have hdd : ∀ c ∈ T.take (k + 1), digB c := by
                rw [List.take_add_one, HC.out]
                intro x hx
                rcases List.mem_append.1 hx with hx | hx
                · exact HD.out x hx
                · obtain rfl : x = c := by simpa using hx
                  exact HDC.out
              have hvv : valL 0 (T.take (k + 1)) = V * 10 + (c.toNat - 48) := by
                rw [List.take_add_one, HC.out]
                show valL 0 (T.take k ++ [c]) = _
                rw [valL_snoc, HV.out]
              first | exact ⟨k + 1, by omega, by omega, by rw [hvv]; go_num, by go_num, hdd, trivial⟩ | (refine ⟨_, _, _, _, _, _, _, _, _, _, _, _, _, _, _, _, _, _, _, _, _, _, _, _, _, _, _, _, _, _, _, _, _, _, ?_, rfl⟩; exact ⟨k + 1, by omega, by omega, by rw [hvv]; go_num, by go_num, hdd, trivial⟩)
            case measure => simp [intOf]; omega
          · have HN := Lib.hid (numR_no (l := l) hlt2 (by rw [HT.out]; exact HC.out) hdc)
            have hcn : (c.toNat : Int) < 48 ∨ ((48 : Int) ≤ (c.toNat : Int) ∧ (57 : Int) < (c.toNat : Int)) := by
              unfold digB at hdc
              omega
            clear hdc
            rcases hcn with hcn | ⟨hcn, hcn2⟩
            all_goals
              go_wp2_with fail
              go_ret2
              exact ⟨⟨0, by rw [HN.out]; rfl, fun v hv => by rw [HN.out] at hv; cases hv⟩, Mod.refl _ _⟩
        · have hk : T.take k = T.take 10 := by
            by_cases h : k < 10
            · rw [List.take_of_length_le (by omega), List.take_of_length_le (by omega)]
            · rw [show k = 10 by omega]
          obtain ⟨V, hV⟩ : ∃ V, valL 0 (T.take k) = V := ⟨_, rfl⟩
          have hnum : numR l = if T.length ≤ 9 ∧ Lib.itoa (-(V : Int)) = l then some (-(V : Int)) else none := by
            unfold numR
            rw [HT.out, ← hk, hV]
            have hd := HD.out
            have hsg : numSign l V = -(V : Int) := by unfold numSign; first | rw [if_pos HH.out] | rw [if_neg HH.out]
            rw [hsg]
            simp only [and_iff_right hd]
          rw [hV] at hv ⊢
          have hex : ¬ (1 + k < s.size) ∨ k = 10 := by have := HTL.out; omega
          have hwf : (Lit.int .i64 (-(V : Int))).wf = true := by
            simp [Lit.wf, IntKind.min, IntKind.max, IntKind.signed, IntKind.bits]
            omega
          have hsl : s.toList = l := by rw [ByteArray.toList_eq]; exact HS.out
          have HWF := Lib.hid hwf
          have HK := Lib.hid hk
          have htl := HTL.out
          clear hk hV hwf hlt
          by_cases h9 : T.length ≤ 9
          · by_cases hE : Lib.itoa (-(V : Int)) = l
            · have HN := Lib.hid (show numR l = some (-(V : Int)) by rw [hnum, if_pos ⟨h9, hE⟩])
              have hE2 : (Lib.itoa (-(V : Int)) == s.toList) = true := by rw [hE, hsl]; exact beq_self_eq_true _
              clear hE hnum hsl
              have hex2 : ¬ (1 + k < s.size) := by omega
              clear hex
              go_wp2_with fail
              refine (ref_Digits (-(V : Int)) HWF.out _).mono ?_
              rintro e w1 ⟨rfl, m1⟩
              go_wp2
              go_ret2
              exact ⟨⟨_, by rw [HN.out]; rfl, fun v hv => by rw [HN.out] at hv; exact Option.some.inj hv⟩, m1⟩
            · have HN := Lib.hid (show numR l = none by rw [hnum, if_neg (fun h => hE h.2)])
              have hE2 : (Lib.itoa (-(V : Int)) == s.toList) = false := by rw [hsl]; exact beq_eq_false_iff_ne.2 hE
              clear hE hnum hsl
              have hex2 : ¬ (1 + k < s.size) := by omega
              clear hex
              go_wp2_with fail
              refine (ref_Digits (-(V : Int)) HWF.out _).mono ?_
              rintro e w1 ⟨rfl, m1⟩
              go_wp2
              go_ret2
              exact ⟨⟨_, by rw [HN.out]; rfl, fun v hv => by rw [HN.out] at hv; cases hv⟩, m1⟩
          · have HN := Lib.hid (show numR l = none by rw [hnum, if_neg (fun h => h9 h.1)])
            clear hnum hsl
            obtain rfl : k = 10 := by omega
            clear hex
            go_wp2_with fail
            all_goals go_ret2
            all_goals exact ⟨⟨_, by rw [HN.out]; rfl, fun v hv => by rw [HN.out] at hv; cases hv⟩, Mod.refl _ _⟩
  
    · have hh : ¬ l.head? = some 45 := by
        intro h
        have h3 := HG.out 0 (by omega) (by omega)
        rw [List.head?_eq_getElem?, List.getElem?_eq_getElem (by omega)] at h
        exact h45 (h3.trans (Option.some.inj h))
      obtain ⟨T, hT⟩ : ∃ T, numTail l = T := ⟨_, rfl⟩
      have hT2 : T = l := by rw [← hT]; unfold numTail; rw [if_neg hh]
      have HTL := Lib.hid (show T.length + 0 = s.size by rw [hT2]; omega)
      have HTG := Lib.hid (show ∀ j : Nat, T[j]? = l[j]? by intro j; rw [hT2])
      have HT := Lib.hid hT
      have HH := Lib.hid hh
      have h46 : (((s[0]'h00).toNat : Int) == 45) = false := beq_eq_false_iff_ne.2 (fun e => h45 (UInt8.toNat_inj.1 (by have : (45 : UInt8).toNat = 45 := rfl; omega)))
      clear hT hT2 hh hl hlz hget h45
      go_enter Tryd.func29, Tryd.ntmps29
      go_wp2_with fail
      go_loopw [4, 6] (fun n i wr => ∃ k : Nat, k ≤ 10 ∧ k ≤ T.length ∧ n = .int .i64 (valL 0 (T.take k) : Nat) ∧ i = .int .i64 ((k : Nat) : Int) ∧ (∀ c ∈ T.take k, digB c) ∧ wr = w) (fun _ i _ => s.size - (intOf i).toNat)
      case atStart => exact ⟨0, by omega, by omega, by simp [valL], by simp, by simp, rfl⟩
      case round =>
        obtain ⟨k, hk10, hkl, rfl, rfl, hd, rfl⟩ := hrel
        have hv := valL_small hd (by simp; omega)
        have HD := Lib.hid hd
        clear hd
        by_cases hlt : k < T.length ∧ k < 10
        · obtain ⟨hlt, hlt2⟩ := hlt
          have hlt3 : k < s.size := by have := HTL.out; omega
          obtain ⟨c, hc⟩ : ∃ c, T[k]? = some c := ⟨_, List.getElem?_eq_getElem hlt⟩
          have hsc : s[k] = c := by
            rw [HG.out (k) hlt3 (by have := HL.out; omega)]
            have := HTG.out k
            rw [hc, List.getElem?_eq_getElem (by have := HL.out; omega)] at this
            exact (Option.some.inj this).symm
          have HC := Lib.hid hc
          clear hc
          obtain ⟨V, hV⟩ : ∃ V, valL 0 (T.take k) = V := ⟨_, rfl⟩
          rw [hV] at hv ⊢
          have HV := Lib.hid hV
          clear hV
          by_cases hdc : digB c
          · have hd1 : (48 : Int) ≤ (c.toNat : Int) := by have := hdc.1; omega
            have hd2 : (c.toNat : Int) ≤ 57 := by have := hdc.2; omega
            have HDC := Lib.hid hdc
            clear hdc
            have hd3 : (48 : Nat) ≤ c.toNat := by omega
            go_wp2_with fail
            go_roundw
            case rel =>
              have hdd : ∀ c ∈ T.take (k + 1), digB c := by
                rw [List.take_add_one, HC.out]
                intro x hx
                rcases List.mem_append.1 hx with hx | hx
                · exact HD.out x hx
                · obtain rfl : x = c := by simpa using hx
                  exact HDC.out
              have hvv : valL 0 (T.take (k + 1)) = V * 10 + (c.toNat - 48) := by
                rw [List.take_add_one, HC.out]
                show valL 0 (T.take k ++ [c]) = _
                rw [valL_snoc, HV.out]
              first | exact ⟨k + 1, by omega, by omega, by rw [hvv]; go_num, by go_num, hdd, trivial⟩ | (refine ⟨_, _, _, _, _, _, _, _, _, _, _, _, _, _, _, _, _, _, _, _, _, _, _, _, _, _, _, _, _, _, _, _, _, _, ?_, rfl⟩; exact ⟨k + 1, by omega, by omega, by rw [hvv]; go_num, by go_num, hdd, trivial⟩)
            case measure => simp [intOf]; omega
          · have HN := Lib.hid (numR_no (l := l) hlt2 (by rw [HT.out]; exact HC.out) hdc)
            have hcn : (c.toNat : Int) < 48 ∨ ((48 : Int) ≤ (c.toNat : Int) ∧ (57 : Int) < (c.toNat : Int)) := by
              unfold digB at hdc
              omega
            clear hdc
            rcases hcn with hcn | ⟨hcn, hcn2⟩
            all_goals
              go_wp2_with fail
              go_ret2
              exact ⟨⟨0, by rw [HN.out]; rfl, fun v hv => by rw [HN.out] at hv; cases hv⟩, Mod.refl _ _⟩
        · have hk : T.take k = T.take 10 := by
            by_cases h : k < 10
            · rw [List.take_of_length_le (by omega), List.take_of_length_le (by omega)]
            · rw [show k = 10 by omega]
          obtain ⟨V, hV⟩ : ∃ V, valL 0 (T.take k) = V := ⟨_, rfl⟩
          have hnum : numR l = if T.length ≤ 9 ∧ Lib.itoa ((V : Int)) = l then some ((V : Int)) else none := by
            unfold numR
            rw [HT.out, ← hk, hV]
            have hd := HD.out
            have hsg : numSign l V = (V : Int) := by unfold numSign; first | rw [if_pos HH.out] | rw [if_neg HH.out]
            rw [hsg]
            simp only [and_iff_right hd]
          rw [hV] at hv ⊢
          have hex : ¬ (k < s.size) ∨ k = 10 := by have := HTL.out; omega
          have hwf : (Lit.int .i64 ((V : Int))).wf = true := by
            simp [Lit.wf, IntKind.min, IntKind.max, IntKind.signed, IntKind.bits]
            omega
          have hsl : s.toList = l := by rw [ByteArray.toList_eq]; exact HS.out
          have HWF := Lib.hid hwf
          have HK := Lib.hid hk
          have htl := HTL.out
          clear hk hV hwf hlt
          by_cases h9 : T.length ≤ 9
          · by_cases hE : Lib.itoa ((V : Int)) = l
            · have HN := Lib.hid (show numR l = some ((V : Int)) by rw [hnum, if_pos ⟨h9, hE⟩])
              have hE2 : (Lib.itoa ((V : Int)) == s.toList) = true := by rw [hE, hsl]; exact beq_self_eq_true _
              clear hE hnum hsl
              have hex2 : ¬ (k < s.size) := by omega
              clear hex
              go_wp2_with fail
              refine (ref_Digits ((V : Int)) HWF.out _).mono ?_
              rintro e w1 ⟨rfl, m1⟩
              go_wp2
              go_ret2
              exact ⟨⟨_, by rw [HN.out]; rfl, fun v hv => by rw [HN.out] at hv; exact Option.some.inj hv⟩, m1⟩
            · have HN := Lib.hid (show numR l = none by rw [hnum, if_neg (fun h => hE h.2)])
              have hE2 : (Lib.itoa ((V : Int)) == s.toList) = false := by rw [hsl]; exact beq_eq_false_iff_ne.2 hE
              clear hE hnum hsl
              have hex2 : ¬ (k < s.size) := by omega
              clear hex
              go_wp2_with fail
              refine (ref_Digits ((V : Int)) HWF.out _).mono ?_
              rintro e w1 ⟨rfl, m1⟩
              go_wp2
              go_ret2
              exact ⟨⟨_, by rw [HN.out]; rfl, fun v hv => by rw [HN.out] at hv; cases hv⟩, m1⟩
          · have HN := Lib.hid (show numR l = none by rw [hnum, if_neg (fun h => h9 h.1)])
            clear hnum hsl
            obtain rfl : k = 10 := by omega
            clear hex
            go_wp2_with fail
            all_goals go_ret2
            all_goals exact ⟨⟨_, by rw [HN.out]; rfl, fun v hv => by rw [HN.out] at hv; cases hv⟩, Mod.refl _ _⟩
  
end Go.Proofs.YthmohnoloonfoaaDoor
