/- The contract of the reference's Same over texts. -/
import Derived.Test.YtonnooenebfbeaaMdlOpen
namespace Go.Proofs.Ytonnooenebfbeaa
open Go.RowKit

theorem strs_get {xs : List ByteArray} {k : Nat} {x : ByteArray} (h : xs[k]? = some x) : (xs.map Value.string).getD k undef = .string x := by
  simp only [List.getD_eq_getElem?_getD, List.getElem?_map, h]; rfl

set_option maxHeartbeats 1600000 in
theorem ref_SameS (v u : Value) (xs ys : List ByteArray) (w : World) (hv : SlV w v (xs.map Value.string)) (hu : SlV w u (ys.map Value.string)) :
    Calls Try.prog 20 #[v, u] w fun e w' => e = .returned (.bool (decide (xs = ys))) ∧ Drw w w' := by
  obtain ⟨a, n, c, rfl, hn, hc, hm, -⟩ := id hv
  obtain ⟨b, n2, c2, rfl, hn2, hc2, hm2, -⟩ := id hu
  rw [List.length_map] at hn hn2
  have HV := Lib.hid hv
  have HU := Lib.hid hu
  have HN := Lib.hid hn
  have HN2 := Lib.hid hn2
  unfold maxLen at hm hm2
  clear hv hu hn hn2
  generalize hrr : decide (xs = ys) = r
  have HR := Lib.hid hrr
  clear hrr
  by_cases hne : n = n2
  · subst hne
    have hq : (((n : Int)) == (n : Int)) = true := by simp
    go_enter Try.func20, Try.ntmps20
    go_wp2
    go_loopw [5] (fun i wr => ∃ k : Nat, k ≤ n ∧ i = .int .i64 k ∧ Drw w wr ∧ ∀ j, j < k → xs[j]? = ys[j]?) (fun i _ => n - (intOf i).toNat)
    case atStart => exact ⟨0, by omega, by simp, Drw.refl _, fun j hj => absurd hj (Nat.not_lt_zero _)⟩
    case round =>
      obtain ⟨k, hk, rfl, hd, hsame⟩ := hrel
      obtain ⟨wA, rfl⟩ : ∃ wo : World, wo = wr := ⟨_, rfl⟩
      have HS := Lib.hid hsame
      clear hsame
      by_cases hlt : k < n
      · obtain ⟨x, hx⟩ : ∃ x, xs[k]? = some x := ⟨_, List.getElem?_eq_getElem (by have := HN.out; omega)⟩
        obtain ⟨y, hy⟩ : ∃ y, ys[k]? = some y := ⟨_, List.getElem?_eq_getElem (by have := HN2.out; omega)⟩
        obtain ⟨B, off, rfl, hB, d⟩ := HV.out.at k hlt
        obtain ⟨B2, off2, rfl, hB2, d2⟩ := HU.out.at k hlt
        rw [strs_get hx] at d
        rw [strs_get hy] at d2
        have d := (hd.cell ⟨B, off + k, none⟩).trans d
        have d2 := (hd.cell ⟨B2, off2 + k, none⟩).trans d2
        have HX := Lib.hid hx
        have HY := Lib.hid hy
        clear hx hy
        have b0 : (0 : Int) ≤ (k : Int) := by omega
        have b1 : (k : Int) < (n : Int) := by omega
        by_cases hxy : x = y
        · subst hxy
          go_wp2
          go_upto_region 6 with fail
          go_cut [25] (fun v w' => v = .bool false ∧ Drw wA w')
          case first =>
            go_quiet (fail)
            all_goals go_wp2_with fail
            all_goals go_meet
            all_goals exact ⟨by simp, Drw.drewN _ _⟩
          case rest =>
            obtain ⟨rfl, m10⟩ := hcut
            have hd2 := hd.trans m10
            go_wp2
            go_roundw
            case rel => exact ⟨k + 1, by omega, by go_num, hd2, fun j hj => by
              rcases Nat.lt_or_eq_of_le (Nat.le_of_lt_succ hj) with h | rfl
              · exact HS.out j h
              · rw [HX.out, HY.out]⟩
            case measure => simp [intOf]; omega
        · have hq1 : ¬ x.toList = y.toList := fun e => hxy (list_inj e)
          have hq2 : ¬ y.toList = x.toList := fun e => hxy (list_inj e).symm
          have hres : decide (xs = ys) = false := by
            simp only [decide_eq_false_iff_not]
            rintro rfl
            have := HX.out.symm.trans HY.out
            simp at this
            exact hxy this
          have HF := Lib.hid hres
          clear hxy hres
          go_wp2
          go_upto_region 6 with fail
          go_cut [25] (fun v w' => v = .bool true ∧ Drw wA w')
          case first =>
            go_quiet (fail)
            all_goals go_wp2_with fail
            all_goals go_meet
            all_goals exact ⟨by simp [hq1, hq2], Drw.drewN _ _⟩
          case rest =>
            obtain ⟨rfl, m10⟩ := hcut
            have hd2 := hd.trans m10
            go_wp2
            go_ret
            exact ⟨ret_bool (HF.out.symm.trans HR.out), hd2⟩
      · have hres : decide (xs = ys) = true := by
          simp only [decide_eq_true_eq]
          apply List.ext_getElem?
          intro j
          rcases Nat.lt_or_ge j k with h | h
          · exact HS.out j h
          · rw [List.getElem?_eq_none (by have := HN.out; omega), List.getElem?_eq_none (by have := HN2.out; omega)]
        have HF := Lib.hid hres
        clear hres
        go_wp2
        go_ret
        exact ⟨ret_bool (HF.out.symm.trans HR.out), hd⟩
  · have hres : decide (xs = ys) = false := by
      simp only [decide_eq_false_iff_not]
      rintro rfl
      exact hne (HN.out.symm.trans HN2.out)
    have HF := Lib.hid hres
    have hq : (((n : Int)) == (n2 : Int)) = false := by simp; omega
    have hq2 : ¬ ((n : Int) = (n2 : Int)) := by omega
    clear hres
    go_enter Try.func20, Try.ntmps20
    go_wp2
    go_ret
    exact ⟨ret_bool (HF.out.symm.trans HR.out), Drw.refl _⟩

end Go.Proofs.Ytonnooenebfbeaa
