/- slices.Compact over a row that the caller owns, with two like neighbours: the result is shorter. -/
import Derived.Test.YtonnooenebfbeaaSnakeW
import Derived.Test.YtonnooenebfbeaaSlices
import Derived.Lib.SliceRun
namespace Go.Proofs.Ytonnooenebfbeaa
open Go.RowKit

theorem Mod.setCells {S : Nat → Prop} {b : Nat} : ∀ (vs : List Value) (o : Nat) {a w : World}, Mod S a w → (S b ∨ a.heap.size ≤ b) → Mod S a (w.setCells b o vs)
  | [], _, _, _, h, _ => h
  | v :: r, o, _, _, h, hb => Mod.setCells r (o + 1) (h.setCell (p := ⟨b, o, none⟩) hb v) hb

theorem own_int {w : World} {base G n cap : Nat} {ys : List Int} (h : w.ownsRow base 3 1 (.slice (some ⟨G, 0, none⟩) n cap) n (ys.map (Value.int .i64))) {j : Nat} {x : Int} (hj : j < n) (hx : ys[j]? = some x) : w.cell? ⟨G, j, none⟩ = some (.int .i64 x) := by
  rw [h.cellAt j (by omega)]
  simp [hx]

set_option maxRecDepth 100000 in
set_option maxHeartbeats 1600000 in
theorem run_Compact_dup (G base n cap : Nat) (xs : List Int) (w : World) (hown : w.ownsRow base 3 1 (.slice (some ⟨G, 0, none⟩) n cap) n (xs.map (Value.int .i64))) (hn : n ≤ 1000000) (hcap : n ≤ cap) (hcm : cap ≤ 9223372036854775807) (hd : ¬ ∀ i (h : i + 1 < xs.length), xs[i] ≠ xs[i + 1]) :
    Calls Try.prog 53 #[.slice (some ⟨G, 0, none⟩) n cap] w fun e w' => ∃ m c : Nat, e = .returned (.slice (some ⟨G, 0, none⟩) m c) ∧ m < n ∧ Mod (· = G) w w' := by
  have hl : xs.length = n := by have := hown.1; simpa using this
  have h2 : ¬ n < 2 := by
    intro h
    exact hd (fun i hi => absurd hi (by omega))
  have HD := Lib.hid hd
  have HL := Lib.hid hl
  clear hd hl
  go_enter Try.func53, Try.ntmps53
  go_wp2
  go_loopw [3] (fun i wr => ∃ k : Nat, 1 ≤ k ∧ k ≤ n ∧ i = .int .i64 k ∧ Mod (· = G) w wr ∧ wr.ownsRow base 3 1 (.slice (some ⟨G, 0, none⟩) n cap) n (xs.map (Value.int .i64)) ∧ ∀ i (h : i + 1 < xs.length), i + 1 < k → xs[i] ≠ xs[i + 1]) (fun i _ => n - (intOf i).toNat)
  case atStart => exact ⟨1, by omega, by omega, rfl, Mod.refl _ _, hown, fun i _ h => absurd h (by omega)⟩
  case round =>
    obtain ⟨k, hk1, hk, rfl, hmod, hown1, hne⟩ := hrel
    obtain ⟨wA, rfl⟩ : ∃ wo : World, wo = wr := ⟨_, rfl⟩
    have HNE := Lib.hid hne
    clear hne
    by_cases hlt : k < n
    · obtain ⟨q, rfl⟩ : ∃ q, k = q + 1 := ⟨k - 1, by omega⟩
      have hql : q + 1 < xs.length := by have := HL.out; omega
      obtain ⟨y, hy⟩ : ∃ y, xs[q + 1]? = some y := ⟨_, List.getElem?_eq_getElem hql⟩
      obtain ⟨x, hx⟩ : ∃ x, xs[q]? = some x := ⟨_, List.getElem?_eq_getElem (by omega)⟩
      have c1 := own_int hown1 (j := q + 1) (by omega) hy
      have c0 := own_int hown1 (j := q) (by omega) hx
      have HY := Lib.hid hy
      have HX := Lib.hid hx
      have e1 : ((q + 1 : Nat) : Int) = (q : Int) + 1 := by simp
      rw [e1]
      have b1 : (0 : Int) ≤ (q : Int) + 1 := by omega
      have b2 : (q : Int) + 1 < (n : Int) := by omega
      have b3 : (0 : Int) ≤ (q : Int) := by omega
      have b4 : (q : Int) < (n : Int) := by omega
      have u1 : IntKind.i64.wrap ((q : Int) + 1 - 1) = (q : Int) := by rw [Int.add_sub_cancel]; exact IntWalk.i64_in _ (by omega)
      have u2 : IntKind.i64.wrap (q : Int) = (q : Int) := IntWalk.i64_in _ (by omega)
      have u3 : IntKind.i64.wrap ((q : Int) + 1) = (q : Int) + 1 := IntWalk.i64_in _ (by omega)
      clear hx hy e1
      by_cases hxy : y = x
      · have ht : (y == x) = true := by simp [hxy]
        have b5 : (q : Int) + 1 ≤ (cap : Int) := by omega
        have b6 : ¬ (cap = q + 1) := by omega
        clear hxy
        go_wp2
        go_quiet (fail)
        have hq := hmod.drewN nq
        have hoq := own_later hown1 ((Mod.refl (fun _ => False) wA).drewN nq)
        generalize wA.drewN nq = wB at hq hoq ⊢
        clear c1 c0 hown1 hmod
        go_wp2
        clear HD HNE HX HY ht
        go_loopw [3, 5] (fun i j wr => ∃ (kk k2 : Nat) (ys : List Int), i = .int .i64 kk ∧ j = .int .i64 k2 ∧ 1 ≤ k2 ∧ kk + 1 ≤ q + 1 + k2 ∧ q + 1 + k2 ≤ n ∧ Mod (· = G) w wr ∧ wr.ownsRow base 3 1 (.slice (some ⟨G, 0, none⟩) n cap) n (ys.map (Value.int .i64))) (fun _ j _ => n - (intOf j).toNat)
        case atStart => exact ⟨q + 1, 1, xs, by simp, by simp, by omega, by omega, by omega, hq, hoq⟩
        case round =>
          obtain ⟨kk, k2, ys, rfl, rfl, h1, hkk, hle, hmod, hown⟩ := hrel
          obtain ⟨wC, rfl⟩ : ∃ wo : World, wo = wr := ⟨_, rfl⟩
          have hyl : ys.length = n := by have := hown.1; simpa using this
          have HYL := Lib.hid hyl
          clear hyl hq hoq
          by_cases hlt2 : q + 1 + k2 < n
          · obtain ⟨p, rfl⟩ : ∃ p, k2 = p + 1 := ⟨k2 - 1, by omega⟩
            obtain ⟨u, hu⟩ : ∃ u, ys[q + 1 + (p + 1)]? = some u := ⟨_, List.getElem?_eq_getElem (by have := HYL.out; omega)⟩
            obtain ⟨v, hv⟩ : ∃ v, ys[q + 1 + p]? = some v := ⟨_, List.getElem?_eq_getElem (by have := HYL.out; omega)⟩
            obtain ⟨z, hz⟩ : ∃ z, ys[kk]? = some z := ⟨_, List.getElem?_eq_getElem (by have := HYL.out; omega)⟩
            have d1 := own_int hown (j := q + 1 + (p + 1)) (by omega) hu
            have d0 := own_int hown (j := q + 1 + p) (by omega) hv
            have dk := own_int hown (j := kk) (by omega) hz
            have fk := hown.frozenAt kk
            have e1 : ((p + 1 : Nat) : Int) = (p : Int) + 1 := by simp
            rw [e1]
            have r1 : (0 : Int) ≤ (p : Int) + 1 := by omega
            have r2 : (p : Int) + 1 < ((n - (q + 1) : Nat) : Int) := by omega
            have r3 : (0 : Int) ≤ (p : Int) := by omega
            have r4 : (p : Int) < ((n - (q + 1) : Nat) : Int) := by omega
            have r5 : (0 : Int) ≤ (kk : Int) := by omega
            have r6 : (kk : Int) < (n : Int) := by omega
            have v1 : IntKind.i64.wrap ((p : Int) + 1 - 1) = (p : Int) := by rw [Int.add_sub_cancel]; exact IntWalk.i64_in _ (by omega)
            have v2 : IntKind.i64.wrap (p : Int) = (p : Int) := IntWalk.i64_in _ (by omega)
            have v3 : IntKind.i64.wrap ((p : Int) + 1) = (p : Int) + 1 := IntWalk.i64_in _ (by omega)
            clear hu hv hz e1
            by_cases huv : u = v
            · have ht : (u != v) = false := by simp [huv]
              clear huv
              go_wp2
              go_quiet (fail)
              go_wp2
              go_roundw
              case rel => exact ⟨kk, p + 2, ys, rfl, by go_num, by omega, by omega, by omega, hmod.drewN _, own_later hown ((Mod.refl (fun _ => False) wC).drewN _)⟩
              case measure => simp [intOf]; omega
            · have ht : (u != v) = true := by simp [huv]
              clear huv
              go_wp2
              go_quiet (fail)
              have hst := (own_later hown ((Mod.refl (fun _ => False) wC).drewN nq)).stored kk (.int .i64 u)
              have hmd := (hmod.drewN nq).setCell (p := ⟨G, kk, none⟩) (Or.inl rfl) (.int .i64 u)
              have hs2 := hst.1
              rw [← List.map_set] at hs2
              go_wp2
              go_roundw
              case rel => exact ⟨kk + 1, p + 2, ys.set kk u, by go_num, by go_num, by omega, by omega, by omega, hmd, hs2⟩
              case measure => simp [intOf]; omega
          · have hkn : kk < n := by omega
            obtain ⟨i0, hi, hq0, hq1, hq2⟩ := info_parts info_i
            have hz0 : ∀ W : World, (zeroValue 3).run Try.prog W = .ok (.int .i64 0) W := fun _ => by kernel_rfl
            have hcl : ∀ ty, (Builtin.clear_ #[39] ty #[.slice (some ⟨G, kk, none⟩) (n - kk) (cap - kk)]).run Try.prog wC = .ok (.tuple #[]) (wC.setCells G kk (List.replicate (n - kk) (.int .i64 0))) := fun ty =>
              Lib.run_clear_slice wC _ _ ty _ Try.underlying39 hz0 rfl rfl G kk _ _ (by omega) (fun j hj => by rw [hown.cellAt (kk + j) (by omega)]; have := HYL.out; simp; omega) (fun j hj => hown.frozenAt (kk + j))
            have hmd := Mod.setCells (List.replicate (n - kk) (.int .i64 0)) kk hmod (b := G) (Or.inl rfl)
            have r5 : (0 : Int) ≤ (kk : Int) := by omega
            have r6 : (kk : Int) ≤ (n : Int) := by omega
            have r7 : (kk : Int) ≤ (cap : Int) := by omega
            have r8 : ¬ (cap = kk) := by omega
            clear hi hq0 hq1 hq2 hz0 hown
            go_wp2
            go_ret
            exact ⟨kk, cap, rfl, hkn, hmd⟩
      · have ht : (y == x) = false := by simp [hxy]
        have HXY := Lib.hid hxy
        clear hxy
        go_wp2
        go_quiet (fail)
        go_wp2
        go_roundw
        case rel => exact ⟨q + 2, by omega, by omega, by go_num, hmod.drewN _, own_later hown1 ((Mod.refl (fun _ => False) wA).drewN _), fun i hi hlt => by
          rcases Nat.lt_or_eq_of_le (show i + 1 ≤ q + 1 by omega) with h | h
          · exact HNE.out i hi h
          · obtain rfl : i = q := by omega
            intro e
            have h1 := HX.out
            have h2 := HY.out
            rw [List.getElem?_eq_getElem (by omega)] at h1 h2
            simp only [Option.some.injEq] at h1 h2
            exact HXY.out (by rw [← h1, ← h2, e])⟩
        case measure => simp [intOf]; omega
    · exfalso
      refine HD.out (fun i hi => HNE.out i hi (by have := HL.out; omega))

end Go.Proofs.Ytonnooenebfbeaa
