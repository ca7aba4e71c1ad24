/- config.numbers: numbers read into the places of a config. -/
import Derived.Test.YthmohnoloonfoaaDoorCfgText
namespace Go.Proofs.YthmohnoloonfoaaDoor
open Go.RowKit

/-- A word's number: digits, at most nine. -/
def numOk (x : List UInt8) : Option Int := match Lib.atoiAll x with
  | .ok v => if (Lib.trimPrefix x [45]).length ≤ 9 then some v else none
  | _ => none
def numAt (ws : List ByteArray) (j : Nat) : Option Int := numOk (ws.getD j ByteArray.empty).data.toList
def cfgCells (xs : List Int) : Array Value := (xs.map (Value.int .i64) ++ [Value.bool false, Value.bool false]).toArray
def ptrs (X : Nat) : Array Value := ((List.range 7).map fun i => Value.pointer (some ⟨X, i, none⟩)).toArray

theorem cfgCells_at {xs : List Int} (h : xs.length = 7) {k : Nat} (hk : k < 7) : ∃ y, (cfgCells xs)[k]? = some (.int .i64 y) := by
  refine ⟨xs[k]'(by omega), ?_⟩
  simp [cfgCells, List.getElem?_append_left, h, hk]
theorem cfgCells_set {xs : List Int} (h : xs.length = 7) {k : Nat} (hk : k < 7) (v : Int) : (cfgCells xs).setIfInBounds k (.int .i64 v) = cfgCells (xs.set k v) := by
  simp only [cfgCells, List.setIfInBounds_toArray]
  congr 1
  rw [List.set_append_left _ _ (by simp [h, hk])]
  simp
theorem ptrs_at (X : Nat) {k : Nat} (hk : k < 7) : (ptrs X)[k]? = some (.pointer (some ⟨X, k, none⟩)) := by
  simp [ptrs, hk]

set_option maxRecDepth 100000 in
set_option maxHeartbeats 1600000 in
theorem run_numbers (v : Value) (ws : List ByteArray) (X Pb : Nat) (x0 : List Int) (w : World) (L : LibV w) (hs : SlV w v (ws.map Value.string)) (hw : ∀ x ∈ ws, x.size ≤ 1000000) (kX : Blk w X (cfgCells x0) 23) (hx0 : x0.length = 7) (kP : Blk w Pb (ptrs X) 49) (hXg : 8 ≤ X) (hXP : X ≠ Pb) (hsep : ∀ a n c, v = .slice (some a) n c → a.block ≠ X) :
    Calls Tryd.prog 27 #[v, .slice (some ⟨Pb, 0, none⟩) 7 7] w fun e w' => Mod (fun g => g = X) w w' ∧
      ((7 ≤ ws.length ∧ (∀ j, j < 7 → ∃ y, numAt ws j = some y) ∧ e = .returned (.bool true) ∧ ∃ xs : List Int, xs.length = 7 ∧ (∀ j, j < 7 → numAt ws j = xs[j]?) ∧ Blk w' X (cfgCells xs) 23) ∨
       (¬ (7 ≤ ws.length ∧ ∀ j, j < 7 → ∃ y, numAt ws j = some y) ∧ e = .returned (.bool false))) := by
  obtain ⟨a, n, c, rfl, hn, hc, hm, -⟩ := id hs
  rw [List.length_map] at hn
  have HS := Lib.hid hs
  have HN := Lib.hid hn
  have HW := Lib.hid hw
  have HL := Lib.hid L
  have HSEP := Lib.hid hsep
  have HX0 := Lib.hid hx0
  unfold maxLen at hm
  clear hs hn hw L hsep hx0
  go_enter Tryd.func27, Tryd.ntmps27
  by_cases h7 : n < 7
  · have hno : ¬ (7 ≤ ws.length ∧ ∀ j, j < 7 → ∃ y, numAt ws j = some y) := fun h => by have := HN.out; omega
    have HNO := Lib.hid hno
    clear hno
    go_wp2
    go_ret
    exact ⟨Mod.refl _ _, Or.inr ⟨HNO.out, rfl⟩⟩
  · have h7' : 7 ≤ n := by omega
    go_wp2
    go_loopw [5, 6, 7, 8, 16] (fun _ _ _ _ i wr => ∃ (k : Nat) (xs : List Int), k ≤ 7 ∧ i = .int .i64 k ∧ xs.length = 7 ∧ (∀ j, j < k → numAt ws j = xs[j]?) ∧ Blk wr X (cfgCells xs) 23 ∧ Mod (fun g => g = X) w wr) (fun _ _ _ _ i _ => 7 - (intOf i).toNat)
    case atStart => exact ⟨0, x0, by omega, by simp, HX0.out, fun j hj => absurd hj (by omega), kX, Mod.refl _ _⟩
    case round =>
      obtain ⟨k, xs, hk, rfl, hxl, hxs, kA, hmod⟩ := hrel
      obtain ⟨wA, rfl⟩ : ∃ wo : World, wo = wr := ⟨_, rfl⟩
      have HXL := Lib.hid hxl
      have HXS := Lib.hid hxs
      have LA := Lib.hid (HL.out.later hmod (fun g hg e => by omega))
      have kPA := kP.later hmod (Ne.symm hXP)
      clear hxl hxs
      by_cases hlt : k < 7
      · obtain ⟨x, hx⟩ : ∃ x, ws[k]? = some x := ⟨_, List.getElem?_eq_getElem (by have := HN.out; omega)⟩
        obtain ⟨B, off, rfl, hB, dx⟩ := HS.out.at k (by omega)
        have hBX : ¬ B = X := HSEP.out ⟨B, off, none⟩ n c rfl
        have dx : w.cell? ⟨B, off + k, none⟩ = some (.string x) := by
          rw [dx]
          simp [List.getD_eq_getElem?_getD, hx]
        have dx := (hmod.cell (p := ⟨B, off + k, none⟩) hB hBX).trans dx
        have hBA : B < wA.heap.size := Nat.lt_of_lt_of_le hB hmod.size
        have hxw := HW.out x (List.mem_of_getElem? hx)
        have hat : numAt ws k = numOk x.data.toList := by unfold numAt; rw [List.getD_eq_getElem?_getD, hx]; rfl
        have HAT := Lib.hid hat
        have dp : wA.cell? ⟨Pb, k, none⟩ = some (.pointer (some ⟨X, k, none⟩)) := by rw [kPA.cell, ptrs_at X hlt]
        have b0 : (0 : Int) ≤ (k : Int) := by omega
        have b1 : (k : Int) < (n : Int) := by omega
        have b2 : (k : Int) < 7 := by omega
        clear hx hat
        go_wp2_with fail
        refine (run_Atoi x _ LA.out (by omega)).mono ?_
        rintro e w2 ⟨m2, (⟨y, ha, hwf, rfl⟩ | ⟨ha, y, tt, pp, rfl⟩)⟩
        · have mm2 := hmod.trans m2 (fun i hi e => e.elim)
          have k2 := kA.later m2 (by simp)
          have dx2 := (m2.cell (p := ⟨B, off + k, none⟩) hBA (by simp)).trans dx
          have HA := Lib.hid ha
          clear ha hwf m2 kA hmod dx LA
          go_wp2_with fail
          refine (run_TrimPrefix x ⟨#[45]⟩ _).mono ?_
          rintro e w3 ⟨rfl, rfl⟩
          obtain ⟨tp, htp⟩ : ∃ tp, mkS (Lib.trimPrefix x.data.toList (ByteArray.data ⟨#[45]⟩).toList) = tp := ⟨_, rfl⟩
          have htl : tp.size = (Lib.trimPrefix x.data.toList [45]).length := by rw [← htp]; rfl
          rw [htp]
          have HTL := Lib.hid htl
          clear htp htl
          by_cases h9 : tp.size ≤ 9
          · have hok : numAt ws k = some y := by
              rw [HAT.out]
              unfold numOk
              rw [HA.out]
              dsimp only
              rw [if_pos (by rw [← HTL.out]; exact h9)]
            have HOK := Lib.hid hok
            obtain ⟨y0, hy0⟩ := cfgCells_at HXL.out hlt
            have dX : w2.cell? ⟨X, k, none⟩ = some (.int .i64 y0) := by rw [k2.cell, hy0]
            have zX := k2.fz k
            have lX := k2.lt
            clear hok hy0
            go_wp2
            have k4 := k2.set k (.int .i64 y)
            rw [cfgCells_set HXL.out hlt] at k4
            have m4 := mm2.setCell (p := ⟨X, k, none⟩) (Or.inl rfl) (.int .i64 y)
            go_roundw
            case rel => exact ⟨k + 1, xs.set k y, by omega, by go_num, by rw [List.length_set]; exact HXL.out, fun j hj => by
              rcases Nat.lt_or_eq_of_le (Nat.le_of_lt_succ hj) with h | rfl
              · rw [HXS.out j h, List.getElem?_set, if_neg (by omega)]
              · rw [HOK.out, List.getElem?_set, if_pos rfl, if_pos (by have := HXL.out; omega)], k4, m4⟩
            case measure => simp [intOf]; omega
          · have hno : ¬ (7 ≤ ws.length ∧ ∀ j, j < 7 → ∃ y, numAt ws j = some y) := by
              rintro ⟨-, h⟩
              obtain ⟨y2, h2⟩ := h k hlt
              rw [HAT.out] at h2
              unfold numOk at h2
              rw [HA.out] at h2
              dsimp only at h2
              rw [if_neg (by rw [← HTL.out]; exact h9)] at h2
              cases h2
            have HNO := Lib.hid hno
            clear hno
            go_wp2
            go_ret
            exact ⟨mm2, Or.inr ⟨HNO.out, rfl⟩⟩
        · have mm2 := hmod.trans m2 (fun i hi e => e.elim)
          have hno : ¬ (7 ≤ ws.length ∧ ∀ j, j < 7 → ∃ y, numAt ws j = some y) := by
            rintro ⟨-, h⟩
            obtain ⟨y2, h2⟩ := h k hlt
            rw [HAT.out] at h2
            unfold numOk at h2
            split at h2
            · rename_i v hv
              exact ha v hv
            · cases h2
          have HNO := Lib.hid hno
          clear hno ha
          go_wp2
          go_ret
          exact ⟨mm2, Or.inr ⟨HNO.out, rfl⟩⟩
      · obtain rfl : k = 7 := by omega
        go_wp2
        go_ret
        exact ⟨hmod, Or.inl ⟨by have := HN.out; omega, fun j hj => ⟨_, (HXS.out j hj).trans (List.getElem?_eq_getElem (by have := HXL.out; omega))⟩, rfl, xs, HXL.out, HXS.out, kA⟩⟩

end Go.Proofs.YthmohnoloonfoaaDoor
