/- A model in memory; what it answers without a change: may, Under, Empty. -/
import Derived.Test.YtonnooenebfbeaaQueue
import Derived.Test.YtonnooenebfbeaaGridB
import Derived.Laws.EntriesVeiled
namespace Go.Proofs.Ytonnooenebfbeaa
open Go.RowKit

def own4 (b bq bu bc : Nat) (f : Int → Int → Value) : Nat → Prop := fun g => g = b ∨ g = bq ∨ g = bu ∨ g = bc ∨ ∃ i j, qblk (f i j) = some g

structure MdlIn (w : World) (b bq bu bc : Nat) (f : Int → Int → Value) (c : Cfg) (k : Nat) (Q : Int → Int → List ByteArray) (U : List Int) (C : List Bool) : Prop where
  blk : Blk w b #[.int .i64 c.W, .int .i64 c.H, .int .i64 c.Lanes, .int .i64 c.Depth, .int .i64 c.Ring, .int .i64 c.Inbox, .int .i64 c.Bound, .bool c.West, .bool c.Cast, .map (some bq), .slice (some ⟨bu, 0, none⟩) U.length U.length, .slice (some ⟨bc, 0, none⟩) C.length C.length] 66
  map : MapV w bq k f
  ub : Blk w bu (U.map (Value.int .i64)).toArray 3
  cb : Blk w bc (C.map Value.bool).toArray 4
  ul : (U.length : Int) = c.nodes
  cl : (C.length : Int) = c.nodes
  qs : ∀ i j, QS w (f i j) (Q i j)
  dis : ∀ i j i' j' g, qblk (f i j) = some g → qblk (f i' j') = some g → i = i' ∧ j = j'
  sep : ∀ i j g, qblk (f i j) = some g → g ≠ b ∧ g ≠ bq ∧ g ≠ bu ∧ g ≠ bc
  ne : b ≠ bq ∧ b ≠ bu ∧ b ≠ bc ∧ bq ≠ bu ∧ bq ≠ bc ∧ bu ≠ bc
  qk : ∀ i j, (Q i j).length ≤ k
  uk : ∀ u ∈ U, -(k : Int) ≤ u ∧ u ≤ (k : Int)

theorem MdlIn.later {w w' : World} {b bq bu bc : Nat} {f : Int → Int → Value} {c : Cfg} {k : Nat} {Q : Int → Int → List ByteArray} {U : List Int} {C : List Bool} (h : MdlIn w b bq bu bc f c k Q U C) {S : Nat → Prop} (m : Mod S w w') (hS : ∀ g, own4 b bq bu bc f g → ¬ S g) : MdlIn w' b bq bu bc f c k Q U C :=
  ⟨h.blk.later m (hS _ (Or.inl rfl)), h.map.later m (hS _ (Or.inr (Or.inl rfl))), h.ub.later m (hS _ (Or.inr (Or.inr (Or.inl rfl)))), h.cb.later m (hS _ (Or.inr (Or.inr (Or.inr (Or.inl rfl))))), h.ul, h.cl,
    fun i j => (h.qs i j).later m (fun g hg => hS _ (Or.inr (Or.inr (Or.inr (Or.inr ⟨i, j, hg⟩))))), h.dis, h.sep, h.ne, h.qk, h.uk⟩

theorem mdl_cells {w : World} {b bq bu bc : Nat} {f : Int → Int → Value} {c : Cfg} {k : Nat} {Q : Int → Int → List ByteArray} {U : List Int} {C : List Bool} (h : MdlIn w b bq bu bc f c k Q U C) :
    w.cell? ⟨b, 0, none⟩ = some (.int .i64 c.W) ∧ w.cell? ⟨b, 1, none⟩ = some (.int .i64 c.H) ∧ w.cell? ⟨b, 2, none⟩ = some (.int .i64 c.Lanes) ∧ w.cell? ⟨b, 3, none⟩ = some (.int .i64 c.Depth) ∧ w.cell? ⟨b, 4, none⟩ = some (.int .i64 c.Ring) ∧ w.cell? ⟨b, 5, none⟩ = some (.int .i64 c.Inbox) ∧ w.cell? ⟨b, 6, none⟩ = some (.int .i64 c.Bound) ∧ w.cell? ⟨b, 7, none⟩ = some (.bool c.West) ∧ w.cell? ⟨b, 8, none⟩ = some (.bool c.Cast) ∧
    w.cell? ⟨b, 9, none⟩ = some (.map (some bq)) ∧ w.cell? ⟨b, 10, none⟩ = some (.slice (some ⟨bu, 0, none⟩) U.length U.length) ∧ w.cell? ⟨b, 11, none⟩ = some (.slice (some ⟨bc, 0, none⟩) C.length C.length) := by
  have hb := h.blk
  refine ⟨?_, ?_, ?_, ?_, ?_, ?_, ?_, ?_, ?_, ?_, ?_, ?_⟩ <;> (rw [hb.cell]; rfl)

theorem is_lt {c : Cfg} {n : Int} {L : Nat} (h : c.is n = true) (hl : (L : Int) = c.nodes) : ∃ m : Nat, n = (m : Int) ∧ m < L := by
  rw [Cfg.is_iff] at h
  exact ⟨n.toNat, by omega, by omega⟩

/-- Why a node may not be asked to send. -/
def mayE (c : Cfg) (C : List Bool) (n : Int) : Int := if c.is n = true then (if C.getD n.toNat false then 9 else 0) else 5

set_option maxHeartbeats 800000 in
theorem run_may {b bq bu bc : Nat} {f : Int → Int → Value} {c : Cfg} {k : Nat} {Q : Int → Int → List ByteArray} {U : List Int} {C : List Bool} (n : Int) (w : World) (h : MdlIn w b bq bu bc f c k Q U C) :
    Calls Try.prog 34 #[.pointer (some ⟨b, 0, none⟩), .int .i64 n] w fun e w' => e = .returned (.int .i64 (mayE c C n)) ∧ Mod (fun _ => False) w w' := by
  obtain ⟨c0, c1, c2, c3, c4, c5, c6, c7, c8, c9, c10, c11⟩ := mdl_cells h
  have HM := Lib.hid h
  clear h
  go_enter Try.func34, Try.ntmps34
  go_wp2_with fail
  refine (run_Is c n _).mono ?_
  rintro e w1 ⟨rfl, m1⟩
  have HM1 := Lib.hid (HM.out.later m1 (by simp))
  clear c0 c1 c2 c3 c4 c5 c6 c7 c8 c9 c10 c11
  cases hn : c.is n with
  | false =>
    have hv : mayE c C n = 5 := by unfold mayE; rw [if_neg (by rw [hn]; simp)]
    have HV := Lib.hid hv
    clear hn hv
    go_wp2
    go_ret
    exact ⟨by rw [HV.out]; rfl, m1⟩
  | true =>
    obtain ⟨m, rfl, hm⟩ := is_lt hn HM.out.cl
    obtain ⟨c0, c1, c2, c3, c4, c5, c6, c7, c8, c9, c10, c11⟩ := mdl_cells HM1.out
    have hc : w1.cell? ⟨bc, m, none⟩ = some (.bool (C.getD m false)) := by
      rw [HM1.out.cb.cell]
      simp [List.getD_eq_getElem?_getD, List.getElem?_eq_getElem hm]
    have hv : mayE c C (m : Int) = if C.getD m false then 9 else 0 := by unfold mayE; rw [if_pos hn]; simp
    have r0 : (0 : Int) ≤ (m : Int) := by omega
    have r1 : (m : Int) < (C.length : Int) := by omega
    cases hx : C.getD m false with
    | false =>
      rw [hx] at hc hv
      have HV := Lib.hid hv
      clear hn hv hx
      go_wp2
      go_ret
      exact ⟨by rw [HV.out]; rfl, m1⟩
    | true =>
      rw [hx] at hc hv
      have HV := Lib.hid hv
      clear hn hv hx
      go_wp2
      go_ret
      exact ⟨by rw [HV.out]; rfl, m1⟩

def underV (c : Cfg) (U : List Int) (n : Int) : Int := if c.is n = true then U.getD n.toNat 0 else 0

set_option maxHeartbeats 800000 in
theorem run_Under {b bq bu bc : Nat} {f : Int → Int → Value} {c : Cfg} {k : Nat} {Q : Int → Int → List ByteArray} {U : List Int} {C : List Bool} (n : Int) (w : World) (h : MdlIn w b bq bu bc f c k Q U C) :
    Calls Try.prog 13 #[.pointer (some ⟨b, 0, none⟩), .int .i64 n] w fun e w' => e = .returned (.int .i64 (underV c U n)) ∧ Mod (fun _ => False) w w' := by
  obtain ⟨c0, c1, c2, c3, c4, c5, c6, c7, c8, c9, c10, c11⟩ := mdl_cells h
  have HM := Lib.hid h
  clear h
  go_enter Try.func13, Try.ntmps13
  go_wp2_with fail
  refine (run_Is c n _).mono ?_
  rintro e w1 ⟨rfl, m1⟩
  have HM1 := Lib.hid (HM.out.later m1 (by simp))
  clear c0 c1 c2 c3 c4 c5 c6 c7 c8 c9 c10 c11
  cases hn : c.is n with
  | false =>
    have hv : underV c U n = 0 := by unfold underV; rw [if_neg (by rw [hn]; simp)]
    have HV := Lib.hid hv
    clear hn hv
    go_wp2
    go_ret
    exact ⟨by rw [HV.out]; rfl, m1⟩
  | true =>
    obtain ⟨m, rfl, hm⟩ := is_lt hn HM.out.ul
    obtain ⟨c0, c1, c2, c3, c4, c5, c6, c7, c8, c9, c10, c11⟩ := mdl_cells HM1.out
    have hc : w1.cell? ⟨bu, m, none⟩ = some (.int .i64 (U.getD m 0)) := by
      rw [HM1.out.ub.cell]
      simp [List.getD_eq_getElem?_getD, List.getElem?_eq_getElem hm]
    have hv : underV c U (m : Int) = U.getD m 0 := by unfold underV; rw [if_pos hn]; simp
    have r0 : (0 : Int) ≤ (m : Int) := by omega
    have r1 : (m : Int) < (U.length : Int) := by omega
    generalize U.getD m 0 = u at hc hv
    have HV := Lib.hid hv
    clear hn hv
    go_wp2
    go_ret
    exact ⟨by rw [HV.out]; rfl, m1⟩

theorem tells_empty1 (w : World) : Tells w 37 #[] (fun n => decide (0 < n)) where
  enters := enters_of Try.func37 (by kernel_rfl) rfl
  call := by
    intro W x hm
    go_enter Try.func37, Try.ntmps37
    go_wp2
    go_ret
    exact ⟨rfl, Mod.refl _ _⟩

theorem MdlIn.uslv {w : World} {b bq bu bc : Nat} {f : Int → Int → Value} {c : Cfg} {k : Nat} {Q : Int → Int → List ByteArray} {U : List Int} {C : List Bool} (h : MdlIn w b bq bu bc f c k Q U C) : SlV w (.slice (some ⟨bu, 0, none⟩) U.length U.length) (U.map (Value.int .i64)) := by
  have hb := c.nodes_bd
  have hu := h.ul
  refine ⟨_, _, _, rfl, by simp, Nat.le_refl _, by unfold maxLen; omega, Or.inr ⟨bu, 0, rfl, h.ub.lt, fun j hj => ?_⟩⟩
  simp only [List.length_map] at hj
  rw [h.ub.cell]
  simp [List.getD_eq_getElem?_getD, hj]

set_option maxHeartbeats 800000 in
theorem run_Empty {b bq bu bc : Nat} {f : Int → Int → Value} {c : Cfg} {k : Nat} {Q : Int → Int → List ByteArray} {U : List Int} {C : List Bool} (w : World) (h : MdlIn w b bq bu bc f c k Q U C) :
    Calls Try.prog 14 #[.pointer (some ⟨b, 0, none⟩)] w fun e w' => e = .returned (.bool (!U.any fun n => decide (0 < n))) ∧ Mod (fun _ => False) w w' := by
  obtain ⟨c0, c1, c2, c3, c4, c5, c6, c7, c8, c9, c10, c11⟩ := mdl_cells h
  have hu := h.uslv
  have HU := Lib.hid hu
  clear h hu
  go_enter Try.func14, Try.ntmps14
  go_wp2_with fail
  refine (run_ContainsFunc w _ _ _ _ U _ (tells_empty1 w) (Mod.refl _ _) HU.out).mono ?_
  rintro e w1 ⟨rfl, m1⟩
  obtain ⟨x, hx⟩ : ∃ x, (U.any fun n => decide (0 < n)) = x := ⟨_, rfl⟩
  rw [hx]
  have HX := Lib.hid hx
  clear hx
  go_wp2
  go_ret
  exact ⟨by rw [HX.out]; simp, m1⟩

end Go.Proofs.Ytonnooenebfbeaa
