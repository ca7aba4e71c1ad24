/- The walk of ConfigReads. -/
import Derived.Test.YthmohnoloonfoaaDoorLives04
import Derived.Test.YthmohnoloonfoaaDoorRef4R
namespace Go.Proofs.YthmohnoloonfoaaDoor
open Go.RowKit

set_option maxRecDepth 100000 in
set_option maxHeartbeats 1600000 in
theorem walk_ConfigReads {w : World} (s : ByteArray) (hs : s.size ≤ maxLen) (L : LibV w) (hw : 8 ≤ w.heap.size) :
    Calls Tryd.prog 4 #[.string s] w fun e w' => e = .returned (.bool true) ∧ Below w.heap.size w w' := by
  have HL := Lib.hid L
  clear L
  go_enter Tryd.func4, Tryd.ntmps4
  go_wp2_with fail
  refine (run_lives04 _ HL.out hw).mono ?_
  rintro e w1 ⟨rfl, m1⟩
  go_wp2_with fail
  obtain ⟨sx, hsx⟩ : ∃ sx, s.extract 0 (min (s.size : Int) 100).toNat = sx := ⟨_, rfl⟩
  have hsz : sx.size ≤ 100 := by rw [← hsx, ByteArray.size_extract]; omega
  rw [hsx]
  refine (run_Read sx (by omega) _ (HL.out.later0 m1) (by have := m1.size; omega)).mono ?_
  have hrr := ref_Read sx hsz
  rw [rr_rd] at hrr
  generalize rd sx = r at hrr ⊢
  obtain ⟨x, f⟩ := r
  have HR := Lib.hid hrr
  clear hrr hsx
  rintro e w2 ⟨rfl, m2⟩
  have k2 := Blk.made w2 x.cells 23
  have mm2 := (m1.trans m2 (by simp)).alloc (.cells x.cells 23)
  simp only [Cfg.cells] at k2 mm2 ⊢
  go_wp2_with fail
  refine (HR.out _ (HL.out.later0 mm2) (by have := mm2.size; omega)).mono ?_
  rintro e w3 ⟨rfl, m3⟩
  have k3 := (k2.later m3 (by simp)).alloc (.cells x.cells 23)
  have mm3 := (mm2.trans m3 (by simp)).alloc (.cells x.cells 23)
  have kd := Blk.made w3 x.cells 23
  simp only [Cfg.cells] at k3 mm3 kd ⊢
  obtain ⟨c0, c1, c2, c3, c4, c5, c6, c7, c8⟩ := cells9 (c := x) k3
  obtain ⟨d0, d1, d2, d3, d4, d5, d6, d7, d8⟩ := cells9 (c := x) kd
  clear k2 mm2 m3 m2 k3 kd
  go_wp2
  go_ret
  exact ⟨rfl, mm3.below⟩

end Go.Proofs.YthmohnoloonfoaaDoor
