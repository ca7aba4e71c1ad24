/- The document's example of the config laws. -/
import Derived.Test.YthmohnoloonfoaaDoorCfgLive
namespace Go.Proofs.YthmohnoloonfoaaDoor
open Go.RowKit

def liveB : ByteArray := ⟨#[52, 120, 52, 32, 50, 32, 50, 32, 52, 32, 56, 32, 52, 32, 119, 101, 115, 116, 32, 99, 97, 115, 116]⟩
def liveC : Cfg := ⟨4, 4, 2, 2, 4, 8, 4, true, true⟩
theorem live_words : wordsB liveB = [⟨#[52]⟩, ⟨#[52]⟩, ⟨#[50]⟩, ⟨#[50]⟩, ⟨#[52]⟩, ⟨#[56]⟩, ⟨#[52]⟩, westB, castB] := by decide +kernel
theorem live_nums : ∀ j, j < 7 → numAt (wordsB liveB) j = ([4, 4, 2, 2, 4, 8, 4] : List Int)[j]? := by
  rw [live_words]
  intro j hj
  match j, hj with
  | 0, _ => decide +kernel
  | 1, _ => decide +kernel
  | 2, _ => decide +kernel
  | 3, _ => decide +kernel
  | 4, _ => decide +kernel
  | 5, _ => decide +kernel
  | 6, _ => decide +kernel
theorem live_txt : liveC.txt = liveB.data.toList := by decide +kernel
theorem live_chk : liveC.chk = 0 := by decide +kernel
theorem live_rd : rd liveB = (liveC, 0) := by
  have hn : NumsOk (wordsB liveB) := ⟨by rw [live_words]; decide, fun j hj => ⟨_, (live_nums j hj).trans (List.getElem?_eq_getElem (by simpa using hj))⟩⟩
  have hc : mkCfg (numsOf (wordsB liveB)) (wordsB liveB) = liveC := by
    rw [numsOf_is (ws := wordsB liveB) (xs := [4, 4, 2, 2, 4, 8, 4]) rfl live_nums, live_words]
    have h1 : Lib.containsS ([⟨#[52]⟩, ⟨#[52]⟩, ⟨#[50]⟩, ⟨#[50]⟩, ⟨#[52]⟩, ⟨#[56]⟩, ⟨#[52]⟩, westB, castB].drop 7) westB = true := by decide +kernel
    have h2 : Lib.containsS ([⟨#[52]⟩, ⟨#[52]⟩, ⟨#[50]⟩, ⟨#[50]⟩, ⟨#[52]⟩, ⟨#[56]⟩, ⟨#[52]⟩, westB, castB].drop 7) castB = true := by decide +kernel
    unfold mkCfg liveC
    rw [h1, h2]
    rfl
  rw [rd_yes hn, hc]
  unfold endC
  rw [if_pos live_txt, if_pos live_chk]
theorem live_cls : liveC.cls true = (1, 1) := by unfold Cfg.cls; rw [if_pos ⟨live_chk, fun _ => rfl⟩]; rfl
theorem live_nodes : liveC.nodes = 16 := by decide +kernel
theorem live_wf : liveC.wf := by
  have h : ∀ n ∈ ([4, 4, 2, 2, 4, 8, 4] : List Int), (Lit.int .i64 n).wf = true := by decide
  exact h

set_option maxRecDepth 100000 in
set_option maxHeartbeats 1600000 in
theorem run_lives04 (w : World) (L : LibV w) (hw : 8 ≤ w.heap.size) :
    Calls Tryd.prog 8 #[] w fun e w' => e = .returned (.bool true) ∧ Mod (fun _ => False) w w' := by
  have HL := Lib.hid L
  clear L
  go_enter Tryd.func8, Tryd.ntmps8
  go_wp2_with fail
  refine (run_Read liveB (by decide) _ HL.out hw).mono ?_
  rw [live_rd]
  rintro e w1 ⟨rfl, m1⟩
  have L1 := Lib.hid (HL.out.later0 m1)
  have k2 := Blk.made w1 liveC.cells 23
  have m2 := m1.alloc (.cells liveC.cells 23)
  have L2 := Lib.hid (HL.out.later0 m2)
  simp only [Cfg.cells, liveC] at k2 m2 L2 ⊢
  clear L1 m1
  go_wp2_with fail
  refine (run_Class liveC true _).mono ?_
  rw [live_cls]
  rintro e w3 ⟨rfl, m3⟩
  have k3 : Blk w3 w1.heap.size liveC.cells _ := k2.later m3 (by simp)
  have mm3 := m2.trans m3 (by simp)
  obtain ⟨c0, c1, c2, c3, c4, c5, c6, c7, c8⟩ := cells9 k3
  dsimp only [liveC] at c0 c1 c2 c3 c4 c5 c6 c7 c8
  clear k2 m2 L2 m3
  go_wp2_with fail
  refine (run_Check liveC _).mono ?_
  rw [live_chk]
  rintro e w4 ⟨rfl, m4⟩
  have k4 : Blk w4 w1.heap.size liveC.cells _ := k3.later m4 (by simp)
  have mm4 := mm3.trans m4 (by simp)
  clear c0 c1 c2 c3 c4 c5 c6 c7 c8 k3 mm3 m4
  obtain ⟨c0, c1, c2, c3, c4, c5, c6, c7, c8⟩ := cells9 k4
  dsimp only [liveC] at c0 c1 c2 c3 c4 c5 c6 c7 c8
  go_wp2_with fail
  refine (run_Nodes liveC _).mono ?_
  rw [live_nodes]
  rintro e w5 ⟨rfl, m5⟩
  have k5 : Blk w5 w1.heap.size liveC.cells _ := k4.later m5 (by simp)
  have mm5 := mm4.trans m5 (by simp)
  have L5 := Lib.hid (HL.out.later0 mm5)
  clear c0 c1 c2 c3 c4 c5 c6 c7 c8 k4 mm4 m5
  obtain ⟨c0, c1, c2, c3, c4, c5, c6, c7, c8⟩ := cells9 k5
  dsimp only [liveC] at c0 c1 c2 c3 c4 c5 c6 c7 c8
  go_wp2_with fail
  refine (run_Text liveC live_wf _ L5.out).mono ?_
  rw [live_txt]
  rintro e w6 ⟨rfl, m6⟩
  have mm6 := mm5.trans m6 (by simp)
  clear c0 c1 c2 c3 c4 c5 c6 c7 c8 k5 mm5 m6
  go_wp2
  go_ret
  exact ⟨rfl, mm6⟩

end Go.Proofs.YthmohnoloonfoaaDoor
