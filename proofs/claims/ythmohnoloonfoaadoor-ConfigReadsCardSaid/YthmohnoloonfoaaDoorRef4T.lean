/- Contract of the reference of layer 4: Text. -/
import Derived.Test.YthmohnoloonfoaaDoorRef4D
import Derived.Test.YthmohnoloonfoaaDoorCfgRound
namespace Go.Proofs.YthmohnoloonfoaaDoor
open Go.RowKit

def headL (A0 A1 A2 A3 A4 A5 A6 : List UInt8) : List UInt8 := A0 ++ [120] ++ A1 ++ [32] ++ A2 ++ [32] ++ A3 ++ [32] ++ A4 ++ [32] ++ A5 ++ [32] ++ A6
theorem head_cat (A0 A1 A2 A3 A4 A5 A6 : List UInt8) : mkS A0 ++ (⟨#[120]⟩ : ByteArray) ++ mkS A1 ++ (⟨#[32]⟩ : ByteArray) ++ mkS A2 ++ (⟨#[32]⟩ : ByteArray) ++ mkS A3 ++ (⟨#[32]⟩ : ByteArray) ++ mkS A4 ++ (⟨#[32]⟩ : ByteArray) ++ mkS A5 ++ (⟨#[32]⟩ : ByteArray) ++ mkS A6 = mkS (headL A0 A1 A2 A3 A4 A5 A6) := by
  apply ByteArray.ext
  simp [mkS, headL]
theorem join_tail (A1 A2 A3 A4 A5 A6 : List UInt8) (r : List (List UInt8)) : Lib.join ([A1, A2, A3, A4, A5, A6] ++ r) [32] = A1 ++ 32 :: (A2 ++ 32 :: (A3 ++ 32 :: (A4 ++ 32 :: (A5 ++ 32 :: (A6 ++ Lib.joinTail [32] r))))) := by
  simp [Lib.join_cons, Lib.joinTail]
theorem txt_is (W H La D R I B : Int) (we ca : Bool) : (⟨W, H, La, D, R, I, B, we, ca⟩ : Cfg).txt = headL (Lib.itoa W) (Lib.itoa H) (Lib.itoa La) (Lib.itoa D) (Lib.itoa R) (Lib.itoa I) (Lib.itoa B) ++ (if we then 32 :: westL else []) ++ (if ca then 32 :: castL else []) := by
  unfold Cfg.txt Cfg.wordsL Cfg.nums headL
  rw [List.append_assoc (List.map Lib.itoa _)]
  simp only [List.map_cons, List.map_nil]
  rw [join_tail]
  cases we <;> cases ca <;> simp [Lib.joinTail]

set_option maxRecDepth 100000 in
set_option maxHeartbeats 3200000 in
theorem ref_Text (c : Cfg) (hc : c.wf) (w : World) :
    Calls Tryd.prog 16 #[.agg c.cells] w fun e w' => e = .returned (.string (mkS c.txt)) ∧ Mod (fun _ => False) w w' := by
  have kb := Blk.made w c.cells 23
  have m0 : Mod (fun _ => False) w (w.alloc (.cells c.cells 23)) := (Mod.refl _ _).alloc _
  obtain ⟨W, H, La, D, R, I, B, we, ca⟩ := c
  have hfin := txt_is W H La D R I B we ca
  have h0 := ref_Digits W (hc W (by simp))
  have l0 := itoa_len W (hc W (by simp))
  have h1 := ref_Digits H (hc H (by simp))
  have l1 := itoa_len H (hc H (by simp))
  have h2 := ref_Digits La (hc La (by simp))
  have l2 := itoa_len La (hc La (by simp))
  have h3 := ref_Digits D (hc D (by simp))
  have l3 := itoa_len D (hc D (by simp))
  have h4 := ref_Digits R (hc R (by simp))
  have l4 := itoa_len R (hc R (by simp))
  have h5 := ref_Digits I (hc I (by simp))
  have l5 := itoa_len I (hc I (by simp))
  have h6 := ref_Digits B (hc B (by simp))
  have l6 := itoa_len B (hc B (by simp))
  generalize Lib.itoa W = A0 at hfin h0 l0
  generalize Lib.itoa H = A1 at hfin h1 l1
  generalize Lib.itoa La = A2 at hfin h2 l2
  generalize Lib.itoa D = A3 at hfin h3 l3
  generalize Lib.itoa R = A4 at hfin h4 l4
  generalize Lib.itoa I = A5 at hfin h5 l5
  generalize Lib.itoa B = A6 at hfin h6 l6
  have H0 := Lib.hid h0
  have H1 := Lib.hid h1
  have H2 := Lib.hid h2
  have H3 := Lib.hid h3
  have H4 := Lib.hid h4
  have H5 := Lib.hid h5
  have H6 := Lib.hid h6
  have HFIN := Lib.hid hfin
  clear hfin hc h0 h1 h2 h3 h4 h5 h6
  simp only [Cfg.cells] at kb m0 ⊢
  obtain ⟨c0, c1, c2, c3, c4, c5, c6, c7, c8⟩ := cells9 (c := ⟨W, H, La, D, R, I, B, we, ca⟩) kb
  dsimp only at c0 c1 c2 c3 c4 c5 c6 c7 c8
  have s0 : ¬ 9223372036854775807 < A0.length + 1 := by omega
  have s1 : ¬ 9223372036854775807 < A0.length + 1 + A1.length := by omega
  have s2 : ¬ 9223372036854775807 < A0.length + 1 + A1.length + 1 := by omega
  have s3 : ¬ 9223372036854775807 < A0.length + 1 + A1.length + 1 + A2.length := by omega
  have s4 : ¬ 9223372036854775807 < A0.length + 1 + A1.length + 1 + A2.length + 1 := by omega
  have s5 : ¬ 9223372036854775807 < A0.length + 1 + A1.length + 1 + A2.length + 1 + A3.length := by omega
  have s6 : ¬ 9223372036854775807 < A0.length + 1 + A1.length + 1 + A2.length + 1 + A3.length + 1 := by omega
  have s7 : ¬ 9223372036854775807 < A0.length + 1 + A1.length + 1 + A2.length + 1 + A3.length + 1 + A4.length := by omega
  have s8 : ¬ 9223372036854775807 < A0.length + 1 + A1.length + 1 + A2.length + 1 + A3.length + 1 + A4.length + 1 := by omega
  have s9 : ¬ 9223372036854775807 < A0.length + 1 + A1.length + 1 + A2.length + 1 + A3.length + 1 + A4.length + 1 + A5.length := by omega
  have s10 : ¬ 9223372036854775807 < A0.length + 1 + A1.length + 1 + A2.length + 1 + A3.length + 1 + A4.length + 1 + A5.length + 1 := by omega
  have s11 : ¬ 9223372036854775807 < A0.length + 1 + A1.length + 1 + A2.length + 1 + A3.length + 1 + A4.length + 1 + A5.length + 1 + A6.length := by omega
  go_enter Tryd.func16, Tryd.ntmps16
  go_wp2_with fail
  generalize w.alloc (.cells #[.int .i64 W, .int .i64 H, .int .i64 La, .int .i64 D, .int .i64 R, .int .i64 I, .int .i64 B, .bool we, .bool ca] 23) = w1 at kb m0 c0 c1 c2 c3 c4 c5 c6 c7 c8 ⊢
  go_cut [3] (fun s w' => s = .string (mkS (headL A0 A1 A2 A3 A4 A5 A6)) ∧ Mod (fun _ => False) w1 w')
  case first =>
    have kz := kb.drew
    have mz := (Mod.refl (fun _ => False) w1).drew
    go_region_held3 (fun w' => w'.cell? ⟨w.heap.size, 0, none⟩ = some (.int .i64 W) ∧ w'.cell? ⟨w.heap.size, 1, none⟩ = some (.int .i64 H) ∧ w'.cell? ⟨w.heap.size, 2, none⟩ = some (.int .i64 La) ∧ w'.cell? ⟨w.heap.size, 3, none⟩ = some (.int .i64 D) ∧ w'.cell? ⟨w.heap.size, 4, none⟩ = some (.int .i64 R) ∧ w'.cell? ⟨w.heap.size, 5, none⟩ = some (.int .i64 I) ∧ w'.cell? ⟨w.heap.size, 6, none⟩ = some (.int .i64 B) ∧ w'.cell? ⟨w.heap.size, 7, none⟩ = some (.bool we) ∧ w'.cell? ⟨w.heap.size, 8, none⟩ = some (.bool ca))
      (first | exact ⟨kz.cell 0, kz.cell 1, kz.cell 2, kz.cell 3, kz.cell 4, kz.cell 5, kz.cell 6, kz.cell 7, kz.cell 8⟩ | go_keep)
      (first
        | (go_at_call_of 24 (Value.int IntKind.i64 W); refine (H0.out _).mono ?_; rintro e w3 ⟨rfl, m3⟩; have kz := kz.later m3 (by simp); have mz := mz.trans m3 (by simp))
        | (go_at_call_of 24 (Value.int IntKind.i64 H); refine (H1.out _).mono ?_; rintro e w4 ⟨rfl, m4⟩; have kz := kz.later m4 (by simp); have mz := mz.trans m4 (by simp))
        | (go_at_call_of 24 (Value.int IntKind.i64 La); refine (H2.out _).mono ?_; rintro e w5 ⟨rfl, m5⟩; have kz := kz.later m5 (by simp); have mz := mz.trans m5 (by simp))
        | (go_at_call_of 24 (Value.int IntKind.i64 D); refine (H3.out _).mono ?_; rintro e w6 ⟨rfl, m6⟩; have kz := kz.later m6 (by simp); have mz := mz.trans m6 (by simp))
        | (go_at_call_of 24 (Value.int IntKind.i64 R); refine (H4.out _).mono ?_; rintro e w7 ⟨rfl, m7⟩; have kz := kz.later m7 (by simp); have mz := mz.trans m7 (by simp))
        | (go_at_call_of 24 (Value.int IntKind.i64 I); refine (H5.out _).mono ?_; rintro e w8 ⟨rfl, m8⟩; have kz := kz.later m8 (by simp); have mz := mz.trans m8 (by simp))
        | (go_at_call_of 24 (Value.int IntKind.i64 B); refine (H6.out _).mono ?_; rintro e w9 ⟨rfl, m9⟩; have kz := kz.later m9 (by simp); have mz := mz.trans m9 (by simp)))
    all_goals go_wp2
    all_goals go_meet
    all_goals exact ⟨congrArg Value.string (head_cat A0 A1 A2 A3 A4 A5 A6), mz⟩
  case rest =>
    obtain ⟨rfl, m2⟩ := hcut
    have k2 := kb.later m2 (by simp)
    have mm2 := m0.trans m2 (by simp)
    have hl : (headL A0 A1 A2 A3 A4 A5 A6).length ≤ 200 := by simp [headL]; omega
    have hz : (mkS (headL A0 A1 A2 A3 A4 A5 A6)).size ≤ 200 := hl
    generalize headL A0 A1 A2 A3 A4 A5 A6 = P at hl hz HFIN ⊢
    clear c0 c1 c2 c3 c4 c5 c6 c7 c8 kb m0 m2
    obtain ⟨c0, c1, c2, c3, c4, c5, c6, c7, c8⟩ := cells9 (c := ⟨W, H, La, D, R, I, B, we, ca⟩) k2
    dsimp only at c7 c8
    cases we <;> cases ca
    all_goals
      go_wp2
      go_ret
      exact ⟨by rw [HFIN.out]; apply congrArg (fun s => Ending.returned (Value.string s)); apply ByteArray.ext; simp [mkS, westL, castL], mm2⟩
end Go.Proofs.YthmohnoloonfoaaDoor
