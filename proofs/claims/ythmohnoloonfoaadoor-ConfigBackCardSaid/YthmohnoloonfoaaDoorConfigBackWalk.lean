/- The walk of ConfigBack. -/
import Derived.Test.YthmohnoloonfoaaDoorLives04
import Derived.Test.YthmohnoloonfoaaDoorCfgRound
namespace Go.Proofs.YthmohnoloonfoaaDoor
open Go.RowKit

theorem small_itoa : ∀ k : Fin 65, (Lib.itoa (k.val : Int)).length ≤ 2 ∧ (Lib.decDigits k.val).length ≤ 9 := by decide +kernel
theorem small_itoa' {n : Int} (h1 : 1 ≤ n) (h2 : n ≤ 64) : (Lib.itoa n).length ≤ 2 ∧ shortN n := by
  have := small_itoa ⟨n.toNat, by omega⟩
  have e : ((n.toNat : Nat) : Int) = n := by omega
  have e2 : n.natAbs = n.toNat := by omega
  unfold shortN
  rw [e2]
  simpa only [e] using this
theorem chk_seven {c : Cfg} (h : c.chk = 0) : ∀ n ∈ [c.W, c.H, c.Lanes, c.Depth, c.Ring, c.Inbox, c.Bound], 1 ≤ n ∧ n ≤ 64 := by
  have hok := c.chk_iff.1 h
  intro n hn
  have := hok.W1
  have := hok.W2
  have := hok.H1
  have := hok.H2
  have := hok.L1
  have := hok.L2
  have := hok.D1
  have := hok.D2
  have := hok.R1
  have := hok.R2
  have := hok.I1
  have := hok.I2
  have := hok.B1
  have := hok.B2
  simp only [List.mem_cons, List.not_mem_nil, or_false] at hn
  rcases hn with rfl | rfl | rfl | rfl | rfl | rfl | rfl <;> omega
theorem chk_short {c : Cfg} (h : c.chk = 0) : c.shorts := fun n hn => (small_itoa' (chk_seven h n hn).1 (chk_seven h n hn).2).2
theorem txt_short {c : Cfg} (h : c.chk = 0) : c.txt.length ≤ 43 := by
  have hs := chk_seven h
  have h0 := (small_itoa' (hs c.W (by simp)).1 (hs c.W (by simp)).2).1
  have hl : ∀ x ∈ c.wordsL, x.length ≤ 4 := by
    intro x hx
    unfold Cfg.wordsL at hx
    rcases List.mem_append.1 hx with hx | hx
    · rcases List.mem_append.1 hx with hx | hx
      · obtain ⟨n, hn, rfl⟩ := List.mem_map.1 hx
        have := hs n (List.mem_cons_of_mem _ hn)
        have := (small_itoa' this.1 this.2).1
        omega
      · split at hx
        · obtain rfl : x = westL := by simpa using hx
          decide
        · simp at hx
    · split at hx
      · obtain rfl : x = castL := by simpa using hx
        decide
      · simp at hx
  have hj := join_len c.wordsL 4 hl
  have hw : c.wordsL.length ≤ 8 := by
    unfold Cfg.wordsL Cfg.nums
    simp only [List.length_append, List.length_map]
    split <;> split <;> simp
  unfold Cfg.txt
  simp only [List.length_append, List.length_cons, List.length_nil]
  omega
theorem txt_len {c : Cfg} (h : c.wf) : c.txt.length ≤ 1000 := by
  have hn : ∀ n ∈ c.nums, (Lit.int .i64 n).wf = true := fun n hn => h n (List.mem_cons_of_mem _ hn)
  have h0 := itoa_len c.W (h c.W (by simp))
  have hr : ((if c.West then [westL] else []) ++ (if c.Cast then [castL] else [])).length ≤ 2 ∧ ∀ x ∈ (if c.West then [westL] else []) ++ (if c.Cast then [castL] else []), x.length ≤ 4 := by
    cases c.West <;> cases c.Cast <;> decide
  have := words_len c.nums rfl hn _ hr
  unfold Cfg.txt Cfg.wordsL
  rw [List.append_assoc (c.nums.map Lib.itoa)]
  simp only [List.length_append, List.length_cons, List.length_nil] at this ⊢
  omega
/-- What a text gives, if it gives a config. -/
theorem rd_ok {s : ByteArray} (h : (rd s).2 = 0) : (rd s).1.txt = s.data.toList ∧ (rd s).1.chk = 0 ∧ (rd s).1.wf := by
  by_cases hn : NumsOk (wordsB s)
  · rw [rd_yes hn] at h ⊢
    unfold endC at h ⊢
    split at h
    · rename_i ht
      split at h
      · rename_i hk
        rw [if_pos ht, if_pos hk]
        refine ⟨ht, hk, ?_⟩
        have hs := chk_seven hk
        intro n hn
        have := hs n hn
        simp [Lit.wf, IntKind.min, IntKind.max, IntKind.signed, IntKind.bits]
        omega
      · exact absurd h (by assumption)
    · exact absurd h (by decide)
  · rw [rd_no hn] at h
    exact absurd h (by decide)

set_option maxRecDepth 100000 in
set_option maxHeartbeats 1600000 in
theorem walk_ConfigBack {w : World} (c : Cfg) (hc : c.wf) (s : ByteArray) (hs : s.size ≤ maxLen) (L : LibV w) (hw : 8 ≤ w.heap.size) :
    Calls Tryd.prog 5 #[.agg c.cells, .string s] w fun e w' => e = .returned (.bool true) ∧ Below w.heap.size w w' := by
  have kb := Blk.made w c.cells 23
  have m0 : Mod (fun _ => False) w (w.alloc (.cells c.cells 23)) := (Mod.refl _ _).alloc _
  have HL := Lib.hid L
  clear L
  simp only [Cfg.cells] at kb m0 ⊢
  go_enter Tryd.func5, Tryd.ntmps5
  go_wp2_with fail
  refine (run_lives04 _ (HL.out.later0 m0) (by simp; omega)).mono ?_
  rintro e w1 ⟨rfl, m1⟩
  have k1 := kb.later m1 (by simp)
  have mm1 := m0.trans m1 (by simp)
  clear kb m0 m1
  obtain ⟨c0, c1, c2, c3, c4, c5, c6, c7, c8⟩ := cells9 k1
  go_wp2_with fail
  refine (run_Text c hc _ (HL.out.later0 mm1)).mono ?_
  rintro e w2 ⟨rfl, m2⟩
  have k2 := k1.later m2 (by simp)
  have mm2 := mm1.trans m2 (by simp)
  clear k1 mm1 m2 c0 c1 c2 c3 c4 c5 c6 c7 c8
  go_wp2_with fail
  refine (run_Read (mkS c.txt) (by have := txt_len hc; show c.txt.length ≤ _; omega) _ (HL.out.later0 mm2) (by have := mm2.size; omega)).mono ?_
  have hrd := rd_txt c hc
  have h2 : c.chk = 0 ∧ rd (mkS c.txt) = (c, 0) ∨ c.chk ≠ 0 ∧ ∃ E, E ≠ 0 ∧ rd (mkS c.txt) = (zeroC, E) := by
    by_cases hk : c.chk = 0
    · left
      rw [if_pos (chk_short hk), if_pos hk] at hrd
      exact ⟨hk, hrd⟩
    · right
      refine ⟨hk, ?_⟩
      split at hrd
      · exact ⟨_, hk, hrd⟩
      · exact ⟨2, by decide, hrd⟩
  clear hrd
  rcases h2 with ⟨hk, hrd⟩ | ⟨hk, E, hE, hrd⟩
  · rw [hrd]
    rintro e w3 ⟨rfl, m3⟩
    have k3 := (k2.later m3 (by simp)).alloc (.cells c.cells 23)
    have mm3 := (mm2.trans m3 (by simp)).alloc (.cells c.cells 23)
    have kd := Blk.made w3 c.cells 23
    simp only [Cfg.cells] at k3 mm3 kd ⊢
    obtain ⟨c0, c1, c2, c3, c4, c5, c6, c7, c8⟩ := cells9 k3
    obtain ⟨d0, d1, d2, d3, d4, d5, d6, d7, d8⟩ := cells9 kd
    clear k2 mm2 m3 hrd
    have HK := Lib.hid hk
    clear hk
    go_wp2_with fail
    refine (run_Check c _).mono ?_
    rw [HK.out]
    rintro e w4 ⟨rfl, m4⟩
    have mm4 := mm3.trans m4 (by simp)
    have k4 := k3.later m4 (by simp)
    have kd4 := kd.later m4 (by simp)
    clear k3 mm3 kd c0 c1 c2 c3 c4 c5 c6 c7 c8 d0 d1 d2 d3 d4 d5 d6 d7 d8 HK
-- TAIL
    go_wp2_with fail
    obtain ⟨sx, hsx⟩ : ∃ sx, s.extract 0 (min (s.size : Int) 100).toNat = sx := ⟨_, rfl⟩
    have hsz : sx.size ≤ 100 := by rw [← hsx, ByteArray.size_extract]; omega
    rw [hsx]
    refine (run_Read sx (by omega) _ (HL.out.later0 mm4) (by have := mm4.size; omega)).mono ?_
    have hok := rd_ok (s := sx)
    generalize rd sx = r at hok ⊢
    obtain ⟨x, f⟩ := r
    by_cases hf : f = 0
    · subst hf
      obtain ⟨ht, hk, hx⟩ := hok rfl
      have hxs : mkS x.txt = s := by
        have h1 := txt_short hk
        dsimp only at ht
        have h2 : sx.data.toList.length = sx.size := rfl
        have h3 : sx = s := by
          rw [← hsx] at hsz h2 ht ⊢
          rw [ByteArray.size_extract] at h2
          rw [ht] at h1
          have h4 : s.size ≤ (min (s.size : Int) 100).toNat := by omega
          have : (min (s.size : Int) 100).toNat = s.size := by omega
          rw [this]
          exact ByteArray.extract_zero_size
        rw [ht, ← h3]
      have HX := Lib.hid hx
      have HK := Lib.hid hk
      have HXS := Lib.hid hxs
      clear hok ht hk hx hxs hsx hsz
      rintro e w5 ⟨rfl, m5⟩
      have k5 := (Blk.made w5 x.cells 23)
      have mm5 := (mm4.trans m5 (by simp)).alloc (.cells x.cells 23)
      simp only [Cfg.cells] at k5 mm5 ⊢
      obtain ⟨c0, c1, c2, c3, c4, c5, c6, c7, c8⟩ := cells9 k5
      clear mm4 m5 k4 kd4
      go_wp2_with fail
      refine (run_Text x HX.out _ (HL.out.later0 mm5)).mono ?_
      rw [HXS.out]
      rintro e w6 ⟨rfl, m6⟩
      have mm6 := mm5.trans m6 (by simp)
      have k6 := k5.later m6 (by simp)
      clear mm5 m6 k5 c0 c1 c2 c3 c4 c5 c6 c7 c8 HX HXS
      obtain ⟨c0, c1, c2, c3, c4, c5, c6, c7, c8⟩ := cells9 k6
      go_wp2_with fail
      refine (run_Check x _).mono ?_
      rw [HK.out]
      rintro e w7 ⟨rfl, m7⟩
      have mm7 := mm6.trans m7 (by simp)
      go_wp2
      go_ret
      exact ⟨rfl, mm7.below⟩
    · have hf2 : (f != 0) = true := by simp [hf]
      have hf3 : (f == 0) = false := by simp [hf]
      clear hok hsx hsz hf
      rintro e w5 ⟨rfl, m5⟩
      have k5 := (Blk.made w5 x.cells 23)
      have mm5 := (mm4.trans m5 (by simp)).alloc (.cells x.cells 23)
      simp only [Cfg.cells] at k5 mm5 ⊢
      obtain ⟨c0, c1, c2, c3, c4, c5, c6, c7, c8⟩ := cells9 k5
      clear mm4 m5 k4 kd4
      go_wp2
      go_ret
      exact ⟨rfl, mm5.below⟩
  · rw [hrd]
    rintro e w3 ⟨rfl, m3⟩
    have k3 := (k2.later m3 (by simp)).alloc (.cells zeroC.cells 23)
    have mm3 := (mm2.trans m3 (by simp)).alloc (.cells zeroC.cells 23)
    have kd := Blk.made w3 zeroC.cells 23
    simp only [Cfg.cells, zeroC] at k3 mm3 kd ⊢
    obtain ⟨c0, c1, c2, c3, c4, c5, c6, c7, c8⟩ := cells9 k3
    obtain ⟨d0, d1, d2, d3, d4, d5, d6, d7, d8⟩ := cells9 (c := zeroC) kd
    dsimp only [zeroC] at d0 d1 d2 d3 d4 d5 d6 d7 d8
    clear k2 mm2 m3 hrd
    have hE2 : (E != 0) = true := by simp [hE]
    have hE3 : (E == 0) = false := by simp [hE]
    have hk2 : (c.chk != 0) = true := by simp [hk]
    have hk3 : (c.chk == 0) = false := by simp [hk]
    clear hE hk
    go_wp2_with fail
    refine (run_Check c _).mono ?_
    generalize c.chk = ck at hk2 hk3 ⊢
    rintro e w4 ⟨rfl, m4⟩
    have mm4 := mm3.trans m4 (by simp)
    have k4 := k3.later m4 (by simp)
    have kd4 := kd.later m4 (by simp)
    clear k3 mm3 kd c0 c1 c2 c3 c4 c5 c6 c7 c8 d0 d1 d2 d3 d4 d5 d6 d7 d8
    obtain ⟨d0, d1, d2, d3, d4, d5, d6, d7, d8⟩ := cells9 (c := zeroC) kd4
    dsimp only [zeroC] at d0 d1 d2 d3 d4 d5 d6 d7 d8
    go_wp2_with fail
    obtain ⟨sx, hsx⟩ : ∃ sx, s.extract 0 (min (s.size : Int) 100).toNat = sx := ⟨_, rfl⟩
    have hsz : sx.size ≤ 100 := by rw [← hsx, ByteArray.size_extract]; omega
    rw [hsx]
    refine (run_Read sx (by omega) _ (HL.out.later0 mm4) (by have := mm4.size; omega)).mono ?_
    have hok := rd_ok (s := sx)
    generalize rd sx = r at hok ⊢
    obtain ⟨x, f⟩ := r
    by_cases hf : f = 0
    · subst hf
      obtain ⟨ht, hk, hx⟩ := hok rfl
      have hxs : mkS x.txt = s := by
        have h1 := txt_short hk
        dsimp only at ht
        have h2 : sx.data.toList.length = sx.size := rfl
        have h3 : sx = s := by
          rw [← hsx] at hsz h2 ht ⊢
          rw [ByteArray.size_extract] at h2
          rw [ht] at h1
          have h4 : s.size ≤ (min (s.size : Int) 100).toNat := by omega
          have : (min (s.size : Int) 100).toNat = s.size := by omega
          rw [this]
          exact ByteArray.extract_zero_size
        rw [ht, ← h3]
      have HX := Lib.hid hx
      have HK := Lib.hid hk
      have HXS := Lib.hid hxs
      clear hok ht hk hx hxs hsx hsz
      rintro e w5 ⟨rfl, m5⟩
      have k5 := (Blk.made w5 x.cells 23)
      have mm5 := (mm4.trans m5 (by simp)).alloc (.cells x.cells 23)
      simp only [Cfg.cells] at k5 mm5 ⊢
      obtain ⟨c0, c1, c2, c3, c4, c5, c6, c7, c8⟩ := cells9 k5
      clear mm4 m5 k4 kd4 hE2 hE3 hk2 hk3 d0 d1 d2 d3 d4 d5 d6 d7 d8
      go_wp2_with fail
      refine (run_Text x HX.out _ (HL.out.later0 mm5)).mono ?_
      rw [HXS.out]
      rintro e w6 ⟨rfl, m6⟩
      have mm6 := mm5.trans m6 (by simp)
      have k6 := k5.later m6 (by simp)
      clear mm5 m6 k5 c0 c1 c2 c3 c4 c5 c6 c7 c8 HX HXS
      obtain ⟨c0, c1, c2, c3, c4, c5, c6, c7, c8⟩ := cells9 k6
      go_wp2_with fail
      refine (run_Check x _).mono ?_
      rw [HK.out]
      rintro e w7 ⟨rfl, m7⟩
      have mm7 := mm6.trans m7 (by simp)
      go_wp2
      go_ret
      exact ⟨rfl, mm7.below⟩
    · have hf2 : (f != 0) = true := by simp [hf]
      have hf3 : (f == 0) = false := by simp [hf]
      clear hok hsx hsz hf
      rintro e w5 ⟨rfl, m5⟩
      have k5 := (Blk.made w5 x.cells 23)
      have mm5 := (mm4.trans m5 (by simp)).alloc (.cells x.cells 23)
      simp only [Cfg.cells] at k5 mm5 ⊢
      obtain ⟨c0, c1, c2, c3, c4, c5, c6, c7, c8⟩ := cells9 k5
      clear mm4 m5 k4 kd4 hE2 hE3 hk2 hk3 d0 d1 d2 d3 d4 d5 d6 d7 d8
      go_wp2
      go_ret
      exact ⟨rfl, mm5.below⟩

end Go.Proofs.YthmohnoloonfoaaDoor
