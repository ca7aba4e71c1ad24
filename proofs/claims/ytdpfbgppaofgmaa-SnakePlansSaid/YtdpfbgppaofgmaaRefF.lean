/- Contracts of the reference: Node and Step of layer 8. -/
import Derived.Test.YtdpfbgppaofgmaaRefE
import Derived.Test.YtdpfbgppaofgmaaSnakeB
import Derived.Test.YtdpfbgppaofgmaaRefA
namespace Go.Proofs.Ytdpfbgppaofgmaa
open Go.RowKit

set_option maxRecDepth 100000 in
set_option maxHeartbeats 1600000 in
theorem ref_find (c : Cfg) (l : Int) (w : World) :
    Calls Try.prog 14 #[.agg c.cells, .int .i64 l] w fun e w' => e = .returned (.tuple #[.int .i64 (c.lab l), .int .i64 (c.pe l)]) ∧ Mod (fun _ => False) w w' := by
  have kb := Blk.made w c.cells 23
  have m0 : Mod (fun _ => False) w (w.alloc (.cells c.cells 23)) := (Mod.refl _ _).alloc _
  have hyes : ∀ k : Nat, (k : Int) < c.nodes → c.lab k = l → Value.tuple #[.int .i64 (k : Int), .int .i64 0] = .tuple #[.int .i64 (c.lab l), .int .i64 (c.pe l)] := by
    intro k hk hl
    have hi : c.is (k : Int) = true := (c.is_iff _).2 ⟨by omega, hk⟩
    have h2 : c.is l = true := by rw [← hl]; exact (Cfg.lab_is hi).1
    have h3 : c.lab l = k := by rw [← hl]; exact Cfg.lab_lab hi
    rw [h3, (Cfg.p_yes h2).2.2]
  have hno : (∀ j : Nat, (j : Int) < c.nodes → c.lab j ≠ l) → Value.tuple #[.int .i64 0, .int .i64 5] = .tuple #[.int .i64 (c.lab l), .int .i64 (c.pe l)] := by
    intro h
    cases hi : c.is l with
    | false => rw [(Cfg.p_no hi).2.2]; simp [Cfg.lab, hi]
    | true =>
      exfalso
      have h1 := (Cfg.lab_is hi).1
      rw [Cfg.is_iff] at h1
      refine h (c.lab l).toNat (by omega) ?_
      rw [Int.toNat_of_nonneg h1.1]
      exact Cfg.lab_lab hi
  have HY := Lib.hid hyes
  have HN := Lib.hid hno
  have hnb := c.nodes_bd
  clear hyes hno
  simp only [Cfg.cells] at kb m0 ⊢
  go_enter Try.func14, Try.ntmps14
  go_wp2
  generalize w.alloc (.cells #[.int .i64 c.W, .int .i64 c.H, .int .i64 c.Lanes, .int .i64 c.Depth, .int .i64 c.Ring, .int .i64 c.Inbox, .int .i64 c.Bound, .bool c.West, .bool c.Cast] 23) = w0 at kb m0 ⊢
  go_loopw [6] (fun i wr => ∃ k : Nat, (k : Int) ≤ c.nodes ∧ i = .int .i64 k ∧ Mod (fun _ => False) w0 wr ∧ ∀ j : Nat, j < k → c.lab j ≠ l) (fun i _ => (c.nodes - intOf i).toNat)
  case atStart => exact ⟨0, by omega, by simp, Mod.refl _ _, fun j hj => absurd hj (Nat.not_lt_zero _)⟩
  case round =>
    obtain ⟨k, hk, rfl, hmod, hne⟩ := hrel
    have HNE := Lib.hid hne
    clear hne
    have k1 := kb.later hmod (by simp)
    obtain ⟨c0, c1, c2, c3, c4, c5, c6, c7, c8⟩ := cfg_cells k1
    go_wp2_with fail
    refine (ref_Nodes c _).mono ?_
    rintro e w2 ⟨rfl, m2⟩
    have k2 := k1.later m2 (by simp)
    have mm2 := hmod.trans m2 (by simp)
    clear k1 hmod c0 c1 c2 c3 c4 c5 c6 c7 c8
    obtain ⟨c0, c1, c2, c3, c4, c5, c6, c7, c8⟩ := cfg_cells k2
    by_cases hlt : (k : Int) < c.nodes
    · go_wp2_with fail
      refine (ref_of c _ _).mono ?_
      rintro e w3 ⟨rfl, m3⟩
      have mm3 := mm2.trans m3 (by simp)
      clear k2 mm2 c0 c1 c2 c3 c4 c5 c6 c7 c8
      by_cases hl : c.lab k = l
      · have q1 : (c.lab k == l) = true := by simp [hl]
        have HL := Lib.hid hl
        clear hl
        go_wp2
        go_ret2
        exact ⟨by rw [← HY.out k hlt HL.out]; rfl, m0.trans mm3 (by simp)⟩
      · have q1 : (c.lab k == l) = false := by simp [hl]
        have HL := Lib.hid hl
        clear hl
        go_wp2
        go_roundw
        case rel => exact ⟨k + 1, by omega, by go_num, mm3, fun j hj => by
          rcases Nat.lt_or_eq_of_le (Nat.le_of_lt_succ hj) with h | rfl
          · exact HNE.out j h
          · exact HL.out⟩
        case measure => simp [intOf]; omega
    · go_wp2
      go_ret2
      exact ⟨by rw [← HN.out (fun j hj => HNE.out j (by omega))]; rfl, m0.trans mm2 (by simp)⟩

theorem foldl_inv (c : Cfg) (n a g : Int) (l : List Int) : ∀ s : Int × Int, ((a < g → a ≤ s.1 ∧ s.1 ≤ g) ∧ (g < a → g ≤ s.1 ∧ s.1 ≤ a) ∧ (a = g → s.1 = a)) →
    ((a < g → a ≤ (l.foldl (updS c n a g) s).1 ∧ (l.foldl (updS c n a g) s).1 ≤ g) ∧ (g < a → g ≤ (l.foldl (updS c n a g) s).1 ∧ (l.foldl (updS c n a g) s).1 ≤ a) ∧ (a = g → (l.foldl (updS c n a g) s).1 = a)) := by
  induction l with
  | nil => intro s h; exact h
  | cons p ps ih =>
    intro s h
    rw [List.foldl_cons]
    refine ih _ ?_
    unfold updS
    split
    · rename_i hu
      have hp : (s.1 < c.lab (c.besV n p) ∧ c.lab (c.besV n p) ≤ g ∧ a < g) ∨ (c.lab (c.besV n p) < s.1 ∧ g ≤ c.lab (c.besV n p) ∧ g < a) := by
        simpa [nearer, and_assoc] using hu
      simp only
      omega
    · exact h

set_option maxRecDepth 100000 in
set_option maxHeartbeats 3200000 in
theorem ref_Step (c : Cfg) (n tt : Int) (w : World) :
    Calls Try.prog 16 #[.agg c.cells, .int .i64 n, .int .i64 tt] w fun e w' => e = .returned (.tuple #[.int .i64 (c.stepV n tt), .bool (c.is n && c.is tt)]) ∧ Mod (fun _ => False) w w' := by
  have kb := Blk.made w c.cells 23
  have m0 : Mod (fun _ => False) w (w.alloc (.cells c.cells 23)) := (Mod.refl _ _).alloc _
  simp only [Cfg.cells] at kb m0 ⊢
  have hno : (c.is n && c.is tt) = false → Value.tuple #[.int .i64 0, .bool false] = .tuple #[.int .i64 (c.stepV n tt), .bool (c.is n && c.is tt)] := by
    intro h
    simp [Cfg.stepV, h]
  have HN := Lib.hid hno
  clear hno
  go_enter Try.func16, Try.ntmps16
  go_wp2_with fail
  refine (ref_Is c n _).mono ?_
  rintro e w1 ⟨rfl, m1⟩
  have k1 := kb.later m1 (by simp)
  have mm1 := m0.trans m1 (by simp)
  obtain ⟨c0, c1, c2, c3, c4, c5, c6, c7, c8⟩ := cfg_cells k1
  clear kb m0 m1
  cases hn : c.is n with
  | false =>
    have hf : (c.is n && c.is tt) = false := by simp [hn]
    have HF := Lib.hid hf
    clear hf hn
    go_wp2
    go_ret2
    exact ⟨by rw [← HN.out HF.out]; rfl, mm1⟩
  | true =>
  go_wp2_with fail
  refine (ref_Is c tt _).mono ?_
  rintro e w2 ⟨rfl, m2⟩
  have k2 := k1.later m2 (by simp)
  have mm2 := mm1.trans m2 (by simp)
  clear k1 mm1 m2 c0 c1 c2 c3 c4 c5 c6 c7 c8
  obtain ⟨c0, c1, c2, c3, c4, c5, c6, c7, c8⟩ := cfg_cells k2
  cases ht : c.is tt with
  | false =>
    have hf : (c.is n && c.is tt) = false := by simp [ht]
    have HF := Lib.hid hf
    clear hf hn ht
    go_wp2
    go_ret2
    exact ⟨by rw [← HN.out HF.out]; rfl, mm2⟩
  | true =>
  have hfin : Value.tuple #[.int .i64 (c.stepS n tt (c.portsTo n 4)).2, .bool true] = .tuple #[.int .i64 (c.stepV n tt), .bool (c.is n && c.is tt)] := by
    simp [Cfg.stepV, hn, ht, Cfg.portsTo_all]
  have HF := Lib.hid hfin
  clear hn ht HN hfin
  go_wp2_with fail
  refine (ref_of c n _).mono ?_
  rintro e w3 ⟨rfl, m3⟩
  have k3 := k2.later m3 (by simp)
  have mm3 := mm2.trans m3 (by simp)
  clear k2 mm2 m3 c0 c1 c2 c3 c4 c5 c6 c7 c8
  obtain ⟨c0, c1, c2, c3, c4, c5, c6, c7, c8⟩ := cfg_cells k3
  go_wp2_with fail
  refine (ref_of c tt _).mono ?_
  rintro e w4 ⟨rfl, m4⟩
  have k4 := k3.later m4 (by simp)
  have mm4 := mm3.trans m4 (by simp)
  have hbl := Cfg.lab_bd (c := c) n
  have hbt := Cfg.lab_bd (c := c) tt
  clear k3 mm3 m4 c0 c1 c2 c3 c4 c5 c6 c7 c8
  go_wp2
  go_loopw [8, 9, 11] (fun b m i wr => ∃ k : Nat, k ≤ 4 ∧ i = .int .i64 ((k : Int) + 1) ∧ m = .int .i64 (c.stepS n tt (c.portsTo n k)).1 ∧ b = .int .i64 (c.stepS n tt (c.portsTo n k)).2 ∧ Mod (fun _ => False) w4 wr) (fun _ _ i _ => (5 - intOf i).toNat)
  case atStart => exact ⟨0, by omega, by simp, rfl, rfl, Mod.refl _ _⟩
  case round =>
    obtain ⟨k, hk, rfl, rfl, rfl, hmod⟩ := hrel
    by_cases hlt : k < 4
    · have hst : c.stepS n tt (c.portsTo n (k + 1)) = if c.besB n ((k : Int) + 1) then updS c n (c.lab n) (c.lab tt) (c.stepS n tt (c.portsTo n k)) ((k : Int) + 1) else c.stepS n tt (c.portsTo n k) := by
        rw [Cfg.portsTo_step]
        unfold Cfg.stepS
        rw [List.foldl_append]
        split <;> rfl
      have hinv := foldl_inv c n (c.lab n) (c.lab tt) (c.portsTo n k) (c.lab n, 0) ⟨fun h => ⟨Int.le_refl _, Int.le_of_lt h⟩, fun h => ⟨Int.le_of_lt h, Int.le_refl _⟩, fun _ => rfl⟩
      change (c.lab n < c.lab tt → c.lab n ≤ (c.stepS n tt (c.portsTo n k)).1 ∧ (c.stepS n tt (c.portsTo n k)).1 ≤ c.lab tt) ∧ (c.lab tt < c.lab n → c.lab tt ≤ (c.stepS n tt (c.portsTo n k)).1 ∧ (c.stepS n tt (c.portsTo n k)).1 ≤ c.lab n) ∧ (c.lab n = c.lab tt → (c.stepS n tt (c.portsTo n k)).1 = c.lab n) at hinv
      have hsb := Cfg.stepS_bd c n tt (c.portsTo n k)
      have HST := Lib.hid hst
      clear hst
      generalize c.stepS n tt (c.portsTo n k) = s at HST hinv hsb ⊢
      have k5 := k4.later hmod (by simp)
      obtain ⟨c0, c1, c2, c3, c4', c5, c6, c7, c8⟩ := cfg_cells k5
      go_wp2_with fail
      refine (ref_Beside c n _ _).mono ?_
      rintro e w6 ⟨rfl, m6⟩
      have k6 := k5.later m6 (by simp)
      have mm6 := hmod.trans m6 (by simp)
      clear k5 hmod m6 c0 c1 c2 c3 c4' c5 c6 c7 c8
      obtain ⟨c0, c1, c2, c3, c4', c5, c6, c7, c8⟩ := cfg_cells k6
      cases hb : c.besB n ((k : Int) + 1) with
      | false =>
        have hs2 : c.stepS n tt (c.portsTo n (k + 1)) = s := by rw [HST.out, if_neg (by rw [hb]; simp)]
        have HS2 := Lib.hid hs2
        clear hs2 hb HST
        go_wp2
        go_roundw
        case rel => exact ⟨k + 1, by omega, by go_num, by rw [HS2.out], by rw [HS2.out], mm6⟩
        case measure => simp [intOf]; omega
      | true =>
        have hs2 : c.stepS n tt (c.portsTo n (k + 1)) = updS c n (c.lab n) (c.lab tt) s ((k : Int) + 1) := by rw [HST.out, if_pos hb]
        have HS2 := Lib.hid hs2
        clear hs2 hb HST
        go_wp2_with fail
        refine (ref_of c _ _).mono ?_
        rintro e w7 ⟨rfl, m7⟩
        have mm7 := mm6.trans m7 (by simp)
        have hbn := Cfg.lab_bd (c := c) (c.besV n ((k : Int) + 1))
        clear k6 m7 mm6 c0 c1 c2 c3 c4' c5 c6 c7 c8
        cases hup : nearer (c.lab n) (c.lab tt) s.1 (c.lab (c.besV n ((k : Int) + 1))) with
        | true =>
          have hs' : updS c n (c.lab n) (c.lab tt) s ((k : Int) + 1) = (c.lab (c.besV n ((k : Int) + 1)), (k : Int) + 1) := by unfold updS; rw [if_pos hup]
          have HS' := Lib.hid hs'
          have hp : (s.1 < c.lab (c.besV n ((k : Int) + 1)) ∧ c.lab (c.besV n ((k : Int) + 1)) ≤ c.lab tt ∧ c.lab n < c.lab tt) ∨ (c.lab (c.besV n ((k : Int) + 1)) < s.1 ∧ c.lab tt ≤ c.lab (c.besV n ((k : Int) + 1)) ∧ c.lab tt < c.lab n) := by
            simpa [nearer, and_assoc] using hup
          clear hup hs'
          generalize c.lab (c.besV n ((k : Int) + 1)) = l at HS' hp hbn ⊢
          rcases hp with ⟨h1, h2, h3⟩ | ⟨h1, h2, h3⟩
          · have h4 : s.1 < c.lab tt := by omega
            clear hinv
            go_wp2
            go_roundw
            case rel => exact ⟨k + 1, by omega, by go_num, by rw [HS2.out, HS'.out], by rw [HS2.out, HS'.out], mm7⟩
            case measure => simp [intOf]; omega
          · have h4 : c.lab tt < s.1 := by omega
            clear hinv
            go_wp2
            go_roundw
            case rel => exact ⟨k + 1, by omega, by go_num, by rw [HS2.out, HS'.out], by rw [HS2.out, HS'.out], mm7⟩
            case measure => simp [intOf]; omega
        | false =>
          have hs' : updS c n (c.lab n) (c.lab tt) s ((k : Int) + 1) = s := by unfold updS; rw [if_neg (by simp [hup])]
          have HS' := Lib.hid hs'
          have hp : ¬ ((s.1 < c.lab (c.besV n ((k : Int) + 1)) ∧ c.lab (c.besV n ((k : Int) + 1)) ≤ c.lab tt ∧ c.lab n < c.lab tt) ∨ (c.lab (c.besV n ((k : Int) + 1)) < s.1 ∧ c.lab tt ≤ c.lab (c.besV n ((k : Int) + 1)) ∧ c.lab tt < c.lab n)) := by
            intro hh
            have : nearer (c.lab n) (c.lab tt) s.1 (c.lab (c.besV n ((k : Int) + 1))) = true := by simpa [nearer, and_assoc] using hh
            rw [hup] at this
            simp at this
          clear hup hs'
          generalize c.lab (c.besV n ((k : Int) + 1)) = l at HS' hp hbn ⊢
          have h5 : ¬ (s.1 < c.lab tt ∧ l ≤ c.lab tt ∧ s.1 < l) := by omega
          have h6 : ¬ (c.lab tt < s.1 ∧ c.lab tt ≤ l ∧ l < s.1) := by omega
          clear hinv hp
          go_wp2
          all_goals
            go_roundw
            case rel => exact ⟨k + 1, by omega, by go_num, by rw [HS2.out, HS'.out], by rw [HS2.out, HS'.out], mm7⟩
            case measure => simp [intOf]; omega
    · obtain rfl : k = 4 := by omega
      go_wp2
      go_ret2
      exact ⟨by rw [← HF.out]; rfl, mm4.trans hmod (by simp)⟩

end Go.Proofs.Ytdpfbgppaofgmaa
