/- The contract of snake.Step. -/
import Derived.Test.YtdpfbgppaofgmaaSnakeA
namespace Go.Proofs.Ytdpfbgppaofgmaa
open Go.RowKit

/-- Is a label a step further, toward the goal and not past it? -/
def nearer (start goal best l : Int) : Bool := (decide (best < l) && decide (l ≤ goal) && decide (start < goal)) || (decide (l < best) && decide (goal ≤ l) && decide (goal < start))
/-- One port looked at: the best label so far, and its port. -/
def updS (c : Cfg) (n start goal : Int) (s : Int × Int) (p : Int) : Int × Int :=
  if nearer start goal s.1 (c.lab (c.besV n p)) then (c.lab (c.besV n p), p) else s
def Cfg.stepS (c : Cfg) (n tt : Int) (l : List Int) : Int × Int := l.foldl (updS c n (c.lab n) (c.lab tt)) (c.lab n, 0)
/-- The port of the step toward a node. -/
def Cfg.stepV (c : Cfg) (n tt : Int) : Int := if c.is n && c.is tt then (c.stepS n tt (c.ports n)).2 else 0

theorem Cfg.stepS_take (c : Cfg) (n tt : Int) (l : List Int) (k : Nat) (h : k < l.length) : c.stepS n tt (l.take (k + 1)) = updS c n (c.lab n) (c.lab tt) (c.stepS n tt (l.take k)) l[k] := by
  unfold Cfg.stepS
  rw [List.take_succ_eq_append_getElem h, List.foldl_append]
  rfl

theorem foldl_bd (c : Cfg) (n a g : Int) (l : List Int) : ∀ s : Int × Int, (0 ≤ s.1 ∧ s.1 < 4096) → 0 ≤ (l.foldl (updS c n a g) s).1 ∧ (l.foldl (updS c n a g) s).1 < 4096 := by
  induction l with
  | nil => intro s h; exact h
  | cons p ps ih =>
    intro s h
    rw [List.foldl_cons]
    refine ih _ ?_
    unfold updS
    split
    · exact Cfg.lab_bd _
    · exact h
theorem Cfg.stepS_bd (c : Cfg) (n tt : Int) (l : List Int) : 0 ≤ (c.stepS n tt l).1 ∧ (c.stepS n tt l).1 < 4096 := foldl_bd c n _ _ l _ (Cfg.lab_bd _)

set_option maxRecDepth 100000 in
set_option maxHeartbeats 1600000 in
theorem run_Step (c : Cfg) (n tt : Int) (w : World) :
    Calls Try.prog 15 #[.agg c.cells, .int .i64 n, .int .i64 tt] w fun e w' => e = .returned (.tuple #[.int .i64 (c.stepV n tt), .bool (c.is n && c.is tt)]) ∧ Mod (fun _ => False) w w' := by
  have kb := Blk.made w c.cells 23
  have m0 : Mod (fun _ => False) w (w.alloc (.cells c.cells 23)) := (Mod.refl _ _).alloc _
  simp only [Cfg.cells] at kb m0 ⊢
  have hno : (c.is n && c.is tt) = false → Value.tuple #[.int .i64 0, .bool false] = .tuple #[.int .i64 (c.stepV n tt), .bool (c.is n && c.is tt)] := by
    intro h
    simp [Cfg.stepV, h]
  have HN := Lib.hid hno
  clear hno
  go_enter Try.func15, Try.ntmps15
  go_wp2_with fail
  refine (run_Is c n _).mono ?_
  rintro e w1 ⟨rfl, m1⟩
  have k1 := kb.later m1 (by simp)
  have mm1 := m0.trans m1 (by simp)
  obtain ⟨c0, c1, c2, c3, c4, c5, c6, c7, c8⟩ := cfg_cells k1
  have l1 := k1.lt
  clear kb m0 m1
  cases hn : c.is n with
  | false =>
    have hf : (c.is n && c.is tt) = false := by simp [hn]
    have HF := Lib.hid hf
    clear hf hn
    go_wp2
    go_ret2
    exact ⟨by rw [← HN.out HF.out]; rfl, mm1⟩
  | true =>
  go_wp2_with fail
  refine (run_Is c tt _).mono ?_
  rintro e w2 ⟨rfl, m2⟩
  have k2 := k1.later m2 (by simp)
  have mm2 := mm1.trans m2 (by simp)
  clear k1 mm1 m2 c0 c1 c2 c3 c4 c5 c6 c7 c8 l1
  obtain ⟨c0, c1, c2, c3, c4, c5, c6, c7, c8⟩ := cfg_cells k2
  have l2 := k2.lt
  cases ht : c.is tt with
  | false =>
    have hf : (c.is n && c.is tt) = false := by simp [ht]
    have HF := Lib.hid hf
    clear hf hn ht
    go_wp2
    go_ret2
    exact ⟨by rw [← HN.out HF.out]; rfl, mm2⟩
  | true =>
  have HY := Lib.hid hn
  have HT := Lib.hid ht
  clear hn ht
  go_upto_region 3 with fail
  go_cut [8, 9] (fun a b w' => a = .int .i64 (c.lab n) ∧ b = .int .i64 (c.lab tt) ∧ Mod (fun _ => False) w2 w')
  case first =>
    go_region_held3 (fun w' => w'.cell? ⟨w.heap.size, 0, none⟩ = some (.int .i64 c.W) ∧ w'.cell? ⟨w.heap.size, 1, none⟩ = some (.int .i64 c.H) ∧ w'.cell? ⟨w.heap.size, 2, none⟩ = some (.int .i64 c.Lanes) ∧ w'.cell? ⟨w.heap.size, 3, none⟩ = some (.int .i64 c.Depth) ∧ w'.cell? ⟨w.heap.size, 4, none⟩ = some (.int .i64 c.Ring) ∧ w'.cell? ⟨w.heap.size, 5, none⟩ = some (.int .i64 c.Inbox) ∧ w'.cell? ⟨w.heap.size, 6, none⟩ = some (.int .i64 c.Bound) ∧ w'.cell? ⟨w.heap.size, 7, none⟩ = some (.bool c.West) ∧ w'.cell? ⟨w.heap.size, 8, none⟩ = some (.bool c.Cast))
      (first
        | go_keep
        | exact cfg_cells (k2.drew.later m3 (by simp))
        | exact cfg_cells (k2.drew.later m4 (by simp))
        | exact cfg_cells ((k2.drew.later m3 (by simp)).later m4 (by simp))
        | exact cfg_cells ((k2.drew.later m4 (by simp)).later m3 (by simp)))
      (first
        | (go_at_call_of 39 n; refine (run_label c n _).mono ?_; rintro e w3 ⟨rfl, m3⟩)
        | (go_at_call_of 39 tt; refine (run_label c tt _).mono ?_; rintro e w4 ⟨rfl, m4⟩))
    all_goals go_wp2_with fail
    all_goals go_meet
    all_goals first
      | exact ⟨rfl, rfl, ((Mod.refl _ w2).drew).trans (m3.trans m4 (by simp)) (by simp)⟩
      | exact ⟨rfl, rfl, ((Mod.refl _ w2).drew).trans (m4.trans m3 (by simp)) (by simp)⟩
  case rest =>
    obtain ⟨rfl, rfl, m5⟩ := hcut
    have k5 := k2.later m5 (by simp)
    have mm5 := mm2.trans m5 (by simp)
    clear k2 mm2 m5 c0 c1 c2 c3 c4 c5 c6 c7 c8 l2
    obtain ⟨c0, c1, c2, c3, c4, c5, c6, c7, c8⟩ := cfg_cells k5
    go_wp2_with fail
    refine (run_Ports c n _).mono ?_
    rintro e w6 ⟨v, rfl, m6, hs⟩
    have k6 := k5.later m6 (by simp)
    have mm6 := mm5.trans m6 (by simp)
    clear k5 mm5 m6 c0 c1 c2 c3 c4 c5 c6 c7 c8
    obtain ⟨a, len, cap, rfl, hlen, hcap, hmax, -⟩ := id hs
    rw [List.length_map] at hlen
    have HS := Lib.hid hs
    have HL := Lib.hid hlen
    unfold maxLen at hmax
    have hbl := Cfg.lab_bd (c := c) n
    have hbt := Cfg.lab_bd (c := c) tt
    clear hs hlen
    go_wp2
    go_loopw [10, 11, 39] (fun b q i wr => ∃ k : Nat, k ≤ len ∧ i = .int .i64 k ∧ b = .int .i64 (c.stepS n tt ((c.ports n).take k)).1 ∧ q = .int .i64 (c.stepS n tt ((c.ports n).take k)).2 ∧ Mod (fun _ => False) w6 wr) (fun _ _ i _ => len - (intOf i).toNat)
    case atStart => exact ⟨0, by omega, rfl, rfl, rfl, Mod.refl _ _⟩
    case round =>
      obtain ⟨k, hk, rfl, rfl, rfl, hmod⟩ := hrel
      by_cases hlt : k < len
      · have hkl : k < (c.ports n).length := by have := HL.out; omega
        obtain ⟨B, off, rfl, hB, hcell⟩ := HS.out.at k hlt
        have hv : ((c.ports n).map (Value.int .i64)).getD k undef = .int .i64 (c.ports n)[k] := by simp [List.getD_eq_getElem?_getD, hkl]
        rw [hv] at hcell
        have hcell := (hmod.cell (p := ⟨B, off + k, none⟩) hB (by simp)).trans hcell
        have hst := Lib.hid (c.stepS_take n tt (c.ports n) k hkl)
        have k7 := k6.later hmod (by simp)
        obtain ⟨c0, c1, c2, c3, c4, c5, c6, c7, c8⟩ := cfg_cells k7
        generalize (c.ports n)[k] = p at hcell hst
        generalize hsk : c.stepS n tt ((c.ports n).take k) = s at hst ⊢
        have hsb : 0 ≤ s.1 ∧ s.1 < 4096 := by
          rw [← hsk]
          exact Cfg.stepS_bd c n tt _
        clear hsk hv
        go_wp2_with fail
        refine (run_Beside c n p _).mono ?_
        rintro e w8 ⟨rfl, m8⟩
        have k8 := k7.later m8 (by simp)
        have mm8 := hmod.trans m8 (by simp)
        clear k7 m8 hmod hcell c0 c1 c2 c3 c4 c5 c6 c7 c8
        obtain ⟨c0, c1, c2, c3, c4, c5, c6, c7, c8⟩ := cfg_cells k8
        go_wp2_with fail
        refine (run_label c _ _).mono ?_
        rintro e w9 ⟨rfl, m9⟩
        have mm9 := mm8.trans m9 (by simp)
        have hbn := Cfg.lab_bd (c := c) (c.besV n p)
        clear k8 m9 mm8 c0 c1 c2 c3 c4 c5 c6 c7 c8
        cases hup : nearer (c.lab n) (c.lab tt) s.1 (c.lab (c.besV n p)) with
        | true =>
          have hs' : updS c n (c.lab n) (c.lab tt) s p = (c.lab (c.besV n p), p) := by unfold updS; rw [if_pos hup]
          have HS' := Lib.hid hs'
          have hp : (s.1 < c.lab (c.besV n p) ∧ c.lab (c.besV n p) ≤ c.lab tt ∧ c.lab n < c.lab tt) ∨ (c.lab (c.besV n p) < s.1 ∧ c.lab tt ≤ c.lab (c.besV n p) ∧ c.lab tt < c.lab n) := by
            simpa [nearer, and_assoc] using hup
          clear hup hs'
          rcases hp with ⟨h1, h2, h3⟩ | ⟨h1, h2, h3⟩
          all_goals
            go_wp2
            go_roundw
            case rel => exact ⟨k + 1, by omega, by go_num, by rw [hst.out, HS'.out], by rw [hst.out, HS'.out], mm9⟩
            case measure => simp [intOf]; omega
        | false =>
          have hs' : updS c n (c.lab n) (c.lab tt) s p = s := by unfold updS; rw [if_neg (by simp [hup])]
          have HS' := Lib.hid hs'
          have hp : ¬ ((s.1 < c.lab (c.besV n p) ∧ c.lab (c.besV n p) ≤ c.lab tt ∧ c.lab n < c.lab tt) ∨ (c.lab (c.besV n p) < s.1 ∧ c.lab tt ≤ c.lab (c.besV n p) ∧ c.lab tt < c.lab n)) := by
            intro hh
            have : nearer (c.lab n) (c.lab tt) s.1 (c.lab (c.besV n p)) = true := by simpa [nearer, and_assoc] using hh
            rw [hup] at this
            simp at this
          clear hup hs'
          go_wp2
          all_goals
            go_roundw
            case rel => exact ⟨k + 1, by omega, by go_num, by rw [hst.out, HS'.out], by rw [hst.out, HS'.out], mm9⟩
            case measure => simp [intOf]; omega
      · have hkl : k = (c.ports n).length := by have := HL.out; omega
        have htk : (c.ports n).take k = c.ports n := by rw [hkl, List.take_length]
        have hfin : Value.tuple #[.int .i64 (c.stepS n tt ((c.ports n).take k)).2, .bool true] = .tuple #[.int .i64 (c.stepV n tt), .bool (c.is n && c.is tt)] := by
          rw [htk]
          simp [Cfg.stepV, HY.out, HT.out]
        have HF := Lib.hid hfin
        clear hfin htk hkl
        go_wp2
        go_ret2
        exact ⟨by rw [← HF.out]; rfl, mm6.trans hmod (by simp)⟩

end Go.Proofs.Ytdpfbgppaofgmaa
