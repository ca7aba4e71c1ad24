/- The contract of the reference's Way. -/
import Derived.Test.YtdpfbgppaofgmaaRefF
import Derived.Test.YtdpfbgppaofgmaaRefD
namespace Go.Proofs.Ytdpfbgppaofgmaa
open Go.RowKit

set_option maxRecDepth 100000 in
set_option maxHeartbeats 4000000 in
theorem ref_Way (c : Cfg) (n : Int) (v : Value) (ts : List Int) (w : World) (hs : SlV w v (ts.map (Value.int .i64))) (hlen : ts.length ≤ 1000) :
    Calls Try.prog 20 #[.agg c.cells, .int .i64 n, v] w fun e w' => ∃ r, e = .returned r ∧ Mod (fun _ => False) w w' ∧ SlV w' r ((c.way n ts).map (Value.int .i64)) := by
  have kb := Blk.made w c.cells 23
  have m0 : Mod (fun _ => False) w (w.alloc (.cells c.cells 23)) := (Mod.refl _ _).alloc _
  obtain ⟨a, len, cap, rfl, hl, hcap, hmax, -⟩ := id hs
  rw [List.length_map] at hl
  have HS := Lib.hid (hs.later m0 (by simp))
  have HL := Lib.hid hl
  unfold maxLen at hmax
  have hlen' : len ≤ 1000 := by omega
  have hno : (c.is n = false ∨ ∃ t ∈ ts, c.is t = false) → ∀ W, SlV W (.slice none 0 0) ((c.way n ts).map (Value.int .i64)) := by
    intro h W
    have : c.way n ts = [] := by
      unfold Cfg.way
      rcases h with h | ⟨t, ht, h⟩
      · rw [h]; rfl
      · rw [if_neg]
        intro hh
        simp only [Bool.and_eq_true, List.all_eq_true] at hh
        rw [hh.2 t ht] at h
        cases h
    rw [this]
    exact ⟨_, _, _, rfl, rfl, Nat.le_refl _, by decide, Or.inl rfl⟩
  have HN := Lib.hid hno
  clear hs hl hlen hno
  simp only [Cfg.cells] at kb m0 HS ⊢
  go_enter Try.func20, Try.ntmps20
  go_wp2_with fail
  generalize w.alloc (.cells #[.int .i64 c.W, .int .i64 c.H, .int .i64 c.Lanes, .int .i64 c.Depth, .int .i64 c.Ring, .int .i64 c.Inbox, .int .i64 c.Bound, .bool c.West, .bool c.Cast] 23) = w0 at kb m0 HS ⊢
  refine (ref_Is c n _).mono ?_
  rintro e w1 ⟨rfl, m1⟩
  have kb1 := kb.later m1 (by simp)
  have mm1 := m0.trans m1 (by simp)
  have HS1 := Lib.hid (HS.out.later m1 (by simp))
  clear kb m0 m1 HS
  cases hn : c.is n with
  | false =>
    have HF := Lib.hid hn
    clear hn
    go_wp2
    go_ret
    exact ⟨_, rfl, mm1, HN.out (Or.inl HF.out) _⟩
  | true =>
  have HI := Lib.hid hn
  clear hn
  have hown0 : (w1.alloc (.cells #[.int .i64 n] 3)).ownsRow w1.heap.size 3 1 (.slice (some ⟨w1.heap.size, 0, none⟩) 1 1) 1 [.int .i64 n] :=
    World.ownsRow_lit _ #[.int .i64 n] 1 (Nat.le_refl _) (by decide) rfl
  have m23 : Mod (fun _ => False) w1 (w1.alloc (.cells #[.int .i64 n] 3)) := (Mod.refl _ _).alloc _
  go_wp2
  generalize hw3 : w1.alloc (.cells #[.int .i64 n] 3) = w3 at hown0 m23 ⊢
  clear hw3
  have kb3 := kb1.later m23 (by simp)
  have mm3 := mm1.trans m23 (by simp)
  have HS3 := Lib.hid (HS1.out.later m23 (by simp))
  have s23 := m23.size
  have lb1 := kb1.lt
  have hlow := mm1.size
  have kb1x := kb1
  have HMX := Lib.hid (m23.mono (S' := fun q => w1.heap.size ≤ q) (by simp))
  clear kb1 m23
  go_loopw [1, 7, 8] (fun m o i wr => ∃ (k : Nat) (m' : Int) (xs : List Int), k ≤ len ∧ i = .int .i64 k ∧ m = .int .i64 m' ∧ wr.ownsRow w1.heap.size 3 1 o xs.length (xs.map (Value.int .i64)) ∧ Mod (fun q => w1.heap.size ≤ q) w1 wr ∧ c.is m' = true ∧ xs.length ≤ 1 + 4096 * k ∧ (∀ j, j < k → ∀ t, ts[j]? = some t → c.is t = true) ∧ xs ++ c.tail m' (ts.drop k) = n :: c.tail n ts) (fun _ _ i _ => len - (intOf i).toNat)
  case atStart => exact ⟨0, n, [n], by omega, rfl, rfl, hown0, (HMX.out), HI.out, by simp, fun j hj => absurd hj (Nat.not_lt_zero _), rfl⟩
  case round =>
    obtain ⟨k, m', xs, hk, rfl, rfl, hown, hmod, hm', hxl, hval, hxs⟩ := hrel
    obtain ⟨wA, rfl⟩ : ∃ wo : World, wo = wr := ⟨_, rfl⟩
    have HM := Lib.hid hm'
    have HX := Lib.hid hxs
    have HV := Lib.hid hval
    have MA : Mod (fun _ => False) w wA := mm1.trans hmod (fun i hi h => by omega)
    have kA := kb1x.later hmod (by omega)
    clear hm' hxs hval hown0
    by_cases hlt : k < len
    · have hkl : k < ts.length := by have := HL.out; omega
      obtain ⟨t, ht⟩ : ∃ t, ts[k]? = some t := ⟨_, List.getElem?_eq_getElem hkl⟩
      obtain ⟨B, off, rfl, hB, dt⟩ := HS1.out.at k hlt
      rw [ints_get ht] at dt
      have dt0 := dt
      have dt := (hmod.cell (p := ⟨B, off + k, none⟩) hB (Nat.not_le.2 hB)).trans dt
      have hBA : B < wA.heap.size := Nat.lt_of_lt_of_le hB hmod.size
      have HT := Lib.hid ht
      have b0 : (0 : Int) ≤ (k : Int) := by omega
      have b1 : (k : Int) < (len : Int) := by omega
      obtain ⟨c0, c1, c2, c3, c4, c5, c6, c7, c8⟩ := cfg_cells kA
      clear ht hkl
      go_wp2
      go_upto_region 7 with fail
      go_cut [31] (fun v w' => v = .bool (!c.is t) ∧ Mod (fun _ => False) wA w')
      case first =>
        go_region_held3 (fun w' => w'.cell? ⟨B, off + k, none⟩ = some (.int .i64 t) ∧ w'.cell? ⟨w.heap.size, 0, none⟩ = some (Value.int .i64 c.W) ∧ w'.cell? ⟨w.heap.size, 1, none⟩ = some (Value.int .i64 c.H) ∧ w'.cell? ⟨w.heap.size, 2, none⟩ = some (Value.int .i64 c.Lanes) ∧ w'.cell? ⟨w.heap.size, 3, none⟩ = some (Value.int .i64 c.Depth) ∧ w'.cell? ⟨w.heap.size, 4, none⟩ = some (Value.int .i64 c.Ring) ∧ w'.cell? ⟨w.heap.size, 5, none⟩ = some (Value.int .i64 c.Inbox) ∧ w'.cell? ⟨w.heap.size, 6, none⟩ = some (Value.int .i64 c.Bound) ∧ w'.cell? ⟨w.heap.size, 7, none⟩ = some (Value.bool c.West) ∧ w'.cell? ⟨w.heap.size, 8, none⟩ = some (Value.bool c.Cast))
          (first
            | go_keep
            | exact ⟨(m9.cell hBA (by simp)).trans dt, cfg_cells (kA.drew.later m9 (by simp))⟩)
          ((go_at_call 31; refine (ref_Is c t _).mono ?_; rintro e w9 ⟨rfl, m9⟩))
        all_goals go_wp2_with fail
        all_goals go_meet
        all_goals exact ⟨rfl, (Mod.refl _ _).drew.trans m9 (by simp)⟩
      case rest =>
        obtain ⟨rfl, m10⟩ := hcut
        obtain ⟨wB, rfl⟩ : ∃ wo : World, wo = wc := ⟨_, rfl⟩
        have kB := kA.later m10 (by simp)
        have hmB := hmod.trans m10 (by simp)
        have hownB := own_later hown m10
        have MB := MA.trans m10 (by simp)
        clear kA hmod hown m10 dt hBA MA c0 c1 c2 c3 c4 c5 c6 c7 c8
        cases hti : c.is t with
        | false =>
          have HF := Lib.hid hti
          clear hti
          go_wp2
          go_ret
          exact ⟨_, rfl, MB, HN.out (Or.inr ⟨t, List.mem_of_getElem? HT.out, HF.out⟩) _⟩
        | true =>
        have HTI := Lib.hid hti
        have hX2 : xs ++ (c.leg m' t ++ c.tail t (ts.drop (k + 1))) = n :: c.tail n ts := by
          obtain ⟨h2, h3⟩ := List.getElem?_eq_some_iff.1 HT.out
          have hdr : ts.drop k = t :: ts.drop (k + 1) := by rw [List.drop_eq_getElem_cons h2, h3]
          rw [← HX.out, hdr]; rfl
        have HX2 := Lib.hid hX2
        have hg0 := Cfg.gap_bd c m' t
        clear hti hX2 HX
        go_wp2
        go_loopw [1, 7] (fun m o wr => ∃ (m2 : Int) (ys : List Int), m = .int .i64 m2 ∧ wr.ownsRow w1.heap.size 3 1 o ys.length (ys.map (Value.int .i64)) ∧ Mod (fun q => w1.heap.size ≤ q) w1 wr ∧ c.is m2 = true ∧ ys.length + c.gap m2 t ≤ 1 + 4096 * (k + 1) ∧ ys ++ (c.leg m2 t ++ c.tail t (ts.drop (k + 1))) = n :: c.tail n ts) (fun m _ _ => c.gap (intOf m) t)
        case atStart => exact ⟨m', xs, rfl, hownB, hmB, HM.out, by omega, HX2.out⟩
        case round =>
          obtain ⟨m2, ys, rfl, hown2, hmod2, hm2, hyl, hys⟩ := hrel
          obtain ⟨wC, rfl⟩ : ∃ wo : World, wo = wr := ⟨_, rfl⟩
          have HM2 := Lib.hid hm2
          have HY := Lib.hid hys
          have dtC := (hmod2.cell (p := ⟨B, off + k, none⟩) hB (Nat.not_le.2 hB)).trans dt0
          clear hm2 hys hownB
          by_cases hmt : m2 = t
          · have hYS : ys ++ c.tail t (ts.drop (k + 1)) = n :: c.tail n ts := by
              have := HY.out
              rw [hmt, Cfg.leg_self, List.nil_append] at this
              exact this
            have hq : (m2 == t) = true := by simp [hmt]
            have hq2 : (m2 != t) = false := by simp [hmt]
            have hyl2 : ys.length ≤ 1 + 4096 * (k + 1) := by omega
            have HYS := Lib.hid hYS
            have HMT := Lib.hid hmt
            clear hmt hYS
            go_wp2
            go_roundw
            case rel => exact ⟨k + 1, m2, ys, by omega, by go_num, rfl, hown2, hmod2, HM2.out, hyl2, fun j hj u hu => by
              rcases Nat.lt_or_eq_of_le (Nat.le_of_lt_succ hj) with h | rfl
              · exact HV.out j h u hu
              · have := HT.out.symm.trans hu
                simp only [Option.some.injEq] at this
                rw [← this]
                exact HTI.out, by rw [HMT.out]; exact HYS.out⟩
            case measure => simp [intOf]; omega
          · obtain ⟨g1, g2, g3, -, -⟩ := Cfg.nxt_is HM2.out HTI.out hmt
            have hst := Cfg.leg_step HM2.out HTI.out hmt
            have hq : (m2 == t) = false := by simp [hmt]
            have hq2 : (m2 != t) = true := by simp [hmt]
            have hnx : c.nxt m2 t = c.besV m2 (c.stepV m2 t) := rfl
            have HST := Lib.hid hst
            have HG1 := Lib.hid g1
            have HG3 := Lib.hid g3
            have HNX := Lib.hid hnx
            have hylen : ys.length + 1 + c.gap (c.nxt m2 t) t ≤ 1 + 4096 * (k + 1) := by omega
            have HYL := Lib.hid hylen
            have hyb : ys.length + 1 ≤ 1 + 4096 * (k + 1) := by omega
            have kC := kb1x.later hmod2 (by omega)
            have hBC : B < wC.heap.size := Nat.lt_of_lt_of_le hB hmod2.size
            obtain ⟨c0, c1, c2, c3, c4, c5, c6, c7, c8⟩ := cfg_cells kC
            clear hmt hst g1 g2 g3 hnx hylen
            go_wp2
            go_upto_region 10 with fail
            go_cut [9, 10] (fun v x w' => v = .int .i64 (c.stepV m2 t) ∧ Mod (fun _ => False) wC w')
            case first =>
              go_region_held3 (fun w' => w'.cell? ⟨B, off + k, none⟩ = some (.int .i64 t) ∧ w'.cell? ⟨w.heap.size, 0, none⟩ = some (Value.int .i64 c.W) ∧ w'.cell? ⟨w.heap.size, 1, none⟩ = some (Value.int .i64 c.H) ∧ w'.cell? ⟨w.heap.size, 2, none⟩ = some (Value.int .i64 c.Lanes) ∧ w'.cell? ⟨w.heap.size, 3, none⟩ = some (Value.int .i64 c.Depth) ∧ w'.cell? ⟨w.heap.size, 4, none⟩ = some (Value.int .i64 c.Ring) ∧ w'.cell? ⟨w.heap.size, 5, none⟩ = some (Value.int .i64 c.Inbox) ∧ w'.cell? ⟨w.heap.size, 6, none⟩ = some (Value.int .i64 c.Bound) ∧ w'.cell? ⟨w.heap.size, 7, none⟩ = some (Value.bool c.West) ∧ w'.cell? ⟨w.heap.size, 8, none⟩ = some (Value.bool c.Cast))
                (first
                  | go_keep
                  | exact ⟨(m9.cell hBC (by simp)).trans dtC, cfg_cells (kC.drew.later m9 (by simp))⟩)
                ((go_at_call 16; refine (ref_Step c m2 t _).mono ?_; rintro e w9 ⟨rfl, m9⟩))
              all_goals go_wp2_with fail
              all_goals go_meet
              all_goals exact ⟨rfl, (Mod.refl _ _).drew.trans m9 (by simp)⟩
            case rest =>
              obtain ⟨rfl, m5⟩ := hcut
              have kb5 := kC.later m5 (by simp)
              have hown5 := own_later hown2 m5
              have hmod5 := hmod2.trans m5 (by simp)
              clear kC c0 c1 c2 c3 c4 c5 c6 c7 c8 m5 hown2 hmod2 dtC hBC
              obtain ⟨c0, c1, c2, c3, c4, c5, c6, c7, c8⟩ := cfg_cells kb5
              go_wp2_with fail
              refine (ref_Beside c m2 _ _).mono ?_
              rintro e w6 ⟨rfl, m6⟩
              have hown6 := own_later hown5 m6
              have hmod6 := hmod5.trans m6 (by simp)
              clear kb5 c0 c1 c2 c3 c4 c5 c6 c7 c8 m6 hown5 hmod5
              rw [← HNX.out]
              have hs6 := hmod6.size
              have hlow6 := fun i e => (hown6.lt i e).1
              generalize c.nxt m2 t = m3 at *
              obtain ⟨ao, no, co, rfl, hno, -, -, -⟩ := id (SlV.own hown6)
              obtain rfl : no = ys.length := by simpa using hno.symm
              clear hno
              go_wp2_with (at_builtin; refine wpList_appendE rfl _ _ 31 rfl w1.heap.size 3 (.int .i64 0) 1 8 Try.underlying31 info_int' rfl (by decide) (.slice ao ys.length co) ys.length (ys.map (Value.int .i64)) rfl hown6 #[_] rfl rfl (by simp [Value.oneCell']) (by unfold maxLen; omega) (by omega) (by omega) ?_; intro g cap2 wz hown7 hm7 hat7; have hmod7 := hmod6.trans (S := fun q => w1.heap.size ≤ q) hm7 (fun i hi hs => hlow6 i hs); have dtZ := (hmod7.cell (p := ⟨B, off + k, none⟩) hB (Nat.not_le.2 hB)).trans dt0)
              have hown8 : wz.ownsRow w1.heap.size 3 1 (.slice (some ⟨g, 0, none⟩) (ys.length + 1) cap2) (ys ++ [m3]).length ((ys ++ [m3]).map (Value.int .i64)) := by simpa using hown7
              clear hown6 hown7 hm7 hmod6 hlow6
              go_wp2
              go_roundw
              case rel => exact ⟨ys ++ [m3], hown8, HG1.out, by simpa using HYL.out, by rw [← HY.out, HST.out]; simp⟩
              case measure => exact HG3.out
    · have hfin : xs = c.way n ts := by
        have hkl : ts.drop k = [] := List.drop_eq_nil_of_le (by have := HL.out; omega)
        have hw : c.way n ts = n :: c.tail n ts := by
          unfold Cfg.way
          have : ts.all c.is = true := List.all_eq_true.2 (fun t ht => by
            obtain ⟨j, hj, rfl⟩ := List.getElem_of_mem ht
            exact HV.out j (by have := HL.out; omega) _ (List.getElem?_eq_getElem hj))
          rw [HI.out, this]
          rfl
        rw [hw, ← HX.out, hkl]
        simp [Cfg.tail]
      rw [hfin] at hown
      have HO := Lib.hid (SlV.own hown)
      clear hfin hown
      go_wp2
      go_ret
      exact ⟨_, rfl, MA, HO.out⟩

end Go.Proofs.Ytdpfbgppaofgmaa
