/- The contract of the reference's Plan. -/
import Derived.Test.YtonnooenebfbeaaRefH
import Derived.Test.YtonnooenebfbeaaRefE
import Derived.Test.YtonnooenebfbeaaRefD
import Derived.Deep.RegionLaw
namespace Go.Proofs.Ytonnooenebfbeaa
open Go.RowKit

set_option maxRecDepth 100000 in
set_option maxHeartbeats 8000000 in
theorem ref_Plan (c : Cfg) (f : Int) (v : Value) (ts : List Int) (w : World) (hs : SlV w v (ts.map (Value.int .i64))) (hlen : ts.length ≤ 12) :
    Calls Try.prog 44 #[.agg c.cells, .int .i64 f, v] w fun e w' => Mod (fun _ => False) w w' ∧
      ((¬ (ts ≠ [] ∧ c.is f = true ∧ (∀ n ∈ ts, c.is n = true) ∧ ts.Nodup) ∧ e = .returned (.tuple #[.agg #[.slice none 0 0, .slice none 0 0, .slice none 0 0], .int .i64 6])) ∨
       ((ts ≠ [] ∧ c.is f = true ∧ (∀ n ∈ ts, c.is n = true) ∧ ts.Nodup) ∧ ∃ r0 r1 r2, e = .returned (.tuple #[.agg #[r0, r1, r2], .int .i64 0]) ∧
          SlV w' r0 ((c.ups f (byl c ts c.nodes.toNat)).map (Value.int .i64)) ∧ SlV w' r1 ((c.dns f (byl c ts c.nodes.toNat)).reverse.map (Value.int .i64)) ∧ SlV w' r2 ((c.eqs f (byl c ts c.nodes.toNat)).map (Value.int .i64)))) := by
  have kb := ((Blk.made w c.cells 25).alloc (.cells #[.slice none 0 0, .slice none 0 0, .slice none 0 0] 72)).alloc (.cells #[.slice none 0 0, .slice none 0 0, .slice none 0 0] 72)
  have kr := (Blk.made (w.alloc (.cells c.cells 25)) #[.slice none 0 0, .slice none 0 0, .slice none 0 0] 72).alloc (.cells #[.slice none 0 0, .slice none 0 0, .slice none 0 0] 72)
  have ka := Blk.made ((w.alloc (.cells c.cells 25)).alloc (.cells #[.slice none 0 0, .slice none 0 0, .slice none 0 0] 72)) #[.slice none 0 0, .slice none 0 0, .slice none 0 0] 72
  have m0 : Mod (fun _ => False) w (((w.alloc (.cells c.cells 25)).alloc (.cells #[.slice none 0 0, .slice none 0 0, .slice none 0 0] 72)).alloc (.cells #[.slice none 0 0, .slice none 0 0, .slice none 0 0] 72)) := (((Mod.refl _ _).alloc _).alloc _).alloc _
  have hz0 : w.heap.size + 1 + 1 + 1 = (((w.alloc (.cells c.cells 25)).alloc (.cells #[.slice none 0 0, .slice none 0 0, .slice none 0 0] 72)).alloc (.cells #[.slice none 0 0, .slice none 0 0, .slice none 0 0] 72)).heap.size := by simp
  simp only [World.size_alloc] at kr ka
  obtain ⟨a, n, cap, rfl, hn, hcap, hmax, -⟩ := id hs
  rw [List.length_map] at hn
  have HS := Lib.hid (hs.later m0 (by simp))
  have HS0 := Lib.hid hs
  have HN := Lib.hid hn
  have HZ := Lib.hid hz0
  have hn12 : n ≤ 12 := by omega
  unfold maxLen at hmax
  have hnb := c.nodes_bd
  clear hs hn hlen hz0
  simp only [Cfg.cells] at kb kr ka m0 HS HZ ⊢
  go_enter Try.func44, Try.ntmps44
  by_cases hz : n = 0
  · have hnil : ts = [] := by
      apply List.eq_nil_of_length_eq_zero
      rw [HN.out, hz]
    subst hz
    have HNIL := Lib.hid hnil
    clear hnil
    go_wp2_with fail
    have t0 := kr.cell 0
    have t1 := kr.cell 1
    have t2 := kr.cell 2
    simp at t0 t1 t2
    exact bodyPost_ret (v := .tuple #[.agg #[.slice none 0 0, .slice none 0 0, .slice none 0 0], .int .i64 6]) (by simp [results, Try.results44, go_sem, t0, t1, t2]) rfl ⟨m0, Or.inl ⟨fun h => h.1 HNIL.out, rfl⟩⟩
  have hz1 : ((n : Int) == 0) = false := by simp; omega
  have hne : ts ≠ [] := by intro h; rw [h] at HN; have := HN.out; simp at this; omega
  have HNE := Lib.hid hne
  clear hne
  go_wp2_with fail
  generalize ((w.alloc (.cells #[.int .i64 c.W, .int .i64 c.H, .int .i64 c.Lanes, .int .i64 c.Depth, .int .i64 c.Ring, .int .i64 c.Inbox, .int .i64 c.Bound, .bool c.West, .bool c.Cast] 25)).alloc (.cells #[.slice none 0 0, .slice none 0 0, .slice none 0 0] 72)).alloc (.cells #[.slice none 0 0, .slice none 0 0, .slice none 0 0] 72) = w3 at kb kr ka m0 HS HZ ⊢
  have s3 : w.heap.size + 1 + 1 + 1 ≤ w3.heap.size := Nat.le_of_eq HZ.out
  refine (ref_Is c f _).mono ?_
  rintro e w4 ⟨rfl, m4⟩
  have kb4 := kb.later m4 (by simp)
  have kr4 := kr.later m4 (by simp)
  have ka4 := ka.later m4 (by simp)
  have mm4 := m0.trans m4 (by simp)
  have HS4 := Lib.hid (HS.out.later m4 (by simp))
  have s4 := m4.size
  clear kb kr ka m0 HS m4
  cases hf : c.is f with
  | false =>
    have HF := Lib.hid hf
    clear hf
    have y0 := ka4.cell 0
    have y1 := ka4.cell 1
    have y2 := ka4.cell 2
    have z0 := kr4.fz 0
    have z1 := kr4.fz 1
    have z2 := kr4.fz 2
    have x0 := kr4.cell 0
    have x1 := kr4.cell 1
    have x2 := kr4.cell 2
    simp at y0 y1 y2 x0 x1 x2
    go_wp2
    have ks := ((kr4.set 0 (.slice none 0 0)).set 1 (.slice none 0 0)).set 2 (.slice none 0 0)
    have ms := ((mm4.setCell (p := ⟨w.heap.size + 1, 0, none⟩) (Or.inr (by simp)) (.slice none 0 0)).setCell (p := ⟨w.heap.size + 1, 1, none⟩) (Or.inr (by simp)) (.slice none 0 0)).setCell (p := ⟨w.heap.size + 1, 2, none⟩) (Or.inr (by simp)) (.slice none 0 0)
    simp at ks
    generalize ((w4.setCell ⟨w.heap.size + 1, 0, none⟩ (.slice none 0 0)).setCell ⟨w.heap.size + 1, 1, none⟩ (.slice none 0 0)).setCell ⟨w.heap.size + 1, 2, none⟩ (.slice none 0 0) = wf at ks ms ⊢
    have t0 := ks.cell 0
    have t1 := ks.cell 1
    have t2 := ks.cell 2
    simp at t0 t1 t2
    exact bodyPost_ret (v := .tuple #[.agg #[.slice none 0 0, .slice none 0 0, .slice none 0 0], .int .i64 6]) (by simp [results, Try.results44, go_sem, t0, t1, t2]) rfl ⟨ms, Or.inl ⟨fun h => by rw [HF.out] at h; simp at h, rfl⟩⟩
  | true =>
  have HF := Lib.hid hf
  clear hf
  go_wp2
  go_loopw [9] (fun i wr => ∃ k : Nat, k ≤ n ∧ i = .int .i64 k ∧ Mod (fun _ => False) w4 wr ∧ (∀ x ∈ ts.take k, c.is x = true) ∧ (ts.take k).Nodup) (fun i _ => n - (intOf i).toNat)
  case atStart => exact ⟨0, by omega, by simp, Mod.refl _ _, by simp, by simp⟩
  case round =>
    obtain ⟨k, hk, rfl, hmod, hall, hnd⟩ := hrel
    obtain ⟨wA, rfl⟩ : ∃ wo : World, wo = wr := ⟨_, rfl⟩
    have HALL := Lib.hid hall
    have HND := Lib.hid hnd
    clear hall hnd
    by_cases hlt : k < n
    · obtain ⟨x, hx⟩ : ∃ x, ts[k]? = some x := ⟨_, List.getElem?_eq_getElem (by have := HN.out; omega)⟩
      obtain ⟨B, off, rfl, hB, dx⟩ := HS4.out.at k hlt
      rw [ints_getR hx] at dx
      have dx0 := dx
      have dx := (hmod.cell (p := ⟨B, off + k, none⟩) hB (by simp)).trans dx
      have hBA : B < wA.heap.size := Nat.lt_of_lt_of_le hB hmod.size
      have kA := kb4.later hmod (by simp)
      have HX := Lib.hid hx
      have b0 : (0 : Int) ≤ (k : Int) := by omega
      have b1 : (k : Int) < (n : Int) := by omega
      obtain ⟨c0, c1, c2, c3, c4, c5, c6, c7, c8⟩ := cfg_cells kA
      clear hx
      go_wp2
      go_upto_region 7 with fail
      go_cut [35] (fun v w' => v = .bool (!c.is x) ∧ Mod (fun _ => False) wA w')
      case first =>
        go_region_held3 (fun w' => w'.cell? ⟨B, off + k, none⟩ = some (.int .i64 x) ∧ w'.cell? ⟨w.heap.size, 0, none⟩ = some (Value.int .i64 c.W) ∧ w'.cell? ⟨w.heap.size, 1, none⟩ = some (Value.int .i64 c.H) ∧ w'.cell? ⟨w.heap.size, 2, none⟩ = some (Value.int .i64 c.Lanes) ∧ w'.cell? ⟨w.heap.size, 3, none⟩ = some (Value.int .i64 c.Depth) ∧ w'.cell? ⟨w.heap.size, 4, none⟩ = some (Value.int .i64 c.Ring) ∧ w'.cell? ⟨w.heap.size, 5, none⟩ = some (Value.int .i64 c.Inbox) ∧ w'.cell? ⟨w.heap.size, 6, none⟩ = some (Value.int .i64 c.Bound) ∧ w'.cell? ⟨w.heap.size, 7, none⟩ = some (Value.bool c.West) ∧ w'.cell? ⟨w.heap.size, 8, none⟩ = some (Value.bool c.Cast))
          (first
            | go_keep
            | exact ⟨(m9.cell hBA (by simp)).trans dx, cfg_cells (kA.drew.later m9 (by simp))⟩)
          ((go_at_call 56; refine (ref_Is c x _).mono ?_; rintro e w9 ⟨rfl, m9⟩))
        all_goals go_wp2_with fail
        all_goals go_meet
        all_goals exact ⟨rfl, (Mod.refl _ _).drew.trans m9 (by simp)⟩
      case rest =>
        obtain ⟨rfl, m10⟩ := hcut
        obtain ⟨wB, rfl⟩ : ∃ wo : World, wo = wc := ⟨_, rfl⟩
        have hmB := hmod.trans m10 (by simp)
        have mmB := mm4.trans hmB (by simp)
        clear kA hmod m10 dx hBA c0 c1 c2 c3 c4 c5 c6 c7 c8
        cases hxi : c.is x with
        | false =>
          have HXI := Lib.hid hxi
          have kr5 := kr4.later hmB (by simp)
          have ka5 := ka4.later hmB (by simp)
          clear hxi
          have y0 := ka5.cell 0
          have y1 := ka5.cell 1
          have y2 := ka5.cell 2
          have z0 := kr5.fz 0
          have z1 := kr5.fz 1
          have z2 := kr5.fz 2
          have x0 := kr5.cell 0
          have x1 := kr5.cell 1
          have x2 := kr5.cell 2
          simp at y0 y1 y2 x0 x1 x2
          go_wp2
          have ks := ((kr5.set 0 (.slice none 0 0)).set 1 (.slice none 0 0)).set 2 (.slice none 0 0)
          have ms := ((mmB.setCell (p := ⟨w.heap.size + 1, 0, none⟩) (Or.inr (by simp)) (.slice none 0 0)).setCell (p := ⟨w.heap.size + 1, 1, none⟩) (Or.inr (by simp)) (.slice none 0 0)).setCell (p := ⟨w.heap.size + 1, 2, none⟩) (Or.inr (by simp)) (.slice none 0 0)
          simp at ks
          generalize ((wB.setCell ⟨w.heap.size + 1, 0, none⟩ (.slice none 0 0)).setCell ⟨w.heap.size + 1, 1, none⟩ (.slice none 0 0)).setCell ⟨w.heap.size + 1, 2, none⟩ (.slice none 0 0) = wf at ks ms ⊢
          have t0 := ks.cell 0
          have t1 := ks.cell 1
          have t2 := ks.cell 2
          simp at t0 t1 t2
          exact bodyPost_ret (v := .tuple #[.agg #[.slice none 0 0, .slice none 0 0, .slice none 0 0], .int .i64 6]) (by simp [results, Try.results44, go_sem, t0, t1, t2]) rfl ⟨ms, Or.inl ⟨fun h => absurd (HXI.out.symm.trans (h.2.2.1 x (List.mem_of_getElem? HX.out))) (by simp), rfl⟩⟩
        | true =>
        have HXI := Lib.hid hxi
        have hBB : B < wB.heap.size := Nat.lt_of_lt_of_le hB hmB.size
        clear hxi
        go_wp2
        go_loopw [10] (fun j wr => ∃ jj : Nat, jj ≤ k ∧ j = .int .i64 jj ∧ Drw wB wr ∧ x ∉ ts.take jj) (fun j _ => k - (intOf j).toNat)
        case atStart => exact ⟨0, by omega, by simp, Drw.refl _, by simp⟩
        case round =>
          obtain ⟨jj, hjj, rfl, hd, hnot⟩ := hrel
          obtain ⟨wC, rfl⟩ : ∃ wo : World, wo = wr := ⟨_, rfl⟩
          have HNOT := Lib.hid hnot
          have hmC := hmB.trans (hd.mod (fun _ => False)) (by simp)
          clear hnot
          by_cases hjl : jj < k
          · obtain ⟨y, hy⟩ : ∃ y, ts[jj]? = some y := ⟨_, List.getElem?_eq_getElem (by have := HN.out; omega)⟩
            obtain ⟨B', o', e1, -, dy⟩ := HS4.out.at jj (by omega)
            simp only [Option.some.injEq, Addr.mk.injEq, and_true] at e1
            rw [← e1.1, ← e1.2] at dy
            rw [ints_getR hy] at dy
            have dy := (hmC.cell (p := ⟨B, off + jj, none⟩) hB (by simp)).trans dy
            have dx := (hmC.cell (p := ⟨B, off + k, none⟩) hB (by simp)).trans dx0
            have HY := Lib.hid hy
            have r0 : (0 : Int) ≤ (jj : Int) := by omega
            have r1 : (jj : Int) < (n : Int) := by omega
            clear e1 hy
            by_cases hyx : y = x
            · have q1 : (y == x) = true := by simp [hyx]
              have hdup : ¬ ts.Nodup := by
                intro h
                have h1 := HY.out
                have h2 := HX.out
                obtain ⟨h3, h4⟩ := List.getElem?_eq_some_iff.1 h1
                obtain ⟨h5, h6⟩ := List.getElem?_eq_some_iff.1 h2
                have := List.pairwise_iff_getElem.1 h jj k h3 h5 hjl
                exact this (by rw [h4, h6, hyx])
              have HDUP := Lib.hid hdup
              clear hdup hyx
              go_wp2
              go_upto_region 12 with fail
              go_cut [50] (fun v w' => v = .bool true ∧ Drw wC w')
              case first =>
                go_quiet (fail)
                all_goals go_wp2_with fail
                all_goals go_meet
                all_goals exact ⟨by simp [q1], Drw.drewN _ _⟩
              case rest =>
                obtain ⟨rfl, m11⟩ := hcut
                obtain ⟨wD, rfl⟩ : ∃ wo : World, wo = wc := ⟨_, rfl⟩
                have hmD := hmC.trans (m11.mod (fun _ => False)) (by simp)
                have kr5 := kr4.later hmD (by simp)
                have ka5 := ka4.later hmD (by simp)
                have mmD := mm4.trans hmD (by simp)
                clear dy dx hmC
                have y0 := ka5.cell 0
                have y1 := ka5.cell 1
                have y2 := ka5.cell 2
                have z0 := kr5.fz 0
                have z1 := kr5.fz 1
                have z2 := kr5.fz 2
                have x0 := kr5.cell 0
                have x1 := kr5.cell 1
                have x2 := kr5.cell 2
                simp at y0 y1 y2 x0 x1 x2
                go_wp2
                have ks := ((kr5.set 0 (.slice none 0 0)).set 1 (.slice none 0 0)).set 2 (.slice none 0 0)
                have ms := ((mmD.setCell (p := ⟨w.heap.size + 1, 0, none⟩) (Or.inr (by simp)) (.slice none 0 0)).setCell (p := ⟨w.heap.size + 1, 1, none⟩) (Or.inr (by simp)) (.slice none 0 0)).setCell (p := ⟨w.heap.size + 1, 2, none⟩) (Or.inr (by simp)) (.slice none 0 0)
                simp at ks
                generalize ((wD.setCell ⟨w.heap.size + 1, 0, none⟩ (.slice none 0 0)).setCell ⟨w.heap.size + 1, 1, none⟩ (.slice none 0 0)).setCell ⟨w.heap.size + 1, 2, none⟩ (.slice none 0 0) = wf at ks ms ⊢
                have t0 := ks.cell 0
                have t1 := ks.cell 1
                have t2 := ks.cell 2
                simp at t0 t1 t2
                exact bodyPost_ret (v := .tuple #[.agg #[.slice none 0 0, .slice none 0 0, .slice none 0 0], .int .i64 6]) (by simp [results, Try.results44, go_sem, t0, t1, t2]) rfl ⟨ms, Or.inl ⟨fun h => HDUP.out h.2.2.2, rfl⟩⟩
            · have q1 : (y == x) = false := by simp [hyx]
              have hnot2 : x ∉ ts.take (jj + 1) := by
                rw [List.take_add_one, HY.out]
                intro h
                rcases List.mem_append.1 h with h | h
                · exact HNOT.out h
                · simp at h
                  exact hyx h.symm
              have HNOT2 := Lib.hid hnot2
              clear hyx hnot2
              go_wp2
              go_upto_region 12 with fail
              go_cut [50] (fun v w' => v = .bool false ∧ Drw wC w')
              case first =>
                go_quiet (fail)
                all_goals go_wp2_with fail
                all_goals go_meet
                all_goals exact ⟨by simp [q1], Drw.drewN _ _⟩
              case rest =>
                obtain ⟨rfl, m11⟩ := hcut
                have hd2 := hd.trans m11
                go_wp2
                go_roundw
                case rel => exact ⟨jj + 1, by omega, by go_num, hd2, HNOT2.out⟩
                case measure => simp [intOf]; omega
          · obtain rfl : jj = k := by omega
            have htk : ts.take (jj + 1) = ts.take jj ++ [x] := by rw [List.take_add_one, HX.out]; rfl
            have HTK := Lib.hid htk
            clear htk
            go_wp2
            go_roundw
            case rel => exact ⟨jj + 1, by omega, by go_num, hmC, by
              rw [HTK.out]
              intro z hz
              rcases List.mem_append.1 hz with hz | hz
              · exact HALL.out z hz
              · simp at hz
                rw [hz]
                exact HXI.out, by
              rw [HTK.out, List.nodup_append]
              refine ⟨HND.out, by simp, fun a ha b hb => ?_⟩
              simp at hb
              subst hb
              rintro rfl
              exact HNOT.out ha⟩
            case measure => simp [intOf]; omega
    · have hval : ts ≠ [] ∧ c.is f = true ∧ (∀ n ∈ ts, c.is n = true) ∧ ts.Nodup := by
        have h1 := HALL.out
        have h2 := HND.out
        rw [List.take_of_length_le (by have := HN.out; omega)] at h1 h2
        exact ⟨HNE.out, HF.out, h1, h2⟩
      have HVAL := Lib.hid hval
      have krA := kr4.later hmod (by simp)
      have kaA := ka4.later hmod (by simp)
      have kbA := kb4.later hmod (by simp)
      have mmA := mm4.trans hmod (by simp)
      have HSA := Lib.hid (HS4.out.later hmod (by simp))
      have sA := hmod.size
      clear hval HALL HND kr4 ka4 kb4 mm4 HS4 hmod
      have hA : w.heap.size + 1 + 1 + 1 ≤ wA.heap.size := by omega
      have hdn : ∀ v : Value, Dj (.slice none 0 0) v := fun v k h => by simp [Value.ownBlock] at h
      have PM0 : PlanMem wA (w.heap.size + 1 + 1 + 1) (w.heap.size + 1 + 1) (.slice none 0 0) (.slice none 0 0) (.slice none 0 0) [] [] [] :=
        ⟨kaA, World.ownsRow_nil _ _ _ _, World.ownsRow_nil _ _ _ _, World.ownsRow_nil _ _ _ _, hdn _, hdn _, hdn _, by omega⟩
      have lbA := kbA.lt
      have lrA := krA.lt
      clear hdn kaA
      go_wp2
      go_loopw [11] (fun i wr => ∃ (l : Nat) (v0 v1 v2 : Value), (l : Int) ≤ c.nodes ∧ i = .int .i64 l ∧ Mod (fun q => w.heap.size + 1 + 1 ≤ q) wA wr ∧ PlanMem wr (w.heap.size + 1 + 1 + 1) (w.heap.size + 1 + 1) v0 v1 v2 (c.ups f (byl c ts l)) (c.dns f (byl c ts l)).reverse (c.eqs f (byl c ts l)) ∧ ((c.dns f (byl c ts l)).reverse = [] → v1 = .slice none 0 0)) (fun i _ => (c.nodes - intOf i).toNat)
      case atStart => exact ⟨0, _, _, _, by omega, by simp, Mod.refl _ _, by simpa [Cfg.ups, Cfg.dns, Cfg.eqs, byl] using PM0, fun _ => rfl⟩
      case round =>
        obtain ⟨l, v0, v1, v2, hl, rfl, hmod, PM, hv1⟩ := hrel
        obtain ⟨wB, rfl⟩ : ∃ wo : World, wo = wr := ⟨_, rfl⟩
        have HV1 := Lib.hid hv1
        have kbB := kbA.later hmod (by omega)
        obtain ⟨c0, c1, c2, c3, c4, c5, c6, c7, c8⟩ := cfg_cells kbB
        clear hv1 PM0
        go_wp2_with fail
        refine (ref_Nodes c _).mono ?_
        rintro e wC ⟨rfl, mC⟩
        have hmC := hmod.trans mC (by simp)
        have PMC := PM.later mC
        clear hmod PM mC kbB c0 c1 c2 c3 c4 c5 c6 c7 c8
        by_cases hll : (l : Int) < c.nodes
        · go_wp2
          go_loopw [12] (fun i wr => ∃ (ii : Nat) (v0 v1 v2 : Value), ii ≤ n ∧ i = .int .i64 ii ∧ Mod (fun q => w.heap.size + 1 + 1 ≤ q) wA wr ∧ PlanMem wr (w.heap.size + 1 + 1 + 1) (w.heap.size + 1 + 1) v0 v1 v2 (c.ups f (pst c ts l ii)) (c.dns f (pst c ts l ii)).reverse (c.eqs f (pst c ts l ii)) ∧ ((c.dns f (pst c ts l ii)).reverse = [] → v1 = .slice none 0 0)) (fun i _ => n - (intOf i).toNat)
          case atStart => exact ⟨0, v0, v1, v2, by omega, by simp, hmC, by rw [pst_zero]; exact PMC, by rw [pst_zero]; exact HV1.out⟩
          case round =>
            obtain ⟨ii, v0, v1, v2, hii, rfl, hmod, PM, hv1⟩ := hrel
            obtain ⟨wD, rfl⟩ : ∃ wo : World, wo = wr := ⟨_, rfl⟩
            have HV1 := Lib.hid hv1
            clear hv1 hmC PMC
            by_cases hlt : ii < n
            · obtain ⟨x, hx⟩ : ∃ x, ts[ii]? = some x := ⟨_, List.getElem?_eq_getElem (by have := HN.out; omega)⟩
              obtain ⟨B, off, rfl, hB, dx⟩ := HS0.out.at ii hlt
              rw [ints_getR hx] at dx
              have hMB : ∀ W, Mod (fun q => w.heap.size + 1 + 1 ≤ q) wA W → W.cell? ⟨B, off + ii, none⟩ = some (.int .i64 x) := fun W m =>
                (m.cell (p := ⟨B, off + ii, none⟩) (Nat.lt_of_lt_of_le hB (by omega)) (by show ¬ _ ≤ B; omega)).trans ((mmA.cell (p := ⟨B, off + ii, none⟩) hB (by simp)).trans dx)
              have HMB := Lib.hid hMB
              have dxD := hMB wD hmod
              have hps := pst_step c ts l ii x hx
              have hpl := pst_len c ts l ii
              have hpb : (pst c ts l ii).length ≤ 60000 := by
                have h1 := HN.out
                rw [h1] at hpl
                have : (l + 1) * n ≤ 4097 * 12 := Nat.mul_le_mul (by omega) hn12
                omega
              have HPS := Lib.hid hps
              have r0 : (0 : Int) ≤ (ii : Int) := by omega
              have r1 : (ii : Int) < (n : Int) := by omega
              have hsD := hmod.size
              have hBD : B < wD.heap.size := by omega
              have kD := kbA.later hmod (by omega)
              obtain ⟨c0, c1, c2, c3, c4, c5, c6, c7, c8⟩ := cfg_cells kD
              clear hx dx hMB hps hpl
              go_wp2
              go_upto_region 20 with fail
              go_cut [71] (fun v w' => v = .bool (c.lab x != (l : Int)) ∧ Mod (fun _ => False) wD w')
              case first =>
                go_region_held3 (fun w' => w'.cell? ⟨B, off + ii, none⟩ = some (.int .i64 x) ∧ w'.cell? ⟨w.heap.size, 0, none⟩ = some (Value.int .i64 c.W) ∧ w'.cell? ⟨w.heap.size, 1, none⟩ = some (Value.int .i64 c.H) ∧ w'.cell? ⟨w.heap.size, 2, none⟩ = some (Value.int .i64 c.Lanes) ∧ w'.cell? ⟨w.heap.size, 3, none⟩ = some (Value.int .i64 c.Depth) ∧ w'.cell? ⟨w.heap.size, 4, none⟩ = some (Value.int .i64 c.Ring) ∧ w'.cell? ⟨w.heap.size, 5, none⟩ = some (Value.int .i64 c.Inbox) ∧ w'.cell? ⟨w.heap.size, 6, none⟩ = some (Value.int .i64 c.Bound) ∧ w'.cell? ⟨w.heap.size, 7, none⟩ = some (Value.bool c.West) ∧ w'.cell? ⟨w.heap.size, 8, none⟩ = some (Value.bool c.Cast))
                  (first
                    | go_keep
                    | exact ⟨(m9.cell hBD (by simp)).trans dxD, cfg_cells (kD.drew.later m9 (by simp))⟩)
                  ((go_at_call 57; refine (ref_of c x _).mono ?_; rintro e w9 ⟨rfl, m9⟩))
                all_goals go_wp2_with fail
                all_goals go_meet
                all_goals exact ⟨rfl, (Mod.refl _ _).drew.trans m9 (by simp)⟩
              case rest =>
                obtain ⟨rfl, m10⟩ := hcut
                obtain ⟨wE, rfl⟩ : ∃ wo : World, wo = wc := ⟨_, rfl⟩
                have hmE := hmod.trans m10 (by simp)
                have PME := PM.later m10
                clear hmod PM m10 kD dxD hBD hsD c0 c1 c2 c3 c4 c5 c6 c7 c8
                by_cases hxl : c.lab x = (l : Int)
                · have q1 : (c.lab x != (l : Int)) = false := by simp [hxl]
                  have hP : pst c ts l (ii + 1) = pst c ts l ii ++ [x] := by rw [HPS.out, if_pos hxl]
                  have HP := Lib.hid hP
                  have HXL := Lib.hid hxl
                  clear hP hxl HPS
                  have hl0 : (c.ups f (pst c ts l ii)).length ≤ 60000 := Nat.le_trans (List.length_filter_le _ _) hpb
                  have hl1 : (c.dns f (pst c ts l ii)).reverse.length ≤ 60000 := by rw [List.length_reverse]; exact Nat.le_trans (List.length_filter_le _ _) hpb
                  have hl2 : (c.eqs f (pst c ts l ii)).length ≤ 60000 := Nat.le_trans (List.length_filter_le _ _) hpb
                  rcases Int.lt_trichotomy (c.lab f) (l : Int) with h | h | h
                  · have q2 : decide (c.lab f < (l : Int)) = true := by simp only [decide_eq_true_eq, decide_eq_false_iff_not]; omega
                    have q3 : decide ((l : Int) < c.lab f) = false := by simp only [decide_eq_true_eq, decide_eq_false_iff_not]; omega
                    have q4 : ((l : Int) == c.lab f) = false := by simp; omega
                    have k1 := kbA.later hmE (by omega)
                    obtain ⟨c0, c1, c2, c3, c4, c5, c6, c7, c8⟩ := cfg_cells k1
                    go_wp2_with fail
                    refine (ref_of c f _).mono ?_
                    rintro e wF ⟨rfl, m1⟩
                    have hmF := hmE.trans m1 (by simp)
                    have PMF := PME.later m1
                    clear k1 m1 hmE PME c0 c1 c2 c3 c4 c5 c6 c7 c8
                    have dxR := HMB.out wF hmF
                    have a0 := PMF.blk.cell 0
                    have a1 := PMF.blk.cell 1
                    have a2 := PMF.blk.cell 2
                    simp at a0 a1 a2
                    have z0 := PMF.blk.fz 0
                    have z1 := PMF.blk.fz 1
                    have z2 := PMF.blk.fz 2
                    have lA := PMF.blk.lt
                    have hsR := hmF.size
                    have hBR : B < wF.heap.size := by omega
                    have hbR : w.heap.size + 1 + 1 + 1 ≤ wF.heap.size := by omega
                    go_upto_region 22 with fail
                    go_cut [84] (fun _v w' => ∃ v', PlanMem w' (w.heap.size + 1 + 1 + 1) (w.heap.size + 1 + 1) v' v1 v2 (c.ups f (pst c ts l ii) ++ [x]) (c.dns f (pst c ts l ii)).reverse (c.eqs f (pst c ts l ii)) ∧ Mod (fun q => w.heap.size + 1 + 1 ≤ q) wA w')
                    case first =>
                      go_region_law ((refine step_appendE rfl _ _ 39 rfl (w.heap.size + 1 + 1 + 1) 3 (.int .i64 0) 1 8 Try.underlying39 info_i rfl (by decide) v0 (c.ups f (pst c ts l ii)).length ((c.ups f (pst c ts l ii)).map (Value.int .i64)) (by rfl) PMF.o0 #[.int .i64 x] rfl (by rfl) (by simp [Value.oneCell']) (by unfold maxLen; omega) (by omega) (by omega) ?_; intro g gcap2 wz hown7 hm7 hat7; have zz := (PMF.blk.later hm7 (fun e => by have := (PMF.o0.lt _ e).1; omega)).fz 0; have yy := (PMF.blk.later hm7 (fun e => by have := (PMF.o0.lt _ e).1; omega)).cell 0; simp at yy))
                      all_goals go_wp2_with fail
                      all_goals go_meet
                      all_goals exact ⟨_, PMF.grow0 hown7 hm7 hat7, (hmF.trans (S := fun q => w.heap.size + 1 + 1 ≤ q) hm7 (fun i hi e => by have := (PMF.o0.lt i e).1; omega)).setCell (p := ⟨w.heap.size + 1 + 1, 0, none⟩) (Or.inl (Nat.le_refl _)) _⟩
                    case rest =>
                      obtain ⟨v', PMG, hmG⟩ := hcut
                      obtain ⟨wR22, rfl⟩ : ∃ wo : World, wo = wc := ⟨_, rfl⟩
                      clear dxR a0 a1 a2 z0 z1 z2 lA hsR hBR hbR
                      have k2 := kbA.later hmG (by omega)
                      obtain ⟨c0, c1, c2, c3, c4, c5, c6, c7, c8⟩ := cfg_cells k2
                      go_wp2_with fail
                      refine (ref_of c f _).mono ?_
                      rintro e wH ⟨rfl, m2⟩
                      have hmH := hmG.trans m2 (by simp)
                      have PMH := PMG.later m2
                      clear k2 m2 hmG PMG c0 c1 c2 c3 c4 c5 c6 c7 c8
                      have k3 := kbA.later hmH (by omega)
                      obtain ⟨c0, c1, c2, c3, c4, c5, c6, c7, c8⟩ := cfg_cells k3
                      go_wp2_with fail
                      refine (ref_of c f _).mono ?_
                      rintro e wI ⟨rfl, m3⟩
                      have hmI := hmH.trans m3 (by simp)
                      have PMI := PMH.later m3
                      clear k3 m3 hmH PMH c0 c1 c2 c3 c4 c5 c6 c7 c8
                      have hu := ups_step c f x (pst c ts l ii)
                      have hd := dns_step c f x (pst c ts l ii)
                      have he := eqs_step c f x (pst c ts l ii)
                      rw [HXL.out] at hu hd he
                      rw [if_pos (by omega)] at hu
                      rw [if_neg (by omega)] at hd
                      rw [if_neg (by omega)] at he
                      simp only [List.append_nil, List.nil_append, List.singleton_append] at hu hd he
                      have HU := Lib.hid hu
                      have HD := Lib.hid hd
                      have HE := Lib.hid he
                      clear hu hd he
                      go_wp2
                      go_roundw
                      case rel => exact ⟨ii + 1, v', v1, v2, by omega, by go_num, hmI, by rw [HP.out, HU.out, HD.out, HE.out]; exact PMI, by rw [HP.out, HD.out]; exact HV1.out⟩
                      case measure => simp [intOf]; omega
                  · have q2 : decide (c.lab f < (l : Int)) = false := by simp only [decide_eq_true_eq, decide_eq_false_iff_not]; omega
                    have q3 : decide ((l : Int) < c.lab f) = false := by simp only [decide_eq_true_eq, decide_eq_false_iff_not]; omega
                    have q4 : ((l : Int) == c.lab f) = true := by simp; omega
                    have k1 := kbA.later hmE (by omega)
                    obtain ⟨c0, c1, c2, c3, c4, c5, c6, c7, c8⟩ := cfg_cells k1
                    go_wp2_with fail
                    refine (ref_of c f _).mono ?_
                    rintro e wF ⟨rfl, m1⟩
                    have hmF := hmE.trans m1 (by simp)
                    have PMF := PME.later m1
                    clear k1 m1 hmE PME c0 c1 c2 c3 c4 c5 c6 c7 c8
                    have k2 := kbA.later hmF (by omega)
                    obtain ⟨c0, c1, c2, c3, c4, c5, c6, c7, c8⟩ := cfg_cells k2
                    go_wp2_with fail
                    refine (ref_of c f _).mono ?_
                    rintro e wG ⟨rfl, m2⟩
                    have hmG := hmF.trans m2 (by simp)
                    have PMG := PMF.later m2
                    clear k2 m2 hmF PMF c0 c1 c2 c3 c4 c5 c6 c7 c8
                    have k3 := kbA.later hmG (by omega)
                    obtain ⟨c0, c1, c2, c3, c4, c5, c6, c7, c8⟩ := cfg_cells k3
                    go_wp2_with fail
                    refine (ref_of c f _).mono ?_
                    rintro e wH ⟨rfl, m3⟩
                    have hmH := hmG.trans m3 (by simp)
                    have PMH := PMG.later m3
                    clear k3 m3 hmG PMG c0 c1 c2 c3 c4 c5 c6 c7 c8
                    have hu := ups_step c f x (pst c ts l ii)
                    have hd := dns_step c f x (pst c ts l ii)
                    have he := eqs_step c f x (pst c ts l ii)
                    rw [HXL.out] at hu hd he
                    rw [if_neg (by omega)] at hu
                    rw [if_neg (by omega)] at hd
                    rw [if_pos (by omega)] at he
                    simp only [List.append_nil, List.nil_append, List.singleton_append] at hu hd he
                    have HU := Lib.hid hu
                    have HD := Lib.hid hd
                    have HE := Lib.hid he
                    clear hu hd he
                    go_wp2_with fail
                    have dxR := HMB.out wH hmH
                    have a0 := PMH.blk.cell 0
                    have a1 := PMH.blk.cell 1
                    have a2 := PMH.blk.cell 2
                    simp at a0 a1 a2
                    have z0 := PMH.blk.fz 0
                    have z1 := PMH.blk.fz 1
                    have z2 := PMH.blk.fz 2
                    have lA := PMH.blk.lt
                    have hsR := hmH.size
                    have hBR : B < wH.heap.size := by omega
                    have hbR : w.heap.size + 1 + 1 + 1 ≤ wH.heap.size := by omega
                    go_region_law ((refine step_appendE rfl _ _ 39 rfl (w.heap.size + 1 + 1 + 1) 3 (.int .i64 0) 1 8 Try.underlying39 info_i rfl (by decide) v2 (c.eqs f (pst c ts l ii)).length ((c.eqs f (pst c ts l ii)).map (Value.int .i64)) (by rfl) PMH.o2 #[.int .i64 x] rfl (by rfl) (by simp [Value.oneCell']) (by unfold maxLen; omega) (by omega) (by omega) ?_; intro g gcap2 wz hown7 hm7 hat7; have zz := (PMH.blk.later hm7 (fun e => by have := (PMH.o2.lt _ e).1; omega)).fz 2; have yy := (PMH.blk.later hm7 (fun e => by have := (PMH.o2.lt _ e).1; omega)).cell 2; simp at yy))
                    all_goals
                      have PMI := PMH.grow2 hown7 hm7 hat7
                      have hmI := (hmH.trans (S := fun q => w.heap.size + 1 + 1 ≤ q) hm7 (fun i hi e => by have := (PMH.o2.lt i e).1; omega)).setCell (p := ⟨w.heap.size + 1 + 1, 2, none⟩) (Or.inl (Nat.le_refl _)) (.slice (some ⟨g, 0, none⟩) ((c.eqs f (pst c ts l ii)).length + 1) gcap2)
                      clear zz yy hown7 hm7 hat7
                      go_wp2
                      go_roundw
                      case rel => exact ⟨ii + 1, v0, v1, _, by omega, by go_num, hmI, by rw [HP.out, HU.out, HD.out, HE.out]; exact PMI, by rw [HP.out, HD.out]; exact HV1.out⟩
                      case measure => simp [intOf]; omega
                  · have q2 : decide (c.lab f < (l : Int)) = false := by simp only [decide_eq_true_eq, decide_eq_false_iff_not]; omega
                    have q3 : decide ((l : Int) < c.lab f) = true := by simp only [decide_eq_true_eq, decide_eq_false_iff_not]; omega
                    have q4 : ((l : Int) == c.lab f) = false := by simp; omega
                    have k1 := kbA.later hmE (by omega)
                    obtain ⟨c0, c1, c2, c3, c4, c5, c6, c7, c8⟩ := cfg_cells k1
                    go_wp2_with fail
                    refine (ref_of c f _).mono ?_
                    rintro e wF ⟨rfl, m1⟩
                    have hmF := hmE.trans m1 (by simp)
                    have PMF := PME.later m1
                    clear k1 m1 hmE PME c0 c1 c2 c3 c4 c5 c6 c7 c8
                    have k2 := kbA.later hmF (by omega)
                    obtain ⟨c0, c1, c2, c3, c4, c5, c6, c7, c8⟩ := cfg_cells k2
                    go_wp2_with fail
                    refine (ref_of c f _).mono ?_
                    rintro e wG ⟨rfl, m2⟩
                    have hmG := hmF.trans m2 (by simp)
                    have PMG := PMF.later m2
                    clear k2 m2 hmF PMF c0 c1 c2 c3 c4 c5 c6 c7 c8
                    have dxR := HMB.out wG hmG
                    have a0 := PMG.blk.cell 0
                    have a1 := PMG.blk.cell 1
                    have a2 := PMG.blk.cell 2
                    simp at a0 a1 a2
                    have z0 := PMG.blk.fz 0
                    have z1 := PMG.blk.fz 1
                    have z2 := PMG.blk.fz 2
                    have lA := PMG.blk.lt
                    have hsR := hmG.size
                    have hBR : B < wG.heap.size := by omega
                    have hbR : w.heap.size + 1 + 1 + 1 ≤ wG.heap.size := by omega
                    go_upto_region 24 with fail
                    go_cut [98] (fun _v w' => ∃ v', PlanMem w' (w.heap.size + 1 + 1 + 1) (w.heap.size + 1 + 1) v0 v' v2 (c.ups f (pst c ts l ii)) (x :: (c.dns f (pst c ts l ii)).reverse) (c.eqs f (pst c ts l ii)) ∧ Mod (fun q => w.heap.size + 1 + 1 ≤ q) wA w')
                    case first =>
                      have HVX := Lib.hid HV1.out
                      generalize hLe : (c.dns f (pst c ts l ii)).reverse = L1 at PMG hl1 HVX
                      have HLE := Lib.hid hLe
                      clear hLe
                      by_cases hnil : L1 = []
                      · obtain rfl : v1 = .slice none 0 0 := HVX.out hnil
                        subst hnil
                        go_region_law ((fail))
                        all_goals go_wp2_with fail
                        all_goals go_meet
                        all_goals rw [HLE.out]
                        all_goals exact ⟨_, PMG.pre1nil hbR, (((hmG.setCell (p := ⟨w.heap.size + 1 + 1, 1, none⟩) (Or.inl (Nat.le_refl _)) _).alloc _).drew)⟩
                      · obtain ⟨g1, cp1, rfl, hg1, -, -⟩ := slice_of_own PMG.o1 (List.length_pos_iff.2 hnil)
                        have hlp : 0 < L1.length := List.length_pos_iff.2 hnil
                        clear hnil
                        go_region_law ((refine step_prepend rfl _ _ 39 rfl (w.heap.size + 1 + 1 + 1) 3 (.int .i64 0) 8 Try.underlying39 info_i rfl (by rfl) (.int .i64 x) (by simp [Value.oneCell']) g1 _ cp1 (L1.map (Value.int .i64)) (by rfl) PMG.o1 (by intro u hu; obtain ⟨y, _, rfl⟩ := List.mem_map.1 hu; rfl) hlp (by unfold maxLen; omega) (by omega) ?_; intro g gcap2 wz hown7 hm7; have zz := (PMG.blk.later hm7 (by simp)).fz 1; have yy := (PMG.blk.later hm7 (by simp)).cell 1; simp at yy))
                        all_goals go_wp2_with fail
                        all_goals go_meet
                        all_goals rw [HLE.out]
                        all_goals exact ⟨_, PMG.pre1 (x := x) rfl (by simp; omega) hbR hown7 hm7, (hmG.trans (S := fun q => w.heap.size + 1 + 1 ≤ q) hm7 (by simp)).setCell (p := ⟨w.heap.size + 1 + 1, 1, none⟩) (Or.inl (Nat.le_refl _)) _⟩
                    case rest =>
                      obtain ⟨v', PMH, hmH⟩ := hcut
                      obtain ⟨wR24, rfl⟩ : ∃ wo : World, wo = wc := ⟨_, rfl⟩
                      clear dxR a0 a1 a2 z0 z1 z2 lA hsR hBR hbR
                      have k3 := kbA.later hmH (by omega)
                      obtain ⟨c0, c1, c2, c3, c4, c5, c6, c7, c8⟩ := cfg_cells k3
                      go_wp2_with fail
                      refine (ref_of c f _).mono ?_
                      rintro e wI ⟨rfl, m3⟩
                      have hmI := hmH.trans m3 (by simp)
                      have PMI := PMH.later m3
                      clear k3 m3 hmH PMH c0 c1 c2 c3 c4 c5 c6 c7 c8
                      have hu := ups_step c f x (pst c ts l ii)
                      have hd := dns_step c f x (pst c ts l ii)
                      have he := eqs_step c f x (pst c ts l ii)
                      rw [HXL.out] at hu hd he
                      rw [if_neg (by omega)] at hu
                      rw [if_pos (by omega)] at hd
                      rw [if_neg (by omega)] at he
                      simp only [List.append_nil, List.nil_append, List.singleton_append] at hu hd he
                      have HU := Lib.hid hu
                      have HD := Lib.hid hd
                      have HE := Lib.hid he
                      clear hu hd he
                      go_wp2
                      go_roundw
                      case rel => exact ⟨ii + 1, v0, v', v2, by omega, by go_num, hmI, by rw [HP.out, HU.out, HD.out, HE.out]; exact PMI, by rw [HP.out, HD.out]; exact fun e => absurd e (by simp)⟩
                      case measure => simp [intOf]; omega
                · have q1 : (c.lab x != (l : Int)) = true := by simp [hxl]
                  have hP : pst c ts l (ii + 1) = pst c ts l ii := by rw [HPS.out, if_neg hxl]; simp
                  have HP := Lib.hid hP
                  clear hP hxl HPS
                  go_wp2
                  go_roundw
                  case rel => exact ⟨ii + 1, v0, v1, v2, by omega, by go_num, hmE, by rw [HP.out]; exact PME, by rw [HP.out]; exact HV1.out⟩
                  case measure => simp [intOf]; omega
            · have hP : pst c ts l ii = byl c ts (l + 1) := pst_all c ts l ii (by have := HN.out; omega)
              rw [hP] at PM HV1
              clear hP
              go_wp2
              go_roundw
              case rel => exact ⟨l + 1, v0, v1, v2, by omega, by go_num, hmod, PM, HV1.out⟩
              case measure => simp [intOf]; omega
        · have hN : c.nodes.toNat = l := by omega
          have HNN := Lib.hid hN
          have krC := krA.later hmC (by omega)
          have mmC : Mod (fun _ => False) w wC := mmA.trans hmC (fun i hi h => by omega)
          obtain ⟨a0, n0, e0, rfl⟩ := own_form PMC.o0
          obtain ⟨a1, n1, e1, rfl⟩ := own_form PMC.o1
          obtain ⟨a2, n2, e2, rfl⟩ := own_form PMC.o2
          have y0 := PMC.blk.cell 0
          have y1 := PMC.blk.cell 1
          have y2 := PMC.blk.cell 2
          have x0 := krC.cell 0
          have x1 := krC.cell 1
          have x2 := krC.cell 2
          simp at y0 y1 y2 x0 x1 x2
          have z0 := krC.fz 0
          have z1 := krC.fz 1
          have z2 := krC.fz 2
          clear hN HV1
          go_wp2
          have ks := ((krC.set 0 (.slice a0 n0 e0)).set 1 (.slice a1 n1 e1)).set 2 (.slice a2 n2 e2)
          have ms := ((mmC.setCell (p := ⟨w.heap.size + 1, 0, none⟩) (Or.inr (by simp)) (.slice a0 n0 e0)).setCell (p := ⟨w.heap.size + 1, 1, none⟩) (Or.inr (by simp)) (.slice a1 n1 e1)).setCell (p := ⟨w.heap.size + 1, 2, none⟩) (Or.inr (by simp)) (.slice a2 n2 e2)
          have s0 := SlV.own (ownsRow_setCell_below (a := ⟨w.heap.size + 1, 2, none⟩) (ownsRow_setCell_below (a := ⟨w.heap.size + 1, 1, none⟩) (ownsRow_setCell_below (a := ⟨w.heap.size + 1, 0, none⟩) PMC.o0 (by simp) (.slice a0 n0 e0)) (by simp) (.slice a1 n1 e1)) (by simp) (.slice a2 n2 e2))
          have s1 := SlV.own (ownsRow_setCell_below (a := ⟨w.heap.size + 1, 2, none⟩) (ownsRow_setCell_below (a := ⟨w.heap.size + 1, 1, none⟩) (ownsRow_setCell_below (a := ⟨w.heap.size + 1, 0, none⟩) PMC.o1 (by simp) (.slice a0 n0 e0)) (by simp) (.slice a1 n1 e1)) (by simp) (.slice a2 n2 e2))
          have s2 := SlV.own (ownsRow_setCell_below (a := ⟨w.heap.size + 1, 2, none⟩) (ownsRow_setCell_below (a := ⟨w.heap.size + 1, 1, none⟩) (ownsRow_setCell_below (a := ⟨w.heap.size + 1, 0, none⟩) PMC.o2 (by simp) (.slice a0 n0 e0)) (by simp) (.slice a1 n1 e1)) (by simp) (.slice a2 n2 e2))
          simp at ks
          generalize ((wC.setCell ⟨w.heap.size + 1, 0, none⟩ (.slice a0 n0 e0)).setCell ⟨w.heap.size + 1, 1, none⟩ (.slice a1 n1 e1)).setCell ⟨w.heap.size + 1, 2, none⟩ (.slice a2 n2 e2) = wf at ks ms s0 s1 s2 ⊢
          have t0 := ks.cell 0
          have t1 := ks.cell 1
          have t2 := ks.cell 2
          simp at t0 t1 t2
          exact bodyPost_ret (v := .tuple #[.agg #[.slice a0 n0 e0, .slice a1 n1 e1, .slice a2 n2 e2], .int .i64 0]) (by simp [results, Try.results44, go_sem, t0, t1, t2]) rfl ⟨ms, Or.inr ⟨HVAL.out, _, _, _, rfl, by rw [HNN.out]; exact s0, by rw [HNN.out]; exact s1, by rw [HNN.out]; exact s2⟩⟩

end Go.Proofs.Ytonnooenebfbeaa
