/- The contract of model.Open. -/
import Derived.Test.YtonnooenebfbeaaMdlTook
namespace Go.Proofs.Ytonnooenebfbeaa
open Go.RowKit

theorem info_i0 : (Try.prog.info? 3).map (fun i => (i.zero, i.size, i.bytes)) = some (some (.int .i64 0), 1, 8) := by kernel_rfl
theorem info_b0 : (Try.prog.info? 4).map (fun i => (i.zero, i.size, i.bytes)) = some (some (.bool false), 1, 1) := by kernel_rfl

theorem blk_of_full {w : World} {base g n : Nat} {e : TypeId} {z : Value} (hz : z.cells = #[z]) (h : w.ownsRow base e 1 (.slice (some ⟨g, 0, none⟩) n n) n (madeCells z.cells (n * 1)).toList) : Blk w g (Array.replicate n z) e := by
  rcases h.2 with ⟨h, -⟩ | ⟨g', cap, cur, hv, -, hh, -, -, hs, ht⟩
  · cases h
  · simp only [Value.slice.injEq, Option.some.injEq, Addr.mk.injEq, and_true, true_and] at hv
    obtain ⟨rfl, rfl⟩ := hv
    have e1 : cur = Array.replicate n z := by
      apply Array.toList_inj.1
      have h2 : cur.toList.take (n * 1) = cur.toList := List.take_of_length_le (by simp; omega)
      rw [h2] at ht
      rw [ht, hz]
      apply List.ext_getElem?
      intro j
      simp only [madeCells, Nat.mul_one, Array.toList_map, Array.toList_range, List.getElem?_map, Array.toList_replicate, List.getElem?_replicate]
      by_cases hj : j < n
      · rw [List.getElem?_range hj, if_pos hj]
        simp [Nat.mod_one]
      · rw [List.getElem?_eq_none (by simp; omega), if_neg hj]
        rfl
    rw [← e1]
    exact hh

theorem run_made_u {c : Cfg} (N : Nat) (hN : c.nodes = (N : Int)) (w : World) : ∃ w', (Instr.makeSlice 39 (.int .i64 (N : Int)) (.int .i64 (N : Int))).run Try.prog w = .ok (.slice (some ⟨w.heap.size, 0, none⟩) N N) w' ∧ Blk w' w.heap.size (Array.replicate N (.int .i64 0)) 3 ∧ Mod (fun _ => False) w w' := by
  obtain ⟨i, hi, hz, hsize, hby⟩ := info_parts info_i0
  have hb := c.nodes_bd
  obtain ⟨w', hr, ho, hg⟩ := run_makeSlice_full (P := Try.prog) w w.heap.size 39 3 i (.int .i64 0) 1 Try.underlying39 hi hz hsize .i64 .i64 N (by omega) (by rw [hby]; omega) (by unfold maxLen; omega) (Nat.le_refl _)
  exact ⟨w', hr, blk_of_full rfl ho, (Mod.refl _ w).grown hg (fun k hk => by cases hk)⟩
theorem run_made_c {c : Cfg} (N : Nat) (hN : c.nodes = (N : Int)) (w : World) : ∃ w', (Instr.makeSlice 22 (.int .i64 (N : Int)) (.int .i64 (N : Int))).run Try.prog w = .ok (.slice (some ⟨w.heap.size, 0, none⟩) N N) w' ∧ Blk w' w.heap.size (Array.replicate N (.bool false)) 4 ∧ Mod (fun _ => False) w w' := by
  obtain ⟨i, hi, hz, hsize, hby⟩ := info_parts info_b0
  have hb := c.nodes_bd
  obtain ⟨w', hr, ho, hg⟩ := run_makeSlice_full (P := Try.prog) w w.heap.size 22 4 i (.bool false) 1 Try.underlying22 hi hz hsize .i64 .i64 N (by omega) (by rw [hby]; omega) (by unfold maxLen; omega) (Nat.le_refl _)
  exact ⟨w', hr, blk_of_full rfl ho, (Mod.refl _ w).grown hg (fun k hk => by cases hk)⟩

set_option maxRecDepth 100000 in
set_option maxHeartbeats 8000000 in
theorem run_MOpen (c : Cfg) (w : World) :
    Calls Try.prog 10 #[.agg c.cells] w fun e w' => ∃ p, e = .returned (.tuple #[p, .int .i64 c.chk]) ∧ Mod (fun _ => False) w w' ∧
      ((c.chk ≠ 0 ∧ p = .pointer none) ∨ (c.chk = 0 ∧ ∃ b bq bu bc, p = .pointer (some ⟨b, 0, none⟩) ∧
        MdlIn w' b bq bu bc (fun _ _ => .slice none 0 0) c 0 (fun _ _ => []) (List.replicate c.nodes.toNat 0) (List.replicate c.nodes.toNat false) ∧ ∀ g, own4 b bq bu bc (fun _ _ => .slice none 0 0) g → w.heap.size ≤ g)) := by
  have kb := Blk.made w c.cells 25
  have m0 : Mod (fun _ => False) w (w.alloc (.cells c.cells 25)) := (Mod.refl _ _).alloc _
  simp only [Cfg.cells] at kb m0 ⊢
  generalize hE : c.chk = E
  have HE1 := Lib.hid hE
  clear hE
  go_enter Try.func10, Try.ntmps10
  go_wp2_with fail
  refine (run_Check c _).mono ?_
  rw [HE1.out]
  rintro e w1 ⟨rfl, m1⟩
  have k1 := kb.later m1 (by simp)
  have mm1 := m0.trans m1 (by simp)
  clear kb m0 m1
  by_cases hz : E = 0
  · have HE := Lib.hid hz
    have q1 : (E == 0) = true := by simp [hz]
    have q2 : (E != 0) = false := by simp [hz]
    subst hz
    obtain ⟨c0, c1, c2, c3, c4, c5, c6, c7, c8⟩ := cfg_cells k1
    go_wp2_with fail
    refine (run_Nodes c _).mono ?_
    obtain ⟨N, hN⟩ : ∃ N : Nat, c.nodes = (N : Int) := ⟨c.nodes.toNat, by have := c.nodes_bd; omega⟩
    rw [hN]
    rintro e w2 ⟨rfl, m2⟩
    have k2 := k1.later m2 (by simp)
    have om2 := mm1.trans m2 (by simp)
    have HTN := Lib.hid (show c.nodes.toNat = N by omega)
    clear k1 mm1 m2 c0 c1 c2 c3 c4 c5 c6 c7 c8
    go_upto_region 5 with fail
    refine wp_region_held_drew (S := fun w' => w'.cell? ⟨w.heap.size, 0, none⟩ = some (Value.int .i64 c.W) ∧ w'.cell? ⟨w.heap.size, 1, none⟩ = some (Value.int .i64 c.H) ∧ w'.cell? ⟨w.heap.size, 2, none⟩ = some (Value.int .i64 c.Lanes) ∧ w'.cell? ⟨w.heap.size, 3, none⟩ = some (Value.int .i64 c.Depth) ∧ w'.cell? ⟨w.heap.size, 4, none⟩ = some (Value.int .i64 c.Ring) ∧ w'.cell? ⟨w.heap.size, 5, none⟩ = some (Value.int .i64 c.Inbox) ∧ w'.cell? ⟨w.heap.size, 6, none⟩ = some (Value.int .i64 c.Bound) ∧ w'.cell? ⟨w.heap.size, 7, none⟩ = some (Value.bool c.West) ∧ w'.cell? ⟨w.heap.size, 8, none⟩ = some (Value.bool c.Cast)) (by kernel_rfl) ?_ (fun hHeld => ?_)
    · exact cfg_cells k2.drew
    have mm0 : Mod (fun _ => False) w2 w2.drew := (Mod.refl _ _).drew
    generalize w2.drew = w3 at mm0 hHeld ⊢
    refine take_run 0 (v := ?_) rfl (by kernel_rfl) (by kernel_rfl) (by kernel_rfl) (fun _ _ _ h => h) (by rfl) ?_ (by assumption) ?_
    rotate_left
    · (intro wx hSw; (try dsimp only at hSw); go_simp; try with_reducible rfl)
    try simp only [Act.put, List.setIfInBounds_toArray, List.set_cons_zero, List.set_cons_succ]
    refine take_run 2 (v := ?_) rfl (by kernel_rfl) (by kernel_rfl) (by kernel_rfl) (fun _ _ _ h => h) (by rfl) ?_ (by assumption) ?_
    rotate_left
    · (intro wx hSw; (try dsimp only at hSw); go_simp; try with_reducible rfl)
    try simp only [Act.put, List.setIfInBounds_toArray, List.set_cons_zero, List.set_cons_succ]
    refine take_run 4 (v := ?_) rfl (by kernel_rfl) (by kernel_rfl) (by kernel_rfl) (fun _ _ _ h => h) (by rfl) ?_ (by assumption) ?_
    rotate_left
    · (intro wx hSw; (try dsimp only at hSw); go_simp; try with_reducible rfl)
    try simp only [Act.put, List.setIfInBounds_toArray, List.set_cons_zero, List.set_cons_succ]
    refine take_three 1 3 5 rfl rfl rfl (by kernel_rfl) (fun K hK => ?_) (fun K hK => ?_) (fun K hK => ?_)
    · have hV : Mod (fun _ => False) w3 (w3.alloc (.map #[] 0)) := (Mod.refl _ _).alloc _
      have fq := MapV.made w3
      have sq : w3.heap.size < (w3.alloc (.map #[] 0)).heap.size := by simp
      refine step_mkmap rfl _ rfl ?_
      generalize w3.alloc (.map #[] 0) = wx1 at hV fq sq ⊢
      have mm1 := mm0.trans hV (by simp)
      refine hK.out _ _ ?_ (fun hHeld1 => ?_)
      · exact cfg_cells (k2.later mm1 (by simp))
      clear hV hK K
      try simp only [Act.put, List.setIfInBounds_toArray, List.set_cons_zero, List.set_cons_succ]
      refine take_two 3 5 rfl rfl (by kernel_rfl) (fun K hK => ?_) (fun K hK => ?_)
      · obtain ⟨wx2, hr2, fu, hV⟩ := run_made_u N hN wx1
        have su : wx1.heap.size < wx2.heap.size := fu.lt
        refine step_make rfl _ _ 39 rfl (by rfl) (by rfl) hr2 ?_
        have mm2 := mm1.trans hV (by simp)
        have fq := fq.later hV (by simp)
        refine hK.out _ _ ?_ (fun hHeld2 => ?_)
        · exact cfg_cells (k2.later mm2 (by simp))
        clear hV hK K
        try simp only [Act.put, List.setIfInBounds_toArray, List.set_cons_zero, List.set_cons_succ]
        refine take_call 5 rfl (by kernel_rfl) (fun K hK => ?_)
        obtain ⟨wx3, hr3, fc, hV⟩ := run_made_c N hN wx2
        have sc : wx2.heap.size < wx3.heap.size := fc.lt
        refine step_make rfl _ _ 22 rfl (by rfl) (by rfl) hr3 ?_
        have mm3 := mm2.trans hV (by simp)
        have fq := fq.later hV (by simp)
        have fu := fu.later hV (by simp)
        refine hK.out _ _ ?_ (fun hHeld3 => ?_)
        · exact cfg_cells (k2.later mm3 (by simp))
        clear hV hK K
        try simp only [Act.put, List.setIfInBounds_toArray, List.set_cons_zero, List.set_cons_succ]
        refine take_run 6 (v := ?_) rfl (by kernel_rfl) (by kernel_rfl) (by kernel_rfl) (fun _ _ _ h => h) (by rfl) ?_ (by assumption) ?_
        rotate_left
        · (intro wx hSw; (try dsimp only at hSw); go_simp; try with_reducible rfl)
        try simp only [Act.put, List.setIfInBounds_toArray, List.set_cons_zero, List.set_cons_succ]
        refine take_call 7 rfl (by kernel_rfl) (fun K hK => ?_)
        go_simp
        have hb := Blk.made wx3 #[.int .i64 c.W, .int .i64 c.H, .int .i64 c.Lanes, .int .i64 c.Depth, .int .i64 c.Ring, .int .i64 c.Inbox, .int .i64 c.Bound, .bool c.West, .bool c.Cast, .map (some w3.heap.size), .slice (some ⟨wx1.heap.size, 0, none⟩) N N, .slice (some ⟨wx2.heap.size, 0, none⟩) N N] 66
        have hV : Mod (fun _ => False) wx3 (wx3.alloc (.cells #[.int .i64 c.W, .int .i64 c.H, .int .i64 c.Lanes, .int .i64 c.Depth, .int .i64 c.Ring, .int .i64 c.Inbox, .int .i64 c.Bound, .bool c.West, .bool c.Cast, .map (some w3.heap.size), .slice (some ⟨wx1.heap.size, 0, none⟩) N N, .slice (some ⟨wx2.heap.size, 0, none⟩) N N] 66)) := (Mod.refl _ _).alloc _
        generalize wx3.alloc (.cells #[.int .i64 c.W, .int .i64 c.H, .int .i64 c.Lanes, .int .i64 c.Depth, .int .i64 c.Ring, .int .i64 c.Inbox, .int .i64 c.Bound, .bool c.West, .bool c.Cast, .map (some w3.heap.size), .slice (some ⟨wx1.heap.size, 0, none⟩) N N, .slice (some ⟨wx2.heap.size, 0, none⟩) N N] 66) = wz at hb hV ⊢
        have mmz := mm3.trans hV (by simp)
        refine hK.out _ _ ?_ (fun hHeld7 => ?_)
        · exact cfg_cells (k2.later mmz (by simp))
        clear hK K
        try simp only [Act.put, List.setIfInBounds_toArray, List.set_cons_zero, List.set_cons_succ]
        refine take_run 8 (v := ?_) rfl (by kernel_rfl) (by kernel_rfl) (by kernel_rfl) (fun _ _ _ h => h) (by rfl) ?_ (by assumption) ?_
        rotate_left
        · (intro wx hSw; (try dsimp only at hSw); go_simp; try with_reducible rfl)
        try simp only [Act.put, List.setIfInBounds_toArray, List.set_cons_zero, List.set_cons_succ]
        refine take_run 9 (v := ?_) rfl (by kernel_rfl) (by kernel_rfl) (by kernel_rfl) (fun _ _ _ h => h) (by rfl) ?_ (by assumption) ?_
        rotate_left
        · (intro wx hSw; (try dsimp only at hSw); go_simp; try with_reducible rfl)
        try simp only [Act.put, List.setIfInBounds_toArray, List.set_cons_zero, List.set_cons_succ]
        refine wpAnyH_done (by kernel_rfl) ?_ _
        have h0 := mm0.size
        have h1 := mm1.size
        have h2 := om2.size
        have hI : MdlIn wz wx3.heap.size (w3.heap.size) (wx1.heap.size) (wx2.heap.size) (fun _ _ => .slice none 0 0) c 0 (fun _ _ => []) (List.replicate N 0) (List.replicate N false) :=
          ⟨by simpa using hb, (fq.later hV (by simp)), by simpa using fu.later hV (by simp), by simpa using fc.later hV (by simp), by simpa using hN.symm, by simpa using hN.symm, fun _ _ => QS.nil _, fun _ _ _ _ g hg => by simp [qblk] at hg, fun _ _ g hg => by simp [qblk] at hg, by omega, fun _ _ => Nat.zero_le _, fun u hu => by have := List.eq_of_mem_replicate hu; omega⟩
        have HI := Lib.hid hI
        have hO : ∀ g, own4 wx3.heap.size (w3.heap.size) (wx1.heap.size) (wx2.heap.size) (fun _ _ => .slice none 0 0) g → w.heap.size ≤ g := by
          rintro g (e | e | e | e | ⟨i, j, hg⟩)
          · omega
          · omega
          · omega
          · omega
          · simp [qblk] at hg
        have HO := Lib.hid hO
        have HMZ := Lib.hid (om2.trans mmz (by simp))
        clear hI hO hb hV fq fu fc
        go_wp2
        go_ret2
        exact ⟨_, rfl, HMZ.out, wx3.heap.size, rfl, _, _, _, HI.out, HO.out⟩
      · obtain ⟨wx2, hr2, fc, hV⟩ := run_made_c N hN wx1
        have sc : wx1.heap.size < wx2.heap.size := fc.lt
        refine step_make rfl _ _ 22 rfl (by rfl) (by rfl) hr2 ?_
        have mm2 := mm1.trans hV (by simp)
        have fq := fq.later hV (by simp)
        refine hK.out _ _ ?_ (fun hHeld2 => ?_)
        · exact cfg_cells (k2.later mm2 (by simp))
        clear hV hK K
        try simp only [Act.put, List.setIfInBounds_toArray, List.set_cons_zero, List.set_cons_succ]
        refine take_call 3 rfl (by kernel_rfl) (fun K hK => ?_)
        obtain ⟨wx3, hr3, fu, hV⟩ := run_made_u N hN wx2
        have su : wx2.heap.size < wx3.heap.size := fu.lt
        refine step_make rfl _ _ 39 rfl (by rfl) (by rfl) hr3 ?_
        have mm3 := mm2.trans hV (by simp)
        have fq := fq.later hV (by simp)
        have fc := fc.later hV (by simp)
        refine hK.out _ _ ?_ (fun hHeld3 => ?_)
        · exact cfg_cells (k2.later mm3 (by simp))
        clear hV hK K
        try simp only [Act.put, List.setIfInBounds_toArray, List.set_cons_zero, List.set_cons_succ]
        refine take_run 6 (v := ?_) rfl (by kernel_rfl) (by kernel_rfl) (by kernel_rfl) (fun _ _ _ h => h) (by rfl) ?_ (by assumption) ?_
        rotate_left
        · (intro wx hSw; (try dsimp only at hSw); go_simp; try with_reducible rfl)
        try simp only [Act.put, List.setIfInBounds_toArray, List.set_cons_zero, List.set_cons_succ]
        refine take_call 7 rfl (by kernel_rfl) (fun K hK => ?_)
        go_simp
        have hb := Blk.made wx3 #[.int .i64 c.W, .int .i64 c.H, .int .i64 c.Lanes, .int .i64 c.Depth, .int .i64 c.Ring, .int .i64 c.Inbox, .int .i64 c.Bound, .bool c.West, .bool c.Cast, .map (some w3.heap.size), .slice (some ⟨wx2.heap.size, 0, none⟩) N N, .slice (some ⟨wx1.heap.size, 0, none⟩) N N] 66
        have hV : Mod (fun _ => False) wx3 (wx3.alloc (.cells #[.int .i64 c.W, .int .i64 c.H, .int .i64 c.Lanes, .int .i64 c.Depth, .int .i64 c.Ring, .int .i64 c.Inbox, .int .i64 c.Bound, .bool c.West, .bool c.Cast, .map (some w3.heap.size), .slice (some ⟨wx2.heap.size, 0, none⟩) N N, .slice (some ⟨wx1.heap.size, 0, none⟩) N N] 66)) := (Mod.refl _ _).alloc _
        generalize wx3.alloc (.cells #[.int .i64 c.W, .int .i64 c.H, .int .i64 c.Lanes, .int .i64 c.Depth, .int .i64 c.Ring, .int .i64 c.Inbox, .int .i64 c.Bound, .bool c.West, .bool c.Cast, .map (some w3.heap.size), .slice (some ⟨wx2.heap.size, 0, none⟩) N N, .slice (some ⟨wx1.heap.size, 0, none⟩) N N] 66) = wz at hb hV ⊢
        have mmz := mm3.trans hV (by simp)
        refine hK.out _ _ ?_ (fun hHeld7 => ?_)
        · exact cfg_cells (k2.later mmz (by simp))
        clear hK K
        try simp only [Act.put, List.setIfInBounds_toArray, List.set_cons_zero, List.set_cons_succ]
        refine take_run 8 (v := ?_) rfl (by kernel_rfl) (by kernel_rfl) (by kernel_rfl) (fun _ _ _ h => h) (by rfl) ?_ (by assumption) ?_
        rotate_left
        · (intro wx hSw; (try dsimp only at hSw); go_simp; try with_reducible rfl)
        try simp only [Act.put, List.setIfInBounds_toArray, List.set_cons_zero, List.set_cons_succ]
        refine take_run 9 (v := ?_) rfl (by kernel_rfl) (by kernel_rfl) (by kernel_rfl) (fun _ _ _ h => h) (by rfl) ?_ (by assumption) ?_
        rotate_left
        · (intro wx hSw; (try dsimp only at hSw); go_simp; try with_reducible rfl)
        try simp only [Act.put, List.setIfInBounds_toArray, List.set_cons_zero, List.set_cons_succ]
        refine wpAnyH_done (by kernel_rfl) ?_ _
        have h0 := mm0.size
        have h1 := mm1.size
        have h2 := om2.size
        have hI : MdlIn wz wx3.heap.size (w3.heap.size) (wx2.heap.size) (wx1.heap.size) (fun _ _ => .slice none 0 0) c 0 (fun _ _ => []) (List.replicate N 0) (List.replicate N false) :=
          ⟨by simpa using hb, (fq.later hV (by simp)), by simpa using fu.later hV (by simp), by simpa using fc.later hV (by simp), by simpa using hN.symm, by simpa using hN.symm, fun _ _ => QS.nil _, fun _ _ _ _ g hg => by simp [qblk] at hg, fun _ _ g hg => by simp [qblk] at hg, by omega, fun _ _ => Nat.zero_le _, fun u hu => by have := List.eq_of_mem_replicate hu; omega⟩
        have HI := Lib.hid hI
        have hO : ∀ g, own4 wx3.heap.size (w3.heap.size) (wx2.heap.size) (wx1.heap.size) (fun _ _ => .slice none 0 0) g → w.heap.size ≤ g := by
          rintro g (e | e | e | e | ⟨i, j, hg⟩)
          · omega
          · omega
          · omega
          · omega
          · simp [qblk] at hg
        have HO := Lib.hid hO
        have HMZ := Lib.hid (om2.trans mmz (by simp))
        clear hI hO hb hV fq fu fc
        go_wp2
        go_ret2
        exact ⟨_, rfl, HMZ.out, wx3.heap.size, rfl, _, _, _, HI.out, HO.out⟩
    · obtain ⟨wx1, hr1, fu, hV⟩ := run_made_u N hN w3
      have su : w3.heap.size < wx1.heap.size := fu.lt
      refine step_make rfl _ _ 39 rfl (by rfl) (by rfl) hr1 ?_
      have mm1 := mm0.trans hV (by simp)
      refine hK.out _ _ ?_ (fun hHeld1 => ?_)
      · exact cfg_cells (k2.later mm1 (by simp))
      clear hV hK K
      try simp only [Act.put, List.setIfInBounds_toArray, List.set_cons_zero, List.set_cons_succ]
      refine take_two 1 5 rfl rfl (by kernel_rfl) (fun K hK => ?_) (fun K hK => ?_)
      · have hV : Mod (fun _ => False) wx1 (wx1.alloc (.map #[] 0)) := (Mod.refl _ _).alloc _
        have fq := MapV.made wx1
        have sq : wx1.heap.size < (wx1.alloc (.map #[] 0)).heap.size := by simp
        refine step_mkmap rfl _ rfl ?_
        generalize wx1.alloc (.map #[] 0) = wx2 at hV fq sq ⊢
        have mm2 := mm1.trans hV (by simp)
        have fu := fu.later hV (by simp)
        refine hK.out _ _ ?_ (fun hHeld2 => ?_)
        · exact cfg_cells (k2.later mm2 (by simp))
        clear hV hK K
        try simp only [Act.put, List.setIfInBounds_toArray, List.set_cons_zero, List.set_cons_succ]
        refine take_call 5 rfl (by kernel_rfl) (fun K hK => ?_)
        obtain ⟨wx3, hr3, fc, hV⟩ := run_made_c N hN wx2
        have sc : wx2.heap.size < wx3.heap.size := fc.lt
        refine step_make rfl _ _ 22 rfl (by rfl) (by rfl) hr3 ?_
        have mm3 := mm2.trans hV (by simp)
        have fu := fu.later hV (by simp)
        have fq := fq.later hV (by simp)
        refine hK.out _ _ ?_ (fun hHeld3 => ?_)
        · exact cfg_cells (k2.later mm3 (by simp))
        clear hV hK K
        try simp only [Act.put, List.setIfInBounds_toArray, List.set_cons_zero, List.set_cons_succ]
        refine take_run 6 (v := ?_) rfl (by kernel_rfl) (by kernel_rfl) (by kernel_rfl) (fun _ _ _ h => h) (by rfl) ?_ (by assumption) ?_
        rotate_left
        · (intro wx hSw; (try dsimp only at hSw); go_simp; try with_reducible rfl)
        try simp only [Act.put, List.setIfInBounds_toArray, List.set_cons_zero, List.set_cons_succ]
        refine take_call 7 rfl (by kernel_rfl) (fun K hK => ?_)
        go_simp
        have hb := Blk.made wx3 #[.int .i64 c.W, .int .i64 c.H, .int .i64 c.Lanes, .int .i64 c.Depth, .int .i64 c.Ring, .int .i64 c.Inbox, .int .i64 c.Bound, .bool c.West, .bool c.Cast, .map (some wx1.heap.size), .slice (some ⟨w3.heap.size, 0, none⟩) N N, .slice (some ⟨wx2.heap.size, 0, none⟩) N N] 66
        have hV : Mod (fun _ => False) wx3 (wx3.alloc (.cells #[.int .i64 c.W, .int .i64 c.H, .int .i64 c.Lanes, .int .i64 c.Depth, .int .i64 c.Ring, .int .i64 c.Inbox, .int .i64 c.Bound, .bool c.West, .bool c.Cast, .map (some wx1.heap.size), .slice (some ⟨w3.heap.size, 0, none⟩) N N, .slice (some ⟨wx2.heap.size, 0, none⟩) N N] 66)) := (Mod.refl _ _).alloc _
        generalize wx3.alloc (.cells #[.int .i64 c.W, .int .i64 c.H, .int .i64 c.Lanes, .int .i64 c.Depth, .int .i64 c.Ring, .int .i64 c.Inbox, .int .i64 c.Bound, .bool c.West, .bool c.Cast, .map (some wx1.heap.size), .slice (some ⟨w3.heap.size, 0, none⟩) N N, .slice (some ⟨wx2.heap.size, 0, none⟩) N N] 66) = wz at hb hV ⊢
        have mmz := mm3.trans hV (by simp)
        refine hK.out _ _ ?_ (fun hHeld7 => ?_)
        · exact cfg_cells (k2.later mmz (by simp))
        clear hK K
        try simp only [Act.put, List.setIfInBounds_toArray, List.set_cons_zero, List.set_cons_succ]
        refine take_run 8 (v := ?_) rfl (by kernel_rfl) (by kernel_rfl) (by kernel_rfl) (fun _ _ _ h => h) (by rfl) ?_ (by assumption) ?_
        rotate_left
        · (intro wx hSw; (try dsimp only at hSw); go_simp; try with_reducible rfl)
        try simp only [Act.put, List.setIfInBounds_toArray, List.set_cons_zero, List.set_cons_succ]
        refine take_run 9 (v := ?_) rfl (by kernel_rfl) (by kernel_rfl) (by kernel_rfl) (fun _ _ _ h => h) (by rfl) ?_ (by assumption) ?_
        rotate_left
        · (intro wx hSw; (try dsimp only at hSw); go_simp; try with_reducible rfl)
        try simp only [Act.put, List.setIfInBounds_toArray, List.set_cons_zero, List.set_cons_succ]
        refine wpAnyH_done (by kernel_rfl) ?_ _
        have h0 := mm0.size
        have h1 := mm1.size
        have h2 := om2.size
        have hI : MdlIn wz wx3.heap.size (wx1.heap.size) (w3.heap.size) (wx2.heap.size) (fun _ _ => .slice none 0 0) c 0 (fun _ _ => []) (List.replicate N 0) (List.replicate N false) :=
          ⟨by simpa using hb, (fq.later hV (by simp)), by simpa using fu.later hV (by simp), by simpa using fc.later hV (by simp), by simpa using hN.symm, by simpa using hN.symm, fun _ _ => QS.nil _, fun _ _ _ _ g hg => by simp [qblk] at hg, fun _ _ g hg => by simp [qblk] at hg, by omega, fun _ _ => Nat.zero_le _, fun u hu => by have := List.eq_of_mem_replicate hu; omega⟩
        have HI := Lib.hid hI
        have hO : ∀ g, own4 wx3.heap.size (wx1.heap.size) (w3.heap.size) (wx2.heap.size) (fun _ _ => .slice none 0 0) g → w.heap.size ≤ g := by
          rintro g (e | e | e | e | ⟨i, j, hg⟩)
          · omega
          · omega
          · omega
          · omega
          · simp [qblk] at hg
        have HO := Lib.hid hO
        have HMZ := Lib.hid (om2.trans mmz (by simp))
        clear hI hO hb hV fq fu fc
        go_wp2
        go_ret2
        exact ⟨_, rfl, HMZ.out, wx3.heap.size, rfl, _, _, _, HI.out, HO.out⟩
      · obtain ⟨wx2, hr2, fc, hV⟩ := run_made_c N hN wx1
        have sc : wx1.heap.size < wx2.heap.size := fc.lt
        refine step_make rfl _ _ 22 rfl (by rfl) (by rfl) hr2 ?_
        have mm2 := mm1.trans hV (by simp)
        have fu := fu.later hV (by simp)
        refine hK.out _ _ ?_ (fun hHeld2 => ?_)
        · exact cfg_cells (k2.later mm2 (by simp))
        clear hV hK K
        try simp only [Act.put, List.setIfInBounds_toArray, List.set_cons_zero, List.set_cons_succ]
        refine take_call 1 rfl (by kernel_rfl) (fun K hK => ?_)
        have hV : Mod (fun _ => False) wx2 (wx2.alloc (.map #[] 0)) := (Mod.refl _ _).alloc _
        have fq := MapV.made wx2
        have sq : wx2.heap.size < (wx2.alloc (.map #[] 0)).heap.size := by simp
        refine step_mkmap rfl _ rfl ?_
        generalize wx2.alloc (.map #[] 0) = wx3 at hV fq sq ⊢
        have mm3 := mm2.trans hV (by simp)
        have fu := fu.later hV (by simp)
        have fc := fc.later hV (by simp)
        refine hK.out _ _ ?_ (fun hHeld3 => ?_)
        · exact cfg_cells (k2.later mm3 (by simp))
        clear hV hK K
        try simp only [Act.put, List.setIfInBounds_toArray, List.set_cons_zero, List.set_cons_succ]
        refine take_run 6 (v := ?_) rfl (by kernel_rfl) (by kernel_rfl) (by kernel_rfl) (fun _ _ _ h => h) (by rfl) ?_ (by assumption) ?_
        rotate_left
        · (intro wx hSw; (try dsimp only at hSw); go_simp; try with_reducible rfl)
        try simp only [Act.put, List.setIfInBounds_toArray, List.set_cons_zero, List.set_cons_succ]
        refine take_call 7 rfl (by kernel_rfl) (fun K hK => ?_)
        go_simp
        have hb := Blk.made wx3 #[.int .i64 c.W, .int .i64 c.H, .int .i64 c.Lanes, .int .i64 c.Depth, .int .i64 c.Ring, .int .i64 c.Inbox, .int .i64 c.Bound, .bool c.West, .bool c.Cast, .map (some wx2.heap.size), .slice (some ⟨w3.heap.size, 0, none⟩) N N, .slice (some ⟨wx1.heap.size, 0, none⟩) N N] 66
        have hV : Mod (fun _ => False) wx3 (wx3.alloc (.cells #[.int .i64 c.W, .int .i64 c.H, .int .i64 c.Lanes, .int .i64 c.Depth, .int .i64 c.Ring, .int .i64 c.Inbox, .int .i64 c.Bound, .bool c.West, .bool c.Cast, .map (some wx2.heap.size), .slice (some ⟨w3.heap.size, 0, none⟩) N N, .slice (some ⟨wx1.heap.size, 0, none⟩) N N] 66)) := (Mod.refl _ _).alloc _
        generalize wx3.alloc (.cells #[.int .i64 c.W, .int .i64 c.H, .int .i64 c.Lanes, .int .i64 c.Depth, .int .i64 c.Ring, .int .i64 c.Inbox, .int .i64 c.Bound, .bool c.West, .bool c.Cast, .map (some wx2.heap.size), .slice (some ⟨w3.heap.size, 0, none⟩) N N, .slice (some ⟨wx1.heap.size, 0, none⟩) N N] 66) = wz at hb hV ⊢
        have mmz := mm3.trans hV (by simp)
        refine hK.out _ _ ?_ (fun hHeld7 => ?_)
        · exact cfg_cells (k2.later mmz (by simp))
        clear hK K
        try simp only [Act.put, List.setIfInBounds_toArray, List.set_cons_zero, List.set_cons_succ]
        refine take_run 8 (v := ?_) rfl (by kernel_rfl) (by kernel_rfl) (by kernel_rfl) (fun _ _ _ h => h) (by rfl) ?_ (by assumption) ?_
        rotate_left
        · (intro wx hSw; (try dsimp only at hSw); go_simp; try with_reducible rfl)
        try simp only [Act.put, List.setIfInBounds_toArray, List.set_cons_zero, List.set_cons_succ]
        refine take_run 9 (v := ?_) rfl (by kernel_rfl) (by kernel_rfl) (by kernel_rfl) (fun _ _ _ h => h) (by rfl) ?_ (by assumption) ?_
        rotate_left
        · (intro wx hSw; (try dsimp only at hSw); go_simp; try with_reducible rfl)
        try simp only [Act.put, List.setIfInBounds_toArray, List.set_cons_zero, List.set_cons_succ]
        refine wpAnyH_done (by kernel_rfl) ?_ _
        have h0 := mm0.size
        have h1 := mm1.size
        have h2 := om2.size
        have hI : MdlIn wz wx3.heap.size (wx2.heap.size) (w3.heap.size) (wx1.heap.size) (fun _ _ => .slice none 0 0) c 0 (fun _ _ => []) (List.replicate N 0) (List.replicate N false) :=
          ⟨by simpa using hb, (fq.later hV (by simp)), by simpa using fu.later hV (by simp), by simpa using fc.later hV (by simp), by simpa using hN.symm, by simpa using hN.symm, fun _ _ => QS.nil _, fun _ _ _ _ g hg => by simp [qblk] at hg, fun _ _ g hg => by simp [qblk] at hg, by omega, fun _ _ => Nat.zero_le _, fun u hu => by have := List.eq_of_mem_replicate hu; omega⟩
        have HI := Lib.hid hI
        have hO : ∀ g, own4 wx3.heap.size (wx2.heap.size) (w3.heap.size) (wx1.heap.size) (fun _ _ => .slice none 0 0) g → w.heap.size ≤ g := by
          rintro g (e | e | e | e | ⟨i, j, hg⟩)
          · omega
          · omega
          · omega
          · omega
          · simp [qblk] at hg
        have HO := Lib.hid hO
        have HMZ := Lib.hid (om2.trans mmz (by simp))
        clear hI hO hb hV fq fu fc
        go_wp2
        go_ret2
        exact ⟨_, rfl, HMZ.out, wx3.heap.size, rfl, _, _, _, HI.out, HO.out⟩
    · obtain ⟨wx1, hr1, fc, hV⟩ := run_made_c N hN w3
      have sc : w3.heap.size < wx1.heap.size := fc.lt
      refine step_make rfl _ _ 22 rfl (by rfl) (by rfl) hr1 ?_
      have mm1 := mm0.trans hV (by simp)
      refine hK.out _ _ ?_ (fun hHeld1 => ?_)
      · exact cfg_cells (k2.later mm1 (by simp))
      clear hV hK K
      try simp only [Act.put, List.setIfInBounds_toArray, List.set_cons_zero, List.set_cons_succ]
      refine take_two 1 3 rfl rfl (by kernel_rfl) (fun K hK => ?_) (fun K hK => ?_)
      · have hV : Mod (fun _ => False) wx1 (wx1.alloc (.map #[] 0)) := (Mod.refl _ _).alloc _
        have fq := MapV.made wx1
        have sq : wx1.heap.size < (wx1.alloc (.map #[] 0)).heap.size := by simp
        refine step_mkmap rfl _ rfl ?_
        generalize wx1.alloc (.map #[] 0) = wx2 at hV fq sq ⊢
        have mm2 := mm1.trans hV (by simp)
        have fc := fc.later hV (by simp)
        refine hK.out _ _ ?_ (fun hHeld2 => ?_)
        · exact cfg_cells (k2.later mm2 (by simp))
        clear hV hK K
        try simp only [Act.put, List.setIfInBounds_toArray, List.set_cons_zero, List.set_cons_succ]
        refine take_call 3 rfl (by kernel_rfl) (fun K hK => ?_)
        obtain ⟨wx3, hr3, fu, hV⟩ := run_made_u N hN wx2
        have su : wx2.heap.size < wx3.heap.size := fu.lt
        refine step_make rfl _ _ 39 rfl (by rfl) (by rfl) hr3 ?_
        have mm3 := mm2.trans hV (by simp)
        have fc := fc.later hV (by simp)
        have fq := fq.later hV (by simp)
        refine hK.out _ _ ?_ (fun hHeld3 => ?_)
        · exact cfg_cells (k2.later mm3 (by simp))
        clear hV hK K
        try simp only [Act.put, List.setIfInBounds_toArray, List.set_cons_zero, List.set_cons_succ]
        refine take_run 6 (v := ?_) rfl (by kernel_rfl) (by kernel_rfl) (by kernel_rfl) (fun _ _ _ h => h) (by rfl) ?_ (by assumption) ?_
        rotate_left
        · (intro wx hSw; (try dsimp only at hSw); go_simp; try with_reducible rfl)
        try simp only [Act.put, List.setIfInBounds_toArray, List.set_cons_zero, List.set_cons_succ]
        refine take_call 7 rfl (by kernel_rfl) (fun K hK => ?_)
        go_simp
        have hb := Blk.made wx3 #[.int .i64 c.W, .int .i64 c.H, .int .i64 c.Lanes, .int .i64 c.Depth, .int .i64 c.Ring, .int .i64 c.Inbox, .int .i64 c.Bound, .bool c.West, .bool c.Cast, .map (some wx1.heap.size), .slice (some ⟨wx2.heap.size, 0, none⟩) N N, .slice (some ⟨w3.heap.size, 0, none⟩) N N] 66
        have hV : Mod (fun _ => False) wx3 (wx3.alloc (.cells #[.int .i64 c.W, .int .i64 c.H, .int .i64 c.Lanes, .int .i64 c.Depth, .int .i64 c.Ring, .int .i64 c.Inbox, .int .i64 c.Bound, .bool c.West, .bool c.Cast, .map (some wx1.heap.size), .slice (some ⟨wx2.heap.size, 0, none⟩) N N, .slice (some ⟨w3.heap.size, 0, none⟩) N N] 66)) := (Mod.refl _ _).alloc _
        generalize wx3.alloc (.cells #[.int .i64 c.W, .int .i64 c.H, .int .i64 c.Lanes, .int .i64 c.Depth, .int .i64 c.Ring, .int .i64 c.Inbox, .int .i64 c.Bound, .bool c.West, .bool c.Cast, .map (some wx1.heap.size), .slice (some ⟨wx2.heap.size, 0, none⟩) N N, .slice (some ⟨w3.heap.size, 0, none⟩) N N] 66) = wz at hb hV ⊢
        have mmz := mm3.trans hV (by simp)
        refine hK.out _ _ ?_ (fun hHeld7 => ?_)
        · exact cfg_cells (k2.later mmz (by simp))
        clear hK K
        try simp only [Act.put, List.setIfInBounds_toArray, List.set_cons_zero, List.set_cons_succ]
        refine take_run 8 (v := ?_) rfl (by kernel_rfl) (by kernel_rfl) (by kernel_rfl) (fun _ _ _ h => h) (by rfl) ?_ (by assumption) ?_
        rotate_left
        · (intro wx hSw; (try dsimp only at hSw); go_simp; try with_reducible rfl)
        try simp only [Act.put, List.setIfInBounds_toArray, List.set_cons_zero, List.set_cons_succ]
        refine take_run 9 (v := ?_) rfl (by kernel_rfl) (by kernel_rfl) (by kernel_rfl) (fun _ _ _ h => h) (by rfl) ?_ (by assumption) ?_
        rotate_left
        · (intro wx hSw; (try dsimp only at hSw); go_simp; try with_reducible rfl)
        try simp only [Act.put, List.setIfInBounds_toArray, List.set_cons_zero, List.set_cons_succ]
        refine wpAnyH_done (by kernel_rfl) ?_ _
        have h0 := mm0.size
        have h1 := mm1.size
        have h2 := om2.size
        have hI : MdlIn wz wx3.heap.size (wx1.heap.size) (wx2.heap.size) (w3.heap.size) (fun _ _ => .slice none 0 0) c 0 (fun _ _ => []) (List.replicate N 0) (List.replicate N false) :=
          ⟨by simpa using hb, (fq.later hV (by simp)), by simpa using fu.later hV (by simp), by simpa using fc.later hV (by simp), by simpa using hN.symm, by simpa using hN.symm, fun _ _ => QS.nil _, fun _ _ _ _ g hg => by simp [qblk] at hg, fun _ _ g hg => by simp [qblk] at hg, by omega, fun _ _ => Nat.zero_le _, fun u hu => by have := List.eq_of_mem_replicate hu; omega⟩
        have HI := Lib.hid hI
        have hO : ∀ g, own4 wx3.heap.size (wx1.heap.size) (wx2.heap.size) (w3.heap.size) (fun _ _ => .slice none 0 0) g → w.heap.size ≤ g := by
          rintro g (e | e | e | e | ⟨i, j, hg⟩)
          · omega
          · omega
          · omega
          · omega
          · simp [qblk] at hg
        have HO := Lib.hid hO
        have HMZ := Lib.hid (om2.trans mmz (by simp))
        clear hI hO hb hV fq fu fc
        go_wp2
        go_ret2
        exact ⟨_, rfl, HMZ.out, wx3.heap.size, rfl, _, _, _, HI.out, HO.out⟩
      · obtain ⟨wx2, hr2, fu, hV⟩ := run_made_u N hN wx1
        have su : wx1.heap.size < wx2.heap.size := fu.lt
        refine step_make rfl _ _ 39 rfl (by rfl) (by rfl) hr2 ?_
        have mm2 := mm1.trans hV (by simp)
        have fc := fc.later hV (by simp)
        refine hK.out _ _ ?_ (fun hHeld2 => ?_)
        · exact cfg_cells (k2.later mm2 (by simp))
        clear hV hK K
        try simp only [Act.put, List.setIfInBounds_toArray, List.set_cons_zero, List.set_cons_succ]
        refine take_call 1 rfl (by kernel_rfl) (fun K hK => ?_)
        have hV : Mod (fun _ => False) wx2 (wx2.alloc (.map #[] 0)) := (Mod.refl _ _).alloc _
        have fq := MapV.made wx2
        have sq : wx2.heap.size < (wx2.alloc (.map #[] 0)).heap.size := by simp
        refine step_mkmap rfl _ rfl ?_
        generalize wx2.alloc (.map #[] 0) = wx3 at hV fq sq ⊢
        have mm3 := mm2.trans hV (by simp)
        have fc := fc.later hV (by simp)
        have fu := fu.later hV (by simp)
        refine hK.out _ _ ?_ (fun hHeld3 => ?_)
        · exact cfg_cells (k2.later mm3 (by simp))
        clear hV hK K
        try simp only [Act.put, List.setIfInBounds_toArray, List.set_cons_zero, List.set_cons_succ]
        refine take_run 6 (v := ?_) rfl (by kernel_rfl) (by kernel_rfl) (by kernel_rfl) (fun _ _ _ h => h) (by rfl) ?_ (by assumption) ?_
        rotate_left
        · (intro wx hSw; (try dsimp only at hSw); go_simp; try with_reducible rfl)
        try simp only [Act.put, List.setIfInBounds_toArray, List.set_cons_zero, List.set_cons_succ]
        refine take_call 7 rfl (by kernel_rfl) (fun K hK => ?_)
        go_simp
        have hb := Blk.made wx3 #[.int .i64 c.W, .int .i64 c.H, .int .i64 c.Lanes, .int .i64 c.Depth, .int .i64 c.Ring, .int .i64 c.Inbox, .int .i64 c.Bound, .bool c.West, .bool c.Cast, .map (some wx2.heap.size), .slice (some ⟨wx1.heap.size, 0, none⟩) N N, .slice (some ⟨w3.heap.size, 0, none⟩) N N] 66
        have hV : Mod (fun _ => False) wx3 (wx3.alloc (.cells #[.int .i64 c.W, .int .i64 c.H, .int .i64 c.Lanes, .int .i64 c.Depth, .int .i64 c.Ring, .int .i64 c.Inbox, .int .i64 c.Bound, .bool c.West, .bool c.Cast, .map (some wx2.heap.size), .slice (some ⟨wx1.heap.size, 0, none⟩) N N, .slice (some ⟨w3.heap.size, 0, none⟩) N N] 66)) := (Mod.refl _ _).alloc _
        generalize wx3.alloc (.cells #[.int .i64 c.W, .int .i64 c.H, .int .i64 c.Lanes, .int .i64 c.Depth, .int .i64 c.Ring, .int .i64 c.Inbox, .int .i64 c.Bound, .bool c.West, .bool c.Cast, .map (some wx2.heap.size), .slice (some ⟨wx1.heap.size, 0, none⟩) N N, .slice (some ⟨w3.heap.size, 0, none⟩) N N] 66) = wz at hb hV ⊢
        have mmz := mm3.trans hV (by simp)
        refine hK.out _ _ ?_ (fun hHeld7 => ?_)
        · exact cfg_cells (k2.later mmz (by simp))
        clear hK K
        try simp only [Act.put, List.setIfInBounds_toArray, List.set_cons_zero, List.set_cons_succ]
        refine take_run 8 (v := ?_) rfl (by kernel_rfl) (by kernel_rfl) (by kernel_rfl) (fun _ _ _ h => h) (by rfl) ?_ (by assumption) ?_
        rotate_left
        · (intro wx hSw; (try dsimp only at hSw); go_simp; try with_reducible rfl)
        try simp only [Act.put, List.setIfInBounds_toArray, List.set_cons_zero, List.set_cons_succ]
        refine take_run 9 (v := ?_) rfl (by kernel_rfl) (by kernel_rfl) (by kernel_rfl) (fun _ _ _ h => h) (by rfl) ?_ (by assumption) ?_
        rotate_left
        · (intro wx hSw; (try dsimp only at hSw); go_simp; try with_reducible rfl)
        try simp only [Act.put, List.setIfInBounds_toArray, List.set_cons_zero, List.set_cons_succ]
        refine wpAnyH_done (by kernel_rfl) ?_ _
        have h0 := mm0.size
        have h1 := mm1.size
        have h2 := om2.size
        have hI : MdlIn wz wx3.heap.size (wx2.heap.size) (wx1.heap.size) (w3.heap.size) (fun _ _ => .slice none 0 0) c 0 (fun _ _ => []) (List.replicate N 0) (List.replicate N false) :=
          ⟨by simpa using hb, (fq.later hV (by simp)), by simpa using fu.later hV (by simp), by simpa using fc.later hV (by simp), by simpa using hN.symm, by simpa using hN.symm, fun _ _ => QS.nil _, fun _ _ _ _ g hg => by simp [qblk] at hg, fun _ _ g hg => by simp [qblk] at hg, by omega, fun _ _ => Nat.zero_le _, fun u hu => by have := List.eq_of_mem_replicate hu; omega⟩
        have HI := Lib.hid hI
        have hO : ∀ g, own4 wx3.heap.size (wx2.heap.size) (wx1.heap.size) (w3.heap.size) (fun _ _ => .slice none 0 0) g → w.heap.size ≤ g := by
          rintro g (e | e | e | e | ⟨i, j, hg⟩)
          · omega
          · omega
          · omega
          · omega
          · simp [qblk] at hg
        have HO := Lib.hid hO
        have HMZ := Lib.hid (om2.trans mmz (by simp))
        clear hI hO hb hV fq fu fc
        go_wp2
        go_ret2
        exact ⟨_, rfl, HMZ.out, wx3.heap.size, rfl, _, _, _, HI.out, HO.out⟩
  · have q1 : (E == 0) = false := by simp [hz]
    have q2 : (E != 0) = true := by simp [hz]
    have HE := Lib.hid hz
    clear hz
    go_wp2
    go_ret2
    exact ⟨_, rfl, mm1, Or.inl ⟨HE.out, rfl⟩⟩

end Go.Proofs.Ytonnooenebfbeaa
