/- The contract of a model's Took. -/
import Derived.Test.YtonnooenebfbeaaMdlSend
import Derived.BigRegion
namespace Go.Proofs.Ytonnooenebfbeaa
open Go.RowKit

def tookE (c : Cfg) (Q : Int → Int → List ByteArray) (node src dst : Int) (data : ByteArray) : Int :=
  if c.is node = true ∧ c.is src = true then (if dst = node ∧ (Q src node).head? = some data then 0 else 13) else 5

theorem list_inj {a b : ByteArray} (h : a.toList = b.toList) : a = b := by
  rw [ByteArray.toList_eq, ByteArray.toList_eq] at h
  exact WideShapes.bytes_inj h

theorem pkt_cells {w : World} {p : Nat} {src dst sq : Int} {data : ByteArray} {t : TypeId} (h : Blk w p #[.int .i64 src, .int .i64 dst, .int .i64 sq, .string data] t) :
    w.cell? ⟨p, 0, none⟩ = some (.int .i64 src) ∧ w.cell? ⟨p, 1, none⟩ = some (.int .i64 dst) ∧ w.cell? ⟨p, 2, none⟩ = some (.int .i64 sq) ∧ w.cell? ⟨p, 3, none⟩ = some (.string data) := by
  refine ⟨?_, ?_, ?_, ?_⟩ <;> (rw [h.cell]; rfl)

set_option maxRecDepth 100000 in
set_option maxHeartbeats 3200000 in
theorem run_Took {b bq bu bc : Nat} {f : Int → Int → Value} {c : Cfg} {k : Nat} {Q : Int → Int → List ByteArray} {U : List Int} {C : List Bool} (node src dst sq : Int) (data : ByteArray) (w : World)
    (h : MdlIn w b bq bu bc f c k Q U C) (hk : k ≤ 100000) :
    Calls Try.prog 12 #[.pointer (some ⟨b, 0, none⟩), .int .i64 node, .agg #[.int .i64 src, .int .i64 dst, .int .i64 sq, .string data]] w fun e w' =>
      e = .returned (.int .i64 (tookE c Q node src dst data)) ∧
      ((tookE c Q node src dst data ≠ 0 ∧ Mod (fun _ => False) w w') ∨
       (tookE c Q node src dst data = 0 ∧ Mod (own4 b bq bu bc f) w w' ∧ ∃ f', MdlIn w' b bq bu bc f' c (k + 1) (updQ Q src node (Q src node).tail) (U.set src.toNat (U.getD src.toNat 0 - 1)) C ∧ ∀ g, own4 b bq bu bc f' g → own4 b bq bu bc f g ∨ w.heap.size ≤ g)) := by
  have kp := Blk.made w #[.int .i64 src, .int .i64 dst, .int .i64 sq, .string data] 36
  have mp : Mod (fun _ => False) w (w.alloc (.cells #[.int .i64 src, .int .i64 dst, .int .i64 sq, .string data] 36)) := (Mod.refl _ _).alloc _
  have HM0 := Lib.hid (h.later mp (by simp))
  have HOL := Lib.hid (fun g (hg : own4 b bq bu bc f g) => h.own_lt hg)
  generalize hE : tookE c Q node src dst data = E
  have HE := Lib.hid hE
  clear h hE
  go_enter Try.func12, Try.ntmps12
  obtain ⟨c0, c1, c2, c3, c4, c5, c6, c7, c8, c9, c10, c11⟩ := mdl_cells HM0.out
  go_wp2_with fail
  generalize w.alloc (.cells #[.int .i64 src, .int .i64 dst, .int .i64 sq, .string data] 36) = w0 at kp mp HM0 c0 c1 c2 c3 c4 c5 c6 c7 c8 c9 c10 c11 ⊢
  go_upto_region 3 with fail
  cases hn : c.is node with
  | false =>
    have hv : E = 5 := by rw [← HE.out]; unfold tookE; rw [if_neg (by rw [hn]; simp)]
    have HV := Lib.hid hv
    clear hv
    go_cut [12] (fun v w' => v = .bool true ∧ Mod (fun _ => False) w0 w')
    case first =>
      refine wp_region_held_drew (S := (fun w' => (w'.cell? ⟨b, 0, none⟩ = some (.int .i64 c.W) ∧ w'.cell? ⟨b, 1, none⟩ = some (.int .i64 c.H) ∧ w'.cell? ⟨b, 2, none⟩ = some (.int .i64 c.Lanes) ∧ w'.cell? ⟨b, 3, none⟩ = some (.int .i64 c.Depth) ∧ w'.cell? ⟨b, 4, none⟩ = some (.int .i64 c.Ring) ∧ w'.cell? ⟨b, 5, none⟩ = some (.int .i64 c.Inbox) ∧ w'.cell? ⟨b, 6, none⟩ = some (.int .i64 c.Bound) ∧ w'.cell? ⟨b, 7, none⟩ = some (.bool c.West) ∧ w'.cell? ⟨b, 8, none⟩ = some (.bool c.Cast) ∧ w'.cell? ⟨b, 9, none⟩ = some (.map (some bq)) ∧ w'.cell? ⟨b, 10, none⟩ = some (.slice (some ⟨bu, 0, none⟩) U.length U.length) ∧ w'.cell? ⟨b, 11, none⟩ = some (.slice (some ⟨bc, 0, none⟩) C.length C.length)) ∧ (w'.cell? ⟨w.heap.size, 0, none⟩ = some (.int .i64 src) ∧ w'.cell? ⟨w.heap.size, 1, none⟩ = some (.int .i64 dst) ∧ w'.cell? ⟨w.heap.size, 2, none⟩ = some (.int .i64 sq) ∧ w'.cell? ⟨w.heap.size, 3, none⟩ = some (.string data)))) (by kernel_rfl) ?_ (fun hHeld => ?_)
      · exact ⟨mdl_cells (HM0.out.later (Mod.refl (fun _ => False) w0).drew (by simp)), pkt_cells kp.drew⟩
      refine take_run 0 (v := ?_) rfl (by kernel_rfl) (by kernel_rfl) (by kernel_rfl) (fun _ _ _ h => h) (by rfl) ?_ (by assumption) ?_
      rotate_left
      · (intro wx hSw; (try dsimp only at hSw); go_simp; try with_reducible rfl)
      try simp only [Act.put, List.setIfInBounds_toArray, List.set_cons_zero, List.set_cons_succ]
      refine take_run 1 (v := ?_) rfl (by kernel_rfl) (by kernel_rfl) (by kernel_rfl) (fun _ _ _ h => h) (by rfl) ?_ (by assumption) ?_
      rotate_left
      · (intro wx hSw; (try dsimp only at hSw); go_simp; try with_reducible rfl)
      try simp only [Act.put, List.setIfInBounds_toArray, List.set_cons_zero, List.set_cons_succ]
      refine take_run 2 (v := ?_) rfl (by kernel_rfl) (by kernel_rfl) (by kernel_rfl) (fun _ _ _ h => h) (by rfl) ?_ (by assumption) ?_
      rotate_left
      · (intro wx hSw; (try dsimp only at hSw); go_simp; try with_reducible rfl)
      try simp only [Act.put, List.setIfInBounds_toArray, List.set_cons_zero, List.set_cons_succ]
      refine take_run 3 (v := ?_) rfl (by kernel_rfl) (by kernel_rfl) (by kernel_rfl) (fun _ _ _ h => h) (by rfl) ?_ (by assumption) ?_
      rotate_left
      · (intro wx hSw; (try dsimp only at hSw); go_simp; try with_reducible rfl)
      try simp only [Act.put, List.setIfInBounds_toArray, List.set_cons_zero, List.set_cons_succ]
      refine take_run 4 (v := ?_) rfl (by kernel_rfl) (by kernel_rfl) (by kernel_rfl) (fun _ _ _ h => h) (by rfl) ?_ (by assumption) ?_
      rotate_left
      · (intro wx hSw; (try dsimp only at hSw); go_simp; try with_reducible rfl)
      try simp only [Act.put, List.setIfInBounds_toArray, List.set_cons_zero, List.set_cons_succ]
      refine take_call 5 rfl (by kernel_rfl) (fun K hK => ?_)
      go_simp
      refine (run_Is c node _).mono ?_
      rw [hn]
      rintro e w1 ⟨rfl, m1⟩
      have mm1 := ((Mod.refl (fun _ => False) w0).drew).trans m1 (by simp)
      refine hK.out _ _ ?_ (fun hHeld2 => ?_)
      · exact ⟨mdl_cells (HM0.out.later mm1 (by simp)), pkt_cells (kp.later mm1 (by simp))⟩
      clear hK K hHeld
      try simp only [Act.put, List.setIfInBounds_toArray, List.set_cons_zero, List.set_cons_succ]
      refine take_run 6 (v := ?_) rfl (by kernel_rfl) (by kernel_rfl) (by kernel_rfl) (fun _ _ _ h => h) (by rfl) ?_ (by assumption) ?_
      rotate_left
      · (intro wx hSw; (try dsimp only at hSw); go_simp; try with_reducible rfl)
      try simp only [Act.put, List.setIfInBounds_toArray, List.set_cons_zero, List.set_cons_succ]
      refine take_run 7 (v := ?_) rfl (by kernel_rfl) (by kernel_rfl) (by kernel_rfl) (fun _ _ _ h => h) (by rfl) ?_ (by assumption) ?_
      rotate_left
      · (intro wx hSw; (try dsimp only at hSw); go_simp; try with_reducible rfl)
      try simp only [Act.put, List.setIfInBounds_toArray, List.set_cons_zero, List.set_cons_succ]
      refine take_skip 8 rfl (by kernel_rfl) (by kernel_rfl) (by kernel_rfl) (fun _ _ _ h => h) (by rfl) (by assumption) ?_
      try simp only [Act.put, List.setIfInBounds_toArray, List.set_cons_zero, List.set_cons_succ]
      refine take_skip 9 rfl (by kernel_rfl) (by kernel_rfl) (by kernel_rfl) (fun _ _ _ h => h) (by rfl) (by assumption) ?_
      try simp only [Act.put, List.setIfInBounds_toArray, List.set_cons_zero, List.set_cons_succ]
      refine take_skip 10 rfl (by kernel_rfl) (by kernel_rfl) (by kernel_rfl) (fun _ _ _ h => h) (by rfl) (by assumption) ?_
      try simp only [Act.put, List.setIfInBounds_toArray, List.set_cons_zero, List.set_cons_succ]
      refine take_skip 11 rfl (by kernel_rfl) (by kernel_rfl) (by kernel_rfl) (fun _ _ _ h => h) (by rfl) (by assumption) ?_
      try simp only [Act.put, List.setIfInBounds_toArray, List.set_cons_zero, List.set_cons_succ]
      refine take_skip 12 rfl (by kernel_rfl) (by kernel_rfl) (by kernel_rfl) (fun _ _ _ h => h) (by rfl) (by assumption) ?_
      try simp only [Act.put, List.setIfInBounds_toArray, List.set_cons_zero, List.set_cons_succ]
      refine take_skip 13 rfl (by kernel_rfl) (by kernel_rfl) (by kernel_rfl) (fun _ _ _ h => h) (by rfl) (by assumption) ?_
      try simp only [Act.put, List.setIfInBounds_toArray, List.set_cons_zero, List.set_cons_succ]
      refine take_skip 14 rfl (by kernel_rfl) (by kernel_rfl) (by kernel_rfl) (fun _ _ _ h => h) (by rfl) (by assumption) ?_
      try simp only [Act.put, List.setIfInBounds_toArray, List.set_cons_zero, List.set_cons_succ]
      refine take_skip 15 rfl (by kernel_rfl) (by kernel_rfl) (by kernel_rfl) (fun _ _ _ h => h) (by rfl) (by assumption) ?_
      try simp only [Act.put, List.setIfInBounds_toArray, List.set_cons_zero, List.set_cons_succ]
      refine take_run 16 (v := ?_) rfl (by kernel_rfl) (by kernel_rfl) (by kernel_rfl) (fun _ _ _ h => h) (by rfl) ?_ (by assumption) ?_
      rotate_left
      · (intro wx hSw; (try dsimp only at hSw); go_simp; try with_reducible rfl)
      try simp only [Act.put, List.setIfInBounds_toArray, List.set_cons_zero, List.set_cons_succ]
      refine take_run 17 (v := ?_) rfl (by kernel_rfl) (by kernel_rfl) (by kernel_rfl) (fun _ _ _ h => h) (by rfl) ?_ (by assumption) ?_
      rotate_left
      · (intro wx hSw; (try dsimp only at hSw); go_simp; try with_reducible rfl)
      try simp only [Act.put, List.setIfInBounds_toArray, List.set_cons_zero, List.set_cons_succ]
      refine wpAnyH_done (by kernel_rfl) ?_ _
      go_wp2_with fail
      go_meet
      exact ⟨rfl, mm1⟩
    case rest =>
      obtain ⟨rfl, m9⟩ := hcut
      have mm9 := mp.trans m9 (by simp)
      clear hn c0 c1 c2 c3 c4 c5 c6 c7 c8 c9 c10 c11
      go_wp2
      go_ret
      exact ⟨by rw [HV.out]; rfl, Or.inl ⟨by rw [HV.out]; decide, mm9⟩⟩
  | true =>
  cases hs : c.is src with
  | false =>
    have hv : E = 5 := by rw [← HE.out]; unfold tookE; rw [if_neg (by rw [hs]; simp)]
    have HV := Lib.hid hv
    clear hv
    go_cut [12] (fun v w' => v = .bool true ∧ Mod (fun _ => False) w0 w')
    case first =>
      refine wp_region_held_drew (S := (fun w' => (w'.cell? ⟨b, 0, none⟩ = some (.int .i64 c.W) ∧ w'.cell? ⟨b, 1, none⟩ = some (.int .i64 c.H) ∧ w'.cell? ⟨b, 2, none⟩ = some (.int .i64 c.Lanes) ∧ w'.cell? ⟨b, 3, none⟩ = some (.int .i64 c.Depth) ∧ w'.cell? ⟨b, 4, none⟩ = some (.int .i64 c.Ring) ∧ w'.cell? ⟨b, 5, none⟩ = some (.int .i64 c.Inbox) ∧ w'.cell? ⟨b, 6, none⟩ = some (.int .i64 c.Bound) ∧ w'.cell? ⟨b, 7, none⟩ = some (.bool c.West) ∧ w'.cell? ⟨b, 8, none⟩ = some (.bool c.Cast) ∧ w'.cell? ⟨b, 9, none⟩ = some (.map (some bq)) ∧ w'.cell? ⟨b, 10, none⟩ = some (.slice (some ⟨bu, 0, none⟩) U.length U.length) ∧ w'.cell? ⟨b, 11, none⟩ = some (.slice (some ⟨bc, 0, none⟩) C.length C.length)) ∧ (w'.cell? ⟨w.heap.size, 0, none⟩ = some (.int .i64 src) ∧ w'.cell? ⟨w.heap.size, 1, none⟩ = some (.int .i64 dst) ∧ w'.cell? ⟨w.heap.size, 2, none⟩ = some (.int .i64 sq) ∧ w'.cell? ⟨w.heap.size, 3, none⟩ = some (.string data)))) (by kernel_rfl) ?_ (fun hHeld => ?_)
      · exact ⟨mdl_cells (HM0.out.later (Mod.refl (fun _ => False) w0).drew (by simp)), pkt_cells kp.drew⟩
      refine take_run 0 (v := ?_) rfl (by kernel_rfl) (by kernel_rfl) (by kernel_rfl) (fun _ _ _ h => h) (by rfl) ?_ (by assumption) ?_
      rotate_left
      · (intro wx hSw; (try dsimp only at hSw); go_simp; try with_reducible rfl)
      try simp only [Act.put, List.setIfInBounds_toArray, List.set_cons_zero, List.set_cons_succ]
      refine take_run 1 (v := ?_) rfl (by kernel_rfl) (by kernel_rfl) (by kernel_rfl) (fun _ _ _ h => h) (by rfl) ?_ (by assumption) ?_
      rotate_left
      · (intro wx hSw; (try dsimp only at hSw); go_simp; try with_reducible rfl)
      try simp only [Act.put, List.setIfInBounds_toArray, List.set_cons_zero, List.set_cons_succ]
      refine take_run 2 (v := ?_) rfl (by kernel_rfl) (by kernel_rfl) (by kernel_rfl) (fun _ _ _ h => h) (by rfl) ?_ (by assumption) ?_
      rotate_left
      · (intro wx hSw; (try dsimp only at hSw); go_simp; try with_reducible rfl)
      try simp only [Act.put, List.setIfInBounds_toArray, List.set_cons_zero, List.set_cons_succ]
      refine take_run 3 (v := ?_) rfl (by kernel_rfl) (by kernel_rfl) (by kernel_rfl) (fun _ _ _ h => h) (by rfl) ?_ (by assumption) ?_
      rotate_left
      · (intro wx hSw; (try dsimp only at hSw); go_simp; try with_reducible rfl)
      try simp only [Act.put, List.setIfInBounds_toArray, List.set_cons_zero, List.set_cons_succ]
      refine take_run 4 (v := ?_) rfl (by kernel_rfl) (by kernel_rfl) (by kernel_rfl) (fun _ _ _ h => h) (by rfl) ?_ (by assumption) ?_
      rotate_left
      · (intro wx hSw; (try dsimp only at hSw); go_simp; try with_reducible rfl)
      try simp only [Act.put, List.setIfInBounds_toArray, List.set_cons_zero, List.set_cons_succ]
      refine take_call 5 rfl (by kernel_rfl) (fun K hK => ?_)
      go_simp
      refine (run_Is c node _).mono ?_
      rw [hn]
      rintro e w1 ⟨rfl, m1⟩
      have mm1 := ((Mod.refl (fun _ => False) w0).drew).trans m1 (by simp)
      refine hK.out _ _ ?_ (fun hHeld2 => ?_)
      · exact ⟨mdl_cells (HM0.out.later mm1 (by simp)), pkt_cells (kp.later mm1 (by simp))⟩
      clear hK K hHeld
      try simp only [Act.put, List.setIfInBounds_toArray, List.set_cons_zero, List.set_cons_succ]
      refine take_run 6 (v := ?_) rfl (by kernel_rfl) (by kernel_rfl) (by kernel_rfl) (fun _ _ _ h => h) (by rfl) ?_ (by assumption) ?_
      rotate_left
      · (intro wx hSw; (try dsimp only at hSw); go_simp; try with_reducible rfl)
      try simp only [Act.put, List.setIfInBounds_toArray, List.set_cons_zero, List.set_cons_succ]
      refine take_run 7 (v := ?_) rfl (by kernel_rfl) (by kernel_rfl) (by kernel_rfl) (fun _ _ _ h => h) (by rfl) ?_ (by assumption) ?_
      rotate_left
      · (intro wx hSw; (try dsimp only at hSw); go_simp; try with_reducible rfl)
      try simp only [Act.put, List.setIfInBounds_toArray, List.set_cons_zero, List.set_cons_succ]
      refine take_run 8 (v := ?_) rfl (by kernel_rfl) (by kernel_rfl) (by kernel_rfl) (fun _ _ _ h => h) (by rfl) ?_ (by assumption) ?_
      rotate_left
      · (intro wx hSw; (try dsimp only at hSw); go_simp; try with_reducible rfl)
      try simp only [Act.put, List.setIfInBounds_toArray, List.set_cons_zero, List.set_cons_succ]
      refine take_run 9 (v := ?_) rfl (by kernel_rfl) (by kernel_rfl) (by kernel_rfl) (fun _ _ _ h => h) (by rfl) ?_ (by assumption) ?_
      rotate_left
      · (intro wx hSw; (try dsimp only at hSw); go_simp; try with_reducible rfl)
      try simp only [Act.put, List.setIfInBounds_toArray, List.set_cons_zero, List.set_cons_succ]
      refine take_run 10 (v := ?_) rfl (by kernel_rfl) (by kernel_rfl) (by kernel_rfl) (fun _ _ _ h => h) (by rfl) ?_ (by assumption) ?_
      rotate_left
      · (intro wx hSw; (try dsimp only at hSw); go_simp; try with_reducible rfl)
      try simp only [Act.put, List.setIfInBounds_toArray, List.set_cons_zero, List.set_cons_succ]
      refine take_run 11 (v := ?_) rfl (by kernel_rfl) (by kernel_rfl) (by kernel_rfl) (fun _ _ _ h => h) (by rfl) ?_ (by assumption) ?_
      rotate_left
      · (intro wx hSw; (try dsimp only at hSw); go_simp; try with_reducible rfl)
      try simp only [Act.put, List.setIfInBounds_toArray, List.set_cons_zero, List.set_cons_succ]
      refine take_run 12 (v := ?_) rfl (by kernel_rfl) (by kernel_rfl) (by kernel_rfl) (fun _ _ _ h => h) (by rfl) ?_ (by assumption) ?_
      rotate_left
      · (intro wx hSw; (try dsimp only at hSw); go_simp; try with_reducible rfl)
      try simp only [Act.put, List.setIfInBounds_toArray, List.set_cons_zero, List.set_cons_succ]
      refine take_run 13 (v := ?_) rfl (by kernel_rfl) (by kernel_rfl) (by kernel_rfl) (fun _ _ _ h => h) (by rfl) ?_ (by assumption) ?_
      rotate_left
      · (intro wx hSw; (try dsimp only at hSw); go_simp; try with_reducible rfl)
      try simp only [Act.put, List.setIfInBounds_toArray, List.set_cons_zero, List.set_cons_succ]
      refine take_call 14 rfl (by kernel_rfl) (fun K hK => ?_)
      go_simp
      refine (run_Is c src _).mono ?_
      rw [hs]
      rintro e w2 ⟨rfl, m2⟩
      have mm2 := mm1.trans m2 (by simp)
      refine hK.out _ _ ?_ (fun hHeld3 => ?_)
      · exact ⟨mdl_cells (HM0.out.later mm2 (by simp)), pkt_cells (kp.later mm2 (by simp))⟩
      clear hK K hHeld2
      try simp only [Act.put, List.setIfInBounds_toArray, List.set_cons_zero, List.set_cons_succ]
      refine take_run 15 (v := ?_) rfl (by kernel_rfl) (by kernel_rfl) (by kernel_rfl) (fun _ _ _ h => h) (by rfl) ?_ (by assumption) ?_
      rotate_left
      · (intro wx hSw; (try dsimp only at hSw); go_simp; try with_reducible rfl)
      try simp only [Act.put, List.setIfInBounds_toArray, List.set_cons_zero, List.set_cons_succ]
      refine take_run 16 (v := ?_) rfl (by kernel_rfl) (by kernel_rfl) (by kernel_rfl) (fun _ _ _ h => h) (by rfl) ?_ (by assumption) ?_
      rotate_left
      · (intro wx hSw; (try dsimp only at hSw); go_simp; try with_reducible rfl)
      try simp only [Act.put, List.setIfInBounds_toArray, List.set_cons_zero, List.set_cons_succ]
      refine take_run 17 (v := ?_) rfl (by kernel_rfl) (by kernel_rfl) (by kernel_rfl) (fun _ _ _ h => h) (by rfl) ?_ (by assumption) ?_
      rotate_left
      · (intro wx hSw; (try dsimp only at hSw); go_simp; try with_reducible rfl)
      try simp only [Act.put, List.setIfInBounds_toArray, List.set_cons_zero, List.set_cons_succ]
      refine wpAnyH_done (by kernel_rfl) ?_ _
      go_wp2_with fail
      go_meet
      exact ⟨rfl, mm2⟩
    case rest =>
      obtain ⟨rfl, m9⟩ := hcut
      have mm9 := mp.trans m9 (by simp)
      clear hn hs c0 c1 c2 c3 c4 c5 c6 c7 c8 c9 c10 c11
      go_wp2
      go_ret
      exact ⟨by rw [HV.out]; rfl, Or.inl ⟨by rw [HV.out]; decide, mm9⟩⟩
  | true =>
  go_cut [12] (fun v w' => v = .bool false ∧ Mod (fun _ => False) w0 w')
  case first =>
    refine wp_region_held_drew (S := (fun w' => (w'.cell? ⟨b, 0, none⟩ = some (.int .i64 c.W) ∧ w'.cell? ⟨b, 1, none⟩ = some (.int .i64 c.H) ∧ w'.cell? ⟨b, 2, none⟩ = some (.int .i64 c.Lanes) ∧ w'.cell? ⟨b, 3, none⟩ = some (.int .i64 c.Depth) ∧ w'.cell? ⟨b, 4, none⟩ = some (.int .i64 c.Ring) ∧ w'.cell? ⟨b, 5, none⟩ = some (.int .i64 c.Inbox) ∧ w'.cell? ⟨b, 6, none⟩ = some (.int .i64 c.Bound) ∧ w'.cell? ⟨b, 7, none⟩ = some (.bool c.West) ∧ w'.cell? ⟨b, 8, none⟩ = some (.bool c.Cast) ∧ w'.cell? ⟨b, 9, none⟩ = some (.map (some bq)) ∧ w'.cell? ⟨b, 10, none⟩ = some (.slice (some ⟨bu, 0, none⟩) U.length U.length) ∧ w'.cell? ⟨b, 11, none⟩ = some (.slice (some ⟨bc, 0, none⟩) C.length C.length)) ∧ (w'.cell? ⟨w.heap.size, 0, none⟩ = some (.int .i64 src) ∧ w'.cell? ⟨w.heap.size, 1, none⟩ = some (.int .i64 dst) ∧ w'.cell? ⟨w.heap.size, 2, none⟩ = some (.int .i64 sq) ∧ w'.cell? ⟨w.heap.size, 3, none⟩ = some (.string data)))) (by kernel_rfl) ?_ (fun hHeld => ?_)
    · exact ⟨mdl_cells (HM0.out.later (Mod.refl (fun _ => False) w0).drew (by simp)), pkt_cells kp.drew⟩
    refine take_run 0 (v := ?_) rfl (by kernel_rfl) (by kernel_rfl) (by kernel_rfl) (fun _ _ _ h => h) (by rfl) ?_ (by assumption) ?_
    rotate_left
    · (intro wx hSw; (try dsimp only at hSw); go_simp; try with_reducible rfl)
    try simp only [Act.put, List.setIfInBounds_toArray, List.set_cons_zero, List.set_cons_succ]
    refine take_run 1 (v := ?_) rfl (by kernel_rfl) (by kernel_rfl) (by kernel_rfl) (fun _ _ _ h => h) (by rfl) ?_ (by assumption) ?_
    rotate_left
    · (intro wx hSw; (try dsimp only at hSw); go_simp; try with_reducible rfl)
    try simp only [Act.put, List.setIfInBounds_toArray, List.set_cons_zero, List.set_cons_succ]
    refine take_run 2 (v := ?_) rfl (by kernel_rfl) (by kernel_rfl) (by kernel_rfl) (fun _ _ _ h => h) (by rfl) ?_ (by assumption) ?_
    rotate_left
    · (intro wx hSw; (try dsimp only at hSw); go_simp; try with_reducible rfl)
    try simp only [Act.put, List.setIfInBounds_toArray, List.set_cons_zero, List.set_cons_succ]
    refine take_run 3 (v := ?_) rfl (by kernel_rfl) (by kernel_rfl) (by kernel_rfl) (fun _ _ _ h => h) (by rfl) ?_ (by assumption) ?_
    rotate_left
    · (intro wx hSw; (try dsimp only at hSw); go_simp; try with_reducible rfl)
    try simp only [Act.put, List.setIfInBounds_toArray, List.set_cons_zero, List.set_cons_succ]
    refine take_run 4 (v := ?_) rfl (by kernel_rfl) (by kernel_rfl) (by kernel_rfl) (fun _ _ _ h => h) (by rfl) ?_ (by assumption) ?_
    rotate_left
    · (intro wx hSw; (try dsimp only at hSw); go_simp; try with_reducible rfl)
    try simp only [Act.put, List.setIfInBounds_toArray, List.set_cons_zero, List.set_cons_succ]
    refine take_call 5 rfl (by kernel_rfl) (fun K hK => ?_)
    go_simp
    refine (run_Is c node _).mono ?_
    rw [hn]
    rintro e w1 ⟨rfl, m1⟩
    have mm1 := ((Mod.refl (fun _ => False) w0).drew).trans m1 (by simp)
    refine hK.out _ _ ?_ (fun hHeld2 => ?_)
    · exact ⟨mdl_cells (HM0.out.later mm1 (by simp)), pkt_cells (kp.later mm1 (by simp))⟩
    clear hK K hHeld
    try simp only [Act.put, List.setIfInBounds_toArray, List.set_cons_zero, List.set_cons_succ]
    refine take_run 6 (v := ?_) rfl (by kernel_rfl) (by kernel_rfl) (by kernel_rfl) (fun _ _ _ h => h) (by rfl) ?_ (by assumption) ?_
    rotate_left
    · (intro wx hSw; (try dsimp only at hSw); go_simp; try with_reducible rfl)
    try simp only [Act.put, List.setIfInBounds_toArray, List.set_cons_zero, List.set_cons_succ]
    refine take_run 7 (v := ?_) rfl (by kernel_rfl) (by kernel_rfl) (by kernel_rfl) (fun _ _ _ h => h) (by rfl) ?_ (by assumption) ?_
    rotate_left
    · (intro wx hSw; (try dsimp only at hSw); go_simp; try with_reducible rfl)
    try simp only [Act.put, List.setIfInBounds_toArray, List.set_cons_zero, List.set_cons_succ]
    refine take_run 8 (v := ?_) rfl (by kernel_rfl) (by kernel_rfl) (by kernel_rfl) (fun _ _ _ h => h) (by rfl) ?_ (by assumption) ?_
    rotate_left
    · (intro wx hSw; (try dsimp only at hSw); go_simp; try with_reducible rfl)
    try simp only [Act.put, List.setIfInBounds_toArray, List.set_cons_zero, List.set_cons_succ]
    refine take_run 9 (v := ?_) rfl (by kernel_rfl) (by kernel_rfl) (by kernel_rfl) (fun _ _ _ h => h) (by rfl) ?_ (by assumption) ?_
    rotate_left
    · (intro wx hSw; (try dsimp only at hSw); go_simp; try with_reducible rfl)
    try simp only [Act.put, List.setIfInBounds_toArray, List.set_cons_zero, List.set_cons_succ]
    refine take_run 10 (v := ?_) rfl (by kernel_rfl) (by kernel_rfl) (by kernel_rfl) (fun _ _ _ h => h) (by rfl) ?_ (by assumption) ?_
    rotate_left
    · (intro wx hSw; (try dsimp only at hSw); go_simp; try with_reducible rfl)
    try simp only [Act.put, List.setIfInBounds_toArray, List.set_cons_zero, List.set_cons_succ]
    refine take_run 11 (v := ?_) rfl (by kernel_rfl) (by kernel_rfl) (by kernel_rfl) (fun _ _ _ h => h) (by rfl) ?_ (by assumption) ?_
    rotate_left
    · (intro wx hSw; (try dsimp only at hSw); go_simp; try with_reducible rfl)
    try simp only [Act.put, List.setIfInBounds_toArray, List.set_cons_zero, List.set_cons_succ]
    refine take_run 12 (v := ?_) rfl (by kernel_rfl) (by kernel_rfl) (by kernel_rfl) (fun _ _ _ h => h) (by rfl) ?_ (by assumption) ?_
    rotate_left
    · (intro wx hSw; (try dsimp only at hSw); go_simp; try with_reducible rfl)
    try simp only [Act.put, List.setIfInBounds_toArray, List.set_cons_zero, List.set_cons_succ]
    refine take_run 13 (v := ?_) rfl (by kernel_rfl) (by kernel_rfl) (by kernel_rfl) (fun _ _ _ h => h) (by rfl) ?_ (by assumption) ?_
    rotate_left
    · (intro wx hSw; (try dsimp only at hSw); go_simp; try with_reducible rfl)
    try simp only [Act.put, List.setIfInBounds_toArray, List.set_cons_zero, List.set_cons_succ]
    refine take_call 14 rfl (by kernel_rfl) (fun K hK => ?_)
    go_simp
    refine (run_Is c src _).mono ?_
    rw [hs]
    rintro e w2 ⟨rfl, m2⟩
    have mm2 := mm1.trans m2 (by simp)
    refine hK.out _ _ ?_ (fun hHeld3 => ?_)
    · exact ⟨mdl_cells (HM0.out.later mm2 (by simp)), pkt_cells (kp.later mm2 (by simp))⟩
    clear hK K hHeld2
    try simp only [Act.put, List.setIfInBounds_toArray, List.set_cons_zero, List.set_cons_succ]
    refine take_run 15 (v := ?_) rfl (by kernel_rfl) (by kernel_rfl) (by kernel_rfl) (fun _ _ _ h => h) (by rfl) ?_ (by assumption) ?_
    rotate_left
    · (intro wx hSw; (try dsimp only at hSw); go_simp; try with_reducible rfl)
    try simp only [Act.put, List.setIfInBounds_toArray, List.set_cons_zero, List.set_cons_succ]
    refine take_run 16 (v := ?_) rfl (by kernel_rfl) (by kernel_rfl) (by kernel_rfl) (fun _ _ _ h => h) (by rfl) ?_ (by assumption) ?_
    rotate_left
    · (intro wx hSw; (try dsimp only at hSw); go_simp; try with_reducible rfl)
    try simp only [Act.put, List.setIfInBounds_toArray, List.set_cons_zero, List.set_cons_succ]
    refine take_run 17 (v := ?_) rfl (by kernel_rfl) (by kernel_rfl) (by kernel_rfl) (fun _ _ _ h => h) (by rfl) ?_ (by assumption) ?_
    rotate_left
    · (intro wx hSw; (try dsimp only at hSw); go_simp; try with_reducible rfl)
    try simp only [Act.put, List.setIfInBounds_toArray, List.set_cons_zero, List.set_cons_succ]
    refine wpAnyH_done (by kernel_rfl) ?_ _
    go_wp2_with fail
    go_meet
    exact ⟨rfl, mm2⟩
  case rest =>
    obtain ⟨rfl, m9⟩ := hcut
    obtain ⟨w9, rfl⟩ : ∃ wo : World, wo = wc := ⟨_, rfl⟩
    have HM9 := Lib.hid (HM0.out.later m9 (by simp))
    have kp9 := kp.later m9 (by simp)
    have mm9 := mp.trans m9 (by simp)
    clear c0 c1 c2 c3 c4 c5 c6 c7 c8 c9 c10 c11 kp mp m9 HM0
    have hnw := is_wf hn
    have hsw := is_wf hs
    have HNW := Lib.hid hnw
    have HSW := Lib.hid hsw
    obtain ⟨c0, c1, c2, c3, c4, c5, c6, c7, c8, c9, c10, c11⟩ := mdl_cells HM9.out
    obtain ⟨p0, p1, p2, p3⟩ := pkt_cells kp9
    have HN := Lib.hid hn
    have HS := Lib.hid hs
    clear hn hs hnw hsw
    go_upto_region 6 with fail
    have mK : Mod (fun _ => False) w9 (w9.alloc (.cells #[.int .i64 src, .int .i64 node] 31)) := (Mod.refl _ _).alloc _
    have HMK := Lib.hid (HM9.out.later mK (by simp))
    have kK := Blk.made w9 #[.int .i64 src, .int .i64 node] 31
    have kpK := kp9.later mK (by simp)
    have mmK := mm9.trans mK (by simp)
    have h9w := mm9.size
    clear c0 c1 c2 c3 c4 c5 c6 c7 c8 c9 c10 c11 p0 p1 p2 p3 kp9
    generalize w9.alloc (.cells #[.int .i64 src, .int .i64 node] 31) = wK at mK HMK kK kpK mmK ⊢
    have y0 := kK.cell 0
    have y1 := kK.cell 1
    simp at y0 y1
    have lK := kK.lt
    have lP := kpK.lt
    obtain ⟨-, -, -, -, -, -, -, -, -, c9, c10, -⟩ := mdl_cells HMK.out
    go_cut [8] (fun v w' => v = f src node ∧ Drw wK w')
    case first =>
      refine wp_region_held_drew (S := fun w' => w'.cell? ⟨b, 9, none⟩ = some (.map (some bq)) ∧ w'.cell? ⟨w9.heap.size, 0, none⟩ = some (.int .i64 src) ∧ w'.cell? ⟨w9.heap.size, 1, none⟩ = some (.int .i64 node) ∧ MapV w' bq k f) (by kernel_rfl) ?_ (fun hHeld => ?_)
      · exact ⟨c9, y0, y1, HMK.out.map.later (Mod.refl (fun _ => False) wK).drew (by simp)⟩
      refine take_run 0 (v := ?_) rfl (by kernel_rfl) (by kernel_rfl) (by kernel_rfl) (fun _ _ _ h => h) (by rfl) ?_ (by assumption) ?_
      rotate_left
      · (intro wx hSw; (try dsimp only at hSw); go_simp; try with_reducible rfl)
      try simp only [Act.put, List.setIfInBounds_toArray, List.set_cons_zero, List.set_cons_succ]
      refine take_run 1 (v := ?_) rfl (by kernel_rfl) (by kernel_rfl) (by kernel_rfl) (fun _ _ _ h => h) (by rfl) ?_ (by assumption) ?_
      rotate_left
      · (intro wx hSw; (try dsimp only at hSw); go_simp; try with_reducible rfl)
      try simp only [Act.put, List.setIfInBounds_toArray, List.set_cons_zero, List.set_cons_succ]
      refine take_run 2 (v := ?_) rfl (by kernel_rfl) (by kernel_rfl) (by kernel_rfl) (fun _ _ _ h => h) (by rfl) ?_ (by assumption) ?_
      rotate_left
      · (intro wx hSw; (try dsimp only at hSw); go_simp; try with_reducible rfl)
      try simp only [Act.put, List.setIfInBounds_toArray, List.set_cons_zero, List.set_cons_succ]
      refine take_run 3 (v := ?_) rfl (by kernel_rfl) (by kernel_rfl) (by kernel_rfl) (fun _ _ _ h => h) (by rfl) ?_ (by assumption) ?_
      rotate_left
      · (intro wx hSw; (try dsimp only at hSw); go_simp; try with_reducible rfl)
      try simp only [Act.put, List.setIfInBounds_toArray, List.set_cons_zero, List.set_cons_succ]
      refine take_run 4 (v := ?_) rfl (by kernel_rfl) (by kernel_rfl) (by kernel_rfl) (fun _ _ _ h => h) (by rfl) ?_ (by assumption) ?_
      rotate_left
      · (intro wx hSw; (try dsimp only at hSw); go_simp; try with_reducible rfl)
      try simp only [Act.put, List.setIfInBounds_toArray, List.set_cons_zero, List.set_cons_succ]
      refine take_run 5 (v := ?_) rfl (by kernel_rfl) (by kernel_rfl) (by kernel_rfl) (fun _ _ _ h => h) (by rfl) ?_ (by assumption) ?_
      rotate_left
      · (intro wx hSw; (try dsimp only at hSw); have hlk := hSw.2.2.2.lookup HSW.out HNW.out; go_simp; try with_reducible rfl)
      try simp only [Act.put, List.setIfInBounds_toArray, List.set_cons_zero, List.set_cons_succ]
      refine take_run 6 (v := ?_) rfl (by kernel_rfl) (by kernel_rfl) (by kernel_rfl) (fun _ _ _ h => h) (by rfl) ?_ (by assumption) ?_
      rotate_left
      · (intro wx hSw; (try dsimp only at hSw); go_simp; try with_reducible rfl)
      try simp only [Act.put, List.setIfInBounds_toArray, List.set_cons_zero, List.set_cons_succ]
      refine wpAnyH_done (by kernel_rfl) ?_ _
      go_wp2_with fail
      go_meet
      exact ⟨rfl, Drw.drew _⟩
    case rest =>
      obtain ⟨rfl, dL⟩ := hcut
      obtain ⟨wL, rfl⟩ : ∃ wo : World, wo = wc := ⟨_, rfl⟩
      have mL := dL.mod (fun _ => False)
      have HML := Lib.hid (HMK.out.later mL (by simp))
      have kL := kK.later mL (by simp)
      have kpL := kpK.later mL (by simp)
      have mmL := mmK.trans mL (by simp)
      have lKL : w9.heap.size < wL.heap.size := kL.lt
      have lPL : w.heap.size < wL.heap.size := kpL.lt
      clear y0 y1 lK lP c9 c10 kK kpK mmK HMK mL dL mK
      obtain ⟨p0, p1, p2, p3⟩ := pkt_cells kpL
      by_cases hdn : dst = node
      · rcases HML.out.qs src node with ⟨hf, hq⟩ | ⟨g, o, n, cp, cur, hf, hh, hnl, hnc, hcm, hcs, hx⟩
        · have hv : E = 13 := by rw [← HE.out]; unfold tookE; rw [if_pos ⟨HN.out, HS.out⟩, if_neg (by rw [hq]; simp)]
          have HV := Lib.hid hv
          have q0 : (dst == node) = true := by simp [hdn]
          have q1 : (dst != node) = false := by simp [hdn]
          rw [hf]
          clear hv hf hq hdn
          go_upto_region 7 with fail
          go_cut [56] (fun v w' => v = .bool true ∧ Drw wL w')
          case first =>
            go_quiet (fail)
            all_goals go_wp2_with fail
            all_goals go_meet
            all_goals exact ⟨by simp, Drw.drewN _ _⟩
          case rest =>
            obtain ⟨rfl, dM⟩ := hcut
            have mmM := mmL.trans (dM.mod (fun _ => False)) (by simp)
            go_wp2
            go_ret
            exact ⟨by rw [HV.out]; rfl, Or.inl ⟨by rw [HV.out]; decide, mmM⟩⟩
        · have q0 : (dst == node) = true := by simp [hdn]
          have q1 : (dst != node) = false := by simp [hdn]
          have HH := Lib.hid hh
          have HF := Lib.hid hf
          rw [hf]
          cases hQ : Q src node with
          | nil =>
            have hv : E = 13 := by rw [← HE.out]; unfold tookE; rw [if_pos ⟨HN.out, HS.out⟩, if_neg (by rw [hQ]; simp)]
            have HV := Lib.hid hv
            obtain rfl : n = 0 := by rw [hQ] at hnl; simpa using hnl.symm
            clear hv hf hh hdn hQ hnl hx
            go_upto_region 7 with fail
            go_cut [56] (fun v w' => v = .bool true ∧ Drw wL w')
            case first =>
              go_quiet (fail)
              all_goals go_wp2_with fail
              all_goals go_meet
              all_goals exact ⟨by simp, Drw.drewN _ _⟩
            case rest =>
              obtain ⟨rfl, dM⟩ := hcut
              have mmM := mmL.trans (dM.mod (fun _ => False)) (by simp)
              go_wp2
              go_ret
              exact ⟨by rw [HV.out]; rfl, Or.inl ⟨by rw [HV.out]; decide, mmM⟩⟩
          | cons x xs =>
            have hn1 : 1 ≤ n := by rw [hQ] at hnl; simp at hnl; omega
            have hgx : wL.cell? ⟨g, o, none⟩ = some (.string x) := by
              simp only [World.cell?, hh, Option.isSome_none, Bool.false_eq_true, if_false]
              exact hx 0 x (by rw [hQ]; rfl)
            have hgl : g < wL.heap.size := (Array.getElem?_eq_some_iff.1 hh).1
            have z1 : ((n : Int) == 0) = false := by simp; omega
            have z2 : ¬ ((n : Int) = 0) := by omega
            have z3 : 0 < n := by omega
            have z4 : (0 : Int) < (n : Int) := by omega
            by_cases hxd : x = data
            · subst hxd
              have hv : E = 0 := by rw [← HE.out]; unfold tookE; rw [if_pos ⟨HN.out, HS.out⟩, if_pos ⟨hdn, by rw [hQ]; rfl⟩]
              have HV := Lib.hid hv
              obtain ⟨m, rfl, hm⟩ := is_lt HS.out HML.out.ul
              have hqs := HML.out.qs (m : Int) node
              rw [hf, hQ] at hqs
              have htl : (Q (m : Int) node).tail = xs := by rw [hQ]; rfl
              have HTL := Lib.hid htl
              obtain ⟨ad, had⟩ : ∃ ad : Addr, (if cp = 1 then some (⟨g, o, none⟩ : Addr) else some ⟨g, o + 1, none⟩) = some ad := by split <;> exact ⟨_, rfl⟩
              obtain ⟨hqr, hqb⟩ := QS.rest hqs (some ad) had.symm
              have HQR := Lib.hid hqr
              have HQB := Lib.hid hqb
              have HAD := Lib.hid had
              have hsep := HML.out.sep (m : Int) node g (by rw [hf]; rfl)
              have HDN := Lib.hid hdn
              clear hv hf hh hdn hQ hnl hx hqs htl had hqr hqb
              go_upto_region 7 with fail
              go_cut [56] (fun v w' => v = .bool false ∧ Drw wL w')
              case first =>
                go_quiet (fail)
                all_goals go_wp2_with fail
                all_goals go_meet
                all_goals exact ⟨by simp, Drw.drewN _ _⟩
              case rest =>
                obtain ⟨rfl, dM⟩ := hcut
                obtain ⟨wM, rfl⟩ : ∃ wo : World, wo = wc := ⟨_, rfl⟩
                have mM := dM.mod (fun _ => False)
                have HMM := Lib.hid (HML.out.later mM (by simp))
                have kM := kL.later mM (by simp)
                have kpM := kpL.later mM (by simp)
                have mmM := mmL.trans mM (by simp)
                have HQM := Lib.hid (HQR.out.later mM (by simp))
                have lKM : w9.heap.size < wM.heap.size := kM.lt
                have lPM : w.heap.size < wM.heap.size := kpM.lt
                have hwM := mmM.size
                clear kL kpL mmL HML HQR mM dM p0 p1 p2 p3 hgx hgl lKL lPL
                obtain ⟨-, -, -, -, -, -, -, -, -, c9, c10, -⟩ := mdl_cells HMM.out
                have y0 := kM.cell 0
                have y1 := kM.cell 1
                simp at y0 y1
                have r0 : (0 : Int) ≤ (1 : Int) := by decide
                have r1 : (1 : Int) ≤ (n : Int) := by omega
                have r2 : (1 : Int) ≤ (cp : Int) := by omega
                have lb := HMM.out.blk.lt
                have hltM := fun g hg => HMM.out.own_lt (g := g) hg
                go_upto_region 9 with fail
                go_cut [63] (fun _v w' => MdlIn w' b bq bu bc (upd2 f (m : Int) node (.slice (some ad) (n - 1) (cp - 1))) c (k + 1) (updQ Q (m : Int) node xs) U C ∧ Mod (· = bq) wM w')
                case first =>
                  have hq9 : w9.heap.size ≠ bq := fun e => by have := HOL.out bq (Or.inr (Or.inl rfl)); omega
                  obtain ⟨w5, hr5, hM5, m5⟩ := (HMM.out.map.later (Mod.refl (fun _ => False) wM).drew (by simp)).update HSW.out HNW.out (.slice (some ad) (n - 1) (cp - 1))
                  have mW : Mod (· = bq) wM w5 := ((Mod.refl (· = bq) wM).drew).trans m5 (fun i _ e => e)
                  have hN := HMM.out.grow (l := xs) hM5 (HQM.out.later mW (fun g' hg e => by rw [HQB.out] at hg; simp only [Option.some.injEq] at hg; subst hg; exact hsep.2.1 e)) (by have := HMM.out.qk (m : Int) node; have h2 := HTL.out; rw [← h2, List.length_tail]; omega) HQB.out (Or.inl (by rw [HF.out]; rfl)) (mW.mono (fun i _ e => Or.inl e))
                  have HNN := Lib.hid hN
                  clear hN
                  refine wp_region_held_drew (S := fun w' => w'.cell? ⟨b, 9, none⟩ = some (.map (some bq)) ∧ w'.cell? ⟨w9.heap.size, 0, none⟩ = some (.int .i64 m) ∧ w'.cell? ⟨w9.heap.size, 1, none⟩ = some (.int .i64 node)) (by kernel_rfl) ?_ (fun hHeld => ?_)
                  · exact ⟨c9, y0, y1⟩
                  refine take_run 0 (v := ?_) rfl (by kernel_rfl) (by kernel_rfl) (by kernel_rfl) (fun _ _ _ h => h) (by rfl) ?_ (by assumption) ?_
                  rotate_left
                  · (intro wx hSw; (try dsimp only at hSw); go_simp; try with_reducible rfl)
                  try simp only [Act.put, List.setIfInBounds_toArray, List.set_cons_zero, List.set_cons_succ]
                  refine take_run 1 (v := ?_) rfl (by kernel_rfl) (by kernel_rfl) (by kernel_rfl) (fun _ _ _ h => h) (by rfl) ?_ (by assumption) ?_
                  rotate_left
                  · (intro wx hSw; (try dsimp only at hSw); go_simp; try with_reducible rfl)
                  try simp only [Act.put, List.setIfInBounds_toArray, List.set_cons_zero, List.set_cons_succ]
                  refine take_run 2 (v := ?_) rfl (by kernel_rfl) (by kernel_rfl) (by kernel_rfl) (fun _ _ _ h => h) (by rfl) ?_ (by assumption) ?_
                  rotate_left
                  · (intro wx hSw; (try dsimp only at hSw); go_simp; try with_reducible rfl)
                  try simp only [Act.put, List.setIfInBounds_toArray, List.set_cons_zero, List.set_cons_succ]
                  refine take_run 3 (v := ?_) rfl (by kernel_rfl) (by kernel_rfl) (by kernel_rfl) (fun _ _ _ h => h) (by rfl) ?_ (by assumption) ?_
                  rotate_left
                  · (intro wx hSw; (try dsimp only at hSw); go_simp; try with_reducible rfl)
                  try simp only [Act.put, List.setIfInBounds_toArray, List.set_cons_zero, List.set_cons_succ]
                  refine take_run 4 (v := ?_) rfl (by kernel_rfl) (by kernel_rfl) (by kernel_rfl) (fun _ _ _ h => h) (by rfl) ?_ (by assumption) ?_
                  rotate_left
                  · (intro wx hSw; (try dsimp only at hSw); go_simp; try with_reducible rfl)
                  try simp only [Act.put, List.setIfInBounds_toArray, List.set_cons_zero, List.set_cons_succ]
                  refine take_run 5 (v := ?_) rfl (by kernel_rfl) (by kernel_rfl) (by kernel_rfl) (fun _ _ _ h => h) (by rfl) ?_ (by assumption) ?_
                  rotate_left
                  · (intro wx hSw; (try dsimp only at hSw); go_simp; try with_reducible rfl)
                  try simp only [Act.put, List.setIfInBounds_toArray, List.set_cons_zero, List.set_cons_succ]
                  refine take_run 6 (v := ?_) rfl (by kernel_rfl) (by kernel_rfl) (by kernel_rfl) (fun _ _ _ h => h) (by rfl) ?_ (by assumption) ?_
                  rotate_left
                  · (intro wx hSw; (try dsimp only at hSw); go_simp; try with_reducible rfl)
                  try simp only [Act.put, List.setIfInBounds_toArray, List.set_cons_zero, List.set_cons_succ]
                  refine take_call 7 rfl (by kernel_rfl) (fun K hK => ?_)
                  refine step_mupdate rfl _ _ _ 64 rfl (by rfl) (by rfl) (congrArg (fun a => Value.slice a (n - 1) (cp - 1)) HAD.out) hr5 ?_
                  refine hK.out _ _ ?_ (fun hHeld2 => ?_)
                  · exact ⟨(mW.cell (p := ⟨b, 9, none⟩) lb HMM.out.ne.1).trans c9, (mW.cell (p := ⟨w9.heap.size, 0, none⟩) lKM hq9).trans y0, (mW.cell (p := ⟨w9.heap.size, 1, none⟩) lKM hq9).trans y1⟩
                  clear hK K
                  try simp only [Act.put, List.setIfInBounds_toArray, List.set_cons_zero, List.set_cons_succ]
                  refine wpAnyH_done (by kernel_rfl) ?_ _
                  rw [HAD.out]
                  go_wp2_with fail
                  go_meet
                  exact ⟨HNN.out, mW⟩
                case rest =>
                  obtain ⟨hN, mN⟩ := hcut
                  obtain ⟨wN, rfl⟩ : ∃ wo : World, wo = wc := ⟨_, rfl⟩
                  have HNN := Lib.hid hN
                  have hPq : w.heap.size ≠ bq := fun e => by have := HOL.out bq (Or.inr (Or.inl rfl)); omega
                  have kpN := kpM.later mN hPq
                  obtain ⟨-, -, -, -, -, -, -, -, -, -, c10, -⟩ := mdl_cells hN
                  obtain ⟨p0, p1, p2, p3⟩ := pkt_cells kpN
                  have mmN : Mod (own4 b bq bu bc f) w wN := (mmM.mono (S' := own4 b bq bu bc f) (fun i hi e => e.elim)).trans mN (fun i hi e => Or.inr (Or.inl e))
                  have hu : wN.cell? ⟨bu, m, none⟩ = some (.int .i64 (U.getD m 0)) := by
                    rw [hN.ub.cell]
                    simp [List.getD_eq_getElem?_getD, List.getElem?_eq_getElem hm]
                  have hub : -((k : Int) + 1) ≤ U.getD m 0 ∧ U.getD m 0 ≤ (k : Int) + 1 := by
                    have e : U.getD m 0 = U[m] := by simp [List.getD_eq_getElem?_getD, List.getElem?_eq_getElem hm]
                    rw [e]
                    have := hN.uk _ (List.getElem_mem hm)
                    omega
                  have hub2 : -(k : Int) ≤ U.getD m 0 ∧ U.getD m 0 ≤ (k : Int) := by
                    have e : U.getD m 0 = U[m] := by simp [List.getD_eq_getElem?_getD, List.getElem?_eq_getElem hm]
                    rw [e]
                    exact HMM.out.uk _ (List.getElem_mem hm)
                  have hF := hN.setU (m := m) (x := U.getD m 0 - 1) (Nat.le_refl _) (by omega)
                  obtain ⟨u, hue⟩ : ∃ u, U.getD m 0 = u := ⟨_, rfl⟩
                  rw [hue] at hu hub hF
                  have HUE := Lib.hid hue
                  have fu := hN.ub.fz m
                  have u1 : IntKind.i64.wrap (u - 1) = u - 1 := IntWalk.i64_in _ (by omega)
                  have s0 : (0 : Int) ≤ (m : Int) := by omega
                  have s1 : (m : Int) < (U.length : Int) := by omega
                  have hown : ∀ g', own4 b bq bu bc (upd2 f (m : Int) node (.slice (some ad) (n - 1) (cp - 1))) g' → own4 b bq bu bc f g' ∨ w.heap.size ≤ g' := by
                    rintro g' (e | e | e | e | ⟨i, j, hg⟩)
                    · exact Or.inl (Or.inl e)
                    · exact Or.inl (Or.inr (Or.inl e))
                    · exact Or.inl (Or.inr (Or.inr (Or.inl e)))
                    · exact Or.inl (Or.inr (Or.inr (Or.inr (Or.inl e))))
                    · unfold upd2 at hg
                      split at hg
                      · rw [HQB.out] at hg
                        simp only [Option.some.injEq] at hg
                        subst hg
                        exact Or.inl (Or.inr (Or.inr (Or.inr (Or.inr ⟨(m : Int), node, by rw [HF.out]; rfl⟩))))
                      · exact Or.inl (Or.inr (Or.inr (Or.inr (Or.inr ⟨i, j, hg⟩))))
                  have HOWN := Lib.hid hown
                  have HFF := Lib.hid hF
                  clear hue hN hub hub2 hown hF mN y0 y1 c9 HMM kM kpM hltM
                  go_upto_region 10 with fail
                  go_region
                  have hv0 : tookE c Q node (m : Int) dst x = 0 := by rw [HE.out]; exact HV.out
                  have hmf : Mod (own4 b bq bu bc f) w (wN.setCell ⟨bu, m, none⟩ (.int .i64 (u - 1))).drew := (mmN.setCell (p := ⟨bu, m, none⟩) (Or.inl (Or.inr (Or.inr (Or.inl rfl)))) _).drew
                  have HF2 := Lib.hid (HFF.out.later (Mod.refl (fun _ => False) _).drew (by simp))
                  clear hv0
                  go_wp2
                  go_ret
                  exact ⟨by rw [HV.out]; rfl, Or.inr ⟨HV.out, hmf, _, by rw [HTL.out, show ((m : Int)).toNat = m from rfl, HUE.out]; exact HF2.out, HOWN.out⟩⟩
            · have hv : E = 13 := by rw [← HE.out]; unfold tookE; rw [if_pos ⟨HN.out, HS.out⟩, if_neg (by rw [hQ]; simp; exact fun _ => hxd)]
              have HV := Lib.hid hv
              have q2 : ¬ x.toList = data.toList := fun e => hxd (list_inj e)
              clear hv hf hh hdn hQ hnl hx hxd
              go_upto_region 7 with fail
              go_cut [56] (fun v w' => v = .bool true ∧ Drw wL w')
              case first =>
                go_quiet (fail)
                all_goals go_wp2_with fail
                all_goals go_meet
                all_goals exact ⟨by simp [q2], Drw.drewN _ _⟩
              case rest =>
                obtain ⟨rfl, dM⟩ := hcut
                have mmM := mmL.trans (dM.mod (fun _ => False)) (by simp)
                go_wp2
                go_ret
                exact ⟨by rw [HV.out]; rfl, Or.inl ⟨by rw [HV.out]; decide, mmM⟩⟩
      · have hv : E = 13 := by rw [← HE.out]; unfold tookE; rw [if_pos ⟨HN.out, HS.out⟩, if_neg (by simp [hdn])]
        have HV := Lib.hid hv
        have q0 : (dst == node) = false := by simp [hdn]
        have q1 : (dst != node) = true := by simp [hdn]
        clear hv hdn
        go_upto_region 7 with fail
        go_cut [56] (fun v w' => v = .bool true ∧ Drw wL w')
        case first =>
          go_quiet (fail)
          all_goals go_wp2_with fail
          all_goals go_meet
          all_goals exact ⟨by simp, Drw.drewN _ _⟩
        case rest =>
          obtain ⟨rfl, dM⟩ := hcut
          have mmM := mmL.trans (dM.mod (fun _ => False)) (by simp)
          go_wp2
          go_ret
          exact ⟨by rw [HV.out]; rfl, Or.inl ⟨by rw [HV.out]; decide, mmM⟩⟩

end Go.Proofs.Ytonnooenebfbeaa
