/- Parts: FabZ FabSd FabEx Lives19 FabTie. No condition. -/
import Derived.Test.YtfiklfkfbcpmgaaGreatJ25
set_option linter.all false
set_option maxRecDepth 100000
set_option maxHeartbeats 3200000
namespace Go.Proofs.YtfiklfkfbcpmgaaGreat
open Go.RowKit
theorem info_node : (Tryz.prog.info? 90).map (fun i => (i.zero,i.size,i.bytes)) = some (some (.agg #[.pointer none,.pointer none,.pointer none,.pointer none,.pointer none,.pointer none,.pointer none]),7,56) := by kernel_rfl
theorem encS_one (A : FAddr) (d : Nat→Nat→Bool) (n : Nat) : ∀ u ∈ encS A d n,u.oneCell' = true := by
 intro u hu
 simp [encS] at hu
 rcases hu with rfl | rfl | rfl | rfl | rfl | rfl | rfl <;> rfl
theorem encS_set (A : FAddr) (d : Nat→Nat→Bool) (n p x : Nat) (hp : p < 5) (m s : Nat) (hs : s < 7) : (encS (A.moreL n p x) (dMore d n p) m)[s]? = if m = n∧s = 2 + p then some (.pointer (some ⟨x,0,none⟩)) else (encS A d m)[s]? := by
 rcases (show s = 0∨s = 1∨∃ q,s = 2 + q∧q < 5 by
  by_cases h0 : s = 0
  ·
   exact Or.inl h0
  by_cases h1 : s = 1
  ·
   exact Or.inr (Or.inl h1)
  exact Or.inr (Or.inr ⟨s - 2,by omega,by omega⟩)) with rfl | rfl | ⟨q,rfl,hq⟩
 ·
  rw [if_neg (by omega)]
  rfl
 ·
  rw [if_neg (by omega)]
  rfl
 ·
  rw [encS_at _ _ _ _ hq,encS_at _ _ _ _ hq,lkO_more]
  by_cases h : m = n∧q = p
  ·
   rw [if_pos h,if_pos ⟨h.1,by omega⟩]
  ·
   rw [if_neg h,if_neg (fun e => h ⟨e.1,by omega⟩)]
theorem fabric_new_no (c : Cfg) (w : World) (hc : c.chk ≠ 0) : Calls Tryz.prog 24 #[.agg c.cells] w fun e w' => e = .returned (.pointer none)∧Mod (fun _ => False) w w' := by
 have kb := Blk.made w c.cells 23
 have m0 : Mod (fun _ => False) w (w.alloc (.cells c.cells 23)) := (Mod.refl _ _).alloc _
 have HC := Lib.hid (fun w => run_Check c w)
 simp only [Cfg.cells] at kb m0 HC ⊢
 go_enter Tryz.func24,Tryz.ntmps24
 go_upto_region 1 with fail
 generalize w.alloc (.cells #[.int .i64 c.W,.int .i64 c.H,.int .i64 c.Lanes,.int .i64 c.Depth,.int .i64 c.Ring,.int .i64 c.Inbox,.int .i64 c.Bound,.bool c.West,.bool c.Cast] 23) = w0 at kb m0 ⊢
 obtain ⟨c0,c1,c2,c3,c4,c5,c6,c7,c8⟩ := cfg_cells kb
 have q0 : (c.chk == 0) = false := by simpa using hc
 generalize c.chk = ck at HC q0 hc
 go_wp2_with fail
 refine (HC.out _).mono ?_
 rintro e w1 ⟨rfl,m1⟩
 have m2 := m0.trans m1 (by simp)
 clear m1 m0
 go_wp2
 go_ret
 exact ⟨rfl,m2⟩
theorem fabric_new (c : Cfg) (w : World) (hc : c.Ok) : Calls Tryz.prog 24 #[.agg c.cells] w fun e w' => ∃ b,e = .returned (.pointer (some ⟨b,0,none⟩))∧Made (FabAt b c (FabS.new c)) w w' := by
 have kb := Blk.made w c.cells 23
 have m0 : Mod (fun _ => False) w (w.alloc (.cells c.cells 23)) := (Mod.refl _ _).alloc _
 have HCK := Lib.hid (fun w => run_Check c w)
 have HN := Lib.hid (fun w => run_Nodes c w)
 have HLS := Lib.hid (fun w => grid_Links c w)
 rw [c.chk_of hc] at HCK
 have hnb := Cfg.nodes_bd c
 obtain ⟨N,hN⟩ := Int.eq_ofNat_of_zero_le hnb.1
 have hNN : c.nodes.toNat = N := by omega
 have hN4 : N ≤ 4096 := by omega
 have hL1 := hc.L1
 have hL8 := hc.L2
 have hD1 := hc.D1
 have hD2 := hc.D2
 have hR1 := hc.R1
 have hR2 := hc.R2
 have HRT0 := Lib.hid (fun (k : Nat) (hk : k < N) w => router_new c (k : Int) w hc ((Cfg.is_iff c _).2 ⟨by omega,by omega⟩))
 have HNC0 := Lib.hid (fun (k : Nat) (hk : k < N) w => nic_new c (k : Int) w hc ((Cfg.is_iff c _).2 ⟨by omega,by omega⟩))
 have HLK := Lib.hid (fun w => link_new w c.Lanes.toNat c.Depth.toNat c.Ring.toNat (by omega) (by omega) (by omega) (by omega) (by omega) (by omega))
 rw [show ((c.Lanes.toNat : Nat) : Int) = c.Lanes by omega,show ((c.Depth.toNat : Nat) : Int) = c.Depth by omega,show ((c.Ring.toNat : Nat) : Int) = c.Ring by omega] at HLK
 rw [hN] at HN
 simp only [Cfg.cells] at kb m0 HCK HN HLS HRT0 HNC0 ⊢
 go_enter Tryz.func24,Tryz.ntmps24
 go_upto_region 1 with fail
 have hs0 : w.heap.size < (w.alloc (.cells #[.int .i64 c.W,.int .i64 c.H,.int .i64 c.Lanes,.int .i64 c.Depth,.int .i64 c.Ring,.int .i64 c.Inbox,.int .i64 c.Bound,.bool c.West,.bool c.Cast] 23)).heap.size := by simp
 generalize w.alloc (.cells #[.int .i64 c.W,.int .i64 c.H,.int .i64 c.Lanes,.int .i64 c.Depth,.int .i64 c.Ring,.int .i64 c.Inbox,.int .i64 c.Bound,.bool c.West,.bool c.Cast] 23) = w0 at kb m0 hs0 ⊢
 obtain ⟨c0,c1,c2,c3,c4,c5,c6,c7,c8⟩ := cfg_cells kb
 go_wp2_with fail
 refine (HCK.out _).mono ?_
 rintro e w1 ⟨rfl,m1⟩
 have kb1 := kb.later m1 (by simp)
 have hs1 := m1.size
 have m01 := m0.trans m1 (by simp)
 have HC := Lib.hid (fun w' (m : Mod (fun _ => False) w1 w') => cfg_cells (kb1.later m (by simp)))
 clear c0 c1 c2 c3 c4 c5 c6 c7 c8 kb m0 m1 HCK
 obtain ⟨c0,c1,c2,c3,c4,c5,c6,c7,c8⟩ := cfg_cells kb1
 go_upto_region 4 with fail
 let A0 : FAddr := ⟨fun _ => 0,fun _ => 0,fun _ _ => 0⟩
 obtain ⟨A0,-⟩ : ∃ A : FAddr,True := ⟨A0,trivial⟩
 have F0 := (Fresh.none (ι := FP) w1).add (fun _ => Emp.stable) .blk _ rfl (made_cells w1 (fabCells c (.slice none 0 0) 0) 87)
 have F0 := F0.turn (upd_stable (fun _ => Emp.stable) (Cells.stable _ _ _)) .nodes (Que (encS A0 dNo) 7 90 (.slice none 0 0) []) (fun oi hi _ => ⟨oi,Or.inl ⟨rfl,rfl,by simpa [upd,Emp] using hi⟩,Mod.refl _ _,fun g hg => Or.inl hg⟩)
 rw [stgF_zero] at F0
 change Fresh w1 _ (w1.alloc (.cells #[.int .i64 c.W,.int .i64 c.H,.int .i64 c.Lanes,.int .i64 c.Depth,.int .i64 c.Ring,.int .i64 c.Inbox,.int .i64 c.Bound,.bool c.West,.bool c.Cast,.slice none 0 0,.int .i64 0] 87)) at F0
 have k2 := kb1.alloc (.cells #[.int .i64 c.W,.int .i64 c.H,.int .i64 c.Lanes,.int .i64 c.Depth,.int .i64 c.Ring,.int .i64 c.Inbox,.int .i64 c.Bound,.bool c.West,.bool c.Cast,.slice none 0 0,.int .i64 0] 87)
 generalize w1.alloc (.cells #[.int .i64 c.W,.int .i64 c.H,.int .i64 c.Lanes,.int .i64 c.Depth,.int .i64 c.Ring,.int .i64 c.Inbox,.int .i64 c.Bound,.bool c.West,.bool c.Cast,.slice none 0 0,.int .i64 0] 87) = w2 at F0 k2 ⊢
 obtain ⟨b,hb⟩ : ∃ b,w1.heap.size = b := ⟨_,rfl⟩
 rw [hb] at F0 ⊢
 have hb0 := hb
 clear hb c0 c1 c2 c3 c4 c5 c6 c7 c8 kb1
 obtain ⟨c0,c1,c2,c3,c4,c5,c6,c7,c8⟩ := cfg_cells k2
 go_wp2_with fail
 refine (HN.out _).mono ?_
 rintro e w3 ⟨rfl,m3⟩
 have F0 := F0.later (stgF_stable _ _ _ _ _ _) m3
 clear c0 c1 c2 c3 c4 c5 c6 c7 c8 k2 m3 HN
 go_wp2
 go_loopw [15] (fun i wr => ∃ (k : Nat) (A : FAddr) (v : Value),k ≤ N∧i = .int .i64 (k : Int)∧Fresh w1 (stgF b A c v k dNo) wr) (fun i _ => N - (intOf i).toNat)
 case atStart => exact ⟨0,A0,_,by omega,rfl,F0⟩
 case round =>
  clear F0
  obtain ⟨k,A,v,hk,rfl,F⟩ := hrel
  obtain ⟨w4,rfl⟩ : ∃ wo : World,wo = wr := ⟨_,rfl⟩
  have hS := stgF_stable b A c v k dNo
  by_cases hlt : k < N
  ·
   have HRT := Lib.hid (HRT0.out k hlt)
   have HNC := Lib.hid (HNC0.out k hlt)
   have kB0 : w4.cell? ⟨b,9,none⟩ = some v := ((F.get hS .blk rfl).cell 9).trans rfl
   go_upto_region 7 with fail
   refine walkT_begin 14 (fun w' => (w'.cell? ⟨w.heap.size,0,none⟩ = some (.int .i64 c.W)∧w'.cell? ⟨w.heap.size,1,none⟩ = some (.int .i64 c.H)∧w'.cell? ⟨w.heap.size,2,none⟩ = some (.int .i64 c.Lanes)∧w'.cell? ⟨w.heap.size,3,none⟩ = some (.int .i64 c.Depth)∧w'.cell? ⟨w.heap.size,4,none⟩ = some (.int .i64 c.Ring)∧w'.cell? ⟨w.heap.size,5,none⟩ = some (.int .i64 c.Inbox)∧w'.cell? ⟨w.heap.size,6,none⟩ = some (.int .i64 c.Bound)∧w'.cell? ⟨w.heap.size,7,none⟩ = some (.bool c.West)∧w'.cell? ⟨w.heap.size,8,none⟩ = some (.bool c.Cast))∧w'.cell? ⟨b,9,none⟩ = some v) (by kernel_rfl) ?_
   have hHeld : (fun w' => (w'.cell? ⟨w.heap.size,0,none⟩ = some (.int .i64 c.W)∧w'.cell? ⟨w.heap.size,1,none⟩ = some (.int .i64 c.H)∧w'.cell? ⟨w.heap.size,2,none⟩ = some (.int .i64 c.Lanes)∧w'.cell? ⟨w.heap.size,3,none⟩ = some (.int .i64 c.Depth)∧w'.cell? ⟨w.heap.size,4,none⟩ = some (.int .i64 c.Ring)∧w'.cell? ⟨w.heap.size,5,none⟩ = some (.int .i64 c.Inbox)∧w'.cell? ⟨w.heap.size,6,none⟩ = some (.int .i64 c.Bound)∧w'.cell? ⟨w.heap.size,7,none⟩ = some (.bool c.West)∧w'.cell? ⟨w.heap.size,8,none⟩ = some (.bool c.Cast))∧w'.cell? ⟨b,9,none⟩ = some v) (w4.drew) := by exact ⟨HC.out _ F.mod.drew,kB0⟩
   refine takeT_run 0 (v := ?_) rfl (by kernel_rfl) (by kernel_rfl) (by kernel_rfl) (fun _ _ _ h => h) (by rfl) ?_ (by assumption) ?_
   rotate_left
   ·
    (intro wx hSw; (try dsimp only at hSw); go_simp; try with_reducible rfl)
   try simp only [Act.put,lyA,lyB,lyC]
   refine takeT_run 1 (v := ?_) rfl (by kernel_rfl) (by kernel_rfl) (by kernel_rfl) (fun _ _ _ h => h) (by rfl) ?_ (by assumption) ?_
   rotate_left
   ·
    (intro wx hSw; (try dsimp only at hSw); go_simp; try with_reducible rfl)
   try simp only [Act.put,lyA,lyB,lyC]
   refine takeT_run 2 (v := ?_) rfl (by kernel_rfl) (by kernel_rfl) (by kernel_rfl) (fun _ _ _ h => h) (by rfl) ?_ (by assumption) ?_
   rotate_left
   ·
    (intro wx hSw; (try dsimp only at hSw); go_simp; try with_reducible rfl)
   try simp only [Act.put,lyA,lyB,lyC]
   refine takeT_run 3 (v := ?_) rfl (by kernel_rfl) (by kernel_rfl) (by kernel_rfl) (fun _ _ _ h => h) (by rfl) ?_ (by assumption) ?_
   rotate_left
   ·
    (intro wx hSw; (try dsimp only at hSw); go_simp; try with_reducible rfl)
   try simp only [Act.put,lyA,lyB,lyC]
   refine takeT_run 4 (v := ?_) rfl (by kernel_rfl) (by kernel_rfl) (by kernel_rfl) (fun _ _ _ h => h) (by rfl) ?_ (by assumption) ?_
   rotate_left
   ·
    (intro wx hSw; (try dsimp only at hSw); go_simp; try with_reducible rfl)
   try simp only [Act.put,lyA,lyB,lyC]
   refine takeT_run 5 (v := ?_) rfl (by kernel_rfl) (by kernel_rfl) (by kernel_rfl) (fun _ _ _ h => h) (by rfl) ?_ (by assumption) ?_
   rotate_left
   ·
    (intro wx hSw; (try dsimp only at hSw); go_simp; try with_reducible rfl)
   try simp only [Act.put,lyA,lyB,lyC]
   refine takeT_run 6 (v := ?_) rfl (by kernel_rfl) (by kernel_rfl) (by kernel_rfl) (fun _ _ _ h => h) (by rfl) ?_ (by assumption) ?_
   rotate_left
   ·
    (intro wx hSw; (try dsimp only at hSw); go_simp; try with_reducible rfl)
   try simp only [Act.put,lyA,lyB,lyC]
   refine takeT_run 8 (v := ?_) rfl (by kernel_rfl) (by kernel_rfl) (by kernel_rfl) (fun _ _ _ h => h) (by rfl) ?_ (by assumption) ?_
   rotate_left
   ·
    (intro wx hSw; (try dsimp only at hSw); go_simp; try with_reducible rfl)
   try simp only [Act.put,lyA,lyB,lyC]
   refine takeT_run 9 (v := ?_) rfl (by kernel_rfl) (by kernel_rfl) (by kernel_rfl) (fun _ _ _ h => h) (by rfl) ?_ (by assumption) ?_
   rotate_left
   ·
    (intro wx hSw; (try dsimp only at hSw); go_simp; try with_reducible rfl)
   try simp only [Act.put,lyA,lyB,lyC]
   refine takeT_one 7 rfl (by kernel_rfl) (by rfl) ?_
   intro K hK
   go_simp
   have F := F.later hS ((Mod.refl (fun _ => False) w4).drew)
   refine (HRT.out _).mono ?_
   rintro e v1 ⟨x,rfl,hM⟩
   have F := F.add hS (FP.rt k) _ (by simp [stgF]) hM
   have hS := upd_stable hS (RouterAt.stable x c (k : Int) (newRt c)) (i := FP.rt k)
   clear hM
   have kB : Blk v1 b (fabCells c v 0) 87 := F.get hS .blk (by simp [upd,stgF])
   refine hK.out _ _ ?_ (fun hHeld' => ?_)
   ·
    exact ⟨HC.out _ F.mod,(kB.cell 9).trans rfl⟩
   clear hK K hHeld
   try simp only [Act.put,lyA,lyB,lyC]
   refine takeT_one 10 rfl (by kernel_rfl) (by rfl) ?_
   intro K hK
   go_simp
   refine (HNC.out _).mono ?_
   rintro e v2 ⟨y,rfl,hM⟩
   have F := F.add hS (FP.nic k) _ (by simp [upd,stgF]) hM
   have hS := upd_stable hS (NicAt.stable y c (k : Int) (newNc c)) (i := FP.nic k)
   clear hM
   have kB : Blk v2 b (fabCells c v 0) 87 := F.get hS .blk (by simp [upd,stgF])
   refine hK.out _ _ ?_ (fun hHeld'' => ?_)
   ·
    exact ⟨HC.out _ F.mod,(kB.cell 9).trans rfl⟩
   clear hK K hHeld'
   try simp only [Act.put,lyA,lyB,lyC]
   refine takeT_run 11 (v := ?_) rfl (by kernel_rfl) (by kernel_rfl) (by kernel_rfl) (fun _ _ _ h => h) (by rfl) ?_ (by assumption) ?_
   rotate_left
   ·
    (intro wx hSw; (try dsimp only at hSw); go_simp; try with_reducible rfl)
   try simp only [Act.put,lyA,lyB,lyC]
   refine takeT_one 12 rfl (by kernel_rfl) (by rfl) ?_
   intro K hK
   go_simp
   have F := F.add hS (FP.link k 7) _ (by simp [upd,stgF,dNo]) (made_cells v2 #[.pointer (some ⟨x,0,none⟩),.pointer (some ⟨y,0,none⟩),.pointer none,.pointer none,.pointer none,.pointer none,.pointer none] 90)
   have hS := upd_stable hS (Cells.stable v2.heap.size #[.pointer (some ⟨x,0,none⟩),.pointer (some ⟨y,0,none⟩),.pointer none,.pointer none,.pointer none,.pointer none,.pointer none] 90) (i := FP.link k 7)
   generalize v2.heap.size = T at F hS ⊢
   generalize v2.alloc (.cells #[.pointer (some ⟨x,0,none⟩),.pointer (some ⟨y,0,none⟩),.pointer none,.pointer none,.pointer none,.pointer none,.pointer none] 90) = v3 at F ⊢
   have kB : Blk v3 b (fabCells c v 0) 87 := F.get hS .blk (by simp [upd,stgF])
   refine hK.out _ _ ?_ (fun hHeld''' => ?_)
   ·
    exact ⟨HC.out _ F.mod,(kB.cell 9).trans rfl⟩
   clear hK K hHeld''
   try simp only [Act.put,lyA,lyB,lyC]
   refine takeT_one 13 rfl (by kernel_rfl) (by rfl) ?_
   intro K hK
   obtain ⟨oq,hq,hput⟩ := F.open hS .nodes
   have hq : Que (encS A dNo) 7 90 v (List.range k) v3 oq := by simpa [upd,stgF] using hq
   rw [Que.congr (enc' := encS (A.more k x y) dNo) (fun n hn => (encS_more (by have := List.mem_range.1 hn; omega)).symm)] at hq
   have kq : Blk v3 T #[.pointer (some ⟨x,0,none⟩),.pointer (some ⟨y,0,none⟩),.pointer none,.pointer none,.pointer none,.pointer none,.pointer none] 90 := F.get hS (FP.link k 7) (by simp [upd])
   obtain ⟨na,nc,v4,happ,tq⟩ := Que.append (enc := encS (A.more k x y) dNo) (sz := 7) (P := Tryz.prog) (tS := 85) (ty := 85) (x := k) (fun _ => rfl) (encS_one _ _) Tryz.underlying85 info_node rfl (by decide) (by decide) hq kq (by unfold encS FAddr.more; simp [fnu_same,lkO,dNo]) (by simp; omega)
   rw [List.length_range] at happ tq
   have F := hput _ _ tq
   have hS := upd_stable hS (Que.stable (enc := encS (A.more k x y) dNo) (sz := 7) (T := 90) (.slice na (k + 1) nc) (List.range k ++ [k])) (i := FP.nodes)
   clear hput hq kq
   rw [if_pos (by rfl)]
   refine wp_appendR _ _ _ rfl rfl rfl happ ?_
   clear happ tq
   try simp only [Act.put,lyA,lyB,lyC]
   have kB : Blk v4 b (fabCells c v 0) 87 := F.get hS .blk (by simp [upd,stgF])
   refine hK.out _ _ ?_ (fun hHeld'''' => ?_)
   ·
    exact ⟨HC.out _ F.mod,(kB.cell 9).trans rfl⟩
   clear hK K hHeld'''
   try simp only [Act.put,lyA,lyB,lyC]
   refine walkT_tail 14 rfl rfl (by kernel_rfl) rfl ?_
   simp only [List.drop_succ_cons,List.drop_zero]
   have z9 := kB.fz 9
   have p9 := kB.cell 9
   simp [fabCells] at p9
   have kB2 := kB.set 9 (.slice na (k + 1) nc)
   rw [show (fabCells c v 0).setIfInBounds 9 (.slice na (k + 1) nc) = fabCells c (.slice na (k + 1) nc) 0 from rfl] at kB2
   have mB := (Mod.refl (fun g => g = b) v4).setCell (p := ⟨b,9,none⟩) (Or.inl rfl) (.slice na (k + 1) nc)
   obtain ⟨oT,hT,hput⟩ := F.open hS .blk
   have hT : ∀ g,oT g ↔ g = b := by
    rw [show upd _ _ _ FP.blk = Cells b (fabCells c v 0) 87 by simp [upd,stgF]] at hT
    exact hT.2
   have F3 := hput _ _ (Cells.put hT kB2 mB)
   have hS3 := upd_stable hS (Cells.stable b (fabCells c (.slice na (k + 1) nc) 0) 87) (i := FP.blk)
   have F4 := F3.drop hS3 (FP.link k 7)
   have REL := Lib.hid (show Fresh w1 (stgF b (A.more k x y) c (.slice na (k + 1) nc) (k + 1) dNo) (v4.setCell ⟨b,9,none⟩ (.slice na (k + 1) nc)) from by
    rw [← stgF_node b A c v _ k x y]
    refine Eq.mp (congrArg (fun X => Fresh w1 X _) ?_) F4
    funext j
    by_cases h1 : j = FP.link k 7
    ·
     subst h1
     simp [upd,stgF,dNo]
    simp only [upd,if_neg h1])
   clear F F3 F4 hput hS hS3 kB kB2 mB
   go_wp2
   go_roundw
   case rel => exact ⟨k + 1,A.more k x y,_,by omega,by go_num,REL.out⟩
   case measure => simp [intOf]; omega
  ·
   have hk2 : k = N := by omega
   subst hk2
   have MF := F.mod
   obtain ⟨c0,c1,c2,c3,c4,c5,c6,c7,c8⟩ := HC.out _ MF
   obtain ⟨oq0,hq0,-⟩ := F.open hS .nodes
   obtain ⟨av,cv,hvv,-,-⟩ := Que.form (show Que (encS A dNo) 7 90 v (List.range k) w4 oq0 from hq0)
   rw [List.length_range] at hvv
   subst hvv
   have HF := Lib.hid F
   clear F hq0
   go_wp2_with fail
   refine (HLS.out _).mono ?_
   rintro e w5 ⟨vl,rfl,hM⟩
   have F := HF.out.add hS (FP.link k 8) _ (by simp [stgF,dNo]) hM
   have hS := upd_stable hS (Que.stable (enc := encPr) (sz := 2) (T := 112) vl c.links) (i := FP.link k 8)
   obtain ⟨oq1,hq1,-⟩ := F.open hS (FP.link k 8)
   rw [upd_same] at hq1
   obtain ⟨al,cl,hvl,hlc,hcm⟩ := Que.form hq1
   obtain ⟨M,hMl⟩ : ∃ M,c.links.length = M := ⟨_,rfl⟩
   rw [hMl] at hvl hlc
   subst hvl
   have hM4 : M ≤ 16384 := by have := links_len c; omega
   clear hq1 hM c0 c1 c2 c3 c4 c5 c6 c7 c8 HF MF HLS
   rw [← dOf_nil] at F
   go_wp2
   go_loopw [38] (fun i wr => ∃ (j : Nat) (A : FAddr),j ≤ M∧i = .int .i64 (j : Int)∧Fresh w1 (upd (stgF b A c (.slice av k cv) k (dOf (c.links.take j))) (FP.link k 8) (Que encPr 2 112 (.slice al M cl) c.links)) wr) (fun i _ => M - (intOf i).toNat)
   case atStart => exact ⟨0,A,by omega,rfl,by rw [List.take_zero]; exact F⟩
   case round =>
    clear F hS
    obtain ⟨j,A,hj,rfl,F⟩ := hrel
    obtain ⟨w6,rfl⟩ : ∃ wo : World,wo = wr := ⟨_,rfl⟩
    have hS := upd_stable (stgF_stable b A c (.slice av k cv) k (dOf (c.links.take j))) (Que.stable (enc := encPr) (sz := 2) (T := 112) (.slice al M cl) c.links) (i := FP.link k 8)
    by_cases hjl : j < M
    ·
     have hxj : c.links[j]? = some (c.links[j]'(by omega)) := List.getElem?_eq_getElem (by omega)
     obtain ⟨n,p,hx,hnN,hp1,hp5,hbes⟩ := links_mem.1 (List.getElem_mem (show j < c.links.length by omega))
     rw [hx] at hxj
     rw [hNN] at hnN
     have htk : c.links.take (j + 1) = c.links.take j ++ [((n : Int),(p : Int))] := by rw [List.take_succ_eq_append_getElem (by omega),hx]
     have hdn : dOf (c.links.take j) n p = false := by
      unfold dOf
      rw [decide_eq_false_iff_not]
      intro hm
      have hnd := links_nodup c
      rw [← List.take_append_drop (j + 1) c.links,htk] at hnd
      have h2 := (List.nodup_append.1 hnd).1
      exact (List.nodup_append.1 h2).2.2 _ hm _ (List.mem_singleton.2 rfl) rfl
     obtain ⟨oq1,hq1,-⟩ := F.open hS (FP.link k 8)
     rw [upd_same] at hq1
     obtain ⟨gl,ol,hal,-,-,hcell⟩ := Que.at hq1 hxj
     have l0 := hcell 0 (by omega)
     have l1 := hcell 1 (by omega)
     rw [Nat.add_zero] at l0
     simp only [encPr,List.getElem?_cons_zero,List.getElem?_cons_succ] at l0 l1
     subst hal
     have i0 : (0 : Int) ≤ (j : Int) := by omega
     have i1 : (j : Int) < (M : Int) := by omega
     have n0 : (0 : Int) ≤ (n : Int) := by omega
     have n1 : (n : Int) < (k : Int) := by omega
     have p0 : (0 : Int) ≤ (p : Int) := by omega
     have p1 : (p : Int) < 5 := by omega
     have HDM := Lib.hid (show dOf (c.links.take (j + 1)) = dMore (dOf (c.links.take j)) n p by rw [htk,dOf_more])
     have HD8 : ∀ q,7 ≤ q→dOf (c.links.take j) k q = false := by
      intro q hq
      unfold dOf
      rw [decide_eq_false_iff_not]
      intro hm
      obtain ⟨n',p',hx',-,-,hp',-⟩ := links_mem.1 (List.mem_of_mem_take hm)
      have := (Prod.mk.inj hx').2
      omega
     obtain ⟨d,hd⟩ : ∃ d,dOf (c.links.take j) = d := ⟨_,rfl⟩
     rw [hd] at F hS hdn HDM HD8
     have hnk : n ≠ k := by omega
     have hD7 := HD8 7 (by omega)
     have hD88 := HD8 8 (by omega)
     have HPD := Lib.hid (And.intro hdn (And.intro hD7 hD88))
     obtain ⟨oqn,hqn,-⟩ := F.open hS .nodes
     have hqn : Que (encS A d) 7 90 (.slice av k cv) (List.range k) w6 oqn := by simpa [upd,stgF] using hqn
     have hrn : (List.range k)[n]? = some n := by simp [hnN]
     obtain ⟨gn,on,han,-,-,-⟩ := Que.at hqn hrn
     subst han
     have kB : Blk w6 b (fabCells c (.slice (some ⟨gn,on,none⟩) k cv) 0) 87 := F.get hS .blk (by simp [upd,stgF])
     have b9 := kB.cell 9
     simp [fabCells] at b9
     clear hq1 hcell hxj htk hx hbes hdn HD8 hd hqn kB hD7 hD88
     have hLS : (⟨List.replicate c.Lanes.toNat c.Depth,List.replicate c.Lanes.toNat 0,[],[]⟩ : LinkS) = LinkS.new c := rfl
     go_upto_region 12 with fail
     have F := F.add hS (FP.link k 7) _ (by have h9 := HPD.out; simp [upd,stgF,h9]) (made_cells w6 #[.int .i64 (n : Int),.int .i64 (p : Int)] 112)
     have hS := upd_stable hS (Cells.stable w6.heap.size #[.int .i64 (n : Int),.int .i64 (p : Int)] 112) (i := FP.link k 7)
     generalize w6.heap.size = T at F hS ⊢
     generalize w6.alloc (.cells #[.int .i64 (n : Int),.int .i64 (p : Int)] 112) = w7 at F ⊢
     have kB : Blk w7 b (fabCells c (.slice (some ⟨gn,on,none⟩) k cv) 0) 87 := F.get hS .blk (by simp [upd,stgF])
     have kT : Blk w7 T #[.int .i64 (n : Int),.int .i64 (p : Int)] 112 := F.get hS (FP.link k 7) (by simp [upd])
     clear l0 l1 b9
     refine walkT_begin 17 (fun w' => (w'.cell? ⟨w.heap.size,0,none⟩ = some (.int .i64 c.W)∧w'.cell? ⟨w.heap.size,1,none⟩ = some (.int .i64 c.H)∧w'.cell? ⟨w.heap.size,2,none⟩ = some (.int .i64 c.Lanes)∧w'.cell? ⟨w.heap.size,3,none⟩ = some (.int .i64 c.Depth)∧w'.cell? ⟨w.heap.size,4,none⟩ = some (.int .i64 c.Ring)∧w'.cell? ⟨w.heap.size,5,none⟩ = some (.int .i64 c.Inbox)∧w'.cell? ⟨w.heap.size,6,none⟩ = some (.int .i64 c.Bound)∧w'.cell? ⟨w.heap.size,7,none⟩ = some (.bool c.West)∧w'.cell? ⟨w.heap.size,8,none⟩ = some (.bool c.Cast))∧w'.cell? ⟨b,9,none⟩ = some (.slice (some ⟨gn,on,none⟩) k cv)∧w'.cell? ⟨T,0,none⟩ = some (.int .i64 (n : Int))∧w'.cell? ⟨T,1,none⟩ = some (.int .i64 (p : Int))) (by kernel_rfl) ?_
     have hHeld : (fun w' => (w'.cell? ⟨w.heap.size,0,none⟩ = some (.int .i64 c.W)∧w'.cell? ⟨w.heap.size,1,none⟩ = some (.int .i64 c.H)∧w'.cell? ⟨w.heap.size,2,none⟩ = some (.int .i64 c.Lanes)∧w'.cell? ⟨w.heap.size,3,none⟩ = some (.int .i64 c.Depth)∧w'.cell? ⟨w.heap.size,4,none⟩ = some (.int .i64 c.Ring)∧w'.cell? ⟨w.heap.size,5,none⟩ = some (.int .i64 c.Inbox)∧w'.cell? ⟨w.heap.size,6,none⟩ = some (.int .i64 c.Bound)∧w'.cell? ⟨w.heap.size,7,none⟩ = some (.bool c.West)∧w'.cell? ⟨w.heap.size,8,none⟩ = some (.bool c.Cast))∧w'.cell? ⟨b,9,none⟩ = some (.slice (some ⟨gn,on,none⟩) k cv)∧w'.cell? ⟨T,0,none⟩ = some (.int .i64 (n : Int))∧w'.cell? ⟨T,1,none⟩ = some (.int .i64 (p : Int))) (w7.drew) := by exact ⟨HC.out _ F.mod.drew,(kB.cell 9).trans rfl,(kT.cell 0).trans rfl,(kT.cell 1).trans rfl⟩
     refine takeT_run 0 (v := ?_) rfl (by kernel_rfl) (by kernel_rfl) (by kernel_rfl) (fun _ _ _ h => h) (by rfl) ?_ (by assumption) ?_
     rotate_left
     ·
      (intro wx hSw; (try dsimp only at hSw); go_simp; try with_reducible rfl)
     try simp only [Act.put,lyA,lyB,lyC]
     refine takeT_run 1 (v := ?_) rfl (by kernel_rfl) (by kernel_rfl) (by kernel_rfl) (fun _ _ _ h => h) (by rfl) ?_ (by assumption) ?_
     rotate_left
     ·
      (intro wx hSw; (try dsimp only at hSw); go_simp; try with_reducible rfl)
     try simp only [Act.put,lyA,lyB,lyC]
     refine takeT_run 2 (v := ?_) rfl (by kernel_rfl) (by kernel_rfl) (by kernel_rfl) (fun _ _ _ h => h) (by rfl) ?_ (by assumption) ?_
     rotate_left
     ·
      (intro wx hSw; (try dsimp only at hSw); go_simp; try with_reducible rfl)
     try simp only [Act.put,lyA,lyB,lyC]
     refine takeT_run 3 (v := ?_) rfl (by kernel_rfl) (by kernel_rfl) (by kernel_rfl) (fun _ _ _ h => h) (by rfl) ?_ (by assumption) ?_
     rotate_left
     ·
      (intro wx hSw; (try dsimp only at hSw); go_simp; try with_reducible rfl)
     try simp only [Act.put,lyA,lyB,lyC]
     refine takeT_run 4 (v := ?_) rfl (by kernel_rfl) (by kernel_rfl) (by kernel_rfl) (fun _ _ _ h => h) (by rfl) ?_ (by assumption) ?_
     rotate_left
     ·
      (intro wx hSw; (try dsimp only at hSw); go_simp; try with_reducible rfl)
     try simp only [Act.put,lyA,lyB,lyC]
     refine takeT_run 5 (v := ?_) rfl (by kernel_rfl) (by kernel_rfl) (by kernel_rfl) (fun _ _ _ h => h) (by rfl) ?_ (by assumption) ?_
     rotate_left
     ·
      (intro wx hSw; (try dsimp only at hSw); go_simp; try with_reducible rfl)
     try simp only [Act.put,lyA,lyB,lyC]
     refine takeT_run 6 (v := ?_) rfl (by kernel_rfl) (by kernel_rfl) (by kernel_rfl) (fun _ _ _ h => h) (by rfl) ?_ (by assumption) ?_
     rotate_left
     ·
      (intro wx hSw; (try dsimp only at hSw); go_simp; try with_reducible rfl)
     try simp only [Act.put,lyA,lyB,lyC]
     refine takeT_run 7 (v := ?_) rfl (by kernel_rfl) (by kernel_rfl) (by kernel_rfl) (fun _ _ _ h => h) (by rfl) ?_ (by assumption) ?_
     rotate_left
     ·
      (intro wx hSw; (try dsimp only at hSw); go_simp; try with_reducible rfl)
     try simp only [Act.put,lyA,lyB,lyC]
     refine takeT_run 8 (v := ?_) rfl (by kernel_rfl) (by kernel_rfl) (by kernel_rfl) (fun _ _ _ h => h) (by rfl) ?_ (by assumption) ?_
     rotate_left
     ·
      (intro wx hSw; (try dsimp only at hSw); go_simp; try with_reducible rfl)
     try simp only [Act.put,lyA,lyB,lyC]
     refine takeT_run 9 (v := ?_) rfl (by kernel_rfl) (by kernel_rfl) (by kernel_rfl) (fun _ _ _ h => h) (by rfl) ?_ (by assumption) ?_
     rotate_left
     ·
      (intro wx hSw; (try dsimp only at hSw); go_simp; try with_reducible rfl)
     try simp only [Act.put,lyA,lyB,lyC]
     refine takeT_run 10 (v := ?_) rfl (by kernel_rfl) (by kernel_rfl) (by kernel_rfl) (fun _ _ _ h => h) (by rfl) ?_ (by assumption) ?_
     rotate_left
     ·
      (intro wx hSw; (try dsimp only at hSw); go_simp; try with_reducible rfl)
     try simp only [Act.put,lyA,lyB,lyC]
     refine takeT_run 11 (v := ?_) rfl (by kernel_rfl) (by kernel_rfl) (by kernel_rfl) (fun _ _ _ h => h) (by rfl) ?_ (by assumption) ?_
     rotate_left
     ·
      (intro wx hSw; (try dsimp only at hSw); go_simp; try with_reducible rfl)
     try simp only [Act.put,lyA,lyB,lyC]
     refine takeT_run 12 (v := ?_) rfl (by kernel_rfl) (by kernel_rfl) (by kernel_rfl) (fun _ _ _ h => h) (by rfl) ?_ (by assumption) ?_
     rotate_left
     ·
      (intro wx hSw; (try dsimp only at hSw); go_simp; try with_reducible rfl)
     try simp only [Act.put,lyA,lyB,lyC]
     refine takeT_run 13 (v := ?_) rfl (by kernel_rfl) (by kernel_rfl) (by kernel_rfl) (fun _ _ _ h => h) (by rfl) ?_ (by assumption) ?_
     rotate_left
     ·
      (intro wx hSw; (try dsimp only at hSw); go_simp; try with_reducible rfl)
     try simp only [Act.put,lyA,lyB,lyC]
     refine takeT_run 15 (v := ?_) rfl (by kernel_rfl) (by kernel_rfl) (by kernel_rfl) (fun _ _ _ h => h) (by rfl) ?_ (by assumption) ?_
     rotate_left
     ·
      (intro wx hSw; (try dsimp only at hSw); go_simp; try with_reducible rfl)
     try simp only [Act.put,lyA,lyB,lyC]
     refine takeT_run 16 (v := ?_) rfl (by kernel_rfl) (by kernel_rfl) (by kernel_rfl) (fun _ _ _ h => h) (by rfl) ?_ (by assumption) ?_
     rotate_left
     ·
      (intro wx hSw; (try dsimp only at hSw); go_simp; try with_reducible rfl)
     try simp only [Act.put,lyA,lyB,lyC]
     refine takeT_one 14 rfl (by kernel_rfl) (by rfl) ?_
     intro K hK
     go_simp
     have F := F.later hS ((Mod.refl (fun _ => False) w7).drew)
     refine (HLK.out _).mono ?_
     rintro e v1 ⟨x,rfl,hM⟩
     rw [hLS] at hM
     have F := F.add hS (FP.link n p) _ (by have h9 := HPD.out; simp [upd,stgF,h9,hnk]) hM
     have hS := upd_stable hS (LinkAt.stable x c.Lanes.toNat c.Depth.toNat c.Ring.toNat (LinkS.new c)) (i := FP.link n p)
     clear hM
     have kB : Blk v1 b (fabCells c (.slice (some ⟨gn,on,none⟩) k cv) 0) 87 := F.get hS .blk (by simp [upd,stgF])
     have kT : Blk v1 T #[.int .i64 (n : Int),.int .i64 (p : Int)] 112 := F.get hS (FP.link k 7) (by simp [upd,hnk,Ne.symm hnk])
     refine hK.out _ _ ?_ (fun hHeld' => ?_)
     ·
      exact ⟨HC.out _ F.mod,(kB.cell 9).trans rfl,(kT.cell 0).trans rfl,(kT.cell 1).trans rfl⟩
     clear hK K hHeld
     try simp only [Act.put,lyA,lyB,lyC]
     refine walkT_tail 17 rfl rfl (by kernel_rfl) rfl ?_
     simp only [List.drop_succ_cons,List.drop_zero]
     obtain ⟨oq,hq,hput⟩ := F.open hS .nodes
     have hq : Que (encS A d) 7 90 (.slice (some ⟨gn,on,none⟩) k cv) (List.range k) v1 oq := by simpa [upd,stgF] using hq
     obtain ⟨g2,o2,hgo,zf,⟨v0,hv0⟩,tq⟩ := Que.setIn (enc' := encS (A.moreL n p x) (dMore d n p)) hq hrn (t := 2 + p) (by omega) (.pointer (some ⟨x,0,none⟩)) (fun i y hy s hs => by
      obtain ⟨hi,rfl⟩ : i < k∧i = y := by
       have h1 := (List.getElem?_eq_some_iff.1 hy).1
       rw [List.length_range] at h1
       rw [List.getElem?_range h1] at hy
       exact ⟨h1,Option.some.inj hy⟩
      exact encS_set A d n p x (by omega) i s hs)
     simp only [Option.some.injEq,Addr.mk.injEq] at hgo
     obtain ⟨rfl,rfl,-⟩ := hgo
     have F3 := hput _ _ tq
     have hS3 := upd_stable hS (Que.stable (enc := encS (A.moreL n p x) (dMore d n p)) (sz := 7) (T := 90) (.slice (some ⟨gn,on,none⟩) k cv) (List.range k)) (i := FP.nodes)
     have F4 := F3.drop hS3 (FP.link k 7)
     have REL := Lib.hid (show Fresh w1 (upd (stgF b (A.moreL n p x) c (.slice (some ⟨gn,on,none⟩) k cv) k (dOf (c.links.take (j + 1)))) (FP.link k 8) (Que encPr 2 112 (.slice (some ⟨gl,ol,none⟩) M cl) c.links)) (v1.setCell ⟨gn,on + n * 7 + (2 + p),none⟩ (.pointer (some ⟨x,0,none⟩))) from by
      rw [HDM.out,← stgF_link b A c _ d k n p x]
      refine Eq.mp (congrArg (fun X => Fresh w1 X _) ?_) F4
      obtain ⟨h7,h8,h9⟩ := HPD.out
      funext q
      by_cases h1 : q = FP.link k 7
      ·
       subst h1
       simp [upd,stgF,h8,Ne.symm hnk]
      by_cases h2 : q = FP.link k 8
      ·
       subst h2
       simp [upd,Ne.symm hnk]
      by_cases h3 : q = FP.nodes
      ·
       subst h3
       simp [upd]
      simp only [upd,if_neg h1,if_neg h2,if_neg h3])
     have hv0' : v1.cell? ⟨gn,on + n * 7 + 2 + p,none⟩ = some v0 := by rw [Nat.add_assoc (on + n * 7)]; exact hv0
     have zf' : v1.frozen? ⟨gn,on + n * 7 + 2 + p,none⟩ = false := by rw [Nat.add_assoc (on + n * 7)]; exact zf
     rw [← Nat.add_assoc (on + n * 7)] at REL
     clear F F3 F4 hput hS hS3 kB kT hq tq hv0 zf
     go_wp2
     go_roundw
     case rel => exact ⟨j + 1,A.moreL n p x,by omega,by go_num,REL.out⟩
     case measure => simp [intOf]; omega
    ·
     have hj2 : j = M := by omega
     subst hj2
     rw [← hMl,List.take_length] at F
     rw [← hMl,List.take_length] at hS
     have F := F.drop hS (FP.link k 8)
     have e1 : upd (upd (stgF b A c (.slice av k cv) k (dOf c.links)) (FP.link k 8) (Que encPr 2 112 (.slice al c.links.length cl) c.links)) (FP.link k 8) Emp = fabX b A c (.slice av k cv) (FabS.new c) := by
      rw [← stgF_all hc,hNN]
      funext q
      by_cases h2 : q = FP.link k 8
      ·
       subst h2
       have h8 : dOf c.links k 8 = false := by
        unfold dOf
        rw [decide_eq_false_iff_not]
        intro hm
        obtain ⟨n',p',hx',-,-,hp',-⟩ := links_mem.1 hm
        have := (Prod.mk.inj hx').2
        omega
       simp [upd,stgF,h8]
      ·
       simp only [upd,if_neg h2]
     rw [e1] at F
     have FIN := Lib.hid (show Made (FabAt b c (FabS.new c)) w w6 from by
      obtain ⟨o,hF,hlo,MM⟩ := F
      exact ⟨o,⟨A,_,hF⟩,m01.trans MM (by simp),fun g hg => by have := hlo g hg; omega⟩)
     clear F hS e1
     go_wp2
     go_ret
     exact ⟨b,rfl,FIN.out⟩
open Go.RowKit
theorem headWords_lt (p : Parcel) (l : List (Int × Int)) : ∀ x ∈ headWords p l,x < 2 ^ 64 := by
 induction l with
 | nil => intro x hx; simp [headWords] at hx
 | cons t l ih =>
  intro x hx
  rcases List.mem_cons.1 hx with rfl | hx
  ·
   exact sealN_lt _
  ·
   exact ih x hx
theorem dataWords_lt (k : Nat) (d : ByteArray) : ∀ x ∈ dataWords k d,x < 2 ^ 64 := by
 induction k generalizing d with
 | zero =>
  intro x hx
  simp only [dataWords,List.mem_singleton] at hx
  rw [hx]
  exact sealN_lt _
 | succ k ih =>
  intro x hx
  unfold dataWords at hx
  split at hx
  ·
   rcases List.mem_cons.1 hx with rfl | hx
   ·
    exact sealN_lt _
   ·
    exact ih _ x hx
  ·
   simp only [List.mem_singleton] at hx
   rw [hx]
   exact sealN_lt _
theorem headWords_len' (p : Parcel) (l : List (Int × Int)) : (headWords p l).length = l.length := by
 induction l with
 | nil => rfl
 | cons t l ih => simp [headWords,ih]
theorem dataWords_len' (k : Nat) (d : ByteArray) : (dataWords k d).length ≤ k + 1 := by
 induction k generalizing d with
 | zero => simp [dataWords]
 | succ k ih =>
  unfold dataWords
  split
  ·
   have := ih (d.extract 6 d.size)
   simp only [List.length_cons]
   omega
  ·
   simp
theorem words_len {p : Parcel} (hp : p.right = true) : p.words.length ≤ 4108 := by
 unfold Parcel.right at hp
 simp only [Bool.and_eq_true,decide_eq_true_eq] at hp
 have h1 := dataWords_len' 11 p.data
 unfold Parcel.words
 rw [List.length_append,headWords_len']
 omega
theorem words_lt (p : Parcel) : ∀ x ∈ p.words,x < 2 ^ 64 := by
 intro x hx
 unfold Parcel.words at hx
 rcases List.mem_append.1 hx with h | h
 ·
  exact headWords_lt p _ x h
 ·
  exact dataWords_lt _ _ x h
theorem cls_in {c : Cfg} (hc : c.Ok) (b : Bool) (hcl : (c.cls b).2 ≠ 0) : 0 ≤ (c.cls b).1∧1 ≤ (c.cls b).2∧(c.cls b).1 + (c.cls b).2 ≤ c.Lanes := by
 have h1 := hc.L1
 have h2 := hc.C
 unfold Cfg.cls at hcl ⊢
 split
 ·
  rename_i h
  rw [if_pos h] at hcl
  exact absurd rfl hcl
 ·
  rename_i h
  rw [if_neg h] at hcl
  split
  ·
   dsimp only; omega
  ·
   split
   ·
    rename_i h4
    have := h2 h4
    dsimp only
    omega
   ·
    dsimp only
    omega
section
variable {c : Cfg} {f : FabS}
theorem kept_send (hk : FabOk c f) {p : Parcel} (hp : p.right = true) (hsrc : c.is p.src = true) (hall : ∀ t ∈ p.heads,c.is t.1 = true) (hcl : (c.cls p.cast).2 ≠ 0)
  (hlen : (f.at p.src).words.length + 5000 ≤ 1000000) (hst : (f.at p.src).sent ≤ 4611686018427387000) : Kept c f (f.send c p).1 := by
 rw [send_ok hk hp hsrc hall hcl]
 obtain ⟨n,hn,hnN⟩ := is_split hk hsrc
 rw [hn] at hlen hst ⊢
 have hnc := hk.nc n hnN
 have hw := words_len hp
 obtain ⟨h1,h2,h3⟩ := cls_in hk.ok p.cast hcl
 have hm0 := Int.emod_nonneg (f.at (n : Int)).sent (show (c.cls p.cast).2 ≠ 0 by omega)
 have hm1 := Int.emod_lt_of_pos (f.at (n : Int)).sent (show 0 < (c.cls p.cast).2 by omega)
 refine ⟨hk.put_nc hnN ⟨hnc.jl,hnc.join,hnc.box,?_,fun x hx => ?_,?_⟩,rfl⟩
 ·
  simp only [List.length_append,List.length_map]
  omega
 ·
  rcases List.mem_append.1 hx with h | h
  ·
   exact hnc.ws x h
  ·
   obtain ⟨y,hy,rfl⟩ := List.mem_map.1 h
   exact ⟨by dsimp only; omega,by dsimp only; omega,words_lt p y hy⟩
 ·
  have h0 : 0 ≤ (f.at (n : Int)).sent := hnc.sent.1
  dsimp only
  omega
theorem kept_recv (hk : FabOk c f) (n : Int) : Kept c f (f.recv c n).1 := by
 by_cases hs : c.is n = true
 ·
  obtain ⟨m,rfl,hm⟩ := is_split hk hs
  rw [recv_is hk hm]
  have hnc := hk.nc m hm
  exact ⟨hk.put_nc hm ⟨hnc.jl,hnc.join,⟨hnc.box.dj,hnc.box.wait,hnc.box.nx⟩,hnc.wl,hnc.ws,hnc.sent⟩,rfl⟩
 ·
  unfold FabS.recv
  rw [if_neg hs]
  exact ⟨hk,rfl⟩
end
open Go.RowKit
def exR : List Nat := [0,1,2,3,4,5,6,7,8,9,10,11,12,13,14,15,16,17,18,19,20,21,22,23,24,25,26,27,28,29,30,31,32,33,34,35,36,37,38,39,40,41,42,43,44,45,46,47,48,49]
theorem exR_is : exC.round 0 0 = exR := by kernel_rfl
def ex0 : FabS := ⟨[⟨[⟨[],0,0,0,false⟩,⟨[],0,0,0,false⟩,⟨[],0,0,0,false⟩,⟨[],0,0,0,false⟩,⟨[],0,0,0,false⟩],[(-1),(-1),(-1),(-1),(-1)],[(-1),(-1),(-1),(-1),(-1)],[(-1),(-1),(-1),(-1),(-1)],[(0,16429135838694096897),(0,13979173243358022695)],1,[⟨false,⟨0,0,0,⟨#[]⟩⟩,0⟩,⟨false,⟨0,0,0,⟨#[]⟩⟩,0⟩,⟨false,⟨0,0,0,⟨#[]⟩⟩,0⟩,⟨false,⟨0,0,0,⟨#[]⟩⟩,0⟩,⟨false,⟨0,0,0,⟨#[]⟩⟩,0⟩],⟨[],[],[]⟩,[none,some ⟨[1],[0],[],[]⟩,none,none,none]⟩,⟨[⟨[],0,0,0,false⟩,⟨[],0,0,0,false⟩,⟨[],0,0,0,false⟩,⟨[],0,0,0,false⟩,⟨[],0,0,0,false⟩],[(-1),(-1),(-1),(-1),(-1)],[(-1),(-1),(-1),(-1),(-1)],[(-1),(-1),(-1),(-1),(-1)],[],0,[⟨false,⟨0,0,0,⟨#[]⟩⟩,0⟩,⟨false,⟨0,0,0,⟨#[]⟩⟩,0⟩,⟨false,⟨0,0,0,⟨#[]⟩⟩,0⟩,⟨false,⟨0,0,0,⟨#[]⟩⟩,0⟩,⟨false,⟨0,0,0,⟨#[]⟩⟩,0⟩],⟨[],[],[]⟩,[none,none,some ⟨[1],[0],[],[]⟩,none,none]⟩],0⟩
def ex1 : FabS := ⟨[⟨[⟨[16429135838694096897],0,0,0,false⟩,⟨[],0,0,0,false⟩,⟨[],0,0,0,false⟩,⟨[],0,0,0,false⟩,⟨[],0,0,0,false⟩],[(-1),(-1),(-1),(-1),(-1)],[(-1),(-1),(-1),(-1),(-1)],[(-1),(-1),(-1),(-1),(-1)],[(0,13979173243358022695)],1,[⟨false,⟨0,0,0,⟨#[]⟩⟩,0⟩,⟨false,⟨0,0,0,⟨#[]⟩⟩,0⟩,⟨false,⟨0,0,0,⟨#[]⟩⟩,0⟩,⟨false,⟨0,0,0,⟨#[]⟩⟩,0⟩,⟨false,⟨0,0,0,⟨#[]⟩⟩,0⟩],⟨[],[],[]⟩,[none,some ⟨[1],[0],[],[]⟩,none,none,none]⟩,⟨[⟨[],0,0,0,false⟩,⟨[],0,0,0,false⟩,⟨[],0,0,0,false⟩,⟨[],0,0,0,false⟩,⟨[],0,0,0,false⟩],[(-1),(-1),(-1),(-1),(-1)],[(-1),(-1),(-1),(-1),(-1)],[(-1),(-1),(-1),(-1),(-1)],[],0,[⟨false,⟨0,0,0,⟨#[]⟩⟩,0⟩,⟨false,⟨0,0,0,⟨#[]⟩⟩,0⟩,⟨false,⟨0,0,0,⟨#[]⟩⟩,0⟩,⟨false,⟨0,0,0,⟨#[]⟩⟩,0⟩,⟨false,⟨0,0,0,⟨#[]⟩⟩,0⟩],⟨[],[],[]⟩,[none,none,some ⟨[1],[0],[],[]⟩,none,none]⟩],1⟩
def ex2 : FabS := ⟨[⟨[⟨[13979173243358022695],2,1,0,false⟩,⟨[],0,0,0,false⟩,⟨[],0,0,0,false⟩,⟨[],0,0,0,false⟩,⟨[],0,0,0,false⟩],[(-1),0,(-1),(-1),(-1)],[(-1),0,(-1),(-1),(-1)],[(-1),0,(-1),(-1),(-1)],[],1,[⟨false,⟨0,0,0,⟨#[]⟩⟩,0⟩,⟨false,⟨0,0,0,⟨#[]⟩⟩,0⟩,⟨false,⟨0,0,0,⟨#[]⟩⟩,0⟩,⟨false,⟨0,0,0,⟨#[]⟩⟩,0⟩,⟨false,⟨0,0,0,⟨#[]⟩⟩,0⟩],⟨[],[],[]⟩,[none,some ⟨[0],[0],[],[0]⟩,none,none,none]⟩,⟨[⟨[],0,0,0,false⟩,⟨[],0,0,0,false⟩,⟨[],2,0,0,false⟩,⟨[],0,0,0,false⟩,⟨[],0,0,0,false⟩],[(-1),(-1),(-1),(-1),(-1)],[(-1),(-1),(-1),(-1),(-1)],[2,(-1),(-1),(-1),(-1)],[],0,[⟨false,⟨0,0,0,⟨#[]⟩⟩,0⟩,⟨false,⟨0,0,0,⟨#[]⟩⟩,0⟩,⟨true,⟨0,1,0,⟨#[]⟩⟩,1⟩,⟨false,⟨0,0,0,⟨#[]⟩⟩,0⟩,⟨false,⟨0,0,0,⟨#[]⟩⟩,0⟩],⟨[],[],[]⟩,[none,none,some ⟨[1],[0],[],[]⟩,none,none]⟩],8⟩
def ex3 : FabS := ⟨[⟨[⟨[13979173243358022695],2,1,0,false⟩,⟨[],0,0,0,false⟩,⟨[],0,0,0,false⟩,⟨[],0,0,0,false⟩,⟨[],0,0,0,false⟩],[(-1),0,(-1),(-1),(-1)],[(-1),0,(-1),(-1),(-1)],[(-1),0,(-1),(-1),(-1)],[],1,[⟨false,⟨0,0,0,⟨#[]⟩⟩,0⟩,⟨false,⟨0,0,0,⟨#[]⟩⟩,0⟩,⟨false,⟨0,0,0,⟨#[]⟩⟩,0⟩,⟨false,⟨0,0,0,⟨#[]⟩⟩,0⟩,⟨false,⟨0,0,0,⟨#[]⟩⟩,0⟩],⟨[],[],[]⟩,[none,some ⟨[1],[0],[],[]⟩,none,none,none]⟩,⟨[⟨[],0,0,0,false⟩,⟨[],0,0,0,false⟩,⟨[],2,0,0,false⟩,⟨[],0,0,0,false⟩,⟨[],0,0,0,false⟩],[(-1),(-1),(-1),(-1),(-1)],[(-1),(-1),(-1),(-1),(-1)],[2,(-1),(-1),(-1),(-1)],[],0,[⟨false,⟨0,0,0,⟨#[]⟩⟩,0⟩,⟨false,⟨0,0,0,⟨#[]⟩⟩,0⟩,⟨true,⟨0,1,0,⟨#[]⟩⟩,1⟩,⟨false,⟨0,0,0,⟨#[]⟩⟩,0⟩,⟨false,⟨0,0,0,⟨#[]⟩⟩,0⟩],⟨[],[],[]⟩,[none,none,some ⟨[1],[0],[],[]⟩,none,none]⟩],9⟩
def ex4 : FabS := ⟨[⟨[⟨[],0,0,0,false⟩,⟨[],0,0,0,false⟩,⟨[],0,0,0,false⟩,⟨[],0,0,0,false⟩,⟨[],0,0,0,false⟩],[(-1),(-1),(-1),(-1),(-1)],[(-1),0,(-1),(-1),(-1)],[(-1),0,(-1),(-1),(-1)],[],1,[⟨false,⟨0,0,0,⟨#[]⟩⟩,0⟩,⟨false,⟨0,0,0,⟨#[]⟩⟩,0⟩,⟨false,⟨0,0,0,⟨#[]⟩⟩,0⟩,⟨false,⟨0,0,0,⟨#[]⟩⟩,0⟩,⟨false,⟨0,0,0,⟨#[]⟩⟩,0⟩],⟨[],[],[]⟩,[none,some ⟨[0],[0],[],[0]⟩,none,none,none]⟩,⟨[⟨[],0,0,0,false⟩,⟨[],0,0,0,false⟩,⟨[],0,0,0,false⟩,⟨[],0,0,0,false⟩,⟨[],0,0,0,false⟩],[(-1),(-1),(-1),(-1),(-1)],[(-1),(-1),(-1),(-1),(-1)],[2,(-1),(-1),(-1),(-1)],[],0,[⟨false,⟨0,0,0,⟨#[]⟩⟩,0⟩,⟨false,⟨0,0,0,⟨#[]⟩⟩,0⟩,⟨false,⟨0,0,0,⟨#[]⟩⟩,0⟩,⟨false,⟨0,0,0,⟨#[]⟩⟩,0⟩,⟨false,⟨0,0,0,⟨#[]⟩⟩,0⟩],⟨[⟨0,1,0,⟨#[97]⟩⟩],[],[(0,1)]⟩,[none,none,some ⟨[1],[0],[],[]⟩,none,none]⟩],13⟩
def ex5 : FabS := ⟨[⟨[⟨[],0,0,0,false⟩,⟨[],0,0,0,false⟩,⟨[],0,0,0,false⟩,⟨[],0,0,0,false⟩,⟨[],0,0,0,false⟩],[(-1),(-1),(-1),(-1),(-1)],[(-1),0,(-1),(-1),(-1)],[(-1),0,(-1),(-1),(-1)],[],1,[⟨false,⟨0,0,0,⟨#[]⟩⟩,0⟩,⟨false,⟨0,0,0,⟨#[]⟩⟩,0⟩,⟨false,⟨0,0,0,⟨#[]⟩⟩,0⟩,⟨false,⟨0,0,0,⟨#[]⟩⟩,0⟩,⟨false,⟨0,0,0,⟨#[]⟩⟩,0⟩],⟨[],[],[]⟩,[none,some ⟨[1],[0],[],[]⟩,none,none,none]⟩,⟨[⟨[],0,0,0,false⟩,⟨[],0,0,0,false⟩,⟨[],0,0,0,false⟩,⟨[],0,0,0,false⟩,⟨[],0,0,0,false⟩],[(-1),(-1),(-1),(-1),(-1)],[(-1),(-1),(-1),(-1),(-1)],[2,(-1),(-1),(-1),(-1)],[],0,[⟨false,⟨0,0,0,⟨#[]⟩⟩,0⟩,⟨false,⟨0,0,0,⟨#[]⟩⟩,0⟩,⟨false,⟨0,0,0,⟨#[]⟩⟩,0⟩,⟨false,⟨0,0,0,⟨#[]⟩⟩,0⟩,⟨false,⟨0,0,0,⟨#[]⟩⟩,0⟩],⟨[⟨0,1,0,⟨#[97]⟩⟩],[],[(0,1)]⟩,[none,none,some ⟨[1],[0],[],[]⟩,none,none]⟩],14⟩
theorem ex_send : (FabS.new exC).send exC exP = (ex0,0) := by kernel_rfl
theorem ex_r0 : ex0.rounds exC 0 exR = (ex1,1) := by kernel_rfl
theorem ex_r1 : ex1.rounds exC 0 exR = (ex2,7) := by kernel_rfl
theorem ex_r2 : ex2.rounds exC 0 exR = (ex3,1) := by kernel_rfl
theorem ex_r3 : ex3.rounds exC 0 exR = (ex4,4) := by kernel_rfl
theorem ex_r4 : ex4.rounds exC 0 exR = (ex5,1) := by kernel_rfl
theorem ex_r5 : ex5.rounds exC 0 exR = (ex5,0) := by kernel_rfl
def exS : Nat→FabS
 | 0 => ex0
 | 1 => ex1
 | 2 => ex2
 | 3 => ex3
 | 4 => ex4
 | _ => ex5
def exN : Nat→Nat
 | 0 => 1
 | 1 => 7
 | 2 => 1
 | 3 => 4
 | 4 => 1
 | _ => 0
theorem ex_step (k : Nat) : (exS k).rounds exC 0 (exC.round 0 0) = (exS (k + 1),exN k) := by
 rw [exR_is]
 match k with
 | 0 => exact ex_r0
 | 1 => exact ex_r1
 | 2 => exact ex_r2
 | 3 => exact ex_r3
 | 4 => exact ex_r4
 | k + 5 => exact ex_r5
theorem ex_recv : ex5.recv exC 1 = ((ex5.recv exC 1).1,⟨0,1,0,⟨#[97]⟩⟩,0) := by kernel_rfl
theorem ex_quiet : (ex5.recv exC 1).1.quiet = true := by kernel_rfl
theorem ex_steps : (ex5.recv exC 1).1.steps = 14 := by kernel_rfl
theorem ex_ok : exC.Ok := exC.ok_of (by kernel_rfl)
open Go.RowKit
theorem Made.mods {w w1 w2 : World} {own : Nat→Prop} (M : Mod (fun _ => False) w w1) (hlo : ∀ g,own g→w.heap.size ≤ g) (m : Mod own w1 w2) : Mod (fun _ => False) w w2 :=
 M.trans' m (fun _ _ e => e) (fun i hi e => by have := hlo i e; omega)
theorem run_some19 (w : World) : Calls Tryz.prog 38 #[] w fun e w' => e = .returned (.agg exC.cells)∧Mod (fun _ => False) w w' := by
 have kr := Blk.made w #[.int .i64 0,.int .i64 0,.int .i64 0,.int .i64 0,.int .i64 0,.int .i64 0,.int .i64 0,.bool false,.bool false] 23
 have m0 : Mod (fun _ => False) w (w.alloc (.cells #[.int .i64 0,.int .i64 0,.int .i64 0,.int .i64 0,.int .i64 0,.int .i64 0,.int .i64 0,.bool false,.bool false] 23)) := (Mod.refl _ _).alloc _
 go_enter Tryz.func38,Tryz.ntmps38
 go_upto_region 1 with fail
 generalize w.alloc (.cells #[.int .i64 0,.int .i64 0,.int .i64 0,.int .i64 0,.int .i64 0,.int .i64 0,.int .i64 0,.bool false,.bool false] 23) = w1 at kr m0 ⊢
 have r0 := kr.cell 0
 have r1 := kr.cell 1
 have r2 := kr.cell 2
 have r3 := kr.cell 3
 have r4 := kr.cell 4
 have r5 := kr.cell 5
 have r6 := kr.cell 6
 have r7 := kr.cell 7
 have r8 := kr.cell 8
 simp at r0 r1 r2 r3 r4 r5 r6 r7 r8
 have u0 := kr.fz 0
 have u1 := kr.fz 1
 have u2 := kr.fz 2
 have u3 := kr.fz 3
 have u4 := kr.fz 4
 have u5 := kr.fz 5
 have u6 := kr.fz 6
 have u7 := kr.fz 7
 have u8 := kr.fz 8
 go_wp2
 have qE := (((((((((kr.set (0) (.int .i64 2)).set (1) (.int .i64 1)).set (2) (.int .i64 1)).set (3) (.int .i64 1)).set (4) (.int .i64 1)).set (5) (.int .i64 4)).set (6) (.int .i64 4)).set (7) (.bool false)).set (8) (.bool false))
 have mE := (((((((((m0.setCell (p := ⟨w.heap.size,0,none⟩) (Or.inr (Nat.le_refl _)) (.int .i64 2)).setCell (p := ⟨w.heap.size,1,none⟩) (Or.inr (Nat.le_refl _)) (.int .i64 1)).setCell (p := ⟨w.heap.size,2,none⟩) (Or.inr (Nat.le_refl _)) (.int .i64 1)).setCell (p := ⟨w.heap.size,3,none⟩) (Or.inr (Nat.le_refl _)) (.int .i64 1)).setCell (p := ⟨w.heap.size,4,none⟩) (Or.inr (Nat.le_refl _)) (.int .i64 1)).setCell (p := ⟨w.heap.size,5,none⟩) (Or.inr (Nat.le_refl _)) (.int .i64 4)).setCell (p := ⟨w.heap.size,6,none⟩) (Or.inr (Nat.le_refl _)) (.int .i64 4)).setCell (p := ⟨w.heap.size,7,none⟩) (Or.inr (Nat.le_refl _)) (.bool false)).setCell (p := ⟨w.heap.size,8,none⟩) (Or.inr (Nat.le_refl _)) (.bool false))
 have mB := ((((((((((Mod.refl (fun g => g = w.heap.size) w1).setCell (p := ⟨w.heap.size,0,none⟩) (Or.inl rfl) (.int .i64 2)).setCell (p := ⟨w.heap.size,1,none⟩) (Or.inl rfl) (.int .i64 1)).setCell (p := ⟨w.heap.size,2,none⟩) (Or.inl rfl) (.int .i64 1)).setCell (p := ⟨w.heap.size,3,none⟩) (Or.inl rfl) (.int .i64 1)).setCell (p := ⟨w.heap.size,4,none⟩) (Or.inl rfl) (.int .i64 1)).setCell (p := ⟨w.heap.size,5,none⟩) (Or.inl rfl) (.int .i64 4)).setCell (p := ⟨w.heap.size,6,none⟩) (Or.inl rfl) (.int .i64 4)).setCell (p := ⟨w.heap.size,7,none⟩) (Or.inl rfl) (.bool false)).setCell (p := ⟨w.heap.size,8,none⟩) (Or.inl rfl) (.bool false))
 simp at qE
 generalize (((((((((w1.setCell ⟨w.heap.size,0,none⟩ (.int .i64 2)).setCell ⟨w.heap.size,1,none⟩ (.int .i64 1)).setCell ⟨w.heap.size,2,none⟩ (.int .i64 1)).setCell ⟨w.heap.size,3,none⟩ (.int .i64 1)).setCell ⟨w.heap.size,4,none⟩ (.int .i64 1)).setCell ⟨w.heap.size,5,none⟩ (.int .i64 4)).setCell ⟨w.heap.size,6,none⟩ (.int .i64 4)).setCell ⟨w.heap.size,7,none⟩ (.bool false)).setCell ⟨w.heap.size,8,none⟩ (.bool false)) = wE at qE mE mB ⊢
 have qe0 := qE.cell 0
 have qe1 := qE.cell 1
 have qe2 := qE.cell 2
 have qe3 := qE.cell 3
 have qe4 := qE.cell 4
 have qe5 := qE.cell 5
 have qe6 := qE.cell 6
 have qe7 := qE.cell 7
 have qe8 := qE.cell 8
 simp at qe0 qe1 qe2 qe3 qe4 qe5 qe6 qe7 qe8
 exact bodyPost_ret (v := .agg #[.int .i64 2,.int .i64 1,.int .i64 1,.int .i64 1,.int .i64 1,.int .i64 4,.int .i64 4,.bool false,.bool false]) (by simp [results,Tryz.results38,go_sem,qe0,qe1,qe2,qe3,qe4,qe5,qe6,qe7,qe8]) rfl ⟨rfl,mE⟩
theorem exP_right : exP.right = true := by kernel_rfl
theorem exS_ok (k : Nat) : FabOk exC (exS k)∧(exS k).steps ≤ 14 := by
 have h0 : FabOk exC ex0 := by
  have h := kept_send (FabOk.new ex_ok) exP_right (by kernel_rfl) (fun t ht => by
   obtain rfl : t = (1,0) := by simpa [exP] using ht
   kernel_rfl) (by decide) (by decide +kernel) (by decide +kernel)
  rw [ex_send] at h
  exact h.ok
 have hall : ∀ k,(exS k).steps ≤ 14 := by
  intro k
  match k with
  | 0 => decide +kernel
  | 1 => decide +kernel
  | 2 => decide +kernel
  | 3 => decide +kernel
  | 4 => decide +kernel
  | k + 5 => show ex5.steps ≤ 14; decide +kernel
 refine ⟨?_,hall k⟩
 induction k with
 | zero => exact h0
 | succ k ih =>
  have h := (rounds_ok ih 0 (exC.round 0 0) (by
   have := hall k
   rw [round_len]
   have := parts_bd exC
   omega)).1
  rw [ex_step] at h
  exact h
theorem run_lives19 (w : World) : Calls Tryz.prog 10 #[] w fun e w' => e = .returned (.bool true)∧Mod (fun _ => False) w w' := by
 have HS := Lib.hid (run_some19 w)
 have HN := Lib.hid (fun w => fabric_new exC w ex_ok)
 simp only [Cfg.cells,exC] at HS HN
 go_enter Tryz.func10,Tryz.ntmps10
 go_wp2_with fail
 refine HS.out.mono ?_
 rintro e w1 ⟨rfl,m1⟩
 go_wp2_with fail
 refine (HN.out _).mono ?_
 rintro e w2 ⟨b,rfl,own,⟨A,v,hF⟩,M2,hlo⟩
 have HF := Lib.hid hF
 have hlo2 : ∀ g,own g→w.heap.size ≤ g := fun g hg => Nat.le_trans m1.size (hlo g hg)
 have M2 := m1.trans M2 (by simp)
 have HLO := Lib.hid hlo2
 clear hF hlo hlo2 m1 HS HN
 have k3 := Blk.made w2 #[.int .i64 1,.int .i64 0] 80
 have m3 : Mod (fun _ => False) w2 (w2.alloc (.cells #[.int .i64 1,.int .i64 0] 80)) := (Mod.refl _ _).alloc _
 have hv : HeadsV (w2.alloc (.cells #[.int .i64 1,.int .i64 0] 80)) (.slice (some ⟨w2.heap.size,0,none⟩) 1 1) exP.heads := ⟨_,1,1,rfl,rfl,Nat.le_refl _,by decide,Or.inr ⟨w2.heap.size,0,rfl,k3.lt,fun j x hx => by
  have hj : j = 0 := by have := (List.getElem?_eq_some_iff.1 hx).1; simp [exP] at this; exact this
  subst hj
  simp [exP] at hx
  subst hx
  exact ⟨k3.cell 0,k3.cell 1⟩⟩⟩
 have HSD := Lib.hid (by
  have h := fabric_send ((Fam.stable (fabX_stable b A exC v (FabS.new exC))).later HF.out m3 (by simp)) (FabOk.new ex_ok) exP _ hv exP_right (by kernel_rfl) (fun t ht => by
   obtain rfl : t = (1,0) := by simpa [exP] using ht
   kernel_rfl) (by decide) (by decide +kernel) (by decide +kernel)
  rw [ex_send] at h
  simp only [Parcel.val,exP] at h
  exact h.mono fun e w' t => (⟨t.1,Turn.before m3 t.2⟩ : e = Ending.returned (.int .i64 0)∧Turn own (Fam (fabX b A exC v ex0)) w2 w'))
 clear hv k3 m3 HF
 go_wp2_with fail
 refine HSD.out.mono ?_
 rintro e w3 ⟨rfl,t3⟩
 obtain ⟨o3,h3,m3,ho3⟩ := t3
 have hlo3 : ∀ g,o3 g→w.heap.size ≤ g := fun g hg => by
  rcases ho3 g hg with h | h
  ·
   exact HLO.out g h
  ·
   have := M2.size
   omega
 have M3 := Made.mods M2 HLO.out m3
 have HLO3 := Lib.hid hlo3
 have HF3 := Lib.hid h3
 clear hlo3 h3 m3 ho3 HSD HLO M2
 go_upto_region 3 with fail
 go_wp2
 go_loopw [3] (fun i wr => ∃ k : Nat,k ≤ 20∧i = .int .i64 (k : Int)∧Turn o3 (Fam (fabX b A exC v (exS k))) w3 wr) (fun i _ => 20 - (intOf i).toNat)
 case atStart => exact ⟨0,by omega,rfl,Turn.same (Fam.stable (fabX_stable b A exC v ex0)) HF3.out (Mod.refl _ _)⟩
 case round =>
  obtain ⟨k,hk,rfl,t⟩ := hrel
  obtain ⟨w4,rfl⟩ : ∃ wo : World,wo = wr := ⟨_,rfl⟩
  by_cases hlt : k < 20
  ·
   have HR := Lib.hid (by
    obtain ⟨o',hx,m,ho⟩ := t
    have hok := exS_ok k
    have hr := fabric_round hx hok.1 (by have := parts_bd exC; omega) (a := 0) (b' := 0) (ch := 0) (by decide) (by decide) (by decide) (by decide) (by decide) (by decide)
    rw [ex_step] at hr
    exact hr.mono fun e w' h => (⟨h.1,Turn.next m ho h.2⟩ : e = Ending.returned (.int .i64 (exN k : Int))∧Turn o3 (Fam (fabX b A exC v (exS (k + 1)))) w3 w'))
   clear t
   generalize exN k = nk at HR
   go_wp2_with fail
   refine HR.out.mono ?_
   rintro e w5 ⟨rfl,t5⟩
   have T5 := Lib.hid t5
   clear t5
   go_wp2
   go_roundw
   case rel => exact ⟨k + 1,by omega,by go_num,T5.out⟩
   case measure => simp [intOf]; omega
  ·
   have hk2 : k = 20 := by omega
   subst hk2
   obtain ⟨o4,h4,m4,ho4⟩ := t
   have M4 := Made.mods M3 HLO3.out m4
   have hlo4 : ∀ g,o4 g→w.heap.size ≤ g := fun g hg => by
    rcases ho4 g hg with h | h
    ·
     exact HLO3.out g h
    ·
     have := M3.size
     omega
   have h4 : Fam (fabX b A exC v ex5) w4 o4 := h4
   have hok5 : FabOk exC ex5 := (exS_ok 5).1
   have HRV := Lib.hid (by
    have h := fabric_recv h4 hok5 (n := 1) (by decide +kernel)
    rw [show (((1 : Nat) : Int)) = 1 from rfl,ex_recv] at h
    exact h)
   simp only [Pkt.cells] at HRV
   have HLO4 := Lib.hid hlo4
   have hok6 : FabOk exC (ex5.recv exC 1).1 := (kept_recv hok5 1).ok
   have HOK6 := Lib.hid hok6
   obtain ⟨f6,hf6⟩ : ∃ f6,(ex5.recv exC 1).1 = f6 := ⟨_,rfl⟩
   have HQT := Lib.hid ex_quiet
   have HST := Lib.hid ex_steps
   rw [hf6] at HRV HOK6 HQT HST
   clear h4 m4 ho4 hlo4 hok5 hok6 hf6
   go_wp2_with fail
   refine HRV.out.mono ?_
   rintro e w5 ⟨rfl,t5⟩
   obtain ⟨o5,h5,m5,ho5⟩ := t5
   have M5 := Made.mods M4 HLO4.out m5
   have m6 : Mod (fun _ => False) w5 (w5.alloc (.cells #[.int .i64 0,.int .i64 1,.int .i64 0,.string ⟨#[97]⟩] 46)) := (Mod.refl _ _).alloc _
   have kp := Blk.made w5 #[.int .i64 0,.int .i64 1,.int .i64 0,.string ⟨#[97]⟩] 46
   have h6 := (Fam.stable (fabX_stable b A exC v f6)).later h5 m6 (by simp)
   have M6 := M5.trans m6 (by simp)
   go_upto_region 8 with fail
   generalize w5.alloc (.cells #[.int .i64 0,.int .i64 1,.int .i64 0,.string ⟨#[97]⟩] 46) = w6 at m6 kp h6 M6 ⊢
   have HQ := Lib.hid (by
    have h := fabric_Quiet h6 HOK6.out
    rw [HQT.out] at h
    exact h)
   have HSS := Lib.hid (fun w' (m : Mod (fun _ => False) w6 w') => by
    have h5 := (Fam.stable (fabX_stable b A exC v f6)).later h6 m (by simp)
    obtain ⟨g,o,cc,hC⟩ := fab_fcells h5 (by decide +kernel)
    have h := fabric_Steps hC
    rw [HST.out] at h
    exact h)
   have p0 := kp.cell 0
   have p1 := kp.cell 1
   have p2 := kp.cell 2
   have p3 := kp.cell 3
   simp at p0 p1 p2 p3
   clear h5 m5 ho5 h6 kp m6
   go_wp2_with fail
   refine HQ.out.mono ?_
   rintro e w7 ⟨rfl,m7⟩
   have M7 := M6.trans m7 (by simp)
   go_wp2_with fail
   refine (HSS.out _ m7).mono ?_
   rintro e w8 ⟨rfl,rfl⟩
   go_wp2
   go_ret
   exact ⟨rfl,M7⟩
open Go.RowKit
section
variable {c : Cfg} {f : FabS}
def FabS.inQ (f : FabS) (c : Cfg) (m q k : Nat) : List Nat := ((f.at (m : Int)).rt.lanes.getD (q * c.Lanes.toNat + k) LaneS.new).q
def FabTie (c : Cfg) (f : FabS) : Prop := ∀ (n p m q k : Nat) (y : LinkS),n < c.nodes.toNat→p < 5→f.link (n : Int) (p : Int) = some y→c.besV (n : Int) (p : Int) = (m : Int)→backP (p : Int) = (q : Int)→k < c.Lanes.toNat →
 y.far.getD k 0 = ((f.inQ c m q k).length : Int)
theorem FabOk.link_is (hk : FabOk c f) {n p : Nat} (hn : n < c.nodes.toNat) (hp : p < 5) {y : LinkS} (h : f.link (n : Int) (p : Int) = some y) : 1 ≤ p∧c.besB (n : Int) (p : Int) = true := by
 have his := hk.is n p hn hp
 rw [show (f.at (n : Int)).link (p : Int) = some y from h,Option.isSome_some] at his
 exact of_decide_eq_true his.symm
theorem FabTie.room (ht : FabTie c f) (hk : FabOk c f) {n p m q k x : Nat} {y : LinkS} {ws : List (Int × Nat)} (hn : n < c.nodes.toNat) (hp : p < 5) (h : f.link (n : Int) (p : Int) = some y) (hw : y.words = ((k : Int),x) :: ws) (hm : c.besV (n : Int) (p : Int) = (m : Int)) (hq : backP (p : Int) = (q : Int)) :
  k < c.Lanes.toNat∧((f.inQ c m q k).length : Int) < c.Depth := by
 have hlk := hk.lk n p hn hp y h
 obtain ⟨-,hkL,-⟩ := hlk.wl ((k : Int),x) (by rw [hw]; exact List.mem_cons_self ..)
 have hkl : k < c.Lanes.toNat := by simp only at hkL; omega
 have h1 := ht n p m q k y hn hp h hm hq hkl
 have h2 := hlk.sum k hkl
 have h3 := hlk.c0 k hkl
 have hD := hk.ok.D1
 rw [hw,List.countP_cons,if_pos (by simp)] at h2
 refine ⟨hkl,?_⟩
 rw [← h1]
 omega
theorem FabTie.same {g : FabS} (ht : FabTie c f) (hq : ∀ m q k,q < 5→k < c.Lanes.toNat→1 ≤ q→g.inQ c m q k = f.inQ c m q k) (hl : ∀ (n p : Nat) (y : LinkS),n < c.nodes.toNat→p < 5→g.link (n : Int) (p : Int) = some y→∃ y',f.link (n : Int) (p : Int) = some y'∧y'.far = y.far∧1 ≤ p) : FabTie c g := by
 intro n p m q k y hn hp h hm hb hkL
 obtain ⟨y',h1,h2,h3⟩ := hl n p y hn hp h
 obtain ⟨q',hq',hq5,hq1⟩ := back_is hp
 have e : q = q' := by rw [hb] at hq'; omega
 subst e
 rw [hq m q k hq5 hkL (hq1 h3),← h2]
 exact ht n p m q k y' hn hp h1 hm hb hkL
theorem inQ_put {n : Nat} {x : NodeS} (hn : n < f.nodes.length) (m q k : Nat) : (f.put (n : Int) x).inQ c m q k = if m = n then (x.rt.lanes.getD (q * c.Lanes.toNat + k) LaneS.new).q else f.inQ c m q k := by
 unfold FabS.inQ
 rw [put_at hn]
 split <;> rfl
theorem link_put {n : Nat} {x : NodeS} (hn : n < f.nodes.length) (m p : Nat) : (f.put (n : Int) x).link (m : Int) (p : Int) = if m = n then x.link (p : Int) else f.link (m : Int) (p : Int) := by
 unfold FabS.link
 rw [put_at hn]
 split <;> rfl
theorem FabTie.rt (ht : FabTie c f) (hk : FabOk c f) {n : Nat} (hn : n < c.nodes.toNat) {s : RouterS} (hs : ∀ k,(s.lanes.getD k LaneS.new).q = ((f.at (n : Int)).rt.lanes.getD k LaneS.new).q) : FabTie c (f.put (n : Int) ((f.at (n : Int)).setRt s)) := by
 have hnl : n < f.nodes.length := by rw [hk.len]; exact hn
 refine ht.same (fun m q k _ _ _ => ?_) (fun m p y hm hp h => ?_)
 ·
  rw [inQ_put hnl]
  split
  ·
   rename_i e
   rw [e]
   exact hs _
  ·
   rfl
 ·
  rw [link_put hnl] at h
  have h' : f.link (m : Int) (p : Int) = some y := by
   split at h
   ·
    rename_i e
    rw [e]
    exact h
   ·
    exact h
  exact ⟨y,h',rfl,(hk.link_is hm hp h').1⟩
theorem FabTie.nc (ht : FabTie c f) (hk : FabOk c f) {n : Nat} (hn : n < c.nodes.toNat) {s : NicS} : FabTie c (f.put (n : Int) ((f.at (n : Int)).setNc s)) := by
 have hnl : n < f.nodes.length := by rw [hk.len]; exact hn
 refine ht.same (fun m q k _ _ _ => ?_) (fun m p y hm hp h => ?_)
 ·
  rw [inQ_put hnl]
  split
  ·
   rename_i e
   rw [e]
   rfl
  ·
   rfl
 ·
  rw [link_put hnl] at h
  have h' : f.link (m : Int) (p : Int) = some y := by
   split at h
   ·
    rename_i e
    rw [e]
    exact h
   ·
    exact h
  exact ⟨y,h',rfl,(hk.link_is hm hp h').1⟩
theorem FabTie.lk (ht : FabTie c f) (hk : FabOk c f) {n p : Nat} (hn : n < c.nodes.toNat) {y l : LinkS} (hy : f.link (n : Int) (p : Int) = some y) (hf : l.far = y.far) : FabTie c (f.put (n : Int) ((f.at (n : Int)).setLk p l)) := by
 have hnl : n < f.nodes.length := by rw [hk.len]; exact hn
 refine ht.same (fun m q k _ _ _ => ?_) (fun m p' y' hm hp h => ?_)
 ·
  rw [inQ_put hnl]
  split
  ·
   rename_i e
   rw [e]
   rfl
  ·
   rfl
 ·
  rw [link_put hnl] at h
  split at h
  ·
   rename_i e
   subst e
   rw [set_link (hk.ll m hn) hp] at h
   split at h
   ·
    rename_i e2
    subst e2
    cases h
    exact ⟨y,hy,hf.symm,(hk.link_is hm hp hy).1⟩
   ·
    exact ⟨y',h,rfl,(hk.link_is hm hp h).1⟩
  ·
   exact ⟨y',h,rfl,(hk.link_is hm hp h).1⟩
theorem idx5 {L q k : Nat} (hq : q < 5) (hk : k < L) : q * L + k < 5 * L := by
 have : (q + 1) * L ≤ 5 * L := Nat.mul_le_mul_right _ hq
 rw [Nat.succ_mul] at this
 omega
theorem FabTie.new (hc : c.Ok) : FabTie c (FabS.new c) := by
 intro n p m q k y hn hp h hm hq hkL
 have hk := FabOk.new hc
 obtain ⟨hp1,hbes⟩ := hk.link_is hn hp h
 obtain ⟨m',hm',hmN⟩ := bes_at hbes
 have e : m = m' := by rw [hm] at hm'; omega
 subst e
 unfold FabS.link at h
 rw [new_at hn,new_link hp,if_pos ⟨hp1,hbes⟩] at h
 cases h
 have hL := hc.L1
 obtain ⟨q',hq',hq5,-⟩ := back_is hp
 have e : q = q' := by rw [hq] at hq'; omega
 subst e
 unfold FabS.inQ
 rw [new_at hmN]
 have e1 : (NodeS.new c (m : Int)).rt.lanes = List.replicate (5 * c.Lanes).toNat LaneS.new := rfl
 have hidx := idx5 hq5 hkL
 have e2 : (List.replicate (5 * c.Lanes).toNat LaneS.new).getD (q * c.Lanes.toNat + k) LaneS.new = LaneS.new := by
  rw [List.getD_eq_getElem?_getD,List.getElem?_replicate,if_pos (by omega)]
  rfl
 rw [e1,e2]
 simp [LinkS.new,LaneS.new,List.getD_eq_getElem?_getD,List.getElem?_replicate,hkL]
end
end Go.Proofs.YtfiklfkfbcpmgaaGreat
