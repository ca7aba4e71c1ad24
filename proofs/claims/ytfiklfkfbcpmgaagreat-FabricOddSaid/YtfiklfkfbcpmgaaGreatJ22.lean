/- Parts: FabG FabH FabK SnakeL. No condition. -/
import Derived.Test.YtfiklfkfbcpmgaaGreatJ21
import Derived.Test.YtfiklfkfbcpmgaaGreatJ03
set_option linter.all false
set_option maxRecDepth 100000
set_option maxHeartbeats 3200000
namespace Go.Proofs.YtfiklfkfbcpmgaaGreat
open Go.RowKit
section
variable {b : Nat} {A : FAddr} {c : Cfg} {v : Value} {f : FabS} {own : Nat→Prop} {w : World}
theorem carry_none {c : Cfg} {n p : Nat} (h : f.link (n : Int) (p : Int) = none) : f.carry c (n : Int) (p : Int) = (f,false) := by
 unfold FabS.carry
 rw [h]
theorem carry_empty {c : Cfg} {n p : Nat} {l : LinkS} (h : f.link (n : Int) (p : Int) = some l) (hw : l.words = []) : f.carry c (n : Int) (p : Int) = (f,false) := by
 unfold FabS.carry
 rw [h]
 simp only [hw]
theorem fabric_carry_no (hF : Fam (fabX b A c v f) w own) (hk : FabOk c f) {kind n p l : Nat} (hn : n < c.nodes.toNat) (hp : p < 5) {ch : Int}
  (hno : f.link (n : Int) (p : Int) = none∨∃ l,f.link (n : Int) (p : Int) = some l∧l.words = []) :
  Calls Tryz.prog 67 #[.pointer (some ⟨b,0,none⟩),.agg (partA kind n p l),.int .i64 ch] w fun e w' =>
   e = .returned (.bool false)∧Turn own (Fam (fabX b A c v f)) w w' := by
 obtain ⟨g,o,cc,hC⟩ := fab_fcells hF (show 0 < c.nodes.toNat by omega)
 have kT := Blk.made w (partA kind n p l) 51
 have m0 : Mod (fun _ => False) w (w.alloc (.cells (partA kind n p l) 51)) := (Mod.refl _ _).alloc _
 obtain ⟨T,hT⟩ : ∃ T : Ending→World→Prop,T = fun e w' => e = .returned (.bool false)∧Turn own (Fam (fabX b A c v f)) w w' := ⟨_,rfl⟩
 have hT2 : ∀ w',Turn own (Fam (fabX b A c v f)) w w'→T (.returned (.bool false)) w' := fun w' t => by rw [hT]; exact ⟨rfl,t⟩
 rw [show (fun e w' => e = Ending.returned (.bool false)∧Turn own (Fam (fabX b A c v f)) w w') = T by rw [hT]]
 clear hT
 go_enter Tryz.func67,Tryz.ntmps67
 go_upto_region 1 with fail
 generalize w.alloc (.cells (partA kind n p l) 51) = w1 at kT m0 ⊢
 have hC1 := hC.later m0
 have HS := Lib.hid (fun w' (m : Mod (fun _ => False) w1 w') => And.intro (hC1.later m).cfg (And.intro (show w'.cell? ⟨w.heap.size,1,none⟩ = some (.int .i64 (n : Int)) by have := (kT.later m (by simp)).cell 1; simpa [partA] using this) (show w'.cell? ⟨w.heap.size,2,none⟩ = some (.int .i64 (p : Int)) by have := (kT.later m (by simp)).cell 2; simpa [partA] using this)))
 have HB := Lib.hid (fun w => run_Beside c (n : Int) (p : Int) w)
 generalize c.besV (n : Int) (p : Int) = dd at HB
 generalize c.besB (n : Int) (p : Int) = be at HB
 have HL := Lib.hid (fun w' (m : Mod (fun _ => False) w1 w') => fabric_Link (hC1.later m) hn hp)
 have HCA : ∃ pv er,linkO A c n p = pv∧(er = (1 : Int)∨er = 8)∧∀ w',Mod (fun _ => False) w1 w'→Calls Tryz.prog 110 #[.pointer pv] w' (fun e w3 => e = .returned (.tuple #[.agg #[.int .i64 0,.int .u64 0],.int .i64 er])∧Mod own w' w3∧∀ w4,Mod (fun _ => False) w3 w4→T (.returned (.bool false)) w4) := by
  rcases hk.linkO hn hp A with ⟨hl,ho⟩ | ⟨y,hl,ho⟩
  ·
   refine ⟨_,1,ho,Or.inl rfl,fun w' m => (link_carry_nil w').mono fun e w3 h => ⟨h.1,h.2.mono (fun _ _ h => h.elim),fun w4 m4 => hT2 _ (Turn.same (Fam.stable (fabX_stable b A c v f)) hF (((m0.trans m (by simp)).trans h.2 (by simp)).trans m4 (by simp)))⟩⟩
  ·
   have hw : y.words = [] := by
    rcases hno with h | ⟨l,h,hw⟩
    ·
     rw [hl] at h
     cases h
    ·
     rw [hl] at h
     cases h
     exact hw
   refine ⟨_,8,ho,Or.inr rfl,fun w' m => ?_⟩
   have m2 := m0.trans m (by simp)
   have hF2 := (Fam.stable (fabX_stable b A c v f)).later hF m2 (by simp)
   obtain ⟨o,hR,hlo,put⟩ := fab_lk hF2 hk.len hn hp (hk.ll n hn) hl
   have hf := link_carry_none (A.lk n p) _ _ _ y _ _ hR hw
   refine hf.mono fun e w3 h => ⟨h.1,(put _ _ h.2).mod,fun w4 m4 => hT2 _ ?_⟩
   have t := put _ _ h.2
   rw [setLk_same (x := f.at (n : Int)) (p := p) (l := y) hl,put_self (by rw [hk.len]; exact hn)] at t
   exact (Turn.before m2 t).behind (Fam.stable (fabX_stable b A c v f)) m4
 obtain ⟨pv,er,ho,hne,HCA⟩ := HCA
 rw [ho] at HL
 have HCA := Lib.hid HCA
 clear hF hk hn hp hno hC kT m0 hC1 hT2 ho
 refine wp_region_quiet_tail 13 (fun w' => Mod (fun _ => False) w1 w') (by kernel_rfl) (by kernel_rfl) ?_ ?_
 ·
  exact (Mod.refl _ _).drew
 simp only [List.take_succ_cons,List.take_zero,List.drop_succ_cons,List.drop_zero]
 refine quiet_op ?vvq0_0 rfl ?hvq0_0 ?restq0_0
 case hvq0_0 =>
  intro wx hC
  obtain ⟨hC9,t1,t2⟩ := HS.out _ hC
  obtain ⟨c0,c1,c2,c3,c4,c5,c6,c7,c8⟩ := hC9
  go_simp
  all_goals first | exact ⟨rfl,rfl⟩ | rfl
 try simp only [Act.put,lyA,lyB,lyC]
 refine quiet_op ?vvq0_1 rfl ?hvq0_1 ?restq0_1
 case hvq0_1 =>
  intro wx hC
  obtain ⟨hC9,t1,t2⟩ := HS.out _ hC
  obtain ⟨c0,c1,c2,c3,c4,c5,c6,c7,c8⟩ := hC9
  go_simp
  all_goals first | exact ⟨rfl,rfl⟩ | rfl
 try simp only [Act.put,lyA,lyB,lyC]
 refine quiet_op ?vvq0_2 rfl ?hvq0_2 ?restq0_2
 case hvq0_2 =>
  intro wx hC
  obtain ⟨hC9,t1,t2⟩ := HS.out _ hC
  obtain ⟨c0,c1,c2,c3,c4,c5,c6,c7,c8⟩ := hC9
  go_simp
  all_goals first | exact ⟨rfl,rfl⟩ | rfl
 try simp only [Act.put,lyA,lyB,lyC]
 refine quiet_op ?vvq0_3 rfl ?hvq0_3 ?restq0_3
 case hvq0_3 =>
  intro wx hC
  obtain ⟨hC9,t1,t2⟩ := HS.out _ hC
  obtain ⟨c0,c1,c2,c3,c4,c5,c6,c7,c8⟩ := hC9
  go_simp
  all_goals first | exact ⟨rfl,rfl⟩ | rfl
 try simp only [Act.put,lyA,lyB,lyC]
 refine quiet_op ?vvq0_4 rfl ?hvq0_4 ?restq0_4
 case hvq0_4 =>
  intro wx hC
  obtain ⟨hC9,t1,t2⟩ := HS.out _ hC
  obtain ⟨c0,c1,c2,c3,c4,c5,c6,c7,c8⟩ := hC9
  go_simp
  all_goals first | exact ⟨rfl,rfl⟩ | rfl
 try simp only [Act.put,lyA,lyB,lyC]
 refine quiet_op ?vvq0_5 rfl ?hvq0_5 ?restq0_5
 case hvq0_5 =>
  intro wx hC
  obtain ⟨hC9,t1,t2⟩ := HS.out _ hC
  obtain ⟨c0,c1,c2,c3,c4,c5,c6,c7,c8⟩ := hC9
  go_simp
  all_goals first | exact ⟨rfl,rfl⟩ | rfl
 try simp only [Act.put,lyA,lyB,lyC]
 refine quiet_op ?vvq0_6 rfl ?hvq0_6 ?restq0_6
 case hvq0_6 =>
  intro wx hC
  obtain ⟨hC9,t1,t2⟩ := HS.out _ hC
  obtain ⟨c0,c1,c2,c3,c4,c5,c6,c7,c8⟩ := hC9
  go_simp
  all_goals first | exact ⟨rfl,rfl⟩ | rfl
 try simp only [Act.put,lyA,lyB,lyC]
 refine quiet_op ?vvq0_7 rfl ?hvq0_7 ?restq0_7
 case hvq0_7 =>
  intro wx hC
  obtain ⟨hC9,t1,t2⟩ := HS.out _ hC
  obtain ⟨c0,c1,c2,c3,c4,c5,c6,c7,c8⟩ := hC9
  go_simp
  all_goals first | exact ⟨rfl,rfl⟩ | rfl
 try simp only [Act.put,lyA,lyB,lyC]
 refine quiet_op (.tuple #[.int .i64 dd,.bool be]) rfl ?hvq0_8 ?restq0_8
 case hvq0_8 =>
  intro wx hC
  obtain ⟨hC9,t1,t2⟩ := HS.out _ hC
  obtain ⟨c0,c1,c2,c3,c4,c5,c6,c7,c8⟩ := hC9
  go_simp
  refine (HB.out wx).mono ?_
  rintro e wy ⟨rfl,my⟩
  exact ⟨rfl,hC.trans my (fun _ _ e => e)⟩
 try simp only [Act.put,lyA,lyB,lyC]
 refine quiet_op ?vvq0_9 rfl ?hvq0_9 ?restq0_9
 case hvq0_9 =>
  intro wx hC
  obtain ⟨hC9,t1,t2⟩ := HS.out _ hC
  obtain ⟨c0,c1,c2,c3,c4,c5,c6,c7,c8⟩ := hC9
  go_simp
  all_goals first | exact ⟨rfl,rfl⟩ | rfl
 try simp only [Act.put,lyA,lyB,lyC]
 refine quiet_op ?vvq0_10 rfl ?hvq0_10 ?restq0_10
 case hvq0_10 =>
  intro wx hC
  obtain ⟨hC9,t1,t2⟩ := HS.out _ hC
  obtain ⟨c0,c1,c2,c3,c4,c5,c6,c7,c8⟩ := hC9
  go_simp
  all_goals first | exact ⟨rfl,rfl⟩ | rfl
 try simp only [Act.put,lyA,lyB,lyC]
 refine quiet_op ?vvq0_11 rfl ?hvq0_11 ?restq0_11
 case hvq0_11 =>
  intro wx hC
  obtain ⟨hC9,t1,t2⟩ := HS.out _ hC
  obtain ⟨c0,c1,c2,c3,c4,c5,c6,c7,c8⟩ := hC9
  go_simp
  all_goals first | exact ⟨rfl,rfl⟩ | rfl
 try simp only [Act.put,lyA,lyB,lyC]
 refine quiet_op ?vvq0_12 rfl ?hvq0_12 ?restq0_12
 case hvq0_12 =>
  intro wx hC
  obtain ⟨hC9,t1,t2⟩ := HS.out _ hC
  obtain ⟨c0,c1,c2,c3,c4,c5,c6,c7,c8⟩ := hC9
  go_simp
  all_goals first | exact ⟨rfl,rfl⟩ | rfl
 try simp only [Act.put,lyA,lyB,lyC]
 refine wpQuiet_nil ?_
 intro wq hC
 have m2 := hC
 obtain ⟨-,t1,t2⟩ := HS.out _ m2
 go_wp2_with fail
 refine (HL.out _ m2).mono ?_
 rintro e w3 ⟨rfl,rfl⟩
 go_wp2_with fail
 refine (HCA.out _ m2).mono ?_
 rintro e w4 ⟨rfl,m4,hT4⟩
 have T4 := Lib.hid hT4
 clear hT4 m4
 go_upto_region 3 with fail
 have m5 : Mod (fun _ => False) w4 (w4.alloc (.cells #[.int .i64 0,.int .u64 0] 128)) := (Mod.refl _ _).alloc _
 generalize w4.alloc (.cells #[.int .i64 0,.int .u64 0] 128) = w5 at m5 ⊢
 have hT5 : ∀ w6,Mod (fun _ => False) w5 w6→T (.returned (.bool false)) w6 := fun w6 m6 => T4.out _ (m5.trans m6 (by simp))
 have T5 := Lib.hid hT5
 clear hT5 T4 HCA HL HS HB m5
 clear m2 hC t1 t2
 have hd : Mod (fun _ => False) w5 w5.drew := (Mod.refl _ _).drew
 rcases hne with rfl | rfl
 ·
  skip
  refine walkT_begin 21 (fun w' => Mod (fun _ => False) w5 w') (by kernel_rfl) ?_
  have hHeld : (fun w' => Mod (fun _ => False) w5 w') (w5.drew) := by exact (Mod.refl _ _).drew
  refine takeT_run 0 (v := ?_) rfl (by kernel_rfl) (by kernel_rfl) (by kernel_rfl) (fun _ _ _ h => h) (by rfl) ?_ (by assumption) ?_
  rotate_left
  ·
   (intro wx hSw; (try dsimp only at hSw); go_simp; try with_reducible rfl)
  try simp only [Act.put,lyA,lyB,lyC]
  refine takeT_run 1 (v := ?_) rfl (by kernel_rfl) (by kernel_rfl) (by kernel_rfl) (fun _ _ _ h => h) (by rfl) ?_ (by assumption) ?_
  rotate_left
  ·
   (intro wx hSw; (try dsimp only at hSw); go_simp; try with_reducible rfl)
  try simp only [Act.put,lyA,lyB,lyC]
  refine takeT_run 2 (v := ?_) rfl (by kernel_rfl) (by kernel_rfl) (by kernel_rfl) (fun _ _ _ h => h) (by rfl) ?_ (by assumption) ?_
  rotate_left
  ·
   (intro wx hSw; (try dsimp only at hSw); go_simp; try with_reducible rfl)
  try simp only [Act.put,lyA,lyB,lyC]
  refine takeT_skip 3 rfl (by kernel_rfl) (by kernel_rfl) (by kernel_rfl) (fun _ _ _ h => h) (by rfl) (by assumption) ?_
  try simp only [Act.put,lyA,lyB,lyC]
  refine takeT_skip 4 rfl (by kernel_rfl) (by kernel_rfl) (by kernel_rfl) (fun _ _ _ h => h) (by rfl) (by assumption) ?_
  try simp only [Act.put,lyA,lyB,lyC]
  refine takeT_skip 5 rfl (by kernel_rfl) (by kernel_rfl) (by kernel_rfl) (fun _ _ _ h => h) (by rfl) (by assumption) ?_
  try simp only [Act.put,lyA,lyB,lyC]
  refine takeT_skip 6 rfl (by kernel_rfl) (by kernel_rfl) (by kernel_rfl) (fun _ _ _ h => h) (by rfl) (by assumption) ?_
  try simp only [Act.put,lyA,lyB,lyC]
  refine takeT_skip 7 rfl (by kernel_rfl) (by kernel_rfl) (by kernel_rfl) (fun _ _ _ h => h) (by rfl) (by assumption) ?_
  try simp only [Act.put,lyA,lyB,lyC]
  refine takeT_skip 8 rfl (by kernel_rfl) (by kernel_rfl) (by kernel_rfl) (fun _ _ _ h => h) (by rfl) (by assumption) ?_
  try simp only [Act.put,lyA,lyB,lyC]
  refine takeT_skip 9 rfl (by kernel_rfl) (by kernel_rfl) (by kernel_rfl) (fun _ _ _ h => h) (by rfl) (by assumption) ?_
  try simp only [Act.put,lyA,lyB,lyC]
  refine takeT_skip 10 rfl (by kernel_rfl) (by kernel_rfl) (by kernel_rfl) (fun _ _ _ h => h) (by rfl) (by assumption) ?_
  try simp only [Act.put,lyA,lyB,lyC]
  refine takeT_skip 11 rfl (by kernel_rfl) (by kernel_rfl) (by kernel_rfl) (fun _ _ _ h => h) (by rfl) (by assumption) ?_
  try simp only [Act.put,lyA,lyB,lyC]
  refine takeT_skip 12 rfl (by kernel_rfl) (by kernel_rfl) (by kernel_rfl) (fun _ _ _ h => h) (by rfl) (by assumption) ?_
  try simp only [Act.put,lyA,lyB,lyC]
  refine takeT_skip 13 rfl (by kernel_rfl) (by kernel_rfl) (by kernel_rfl) (fun _ _ _ h => h) (by rfl) (by assumption) ?_
  try simp only [Act.put,lyA,lyB,lyC]
  refine takeT_skip 14 rfl (by kernel_rfl) (by kernel_rfl) (by kernel_rfl) (fun _ _ _ h => h) (by rfl) (by assumption) ?_
  try simp only [Act.put,lyA,lyB,lyC]
  refine takeT_skip 15 rfl (by kernel_rfl) (by kernel_rfl) (by kernel_rfl) (fun _ _ _ h => h) (by rfl) (by assumption) ?_
  try simp only [Act.put,lyA,lyB,lyC]
  refine takeT_skip 16 rfl (by kernel_rfl) (by kernel_rfl) (by kernel_rfl) (fun _ _ _ h => h) (by rfl) (by assumption) ?_
  try simp only [Act.put,lyA,lyB,lyC]
  refine takeT_skip 17 rfl (by kernel_rfl) (by kernel_rfl) (by kernel_rfl) (fun _ _ _ h => h) (by rfl) (by assumption) ?_
  try simp only [Act.put,lyA,lyB,lyC]
  refine takeT_skip 18 rfl (by kernel_rfl) (by kernel_rfl) (by kernel_rfl) (fun _ _ _ h => h) (by rfl) (by assumption) ?_
  try simp only [Act.put,lyA,lyB,lyC]
  refine takeT_skip 19 rfl (by kernel_rfl) (by kernel_rfl) (by kernel_rfl) (fun _ _ _ h => h) (by rfl) (by assumption) ?_
  try simp only [Act.put,lyA,lyB,lyC]
  refine takeT_run 20 (v := ?_) rfl (by kernel_rfl) (by kernel_rfl) (by kernel_rfl) (fun _ _ _ h => h) (by rfl) ?_ (by assumption) ?_
  rotate_left
  ·
   (intro wx hSw; (try dsimp only at hSw); go_simp; try with_reducible rfl)
  try simp only [Act.put,lyA,lyB,lyC]
  refine walkT_tail 21 rfl rfl (by kernel_rfl) rfl ?_
  simp only [List.drop_succ_cons,List.drop_zero]
  skip
  go_wp2
  exact T5.out _ ((Mod.refl _ _).drew)
 ·
  skip
  refine walkT_begin 21 (fun w' => Mod (fun _ => False) w5 w') (by kernel_rfl) ?_
  have hHeld : (fun w' => Mod (fun _ => False) w5 w') (w5.drew) := by exact (Mod.refl _ _).drew
  refine takeT_run 0 (v := ?_) rfl (by kernel_rfl) (by kernel_rfl) (by kernel_rfl) (fun _ _ _ h => h) (by rfl) ?_ (by assumption) ?_
  rotate_left
  ·
   (intro wx hSw; (try dsimp only at hSw); go_simp; try with_reducible rfl)
  try simp only [Act.put,lyA,lyB,lyC]
  refine takeT_run 1 (v := ?_) rfl (by kernel_rfl) (by kernel_rfl) (by kernel_rfl) (fun _ _ _ h => h) (by rfl) ?_ (by assumption) ?_
  rotate_left
  ·
   (intro wx hSw; (try dsimp only at hSw); go_simp; try with_reducible rfl)
  try simp only [Act.put,lyA,lyB,lyC]
  refine takeT_run 2 (v := ?_) rfl (by kernel_rfl) (by kernel_rfl) (by kernel_rfl) (fun _ _ _ h => h) (by rfl) ?_ (by assumption) ?_
  rotate_left
  ·
   (intro wx hSw; (try dsimp only at hSw); go_simp; try with_reducible rfl)
  try simp only [Act.put,lyA,lyB,lyC]
  refine takeT_skip 3 rfl (by kernel_rfl) (by kernel_rfl) (by kernel_rfl) (fun _ _ _ h => h) (by rfl) (by assumption) ?_
  try simp only [Act.put,lyA,lyB,lyC]
  refine takeT_skip 4 rfl (by kernel_rfl) (by kernel_rfl) (by kernel_rfl) (fun _ _ _ h => h) (by rfl) (by assumption) ?_
  try simp only [Act.put,lyA,lyB,lyC]
  refine takeT_skip 5 rfl (by kernel_rfl) (by kernel_rfl) (by kernel_rfl) (fun _ _ _ h => h) (by rfl) (by assumption) ?_
  try simp only [Act.put,lyA,lyB,lyC]
  refine takeT_skip 6 rfl (by kernel_rfl) (by kernel_rfl) (by kernel_rfl) (fun _ _ _ h => h) (by rfl) (by assumption) ?_
  try simp only [Act.put,lyA,lyB,lyC]
  refine takeT_skip 7 rfl (by kernel_rfl) (by kernel_rfl) (by kernel_rfl) (fun _ _ _ h => h) (by rfl) (by assumption) ?_
  try simp only [Act.put,lyA,lyB,lyC]
  refine takeT_skip 8 rfl (by kernel_rfl) (by kernel_rfl) (by kernel_rfl) (fun _ _ _ h => h) (by rfl) (by assumption) ?_
  try simp only [Act.put,lyA,lyB,lyC]
  refine takeT_skip 9 rfl (by kernel_rfl) (by kernel_rfl) (by kernel_rfl) (fun _ _ _ h => h) (by rfl) (by assumption) ?_
  try simp only [Act.put,lyA,lyB,lyC]
  refine takeT_skip 10 rfl (by kernel_rfl) (by kernel_rfl) (by kernel_rfl) (fun _ _ _ h => h) (by rfl) (by assumption) ?_
  try simp only [Act.put,lyA,lyB,lyC]
  refine takeT_skip 11 rfl (by kernel_rfl) (by kernel_rfl) (by kernel_rfl) (fun _ _ _ h => h) (by rfl) (by assumption) ?_
  try simp only [Act.put,lyA,lyB,lyC]
  refine takeT_skip 12 rfl (by kernel_rfl) (by kernel_rfl) (by kernel_rfl) (fun _ _ _ h => h) (by rfl) (by assumption) ?_
  try simp only [Act.put,lyA,lyB,lyC]
  refine takeT_skip 13 rfl (by kernel_rfl) (by kernel_rfl) (by kernel_rfl) (fun _ _ _ h => h) (by rfl) (by assumption) ?_
  try simp only [Act.put,lyA,lyB,lyC]
  refine takeT_skip 14 rfl (by kernel_rfl) (by kernel_rfl) (by kernel_rfl) (fun _ _ _ h => h) (by rfl) (by assumption) ?_
  try simp only [Act.put,lyA,lyB,lyC]
  refine takeT_skip 15 rfl (by kernel_rfl) (by kernel_rfl) (by kernel_rfl) (fun _ _ _ h => h) (by rfl) (by assumption) ?_
  try simp only [Act.put,lyA,lyB,lyC]
  refine takeT_skip 16 rfl (by kernel_rfl) (by kernel_rfl) (by kernel_rfl) (fun _ _ _ h => h) (by rfl) (by assumption) ?_
  try simp only [Act.put,lyA,lyB,lyC]
  refine takeT_skip 17 rfl (by kernel_rfl) (by kernel_rfl) (by kernel_rfl) (fun _ _ _ h => h) (by rfl) (by assumption) ?_
  try simp only [Act.put,lyA,lyB,lyC]
  refine takeT_skip 18 rfl (by kernel_rfl) (by kernel_rfl) (by kernel_rfl) (fun _ _ _ h => h) (by rfl) (by assumption) ?_
  try simp only [Act.put,lyA,lyB,lyC]
  refine takeT_skip 19 rfl (by kernel_rfl) (by kernel_rfl) (by kernel_rfl) (fun _ _ _ h => h) (by rfl) (by assumption) ?_
  try simp only [Act.put,lyA,lyB,lyC]
  refine takeT_run 20 (v := ?_) rfl (by kernel_rfl) (by kernel_rfl) (by kernel_rfl) (fun _ _ _ h => h) (by rfl) ?_ (by assumption) ?_
  rotate_left
  ·
   (intro wx hSw; (try dsimp only at hSw); go_simp; try with_reducible rfl)
  try simp only [Act.put,lyA,lyB,lyC]
  refine walkT_tail 21 rfl rfl (by kernel_rfl) rfl ?_
  simp only [List.drop_succ_cons,List.drop_zero]
  skip
  go_wp2
  exact T5.out _ ((Mod.refl _ _).drew)
end
open Go.RowKit
section
variable {b : Nat} {A : FAddr} {c : Cfg} {v : Value} {f : FabS} {own : Nat→Prop} {w : World}
theorem setLk_rt (x : NodeS) (p : Nat) (l : LinkS) : (x.setLk p l).rt = x.rt := rfl
def FabS.intoN (f : FabS) (c : Cfg) (m q k x : Nat) : FabS :=
 f.put (m : Int) ((f.at (m : Int)).setRt ((f.at (m : Int)).rt.setLane (q * c.Lanes.toNat + k) { (f.at (m : Int)).rt.lanes.getD (q * c.Lanes.toNat + k) LaneS.new with q := ((f.at (m : Int)).rt.lanes.getD (q * c.Lanes.toNat + k) LaneS.new).q ++ [x] }))
theorem carry_some {n p m q k x : Nat} {y : LinkS} {ws : List (Int × Nat)} (hL : 0 ≤ c.Lanes) (h : f.link (n : Int) (p : Int) = some y) (hw : y.words = ((k : Int),x) :: ws) (hm : c.besV (n : Int) (p : Int) = (m : Int)) (hq : backP (p : Int) = (q : Int)) :
  f.carry c (n : Int) (p : Int) =
   if (((((f.put (n : Int) ((f.at (n : Int)).setLk p y.carry)).at (m : Int)).rt.lanes.getD (q * c.Lanes.toNat + k) LaneS.new).q.length : Int) < c.Depth) then
    ((f.put (n : Int) ((f.at (n : Int)).setLk p y.carry)).intoN c m q k x,true) else (f.put (n : Int) ((f.at (n : Int)).setLk p y.carry),false) := by
 unfold FabS.carry
 rw [h]
 simp only [hw]
 rw [setLink_is h]
 have e : backP (p : Int) * c.Lanes + (k : Int) = ((q * c.Lanes.toNat + k : Nat) : Int) := by
  rw [hq]
  have : c.Lanes = (c.Lanes.toNat : Int) := by omega
  rw [this,Int.toNat_natCast]
  simp
 rw [e,hm]
 simp only [FabS.room,decide_eq_true_eq]
 rfl
theorem fabric_carry_yes (hF : Fam (fabX b A c v f) w own) (hk : FabOk c f) {kind n p l : Nat} (hn : n < c.nodes.toNat) (hp : p < 5) {ch : Int} {y : LinkS} {k x : Nat} {ws : List (Int × Nat)}
  (hl : f.link (n : Int) (p : Int) = some y) (hw : y.words = ((k : Int),x) :: ws) :
  Calls Tryz.prog 67 #[.pointer (some ⟨b,0,none⟩),.agg (partA kind n p l),.int .i64 ch] w fun e w' =>
   e = .returned (.bool (f.carry c (n : Int) (p : Int)).2)∧Turn own (Fam (fabX b A c v (f.carry c (n : Int) (p : Int)).1)) w w' := by
 obtain ⟨g,o,cc,hC⟩ := fab_fcells hF (show 0 < c.nodes.toNat by omega)
 have kT := Blk.made w (partA kind n p l) 51
 have m0 : Mod (fun _ => False) w (w.alloc (.cells (partA kind n p l) 51)) := (Mod.refl _ _).alloc _
 have hL1 := hk.ok.L1
 have hL8 := hk.ok.L2
 have hD1 := hk.ok.D1
 have hnl : n < f.nodes.length := by rw [hk.len]; exact hn
 have his := hk.is n p hn hp
 rw [show (f.at (n : Int)).link (p : Int) = some y from hl,Option.isSome_some] at his
 have hbes := (of_decide_eq_true his.symm).2
 have ho : linkO A c n p = some ⟨A.lk n p,0,none⟩ := by unfold linkO; rw [if_pos (of_decide_eq_true his.symm)]
 obtain ⟨m,hm,hmN⟩ := bes_at hbes
 obtain ⟨q,hq,hq5,-⟩ := back_is hp
 have hlk := hk.lk n p hn hp y hl
 obtain ⟨-,hkL,hx⟩ := hlk.wl ((k : Int),x) (by rw [hw]; exact List.mem_cons_self ..)
 simp only at hkL
 obtain ⟨f1,hf1⟩ : ∃ f1,f.put (n : Int) ((f.at (n : Int)).setLk p y.carry) = f1 := ⟨_,rfl⟩
 have hf1len : f1.nodes.length = c.nodes.toNat := by rw [← hf1,put_len]; exact hk.len
 have hf1rt : RouterOk c (f1.at (m : Int)).rt := by
  rw [← hf1,put_at hnl]
  split
  ·
   rename_i e
   rw [setLk_rt]
   exact hk.rt n hn
  ·
   exact hk.rt m hmN
 have hcar := carry_some (by omega) hl hw hm hq
 rw [hf1] at hcar
 obtain ⟨T,hT⟩ : ∃ T : FabS × Bool→Ending→World→Prop,T = fun r e w' => e = .returned (.bool r.2)∧Turn own (Fam (fabX b A c v r.1)) w w' := ⟨_,rfl⟩
 have hT2 : ∀ (r : FabS × Bool) w',Turn own (Fam (fabX b A c v r.1)) w w'→T r (.returned (.bool r.2)) w' := fun r w' t => by rw [hT]; exact ⟨rfl,t⟩
 rw [show (fun e w' => e = Ending.returned (.bool (f.carry c (n : Int) (p : Int)).2)∧Turn own (Fam (fabX b A c v (f.carry c (n : Int) (p : Int)).1)) w w') = T (f.carry c (n : Int) (p : Int)) by rw [hT]]
 clear hT
 obtain ⟨R,hRR⟩ : ∃ R,T (f.carry c (n : Int) (p : Int)) = R := ⟨_,rfl⟩
 rw [hRR]
 rw [hcar] at hRR
 clear hcar
 have olt := fun g (hg : own g) => (Fam.stable (fabX_stable b A c v f)).lt hF hg
 go_enter Tryz.func67,Tryz.ntmps67
 go_upto_region 1 with fail
 generalize w.alloc (.cells (partA kind n p l) 51) = w1 at kT m0 ⊢
 have hC1 := hC.later m0
 have HS := Lib.hid (fun w' (m : Mod (fun _ => False) w1 w') => And.intro (hC1.later m).cfg (And.intro (show w'.cell? ⟨w.heap.size,1,none⟩ = some (.int .i64 (n : Int)) by have := (kT.later m (by simp)).cell 1; simpa [partA] using this) (show w'.cell? ⟨w.heap.size,2,none⟩ = some (.int .i64 (p : Int)) by have := (kT.later m (by simp)).cell 2; simpa [partA] using this)))
 have HB := Lib.hid (fun w => run_Beside c (n : Int) (p : Int) w)
 rw [hm,hbes] at HB
 have HQ := Lib.hid (fun w => run_Back p hp w)
 rw [hq] at HQ
 have HL := Lib.hid (fun w' (m : Mod (fun _ => False) w1 w') => fabric_Link (hC1.later m) hn hp)
 rw [ho] at HL
 have HCA : ∀ w',Mod (fun _ => False) w1 w'→Calls Tryz.prog 110 #[.pointer (some ⟨A.lk n p,0,none⟩)] w' (fun e w4 => e = .returned (.tuple #[.agg #[.int .i64 (k : Int),.int .u64 (x : Int)],.int .i64 0]) ∧
   w4.cell? ⟨w.heap.size,2,none⟩ = some (.int .i64 (p : Int))∧w.heap.size < w4.heap.size∧Turn own (Fam (fabX b A c v f1)) w w4) := by
  intro w' mw
  have m2 := m0.trans mw (by simp)
  have hF2 := (Fam.stable (fabX_stable b A c v f)).later hF m2 (by simp)
  obtain ⟨o,hR,hlo,put⟩ := fab_lk hF2 hk.len hn hp (hk.ll n hn) hl
  have hf := link_carry_all (A.lk n p) _ _ _ y _ _ hR hlk
  have e1 : y.first = ((k : Int),x) := by unfold LinkS.first; rw [hw]; rfl
  rw [e1,if_neg (by rw [hw]; simp)] at hf
  refine hf.mono fun e w4 h => ⟨h.1,?_,?_,?_⟩
  ·
   have h2 := (kT.later mw (by simp)).later (put _ _ h.2).mod (fun hg => Nat.lt_irrefl _ (olt _ hg))
   have := h2.cell 2
   simpa [partA] using this
  ·
   have h2 := (kT.later mw (by simp)).later (put _ _ h.2).mod (fun hg => Nat.lt_irrefl _ (olt _ hg))
   exact h2.lt
  ·
   have t := put _ _ h.2
   rw [hf1] at t
   exact Turn.before m2 t
 have HPUT : ∀ w4 w',Turn own (Fam (fabX b A c v f1)) w w4→Mod (fun _ => False) w4 w'→Calls Tryz.prog 107 #[.pointer (some ⟨A.rp m,0,none⟩),.int .i64 (q : Int),.int .i64 (k : Int),.int .u64 (x : Int)] w' (fun e w3 =>
    (e = .returned (.int .i64 7)∧R (.returned (.bool false)) w3)∨(e = .returned (.int .i64 0)∧R (.returned (.bool true)) w3)) := by
  intro w4 w' t4 m4
  obtain ⟨o2,hF4,mm4,ho4⟩ := t4.behind (Fam.stable (fabX_stable b A c v f1)) m4
  obtain ⟨o,hR,hlo,put⟩ := fab_rt hF4 hf1len hmN
  have hf := router_put (A.rp m) c (m : Int) q k x _ _ _ hR hf1rt.ll hq5 (by omega) hL8
  refine hf.mono fun e w3 h => ?_
  rcases h with ⟨hle,he,m3⟩ | ⟨hle,he,t⟩
  ·
   refine Or.inl ⟨he,?_⟩
   rw [if_neg (by omega)] at hRR
   rw [← hRR]
   exact hT2 (f1,false) _ (Turn.behind (Fam.stable (fabX_stable b A c v f1)) ⟨o2,hF4,mm4,ho4⟩ m3)
  ·
   refine Or.inr ⟨he,?_⟩
   rw [if_pos (by omega)] at hRR
   rw [← hRR]
   have t5 := put _ _ t
   exact hT2 (f1.intoN c m q k x,true) _ (Turn.next mm4 ho4 t5)
 have HFC : ∀ w4,Turn own (Fam (fabX b A c v f1)) w w4→∃ g o cc,FCells b A c f1.steps g o cc w4 := by
  intro w4 t4
  obtain ⟨o2,hF4,-,-⟩ := t4
  exact fab_fcells hF4 (by omega)
 have HCA := Lib.hid HCA
 have HPUT := Lib.hid HPUT
 have HFC := Lib.hid HFC
 have hq5' : (q : Int) < 5 := by omega
 have qm0 : (0 : Int) ≤ (m : Int) := by omega
 have qm1 : (m : Int) < (c.nodes.toNat : Int) := by omega
 generalize A.lk n p = lk at HL HCA
 have HMN := Lib.hid hmN
 clear hF hk hn hp hC kT m0 hC1 hT2 ho hlk hkL hx hf1 hf1len hf1rt hRR hnl his hbes hm hmN hq hq5 hl hw olt
 refine wp_region_quiet_tail 13 (fun w' => Mod (fun _ => False) w1 w') (by kernel_rfl) (by kernel_rfl) ?_ ?_
 ·
  exact (Mod.refl _ _).drew
 simp only [List.take_succ_cons,List.take_zero,List.drop_succ_cons,List.drop_zero]
 refine quiet_op ?vvq0_0 rfl ?hvq0_0 ?restq0_0
 case hvq0_0 =>
  intro wx hC
  obtain ⟨hC9,t1,t2⟩ := HS.out _ hC
  obtain ⟨c0,c1,c2,c3,c4,c5,c6,c7,c8⟩ := hC9
  go_simp
  all_goals first | exact ⟨rfl,rfl⟩ | rfl
 try simp only [Act.put,lyA,lyB,lyC]
 refine quiet_op ?vvq0_1 rfl ?hvq0_1 ?restq0_1
 case hvq0_1 =>
  intro wx hC
  obtain ⟨hC9,t1,t2⟩ := HS.out _ hC
  obtain ⟨c0,c1,c2,c3,c4,c5,c6,c7,c8⟩ := hC9
  go_simp
  all_goals first | exact ⟨rfl,rfl⟩ | rfl
 try simp only [Act.put,lyA,lyB,lyC]
 refine quiet_op ?vvq0_2 rfl ?hvq0_2 ?restq0_2
 case hvq0_2 =>
  intro wx hC
  obtain ⟨hC9,t1,t2⟩ := HS.out _ hC
  obtain ⟨c0,c1,c2,c3,c4,c5,c6,c7,c8⟩ := hC9
  go_simp
  all_goals first | exact ⟨rfl,rfl⟩ | rfl
 try simp only [Act.put,lyA,lyB,lyC]
 refine quiet_op ?vvq0_3 rfl ?hvq0_3 ?restq0_3
 case hvq0_3 =>
  intro wx hC
  obtain ⟨hC9,t1,t2⟩ := HS.out _ hC
  obtain ⟨c0,c1,c2,c3,c4,c5,c6,c7,c8⟩ := hC9
  go_simp
  all_goals first | exact ⟨rfl,rfl⟩ | rfl
 try simp only [Act.put,lyA,lyB,lyC]
 refine quiet_op ?vvq0_4 rfl ?hvq0_4 ?restq0_4
 case hvq0_4 =>
  intro wx hC
  obtain ⟨hC9,t1,t2⟩ := HS.out _ hC
  obtain ⟨c0,c1,c2,c3,c4,c5,c6,c7,c8⟩ := hC9
  go_simp
  all_goals first | exact ⟨rfl,rfl⟩ | rfl
 try simp only [Act.put,lyA,lyB,lyC]
 refine quiet_op ?vvq0_5 rfl ?hvq0_5 ?restq0_5
 case hvq0_5 =>
  intro wx hC
  obtain ⟨hC9,t1,t2⟩ := HS.out _ hC
  obtain ⟨c0,c1,c2,c3,c4,c5,c6,c7,c8⟩ := hC9
  go_simp
  all_goals first | exact ⟨rfl,rfl⟩ | rfl
 try simp only [Act.put,lyA,lyB,lyC]
 refine quiet_op ?vvq0_6 rfl ?hvq0_6 ?restq0_6
 case hvq0_6 =>
  intro wx hC
  obtain ⟨hC9,t1,t2⟩ := HS.out _ hC
  obtain ⟨c0,c1,c2,c3,c4,c5,c6,c7,c8⟩ := hC9
  go_simp
  all_goals first | exact ⟨rfl,rfl⟩ | rfl
 try simp only [Act.put,lyA,lyB,lyC]
 refine quiet_op ?vvq0_7 rfl ?hvq0_7 ?restq0_7
 case hvq0_7 =>
  intro wx hC
  obtain ⟨hC9,t1,t2⟩ := HS.out _ hC
  obtain ⟨c0,c1,c2,c3,c4,c5,c6,c7,c8⟩ := hC9
  go_simp
  all_goals first | exact ⟨rfl,rfl⟩ | rfl
 try simp only [Act.put,lyA,lyB,lyC]
 refine quiet_op (.tuple #[.int .i64 (m : Int),.bool true]) rfl ?hvq0_8 ?restq0_8
 case hvq0_8 =>
  intro wx hC
  obtain ⟨hC9,t1,t2⟩ := HS.out _ hC
  obtain ⟨c0,c1,c2,c3,c4,c5,c6,c7,c8⟩ := hC9
  go_simp
  refine (HB.out wx).mono ?_
  rintro e wy ⟨rfl,my⟩
  exact ⟨rfl,hC.trans my (fun _ _ e => e)⟩
 try simp only [Act.put,lyA,lyB,lyC]
 refine quiet_op ?vvq0_9 rfl ?hvq0_9 ?restq0_9
 case hvq0_9 =>
  intro wx hC
  obtain ⟨hC9,t1,t2⟩ := HS.out _ hC
  obtain ⟨c0,c1,c2,c3,c4,c5,c6,c7,c8⟩ := hC9
  go_simp
  all_goals first | exact ⟨rfl,rfl⟩ | rfl
 try simp only [Act.put,lyA,lyB,lyC]
 refine quiet_op ?vvq0_10 rfl ?hvq0_10 ?restq0_10
 case hvq0_10 =>
  intro wx hC
  obtain ⟨hC9,t1,t2⟩ := HS.out _ hC
  obtain ⟨c0,c1,c2,c3,c4,c5,c6,c7,c8⟩ := hC9
  go_simp
  all_goals first | exact ⟨rfl,rfl⟩ | rfl
 try simp only [Act.put,lyA,lyB,lyC]
 refine quiet_op ?vvq0_11 rfl ?hvq0_11 ?restq0_11
 case hvq0_11 =>
  intro wx hC
  obtain ⟨hC9,t1,t2⟩ := HS.out _ hC
  obtain ⟨c0,c1,c2,c3,c4,c5,c6,c7,c8⟩ := hC9
  go_simp
  all_goals first | exact ⟨rfl,rfl⟩ | rfl
 try simp only [Act.put,lyA,lyB,lyC]
 refine quiet_op ?vvq0_12 rfl ?hvq0_12 ?restq0_12
 case hvq0_12 =>
  intro wx hC
  obtain ⟨hC9,t1,t2⟩ := HS.out _ hC
  obtain ⟨c0,c1,c2,c3,c4,c5,c6,c7,c8⟩ := hC9
  go_simp
  all_goals first | exact ⟨rfl,rfl⟩ | rfl
 try simp only [Act.put,lyA,lyB,lyC]
 refine wpQuiet_nil ?_
 intro wq hC
 have m2 := hC
 obtain ⟨-,t1,t2⟩ := HS.out _ m2
 go_wp2_with fail
 refine (HL.out _ m2).mono ?_
 rintro e w3 ⟨rfl,rfl⟩
 go_wp2_with fail
 refine (HCA.out _ m2).mono ?_
 rintro e w4 ⟨rfl,p2,hlt4,t4⟩
 obtain ⟨g,o,cc,hC4⟩ := HFC.out _ t4
 have HP4 := Lib.hid (fun w' (m : Mod (fun _ => False) w4 w') => HPUT.out w4 w' t4 m)
 have k5 := Blk.made w4 #[.int .i64 (k : Int),.int .u64 (x : Int)] 128
 have m5 : Mod (fun _ => False) w4 (w4.alloc (.cells #[.int .i64 (k : Int),.int .u64 (x : Int)] 128)) := (Mod.refl _ _).alloc _
 have P2 := Lib.hid p2
 have PL := Lib.hid hlt4
 clear p2 hlt4 t4 hC m2 t1 t2
 go_upto_region 3 with fail
 generalize w4.alloc (.cells #[.int .i64 (k : Int),.int .u64 (x : Int)] 128) = w5 at m5 k5 ⊢
 have hC5 := hC4.later m5
 have HS3 : ∀ w',Mod (fun _ => False) w5 w'→(w'.cell? ⟨b,9,none⟩ = some (.slice (some ⟨g,o,none⟩) c.nodes.toNat cc)∧w'.cell? ⟨w.heap.size,2,none⟩ = some (.int .i64 (p : Int))∧w'.cell? ⟨g,o + m * 7,none⟩ = some (.pointer (some ⟨A.rp m,0,none⟩))∧w'.cell? ⟨w4.heap.size,0,none⟩ = some (.int .i64 (k : Int))∧w'.cell? ⟨w4.heap.size,1,none⟩ = some (.int .u64 (x : Int))) := by
  intro w' mw
  refine ⟨(hC5.later mw).c9,?_,((hC5.later mw).at HMN.out).1,(k5.later mw (by simp)).cell 0,(k5.later mw (by simp)).cell 1⟩
  exact ((m5.trans mw (by simp)).cell (p := ⟨w.heap.size,2,none⟩) PL.out (by simp)).trans P2.out
 have HP5 := Lib.hid (fun w' (mw : Mod (fun _ => False) w5 w') => HP4.out w' (m5.trans mw (by simp)))
 obtain ⟨N,hN⟩ : ∃ N,c.nodes.toNat = N := ⟨_,rfl⟩
 rw [hN] at HS3 qm1
 generalize A.rp m = r0 at HS3 HP5
 have HS3 := Lib.hid HS3
 clear hC4 HP4 k5 m5 P2 PL hC5 hN HMN HS HL HCA HFC HPUT HB
 refine wp_region_quiet_tail 18 (fun w' => Mod (fun _ => False) w5 w') (by kernel_rfl) (by kernel_rfl) ?_ ?_
 ·
  exact (Mod.refl _ _).drew
 simp only [List.take_succ_cons,List.take_zero,List.drop_succ_cons,List.drop_zero]
 refine quiet_op ?vvq1_0 rfl ?hvq1_0 ?restq1_0
 case hvq1_0 =>
  intro wx hC
  obtain ⟨c9,t2,l0,d0,d1⟩ := HS3.out _ hC
  go_simp
  all_goals first | exact ⟨rfl,rfl⟩ | rfl
 try simp only [Act.put,lyA,lyB,lyC]
 refine quiet_op ?vvq1_1 rfl ?hvq1_1 ?restq1_1
 case hvq1_1 =>
  intro wx hC
  obtain ⟨c9,t2,l0,d0,d1⟩ := HS3.out _ hC
  go_simp
  all_goals first | exact ⟨rfl,rfl⟩ | rfl
 try simp only [Act.put,lyA,lyB,lyC]
 refine quiet_op ?vvq1_2 rfl ?hvq1_2 ?restq1_2
 case hvq1_2 =>
  intro wx hC
  obtain ⟨c9,t2,l0,d0,d1⟩ := HS3.out _ hC
  go_simp
  all_goals first | exact ⟨rfl,rfl⟩ | rfl
 try simp only [Act.put,lyA,lyB,lyC]
 refine quiet_op ?vvq1_3 rfl ?hvq1_3 ?restq1_3
 case hvq1_3 =>
  intro wx hC
  obtain ⟨c9,t2,l0,d0,d1⟩ := HS3.out _ hC
  go_simp
  all_goals first | exact ⟨rfl,rfl⟩ | rfl
 try simp only [Act.put,lyA,lyB,lyC]
 refine quiet_op ?vvq1_4 rfl ?hvq1_4 ?restq1_4
 case hvq1_4 =>
  intro wx hC
  obtain ⟨c9,t2,l0,d0,d1⟩ := HS3.out _ hC
  go_simp
  all_goals first | exact ⟨rfl,rfl⟩ | rfl
 try simp only [Act.put,lyA,lyB,lyC]
 refine quiet_op ?vvq1_5 rfl ?hvq1_5 ?restq1_5
 case hvq1_5 =>
  intro wx hC
  obtain ⟨c9,t2,l0,d0,d1⟩ := HS3.out _ hC
  go_simp
  all_goals first | exact ⟨rfl,rfl⟩ | rfl
 try simp only [Act.put,lyA,lyB,lyC]
 refine quiet_op ?vvq1_6 rfl ?hvq1_6 ?restq1_6
 case hvq1_6 =>
  intro wx hC
  obtain ⟨c9,t2,l0,d0,d1⟩ := HS3.out _ hC
  go_simp
  all_goals first | exact ⟨rfl,rfl⟩ | rfl
 try simp only [Act.put,lyA,lyB,lyC]
 refine quiet_op ?vvq1_7 rfl ?hvq1_7 ?restq1_7
 case hvq1_7 =>
  intro wx hC
  obtain ⟨c9,t2,l0,d0,d1⟩ := HS3.out _ hC
  go_simp
  all_goals first | exact ⟨rfl,rfl⟩ | rfl
 try simp only [Act.put,lyA,lyB,lyC]
 refine quiet_op ?vvq1_8 rfl ?hvq1_8 ?restq1_8
 case hvq1_8 =>
  intro wx hC
  obtain ⟨c9,t2,l0,d0,d1⟩ := HS3.out _ hC
  go_simp
  all_goals first | exact ⟨rfl,rfl⟩ | rfl
 try simp only [Act.put,lyA,lyB,lyC]
 refine quiet_op ?vvq1_9 rfl ?hvq1_9 ?restq1_9
 case hvq1_9 =>
  intro wx hC
  obtain ⟨c9,t2,l0,d0,d1⟩ := HS3.out _ hC
  go_simp
  all_goals first | exact ⟨rfl,rfl⟩ | rfl
 try simp only [Act.put,lyA,lyB,lyC]
 refine quiet_op ?vvq1_10 rfl ?hvq1_10 ?restq1_10
 case hvq1_10 =>
  intro wx hC
  obtain ⟨c9,t2,l0,d0,d1⟩ := HS3.out _ hC
  go_simp
  all_goals first | exact ⟨rfl,rfl⟩ | rfl
 try simp only [Act.put,lyA,lyB,lyC]
 refine quiet_op ?vvq1_11 rfl ?hvq1_11 ?restq1_11
 case hvq1_11 =>
  intro wx hC
  obtain ⟨c9,t2,l0,d0,d1⟩ := HS3.out _ hC
  go_simp
  all_goals first | exact ⟨rfl,rfl⟩ | rfl
 try simp only [Act.put,lyA,lyB,lyC]
 refine quiet_op ?vvq1_12 rfl ?hvq1_12 ?restq1_12
 case hvq1_12 =>
  intro wx hC
  obtain ⟨c9,t2,l0,d0,d1⟩ := HS3.out _ hC
  go_simp
  all_goals first | exact ⟨rfl,rfl⟩ | rfl
 try simp only [Act.put,lyA,lyB,lyC]
 refine quiet_op (.int .i64 (q : Int)) rfl ?hvq1_13 ?restq1_13
 case hvq1_13 =>
  intro wx hC
  obtain ⟨c9,t2,l0,d0,d1⟩ := HS3.out _ hC
  go_simp
  refine (HQ.out wx).mono ?_
  rintro e wy ⟨rfl,rfl⟩
  exact ⟨rfl,hC⟩
 try simp only [Act.put,lyA,lyB,lyC]
 refine quiet_op ?vvq1_14 rfl ?hvq1_14 ?restq1_14
 case hvq1_14 =>
  intro wx hC
  obtain ⟨c9,t2,l0,d0,d1⟩ := HS3.out _ hC
  go_simp
  all_goals first | exact ⟨rfl,rfl⟩ | rfl
 try simp only [Act.put,lyA,lyB,lyC]
 refine quiet_op ?vvq1_15 rfl ?hvq1_15 ?restq1_15
 case hvq1_15 =>
  intro wx hC
  obtain ⟨c9,t2,l0,d0,d1⟩ := HS3.out _ hC
  go_simp
  all_goals first | exact ⟨rfl,rfl⟩ | rfl
 try simp only [Act.put,lyA,lyB,lyC]
 refine quiet_op ?vvq1_16 rfl ?hvq1_16 ?restq1_16
 case hvq1_16 =>
  intro wx hC
  obtain ⟨c9,t2,l0,d0,d1⟩ := HS3.out _ hC
  go_simp
  all_goals first | exact ⟨rfl,rfl⟩ | rfl
 try simp only [Act.put,lyA,lyB,lyC]
 refine quiet_op ?vvq1_17 rfl ?hvq1_17 ?restq1_17
 case hvq1_17 =>
  intro wx hC
  obtain ⟨c9,t2,l0,d0,d1⟩ := HS3.out _ hC
  go_simp
  all_goals first | exact ⟨rfl,rfl⟩ | rfl
 try simp only [Act.put,lyA,lyB,lyC]
 refine wpQuiet_nil ?_
 intro wq hC
 go_wp2_with fail
 refine (HP5.out _ hC).mono ?_
 rintro e w6 (⟨rfl,t6⟩ | ⟨rfl,t6⟩)
 ·
  have T6 := Lib.hid t6
  clear t6
  go_wp2
  exact T6.out
 ·
  have T6 := Lib.hid t6
  clear t6
  go_wp2
  exact T6.out
theorem fabric_carry (hF : Fam (fabX b A c v f) w own) (hk : FabOk c f) {kind n p l : Nat} (hn : n < c.nodes.toNat) (hp : p < 5) {ch : Int} :
  Calls Tryz.prog 67 #[.pointer (some ⟨b,0,none⟩),.agg (partA kind n p l),.int .i64 ch] w fun e w' =>
   e = .returned (.bool (f.carry c (n : Int) (p : Int)).2)∧Turn own (Fam (fabX b A c v (f.carry c (n : Int) (p : Int)).1)) w w' := by
 rcases hl : f.link (n : Int) (p : Int) with _ | y
 ·
  rw [carry_none hl]
  exact fabric_carry_no hF hk hn hp (Or.inl hl)
 ·
  rcases hw : y.words with _ | ⟨⟨k0,x⟩,ws⟩
  ·
   rw [carry_empty hl hw]
   exact fabric_carry_no hF hk hn hp (Or.inr ⟨y,hl,hw⟩)
  ·
   obtain ⟨h0,-,-⟩ := (hk.lk n p hn hp y hl).wl (k0,x) (by rw [hw]; exact List.mem_cons_self ..)
   obtain ⟨k,rfl⟩ := Int.eq_ofNat_of_zero_le h0
   exact fabric_carry_yes hF hk hn hp hl hw
end
open Go.RowKit
section
variable {c : Cfg} {f : FabS}
theorem set_link {x : NodeS} {p q : Nat} {l : LinkS} (hx : x.links.length = 5) (hq : q < 5) : (x.setLk p l).link (q : Int) = if q = p then some l else x.link (q : Int) := by
 unfold NodeS.link NodeS.setLk
 simp only [Int.toNat_natCast,List.getD_eq_getElem?_getD]
 by_cases h : q = p
 ·
  rw [if_pos h,h,List.getElem?_set_self (by omega)]
  rfl
 ·
  rw [if_neg h,List.getElem?_set_ne (fun e => h e.symm)]
theorem FabOk.put_rt (hk : FabOk c f) {n : Nat} (hn : n < c.nodes.toNat) {s : RouterS} (hs : RouterOk c s) : FabOk c (f.put (n : Int) ((f.at (n : Int)).setRt s)) := by
 have hnl : n < f.nodes.length := by rw [hk.len]; exact hn
 refine ⟨hk.ok,by rw [put_len]; exact hk.len,fun m hm => ?_,fun m hm => ?_,fun m hm => ?_,fun m p hm hp l hl => ?_,fun m p hm hp => ?_,hk.steps⟩
 ·
  rw [put_at hnl]; split
  ·
   exact hs
  ·
   exact hk.rt m hm
 ·
  rw [put_at hnl]; split
  ·
   exact hk.nc n hn
  ·
   exact hk.nc m hm
 ·
  rw [put_at hnl]; split
  ·
   exact hk.ll n hn
  ·
   exact hk.ll m hm
 ·
  rw [put_at hnl] at hl; split at hl
  ·
   exact hk.lk n p hn hp l hl
  ·
   exact hk.lk m p hm hp l hl
 ·
  rw [put_at hnl]; split
  ·
   rename_i e
   rw [e]
   exact hk.is n p hn hp
  ·
   exact hk.is m p hm hp
theorem FabOk.put_nc (hk : FabOk c f) {n : Nat} (hn : n < c.nodes.toNat) {s : NicS} (hs : NicOk c s) : FabOk c (f.put (n : Int) ((f.at (n : Int)).setNc s)) := by
 have hnl : n < f.nodes.length := by rw [hk.len]; exact hn
 refine ⟨hk.ok,by rw [put_len]; exact hk.len,fun m hm => ?_,fun m hm => ?_,fun m hm => ?_,fun m p hm hp l hl => ?_,fun m p hm hp => ?_,hk.steps⟩
 ·
  rw [put_at hnl]; split
  ·
   exact hk.rt n hn
  ·
   exact hk.rt m hm
 ·
  rw [put_at hnl]; split
  ·
   exact hs
  ·
   exact hk.nc m hm
 ·
  rw [put_at hnl]; split
  ·
   exact hk.ll n hn
  ·
   exact hk.ll m hm
 ·
  rw [put_at hnl] at hl; split at hl
  ·
   exact hk.lk n p hn hp l hl
  ·
   exact hk.lk m p hm hp l hl
 ·
  rw [put_at hnl]; split
  ·
   rename_i e
   rw [e]
   exact hk.is n p hn hp
  ·
   exact hk.is m p hm hp
theorem FabOk.put_lk (hk : FabOk c f) {n p : Nat} (hn : n < c.nodes.toNat) (hp : p < 5) {l0 l : LinkS} (h0 : f.link (n : Int) (p : Int) = some l0) (hs : LinkOk c.Lanes.toNat c.Depth.toNat c.Ring.toNat l) : FabOk c (f.put (n : Int) ((f.at (n : Int)).setLk p l)) := by
 have hnl : n < f.nodes.length := by rw [hk.len]; exact hn
 have hll := hk.ll n hn
 refine ⟨hk.ok,by rw [put_len]; exact hk.len,fun m hm => ?_,fun m hm => ?_,fun m hm => ?_,fun m q hm hq l' hl => ?_,fun m q hm hq => ?_,hk.steps⟩
 ·
  rw [put_at hnl]; split
  ·
   exact hk.rt n hn
  ·
   exact hk.rt m hm
 ·
  rw [put_at hnl]; split
  ·
   exact hk.nc n hn
  ·
   exact hk.nc m hm
 ·
  rw [put_at hnl]; split
  ·
   unfold NodeS.setLk
   simpa using hll
  ·
   exact hk.ll m hm
 ·
  rw [put_at hnl] at hl; split at hl
  ·
   rw [set_link hll hq] at hl
   split at hl
   ·
    cases hl
    exact hs
   ·
    exact hk.lk n q hn hq l' hl
  ·
   exact hk.lk m q hm hq l' hl
 ·
  rw [put_at hnl]; split
  ·
   rename_i e
   rw [e,set_link hll hq]
   split
   ·
    rename_i e2
    rw [e2,← hk.is n p hn hp,show (f.at (n : Int)).link (p : Int) = some l0 from h0]
    rfl
   ·
    exact hk.is n q hn hq
  ·
   exact hk.is m q hm hq
theorem put_lk_rt {n p : Nat} {l : LinkS} (hn : n < f.nodes.length) (m : Nat) : ((f.put (n : Int) ((f.at (n : Int)).setLk p l)).at (m : Int)).rt = (f.at (m : Int)).rt := by
 rw [put_at hn]; split
 ·
  rename_i e
  rw [e]
  rfl
 ·
  rfl
theorem LaneOk.push {y : LaneS} (h : LaneOk c y) {x : Nat} (hx : x < 2 ^ 64) : LaneOk c { y with q := y.q ++ [x] } :=
 ⟨fun z hz => by
  rcases List.mem_append.1 hz with h1 | h1
  ·
   exact h.q z h1
  ·
   rw [List.mem_singleton.1 h1]; exact hx,h.ph,h.port,h.lane⟩
theorem LaneOk.found {y : LaneS} (h : LaneOk c y) (hc : c.Ok) (node : Int) (leads : Flit→Int) : LaneOk c (y.find node leads).1 := by
 unfold LaneS.find
 rcases hw : y.way node leads with _ | ⟨ph,p⟩
 ·
  exact h
 ·
  unfold LaneS.way at hw
  split at hw
  ·
   rcases hq : y.q.head? with _ | x
   ·
    rw [hq] at hw; cases hw
   ·
    rw [hq] at hw
    simp only [Option.bind_some] at hw
    unfold headWay at hw
    have h1 := hc.L1
    split at hw
    ·
     cases hw
    ·
     split at hw
     ·
      split at hw
      ·
       cases hw
       exact ⟨h.q,by simp,by simp,by simp; omega⟩
      ·
       split at hw
       ·
        rename_i h3
        cases hw
        exact ⟨h.q,by simp,by dsimp only; omega,by simp; omega⟩
       ·
        cases hw
     ·
      cases hw
  ·
   cases hw
theorem LaneOk.rested {y : LaneS} (h : LaneOk c y) (hc : c.Ok) {x : Nat} {q : List Nat} (hq : y.q = x :: q) : LaneOk c (y.rest x q) := by
 have h1 := hc.L1
 have hqq : ∀ z ∈ q,z < 2 ^ 64 := fun z hz => h.q z (by rw [hq]; exact List.mem_cons_of_mem _ hz)
 unfold LaneS.rest
 split
 ·
  exact ⟨hqq,by simp,by simp,by simp; omega⟩
 ·
  split
  ·
   exact ⟨hqq,by simp,by simp,by simp; omega⟩
  ·
   exact ⟨hqq,h.ph,h.port,h.lane⟩
theorem RouterOk.lane1 {s : RouterS} (h : RouterOk c s) {k : Nat} {y : LaneS} (hy : LaneOk c y) : RouterOk c (s.setLane k y) :=
 ⟨by unfold RouterS.setLane; simpa using h.ll,h.ol,h.gl,h.ml,mem_set h.lane hy,h.give,h.move⟩
theorem RouterOk.get {s : RouterS} (h : RouterOk c s) (hc : c.Ok) (k : Nat) : LaneOk c (s.lanes.getD k LaneS.new) := mem_getD h.lane (LaneOk.new hc) k
theorem RouterOk.given {s : RouterS} (h : RouterOk c s) (hc : c.Ok) (k : Nat) : RouterOk c (s.give c k).1 := by
 unfold RouterS.give
 split
 ·
  rcases hj : s.giveK c (s.lanes.getD k LaneS.new).port (k : Int) with _ | j
  ·
   exact h
  ·
   have hb := seeR_bd hc.L1 hj
   have hy := h.get hc k
   exact ⟨by unfold RouterS.gave; simpa using h.ll,by unfold RouterS.gave; simpa using h.ol,by unfold RouterS.gave; simpa using h.gl,h.ml,mem_set h.lane ⟨hy.q,by simp,hy.port,hb⟩,mem_set h.give ⟨by omega,hb.2⟩,h.move⟩
 ·
  exact h
theorem RouterOk.moved {s : RouterS} (h : RouterOk c s) (hc : c.Ok) {p k x : Nat} {q : List Nat} (hk : k < 5 * c.Lanes.toNat) (hq : (s.lanes.getD k LaneS.new).q = x :: q) : RouterOk c (s.moved c p k x q) := by
 have hL := hc.L1
 refine ⟨by unfold RouterS.moved; simpa using h.ll,?_,h.gl,by unfold RouterS.moved; simpa using h.ml,mem_set h.lane ((h.get hc k).rested hc hq),h.give,mem_set h.move ⟨by omega,by omega⟩⟩
 unfold RouterS.moved
 dsimp only
 split
 ·
  simpa using h.ol
 ·
  exact h.ol
theorem NicOk.took {s : NicS} (h : NicOk c s) (k x : Nat) : NicOk c (s.took k x) := by
 obtain ⟨h1,h2⟩ := (mem_getD h.join JoinOk.new k : JoinOk _).take x
 refine ⟨by unfold NicS.took; simpa using h.jl,mem_set h.join h1,?_,h.wl,h.ws,h.sent⟩
 unfold NicS.took
 dsimp only
 rcases ho : ((s.joins.getD k JoinS.new).take x).2 with _ | p
 ·
  exact h.box
 ·
  exact h.box.come (h2 p ho)
theorem foldl_first {l : List Pkt} {p : Pkt} {o : Option Pkt} (h : l.foldl (fun o x => match o with | none => some x | some y => if x.src < y.src then some x else some y) o = some p) : p ∈ l∨o = some p := by
 induction l generalizing o with
 | nil => exact Or.inr h
 | cons a l ih =>
  rw [List.foldl_cons] at h
  rcases ih h with h1 | h1
  ·
   exact Or.inl (List.mem_cons_of_mem _ h1)
  ·
   rcases o with _ | y
   ·
    cases h1
    exact Or.inl List.mem_cons_self
   ·
    dsimp only at h1
    split at h1
    ·
     cases h1
     exact Or.inl List.mem_cons_self
    ·
     exact Or.inr h1
theorem ready_mem {s : BoxS} {p : Pkt} (h : s.ready = some p) : p ∈ s.waits∧p.seq = s.nx p.src := by
 unfold BoxS.ready at h
 rcases foldl_first h with h1 | h1
 ·
  obtain ⟨h2,h3⟩ := List.mem_filter.1 h1
  exact ⟨h2,of_decide_eq_true h3⟩
 ·
  cases h1
theorem BoxOk.tell {s : BoxS} (h : BoxOk s) (c : Cfg) : BoxOk (s.tell c).1 := by
 unfold BoxS.tell
 rcases hr : s.ready with _ | p
 ·
  exact h
 ·
  dsimp only
  split
  ·
   exact h
  ·
   exact h.told (h.wait p (ready_mem hr).1)
theorem NicOk.tell {s : NicS} (h : NicOk c s) : NicOk c (s.withBox (s.box.tell c).1) := ⟨h.jl,h.join,h.box.tell c,h.wl,h.ws,h.sent⟩
theorem NicOk.words {s : NicS} (h : NicOk c s) {x : Int × Nat} {ws : List (Int × Nat)} (hw : s.words = x :: ws) : NicOk c (s.withWords ws) :=
 ⟨h.jl,h.join,h.box,by have := h.wl; rw [hw] at this; simp only [List.length_cons] at this; unfold NicS.withWords; dsimp only; omega,fun y hy => h.ws y (by rw [hw]; exact List.mem_cons_of_mem _ hy),h.sent⟩
section
variable {L D R : Nat} {s : LinkS}
theorem bump_get {l : List Int} {k : Nat} (hk : k < l.length) (d : Int) (i : Nat) : (bump l (k : Int) d).getD i 0 = if i = k then l.getD k 0 + d else l.getD i 0 := by
 unfold bump
 simp only [Int.toNat_natCast,List.getD_eq_getElem?_getD]
 by_cases h : i = k
 ·
  rw [if_pos h,h,List.getElem?_set_self hk]
  rfl
 ·
  rw [if_neg h,List.getElem?_set_ne (fun e => h e.symm)]
theorem bump_len (l : List Int) (k d : Int) : (bump l k d).length = l.length := by unfold bump; simp
theorem LinkOk.carry (h : LinkOk L D R s) : LinkOk L D R s.carry := by
 unfold LinkS.carry
 rcases hw : s.words with _ | ⟨⟨k0,x⟩,ws⟩
 ·
  exact h
 ·
  obtain ⟨h0,h1,-⟩ := h.wl (k0,x) (by rw [hw]; exact List.mem_cons_self ..)
  obtain ⟨k,rfl⟩ := Int.eq_ofNat_of_zero_le h0
  have hk : k < s.far.length := by rw [h.fl]; simp only at h1; omega
  refine ⟨h.cl,by rw [← h.fl]; exact bump_len _ _ _,h.L1,h.L8,h.D1,h.D64,h.R1,h.R64,h.c0,fun i hi => ?_,fun y hy => h.wl y (by rw [hw]; exact List.mem_cons_of_mem _ hy),h.bl,fun i hi => ?_⟩
  ·
   have := h.f0 i hi
   show 0 ≤ (bump s.far (k : Int) 1).getD i 0
   rw [bump_get hk]
   split
   ·
    rename_i e; subst e; omega
   ·
    exact this
  ·
   have := h.sum i hi
   rw [hw,List.countP_cons] at this
   dsimp only
   rw [bump_get hk]
   by_cases e : i = k
   ·
    subst e
    rw [if_pos rfl]
    simp only [decide_true,if_true] at this
    omega
   ·
    rw [if_neg e]
    simp only [Int.ofNat_inj,decide_eq_true_eq] at this
    rw [if_neg (by omega)] at this
    simpa using this
theorem LinkOk.credit (h : LinkOk L D R s) : LinkOk L D R s.credit := by
 unfold LinkS.credit
 rcases hw : s.back with _ | ⟨k0,ws⟩
 ·
  exact h
 ·
  obtain ⟨h0,h1⟩ := h.bl k0 (by rw [hw]; exact List.mem_cons_self ..)
  obtain ⟨k,rfl⟩ := Int.eq_ofNat_of_zero_le h0
  have hk : k < s.credits.length := by rw [h.cl]; omega
  refine ⟨by rw [← h.cl]; exact bump_len _ _ _,h.fl,h.L1,h.L8,h.D1,h.D64,h.R1,h.R64,fun i hi => ?_,h.f0,h.wl,fun y hy => h.bl y (by rw [hw]; exact List.mem_cons_of_mem _ hy),fun i hi => ?_⟩
  ·
   have := h.c0 i hi
   show 0 ≤ (bump s.credits (k : Int) 1).getD i 0
   rw [bump_get hk]
   split
   ·
    rename_i e; subst e; omega
   ·
    exact this
  ·
   have := h.sum i hi
   rw [hw,List.countP_cons] at this
   dsimp only
   rw [bump_get hk]
   by_cases e : i = k
   ·
    subst e
    rw [if_pos rfl]
    simp only [decide_true,if_true] at this
    omega
   ·
    rw [if_neg e]
    simp only [Int.ofNat_inj,decide_eq_true_eq] at this
    rw [if_neg (by omega)] at this
    simpa using this
theorem LinkOk.takenK (h : LinkOk L D R s) {k : Nat} (hk : k < L) (hf : s.far.getD k 0 ≠ 0) : LinkOk L D R ⟨s.credits,bump s.far (k : Int) (-1),s.words,s.back ++ [(k : Int)]⟩ := by
 have hkl : k < s.far.length := by rw [h.fl]; exact hk
 refine ⟨h.cl,by rw [← h.fl]; exact bump_len _ _ _,h.L1,h.L8,h.D1,h.D64,h.R1,h.R64,h.c0,fun i hi => ?_,h.wl,fun y hy => ?_,fun i hi => ?_⟩
 ·
  have := h.f0 i hi
  show 0 ≤ (bump s.far (k : Int) (-1)).getD i 0
  rw [bump_get hkl]
  split
  ·
   rename_i e; subst e; omega
  ·
   exact this
 ·
  rcases List.mem_append.1 hy with h1 | h1
  ·
   exact h.bl y h1
  ·
   rw [List.mem_singleton.1 h1]; omega
 ·
  have := h.sum i hi
  dsimp only
  rw [bump_get hkl,List.countP_append,List.countP_singleton]
  by_cases e : i = k
  ·
   subst e
   simp only [decide_true,if_true]
   omega
  ·
   rw [if_neg e]
   simp only [Int.ofNat_inj,decide_eq_true_eq]
   rw [if_neg (by omega)]
   simpa using this
theorem LinkOk.sendK (h : LinkOk L D R s) {k x : Nat} (hk : k < L) (hx : x < 2 ^ 64) (hf : 0 < s.credits.getD k 0) : LinkOk L D R ⟨bump s.credits (k : Int) (-1),s.far,s.words ++ [((k : Int),x)],s.back⟩ := by
 have hkl : k < s.credits.length := by rw [h.cl]; exact hk
 refine ⟨by rw [← h.cl]; exact bump_len _ _ _,h.fl,h.L1,h.L8,h.D1,h.D64,h.R1,h.R64,fun i hi => ?_,h.f0,fun y hy => ?_,h.bl,fun i hi => ?_⟩
 ·
  have := h.c0 i hi
  show 0 ≤ (bump s.credits (k : Int) (-1)).getD i 0
  rw [bump_get hkl]
  split
  ·
   rename_i e; subst e; omega
  ·
   exact this
 ·
  rcases List.mem_append.1 hy with h1 | h1
  ·
   exact h.wl y h1
  ·
   rw [List.mem_singleton.1 h1]
   exact ⟨by dsimp only; omega,by dsimp only; omega,hx⟩
 ·
  have := h.sum i hi
  dsimp only
  rw [bump_get hkl,List.countP_append,List.countP_singleton]
  by_cases e : i = k
  ·
   subst e
   simp only [decide_true,if_true]
   omega
  ·
   rw [if_neg e]
   simp only [Int.ofNat_inj,decide_eq_true_eq]
   rw [if_neg (by omega)]
   simpa using this
theorem count_split (l : List Int) (L : Nat) (h : ∀ x ∈ l,0 ≤ x∧x < (L : Int)) : (l.length : Int) = ((List.range L).map fun (k : Nat) => ((l.countP fun x => decide (x = (k : Int)) : Nat) : Int)).sum := by
 induction l with
 | nil =>
  simp only [List.length_nil,List.countP_nil]
  induction L with
  | zero => rfl
  | succ L ih =>
   rw [List.range_succ,List.map_append,List.sum_append,← ih (fun x hx => by simp at hx)]
   rfl
 | cons a l ih =>
  have ih := ih (fun x hx => h x (List.mem_cons_of_mem _ hx))
  obtain ⟨h0,h1⟩ := h a List.mem_cons_self
  have : ∀ M : Nat,((List.range M).map fun (k : Nat) => (((a :: l).countP fun x => decide (x = (k : Int)) : Nat) : Int)).sum = ((List.range M).map fun (k : Nat) => ((l.countP fun x => decide (x = (k : Int)) : Nat) : Int)).sum + if a < (M : Int) then 1 else 0 := by
   intro M
   induction M with
   | zero => rw [if_neg (by omega)]; rfl
   | succ M ihM =>
    rw [List.range_succ,List.map_append,List.sum_append,List.map_append,List.sum_append,ihM]
    simp only [List.map_cons,List.map_nil,List.sum_cons,List.sum_nil,List.countP_cons,decide_eq_true_eq]
    by_cases e : a = (M : Int)
    ·
     rw [if_pos e,if_neg (by omega),if_pos (by omega)]
     push_cast
     omega
    ·
     rw [if_neg e]
     by_cases e2 : a < (M : Int)
     ·
      rw [if_pos e2,if_pos (by omega)]
      push_cast
      omega
     ·
      rw [if_neg e2,if_neg (by omega)]
      push_cast
      omega
  rw [this L,if_pos h1,← ih]
  simp
theorem sum_lt (g : Nat→Int) (D : Int) (L : Nat) (h : ∀ k,k < L→g k ≤ D) {j : Nat} (hj : j < L) (hlt : g j < D) : ((List.range L).map g).sum < (L : Int) * D := by
 have hle : ∀ M,M ≤ L→((List.range M).map g).sum ≤ (M : Int) * D∧(j < M→((List.range M).map g).sum < (M : Int) * D) := by
  intro M
  induction M with
  | zero => intro _; exact ⟨by simp,fun h => by omega⟩
  | succ M ih =>
   intro hM
   obtain ⟨h1,h2⟩ := ih (by omega)
   have h3 := h M (by omega)
   rw [List.range_succ,List.map_append,List.sum_append]
   simp only [List.map_cons,List.map_nil,List.sum_cons,List.sum_nil,Int.natCast_add,Int.add_mul]
   constructor
   ·
    simp; omega
   ·
    intro hjM
    by_cases e : j = M
    ·
     subst e
     simp; omega
    ·
     have := h2 (by omega)
     simp; omega
 exact (hle L (Nat.le_refl _)).2 hj
theorem LinkOk.back_lt (h : LinkOk L D R s) {k : Nat} (hk : k < L) (hf : s.far.getD k 0 ≠ 0) : s.back.length < L * D := by
 have h1 := count_split s.back L h.bl
 have h2 := sum_lt (fun k => ((s.back.countP fun x => decide (x = (k : Int)) : Nat) : Int)) (D : Int) L (fun i hi => by
  have := h.sum i hi
  have := h.c0 i hi
  have := h.f0 i hi
  omega) hk (by
  have := h.sum k hk
  have := h.c0 k hk
  have := h.f0 k hk
  omega)
 rw [← h1] at h2
 have : ((L * D : Nat) : Int) = (L : Int) * (D : Int) := by push_cast; rfl
 omega
end
end
theorem Cfg.at_is {c : Cfg} {x y : Int} (h : c.atB x y = true) : c.is (y * c.W + x) = true∧(y * c.W + x) % c.W = x∧(y * c.W + x) / c.W = y := by
 simp only [Cfg.atB,Bool.and_eq_true,decide_eq_true_eq] at h
 obtain ⟨⟨⟨⟨h0,x0⟩,y0⟩,x1⟩,y1⟩ := h
 have hok := c.ok_of h0
 have hW := hok.W1
 have hy : y * c.W ≤ (c.H - 1) * c.W := Int.mul_le_mul_of_nonneg_right (by omega) (by omega)
 have hyy : (c.H - 1) * c.W = c.W * c.H - c.W := by rw [Int.sub_mul,Int.one_mul,Int.mul_comm]
 have hy0 : 0 ≤ y * c.W := Int.mul_nonneg y0 (by omega)
 refine ⟨(Cfg.is_iff _ _).2 ⟨by omega,by rw [Cfg.nodes_ok hok]; omega⟩,?_,?_⟩
 ·
  rw [Int.add_comm,Int.add_mul_emod_self_right,Int.emod_eq_of_lt x0 x1]
 ·
  rw [Int.add_comm,Int.add_mul_ediv_right _ _ (by omega),Int.ediv_eq_zero_of_lt x0 x1,Int.zero_add]
theorem Cfg.bes_is {c : Cfg} {n p : Int} (h : c.besB n p = true) :
  c.is n = true∧0 ≤ p∧p < 5∧c.is (c.besV n p) = true∧c.besV n p % c.W = n % c.W + dX p∧c.besV n p / c.W = n / c.W + dY p∧c.atB (n % c.W + dX p) (n / c.W + dY p) = true := by
 have hv : c.besV n p = (n / c.W + dY p) * c.W + (n % c.W + dX p) := by unfold Cfg.besV; rw [if_pos h]
 simp only [Cfg.besB,Bool.and_eq_true,decide_eq_true_eq] at h
 obtain ⟨⟨⟨h1,h2⟩,h3⟩,h4⟩ := h
 obtain ⟨a,b,d⟩ := Cfg.at_is h4
 rw [hv]
 exact ⟨h1,h2,h3,a,b,d,h4⟩
theorem Cfg.mem_ports {c : Cfg} {n p : Int} : p ∈ c.ports n ↔ (p = 1∨p = 2∨p = 3∨p = 4)∧c.besB n p = true := by
 simp [Cfg.ports]
theorem Cfg.bes_mk {c : Cfg} {n p : Int} (h : c.is n = true) (h0 : 0 ≤ p) (h5 : p < 5) (x0 : 0 ≤ n % c.W + dX p) (x1 : n % c.W + dX p < c.W) (y0 : 0 ≤ n / c.W + dY p) (y1 : n / c.W + dY p < c.H) : c.besB n p = true := by
 obtain ⟨hok,-,-⟩ := Cfg.is_ok h
 simp [Cfg.besB,Cfg.atB,h,h0,h5,x0,x1,y0,y1,c.chk_of hok]
def Cfg.nxt (c : Cfg) (n t : Int) : Int := c.besV n (c.stepV n t)
def Cfg.gap (c : Cfg) (n t : Int) : Nat := (c.lab n - c.lab t).natAbs
def Cfg.legN (c : Cfg) (t : Int) : Nat→Int→List Int
 | 0,_ => []
 | f + 1,n => if n = t then [] else c.nxt n t :: c.legN t f (c.nxt n t)
def Cfg.leg (c : Cfg) (n t : Int) : List Int := c.legN t (c.gap n t) n
def Cfg.tail (c : Cfg) : Int→List Int→List Int
 | _,[] => []
 | n,t :: ts => c.leg n t ++ c.tail t ts
def Cfg.way (c : Cfg) (n : Int) (ts : List Int) : List Int := if c.is n && ts.all c.is then n :: c.tail n ts else []
end Go.Proofs.YtfiklfkfbcpmgaaGreat
