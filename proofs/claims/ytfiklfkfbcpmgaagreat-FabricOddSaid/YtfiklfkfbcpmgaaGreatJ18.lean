/- Parts: RouterQ. No condition. -/
import Derived.Test.YtfiklfkfbcpmgaaGreatJ15
import Derived.Test.YtfiklfkfbcpmgaaGreatJ17
set_option linter.all false
set_option maxRecDepth 100000
set_option maxHeartbeats 3200000
namespace Go.Proofs.YtfiklfkfbcpmgaaGreat
open Go.RowKit
section
variable {ι : Type} [DecidableEq ι]
theorem Fresh.open {w0 w : World} {X : ι→Rep} (hX : ∀ i,Stable (X i)) (h : Fresh w0 X w) (i : ι) : ∃ oi,X i w oi∧∀ Y w',Turn oi Y w w'→Fresh w0 (upd X i Y) w' := by
 obtain ⟨o,hF,hlo,M⟩ := h
 obtain ⟨oi,hi,hio,put⟩ := hF.at hX i
 refine ⟨oi,hi,fun Y w' t => ?_⟩
 obtain ⟨o',hF',m',ho'⟩ := put (upd X i Y) w' (fun j hj => by unfold upd; rw [if_neg hj]) (by unfold upd; rw [if_pos rfl]; exact t)
 refine ⟨o',hF',fun g hg => ?_,M.trans' m' (fun _ _ e => e) (fun g hg e => by have := hlo g e; omega)⟩
 rcases ho' g hg with h | h
 ·
  exact hlo g h
 ·
  have := M.size
  omega
theorem Fresh.get {w0 w : World} {X : ι→Rep} (hX : ∀ i,Stable (X i)) (h : Fresh w0 X w) (i : ι) {b : Nat} {cs : Array Value} {t : TypeId} (e : X i = Cells b cs t) : Blk w b cs t := by
 obtain ⟨oi,hi,-⟩ := h.open hX i
 rw [e] at hi
 exact hi.1
theorem Fresh.none (w : World) : Fresh w (fun _ : ι => Emp) w := ⟨fun _ => False,⟨fun _ _ => False,fun i g h => h,fun i j g h => h.elim,fun g => by simp⟩,fun g h => h.elim,Mod.refl _ _⟩
theorem Fresh.mod {w0 w : World} {X : ι→Rep} (h : Fresh w0 X w) : Mod (fun _ => False) w0 w := by
 obtain ⟨o,hF,hlo,M⟩ := h
 exact M
end
theorem made_cells (w : World) (cs : Array Value) (t : TypeId) : Made (Cells w.heap.size cs t) w (w.alloc (.cells cs t)) :=
 ⟨fun g => g = w.heap.size,⟨Blk.made w cs t,fun g => Iff.rfl⟩,(Mod.refl _ _).alloc _,fun k hk => by omega⟩
theorem encL_one (x : Nat) : ∀ u ∈ encL x,u.oneCell' = true := by
 intro u hu
 simp [encL] at hu
 subst hu
 rfl
theorem encI_one (x : Int) : ∀ u ∈ encI x,u.oneCell' = true := by
 intro u hu
 simp [encI] at hu
 subst hu
 rfl
theorem info_PL : (Tryz.prog.info? 129).map (fun i => (i.zero,i.size,i.bytes)) = some (some (.pointer none),1,8) := by kernel_rfl
theorem stg_zero (b : Nat) (A : RAddr) (c : Cfg) (node : Int) : upd (fun _ => Emp) .blk (Cells b (routerK A c node 0) 144) = stg b A c node 0 none := by
 funext i
 cases i <;> simp [upd,stg]
theorem stg_emp (b : Nat) (A : RAddr) (c : Cfg) (node : Int) (m l T k : Nat) (h1 : m * c.Lanes.toNat + l ≤ k) (h2 : k ≠ 5 * c.Lanes.toNat) : stg b A c node m (some (T,l)) (.lane k) = Emp := by
 show (if k < m * c.Lanes.toNat then _ else if k < m * c.Lanes.toNat + l then _ else if k = 5 * c.Lanes.toNat then _ else Emp) = Emp
 rw [if_neg (by omega),if_neg (by omega),if_neg h2]
theorem stg_emp0 (b : Nat) (A : RAddr) (c : Cfg) (node : Int) (m k : Nat) (h1 : m * c.Lanes.toNat ≤ k) : stg b A c node m none (.lane k) = Emp := by
 show (if k < m * c.Lanes.toNat then _ else Emp) = Emp
 rw [if_neg (by omega)]
theorem stg_T (b : Nat) (A : RAddr) (c : Cfg) (node : Int) (m l T : Nat) (hm : m * c.Lanes.toNat + l ≤ 5 * c.Lanes.toNat) : stg b A c node m (some (T,l)) (.lane (5 * c.Lanes.toNat)) = Cells T (sideV A m).toArray 141 := by
 show (if 5 * c.Lanes.toNat < m * c.Lanes.toNat then _ else if 5 * c.Lanes.toNat < m * c.Lanes.toNat + l then _ else if 5 * c.Lanes.toNat = 5 * c.Lanes.toNat then _ else Emp) = _
 rw [if_neg (by omega),if_neg (by omega),if_pos rfl]
theorem stg_ins (b : Nat) (A : RAddr) (c : Cfg) (node : Int) (m l T : Nat) : stg b A c node m (some (T,l)) (.ins m) = Que encL 1 129 (A.iv m) (lanesV A c.Lanes.toNat m l) := by
 show (if m < m then _ else if m = m then _ else Emp) = _
 rw [if_neg (Nat.lt_irrefl m),if_pos rfl]
theorem stg_own (b : Nat) (A : RAddr) (c : Cfg) (node : Int) (m l T : Nat) : stg b A c node m (some (T,l)) (.own m) = Que encI 1 3 (A.ov m) (List.replicate l (-1)) := by
 show (if m < m then _ else if m = m then _ else Emp) = _
 rw [if_neg (Nat.lt_irrefl m),if_pos rfl]
theorem routerK_size (A : RAddr) (c : Cfg) (node : Int) (m : Nat) : (routerK A c node m).size = 30 := by
 have e : ∀ p,(sideK A m p).length = 4 := fun p => by unfold sideK; split <;> rfl
 have h : (routerHead c node).length = 10 := rfl
 unfold routerK
 simp only [List.size_toArray,List.length_append,e,h]
theorem upd_same {ι : Type} [DecidableEq ι] (X : ι→Rep) (i : ι) (Y : Rep) : upd X i Y i = Y := if_pos rfl
theorem router_new (c : Cfg) (node : Int) (w : World) (hc : c.Ok) (hn : c.is node = true) :
  Calls Tryz.prog 73 #[.agg c.cells,.int .i64 node] w fun e w' => ∃ b,e = .returned (.pointer (some ⟨b,0,none⟩))∧Made (RouterAt b c node ⟨List.replicate (5 * c.Lanes.toNat) LaneS.new,List.replicate (5 * c.Lanes.toNat) (-1),List.replicate 5 (-1),List.replicate 5 (-1)⟩) w w' := by
 have kb := Blk.made w c.cells 23
 have m0 : Mod (fun _ => False) w (w.alloc (.cells c.cells 23)) := (Mod.refl _ _).alloc _
 have HI := Lib.hid (fun w => run_Is c node w)
 rw [hn] at HI
 have hL1 := hc.L1
 have hL2 := hc.L2
 have hD1 := hc.D1
 have hD2 := hc.D2
 have HLN := Lib.hid (fun w => lane_new w c.Depth.toNat (by omega) (by omega))
 rw [show ((c.Depth.toNat : Nat) : Int) = c.Depth by omega] at HLN
 have HN1 := Lib.hid (fun w => fair_new c.Lanes w)
 have HN2 := Lib.hid (fun w => fair_new (5 * c.Lanes) w)
 rw [show nPl c.Lanes = c.Lanes by unfold nPl; omega] at HN1
 rw [show nPl (5 * c.Lanes) = 5 * c.Lanes by unfold nPl; omega] at HN2
 simp only [Cfg.cells] at kb m0 HI ⊢
 go_enter Tryz.func73,Tryz.ntmps73
 go_upto_region 1 with fail
 generalize w.alloc (.cells #[.int .i64 c.W,.int .i64 c.H,.int .i64 c.Lanes,.int .i64 c.Depth,.int .i64 c.Ring,.int .i64 c.Inbox,.int .i64 c.Bound,.bool c.West,.bool c.Cast] 23) = w0 at kb m0 ⊢
 obtain ⟨c0,c1,c2,c3,c4,c5,c6,c7,c8⟩ := cfg_cells kb
 go_wp2_with fail
 refine (HI.out _).mono ?_
 rintro e w1 ⟨rfl,m1⟩
 have kb1 := kb.later m1 (by simp)
 have hs1 := m0.size
 have hs1b := m1.size
 have m1 := m0.trans m1 (fun _ _ e => e)
 clear c0 c1 c2 c3 c4 c5 c6 c7 c8 kb m0 HI
 obtain ⟨c0,c1,c2,c3,c4,c5,c6,c7,c8⟩ := cfg_cells kb1
 go_upto_region 4 with fail
 let A0 : RAddr := ⟨fun _ => 0,fun _ => .slice none 0 0,fun _ => .slice none 0 0,fun _ => 0,fun _ => 0⟩
 obtain ⟨A0,-⟩ : ∃ A : RAddr,True := ⟨A0,trivial⟩
 have F0 := (Fresh.none (ι := RP) w1).add (fun _ => Emp.stable) .blk _ rfl (made_cells w1 (routerK A0 c node 0) 144)
 rw [stg_zero] at F0
 change Fresh w1 _ (w1.alloc (.cells #[.int .i64 c.W,.int .i64 c.H,.int .i64 c.Lanes,.int .i64 c.Depth,.int .i64 c.Ring,.int .i64 c.Inbox,.int .i64 c.Bound,.bool c.West,.bool c.Cast,.int .i64 node,.slice none 0 0,.slice none 0 0,.pointer none,.pointer none,.slice none 0 0,.slice none 0 0,.pointer none,.pointer none,.slice none 0 0,.slice none 0 0,.pointer none,.pointer none,.slice none 0 0,.slice none 0 0,.pointer none,.pointer none,.slice none 0 0,.slice none 0 0,.pointer none,.pointer none] 144)) at F0
 generalize w1.alloc (.cells #[.int .i64 c.W,.int .i64 c.H,.int .i64 c.Lanes,.int .i64 c.Depth,.int .i64 c.Ring,.int .i64 c.Inbox,.int .i64 c.Bound,.bool c.West,.bool c.Cast,.int .i64 node,.slice none 0 0,.slice none 0 0,.pointer none,.pointer none,.slice none 0 0,.slice none 0 0,.pointer none,.pointer none,.slice none 0 0,.slice none 0 0,.pointer none,.pointer none,.slice none 0 0,.slice none 0 0,.pointer none,.pointer none,.slice none 0 0,.slice none 0 0,.pointer none,.pointer none] 144) = w2 at F0 ⊢
 obtain ⟨b,hb⟩ : ∃ b,w1.heap.size = b := ⟨_,rfl⟩
 rw [hb] at F0 ⊢
 clear hb c0 c1 c2 c3 c4 c5 c6 c7 c8
 have HC2 := Lib.hid (fun w' (m : Mod (fun _ => False) w1 w') => (cfg_cells (kb1.later m (by simp))).2.2.1)
 have HC3 := Lib.hid (fun w' (m : Mod (fun _ => False) w1 w') => (cfg_cells (kb1.later m (by simp))).2.2.2.1)
 go_wp2
 go_loopw [16] (fun i wr => ∃ (m : Nat) (A : RAddr),m ≤ 5∧i = .int .i64 (m : Int)∧Fresh w1 (stg b A c node m none) wr) (fun i _ => 5 - (intOf i).toNat)
 case atStart => exact ⟨0,A0,by omega,rfl,F0⟩
 case round =>
  obtain ⟨m,A,hm,rfl,F⟩ := hrel
  obtain ⟨w4,rfl⟩ : ∃ wo : World,wo = wr := ⟨_,rfl⟩
  by_cases hlt : m < 5
  ·
   have c2 := HC2.out _ F.mod
   have hS := stg_stable b A c node m none
   have hmL : m * c.Lanes.toNat < 5 * c.Lanes.toNat := Nat.mul_lt_mul_of_pos_right hlt (by omega)
   have g5 : IntKind.i64.wrap (5 * c.Lanes) = 5 * c.Lanes := IntWalk.i64_in _ (by omega)
   go_upto_region 7 with fail
   go_cut [7] (fun z w' => ∃ T x y,z = .pointer (some ⟨T,0,none⟩)∧Fresh w1 (stg b ⟨A.lp,fnu A.iv m (.slice none 0 0),fnu A.ov m (.slice none 0 0),fnu A.fg m x,fnu A.fm m y⟩ c node m (some (T,0))) w')
   case first =>
    refine walkT_begin 9 (fun w' => w'.cell? ⟨w.heap.size,2,none⟩ = some (.int .i64 c.Lanes)) (by kernel_rfl) ?_
    have hHeld : (fun w' => w'.cell? ⟨w.heap.size,2,none⟩ = some (.int .i64 c.Lanes)) (w4.drew) := by exact c2
    refine takeT_run 0 (v := ?_) rfl (by kernel_rfl) (by kernel_rfl) (by kernel_rfl) (fun _ _ _ h => h) (by rfl) ?_ (by assumption) ?_
    rotate_left
    ·
     (intro wx hSw; (try dsimp only at hSw); go_simp; try with_reducible rfl)
    try simp only [Act.put,lyA,lyB,lyC]
    refine takeT_run 1 (v := ?_) rfl (by kernel_rfl) (by kernel_rfl) (by kernel_rfl) (fun _ _ _ h => h) (by rfl) ?_ (by assumption) ?_
    rotate_left
    ·
     (intro wx hSw; (try dsimp only at hSw); go_simp; try with_reducible rfl)
    try simp only [Act.put,lyA,lyB,lyC]
    refine takeT_run 3 (v := ?_) rfl (by kernel_rfl) (by kernel_rfl) (by kernel_rfl) (fun _ _ _ h => h) (by rfl) ?_ (by assumption) ?_
    rotate_left
    ·
     (intro wx hSw; (try dsimp only at hSw); go_simp; try with_reducible rfl)
    try simp only [Act.put,lyA,lyB,lyC]
    refine takeT_run 4 (v := ?_) rfl (by kernel_rfl) (by kernel_rfl) (by kernel_rfl) (fun _ _ _ h => h) (by rfl) ?_ (by assumption) ?_
    rotate_left
    ·
     (intro wx hSw; (try dsimp only at hSw); go_simp; try with_reducible rfl)
    try simp only [Act.put,lyA,lyB,lyC]
    refine takeT_run 5 (v := ?_) rfl (by kernel_rfl) (by kernel_rfl) (by kernel_rfl) (fun _ _ _ h => h) (by rfl) ?_ (by assumption) ?_
    rotate_left
    ·
     (intro wx hSw; (try dsimp only at hSw); go_simp; try with_reducible rfl)
    try simp only [Act.put,lyA,lyB,lyC]
    refine takeT_two 2 8 rfl rfl (by kernel_rfl) (by rfl) ?_ ?_
    ·
     intro K hK
     go_simp
     refine (HN1.out _).mono ?_
     rintro e v1 ⟨rfl,hv⟩
     have F := F.later hS ((Mod.refl (fun _ => False) w4).drew)
     have F := F.add hS (RP.give m) _ (by simp [upd,stg]) (made_cells (w4.drew) #[.int .i64 c.Lanes,.int .i64 (-1)] 217)
     have hS := upd_stable hS (Cells.stable (w4.drew).heap.size #[.int .i64 c.Lanes,.int .i64 (-1)] 217) (i := RP.give m)
     rw [← hv] at F
     clear hv
     change Fresh w1 (upd _ (RP.give m) (Cells w4.heap.size _ _)) v1 at F
     change ∀ j,Stable (upd _ (RP.give m) (Cells w4.heap.size _ _) j) at hS
     try rw [show (World.drew w4).heap.size = w4.heap.size from rfl]
     generalize (w4).heap.size = x at F hS ⊢
     have d2 := HC2.out _ F.mod
     refine hK.out _ _ ?_ (fun hHeld' => ?_)
     ·
      exact d2
     clear hK K hHeld
     try simp only [Act.put,lyA,lyB,lyC]
     refine takeT_two 6 8 rfl rfl (by kernel_rfl) (by rfl) ?_ ?_
     ·
      intro K hK
      go_simp
      refine (HN2.out _).mono ?_
      rintro e v2 ⟨rfl,hv⟩
      have F := F.add hS (RP.mv m) _ (by simp [upd,stg]) (made_cells (v1) #[.int .i64 (5 * c.Lanes),.int .i64 (-1)] 217)
      have hS := upd_stable hS (Cells.stable (v1).heap.size #[.int .i64 (5 * c.Lanes),.int .i64 (-1)] 217) (i := RP.mv m)
      rw [← hv] at F
      clear hv
      generalize (v1).heap.size = y at F hS ⊢
      have d2 := HC2.out _ F.mod
      refine hK.out _ _ ?_ (fun hHeld'' => ?_)
      ·
       exact d2
      clear hK K hHeld'
      try simp only [Act.put,lyA,lyB,lyC]
      refine takeT_run 7 (v := ?_) rfl (by kernel_rfl) (by kernel_rfl) (by kernel_rfl) (fun _ _ _ h => h) (by rfl) ?_ (by assumption) ?_
      rotate_left
      ·
       (intro wx hSw; (try dsimp only at hSw); go_simp; try with_reducible rfl)
      try simp only [Act.put,lyA,lyB,lyC]
      refine takeT_one 8 rfl (by kernel_rfl) (by rfl) ?_
      intro K hK
      go_simp
      have F := F.add hS (RP.lane (5 * c.Lanes.toNat)) _ (by first | exact stg_emp0 _ _ _ _ _ _ (by omega) | (simp only [upd,RP.lane.injEq,reduceCtorEq,if_false]; exact stg_emp0 _ _ _ _ _ _ (by omega))) (made_cells (v2) #[.slice none 0 0,.slice none 0 0,.pointer none,.pointer none] 141)
      have hS := upd_stable hS (Cells.stable (v2).heap.size #[.slice none 0 0,.slice none 0 0,.pointer none,.pointer none] 141) (i := (RP.lane (5 * c.Lanes.toNat)))
      generalize (v2).heap.size = T at F hS ⊢
      generalize (v2.alloc (.cells #[.slice none 0 0,.slice none 0 0,.pointer none,.pointer none] 141)) = v3 at F ⊢
      have d2 := HC2.out _ F.mod
      refine hK.out _ _ ?_ (fun hHeld''' => ?_)
      ·
       exact d2
      clear hK K hHeld''
      try simp only [Act.put,lyA,lyB,lyC]
      refine walkT_tail 9 rfl rfl (by kernel_rfl) rfl ?_
      simp only [List.drop_succ_cons,List.drop_zero]
      have kT : Blk v3 T #[.slice none 0 0,.slice none 0 0,.pointer none,.pointer none] 141 := F.get hS (RP.lane (5 * c.Lanes.toNat)) (by simp [upd])
      have z0 := kT.fz 0
      have z1 := kT.fz 1
      have z2 := kT.fz 2
      have z3 := kT.fz 3
      have p0 := kT.cell 0
      have p1 := kT.cell 1
      have p2 := kT.cell 2
      have p3 := kT.cell 3
      simp at p0 p1 p2 p3
      have kT2 := ((((kT.set 0 (.slice none 0 0)).set 1 (.slice none 0 0)).set 2 (.pointer (some ⟨x,0,none⟩))).set 3 (.pointer (some ⟨y,0,none⟩)))
      have mT := (((((Mod.refl (fun g => g = T) v3).setCell (p := ⟨T,0,none⟩) (Or.inl rfl) (.slice none 0 0)).setCell (p := ⟨T,1,none⟩) (Or.inl rfl) (.slice none 0 0)).setCell (p := ⟨T,2,none⟩) (Or.inl rfl) (.pointer (some ⟨x,0,none⟩))).setCell (p := ⟨T,3,none⟩) (Or.inl rfl) (.pointer (some ⟨y,0,none⟩)))
      simp at kT2
      obtain ⟨oT,hT,hput⟩ := F.open hS (RP.lane (5 * c.Lanes.toNat))
      have hT : ∀ g,oT g ↔ g = T := by simp [upd] at hT; exact hT.2
      have F3 := Lib.hid (hput _ _ (Cells.put hT kT2 mT))
      clear hput F kT mT
      go_wp2_with fail
      go_meet
      have F3 := F3.out
      have hS3 := upd_stable hS (Cells.stable T #[.slice none 0 0,.slice none 0 0,.pointer (some ⟨x,0,none⟩),.pointer (some ⟨y,0,none⟩)] 141) (i := (RP.lane (5 * c.Lanes.toNat)))
      have F4 := F3.turn hS3 (RP.ins m) (Que encL 1 129 (.slice none 0 0) []) (fun oi hi _ => ⟨oi,Or.inl ⟨rfl,rfl,by simpa [upd,stg,Emp] using hi⟩,Mod.refl _ _,fun g hg => Or.inl hg⟩)
      have F5 := F4.turn (upd_stable hS3 (Que.stable _ _)) (RP.own m) (Que encI 1 3 (.slice none 0 0) []) (fun oi hi _ => ⟨oi,Or.inl ⟨rfl,rfl,by simpa [upd,stg,Emp] using hi⟩,Mod.refl _ _,fun g hg => Or.inl hg⟩)
      refine ⟨T,x,y,rfl,?_⟩
      rw [← stg_start b A c node m T x y hlt (by omega)]
      refine Eq.mp (congrArg (fun X => Fresh w1 X _) ?_) F5
      funext j
      simp only [upd]
      repeat' split
      all_goals first | rfl | simp_all
     ·
      intro K hK
      go_simp
      have F := F.add hS (RP.lane (5 * c.Lanes.toNat)) _ (by first | exact stg_emp0 _ _ _ _ _ _ (by omega) | (simp only [upd,RP.lane.injEq,reduceCtorEq,if_false]; exact stg_emp0 _ _ _ _ _ _ (by omega))) (made_cells (v1) #[.slice none 0 0,.slice none 0 0,.pointer none,.pointer none] 141)
      have hS := upd_stable hS (Cells.stable (v1).heap.size #[.slice none 0 0,.slice none 0 0,.pointer none,.pointer none] 141) (i := (RP.lane (5 * c.Lanes.toNat)))
      generalize (v1).heap.size = T at F hS ⊢
      generalize (v1.alloc (.cells #[.slice none 0 0,.slice none 0 0,.pointer none,.pointer none] 141)) = v2 at F ⊢
      have d2 := HC2.out _ F.mod
      refine hK.out _ _ ?_ (fun hHeld'' => ?_)
      ·
       exact d2
      clear hK K hHeld'
      try simp only [Act.put,lyA,lyB,lyC]
      refine takeT_one 6 rfl (by kernel_rfl) (by rfl) ?_
      intro K hK
      go_simp
      refine (HN2.out _).mono ?_
      rintro e v3 ⟨rfl,hv⟩
      have F := F.add hS (RP.mv m) _ (by simp [upd,stg]) (made_cells (v2) #[.int .i64 (5 * c.Lanes),.int .i64 (-1)] 217)
      have hS := upd_stable hS (Cells.stable (v2).heap.size #[.int .i64 (5 * c.Lanes),.int .i64 (-1)] 217) (i := RP.mv m)
      rw [← hv] at F
      clear hv
      generalize (v2).heap.size = y at F hS ⊢
      have d2 := HC2.out _ F.mod
      refine hK.out _ _ ?_ (fun hHeld''' => ?_)
      ·
       exact d2
      clear hK K hHeld''
      try simp only [Act.put,lyA,lyB,lyC]
      refine takeT_run 7 (v := ?_) rfl (by kernel_rfl) (by kernel_rfl) (by kernel_rfl) (fun _ _ _ h => h) (by rfl) ?_ (by assumption) ?_
      rotate_left
      ·
       (intro wx hSw; (try dsimp only at hSw); go_simp; try with_reducible rfl)
      try simp only [Act.put,lyA,lyB,lyC]
      refine walkT_tail 9 rfl rfl (by kernel_rfl) rfl ?_
      simp only [List.drop_succ_cons,List.drop_zero]
      have kT : Blk v3 T #[.slice none 0 0,.slice none 0 0,.pointer none,.pointer none] 141 := F.get hS (RP.lane (5 * c.Lanes.toNat)) (by simp [upd])
      have z0 := kT.fz 0
      have z1 := kT.fz 1
      have z2 := kT.fz 2
      have z3 := kT.fz 3
      have p0 := kT.cell 0
      have p1 := kT.cell 1
      have p2 := kT.cell 2
      have p3 := kT.cell 3
      simp at p0 p1 p2 p3
      have kT2 := ((((kT.set 0 (.slice none 0 0)).set 1 (.slice none 0 0)).set 2 (.pointer (some ⟨x,0,none⟩))).set 3 (.pointer (some ⟨y,0,none⟩)))
      have mT := (((((Mod.refl (fun g => g = T) v3).setCell (p := ⟨T,0,none⟩) (Or.inl rfl) (.slice none 0 0)).setCell (p := ⟨T,1,none⟩) (Or.inl rfl) (.slice none 0 0)).setCell (p := ⟨T,2,none⟩) (Or.inl rfl) (.pointer (some ⟨x,0,none⟩))).setCell (p := ⟨T,3,none⟩) (Or.inl rfl) (.pointer (some ⟨y,0,none⟩)))
      simp at kT2
      obtain ⟨oT,hT,hput⟩ := F.open hS (RP.lane (5 * c.Lanes.toNat))
      have hT : ∀ g,oT g ↔ g = T := by simp [upd] at hT; exact hT.2
      have F3 := Lib.hid (hput _ _ (Cells.put hT kT2 mT))
      clear hput F kT mT
      go_wp2_with fail
      go_meet
      have F3 := F3.out
      have hS3 := upd_stable hS (Cells.stable T #[.slice none 0 0,.slice none 0 0,.pointer (some ⟨x,0,none⟩),.pointer (some ⟨y,0,none⟩)] 141) (i := (RP.lane (5 * c.Lanes.toNat)))
      have F4 := F3.turn hS3 (RP.ins m) (Que encL 1 129 (.slice none 0 0) []) (fun oi hi _ => ⟨oi,Or.inl ⟨rfl,rfl,by simpa [upd,stg,Emp] using hi⟩,Mod.refl _ _,fun g hg => Or.inl hg⟩)
      have F5 := F4.turn (upd_stable hS3 (Que.stable _ _)) (RP.own m) (Que encI 1 3 (.slice none 0 0) []) (fun oi hi _ => ⟨oi,Or.inl ⟨rfl,rfl,by simpa [upd,stg,Emp] using hi⟩,Mod.refl _ _,fun g hg => Or.inl hg⟩)
      refine ⟨T,x,y,rfl,?_⟩
      rw [← stg_start b A c node m T x y hlt (by omega)]
      refine Eq.mp (congrArg (fun X => Fresh w1 X _) ?_) F5
      funext j
      simp only [upd]
      repeat' split
      all_goals first | rfl | simp_all
    ·
     intro K hK
     go_simp
     have F := F.add hS (RP.lane (5 * c.Lanes.toNat)) _ (by first | exact stg_emp0 _ _ _ _ _ _ (by omega) | (simp only [upd,RP.lane.injEq,reduceCtorEq,if_false]; exact stg_emp0 _ _ _ _ _ _ (by omega))) (made_cells (w4) #[.slice none 0 0,.slice none 0 0,.pointer none,.pointer none] 141)
     have hS := upd_stable hS (Cells.stable (w4).heap.size #[.slice none 0 0,.slice none 0 0,.pointer none,.pointer none] 141) (i := (RP.lane (5 * c.Lanes.toNat)))
     have F := F.later hS ((Mod.refl (fun _ => False) _).drew)
     generalize (w4).heap.size = T at F hS ⊢
     generalize (w4.alloc (.cells #[.slice none 0 0,.slice none 0 0,.pointer none,.pointer none] 141)).drew = v1 at F ⊢
     have d2 := HC2.out _ F.mod
     refine hK.out _ _ ?_ (fun hHeld' => ?_)
     ·
      exact d2
     clear hK K hHeld
     try simp only [Act.put,lyA,lyB,lyC]
     refine takeT_one 2 rfl (by kernel_rfl) (by rfl) ?_
     intro K hK
     go_simp
     refine (HN1.out _).mono ?_
     rintro e v2 ⟨rfl,hv⟩
     have F := F.add hS (RP.give m) _ (by simp [upd,stg]) (made_cells (v1) #[.int .i64 c.Lanes,.int .i64 (-1)] 217)
     have hS := upd_stable hS (Cells.stable (v1).heap.size #[.int .i64 c.Lanes,.int .i64 (-1)] 217) (i := RP.give m)
     rw [← hv] at F
     clear hv
     generalize (v1).heap.size = x at F hS ⊢
     have d2 := HC2.out _ F.mod
     refine hK.out _ _ ?_ (fun hHeld'' => ?_)
     ·
      exact d2
     clear hK K hHeld'
     try simp only [Act.put,lyA,lyB,lyC]
     refine takeT_one 6 rfl (by kernel_rfl) (by rfl) ?_
     intro K hK
     go_simp
     refine (HN2.out _).mono ?_
     rintro e v3 ⟨rfl,hv⟩
     have F := F.add hS (RP.mv m) _ (by simp [upd,stg]) (made_cells (v2) #[.int .i64 (5 * c.Lanes),.int .i64 (-1)] 217)
     have hS := upd_stable hS (Cells.stable (v2).heap.size #[.int .i64 (5 * c.Lanes),.int .i64 (-1)] 217) (i := RP.mv m)
     rw [← hv] at F
     clear hv
     generalize (v2).heap.size = y at F hS ⊢
     have d2 := HC2.out _ F.mod
     refine hK.out _ _ ?_ (fun hHeld''' => ?_)
     ·
      exact d2
     clear hK K hHeld''
     try simp only [Act.put,lyA,lyB,lyC]
     refine takeT_run 7 (v := ?_) rfl (by kernel_rfl) (by kernel_rfl) (by kernel_rfl) (fun _ _ _ h => h) (by rfl) ?_ (by assumption) ?_
     rotate_left
     ·
      (intro wx hSw; (try dsimp only at hSw); go_simp; try with_reducible rfl)
     try simp only [Act.put,lyA,lyB,lyC]
     refine walkT_tail 9 rfl rfl (by kernel_rfl) rfl ?_
     simp only [List.drop_succ_cons,List.drop_zero]
     have kT : Blk v3 T #[.slice none 0 0,.slice none 0 0,.pointer none,.pointer none] 141 := F.get hS (RP.lane (5 * c.Lanes.toNat)) (by simp [upd])
     have z0 := kT.fz 0
     have z1 := kT.fz 1
     have z2 := kT.fz 2
     have z3 := kT.fz 3
     have p0 := kT.cell 0
     have p1 := kT.cell 1
     have p2 := kT.cell 2
     have p3 := kT.cell 3
     simp at p0 p1 p2 p3
     have kT2 := ((((kT.set 0 (.slice none 0 0)).set 1 (.slice none 0 0)).set 2 (.pointer (some ⟨x,0,none⟩))).set 3 (.pointer (some ⟨y,0,none⟩)))
     have mT := (((((Mod.refl (fun g => g = T) v3).setCell (p := ⟨T,0,none⟩) (Or.inl rfl) (.slice none 0 0)).setCell (p := ⟨T,1,none⟩) (Or.inl rfl) (.slice none 0 0)).setCell (p := ⟨T,2,none⟩) (Or.inl rfl) (.pointer (some ⟨x,0,none⟩))).setCell (p := ⟨T,3,none⟩) (Or.inl rfl) (.pointer (some ⟨y,0,none⟩)))
     simp at kT2
     obtain ⟨oT,hT,hput⟩ := F.open hS (RP.lane (5 * c.Lanes.toNat))
     have hT : ∀ g,oT g ↔ g = T := by simp [upd] at hT; exact hT.2
     have F3 := Lib.hid (hput _ _ (Cells.put hT kT2 mT))
     clear hput F kT mT
     go_wp2_with fail
     go_meet
     have F3 := F3.out
     have hS3 := upd_stable hS (Cells.stable T #[.slice none 0 0,.slice none 0 0,.pointer (some ⟨x,0,none⟩),.pointer (some ⟨y,0,none⟩)] 141) (i := (RP.lane (5 * c.Lanes.toNat)))
     have F4 := F3.turn hS3 (RP.ins m) (Que encL 1 129 (.slice none 0 0) []) (fun oi hi _ => ⟨oi,Or.inl ⟨rfl,rfl,by simpa [upd,stg,Emp] using hi⟩,Mod.refl _ _,fun g hg => Or.inl hg⟩)
     have F5 := F4.turn (upd_stable hS3 (Que.stable _ _)) (RP.own m) (Que encI 1 3 (.slice none 0 0) []) (fun oi hi _ => ⟨oi,Or.inl ⟨rfl,rfl,by simpa [upd,stg,Emp] using hi⟩,Mod.refl _ _,fun g hg => Or.inl hg⟩)
     refine ⟨T,x,y,rfl,?_⟩
     rw [← stg_start b A c node m T x y hlt (by omega)]
     refine Eq.mp (congrArg (fun X => Fresh w1 X _) ?_) F5
     funext j
     simp only [upd]
     repeat' split
     all_goals first | rfl | simp_all
   case rest =>
   obtain ⟨T,x,y,rfl,F⟩ := hcut
   obtain ⟨w5,rfl⟩ : ∃ wo : World,wo = wc := ⟨_,rfl⟩
   have hTS : True := trivial
   generalize (⟨A.lp,fnu A.iv m (.slice none 0 0),fnu A.ov m (.slice none 0 0),fnu A.fg m x,fnu A.fm m y⟩ : RAddr) = B at F
   clear c2
   have c2 := HC2.out _ F.mod
   go_wp2
   go_loopw [29] (fun i wr => ∃ (l : Nat) (A : RAddr),(l : Int) ≤ c.Lanes∧i = .int .i64 (l : Int)∧Fresh w1 (stg b A c node m (some (T,l))) wr) (fun i _ => c.Lanes.toNat - (intOf i).toNat)
   case atStart => exact ⟨0,B,by omega,rfl,F⟩
   case round =>
    clear F c2
    obtain ⟨l,A,hl,rfl,F⟩ := hrel
    obtain ⟨w6,rfl⟩ : ∃ wo : World,wo = wr := ⟨_,rfl⟩
    by_cases hll : (l : Int) < c.Lanes
    ·
     have hS := stg_stable b A c node m (some (T,l))
     have hllN : l < c.Lanes.toNat := by omega
     have hml : m * c.Lanes.toNat + l < 5 * c.Lanes.toNat := idx_lt hllN hlt
     have kT := F.get hS (.lane (5 * c.Lanes.toNat)) (stg_T b A c node m l T (by omega))
     have t0 := kT.cell 0
     have t1 := kT.cell 1
     simp [sideV] at t0 t1
     have c3 := HC3.out _ F.mod
     go_upto_region 10 with fail
     refine walkT_begin 12 (fun w' => w'.cell? ⟨T,0,none⟩ = some (A.iv m)∧w'.cell? ⟨T,1,none⟩ = some (A.ov m)∧w'.cell? ⟨w.heap.size,3,none⟩ = some (.int .i64 c.Depth)) (by kernel_rfl) ?_
     have hHeld : (fun w' => w'.cell? ⟨T,0,none⟩ = some (A.iv m)∧w'.cell? ⟨T,1,none⟩ = some (A.ov m)∧w'.cell? ⟨w.heap.size,3,none⟩ = some (.int .i64 c.Depth)) (w6.drew) := by exact ⟨t0,t1,c3⟩
     refine takeT_run 0 (v := ?_) rfl (by kernel_rfl) (by kernel_rfl) (by kernel_rfl) (fun _ _ _ h => h) (by rfl) ?_ (by assumption) ?_
     rotate_left
     ·
      (intro wx hSw; (try dsimp only at hSw); go_simp; try with_reducible rfl)
     try simp only [Act.put,lyA,lyB,lyC]
     refine takeT_run 1 (v := ?_) rfl (by kernel_rfl) (by kernel_rfl) (by kernel_rfl) (fun _ _ _ h => h) (by rfl) ?_ (by assumption) ?_
     rotate_left
     ·
      (intro wx hSw; (try dsimp only at hSw); go_simp; try with_reducible rfl)
     try simp only [Act.put,lyA,lyB,lyC]
     refine takeT_run 2 (v := ?_) rfl (by kernel_rfl) (by kernel_rfl) (by kernel_rfl) (fun _ _ _ h => h) (by rfl) ?_ (by assumption) ?_
     rotate_left
     ·
      (intro wx hSw; (try dsimp only at hSw); go_simp; try with_reducible rfl)
     try simp only [Act.put,lyA,lyB,lyC]
     refine takeT_run 3 (v := ?_) rfl (by kernel_rfl) (by kernel_rfl) (by kernel_rfl) (fun _ _ _ h => h) (by rfl) ?_ (by assumption) ?_
     rotate_left
     ·
      (intro wx hSw; (try dsimp only at hSw); go_simp; try with_reducible rfl)
     try simp only [Act.put,lyA,lyB,lyC]
     refine takeT_run 7 (v := ?_) rfl (by kernel_rfl) (by kernel_rfl) (by kernel_rfl) (fun _ _ _ h => h) (by rfl) ?_ (by assumption) ?_
     rotate_left
     ·
      (intro wx hSw; (try dsimp only at hSw); go_simp; try with_reducible rfl)
     try simp only [Act.put,lyA,lyB,lyC]
     refine takeT_run 8 (v := ?_) rfl (by kernel_rfl) (by kernel_rfl) (by kernel_rfl) (fun _ _ _ h => h) (by rfl) ?_ (by assumption) ?_
     rotate_left
     ·
      (intro wx hSw; (try dsimp only at hSw); go_simp; try with_reducible rfl)
     try simp only [Act.put,lyA,lyB,lyC]
     refine takeT_two 4 9 rfl rfl (by kernel_rfl) (by rfl) ?_ ?_
     ·
      intro K hK
      go_simp
      have F := F.later hS ((Mod.refl (fun _ => False) w6).drew)
      refine (HLN.out _).mono ?_
      rintro e v1 ⟨x,rfl,hM⟩
      have F := F.add hS (RP.lane (m * c.Lanes.toNat + l)) _ (by (try simp only [upd,RP.lane.injEq,reduceCtorEq,if_false]); (repeat rw [if_neg (by omega)]); exact stg_emp _ _ _ _ _ _ _ _ (by omega) (by omega)) hM
      have hS := upd_stable hS (LaneAt.stable x c.Depth.toNat LaneS.new) (i := (RP.lane (m * c.Lanes.toNat + l)))
      clear hM
      have kTT : Blk v1 T (sideV A m).toArray 141 := F.get hS (RP.lane (5 * c.Lanes.toNat)) (by simp only [upd,RP.lane.injEq,reduceCtorEq,if_false]; (repeat rw [if_neg (by omega)]); exact stg_T _ _ _ _ _ _ _ (by omega))
      have d3 := HC3.out _ F.mod
      refine hK.out _ _ ?_ (fun hHeld' => ?_)
      ·
       exact ⟨(kTT.cell 0).trans rfl,(kTT.cell 1).trans rfl,d3⟩
      clear hK K hHeld
      try simp only [Act.put,lyA,lyB,lyC]
      refine takeT_two 5 9 rfl rfl (by kernel_rfl) (by rfl) ?_ ?_
      ·
       intro K hK
       go_simp
       have F := F.add hS (RP.lane (5 * c.Lanes.toNat + 1)) _ (by (try simp only [upd,RP.lane.injEq,reduceCtorEq,if_false]); (repeat rw [if_neg (by omega)]); exact stg_emp _ _ _ _ _ _ _ _ (by omega) (by omega)) (made_cells v1 #[.pointer (some ⟨x,0,none⟩)] 129)
       have hS := upd_stable hS (Cells.stable v1.heap.size #[.pointer (some ⟨x,0,none⟩)] 129) (i := (RP.lane (5 * c.Lanes.toNat + 1)))
       generalize v1.heap.size = cA at F hS ⊢
       generalize (v1.alloc (.cells #[.pointer (some ⟨x,0,none⟩)] 129)) = v2 at F ⊢
       have kTT : Blk v2 T (sideV A m).toArray 141 := F.get hS (RP.lane (5 * c.Lanes.toNat)) (by simp only [upd,RP.lane.injEq,reduceCtorEq,if_false]; (repeat rw [if_neg (by omega)]); exact stg_T _ _ _ _ _ _ _ (by omega))
       have d3 := HC3.out _ F.mod
       refine hK.out _ _ ?_ (fun hHeld'' => ?_)
       ·
        exact ⟨(kTT.cell 0).trans rfl,(kTT.cell 1).trans rfl,d3⟩
       clear hK K hHeld'
       try simp only [Act.put,lyA,lyB,lyC]
       refine takeT_two 6 9 rfl rfl (by kernel_rfl) (by rfl) ?_ ?_
       ·
        intro K hK
        obtain ⟨oq,hq,hput⟩ := F.open hS (RP.ins m)
        have hq : Que encL 1 129 (A.iv m) (lanesV A c.Lanes.toNat m l) v2 oq := by simpa [upd,stg_ins] using hq
        have kq : Blk v2 cA #[.pointer (some ⟨x,0,none⟩)] 129 := F.get hS (RP.lane (5 * c.Lanes.toNat + 1)) (by have n1 : 5 * c.Lanes.toNat + 1 ≠ m * c.Lanes.toNat + l := (by omega); simp [upd,n1])
        obtain ⟨na,nc,v3,happ,tq⟩ := Que.append (enc := encL) (sz := 1) (P := Tryz.prog) (tS := 138) (ty := 138) (x := x) (fun _ => rfl) encL_one Tryz.underlying138 info_PL rfl (by decide) (by decide) hq kq rfl (by simp [lanesV]; omega)
        rw [show (lanesV A c.Lanes.toNat m l).length = l by simp [lanesV]] at happ tq
        have F := hput _ _ tq
        have hS := upd_stable hS (Que.stable (enc := encL) (sz := 1) (T := 129) (.slice na (l + 1) nc) (lanesV A c.Lanes.toNat m l ++ [x])) (i := RP.ins m)
        clear hput hq kq
        rw [if_pos (by rfl)]
        refine wp_appendR _ _ _ rfl rfl rfl happ ?_
        clear happ tq
        try simp only [Act.put,lyA,lyB,lyC]
        have kTT : Blk v3 T (sideV A m).toArray 141 := F.get hS (RP.lane (5 * c.Lanes.toNat)) (by simp only [upd,RP.lane.injEq,reduceCtorEq,if_false]; (repeat rw [if_neg (by omega)]); exact stg_T _ _ _ _ _ _ _ (by omega))
        have d3 := HC3.out _ F.mod
        refine hK.out _ _ ?_ (fun hHeld''' => ?_)
        ·
         exact ⟨(kTT.cell 0).trans rfl,(kTT.cell 1).trans rfl,d3⟩
        clear hK K hHeld''
        try simp only [Act.put,lyA,lyB,lyC]
        refine takeT_run 11 (v := ?_) rfl (by kernel_rfl) (by kernel_rfl) (by kernel_rfl) (fun _ _ _ h => h) (by rfl) ?_ (by assumption) ?_
        rotate_left
        ·
         (intro wx hSw; (try dsimp only at hSw); go_simp; try with_reducible rfl)
        try simp only [Act.put,lyA,lyB,lyC]
        refine takeT_one 9 rfl (by kernel_rfl) (by rfl) ?_
        intro K hK
        go_simp
        have F := F.add hS (RP.lane (5 * c.Lanes.toNat + 2)) _ (by (try simp only [upd,RP.lane.injEq,reduceCtorEq,if_false]); (repeat rw [if_neg (by omega)]); exact stg_emp _ _ _ _ _ _ _ _ (by omega) (by omega)) (made_cells v3 #[.int .i64 (-1)] 3)
        have hS := upd_stable hS (Cells.stable v3.heap.size #[.int .i64 (-1)] 3) (i := (RP.lane (5 * c.Lanes.toNat + 2)))
        generalize v3.heap.size = cB at F hS ⊢
        generalize (v3.alloc (.cells #[.int .i64 (-1)] 3)) = v4 at F ⊢
        have kTT : Blk v4 T (sideV A m).toArray 141 := F.get hS (RP.lane (5 * c.Lanes.toNat)) (by simp only [upd,RP.lane.injEq,reduceCtorEq,if_false]; (repeat rw [if_neg (by omega)]); exact stg_T _ _ _ _ _ _ _ (by omega))
        have d3 := HC3.out _ F.mod
        refine hK.out _ _ ?_ (fun hHeld'''' => ?_)
        ·
         exact ⟨(kTT.cell 0).trans rfl,(kTT.cell 1).trans rfl,d3⟩
        clear hK K hHeld'''
        try simp only [Act.put,lyA,lyB,lyC]
        refine takeT_one 10 rfl (by kernel_rfl) (by rfl) ?_
        intro K hK
        obtain ⟨oq,hq,hput⟩ := F.open hS (RP.own m)
        have hq : Que encI 1 3 (A.ov m) (List.replicate l (-1)) v4 oq := by simpa [upd,stg_own] using hq
        have kq : Blk v4 cB #[.int .i64 (-1)] 3 := F.get hS (RP.lane (5 * c.Lanes.toNat + 2)) (by have n2 : 5 * c.Lanes.toNat + 2 ≠ m * c.Lanes.toNat + l := (by omega); simp [upd,n2])
        obtain ⟨ma,mc,v5,happ,tq⟩ := Que.append (enc := encI) (sz := 1) (P := Tryz.prog) (tS := 44) (ty := 44) (x := (-1 : Int)) (fun _ => rfl) encI_one Tryz.underlying44 info_int' rfl (by decide) (by decide) hq kq rfl (by simp; omega)
        rw [show (List.replicate l (-1 : Int)).length = l by simp] at happ tq
        have F := hput _ _ tq
        have hS := upd_stable hS (Que.stable (enc := encI) (sz := 1) (T := 3) (.slice ma (l + 1) mc) (List.replicate l (-1) ++ [-1])) (i := RP.own m)
        clear hput hq kq
        rw [if_pos (by rfl)]
        refine wp_appendR _ _ _ rfl rfl rfl happ ?_
        clear happ tq
        try simp only [Act.put,lyA,lyB,lyC]
        have kTT : Blk v5 T (sideV A m).toArray 141 := F.get hS (RP.lane (5 * c.Lanes.toNat)) (by simp only [upd,RP.lane.injEq,reduceCtorEq,if_false]; (repeat rw [if_neg (by omega)]); exact stg_T _ _ _ _ _ _ _ (by omega))
        have d3 := HC3.out _ F.mod
        refine hK.out _ _ ?_ (fun hHeld''''' => ?_)
        ·
         exact ⟨(kTT.cell 0).trans rfl,(kTT.cell 1).trans rfl,d3⟩
        clear hK K hHeld''''
        try simp only [Act.put,lyA,lyB,lyC]
        refine walkT_tail 12 rfl rfl (by kernel_rfl) rfl ?_
        simp only [List.drop_succ_cons,List.drop_zero]
        have z0 := kTT.fz 0
        have z1 := kTT.fz 1
        have p0 := kTT.cell 0
        have p1 := kTT.cell 1
        simp [sideV] at p0 p1
        have kT2 := (kTT.set 0 (.slice na (l + 1) nc)).set 1 (.slice ma (l + 1) mc)
        have mT := ((Mod.refl (fun g => g = T) v5).setCell (p := ⟨T,0,none⟩) (Or.inl rfl) (.slice na (l + 1) nc)).setCell (p := ⟨T,1,none⟩) (Or.inl rfl) (.slice ma (l + 1) mc)
        simp [sideV] at kT2
        obtain ⟨oT,hT,hput⟩ := F.open hS (RP.lane (5 * c.Lanes.toNat))
        have hT : ∀ g,oT g ↔ g = T := by
         rw [show upd _ _ _ (RP.lane (5 * c.Lanes.toNat)) = Cells T (sideV A m).toArray 141 by (simp only [upd,RP.lane.injEq,reduceCtorEq,if_false]; (repeat rw [if_neg (by omega)]); exact stg_T _ _ _ _ _ _ _ (by omega))] at hT
         exact hT.2
        have F3 := hput _ _ (Cells.put hT kT2 mT)
        have hS3 := upd_stable hS (Cells.stable T #[.slice na (l + 1) nc,.slice ma (l + 1) mc,.pointer (some ⟨A.fg m,0,none⟩),.pointer (some ⟨A.fm m,0,none⟩)] 141) (i := (RP.lane (5 * c.Lanes.toNat)))
        have F4 := F3.drop hS3 (RP.lane (5 * c.Lanes.toNat + 1))
        have F5 := F4.drop (upd_stable hS3 Emp.stable) (RP.lane (5 * c.Lanes.toNat + 2))
        have REL := Lib.hid (show Fresh w1 (stg b ⟨fnu A.lp (m * c.Lanes.toNat + l) x,fnu A.iv m (.slice na (l + 1) nc),fnu A.ov m (.slice ma (l + 1) mc),A.fg,A.fm⟩ c node m (some (T,l + 1))) ((v5.setCell ⟨T,0,none⟩ (.slice na (l + 1) nc)).setCell ⟨T,1,none⟩ (.slice ma (l + 1) mc)) from by
         rw [← stg_step b A c node m l T x _ _ hlt hllN]
         refine Eq.mp (congrArg (fun X => Fresh w1 X _) ?_) F5
         have eA : stg b A c node m (some (T,l)) (RP.lane (5 * c.Lanes.toNat + 1)) = Emp := stg_emp _ _ _ _ _ _ _ _ (by omega) (by omega)
         have eB : stg b A c node m (some (T,l)) (RP.lane (5 * c.Lanes.toNat + 2)) = Emp := stg_emp _ _ _ _ _ _ _ _ (by omega) (by omega)
         have n1 : 5 * c.Lanes.toNat + 1 ≠ m * c.Lanes.toNat + l := by omega
         have n2 : 5 * c.Lanes.toNat + 2 ≠ m * c.Lanes.toNat + l := by omega
         have n3 : m * c.Lanes.toNat + l ≠ 5 * c.Lanes.toNat + 1 := by omega
         have n4 : m * c.Lanes.toNat + l ≠ 5 * c.Lanes.toNat + 2 := by omega
         have n5 : m * c.Lanes.toNat + l ≠ 5 * c.Lanes.toNat := by omega
         have n6 : 5 * c.Lanes.toNat ≠ m * c.Lanes.toNat + l := by omega
         funext j
         by_cases h1 : j = (RP.lane (5 * c.Lanes.toNat + 1))
         ·
          subst h1
          simp [upd,eA,n1]
         by_cases h2 : j = (RP.lane (5 * c.Lanes.toNat + 2))
         ·
          subst h2
          simp [upd,eB,n2]
         by_cases h3 : j = (RP.lane (5 * c.Lanes.toNat))
         ·
          subst h3
          simp [upd]
         by_cases h4 : j = (RP.lane (m * c.Lanes.toNat + l))
         ·
          subst h4
          simp [upd,n3,n4,n5]
         by_cases h5 : j = RP.ins m
         ·
          subst h5
          simp [upd]
         by_cases h6 : j = RP.own m
         ·
          subst h6
          simp [upd]
         simp only [upd,if_neg h1,if_neg h2,if_neg h3,if_neg h4,if_neg h5,if_neg h6])
        clear F3 F4 F5 F hput kT2 mT hS3 hS kTT d3
        go_wp2
        go_roundw
        case rel => exact ⟨l + 1,_,by omega,by go_num,REL.out⟩
        case measure => simp [intOf]; omega
       ·
        intro K hK
        go_simp
        have F := F.add hS (RP.lane (5 * c.Lanes.toNat + 2)) _ (by (try simp only [upd,RP.lane.injEq,reduceCtorEq,if_false]); (repeat rw [if_neg (by omega)]); exact stg_emp _ _ _ _ _ _ _ _ (by omega) (by omega)) (made_cells v2 #[.int .i64 (-1)] 3)
        have hS := upd_stable hS (Cells.stable v2.heap.size #[.int .i64 (-1)] 3) (i := (RP.lane (5 * c.Lanes.toNat + 2)))
        generalize v2.heap.size = cB at F hS ⊢
        generalize (v2.alloc (.cells #[.int .i64 (-1)] 3)) = v3 at F ⊢
        have kTT : Blk v3 T (sideV A m).toArray 141 := F.get hS (RP.lane (5 * c.Lanes.toNat)) (by simp only [upd,RP.lane.injEq,reduceCtorEq,if_false]; (repeat rw [if_neg (by omega)]); exact stg_T _ _ _ _ _ _ _ (by omega))
        have d3 := HC3.out _ F.mod
        refine hK.out _ _ ?_ (fun hHeld''' => ?_)
        ·
         exact ⟨(kTT.cell 0).trans rfl,(kTT.cell 1).trans rfl,d3⟩
        clear hK K hHeld''
        try simp only [Act.put,lyA,lyB,lyC]
        refine takeT_one 6 rfl (by kernel_rfl) (by rfl) ?_
        intro K hK
        obtain ⟨oq,hq,hput⟩ := F.open hS (RP.ins m)
        have hq : Que encL 1 129 (A.iv m) (lanesV A c.Lanes.toNat m l) v3 oq := by simpa [upd,stg_ins] using hq
        have kq : Blk v3 cA #[.pointer (some ⟨x,0,none⟩)] 129 := F.get hS (RP.lane (5 * c.Lanes.toNat + 1)) (by have n1 : 5 * c.Lanes.toNat + 1 ≠ m * c.Lanes.toNat + l := (by omega); simp [upd,n1])
        obtain ⟨na,nc,v4,happ,tq⟩ := Que.append (enc := encL) (sz := 1) (P := Tryz.prog) (tS := 138) (ty := 138) (x := x) (fun _ => rfl) encL_one Tryz.underlying138 info_PL rfl (by decide) (by decide) hq kq rfl (by simp [lanesV]; omega)
        rw [show (lanesV A c.Lanes.toNat m l).length = l by simp [lanesV]] at happ tq
        have F := hput _ _ tq
        have hS := upd_stable hS (Que.stable (enc := encL) (sz := 1) (T := 129) (.slice na (l + 1) nc) (lanesV A c.Lanes.toNat m l ++ [x])) (i := RP.ins m)
        clear hput hq kq
        rw [if_pos (by rfl)]
        refine wp_appendR _ _ _ rfl rfl rfl happ ?_
        clear happ tq
        try simp only [Act.put,lyA,lyB,lyC]
        have kTT : Blk v4 T (sideV A m).toArray 141 := F.get hS (RP.lane (5 * c.Lanes.toNat)) (by simp only [upd,RP.lane.injEq,reduceCtorEq,if_false]; (repeat rw [if_neg (by omega)]); exact stg_T _ _ _ _ _ _ _ (by omega))
        have d3 := HC3.out _ F.mod
        refine hK.out _ _ ?_ (fun hHeld'''' => ?_)
        ·
         exact ⟨(kTT.cell 0).trans rfl,(kTT.cell 1).trans rfl,d3⟩
        clear hK K hHeld'''
        try simp only [Act.put,lyA,lyB,lyC]
        refine takeT_run 11 (v := ?_) rfl (by kernel_rfl) (by kernel_rfl) (by kernel_rfl) (fun _ _ _ h => h) (by rfl) ?_ (by assumption) ?_
        rotate_left
        ·
         (intro wx hSw; (try dsimp only at hSw); go_simp; try with_reducible rfl)
        try simp only [Act.put,lyA,lyB,lyC]
        refine takeT_one 10 rfl (by kernel_rfl) (by rfl) ?_
        intro K hK
        obtain ⟨oq,hq,hput⟩ := F.open hS (RP.own m)
        have hq : Que encI 1 3 (A.ov m) (List.replicate l (-1)) v4 oq := by simpa [upd,stg_own] using hq
        have kq : Blk v4 cB #[.int .i64 (-1)] 3 := F.get hS (RP.lane (5 * c.Lanes.toNat + 2)) (by have n2 : 5 * c.Lanes.toNat + 2 ≠ m * c.Lanes.toNat + l := (by omega); simp [upd,n2])
        obtain ⟨ma,mc,v5,happ,tq⟩ := Que.append (enc := encI) (sz := 1) (P := Tryz.prog) (tS := 44) (ty := 44) (x := (-1 : Int)) (fun _ => rfl) encI_one Tryz.underlying44 info_int' rfl (by decide) (by decide) hq kq rfl (by simp; omega)
        rw [show (List.replicate l (-1 : Int)).length = l by simp] at happ tq
        have F := hput _ _ tq
        have hS := upd_stable hS (Que.stable (enc := encI) (sz := 1) (T := 3) (.slice ma (l + 1) mc) (List.replicate l (-1) ++ [-1])) (i := RP.own m)
        clear hput hq kq
        rw [if_pos (by rfl)]
        refine wp_appendR _ _ _ rfl rfl rfl happ ?_
        clear happ tq
        try simp only [Act.put,lyA,lyB,lyC]
        have kTT : Blk v5 T (sideV A m).toArray 141 := F.get hS (RP.lane (5 * c.Lanes.toNat)) (by simp only [upd,RP.lane.injEq,reduceCtorEq,if_false]; (repeat rw [if_neg (by omega)]); exact stg_T _ _ _ _ _ _ _ (by omega))
        have d3 := HC3.out _ F.mod
        refine hK.out _ _ ?_ (fun hHeld''''' => ?_)
        ·
         exact ⟨(kTT.cell 0).trans rfl,(kTT.cell 1).trans rfl,d3⟩
        clear hK K hHeld''''
        try simp only [Act.put,lyA,lyB,lyC]
        refine walkT_tail 12 rfl rfl (by kernel_rfl) rfl ?_
        simp only [List.drop_succ_cons,List.drop_zero]
        have z0 := kTT.fz 0
        have z1 := kTT.fz 1
        have p0 := kTT.cell 0
        have p1 := kTT.cell 1
        simp [sideV] at p0 p1
        have kT2 := (kTT.set 0 (.slice na (l + 1) nc)).set 1 (.slice ma (l + 1) mc)
        have mT := ((Mod.refl (fun g => g = T) v5).setCell (p := ⟨T,0,none⟩) (Or.inl rfl) (.slice na (l + 1) nc)).setCell (p := ⟨T,1,none⟩) (Or.inl rfl) (.slice ma (l + 1) mc)
        simp [sideV] at kT2
        obtain ⟨oT,hT,hput⟩ := F.open hS (RP.lane (5 * c.Lanes.toNat))
        have hT : ∀ g,oT g ↔ g = T := by
         rw [show upd _ _ _ (RP.lane (5 * c.Lanes.toNat)) = Cells T (sideV A m).toArray 141 by (simp only [upd,RP.lane.injEq,reduceCtorEq,if_false]; (repeat rw [if_neg (by omega)]); exact stg_T _ _ _ _ _ _ _ (by omega))] at hT
         exact hT.2
        have F3 := hput _ _ (Cells.put hT kT2 mT)
        have hS3 := upd_stable hS (Cells.stable T #[.slice na (l + 1) nc,.slice ma (l + 1) mc,.pointer (some ⟨A.fg m,0,none⟩),.pointer (some ⟨A.fm m,0,none⟩)] 141) (i := (RP.lane (5 * c.Lanes.toNat)))
        have F4 := F3.drop hS3 (RP.lane (5 * c.Lanes.toNat + 1))
        have F5 := F4.drop (upd_stable hS3 Emp.stable) (RP.lane (5 * c.Lanes.toNat + 2))
        have REL := Lib.hid (show Fresh w1 (stg b ⟨fnu A.lp (m * c.Lanes.toNat + l) x,fnu A.iv m (.slice na (l + 1) nc),fnu A.ov m (.slice ma (l + 1) mc),A.fg,A.fm⟩ c node m (some (T,l + 1))) ((v5.setCell ⟨T,0,none⟩ (.slice na (l + 1) nc)).setCell ⟨T,1,none⟩ (.slice ma (l + 1) mc)) from by
         rw [← stg_step b A c node m l T x _ _ hlt hllN]
         refine Eq.mp (congrArg (fun X => Fresh w1 X _) ?_) F5
         have eA : stg b A c node m (some (T,l)) (RP.lane (5 * c.Lanes.toNat + 1)) = Emp := stg_emp _ _ _ _ _ _ _ _ (by omega) (by omega)
         have eB : stg b A c node m (some (T,l)) (RP.lane (5 * c.Lanes.toNat + 2)) = Emp := stg_emp _ _ _ _ _ _ _ _ (by omega) (by omega)
         have n1 : 5 * c.Lanes.toNat + 1 ≠ m * c.Lanes.toNat + l := by omega
         have n2 : 5 * c.Lanes.toNat + 2 ≠ m * c.Lanes.toNat + l := by omega
         have n3 : m * c.Lanes.toNat + l ≠ 5 * c.Lanes.toNat + 1 := by omega
         have n4 : m * c.Lanes.toNat + l ≠ 5 * c.Lanes.toNat + 2 := by omega
         have n5 : m * c.Lanes.toNat + l ≠ 5 * c.Lanes.toNat := by omega
         have n6 : 5 * c.Lanes.toNat ≠ m * c.Lanes.toNat + l := by omega
         funext j
         by_cases h1 : j = (RP.lane (5 * c.Lanes.toNat + 1))
         ·
          subst h1
          simp [upd,eA,n1]
         by_cases h2 : j = (RP.lane (5 * c.Lanes.toNat + 2))
         ·
          subst h2
          simp [upd,eB,n2]
         by_cases h3 : j = (RP.lane (5 * c.Lanes.toNat))
         ·
          subst h3
          simp [upd]
         by_cases h4 : j = (RP.lane (m * c.Lanes.toNat + l))
         ·
          subst h4
          simp [upd,n3,n4,n5]
         by_cases h5 : j = RP.ins m
         ·
          subst h5
          simp [upd]
         by_cases h6 : j = RP.own m
         ·
          subst h6
          simp [upd]
         simp only [upd,if_neg h1,if_neg h2,if_neg h3,if_neg h4,if_neg h5,if_neg h6])
        clear F3 F4 F5 F hput kT2 mT hS3 hS kTT d3
        go_wp2
        go_roundw
        case rel => exact ⟨l + 1,_,by omega,by go_num,REL.out⟩
        case measure => simp [intOf]; omega
      ·
       intro K hK
       go_simp
       have F := F.add hS (RP.lane (5 * c.Lanes.toNat + 2)) _ (by (try simp only [upd,RP.lane.injEq,reduceCtorEq,if_false]); (repeat rw [if_neg (by omega)]); exact stg_emp _ _ _ _ _ _ _ _ (by omega) (by omega)) (made_cells v1 #[.int .i64 (-1)] 3)
       have hS := upd_stable hS (Cells.stable v1.heap.size #[.int .i64 (-1)] 3) (i := (RP.lane (5 * c.Lanes.toNat + 2)))
       generalize v1.heap.size = cB at F hS ⊢
       generalize (v1.alloc (.cells #[.int .i64 (-1)] 3)) = v2 at F ⊢
       have kTT : Blk v2 T (sideV A m).toArray 141 := F.get hS (RP.lane (5 * c.Lanes.toNat)) (by simp only [upd,RP.lane.injEq,reduceCtorEq,if_false]; (repeat rw [if_neg (by omega)]); exact stg_T _ _ _ _ _ _ _ (by omega))
       have d3 := HC3.out _ F.mod
       refine hK.out _ _ ?_ (fun hHeld'' => ?_)
       ·
        exact ⟨(kTT.cell 0).trans rfl,(kTT.cell 1).trans rfl,d3⟩
       clear hK K hHeld'
       try simp only [Act.put,lyA,lyB,lyC]
       refine takeT_one 5 rfl (by kernel_rfl) (by rfl) ?_
       intro K hK
       go_simp
       have F := F.add hS (RP.lane (5 * c.Lanes.toNat + 1)) _ (by (try simp only [upd,RP.lane.injEq,reduceCtorEq,if_false]); (repeat rw [if_neg (by omega)]); exact stg_emp _ _ _ _ _ _ _ _ (by omega) (by omega)) (made_cells v2 #[.pointer (some ⟨x,0,none⟩)] 129)
       have hS := upd_stable hS (Cells.stable v2.heap.size #[.pointer (some ⟨x,0,none⟩)] 129) (i := (RP.lane (5 * c.Lanes.toNat + 1)))
       generalize v2.heap.size = cA at F hS ⊢
       generalize (v2.alloc (.cells #[.pointer (some ⟨x,0,none⟩)] 129)) = v3 at F ⊢
       have kTT : Blk v3 T (sideV A m).toArray 141 := F.get hS (RP.lane (5 * c.Lanes.toNat)) (by simp only [upd,RP.lane.injEq,reduceCtorEq,if_false]; (repeat rw [if_neg (by omega)]); exact stg_T _ _ _ _ _ _ _ (by omega))
       have d3 := HC3.out _ F.mod
       refine hK.out _ _ ?_ (fun hHeld''' => ?_)
       ·
        exact ⟨(kTT.cell 0).trans rfl,(kTT.cell 1).trans rfl,d3⟩
       clear hK K hHeld''
       try simp only [Act.put,lyA,lyB,lyC]
       refine takeT_one 6 rfl (by kernel_rfl) (by rfl) ?_
       intro K hK
       obtain ⟨oq,hq,hput⟩ := F.open hS (RP.ins m)
       have hq : Que encL 1 129 (A.iv m) (lanesV A c.Lanes.toNat m l) v3 oq := by simpa [upd,stg_ins] using hq
       have kq : Blk v3 cA #[.pointer (some ⟨x,0,none⟩)] 129 := F.get hS (RP.lane (5 * c.Lanes.toNat + 1)) (by have n1 : 5 * c.Lanes.toNat + 1 ≠ m * c.Lanes.toNat + l := (by omega); simp [upd,n1])
       obtain ⟨na,nc,v4,happ,tq⟩ := Que.append (enc := encL) (sz := 1) (P := Tryz.prog) (tS := 138) (ty := 138) (x := x) (fun _ => rfl) encL_one Tryz.underlying138 info_PL rfl (by decide) (by decide) hq kq rfl (by simp [lanesV]; omega)
       rw [show (lanesV A c.Lanes.toNat m l).length = l by simp [lanesV]] at happ tq
       have F := hput _ _ tq
       have hS := upd_stable hS (Que.stable (enc := encL) (sz := 1) (T := 129) (.slice na (l + 1) nc) (lanesV A c.Lanes.toNat m l ++ [x])) (i := RP.ins m)
       clear hput hq kq
       rw [if_pos (by rfl)]
       refine wp_appendR _ _ _ rfl rfl rfl happ ?_
       clear happ tq
       try simp only [Act.put,lyA,lyB,lyC]
       have kTT : Blk v4 T (sideV A m).toArray 141 := F.get hS (RP.lane (5 * c.Lanes.toNat)) (by simp only [upd,RP.lane.injEq,reduceCtorEq,if_false]; (repeat rw [if_neg (by omega)]); exact stg_T _ _ _ _ _ _ _ (by omega))
       have d3 := HC3.out _ F.mod
       refine hK.out _ _ ?_ (fun hHeld'''' => ?_)
       ·
        exact ⟨(kTT.cell 0).trans rfl,(kTT.cell 1).trans rfl,d3⟩
       clear hK K hHeld'''
       try simp only [Act.put,lyA,lyB,lyC]
       refine takeT_run 11 (v := ?_) rfl (by kernel_rfl) (by kernel_rfl) (by kernel_rfl) (fun _ _ _ h => h) (by rfl) ?_ (by assumption) ?_
       rotate_left
       ·
        (intro wx hSw; (try dsimp only at hSw); go_simp; try with_reducible rfl)
       try simp only [Act.put,lyA,lyB,lyC]
       refine takeT_one 10 rfl (by kernel_rfl) (by rfl) ?_
       intro K hK
       obtain ⟨oq,hq,hput⟩ := F.open hS (RP.own m)
       have hq : Que encI 1 3 (A.ov m) (List.replicate l (-1)) v4 oq := by simpa [upd,stg_own] using hq
       have kq : Blk v4 cB #[.int .i64 (-1)] 3 := F.get hS (RP.lane (5 * c.Lanes.toNat + 2)) (by have n2 : 5 * c.Lanes.toNat + 2 ≠ m * c.Lanes.toNat + l := (by omega); simp [upd,n2])
       obtain ⟨ma,mc,v5,happ,tq⟩ := Que.append (enc := encI) (sz := 1) (P := Tryz.prog) (tS := 44) (ty := 44) (x := (-1 : Int)) (fun _ => rfl) encI_one Tryz.underlying44 info_int' rfl (by decide) (by decide) hq kq rfl (by simp; omega)
       rw [show (List.replicate l (-1 : Int)).length = l by simp] at happ tq
       have F := hput _ _ tq
       have hS := upd_stable hS (Que.stable (enc := encI) (sz := 1) (T := 3) (.slice ma (l + 1) mc) (List.replicate l (-1) ++ [-1])) (i := RP.own m)
       clear hput hq kq
       rw [if_pos (by rfl)]
       refine wp_appendR _ _ _ rfl rfl rfl happ ?_
       clear happ tq
       try simp only [Act.put,lyA,lyB,lyC]
       have kTT : Blk v5 T (sideV A m).toArray 141 := F.get hS (RP.lane (5 * c.Lanes.toNat)) (by simp only [upd,RP.lane.injEq,reduceCtorEq,if_false]; (repeat rw [if_neg (by omega)]); exact stg_T _ _ _ _ _ _ _ (by omega))
       have d3 := HC3.out _ F.mod
       refine hK.out _ _ ?_ (fun hHeld''''' => ?_)
       ·
        exact ⟨(kTT.cell 0).trans rfl,(kTT.cell 1).trans rfl,d3⟩
       clear hK K hHeld''''
       try simp only [Act.put,lyA,lyB,lyC]
       refine walkT_tail 12 rfl rfl (by kernel_rfl) rfl ?_
       simp only [List.drop_succ_cons,List.drop_zero]
       have z0 := kTT.fz 0
       have z1 := kTT.fz 1
       have p0 := kTT.cell 0
       have p1 := kTT.cell 1
       simp [sideV] at p0 p1
       have kT2 := (kTT.set 0 (.slice na (l + 1) nc)).set 1 (.slice ma (l + 1) mc)
       have mT := ((Mod.refl (fun g => g = T) v5).setCell (p := ⟨T,0,none⟩) (Or.inl rfl) (.slice na (l + 1) nc)).setCell (p := ⟨T,1,none⟩) (Or.inl rfl) (.slice ma (l + 1) mc)
       simp [sideV] at kT2
       obtain ⟨oT,hT,hput⟩ := F.open hS (RP.lane (5 * c.Lanes.toNat))
       have hT : ∀ g,oT g ↔ g = T := by
        rw [show upd _ _ _ (RP.lane (5 * c.Lanes.toNat)) = Cells T (sideV A m).toArray 141 by (simp only [upd,RP.lane.injEq,reduceCtorEq,if_false]; (repeat rw [if_neg (by omega)]); exact stg_T _ _ _ _ _ _ _ (by omega))] at hT
        exact hT.2
       have F3 := hput _ _ (Cells.put hT kT2 mT)
       have hS3 := upd_stable hS (Cells.stable T #[.slice na (l + 1) nc,.slice ma (l + 1) mc,.pointer (some ⟨A.fg m,0,none⟩),.pointer (some ⟨A.fm m,0,none⟩)] 141) (i := (RP.lane (5 * c.Lanes.toNat)))
       have F4 := F3.drop hS3 (RP.lane (5 * c.Lanes.toNat + 1))
       have F5 := F4.drop (upd_stable hS3 Emp.stable) (RP.lane (5 * c.Lanes.toNat + 2))
       have REL := Lib.hid (show Fresh w1 (stg b ⟨fnu A.lp (m * c.Lanes.toNat + l) x,fnu A.iv m (.slice na (l + 1) nc),fnu A.ov m (.slice ma (l + 1) mc),A.fg,A.fm⟩ c node m (some (T,l + 1))) ((v5.setCell ⟨T,0,none⟩ (.slice na (l + 1) nc)).setCell ⟨T,1,none⟩ (.slice ma (l + 1) mc)) from by
        rw [← stg_step b A c node m l T x _ _ hlt hllN]
        refine Eq.mp (congrArg (fun X => Fresh w1 X _) ?_) F5
        have eA : stg b A c node m (some (T,l)) (RP.lane (5 * c.Lanes.toNat + 1)) = Emp := stg_emp _ _ _ _ _ _ _ _ (by omega) (by omega)
        have eB : stg b A c node m (some (T,l)) (RP.lane (5 * c.Lanes.toNat + 2)) = Emp := stg_emp _ _ _ _ _ _ _ _ (by omega) (by omega)
        have n1 : 5 * c.Lanes.toNat + 1 ≠ m * c.Lanes.toNat + l := by omega
        have n2 : 5 * c.Lanes.toNat + 2 ≠ m * c.Lanes.toNat + l := by omega
        have n3 : m * c.Lanes.toNat + l ≠ 5 * c.Lanes.toNat + 1 := by omega
        have n4 : m * c.Lanes.toNat + l ≠ 5 * c.Lanes.toNat + 2 := by omega
        have n5 : m * c.Lanes.toNat + l ≠ 5 * c.Lanes.toNat := by omega
        have n6 : 5 * c.Lanes.toNat ≠ m * c.Lanes.toNat + l := by omega
        funext j
        by_cases h1 : j = (RP.lane (5 * c.Lanes.toNat + 1))
        ·
         subst h1
         simp [upd,eA,n1]
        by_cases h2 : j = (RP.lane (5 * c.Lanes.toNat + 2))
        ·
         subst h2
         simp [upd,eB,n2]
        by_cases h3 : j = (RP.lane (5 * c.Lanes.toNat))
        ·
         subst h3
         simp [upd]
        by_cases h4 : j = (RP.lane (m * c.Lanes.toNat + l))
        ·
         subst h4
         simp [upd,n3,n4,n5]
        by_cases h5 : j = RP.ins m
        ·
         subst h5
         simp [upd]
        by_cases h6 : j = RP.own m
        ·
         subst h6
         simp [upd]
        simp only [upd,if_neg h1,if_neg h2,if_neg h3,if_neg h4,if_neg h5,if_neg h6])
       clear F3 F4 F5 F hput kT2 mT hS3 hS kTT d3
       go_wp2
       go_roundw
       case rel => exact ⟨l + 1,_,by omega,by go_num,REL.out⟩
       case measure => simp [intOf]; omega
     ·
      intro K hK
      go_simp
      have F := F.add hS (RP.lane (5 * c.Lanes.toNat + 2)) _ (by (try simp only [upd,RP.lane.injEq,reduceCtorEq,if_false]); (repeat rw [if_neg (by omega)]); exact stg_emp _ _ _ _ _ _ _ _ (by omega) (by omega)) (made_cells w6 #[.int .i64 (-1)] 3)
      have hS := upd_stable hS (Cells.stable w6.heap.size #[.int .i64 (-1)] 3) (i := (RP.lane (5 * c.Lanes.toNat + 2)))
      have F := F.later hS ((Mod.refl (fun _ => False) _).drew)
      generalize w6.heap.size = cB at F hS ⊢
      generalize (w6.alloc (.cells #[.int .i64 (-1)] 3)).drew = v1 at F ⊢
      have kTT : Blk v1 T (sideV A m).toArray 141 := F.get hS (RP.lane (5 * c.Lanes.toNat)) (by simp only [upd,RP.lane.injEq,reduceCtorEq,if_false]; (repeat rw [if_neg (by omega)]); exact stg_T _ _ _ _ _ _ _ (by omega))
      have d3 := HC3.out _ F.mod
      refine hK.out _ _ ?_ (fun hHeld' => ?_)
      ·
       exact ⟨(kTT.cell 0).trans rfl,(kTT.cell 1).trans rfl,d3⟩
      clear hK K hHeld
      try simp only [Act.put,lyA,lyB,lyC]
      refine takeT_one 4 rfl (by kernel_rfl) (by rfl) ?_
      intro K hK
      go_simp
      refine (HLN.out _).mono ?_
      rintro e v2 ⟨x,rfl,hM⟩
      have F := F.add hS (RP.lane (m * c.Lanes.toNat + l)) _ (by (try simp only [upd,RP.lane.injEq,reduceCtorEq,if_false]); (repeat rw [if_neg (by omega)]); exact stg_emp _ _ _ _ _ _ _ _ (by omega) (by omega)) hM
      have hS := upd_stable hS (LaneAt.stable x c.Depth.toNat LaneS.new) (i := (RP.lane (m * c.Lanes.toNat + l)))
      clear hM
      have kTT : Blk v2 T (sideV A m).toArray 141 := F.get hS (RP.lane (5 * c.Lanes.toNat)) (by simp only [upd,RP.lane.injEq,reduceCtorEq,if_false]; (repeat rw [if_neg (by omega)]); exact stg_T _ _ _ _ _ _ _ (by omega))
      have d3 := HC3.out _ F.mod
      refine hK.out _ _ ?_ (fun hHeld'' => ?_)
      ·
       exact ⟨(kTT.cell 0).trans rfl,(kTT.cell 1).trans rfl,d3⟩
      clear hK K hHeld'
      try simp only [Act.put,lyA,lyB,lyC]
      refine takeT_one 5 rfl (by kernel_rfl) (by rfl) ?_
      intro K hK
      go_simp
      have F := F.add hS (RP.lane (5 * c.Lanes.toNat + 1)) _ (by (try simp only [upd,RP.lane.injEq,reduceCtorEq,if_false]); (repeat rw [if_neg (by omega)]); exact stg_emp _ _ _ _ _ _ _ _ (by omega) (by omega)) (made_cells v2 #[.pointer (some ⟨x,0,none⟩)] 129)
      have hS := upd_stable hS (Cells.stable v2.heap.size #[.pointer (some ⟨x,0,none⟩)] 129) (i := (RP.lane (5 * c.Lanes.toNat + 1)))
      generalize v2.heap.size = cA at F hS ⊢
      generalize (v2.alloc (.cells #[.pointer (some ⟨x,0,none⟩)] 129)) = v3 at F ⊢
      have kTT : Blk v3 T (sideV A m).toArray 141 := F.get hS (RP.lane (5 * c.Lanes.toNat)) (by simp only [upd,RP.lane.injEq,reduceCtorEq,if_false]; (repeat rw [if_neg (by omega)]); exact stg_T _ _ _ _ _ _ _ (by omega))
      have d3 := HC3.out _ F.mod
      refine hK.out _ _ ?_ (fun hHeld''' => ?_)
      ·
       exact ⟨(kTT.cell 0).trans rfl,(kTT.cell 1).trans rfl,d3⟩
      clear hK K hHeld''
      try simp only [Act.put,lyA,lyB,lyC]
      refine takeT_one 6 rfl (by kernel_rfl) (by rfl) ?_
      intro K hK
      obtain ⟨oq,hq,hput⟩ := F.open hS (RP.ins m)
      have hq : Que encL 1 129 (A.iv m) (lanesV A c.Lanes.toNat m l) v3 oq := by simpa [upd,stg_ins] using hq
      have kq : Blk v3 cA #[.pointer (some ⟨x,0,none⟩)] 129 := F.get hS (RP.lane (5 * c.Lanes.toNat + 1)) (by have n1 : 5 * c.Lanes.toNat + 1 ≠ m * c.Lanes.toNat + l := (by omega); simp [upd,n1])
      obtain ⟨na,nc,v4,happ,tq⟩ := Que.append (enc := encL) (sz := 1) (P := Tryz.prog) (tS := 138) (ty := 138) (x := x) (fun _ => rfl) encL_one Tryz.underlying138 info_PL rfl (by decide) (by decide) hq kq rfl (by simp [lanesV]; omega)
      rw [show (lanesV A c.Lanes.toNat m l).length = l by simp [lanesV]] at happ tq
      have F := hput _ _ tq
      have hS := upd_stable hS (Que.stable (enc := encL) (sz := 1) (T := 129) (.slice na (l + 1) nc) (lanesV A c.Lanes.toNat m l ++ [x])) (i := RP.ins m)
      clear hput hq kq
      rw [if_pos (by rfl)]
      refine wp_appendR _ _ _ rfl rfl rfl happ ?_
      clear happ tq
      try simp only [Act.put,lyA,lyB,lyC]
      have kTT : Blk v4 T (sideV A m).toArray 141 := F.get hS (RP.lane (5 * c.Lanes.toNat)) (by simp only [upd,RP.lane.injEq,reduceCtorEq,if_false]; (repeat rw [if_neg (by omega)]); exact stg_T _ _ _ _ _ _ _ (by omega))
      have d3 := HC3.out _ F.mod
      refine hK.out _ _ ?_ (fun hHeld'''' => ?_)
      ·
       exact ⟨(kTT.cell 0).trans rfl,(kTT.cell 1).trans rfl,d3⟩
      clear hK K hHeld'''
      try simp only [Act.put,lyA,lyB,lyC]
      refine takeT_run 11 (v := ?_) rfl (by kernel_rfl) (by kernel_rfl) (by kernel_rfl) (fun _ _ _ h => h) (by rfl) ?_ (by assumption) ?_
      rotate_left
      ·
       (intro wx hSw; (try dsimp only at hSw); go_simp; try with_reducible rfl)
      try simp only [Act.put,lyA,lyB,lyC]
      refine takeT_one 10 rfl (by kernel_rfl) (by rfl) ?_
      intro K hK
      obtain ⟨oq,hq,hput⟩ := F.open hS (RP.own m)
      have hq : Que encI 1 3 (A.ov m) (List.replicate l (-1)) v4 oq := by simpa [upd,stg_own] using hq
      have kq : Blk v4 cB #[.int .i64 (-1)] 3 := F.get hS (RP.lane (5 * c.Lanes.toNat + 2)) (by have n2 : 5 * c.Lanes.toNat + 2 ≠ m * c.Lanes.toNat + l := (by omega); simp [upd,n2])
      obtain ⟨ma,mc,v5,happ,tq⟩ := Que.append (enc := encI) (sz := 1) (P := Tryz.prog) (tS := 44) (ty := 44) (x := (-1 : Int)) (fun _ => rfl) encI_one Tryz.underlying44 info_int' rfl (by decide) (by decide) hq kq rfl (by simp; omega)
      rw [show (List.replicate l (-1 : Int)).length = l by simp] at happ tq
      have F := hput _ _ tq
      have hS := upd_stable hS (Que.stable (enc := encI) (sz := 1) (T := 3) (.slice ma (l + 1) mc) (List.replicate l (-1) ++ [-1])) (i := RP.own m)
      clear hput hq kq
      rw [if_pos (by rfl)]
      refine wp_appendR _ _ _ rfl rfl rfl happ ?_
      clear happ tq
      try simp only [Act.put,lyA,lyB,lyC]
      have kTT : Blk v5 T (sideV A m).toArray 141 := F.get hS (RP.lane (5 * c.Lanes.toNat)) (by simp only [upd,RP.lane.injEq,reduceCtorEq,if_false]; (repeat rw [if_neg (by omega)]); exact stg_T _ _ _ _ _ _ _ (by omega))
      have d3 := HC3.out _ F.mod
      refine hK.out _ _ ?_ (fun hHeld''''' => ?_)
      ·
       exact ⟨(kTT.cell 0).trans rfl,(kTT.cell 1).trans rfl,d3⟩
      clear hK K hHeld''''
      try simp only [Act.put,lyA,lyB,lyC]
      refine walkT_tail 12 rfl rfl (by kernel_rfl) rfl ?_
      simp only [List.drop_succ_cons,List.drop_zero]
      have z0 := kTT.fz 0
      have z1 := kTT.fz 1
      have p0 := kTT.cell 0
      have p1 := kTT.cell 1
      simp [sideV] at p0 p1
      have kT2 := (kTT.set 0 (.slice na (l + 1) nc)).set 1 (.slice ma (l + 1) mc)
      have mT := ((Mod.refl (fun g => g = T) v5).setCell (p := ⟨T,0,none⟩) (Or.inl rfl) (.slice na (l + 1) nc)).setCell (p := ⟨T,1,none⟩) (Or.inl rfl) (.slice ma (l + 1) mc)
      simp [sideV] at kT2
      obtain ⟨oT,hT,hput⟩ := F.open hS (RP.lane (5 * c.Lanes.toNat))
      have hT : ∀ g,oT g ↔ g = T := by
       rw [show upd _ _ _ (RP.lane (5 * c.Lanes.toNat)) = Cells T (sideV A m).toArray 141 by (simp only [upd,RP.lane.injEq,reduceCtorEq,if_false]; (repeat rw [if_neg (by omega)]); exact stg_T _ _ _ _ _ _ _ (by omega))] at hT
       exact hT.2
      have F3 := hput _ _ (Cells.put hT kT2 mT)
      have hS3 := upd_stable hS (Cells.stable T #[.slice na (l + 1) nc,.slice ma (l + 1) mc,.pointer (some ⟨A.fg m,0,none⟩),.pointer (some ⟨A.fm m,0,none⟩)] 141) (i := (RP.lane (5 * c.Lanes.toNat)))
      have F4 := F3.drop hS3 (RP.lane (5 * c.Lanes.toNat + 1))
      have F5 := F4.drop (upd_stable hS3 Emp.stable) (RP.lane (5 * c.Lanes.toNat + 2))
      have REL := Lib.hid (show Fresh w1 (stg b ⟨fnu A.lp (m * c.Lanes.toNat + l) x,fnu A.iv m (.slice na (l + 1) nc),fnu A.ov m (.slice ma (l + 1) mc),A.fg,A.fm⟩ c node m (some (T,l + 1))) ((v5.setCell ⟨T,0,none⟩ (.slice na (l + 1) nc)).setCell ⟨T,1,none⟩ (.slice ma (l + 1) mc)) from by
       rw [← stg_step b A c node m l T x _ _ hlt hllN]
       refine Eq.mp (congrArg (fun X => Fresh w1 X _) ?_) F5
       have eA : stg b A c node m (some (T,l)) (RP.lane (5 * c.Lanes.toNat + 1)) = Emp := stg_emp _ _ _ _ _ _ _ _ (by omega) (by omega)
       have eB : stg b A c node m (some (T,l)) (RP.lane (5 * c.Lanes.toNat + 2)) = Emp := stg_emp _ _ _ _ _ _ _ _ (by omega) (by omega)
       have n1 : 5 * c.Lanes.toNat + 1 ≠ m * c.Lanes.toNat + l := by omega
       have n2 : 5 * c.Lanes.toNat + 2 ≠ m * c.Lanes.toNat + l := by omega
       have n3 : m * c.Lanes.toNat + l ≠ 5 * c.Lanes.toNat + 1 := by omega
       have n4 : m * c.Lanes.toNat + l ≠ 5 * c.Lanes.toNat + 2 := by omega
       have n5 : m * c.Lanes.toNat + l ≠ 5 * c.Lanes.toNat := by omega
       have n6 : 5 * c.Lanes.toNat ≠ m * c.Lanes.toNat + l := by omega
       funext j
       by_cases h1 : j = (RP.lane (5 * c.Lanes.toNat + 1))
       ·
        subst h1
        simp [upd,eA,n1]
       by_cases h2 : j = (RP.lane (5 * c.Lanes.toNat + 2))
       ·
        subst h2
        simp [upd,eB,n2]
       by_cases h3 : j = (RP.lane (5 * c.Lanes.toNat))
       ·
        subst h3
        simp [upd]
       by_cases h4 : j = (RP.lane (m * c.Lanes.toNat + l))
       ·
        subst h4
        simp [upd,n3,n4,n5]
       by_cases h5 : j = RP.ins m
       ·
        subst h5
        simp [upd]
       by_cases h6 : j = RP.own m
       ·
        subst h6
        simp [upd]
       simp only [upd,if_neg h1,if_neg h2,if_neg h3,if_neg h4,if_neg h5,if_neg h6])
      clear F3 F4 F5 F hput kT2 mT hS3 hS kTT d3
      go_wp2
      go_roundw
      case rel => exact ⟨l + 1,_,by omega,by go_num,REL.out⟩
      case measure => simp [intOf]; omega
    ·
     have hlL : l = c.Lanes.toNat := by omega
     have hS := stg_stable b A c node m (some (T,l))
     obtain ⟨w7,hw7⟩ : ∃ w7,w7 = w6 := ⟨_,rfl⟩
     have hml : m * c.Lanes.toNat + l ≤ 5 * c.Lanes.toNat := by
      have h2 : (m + 1) * c.Lanes.toNat ≤ 5 * c.Lanes.toNat := Nat.mul_le_mul_right _ hlt
      rw [Nat.succ_mul] at h2
      omega
     have kT := F.get hS (.lane (5 * c.Lanes.toNat)) (stg_T b A c node m l T hml)
     have kR := F.get hS .blk (show stg b A c node m (some (T,l)) .blk = Cells b (routerK A c node m) 144 from rfl)
     have t0 := kT.cell 0
     have t1 := kT.cell 1
     have t2 := kT.cell 2
     have t3 := kT.cell 3
     simp [sideV] at t0 t1 t2 t3
     have i0 : (0 : Int) ≤ (m : Int) := by omega
     have i1 : (m : Int) < 5 := by omega
     obtain ⟨oq1,hq1,-⟩ := F.open hS (.ins m)
     rw [stg_ins] at hq1
     obtain ⟨a1,cc1,hv1,-,-⟩ := Que.form hq1
     obtain ⟨oq2,hq2,-⟩ := F.open hS (.own m)
     rw [stg_own] at hq2
     obtain ⟨a2,cc2,hv2,-,-⟩ := Que.form hq2
     have hl1 : (lanesV A c.Lanes.toNat m l).length = c.Lanes.toNat := by simp [lanesV]; omega
     have hl2 : (List.replicate l (-1 : Int)).length = c.Lanes.toNat := by simp; omega
     rw [hl1] at hv1
     rw [hl2] at hv2
     rw [hv1] at t0
     rw [hv2] at t1
     clear hl1 hl2
     have hrc : ∀ j,j < 4→∃ v,w6.cell? ⟨b,10 + m * 4 + j,none⟩ = some v := fun j hj => ⟨_,(kR.cell _).trans (Array.getElem?_eq_getElem (by rw [routerK_size]; omega))⟩
     obtain ⟨r0,y0⟩ := hrc 0 (by omega)
     obtain ⟨r1,y1⟩ := hrc 1 (by omega)
     obtain ⟨r2,y2⟩ := hrc 2 (by omega)
     obtain ⟨r3,y3⟩ := hrc 3 (by omega)
     have z0 := kR.fz (10 + m * 4)
     have z1 := kR.fz (10 + m * 4 + 1)
     have z2 := kR.fz (10 + m * 4 + 2)
     have z3 := kR.fz (10 + m * 4 + 3)
     simp only [Nat.add_zero] at y0
     have kR2 := (((kR.set (10 + m * 4) (A.iv m)).set (10 + m * 4 + 1) (A.ov m)).set (10 + m * 4 + 2) (.pointer (some ⟨A.fg m,0,none⟩))).set (10 + m * 4 + 3) (.pointer (some ⟨A.fm m,0,none⟩))
     have mR := ((((Mod.refl (fun g => g = b) w6).setCell (p := ⟨b,10 + m * 4,none⟩) (Or.inl rfl) (A.iv m)).setCell (p := ⟨b,10 + m * 4 + 1,none⟩) (Or.inl rfl) (A.ov m)).setCell (p := ⟨b,10 + m * 4 + 2,none⟩) (Or.inl rfl) (.pointer (some ⟨A.fg m,0,none⟩))).setCell (p := ⟨b,10 + m * 4 + 3,none⟩) (Or.inl rfl) (.pointer (some ⟨A.fm m,0,none⟩))
     rw [routerK_set A c node m hlt] at kR2
     have F1 := F.drop hS (.lane (5 * c.Lanes.toNat))
     have hS1 := upd_stable hS Emp.stable (i := RP.lane (5 * c.Lanes.toNat))
     obtain ⟨oR,hR,hput⟩ := F1.open hS1 .blk
     have hR : ∀ g,oR g ↔ g = b := hR.2
     have F2 := hput _ _ (Cells.put hR kR2 mR)
     rw [hlL,stg_end b A c node m T hlt,hv1,hv2] at F2
     have F3 := Lib.hid (F2.later (stg_stable b A c node (m + 1) none) ((Mod.refl (fun _ => False) _).drew))
     clear F F1 F2 hput kR2 mR hq1 hq2 hrc kR kT
     go_upto_region 12 with fail
     go_still_tail 6,(by kernel_rfl)
     change wpList _ _ _ _ _ w6.drew
     go_wp2
     go_roundw
     case rel => exact ⟨m + 1,A,by omega,by go_num,F3.out⟩
     case measure => simp [intOf]; omega
  ·
   have hm5 : m = 5 := by omega
   subst hm5
   rw [stg_all] at F
   have FIN := Lib.hid (show Made (RouterAt b c node ⟨List.replicate (5 * c.Lanes.toNat) LaneS.new,List.replicate (5 * c.Lanes.toNat) (-1),List.replicate 5 (-1),List.replicate 5 (-1)⟩) w w4 from by
    obtain ⟨o,hF,hlo,M⟩ := F
    exact ⟨o,⟨A,hF⟩,m1.trans M (fun _ _ e => e),fun g hg => by have := hlo g hg; omega⟩)
   clear F
   go_wp2
   go_ret
   exact ⟨b,rfl,FIN.out⟩
end Go.Proofs.YtfiklfkfbcpmgaaGreat
