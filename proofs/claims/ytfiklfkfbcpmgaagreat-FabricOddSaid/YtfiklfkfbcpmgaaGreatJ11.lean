/- Parts: RouterK. No condition. -/
import Derived.Test.YtfiklfkfbcpmgaaGreatJ10
set_option linter.all false
set_option maxRecDepth 100000
set_option maxHeartbeats 3200000
namespace Go.Proofs.YtfiklfkfbcpmgaaGreat
open Go.RowKit
theorem pl_div {c : Cfg} {p l : Nat} (hl : (l : Int) < c.Lanes) : (((p * c.Lanes.toNat + l : Nat)) : Int) % c.Lanes = (l : Int)∧(((p * c.Lanes.toNat + l : Nat)) : Int) / c.Lanes = (p : Int)∧(((p * c.Lanes.toNat + l : Nat)) : Int) = p * c.Lanes + l := by
 obtain ⟨L,hL⟩ := Int.eq_ofNat_of_zero_le (show 0 ≤ c.Lanes by omega)
 rw [hL] at hl ⊢
 have hl2 : l < L := by omega
 rw [show ((L : Int)).toNat = L from rfl]
 refine ⟨?_,?_,by push_cast; rfl⟩
 ·
  rw [show ((p * L + l : Nat) : Int) % (L : Int) = (((p * L + l) % L : Nat) : Int) by push_cast; rfl,Nat.add_comm,Nat.add_mul_mod_self_right,Nat.mod_eq_of_lt hl2]
 ·
  rw [show ((p * L + l : Nat) : Int) / (L : Int) = (((p * L + l) / L : Nat) : Int) by push_cast; rfl,Nat.add_comm,Nat.add_mul_div_right _ _ (by omega),Nat.div_eq_of_lt hl2,Nat.zero_add]
theorem router_give_no (b : Nat) (c : Cfg) (node : Int) (p l : Nat) (s : RouterS) (own : Nat→Prop) (w : World) (h : RouterAt b c node s w own) (hs : RouterOk c s) (hc : c.Ok) (hp : p < 5) (hl : (l : Int) < c.Lanes)
  (hph : (s.lanes.getD (p * c.Lanes.toNat + l) LaneS.new).phase ≠ 1) :
  Calls Tryz.prog 98 #[.pointer (some ⟨b,0,none⟩),.int .i64 (p : Int),.int .i64 (l : Int)] w fun e w' => e = .returned (.bool false)∧w' = w := by
 obtain ⟨A,hF⟩ := h
 have HI := Lib.hid (router_in b A c node p l s own w hF hp hl hc.L2)
 obtain ⟨ol,hL,-,-⟩ := router_lane hF (lane_index hp (L := c.Lanes.toNat) (l := l) (by omega)) hs.ll
 have HP := Lib.hid (lane_phase _ _ _ _ _ hL)
 generalize s.lanes.getD (p * c.Lanes.toNat + l) LaneS.new = y at HP hph ⊢
 generalize p * c.Lanes.toNat + l = k at HI HP ⊢
 have q1 : (y.phase != 1) = true := by rw [bne_iff_ne]; exact hph
 clear hF hL hph hs
 go_enter Tryz.func98,Tryz.ntmps98
 go_wp2_with fail
 refine HI.out.mono ?_
 rintro e w1 ⟨rfl,rfl⟩
 go_wp2_with fail
 refine HP.out.mono ?_
 rintro e w1 ⟨rfl,rfl⟩
 go_wp2
 go_ret
 exact ⟨rfl,rfl⟩
theorem seeR_bd {places last : Int} {ans : Nat→Bool} (p1 : 1 ≤ places) {v : Int} (h : seeR places last ans = some v) : 0 ≤ v∧v < places := by
 unfold seeR at h
 cases hf : firstI places ans with
 | none => simp [hf] at h
 | some k =>
  simp [hf] at h
  subst h
  exact ⟨Int.emod_nonneg _ (by omega),Int.emod_lt_of_pos _ (by omega)⟩
theorem RouterOk.gives {c : Cfg} {s : RouterS} (h : RouterOk c s) (q : Nat) {j : Int} (hj : -1 ≤ j∧j < c.Lanes) : RouterOk c ⟨s.lanes,s.owners,s.gives.set q j,s.moves⟩ :=
 ⟨h.ll,h.ol,by simpa using h.gl,h.ml,h.lane,mem_set h.give hj,h.move⟩
theorem RouterOk.owners {c : Cfg} {s : RouterS} (h : RouterOk c s) (q : Nat) (x : Int) : RouterOk c ⟨s.lanes,s.owners.set q x,s.gives,s.moves⟩ :=
 ⟨h.ll,by simpa using h.ol,h.gl,h.ml,h.lane,h.give,h.move⟩
theorem gave_eq {c : Cfg} {s : RouterS} {k q jn : Nat} (hq : (s.lanes.getD k LaneS.new).port = (q : Int)) (hL : 0 ≤ c.Lanes) : s.gave c k (jn : Int) = (⟨s.lanes,s.owners.set (q * c.Lanes.toNat + jn) (k : Int),s.gives.set q (jn : Int),s.moves⟩ : RouterS).setLane k ⟨(s.lanes.getD k LaneS.new).q,2,(s.lanes.getD k LaneS.new).port,(jn : Int),(s.lanes.getD k LaneS.new).copies⟩ := by
 obtain ⟨L,hL⟩ := Int.eq_ofNat_of_zero_le hL
 unfold RouterS.gave RouterS.setLane
 simp only [hq,hL]
 have e : ((q : Int) * (L : Int) + (jn : Int)).toNat = q * L + jn := by
  have : (q : Int) * (L : Int) = ((q * L : Nat) : Int) := by push_cast; rfl
  rw [this]
  omega
 rw [e]
 rfl
theorem router_cfgC {w : World} {b : Nat} {A : RAddr} {c : Cfg} {node : Int} {x : Bool} (hx : c.Cast = x) (h : Blk w b (routerCells A c node) 144) :
  w.cell? ⟨b,0,none⟩ = some (.int .i64 c.W)∧w.cell? ⟨b,1,none⟩ = some (.int .i64 c.H)∧w.cell? ⟨b,2,none⟩ = some (.int .i64 c.Lanes)∧w.cell? ⟨b,3,none⟩ = some (.int .i64 c.Depth)∧w.cell? ⟨b,4,none⟩ = some (.int .i64 c.Ring)∧w.cell? ⟨b,5,none⟩ = some (.int .i64 c.Inbox)∧w.cell? ⟨b,6,none⟩ = some (.int .i64 c.Bound)∧w.cell? ⟨b,7,none⟩ = some (.bool c.West)∧w.cell? ⟨b,8,none⟩ = some (.bool x) := by
 rw [← hx]
 exact router_cfg h
theorem router_give_at (b : Nat) (c : Cfg) (node : Int) (p l q : Nat) (s : RouterS) (own : Nat→Prop) (w : World) (h : RouterAt b c node s w own) (hs : RouterOk c s) (hc : c.Ok) (hp : p < 5) (hl : (l : Int) < c.Lanes)
  (hph : (s.lanes.getD (p * c.Lanes.toNat + l) LaneS.new).phase = 1) (hq : (s.lanes.getD (p * c.Lanes.toNat + l) LaneS.new).port = (q : Int)) (hq5 : q < 5) :
  Calls Tryz.prog 98 #[.pointer (some ⟨b,0,none⟩),.int .i64 (p : Int),.int .i64 (l : Int)] w fun e w' => e = .returned (.bool (s.give c (p * c.Lanes.toNat + l)).2)∧Turn own (RouterAt b c node (s.give c (p * c.Lanes.toNat + l)).1) w w' := by
 obtain ⟨A,hF⟩ := h
 have HI := Lib.hid (router_in b A c node p l s own w hF hp hl hc.L2)
 have hkl := lane_index hp (L := c.Lanes.toNat) (l := l) (by omega)
 obtain ⟨k,hk⟩ : ∃ k,p * c.Lanes.toNat + l = k := ⟨_,rfl⟩
 have hkm := (pl_div (p := p) hl).1
 have hki := (pl_div (p := p) hl).2.2
 rw [hk] at hkl hph hq HI hkm hki ⊢
 obtain ⟨ol,hL,-,-⟩ := router_lane hF hkl hs.ll
 have HP := Lib.hid (lane_phase _ _ _ _ _ hL)
 have HQ := Lib.hid (fun w1 (m : Mod (fun _ => False) w w1) => lane_port _ _ _ _ w1 ((LaneAt.stable _ _ _).later hL m (by simp)))
 rw [hph] at HP
 rw [hq] at HQ
 obtain ⟨ob,⟨kb,-⟩,-⟩ := hF.at (routerX_stable b A c node s) .blk
 have q1 : ((1 : Int) != 1) = false := rfl
 have q2 : (0 : Int) ≤ (q : Int) := by omega
 have q3 : (q : Int) < 5 := by omega
 have q4 : ¬ (q : Int) < 0 := by omega
 clear hL
 go_enter Tryz.func98,Tryz.ntmps98
 go_wp2_with fail
 refine HI.out.mono ?_
 rintro e w1 ⟨rfl,rfl⟩
 go_wp2_with fail
 refine HP.out.mono ?_
 rintro e w1 ⟨rfl,rfl⟩
 go_upto_region 4 with fail
 go_cut [8] (fun z w' => ∃ Z,z = .pointer (some ⟨Z,0,none⟩)∧Blk w' Z #[.pointer (some ⟨b,10 + q * 4,none⟩)] 200∧Mod (fun _ => False) w1 w'∧w1.heap.size ≤ Z)
 case first =>
  go_region_held3 (fun w' => True)
   (trivial)
   ((first | (go_at_call 137; refine (HQ.out _ (by first | exact (Mod.refl _ _).drew | exact ((Mod.refl _ _).drew).alloc _ | exact ((Mod.refl _ _).alloc _).drew)).mono ?_; rintro e w9 ⟨rfl,rfl⟩)))
  all_goals go_wp2_with fail
  all_goals go_meet
  all_goals exact ⟨_,rfl,(Blk.made _ _ _).drew,((Mod.refl _ _).alloc _).drew,Nat.le_refl _⟩
 case rest =>
 obtain ⟨Z,rfl,kZ,m2,hZ⟩ := hcut
 obtain ⟨w2,rfl⟩ : ∃ wo : World,wo = wc := ⟨_,rfl⟩
 have k2 := kb.later m2 (by simp)
 have hF2 := (Fam.stable (routerX_stable b A c node s)).later hF m2 (by simp)
 have hZs := m2.size
 have hF0 := hF
 clear HI HP HQ kb hF
 obtain ⟨c0,c1,c2,c3,c4,c5,c6,c7,c8⟩ := router_cfg k2
 have hblt := k2.lt
 obtain ⟨bb,hbb⟩ : ∃ bb,(c.Cast && decide ((k : Int) % c.Lanes = c.Lanes - 1)) = bb := ⟨_,rfl⟩
 have HC := Lib.hid (fun w => run_Class c bb w)
 obtain ⟨cl,hcl⟩ : ∃ cl,c.cls bb = cl := ⟨_,rfl⟩
 rw [hcl] at HC
 simp only [Cfg.cells] at HC
 have hL1 := hc.L1
 have hL2 := hc.L2
 have HB := Lib.hid (show bb = (c.Cast && decide ((l : Int) = c.Lanes - 1)) by rw [← hbb,hkm])
 have HCL := Lib.hid hcl
 have HBB := Lib.hid hbb
 have HKI := Lib.hid hki
 clear hcl hbb hkm hki hk
 have hsub : IntKind.i64.wrap (c.Lanes - 1) = c.Lanes - 1 := IntWalk.i64_in _ (by omega)
 go_upto_region 5 with fail
 go_cut [9,10] (fun x y w' => ∃ X Y,x = .pointer (some ⟨X,0,none⟩)∧y = .pointer (some ⟨Y,0,none⟩)∧Blk w' X #[.int .i64 cl.1] 3∧Blk w' Y #[.int .i64 cl.2] 3∧Mod (fun _ => False) w2 w')
 case first =>
  cases hca : c.Cast with
  | true =>
   rw [hca] at c8 HB HC
   obtain ⟨bl,q5⟩ : ∃ bl,((l : Int) == c.Lanes - 1) = bl := ⟨_,rfl⟩
   have hbl : bb = bl := by rw [HB.out,← q5]; simp; rfl
   rw [hbl] at HC
   clear HB hbl
   refine wp_region_held_drew (S := fun w' => w'.cell? ⟨b,0,none⟩ = some (.int .i64 c.W)∧w'.cell? ⟨b,1,none⟩ = some (.int .i64 c.H)∧w'.cell? ⟨b,2,none⟩ = some (.int .i64 c.Lanes)∧w'.cell? ⟨b,3,none⟩ = some (.int .i64 c.Depth)∧w'.cell? ⟨b,4,none⟩ = some (.int .i64 c.Ring)∧w'.cell? ⟨b,5,none⟩ = some (.int .i64 c.Inbox)∧w'.cell? ⟨b,6,none⟩ = some (.int .i64 c.Bound)∧w'.cell? ⟨b,7,none⟩ = some (.bool c.West)∧w'.cell? ⟨b,8,none⟩ = some (.bool true)) (by kernel_rfl) ?_ (fun hHeld => ?_)
   ·
    exact router_cfgC hca k2
   refine take_run 0 (v := ?_) rfl (by kernel_rfl) (by kernel_rfl) (by kernel_rfl) (fun _ _ _ h => h) (by rfl) ?_ (by assumption) ?_
   rotate_left
   ·
    (intro wx hSw; (try dsimp only at hSw); go_simp; try with_reducible rfl)
   try simp only [Act.put,lyA,lyB,lyC]
   refine take_run 1 (v := ?_) rfl (by kernel_rfl) (by kernel_rfl) (by kernel_rfl) (fun _ _ _ h => h) (by rfl) ?_ (by assumption) ?_
   rotate_left
   ·
    (intro wx hSw; (try dsimp only at hSw); go_simp; try with_reducible rfl)
   try simp only [Act.put,lyA,lyB,lyC]
   refine take_run 2 (v := ?_) rfl (by kernel_rfl) (by kernel_rfl) (by kernel_rfl) (fun _ _ _ h => h) (by rfl) ?_ (by assumption) ?_
   rotate_left
   ·
    (intro wx hSw; (try dsimp only at hSw); go_simp; try with_reducible rfl)
   try simp only [Act.put,lyA,lyB,lyC]
   refine take_run 3 (v := ?_) rfl (by kernel_rfl) (by kernel_rfl) (by kernel_rfl) (fun _ _ _ h => h) (by rfl) ?_ (by assumption) ?_
   rotate_left
   ·
    (intro wx hSw; (try dsimp only at hSw); go_simp; try with_reducible rfl)
   try simp only [Act.put,lyA,lyB,lyC]
   refine take_run 4 (v := ?_) rfl (by kernel_rfl) (by kernel_rfl) (by kernel_rfl) (fun _ _ _ h => h) (by rfl) ?_ (by assumption) ?_
   rotate_left
   ·
    (intro wx hSw; (try dsimp only at hSw); go_simp; try with_reducible rfl)
   try simp only [Act.put,lyA,lyB,lyC]
   refine take_run 5 (v := ?_) rfl (by kernel_rfl) (by kernel_rfl) (by kernel_rfl) (fun _ _ _ h => h) (by rfl) ?_ (by assumption) ?_
   rotate_left
   ·
    (intro wx hSw; (try dsimp only at hSw); go_simp; try with_reducible rfl)
   try simp only [Act.put,lyA,lyB,lyC]
   refine take_run 6 (v := ?_) rfl (by kernel_rfl) (by kernel_rfl) (by kernel_rfl) (fun _ _ _ h => h) (by rfl) ?_ (by assumption) ?_
   rotate_left
   ·
    (intro wx hSw; (try dsimp only at hSw); go_simp; try with_reducible rfl)
   try simp only [Act.put,lyA,lyB,lyC]
   refine take_run 7 (v := ?_) rfl (by kernel_rfl) (by kernel_rfl) (by kernel_rfl) (fun _ _ _ h => h) (by rfl) ?_ (by assumption) ?_
   rotate_left
   ·
    (intro wx hSw; (try dsimp only at hSw); go_simp; try with_reducible rfl)
   try simp only [Act.put,lyA,lyB,lyC]
   refine take_run 8 (v := ?_) rfl (by kernel_rfl) (by kernel_rfl) (by kernel_rfl) (fun _ _ _ h => h) (by rfl) ?_ (by assumption) ?_
   rotate_left
   ·
    (intro wx hSw; (try dsimp only at hSw); go_simp; try with_reducible rfl)
   try simp only [Act.put,lyA,lyB,lyC]
   refine take_run 9 (v := ?_) rfl (by kernel_rfl) (by kernel_rfl) (by kernel_rfl) (fun _ _ _ h => h) (by rfl) ?_ (by assumption) ?_
   rotate_left
   ·
    (intro wx hSw; (try dsimp only at hSw); go_simp; try with_reducible rfl)
   try simp only [Act.put,lyA,lyB,lyC]
   refine take_run 10 (v := ?_) rfl (by kernel_rfl) (by kernel_rfl) (by kernel_rfl) (fun _ _ _ h => h) (by rfl) ?_ (by assumption) ?_
   rotate_left
   ·
    (intro wx hSw; (try dsimp only at hSw); go_simp; try with_reducible rfl)
   try simp only [Act.put,lyA,lyB,lyC]
   refine take_run 11 (v := ?_) rfl (by kernel_rfl) (by kernel_rfl) (by kernel_rfl) (fun _ _ _ h => h) (by rfl) ?_ (by assumption) ?_
   rotate_left
   ·
    (intro wx hSw; (try dsimp only at hSw); go_simp; try with_reducible rfl)
   try simp only [Act.put,lyA,lyB,lyC]
   refine take_run 12 (v := ?_) rfl (by kernel_rfl) (by kernel_rfl) (by kernel_rfl) (fun _ _ _ h => h) (by rfl) ?_ (by assumption) ?_
   rotate_left
   ·
    (intro wx hSw; (try dsimp only at hSw); go_simp; try with_reducible rfl)
   try simp only [Act.put,lyA,lyB,lyC]
   refine take_run 13 (v := ?_) rfl (by kernel_rfl) (by kernel_rfl) (by kernel_rfl) (fun _ _ _ h => h) (by rfl) ?_ (by assumption) ?_
   rotate_left
   ·
    (intro wx hSw; (try dsimp only at hSw); go_simp; try with_reducible rfl)
   try simp only [Act.put,lyA,lyB,lyC]
   refine take_run 14 (v := ?_) rfl (by kernel_rfl) (by kernel_rfl) (by kernel_rfl) (fun _ _ _ h => h) (by rfl) ?_ (by assumption) ?_
   rotate_left
   ·
    (intro wx hSw; (try dsimp only at hSw); go_simp; try with_reducible rfl)
   try simp only [Act.put,lyA,lyB,lyC]
   refine take_run 15 (v := ?_) rfl (by kernel_rfl) (by kernel_rfl) (by kernel_rfl) (fun _ _ _ h => h) (by rfl) ?_ (by assumption) ?_
   rotate_left
   ·
    (intro wx hSw; (try dsimp only at hSw); go_simp; try with_reducible rfl)
   try simp only [Act.put,lyA,lyB,lyC]
   refine take_run 16 (v := ?_) rfl (by kernel_rfl) (by kernel_rfl) (by kernel_rfl) (fun _ _ _ h => h) (by rfl) ?_ (by assumption) ?_
   rotate_left
   ·
    (intro wx hSw; (try dsimp only at hSw); go_simp; try with_reducible rfl)
   try simp only [Act.put,lyA,lyB,lyC]
   refine take_run 17 (v := ?_) rfl (by kernel_rfl) (by kernel_rfl) (by kernel_rfl) (fun _ _ _ h => h) (by rfl) ?_ (by assumption) ?_
   rotate_left
   ·
    (intro wx hSw; (try dsimp only at hSw); go_simp; try with_reducible rfl)
   try simp only [Act.put,lyA,lyB,lyC]
   refine take_run 18 (v := ?_) rfl (by kernel_rfl) (by kernel_rfl) (by kernel_rfl) (fun _ _ _ h => h) (by rfl) ?_ (by assumption) ?_
   rotate_left
   ·
    (intro wx hSw; (try dsimp only at hSw); go_simp; try with_reducible rfl)
   try simp only [Act.put,lyA,lyB,lyC]
   refine take_three 19 23 24 rfl rfl rfl (by kernel_rfl) ?_ ?_ ?_
   ·
    intro K hK
    go_simp
    refine (HC.out w2.drew).mono ?_
    rintro e w9 ⟨rfl,m9⟩
    have k9 := k2.drew.later m9 (by simp)
    have z9 := (Mod.refl (fun _ => False) w2).drew.trans m9 (fun _ _ e => e)
    have s9 := m9.size
    refine hK.out _ _ ?_ (fun hHeld' => ?_)
    ·
     refine router_cfgC hca (A := A) (node := node) ?_; with_reducible repeat (first | assumption | apply Blk.drew | apply Blk.alloc | (refine Blk.setOther ?_ ?_ _; rotate_left; (simp only [ne_eq]; omega)))
    clear hK K hHeld
    try simp only [Act.put,lyA,lyB,lyC]
    refine take_run 20 (v := ?_) rfl (by kernel_rfl) (by kernel_rfl) (by kernel_rfl) (fun _ _ _ h => h) (by rfl) ?_ (by assumption) ?_
    rotate_left
    ·
     (intro wx hSw; (try dsimp only at hSw); go_simp; try with_reducible rfl)
    try simp only [Act.put,lyA,lyB,lyC]
    refine take_run 21 (v := ?_) rfl (by kernel_rfl) (by kernel_rfl) (by kernel_rfl) (fun _ _ _ h => h) (by rfl) ?_ (by assumption) ?_
    rotate_left
    ·
     (intro wx hSw; (try dsimp only at hSw); go_simp; try with_reducible rfl)
    try simp only [Act.put,lyA,lyB,lyC]
    refine take_run 22 (v := ?_) rfl (by kernel_rfl) (by kernel_rfl) (by kernel_rfl) (fun _ _ _ h => h) (by rfl) ?_ (by assumption) ?_
    rotate_left
    ·
     (intro wx hSw; (try dsimp only at hSw); go_simp; try with_reducible rfl)
    try simp only [Act.put,lyA,lyB,lyC]
    refine take_two 23 24 rfl rfl (by kernel_rfl) ?_ ?_
    ·
     intro K hK
     go_simp
     refine hK.out _ _ ?_ (fun hHeld'' => ?_)
     ·
      refine router_cfgC hca (A := A) (node := node) ?_; with_reducible repeat (first | assumption | apply Blk.drew | apply Blk.alloc | (refine Blk.setOther ?_ ?_ _; rotate_left; (simp only [ne_eq]; omega)))
     clear hK K hHeld'
     try simp only [Act.put,lyA,lyB,lyC]
     refine take_one 24 rfl (by kernel_rfl) ?_
     intro K hK
     go_simp
     refine hK.out _ _ ?_ (fun hHeld''' => ?_)
     ·
      refine router_cfgC hca (A := A) (node := node) ?_; with_reducible repeat (first | assumption | apply Blk.drew | apply Blk.alloc | (refine Blk.setOther ?_ ?_ _; rotate_left; (simp only [ne_eq]; omega)))
     clear hK K hHeld''
     try simp only [Act.put,lyA,lyB,lyC]
     refine take_one 25 rfl (by kernel_rfl) ?_
     intro K hK
     go_simp
     refine hK.out _ _ ?_ (fun hHeld'''' => ?_)
     ·
      refine router_cfgC hca (A := A) (node := node) ?_; with_reducible repeat (first | assumption | apply Blk.drew | apply Blk.alloc | (refine Blk.setOther ?_ ?_ _; rotate_left; (simp only [ne_eq]; omega)))
     clear hK K hHeld'''
     try simp only [Act.put,lyA,lyB,lyC]
     refine take_one 26 rfl (by kernel_rfl) ?_
     intro K hK
     go_simp
     refine hK.out _ _ ?_ (fun hHeld''''' => ?_)
     ·
      refine router_cfgC hca (A := A) (node := node) ?_; with_reducible repeat (first | assumption | apply Blk.drew | apply Blk.alloc | (refine Blk.setOther ?_ ?_ _; rotate_left; (simp only [ne_eq]; omega)))
     clear hK K hHeld''''
     try simp only [Act.put,lyA,lyB,lyC]
     refine wpAnyH_done (by kernel_rfl) ?_ _
     go_wp2_with fail
     go_meet
     refine ⟨_,_,rfl,rfl,?_,?_,?_⟩
     all_goals with_reducible repeat (first | assumption | exact Mod.refl _ _ | exact Blk.made _ _ _ | exact Blk.made2 _ _ _ _ | exact Blk.madeS _ _ _ _ _ | apply Blk.drew | apply Blk.alloc | refine Blk.set1 (u := .int .i64 0) ?_ _ | (refine Blk.setOther ?_ ?_ _; rotate_left; (simp only [ne_eq]; omega)) | apply Mod.drew | (refine Mod.setCell ?_ ?_ _; rotate_left; (refine Or.inr ?_; simp only []; omega)) | refine Mod.alloc ?_ _)
    ·
     intro K hK
     go_simp
     refine hK.out _ _ ?_ (fun hHeld'' => ?_)
     ·
      refine router_cfgC hca (A := A) (node := node) ?_; with_reducible repeat (first | assumption | apply Blk.drew | apply Blk.alloc | (refine Blk.setOther ?_ ?_ _; rotate_left; (simp only [ne_eq]; omega)))
     clear hK K hHeld'
     try simp only [Act.put,lyA,lyB,lyC]
     refine take_one 23 rfl (by kernel_rfl) ?_
     intro K hK
     go_simp
     refine hK.out _ _ ?_ (fun hHeld''' => ?_)
     ·
      refine router_cfgC hca (A := A) (node := node) ?_; with_reducible repeat (first | assumption | apply Blk.drew | apply Blk.alloc | (refine Blk.setOther ?_ ?_ _; rotate_left; (simp only [ne_eq]; omega)))
     clear hK K hHeld''
     try simp only [Act.put,lyA,lyB,lyC]
     refine take_one 25 rfl (by kernel_rfl) ?_
     intro K hK
     go_simp
     refine hK.out _ _ ?_ (fun hHeld'''' => ?_)
     ·
      refine router_cfgC hca (A := A) (node := node) ?_; with_reducible repeat (first | assumption | apply Blk.drew | apply Blk.alloc | (refine Blk.setOther ?_ ?_ _; rotate_left; (simp only [ne_eq]; omega)))
     clear hK K hHeld'''
     try simp only [Act.put,lyA,lyB,lyC]
     refine take_one 26 rfl (by kernel_rfl) ?_
     intro K hK
     go_simp
     refine hK.out _ _ ?_ (fun hHeld''''' => ?_)
     ·
      refine router_cfgC hca (A := A) (node := node) ?_; with_reducible repeat (first | assumption | apply Blk.drew | apply Blk.alloc | (refine Blk.setOther ?_ ?_ _; rotate_left; (simp only [ne_eq]; omega)))
     clear hK K hHeld''''
     try simp only [Act.put,lyA,lyB,lyC]
     refine wpAnyH_done (by kernel_rfl) ?_ _
     go_wp2_with fail
     go_meet
     refine ⟨_,_,rfl,rfl,?_,?_,?_⟩
     all_goals with_reducible repeat (first | assumption | exact Mod.refl _ _ | exact Blk.made _ _ _ | exact Blk.made2 _ _ _ _ | exact Blk.madeS _ _ _ _ _ | apply Blk.drew | apply Blk.alloc | refine Blk.set1 (u := .int .i64 0) ?_ _ | (refine Blk.setOther ?_ ?_ _; rotate_left; (simp only [ne_eq]; omega)) | apply Mod.drew | (refine Mod.setCell ?_ ?_ _; rotate_left; (refine Or.inr ?_; simp only []; omega)) | refine Mod.alloc ?_ _)
   ·
    intro K hK
    go_simp
    refine hK.out _ _ ?_ (fun hHeld' => ?_)
    ·
     refine router_cfgC hca (A := A) (node := node) ?_; with_reducible repeat (first | assumption | apply Blk.drew | apply Blk.alloc | (refine Blk.setOther ?_ ?_ _; rotate_left; (simp only [ne_eq]; omega)))
    clear hK K hHeld
    try simp only [Act.put,lyA,lyB,lyC]
    refine take_two 19 24 rfl rfl (by kernel_rfl) ?_ ?_
    ·
     intro K hK
     go_simp
     refine (HC.out (w2.alloc (.cells #[.int .i64 0] 3)).drew).mono ?_
     rintro e w9 ⟨rfl,m9⟩
     have k9 := (k2.alloc (.cells #[.int .i64 0] 3)).drew.later m9 (by simp)
     have z9 := ((Mod.refl (fun _ => False) w2).alloc (.cells #[.int .i64 0] 3)).drew.trans m9 (fun _ _ e => e)
     have s9 := m9.size
     have kx9 := (Blk.made w2 #[.int .i64 0] 3).drew.later m9 (by simp)
     have x9 := kx9.cell 0
     have f9 := kx9.fz 0
     have l9 := kx9.lt
     simp at x9
     refine hK.out _ _ ?_ (fun hHeld'' => ?_)
     ·
      refine router_cfgC hca (A := A) (node := node) ?_; with_reducible repeat (first | assumption | apply Blk.drew | apply Blk.alloc | (refine Blk.setOther ?_ ?_ _; rotate_left; (simp only [ne_eq]; omega)))
     clear hK K hHeld'
     try simp only [Act.put,lyA,lyB,lyC]
     refine take_run 20 (v := ?_) rfl (by kernel_rfl) (by kernel_rfl) (by kernel_rfl) (fun _ _ _ h => h) (by rfl) ?_ (by assumption) ?_
     rotate_left
     ·
      (intro wx hSw; (try dsimp only at hSw); go_simp; try with_reducible rfl)
     try simp only [Act.put,lyA,lyB,lyC]
     refine take_run 21 (v := ?_) rfl (by kernel_rfl) (by kernel_rfl) (by kernel_rfl) (fun _ _ _ h => h) (by rfl) ?_ (by assumption) ?_
     rotate_left
     ·
      (intro wx hSw; (try dsimp only at hSw); go_simp; try with_reducible rfl)
     try simp only [Act.put,lyA,lyB,lyC]
     refine take_run 22 (v := ?_) rfl (by kernel_rfl) (by kernel_rfl) (by kernel_rfl) (fun _ _ _ h => h) (by rfl) ?_ (by assumption) ?_
     rotate_left
     ·
      (intro wx hSw; (try dsimp only at hSw); go_simp; try with_reducible rfl)
     try simp only [Act.put,lyA,lyB,lyC]
     refine take_one 24 rfl (by kernel_rfl) ?_
     intro K hK
     go_simp
     refine hK.out _ _ ?_ (fun hHeld''' => ?_)
     ·
      refine router_cfgC hca (A := A) (node := node) ?_; with_reducible repeat (first | assumption | apply Blk.drew | apply Blk.alloc | (refine Blk.setOther ?_ ?_ _; rotate_left; (simp only [ne_eq]; omega)))
     clear hK K hHeld''
     try simp only [Act.put,lyA,lyB,lyC]
     refine take_one 25 rfl (by kernel_rfl) ?_
     intro K hK
     go_simp
     refine hK.out _ _ ?_ (fun hHeld'''' => ?_)
     ·
      refine router_cfgC hca (A := A) (node := node) ?_; with_reducible repeat (first | assumption | apply Blk.drew | apply Blk.alloc | (refine Blk.setOther ?_ ?_ _; rotate_left; (simp only [ne_eq]; omega)))
     clear hK K hHeld'''
     try simp only [Act.put,lyA,lyB,lyC]
     refine take_one 26 rfl (by kernel_rfl) ?_
     intro K hK
     go_simp
     refine hK.out _ _ ?_ (fun hHeld''''' => ?_)
     ·
      refine router_cfgC hca (A := A) (node := node) ?_; with_reducible repeat (first | assumption | apply Blk.drew | apply Blk.alloc | (refine Blk.setOther ?_ ?_ _; rotate_left; (simp only [ne_eq]; omega)))
     clear hK K hHeld''''
     try simp only [Act.put,lyA,lyB,lyC]
     refine wpAnyH_done (by kernel_rfl) ?_ _
     go_wp2_with fail
     go_meet
     refine ⟨_,_,rfl,rfl,?_,?_,?_⟩
     all_goals with_reducible repeat (first | assumption | exact Mod.refl _ _ | exact Blk.made _ _ _ | exact Blk.made2 _ _ _ _ | exact Blk.madeS _ _ _ _ _ | apply Blk.drew | apply Blk.alloc | refine Blk.set1 (u := .int .i64 0) ?_ _ | (refine Blk.setOther ?_ ?_ _; rotate_left; (simp only [ne_eq]; omega)) | apply Mod.drew | (refine Mod.setCell ?_ ?_ _; rotate_left; (refine Or.inr ?_; simp only []; omega)) | refine Mod.alloc ?_ _)
    ·
     intro K hK
     go_simp
     refine hK.out _ _ ?_ (fun hHeld'' => ?_)
     ·
      refine router_cfgC hca (A := A) (node := node) ?_; with_reducible repeat (first | assumption | apply Blk.drew | apply Blk.alloc | (refine Blk.setOther ?_ ?_ _; rotate_left; (simp only [ne_eq]; omega)))
     clear hK K hHeld'
     try simp only [Act.put,lyA,lyB,lyC]
     refine take_one 19 rfl (by kernel_rfl) ?_
     intro K hK
     go_simp
     refine (HC.out ((w2.alloc (.cells #[.int .i64 0] 3)).alloc (.cells #[.int .i64 0] 3)).drew).mono ?_
     rintro e w9 ⟨rfl,m9⟩
     have k9 := ((k2.alloc (.cells #[.int .i64 0] 3)).alloc (.cells #[.int .i64 0] 3)).drew.later m9 (by simp)
     have z9 := (((Mod.refl (fun _ => False) w2).alloc (.cells #[.int .i64 0] 3)).alloc (.cells #[.int .i64 0] 3)).drew.trans m9 (fun _ _ e => e)
     have s9 := m9.size
     have kx9 := ((Blk.made w2 #[.int .i64 0] 3).alloc (.cells #[.int .i64 0] 3)).drew.later m9 (by simp)
     have x9 := kx9.cell 0
     have f9 := kx9.fz 0
     have l9 := kx9.lt
     simp at x9
     have ky9 := (Blk.made2 w2 (.cells #[.int .i64 0] 3) #[.int .i64 0] 3).drew.later m9 (by simp)
     have y9 := ky9.cell 0
     have g9 := ky9.fz 0
     have l9' := ky9.lt
     simp at y9
     refine hK.out _ _ ?_ (fun hHeld''' => ?_)
     ·
      refine router_cfgC hca (A := A) (node := node) ?_; with_reducible repeat (first | assumption | apply Blk.drew | apply Blk.alloc | (refine Blk.setOther ?_ ?_ _; rotate_left; (simp only [ne_eq]; omega)))
     clear hK K hHeld''
     try simp only [Act.put,lyA,lyB,lyC]
     refine take_run 20 (v := ?_) rfl (by kernel_rfl) (by kernel_rfl) (by kernel_rfl) (fun _ _ _ h => h) (by rfl) ?_ (by assumption) ?_
     rotate_left
     ·
      (intro wx hSw; (try dsimp only at hSw); go_simp; try with_reducible rfl)
     try simp only [Act.put,lyA,lyB,lyC]
     refine take_run 21 (v := ?_) rfl (by kernel_rfl) (by kernel_rfl) (by kernel_rfl) (fun _ _ _ h => h) (by rfl) ?_ (by assumption) ?_
     rotate_left
     ·
      (intro wx hSw; (try dsimp only at hSw); go_simp; try with_reducible rfl)
     try simp only [Act.put,lyA,lyB,lyC]
     refine take_run 22 (v := ?_) rfl (by kernel_rfl) (by kernel_rfl) (by kernel_rfl) (fun _ _ _ h => h) (by rfl) ?_ (by assumption) ?_
     rotate_left
     ·
      (intro wx hSw; (try dsimp only at hSw); go_simp; try with_reducible rfl)
     try simp only [Act.put,lyA,lyB,lyC]
     refine take_one 25 rfl (by kernel_rfl) ?_
     intro K hK
     go_simp
     refine hK.out _ _ ?_ (fun hHeld'''' => ?_)
     ·
      refine router_cfgC hca (A := A) (node := node) ?_; with_reducible repeat (first | assumption | apply Blk.drew | apply Blk.alloc | (refine Blk.setOther ?_ ?_ _; rotate_left; (simp only [ne_eq]; omega)))
     clear hK K hHeld'''
     try simp only [Act.put,lyA,lyB,lyC]
     refine take_one 26 rfl (by kernel_rfl) ?_
     intro K hK
     go_simp
     refine hK.out _ _ ?_ (fun hHeld''''' => ?_)
     ·
      refine router_cfgC hca (A := A) (node := node) ?_; with_reducible repeat (first | assumption | apply Blk.drew | apply Blk.alloc | (refine Blk.setOther ?_ ?_ _; rotate_left; (simp only [ne_eq]; omega)))
     clear hK K hHeld''''
     try simp only [Act.put,lyA,lyB,lyC]
     refine wpAnyH_done (by kernel_rfl) ?_ _
     go_wp2_with fail
     go_meet
     refine ⟨_,_,rfl,rfl,?_,?_,?_⟩
     all_goals with_reducible repeat (first | assumption | exact Mod.refl _ _ | exact Blk.made _ _ _ | exact Blk.made2 _ _ _ _ | exact Blk.madeS _ _ _ _ _ | apply Blk.drew | apply Blk.alloc | refine Blk.set1 (u := .int .i64 0) ?_ _ | (refine Blk.setOther ?_ ?_ _; rotate_left; (simp only [ne_eq]; omega)) | apply Mod.drew | (refine Mod.setCell ?_ ?_ _; rotate_left; (refine Or.inr ?_; simp only []; omega)) | refine Mod.alloc ?_ _)
   ·
    intro K hK
    go_simp
    refine hK.out _ _ ?_ (fun hHeld' => ?_)
    ·
     refine router_cfgC hca (A := A) (node := node) ?_; with_reducible repeat (first | assumption | apply Blk.drew | apply Blk.alloc | (refine Blk.setOther ?_ ?_ _; rotate_left; (simp only [ne_eq]; omega)))
    clear hK K hHeld
    try simp only [Act.put,lyA,lyB,lyC]
    refine take_two 19 23 rfl rfl (by kernel_rfl) ?_ ?_
    ·
     intro K hK
     go_simp
     refine (HC.out (w2.alloc (.cells #[.int .i64 0] 3)).drew).mono ?_
     rintro e w9 ⟨rfl,m9⟩
     have k9 := (k2.alloc (.cells #[.int .i64 0] 3)).drew.later m9 (by simp)
     have z9 := ((Mod.refl (fun _ => False) w2).alloc (.cells #[.int .i64 0] 3)).drew.trans m9 (fun _ _ e => e)
     have s9 := m9.size
     have kx9 := (Blk.made w2 #[.int .i64 0] 3).drew.later m9 (by simp)
     have x9 := kx9.cell 0
     have f9 := kx9.fz 0
     have l9 := kx9.lt
     simp at x9
     refine hK.out _ _ ?_ (fun hHeld'' => ?_)
     ·
      refine router_cfgC hca (A := A) (node := node) ?_; with_reducible repeat (first | assumption | apply Blk.drew | apply Blk.alloc | (refine Blk.setOther ?_ ?_ _; rotate_left; (simp only [ne_eq]; omega)))
     clear hK K hHeld'
     try simp only [Act.put,lyA,lyB,lyC]
     refine take_run 20 (v := ?_) rfl (by kernel_rfl) (by kernel_rfl) (by kernel_rfl) (fun _ _ _ h => h) (by rfl) ?_ (by assumption) ?_
     rotate_left
     ·
      (intro wx hSw; (try dsimp only at hSw); go_simp; try with_reducible rfl)
     try simp only [Act.put,lyA,lyB,lyC]
     refine take_run 21 (v := ?_) rfl (by kernel_rfl) (by kernel_rfl) (by kernel_rfl) (fun _ _ _ h => h) (by rfl) ?_ (by assumption) ?_
     rotate_left
     ·
      (intro wx hSw; (try dsimp only at hSw); go_simp; try with_reducible rfl)
     try simp only [Act.put,lyA,lyB,lyC]
     refine take_run 22 (v := ?_) rfl (by kernel_rfl) (by kernel_rfl) (by kernel_rfl) (fun _ _ _ h => h) (by rfl) ?_ (by assumption) ?_
     rotate_left
     ·
      (intro wx hSw; (try dsimp only at hSw); go_simp; try with_reducible rfl)
     try simp only [Act.put,lyA,lyB,lyC]
     refine take_one 23 rfl (by kernel_rfl) ?_
     intro K hK
     go_simp
     refine hK.out _ _ ?_ (fun hHeld''' => ?_)
     ·
      refine router_cfgC hca (A := A) (node := node) ?_; with_reducible repeat (first | assumption | apply Blk.drew | apply Blk.alloc | (refine Blk.setOther ?_ ?_ _; rotate_left; (simp only [ne_eq]; omega)))
     clear hK K hHeld''
     try simp only [Act.put,lyA,lyB,lyC]
     refine take_one 25 rfl (by kernel_rfl) ?_
     intro K hK
     go_simp
     refine hK.out _ _ ?_ (fun hHeld'''' => ?_)
     ·
      refine router_cfgC hca (A := A) (node := node) ?_; with_reducible repeat (first | assumption | apply Blk.drew | apply Blk.alloc | (refine Blk.setOther ?_ ?_ _; rotate_left; (simp only [ne_eq]; omega)))
     clear hK K hHeld'''
     try simp only [Act.put,lyA,lyB,lyC]
     refine take_one 26 rfl (by kernel_rfl) ?_
     intro K hK
     go_simp
     refine hK.out _ _ ?_ (fun hHeld''''' => ?_)
     ·
      refine router_cfgC hca (A := A) (node := node) ?_; with_reducible repeat (first | assumption | apply Blk.drew | apply Blk.alloc | (refine Blk.setOther ?_ ?_ _; rotate_left; (simp only [ne_eq]; omega)))
     clear hK K hHeld''''
     try simp only [Act.put,lyA,lyB,lyC]
     refine wpAnyH_done (by kernel_rfl) ?_ _
     go_wp2_with fail
     go_meet
     refine ⟨_,_,rfl,rfl,?_,?_,?_⟩
     all_goals with_reducible repeat (first | assumption | exact Mod.refl _ _ | exact Blk.made _ _ _ | exact Blk.made2 _ _ _ _ | exact Blk.madeS _ _ _ _ _ | apply Blk.drew | apply Blk.alloc | refine Blk.set1 (u := .int .i64 0) ?_ _ | (refine Blk.setOther ?_ ?_ _; rotate_left; (simp only [ne_eq]; omega)) | apply Mod.drew | (refine Mod.setCell ?_ ?_ _; rotate_left; (refine Or.inr ?_; simp only []; omega)) | refine Mod.alloc ?_ _)
    ·
     intro K hK
     go_simp
     refine hK.out _ _ ?_ (fun hHeld'' => ?_)
     ·
      refine router_cfgC hca (A := A) (node := node) ?_; with_reducible repeat (first | assumption | apply Blk.drew | apply Blk.alloc | (refine Blk.setOther ?_ ?_ _; rotate_left; (simp only [ne_eq]; omega)))
     clear hK K hHeld'
     try simp only [Act.put,lyA,lyB,lyC]
     refine take_one 19 rfl (by kernel_rfl) ?_
     intro K hK
     go_simp
     refine (HC.out ((w2.alloc (.cells #[.int .i64 0] 3)).alloc (.cells #[.int .i64 0] 3)).drew).mono ?_
     rintro e w9 ⟨rfl,m9⟩
     have k9 := ((k2.alloc (.cells #[.int .i64 0] 3)).alloc (.cells #[.int .i64 0] 3)).drew.later m9 (by simp)
     have z9 := (((Mod.refl (fun _ => False) w2).alloc (.cells #[.int .i64 0] 3)).alloc (.cells #[.int .i64 0] 3)).drew.trans m9 (fun _ _ e => e)
     have s9 := m9.size
     have kx9 := ((Blk.made w2 #[.int .i64 0] 3).alloc (.cells #[.int .i64 0] 3)).drew.later m9 (by simp)
     have x9 := kx9.cell 0
     have f9 := kx9.fz 0
     have l9 := kx9.lt
     simp at x9
     have ky9 := (Blk.made2 w2 (.cells #[.int .i64 0] 3) #[.int .i64 0] 3).drew.later m9 (by simp)
     have y9 := ky9.cell 0
     have g9 := ky9.fz 0
     have l9' := ky9.lt
     simp at y9
     refine hK.out _ _ ?_ (fun hHeld''' => ?_)
     ·
      refine router_cfgC hca (A := A) (node := node) ?_; with_reducible repeat (first | assumption | apply Blk.drew | apply Blk.alloc | (refine Blk.setOther ?_ ?_ _; rotate_left; (simp only [ne_eq]; omega)))
     clear hK K hHeld''
     try simp only [Act.put,lyA,lyB,lyC]
     refine take_run 20 (v := ?_) rfl (by kernel_rfl) (by kernel_rfl) (by kernel_rfl) (fun _ _ _ h => h) (by rfl) ?_ (by assumption) ?_
     rotate_left
     ·
      (intro wx hSw; (try dsimp only at hSw); go_simp; try with_reducible rfl)
     try simp only [Act.put,lyA,lyB,lyC]
     refine take_run 21 (v := ?_) rfl (by kernel_rfl) (by kernel_rfl) (by kernel_rfl) (fun _ _ _ h => h) (by rfl) ?_ (by assumption) ?_
     rotate_left
     ·
      (intro wx hSw; (try dsimp only at hSw); go_simp; try with_reducible rfl)
     try simp only [Act.put,lyA,lyB,lyC]
     refine take_run 22 (v := ?_) rfl (by kernel_rfl) (by kernel_rfl) (by kernel_rfl) (fun _ _ _ h => h) (by rfl) ?_ (by assumption) ?_
     rotate_left
     ·
      (intro wx hSw; (try dsimp only at hSw); go_simp; try with_reducible rfl)
     try simp only [Act.put,lyA,lyB,lyC]
     refine take_one 25 rfl (by kernel_rfl) ?_
     intro K hK
     go_simp
     refine hK.out _ _ ?_ (fun hHeld'''' => ?_)
     ·
      refine router_cfgC hca (A := A) (node := node) ?_; with_reducible repeat (first | assumption | apply Blk.drew | apply Blk.alloc | (refine Blk.setOther ?_ ?_ _; rotate_left; (simp only [ne_eq]; omega)))
     clear hK K hHeld'''
     try simp only [Act.put,lyA,lyB,lyC]
     refine take_one 26 rfl (by kernel_rfl) ?_
     intro K hK
     go_simp
     refine hK.out _ _ ?_ (fun hHeld''''' => ?_)
     ·
      refine router_cfgC hca (A := A) (node := node) ?_; with_reducible repeat (first | assumption | apply Blk.drew | apply Blk.alloc | (refine Blk.setOther ?_ ?_ _; rotate_left; (simp only [ne_eq]; omega)))
     clear hK K hHeld''''
     try simp only [Act.put,lyA,lyB,lyC]
     refine wpAnyH_done (by kernel_rfl) ?_ _
     go_wp2_with fail
     go_meet
     refine ⟨_,_,rfl,rfl,?_,?_,?_⟩
     all_goals with_reducible repeat (first | assumption | exact Mod.refl _ _ | exact Blk.made _ _ _ | exact Blk.made2 _ _ _ _ | exact Blk.madeS _ _ _ _ _ | apply Blk.drew | apply Blk.alloc | refine Blk.set1 (u := .int .i64 0) ?_ _ | (refine Blk.setOther ?_ ?_ _; rotate_left; (simp only [ne_eq]; omega)) | apply Mod.drew | (refine Mod.setCell ?_ ?_ _; rotate_left; (refine Or.inr ?_; simp only []; omega)) | refine Mod.alloc ?_ _)
  | false =>
   rw [hca] at c8 HB HC
   rw [show bb = false from by rw [HB.out]; simp] at HC
   clear HB
   refine wp_region_held_drew (S := fun w' => w'.cell? ⟨b,0,none⟩ = some (.int .i64 c.W)∧w'.cell? ⟨b,1,none⟩ = some (.int .i64 c.H)∧w'.cell? ⟨b,2,none⟩ = some (.int .i64 c.Lanes)∧w'.cell? ⟨b,3,none⟩ = some (.int .i64 c.Depth)∧w'.cell? ⟨b,4,none⟩ = some (.int .i64 c.Ring)∧w'.cell? ⟨b,5,none⟩ = some (.int .i64 c.Inbox)∧w'.cell? ⟨b,6,none⟩ = some (.int .i64 c.Bound)∧w'.cell? ⟨b,7,none⟩ = some (.bool c.West)∧w'.cell? ⟨b,8,none⟩ = some (.bool false)) (by kernel_rfl) ?_ (fun hHeld => ?_)
   ·
    exact router_cfgC hca k2
   refine take_run 0 (v := ?_) rfl (by kernel_rfl) (by kernel_rfl) (by kernel_rfl) (fun _ _ _ h => h) (by rfl) ?_ (by assumption) ?_
   rotate_left
   ·
    (intro wx hSw; (try dsimp only at hSw); go_simp; try with_reducible rfl)
   try simp only [Act.put,lyA,lyB,lyC]
   refine take_run 1 (v := ?_) rfl (by kernel_rfl) (by kernel_rfl) (by kernel_rfl) (fun _ _ _ h => h) (by rfl) ?_ (by assumption) ?_
   rotate_left
   ·
    (intro wx hSw; (try dsimp only at hSw); go_simp; try with_reducible rfl)
   try simp only [Act.put,lyA,lyB,lyC]
   refine take_run 2 (v := ?_) rfl (by kernel_rfl) (by kernel_rfl) (by kernel_rfl) (fun _ _ _ h => h) (by rfl) ?_ (by assumption) ?_
   rotate_left
   ·
    (intro wx hSw; (try dsimp only at hSw); go_simp; try with_reducible rfl)
   try simp only [Act.put,lyA,lyB,lyC]
   refine take_run 3 (v := ?_) rfl (by kernel_rfl) (by kernel_rfl) (by kernel_rfl) (fun _ _ _ h => h) (by rfl) ?_ (by assumption) ?_
   rotate_left
   ·
    (intro wx hSw; (try dsimp only at hSw); go_simp; try with_reducible rfl)
   try simp only [Act.put,lyA,lyB,lyC]
   refine take_run 4 (v := ?_) rfl (by kernel_rfl) (by kernel_rfl) (by kernel_rfl) (fun _ _ _ h => h) (by rfl) ?_ (by assumption) ?_
   rotate_left
   ·
    (intro wx hSw; (try dsimp only at hSw); go_simp; try with_reducible rfl)
   try simp only [Act.put,lyA,lyB,lyC]
   refine take_run 5 (v := ?_) rfl (by kernel_rfl) (by kernel_rfl) (by kernel_rfl) (fun _ _ _ h => h) (by rfl) ?_ (by assumption) ?_
   rotate_left
   ·
    (intro wx hSw; (try dsimp only at hSw); go_simp; try with_reducible rfl)
   try simp only [Act.put,lyA,lyB,lyC]
   refine take_run 6 (v := ?_) rfl (by kernel_rfl) (by kernel_rfl) (by kernel_rfl) (fun _ _ _ h => h) (by rfl) ?_ (by assumption) ?_
   rotate_left
   ·
    (intro wx hSw; (try dsimp only at hSw); go_simp; try with_reducible rfl)
   try simp only [Act.put,lyA,lyB,lyC]
   refine take_run 7 (v := ?_) rfl (by kernel_rfl) (by kernel_rfl) (by kernel_rfl) (fun _ _ _ h => h) (by rfl) ?_ (by assumption) ?_
   rotate_left
   ·
    (intro wx hSw; (try dsimp only at hSw); go_simp; try with_reducible rfl)
   try simp only [Act.put,lyA,lyB,lyC]
   refine take_run 8 (v := ?_) rfl (by kernel_rfl) (by kernel_rfl) (by kernel_rfl) (fun _ _ _ h => h) (by rfl) ?_ (by assumption) ?_
   rotate_left
   ·
    (intro wx hSw; (try dsimp only at hSw); go_simp; try with_reducible rfl)
   try simp only [Act.put,lyA,lyB,lyC]
   refine take_run 9 (v := ?_) rfl (by kernel_rfl) (by kernel_rfl) (by kernel_rfl) (fun _ _ _ h => h) (by rfl) ?_ (by assumption) ?_
   rotate_left
   ·
    (intro wx hSw; (try dsimp only at hSw); go_simp; try with_reducible rfl)
   try simp only [Act.put,lyA,lyB,lyC]
   refine take_skip 10 rfl (by kernel_rfl) (by kernel_rfl) (by kernel_rfl) (fun _ _ _ h => h) (by rfl) (by assumption) ?_
   try simp only [Act.put,lyA,lyB,lyC]
   refine take_skip 11 rfl (by kernel_rfl) (by kernel_rfl) (by kernel_rfl) (fun _ _ _ h => h) (by rfl) (by assumption) ?_
   try simp only [Act.put,lyA,lyB,lyC]
   refine take_skip 12 rfl (by kernel_rfl) (by kernel_rfl) (by kernel_rfl) (fun _ _ _ h => h) (by rfl) (by assumption) ?_
   try simp only [Act.put,lyA,lyB,lyC]
   refine take_skip 13 rfl (by kernel_rfl) (by kernel_rfl) (by kernel_rfl) (fun _ _ _ h => h) (by rfl) (by assumption) ?_
   try simp only [Act.put,lyA,lyB,lyC]
   refine take_skip 14 rfl (by kernel_rfl) (by kernel_rfl) (by kernel_rfl) (fun _ _ _ h => h) (by rfl) (by assumption) ?_
   try simp only [Act.put,lyA,lyB,lyC]
   refine take_skip 15 rfl (by kernel_rfl) (by kernel_rfl) (by kernel_rfl) (fun _ _ _ h => h) (by rfl) (by assumption) ?_
   try simp only [Act.put,lyA,lyB,lyC]
   refine take_skip 16 rfl (by kernel_rfl) (by kernel_rfl) (by kernel_rfl) (fun _ _ _ h => h) (by rfl) (by assumption) ?_
   try simp only [Act.put,lyA,lyB,lyC]
   refine take_skip 17 rfl (by kernel_rfl) (by kernel_rfl) (by kernel_rfl) (fun _ _ _ h => h) (by rfl) (by assumption) ?_
   try simp only [Act.put,lyA,lyB,lyC]
   refine take_run 18 (v := ?_) rfl (by kernel_rfl) (by kernel_rfl) (by kernel_rfl) (fun _ _ _ h => h) (by rfl) ?_ (by assumption) ?_
   rotate_left
   ·
    (intro wx hSw; (try dsimp only at hSw); go_simp; try with_reducible rfl)
   try simp only [Act.put,lyA,lyB,lyC]
   refine take_three 19 23 24 rfl rfl rfl (by kernel_rfl) ?_ ?_ ?_
   ·
    intro K hK
    go_simp
    refine (HC.out w2.drew).mono ?_
    rintro e w9 ⟨rfl,m9⟩
    have k9 := k2.drew.later m9 (by simp)
    have z9 := (Mod.refl (fun _ => False) w2).drew.trans m9 (fun _ _ e => e)
    have s9 := m9.size
    refine hK.out _ _ ?_ (fun hHeld' => ?_)
    ·
     refine router_cfgC hca (A := A) (node := node) ?_; with_reducible repeat (first | assumption | apply Blk.drew | apply Blk.alloc | (refine Blk.setOther ?_ ?_ _; rotate_left; (simp only [ne_eq]; omega)))
    clear hK K hHeld
    try simp only [Act.put,lyA,lyB,lyC]
    refine take_run 20 (v := ?_) rfl (by kernel_rfl) (by kernel_rfl) (by kernel_rfl) (fun _ _ _ h => h) (by rfl) ?_ (by assumption) ?_
    rotate_left
    ·
     (intro wx hSw; (try dsimp only at hSw); go_simp; try with_reducible rfl)
    try simp only [Act.put,lyA,lyB,lyC]
    refine take_run 21 (v := ?_) rfl (by kernel_rfl) (by kernel_rfl) (by kernel_rfl) (fun _ _ _ h => h) (by rfl) ?_ (by assumption) ?_
    rotate_left
    ·
     (intro wx hSw; (try dsimp only at hSw); go_simp; try with_reducible rfl)
    try simp only [Act.put,lyA,lyB,lyC]
    refine take_run 22 (v := ?_) rfl (by kernel_rfl) (by kernel_rfl) (by kernel_rfl) (fun _ _ _ h => h) (by rfl) ?_ (by assumption) ?_
    rotate_left
    ·
     (intro wx hSw; (try dsimp only at hSw); go_simp; try with_reducible rfl)
    try simp only [Act.put,lyA,lyB,lyC]
    refine take_two 23 24 rfl rfl (by kernel_rfl) ?_ ?_
    ·
     intro K hK
     go_simp
     refine hK.out _ _ ?_ (fun hHeld'' => ?_)
     ·
      refine router_cfgC hca (A := A) (node := node) ?_; with_reducible repeat (first | assumption | apply Blk.drew | apply Blk.alloc | (refine Blk.setOther ?_ ?_ _; rotate_left; (simp only [ne_eq]; omega)))
     clear hK K hHeld'
     try simp only [Act.put,lyA,lyB,lyC]
     refine take_one 24 rfl (by kernel_rfl) ?_
     intro K hK
     go_simp
     refine hK.out _ _ ?_ (fun hHeld''' => ?_)
     ·
      refine router_cfgC hca (A := A) (node := node) ?_; with_reducible repeat (first | assumption | apply Blk.drew | apply Blk.alloc | (refine Blk.setOther ?_ ?_ _; rotate_left; (simp only [ne_eq]; omega)))
     clear hK K hHeld''
     try simp only [Act.put,lyA,lyB,lyC]
     refine take_one 25 rfl (by kernel_rfl) ?_
     intro K hK
     go_simp
     refine hK.out _ _ ?_ (fun hHeld'''' => ?_)
     ·
      refine router_cfgC hca (A := A) (node := node) ?_; with_reducible repeat (first | assumption | apply Blk.drew | apply Blk.alloc | (refine Blk.setOther ?_ ?_ _; rotate_left; (simp only [ne_eq]; omega)))
     clear hK K hHeld'''
     try simp only [Act.put,lyA,lyB,lyC]
     refine take_one 26 rfl (by kernel_rfl) ?_
     intro K hK
     go_simp
     refine hK.out _ _ ?_ (fun hHeld''''' => ?_)
     ·
      refine router_cfgC hca (A := A) (node := node) ?_; with_reducible repeat (first | assumption | apply Blk.drew | apply Blk.alloc | (refine Blk.setOther ?_ ?_ _; rotate_left; (simp only [ne_eq]; omega)))
     clear hK K hHeld''''
     try simp only [Act.put,lyA,lyB,lyC]
     refine wpAnyH_done (by kernel_rfl) ?_ _
     go_wp2_with fail
     go_meet
     refine ⟨_,_,rfl,rfl,?_,?_,?_⟩
     all_goals with_reducible repeat (first | assumption | exact Mod.refl _ _ | exact Blk.made _ _ _ | exact Blk.made2 _ _ _ _ | exact Blk.madeS _ _ _ _ _ | apply Blk.drew | apply Blk.alloc | refine Blk.set1 (u := .int .i64 0) ?_ _ | (refine Blk.setOther ?_ ?_ _; rotate_left; (simp only [ne_eq]; omega)) | apply Mod.drew | (refine Mod.setCell ?_ ?_ _; rotate_left; (refine Or.inr ?_; simp only []; omega)) | refine Mod.alloc ?_ _)
    ·
     intro K hK
     go_simp
     refine hK.out _ _ ?_ (fun hHeld'' => ?_)
     ·
      refine router_cfgC hca (A := A) (node := node) ?_; with_reducible repeat (first | assumption | apply Blk.drew | apply Blk.alloc | (refine Blk.setOther ?_ ?_ _; rotate_left; (simp only [ne_eq]; omega)))
     clear hK K hHeld'
     try simp only [Act.put,lyA,lyB,lyC]
     refine take_one 23 rfl (by kernel_rfl) ?_
     intro K hK
     go_simp
     refine hK.out _ _ ?_ (fun hHeld''' => ?_)
     ·
      refine router_cfgC hca (A := A) (node := node) ?_; with_reducible repeat (first | assumption | apply Blk.drew | apply Blk.alloc | (refine Blk.setOther ?_ ?_ _; rotate_left; (simp only [ne_eq]; omega)))
     clear hK K hHeld''
     try simp only [Act.put,lyA,lyB,lyC]
     refine take_one 25 rfl (by kernel_rfl) ?_
     intro K hK
     go_simp
     refine hK.out _ _ ?_ (fun hHeld'''' => ?_)
     ·
      refine router_cfgC hca (A := A) (node := node) ?_; with_reducible repeat (first | assumption | apply Blk.drew | apply Blk.alloc | (refine Blk.setOther ?_ ?_ _; rotate_left; (simp only [ne_eq]; omega)))
     clear hK K hHeld'''
     try simp only [Act.put,lyA,lyB,lyC]
     refine take_one 26 rfl (by kernel_rfl) ?_
     intro K hK
     go_simp
     refine hK.out _ _ ?_ (fun hHeld''''' => ?_)
     ·
      refine router_cfgC hca (A := A) (node := node) ?_; with_reducible repeat (first | assumption | apply Blk.drew | apply Blk.alloc | (refine Blk.setOther ?_ ?_ _; rotate_left; (simp only [ne_eq]; omega)))
     clear hK K hHeld''''
     try simp only [Act.put,lyA,lyB,lyC]
     refine wpAnyH_done (by kernel_rfl) ?_ _
     go_wp2_with fail
     go_meet
     refine ⟨_,_,rfl,rfl,?_,?_,?_⟩
     all_goals with_reducible repeat (first | assumption | exact Mod.refl _ _ | exact Blk.made _ _ _ | exact Blk.made2 _ _ _ _ | exact Blk.madeS _ _ _ _ _ | apply Blk.drew | apply Blk.alloc | refine Blk.set1 (u := .int .i64 0) ?_ _ | (refine Blk.setOther ?_ ?_ _; rotate_left; (simp only [ne_eq]; omega)) | apply Mod.drew | (refine Mod.setCell ?_ ?_ _; rotate_left; (refine Or.inr ?_; simp only []; omega)) | refine Mod.alloc ?_ _)
   ·
    intro K hK
    go_simp
    refine hK.out _ _ ?_ (fun hHeld' => ?_)
    ·
     refine router_cfgC hca (A := A) (node := node) ?_; with_reducible repeat (first | assumption | apply Blk.drew | apply Blk.alloc | (refine Blk.setOther ?_ ?_ _; rotate_left; (simp only [ne_eq]; omega)))
    clear hK K hHeld
    try simp only [Act.put,lyA,lyB,lyC]
    refine take_two 19 24 rfl rfl (by kernel_rfl) ?_ ?_
    ·
     intro K hK
     go_simp
     refine (HC.out (w2.alloc (.cells #[.int .i64 0] 3)).drew).mono ?_
     rintro e w9 ⟨rfl,m9⟩
     have k9 := (k2.alloc (.cells #[.int .i64 0] 3)).drew.later m9 (by simp)
     have z9 := ((Mod.refl (fun _ => False) w2).alloc (.cells #[.int .i64 0] 3)).drew.trans m9 (fun _ _ e => e)
     have s9 := m9.size
     have kx9 := (Blk.made w2 #[.int .i64 0] 3).drew.later m9 (by simp)
     have x9 := kx9.cell 0
     have f9 := kx9.fz 0
     have l9 := kx9.lt
     simp at x9
     refine hK.out _ _ ?_ (fun hHeld'' => ?_)
     ·
      refine router_cfgC hca (A := A) (node := node) ?_; with_reducible repeat (first | assumption | apply Blk.drew | apply Blk.alloc | (refine Blk.setOther ?_ ?_ _; rotate_left; (simp only [ne_eq]; omega)))
     clear hK K hHeld'
     try simp only [Act.put,lyA,lyB,lyC]
     refine take_run 20 (v := ?_) rfl (by kernel_rfl) (by kernel_rfl) (by kernel_rfl) (fun _ _ _ h => h) (by rfl) ?_ (by assumption) ?_
     rotate_left
     ·
      (intro wx hSw; (try dsimp only at hSw); go_simp; try with_reducible rfl)
     try simp only [Act.put,lyA,lyB,lyC]
     refine take_run 21 (v := ?_) rfl (by kernel_rfl) (by kernel_rfl) (by kernel_rfl) (fun _ _ _ h => h) (by rfl) ?_ (by assumption) ?_
     rotate_left
     ·
      (intro wx hSw; (try dsimp only at hSw); go_simp; try with_reducible rfl)
     try simp only [Act.put,lyA,lyB,lyC]
     refine take_run 22 (v := ?_) rfl (by kernel_rfl) (by kernel_rfl) (by kernel_rfl) (fun _ _ _ h => h) (by rfl) ?_ (by assumption) ?_
     rotate_left
     ·
      (intro wx hSw; (try dsimp only at hSw); go_simp; try with_reducible rfl)
     try simp only [Act.put,lyA,lyB,lyC]
     refine take_one 24 rfl (by kernel_rfl) ?_
     intro K hK
     go_simp
     refine hK.out _ _ ?_ (fun hHeld''' => ?_)
     ·
      refine router_cfgC hca (A := A) (node := node) ?_; with_reducible repeat (first | assumption | apply Blk.drew | apply Blk.alloc | (refine Blk.setOther ?_ ?_ _; rotate_left; (simp only [ne_eq]; omega)))
     clear hK K hHeld''
     try simp only [Act.put,lyA,lyB,lyC]
     refine take_one 25 rfl (by kernel_rfl) ?_
     intro K hK
     go_simp
     refine hK.out _ _ ?_ (fun hHeld'''' => ?_)
     ·
      refine router_cfgC hca (A := A) (node := node) ?_; with_reducible repeat (first | assumption | apply Blk.drew | apply Blk.alloc | (refine Blk.setOther ?_ ?_ _; rotate_left; (simp only [ne_eq]; omega)))
     clear hK K hHeld'''
     try simp only [Act.put,lyA,lyB,lyC]
     refine take_one 26 rfl (by kernel_rfl) ?_
     intro K hK
     go_simp
     refine hK.out _ _ ?_ (fun hHeld''''' => ?_)
     ·
      refine router_cfgC hca (A := A) (node := node) ?_; with_reducible repeat (first | assumption | apply Blk.drew | apply Blk.alloc | (refine Blk.setOther ?_ ?_ _; rotate_left; (simp only [ne_eq]; omega)))
     clear hK K hHeld''''
     try simp only [Act.put,lyA,lyB,lyC]
     refine wpAnyH_done (by kernel_rfl) ?_ _
     go_wp2_with fail
     go_meet
     refine ⟨_,_,rfl,rfl,?_,?_,?_⟩
     all_goals with_reducible repeat (first | assumption | exact Mod.refl _ _ | exact Blk.made _ _ _ | exact Blk.made2 _ _ _ _ | exact Blk.madeS _ _ _ _ _ | apply Blk.drew | apply Blk.alloc | refine Blk.set1 (u := .int .i64 0) ?_ _ | (refine Blk.setOther ?_ ?_ _; rotate_left; (simp only [ne_eq]; omega)) | apply Mod.drew | (refine Mod.setCell ?_ ?_ _; rotate_left; (refine Or.inr ?_; simp only []; omega)) | refine Mod.alloc ?_ _)
    ·
     intro K hK
     go_simp
     refine hK.out _ _ ?_ (fun hHeld'' => ?_)
     ·
      refine router_cfgC hca (A := A) (node := node) ?_; with_reducible repeat (first | assumption | apply Blk.drew | apply Blk.alloc | (refine Blk.setOther ?_ ?_ _; rotate_left; (simp only [ne_eq]; omega)))
     clear hK K hHeld'
     try simp only [Act.put,lyA,lyB,lyC]
     refine take_one 19 rfl (by kernel_rfl) ?_
     intro K hK
     go_simp
     refine (HC.out ((w2.alloc (.cells #[.int .i64 0] 3)).alloc (.cells #[.int .i64 0] 3)).drew).mono ?_
     rintro e w9 ⟨rfl,m9⟩
     have k9 := ((k2.alloc (.cells #[.int .i64 0] 3)).alloc (.cells #[.int .i64 0] 3)).drew.later m9 (by simp)
     have z9 := (((Mod.refl (fun _ => False) w2).alloc (.cells #[.int .i64 0] 3)).alloc (.cells #[.int .i64 0] 3)).drew.trans m9 (fun _ _ e => e)
     have s9 := m9.size
     have kx9 := ((Blk.made w2 #[.int .i64 0] 3).alloc (.cells #[.int .i64 0] 3)).drew.later m9 (by simp)
     have x9 := kx9.cell 0
     have f9 := kx9.fz 0
     have l9 := kx9.lt
     simp at x9
     have ky9 := (Blk.made2 w2 (.cells #[.int .i64 0] 3) #[.int .i64 0] 3).drew.later m9 (by simp)
     have y9 := ky9.cell 0
     have g9 := ky9.fz 0
     have l9' := ky9.lt
     simp at y9
     refine hK.out _ _ ?_ (fun hHeld''' => ?_)
     ·
      refine router_cfgC hca (A := A) (node := node) ?_; with_reducible repeat (first | assumption | apply Blk.drew | apply Blk.alloc | (refine Blk.setOther ?_ ?_ _; rotate_left; (simp only [ne_eq]; omega)))
     clear hK K hHeld''
     try simp only [Act.put,lyA,lyB,lyC]
     refine take_run 20 (v := ?_) rfl (by kernel_rfl) (by kernel_rfl) (by kernel_rfl) (fun _ _ _ h => h) (by rfl) ?_ (by assumption) ?_
     rotate_left
     ·
      (intro wx hSw; (try dsimp only at hSw); go_simp; try with_reducible rfl)
     try simp only [Act.put,lyA,lyB,lyC]
     refine take_run 21 (v := ?_) rfl (by kernel_rfl) (by kernel_rfl) (by kernel_rfl) (fun _ _ _ h => h) (by rfl) ?_ (by assumption) ?_
     rotate_left
     ·
      (intro wx hSw; (try dsimp only at hSw); go_simp; try with_reducible rfl)
     try simp only [Act.put,lyA,lyB,lyC]
     refine take_run 22 (v := ?_) rfl (by kernel_rfl) (by kernel_rfl) (by kernel_rfl) (fun _ _ _ h => h) (by rfl) ?_ (by assumption) ?_
     rotate_left
     ·
      (intro wx hSw; (try dsimp only at hSw); go_simp; try with_reducible rfl)
     try simp only [Act.put,lyA,lyB,lyC]
     refine take_one 25 rfl (by kernel_rfl) ?_
     intro K hK
     go_simp
     refine hK.out _ _ ?_ (fun hHeld'''' => ?_)
     ·
      refine router_cfgC hca (A := A) (node := node) ?_; with_reducible repeat (first | assumption | apply Blk.drew | apply Blk.alloc | (refine Blk.setOther ?_ ?_ _; rotate_left; (simp only [ne_eq]; omega)))
     clear hK K hHeld'''
     try simp only [Act.put,lyA,lyB,lyC]
     refine take_one 26 rfl (by kernel_rfl) ?_
     intro K hK
     go_simp
     refine hK.out _ _ ?_ (fun hHeld''''' => ?_)
     ·
      refine router_cfgC hca (A := A) (node := node) ?_; with_reducible repeat (first | assumption | apply Blk.drew | apply Blk.alloc | (refine Blk.setOther ?_ ?_ _; rotate_left; (simp only [ne_eq]; omega)))
     clear hK K hHeld''''
     try simp only [Act.put,lyA,lyB,lyC]
     refine wpAnyH_done (by kernel_rfl) ?_ _
     go_wp2_with fail
     go_meet
     refine ⟨_,_,rfl,rfl,?_,?_,?_⟩
     all_goals with_reducible repeat (first | assumption | exact Mod.refl _ _ | exact Blk.made _ _ _ | exact Blk.made2 _ _ _ _ | exact Blk.madeS _ _ _ _ _ | apply Blk.drew | apply Blk.alloc | refine Blk.set1 (u := .int .i64 0) ?_ _ | (refine Blk.setOther ?_ ?_ _; rotate_left; (simp only [ne_eq]; omega)) | apply Mod.drew | (refine Mod.setCell ?_ ?_ _; rotate_left; (refine Or.inr ?_; simp only []; omega)) | refine Mod.alloc ?_ _)
   ·
    intro K hK
    go_simp
    refine hK.out _ _ ?_ (fun hHeld' => ?_)
    ·
     refine router_cfgC hca (A := A) (node := node) ?_; with_reducible repeat (first | assumption | apply Blk.drew | apply Blk.alloc | (refine Blk.setOther ?_ ?_ _; rotate_left; (simp only [ne_eq]; omega)))
    clear hK K hHeld
    try simp only [Act.put,lyA,lyB,lyC]
    refine take_two 19 23 rfl rfl (by kernel_rfl) ?_ ?_
    ·
     intro K hK
     go_simp
     refine (HC.out (w2.alloc (.cells #[.int .i64 0] 3)).drew).mono ?_
     rintro e w9 ⟨rfl,m9⟩
     have k9 := (k2.alloc (.cells #[.int .i64 0] 3)).drew.later m9 (by simp)
     have z9 := ((Mod.refl (fun _ => False) w2).alloc (.cells #[.int .i64 0] 3)).drew.trans m9 (fun _ _ e => e)
     have s9 := m9.size
     have kx9 := (Blk.made w2 #[.int .i64 0] 3).drew.later m9 (by simp)
     have x9 := kx9.cell 0
     have f9 := kx9.fz 0
     have l9 := kx9.lt
     simp at x9
     refine hK.out _ _ ?_ (fun hHeld'' => ?_)
     ·
      refine router_cfgC hca (A := A) (node := node) ?_; with_reducible repeat (first | assumption | apply Blk.drew | apply Blk.alloc | (refine Blk.setOther ?_ ?_ _; rotate_left; (simp only [ne_eq]; omega)))
     clear hK K hHeld'
     try simp only [Act.put,lyA,lyB,lyC]
     refine take_run 20 (v := ?_) rfl (by kernel_rfl) (by kernel_rfl) (by kernel_rfl) (fun _ _ _ h => h) (by rfl) ?_ (by assumption) ?_
     rotate_left
     ·
      (intro wx hSw; (try dsimp only at hSw); go_simp; try with_reducible rfl)
     try simp only [Act.put,lyA,lyB,lyC]
     refine take_run 21 (v := ?_) rfl (by kernel_rfl) (by kernel_rfl) (by kernel_rfl) (fun _ _ _ h => h) (by rfl) ?_ (by assumption) ?_
     rotate_left
     ·
      (intro wx hSw; (try dsimp only at hSw); go_simp; try with_reducible rfl)
     try simp only [Act.put,lyA,lyB,lyC]
     refine take_run 22 (v := ?_) rfl (by kernel_rfl) (by kernel_rfl) (by kernel_rfl) (fun _ _ _ h => h) (by rfl) ?_ (by assumption) ?_
     rotate_left
     ·
      (intro wx hSw; (try dsimp only at hSw); go_simp; try with_reducible rfl)
     try simp only [Act.put,lyA,lyB,lyC]
     refine take_one 23 rfl (by kernel_rfl) ?_
     intro K hK
     go_simp
     refine hK.out _ _ ?_ (fun hHeld''' => ?_)
     ·
      refine router_cfgC hca (A := A) (node := node) ?_; with_reducible repeat (first | assumption | apply Blk.drew | apply Blk.alloc | (refine Blk.setOther ?_ ?_ _; rotate_left; (simp only [ne_eq]; omega)))
     clear hK K hHeld''
     try simp only [Act.put,lyA,lyB,lyC]
     refine take_one 25 rfl (by kernel_rfl) ?_
     intro K hK
     go_simp
     refine hK.out _ _ ?_ (fun hHeld'''' => ?_)
     ·
      refine router_cfgC hca (A := A) (node := node) ?_; with_reducible repeat (first | assumption | apply Blk.drew | apply Blk.alloc | (refine Blk.setOther ?_ ?_ _; rotate_left; (simp only [ne_eq]; omega)))
     clear hK K hHeld'''
     try simp only [Act.put,lyA,lyB,lyC]
     refine take_one 26 rfl (by kernel_rfl) ?_
     intro K hK
     go_simp
     refine hK.out _ _ ?_ (fun hHeld''''' => ?_)
     ·
      refine router_cfgC hca (A := A) (node := node) ?_; with_reducible repeat (first | assumption | apply Blk.drew | apply Blk.alloc | (refine Blk.setOther ?_ ?_ _; rotate_left; (simp only [ne_eq]; omega)))
     clear hK K hHeld''''
     try simp only [Act.put,lyA,lyB,lyC]
     refine wpAnyH_done (by kernel_rfl) ?_ _
     go_wp2_with fail
     go_meet
     refine ⟨_,_,rfl,rfl,?_,?_,?_⟩
     all_goals with_reducible repeat (first | assumption | exact Mod.refl _ _ | exact Blk.made _ _ _ | exact Blk.made2 _ _ _ _ | exact Blk.madeS _ _ _ _ _ | apply Blk.drew | apply Blk.alloc | refine Blk.set1 (u := .int .i64 0) ?_ _ | (refine Blk.setOther ?_ ?_ _; rotate_left; (simp only [ne_eq]; omega)) | apply Mod.drew | (refine Mod.setCell ?_ ?_ _; rotate_left; (refine Or.inr ?_; simp only []; omega)) | refine Mod.alloc ?_ _)
    ·
     intro K hK
     go_simp
     refine hK.out _ _ ?_ (fun hHeld'' => ?_)
     ·
      refine router_cfgC hca (A := A) (node := node) ?_; with_reducible repeat (first | assumption | apply Blk.drew | apply Blk.alloc | (refine Blk.setOther ?_ ?_ _; rotate_left; (simp only [ne_eq]; omega)))
     clear hK K hHeld'
     try simp only [Act.put,lyA,lyB,lyC]
     refine take_one 19 rfl (by kernel_rfl) ?_
     intro K hK
     go_simp
     refine (HC.out ((w2.alloc (.cells #[.int .i64 0] 3)).alloc (.cells #[.int .i64 0] 3)).drew).mono ?_
     rintro e w9 ⟨rfl,m9⟩
     have k9 := ((k2.alloc (.cells #[.int .i64 0] 3)).alloc (.cells #[.int .i64 0] 3)).drew.later m9 (by simp)
     have z9 := (((Mod.refl (fun _ => False) w2).alloc (.cells #[.int .i64 0] 3)).alloc (.cells #[.int .i64 0] 3)).drew.trans m9 (fun _ _ e => e)
     have s9 := m9.size
     have kx9 := ((Blk.made w2 #[.int .i64 0] 3).alloc (.cells #[.int .i64 0] 3)).drew.later m9 (by simp)
     have x9 := kx9.cell 0
     have f9 := kx9.fz 0
     have l9 := kx9.lt
     simp at x9
     have ky9 := (Blk.made2 w2 (.cells #[.int .i64 0] 3) #[.int .i64 0] 3).drew.later m9 (by simp)
     have y9 := ky9.cell 0
     have g9 := ky9.fz 0
     have l9' := ky9.lt
     simp at y9
     refine hK.out _ _ ?_ (fun hHeld''' => ?_)
     ·
      refine router_cfgC hca (A := A) (node := node) ?_; with_reducible repeat (first | assumption | apply Blk.drew | apply Blk.alloc | (refine Blk.setOther ?_ ?_ _; rotate_left; (simp only [ne_eq]; omega)))
     clear hK K hHeld''
     try simp only [Act.put,lyA,lyB,lyC]
     refine take_run 20 (v := ?_) rfl (by kernel_rfl) (by kernel_rfl) (by kernel_rfl) (fun _ _ _ h => h) (by rfl) ?_ (by assumption) ?_
     rotate_left
     ·
      (intro wx hSw; (try dsimp only at hSw); go_simp; try with_reducible rfl)
     try simp only [Act.put,lyA,lyB,lyC]
     refine take_run 21 (v := ?_) rfl (by kernel_rfl) (by kernel_rfl) (by kernel_rfl) (fun _ _ _ h => h) (by rfl) ?_ (by assumption) ?_
     rotate_left
     ·
      (intro wx hSw; (try dsimp only at hSw); go_simp; try with_reducible rfl)
     try simp only [Act.put,lyA,lyB,lyC]
     refine take_run 22 (v := ?_) rfl (by kernel_rfl) (by kernel_rfl) (by kernel_rfl) (fun _ _ _ h => h) (by rfl) ?_ (by assumption) ?_
     rotate_left
     ·
      (intro wx hSw; (try dsimp only at hSw); go_simp; try with_reducible rfl)
     try simp only [Act.put,lyA,lyB,lyC]
     refine take_one 25 rfl (by kernel_rfl) ?_
     intro K hK
     go_simp
     refine hK.out _ _ ?_ (fun hHeld'''' => ?_)
     ·
      refine router_cfgC hca (A := A) (node := node) ?_; with_reducible repeat (first | assumption | apply Blk.drew | apply Blk.alloc | (refine Blk.setOther ?_ ?_ _; rotate_left; (simp only [ne_eq]; omega)))
     clear hK K hHeld'''
     try simp only [Act.put,lyA,lyB,lyC]
     refine take_one 26 rfl (by kernel_rfl) ?_
     intro K hK
     go_simp
     refine hK.out _ _ ?_ (fun hHeld''''' => ?_)
     ·
      refine router_cfgC hca (A := A) (node := node) ?_; with_reducible repeat (first | assumption | apply Blk.drew | apply Blk.alloc | (refine Blk.setOther ?_ ?_ _; rotate_left; (simp only [ne_eq]; omega)))
     clear hK K hHeld''''
     try simp only [Act.put,lyA,lyB,lyC]
     refine wpAnyH_done (by kernel_rfl) ?_ _
     go_wp2_with fail
     go_meet
     refine ⟨_,_,rfl,rfl,?_,?_,?_⟩
     all_goals with_reducible repeat (first | assumption | exact Mod.refl _ _ | exact Blk.made _ _ _ | exact Blk.made2 _ _ _ _ | exact Blk.madeS _ _ _ _ _ | apply Blk.drew | apply Blk.alloc | refine Blk.set1 (u := .int .i64 0) ?_ _ | (refine Blk.setOther ?_ ?_ _; rotate_left; (simp only [ne_eq]; omega)) | apply Mod.drew | (refine Mod.setCell ?_ ?_ _; rotate_left; (refine Or.inr ?_; simp only []; omega)) | refine Mod.alloc ?_ _)
 case rest =>
 obtain ⟨X,Y,rfl,rfl,kX,kY,m3⟩ := hcut
 obtain ⟨w3,rfl⟩ : ∃ wo : World,wo = wc := ⟨_,rfl⟩
 rw [← HCL.out,← HBB.out] at kX kY
 have kZ3 := kZ.later m3 (by simp)
 have hF3 := (Fam.stable (routerX_stable b A c node s)).later hF2 m3 (by simp)
 have hA := asks_give hF3 hs hc hq5 (k : Int) kX kY kZ3
 have HN := Lib.hid (fair_next _ _ _ _ _ _ _ w3 hA (Drw.refl _))
 have hm := m2.trans m3 (fun _ _ e => e)
 have z0 := kZ3.cell 0
 have k3 := k2.later m3 (by simp)
 have cs2 := (router_side k3 hq5).2.2.1
 simp at z0
 obtain ⟨r,hr⟩ : ∃ r,seeR c.Lanes (s.gives.getD q (-1)) (giveAns c s q (k : Int)) = r := ⟨_,rfl⟩
 have hgk : s.giveK c (q : Int) (k : Int) = r := by rw [← hr]; rfl
 have HG := Lib.hid (fun w' (d : Drw w3 w') => (router_gives ((Fam.stable (routerX_stable b A c node s)).later hF3 (d.mod (fun _ => False)) (by simp)) hs hq5).2 r)
 have HZ := Lib.hid (show ∀ w',Drw w3 w'→r = none→(.returned (.bool false) = Ending.returned (.bool (s.give c k).2)∧Turn own (RouterAt b c node (s.give c k).1) w1 w') from fun w' d h => by
  have e : s.give c k = (s,false) := by unfold RouterS.give; rw [if_pos hph,hq,hgk,h]
  rw [e]
  exact ⟨rfl,own,⟨A,(Fam.stable (routerX_stable b A c node s)).later hF3 (d.mod (fun _ => False)) (by simp)⟩,(hm.trans (d.mod (fun _ => False)) (fun _ _ e => e)).mono (fun _ _ e => e.elim),fun g hg => Or.inl hg⟩)
 have HJ := Lib.hid (fun (j : Int) (h : r = some j) => seeR_bd hc.L1 (hr.trans h))
 have HE := Lib.hid (show ∀ jn : Nat,r = some (jn : Int)→s.give c k = ((⟨s.lanes,s.owners.set (q * c.Lanes.toNat + jn) (k : Int),s.gives.set q (jn : Int),s.moves⟩ : RouterS).setLane k ⟨(s.lanes.getD k LaneS.new).q,2,(s.lanes.getD k LaneS.new).port,(jn : Int),(s.lanes.getD k LaneS.new).copies⟩,true) from fun jn h => by
  have e : s.give c k = (s.gave c k jn,true) := by unfold RouterS.give; rw [if_pos hph,hq,hgk,h]
  rw [e,gave_eq hq (by omega)])
 have HR := Lib.hid hr
 have hown : ∀ g,own g→g < w1.heap.size := fun g hg => (Fam.stable (routerX_stable b A c node s)).lt hF0 hg
 have hZlt := kZ3.lt
 clear hA c0 c1 c2 c3 c4 c5 c6 c7 c8 kZ k2 hF2 m2 m3 HC HB HCL HBB kX kY hr hgk k3 kZ3 hF3 hF0
 rw [← HR.out] at HG HZ HJ HE
 go_wp2_with fail
 refine HN.out.mono ?_
 rintro e w4 ⟨rfl,w5,hd,rfl⟩
 have R2 := HR.out
 cases r with
 | none =>
  rw [HR.out]
  simp only [Option.getD_none,Option.isSome_none,setLast]
  have F := Lib.hid (HZ.out w5 hd HR.out)
  clear HZ HG HJ HE HN
  go_wp2
  go_ret
  exact F.out
 | some j =>
  obtain ⟨hj0,hjL⟩ := HJ.out j HR.out
  obtain ⟨jn,rfl⟩ := Int.eq_ofNat_of_zero_le hj0
  have hjn : jn < c.Lanes.toNat := by omega
  have t1 := HG.out w5 hd
  rw [HR.out] at t1 ⊢
  simp only [Option.getD_some,Option.isSome_some] at t1 ⊢
  obtain ⟨o1,F1,m1,ho1⟩ := t1
  have hd1 := (hd.mod (fun _ => False)).size
  have hZ1 : ¬ own Z := fun h => by have := hown Z h; omega
  have z0 := (m1.cell (p := ⟨Z,0,none⟩) (by simp only []; omega) hZ1).trans ((hd.cell _).trans z0)
  generalize setLast (A.fg q) (some (jn : Int)) w5 = w6 at F1 m1 z0 ⊢
  obtain ⟨ob1,⟨kb1,-⟩,-⟩ := F1.at (routerX_stable b A c node _) .blk
  obtain ⟨g,o,cc,hov,hcell,hset⟩ := router_own F1 hs.ol hc hq5
  have cs1 := (router_side kb1 hq5).2.1
  rw [hov] at cs1
  have c2 := (router_head kb1).1
  have hgc : w6.cell? ⟨g,o + jn,none⟩ = _ := hcell jn hjn
  obtain ⟨hfz,t2⟩ := hset jn (k : Int) hjn
  have hfz : w6.frozen? ⟨g,o + jn,none⟩ = false := hfz
  dsimp only at hgc t2
  have e2 : (p : Int) * c.Lanes + (l : Int) = (k : Int) := HKI.out.symm
  have e3 : (p : Int) * c.Lanes = (k : Int) - (l : Int) := by omega
  have e4 : IntKind.i64.wrap ((p : Int) * c.Lanes) = (k : Int) - (l : Int) := by rw [e3]; exact IntWalk.i64_in _ (by omega)
  have e5 : IntKind.i64.wrap ((k : Int) - (l : Int) + (l : Int)) = (k : Int) := by rw [Int.sub_add_cancel]; exact IntWalk.i64_in _ (by omega)
  have i0 : (0 : Int) ≤ (jn : Int) := by omega
  obtain ⟨LL,hLL⟩ : ∃ LL,c.Lanes.toNat = LL := ⟨_,rfl⟩
  have i1 : (jn : Int) < (LL : Int) := by omega
  rw [hLL] at cs1
  have T12 := Lib.hid (Turn.next ((hd.mod (fun _ => False)).trans' (S := own) m1 (fun _ _ e => e.elim) (fun _ _ e => e)) (fun g hg => (ho1 g hg).imp id (fun h => Nat.le_trans hd1 h)) (Turn.behind (Fam.stable (routerX_stable b A c node _)) t2 ((Mod.refl (fun _ => False) _).drew)))
  clear hcell hset t2 m1 ho1 F1 kb1 hov HG HJ HZ HN
  go_upto_region 9 with fail
  go_still_tail 15,(by kernel_rfl)
  change wpList _ _ _ _ _ w6.drew
  go_wp2_with fail
  generalize (w6.setCell ⟨g,o + jn,none⟩ (.int .i64 (k : Int))).drew = w7 at T12 ⊢
  obtain ⟨o2,F2,m2,ho2⟩ := T12.out
  obtain ⟨ol2,L2,hlo2,put2⟩ := router_lane F2 hkl hs.ll
  have HLG := Lib.hid (lane_give _ _ (jn : Int) _ _ _ L2 hph)
  have HFIN := Lib.hid (show ∀ w',Turn ol2 (LaneAt (A.lp k) c.Depth.toNat ⟨(s.lanes.getD k LaneS.new).q,2,(s.lanes.getD k LaneS.new).port,(jn : Int),(s.lanes.getD k LaneS.new).copies⟩) w7 w'→(.returned (.bool true) = Ending.returned (.bool (s.give c k).2)∧Turn own (RouterAt b c node (s.give c k).1) w1 w') from fun w' t0 => by
   have t := router_of (put2 _ w' t0)
   rw [HE.out jn HR.out]
   exact ⟨rfl,Turn.next (hm.trans' (S := own) m2 (fun _ _ e => e.elim) (fun g hg e => e)) (fun g hg => (ho2 g hg).imp id (fun h => by have := hm.size; omega)) t⟩)
  clear F2 L2 put2 m2 ho2 T12 z0 cs1 c2 hgc hfz hd hown
  go_wp2_with fail
  refine HLG.out.mono ?_
  rintro e w8 ⟨rfl,t8⟩
  have F := Lib.hid (HFIN.out _ t8)
  clear t8
  go_wp2
  go_ret
  exact F.out
end Go.Proofs.YtfiklfkfbcpmgaaGreat
