/- Parts: RouterL RouterM RouterN LinkT. No condition. -/
import Derived.Test.YtfiklfkfbcpmgaaGreatJ11
import Derived.Test.YtfiklfkfbcpmgaaGreatJ09
set_option linter.all false
set_option maxRecDepth 100000
set_option maxHeartbeats 3200000
namespace Go.Proofs.YtfiklfkfbcpmgaaGreat
open Go.RowKit
theorem router_give (b : Nat) (c : Cfg) (node : Int) (p l : Nat) (s : RouterS) (own : Nat→Prop) (w : World) (h : RouterAt b c node s w own) (hs : RouterOk c s) (hc : c.Ok) (hp : p < 5) (hl : (l : Int) < c.Lanes) :
  Calls Tryz.prog 98 #[.pointer (some ⟨b,0,none⟩),.int .i64 (p : Int),.int .i64 (l : Int)] w fun e w' => e = .returned (.bool (s.give c (p * c.Lanes.toNat + l)).2)∧Turn own (RouterAt b c node (s.give c (p * c.Lanes.toNat + l)).1) w w' := by
 by_cases hph : (s.lanes.getD (p * c.Lanes.toNat + l) LaneS.new).phase = 1
 ·
  have hy := mem_getD hs.lane (LaneOk.new hc) (p * c.Lanes.toNat + l)
  obtain ⟨q,hq⟩ := Int.eq_ofNat_of_zero_le hy.port.1
  exact router_give_at b c node p l q s own w h hs hc hp hl hph hq (by have := hy.port.2; omega)
 ·
  have e : s.give c (p * c.Lanes.toNat + l) = (s,false) := by unfold RouterS.give; rw [if_neg hph]
  rw [e]
  refine (router_give_no b c node p l s own w h hs hc hp hl hph).mono ?_
  rintro e w' ⟨rfl,rfl⟩
  exact ⟨rfl,Turn.same (RouterAt.stable b c node s) h (Mod.refl _ _)⟩
structure May (g : Nat) (pv : Value) (c : Cfg) (w : World) (may : Int→Bool) : Prop where
 enters : ∀ args w,(callFunc g args).run Tryz.prog w = .ok (.enter g args) w
 call : ∀ (l : Nat) w1,(l : Int) < c.Lanes→Drw w w1→Calls Tryz.prog g #[pv,.int .i64 (l : Int)] w1 fun e w' => e = .returned (.bool (may l))∧Drw w1 w'
theorem Calls.quiet_drw {P : Program} {f : FuncId} {args : Array Value} {w : World} {n : Nat} {v : Value} (h : Calls P f args (w.drewN n) fun e w' => e = .returned v∧Drw (w.drewN n) w') : Calls P f args (w.drewN n) fun e w'' => e = .returned v∧∃ m,w'' = w.drewN m :=
 Calls.quiet_of (h.mono fun _ _ ⟨he,m,hm⟩ => ⟨he,m,hm⟩)
def moveB (y : LaneS) (p : Nat) (may : Int→Bool) : Bool := decide (y.phase = 2) && decide (y.port = (p : Int)) && decide (y.q ≠ []) && (decide ((p : Int) = 0) || may y.lane)
theorem router_move1 (b : Nat) (A : RAddr) (c : Cfg) (node : Int) (p k : Nat) (s : RouterS) (own : Nat→Prop) (w : World) (g : Nat) (pv : Value) (may : Int→Bool) (X Y Z : Nat)
  (hF : Fam (routerX b A c node s) w own) (hs : RouterOk c s) (hc : c.Ok) (hp : p < 5) (hk : k < 5 * c.Lanes.toNat) (hM : May g pv c w may)
  (x0 : w.cell? ⟨X,0,none⟩ = some (.pointer (some ⟨b,0,none⟩))) (y0 : w.cell? ⟨Y,0,none⟩ = some (.int .i64 (p : Int))) (z0 : w.cell? ⟨Z,0,none⟩ = some (.func (.func g) #[pv] #[])) :
  Calls Tryz.prog 141 #[.int .i64 (k : Int),.pointer (some ⟨X,0,none⟩),.pointer (some ⟨Y,0,none⟩),.pointer (some ⟨Z,0,none⟩)] w fun e w' => e = .returned (.bool (moveB (s.lanes.getD k LaneS.new) p may))∧Drw w w' := by
 have HPL := Lib.hid (fun w1 (d : Drw w w1) => router_place b A c node k s own w1 ((Fam.stable (routerX_stable b A c node s)).later hF (d.mod (fun _ => False)) (by simp)) hk hc.L1 hc.L2)
 obtain ⟨ol,hL,-,-⟩ := router_lane hF hk hs.ll
 have hy := mem_getD hs.lane (LaneOk.new hc) k
 have hLd := fun w1 (d : Drw w w1) => (LaneAt.stable _ _ _).later hL (d.mod (fun _ => False)) (by simp)
 generalize s.lanes.getD k LaneS.new = y at hL hy hLd ⊢
 have HPh := Lib.hid (fun w1 (d : Drw w w1) => lane_phase _ _ _ _ _ (hLd w1 d))
 have HPt := Lib.hid (fun w1 (d : Drw w w1) => lane_port _ _ _ _ _ (hLd w1 d))
 have HGv := Lib.hid (fun w1 (d : Drw w w1) => lane_given _ _ _ _ _ (hLd w1 d))
 have HLn := Lib.hid (fun w1 (d : Drw w w1) => lane_len _ _ _ _ _ (hLd w1 d))
 obtain ⟨gl,hgl⟩ := Int.eq_ofNat_of_zero_le hy.lane.1
 have hgL := hy.lane.2
 rw [hgl] at HGv hgL
 have HMC := Lib.hid (fun w1 (d : Drw w w1) => hM.call gl w1 hgL d)
 have eg := hM.enters
 have hbd := hL.bd
 obtain ⟨n,hn⟩ : ∃ n,y.q.length = n := ⟨_,rfl⟩
 rw [hn] at HLn
 have HB := Lib.hid (show moveB y p may = (decide (y.phase = 2) && decide (y.port = (p : Int)) && decide (n ≠ 0) && (decide ((p : Int) = 0) || may (gl : Int))) by
  unfold moveB
  rw [hgl,← hn]
  cases y.q <;> simp)
 clear hF hL hy hLd hM hgl hgL hn hbd hs
 generalize y.phase = ph at HPh HB
 generalize y.port = pt at HPt HB
 go_enter Tryz.func141,Tryz.ntmps141
 go_wp2_with fail
 refine (HPL.out _ (Drw.refl _)).mono ?_
 rintro e w1 ⟨rfl,d1⟩
 have x1 := (d1.cell _).trans x0
 have y1 := (d1.cell _).trans y0
 have z1 := (d1.cell _).trans z0
 clear HPL x0 y0 z0
 go_upto_region 2 with fail
 by_cases h1 : ph = 2
 ·
  have q1 : (ph == 2) = true := by rw [h1]; rfl
  by_cases h2 : pt = (p : Int)
  ·
   have q2 : (pt == (p : Int)) = true := by rw [h2]; simp
   by_cases h3 : n = 0
   ·
    have q3 : decide (0 < n) = false := decide_eq_false (by omega)
    have H := Lib.hid (And.intro h1 (And.intro h2 h3))
    clear h1 h2 h3
    go_quiet (first
     | (go_at_call 91; exact Calls.quiet_of_same (HPh.out _ (d1.trans (Drw.drewN _ _))))
     | (go_at_call 137; exact Calls.quiet_of_same (HPt.out _ (d1.trans (Drw.drewN _ _))))
     | (go_at_call 142; exact Calls.quiet_of_same (HGv.out _ (d1.trans (Drw.drewN _ _))))
     | (go_at_call 86; exact Calls.quiet_drw (HLn.out _ (d1.trans (Drw.drewN _ _))))
     | exact Calls.quiet_drw (HMC.out _ (d1.trans (Drw.drewN _ _))))
    go_wp2
    go_ret
    refine ⟨ret_bool ?_,d1.trans (Drw.drewN _ _)⟩
    rw [HB.out]
    simp [H.out.1,H.out.2.1,H.out.2.2]
   ·
    have q3 : 0 < n := by omega
    by_cases h4 : (p : Int) = 0
    ·
     have q4 : ((p : Int) == 0) = true := by rw [h4]; rfl
     have H := Lib.hid (And.intro h1 (And.intro h2 (And.intro h3 h4)))
     clear h1 h2 h3 h4
     go_quiet (first
      | (go_at_call 91; exact Calls.quiet_of_same (HPh.out _ (d1.trans (Drw.drewN _ _))))
      | (go_at_call 137; exact Calls.quiet_of_same (HPt.out _ (d1.trans (Drw.drewN _ _))))
      | (go_at_call 142; exact Calls.quiet_of_same (HGv.out _ (d1.trans (Drw.drewN _ _))))
      | (go_at_call 86; exact Calls.quiet_drw (HLn.out _ (d1.trans (Drw.drewN _ _))))
      | exact Calls.quiet_drw (HMC.out _ (d1.trans (Drw.drewN _ _))))
     go_wp2
     go_ret
     refine ⟨ret_bool ?_,d1.trans (Drw.drewN _ _)⟩
     rw [HB.out]
     simp [H.out.1,H.out.2.1,H.out.2.2]
    ·
     have q4 : ((p : Int) == 0) = false := by simpa using h4
     have H := Lib.hid (And.intro h1 (And.intro h2 (And.intro h3 h4)))
     clear h1 h2 h3 h4
     go_quiet (first
      | (go_at_call 91; exact Calls.quiet_of_same (HPh.out _ (d1.trans (Drw.drewN _ _))))
      | (go_at_call 137; exact Calls.quiet_of_same (HPt.out _ (d1.trans (Drw.drewN _ _))))
      | (go_at_call 142; exact Calls.quiet_of_same (HGv.out _ (d1.trans (Drw.drewN _ _))))
      | (go_at_call 86; exact Calls.quiet_drw (HLn.out _ (d1.trans (Drw.drewN _ _))))
      | exact Calls.quiet_drw (HMC.out _ (d1.trans (Drw.drewN _ _))))
     go_wp2
     go_ret
     refine ⟨ret_bool ?_,d1.trans (Drw.drewN _ _)⟩
     rw [HB.out]
     simp [H.out.1,H.out.2.1,H.out.2.2]
     exact fun e => absurd (by omega) H.out.2.2.2
  ·
   have q2 : (pt == (p : Int)) = false := by simpa using h2
   have H := Lib.hid (And.intro h1 h2)
   clear h1 h2
   go_quiet (first
    | (go_at_call 91; exact Calls.quiet_of_same (HPh.out _ (d1.trans (Drw.drewN _ _))))
    | (go_at_call 137; exact Calls.quiet_of_same (HPt.out _ (d1.trans (Drw.drewN _ _))))
    | (go_at_call 142; exact Calls.quiet_of_same (HGv.out _ (d1.trans (Drw.drewN _ _))))
    | (go_at_call 86; exact Calls.quiet_drw (HLn.out _ (d1.trans (Drw.drewN _ _))))
    | exact Calls.quiet_drw (HMC.out _ (d1.trans (Drw.drewN _ _))))
   go_wp2
   go_ret
   refine ⟨ret_bool ?_,d1.trans (Drw.drewN _ _)⟩
   rw [HB.out]
   simp [H.out.1,H.out.2]
 ·
  have q1 : (ph == 2) = false := by simpa using h1
  have H := Lib.hid h1
  clear h1
  go_quiet (first
   | (go_at_call 91; exact Calls.quiet_of_same (HPh.out _ (d1.trans (Drw.drewN _ _))))
   | (go_at_call 137; exact Calls.quiet_of_same (HPt.out _ (d1.trans (Drw.drewN _ _))))
   | (go_at_call 142; exact Calls.quiet_of_same (HGv.out _ (d1.trans (Drw.drewN _ _))))
   | (go_at_call 86; exact Calls.quiet_drw (HLn.out _ (d1.trans (Drw.drewN _ _))))
   | exact Calls.quiet_drw (HMC.out _ (d1.trans (Drw.drewN _ _))))
  go_wp2
  go_ret
  refine ⟨ret_bool ?_,d1.trans (Drw.drewN _ _)⟩
  rw [HB.out]
  simp [H.out]
def moveAns (c : Cfg) (s : RouterS) (p : Nat) (may : Int→Bool) (i : Nat) : Bool := moveB (s.lanes.getD ((s.moves.getD p (-1) + 1 + i) % (5 * c.Lanes)).toNat LaneS.new) p may
def RouterS.moveK (c : Cfg) (s : RouterS) (p : Nat) (may : Int→Bool) : Option Int := seeR (5 * c.Lanes) (s.moves.getD p (-1)) (moveAns c s p may)
theorem May.later {g : Nat} {pv : Value} {c : Cfg} {w w1 : World} {may : Int→Bool} (h : May g pv c w may) (d : Drw w w1) : May g pv c w1 may := ⟨h.enters,fun l w2 hl d2 => h.call l w2 hl (d.trans d2)⟩
theorem asks_move {b : Nat} {A : RAddr} {c : Cfg} {node : Int} {s : RouterS} {own : Nat→Prop} {w : World} (hF : Fam (routerX b A c node s) w own) (hs : RouterOk c s) (hc : c.Ok) {p : Nat} (hp : p < 5) {g : Nat} {pv : Value} {may : Int→Bool} (hM : May g pv c w may) {X Y Z : Nat} {tX tY tZ : TypeId}
  (kX : Blk w X #[.pointer (some ⟨b,0,none⟩)] tX) (kY : Blk w Y #[.int .i64 (p : Int)] tY) (kZ : Blk w Z #[.func (.func g) #[pv] #[]] tZ) :
  Asks 141 #[.pointer (some ⟨X,0,none⟩),.pointer (some ⟨Y,0,none⟩),.pointer (some ⟨Z,0,none⟩)] (A.fm p) (5 * c.Lanes) (s.moves.getD p (-1)) (moveAns c s p may) (fun _ w' => Drw w w') where
 p1 := by have := hc.L1; omega
 p2 := by have := hc.L2; omega
 l1 := (getD_P (by rw [hs.ml]; exact hp) hs.move (-1)).1
 l2 := (getD_P (by rw [hs.ml]; exact hp) hs.move (-1)).2
 enters := enters_of Tryz.func141 (by kernel_rfl) rfl
 c0 := fun _ _ h => by rw [h.cell,(router_moves hF hs hp).1.cell]; rfl
 c1 := fun _ _ h => by rw [h.cell,(router_moves hF hs hp).1.cell]; rfl
 fz := fun _ _ h => by rw [h.frozen]; exact (router_moves hF hs hp).1.fz 1
 drewN := fun _ _ m h => h.trans (Drw.drewN _ m)
 call := by
  intro i w1 hi hd
  have hL1 := hc.L1
  obtain ⟨jn,hjn⟩ : ∃ jn : Nat,(s.moves.getD p (-1) + 1 + i) % (5 * c.Lanes) = (jn : Int) := Int.eq_ofNat_of_zero_le (Int.emod_nonneg _ (by omega))
  have hjl : (jn : Int) < 5 * c.Lanes := by rw [← hjn]; exact Int.emod_lt_of_pos _ (by omega)
  have ea : moveAns c s p may i = moveB (s.lanes.getD jn LaneS.new) p may := by
   unfold moveAns
   rw [hjn]
   rfl
  rw [hjn,ea]
  have m := hd.mod (fun _ => False)
  refine (router_move1 b A c node p jn s own w1 g pv may X Y Z ((Fam.stable (routerX_stable b A c node s)).later hF m (by simp)) hs hc hp (by omega) (hM.later hd) ((hd.cell _).trans (by rw [kX.cell]; rfl)) ((hd.cell _).trans (by rw [kY.cell]; rfl)) ((hd.cell _).trans (by rw [kZ.cell]; rfl))).mono ?_
  rintro e w' ⟨rfl,hd'⟩
  exact ⟨rfl,hd.trans hd'⟩
open Go.RowKit
theorem seeR_yes {places last : Int} {ans : Nat→Bool} {v : Int} (h : seeR places last ans = some v) : ∃ i : Nat,v = (last + 1 + i) % places∧ans i = true := by
 unfold seeR at h
 cases hf : firstI places ans with
 | none => simp [hf] at h
 | some k =>
  simp [hf] at h
  refine ⟨k,h.symm,?_⟩
  unfold firstI at hf
  exact (List.find?_range_eq_some.1 hf).1
theorem moveK_yes {c : Cfg} {s : RouterS} {p : Nat} {may : Int→Bool} {k : Int} (h : s.moveK c p may = some k) : moveB (s.lanes.getD k.toNat LaneS.new) p may = true := by
 obtain ⟨i,rfl,ha⟩ := seeR_yes h
 exact ha
theorem moveB_yes {y : LaneS} {p : Nat} {may : Int→Bool} (h : moveB y p may = true) : y.phase = 2∧y.port = (p : Int)∧y.q ≠ []∧(p = 0∨may y.lane = true) := by
 unfold moveB at h
 simp only [Bool.and_eq_true,decide_eq_true_eq,Bool.or_eq_true] at h
 exact ⟨h.1.1.1,h.1.1.2,h.1.2,h.2.imp (fun e => by omega) id⟩
def movedV (o : OutS) (f l : Int) : Array Value := #[.int .i64 o.port,.int .i64 o.lane,.int .u64 (o.word : Int),.bool o.copy,.bool o.ends,.int .i64 f,.int .i64 l]
def RouterS.moved (c : Cfg) (s : RouterS) (p k x : Nat) (l : List Nat) : RouterS :=
 ⟨s.lanes.set k ((s.lanes.getD k LaneS.new).rest x l),if ((s.lanes.getD k LaneS.new).out x).ends = true∧p ≠ 0 then s.owners.set (p * c.Lanes.toNat + (s.lanes.getD k LaneS.new).lane.toNat) (-1) else s.owners,s.gives,s.moves.set p (k : Int)⟩
def RMovePost (b : Nat) (c : Cfg) (node : Int) (own : Nat→Prop) (w : World) (s' : RouterS) (v : Array Value) (r : Bool) (e : Ending) (w' : World) : Prop :=
 e = .returned (.tuple #[.agg v,.bool r])∧Turn own (RouterAt b c node s') w w'
theorem router_move_none (b : Nat) (c : Cfg) (node : Int) (p : Nat) (s : RouterS) (own : Nat→Prop) (w : World) (g : Nat) (pv : Value) (may : Int→Bool) (h : RouterAt b c node s w own) (hs : RouterOk c s) (hc : c.Ok) (hp : p < 5)
  (hM : ∀ w1,Mod (fun _ => False) w w1→May g pv c w1 may) (hk : s.moveK c p may = none) :
  Calls Tryz.prog 99 #[.pointer (some ⟨b,0,none⟩),.int .i64 (p : Int),.func (.func g) #[pv] #[]] w (RMovePost b c node own w s #[.int .i64 0,.int .i64 0,.int .u64 0,.bool false,.bool false,.int .i64 0,.int .i64 0] false) := by
 obtain ⟨A,hF⟩ := h
 have kX := (((Blk.made w #[.pointer (some ⟨b,0,none⟩)] 69).alloc (.cells #[.int .i64 (p : Int)] 3)).alloc (.cells #[.func (.func g) #[pv] #[]] 57)).alloc (.cells #[.int .i64 0,.int .i64 0,.int .u64 0,.bool false,.bool false,.int .i64 0,.int .i64 0] 149)
 have kY := ((Blk.made2 w (.cells #[.pointer (some ⟨b,0,none⟩)] 69) #[.int .i64 (p : Int)] 3).alloc (.cells #[.func (.func g) #[pv] #[]] 57)).alloc (.cells #[.int .i64 0,.int .i64 0,.int .u64 0,.bool false,.bool false,.int .i64 0,.int .i64 0] 149)
 have kZ := (Blk.made2 (w.alloc (.cells #[.pointer (some ⟨b,0,none⟩)] 69)) (.cells #[.int .i64 (p : Int)] 3) #[.func (.func g) #[pv] #[]] 57).alloc (.cells #[.int .i64 0,.int .i64 0,.int .u64 0,.bool false,.bool false,.int .i64 0,.int .i64 0] 149)
 have kR := Blk.made2 ((w.alloc (.cells #[.pointer (some ⟨b,0,none⟩)] 69)).alloc (.cells #[.int .i64 (p : Int)] 3)) (.cells #[.func (.func g) #[pv] #[]] 57) #[.int .i64 0,.int .i64 0,.int .u64 0,.bool false,.bool false,.int .i64 0,.int .i64 0] 149
 have m0 : Mod (fun _ => False) w ((((w.alloc (.cells #[.pointer (some ⟨b,0,none⟩)] 69)).alloc (.cells #[.int .i64 (p : Int)] 3)).alloc (.cells #[.func (.func g) #[pv] #[]] 57)).alloc (.cells #[.int .i64 0,.int .i64 0,.int .u64 0,.bool false,.bool false,.int .i64 0,.int .i64 0] 149)) := ((((Mod.refl _ _).alloc _).alloc _).alloc _).alloc _
 simp only [World.size_alloc,Nat.add_assoc,Nat.reduceAdd] at kX kY kZ kR
 have hM0 := hM _ m0
 have hF0 := (Fam.stable (routerX_stable b A c node s)).later hF m0 (by simp)
 have q4 : ¬ (p : Int) < 0 := by omega
 have q5 : ¬ (5 : Int) ≤ (p : Int) := by omega
 have q6 : (0 : Int) ≤ (p : Int) := by omega
 have q7 : (p : Int) < 5 := by omega
 go_enter Tryz.func99,Tryz.ntmps99
 go_upto_region 1 with fail
 generalize ((((w.alloc (.cells #[.pointer (some ⟨b,0,none⟩)] 69)).alloc (.cells #[.int .i64 (p : Int)] 3)).alloc (.cells #[.func (.func g) #[pv] #[]] 57)).alloc (.cells #[.int .i64 0,.int .i64 0,.int .u64 0,.bool false,.bool false,.int .i64 0,.int .i64 0] 149)) = w0 at kX kY kZ kR m0 hM0 hF0 ⊢
 have x0 := kX.cell 0
 have y0 := kY.cell 0
 simp at x0 y0
 have HN := Lib.hid (fun n => fair_next _ _ _ _ _ _ _ (w0.drewN n) (asks_move ((Fam.stable (routerX_stable b A c node s)).later hF0 ((Mod.refl (fun _ => False) w0).drewN n) (by simp)) hs hc hp (hM0.later (Drw.drewN _ n)) (kX.drewN n) (kY.drewN n) (kZ.drewN n)) (Drw.refl _))
 obtain ⟨ob,⟨kb,-⟩,-⟩ := hF0.at (routerX_stable b A c node s) .blk
 have cm := (router_side kb hp).2.2.2
 go_upto_region 3 with fail
 go_quiet (fail)
 go_wp2_with fail
 refine (HN.out _).mono ?_
 rintro e w1 ⟨rfl,w2,hd,rfl⟩
 have hd2 := (Drw.drewN w0 nq).trans hd
 rw [show seeR (5 * c.Lanes) (s.moves.getD p (-1)) (moveAns c s p may) = s.moveK c p may from rfl]
 rw [hk]
 simp only [Option.getD_none,Option.isSome_none,setLast]
 have kR2 := kR.drw hd2
 have m2 := m0.trans (hd2.mod (fun _ => False)) (fun _ _ e => e)
 have HT := Lib.hid (fun w' (m : Mod (fun _ => False) w w') => Turn.same (RouterAt.stable b c node s) ⟨A,hF⟩ m)
 clear HN kX kY kZ kR m0 hM0 hF0 kb cm x0 y0 hd hd2 hF hk
 have r0 := kR2.cell 0
 have r1 := kR2.cell 1
 have r2 := kR2.cell 2
 have r3 := kR2.cell 3
 have r4 := kR2.cell 4
 have r5 := kR2.cell 5
 have r6 := kR2.cell 6
 simp at r0 r1 r2 r3 r4 r5 r6
 have u0 := kR2.fz 0
 have u1 := kR2.fz 1
 have u2 := kR2.fz 2
 have u3 := kR2.fz 3
 have u4 := kR2.fz 4
 have u5 := kR2.fz 5
 have u6 := kR2.fz 6
 go_wp2
 have qE := (((((((kR2.set (0) (.int .i64 0)).set (1) (.int .i64 0)).set (2) (.int .u64 0)).set (3) (.bool false)).set (4) (.bool false)).set (5) (.int .i64 0)).set (6) (.int .i64 0))
 have mE := (((((((m2.setCell (p := ⟨w.heap.size + 3,0,none⟩) (Or.inr (by simp only []; omega)) (.int .i64 0)).setCell (p := ⟨w.heap.size + 3,1,none⟩) (Or.inr (by simp only []; omega)) (.int .i64 0)).setCell (p := ⟨w.heap.size + 3,2,none⟩) (Or.inr (by simp only []; omega)) (.int .u64 0)).setCell (p := ⟨w.heap.size + 3,3,none⟩) (Or.inr (by simp only []; omega)) (.bool false)).setCell (p := ⟨w.heap.size + 3,4,none⟩) (Or.inr (by simp only []; omega)) (.bool false)).setCell (p := ⟨w.heap.size + 3,5,none⟩) (Or.inr (by simp only []; omega)) (.int .i64 0)).setCell (p := ⟨w.heap.size + 3,6,none⟩) (Or.inr (by simp only []; omega)) (.int .i64 0))
 have mB := ((((((((Mod.refl (fun g => g = w.heap.size + 3) w2).setCell (p := ⟨w.heap.size + 3,0,none⟩) (Or.inl rfl) (.int .i64 0)).setCell (p := ⟨w.heap.size + 3,1,none⟩) (Or.inl rfl) (.int .i64 0)).setCell (p := ⟨w.heap.size + 3,2,none⟩) (Or.inl rfl) (.int .u64 0)).setCell (p := ⟨w.heap.size + 3,3,none⟩) (Or.inl rfl) (.bool false)).setCell (p := ⟨w.heap.size + 3,4,none⟩) (Or.inl rfl) (.bool false)).setCell (p := ⟨w.heap.size + 3,5,none⟩) (Or.inl rfl) (.int .i64 0)).setCell (p := ⟨w.heap.size + 3,6,none⟩) (Or.inl rfl) (.int .i64 0))
 simp at qE
 generalize (((((((w2.setCell ⟨w.heap.size + 3,0,none⟩ (.int .i64 0)).setCell ⟨w.heap.size + 3,1,none⟩ (.int .i64 0)).setCell ⟨w.heap.size + 3,2,none⟩ (.int .u64 0)).setCell ⟨w.heap.size + 3,3,none⟩ (.bool false)).setCell ⟨w.heap.size + 3,4,none⟩ (.bool false)).setCell ⟨w.heap.size + 3,5,none⟩ (.int .i64 0)).setCell ⟨w.heap.size + 3,6,none⟩ (.int .i64 0)) = wE at qE mE mB ⊢
 have qe0 := qE.cell 0
 have qe1 := qE.cell 1
 have qe2 := qE.cell 2
 have qe3 := qE.cell 3
 have qe4 := qE.cell 4
 have qe5 := qE.cell 5
 have qe6 := qE.cell 6
 simp at qe0 qe1 qe2 qe3 qe4 qe5 qe6
 exact bodyPost_ret (v := .tuple #[.agg #[.int .i64 0,.int .i64 0,.int .u64 0,.bool false,.bool false,.int .i64 0,.int .i64 0],.bool false]) (by simp [results,Tryz.results99,go_sem,qe0,qe1,qe2,qe3,qe4,qe5,qe6]) rfl ⟨rfl,HT.out _ mE⟩
theorem router_move_some (b : Nat) (c : Cfg) (node : Int) (p kn x : Nat) (l : List Nat) (s : RouterS) (own : Nat→Prop) (w : World) (g : Nat) (pv : Value) (may : Int→Bool) (h : RouterAt b c node s w own) (hs : RouterOk c s) (hc : c.Ok) (hp : p < 5)
  (hM : ∀ w1,Mod (fun _ => False) w w1→May g pv c w1 may) (hk : s.moveK c p may = some (kn : Int)) (hq : (s.lanes.getD kn LaneS.new).q = x :: l) :
  Calls Tryz.prog 99 #[.pointer (some ⟨b,0,none⟩),.int .i64 (p : Int),.func (.func g) #[pv] #[]] w (RMovePost b c node own w (s.moved c p kn x l) (movedV ((s.lanes.getD kn LaneS.new).out x) ((kn : Int) / c.Lanes) ((kn : Int) % c.Lanes)) true) := by
 obtain ⟨A,hF⟩ := h
 have hlt := fun g (hg : own g) => (Fam.stable (routerX_stable b A c node s)).lt hF hg
 have hy := mem_getD hs.lane (LaneOk.new hc) kn
 obtain ⟨hph,hport,-,-⟩ := moveB_yes (moveK_yes hk)
 rw [Int.toNat_natCast] at hph hport
 have hL1 := hc.L1
 have hlane := hy.lane
 obtain ⟨ot,hot⟩ : ∃ o,(s.lanes.getD kn LaneS.new).out x = o := ⟨_,rfl⟩
 have hol : ot.lane = (s.lanes.getD kn LaneS.new).lane := by rw [← hot]; rfl
 obtain ⟨ln,hln⟩ := Int.eq_ofNat_of_zero_le hlane.1
 rw [hln] at hol hlane
 have hS : s.moved c p kn x l = ⟨(s.lanes.set kn ((s.lanes.getD kn LaneS.new).rest x l)),if ot.ends = true∧p ≠ 0 then s.owners.set (p * c.Lanes.toNat + ln) (-1) else s.owners,s.gives,s.moves.set p (kn : Int)⟩ := by
  unfold RouterS.moved
  rw [hot,hln]
  rfl
 rw [hS,hot]
 obtain ⟨y',hy'⟩ : ∃ y',(s.lanes.getD kn LaneS.new).rest x l = y' := ⟨_,rfl⟩
 rw [hy']
 obtain ⟨op,olane,ow,oc,oe⟩ := ot
 dsimp only at hol ⊢
 subst hol
 obtain ⟨os,hos⟩ : ∃ os,(if oe = true∧p ≠ 0 then s.owners.set (p * c.Lanes.toNat + ln) (-1) else s.owners) = os := ⟨_,rfl⟩
 rw [hos]
 have HOS := Lib.hid hos
 have hkn0 : kn < 5 * c.Lanes.toNat := by have := (seeR_bd (by omega) hk).2; omega
 have hf1 : (kn : Int) / c.Lanes < 5 := Int.ediv_lt_of_lt_mul (by omega) (by omega)
 have hf0 : 0 ≤ (kn : Int) / c.Lanes := Int.ediv_nonneg (by omega) (by omega)
 have hr0 : 0 ≤ (kn : Int) % c.Lanes := Int.emod_nonneg _ (by omega)
 have hr1 : (kn : Int) % c.Lanes < c.Lanes := Int.emod_lt_of_pos _ (by omega)
 have hL2 := hc.L2
 obtain ⟨fV,e3⟩ : ∃ v,(kn : Int) / c.Lanes = v := ⟨_,rfl⟩
 obtain ⟨rV,e4⟩ : ∃ v,(kn : Int) % c.Lanes = v := ⟨_,rfl⟩
 have e1 : ((kn : Int)).tdiv c.Lanes = fV := by rw [Int.tdiv_eq_ediv_of_nonneg (by omega),e3]
 have e2 : ((kn : Int)).tmod c.Lanes = rV := by rw [Int.tmod_eq_emod_of_nonneg (by omega),e4]
 rw [e3] at hf0 hf1
 rw [e4] at hr0 hr1
 rw [e3,e4]
 have e5 : IntKind.i64.wrap fV = fV := IntWalk.i64_in _ (by omega)
 have e6 : IntKind.i64.wrap rV = rV := IntWalk.i64_in _ (by omega)
 have nz1 : (c.Lanes == 0) = false := by simp; omega
 have nz2 : ¬ c.Lanes = 0 := by omega
 clear hos hS
 have kX := (((Blk.made w #[.pointer (some ⟨b,0,none⟩)] 69).alloc (.cells #[.int .i64 (p : Int)] 3)).alloc (.cells #[.func (.func g) #[pv] #[]] 57)).alloc (.cells #[.int .i64 0,.int .i64 0,.int .u64 0,.bool false,.bool false,.int .i64 0,.int .i64 0] 149)
 have kY := ((Blk.made2 w (.cells #[.pointer (some ⟨b,0,none⟩)] 69) #[.int .i64 (p : Int)] 3).alloc (.cells #[.func (.func g) #[pv] #[]] 57)).alloc (.cells #[.int .i64 0,.int .i64 0,.int .u64 0,.bool false,.bool false,.int .i64 0,.int .i64 0] 149)
 have kZ := (Blk.made2 (w.alloc (.cells #[.pointer (some ⟨b,0,none⟩)] 69)) (.cells #[.int .i64 (p : Int)] 3) #[.func (.func g) #[pv] #[]] 57).alloc (.cells #[.int .i64 0,.int .i64 0,.int .u64 0,.bool false,.bool false,.int .i64 0,.int .i64 0] 149)
 have kR := Blk.made2 ((w.alloc (.cells #[.pointer (some ⟨b,0,none⟩)] 69)).alloc (.cells #[.int .i64 (p : Int)] 3)) (.cells #[.func (.func g) #[pv] #[]] 57) #[.int .i64 0,.int .i64 0,.int .u64 0,.bool false,.bool false,.int .i64 0,.int .i64 0] 149
 have m0 : Mod (fun _ => False) w ((((w.alloc (.cells #[.pointer (some ⟨b,0,none⟩)] 69)).alloc (.cells #[.int .i64 (p : Int)] 3)).alloc (.cells #[.func (.func g) #[pv] #[]] 57)).alloc (.cells #[.int .i64 0,.int .i64 0,.int .u64 0,.bool false,.bool false,.int .i64 0,.int .i64 0] 149)) := ((((Mod.refl _ _).alloc _).alloc _).alloc _).alloc _
 simp only [World.size_alloc,Nat.add_assoc,Nat.reduceAdd] at kX kY kZ kR
 have hM0 := hM _ m0
 have hF0 := (Fam.stable (routerX_stable b A c node s)).later hF m0 (by simp)
 have q4 : ¬ (p : Int) < 0 := by omega
 have q5 : ¬ (5 : Int) ≤ (p : Int) := by omega
 have q6 : (0 : Int) ≤ (p : Int) := by omega
 have q7 : (p : Int) < 5 := by omega
 go_enter Tryz.func99,Tryz.ntmps99
 go_upto_region 1 with fail
 generalize ((((w.alloc (.cells #[.pointer (some ⟨b,0,none⟩)] 69)).alloc (.cells #[.int .i64 (p : Int)] 3)).alloc (.cells #[.func (.func g) #[pv] #[]] 57)).alloc (.cells #[.int .i64 0,.int .i64 0,.int .u64 0,.bool false,.bool false,.int .i64 0,.int .i64 0] 149)) = w0 at kX kY kZ kR m0 hM0 hF0 ⊢
 have x0 := kX.cell 0
 have y0 := kY.cell 0
 simp at x0 y0
 have HN := Lib.hid (fun n => fair_next _ _ _ _ _ _ _ (w0.drewN n) (asks_move ((Fam.stable (routerX_stable b A c node s)).later hF0 ((Mod.refl (fun _ => False) w0).drewN n) (by simp)) hs hc hp (hM0.later (Drw.drewN _ n)) (kX.drewN n) (kY.drewN n) (kZ.drewN n)) (Drw.refl _))
 obtain ⟨ob,⟨kb,-⟩,-⟩ := hF0.at (routerX_stable b A c node s) .blk
 have cm := (router_side kb hp).2.2.2
 go_upto_region 3 with fail
 go_quiet (fail)
 go_wp2_with fail
 refine (HN.out _).mono ?_
 rintro e w1 ⟨rfl,w2,hd,rfl⟩
 have hd2 := (Drw.drewN w0 nq).trans hd
 rw [show seeR (5 * c.Lanes) (s.moves.getD p (-1)) (moveAns c s p may) = s.moveK c p may from rfl]
 rw [hk]
 have hkn : kn < 5 * c.Lanes.toNat := by have := (seeR_bd (by omega) hk).2; omega
 have t1 := (router_moves ((Fam.stable (routerX_stable b A c node s)).later hF0 (hd2.mod (fun _ => False)) (by simp)) hs hp).2 (some (kn : Int))
 simp only [Option.getD_some,Option.isSome_some] at t1 ⊢
 obtain ⟨o1,F1,m1,ho1⟩ := t1
 have hsz := m0.size
 have hsz2 := (hd2.mod (fun _ => False)).size
 have hsz23 := m1.size
 have kX2 := (kX.drw hd2).later m1 (fun h => by have := hlt _ h; omega)
 have kY2 := (kY.drw hd2).later m1 (fun h => by have := hlt _ h; omega)
 have kR2 := (kR.drw hd2).later m1 (fun h => by have := hlt _ h; omega)
 have hmm := (m0.trans (hd2.mod (fun _ => False)) (fun _ _ e => e)).trans' (S := own) m1 (fun _ _ e => e.elim) (fun _ _ e => e)
 have hR1 : w.heap.size + 3 < w0.heap.size := kR.lt
 have ho1' : ∀ g,o1 g→own g∨w0.heap.size ≤ g := fun g hg => (ho1 g hg).imp id (fun e => by omega)
 clear HN kX kY kZ kR hM0 hF0 x0 y0 hd hd2 hF kb cm m1 ho1
 generalize setLast (A.fm p) (some (kn : Int)) w2 = w3 at F1 kX2 kY2 kR2 hmm hsz23 ⊢
 have HPL := Lib.hid (router_place b A c node kn _ o1 w3 F1 hkn hc.L1 hc.L2)
 have HTK := Lib.hid (fun w4 (d : Drw w3 w4) => by
  have F4 := (Fam.stable (routerX_stable b A c node ⟨s.lanes,s.owners,s.gives,s.moves.set p (kn : Int)⟩)).later F1 (d.mod (fun _ => False)) (by simp)
  obtain ⟨ol,hL,hlo,put⟩ := router_lane F4 hkn hs.ll
  exact (lane_take _ _ x l _ _ _ hL (hy.q x (by rw [hq]; simp)) hq hph).mono fun e w' ⟨he,t⟩ => (⟨he,put _ w' t⟩ : e = Ending.returned (.tuple #[.agg ((s.lanes.getD kn LaneS.new).out x).cells,.int .i64 0])∧Turn o1 (Fam (routerX b A c node ((⟨s.lanes,s.owners,s.gives,s.moves.set p (kn : Int)⟩ : RouterS).setLane kn ((s.lanes.getD kn LaneS.new).rest x l)))) w4 w'))
 rw [hot,hy'] at HTK
 simp only [OutS.cells] at HTK
 have x0 := kX2.cell 0
 simp at x0
 clear hk hot hln hy' hy hq hph hport
 go_wp2_with fail
 refine HPL.out.mono ?_
 rintro e w4 ⟨rfl,d4⟩
 go_wp2_with fail
 refine (HTK.out _ d4).mono ?_
 rintro e w5 ⟨rfl,t5⟩
 obtain ⟨o5,F5,m5,ho5⟩ := t5
 have hsz3 := hmm.size
 have hsz4 := (d4.mod (fun _ => False)).size
 have n1 : ∀ g,w.heap.size ≤ g→g < w0.heap.size→¬ o1 g := fun g h1 h2 h => by
  rcases ho1' g h with h3 | h3
  ·
   have := hlt g h3; omega
  ·
   omega
 have kX5 := (kX2.drw d4).later m5 (n1 _ (by omega) (by omega))
 have kY5 := (kY2.drw d4).later m5 (n1 _ (by omega) (by omega))
 have kR5 := (kR2.drw d4).later m5 (n1 _ (by omega) (by omega))
 have m5 := (d4.mod (fun _ => False)).trans' (S := o1) m5 (fun _ _ e => e.elim) (fun _ _ e => e)
 have hsz5 := m5.size
 have ho5' : ∀ g,o5 g→own g∨w0.heap.size ≤ g := fun g hg => by
  rcases ho5 g hg with h | h
  ·
   exact ho1' g h
  ·
   exact Or.inr (by omega)
 have hm5 := hmm.trans' (S := own) m5 (fun _ _ e => e) (fun g hg h => by
  rcases ho1' g h with h3 | h3
  ·
   exact h3
  ·
   omega)
 have n5 : ∀ g,w.heap.size ≤ g→g < w0.heap.size→¬ o5 g := fun g h1 h2 h => by
  rcases ho5' g h with h3 | h3
  ·
   have := hlt g h3; omega
  ·
   omega
 clear kX2 kY2 kR2 hmm HPL HTK x0 F1 m5 ho5 ho1' n1
 go_upto_region 8 with fail
 have kO := Blk.made w5 #[.int .i64 op,.int .i64 (ln : Int),.int .u64 (ow : Int),.bool oc,.bool oe] 147
 have m6 : Mod (fun _ => False) w5 (w5.alloc (.cells #[.int .i64 op,.int .i64 (ln : Int),.int .u64 (ow : Int),.bool oc,.bool oe] 147)) := (Mod.refl _ _).alloc _
 have s6 : w5.heap.size < (w5.alloc (.cells #[.int .i64 op,.int .i64 (ln : Int),.int .u64 (ow : Int),.bool oc,.bool oe] 147)).heap.size := by simp
 generalize w5.alloc (.cells #[.int .i64 op,.int .i64 (ln : Int),.int .u64 (ow : Int),.bool oc,.bool oe] 147) = w6 at kO m6 s6 ⊢
 have F6 := (Fam.stable (routerX_stable b A c node _)).later F5 m6 (by simp)
 have nO : ¬ o5 w5.heap.size := fun h => by have := (Fam.stable (routerX_stable b A c node _)).lt F5 h; omega
 have kX6 := kX5.later m6 (by simp)
 have kY6 := kY5.later m6 (by simp)
 have kR6 := kR5.later m6 (by simp)
 have hm6 := hm5.trans m6 (fun _ _ e => e.elim)
 clear F5 kX5 kY5 kR5 hm5 m6
 have x6 := kX6.cell 0
 have y6 := kY6.cell 0
 simp at x6 y6
 have o0 := kO.cell 0
 have o1 := kO.cell 1
 have o2 := kO.cell 2
 have o3 := kO.cell 3
 have o4 := kO.cell 4
 simp at o0 o1 o2 o3 o4
 by_cases hcond : oe = true∧p ≠ 0
 ·
  have hos := HOS.out
  rw [if_pos hcond] at hos
  obtain ⟨hoe,hp0⟩ := hcond
  subst hoe
  have q8 : ((p : Int) != 0) = true := by simp; omega
  clear hp0 HOS
  have hlnL : ln < c.Lanes.toNat := by omega
  obtain ⟨g',o,cc,hov,hcell,hset⟩ := router_own F6 hs.ol hc hp
  obtain ⟨hfz,t7⟩ := hset ln (-1) hlnL
  have hgc := hcell ln hlnL
  obtain ⟨ob6,⟨kb6,-⟩,-⟩ := F6.at (routerX_stable b A c node _) .blk
  have cs6 := (router_side kb6 hp).2.1
  obtain ⟨LL,hLL⟩ : ∃ LL,c.Lanes.toNat = LL := ⟨_,rfl⟩
  have i0 : (0 : Int) ≤ (ln : Int) := by omega
  have i1 : (ln : Int) < (LL : Int) := by omega
  rw [hov,hLL] at cs6
  simp only [RouterS.setLane] at t7
  rw [hos] at t7
  have t7 := Turn.behind (Fam.stable (routerX_stable b A c node _)) t7 ((Mod.refl (fun _ => False) _).drew)
  have T7 := Lib.hid t7
  clear hcell hset t7 kb6 hov hLL hlnL hos
  go_upto_region 9 with fail
  go_still_tail 7,(by kernel_rfl)
  change wpList _ _ _ _ _ w6.drew
  go_wp2_with fail
  generalize (w6.setCell ⟨g',o + ln,none⟩ (.int .i64 (-1))).drew = w7 at T7 ⊢
  obtain ⟨o7,F7,m7,ho7⟩ := T7.out
  have kX7 := kX6.later m7 (n5 _ (by omega) (by omega))
  have kO7 := kO.later m7 nO
  have kR7 := kR6.later m7 (n5 _ (by omega) hR1)
  have hm7 := hm6.trans' (S := own) m7 (fun _ _ e => e) (fun g hg h => by
   rcases ho5' g h with h3 | h3
   ·
    exact h3
   ·
    omega)
  have ho7 : ∀ g,o7 g→own g∨w0.heap.size ≤ g := fun g hg => by
   rcases ho7 g hg with h | h
   ·
    exact ho5' g h
   ·
    exact Or.inr (by omega)
  have n7 : ¬ o7 (w.heap.size + 3) := fun h => by
   rcases ho7 _ h with h | h
   ·
    have := hlt _ h; omega
   ·
    omega
  clear T7 F6 kX6 kY6 kO kR6 hm6 m7 x6 y6 o0 o1 o2 o3 o4 hgc hfz cs6
  have v0 := kO7.cell 0
  have v1 := kO7.cell 1
  have v2 := kO7.cell 2
  have v3 := kO7.cell 3
  have v4 := kO7.cell 4
  simp at v0 v1 v2 v3 v4
  have HT := Lib.hid (fun wE (mE : Mod own w wE) (mB : Mod (fun g => g = w.heap.size + 3) w7 wE) => (⟨o7,⟨A,(Fam.stable (routerX_stable b A c node _)).later F7 mB (fun g hg e => n7 (e ▸ hg))⟩,mE,fun g hg => (ho7 g hg).imp id (fun h => by omega)⟩ : Turn own (RouterAt b c node ⟨s.lanes.set kn y',os,s.gives,s.moves.set p (kn : Int)⟩) w wE))
  obtain ⟨ob7,⟨kb7,-⟩,-⟩ := F7.at (routerX_stable b A c node _) .blk
  have c2 := (router_head kb7).1
  have x7 := kX7.cell 0
  simp at x7
  clear kb7 F7
  go_upto_region 10 with fail
  go_still_tail 16,(by kernel_rfl)
  have kR8 := kR7.drew
  have m8 := hm7.drew
  have b8 := (Mod.refl (fun g => g = w.heap.size + 3) w7).drew
  change wpList _ _ _ _ _ w7.drew
  generalize w7.drew = w8 at kR8 m8 b8 ⊢
  have r0 := kR8.cell 0
  have r1 := kR8.cell 1
  have r2 := kR8.cell 2
  have r3 := kR8.cell 3
  have r4 := kR8.cell 4
  have r5 := kR8.cell 5
  have r6 := kR8.cell 6
  simp at r0 r1 r2 r3 r4 r5 r6
  have u0 := kR8.fz 0
  have u1 := kR8.fz 1
  have u2 := kR8.fz 2
  have u3 := kR8.fz 3
  have u4 := kR8.fz 4
  have u5 := kR8.fz 5
  have u6 := kR8.fz 6
  clear x7 c2
  go_wp2_with fail
  have qE := (((((((kR8.set (0) (.int .i64 op)).set (1) (.int .i64 (ln : Int))).set (2) (.int .u64 (ow : Int))).set (3) (.bool oc)).set (4) (.bool true)).set (5) (.int .i64 fV)).set (6) (.int .i64 rV))
  have mE := (((((((m8.setCell (p := ⟨w.heap.size + 3,0,none⟩) (Or.inr (by simp only []; omega)) (.int .i64 op)).setCell (p := ⟨w.heap.size + 3,1,none⟩) (Or.inr (by simp only []; omega)) (.int .i64 (ln : Int))).setCell (p := ⟨w.heap.size + 3,2,none⟩) (Or.inr (by simp only []; omega)) (.int .u64 (ow : Int))).setCell (p := ⟨w.heap.size + 3,3,none⟩) (Or.inr (by simp only []; omega)) (.bool oc)).setCell (p := ⟨w.heap.size + 3,4,none⟩) (Or.inr (by simp only []; omega)) (.bool true)).setCell (p := ⟨w.heap.size + 3,5,none⟩) (Or.inr (by simp only []; omega)) (.int .i64 fV)).setCell (p := ⟨w.heap.size + 3,6,none⟩) (Or.inr (by simp only []; omega)) (.int .i64 rV))
  have mB := ((((((((Mod.refl (fun g => g = w.heap.size + 3) w8).setCell (p := ⟨w.heap.size + 3,0,none⟩) (Or.inl rfl) (.int .i64 op)).setCell (p := ⟨w.heap.size + 3,1,none⟩) (Or.inl rfl) (.int .i64 (ln : Int))).setCell (p := ⟨w.heap.size + 3,2,none⟩) (Or.inl rfl) (.int .u64 (ow : Int))).setCell (p := ⟨w.heap.size + 3,3,none⟩) (Or.inl rfl) (.bool oc)).setCell (p := ⟨w.heap.size + 3,4,none⟩) (Or.inl rfl) (.bool true)).setCell (p := ⟨w.heap.size + 3,5,none⟩) (Or.inl rfl) (.int .i64 fV)).setCell (p := ⟨w.heap.size + 3,6,none⟩) (Or.inl rfl) (.int .i64 rV))
  simp at qE
  generalize (((((((w8.setCell ⟨w.heap.size + 3,0,none⟩ (.int .i64 op)).setCell ⟨w.heap.size + 3,1,none⟩ (.int .i64 (ln : Int))).setCell ⟨w.heap.size + 3,2,none⟩ (.int .u64 (ow : Int))).setCell ⟨w.heap.size + 3,3,none⟩ (.bool oc)).setCell ⟨w.heap.size + 3,4,none⟩ (.bool true)).setCell ⟨w.heap.size + 3,5,none⟩ (.int .i64 fV)).setCell ⟨w.heap.size + 3,6,none⟩ (.int .i64 rV)) = wE at qE mE mB ⊢
  have qe0 := qE.cell 0
  have qe1 := qE.cell 1
  have qe2 := qE.cell 2
  have qe3 := qE.cell 3
  have qe4 := qE.cell 4
  have qe5 := qE.cell 5
  have qe6 := qE.cell 6
  simp at qe0 qe1 qe2 qe3 qe4 qe5 qe6
  exact bodyPost_ret (v := .tuple #[.agg #[.int .i64 op,.int .i64 (ln : Int),.int .u64 (ow : Int),.bool oc,.bool true,.int .i64 fV,.int .i64 rV],.bool true]) (by simp [results,Tryz.results99,go_sem,qe0,qe1,qe2,qe3,qe4,qe5,qe6]) rfl ⟨rfl,HT.out _ mE (b8.trans mB (fun _ _ e => e))⟩
 ·
  have hos := HOS.out
  rw [if_neg hcond] at hos
  subst hos
  obtain ⟨w7,hw7⟩ : ∃ w7,w7 = w6 := ⟨_,rfl⟩
  rw [← hw7] at F6 kX6 kY6 kO kR6 hm6 ⊢
  have F7 := F6
  have kX7 := kX6
  have y7 := kY6.cell 0
  have kO7 := kO
  have kR7 := kR6
  have hm7 := hm6
  have ho7 := ho5'
  have n7 := n5 _ (by omega) hR1
  simp at y7
  have v0 := kO7.cell 0
  have v1 := kO7.cell 1
  have v2 := kO7.cell 2
  have v3 := kO7.cell 3
  have v4 := kO7.cell 4
  simp at v0 v1 v2 v3 v4
  clear F6 kX6 kY6 kO kR6 hm6 hw7 x6 y6
  obtain ⟨o7,ho77⟩ : ∃ o7,o7 = o5 := ⟨_,rfl⟩
  rw [← ho77] at F7 ho7 n7
  clear ho77
  by_cases hoe : oe = true
  ·
   have hp0 : p = 0 := by
    rcases Nat.eq_zero_or_pos p with h | h
    ·
     exact h
    ·
     exact absurd ⟨hoe,by omega⟩ hcond
   have q8 : ((p : Int) != 0) = false := by rw [hp0]; rfl
   subst hoe
   clear hcond hp0
   have HT := Lib.hid (fun wE (mE : Mod own w wE) (mB : Mod (fun g => g = w.heap.size + 3) w7 wE) => (⟨o7,⟨A,(Fam.stable (routerX_stable b A c node _)).later F7 mB (fun g hg e => n7 (e ▸ hg))⟩,mE,fun g hg => (ho7 g hg).imp id (fun h => by omega)⟩ : Turn own (RouterAt b c node ⟨s.lanes.set kn y',s.owners,s.gives,s.moves.set p (kn : Int)⟩) w wE))
   obtain ⟨ob7,⟨kb7,-⟩,-⟩ := F7.at (routerX_stable b A c node _) .blk
   have c2 := (router_head kb7).1
   have x7 := kX7.cell 0
   simp at x7
   clear kb7 F7
   go_upto_region 10 with fail
   go_still_tail 16,(by kernel_rfl)
   have kR8 := kR7.drew
   have m8 := hm7.drew
   have b8 := (Mod.refl (fun g => g = w.heap.size + 3) w7).drew
   change wpList _ _ _ _ _ w7.drew
   generalize w7.drew = w8 at kR8 m8 b8 ⊢
   have r0 := kR8.cell 0
   have r1 := kR8.cell 1
   have r2 := kR8.cell 2
   have r3 := kR8.cell 3
   have r4 := kR8.cell 4
   have r5 := kR8.cell 5
   have r6 := kR8.cell 6
   simp at r0 r1 r2 r3 r4 r5 r6
   have u0 := kR8.fz 0
   have u1 := kR8.fz 1
   have u2 := kR8.fz 2
   have u3 := kR8.fz 3
   have u4 := kR8.fz 4
   have u5 := kR8.fz 5
   have u6 := kR8.fz 6
   clear x7 c2
   go_wp2_with fail
   have qE := (((((((kR8.set (0) (.int .i64 op)).set (1) (.int .i64 (ln : Int))).set (2) (.int .u64 (ow : Int))).set (3) (.bool oc)).set (4) (.bool true)).set (5) (.int .i64 fV)).set (6) (.int .i64 rV))
   have mE := (((((((m8.setCell (p := ⟨w.heap.size + 3,0,none⟩) (Or.inr (by simp only []; omega)) (.int .i64 op)).setCell (p := ⟨w.heap.size + 3,1,none⟩) (Or.inr (by simp only []; omega)) (.int .i64 (ln : Int))).setCell (p := ⟨w.heap.size + 3,2,none⟩) (Or.inr (by simp only []; omega)) (.int .u64 (ow : Int))).setCell (p := ⟨w.heap.size + 3,3,none⟩) (Or.inr (by simp only []; omega)) (.bool oc)).setCell (p := ⟨w.heap.size + 3,4,none⟩) (Or.inr (by simp only []; omega)) (.bool true)).setCell (p := ⟨w.heap.size + 3,5,none⟩) (Or.inr (by simp only []; omega)) (.int .i64 fV)).setCell (p := ⟨w.heap.size + 3,6,none⟩) (Or.inr (by simp only []; omega)) (.int .i64 rV))
   have mB := ((((((((Mod.refl (fun g => g = w.heap.size + 3) w8).setCell (p := ⟨w.heap.size + 3,0,none⟩) (Or.inl rfl) (.int .i64 op)).setCell (p := ⟨w.heap.size + 3,1,none⟩) (Or.inl rfl) (.int .i64 (ln : Int))).setCell (p := ⟨w.heap.size + 3,2,none⟩) (Or.inl rfl) (.int .u64 (ow : Int))).setCell (p := ⟨w.heap.size + 3,3,none⟩) (Or.inl rfl) (.bool oc)).setCell (p := ⟨w.heap.size + 3,4,none⟩) (Or.inl rfl) (.bool true)).setCell (p := ⟨w.heap.size + 3,5,none⟩) (Or.inl rfl) (.int .i64 fV)).setCell (p := ⟨w.heap.size + 3,6,none⟩) (Or.inl rfl) (.int .i64 rV))
   simp at qE
   generalize (((((((w8.setCell ⟨w.heap.size + 3,0,none⟩ (.int .i64 op)).setCell ⟨w.heap.size + 3,1,none⟩ (.int .i64 (ln : Int))).setCell ⟨w.heap.size + 3,2,none⟩ (.int .u64 (ow : Int))).setCell ⟨w.heap.size + 3,3,none⟩ (.bool oc)).setCell ⟨w.heap.size + 3,4,none⟩ (.bool true)).setCell ⟨w.heap.size + 3,5,none⟩ (.int .i64 fV)).setCell ⟨w.heap.size + 3,6,none⟩ (.int .i64 rV)) = wE at qE mE mB ⊢
   have qe0 := qE.cell 0
   have qe1 := qE.cell 1
   have qe2 := qE.cell 2
   have qe3 := qE.cell 3
   have qe4 := qE.cell 4
   have qe5 := qE.cell 5
   have qe6 := qE.cell 6
   simp at qe0 qe1 qe2 qe3 qe4 qe5 qe6
   exact bodyPost_ret (v := .tuple #[.agg #[.int .i64 op,.int .i64 (ln : Int),.int .u64 (ow : Int),.bool oc,.bool true,.int .i64 fV,.int .i64 rV],.bool true]) (by simp [results,Tryz.results99,go_sem,qe0,qe1,qe2,qe3,qe4,qe5,qe6]) rfl ⟨rfl,HT.out _ mE (b8.trans mB (fun _ _ e => e))⟩
  ·
   have hoe2 : oe = false := by simpa using hoe
   subst hoe2
   clear hcond hoe
   have HT := Lib.hid (fun wE (mE : Mod own w wE) (mB : Mod (fun g => g = w.heap.size + 3) w7 wE) => (⟨o7,⟨A,(Fam.stable (routerX_stable b A c node _)).later F7 mB (fun g hg e => n7 (e ▸ hg))⟩,mE,fun g hg => (ho7 g hg).imp id (fun h => by omega)⟩ : Turn own (RouterAt b c node ⟨s.lanes.set kn y',s.owners,s.gives,s.moves.set p (kn : Int)⟩) w wE))
   obtain ⟨ob7,⟨kb7,-⟩,-⟩ := F7.at (routerX_stable b A c node _) .blk
   have c2 := (router_head kb7).1
   have x7 := kX7.cell 0
   simp at x7
   clear kb7 F7
   go_upto_region 10 with fail
   go_still_tail 16,(by kernel_rfl)
   have kR8 := kR7.drew
   have m8 := hm7.drew
   have b8 := (Mod.refl (fun g => g = w.heap.size + 3) w7).drew
   change wpList _ _ _ _ _ w7.drew
   generalize w7.drew = w8 at kR8 m8 b8 ⊢
   have r0 := kR8.cell 0
   have r1 := kR8.cell 1
   have r2 := kR8.cell 2
   have r3 := kR8.cell 3
   have r4 := kR8.cell 4
   have r5 := kR8.cell 5
   have r6 := kR8.cell 6
   simp at r0 r1 r2 r3 r4 r5 r6
   have u0 := kR8.fz 0
   have u1 := kR8.fz 1
   have u2 := kR8.fz 2
   have u3 := kR8.fz 3
   have u4 := kR8.fz 4
   have u5 := kR8.fz 5
   have u6 := kR8.fz 6
   clear x7 c2
   go_wp2_with fail
   have qE := (((((((kR8.set (0) (.int .i64 op)).set (1) (.int .i64 (ln : Int))).set (2) (.int .u64 (ow : Int))).set (3) (.bool oc)).set (4) (.bool false)).set (5) (.int .i64 fV)).set (6) (.int .i64 rV))
   have mE := (((((((m8.setCell (p := ⟨w.heap.size + 3,0,none⟩) (Or.inr (by simp only []; omega)) (.int .i64 op)).setCell (p := ⟨w.heap.size + 3,1,none⟩) (Or.inr (by simp only []; omega)) (.int .i64 (ln : Int))).setCell (p := ⟨w.heap.size + 3,2,none⟩) (Or.inr (by simp only []; omega)) (.int .u64 (ow : Int))).setCell (p := ⟨w.heap.size + 3,3,none⟩) (Or.inr (by simp only []; omega)) (.bool oc)).setCell (p := ⟨w.heap.size + 3,4,none⟩) (Or.inr (by simp only []; omega)) (.bool false)).setCell (p := ⟨w.heap.size + 3,5,none⟩) (Or.inr (by simp only []; omega)) (.int .i64 fV)).setCell (p := ⟨w.heap.size + 3,6,none⟩) (Or.inr (by simp only []; omega)) (.int .i64 rV))
   have mB := ((((((((Mod.refl (fun g => g = w.heap.size + 3) w8).setCell (p := ⟨w.heap.size + 3,0,none⟩) (Or.inl rfl) (.int .i64 op)).setCell (p := ⟨w.heap.size + 3,1,none⟩) (Or.inl rfl) (.int .i64 (ln : Int))).setCell (p := ⟨w.heap.size + 3,2,none⟩) (Or.inl rfl) (.int .u64 (ow : Int))).setCell (p := ⟨w.heap.size + 3,3,none⟩) (Or.inl rfl) (.bool oc)).setCell (p := ⟨w.heap.size + 3,4,none⟩) (Or.inl rfl) (.bool false)).setCell (p := ⟨w.heap.size + 3,5,none⟩) (Or.inl rfl) (.int .i64 fV)).setCell (p := ⟨w.heap.size + 3,6,none⟩) (Or.inl rfl) (.int .i64 rV))
   simp at qE
   generalize (((((((w8.setCell ⟨w.heap.size + 3,0,none⟩ (.int .i64 op)).setCell ⟨w.heap.size + 3,1,none⟩ (.int .i64 (ln : Int))).setCell ⟨w.heap.size + 3,2,none⟩ (.int .u64 (ow : Int))).setCell ⟨w.heap.size + 3,3,none⟩ (.bool oc)).setCell ⟨w.heap.size + 3,4,none⟩ (.bool false)).setCell ⟨w.heap.size + 3,5,none⟩ (.int .i64 fV)).setCell ⟨w.heap.size + 3,6,none⟩ (.int .i64 rV)) = wE at qE mE mB ⊢
   have qe0 := qE.cell 0
   have qe1 := qE.cell 1
   have qe2 := qE.cell 2
   have qe3 := qE.cell 3
   have qe4 := qE.cell 4
   have qe5 := qE.cell 5
   have qe6 := qE.cell 6
   simp at qe0 qe1 qe2 qe3 qe4 qe5 qe6
   exact bodyPost_ret (v := .tuple #[.agg #[.int .i64 op,.int .i64 (ln : Int),.int .u64 (ow : Int),.bool oc,.bool false,.int .i64 fV,.int .i64 rV],.bool true]) (by simp [results,Tryz.results99,go_sem,qe0,qe1,qe2,qe3,qe4,qe5,qe6]) rfl ⟨rfl,HT.out _ mE (b8.trans mB (fun _ _ e => e))⟩
open Go.RowKit
def LaneS.idle (y : LaneS) : Bool := decide (y.q = []) && decide (y.phase = 0)
theorem all_no {α : Type} {l : List α} {f : α→Bool} {k : Nat} {d : α} (hk : k < l.length) (h : f (l.getD k d) = false) : l.all f = false := by
 rw [List.all_eq_false]
 refine ⟨l[k],List.getElem_mem hk,?_⟩
 rw [List.getD_eq_getElem?_getD,List.getElem?_eq_getElem hk] at h
 simpa using h
theorem all_yes {α : Type} {l : List α} {f : α→Bool} {d : α} (h : ∀ k,k < l.length→f (l.getD k d) = true) : l.all f = true := by
 rw [List.all_eq_true]
 intro x hx
 obtain ⟨k,hk,rfl⟩ := List.getElem_of_mem hx
 have := h k hk
 rwa [List.getD_eq_getElem?_getD,List.getElem?_eq_getElem hk] at this
theorem router_idle (b : Nat) (c : Cfg) (node : Int) (s : RouterS) (own : Nat→Prop) (w : World) (h : RouterAt b c node s w own) (hs : RouterOk c s) (hc : c.Ok) :
  Calls Tryz.prog 47 #[.pointer (some ⟨b,0,none⟩)] w fun e w' => e = .returned (.bool (s.lanes.all LaneS.idle))∧Drw w w' := by
 obtain ⟨A,hF⟩ := h
 obtain ⟨ob,⟨kb,-⟩,-⟩ := hF.at (routerX_stable b A c node s) .blk
 have c2 := (router_head kb).1
 have hL1 := hc.L1
 have hL2 := hc.L2
 obtain ⟨L,hL⟩ : ∃ L,c.Lanes.toNat = L := ⟨_,rfl⟩
 have hcL : c.Lanes = (L : Int) := by omega
 have hll := hs.ll
 rw [hL] at hll
 rw [hcL] at c2
 have HPL := Lib.hid (fun k (hk : k < 5 * L) w1 (d : Drw w w1) => router_place b A c node k s own w1 ((Fam.stable (routerX_stable b A c node s)).later hF (d.mod (fun _ => False)) (by simp)) (by rw [hL]; exact hk) hc.L1 hc.L2)
 have HLA := Lib.hid (fun k (hk : k < 5 * L) w1 (d : Drw w w1) => by
  obtain ⟨ol,hLn,-,-⟩ := router_lane hF (show k < 5 * c.Lanes.toNat by rw [hL]; exact hk) hs.ll
  exact lane_len _ _ _ _ _ ((LaneAt.stable _ _ _).later hLn (d.mod (fun _ => False)) (by simp)))
 have HPH := Lib.hid (fun k (hk : k < 5 * L) w1 (d : Drw w w1) => by
  obtain ⟨ol,hLn,-,-⟩ := router_lane hF (show k < 5 * c.Lanes.toNat by rw [hL]; exact hk) hs.ll
  exact lane_phase _ _ _ _ _ ((LaneAt.stable _ _ _).later hLn (d.mod (fun _ => False)) (by simp)))
 have hph : ∀ k,0 ≤ (s.lanes.getD k LaneS.new).phase := fun k => (mem_getD hs.lane (LaneOk.new hc) k).ph
 have HNO := Lib.hid (fun k (hk : k < 5 * L) (h : (s.lanes.getD k LaneS.new).idle = false) => all_no (f := LaneS.idle) (d := LaneS.new) (show k < s.lanes.length by rw [hll]; exact hk) h)
 have HYES := Lib.hid (fun (h : ∀ k,k < 5 * L→(s.lanes.getD k LaneS.new).idle = true) => all_yes (f := LaneS.idle) (l := s.lanes) (d := LaneS.new) (fun k hk => h k (by rw [← hll]; exact hk)))
 generalize s.lanes.all LaneS.idle = rr at HNO HYES ⊢
 have e1 : IntKind.i64.wrap (5 * (L : Int)) = 5 * (L : Int) := IntWalk.i64_in _ (by omega)
 clear hF kb hs hll
 go_enter Tryz.func47,Tryz.ntmps47
 go_wp2
 go_loopw [13] (fun i wr => ∃ k : Nat,k ≤ 5 * L∧i = .int .i64 (k : Int)∧Drw w wr∧∀ j,j < k→(s.lanes.getD j LaneS.new).idle = true) (fun i _ => 5 * L - (intOf i).toNat)
 case atStart => exact ⟨0,by omega,rfl,Drw.refl _,fun j hj => by omega⟩
 case round =>
  obtain ⟨k,hk,rfl,hd,hno⟩ := hrel
  by_cases hlt : k < 5 * L
  ·
   have q1 : (k : Int) < 5 * (L : Int) := by omega
   have hpk := hph k
   have HID := Lib.hid (show (s.lanes.getD k LaneS.new).idle = (decide ((s.lanes.getD k LaneS.new).q.length = 0) && decide ((s.lanes.getD k LaneS.new).phase = 0)) by unfold LaneS.idle; rw [Bool.eq_iff_iff]; simp)
   have HL1 := Lib.hid (HLA.out k hlt)
   have HP1 := Lib.hid (HPH.out k hlt)
   generalize (s.lanes.getD k LaneS.new).q.length = n at HID HL1
   generalize (s.lanes.getD k LaneS.new).phase = ph at HID HP1 hpk
   go_wp2_with fail
   refine (HPL.out k hlt _ hd).mono ?_
   rintro e w1 ⟨rfl,d1⟩
   have hd1 := hd.trans d1
   go_wp2_with fail
   refine (HL1.out _ hd1).mono ?_
   rintro e w2 ⟨rfl,d2⟩
   have hd2 := hd1.trans d2
   by_cases hn : n = 0
   ·
    have q2 : decide (0 < n) = false := decide_eq_false (by omega)
    have HN := Lib.hid hn
    clear hn
    go_wp2_with fail
    refine (HP1.out _ hd2).mono ?_
    rintro e w3 ⟨rfl,rfl⟩
    by_cases hp : ph = 0
    ·
     have q3 : decide (0 < ph) = false := decide_eq_false (by omega)
     have q4 : ¬ 0 < ph := by omega
     have HP := Lib.hid hp
     clear hp
     go_wp2
     go_roundw
     case rel => exact ⟨k + 1,by omega,by go_num,hd2,fun j hj => if h : j = k then by rw [h,HID.out,HN.out,HP.out]; rfl else hno j (by omega)⟩
     case measure => simp [intOf]; omega
    ·
     have q3 : 0 < ph := by omega
     have HP := Lib.hid hp
     clear hp
     go_wp2
     go_ret
     exact ⟨by rw [HNO.out k hlt (by rw [HID.out]; simp [HP.out])]; rfl,hd2⟩
   ·
    have q2 : 0 < n := by omega
    have HN := Lib.hid hn
    clear hn
    go_wp2
    go_ret
    exact ⟨by rw [HNO.out k hlt (by rw [HID.out]; simp [HN.out])]; rfl,hd2⟩
  ·
   have q1 : ¬ (k : Int) < 5 * (L : Int) := by omega
   go_wp2
   go_ret
   exact ⟨by rw [HYES.out (fun j hj => hno j (by omega))]; rfl,hd⟩
open Go.RowKit
theorem link_credit_none (b L D R : Nat) (s : LinkS) (own : Nat→Prop) (w : World) (h : LinkAt b L D R s w own) (hb : s.back = []) :
  Calls Tryz.prog 111 #[.pointer (some ⟨b,0,none⟩)] w (LinkPost b L D R own w s false) := by
 have HS := Lib.hid (fun w' (m : Mod (fun _ => False) w w') => Turn.same (LinkAt.stable b L D R s) h m)
 obtain ⟨r1,r2,g1,g2,hF⟩ := h
 obtain ⟨ob,⟨kbA,hob⟩,hobo,putB⟩ := hF.at (linkX_stable b r1 r2 g1 g2 L D R s) .blk
 obtain ⟨oc,⟨kcA,hoc⟩,hoco,putC⟩ := hF.at (linkX_stable b r1 r2 g1 g2 L D R s) .cr
 obtain ⟨of',⟨kfA,hof⟩,hofo,putF⟩ := hF.at (linkX_stable b r1 r2 g1 g2 L D R s) .far
 obtain ⟨oq,hqA,hoqo,putQ⟩ := hF.at (linkX_stable b r1 r2 g1 g2 L D R s) .back
 obtain ⟨ow,hwA,howo,putW⟩ := hF.at (linkX_stable b r1 r2 g1 g2 L D R s) .words
 clear hF
 rw [linkX,hb] at hqA
 have HP := Lib.hid (ringI_pop_none hqA)
 have c0 := kbA.cell 0
 simp at c0
 clear kbA hob hobo putB kcA hoc hoco putC kfA hof hofo putF hqA hoqo putQ hwA howo putW
 clear hb
 go_enter Tryz.func111,Tryz.ntmps111
 go_wp2_with fail
 refine HP.out.mono ?_
 rintro e w1 ⟨rfl,m1⟩
 have T := Lib.hid (HS.out _ m1)
 go_wp2
 go_ret
 exact ⟨8,by simp,rfl,T.out⟩
theorem link_credit (b L D R k : Nat) (bs : List Int) (s : LinkS) (own : Nat→Prop) (w : World) (h : LinkAt b L D R s w own) (hs : LinkOk L D R s) (hk : k < L) (hb : s.back = (k : Int) :: bs) :
  Calls Tryz.prog 111 #[.pointer (some ⟨b,0,none⟩)] w (LinkPost b L D R own w ⟨bump s.credits (k : Int) 1,s.far,s.words,bs⟩ true) := by
 obtain ⟨q0,q64,-,-⟩ := hs.cb hk
 have hL := hs.L8
 have hcl := hs.cl
 obtain ⟨r1,r2,g1,g2,hF⟩ := h
 obtain ⟨ob,⟨kbA,hob⟩,hobo,putB⟩ := hF.at (linkX_stable b r1 r2 g1 g2 L D R s) .blk
 obtain ⟨oc,⟨kcA,hoc⟩,hoco,putC⟩ := hF.at (linkX_stable b r1 r2 g1 g2 L D R s) .cr
 obtain ⟨of',⟨kfA,hof⟩,hofo,putF⟩ := hF.at (linkX_stable b r1 r2 g1 g2 L D R s) .far
 obtain ⟨oq,hqA,hoqo,putQ⟩ := hF.at (linkX_stable b r1 r2 g1 g2 L D R s) .back
 obtain ⟨ow,hwA,howo,putW⟩ := hF.at (linkX_stable b r1 r2 g1 g2 L D R s) .words
 clear hF
 rw [linkX,hb] at hqA
 have HP := Lib.hid (ringI_pop (k : Int) hqA)
 have HPUT := Lib.hid (fun w' (t : Turn oq (RingAt encI 1 3 193 r1 (L * D) bs) w w') => (by
  obtain ⟨o',hx',m',ho'⟩ := putQ (linkX b r1 r2 g1 g2 L D R ⟨s.credits,s.far,s.words,bs⟩) w' (by intro j hj; cases j <;> first | rfl | exact absurd rfl hj) t
  exact ⟨o',⟨r1,r2,g1,g2,hx'⟩,m',ho'⟩ : Turn own (LinkAt b L D R ⟨s.credits,s.far,s.words,bs⟩) w w'))
 have c0 := kbA.cell 0
 simp at c0
 clear kbA hob hobo putB kcA hoc hoco putC kfA hof hofo putF hqA hoqo putQ hwA howo putW
 obtain ⟨z,hz⟩ : ∃ z,s.credits.getD k 0 = z := ⟨_,rfl⟩
 rw [hz] at q0 q64
 have q1 : (0 : Int) ≤ (k : Int) := by omega
 have q2 : (k : Int) < (L : Int) := by omega
 clear hs hb
 go_enter Tryz.func111,Tryz.ntmps111
 go_wp2_with fail
 refine HP.out.mono ?_
 rintro e w1 ⟨rfl,t1⟩
 have t2 := HPUT.out _ t1
 obtain ⟨o4,h4,m4,ho4⟩ := t2
 clear c0 t1
 obtain ⟨r1,r2,g1,g2,hF⟩ := h4
 obtain ⟨ob,⟨kbA,hob⟩,hobo,putB⟩ := hF.at (linkX_stable b r1 r2 g1 g2 L D R ⟨s.credits,s.far,s.words,bs⟩) .blk
 obtain ⟨oc,⟨kcA,hoc⟩,hoco,putC⟩ := hF.at (linkX_stable b r1 r2 g1 g2 L D R ⟨s.credits,s.far,s.words,bs⟩) .cr
 obtain ⟨of',⟨kfA,hof⟩,hofo,putF⟩ := hF.at (linkX_stable b r1 r2 g1 g2 L D R ⟨s.credits,s.far,s.words,bs⟩) .far
 obtain ⟨oq,hqA,hoqo,putQ⟩ := hF.at (linkX_stable b r1 r2 g1 g2 L D R ⟨s.credits,s.far,s.words,bs⟩) .back
 obtain ⟨ow,hwA,howo,putW⟩ := hF.at (linkX_stable b r1 r2 g1 g2 L D R ⟨s.credits,s.far,s.words,bs⟩) .words
 clear hF
 have c2 := kbA.cell 2
 have c3 : w1.cell? ⟨g1,k,none⟩ = some (.int .i64 z) := by rw [← hz]; exact (kcA.cell k).trans (intsA_get (show k < s.credits.length by omega))
 have z3 := kcA.fz k
 simp at c2
 have kcB := kcA.set k (.int .i64 (z + 1))
 rw [show (intsA (LinkS.credits ⟨s.credits,s.far,s.words,bs⟩)).setIfInBounds k (.int .i64 (z + 1)) = intsA (bump s.credits (k : Int) 1) by
  rw [intsA_set]; unfold bump; rw [Int.toNat_natCast,hz]] at kcB
 have mB := (Mod.refl (fun g => g = g1) w1).setCell (p := ⟨g1,k,none⟩) (Or.inl rfl) (.int .i64 (z + 1))
 have T := Lib.hid (show Turn own (LinkAt b L D R ⟨bump s.credits (k : Int) 1,s.far,s.words,bs⟩) w (w1.setCell ⟨g1,k,none⟩ (.int .i64 (z + 1))) by
  obtain ⟨o',hx',m',ho'⟩ := putC (linkX b r1 r2 g1 g2 L D R ⟨bump s.credits (k : Int) 1,s.far,s.words,bs⟩) _ (by intro j hj; cases j <;> first | rfl | exact absurd rfl hj) (Cells.put hoc kcB mB)
  exact Turn.next m4 ho4 ⟨o',⟨r1,r2,g1,g2,hx'⟩,m',ho'⟩)
 clear kbA hob hobo putB kcA hoc hoco putC kfA hof hofo putF hqA hoqo putQ hwA howo putW
 clear kcB mB hz
 go_wp2
 go_ret
 exact ⟨0,by simp,rfl,T.out⟩
theorem link_taken_none (b L D R k : Nat) (s : LinkS) (own : Nat→Prop) (w : World) (h : LinkAt b L D R s w own) (hs : LinkOk L D R s) (hk : k < L) (hf : s.far.getD k 0 = 0) :
  Calls Tryz.prog 103 #[.pointer (some ⟨b,0,none⟩),.int .i64 (k : Int)] w (LinkPost b L D R own w s false) := by
 have HS := Lib.hid (fun w' (m : Mod (fun _ => False) w w') => Turn.same (LinkAt.stable b L D R s) h m)
 have HI := Lib.hid (link_is b L D R k s own w h hk)
 have hfl := hs.fl
 have hL := hs.L8
 obtain ⟨r1,r2,g1,g2,hF⟩ := h
 obtain ⟨ob,⟨kbA,hob⟩,hobo,putB⟩ := hF.at (linkX_stable b r1 r2 g1 g2 L D R s) .blk
 obtain ⟨oc,⟨kcA,hoc⟩,hoco,putC⟩ := hF.at (linkX_stable b r1 r2 g1 g2 L D R s) .cr
 obtain ⟨of',⟨kfA,hof⟩,hofo,putF⟩ := hF.at (linkX_stable b r1 r2 g1 g2 L D R s) .far
 obtain ⟨oq,hqA,hoqo,putQ⟩ := hF.at (linkX_stable b r1 r2 g1 g2 L D R s) .back
 obtain ⟨ow,hwA,howo,putW⟩ := hF.at (linkX_stable b r1 r2 g1 g2 L D R s) .words
 clear hF
 have c3 := kbA.cell 3
 have c4 : w.cell? ⟨g2,k,none⟩ = some (.int .i64 0) := by rw [← hf]; exact (kfA.cell k).trans (intsA_get (by omega))
 simp at c3
 clear kbA hob hobo putB kcA hoc hoco putC kfA hof hofo putF hqA hoqo putQ hwA howo putW
 have q1 : (0 : Int) ≤ (k : Int) := by omega
 have q2 : (k : Int) < (L : Int) := by omega
 clear hs hf
 go_enter Tryz.func103,Tryz.ntmps103
 go_wp2_with fail
 refine HI.out.mono ?_
 rintro e w1 ⟨rfl,rfl⟩
 have T := Lib.hid (HS.out _ (Mod.refl _ _))
 go_wp2
 go_ret
 exact ⟨13,by simp,rfl,T.out⟩
theorem link_taken (b L D R k : Nat) (s : LinkS) (own : Nat→Prop) (w : World) (h : LinkAt b L D R s w own) (hs : LinkOk L D R s) (hk : k < L) (hf : s.far.getD k 0 ≠ 0) (hb : s.back.length < L * D) :
  Calls Tryz.prog 103 #[.pointer (some ⟨b,0,none⟩),.int .i64 (k : Int)] w (LinkPost b L D R own w ⟨s.credits,bump s.far (k : Int) (-1),s.words,s.back ++ [(k : Int)]⟩ true) := by
 have HI := Lib.hid (link_is b L D R k s own w h hk)
 have hfl := hs.fl
 have hL := hs.L8
 obtain ⟨-,-,q0,q64⟩ := hs.cb hk
 obtain ⟨r1,r2,g1,g2,hF⟩ := h
 obtain ⟨ob,⟨kbA,hob⟩,hobo,putB⟩ := hF.at (linkX_stable b r1 r2 g1 g2 L D R s) .blk
 obtain ⟨oc,⟨kcA,hoc⟩,hoco,putC⟩ := hF.at (linkX_stable b r1 r2 g1 g2 L D R s) .cr
 obtain ⟨of',⟨kfA,hof⟩,hofo,putF⟩ := hF.at (linkX_stable b r1 r2 g1 g2 L D R s) .far
 obtain ⟨oq,hqA,hoqo,putQ⟩ := hF.at (linkX_stable b r1 r2 g1 g2 L D R s) .back
 obtain ⟨ow,hwA,howo,putW⟩ := hF.at (linkX_stable b r1 r2 g1 g2 L D R s) .words
 clear hF
 obtain ⟨z,hz⟩ : ∃ z,s.far.getD k 0 = z := ⟨_,rfl⟩
 rw [hz] at q0 q64 hf
 have c3 := kbA.cell 3
 have c4 : w.cell? ⟨g2,k,none⟩ = some (.int .i64 z) := by rw [← hz]; exact (kfA.cell k).trans (intsA_get (by omega))
 have z4 := kfA.fz k
 simp at c3
 have kfB := kfA.set k (.int .i64 (z - 1))
 rw [show (intsA s.far).setIfInBounds k (.int .i64 (z - 1)) = intsA (bump s.far (k : Int) (-1)) by
  rw [intsA_set]; unfold bump; rw [Int.toNat_natCast,hz]; rfl] at kfB
 have mB := (Mod.refl (fun g => g = g2) w).setCell (p := ⟨g2,k,none⟩) (Or.inl rfl) (.int .i64 (z - 1))
 have T := show Turn own (LinkAt b L D R ⟨s.credits,bump s.far (k : Int) (-1),s.words,s.back⟩) w (w.setCell ⟨g2,k,none⟩ (.int .i64 (z - 1))) by
  obtain ⟨o',hx',m',ho'⟩ := putF (linkX b r1 r2 g1 g2 L D R ⟨s.credits,bump s.far (k : Int) (-1),s.words,s.back⟩) _ (by intro j hj; cases j <;> first | rfl | exact absurd rfl hj) (Cells.put hof kfB mB)
  exact ⟨o',⟨r1,r2,g1,g2,hx'⟩,m',ho'⟩
 have q1 : (0 : Int) ≤ (k : Int) := by omega
 have q2 : (k : Int) < (L : Int) := by omega
 have qz : (z == 0) = false := beq_eq_false_iff_ne.2 hf
 clear kbA hob hobo putB kcA hoc hoco putC kfA hof hofo putF hqA hoqo putQ hwA howo putW
 clear kfB mB hz hf hs
 go_enter Tryz.func103,Tryz.ntmps103
 go_wp2_with fail
 refine HI.out.mono ?_
 rintro e w1 ⟨rfl,rfl⟩
 go_upto_region 6 with fail
 generalize w1.setCell ⟨g2,k,none⟩ (.int .i64 (z - 1)) = w2 at T ⊢
 obtain ⟨o4,h4,m4,ho4⟩ := T
 clear c3 c4 z4
 obtain ⟨r1,r2,g1,g2,hF⟩ := h4
 obtain ⟨ob,⟨kbA,hob⟩,hobo,putB⟩ := hF.at (linkX_stable b r1 r2 g1 g2 L D R ⟨s.credits,bump s.far (k : Int) (-1),s.words,s.back⟩) .blk
 obtain ⟨oc,⟨kcA,hoc⟩,hoco,putC⟩ := hF.at (linkX_stable b r1 r2 g1 g2 L D R ⟨s.credits,bump s.far (k : Int) (-1),s.words,s.back⟩) .cr
 obtain ⟨of',⟨kfA,hof⟩,hofo,putF⟩ := hF.at (linkX_stable b r1 r2 g1 g2 L D R ⟨s.credits,bump s.far (k : Int) (-1),s.words,s.back⟩) .far
 obtain ⟨oq,hqA,hoqo,putQ⟩ := hF.at (linkX_stable b r1 r2 g1 g2 L D R ⟨s.credits,bump s.far (k : Int) (-1),s.words,s.back⟩) .back
 obtain ⟨ow,hwA,howo,putW⟩ := hF.at (linkX_stable b r1 r2 g1 g2 L D R ⟨s.credits,bump s.far (k : Int) (-1),s.words,s.back⟩) .words
 clear hF
 have HP := Lib.hid (ringI_push (k : Int) hqA)
 have HPUT := Lib.hid (fun w' (t : Turn oq (RingAt encI 1 3 193 r1 (L * D) (s.back ++ [(k : Int)])) w2 w') => (by
  obtain ⟨o',hx',m',ho'⟩ := putQ (linkX b r1 r2 g1 g2 L D R ⟨s.credits,bump s.far (k : Int) (-1),s.words,s.back ++ [(k : Int)]⟩) w' (by intro j hj; cases j <;> first | rfl | exact absurd rfl hj) t
  exact Turn.next m4 ho4 ⟨o',⟨r1,r2,g1,g2,hx'⟩,m',ho'⟩ : Turn own (LinkAt b L D R ⟨s.credits,bump s.far (k : Int) (-1),s.words,s.back ++ [(k : Int)]⟩) w1 w'))
 have c0 := kbA.cell 0
 simp at c0
 clear kbA hob hobo putB kcA hoc hoco putC kfA hof hofo putF hqA hoqo putQ hwA howo putW
 go_wp2_with fail
 refine HP.out.mono ?_
 rintro e w4 (⟨hl,rfl,m4⟩ | ⟨hl,rfl,t4⟩)
 ·
  exact absurd hl (Nat.ne_of_lt hb)
 ·
  have T2 := Lib.hid (HPUT.out _ t4)
  clear hl t4
  go_wp2
  go_ret
  exact ⟨0,by simp,rfl,T2.out⟩
end Go.Proofs.YtfiklfkfbcpmgaaGreat
