/- Parts: LaneF LaneT Que Link. No condition. -/
import Derived.Test.YtfiklfkfbcpmgaaGreatJ06
import Derived.Test.YtfiklfkfbcpmgaaGreatJ07
import Derived.Test.YtfiklfkfbcpmgaaGreatJ01
import Derived.Test.YtfiklfkfbcpmgaaGreatJ05
import Derived.ArgAppend
import Derived.Test.YtfiklfkfbcpmgaaGreatJ04
import Derived.Deep.RegionLaw
import Derived.BigRegion
set_option linter.all false
set_option maxRecDepth 100000
set_option maxHeartbeats 3200000
namespace Go.Proofs.YtfiklfkfbcpmgaaGreat
open Go.RowKit
theorem lane_more (x : Nat) (w : World) (hx : x < 2 ^ 64) :
  Calls Tryz.prog 174 #[.int .u64 (x : Int)] w fun e w' => e = .returned (.bool (moreW x))∧Mod (fun _ => False) w w' := by
 have HRD := Lib.hid (fun w => flit_read x w hx)
 obtain ⟨f,hf⟩ : ∃ f,rdV x = f := ⟨_,rfl⟩
 have hm : moreW x = (decide (f.kind = 1) && f.more) := by
  unfold moreW
  rw [← hf]
  unfold rdV
  cases rdF x <;> rfl
 rw [hf] at HRD
 simp only [Flit.cells] at HRD
 rw [hm]
 have HM := Lib.hid (show (f.kind == 1) = decide (f.kind = 1) from rfl)
 clear hx hf hm
 go_enter Tryz.func174,Tryz.ntmps174
 go_wp2_with fail
 refine (HRD.out _).mono ?_
 rintro e w2 ⟨rfl,m2⟩
 go_upto_region 2 with fail
 have kf := Blk.made w2 #[.int .i64 f.kind,.int .i64 f.src,.int .i64 f.dst,.int .i64 f.seq,.int .i64 f.len,.bool f.more,.bool f.cast,.string f.data] 197
 have m3 := m2.alloc (.cells #[.int .i64 f.kind,.int .i64 f.src,.int .i64 f.dst,.int .i64 f.seq,.int .i64 f.len,.bool f.more,.bool f.cast,.string f.data] 197)
 generalize w2.alloc (.cells #[.int .i64 f.kind,.int .i64 f.src,.int .i64 f.dst,.int .i64 f.seq,.int .i64 f.len,.bool f.more,.bool f.cast,.string f.data] 197) = w3 at kf m3 ⊢
 have f0 := kf.cell 0
 have f1 := kf.cell 1
 have f2 := kf.cell 2
 have f3 := kf.cell 3
 have f4 := kf.cell 4
 have f5 := kf.cell 5
 have f6 := kf.cell 6
 have f7 := kf.cell 7
 simp at f0 f1 f2 f3 f4 f5 f6 f7
 clear kf
 by_cases hk : f.kind = 1
 ·
  have q : (f.kind == 1) = true := by rw [hk]; rfl
  have HK := Lib.hid hk
  clear hk
  go_wp2
  go_ret
  exact ⟨by rw [HK.out]; simp,m3⟩
 ·
  have q : (f.kind == 1) = false := beq_eq_false_iff_ne.2 hk
  have HK := Lib.hid hk
  clear hk
  go_wp2
  go_ret
  exact ⟨by simp [HK.out],m3⟩
def FindPost (b n : Nat) (own : Nat→Prop) (w : World) (s' : LaneS) (r : Bool) (e : Ending) (w' : World) : Prop := e = .returned (.bool r)∧Turn own (LaneAt b n s') w w'
structure Leads (g : Nat) (lb : Array Value) (w : World) (leads : Flit→Int) : Prop where
 enters : ∀ args w,(callFunc g args).run Tryz.prog w = .ok (.enter g args) w
 call : ∀ f w1,f.right = true→f.kind = 1→Mod (fun _ => False) w w1→Calls Tryz.prog g (#[.agg f.cells] ++ lb) w1 fun e w' => e = .returned (.int .i64 (leads f))∧Mod (fun _ => False) w1 w'
theorem lane_find_none (b n : Nat) (node : Int) (leads : Flit→Int) (g : Nat) (lb : Array Value) (s : LaneS) (own : Nat→Prop) (w : World) (h : LaneAt b n s w own) (hq : s.q = []) :
  Calls Tryz.prog 131 #[.pointer (some ⟨b,0,none⟩),.int .i64 node,.func (.func g) #[] lb] w (FindPost b n own w (s.find node leads).1 (s.find node leads).2) := by
 have hw : s.way node leads = none := by unfold LaneS.way; rw [hq]; split <;> rfl
 have ht : s.find node leads = (s,false) := by unfold LaneS.find; rw [hw]
 rw [ht]
 have HS := Lib.hid (fun w' (m : Mod (fun _ => False) w w') => Turn.same (LaneAt.stable b n s) h m)
 clear ht
 have HP := Lib.hid (lane_peek_none b n s own w h hq)
 clear h hq hw
 go_enter Tryz.func131,Tryz.ntmps131
 go_wp2_with fail
 refine HP.out.mono ?_
 rintro e w1 ⟨rfl,m1⟩
 have T := Lib.hid (HS.out _ m1)
 go_wp2
 go_ret
 exact ⟨rfl,T.out⟩
theorem lane_find_phase (b n x : Nat) (l : List Nat) (node : Int) (leads : Flit→Int) (g : Nat) (lb : Array Value) (s : LaneS) (own : Nat→Prop) (w : World) (h : LaneAt b n s w own) (hq : s.q = x :: l) (hp : s.phase ≠ 0) :
  Calls Tryz.prog 131 #[.pointer (some ⟨b,0,none⟩),.int .i64 node,.func (.func g) #[] lb] w (FindPost b n own w (s.find node leads).1 (s.find node leads).2) := by
 have hw : s.way node leads = none := by unfold LaneS.way; rw [if_neg hp]
 have ht : s.find node leads = (s,false) := by unfold LaneS.find; rw [hw]
 rw [ht]
 have HS := Lib.hid (fun w' (m : Mod (fun _ => False) w w') => Turn.same (LaneAt.stable b n s) h m)
 clear ht
 have HP := Lib.hid (lane_peek b n x l s own w h hq)
 obtain ⟨r,ro,kb,hr,hn,ho⟩ := h
 have q1 : (s.phase != 0) = true := by rw [bne_iff_ne]; exact hp
 clear hr hn ho hq hp hw
 go_enter Tryz.func131,Tryz.ntmps131
 go_wp2_with fail
 refine HP.out.mono ?_
 rintro e w1 ⟨rfl,m1⟩
 have T := Lib.hid (HS.out _ m1)
 have k1 := kb.later m1 (by simp)
 have c1 := k1.cell 1
 simp at c1
 go_wp2
 go_ret
 exact ⟨rfl,T.out⟩
theorem lane_find_odd (b n x : Nat) (l : List Nat) (node : Int) (leads : Flit→Int) (g : Nat) (lb : Array Value) (s : LaneS) (own : Nat→Prop) (w : World) (h : LaneAt b n s w own) (hx : x < 2 ^ 64) (hq : s.q = x :: l) (hp : s.phase = 0) (hk : ∀ f,rdF x = some f→f.kind ≠ 1) :
  Calls Tryz.prog 131 #[.pointer (some ⟨b,0,none⟩),.int .i64 node,.func (.func g) #[] lb] w (FindPost b n own w (s.find node leads).1 (s.find node leads).2) := by
 have hw : s.way node leads = none := by
  unfold LaneS.way
  rw [if_pos hp,hq]
  show headWay node leads x = none
  unfold headWay
  rcases hf : rdF x with _ | f
  ·
   rfl
  ·
   exact if_neg (hk f hf)
 have ht : s.find node leads = (s,false) := by unfold LaneS.find; rw [hw]
 rw [ht]
 have HS := Lib.hid (fun w' (m : Mod (fun _ => False) w w') => Turn.same (LaneAt.stable b n s) h m)
 clear ht
 have HP := Lib.hid (lane_peek b n x l s own w h hq)
 have HRD := Lib.hid (fun w => flit_read x w hx)
 have hv : (rdE x != 0) = true∨(rdE x = 0∧(rdV x).kind ≠ 1) := by
  rcases hf : rdF x with _ | f
  ·
   exact Or.inl (by rw [bne_iff_ne]; exact rdF_none hf)
  ·
   exact Or.inr ⟨rdE_some hf,by rw [rdV_some hf]; exact hk f hf⟩
 obtain ⟨er,hE⟩ : ∃ er,rdE x = er := ⟨_,rfl⟩
 obtain ⟨f,hF⟩ : ∃ f,rdV x = f := ⟨_,rfl⟩
 rw [hE,hF] at HRD
 rw [hE,hF] at hv
 simp only [Flit.cells] at HRD
 clear hw hk hE hF hx
 obtain ⟨r,ro,kb,hr,hn,ho⟩ := h
 rw [hp] at kb
 clear hq hp
 go_enter Tryz.func131,Tryz.ntmps131
 go_wp2_with fail
 refine HP.out.mono ?_
 rintro e w1 ⟨rfl,m1⟩
 have k1 := kb.later m1 (by simp)
 have hr1 := (RingAt.stable ..).later hr m1 (by simp)
 have c1 := k1.cell 1
 simp at c1
 go_wp2_with fail
 refine (HRD.out _).mono ?_
 rintro e w2 ⟨rfl,m2⟩
 have k2 := k1.later m2 (by simp)
 have hr2 := (RingAt.stable ..).later hr1 m2 (by simp)
 have m2 := m1.trans m2 (fun i hi e => e)
 clear m1 k1 hr1 kb hr c1
 go_upto_region 5 with fail
 have kf := Blk.made w2 #[.int .i64 f.kind,.int .i64 f.src,.int .i64 f.dst,.int .i64 f.seq,.int .i64 f.len,.bool f.more,.bool f.cast,.string f.data] 197
 have mf : Mod (fun _ => False) w2 (w2.alloc (.cells #[.int .i64 f.kind,.int .i64 f.src,.int .i64 f.dst,.int .i64 f.seq,.int .i64 f.len,.bool f.more,.bool f.cast,.string f.data] 197)) := (Mod.refl _ _).alloc _
 generalize w2.alloc (.cells #[.int .i64 f.kind,.int .i64 f.src,.int .i64 f.dst,.int .i64 f.seq,.int .i64 f.len,.bool f.more,.bool f.cast,.string f.data] 197) = w3 at kf mf ⊢
 have k3 := k2.later mf (by simp)
 have hr3 := (RingAt.stable ..).later hr2 mf (by simp)
 have m3 := m2.trans mf (fun i hi e => e)
 clear k2 hr2 m2 mf
 have T := Lib.hid (HS.out _ m3)
 have f0 := kf.cell 0
 have f1 := kf.cell 1
 have f2 := kf.cell 2
 have f3 := kf.cell 3
 have f4 := kf.cell 4
 have f5 := kf.cell 5
 have f6 := kf.cell 6
 have f7 := kf.cell 7
 simp at f0 f1 f2 f3 f4 f5 f6 f7
 rcases hv with q1 | ⟨rfl,hk⟩
 ·
  go_wp2
  go_ret
  exact ⟨rfl,T.out⟩
 ·
  have q2 : (f.kind != 1) = true := by rw [bne_iff_ne]; exact hk
  clear hk
  go_wp2
  go_ret
  exact ⟨rfl,T.out⟩
theorem lane_find_here (b n x : Nat) (l : List Nat) (node : Int) (leads : Flit→Int) (g : Nat) (lb : Array Value) (s : LaneS) (own : Nat→Prop) (w : World) (f : Flit) (h : LaneAt b n s w own) (hx : x < 2 ^ 64) (hq : s.q = x :: l) (hp : s.phase = 0) (hf : rdF x = some f) (hk : f.kind = 1) (hd : f.dst = node) :
  Calls Tryz.prog 131 #[.pointer (some ⟨b,0,none⟩),.int .i64 node,.func (.func g) #[] lb] w (FindPost b n own w (s.find node leads).1 (s.find node leads).2) := by
 have hw : s.way node leads = some (2,0) := by
  unfold LaneS.way
  rw [if_pos hp,hq]
  show headWay node leads x = _
  unfold headWay
  rw [hf]
  dsimp only
  rw [if_pos hk,if_pos hd]
 have ht : s.find node leads = (⟨s.q,2,0,0,s.copies⟩,true) := by unfold LaneS.find; rw [hw]
 rw [ht]
 have HP := Lib.hid (lane_peek b n x l s own w h hq)
 have HRD := Lib.hid (fun w => flit_read x w hx)
 rw [rdV_some hf,rdE_some hf] at HRD
 simp only [Flit.cells] at HRD
 have q1 : (f.kind != 1) = false := by rw [hk]; rfl
 have q2 : (f.dst == node) = true := by rw [hd]; simp
 clear hw hx ht hf hk hd
 obtain ⟨r,ro,kb,hr,hn,ho⟩ := h
 rw [hp] at kb
 clear hq hp
 go_enter Tryz.func131,Tryz.ntmps131
 go_wp2_with fail
 refine HP.out.mono ?_
 rintro e w1 ⟨rfl,m1⟩
 have k1 := kb.later m1 (by simp)
 have hr1 := (RingAt.stable ..).later hr m1 (by simp)
 have c1 := k1.cell 1
 simp at c1
 go_wp2_with fail
 refine (HRD.out _).mono ?_
 rintro e w2 ⟨rfl,m2⟩
 have k2 := k1.later m2 (by simp)
 have hr2 := (RingAt.stable ..).later hr1 m2 (by simp)
 have m2 := m1.trans m2 (fun i hi e => e)
 clear m1 k1 hr1 kb hr c1
 go_upto_region 5 with fail
 have kf := Blk.made w2 #[.int .i64 f.kind,.int .i64 f.src,.int .i64 f.dst,.int .i64 f.seq,.int .i64 f.len,.bool f.more,.bool f.cast,.string f.data] 197
 have mf : Mod (fun _ => False) w2 (w2.alloc (.cells #[.int .i64 f.kind,.int .i64 f.src,.int .i64 f.dst,.int .i64 f.seq,.int .i64 f.len,.bool f.more,.bool f.cast,.string f.data] 197)) := (Mod.refl _ _).alloc _
 generalize w2.alloc (.cells #[.int .i64 f.kind,.int .i64 f.src,.int .i64 f.dst,.int .i64 f.seq,.int .i64 f.len,.bool f.more,.bool f.cast,.string f.data] 197) = w3 at kf mf ⊢
 have k3 := k2.later mf (by simp)
 have hr3 := (RingAt.stable ..).later hr2 mf (by simp)
 have m3 := m2.trans mf (fun i hi e => e)
 clear k2 hr2 m2 mf
 have f0 := kf.cell 0
 have f1 := kf.cell 1
 have f2 := kf.cell 2
 have f3 := kf.cell 3
 have f4 := kf.cell 4
 have f5 := kf.cell 5
 have f6 := kf.cell 6
 have f7 := kf.cell 7
 simp at f0 f1 f2 f3 f4 f5 f6 f7
 have c0 := k3.cell 0
 have c1 := k3.cell 1
 have c2 := k3.cell 2
 have c3 := k3.cell 3
 have c4 := k3.cell 4
 simp at c0 c1 c2 c3 c4
 have z0 := k3.fz 0
 have z1 := k3.fz 1
 have z2 := k3.fz 2
 have z3 := k3.fz 3
 have z4 := k3.fz 4
 go_upto_region 9 with fail
 have mb := Mod.refl (fun g => g = b) w3
 have k4 := (((k3.set (1) (.int .i64 2)).set (2) (.int .i64 0)).set (3) (.int .i64 0))
 have mb := (((mb.setCell (p := ⟨b,1,none⟩) (Or.inl rfl) (.int .i64 2)).setCell (p := ⟨b,2,none⟩) (Or.inl rfl) (.int .i64 0)).setCell (p := ⟨b,3,none⟩) (Or.inl rfl) (.int .i64 0))
 simp at k4
 generalize (((w3.setCell ⟨b,1,none⟩ (.int .i64 2)).setCell ⟨b,2,none⟩ (.int .i64 0)).setCell ⟨b,3,none⟩ (.int .i64 0)) = w4 at k4 mb ⊢
 have T := Lib.hid (Turn.before m3 ⟨own,⟨r,ro,k4,(RingAt.stable ..).later hr3 mb (fun g hg e => hn (e ▸ hg)),hn,ho⟩,mb.mono (fun g _ e => (ho g).2 (Or.inl e)),fun g hg => Or.inl hg⟩ : Turn own (LaneAt b n ⟨s.q,2,0,0,s.copies⟩) w w4)
 clear hr3 hn ho c0 c1 c2 c3 c4 z0 z1 z2 z3 z4
 go_wp2
 go_ret
 exact ⟨rfl,T.out⟩
theorem lane_find_there (b n x : Nat) (l : List Nat) (node : Int) (leads : Flit→Int) (g : Nat) (lb : Array Value) (s : LaneS) (own : Nat→Prop) (w : World) (f : Flit) (h : LaneAt b n s w own) (hx : x < 2 ^ 64) (hq : s.q = x :: l) (hp : s.phase = 0) (hf : rdF x = some f) (hk : f.kind = 1) (hd : f.dst ≠ node) (hL : Leads g lb w leads) :
  Calls Tryz.prog 131 #[.pointer (some ⟨b,0,none⟩),.int .i64 node,.func (.func g) #[] lb] w (FindPost b n own w (s.find node leads).1 (s.find node leads).2) := by
 have hw : s.way node leads = if 0 < leads f∧leads f < 5 then some (1,leads f) else none := by
  unfold LaneS.way
  rw [if_pos hp,hq]
  show headWay node leads x = _
  unfold headWay
  rw [hf]
  dsimp only
  rw [if_pos hk,if_neg hd]
 obtain ⟨lf,hlf⟩ : ∃ lf,leads f = lf := ⟨_,rfl⟩
 have HS := Lib.hid (fun w' (m : Mod (fun _ => False) w w') => Turn.same (LaneAt.stable b n s) h m)
 have HP := Lib.hid (lane_peek b n x l s own w h hq)
 have HRD := Lib.hid (fun w => flit_read x w hx)
 have HL := Lib.hid (fun w1 (m : Mod (fun _ => False) w w1) => hL.call f w1 (rdF_some hf).1 hk m)
 have eg := hL.enters
 rw [rdV_some hf,rdE_some hf] at HRD
 simp only [Flit.cells] at HRD HL
 rw [hlf] at hw HL
 have q1 : (f.kind != 1) = false := by rw [hk]; rfl
 have q2 : (f.dst == node) = false := beq_eq_false_iff_ne.2 hd
 obtain ⟨s',hs'⟩ : ∃ s',s.find node leads = s' := ⟨_,rfl⟩
 rw [hs']
 have HW := Lib.hid (show s' = if 0 < lf∧lf < 5 then (⟨s.q,1,lf,0,s.copies⟩,true) else (s,false) by rw [← hs']; unfold LaneS.find; rw [hw]; by_cases hc : 0 < lf∧lf < 5; (· rw [if_pos hc,if_pos hc]); (· rw [if_neg hc,if_neg hc]))
 clear hw hx hf hk hd hlf hs' hL
 obtain ⟨r,ro,kb,hr,hn,ho⟩ := h
 rw [hp] at kb
 clear hq hp
 go_enter Tryz.func131,Tryz.ntmps131
 go_wp2_with fail
 refine HP.out.mono ?_
 rintro e w1 ⟨rfl,m1⟩
 have k1 := kb.later m1 (by simp)
 have hr1 := (RingAt.stable ..).later hr m1 (by simp)
 have c1 := k1.cell 1
 simp at c1
 go_wp2_with fail
 refine (HRD.out _).mono ?_
 rintro e w2 ⟨rfl,m2⟩
 have k2 := k1.later m2 (by simp)
 have hr2 := (RingAt.stable ..).later hr1 m2 (by simp)
 have m2 := m1.trans m2 (fun i hi e => e)
 clear m1 k1 hr1 kb hr c1
 go_upto_region 5 with fail
 have kf := Blk.made w2 #[.int .i64 f.kind,.int .i64 f.src,.int .i64 f.dst,.int .i64 f.seq,.int .i64 f.len,.bool f.more,.bool f.cast,.string f.data] 197
 have mf : Mod (fun _ => False) w2 (w2.alloc (.cells #[.int .i64 f.kind,.int .i64 f.src,.int .i64 f.dst,.int .i64 f.seq,.int .i64 f.len,.bool f.more,.bool f.cast,.string f.data] 197)) := (Mod.refl _ _).alloc _
 generalize w2.alloc (.cells #[.int .i64 f.kind,.int .i64 f.src,.int .i64 f.dst,.int .i64 f.seq,.int .i64 f.len,.bool f.more,.bool f.cast,.string f.data] 197) = w3 at kf mf ⊢
 have k3 := k2.later mf (by simp)
 have hr3 := (RingAt.stable ..).later hr2 mf (by simp)
 have m3 := m2.trans mf (fun i hi e => e)
 clear k2 hr2 m2 mf
 have f0 := kf.cell 0
 have f1 := kf.cell 1
 have f2 := kf.cell 2
 have f3 := kf.cell 3
 have f4 := kf.cell 4
 have f5 := kf.cell 5
 have f6 := kf.cell 6
 have f7 := kf.cell 7
 simp at f0 f1 f2 f3 f4 f5 f6 f7
 go_wp2_with fail
 refine (HL.out _ m3).mono ?_
 rintro e w4 ⟨rfl,m4⟩
 have k4 := k3.later m4 (by simp)
 have hr4 := (RingAt.stable ..).later hr3 m4 (by simp)
 have m4 := m3.trans m4 (fun i hi e => e)
 clear k3 hr3 m3 kf f0 f1 f2 f3 f4 f5 f6 f7 HL
 by_cases h1 : lf ≤ 0
 ·
  have HE := Lib.hid (show s' = (s,false) by rw [HW.out,if_neg (by omega)])
  have T := Lib.hid (HS.out _ m4)
  clear HW
  go_wp2
  go_ret
  rw [HE.out]
  exact ⟨rfl,T.out⟩
 by_cases h2 : 5 ≤ lf
 ·
  have HE := Lib.hid (show s' = (s,false) by rw [HW.out,if_neg (by omega)])
  have T := Lib.hid (HS.out _ m4)
  clear HW
  go_wp2
  go_ret
  rw [HE.out]
  exact ⟨rfl,T.out⟩
 have HE := Lib.hid (show s' = (⟨s.q,1,lf,0,s.copies⟩,true) by rw [HW.out,if_pos (by omega)])
 clear HW
 have c0 := k4.cell 0
 have c1 := k4.cell 1
 have c2 := k4.cell 2
 have c3 := k4.cell 3
 have c4 := k4.cell 4
 simp at c0 c1 c2 c3 c4
 have z0 := k4.fz 0
 have z1 := k4.fz 1
 have z2 := k4.fz 2
 have z3 := k4.fz 3
 have z4 := k4.fz 4
 go_upto_region 14 with fail
 have mb := Mod.refl (fun g => g = b) w4
 have k5 := (((k4.set (1) (.int .i64 1)).set (2) (.int .i64 lf)).set (3) (.int .i64 0))
 have mb := (((mb.setCell (p := ⟨b,1,none⟩) (Or.inl rfl) (.int .i64 1)).setCell (p := ⟨b,2,none⟩) (Or.inl rfl) (.int .i64 lf)).setCell (p := ⟨b,3,none⟩) (Or.inl rfl) (.int .i64 0))
 simp at k5
 generalize (((w4.setCell ⟨b,1,none⟩ (.int .i64 1)).setCell ⟨b,2,none⟩ (.int .i64 lf)).setCell ⟨b,3,none⟩ (.int .i64 0)) = w5 at k5 mb ⊢
 have T := Lib.hid (Turn.before m4 ⟨own,⟨r,ro,k5,(RingAt.stable ..).later hr4 mb (fun g hg e => hn (e ▸ hg)),hn,ho⟩,mb.mono (fun g _ e => (ho g).2 (Or.inl e)),fun g hg => Or.inl hg⟩ : Turn own (LaneAt b n ⟨s.q,1,lf,0,s.copies⟩) w w5)
 clear hr4 hn ho c0 c1 c2 c3 c4 z0 z1 z2 z3 z4 k5 mb
 go_wp2
 go_ret
 rw [HE.out]
 exact ⟨rfl,T.out⟩
theorem lane_find (b n : Nat) (node : Int) (leads : Flit→Int) (g : Nat) (lb : Array Value) (s : LaneS) (own : Nat→Prop) (w : World) (h : LaneAt b n s w own) (hx : ∀ x ∈ s.q,x < 2 ^ 64) (hL : Leads g lb w leads) :
  Calls Tryz.prog 131 #[.pointer (some ⟨b,0,none⟩),.int .i64 node,.func (.func g) #[] lb] w (FindPost b n own w (s.find node leads).1 (s.find node leads).2) := by
 rcases hq : s.q with _ | ⟨x,l⟩
 ·
  exact lane_find_none b n node leads g lb s own w h hq
 ·
  have hx1 : x < 2 ^ 64 := hx x (by rw [hq]; simp)
  by_cases hp : s.phase = 0
  ·
   by_cases hk : ∀ f,rdF x = some f→f.kind ≠ 1
   ·
    exact lane_find_odd b n x l node leads g lb s own w h hx1 hq hp hk
   ·
    rcases hf : rdF x with _ | f
    ·
     exact absurd (fun f h => by rw [hf] at h; cases h) hk
    ·
     have hk1 : f.kind = 1 := by
      by_cases h1 : f.kind = 1
      ·
       exact h1
      ·
       exact absurd (fun f2 h2 => by rw [hf] at h2; cases h2; exact h1) hk
     by_cases hd : f.dst = node
     ·
      exact lane_find_here b n x l node leads g lb s own w f h hx1 hq hp hf hk1 hd
     ·
      exact lane_find_there b n x l node leads g lb s own w f h hx1 hq hp hf hk1 hd hL
  ·
   exact lane_find_phase b n x l node leads g lb s own w h hq hp
open Go.RowKit
def OutS.cells (o : OutS) : Array Value := #[.int .i64 o.port,.int .i64 o.lane,.int .u64 (o.word : Int),.bool o.copy,.bool o.ends]
def LTakePost (b n : Nat) (own : Nat→Prop) (w : World) (s' : LaneS) (o : OutS) (e : Ending) (w' : World) : Prop :=
 e = .returned (.tuple #[.agg o.cells,.int .i64 0])∧Turn own (LaneAt b n s') w w'
theorem lane_take (b n x : Nat) (l : List Nat) (s : LaneS) (own : Nat→Prop) (w : World) (h : LaneAt b n s w own) (hx : x < 2 ^ 64) (hq : s.q = x :: l) (hp : s.phase = 2) :
  Calls Tryz.prog 143 #[.pointer (some ⟨b,0,none⟩)] w (LTakePost b n own w (s.rest x l) (s.out x)) := by
 have hlt := fun g (hg : own g) => (LaneAt.stable b n s).lt h hg
 obtain ⟨r,ro,kb,hr,hn,ho⟩ := h
 have hblt := kb.lt
 rw [hq] at hr
 rw [hp] at kb
 have kr := Blk.made w #[.int .i64 0,.int .i64 0,.int .u64 0,.bool false,.bool false] 147
 have m0 : Mod (fun _ => False) w (w.alloc (.cells #[.int .i64 0,.int .i64 0,.int .u64 0,.bool false,.bool false] 147)) := (Mod.refl _ _).alloc _
 have s0 : w.heap.size < (w.alloc (.cells #[.int .i64 0,.int .i64 0,.int .u64 0,.bool false,.bool false] 147)).heap.size := by simp
 have HK := Lib.hid (fun w => flit_kind x w hx)
 have HM := Lib.hid (fun w => lane_more x w hx)
 obtain ⟨k4,hk4⟩ : ∃ k,x % 4 = k := ⟨_,rfl⟩
 have hk4lt : k4 < 4 := by omega
 obtain ⟨mo,hmo⟩ : ∃ m,moreW x = m := ⟨_,rfl⟩
 rw [hk4] at HK
 rw [hmo] at HM
 obtain ⟨so,hso⟩ : ∃ o,s.out x = o := ⟨_,rfl⟩
 obtain ⟨s',hs'⟩ : ∃ o,s.rest x l = o := ⟨_,rfl⟩
 rw [hso,hs']
 have HO := Lib.hid (show so = ⟨s.port,s.lane,x,decide (s.port ≠ 0) && s.copies && decide (k4 ≠ 1),decide (k4 = 3)⟩ by rw [← hso,← hk4]; rfl)
 have HS := Lib.hid (show s' = if k4 = 3 then ⟨l,0,0,0,false⟩ else if s.port = 0∧mo = true then ⟨l,0,0,0,true⟩ else ⟨l,s.phase,s.port,s.lane,s.copies⟩ by rw [← hs',← hk4,← hmo]; rfl)
 have HPH := Lib.hid hp
 clear hx hq hp hk4 hmo hso hs'
 go_enter Tryz.func143,Tryz.ntmps143
 go_upto_region 3 with fail
 have k1 := kb.later m0 (by simp)
 have hr1 := (RingAt.stable ..).later hr m0 (by simp)
 generalize w.alloc (.cells #[.int .i64 0,.int .i64 0,.int .u64 0,.bool false,.bool false] 147) = w1 at kr m0 s0 k1 hr1 ⊢
 clear kb hr
 have c0 := k1.cell 0
 have c1 := k1.cell 1
 have c2 := k1.cell 2
 have c3 := k1.cell 3
 have c4 := k1.cell 4
 simp at c0 c1 c2 c3 c4
 have HP := Lib.hid (ringW_pop x hr1)
 go_wp2_with fail
 refine HP.out.mono ?_
 rintro e w2 ⟨rfl,t2⟩
 have m2 := t2.mod
 obtain ⟨ro2,hr2,-,hro⟩ := t2
 have hnr : ¬ ro w.heap.size := fun h => by have := hlt _ ((ho _).2 (Or.inr h)); omega
 have kr2 := kr.later m2 hnr
 have k2 := k1.later m2 hn
 have hn2 : ¬ ro2 b := fun h => by
  rcases hro _ h with h1 | h1
  ·
   exact hn h1
  ·
   omega
 have hnr2 : ¬ ro2 w.heap.size := fun h => by
  rcases hro _ h with h1 | h1
  ·
   exact hnr h1
  ·
   omega
 have s2 := m2.size
 have hmm := m0.trans' (S := own) m2 (fun i hi e => e.elim) (fun i hi e => (ho i).2 (Or.inr e))
 have hn02 : ∀ g,ro2 g→own g∨w.heap.size ≤ g := fun g hg => by
  rcases hro g hg with h1 | h1
  ·
   exact Or.inl ((ho g).2 (Or.inr h1))
  ·
   exact Or.inr (by omega)
 clear c0 c1 c2 c3 c4 k1 kr HP hr1 m0 m2
 have c0 := k2.cell 0
 have c1 := k2.cell 1
 have c2 := k2.cell 2
 have c3 := k2.cell 3
 have c4 := k2.cell 4
 simp at c0 c1 c2 c3 c4
 go_wp2_with fail
 refine (HK.out _).mono ?_
 rintro e w3 ⟨rfl,rfl⟩
 have hb3 := k2.lt
 have hb4 : b ≠ w3.heap.size := by omega
 go_upto_region 9 with fail
 go_cut [7] (fun z w' => z = .pointer (some ⟨w3.heap.size,0,none⟩)∧Blk w' w3.heap.size so.cells 147∧Mod (fun _ => False) w3 w'∧w3.heap.size < w'.heap.size)
 case first =>
  have he3 : ((k4 : Int) == 3) = decide (k4 = 3) := by rw [Bool.eq_iff_iff]; simp; omega
  by_cases h1 : s.port = 0
  ·
   have q1 : (s.port != 0) = false := by rw [h1]; rfl
   have HC := Lib.hid (show (#[.int .i64 s.port,.int .i64 s.lane,.int .u64 (x : Int),.bool false,.bool ((k4 : Int) == 3)] : Array Value) = OutS.cells ⟨s.port,s.lane,x,decide (s.port ≠ 0) && s.copies && decide (k4 ≠ 1),decide (k4 = 3)⟩ by simp [OutS.cells,h1,he3])
   clear h1 he3
   go_region
   all_goals go_wp2_with fail
   all_goals go_meet
   all_goals exact ⟨rfl,by rw [HO.out]; exact HC.out ▸ ((Blk.made w3 #[.int .i64 s.port,.int .i64 s.lane,.int .u64 (x : Int),.bool false,.bool ((k4 : Int) == 3)] 147).drew),((Mod.refl _ _).alloc _).drew,by simp⟩
  ·
   have q1 : (s.port != 0) = true := by rw [bne_iff_ne]; exact h1
   by_cases hc : s.copies = true
   ·
    rw [hc] at c4
    have he1 : ((k4 : Int) != 1) = decide (k4 ≠ 1) := by rw [Bool.eq_iff_iff]; simp; omega
    have HC := Lib.hid (show (#[.int .i64 s.port,.int .i64 s.lane,.int .u64 (x : Int),.bool ((k4 : Int) != 1),.bool ((k4 : Int) == 3)] : Array Value) = OutS.cells ⟨s.port,s.lane,x,decide (s.port ≠ 0) && s.copies && decide (k4 ≠ 1),decide (k4 = 3)⟩ by rw [he1,he3]; simp [OutS.cells,h1,hc])
    clear h1 he3 he1 hc
    go_region
    all_goals go_wp2_with fail
    all_goals go_meet
    all_goals exact ⟨rfl,by rw [HO.out]; exact HC.out ▸ ((Blk.made w3 #[.int .i64 s.port,.int .i64 s.lane,.int .u64 (x : Int),.bool ((k4 : Int) != 1),.bool ((k4 : Int) == 3)] 147).drew),((Mod.refl _ _).alloc _).drew,by simp⟩
   ·
    have hc2 : s.copies = false := by simpa using hc
    rw [hc2] at c4
    have HC := Lib.hid (show (#[.int .i64 s.port,.int .i64 s.lane,.int .u64 (x : Int),.bool false,.bool ((k4 : Int) == 3)] : Array Value) = OutS.cells ⟨s.port,s.lane,x,decide (s.port ≠ 0) && s.copies && decide (k4 ≠ 1),decide (k4 = 3)⟩ by rw [he3]; simp [OutS.cells,hc2])
    clear h1 he3 hc hc2
    go_region
    all_goals go_wp2_with fail
    all_goals go_meet
    all_goals exact ⟨rfl,by rw [HO.out]; exact HC.out ▸ ((Blk.made w3 #[.int .i64 s.port,.int .i64 s.lane,.int .u64 (x : Int),.bool false,.bool ((k4 : Int) == 3)] 147).drew),((Mod.refl _ _).alloc _).drew,by simp⟩
 case rest =>
 obtain ⟨rfl,ko,m4,s4⟩ := hcut
 obtain ⟨w4,rfl⟩ : ∃ wo : World,wo = wc := ⟨_,rfl⟩
 have k4b := k2.later m4 (by simp)
 have kr4 := kr2.later m4 (by simp)
 have hr4 := (RingAt.stable ..).later hr2 m4 (by simp)
 have hmm4 := hmm.trans m4 (fun i hi e => e.elim)
 have hoe : so.ends = decide (k4 = 3) := by rw [HO.out]
 simp only [OutS.cells] at ko
 clear c0 c1 c2 c3 c4 k2 kr2 hr2 hmm
 by_cases h3 : k4 = 3
 ·
  have HS2 := HS.out
  rw [if_pos h3] at HS2
  subst HS2
  rw [decide_eq_true h3] at hoe
  have HOE := Lib.hid hoe
  rw [hoe] at ko
  clear h3 hoe HS
  have o0 := ko.cell 0
  have o1 := ko.cell 1
  have o2 := ko.cell 2
  have o3 := ko.cell 3
  have o4 := ko.cell 4
  simp at o0 o1 o2 o3 o4
  have c0 := k4b.cell 0
  have c1 := k4b.cell 1
  have c2 := k4b.cell 2
  have c3 := k4b.cell 3
  have c4 := k4b.cell 4
  simp at c0 c1 c2 c3 c4
  have z0 := k4b.fz 0
  have z1 := k4b.fz 1
  have z2 := k4b.fz 2
  have z3 := k4b.fz 3
  have z4 := k4b.fz 4
  go_upto_region 14 with fail
  have mb := Mod.refl (fun g => g = b) w4
  have k5 := ((((k4b.set (1) (.int .i64 0)).set (2) (.int .i64 0)).set (3) (.int .i64 0)).set (4) (.bool false))
  have mb := ((((mb.setCell (p := ⟨b,1,none⟩) (Or.inl rfl) (.int .i64 0)).setCell (p := ⟨b,2,none⟩) (Or.inl rfl) (.int .i64 0)).setCell (p := ⟨b,3,none⟩) (Or.inl rfl) (.int .i64 0)).setCell (p := ⟨b,4,none⟩) (Or.inl rfl) (.bool false))
  simp at k5
  generalize ((((w4.setCell ⟨b,1,none⟩ (.int .i64 0)).setCell ⟨b,2,none⟩ (.int .i64 0)).setCell ⟨b,3,none⟩ (.int .i64 0)).setCell ⟨b,4,none⟩ (.bool false)) = w5 at k5 mb ⊢
  have ko := ko.later mb (by omega)
  have kr4 := kr4.later mb (by omega)
  have hr5 := (RingAt.stable ..).later hr4 mb (fun g hg e => hn2 (e ▸ hg))
  have hmm4 := hmm4.trans mb (fun i hi e => (ho i).2 (Or.inl e))
  clear c0 c1 c2 c3 c4 z0 z1 z2 z3 z4 hr4
  try clear o0 o1 o2 o3 o4
  have TT := Lib.hid (fun wE (mE : Mod own w wE) (mB : Mod (fun g => g = w.heap.size) w5 wE) => (⟨fun g => g = b∨ro2 g,⟨r,ro2,k5.later mB (by omega),(RingAt.stable ..).later hr5 mB (fun g hg e => hnr2 (e ▸ hg)),hn2,fun g => Iff.rfl⟩,mE,fun g hg => by
   rcases hg with rfl | hg
   ·
    exact Or.inl ((ho _).2 (Or.inl rfl))
   ·
    exact hn02 g hg⟩ : Turn own (LaneAt b n ⟨l,0,0,0,false⟩) w wE))
  have o0 := ko.cell 0
  have o1 := ko.cell 1
  have o2 := ko.cell 2
  have o3 := ko.cell 3
  have o4 := ko.cell 4
  simp at o0 o1 o2 o3 o4
  have r0 := kr4.cell 0
  have r1 := kr4.cell 1
  have r2 := kr4.cell 2
  have r3 := kr4.cell 3
  have r4 := kr4.cell 4
  simp at r0 r1 r2 r3 r4
  have u0 := kr4.fz 0
  have u1 := kr4.fz 1
  have u2 := kr4.fz 2
  have u3 := kr4.fz 3
  have u4 := kr4.fz 4
  go_wp2
  have qE := (((((kr4.set (0) (.int .i64 so.port)).set (1) (.int .i64 so.lane)).set (2) (.int .u64 (so.word : Int))).set (3) (.bool so.copy)).set (4) (.bool true))
  have mE := (((((hmm4.setCell (p := ⟨w.heap.size,0,none⟩) (Or.inr (Nat.le_refl _)) (.int .i64 so.port)).setCell (p := ⟨w.heap.size,1,none⟩) (Or.inr (Nat.le_refl _)) (.int .i64 so.lane)).setCell (p := ⟨w.heap.size,2,none⟩) (Or.inr (Nat.le_refl _)) (.int .u64 (so.word : Int))).setCell (p := ⟨w.heap.size,3,none⟩) (Or.inr (Nat.le_refl _)) (.bool so.copy)).setCell (p := ⟨w.heap.size,4,none⟩) (Or.inr (Nat.le_refl _)) (.bool true))
  have mB := ((((((Mod.refl (fun g => g = w.heap.size) w5).setCell (p := ⟨w.heap.size,0,none⟩) (Or.inl rfl) (.int .i64 so.port)).setCell (p := ⟨w.heap.size,1,none⟩) (Or.inl rfl) (.int .i64 so.lane)).setCell (p := ⟨w.heap.size,2,none⟩) (Or.inl rfl) (.int .u64 (so.word : Int))).setCell (p := ⟨w.heap.size,3,none⟩) (Or.inl rfl) (.bool so.copy)).setCell (p := ⟨w.heap.size,4,none⟩) (Or.inl rfl) (.bool true))
  simp at qE
  generalize (((((w5.setCell ⟨w.heap.size,0,none⟩ (.int .i64 so.port)).setCell ⟨w.heap.size,1,none⟩ (.int .i64 so.lane)).setCell ⟨w.heap.size,2,none⟩ (.int .u64 (so.word : Int))).setCell ⟨w.heap.size,3,none⟩ (.bool so.copy)).setCell ⟨w.heap.size,4,none⟩ (.bool true)) = wE at qE mE mB ⊢
  have qe0 := qE.cell 0
  have qe1 := qE.cell 1
  have qe2 := qE.cell 2
  have qe3 := qE.cell 3
  have qe4 := qE.cell 4
  simp at qe0 qe1 qe2 qe3 qe4
  exact bodyPost_ret (v := .tuple #[.agg #[.int .i64 so.port,.int .i64 so.lane,.int .u64 (so.word : Int),.bool so.copy,.bool true],.int .i64 0]) (by simp [results,Tryz.results143,go_sem,qe0,qe1,qe2,qe3,qe4]) rfl ⟨by unfold OutS.cells; rw [HOE.out],TT.out wE mE mB⟩
 rw [if_neg h3] at HS
 rw [decide_eq_false h3] at hoe
 have HOE := Lib.hid hoe
 rw [hoe] at ko
 clear h3 hoe
 by_cases hp0 : s.port = 0
 ·
  have q1 : (s.port == 0) = true := by rw [hp0]; rfl
  cases mo with
  | true =>
   have HS2 := HS.out
   rw [if_pos ⟨hp0,rfl⟩] at HS2
   subst HS2
   clear HS hp0
   have o0 := ko.cell 0
   have o1 := ko.cell 1
   have o2 := ko.cell 2
   have o3 := ko.cell 3
   have o4 := ko.cell 4
   simp at o0 o1 o2 o3 o4
   have c0 := k4b.cell 0
   have c1 := k4b.cell 1
   have c2 := k4b.cell 2
   have c3 := k4b.cell 3
   have c4 := k4b.cell 4
   simp at c0 c1 c2 c3 c4
   have z0 := k4b.fz 0
   have z1 := k4b.fz 1
   have z2 := k4b.fz 2
   have z3 := k4b.fz 3
   have z4 := k4b.fz 4
   go_wp2_with fail
   refine (HM.out _).mono ?_
   rintro e w6 ⟨rfl,m6⟩
   clear o0 o1 o2 o3 o4 c0 c1 c2 c3 c4 z0 z1 z2 z3 z4
   have ko := ko.later m6 (by simp)
   have kr4 := kr4.later m6 (by simp)
   have k4b := k4b.later m6 (by simp)
   have hr4 := (RingAt.stable ..).later hr4 m6 (by simp)
   have hmm4 := hmm4.trans m6 (fun i hi e => e.elim)
   have s6 := (m6).size
   have c0 := k4b.cell 0
   have c1 := k4b.cell 1
   have c2 := k4b.cell 2
   have c3 := k4b.cell 3
   have c4 := k4b.cell 4
   simp at c0 c1 c2 c3 c4
   have z0 := k4b.fz 0
   have z1 := k4b.fz 1
   have z2 := k4b.fz 2
   have z3 := k4b.fz 3
   have z4 := k4b.fz 4
   go_upto_region 14 with fail
   have mb := Mod.refl (fun g => g = b) w6
   have k5 := ((((k4b.set (1) (.int .i64 0)).set (2) (.int .i64 0)).set (3) (.int .i64 0)).set (4) (.bool true))
   have mb := ((((mb.setCell (p := ⟨b,1,none⟩) (Or.inl rfl) (.int .i64 0)).setCell (p := ⟨b,2,none⟩) (Or.inl rfl) (.int .i64 0)).setCell (p := ⟨b,3,none⟩) (Or.inl rfl) (.int .i64 0)).setCell (p := ⟨b,4,none⟩) (Or.inl rfl) (.bool true))
   simp at k5
   generalize ((((w6.setCell ⟨b,1,none⟩ (.int .i64 0)).setCell ⟨b,2,none⟩ (.int .i64 0)).setCell ⟨b,3,none⟩ (.int .i64 0)).setCell ⟨b,4,none⟩ (.bool true)) = w5 at k5 mb ⊢
   have ko := ko.later mb (by omega)
   have kr4 := kr4.later mb (by omega)
   have hr5 := (RingAt.stable ..).later hr4 mb (fun g hg e => hn2 (e ▸ hg))
   have hmm4 := hmm4.trans mb (fun i hi e => (ho i).2 (Or.inl e))
   clear c0 c1 c2 c3 c4 z0 z1 z2 z3 z4 hr4
   have TT := Lib.hid (fun wE (mE : Mod own w wE) (mB : Mod (fun g => g = w.heap.size) w5 wE) => (⟨fun g => g = b∨ro2 g,⟨r,ro2,k5.later mB (by omega),(RingAt.stable ..).later hr5 mB (fun g hg e => hnr2 (e ▸ hg)),hn2,fun g => Iff.rfl⟩,mE,fun g hg => by
    rcases hg with rfl | hg
    ·
     exact Or.inl ((ho _).2 (Or.inl rfl))
    ·
     exact hn02 g hg⟩ : Turn own (LaneAt b n ⟨l,0,0,0,true⟩) w wE))
   skip
   have o0 := ko.cell 0
   have o1 := ko.cell 1
   have o2 := ko.cell 2
   have o3 := ko.cell 3
   have o4 := ko.cell 4
   simp at o0 o1 o2 o3 o4
   have r0 := kr4.cell 0
   have r1 := kr4.cell 1
   have r2 := kr4.cell 2
   have r3 := kr4.cell 3
   have r4 := kr4.cell 4
   simp at r0 r1 r2 r3 r4
   have u0 := kr4.fz 0
   have u1 := kr4.fz 1
   have u2 := kr4.fz 2
   have u3 := kr4.fz 3
   have u4 := kr4.fz 4
   go_wp2
   have qE := (((((kr4.set (0) (.int .i64 so.port)).set (1) (.int .i64 so.lane)).set (2) (.int .u64 (so.word : Int))).set (3) (.bool so.copy)).set (4) (.bool false))
   have mE := (((((hmm4.setCell (p := ⟨w.heap.size,0,none⟩) (Or.inr (Nat.le_refl _)) (.int .i64 so.port)).setCell (p := ⟨w.heap.size,1,none⟩) (Or.inr (Nat.le_refl _)) (.int .i64 so.lane)).setCell (p := ⟨w.heap.size,2,none⟩) (Or.inr (Nat.le_refl _)) (.int .u64 (so.word : Int))).setCell (p := ⟨w.heap.size,3,none⟩) (Or.inr (Nat.le_refl _)) (.bool so.copy)).setCell (p := ⟨w.heap.size,4,none⟩) (Or.inr (Nat.le_refl _)) (.bool false))
   have mB := ((((((Mod.refl (fun g => g = w.heap.size) w5).setCell (p := ⟨w.heap.size,0,none⟩) (Or.inl rfl) (.int .i64 so.port)).setCell (p := ⟨w.heap.size,1,none⟩) (Or.inl rfl) (.int .i64 so.lane)).setCell (p := ⟨w.heap.size,2,none⟩) (Or.inl rfl) (.int .u64 (so.word : Int))).setCell (p := ⟨w.heap.size,3,none⟩) (Or.inl rfl) (.bool so.copy)).setCell (p := ⟨w.heap.size,4,none⟩) (Or.inl rfl) (.bool false))
   simp at qE
   generalize (((((w5.setCell ⟨w.heap.size,0,none⟩ (.int .i64 so.port)).setCell ⟨w.heap.size,1,none⟩ (.int .i64 so.lane)).setCell ⟨w.heap.size,2,none⟩ (.int .u64 (so.word : Int))).setCell ⟨w.heap.size,3,none⟩ (.bool so.copy)).setCell ⟨w.heap.size,4,none⟩ (.bool false)) = wE at qE mE mB ⊢
   have qe0 := qE.cell 0
   have qe1 := qE.cell 1
   have qe2 := qE.cell 2
   have qe3 := qE.cell 3
   have qe4 := qE.cell 4
   simp at qe0 qe1 qe2 qe3 qe4
   exact bodyPost_ret (v := .tuple #[.agg #[.int .i64 so.port,.int .i64 so.lane,.int .u64 (so.word : Int),.bool so.copy,.bool false],.int .i64 0]) (by simp [results,Tryz.results143,go_sem,qe0,qe1,qe2,qe3,qe4]) rfl ⟨by unfold OutS.cells; rw [HOE.out],TT.out wE mE mB⟩
  | false =>
   have HS2 := HS.out
   rw [if_neg (fun e => by cases e.2)] at HS2
   subst HS2
   clear HS hp0
   have o0 := ko.cell 0
   have o1 := ko.cell 1
   have o2 := ko.cell 2
   have o3 := ko.cell 3
   have o4 := ko.cell 4
   simp at o0 o1 o2 o3 o4
   have c0 := k4b.cell 0
   have c1 := k4b.cell 1
   have c2 := k4b.cell 2
   have c3 := k4b.cell 3
   have c4 := k4b.cell 4
   simp at c0 c1 c2 c3 c4
   go_wp2_with fail
   refine (HM.out _).mono ?_
   rintro e w5 ⟨rfl,m5⟩
   clear o0 o1 o2 o3 o4 c0 c1 c2 c3 c4
   have ko := ko.later m5 (by simp)
   have kr4 := kr4.later m5 (by simp)
   have k5 := k4b.later m5 (by simp)
   have hr5 := (RingAt.stable ..).later hr4 m5 (by simp)
   have hmm4 := hmm4.trans m5 (fun i hi e => e.elim)
   rw [← HPH.out] at k5
   have TT := Lib.hid (fun wE (mE : Mod own w wE) (mB : Mod (fun g => g = w.heap.size) w5 wE) => (⟨fun g => g = b∨ro2 g,⟨r,ro2,k5.later mB (by omega),(RingAt.stable ..).later hr5 mB (fun g hg e => hnr2 (e ▸ hg)),hn2,fun g => Iff.rfl⟩,mE,fun g hg => by
    rcases hg with rfl | hg
    ·
     exact Or.inl ((ho _).2 (Or.inl rfl))
    ·
     exact hn02 g hg⟩ : Turn own (LaneAt b n ⟨l,s.phase,s.port,s.lane,s.copies⟩) w wE))
   skip
   have o0 := ko.cell 0
   have o1 := ko.cell 1
   have o2 := ko.cell 2
   have o3 := ko.cell 3
   have o4 := ko.cell 4
   simp at o0 o1 o2 o3 o4
   have r0 := kr4.cell 0
   have r1 := kr4.cell 1
   have r2 := kr4.cell 2
   have r3 := kr4.cell 3
   have r4 := kr4.cell 4
   simp at r0 r1 r2 r3 r4
   have u0 := kr4.fz 0
   have u1 := kr4.fz 1
   have u2 := kr4.fz 2
   have u3 := kr4.fz 3
   have u4 := kr4.fz 4
   go_wp2
   have qE := (((((kr4.set (0) (.int .i64 so.port)).set (1) (.int .i64 so.lane)).set (2) (.int .u64 (so.word : Int))).set (3) (.bool so.copy)).set (4) (.bool false))
   have mE := (((((hmm4.setCell (p := ⟨w.heap.size,0,none⟩) (Or.inr (Nat.le_refl _)) (.int .i64 so.port)).setCell (p := ⟨w.heap.size,1,none⟩) (Or.inr (Nat.le_refl _)) (.int .i64 so.lane)).setCell (p := ⟨w.heap.size,2,none⟩) (Or.inr (Nat.le_refl _)) (.int .u64 (so.word : Int))).setCell (p := ⟨w.heap.size,3,none⟩) (Or.inr (Nat.le_refl _)) (.bool so.copy)).setCell (p := ⟨w.heap.size,4,none⟩) (Or.inr (Nat.le_refl _)) (.bool false))
   have mB := ((((((Mod.refl (fun g => g = w.heap.size) w5).setCell (p := ⟨w.heap.size,0,none⟩) (Or.inl rfl) (.int .i64 so.port)).setCell (p := ⟨w.heap.size,1,none⟩) (Or.inl rfl) (.int .i64 so.lane)).setCell (p := ⟨w.heap.size,2,none⟩) (Or.inl rfl) (.int .u64 (so.word : Int))).setCell (p := ⟨w.heap.size,3,none⟩) (Or.inl rfl) (.bool so.copy)).setCell (p := ⟨w.heap.size,4,none⟩) (Or.inl rfl) (.bool false))
   simp at qE
   generalize (((((w5.setCell ⟨w.heap.size,0,none⟩ (.int .i64 so.port)).setCell ⟨w.heap.size,1,none⟩ (.int .i64 so.lane)).setCell ⟨w.heap.size,2,none⟩ (.int .u64 (so.word : Int))).setCell ⟨w.heap.size,3,none⟩ (.bool so.copy)).setCell ⟨w.heap.size,4,none⟩ (.bool false)) = wE at qE mE mB ⊢
   have qe0 := qE.cell 0
   have qe1 := qE.cell 1
   have qe2 := qE.cell 2
   have qe3 := qE.cell 3
   have qe4 := qE.cell 4
   simp at qe0 qe1 qe2 qe3 qe4
   exact bodyPost_ret (v := .tuple #[.agg #[.int .i64 so.port,.int .i64 so.lane,.int .u64 (so.word : Int),.bool so.copy,.bool false],.int .i64 0]) (by simp [results,Tryz.results143,go_sem,qe0,qe1,qe2,qe3,qe4]) rfl ⟨by unfold OutS.cells; rw [HOE.out],TT.out wE mE mB⟩
 ·
  have q1 : (s.port == 0) = false := beq_eq_false_iff_ne.2 hp0
  have HS2 := HS.out
  rw [if_neg (fun e => hp0 e.1)] at HS2
  subst HS2
  clear HS hp0
  have o0 := ko.cell 0
  have o1 := ko.cell 1
  have o2 := ko.cell 2
  have o3 := ko.cell 3
  have o4 := ko.cell 4
  simp at o0 o1 o2 o3 o4
  have c0 := k4b.cell 0
  have c1 := k4b.cell 1
  have c2 := k4b.cell 2
  have c3 := k4b.cell 3
  have c4 := k4b.cell 4
  simp at c0 c1 c2 c3 c4
  go_upto_region 14 with fail
  clear o0 o1 o2 o3 o4 c0 c1 c2 c3 c4
  have m5 := Mod.refl (fun _ => False) w4
  obtain ⟨w5,hw5⟩ : ∃ w5,w5 = w4 := ⟨_,rfl⟩
  rw [← hw5]
  rw [← hw5] at m5
  have m5 : Mod (fun _ => False) w4 w5 := by rw [hw5]; exact Mod.refl _ _
  clear hw5
  have ko := ko.later m5 (by simp)
  have kr4 := kr4.later m5 (by simp)
  have k5 := k4b.later m5 (by simp)
  have hr5 := (RingAt.stable ..).later hr4 m5 (by simp)
  have hmm4 := hmm4.trans m5 (fun i hi e => e.elim)
  rw [← HPH.out] at k5
  have TT := Lib.hid (fun wE (mE : Mod own w wE) (mB : Mod (fun g => g = w.heap.size) w5 wE) => (⟨fun g => g = b∨ro2 g,⟨r,ro2,k5.later mB (by omega),(RingAt.stable ..).later hr5 mB (fun g hg e => hnr2 (e ▸ hg)),hn2,fun g => Iff.rfl⟩,mE,fun g hg => by
   rcases hg with rfl | hg
   ·
    exact Or.inl ((ho _).2 (Or.inl rfl))
   ·
    exact hn02 g hg⟩ : Turn own (LaneAt b n ⟨l,s.phase,s.port,s.lane,s.copies⟩) w wE))
  skip
  have o0 := ko.cell 0
  have o1 := ko.cell 1
  have o2 := ko.cell 2
  have o3 := ko.cell 3
  have o4 := ko.cell 4
  simp at o0 o1 o2 o3 o4
  have r0 := kr4.cell 0
  have r1 := kr4.cell 1
  have r2 := kr4.cell 2
  have r3 := kr4.cell 3
  have r4 := kr4.cell 4
  simp at r0 r1 r2 r3 r4
  have u0 := kr4.fz 0
  have u1 := kr4.fz 1
  have u2 := kr4.fz 2
  have u3 := kr4.fz 3
  have u4 := kr4.fz 4
  go_wp2
  have qE := (((((kr4.set (0) (.int .i64 so.port)).set (1) (.int .i64 so.lane)).set (2) (.int .u64 (so.word : Int))).set (3) (.bool so.copy)).set (4) (.bool false))
  have mE := (((((hmm4.setCell (p := ⟨w.heap.size,0,none⟩) (Or.inr (Nat.le_refl _)) (.int .i64 so.port)).setCell (p := ⟨w.heap.size,1,none⟩) (Or.inr (Nat.le_refl _)) (.int .i64 so.lane)).setCell (p := ⟨w.heap.size,2,none⟩) (Or.inr (Nat.le_refl _)) (.int .u64 (so.word : Int))).setCell (p := ⟨w.heap.size,3,none⟩) (Or.inr (Nat.le_refl _)) (.bool so.copy)).setCell (p := ⟨w.heap.size,4,none⟩) (Or.inr (Nat.le_refl _)) (.bool false))
  have mB := ((((((Mod.refl (fun g => g = w.heap.size) w5).setCell (p := ⟨w.heap.size,0,none⟩) (Or.inl rfl) (.int .i64 so.port)).setCell (p := ⟨w.heap.size,1,none⟩) (Or.inl rfl) (.int .i64 so.lane)).setCell (p := ⟨w.heap.size,2,none⟩) (Or.inl rfl) (.int .u64 (so.word : Int))).setCell (p := ⟨w.heap.size,3,none⟩) (Or.inl rfl) (.bool so.copy)).setCell (p := ⟨w.heap.size,4,none⟩) (Or.inl rfl) (.bool false))
  simp at qE
  generalize (((((w5.setCell ⟨w.heap.size,0,none⟩ (.int .i64 so.port)).setCell ⟨w.heap.size,1,none⟩ (.int .i64 so.lane)).setCell ⟨w.heap.size,2,none⟩ (.int .u64 (so.word : Int))).setCell ⟨w.heap.size,3,none⟩ (.bool so.copy)).setCell ⟨w.heap.size,4,none⟩ (.bool false)) = wE at qE mE mB ⊢
  have qe0 := qE.cell 0
  have qe1 := qE.cell 1
  have qe2 := qE.cell 2
  have qe3 := qE.cell 3
  have qe4 := qE.cell 4
  simp at qe0 qe1 qe2 qe3 qe4
  exact bodyPost_ret (v := .tuple #[.agg #[.int .i64 so.port,.int .i64 so.lane,.int .u64 (so.word : Int),.bool so.copy,.bool false],.int .i64 0]) (by simp [results,Tryz.results143,go_sem,qe0,qe1,qe2,qe3,qe4]) rfl ⟨by unfold OutS.cells; rw [HOE.out],TT.out wE mE mB⟩
open Go.RowKit
section
variable {α : Type} (enc : α→List Value) (sz : Nat) (T : TypeId)
def Que (v : Value) (xs : List α) : Rep := fun w own =>
 (v = .slice none 0 0∧xs = []∧∀ g,¬ own g) ∨
 ∃ g o n cp cur,v = .slice (some ⟨g,o,none⟩) n cp∧Blk w g cur T∧xs.length = n∧n ≤ cp∧cp ≤ 9223372036854775807∧o + cp * sz ≤ cur.size∧(∀ j x,xs[j]? = some x→∀ t,t < sz→cur[o + j * sz + t]? = (enc x)[t]?)∧∀ k,own k ↔ k = g
variable {enc sz T}
theorem Que.stable (v : Value) (xs : List α) : Stable (Que enc sz T v xs) where
 later := by
  rintro w w' own S (h | ⟨g,o,n,cp,cur,rfl,hb,h1,h2,h3,h4,h5,ho⟩) m hS
  ·
   exact Or.inl h
  ·
   exact Or.inr ⟨g,o,n,cp,cur,rfl,hb.later m (hS g ((ho g).2 rfl)),h1,h2,h3,h4,h5,ho⟩
 lt := by
  rintro w own g (⟨-,-,h⟩ | ⟨g',o,n,cp,cur,rfl,hb,h1,h2,h3,h4,h5,ho⟩) hg
  ·
   exact absurd hg (h g)
  ·
   rw [(ho g).1 hg]
   exact hb.lt
theorem Que.nil (w : World) : Que enc sz T (.slice none 0 0) ([] : List α) w (fun _ => False) := Or.inl ⟨rfl,rfl,fun g h => h⟩
theorem Que.form {v : Value} {xs : List α} {w : World} {own : Nat→Prop} (h : Que enc sz T v xs w own) : ∃ a c,v = .slice a xs.length c∧xs.length ≤ c∧c ≤ 9223372036854775807 := by
 rcases h with ⟨rfl,rfl,-⟩ | ⟨g,o,n,cp,cur,rfl,hb,h1,h2,h3,h4,h5,ho⟩
 ·
  exact ⟨none,0,rfl,by simp,by omega⟩
 ·
  exact ⟨_,cp,by rw [h1],by omega,h3⟩
theorem Que.at {a : Option Addr} {n c : Nat} {xs : List α} {w : World} {own : Nat→Prop} (h : Que enc sz T (.slice a n c) xs w own) {j : Nat} {x : α} (hx : xs[j]? = some x) :
  ∃ g o,a = some ⟨g,o,none⟩∧own g∧g < w.heap.size∧∀ t,t < sz→w.cell? ⟨g,o + j * sz + t,none⟩ = (enc x)[t]? := by
 rcases h with ⟨-,rfl,-⟩ | ⟨g,o,n',cp,cur,hv,hb,h1,h2,h3,h4,h5,ho⟩
 ·
  simp at hx
 ·
  simp only [Value.slice.injEq] at hv
  exact ⟨g,o,hv.1,(ho g).2 rfl,hb.lt,fun t ht => (hb.cell _).trans (h5 j x hx t ht)⟩
theorem flat_get (hl : ∀ x : α,(enc x).length = sz) (xs : List α) (j t : Nat) (x : α) (hx : xs[j]? = some x) (ht : t < sz) : (xs.flatMap enc)[j * sz + t]? = (enc x)[t]? := by
 induction xs generalizing j with
 | nil => simp at hx
 | cons a l ih =>
  rw [List.flatMap_cons]
  cases j with
  | zero =>
   simp at hx
   subst hx
   rw [Nat.zero_mul,Nat.zero_add,List.getElem?_append_left (by rw [hl]; exact ht)]
  | succ j =>
   simp at hx
   rw [Nat.succ_mul,List.getElem?_append_right (by rw [hl]; omega),hl,show j * sz + sz + t - sz = j * sz + t by omega]
   exact ih j hx
theorem flat_len (hl : ∀ x : α,(enc x).length = sz) (xs : List α) : (xs.flatMap enc).length = xs.length * sz := by
 induction xs with
 | nil => simp
 | cons a l ih => rw [List.flatMap_cons,List.length_append,hl,ih,List.length_cons,Nat.succ_mul,Nat.add_comm]
theorem setCells_blk {w : World} {g : Nat} {cur : Array Value} {t : TypeId} (h : Blk w g cur t) (b : Nat) (vs : List Value) : Blk (w.setCells g b vs) g (putRow cur b vs) t := by
 induction vs generalizing w cur b with
 | nil => exact h
 | cons v vs ih => exact ih (h.set b v) (b + 1)
theorem setCells_mod {w : World} (g b : Nat) (vs : List Value) : Mod (fun k => k = g) w (w.setCells g b vs) := by
 induction vs generalizing w b with
 | nil => exact Mod.refl _ _
 | cons v vs ih => exact ((Mod.refl (fun k => k = g) w).setCell (p := ⟨g,b,none⟩) (Or.inl rfl) v).trans (ih (b + 1)) (fun i hi e => e)
theorem Que.own (hl : ∀ x : α,(enc x).length = sz) {w : World} {base : Nat} {v : Value} {xs : List α} (h : w.ownsRow base T sz v xs.length (xs.flatMap enc)) : Que enc sz T v xs w (fun g => v.ownBlock = some g) := by
 rcases h.2 with ⟨rfl,h0⟩ | ⟨g,cap,cur,rfl,hb,hh,hc,hm,hs,ht⟩
 ·
  exact Or.inl ⟨rfl,List.eq_nil_of_length_eq_zero h0,fun g hg => by simp [Value.ownBlock] at hg⟩
 ·
  refine Or.inr ⟨g,0,_,cap,cur,rfl,hh,rfl,hc,by unfold maxLen at hm; omega,by omega,fun j x hj t htt => ?_,fun k => by simp [Value.ownBlock,eq_comm]⟩
  have hjl : j < xs.length := (List.getElem?_eq_some_iff.1 hj).1
  have h1 := flat_get hl xs j t x hj htt
  rw [← ht,List.getElem?_take,if_pos (place_lt hjl htt)] at h1
  rw [Nat.zero_add,← h1]
  simp
theorem Que.append {P : Program} {tS ty : TypeId} {z : Value} {bytes : Nat} (hl : ∀ x : α,(enc x).length = sz) (h1c : ∀ x : α,∀ u ∈ enc x,u.oneCell' = true) (ht : P.underlying tS = some (.slice T)) (hinfo : (P.info? T).map (fun i => (i.zero,i.size,i.bytes)) = some (some z,sz,bytes)) (hzs : z.cells.size = sz) (hsz : 0 < sz) (hby : bytes ≤ 64)
  {w : World} {v : Value} {xs : List α} {own : Nat→Prop} (h : Que enc sz T v xs w own) {x : α} {L : Nat} {cs : Array Value} {t' : TypeId} (hL : Blk w L cs t') (hcs : cs.toList = enc x) (hxl : xs.length ≤ 1000000) :
  ∃ a c w',(Builtin.append_ #[tS,tS] ty #[v,.slice (some ⟨L,0,none⟩) 1 1]).run P w = .ok (.slice a (xs.length + 1) c) w'∧Turn own (Que enc sz T (.slice a (xs.length + 1) c) (xs ++ [x])) w w' := by
 obtain ⟨i,hi,hz,hsize,hbyt⟩ := info_parts hinfo
 have hnews : ∀ j u,(enc x)[j]? = some u→w.cell? ((⟨L,0,none⟩ : Addr).add j) = some u := by
  intro j u hj
  have e : (⟨L,0,none⟩ : Addr).add j = ⟨L,j,none⟩ := by
   unfold Addr.add
   split <;> simp_all
  rw [e,hL.cell,← hj,← hcs]
  simp
 have hne : xs ++ [x] ≠ [] := by simp
 have hb2 : (xs.length + 1) * bytes ≤ 140737488355328 := Nat.le_trans (Nat.mul_le_mul (show xs.length + 1 ≤ 1000001 by omega) hby) (by decide)
 have hlast : ∀ {v' : Value} {w' : World} {base : Nat},w'.ownsRow base T sz v' (xs.length + 1) (xs.flatMap enc ++ enc x)→∃ a c,v' = .slice a (xs.length + 1) c∧Que enc sz T v' (xs ++ [x]) w' (fun g => v'.ownBlock = some g) := by
  intro v' w' base ho
  have hq : Que enc sz T v' (xs ++ [x]) w' (fun g => v'.ownBlock = some g) := by
   refine Que.own (base := base) hl ?_
   rw [List.length_append,List.flatMap_append]
   simpa using ho
  obtain ⟨a,c,hv,-⟩ := hq.form
  exact ⟨a,c,by rw [hv]; simp,hq⟩
 rcases h with ⟨rfl,rfl,hno⟩ | ⟨g,o,n,cp,cur,rfl,hb,hn,hc,hm,hs,hx,ho⟩
 ·
  obtain ⟨v',w',hr,how,hgr,-⟩ := run_append_own (P := P) w w.heap.size tS ty T i z sz bytes ht hi hz hsize hbyt hzs hsz (.slice none 0 0) 0 [] (World.ownsRow_nil _ _ _ _)
   ⟨L,0,none⟩ 1 1 (enc x) (by rw [hl,Nat.one_mul]) hnews (h1c x) (by decide) (by simpa using hb2) (Nat.le_refl _)
  obtain ⟨a,c,rfl,hq⟩ := hlast (base := w.heap.size) (by simpa using how)
  refine ⟨a,c,w',hr,_,hq,(Mod.refl own w).grown hgr (fun k hk => by cases hk),fun g hg => Or.inr ?_⟩
  exact (how.lt g hg).1
 ·
  by_cases hroom : n + 1 ≤ cp
  ·
   have hspace : o + n * sz + sz ≤ cur.size := by
    have : n * sz + sz ≤ cp * sz := by rw [← Nat.succ_mul]; exact Nat.mul_le_mul_right _ hroom
    omega
   have hr := run_append_room_cells (P := P) w tS ty T i ht hi g o n cp ⟨L,0,none⟩ 1 1 (enc x) (by rw [hsize,hl,Nat.one_mul]) hnews (h1c x) hroom
    (by intro j hj; rw [hl] at hj; rw [hb.cell,hsize,Array.getElem?_eq_getElem (by omega)]; rfl) (by intro j hj; exact hb.fz _)
   rw [hsize] at hr
   subst hn
   refine ⟨_,_,_,hr,own,Or.inr ⟨g,o,xs.length + 1,cp,putRow cur (o + xs.length * sz) (enc x),rfl,setCells_blk hb _ _,by simp,hroom,hm,by rw [putRow_size]; exact hs,fun j y hj t htt => ?_,ho⟩,(setCells_mod g _ _).mono (fun k _ e => (ho k).2 e),fun k hk => Or.inl hk⟩
   by_cases hjn : j = xs.length
   ·
    subst hjn
    rw [List.getElem?_append_right (Nat.le_refl _),Nat.sub_self] at hj
    simp at hj
    subst hj
    rw [putRow_in _ _ _ _ (by rw [hl]; exact htt) (by rw [hl]; omega)]
   ·
    have hjl : j < xs.length := by
     have := (List.getElem?_eq_some_iff.1 hj).1
     simp at this
     omega
    rw [List.getElem?_append_left hjl] at hj
    rw [putRow_out _ _ _ _ (Or.inl (by have := place_lt (sz := sz) hjl htt; omega))]
    exact hx j y hj t htt
  ·
   obtain ⟨v',w',hr,how,hgr⟩ := run_append_arg_grows (P := P) w tS ty T i z sz bytes ht hi hz hsize hbyt hzs hsz ⟨g,o,none⟩ n cp (xs.flatMap enc) (by rw [flat_len hl,hn])
    (by
     intro j u hj
     have hjl := (List.getElem?_eq_some_iff.1 hj).1
     rw [flat_len hl] at hjl
     have e : (⟨g,o,none⟩ : Addr).add j = ⟨g,o + j,none⟩ := by
      unfold Addr.add
      split <;> simp_all
     have hdm : j / sz * sz + j % sz = j := by rw [Nat.mul_comm]; exact Nat.div_add_mod j sz
     have hq : j / sz < xs.length := Nat.div_lt_of_lt_mul (by rw [Nat.mul_comm]; exact hjl)
     have hxq : xs[j / sz]? = some xs[j / sz] := List.getElem?_eq_getElem hq
     have h1 := hx _ _ hxq (j % sz) (Nat.mod_lt _ hsz)
     have h2 := flat_get hl xs _ (j % sz) _ hxq (Nat.mod_lt _ hsz)
     rw [hdm,hj] at h2
     rw [e,hb.cell,← hdm,← Nat.add_assoc,h1,h2])
    ⟨L,0,none⟩ 1 1 (enc x) (by rw [hl,Nat.one_mul]) hnews (by omega) (by unfold maxLen; omega) (by rw [← hn]; exact hb2)
   rw [← hn] at how
   obtain ⟨a,c,rfl,hq⟩ := hlast how
   exact ⟨a,c,w',hr,_,hq,(Mod.refl own w).grown hgr (fun k hk => by cases hk),fun g hg => Or.inr (how.lt g hg).1⟩
theorem Que.rest {a : Option Addr} {n c : Nat} {x : α} {xs : List α} {w : World} {own : Nat→Prop} (h : Que enc sz T (.slice a n c) (x :: xs) w own) :
  ∃ g o,a = some ⟨g,o,none⟩∧n = xs.length + 1∧n ≤ c∧∀ (a' : Option Addr),(a' = some ⟨g,o,none⟩∧n = 1∨a' = some ⟨g,o + sz,none⟩)→Que enc sz T (.slice a' (n - 1) (n - 1)) xs w own := by
 rcases h with ⟨-,h,-⟩ | ⟨g,o,n',cp,cur,hv,hb,hn,hc,hm,hs,hx,ho⟩
 ·
  cases h
 ·
  simp only [Value.slice.injEq] at hv
  obtain ⟨rfl,rfl,rfl⟩ := hv
  simp only [List.length_cons] at hn
  refine ⟨g,o,rfl,hn.symm,hc,fun a' ha' => ?_⟩
  have hns : (n - 1) * sz + sz = n * sz := by rw [← Nat.succ_mul]; congr 1; omega
  have hnc : n * sz ≤ c * sz := Nat.mul_le_mul_right _ hc
  rcases ha' with ⟨rfl,h1⟩ | rfl
  ·
   refine Or.inr ⟨g,o,n - 1,n - 1,cur,rfl,hb,by omega,Nat.le_refl _,by omega,by omega,fun j y hj => ?_,ho⟩
   have := (List.getElem?_eq_some_iff.1 hj).1
   omega
  ·
   refine Or.inr ⟨g,o + sz,n - 1,n - 1,cur,rfl,hb,by omega,Nat.le_refl _,by omega,by omega,fun j y hj t ht => ?_,ho⟩
   have := hx (j + 1) y (by simpa using hj) t ht
   rw [Nat.succ_mul] at this
   rw [show o + sz + j * sz + t = o + (j * sz + sz) + t by omega]
   exact this
end
open Go.RowKit
def intsA (l : List Int) : Array Value := (l.map (Value.int .i64)).toArray
theorem intsA_get {l : List Int} {k : Nat} (h : k < l.length) : (intsA l)[k]? = some (.int .i64 (l.getD k 0)) := by
 simp [intsA,List.getD_eq_getElem?_getD,h]
theorem intsA_set (l : List Int) (k : Nat) (v : Int) : (intsA l).setIfInBounds k (.int .i64 v) = intsA (l.set k v) := by
 simp [intsA,List.map_set]
inductive LP where
 | blk | cr | far | back | words
def LP.no : LP→Nat
 | .blk => 0 | .cr => 1 | .far => 2 | .back => 3 | .words => 4
instance : DecidableEq LP := fun a b => if h : a.no = b.no then isTrue (by cases a <;> cases b <;> simp [LP.no] at h <;> rfl) else isFalse (fun e => h (by rw [e]))
def linkX (b r1 r2 g1 g2 L D R : Nat) (s : LinkS) : LP→Rep
 | .blk => Cells b #[.pointer (some ⟨r1,0,none⟩),.pointer (some ⟨r2,0,none⟩),.slice (some ⟨g1,0,none⟩) L L,.slice (some ⟨g2,0,none⟩) L L] 124
 | .cr => Cells g1 (intsA s.credits) 3
 | .far => Cells g2 (intsA s.far) 3
 | .back => RingAt encI 1 3 193 r1 (L * D) s.back
 | .words => RingAt encC 2 128 174 r2 R s.words
def LinkAt (b L D R : Nat) (s : LinkS) : Rep := fun w own => ∃ r1 r2 g1 g2,Fam (linkX b r1 r2 g1 g2 L D R s) w own
theorem linkX_stable (b r1 r2 g1 g2 L D R : Nat) (s : LinkS) (i : LP) : Stable (linkX b r1 r2 g1 g2 L D R s i) := by
 cases i
 ·
  exact Cells.stable _ _ _
 ·
  exact Cells.stable _ _ _
 ·
  exact Cells.stable _ _ _
 ·
  exact RingAt.stable ..
 ·
  exact RingAt.stable ..
theorem LinkAt.stable (b L D R : Nat) (s : LinkS) : Stable (LinkAt b L D R s) where
 later := by
  rintro w w' own S ⟨r1,r2,g1,g2,h⟩ m hS
  exact ⟨r1,r2,g1,g2,(Fam.stable (linkX_stable b r1 r2 g1 g2 L D R s)).later h m hS⟩
 lt := by
  rintro w own g ⟨r1,r2,g1,g2,h⟩ hg
  exact (Fam.stable (linkX_stable b r1 r2 g1 g2 L D R s)).lt h hg
structure LinkOk (L D R : Nat) (s : LinkS) : Prop where
 cl : s.credits.length = L
 fl : s.far.length = L
 L1 : 1 ≤ L
 L8 : L ≤ 8
 D1 : 1 ≤ D
 D64 : D ≤ 64
 R1 : 1 ≤ R
 R64 : R ≤ 64
 c0 : ∀ k,k < L→0 ≤ s.credits.getD k 0
 f0 : ∀ k,k < L→0 ≤ s.far.getD k 0
 wl : ∀ x ∈ s.words,0 ≤ x.1∧x.1 < (L : Int)∧x.2 < 2 ^ 64
 bl : ∀ x ∈ s.back,0 ≤ x∧x < (L : Int)
 sum : ∀ k : Nat,k < L→s.credits.getD k 0 + (s.words.countP fun x => decide (x.1 = (k : Int)) : Nat) + s.far.getD k 0 + (s.back.countP fun x => decide (x = (k : Int)) : Nat) = (D : Int)
theorem LinkOk.cb {L D R : Nat} {s : LinkS} (h : LinkOk L D R s) {k : Nat} (hk : k < L) : 0 ≤ s.credits.getD k 0∧s.credits.getD k 0 ≤ 64∧0 ≤ s.far.getD k 0∧s.far.getD k 0 ≤ 64 := by
 have h1 := h.c0 k hk
 have h2 := h.f0 k hk
 have h3 := h.sum k hk
 have h4 := h.D64
 omega
theorem link_is (b L D R k : Nat) (s : LinkS) (own : Nat→Prop) (w : World) (h : LinkAt b L D R s w own) (hk : k < L) :
  Calls Tryz.prog 82 #[.pointer (some ⟨b,0,none⟩),.int .i64 (k : Int)] w fun e w' => e = .returned (.bool true)∧w' = w := by
 obtain ⟨r1,r2,g1,g2,hF⟩ := h
 obtain ⟨ob,⟨kb,hob⟩,hobo,putB⟩ := hF.at (linkX_stable b r1 r2 g1 g2 L D R s) .blk
 obtain ⟨oc,⟨kc,hoc⟩,hoco,putC⟩ := hF.at (linkX_stable b r1 r2 g1 g2 L D R s) .cr
 obtain ⟨of',⟨kf,hof⟩,hofo,putF⟩ := hF.at (linkX_stable b r1 r2 g1 g2 L D R s) .far
 obtain ⟨oq,hq,hoqo,putQ⟩ := hF.at (linkX_stable b r1 r2 g1 g2 L D R s) .back
 obtain ⟨ow,hw,howo,putW⟩ := hF.at (linkX_stable b r1 r2 g1 g2 L D R s) .words
 have c2 := kb.cell 2
 simp at c2
 clear kb hob hobo putB kc hoc hoco putC kf hof hofo putF hq hoqo putQ hw howo putW hF
 have q0 : (0 : Int) ≤ (k : Int) := by omega
 have q1 : (k : Int) < (L : Int) := by omega
 go_enter Tryz.func82,Tryz.ntmps82
 go_wp2
 go_ret
 exact ⟨by simp,rfl⟩
theorem link_is_nil (k : Int) (w : World) :
  Calls Tryz.prog 82 #[.pointer none,.int .i64 k] w fun e w' => e = .returned (.bool false)∧w' = w := by
 go_enter Tryz.func82,Tryz.ntmps82
 go_wp2
 go_ret
 exact ⟨rfl,rfl⟩
theorem link_may_nil (k : Int) (w : World) :
  Calls Tryz.prog 100 #[.pointer none,.int .i64 k] w fun e w' => e = .returned (.bool false)∧w' = w := by
 go_enter Tryz.func100,Tryz.ntmps100
 go_wp2_with fail
 refine (link_is_nil k _).mono ?_
 rintro e w1 ⟨rfl,rfl⟩
 go_wp2
 go_ret
 exact ⟨rfl,rfl⟩
theorem link_may (b L D R k : Nat) (s : LinkS) (own : Nat→Prop) (w : World) (h : LinkAt b L D R s w own) (hk : k < L) (hL : L ≤ 8) (hcl : s.credits.length = L) :
  Calls Tryz.prog 100 #[.pointer (some ⟨b,0,none⟩),.int .i64 (k : Int)] w fun e w' => e = .returned (.bool (decide (0 < s.credits.getD k 0) && decide ((s.words.length : Int) < (R : Int))))∧Drw w w' := by
 have HI := Lib.hid (link_is b L D R k s own w h hk)
 obtain ⟨r1,r2,g1,g2,hF⟩ := h
 obtain ⟨ob,⟨kb,hob⟩,hobo,putB⟩ := hF.at (linkX_stable b r1 r2 g1 g2 L D R s) .blk
 obtain ⟨oc,⟨kc,hoc⟩,hoco,putC⟩ := hF.at (linkX_stable b r1 r2 g1 g2 L D R s) .cr
 obtain ⟨of',⟨kf,hof⟩,hofo,putF⟩ := hF.at (linkX_stable b r1 r2 g1 g2 L D R s) .far
 obtain ⟨oq,hq,hoqo,putQ⟩ := hF.at (linkX_stable b r1 r2 g1 g2 L D R s) .back
 obtain ⟨ow,hw,howo,putW⟩ := hF.at (linkX_stable b r1 r2 g1 g2 L D R s) .words
 have hbd := ringC_at_bd hw
 have HR := Lib.hid (ringC_at_room hw)
 have c1 := kb.cell 1
 have c2 := kb.cell 2
 have c3 := (kc.cell k).trans (intsA_get (by omega))
 simp at c1 c2
 generalize s.credits.getD k 0 = z at c3 ⊢
 obtain ⟨m,hm⟩ : ∃ m,s.words.length = m := ⟨_,rfl⟩
 rw [hm] at HR hbd ⊢
 clear kb hob hobo putB kc hoc hoco putC kf hof hofo putF hq hoqo putQ hw howo putW hF hm hcl
 have q0 : (0 : Int) ≤ (k : Int) := by omega
 have q1 : (k : Int) < (L : Int) := by omega
 have q2 : (R : Int) ≤ 4096 := by omega
 by_cases hz : 0 < z
 ·
  go_enter Tryz.func100,Tryz.ntmps100
  go_wp2_with fail
  refine HI.out.mono ?_
  rintro e w1 ⟨rfl,rfl⟩
  go_wp2_with fail
  refine HR.out.mono ?_
  rintro e w2 ⟨rfl,d2⟩
  by_cases hm2 : m < R
  all_goals
   go_wp2
   go_ret
   exact ⟨ret_bool (by simp; omega),d2⟩
 ·
  have hz2 : z ≤ 0 := by omega
  have hz3 : decide (0 < z) = false := decide_eq_false hz
  go_enter Tryz.func100,Tryz.ntmps100
  go_wp2_with fail
  refine HI.out.mono ?_
  rintro e w1 ⟨rfl,rfl⟩
  go_wp2
  go_ret
  exact ⟨ret_bool (by simp; omega),Drw.refl _⟩
end Go.Proofs.YtfiklfkfbcpmgaaGreat
