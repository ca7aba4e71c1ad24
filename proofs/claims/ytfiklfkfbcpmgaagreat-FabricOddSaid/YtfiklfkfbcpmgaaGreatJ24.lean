/- Parts: FabP FabR FabT FabU FabN FabO FabFull FabV. No condition. -/
import Derived.Test.YtfiklfkfbcpmgaaGreatJ23
import Derived.Laws.EntriesVeiled
import Derived.Test.YtfiklfkfbcpmgaaGreatJ21
import Derived.Test.YtfiklfkfbcpmgaaGreatJ17
set_option linter.all false
set_option maxRecDepth 100000
set_option maxHeartbeats 3200000
namespace Go.Proofs.YtfiklfkfbcpmgaaGreat
open Go.RowKit
section
variable {b : Nat} {A : FAddr} {c : Cfg} {v : Value} {f : FabS} {own : Nat→Prop} {w : World}
theorem give_is {n : Nat} (hnl : n < f.nodes.length) (k : Nat) : f.give c (n : Int) (k : Int) = (f.put (n : Int) ((f.at (n : Int)).setRt ((f.at (n : Int)).rt.give c k).1),((f.at (n : Int)).rt.give c k).2) := by
 unfold FabS.give RouterS.give
 dsimp only
 have e0 : (f.at (n : Int)).rt.lanes.getD k LaneS.new = (f.at (n : Int)).lane (k : Int) := rfl
 rw [e0]
 by_cases hp : ((f.at (n : Int)).lane (k : Int)).phase = 1
 ·
  rw [if_pos hp,if_pos hp]
  have e1 : (f.at (n : Int)).giveK c ((f.at (n : Int)).lane (k : Int)).port (k : Int) = (f.at (n : Int)).rt.giveK c ((f.at (n : Int)).lane (k : Int)).port (k : Int) := rfl
  rw [e1]
  rcases (f.at (n : Int)).rt.giveK c ((f.at (n : Int)).lane (k : Int)).port (k : Int) with _ | j
  ·
   show (f,false) = (f.put (n : Int) ((f.at (n : Int)).setRt (f.at (n : Int)).rt),false)
   rw [show (f.at (n : Int)).setRt (f.at (n : Int)).rt = f.at (n : Int) from rfl,put_self hnl]
  ·
   rfl
 ·
  rw [if_neg hp,if_neg hp]
  show (f,false) = (f.put (n : Int) ((f.at (n : Int)).setRt (f.at (n : Int)).rt),false)
  rw [show (f.at (n : Int)).setRt (f.at (n : Int)).rt = f.at (n : Int) from rfl,put_self hnl]
theorem fabric_give (hF : Fam (fabX b A c v f) w own) (hk : FabOk c f) {kind n p l : Nat} (hn : n < c.nodes.toNat) (hp : p < 5) (hl : (l : Int) < c.Lanes) {ch : Int} :
  Calls Tryz.prog 63 #[.pointer (some ⟨b,0,none⟩),.agg (partA kind n p l),.int .i64 ch] w fun e w' =>
   e = .returned (.bool (f.give c (n : Int) ((p * c.Lanes.toNat + l : Nat) : Int)).2)∧Turn own (Fam (fabX b A c v (f.give c (n : Int) ((p * c.Lanes.toNat + l : Nat) : Int)).1)) w w' := by
 rw [give_is (by rw [hk.len]; exact hn)]
 exact fabric_give0 hF hk hn hp hl
def stepF : Nat→FuncId
 | 0 => 62
 | 1 => 63
 | 2 => 64
 | 3 => 65
 | 4 => 66
 | 5 => 67
 | _ => 68
theorem lane_split {L r : Int} (h0 : 0 ≤ r) (hL : 1 ≤ L) (h5 : r < 5 * L) : ∃ p l : Nat,r / L = (p : Int)∧r % L = (l : Int)∧p < 5∧(l : Int) < L∧r = ((p * L.toNat + l : Nat) : Int) := by
 obtain ⟨p,hp⟩ := Int.eq_ofNat_of_zero_le (show 0 ≤ r / L from Int.ediv_nonneg h0 (by omega))
 obtain ⟨l,hl⟩ := Int.eq_ofNat_of_zero_le (show 0 ≤ r % L from Int.emod_nonneg _ (by omega))
 have h1 : r / L < 5 := Int.ediv_lt_of_lt_mul (by omega) (by omega)
 have h2 : r % L < L := Int.emod_lt_of_pos _ (by omega)
 have h3 := Int.mul_ediv_add_emod r L
 rw [hp,hl] at h3
 obtain ⟨M,rfl⟩ := Int.eq_ofNat_of_zero_le (show 0 ≤ L by omega)
 refine ⟨p,l,hp,hl,by omega,by omega,?_⟩
 rw [Int.toNat_natCast]
 have h4 : (M : Int) * (p : Int) = ((p * M : Nat) : Int) := by rw [Int.mul_comm]; push_cast; rfl
 rw [h4] at h3
 omega
theorem fabric_part (hF : Fam (fabX b A c v f) w own) (hk : FabOk c f) {n : Nat} (hn : n < c.nodes.toNat) {r : Int} (h0 : 0 ≤ r) (h1 : r < c.each) {ch : Int} (hc1 : -9223372036854775808 ≤ ch) (hc2 : ch ≤ 9223372036854775807) :
  Calls Tryz.prog (stepF (kindOf c.Lanes r)) #[.pointer (some ⟨b,0,none⟩),.agg (partV c.Lanes (n : Int) r),.int .i64 ch] w fun e w' =>
   e = .returned (.bool (f.part c (n : Int) r ch).2)∧Turn own (Fam (fabX b A c v (f.part c (n : Int) r ch).1)) w w' := by
 have hL1 := hk.ok.L1
 have hL8 := hk.ok.L2
 rw [each_eq c (c.chk_of hk.ok)] at h1
 have s0 : sumsz c.Lanes 0 = 0∧sumsz c.Lanes 1 = 5 * c.Lanes∧sumsz c.Lanes 2 = 10 * c.Lanes∧sumsz c.Lanes 5 = 10 * c.Lanes + 7∧sumsz c.Lanes 6 = 10 * c.Lanes + 11 := by simp [sumsz]; omega
 obtain ⟨s0,s1,s2,s5,s6⟩ := s0
 unfold FabS.part
 dsimp only
 by_cases c0 : r < 5 * c.Lanes
 ·
  rw [if_pos c0]
  have ek : kindOf c.Lanes r = 0 := by unfold kindOf; rw [if_pos c0]
  obtain ⟨p,l,hp,hl,hp5,hlL,hr⟩ := lane_split h0 hL1 c0
  have ep : partV c.Lanes (n : Int) r = partA 0 n p l := by
   unfold partV partPort partLane partA
   rw [ek,if_pos (by omega),if_pos (by omega),s0,Int.sub_zero,hp,hl]
  rw [ek,ep,hr]
  exact fabric_find hF hk hn hp5 hlL hc1 hc2
 rw [if_neg c0]
 by_cases c1 : r < 2 * (5 * c.Lanes)
 ·
  rw [if_pos c1]
  have ek : kindOf c.Lanes r = 1 := by unfold kindOf; rw [if_neg c0,if_pos (by omega)]
  obtain ⟨p,l,hp,hl,hp5,hlL,hr⟩ := lane_split (r := r - 5 * c.Lanes) (by omega) hL1 (by omega)
  have ep : partV c.Lanes (n : Int) r = partA 1 n p l := by
   unfold partV partPort partLane partA
   rw [ek,if_pos (by omega),if_pos (by omega),s1,hp,hl]
  rw [ek,ep,hr]
  exact fabric_give hF hk hn hp5 hlL
 rw [if_neg c1]
 by_cases c2 : r < 2 * (5 * c.Lanes) + 5
 ·
  rw [if_pos c2]
  have ek : kindOf c.Lanes r = 2 := by unfold kindOf; rw [if_neg c0,if_neg (by omega),if_pos (by omega)]
  obtain ⟨p,hp⟩ := Int.eq_ofNat_of_zero_le (show 0 ≤ r - 2 * (5 * c.Lanes) by omega)
  have ep : partV c.Lanes (n : Int) r = partA 2 n p 0 := by
   unfold partV partPort partLane partA
   rw [ek,if_neg (by omega),if_pos rfl,if_neg (by omega),s2,show r - 10 * c.Lanes = (p : Int) by omega]
   rfl
  rw [ek,ep,hp]
  exact fabric_move hF hk hn (by omega)
 rw [if_neg c2]
 by_cases c3 : r < 2 * (5 * c.Lanes) + 6
 ·
  rw [if_pos c3]
  have ek : kindOf c.Lanes r = 3 := by unfold kindOf; rw [if_neg c0,if_neg (by omega),if_neg (by omega),if_pos (by omega)]
  have ep : partV c.Lanes (n : Int) r = partA 3 n 0 0 := by
   unfold partV partPort partLane partA
   rw [ek,if_neg (by omega),if_neg (by omega),if_neg (by omega),if_neg (by omega)]
   rfl
  rw [ek,ep]
  exact fabric_put hF hk hn
 rw [if_neg c3]
 by_cases c4 : r < 2 * (5 * c.Lanes) + 7
 ·
  rw [if_pos c4]
  have ek : kindOf c.Lanes r = 4 := by unfold kindOf; rw [if_neg c0,if_neg (by omega),if_neg (by omega),if_neg (by omega),if_pos (by omega)]
  have ep : partV c.Lanes (n : Int) r = partA 4 n 0 0 := by
   unfold partV partPort partLane partA
   rw [ek,if_neg (by omega),if_neg (by omega),if_neg (by omega),if_neg (by omega)]
   rfl
  rw [ek,ep]
  exact fabric_tell hF hk hn
 rw [if_neg c4]
 by_cases c5 : r < 2 * (5 * c.Lanes) + 11
 ·
  rw [if_pos c5]
  have ek : kindOf c.Lanes r = 5 := by unfold kindOf; rw [if_neg c0,if_neg (by omega),if_neg (by omega),if_neg (by omega),if_neg (by omega),if_pos (by omega)]
  obtain ⟨p,hp⟩ := Int.eq_ofNat_of_zero_le (show 0 ≤ r - (2 * (5 * c.Lanes) + 7) + 1 by omega)
  have ep : partV c.Lanes (n : Int) r = partA 5 n p 0 := by
   unfold partV partPort partLane partA
   rw [ek,if_neg (by omega),if_neg (by omega),if_pos (by omega),if_neg (by omega),s5,show r - (10 * c.Lanes + 7) + 1 = (p : Int) by omega]
   rfl
  rw [ek,ep,hp]
  exact fabric_carry hF hk hn (by omega)
 rw [if_neg c5]
 have ek : kindOf c.Lanes r = 6 := by unfold kindOf; rw [if_neg c0,if_neg (by omega),if_neg (by omega),if_neg (by omega),if_neg (by omega),if_neg (by omega)]
 obtain ⟨p,hp⟩ := Int.eq_ofNat_of_zero_le (show 0 ≤ r - (2 * (5 * c.Lanes) + 11) + 1 by omega)
 have ep : partV c.Lanes (n : Int) r = partA 6 n p 0 := by
  unfold partV partPort partLane partA
  rw [ek,if_neg (by omega),if_neg (by omega),if_pos (by omega),if_neg (by omega),s6,show r - (10 * c.Lanes + 11) + 1 = (p : Int) by omega]
  rfl
 rw [ek,ep,hp]
 exact fabric_credit hF hk hn (by omega)
theorem fabCells_set10 (c : Cfg) (v : Value) (s t : Int) : (fabCells c v s).setIfInBounds 10 (.int .i64 t) = fabCells c v t := rfl
theorem fab_steps (hF : Fam (fabX b A c v f) w own) (s : Int) : Turn own (Fam (fabX b A c v ⟨f.nodes,s⟩)) w (w.setCell ⟨b,10,none⟩ (.int .i64 s)) := by
 obtain ⟨ob,⟨kb,hob⟩,hobo,put⟩ := hF.at (fabX_stable b A c v f) .blk
 refine put (fabX b A c v ⟨f.nodes,s⟩) _ (fun i hi => ?_) ?_
 ·
  cases i
  ·
   exact absurd rfl hi
  ·
   rfl
  ·
   rfl
  ·
   rfl
  ·
   rfl
 ·
  have k := kb.set 10 (.int .i64 s)
  rw [fabCells_set10] at k
  exact Cells.put hob k ((Mod.refl (fun g => g = b) w).setCell (p := ⟨b,10,none⟩) (Or.inl rfl) (.int .i64 s))
end
open Go.RowKit
section
variable {b : Nat} {A : FAddr} {c : Cfg} {v : Value} {f : FabS} {own : Nat→Prop} {w : World}
theorem fab_cfg (hF : Fam (fabX b A c v f) w own) : w.cell? ⟨b,0,none⟩ = some (.int .i64 c.W)∧w.cell? ⟨b,1,none⟩ = some (.int .i64 c.H)∧w.cell? ⟨b,2,none⟩ = some (.int .i64 c.Lanes)∧w.cell? ⟨b,3,none⟩ = some (.int .i64 c.Depth)∧w.cell? ⟨b,4,none⟩ = some (.int .i64 c.Ring)∧w.cell? ⟨b,5,none⟩ = some (.int .i64 c.Inbox)∧w.cell? ⟨b,6,none⟩ = some (.int .i64 c.Bound)∧w.cell? ⟨b,7,none⟩ = some (.bool c.West)∧w.cell? ⟨b,8,none⟩ = some (.bool c.Cast) := by
 have h := (fab_cells hF).1
 refine ⟨?_,?_,?_,?_,?_,?_,?_,?_,?_⟩ <;> (rw [h.cell]; rfl)
theorem fabric_do_no (hF : Fam (fabX b A c v f) w own) {n : Int} {ch : Int} (h : ¬ (0 ≤ n∧n < c.parts)) :
  Calls Tryz.prog 22 #[.pointer (some ⟨b,0,none⟩),.int .i64 n,.int .i64 ch] w fun e w' => e = .returned (.bool false)∧Turn own (Fam (fabX b A c v f)) w w' := by
 obtain ⟨c0,c1,c2,c3,c4,c5,c6,c7,c8⟩ := fab_cfg hF
 have HO := Lib.hid (pick_Of_no c n w h)
 have HS := Lib.hid (fun w' (m : Mod (fun _ => False) w w') => Turn.same (Fam.stable (fabX_stable b A c v f)) hF m)
 simp only [Cfg.cells] at HO
 clear hF h
 go_enter Tryz.func22,Tryz.ntmps22
 go_wp2_with fail
 refine HO.out.mono ?_
 rintro e w1 ⟨rfl,m1⟩
 have T := Lib.hid (HS.out _ (m1.alloc (.cells #[.int .i64 0,.int .i64 0,.int .i64 0,.int .i64 0] 51)))
 clear m1 HS HO
 go_wp2
 go_ret
 exact ⟨rfl,T.out⟩
theorem step_enters (k : Nat) (hk : k < 7) : ∀ args w,(callFunc (stepF k) args).run Tryz.prog w = .ok (.enter (stepF k) args) w := by
 rcases (show k = 0∨k = 1∨k = 2∨k = 3∨k = 4∨k = 5∨k = 6 by omega) with rfl | rfl | rfl | rfl | rfl | rfl | rfl
 ·
  exact enters_of Tryz.func62 (by kernel_rfl) rfl
 ·
  exact enters_of Tryz.func63 (by kernel_rfl) rfl
 ·
  exact enters_of Tryz.func64 (by kernel_rfl) rfl
 ·
  exact enters_of Tryz.func65 (by kernel_rfl) rfl
 ·
  exact enters_of Tryz.func66 (by kernel_rfl) rfl
 ·
  exact enters_of Tryz.func67 (by kernel_rfl) rfl
 ·
  exact enters_of Tryz.func68 (by kernel_rfl) rfl
theorem step_table (k : Nat) (hk : k < 7) : (#[.func (.func 62) #[] #[],.func (.func 63) #[] #[],.func (.func 64) #[] #[],.func (.func 65) #[] #[],.func (.func 66) #[] #[],.func (.func 67) #[] #[],.func (.func 68) #[] #[]] : Array Value)[k]? = some (.func (.func (stepF k)) #[] #[]) := by
 rcases (show k = 0∨k = 1∨k = 2∨k = 3∨k = 4∨k = 5∨k = 6 by omega) with rfl | rfl | rfl | rfl | rfl | rfl | rfl <;> rfl
theorem fabric_do_yes (hF : Fam (fabX b A c v f) w own) (hk : FabOk c f) (hst : f.steps < 2305843009213693952) {n : Int} (h0 : 0 ≤ n) (h1 : n < c.parts) {ch : Int} (hc1 : -9223372036854775808 ≤ ch) (hc2 : ch ≤ 9223372036854775807) (hsp : (f.part c (n / c.each) (n % c.each) ch).1.steps = f.steps) :
  Calls Tryz.prog 22 #[.pointer (some ⟨b,0,none⟩),.int .i64 n,.int .i64 ch] w fun e w' => e = .returned (.bool (f.does c n ch).2)∧Turn own (Fam (fabX b A c v (f.does c n ch).1)) w w' := by
 have he1 : 1 ≤ c.each := by
  rw [each_eq c (c.chk_of hk.ok)]
  have := hk.ok.L1
  omega
 obtain ⟨nd,hnd⟩ := Int.eq_ofNat_of_zero_le (show 0 ≤ n / c.each from Int.ediv_nonneg h0 (by omega))
 have hr0 : 0 ≤ n % c.each := Int.emod_nonneg _ (by omega)
 have hr1 : n % c.each < c.each := Int.emod_lt_of_pos _ (by omega)
 have hndN : nd < c.nodes.toNat := by
  have : n / c.each < c.nodes := Int.ediv_lt_of_lt_mul (by omega) (by unfold Cfg.parts at h1; exact h1)
  omega
 have hdoes : f.does c n ch = (⟨(f.part c (nd : Int) (n % c.each) ch).1.nodes,if (f.part c (nd : Int) (n % c.each) ch).2 then f.steps + 1 else f.steps⟩,(f.part c (nd : Int) (n % c.each) ch).2) := by
  unfold FabS.does
  rw [if_pos ⟨h0,h1⟩]
  dsimp only
  rw [hsp,hnd]
 rw [hdoes]
 rw [hnd] at hsp
 obtain ⟨r,hr⟩ : ∃ r,n % c.each = r := ⟨_,rfl⟩
 rw [hr] at hr0 hr1 hsp ⊢
 have hO := pick_Of c n w h0 h1
 rw [hnd,hr] at hO
 obtain ⟨y,hy⟩ : ∃ y,f.part c (nd : Int) r ch = y := ⟨_,rfl⟩
 rw [hy] at hsp ⊢
 obtain ⟨kd,hkd⟩ : ∃ kd,kindOf c.Lanes r = kd := ⟨_,rfl⟩
 have hkd7 : kd < 7 := by
  rw [← hkd]
  exact (kindOf_is hr0 (by rw [each_eq c (c.chk_of hk.ok)] at hr1; exact hr1) hk.ok.L1).1
 have HP := Lib.hid (fun w' (m : Mod (fun _ => False) w w') => by
  have hF2 := (Fam.stable (fabX_stable b A c v f)).later hF m (by simp)
  have hp := fabric_part hF2 hk hndN hr0 hr1 hc1 hc2
  rw [hy,hkd] at hp
  exact hp.mono fun e w2 h => (⟨h.1,Turn.before m h.2⟩ : e = Ending.returned (.bool y.2)∧Turn own (Fam (fabX b A c v y.1)) w w2))
 have hpv : partV c.Lanes (nd : Int) r = #[.int .i64 (kd : Int),.int .i64 (nd : Int),.int .i64 (partPort c.Lanes r),.int .i64 (partLane c.Lanes r)] := by unfold partV; rw [hkd]
 rw [hpv] at hO HP
 generalize partPort c.Lanes r = pp at hO HP
 generalize partLane c.Lanes r = pl at hO HP
 have HTB := Lib.hid (step_table kd hkd7)
 have hen := step_enters kd hkd7
 generalize stepF kd = fn at HTB hen HP
 have q0 : (0 : Int) ≤ (kd : Int) := by omega
 have q1 : (kd : Int) < 7 := by omega
 obtain ⟨c0,c1,c2,c3,c4,c5,c6,c7,c8⟩ := fab_cfg hF
 have HO := Lib.hid hO
 simp only [Cfg.cells] at HO
 have olt := Lib.hid (fun g (hg : own g) => (Fam.stable (fabX_stable b A c v f)).lt hF hg)
 have hs0 := hk.steps.1
 have HFIN := Lib.hid (fun w' (t : Turn own (Fam (fabX b A c v y.1)) w w') (s : Int) => (by
  obtain ⟨o',hx,m,ho⟩ := t
  exact Turn.next m ho (fab_steps hx s) : Turn own (Fam (fabX b A c v ⟨y.1.nodes,s⟩)) w (w'.setCell ⟨b,10,none⟩ (.int .i64 s))))
 have HST := Lib.hid (fun w' (t : Turn own (Fam (fabX b A c v y.1)) w w') => (by
  obtain ⟨o',hx,m,ho⟩ := t
  have k := (fab_cells hx).1
  rw [hsp] at k
  exact ⟨k.cell 10,k.fz 10⟩ : w'.cell? ⟨b,10,none⟩ = some (.int .i64 f.steps)∧w'.frozen? ⟨b,10,none⟩ = false))
 have HSAME := Lib.hid (fun w' (t : Turn own (Fam (fabX b A c v y.1)) w w') => (by rw [← hsp]; exact t : Turn own (Fam (fabX b A c v ⟨y.1.nodes,f.steps⟩)) w w'))
 obtain ⟨yn,y2⟩ := y
 obtain ⟨st,hste⟩ : ∃ s,f.steps = s := ⟨_,rfl⟩
 rw [hste] at hst hs0 HST HSAME ⊢
 have hw1 : IntKind.i64.wrap (st + 1) = st + 1 := IntWalk.i64_in _ (by omega)
 clear hF hk hdoes hsp hy hkd hkd7 hpv hO hnd hndN h0 h1 he1 hr hr0 hr1 hc1 hc2 hste
 go_enter Tryz.func22,Tryz.ntmps22
 go_wp2_with fail
 refine HO.out.mono ?_
 rintro e w1 ⟨rfl,m1⟩
 have kP := Blk.made w1 #[.int .i64 (kd : Int),.int .i64 (nd : Int),.int .i64 pp,.int .i64 pl] 51
 have m2 := m1.alloc (.cells #[.int .i64 (kd : Int),.int .i64 (nd : Int),.int .i64 pp,.int .i64 pl] 51)
 go_upto_region 6 with fail
 generalize w1.alloc (.cells #[.int .i64 (kd : Int),.int .i64 (nd : Int),.int .i64 pp,.int .i64 pl] 51) = w2 at kP m2 ⊢
 have kT := Blk.made w2 #[.func (.func 62) #[] #[],.func (.func 63) #[] #[],.func (.func 64) #[] #[],.func (.func 65) #[] #[],.func (.func 66) #[] #[],.func (.func 67) #[] #[],.func (.func 68) #[] #[]] 107
 have kP3 := kP.alloc (.cells #[.func (.func 62) #[] #[],.func (.func 63) #[] #[],.func (.func 64) #[] #[],.func (.func 65) #[] #[],.func (.func 66) #[] #[],.func (.func 67) #[] #[],.func (.func 68) #[] #[]] 107)
 have m3 := m2.alloc (.cells #[.func (.func 62) #[] #[],.func (.func 63) #[] #[],.func (.func 64) #[] #[],.func (.func 65) #[] #[],.func (.func 66) #[] #[],.func (.func 67) #[] #[],.func (.func 68) #[] #[]] 107)
 clear kP m2
 go_upto_region 7 with fail
 generalize w2.alloc (.cells #[.func (.func 62) #[] #[],.func (.func 63) #[] #[],.func (.func 64) #[] #[],.func (.func 65) #[] #[],.func (.func 66) #[] #[],.func (.func 67) #[] #[],.func (.func 68) #[] #[]] 107) = w3 at kT kP3 m3 ⊢
 have HS := Lib.hid (fun w' (m : Mod (fun _ => False) w3 w') => And.intro (show w'.cell? ⟨w1.heap.size,0,none⟩ = some (.int .i64 (kd : Int)) from (kP3.later m (by simp)).cell 0) (And.intro (show w'.cell? ⟨w1.heap.size,1,none⟩ = some (.int .i64 (nd : Int)) from (kP3.later m (by simp)).cell 1) (And.intro (show w'.cell? ⟨w1.heap.size,2,none⟩ = some (.int .i64 pp) from (kP3.later m (by simp)).cell 2) (And.intro (show w'.cell? ⟨w1.heap.size,3,none⟩ = some (.int .i64 pl) from (kP3.later m (by simp)).cell 3) (show w'.cell? ⟨w2.heap.size,kd,none⟩ = some (.func (.func fn) #[] #[]) by rw [(kT.later m (by simp)).cell]; exact HTB.out)))))
 have HP3 := Lib.hid (fun w' (m : Mod (fun _ => False) w3 w') => HP.out w' (m3.trans m (by simp)))
 clear kT kP3 m3 HP HTB HO
 refine wp_region_quiet_tail 7 (fun w' => Mod (fun _ => False) w3 w') (by kernel_rfl) (by kernel_rfl) ?_ ?_
 ·
  exact (Mod.refl _ _).drew
 simp only [List.take_succ_cons,List.take_zero,List.drop_succ_cons,List.drop_zero]
 refine quiet_op ?vvq0_0 rfl ?hvq0_0 ?restq0_0
 case hvq0_0 =>
  intro wx hC
  obtain ⟨p0,p1,p2,p3,tk⟩ := HS.out _ hC
  go_simp
  all_goals first | exact ⟨rfl,rfl⟩ | rfl
 try simp only [Act.put,lyA,lyB,lyC]
 refine quiet_op ?vvq0_1 rfl ?hvq0_1 ?restq0_1
 case hvq0_1 =>
  intro wx hC
  obtain ⟨p0,p1,p2,p3,tk⟩ := HS.out _ hC
  go_simp
  all_goals first | exact ⟨rfl,rfl⟩ | rfl
 try simp only [Act.put,lyA,lyB,lyC]
 refine quiet_op ?vvq0_2 rfl ?hvq0_2 ?restq0_2
 case hvq0_2 =>
  intro wx hC
  obtain ⟨p0,p1,p2,p3,tk⟩ := HS.out _ hC
  go_simp
  all_goals first | exact ⟨rfl,rfl⟩ | rfl
 try simp only [Act.put,lyA,lyB,lyC]
 refine quiet_op ?vvq0_3 rfl ?hvq0_3 ?restq0_3
 case hvq0_3 =>
  intro wx hC
  obtain ⟨p0,p1,p2,p3,tk⟩ := HS.out _ hC
  go_simp
  all_goals first | exact ⟨rfl,rfl⟩ | rfl
 try simp only [Act.put,lyA,lyB,lyC]
 refine quiet_op ?vvq0_4 rfl ?hvq0_4 ?restq0_4
 case hvq0_4 =>
  intro wx hC
  obtain ⟨p0,p1,p2,p3,tk⟩ := HS.out _ hC
  go_simp
  all_goals first | exact ⟨rfl,rfl⟩ | rfl
 try simp only [Act.put,lyA,lyB,lyC]
 refine quiet_op ?vvq0_5 rfl ?hvq0_5 ?restq0_5
 case hvq0_5 =>
  intro wx hC
  obtain ⟨p0,p1,p2,p3,tk⟩ := HS.out _ hC
  go_simp
  all_goals first | exact ⟨rfl,rfl⟩ | rfl
 try simp only [Act.put,lyA,lyB,lyC]
 refine quiet_op ?vvq0_6 rfl ?hvq0_6 ?restq0_6
 case hvq0_6 =>
  intro wx hC
  obtain ⟨p0,p1,p2,p3,tk⟩ := HS.out _ hC
  go_simp
  all_goals first | exact ⟨rfl,rfl⟩ | rfl
 try simp only [Act.put,lyA,lyB,lyC]
 refine wpQuiet_nil ?_
 intro wq hC
 go_wp2_with fail
 refine (HP3.out _ hC).mono ?_
 rintro e w4 ⟨rfl,t4⟩
 have T4 := Lib.hid t4
 obtain ⟨s10,z10⟩ := HST.out _ t4
 clear t4 hC HP3 HS
 cases y2 with
 | false =>
  go_wp2
  go_ret
  exact ⟨rfl,HSAME.out _ T4.out⟩
 | true =>
  go_wp2
  go_ret
  exact ⟨rfl,HFIN.out _ T4.out (st + 1)⟩
end
open Go.RowKit
section
variable {c : Cfg} {f : FabS}
theorem mv_steps {n p kn x : Nat} {q : List Nat} {cp : Bool} {k : Int} : ((((f.mv1 c n p kn x q).mv2 c n kn).mv3 n p kn x cp).mv4 c n p k x).steps = f.steps := by
 have h1 : ∀ g : FabS,(g.mv2 c n kn).steps = g.steps := fun g => by unfold FabS.mv2; split <;> rfl
 have h2 : ∀ g : FabS,(g.mv3 n p kn x cp).steps = g.steps := fun g => by unfold FabS.mv3; split <;> rfl
 have h3 : ∀ g : FabS,(g.mv4 c n p k x).steps = g.steps := fun g => by unfold FabS.mv4; split <;> rfl
 rw [h3,h2,h1]
 rfl
structure Kept (c : Cfg) (f g : FabS) : Prop where
 ok : FabOk c g
 steps : g.steps = f.steps
theorem kept_find (hk : FabOk c f) {n k : Nat} (hn : n < c.nodes.toNat) (ch : Int) : Kept c f (f.find c (n : Int) (k : Int) ch).1 := by
 rw [find_is]
 exact ⟨hk.put_rt hn ((hk.rt n hn).lane1 (((hk.rt n hn).get hk.ok k).found hk.ok _ _)),rfl⟩
theorem kept_give (hk : FabOk c f) {n k : Nat} (hn : n < c.nodes.toNat) : Kept c f (f.give c (n : Int) (k : Int)).1 := by
 rw [give_is (by rw [hk.len]; exact hn)]
 exact ⟨hk.put_rt hn ((hk.rt n hn).given hk.ok k),rfl⟩
theorem move_cases (hk : FabOk c f) {n p : Nat} (hn : n < c.nodes.toNat) : (f.move c (n : Int) (p : Int) = (f,false)∧(f.at (n : Int)).rt.moveK c p (mayF c ((f.at (n : Int)).link (p : Int))) = none) ∨
  ∃ (kn x ln : Nat) (q : List Nat),kn < 5 * c.Lanes.toNat∧(f.at (n : Int)).rt.moveK c p (mayF c ((f.at (n : Int)).link (p : Int))) = some (kn : Int)∧((f.at (n : Int)).rt.lanes.getD kn LaneS.new).q = x :: q∧x < 2 ^ 64∧((f.at (n : Int)).rt.lanes.getD kn LaneS.new).lane = (ln : Int)∧(ln : Int) < c.Lanes ∧
   ((f.at (n : Int)).rt.lanes.getD kn LaneS.new).phase = 2∧((f.at (n : Int)).rt.lanes.getD kn LaneS.new).port = (p : Int)∧(p = 0∨mayF c ((f.at (n : Int)).link (p : Int)) (ln : Int) = true) ∧
   f.move c (n : Int) (p : Int) = (((((f.mv1 c n p kn x q).mv2 c n kn).mv3 n p kn x (((f.at (n : Int)).rt.lanes.getD kn LaneS.new).out x).copy).mv4 c n p (ln : Int) x),true) := by
 rcases hK : (f.at (n : Int)).rt.moveK c p (mayF c ((f.at (n : Int)).link (p : Int))) with _ | k0
 ·
  exact Or.inl ⟨move_none hK,rfl⟩
 ·
  have hL1 := hk.ok.L1
  have hmb := moveB_yes (moveK_yes hK)
  obtain ⟨hk00,hk01⟩ := seeR_bd (show (1 : Int) ≤ 5 * c.Lanes by omega) hK
  obtain ⟨kn,rfl⟩ := Int.eq_ofNat_of_zero_le hk00
  rw [Int.toNat_natCast] at hmb
  obtain ⟨hph,hport,hqne,hmay⟩ := hmb
  rcases hq : ((f.at (n : Int)).rt.lanes.getD kn LaneS.new).q with _ | ⟨x,qs⟩
  ·
   exact absurd hq hqne
  have hy := (hk.rt n hn).get hk.ok kn
  obtain ⟨ln,hln⟩ := Int.eq_ofNat_of_zero_le hy.lane.1
  refine Or.inr ⟨kn,x,ln,qs,by omega,rfl,hq,hy.q x (by rw [hq]; exact List.mem_cons_self ..),hln,by rw [← hln]; exact hy.lane.2,hph,hport,by rw [← hln]; exact hmay,?_⟩
  rw [move_some (by omega) hy.lane.1 hK hq,hln]
theorem kept_move (hk : FabOk c f) {n p : Nat} (hn : n < c.nodes.toNat) (hp : p < 5) : Kept c f (f.move c (n : Int) (p : Int)).1 := by
 rcases move_cases hk (p := p) hn with ⟨h,-⟩ | ⟨kn,x,ln,q,hkn,-,hq,hx,hln,hlL,-,-,-,h⟩
 ·
  rw [h]
  exact ⟨hk,rfl⟩
 ·
  rw [h]
  exact ⟨(((hk.mv1 hn hkn hq).mv2 hkn).mv3 hn _).mv4 hn hp hx (by omega) hlL,mv_steps⟩
theorem kept_putIn (hk : FabOk c f) {n : Nat} (hn : n < c.nodes.toNat) : Kept c f (f.putIn c (n : Int)).1 := by
 have hnl : n < f.nodes.length := by rw [hk.len]; exact hn
 rcases hw : (f.at (n : Int)).words with _ | ⟨⟨k0,x⟩,ws⟩
 ·
  rw [putIn_none hw]
  exact ⟨hk,rfl⟩
 ·
  obtain ⟨h0,h1,h2⟩ := (hk.nc n hn).ws (k0,x) (by show _ ∈ (f.at (n : Int)).words; rw [hw]; exact List.mem_cons_self ..)
  obtain ⟨k,rfl⟩ := Int.eq_ofNat_of_zero_le h0
  rw [putIn_some hnl hw]
  split
  ·
   have h3 := hk.put_rt hn ((hk.rt n hn).lane1 (k := k) (((hk.rt n hn).get hk.ok k).push h2))
   have h4 := h3.put_nc hn ((hk.nc n hn).words (x := ((k : Int),x)) (ws := ws) hw)
   rw [put_same hnl,put_put] at h4
   exact ⟨h4,rfl⟩
  ·
   exact ⟨hk,rfl⟩
theorem kept_tell (hk : FabOk c f) {n : Nat} (hn : n < c.nodes.toNat) : Kept c f (f.tell c (n : Int)).1 :=
 ⟨hk.put_nc hn (hk.nc n hn).tell,rfl⟩
theorem kept_carry (hk : FabOk c f) {n p : Nat} (hn : n < c.nodes.toNat) (hp : p < 5) : Kept c f (f.carry c (n : Int) (p : Int)).1 := by
 rcases hl : f.link (n : Int) (p : Int) with _ | y
 ·
  rw [carry_none hl]
  exact ⟨hk,rfl⟩
 ·
  rcases hw : y.words with _ | ⟨⟨k0,x⟩,ws⟩
  ·
   rw [carry_empty hl hw]
   exact ⟨hk,rfl⟩
  ·
   have hlk := hk.lk n p hn hp y hl
   obtain ⟨h0,h1,h2⟩ := hlk.wl (k0,x) (by rw [hw]; exact List.mem_cons_self ..)
   obtain ⟨k,rfl⟩ := Int.eq_ofNat_of_zero_le h0
   have his := hk.is n p hn hp
   rw [show (f.at (n : Int)).link (p : Int) = some y from hl,Option.isSome_some] at his
   have hbes := (of_decide_eq_true his.symm).2
   obtain ⟨m,hm,hmN⟩ := bes_at hbes
   obtain ⟨q,hq,hq5,-⟩ := back_is hp
   rw [carry_some (by have := hk.ok.L1; omega) hl hw hm hq]
   have h1 := hk.put_lk hn hp hl hlk.carry
   split
   ·
    exact ⟨h1.put_rt hmN ((h1.rt m hmN).lane1 (((h1.rt m hmN).get hk.ok _).push h2)),rfl⟩
   ·
    exact ⟨h1,rfl⟩
theorem kept_credit (hk : FabOk c f) {n p : Nat} (hn : n < c.nodes.toNat) (hp : p < 5) : Kept c f (f.credit (n : Int) (p : Int)).1 := by
 rcases hl : f.link (n : Int) (p : Int) with _ | y
 ·
  rw [credit_none hl]
  exact ⟨hk,rfl⟩
 ·
  rw [credit_some hk hn hl]
  exact ⟨hk.put_lk hn hp hl (hk.lk n p hn hp y hl).credit,rfl⟩
theorem kept_part (hk : FabOk c f) {n : Nat} (hn : n < c.nodes.toNat) {r : Int} (h0 : 0 ≤ r) (h1 : r < c.each) (ch : Int) : Kept c f (f.part c (n : Int) r ch).1 := by
 have hL1 := hk.ok.L1
 rw [each_eq c (c.chk_of hk.ok)] at h1
 unfold FabS.part
 dsimp only
 by_cases c0 : r < 5 * c.Lanes
 ·
  rw [if_pos c0]
  obtain ⟨k,rfl⟩ := Int.eq_ofNat_of_zero_le h0
  exact kept_find hk hn ch
 rw [if_neg c0]
 by_cases c1 : r < 2 * (5 * c.Lanes)
 ·
  rw [if_pos c1]
  obtain ⟨k,hr⟩ := Int.eq_ofNat_of_zero_le (show 0 ≤ r - 5 * c.Lanes by omega)
  rw [hr]
  exact kept_give hk hn
 rw [if_neg c1]
 by_cases c2 : r < 2 * (5 * c.Lanes) + 5
 ·
  rw [if_pos c2]
  obtain ⟨p,hp⟩ := Int.eq_ofNat_of_zero_le (show 0 ≤ r - 2 * (5 * c.Lanes) by omega)
  rw [hp]
  exact kept_move hk hn (by omega)
 rw [if_neg c2]
 by_cases c3 : r < 2 * (5 * c.Lanes) + 6
 ·
  rw [if_pos c3]
  exact kept_putIn hk hn
 rw [if_neg c3]
 by_cases c4 : r < 2 * (5 * c.Lanes) + 7
 ·
  rw [if_pos c4]
  exact kept_tell hk hn
 rw [if_neg c4]
 by_cases c5 : r < 2 * (5 * c.Lanes) + 11
 ·
  rw [if_pos c5]
  obtain ⟨p,hp⟩ := Int.eq_ofNat_of_zero_le (show 0 ≤ r - (2 * (5 * c.Lanes) + 7) + 1 by omega)
  rw [hp]
  exact kept_carry hk hn (by omega)
 rw [if_neg c5]
 obtain ⟨p,hp⟩ := Int.eq_ofNat_of_zero_le (show 0 ≤ r - (2 * (5 * c.Lanes) + 11) + 1 by omega)
 rw [hp]
 exact kept_credit hk hn (by omega)
theorem part_no (hc : c.Ok) {n : Int} (h0 : 0 ≤ n) (h1 : n < c.parts) : ∃ nd : Nat,n / c.each = (nd : Int)∧nd < c.nodes.toNat∧0 ≤ n % c.each∧n % c.each < c.each := by
 have he1 : 1 ≤ c.each := by
  rw [each_eq c (c.chk_of hc)]
  have := hc.L1
  omega
 obtain ⟨nd,hnd⟩ := Int.eq_ofNat_of_zero_le (show 0 ≤ n / c.each from Int.ediv_nonneg h0 (by omega))
 refine ⟨nd,hnd,?_,Int.emod_nonneg _ (by omega),Int.emod_lt_of_pos _ (by omega)⟩
 have : n / c.each < c.nodes := Int.ediv_lt_of_lt_mul (by omega) (by unfold Cfg.parts at h1; exact h1)
 omega
theorem FabOk.setSteps (hk : FabOk c f) {s : Int} (h0 : 0 ≤ s) (h1 : s ≤ 2305843009213693952) : FabOk c ⟨f.nodes,s⟩ :=
 ⟨hk.ok,hk.len,hk.rt,hk.nc,hk.ll,hk.lk,hk.is,h0,h1⟩
theorem does_ok (hk : FabOk c f) (hst : f.steps < 2305843009213693952) (n ch : Int) : FabOk c (f.does c n ch).1∧(f.does c n ch).1.steps = f.steps + (if (f.does c n ch).2 then 1 else 0) := by
 unfold FabS.does
 split
 ·
  rename_i h
  obtain ⟨nd,hnd,hndN,hr0,hr1⟩ := part_no hk.ok h.1 h.2
  rw [hnd]
  have hp := kept_part hk hndN hr0 hr1 ch
  have h0 := hk.steps.1
  dsimp only
  rw [hp.steps]
  constructor
  ·
   refine hp.ok.setSteps ?_ ?_ <;> (split <;> omega)
  ·
   split <;> omega
 ·
  exact ⟨hk,by simp⟩
end
open Go.RowKit
section
variable {b : Nat} {A : FAddr} {c : Cfg} {v : Value} {f : FabS} {own : Nat→Prop} {w : World}
theorem fabric_do (hF : Fam (fabX b A c v f) w own) (hk : FabOk c f) (hst : f.steps < 2305843009213693952) (n : Int) {ch : Int} (hc1 : -9223372036854775808 ≤ ch) (hc2 : ch ≤ 9223372036854775807) :
  Calls Tryz.prog 22 #[.pointer (some ⟨b,0,none⟩),.int .i64 n,.int .i64 ch] w fun e w' => e = .returned (.bool (f.does c n ch).2)∧Turn own (Fam (fabX b A c v (f.does c n ch).1)) w w' := by
 by_cases h : 0 ≤ n∧n < c.parts
 ·
  refine fabric_do_yes hF hk hst h.1 h.2 hc1 hc2 ?_
  obtain ⟨nd,hnd,hndN,hr0,hr1⟩ := part_no hk.ok h.1 h.2
  rw [hnd]
  exact (kept_part hk hndN hr0 hr1 ch).steps
 ·
  have e : f.does c n ch = (f,false) := by unfold FabS.does; rw [if_neg h]
  rw [e]
  exact fabric_do_no hF h
theorem rounds_succ {ch : Int} {l : List Nat} {j : Nat} (hj : j < l.length) : f.rounds c ch (l.take (j + 1)) = (((f.rounds c ch (l.take j)).1.does c (l.getD j 0 : Int) ch).1,if ((f.rounds c ch (l.take j)).1.does c (l.getD j 0 : Int) ch).2 then (f.rounds c ch (l.take j)).2 + 1 else (f.rounds c ch (l.take j)).2) := by
 unfold FabS.rounds
 rw [List.take_succ_eq_append_getElem hj,List.foldl_append]
 simp [List.getD_eq_getElem?_getD,hj]
theorem rounds_ok1 (hk : FabOk c f) (ch : Int) (l : List Nat) : ∀ j,j ≤ l.length→f.steps + j ≤ 2305843009213693952→FabOk c (f.rounds c ch (l.take j)).1∧(f.rounds c ch (l.take j)).1.steps = f.steps + (f.rounds c ch (l.take j)).2∧(f.rounds c ch (l.take j)).2 ≤ j := by
 intro j
 induction j with
 | zero => intro _ _; exact ⟨hk,by simp [FabS.rounds],by simp [FabS.rounds]⟩
 | succ j ih =>
  intro hj hs
  obtain ⟨h1,h2,h3⟩ := ih (by omega) (by omega)
  rw [rounds_succ (by omega)]
  obtain ⟨h4,h5⟩ := does_ok h1 (by omega) (l.getD j 0 : Int) ch
  refine ⟨h4,?_,?_⟩
  ·
   dsimp only
   rw [h5,h2]
   split <;> (push_cast; omega)
  ·
   dsimp only
   split <;> omega
theorem rounds_ok (hk : FabOk c f) (ch : Int) (l : List Nat) (hs : f.steps + l.length ≤ 2305843009213693952) : FabOk c (f.rounds c ch l).1∧(f.rounds c ch l).1.steps = f.steps + (f.rounds c ch l).2∧(f.rounds c ch l).2 ≤ l.length := by
 have := rounds_ok1 hk ch l l.length (Nat.le_refl _) hs
 rw [List.take_length] at this
 exact this
theorem fabric_round (hF : Fam (fabX b A c v f) w own) (hk : FabOk c f) (hst : f.steps + c.parts ≤ 2305843009213693952) {a b' ch : Int} (ha1 : -9223372036854775808 ≤ a) (ha2 : a ≤ 9223372036854775807) (hb1 : -9223372036854775808 ≤ b') (hb2 : b' ≤ 9223372036854775807) (hc1 : -9223372036854775808 ≤ ch) (hc2 : ch ≤ 9223372036854775807) :
  Calls Tryz.prog 16 #[.pointer (some ⟨b,0,none⟩),.int .i64 a,.int .i64 b',.int .i64 ch] w fun e w' => e = .returned (.int .i64 ((f.rounds c ch (c.round a b')).2 : Int))∧Turn own (Fam (fabX b A c v (f.rounds c ch (c.round a b')).1)) w w' := by
 obtain ⟨c0,c1,c2,c3,c4,c5,c6,c7,c8⟩ := fab_cfg hF
 have HR := Lib.hid (pick_Round c a b' w ha1 ha2 hb1 hb2)
 simp only [Cfg.cells] at HR
 have hst0 := Fam.stable (fabX_stable b A c v f)
 have olt := Lib.hid (fun g (hg : own g) => hst0.lt hF hg)
 have hlen := round_len c a b'
 have hpb := parts_bd c
 obtain ⟨R,hR⟩ : ∃ R,c.round a b' = R := ⟨_,rfl⟩
 rw [hR] at HR hlen ⊢
 have HOK := Lib.hid (fun j (hj : j ≤ R.length) => rounds_ok1 hk ch R j hj (by omega))
 have HF := Lib.hid hF
 have HF2 := Lib.hid (fun w' (m : Mod (fun _ => False) w w') => hst0.later hF m (by simp))
 obtain ⟨N,hN⟩ : ∃ N,R.length = N := ⟨_,rfl⟩
 have hN4 : N ≤ 389120 := by omega
 have HST2 := Lib.hid (show f.steps + (N : Int) ≤ 2305843009213693952 by omega)
 clear hF hlen hR hpb hst ha1 ha2 hb1 hb2 hst0
 go_enter Tryz.func16,Tryz.ntmps16
 go_wp2_with fail
 refine HR.out.mono ?_
 rintro e w1 ⟨vr,rfl,m1,hsl,hfr⟩
 obtain ⟨ar,nr,cr,rfl,hn,hnc,hcm,hrow⟩ := id hsl
 rw [List.length_map,hN] at hn
 subst hn
 have HROW := Lib.hid (fun j (hj : j < N) => (SlV.at hsl j hj))
 have HFR := Lib.hid hfr
 have HF1 := Lib.hid (HF2.out w1 m1)
 have M1 := Lib.hid m1
 clear c0 c1 c2 c3 c4 c5 c6 c7 c8 HR HF HF2 m1 hsl hrow hfr
 go_wp2
 go_loopw [9,22] (fun z i wr => ∃ j : Nat,j ≤ N∧i = .int .i64 (j : Int)∧z = .int .i64 ((f.rounds c ch (R.take j)).2 : Int)∧Turn own (Fam (fabX b A c v (f.rounds c ch (R.take j)).1)) w1 wr) (fun _ i _ => N - (intOf i).toNat)
 case atStart => exact ⟨0,by omega,rfl,rfl,Turn.same (Fam.stable (fabX_stable b A c v f)) HF1.out (Mod.refl _ _)⟩
 case round =>
  obtain ⟨j,hj,rfl,rfl,t⟩ := hrel
  obtain ⟨wA,rfl⟩ : ∃ wo : World,wo = wr := ⟨_,rfl⟩
  obtain ⟨hok,hs1,hs2⟩ := HOK.out j (by omega)
  by_cases hlt : j < N
  ·
   obtain ⟨B,off,har,hB,hcell⟩ := HROW.out j hlt
   rw [List.getD_eq_getElem?_getD,List.getElem?_map,List.getElem?_eq_getElem (by omega),Option.map_some,Option.getD_some] at hcell
   have hBo : ¬ own B := fun h => by
    have h1 := olt.out B h
    have h2 := HFR.out ⟨B,off,none⟩ N cr (by rw [har])
    simp only at h2
    omega
   have hcell := (t.mod.cell (p := ⟨B,off + j,none⟩) hB hBo).trans hcell
   have hgd : R[j] = R.getD j 0 := by simp [List.getD_eq_getElem?_getD,hN ▸ hlt]
   rw [hgd] at hcell
   subst har
   have hse := rounds_succ (f := f) (c := c) (ch := ch) (l := R) (j := j) (by omega)
   obtain ⟨g,hg⟩ : ∃ g,f.rounds c ch (R.take j) = g := ⟨_,rfl⟩
   rw [hg] at hse hok hs1 hs2 t ⊢
   have HD := Lib.hid (by
    obtain ⟨o',hx,m,ho⟩ := t
    have hd := fabric_do hx hok (by have := HST2.out; omega) (R.getD j 0 : Int) hc1 hc2
    exact hd.mono fun e w' h => (⟨h.1,Turn.next m ho h.2⟩ : e = Ending.returned (.bool (g.1.does c (R.getD j 0 : Int) ch).2)∧Turn own (Fam (fabX b A c v (g.1.does c (R.getD j 0 : Int) ch).1)) w1 w'))
   generalize R.getD j 0 = x at hcell HD hse
   have HSE := Lib.hid hse
   obtain ⟨y,hy⟩ : ∃ y,g.1.does c (x : Int) ch = y := ⟨_,rfl⟩
   rw [hy] at HD HSE
   obtain ⟨g1,g2⟩ := g
   obtain ⟨y1,y2⟩ := y
   have g3 : IntKind.i64.wrap ((g2 : Int) + 1) = ((g2 + 1 : Nat) : Int) := by push_cast; exact IntWalk.i64_in _ (by simp only at hs2; omega)
   have i0 : (0 : Int) ≤ (j : Int) := by omega
   have i1 : (j : Int) < (N : Int) := by omega
   have HOFF := Lib.hid hcell
   clear hok hs1 hs2 t hse hy hg hgd hB hBo hnc hcm
   go_wp2_with fail
   refine HD.out.mono ?_
   rintro e w3 ⟨rfl,t3⟩
   have T3 := Lib.hid t3
   clear t3 hcell
   cases y2 with
   | false =>
    go_wp2
    go_roundw
    case rel => exact ⟨j + 1,by omega,by go_num,by rw [HSE.out]; rfl,by rw [HSE.out]; exact T3.out⟩
    case measure => simp [intOf]; omega
   | true =>
    go_wp2
    go_roundw
    case rel => exact ⟨j + 1,by omega,by go_num,by rw [HSE.out]; rfl,by rw [HSE.out]; exact T3.out⟩
    case measure => simp [intOf]; omega
  ·
   have hj2 : j = N := by omega
   subst hj2
   have HT := Lib.hid (Turn.before M1.out t)
   have HE := Lib.hid (show R.take R.length = R from List.take_length)
   rw [hN] at HE
   clear t hok hs1 hs2
   go_wp2
   go_ret
   exact ⟨by rw [HE.out]; rfl,by have := HT.out; rw [HE.out] at this; exact this⟩
end
open Go.RowKit
theorem fabric_Steps_nil (w : World) : Calls Tryz.prog 14 #[.pointer none] w fun e w' => e = .returned (.int .i64 0)∧w' = w := by
 go_enter Tryz.func14,Tryz.ntmps14
 go_wp2
 go_ret
 exact ⟨rfl,rfl⟩
theorem fabric_Quiet_nil (w : World) : Calls Tryz.prog 15 #[.pointer none] w fun e w' => e = .returned (.bool true)∧w' = w := by
 go_enter Tryz.func15,Tryz.ntmps15
 go_wp2
 go_ret
 exact ⟨rfl,rfl⟩
theorem fabric_Do_nil (n ch : Int) (w : World) : Calls Tryz.prog 22 #[.pointer none,.int .i64 n,.int .i64 ch] w fun e w' => e = .returned (.bool false)∧w' = w := by
 go_enter Tryz.func22,Tryz.ntmps22
 go_wp2
 go_ret
 exact ⟨rfl,rfl⟩
theorem fabric_Round_nil (n by' ch : Int) (w : World) : Calls Tryz.prog 16 #[.pointer none,.int .i64 n,.int .i64 by',.int .i64 ch] w fun e w' => e = .returned (.int .i64 0)∧w' = w := by
 go_enter Tryz.func16,Tryz.ntmps16
 go_wp2
 go_ret
 exact ⟨rfl,rfl⟩
theorem fabric_Link_nil (n p : Int) (w : World) : Calls Tryz.prog 28 #[.pointer none,.int .i64 n,.int .i64 p] w fun e w' => e = .returned (.pointer none)∧w' = w := by
 go_enter Tryz.func28,Tryz.ntmps28
 go_wp2_with fail
 refine (fabric_is_nil n _).mono ?_
 rintro e w1 ⟨rfl,rfl⟩
 go_wp2
 go_ret
 exact ⟨rfl,rfl⟩
theorem fabric_Router_nil (n : Int) (w : World) : Calls Tryz.prog 29 #[.pointer none,.int .i64 n] w fun e w' => e = .returned (.pointer none)∧w' = w := by
 go_enter Tryz.func29,Tryz.ntmps29
 go_wp2_with fail
 refine (fabric_is_nil n _).mono ?_
 rintro e w1 ⟨rfl,rfl⟩
 go_wp2
 go_ret
 exact ⟨rfl,rfl⟩
theorem fabric_Nic_nil (n : Int) (w : World) : Calls Tryz.prog 30 #[.pointer none,.int .i64 n] w fun e w' => e = .returned (.pointer none)∧w' = w := by
 go_enter Tryz.func30,Tryz.ntmps30
 go_wp2_with fail
 refine (fabric_is_nil n _).mono ?_
 rintro e w1 ⟨rfl,rfl⟩
 go_wp2
 go_ret
 exact ⟨rfl,rfl⟩
theorem fabric_Full_nil (n : Int) (w : World) : Calls Tryz.prog 23 #[.pointer none,.int .i64 n] w fun e w' => e = .returned (.bool false)∧w' = w := by
 go_enter Tryz.func23,Tryz.ntmps23
 go_wp2_with fail
 refine (fabric_Nic_nil n _).mono ?_
 rintro e w1 ⟨rfl,rfl⟩
 go_wp2
 go_ret
 exact ⟨rfl,rfl⟩
open Go.RowKit
theorem fabric_Send_nil (p : Parcel) (v : Value) (w : World) : Calls Tryz.prog 27 #[.pointer none,.agg (p.val v)] w fun e w' => e = .returned (.int .i64 1)∧Mod (fun _ => False) w w' := by
 have m0 : Mod (fun _ => False) w (w.alloc (.cells (p.val v) 66)) := (Mod.refl _ _).alloc _
 go_enter Tryz.func27,Tryz.ntmps27
 go_wp2
 go_ret
 exact ⟨rfl,m0⟩
open Go.RowKit
section
variable {b : Nat} {A : FAddr} {c : Cfg} {v : Value} {f : FabS} {own : Nat→Prop} {w : World}
end
open Go.RowKit
section
variable {b : Nat} {A : FAddr} {c : Cfg} {v : Value} {f : FabS} {own : Nat→Prop} {w : World}
theorem Cfg.Ok.nodes_pos {c : Cfg} (h : c.Ok) : 0 < c.nodes.toNat := by
 rw [Cfg.nodes_ok h]
 have h1 := h.W1
 have h2 := h.H1
 have : 1 * 1 ≤ c.W * c.H := Int.mul_le_mul h1 h2 (by omega) (by omega)
 omega
theorem is_split (hk : FabOk c f) {n : Int} (h : c.is n = true) : ∃ m : Nat,n = (m : Int)∧m < c.nodes.toNat := by
 obtain ⟨h1,h2,h3⟩ := Cfg.is_ok h
 obtain ⟨m,rfl⟩ := Int.eq_ofNat_of_zero_le h2
 exact ⟨m,rfl,by rw [Cfg.nodes_ok h1]; omega⟩
theorem is_no (hk : FabOk c f) {n : Int} (h : c.is n = false) : (decide (0 ≤ n) && decide (n < (c.nodes.toNat : Int))) = false := by
 rcases hb : (decide (0 ≤ n) && decide (n < (c.nodes.toNat : Int))) with _ | _
 ·
  rfl
 ·
  simp only [Bool.and_eq_true,decide_eq_true_eq] at hb
  have := (Cfg.is_iff c n).2 ⟨hb.1,by omega⟩
  rw [this] at h
  cases h
theorem fabric_send_no (hF : Fam (fabX b A c v f) w own) (hk : FabOk c f) (p : Parcel) (vh : Value) (hs : c.is p.src = false) :
  Calls Tryz.prog 27 #[.pointer (some ⟨b,0,none⟩),.agg (p.val vh)] w fun e w' => e = .returned (.int .i64 5)∧Turn own (Fam (fabX b A c v f)) w w' := by
 obtain ⟨g,o,cc,hv⟩ := fab_slice hF hk.ok.nodes_pos
 subst hv
 have kT := Blk.made w (p.val vh) 66
 have m0 : Mod (fun _ => False) w (w.alloc (.cells (p.val vh) 66)) := (Mod.refl _ _).alloc _
 have hC := Fam.fcells rfl hF
 have HI := Lib.hid (fun w' (m : Mod (fun _ => False) w w') => by
  have := fabric_is b c.nodes.toNat cc (some ⟨g,o,none⟩) p.src w' (hC.later m).c9
  rw [is_no hk hs] at this
  exact this)
 have HT := Lib.hid (fun w' (m : Mod (fun _ => False) w w') => Turn.same (Fam.stable (fabX_stable b A c _ f)) hF m)
 unfold Parcel.val at kT m0 ⊢
 go_enter Tryz.func27,Tryz.ntmps27
 go_upto_region 1 with fail
 generalize w.alloc (.cells #[.int .i64 p.src,.bool p.cast,vh,.string p.data] 66) = w1 at kT m0 ⊢
 have p0 := kT.cell 0
 simp at p0
 have HI1 := Lib.hid (HI.out w1 m0)
 have HT1 := Lib.hid (HT.out w1 m0)
 clear hF hk hC kT m0 HI HT hs
 go_wp2_with fail
 refine HI1.out.mono ?_
 rintro e w2 ⟨rfl,rfl⟩
 go_wp2
 go_ret
 exact ⟨rfl,HT1.out⟩
theorem send_ok (hk : FabOk c f) {p : Parcel} (hp : p.right = true) (hsrc : c.is p.src = true) (hall : ∀ t ∈ p.heads,c.is t.1 = true) (hcl : (c.cls p.cast).2 ≠ 0) :
  f.send c p = (f.put p.src ((f.at p.src).setNc ⟨(f.at p.src).words ++ p.words.map (fun x => ((c.cls p.cast).1 + (f.at p.src).sent % (c.cls p.cast).2,x)),(f.at p.src).sent + 1,(f.at p.src).joins,(f.at p.src).box⟩),0) := by
 have hchk : p.chk = 0 := by
  unfold Parcel.chk
  rw [if_pos hp]
  have : p.data.size ≤ 64 := by
   unfold Parcel.right at hp
   simp only [Bool.and_eq_true,decide_eq_true_eq] at hp
   exact hp.2
  rw [if_neg (by omega)]
 have hh : (p.heads.any fun t => !c.is t.1) = false := by
  rw [List.any_eq_false]
  intro t ht
  rw [hall t ht]
  simp
 unfold FabS.send
 rw [if_pos hsrc]
 unfold NodeS.send
 rw [if_neg (by rw [hchk]; simp),if_neg (by rw [hh]; simp),if_neg hcl]
 rfl
theorem fabric_send (hF : Fam (fabX b A c v f) w own) (hk : FabOk c f) (p : Parcel) (vh : Value) (hv : HeadsV w vh p.heads) (hp : p.right = true) (hsrc : c.is p.src = true) (hall : ∀ t ∈ p.heads,c.is t.1 = true) (hcl : (c.cls p.cast).2 ≠ 0)
  (hlen : (f.at p.src).words.length + 5000 ≤ 1000000) (hst : (f.at p.src).sent ≤ 4611686018427387000) :
  Calls Tryz.prog 27 #[.pointer (some ⟨b,0,none⟩),.agg (p.val vh)] w fun e w' => e = .returned (.int .i64 (f.send c p).2)∧Turn own (Fam (fabX b A c v (f.send c p).1)) w w' := by
 rw [send_ok hk hp hsrc hall hcl]
 obtain ⟨n,hn,hnN⟩ := is_split hk hsrc
 obtain ⟨g,o,cc,hv2⟩ := fab_slice hF (by omega)
 subst hv2
 have kT := Blk.made w (p.val vh) 66
 have m0 : Mod (fun _ => False) w (w.alloc (.cells (p.val vh) 66)) := (Mod.refl _ _).alloc _
 have hC := Fam.fcells rfl hF
 have q0 : (0 : Int) ≤ (n : Int) := by omega
 have q1 : (n : Int) < (c.nodes.toNat : Int) := by omega
 have HI := Lib.hid (fun w' (m : Mod (fun _ => False) w w') => by
  have := fabric_is b c.nodes.toNat cc (some ⟨g,o,none⟩) p.src w' (hC.later m).c9
  rw [hn,decide_eq_true q0,decide_eq_true q1] at this
  exact this)
 obtain ⟨f',hf'⟩ : ∃ f',f.put p.src ((f.at p.src).setNc ⟨(f.at p.src).words ++ p.words.map (fun x => ((c.cls p.cast).1 + (f.at p.src).sent % (c.cls p.cast).2,x)),(f.at p.src).sent + 1,(f.at p.src).joins,(f.at p.src).box⟩) = f' := ⟨_,rfl⟩
 rw [hf']
 have HN := Lib.hid (fun w' (m : Mod (fun _ => False) w w') => by
  have hF2 := (Fam.stable (fabX_stable b A c _ f)).later hF m (by simp)
  obtain ⟨o1,hR,hlo,put⟩ := fab_nic hF2 hk.len hnN
  have hs := nic_send (A.np n) c (n : Int) p vh _ _ _ hR (hk.nc n hnN) hk.ok (hv.later m (by simp)) hp hn hall hcl (by rw [hn] at hlen; exact hlen) (by rw [hn] at hst; exact hst)
  refine hs.mono fun e w2 h => (⟨h.1,?_⟩ : e = Ending.returned (.int .i64 0)∧Turn own (Fam (fabX b A c (.slice (some ⟨g,o,none⟩) c.nodes.toNat cc) f')) w w2)
  have t := put _ _ h.2
  rw [← hf',hn]
  exact Turn.before m t)
 unfold Parcel.val at kT m0 HN ⊢
 rw [hn] at kT m0 HN ⊢
 go_enter Tryz.func27,Tryz.ntmps27
 go_upto_region 1 with fail
 generalize w.alloc (.cells #[.int .i64 (n : Int),.bool p.cast,vh,.string p.data] 66) = w1 at kT m0 ⊢
 have hC1 := hC.later m0
 have HS := Lib.hid (fun w' (m : Mod (fun _ => False) w1 w') => And.intro (hC1.later m).c9 (And.intro (show w'.cell? ⟨w.heap.size,0,none⟩ = some (.int .i64 (n : Int)) from (kT.later m (by simp)).cell 0) (And.intro (show w'.cell? ⟨w.heap.size,1,none⟩ = some (.bool p.cast) from (kT.later m (by simp)).cell 1) (And.intro (show w'.cell? ⟨w.heap.size,2,none⟩ = some vh from (kT.later m (by simp)).cell 2) (And.intro (show w'.cell? ⟨w.heap.size,3,none⟩ = some (.string p.data) from (kT.later m (by simp)).cell 3) ((hC1.later m).at hnN).2.1)))))
 have p0 := kT.cell 0
 simp at p0
 have HI1 := Lib.hid (HI.out w1 m0)
 have HN1 := Lib.hid (fun w' (m : Mod (fun _ => False) w1 w') => HN.out w' (m0.trans m (by simp)))
 generalize A.np n = r1 at HS HN1
 obtain ⟨N,hN⟩ : ∃ N,c.nodes.toNat = N := ⟨_,rfl⟩
 rw [hN] at HS q1
 clear hF hk hC kT m0 HI HN hsrc hall hcl hlen hst hf' hC1 hN hnN hp hn hv
 go_wp2_with fail
 refine HI1.out.mono ?_
 rintro e w2 ⟨rfl,rfl⟩
 go_upto_region 5 with fail
 refine wp_region_quiet_tail 10 (fun w' => Mod (fun _ => False) w2 w') (by kernel_rfl) (by kernel_rfl) ?_ ?_
 ·
  exact (Mod.refl _ _).drew
 simp only [List.take_succ_cons,List.take_zero,List.drop_succ_cons,List.drop_zero]
 refine quiet_op ?vvq0_0 rfl ?hvq0_0 ?restq0_0
 case hvq0_0 =>
  intro wx hC
  obtain ⟨c9,p0,p1,p2,p3,l0⟩ := HS.out _ hC
  go_simp
  all_goals first | exact ⟨rfl,rfl⟩ | rfl
 try simp only [Act.put,lyA,lyB,lyC]
 refine quiet_op ?vvq0_1 rfl ?hvq0_1 ?restq0_1
 case hvq0_1 =>
  intro wx hC
  obtain ⟨c9,p0,p1,p2,p3,l0⟩ := HS.out _ hC
  go_simp
  all_goals first | exact ⟨rfl,rfl⟩ | rfl
 try simp only [Act.put,lyA,lyB,lyC]
 refine quiet_op ?vvq0_2 rfl ?hvq0_2 ?restq0_2
 case hvq0_2 =>
  intro wx hC
  obtain ⟨c9,p0,p1,p2,p3,l0⟩ := HS.out _ hC
  go_simp
  all_goals first | exact ⟨rfl,rfl⟩ | rfl
 try simp only [Act.put,lyA,lyB,lyC]
 refine quiet_op ?vvq0_3 rfl ?hvq0_3 ?restq0_3
 case hvq0_3 =>
  intro wx hC
  obtain ⟨c9,p0,p1,p2,p3,l0⟩ := HS.out _ hC
  go_simp
  all_goals first | exact ⟨rfl,rfl⟩ | rfl
 try simp only [Act.put,lyA,lyB,lyC]
 refine quiet_op ?vvq0_4 rfl ?hvq0_4 ?restq0_4
 case hvq0_4 =>
  intro wx hC
  obtain ⟨c9,p0,p1,p2,p3,l0⟩ := HS.out _ hC
  go_simp
  all_goals first | exact ⟨rfl,rfl⟩ | rfl
 try simp only [Act.put,lyA,lyB,lyC]
 refine quiet_op ?vvq0_5 rfl ?hvq0_5 ?restq0_5
 case hvq0_5 =>
  intro wx hC
  obtain ⟨c9,p0,p1,p2,p3,l0⟩ := HS.out _ hC
  go_simp
  all_goals first | exact ⟨rfl,rfl⟩ | rfl
 try simp only [Act.put,lyA,lyB,lyC]
 refine quiet_op ?vvq0_6 rfl ?hvq0_6 ?restq0_6
 case hvq0_6 =>
  intro wx hC
  obtain ⟨c9,p0,p1,p2,p3,l0⟩ := HS.out _ hC
  go_simp
  all_goals first | exact ⟨rfl,rfl⟩ | rfl
 try simp only [Act.put,lyA,lyB,lyC]
 refine quiet_op ?vvq0_7 rfl ?hvq0_7 ?restq0_7
 case hvq0_7 =>
  intro wx hC
  obtain ⟨c9,p0,p1,p2,p3,l0⟩ := HS.out _ hC
  go_simp
  all_goals first | exact ⟨rfl,rfl⟩ | rfl
 try simp only [Act.put,lyA,lyB,lyC]
 refine quiet_op ?vvq0_8 rfl ?hvq0_8 ?restq0_8
 case hvq0_8 =>
  intro wx hC
  obtain ⟨c9,p0,p1,p2,p3,l0⟩ := HS.out _ hC
  go_simp
  all_goals first | exact ⟨rfl,rfl⟩ | rfl
 try simp only [Act.put,lyA,lyB,lyC]
 refine quiet_op ?vvq0_9 rfl ?hvq0_9 ?restq0_9
 case hvq0_9 =>
  intro wx hC
  obtain ⟨c9,p0,p1,p2,p3,l0⟩ := HS.out _ hC
  go_simp
  all_goals first | exact ⟨rfl,rfl⟩ | rfl
 try simp only [Act.put,lyA,lyB,lyC]
 refine wpQuiet_nil ?_
 intro wq hC
 go_wp2_with fail
 refine (HN1.out _ hC).mono ?_
 rintro e w3 ⟨rfl,t⟩
 have T := Lib.hid t
 clear t
 go_wp2
 go_ret
 exact ⟨rfl,T.out⟩
theorem fabric_recv_nil (n : Int) (w : World) : Calls Tryz.prog 25 #[.pointer none,.int .i64 n] w fun e w' => e = .returned (.tuple #[.agg #[.int .i64 0,.int .i64 0,.int .i64 0,.string ⟨#[]⟩],.int .i64 1])∧Mod (fun _ => False) w w' := by
 have kr := Blk.made w #[.int .i64 0,.int .i64 0,.int .i64 0,.string ⟨#[]⟩] 46
 have m0 : Mod (fun _ => False) w (w.alloc (.cells #[.int .i64 0,.int .i64 0,.int .i64 0,.string ⟨#[]⟩] 46)) := (Mod.refl _ _).alloc _
 go_enter Tryz.func25,Tryz.ntmps25
 go_upto_region 1 with fail
 generalize w.alloc (.cells #[.int .i64 0,.int .i64 0,.int .i64 0,.string ⟨#[]⟩] 46) = w1 at kr m0 ⊢
 have r0 := kr.cell 0
 have r1 := kr.cell 1
 have r2 := kr.cell 2
 have r3 := kr.cell 3
 simp at r0 r1 r2 r3
 have u0 := kr.fz 0
 have u1 := kr.fz 1
 have u2 := kr.fz 2
 have u3 := kr.fz 3
 go_wp2
 have qE := ((((kr.set (0) (.int .i64 0)).set (1) (.int .i64 0)).set (2) (.int .i64 0)).set (3) (.string ⟨#[]⟩))
 have mE := ((((m0.setCell (p := ⟨w.heap.size,0,none⟩) (Or.inr (Nat.le_refl _)) (.int .i64 0)).setCell (p := ⟨w.heap.size,1,none⟩) (Or.inr (Nat.le_refl _)) (.int .i64 0)).setCell (p := ⟨w.heap.size,2,none⟩) (Or.inr (Nat.le_refl _)) (.int .i64 0)).setCell (p := ⟨w.heap.size,3,none⟩) (Or.inr (Nat.le_refl _)) (.string ⟨#[]⟩))
 have mB := (((((Mod.refl (fun g => g = w.heap.size) w1).setCell (p := ⟨w.heap.size,0,none⟩) (Or.inl rfl) (.int .i64 0)).setCell (p := ⟨w.heap.size,1,none⟩) (Or.inl rfl) (.int .i64 0)).setCell (p := ⟨w.heap.size,2,none⟩) (Or.inl rfl) (.int .i64 0)).setCell (p := ⟨w.heap.size,3,none⟩) (Or.inl rfl) (.string ⟨#[]⟩))
 simp at qE
 generalize ((((w1.setCell ⟨w.heap.size,0,none⟩ (.int .i64 0)).setCell ⟨w.heap.size,1,none⟩ (.int .i64 0)).setCell ⟨w.heap.size,2,none⟩ (.int .i64 0)).setCell ⟨w.heap.size,3,none⟩ (.string ⟨#[]⟩)) = wE at qE mE mB ⊢
 have qe0 := qE.cell 0
 have qe1 := qE.cell 1
 have qe2 := qE.cell 2
 have qe3 := qE.cell 3
 simp at qe0 qe1 qe2 qe3
 exact bodyPost_ret (v := .tuple #[.agg #[.int .i64 0,.int .i64 0,.int .i64 0,.string ⟨#[]⟩],.int .i64 1]) (by simp [results,Tryz.results25,go_sem,qe0,qe1,qe2,qe3]) rfl ⟨rfl,mE⟩
theorem fabric_recv_no (hF : Fam (fabX b A c v f) w own) (hk : FabOk c f) {n : Int} (hs : c.is n = false) :
  Calls Tryz.prog 25 #[.pointer (some ⟨b,0,none⟩),.int .i64 n] w fun e w' => e = .returned (.tuple #[.agg #[.int .i64 0,.int .i64 0,.int .i64 0,.string ⟨#[]⟩],.int .i64 5])∧Turn own (Fam (fabX b A c v f)) w w' := by
 obtain ⟨g,o,cc,hv⟩ := fab_slice hF hk.ok.nodes_pos
 subst hv
 have kr := Blk.made w #[.int .i64 0,.int .i64 0,.int .i64 0,.string ⟨#[]⟩] 46
 have m0 : Mod (fun _ => False) w (w.alloc (.cells #[.int .i64 0,.int .i64 0,.int .i64 0,.string ⟨#[]⟩] 46)) := (Mod.refl _ _).alloc _
 have hC := Fam.fcells rfl hF
 have HI := Lib.hid (fun w' (m : Mod (fun _ => False) w w') => by
  have := fabric_is b c.nodes.toNat cc (some ⟨g,o,none⟩) n w' (hC.later m).c9
  rw [is_no hk hs] at this
  exact this)
 have HT := Lib.hid (fun w' (m : Mod (fun _ => False) w w') => Turn.same (Fam.stable (fabX_stable b A c _ f)) hF m)
 go_enter Tryz.func25,Tryz.ntmps25
 go_upto_region 1 with fail
 generalize w.alloc (.cells #[.int .i64 0,.int .i64 0,.int .i64 0,.string ⟨#[]⟩] 46) = w1 at kr m0 ⊢
 have r0 := kr.cell 0
 have r1 := kr.cell 1
 have r2 := kr.cell 2
 have r3 := kr.cell 3
 simp at r0 r1 r2 r3
 have u0 := kr.fz 0
 have u1 := kr.fz 1
 have u2 := kr.fz 2
 have u3 := kr.fz 3
 have HI1 := Lib.hid (HI.out w1 m0)
 clear hF hk hC HI hs
 go_wp2_with fail
 refine HI1.out.mono ?_
 rintro e w2 ⟨rfl,rfl⟩
 go_wp2
 have qE := ((((kr.set (0) (.int .i64 0)).set (1) (.int .i64 0)).set (2) (.int .i64 0)).set (3) (.string ⟨#[]⟩))
 have mE := ((((m0.setCell (p := ⟨w.heap.size,0,none⟩) (Or.inr (Nat.le_refl _)) (.int .i64 0)).setCell (p := ⟨w.heap.size,1,none⟩) (Or.inr (Nat.le_refl _)) (.int .i64 0)).setCell (p := ⟨w.heap.size,2,none⟩) (Or.inr (Nat.le_refl _)) (.int .i64 0)).setCell (p := ⟨w.heap.size,3,none⟩) (Or.inr (Nat.le_refl _)) (.string ⟨#[]⟩))
 have mB := (((((Mod.refl (fun g => g = w.heap.size) w2).setCell (p := ⟨w.heap.size,0,none⟩) (Or.inl rfl) (.int .i64 0)).setCell (p := ⟨w.heap.size,1,none⟩) (Or.inl rfl) (.int .i64 0)).setCell (p := ⟨w.heap.size,2,none⟩) (Or.inl rfl) (.int .i64 0)).setCell (p := ⟨w.heap.size,3,none⟩) (Or.inl rfl) (.string ⟨#[]⟩))
 simp at qE
 generalize ((((w2.setCell ⟨w.heap.size,0,none⟩ (.int .i64 0)).setCell ⟨w.heap.size,1,none⟩ (.int .i64 0)).setCell ⟨w.heap.size,2,none⟩ (.int .i64 0)).setCell ⟨w.heap.size,3,none⟩ (.string ⟨#[]⟩)) = wE at qE mE mB ⊢
 have qe0 := qE.cell 0
 have qe1 := qE.cell 1
 have qe2 := qE.cell 2
 have qe3 := qE.cell 3
 simp at qe0 qe1 qe2 qe3
 exact bodyPost_ret (v := .tuple #[.agg #[.int .i64 0,.int .i64 0,.int .i64 0,.string ⟨#[]⟩],.int .i64 5]) (by simp [results,Tryz.results25,go_sem,qe0,qe1,qe2,qe3]) rfl ⟨rfl,HT.out _ mE⟩
def FabS.recvE (f : FabS) (n : Nat) : Int := if (f.at (n : Int)).box.q = [] then 8 else 0
theorem recv_is (hk : FabOk c f) {n : Nat} (hn : n < c.nodes.toNat) : f.recv c (n : Int) = (f.put (n : Int) ((f.at (n : Int)).setNc ((f.at (n : Int)).nc.withBox ⟨(f.at (n : Int)).box.q.tail,(f.at (n : Int)).box.waits,(f.at (n : Int)).box.next⟩)),(f.at (n : Int)).box.q.headD Pkt.zero,f.recvE n) := by
 have his : c.is (n : Int) = true := (Cfg.is_iff c _).2 ⟨by omega,by omega⟩
 unfold FabS.recv FabS.recvE
 rw [if_pos his]
 rcases hq : (f.at (n : Int)).box.q with _ | ⟨p,q⟩
 ·
  dsimp only [List.tail_nil,List.headD_nil]
  rw [if_pos rfl]
  have e : (f.at (n : Int)).setNc ((f.at (n : Int)).nc.withBox ⟨[],(f.at (n : Int)).box.waits,(f.at (n : Int)).box.next⟩) = f.at (n : Int) := by
   rw [← hq]
   rfl
  rw [e,put_self (by rw [hk.len]; exact hn)]
 ·
  rw [if_neg (by simp)]
  rfl
theorem fabric_recv (hF : Fam (fabX b A c v f) w own) (hk : FabOk c f) {n : Nat} (hn : n < c.nodes.toNat) :
  Calls Tryz.prog 25 #[.pointer (some ⟨b,0,none⟩),.int .i64 (n : Int)] w fun e w' => e = .returned (.tuple #[.agg (f.recv c (n : Int)).2.1.cells,.int .i64 (f.recv c (n : Int)).2.2])∧Turn own (Fam (fabX b A c v (f.recv c (n : Int)).1)) w w' := by
 obtain ⟨g,o,cc,hv⟩ := fab_slice hF (by omega)
 subst hv
 rw [recv_is hk hn]
 have kr := Blk.made w #[.int .i64 0,.int .i64 0,.int .i64 0,.string ⟨#[]⟩] 46
 have m0 : Mod (fun _ => False) w (w.alloc (.cells #[.int .i64 0,.int .i64 0,.int .i64 0,.string ⟨#[]⟩] 46)) := (Mod.refl _ _).alloc _
 have hC := Fam.fcells rfl hF
 have q0 : (0 : Int) ≤ (n : Int) := by omega
 have q1 : (n : Int) < (c.nodes.toNat : Int) := by omega
 have HI := Lib.hid (fun w' (m : Mod (fun _ => False) w w') => by
  have := fabric_is b c.nodes.toNat cc (some ⟨g,o,none⟩) n w' (hC.later m).c9
  rw [decide_eq_true q0,decide_eq_true q1] at this
  exact this)
 obtain ⟨p,hp⟩ : ∃ p,(f.at (n : Int)).box.q.headD Pkt.zero = p := ⟨_,rfl⟩
 obtain ⟨er,her⟩ : ∃ er,f.recvE n = er := ⟨_,rfl⟩
 obtain ⟨f',hf'⟩ : ∃ f',f.put (n : Int) ((f.at (n : Int)).setNc ((f.at (n : Int)).nc.withBox ⟨(f.at (n : Int)).box.q.tail,(f.at (n : Int)).box.waits,(f.at (n : Int)).box.next⟩)) = f' := ⟨_,rfl⟩
 rw [hp,her,hf']
 have olt := fun g (hg : own g) => (Fam.stable (fabX_stable b A c _ f)).lt hF hg
 have HN := Lib.hid (fun w' (m : Mod (fun _ => False) w w') => by
  have hF2 := (Fam.stable (fabX_stable b A c _ f)).later hF m (by simp)
  obtain ⟨o1,hR,hlo,put⟩ := fab_nic hF2 hk.len hn
  have hs := nic_recv (A.np n) c (n : Int) _ ⟨(f.at (n : Int)).box.q.tail,(f.at (n : Int)).box.waits,(f.at (n : Int)).box.next⟩ p er _ _ hR (by
   intro bx ox w1 hB
   rcases hq : (f.at (n : Int)).box.q with _ | ⟨p0,q⟩
   ·
    have e1 : p = Pkt.zero := by rw [← hp,hq]; rfl
    have e2 : er = 8 := by rw [← her]; unfold FabS.recvE; rw [if_pos hq]
    have e3 : (⟨([] : List Pkt).tail,(f.at (n : Int)).box.waits,(f.at (n : Int)).box.next⟩ : BoxS) = (f.at (n : Int)).nc.box := by
     show _ = (f.at (n : Int)).box
     rw [List.tail_nil,← hq]
    rw [e1,e2,e3]
    exact inbox_recv_none bx _ _ _ _ hB hq
   ·
    have e1 : p = p0 := by rw [← hp,hq]; rfl
    have e2 : er = 0 := by rw [← her]; unfold FabS.recvE; rw [if_neg (by rw [hq]; simp)]
    rw [e1,e2]
    exact inbox_recv bx _ p0 q _ _ _ hB hq)
  refine hs.mono fun e w2 h => (⟨h.1,?_,?_⟩ : e = Ending.returned (.tuple #[.agg p.cells,.int .i64 er])∧Turn own (Fam (fabX b A c (.slice (some ⟨g,o,none⟩) c.nodes.toNat cc) f')) w' w2∧Mod own w' w2)
  ·
   have t := put _ _ h.2
   rw [hf'] at t
   exact t
  ·
   exact (put _ _ h.2).mod)
 go_enter Tryz.func25,Tryz.ntmps25
 go_upto_region 1 with fail
 have s0 : w.heap.size < (w.alloc (.cells #[.int .i64 0,.int .i64 0,.int .i64 0,.string ⟨#[]⟩] 46)).heap.size := by simp
 generalize w.alloc (.cells #[.int .i64 0,.int .i64 0,.int .i64 0,.string ⟨#[]⟩] 46) = w1 at kr m0 s0 ⊢
 have hC1 := hC.later m0
 have l0 := (hC1.at hn).2.1
 have c9 := hC1.c9
 have HI1 := Lib.hid (HI.out w1 m0)
 have HN1 := Lib.hid (HN.out w1 m0)
 generalize A.np n = r1 at l0 HN1
 have HOLT := Lib.hid olt
 obtain ⟨N,hN⟩ : ∃ N,c.nodes.toNat = N := ⟨_,rfl⟩
 rw [hN] at q1 c9
 have h1 := m0
 clear hF hk hC HI HN hC1 hN hn hf' hp her olt
 go_wp2_with fail
 refine HI1.out.mono ?_
 rintro e w2 ⟨rfl,rfl⟩
 go_wp2_with fail
 refine HN1.out.mono ?_
 rintro e w3 ⟨rfl,t,mt⟩
 have hnw : ¬ own w.heap.size := fun h => by have := HOLT.out _ h; omega
 have kr := kr.later mt hnw
 obtain ⟨o2,h2,m2,ho2⟩ := t
 have m02 : Mod own w w3 := (m0.mono (fun i hi e => e.elim)).trans m2 (fun i hi e => e)
 have ho02 : ∀ g,o2 g→own g∨w.heap.size ≤ g := fun g hg => (ho2 g hg).imp id (fun e => by omega)
 have hnw2 : ¬ o2 w.heap.size := fun h => by
  rcases ho2 _ h with e | e
  ·
   exact hnw e
  ·
   omega
 have HF := Lib.hid (fun wE (mE : Mod own w wE) (mB : Mod (fun g => g = w.heap.size) w3 wE) => (⟨o2,(Fam.stable (fabX_stable b A c _ f')).later h2 mB (fun g hg e => hnw2 (e ▸ hg)),mE,ho02⟩ : Turn own (Fam (fabX b A c (.slice (some ⟨g,o,none⟩) c.nodes.toNat cc) f')) w wE))
 clear h2 m2 m0 mt HI1 HN1 c9 l0 h1
 simp only [Pkt.cells]
 have r0 := kr.cell 0
 have r1 := kr.cell 1
 have r2 := kr.cell 2
 have r3 := kr.cell 3
 simp at r0 r1 r2 r3
 have u0 := kr.fz 0
 have u1 := kr.fz 1
 have u2 := kr.fz 2
 have u3 := kr.fz 3
 go_wp2
 have qE := ((((kr.set (0) (.int .i64 p.src)).set (1) (.int .i64 p.dst)).set (2) (.int .i64 p.seq)).set (3) (.string p.data))
 have mE := ((((m02.setCell (p := ⟨w.heap.size,0,none⟩) (Or.inr (Nat.le_refl _)) (.int .i64 p.src)).setCell (p := ⟨w.heap.size,1,none⟩) (Or.inr (Nat.le_refl _)) (.int .i64 p.dst)).setCell (p := ⟨w.heap.size,2,none⟩) (Or.inr (Nat.le_refl _)) (.int .i64 p.seq)).setCell (p := ⟨w.heap.size,3,none⟩) (Or.inr (Nat.le_refl _)) (.string p.data))
 have mB := (((((Mod.refl (fun g => g = w.heap.size) w3).setCell (p := ⟨w.heap.size,0,none⟩) (Or.inl rfl) (.int .i64 p.src)).setCell (p := ⟨w.heap.size,1,none⟩) (Or.inl rfl) (.int .i64 p.dst)).setCell (p := ⟨w.heap.size,2,none⟩) (Or.inl rfl) (.int .i64 p.seq)).setCell (p := ⟨w.heap.size,3,none⟩) (Or.inl rfl) (.string p.data))
 simp at qE
 generalize ((((w3.setCell ⟨w.heap.size,0,none⟩ (.int .i64 p.src)).setCell ⟨w.heap.size,1,none⟩ (.int .i64 p.dst)).setCell ⟨w.heap.size,2,none⟩ (.int .i64 p.seq)).setCell ⟨w.heap.size,3,none⟩ (.string p.data)) = wE at qE mE mB ⊢
 have qe0 := qE.cell 0
 have qe1 := qE.cell 1
 have qe2 := qE.cell 2
 have qe3 := qE.cell 3
 simp at qe0 qe1 qe2 qe3
 exact bodyPost_ret (v := .tuple #[.agg #[.int .i64 p.src,.int .i64 p.dst,.int .i64 p.seq,.string p.data],.int .i64 er]) (by simp [results,Tryz.results25,go_sem,qe0,qe1,qe2,qe3]) rfl ⟨rfl,HF.out _ mE mB⟩
end
end Go.Proofs.YtfiklfkfbcpmgaaGreat
