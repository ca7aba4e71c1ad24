/- Parts: PickB PickC PickD. No condition. -/
import Derived.Test.YtfiklfkfbcpmgaaGreatJ19
import Derived.BigRegion
import Derived.Laws.OwnMore
set_option linter.all false
set_option maxRecDepth 100000
set_option maxHeartbeats 3200000
namespace Go.Proofs.YtfiklfkfbcpmgaaGreat
open Go.RowKit
def kindOf (L r : Int) : Nat := if r < 5 * L then 0 else if r < 10 * L then 1 else if r < 10 * L + 5 then 2 else if r < 10 * L + 6 then 3 else if r < 10 * L + 7 then 4 else if r < 10 * L + 11 then 5 else 6
def partPort (L r : Int) : Int := if kindOf L r ≤ 1 then (r - sumsz L (kindOf L r)) / L else if kindOf L r = 2 then r - sumsz L 2 else if 5 ≤ kindOf L r then r - sumsz L (kindOf L r) + 1 else 0
def partLane (L r : Int) : Int := if kindOf L r ≤ 1 then (r - sumsz L (kindOf L r)) % L else 0
def partV (L node r : Int) : Array Value := #[.int .i64 (kindOf L r : Int),.int .i64 node,.int .i64 (partPort L r),.int .i64 (partLane L r)]
theorem kindOf_is {L r : Int} (h0 : 0 ≤ r) (h1 : r < 10 * L + 15) (hL : 1 ≤ L) : kindOf L r < 7∧sumsz L (kindOf L r) ≤ r∧r < sumsz L (kindOf L r) + sizeN L (kindOf L r)∧∀ k,k < kindOf L r→sumsz L k + sizeN L k ≤ r := by
 have s : sumsz L 0 = 0∧sumsz L 1 = 5 * L∧sumsz L 2 = 10 * L∧sumsz L 3 = 10 * L + 5∧sumsz L 4 = 10 * L + 6∧sumsz L 5 = 10 * L + 7∧sumsz L 6 = 10 * L + 11 := by simp [sumsz]; omega
 have z : sizeN L 0 = 5 * L∧sizeN L 1 = 5 * L∧sizeN L 2 = 5∧sizeN L 3 = 1∧sizeN L 4 = 1∧sizeN L 5 = 4∧sizeN L 6 = 4 := by simp [sizeN]
 obtain ⟨s0,s1,s2,s3,s4,s5,s6⟩ := s
 obtain ⟨z0,z1,z2,z3,z4,z5,z6⟩ := z
 unfold kindOf
 split
 ·
  exact ⟨by omega,by omega,by omega,fun k hk => by omega⟩
 split
 ·
  refine ⟨by omega,by omega,by omega,fun k hk => ?_⟩
  obtain rfl : k = 0 := by omega
  omega
 split
 ·
  refine ⟨by omega,by omega,by omega,fun k hk => ?_⟩
  rcases (show k = 0∨k = 1 by omega) with rfl | rfl <;> omega
 split
 ·
  refine ⟨by omega,by omega,by omega,fun k hk => ?_⟩
  rcases (show k = 0∨k = 1∨k = 2 by omega) with rfl | rfl | rfl <;> omega
 split
 ·
  refine ⟨by omega,by omega,by omega,fun k hk => ?_⟩
  rcases (show k = 0∨k = 1∨k = 2∨k = 3 by omega) with rfl | rfl | rfl | rfl <;> omega
 split
 ·
  refine ⟨by omega,by omega,by omega,fun k hk => ?_⟩
  rcases (show k = 0∨k = 1∨k = 2∨k = 3∨k = 4 by omega) with rfl | rfl | rfl | rfl | rfl <;> omega
 ·
  refine ⟨by omega,by omega,by omega,fun k hk => ?_⟩
  rcases (show k = 0∨k = 1∨k = 2∨k = 3∨k = 4∨k = 5 by omega) with rfl | rfl | rfl | rfl | rfl | rfl <;> omega
theorem pick_Of_no (c : Cfg) (n : Int) (w : World) (h : ¬ (0 ≤ n∧n < c.parts)) :
  Calls Tryz.prog 21 #[.agg c.cells,.int .i64 n] w fun e w' => e = .returned (.tuple #[.agg #[.int .i64 0,.int .i64 0,.int .i64 0,.int .i64 0],.bool false])∧Mod (fun _ => False) w w' := by
 have kb := (Blk.made w c.cells 23).alloc (.cells #[.int .i64 0,.int .i64 0,.int .i64 0,.int .i64 0] 51)
 have kr := Blk.made2 w (.cells c.cells 23) #[.int .i64 0,.int .i64 0,.int .i64 0,.int .i64 0] 51
 have m0 : Mod (fun _ => False) w ((w.alloc (.cells c.cells 23)).alloc (.cells #[.int .i64 0,.int .i64 0,.int .i64 0,.int .i64 0] 51)) := ((Mod.refl _ _).alloc _).alloc _
 have HC := Lib.hid (fun w => pick_Count c w)
 have HE := Lib.hid (fun w => pick_Each c w)
 simp only [Cfg.cells] at kb kr m0 HC HE ⊢
 clear HE
 by_cases h0 : n < 0
 ·
  clear h HC
  go_enter Tryz.func21,Tryz.ntmps21
  go_upto_region 1 with fail
  generalize (w.alloc (.cells #[.int .i64 c.W,.int .i64 c.H,.int .i64 c.Lanes,.int .i64 c.Depth,.int .i64 c.Ring,.int .i64 c.Inbox,.int .i64 c.Bound,.bool c.West,.bool c.Cast] 23)).alloc (.cells #[.int .i64 0,.int .i64 0,.int .i64 0,.int .i64 0] 51) = w0 at kb kr m0 ⊢
  obtain ⟨c0,c1,c2,c3,c4,c5,c6,c7,c8⟩ := cfg_cells kb
  clear kb c0 c1 c2 c3 c4 c5 c6 c7 c8
  have r0 := kr.cell 0
  have r1 := kr.cell 1
  have r2 := kr.cell 2
  have r3 := kr.cell 3
  simp at r0 r1 r2 r3
  have u0 := kr.fz 0
  have u1 := kr.fz 1
  have u2 := kr.fz 2
  have u3 := kr.fz 3
  go_wp2
  have qE := ((((kr.set (0) (.int .i64 0)).set (1) (.int .i64 0)).set (2) (.int .i64 0)).set (3) (.int .i64 0))
  have mE := ((((m0.setCell (p := ⟨w.heap.size + 1,0,none⟩) (Or.inr (by simp only []; omega)) (.int .i64 0)).setCell (p := ⟨w.heap.size + 1,1,none⟩) (Or.inr (by simp only []; omega)) (.int .i64 0)).setCell (p := ⟨w.heap.size + 1,2,none⟩) (Or.inr (by simp only []; omega)) (.int .i64 0)).setCell (p := ⟨w.heap.size + 1,3,none⟩) (Or.inr (by simp only []; omega)) (.int .i64 0))
  have mB := (((((Mod.refl (fun g => g = w.heap.size + 1) w0).setCell (p := ⟨w.heap.size + 1,0,none⟩) (Or.inl rfl) (.int .i64 0)).setCell (p := ⟨w.heap.size + 1,1,none⟩) (Or.inl rfl) (.int .i64 0)).setCell (p := ⟨w.heap.size + 1,2,none⟩) (Or.inl rfl) (.int .i64 0)).setCell (p := ⟨w.heap.size + 1,3,none⟩) (Or.inl rfl) (.int .i64 0))
  simp at qE
  generalize ((((w0.setCell ⟨w.heap.size + 1,0,none⟩ (.int .i64 0)).setCell ⟨w.heap.size + 1,1,none⟩ (.int .i64 0)).setCell ⟨w.heap.size + 1,2,none⟩ (.int .i64 0)).setCell ⟨w.heap.size + 1,3,none⟩ (.int .i64 0)) = wE at qE mE mB ⊢
  have qe0 := qE.cell 0
  have qe1 := qE.cell 1
  have qe2 := qE.cell 2
  have qe3 := qE.cell 3
  simp at qe0 qe1 qe2 qe3
  exact bodyPost_ret (v := .tuple #[.agg #[.int .i64 0,.int .i64 0,.int .i64 0,.int .i64 0],.bool false]) (by simp [results,Tryz.results21,go_sem,qe0,qe1,qe2,qe3]) rfl ⟨rfl,mE⟩
 ·
  have q1 : c.parts ≤ n := by omega
  have q2 : ¬ n < 0 := h0
  generalize c.parts = pp at HC q1
  clear h h0
  go_enter Tryz.func21,Tryz.ntmps21
  go_upto_region 1 with fail
  generalize (w.alloc (.cells #[.int .i64 c.W,.int .i64 c.H,.int .i64 c.Lanes,.int .i64 c.Depth,.int .i64 c.Ring,.int .i64 c.Inbox,.int .i64 c.Bound,.bool c.West,.bool c.Cast] 23)).alloc (.cells #[.int .i64 0,.int .i64 0,.int .i64 0,.int .i64 0] 51) = w0 at kb kr m0 ⊢
  obtain ⟨c0,c1,c2,c3,c4,c5,c6,c7,c8⟩ := cfg_cells kb
  go_wp2_with fail
  refine (HC.out _).mono ?_
  rintro e w1 ⟨rfl,m1⟩
  have kr := kr.later m1 (by simp)
  have m1 := m0.trans m1 (by simp)
  clear kb c0 c1 c2 c3 c4 c5 c6 c7 c8
  have r0 := kr.cell 0
  have r1 := kr.cell 1
  have r2 := kr.cell 2
  have r3 := kr.cell 3
  simp at r0 r1 r2 r3
  have u0 := kr.fz 0
  have u1 := kr.fz 1
  have u2 := kr.fz 2
  have u3 := kr.fz 3
  go_wp2
  have qE := ((((kr.set (0) (.int .i64 0)).set (1) (.int .i64 0)).set (2) (.int .i64 0)).set (3) (.int .i64 0))
  have mE := ((((m1.setCell (p := ⟨w.heap.size + 1,0,none⟩) (Or.inr (by simp only []; omega)) (.int .i64 0)).setCell (p := ⟨w.heap.size + 1,1,none⟩) (Or.inr (by simp only []; omega)) (.int .i64 0)).setCell (p := ⟨w.heap.size + 1,2,none⟩) (Or.inr (by simp only []; omega)) (.int .i64 0)).setCell (p := ⟨w.heap.size + 1,3,none⟩) (Or.inr (by simp only []; omega)) (.int .i64 0))
  have mB := (((((Mod.refl (fun g => g = w.heap.size + 1) w1).setCell (p := ⟨w.heap.size + 1,0,none⟩) (Or.inl rfl) (.int .i64 0)).setCell (p := ⟨w.heap.size + 1,1,none⟩) (Or.inl rfl) (.int .i64 0)).setCell (p := ⟨w.heap.size + 1,2,none⟩) (Or.inl rfl) (.int .i64 0)).setCell (p := ⟨w.heap.size + 1,3,none⟩) (Or.inl rfl) (.int .i64 0))
  simp at qE
  generalize ((((w1.setCell ⟨w.heap.size + 1,0,none⟩ (.int .i64 0)).setCell ⟨w.heap.size + 1,1,none⟩ (.int .i64 0)).setCell ⟨w.heap.size + 1,2,none⟩ (.int .i64 0)).setCell ⟨w.heap.size + 1,3,none⟩ (.int .i64 0)) = wE at qE mE mB ⊢
  have qe0 := qE.cell 0
  have qe1 := qE.cell 1
  have qe2 := qE.cell 2
  have qe3 := qE.cell 3
  simp at qe0 qe1 qe2 qe3
  exact bodyPost_ret (v := .tuple #[.agg #[.int .i64 0,.int .i64 0,.int .i64 0,.int .i64 0],.bool false]) (by simp [results,Tryz.results21,go_sem,qe0,qe1,qe2,qe3]) rfl ⟨rfl,mE⟩
theorem pick_Of (c : Cfg) (n : Int) (w : World) (h0 : 0 ≤ n) (h1 : n < c.parts) :
  Calls Tryz.prog 21 #[.agg c.cells,.int .i64 n] w fun e w' => e = .returned (.tuple #[.agg (partV c.Lanes (n / c.each) (n % c.each)),.bool true])∧Mod (fun _ => False) w w' := by
 have hpb := parts_bd c
 have heb := each_bd c
 have hE1 : 1 ≤ c.each := by
  rcases Int.lt_or_le 0 c.each with h | h
  ·
   omega
  ·
   exfalso
   have : c.each = 0 := by omega
   unfold Cfg.parts at h1
   rw [this] at h1
   simp at h1
   omega
 have hok : c.Ok := by
  refine c.ok_of ?_
  rcases Classical.em (c.chk = 0) with h | h
  ·
   exact h
  ·
   unfold Cfg.each at hE1
   rw [if_neg h] at hE1
   omega
 have hL1 := hok.L1
 have hL2 := hok.L2
 have hee := each_eq c (c.chk_of hok)
 obtain ⟨node,e3⟩ : ∃ v,n / c.each = v := ⟨_,rfl⟩
 obtain ⟨r,e4⟩ : ∃ v,n % c.each = v := ⟨_,rfl⟩
 have e1 : n.tdiv c.each = node := by rw [Int.tdiv_eq_ediv_of_nonneg h0,e3]
 have e2 : n.tmod c.each = r := by rw [Int.tmod_eq_emod_of_nonneg h0,e4]
 have hn0 : 0 ≤ node := by rw [← e3]; exact Int.ediv_nonneg h0 (by omega)
 have hn1 : node ≤ n := by rw [← e3]; exact Int.ediv_le_self _ h0
 have hr0 : 0 ≤ r := by rw [← e4]; exact Int.emod_nonneg _ (by omega)
 have hr1 : r < c.each := by rw [← e4]; exact Int.emod_lt_of_pos _ (by omega)
 rw [hee] at hr1
 rw [e3,e4]
 have e5 : IntKind.i64.wrap node = node := IntWalk.i64_in _ (by omega)
 have e6 : IntKind.i64.wrap r = r := IntWalk.i64_in _ (by omega)
 obtain ⟨hk7,hk1,hk2,hk3⟩ := kindOf_is hr0 hr1 hL1
 have kb := (Blk.made w c.cells 23).alloc (.cells #[.int .i64 0,.int .i64 0,.int .i64 0,.int .i64 0] 51)
 have kr := Blk.made2 w (.cells c.cells 23) #[.int .i64 0,.int .i64 0,.int .i64 0,.int .i64 0] 51
 have m0 : Mod (fun _ => False) w ((w.alloc (.cells c.cells 23)).alloc (.cells #[.int .i64 0,.int .i64 0,.int .i64 0,.int .i64 0] 51)) := ((Mod.refl _ _).alloc _).alloc _
 have HC := Lib.hid (fun w => pick_Count c w)
 have HE := Lib.hid (fun w => pick_Each c w)
 simp only [Cfg.cells] at kb kr m0 HC HE ⊢
 have q1 : ¬ c.parts ≤ n := by omega
 have q2 : ¬ n < 0 := by omega
 generalize c.parts = pp at HC q1 h1 hpb
 generalize c.each = E at HE e1 e2 e3 e4 hE1 heb
 have nz1 : (E == 0) = false := by simp; omega
 have nz2 : ¬ E = 0 := by omega
 obtain ⟨kd,hkd⟩ : ∃ kd,kindOf c.Lanes r = kd := ⟨_,rfl⟩
 rw [hkd] at hk7 hk1 hk2 hk3
 obtain ⟨V,hV⟩ : ∃ V,partV c.Lanes node r = V := ⟨_,rfl⟩
 rw [hV]
 have HV := Lib.hid hV
 have HKD := Lib.hid hkd
 clear hV hkd hee
 go_enter Tryz.func21,Tryz.ntmps21
 go_upto_region 1 with fail
 generalize (w.alloc (.cells #[.int .i64 c.W,.int .i64 c.H,.int .i64 c.Lanes,.int .i64 c.Depth,.int .i64 c.Ring,.int .i64 c.Inbox,.int .i64 c.Bound,.bool c.West,.bool c.Cast] 23)).alloc (.cells #[.int .i64 0,.int .i64 0,.int .i64 0,.int .i64 0] 51) = w0 at kb kr m0 ⊢
 obtain ⟨c0,c1,c2,c3,c4,c5,c6,c7,c8⟩ := cfg_cells kb
 go_wp2_with fail
 refine (HC.out _).mono ?_
 rintro e w1 ⟨rfl,m1⟩
 have kb1 := kb.later m1 (by simp)
 have kr1 := kr.later m1 (by simp)
 have m1 := m0.trans m1 (by simp)
 clear kb kr m0 c0 c1 c2 c3 c4 c5 c6 c7 c8
 obtain ⟨c0,c1,c2,c3,c4,c5,c6,c7,c8⟩ := cfg_cells kb1
 go_wp2_with fail
 refine (HE.out _).mono ?_
 rintro e w2 ⟨rfl,m2⟩
 have kb2 := kb1.later m2 (by simp)
 have kr2 := kr1.later m2 (by simp)
 have m2 := m1.trans m2 (by simp)
 clear kb1 kr1 m1 c0 c1 c2 c3 c4 c5 c6 c7 c8
 go_upto_region 4 with fail
 have kp := Blk.made w2 #[.int .i64 0,.int .i64 node,.int .i64 0,.int .i64 0] 51
 have s3 : w2.heap.size < (w2.alloc (.cells #[.int .i64 0,.int .i64 node,.int .i64 0,.int .i64 0] 51)).heap.size := by simp
 have kb3 := kb2.alloc (.cells #[.int .i64 0,.int .i64 node,.int .i64 0,.int .i64 0] 51)
 have kr3 := kr2.alloc (.cells #[.int .i64 0,.int .i64 node,.int .i64 0,.int .i64 0] 51)
 have m3 := m2.alloc (.cells #[.int .i64 0,.int .i64 node,.int .i64 0,.int .i64 0] 51)
 have hrp : w.heap.size + 1 < w2.heap.size := kr2.lt
 have hP : w.heap.size ≤ w2.heap.size := m2.size
 generalize w2.heap.size = P at kp s3 hrp hP ⊢
 generalize w2.alloc (.cells #[.int .i64 0,.int .i64 node,.int .i64 0,.int .i64 0] 51) = w3 at kp s3 kb3 kr3 m3 ⊢
 clear kb2 kr2 m2
 obtain ⟨c0,c1,c2,c3,c4,c5,c6,c7,c8⟩ := cfg_cells kb3
 go_wp2_with fail
 refine (HE.out _).mono ?_
 rintro e w4 ⟨rfl,m4⟩
 have kb4 := kb3.later m4 (by simp)
 have kr4 := kr3.later m4 (by simp)
 have kp4 := kp.later m4 (by simp)
 have s4 := m4.size
 have m4 := m3.trans m4 (by simp)
 clear kb3 kr3 m3 c0 c1 c2 c3 c4 c5 c6 c7 c8 kp
 obtain ⟨c0,c1,c2,c3,c4,c5,c6,c7,c8⟩ := cfg_cells kb4
 go_wp2_with fail
 refine (pick_sizes c _ hL1 hL2).mono ?_
 rintro e w5 ⟨rfl,m5⟩
 have kb5 := kb4.later m5 (by simp)
 have kr5 := kr4.later m5 (by simp)
 have kp5 := kp4.later m5 (by simp)
 have m5 := m4.trans m5 (by simp)
 clear kb4 kr4 m4 c0 c1 c2 c3 c4 c5 c6 c7 c8 kp4
 simp only [sizesV]
 clear e1 e2 e3 e4 HE HC nz1 nz2
 go_wp2
 go_loopw [1,29] (fun z i wr => ∃ k : Nat,k ≤ kd∧i = .int .i64 (k : Int)∧z = .int .i64 (r - sumsz c.Lanes k)∧wr = w5) (fun _ i _ => 7 - (intOf i).toNat)
 case atStart => exact ⟨0,by omega,rfl,by simp [sumsz],rfl⟩
 case round =>
  obtain ⟨k,hk,rfl,rfl,rfl⟩ := hrel
  obtain ⟨w6,rfl⟩ : ∃ wo : World,wo = wr := ⟨_,rfl⟩
  have hlt : k < 7 := by omega
  have q3 : (0 : Int) ≤ (k : Int) := by omega
  have q4 : (k : Int) < 7 := by omega
  have hix := sizes_at c.Lanes k hlt
  have b1 := sumsz_bd c.Lanes k hL1 hL2
  have b2 := sizeN_bd c.Lanes k hL1 hL2
  simp only [sizesV] at hix
  by_cases hkk : k < kd
  ·
   have q5 : ¬ r - sumsz c.Lanes k < sizeN c.Lanes k := by have := hk3 k hkk; omega
   have HS := Lib.hid (sumsz_succ c.Lanes k hlt)
   have hw : IntKind.i64.wrap (r - sumsz c.Lanes k - sizeN c.Lanes k) = r - sumsz c.Lanes k - sizeN c.Lanes k := IntWalk.i64_in _ (by omega)
   go_wp2
   go_roundw
   case rel => exact ⟨k + 1,by omega,by go_num,by rw [HS.out,Int.sub_sub],trivial⟩
   case measure => simp [intOf]; omega
  ·
   obtain rfl : kd = k := by omega
   have q5 : r - sumsz c.Lanes kd < sizeN c.Lanes kd := by omega
   have p0 := kp5.cell 0
   have p1 := kp5.cell 1
   have p2 := kp5.cell 2
   have p3 := kp5.cell 3
   simp at p0 p1 p2 p3
   have y0 := kp5.fz 0
   have y1 := kp5.fz 1
   have y2 := kp5.fz 2
   have y3 := kp5.fz 3
   go_upto_region 12 with fail
   have kp7 := (kp5).set 0 (.int .i64 (kd : Int))
   have m7 := (m5).setCell (p := ⟨P,0,none⟩) (Or.inr hP) (.int .i64 (kd : Int))
   have kb7 := (kb5).setOther (a := ⟨P,0,none⟩) (by simp only [ne_eq]; omega) (.int .i64 (kd : Int))
   have kr7 := (kr5).setOther (a := ⟨P,0,none⟩) (by simp only [ne_eq]; omega) (.int .i64 (kd : Int))
   simp at kp7
   generalize w6.setCell ⟨P,0,none⟩ (.int .i64 (kd : Int)) = w7 at kp7 m7 kb7 kr7 ⊢
   have hmp : w.heap.size ≤ w.heap.size + 1 := by omega
   clear p0 p1 p2 p3 y0 y1 y2 y3 kp5 kb5 kr5 m5 hix
   obtain ⟨z,hz⟩ : ∃ z,r - sumsz c.Lanes kd = z := ⟨_,rfl⟩
   have HZ := Lib.hid hz
   rw [hz] at q5
   have z0 : 0 ≤ z := by omega
   have z1 : z ≤ 40 := by omega
   rcases (show kd = 0∨kd = 1∨kd = 2∨kd = 3∨kd = 4∨kd = 5∨kd = 6 by omega) with h | h | h | h | h | h | h
   ·
    have HR := Lib.hid (show V = #[.int .i64 0,.int .i64 node,.int .i64 (z / c.Lanes),.int .i64 (z % c.Lanes)] by rw [← HV.out,partV,partPort,partLane,HKD.out,h,← hz,h]; rfl)
    subst h
    rw [hz]
    obtain ⟨pv,g3⟩ : ∃ v,z / c.Lanes = v := ⟨_,rfl⟩
    obtain ⟨lv,g4⟩ : ∃ v,z % c.Lanes = v := ⟨_,rfl⟩
    rw [g3,g4] at HR
    have g1 : z.tdiv c.Lanes = pv := by rw [Int.tdiv_eq_ediv_of_nonneg z0,g3]
    have g2 : z.tmod c.Lanes = lv := by rw [Int.tmod_eq_emod_of_nonneg z0,g4]
    have g5 : IntKind.i64.wrap pv = pv := IntWalk.i64_in _ (by have := Int.ediv_nonneg z0 (show 0 ≤ c.Lanes by omega); have := Int.ediv_le_self c.Lanes z0; omega)
    have g6 : IntKind.i64.wrap lv = lv := IntWalk.i64_in _ (by have := Int.emod_nonneg z (show c.Lanes ≠ 0 by omega); have := Int.emod_lt_of_pos z (show 0 < c.Lanes by omega); omega)
    have nz1 : (c.Lanes == 0) = false := by simp; omega
    have nz2 : ¬ c.Lanes = 0 := by omega
    obtain ⟨c0,c1,c2,c3,c4,c5,c6,c7,c8⟩ := cfg_cells kb7
    clear c0 c1 c3 c4 c5 c6 c7 c8
    have ne1 : ¬ P = w.heap.size := by omega
    have ne2 : ¬ w.heap.size = P := by omega
    have p0 := kp7.cell 0
    have p1 := kp7.cell 1
    have p2 := kp7.cell 2
    have p3 := kp7.cell 3
    simp at p0 p1 p2 p3
    have y0 := kp7.fz 0
    have y1 := kp7.fz 1
    have y2 := kp7.fz 2
    have y3 := kp7.fz 3
    go_upto_region 15 with fail
    go_region_held3 (fun w' => w'.cell? ⟨w.heap.size,2,none⟩ = some (.int .i64 c.Lanes)) (first | exact c2 | go_keep) (fail)
    go_upto_region 21 with fail
    clear p0 p1 p2 p3 y0 y1 y2 y3 c2 g1 g2 g3 g4 g5 g6
    have kp8 := (kp7).set 2 (.int .i64 pv)
    have m8 := (m7).setCell (p := ⟨P,2,none⟩) (Or.inr hP) (.int .i64 pv)
    have kb8 := (kb7).setOther (a := ⟨P,2,none⟩) (by simp only [ne_eq]; omega) (.int .i64 pv)
    have kr8 := (kr7).setOther (a := ⟨P,2,none⟩) (by simp only [ne_eq]; omega) (.int .i64 pv)
    simp at kp8
    have kp9 := (kp8).set 3 (.int .i64 lv)
    have m9 := (m8).setCell (p := ⟨P,3,none⟩) (Or.inr hP) (.int .i64 lv)
    have kb9 := (kb8).setOther (a := ⟨P,3,none⟩) (by simp only [ne_eq]; omega) (.int .i64 lv)
    have kr9 := (kr8).setOther (a := ⟨P,3,none⟩) (by simp only [ne_eq]; omega) (.int .i64 lv)
    simp at kp9
    have kpA := kp9.drew
    have krA := kr9.drew
    have mA := m9.drew
    generalize ((w7.setCell ⟨P,2,none⟩ (.int .i64 pv)).setCell ⟨P,3,none⟩ (.int .i64 lv)).drew = wA at kpA krA mA ⊢
    clear kp8 kp9 kr8 kr9 m8 m9 kb8 kb9 kp7 kr7 kb7 m7
    have v0 := kpA.cell 0
    have v1 := kpA.cell 1
    have v2 := kpA.cell 2
    have v3 := kpA.cell 3
    simp at v0 v1 v2 v3
    have r0 := krA.cell 0
    have r1 := krA.cell 1
    have r2 := krA.cell 2
    have r3 := krA.cell 3
    simp at r0 r1 r2 r3
    have u0 := krA.fz 0
    have u1 := krA.fz 1
    have u2 := krA.fz 2
    have u3 := krA.fz 3
    go_wp2
    have qE := ((((krA.set (0) (.int .i64 0)).set (1) (.int .i64 node)).set (2) (.int .i64 (pv))).set (3) (.int .i64 (lv)))
    have mE := ((((mA.setCell (p := ⟨w.heap.size + 1,0,none⟩) (Or.inr (by simp only []; omega)) (.int .i64 0)).setCell (p := ⟨w.heap.size + 1,1,none⟩) (Or.inr (by simp only []; omega)) (.int .i64 node)).setCell (p := ⟨w.heap.size + 1,2,none⟩) (Or.inr (by simp only []; omega)) (.int .i64 (pv))).setCell (p := ⟨w.heap.size + 1,3,none⟩) (Or.inr (by simp only []; omega)) (.int .i64 (lv)))
    have mB := (((((Mod.refl (fun g => g = w.heap.size + 1) wA).setCell (p := ⟨w.heap.size + 1,0,none⟩) (Or.inl rfl) (.int .i64 0)).setCell (p := ⟨w.heap.size + 1,1,none⟩) (Or.inl rfl) (.int .i64 node)).setCell (p := ⟨w.heap.size + 1,2,none⟩) (Or.inl rfl) (.int .i64 (pv))).setCell (p := ⟨w.heap.size + 1,3,none⟩) (Or.inl rfl) (.int .i64 (lv)))
    simp at qE
    generalize ((((wA.setCell ⟨w.heap.size + 1,0,none⟩ (.int .i64 0)).setCell ⟨w.heap.size + 1,1,none⟩ (.int .i64 node)).setCell ⟨w.heap.size + 1,2,none⟩ (.int .i64 (pv))).setCell ⟨w.heap.size + 1,3,none⟩ (.int .i64 (lv))) = wE at qE mE mB ⊢
    have qe0 := qE.cell 0
    have qe1 := qE.cell 1
    have qe2 := qE.cell 2
    have qe3 := qE.cell 3
    simp at qe0 qe1 qe2 qe3
    exact bodyPost_ret (v := .tuple #[.agg #[.int .i64 0,.int .i64 node,.int .i64 (pv),.int .i64 (lv)],.bool true]) (by simp [results,Tryz.results21,go_sem,qe0,qe1,qe2,qe3]) rfl ⟨by rw [HR.out],mE⟩
   ·
    have HR := Lib.hid (show V = #[.int .i64 1,.int .i64 node,.int .i64 (z / c.Lanes),.int .i64 (z % c.Lanes)] by rw [← HV.out,partV,partPort,partLane,HKD.out,h,← hz,h]; rfl)
    subst h
    rw [hz]
    obtain ⟨pv,g3⟩ : ∃ v,z / c.Lanes = v := ⟨_,rfl⟩
    obtain ⟨lv,g4⟩ : ∃ v,z % c.Lanes = v := ⟨_,rfl⟩
    rw [g3,g4] at HR
    have g1 : z.tdiv c.Lanes = pv := by rw [Int.tdiv_eq_ediv_of_nonneg z0,g3]
    have g2 : z.tmod c.Lanes = lv := by rw [Int.tmod_eq_emod_of_nonneg z0,g4]
    have g5 : IntKind.i64.wrap pv = pv := IntWalk.i64_in _ (by have := Int.ediv_nonneg z0 (show 0 ≤ c.Lanes by omega); have := Int.ediv_le_self c.Lanes z0; omega)
    have g6 : IntKind.i64.wrap lv = lv := IntWalk.i64_in _ (by have := Int.emod_nonneg z (show c.Lanes ≠ 0 by omega); have := Int.emod_lt_of_pos z (show 0 < c.Lanes by omega); omega)
    have nz1 : (c.Lanes == 0) = false := by simp; omega
    have nz2 : ¬ c.Lanes = 0 := by omega
    obtain ⟨c0,c1,c2,c3,c4,c5,c6,c7,c8⟩ := cfg_cells kb7
    clear c0 c1 c3 c4 c5 c6 c7 c8
    have ne1 : ¬ P = w.heap.size := by omega
    have ne2 : ¬ w.heap.size = P := by omega
    have p0 := kp7.cell 0
    have p1 := kp7.cell 1
    have p2 := kp7.cell 2
    have p3 := kp7.cell 3
    simp at p0 p1 p2 p3
    have y0 := kp7.fz 0
    have y1 := kp7.fz 1
    have y2 := kp7.fz 2
    have y3 := kp7.fz 3
    go_upto_region 15 with fail
    go_region_held3 (fun w' => w'.cell? ⟨w.heap.size,2,none⟩ = some (.int .i64 c.Lanes)) (first | exact c2 | go_keep) (fail)
    go_upto_region 21 with fail
    clear p0 p1 p2 p3 y0 y1 y2 y3 c2 g1 g2 g3 g4 g5 g6
    have kp8 := (kp7).set 2 (.int .i64 pv)
    have m8 := (m7).setCell (p := ⟨P,2,none⟩) (Or.inr hP) (.int .i64 pv)
    have kb8 := (kb7).setOther (a := ⟨P,2,none⟩) (by simp only [ne_eq]; omega) (.int .i64 pv)
    have kr8 := (kr7).setOther (a := ⟨P,2,none⟩) (by simp only [ne_eq]; omega) (.int .i64 pv)
    simp at kp8
    have kp9 := (kp8).set 3 (.int .i64 lv)
    have m9 := (m8).setCell (p := ⟨P,3,none⟩) (Or.inr hP) (.int .i64 lv)
    have kb9 := (kb8).setOther (a := ⟨P,3,none⟩) (by simp only [ne_eq]; omega) (.int .i64 lv)
    have kr9 := (kr8).setOther (a := ⟨P,3,none⟩) (by simp only [ne_eq]; omega) (.int .i64 lv)
    simp at kp9
    have kpA := kp9.drew
    have krA := kr9.drew
    have mA := m9.drew
    generalize ((w7.setCell ⟨P,2,none⟩ (.int .i64 pv)).setCell ⟨P,3,none⟩ (.int .i64 lv)).drew = wA at kpA krA mA ⊢
    clear kp8 kp9 kr8 kr9 m8 m9 kb8 kb9 kp7 kr7 kb7 m7
    have v0 := kpA.cell 0
    have v1 := kpA.cell 1
    have v2 := kpA.cell 2
    have v3 := kpA.cell 3
    simp at v0 v1 v2 v3
    have r0 := krA.cell 0
    have r1 := krA.cell 1
    have r2 := krA.cell 2
    have r3 := krA.cell 3
    simp at r0 r1 r2 r3
    have u0 := krA.fz 0
    have u1 := krA.fz 1
    have u2 := krA.fz 2
    have u3 := krA.fz 3
    go_wp2
    have qE := ((((krA.set (0) (.int .i64 1)).set (1) (.int .i64 node)).set (2) (.int .i64 (pv))).set (3) (.int .i64 (lv)))
    have mE := ((((mA.setCell (p := ⟨w.heap.size + 1,0,none⟩) (Or.inr (by simp only []; omega)) (.int .i64 1)).setCell (p := ⟨w.heap.size + 1,1,none⟩) (Or.inr (by simp only []; omega)) (.int .i64 node)).setCell (p := ⟨w.heap.size + 1,2,none⟩) (Or.inr (by simp only []; omega)) (.int .i64 (pv))).setCell (p := ⟨w.heap.size + 1,3,none⟩) (Or.inr (by simp only []; omega)) (.int .i64 (lv)))
    have mB := (((((Mod.refl (fun g => g = w.heap.size + 1) wA).setCell (p := ⟨w.heap.size + 1,0,none⟩) (Or.inl rfl) (.int .i64 1)).setCell (p := ⟨w.heap.size + 1,1,none⟩) (Or.inl rfl) (.int .i64 node)).setCell (p := ⟨w.heap.size + 1,2,none⟩) (Or.inl rfl) (.int .i64 (pv))).setCell (p := ⟨w.heap.size + 1,3,none⟩) (Or.inl rfl) (.int .i64 (lv)))
    simp at qE
    generalize ((((wA.setCell ⟨w.heap.size + 1,0,none⟩ (.int .i64 1)).setCell ⟨w.heap.size + 1,1,none⟩ (.int .i64 node)).setCell ⟨w.heap.size + 1,2,none⟩ (.int .i64 (pv))).setCell ⟨w.heap.size + 1,3,none⟩ (.int .i64 (lv))) = wE at qE mE mB ⊢
    have qe0 := qE.cell 0
    have qe1 := qE.cell 1
    have qe2 := qE.cell 2
    have qe3 := qE.cell 3
    simp at qe0 qe1 qe2 qe3
    exact bodyPost_ret (v := .tuple #[.agg #[.int .i64 1,.int .i64 node,.int .i64 (pv),.int .i64 (lv)],.bool true]) (by simp [results,Tryz.results21,go_sem,qe0,qe1,qe2,qe3]) rfl ⟨by rw [HR.out],mE⟩
   ·
    have HR := Lib.hid (show V = #[.int .i64 2,.int .i64 node,.int .i64 (z),.int .i64 0] by rw [← HV.out,partV,partPort,partLane,HKD.out,h,← hz,h]; rfl)
    subst h
    rw [hz]
    have p0 := kp7.cell 0
    have p1 := kp7.cell 1
    have p2 := kp7.cell 2
    have p3 := kp7.cell 3
    simp at p0 p1 p2 p3
    have y0 := kp7.fz 0
    have y1 := kp7.fz 1
    have y2 := kp7.fz 2
    have y3 := kp7.fz 3
    go_upto_region 21 with fail
    clear p0 p1 p2 p3 y0 y1 y2 y3
    have kp8 := (kp7).set 2 (.int .i64 (z))
    have m8 := (m7).setCell (p := ⟨P,2,none⟩) (Or.inr hP) (.int .i64 (z))
    have kb8 := (kb7).setOther (a := ⟨P,2,none⟩) (by simp only [ne_eq]; omega) (.int .i64 (z))
    have kr8 := (kr7).setOther (a := ⟨P,2,none⟩) (by simp only [ne_eq]; omega) (.int .i64 (z))
    simp at kp8
    generalize w7.setCell ⟨P,2,none⟩ (.int .i64 (z)) = w8 at kp8 m8 kb8 kr8 ⊢
    have v0 := kp8.cell 0
    have v1 := kp8.cell 1
    have v2 := kp8.cell 2
    have v3 := kp8.cell 3
    simp at v0 v1 v2 v3
    have r0 := kr8.cell 0
    have r1 := kr8.cell 1
    have r2 := kr8.cell 2
    have r3 := kr8.cell 3
    simp at r0 r1 r2 r3
    have u0 := kr8.fz 0
    have u1 := kr8.fz 1
    have u2 := kr8.fz 2
    have u3 := kr8.fz 3
    go_wp2
    have qE := ((((kr8.set (0) (.int .i64 2)).set (1) (.int .i64 node)).set (2) (.int .i64 (z))).set (3) (.int .i64 (0)))
    have mE := ((((m8.setCell (p := ⟨w.heap.size + 1,0,none⟩) (Or.inr (by simp only []; omega)) (.int .i64 2)).setCell (p := ⟨w.heap.size + 1,1,none⟩) (Or.inr (by simp only []; omega)) (.int .i64 node)).setCell (p := ⟨w.heap.size + 1,2,none⟩) (Or.inr (by simp only []; omega)) (.int .i64 (z))).setCell (p := ⟨w.heap.size + 1,3,none⟩) (Or.inr (by simp only []; omega)) (.int .i64 (0)))
    have mB := (((((Mod.refl (fun g => g = w.heap.size + 1) w8).setCell (p := ⟨w.heap.size + 1,0,none⟩) (Or.inl rfl) (.int .i64 2)).setCell (p := ⟨w.heap.size + 1,1,none⟩) (Or.inl rfl) (.int .i64 node)).setCell (p := ⟨w.heap.size + 1,2,none⟩) (Or.inl rfl) (.int .i64 (z))).setCell (p := ⟨w.heap.size + 1,3,none⟩) (Or.inl rfl) (.int .i64 (0)))
    simp at qE
    generalize ((((w8.setCell ⟨w.heap.size + 1,0,none⟩ (.int .i64 2)).setCell ⟨w.heap.size + 1,1,none⟩ (.int .i64 node)).setCell ⟨w.heap.size + 1,2,none⟩ (.int .i64 (z))).setCell ⟨w.heap.size + 1,3,none⟩ (.int .i64 (0))) = wE at qE mE mB ⊢
    have qe0 := qE.cell 0
    have qe1 := qE.cell 1
    have qe2 := qE.cell 2
    have qe3 := qE.cell 3
    simp at qe0 qe1 qe2 qe3
    exact bodyPost_ret (v := .tuple #[.agg #[.int .i64 2,.int .i64 node,.int .i64 (z),.int .i64 (0)],.bool true]) (by simp [results,Tryz.results21,go_sem,qe0,qe1,qe2,qe3]) rfl ⟨by rw [HR.out],mE⟩
   ·
    have HR := Lib.hid (show V = #[.int .i64 3,.int .i64 node,.int .i64 0,.int .i64 0] by rw [← HV.out,partV,partPort,partLane,HKD.out,h]; rfl)
    subst h
    rw [hz]
    have p0 := kp7.cell 0
    have p1 := kp7.cell 1
    have p2 := kp7.cell 2
    have p3 := kp7.cell 3
    simp at p0 p1 p2 p3
    go_upto_region 21 with fail
    clear p0 p1 p2 p3
    have v0 := kp7.cell 0
    have v1 := kp7.cell 1
    have v2 := kp7.cell 2
    have v3 := kp7.cell 3
    simp at v0 v1 v2 v3
    have r0 := kr7.cell 0
    have r1 := kr7.cell 1
    have r2 := kr7.cell 2
    have r3 := kr7.cell 3
    simp at r0 r1 r2 r3
    have u0 := kr7.fz 0
    have u1 := kr7.fz 1
    have u2 := kr7.fz 2
    have u3 := kr7.fz 3
    go_wp2
    have qE := ((((kr7.set (0) (.int .i64 3)).set (1) (.int .i64 node)).set (2) (.int .i64 (0))).set (3) (.int .i64 (0)))
    have mE := ((((m7.setCell (p := ⟨w.heap.size + 1,0,none⟩) (Or.inr (by simp only []; omega)) (.int .i64 3)).setCell (p := ⟨w.heap.size + 1,1,none⟩) (Or.inr (by simp only []; omega)) (.int .i64 node)).setCell (p := ⟨w.heap.size + 1,2,none⟩) (Or.inr (by simp only []; omega)) (.int .i64 (0))).setCell (p := ⟨w.heap.size + 1,3,none⟩) (Or.inr (by simp only []; omega)) (.int .i64 (0)))
    have mB := (((((Mod.refl (fun g => g = w.heap.size + 1) w7).setCell (p := ⟨w.heap.size + 1,0,none⟩) (Or.inl rfl) (.int .i64 3)).setCell (p := ⟨w.heap.size + 1,1,none⟩) (Or.inl rfl) (.int .i64 node)).setCell (p := ⟨w.heap.size + 1,2,none⟩) (Or.inl rfl) (.int .i64 (0))).setCell (p := ⟨w.heap.size + 1,3,none⟩) (Or.inl rfl) (.int .i64 (0)))
    simp at qE
    generalize ((((w7.setCell ⟨w.heap.size + 1,0,none⟩ (.int .i64 3)).setCell ⟨w.heap.size + 1,1,none⟩ (.int .i64 node)).setCell ⟨w.heap.size + 1,2,none⟩ (.int .i64 (0))).setCell ⟨w.heap.size + 1,3,none⟩ (.int .i64 (0))) = wE at qE mE mB ⊢
    have qe0 := qE.cell 0
    have qe1 := qE.cell 1
    have qe2 := qE.cell 2
    have qe3 := qE.cell 3
    simp at qe0 qe1 qe2 qe3
    exact bodyPost_ret (v := .tuple #[.agg #[.int .i64 3,.int .i64 node,.int .i64 (0),.int .i64 (0)],.bool true]) (by simp [results,Tryz.results21,go_sem,qe0,qe1,qe2,qe3]) rfl ⟨by rw [HR.out],mE⟩
   ·
    have HR := Lib.hid (show V = #[.int .i64 4,.int .i64 node,.int .i64 0,.int .i64 0] by rw [← HV.out,partV,partPort,partLane,HKD.out,h]; rfl)
    subst h
    rw [hz]
    have p0 := kp7.cell 0
    have p1 := kp7.cell 1
    have p2 := kp7.cell 2
    have p3 := kp7.cell 3
    simp at p0 p1 p2 p3
    go_upto_region 21 with fail
    clear p0 p1 p2 p3
    have v0 := kp7.cell 0
    have v1 := kp7.cell 1
    have v2 := kp7.cell 2
    have v3 := kp7.cell 3
    simp at v0 v1 v2 v3
    have r0 := kr7.cell 0
    have r1 := kr7.cell 1
    have r2 := kr7.cell 2
    have r3 := kr7.cell 3
    simp at r0 r1 r2 r3
    have u0 := kr7.fz 0
    have u1 := kr7.fz 1
    have u2 := kr7.fz 2
    have u3 := kr7.fz 3
    go_wp2
    have qE := ((((kr7.set (0) (.int .i64 4)).set (1) (.int .i64 node)).set (2) (.int .i64 (0))).set (3) (.int .i64 (0)))
    have mE := ((((m7.setCell (p := ⟨w.heap.size + 1,0,none⟩) (Or.inr (by simp only []; omega)) (.int .i64 4)).setCell (p := ⟨w.heap.size + 1,1,none⟩) (Or.inr (by simp only []; omega)) (.int .i64 node)).setCell (p := ⟨w.heap.size + 1,2,none⟩) (Or.inr (by simp only []; omega)) (.int .i64 (0))).setCell (p := ⟨w.heap.size + 1,3,none⟩) (Or.inr (by simp only []; omega)) (.int .i64 (0)))
    have mB := (((((Mod.refl (fun g => g = w.heap.size + 1) w7).setCell (p := ⟨w.heap.size + 1,0,none⟩) (Or.inl rfl) (.int .i64 4)).setCell (p := ⟨w.heap.size + 1,1,none⟩) (Or.inl rfl) (.int .i64 node)).setCell (p := ⟨w.heap.size + 1,2,none⟩) (Or.inl rfl) (.int .i64 (0))).setCell (p := ⟨w.heap.size + 1,3,none⟩) (Or.inl rfl) (.int .i64 (0)))
    simp at qE
    generalize ((((w7.setCell ⟨w.heap.size + 1,0,none⟩ (.int .i64 4)).setCell ⟨w.heap.size + 1,1,none⟩ (.int .i64 node)).setCell ⟨w.heap.size + 1,2,none⟩ (.int .i64 (0))).setCell ⟨w.heap.size + 1,3,none⟩ (.int .i64 (0))) = wE at qE mE mB ⊢
    have qe0 := qE.cell 0
    have qe1 := qE.cell 1
    have qe2 := qE.cell 2
    have qe3 := qE.cell 3
    simp at qe0 qe1 qe2 qe3
    exact bodyPost_ret (v := .tuple #[.agg #[.int .i64 4,.int .i64 node,.int .i64 (0),.int .i64 (0)],.bool true]) (by simp [results,Tryz.results21,go_sem,qe0,qe1,qe2,qe3]) rfl ⟨by rw [HR.out],mE⟩
   ·
    have HR := Lib.hid (show V = #[.int .i64 5,.int .i64 node,.int .i64 (z + 1),.int .i64 0] by rw [← HV.out,partV,partPort,partLane,HKD.out,h,← hz,h]; rfl)
    subst h
    rw [hz]
    have hwz : IntKind.i64.wrap (z + 1) = z + 1 := IntWalk.i64_in _ (by omega)
    have p0 := kp7.cell 0
    have p1 := kp7.cell 1
    have p2 := kp7.cell 2
    have p3 := kp7.cell 3
    simp at p0 p1 p2 p3
    have y0 := kp7.fz 0
    have y1 := kp7.fz 1
    have y2 := kp7.fz 2
    have y3 := kp7.fz 3
    go_upto_region 21 with fail
    clear p0 p1 p2 p3 y0 y1 y2 y3
    have kp8 := (kp7).set 2 (.int .i64 (z + 1))
    have m8 := (m7).setCell (p := ⟨P,2,none⟩) (Or.inr hP) (.int .i64 (z + 1))
    have kb8 := (kb7).setOther (a := ⟨P,2,none⟩) (by simp only [ne_eq]; omega) (.int .i64 (z + 1))
    have kr8 := (kr7).setOther (a := ⟨P,2,none⟩) (by simp only [ne_eq]; omega) (.int .i64 (z + 1))
    simp at kp8
    generalize w7.setCell ⟨P,2,none⟩ (.int .i64 (z + 1)) = w8 at kp8 m8 kb8 kr8 ⊢
    have v0 := kp8.cell 0
    have v1 := kp8.cell 1
    have v2 := kp8.cell 2
    have v3 := kp8.cell 3
    simp at v0 v1 v2 v3
    have r0 := kr8.cell 0
    have r1 := kr8.cell 1
    have r2 := kr8.cell 2
    have r3 := kr8.cell 3
    simp at r0 r1 r2 r3
    have u0 := kr8.fz 0
    have u1 := kr8.fz 1
    have u2 := kr8.fz 2
    have u3 := kr8.fz 3
    go_wp2
    have qE := ((((kr8.set (0) (.int .i64 5)).set (1) (.int .i64 node)).set (2) (.int .i64 (z + 1))).set (3) (.int .i64 (0)))
    have mE := ((((m8.setCell (p := ⟨w.heap.size + 1,0,none⟩) (Or.inr (by simp only []; omega)) (.int .i64 5)).setCell (p := ⟨w.heap.size + 1,1,none⟩) (Or.inr (by simp only []; omega)) (.int .i64 node)).setCell (p := ⟨w.heap.size + 1,2,none⟩) (Or.inr (by simp only []; omega)) (.int .i64 (z + 1))).setCell (p := ⟨w.heap.size + 1,3,none⟩) (Or.inr (by simp only []; omega)) (.int .i64 (0)))
    have mB := (((((Mod.refl (fun g => g = w.heap.size + 1) w8).setCell (p := ⟨w.heap.size + 1,0,none⟩) (Or.inl rfl) (.int .i64 5)).setCell (p := ⟨w.heap.size + 1,1,none⟩) (Or.inl rfl) (.int .i64 node)).setCell (p := ⟨w.heap.size + 1,2,none⟩) (Or.inl rfl) (.int .i64 (z + 1))).setCell (p := ⟨w.heap.size + 1,3,none⟩) (Or.inl rfl) (.int .i64 (0)))
    simp at qE
    generalize ((((w8.setCell ⟨w.heap.size + 1,0,none⟩ (.int .i64 5)).setCell ⟨w.heap.size + 1,1,none⟩ (.int .i64 node)).setCell ⟨w.heap.size + 1,2,none⟩ (.int .i64 (z + 1))).setCell ⟨w.heap.size + 1,3,none⟩ (.int .i64 (0))) = wE at qE mE mB ⊢
    have qe0 := qE.cell 0
    have qe1 := qE.cell 1
    have qe2 := qE.cell 2
    have qe3 := qE.cell 3
    simp at qe0 qe1 qe2 qe3
    exact bodyPost_ret (v := .tuple #[.agg #[.int .i64 5,.int .i64 node,.int .i64 (z + 1),.int .i64 (0)],.bool true]) (by simp [results,Tryz.results21,go_sem,qe0,qe1,qe2,qe3]) rfl ⟨by rw [HR.out],mE⟩
   ·
    have HR := Lib.hid (show V = #[.int .i64 6,.int .i64 node,.int .i64 (z + 1),.int .i64 0] by rw [← HV.out,partV,partPort,partLane,HKD.out,h,← hz,h]; rfl)
    subst h
    rw [hz]
    have hwz : IntKind.i64.wrap (z + 1) = z + 1 := IntWalk.i64_in _ (by omega)
    have p0 := kp7.cell 0
    have p1 := kp7.cell 1
    have p2 := kp7.cell 2
    have p3 := kp7.cell 3
    simp at p0 p1 p2 p3
    have y0 := kp7.fz 0
    have y1 := kp7.fz 1
    have y2 := kp7.fz 2
    have y3 := kp7.fz 3
    go_upto_region 21 with fail
    clear p0 p1 p2 p3 y0 y1 y2 y3
    have kp8 := (kp7).set 2 (.int .i64 (z + 1))
    have m8 := (m7).setCell (p := ⟨P,2,none⟩) (Or.inr hP) (.int .i64 (z + 1))
    have kb8 := (kb7).setOther (a := ⟨P,2,none⟩) (by simp only [ne_eq]; omega) (.int .i64 (z + 1))
    have kr8 := (kr7).setOther (a := ⟨P,2,none⟩) (by simp only [ne_eq]; omega) (.int .i64 (z + 1))
    simp at kp8
    generalize w7.setCell ⟨P,2,none⟩ (.int .i64 (z + 1)) = w8 at kp8 m8 kb8 kr8 ⊢
    have v0 := kp8.cell 0
    have v1 := kp8.cell 1
    have v2 := kp8.cell 2
    have v3 := kp8.cell 3
    simp at v0 v1 v2 v3
    have r0 := kr8.cell 0
    have r1 := kr8.cell 1
    have r2 := kr8.cell 2
    have r3 := kr8.cell 3
    simp at r0 r1 r2 r3
    have u0 := kr8.fz 0
    have u1 := kr8.fz 1
    have u2 := kr8.fz 2
    have u3 := kr8.fz 3
    go_wp2
    have qE := ((((kr8.set (0) (.int .i64 6)).set (1) (.int .i64 node)).set (2) (.int .i64 (z + 1))).set (3) (.int .i64 (0)))
    have mE := ((((m8.setCell (p := ⟨w.heap.size + 1,0,none⟩) (Or.inr (by simp only []; omega)) (.int .i64 6)).setCell (p := ⟨w.heap.size + 1,1,none⟩) (Or.inr (by simp only []; omega)) (.int .i64 node)).setCell (p := ⟨w.heap.size + 1,2,none⟩) (Or.inr (by simp only []; omega)) (.int .i64 (z + 1))).setCell (p := ⟨w.heap.size + 1,3,none⟩) (Or.inr (by simp only []; omega)) (.int .i64 (0)))
    have mB := (((((Mod.refl (fun g => g = w.heap.size + 1) w8).setCell (p := ⟨w.heap.size + 1,0,none⟩) (Or.inl rfl) (.int .i64 6)).setCell (p := ⟨w.heap.size + 1,1,none⟩) (Or.inl rfl) (.int .i64 node)).setCell (p := ⟨w.heap.size + 1,2,none⟩) (Or.inl rfl) (.int .i64 (z + 1))).setCell (p := ⟨w.heap.size + 1,3,none⟩) (Or.inl rfl) (.int .i64 (0)))
    simp at qE
    generalize ((((w8.setCell ⟨w.heap.size + 1,0,none⟩ (.int .i64 6)).setCell ⟨w.heap.size + 1,1,none⟩ (.int .i64 node)).setCell ⟨w.heap.size + 1,2,none⟩ (.int .i64 (z + 1))).setCell ⟨w.heap.size + 1,3,none⟩ (.int .i64 (0))) = wE at qE mE mB ⊢
    have qe0 := qE.cell 0
    have qe1 := qE.cell 1
    have qe2 := qE.cell 2
    have qe3 := qE.cell 3
    simp at qe0 qe1 qe2 qe3
    exact bodyPost_ret (v := .tuple #[.agg #[.int .i64 6,.int .i64 node,.int .i64 (z + 1),.int .i64 (0)],.bool true]) (by simp [results,Tryz.results21,go_sem,qe0,qe1,qe2,qe3]) rfl ⟨by rw [HR.out],mE⟩
open Go.RowKit
theorem dist_bd {x : Int} (h1 : -9223372036854775808 ≤ x) (h2 : x ≤ 9223372036854775807) : 0 ≤ dist x∧dist x ≤ 9223372036854775807 := by unfold dist; split <;> omega
theorem pick_round1 (n m : Int) (w : World) (hm : 1 ≤ m) (hm2 : m ≤ 389120) (h1 : -9223372036854775808 ≤ n) (h2 : n ≤ 9223372036854775807) :
  Calls Tryz.prog 59 #[.int .i64 n,.int .i64 m] w fun e w' => e = .returned (.int .i64 (dist n % m))∧w' = w := by
 have nz1 : (m == 0) = false := by simp; omega
 have nz2 : ¬ m = 0 := by omega
 have hb := dist_bd h1 h2
 obtain ⟨v,g1⟩ : ∃ v,dist n % m = v := ⟨_,rfl⟩
 have hv0 : 0 ≤ v := by rw [← g1]; exact Int.emod_nonneg _ (by omega)
 have hv1 : v < m := by rw [← g1]; exact Int.emod_lt_of_pos _ (by omega)
 have g2 : (dist n).tmod m = v := by rw [Int.tmod_eq_emod_of_nonneg hb.1,g1]
 have g3 : IntKind.i64.wrap v = v := IntWalk.i64_in _ (by omega)
 rw [g1]
 by_cases hn : n < 0
 ·
  have e : dist n = -(n + 1) := by unfold dist; rw [if_pos hn]
  rw [e] at g1 g2 hb
  have w1 : IntKind.i64.wrap (n + 1) = n + 1 := IntWalk.i64_in _ (by omega)
  have w2 : IntKind.i64.wrap (-(n + 1)) = -(n + 1) := IntWalk.i64_in _ (by omega)
  go_enter Tryz.func59,Tryz.ntmps59
  go_wp2
  go_ret
  exact ⟨rfl,rfl⟩
 ·
  have e : dist n = n := by unfold dist; rw [if_neg hn]
  rw [e] at g1 g2 hb
  go_enter Tryz.func59,Tryz.ntmps59
  go_wp2
  go_ret
  exact ⟨rfl,rfl⟩
theorem nextFree_free {had : List Bool} : ∀ (f k : Nat),(∃ j,j ≤ f∧had.getD ((k + j) % had.length) false = false)→k < had.length→had.getD (nextFree had f k) false = false := by
 intro f
 induction f with
 | zero =>
  rintro k ⟨j,hj,h⟩ hk
  obtain rfl : j = 0 := by omega
  rw [Nat.add_zero,Nat.mod_eq_of_lt hk] at h
  exact h
 | succ f ih =>
  rintro k ⟨j,hj,h⟩ hk
  unfold nextFree
  split
  ·
   rename_i hb
   refine ih _ ?_ (Nat.mod_lt _ (by omega))
   rcases Nat.eq_zero_or_pos j with rfl | hjp
   ·
    rw [Nat.add_zero,Nat.mod_eq_of_lt hk,hb] at h
    cases h
   ·
    refine ⟨j - 1,by omega,?_⟩
    rw [Nat.mod_add_mod,show k + 1 + (j - 1) = k + j by omega]
    exact h
  ·
   rename_i hb
   simpa using hb
theorem nextFree_lt {had : List Bool} : ∀ (f k : Nat),k < had.length→nextFree had f k < had.length := by
 intro f
 induction f with
 | zero => intro k hk; exact hk
 | succ f ih =>
  intro k hk
  unfold nextFree
  split
  ·
   exact ih _ (Nat.mod_lt _ (by omega))
  ·
   exact hk
theorem free_some {had : List Bool} (h : had.count true < had.length) {k : Nat} (hk : k < had.length) : ∃ j,j ≤ had.length∧had.getD ((k + j) % had.length) false = false := by
 have : ∃ m,m < had.length∧had.getD m false = false := by
  apply Classical.byContradiction
  intro hno
  have hall : ∀ b ∈ had,true = b := by
   intro b hb
   obtain ⟨m,hm,rfl⟩ := List.getElem_of_mem hb
   cases hx : had[m] with
   | true => rfl
   | false => exact absurd ⟨m,hm,by rw [List.getD_eq_getElem?_getD,List.getElem?_eq_getElem hm,hx]; rfl⟩ hno
  have := List.count_eq_length.2 hall
  omega
 obtain ⟨m,hm,hf⟩ := this
 refine ⟨(m + had.length - k) % had.length,Nat.le_of_lt (Nat.mod_lt _ (by omega)),?_⟩
 rw [Nat.add_mod_mod,show k + (m + had.length - k) = m + had.length by omega,Nat.add_mod_right,Nat.mod_eq_of_lt hm]
 exact hf
theorem count_set {had : List Bool} {a : Nat} (ha : a < had.length) (hf : had.getD a false = false) : (had.set a true).count true = had.count true + 1 := by
 rw [List.getD_eq_getElem?_getD,List.getElem?_eq_getElem ha] at hf
 simp only [Option.getD_some] at hf
 rw [List.count_set ha,hf]
 simp
theorem roundL_len (n step : Nat) : ∀ (j : Nat) (had : List Bool) (k : Nat),(roundL n step j had k).length = j := by
 intro j
 induction j with
 | zero => intro had k; rfl
 | succ j ih => intro had k; simp [roundL,ih]
theorem round_len (c : Cfg) (a b : Int) : (c.round a b).length = c.parts.toNat := by
 unfold Cfg.round
 split
 ·
  rename_i h
  rw [h]
  rfl
 ·
  exact roundL_len _ _ _ _ _
open Go.RowKit
def boolsA (l : List Bool) : Array Value := (l.map Value.bool).toArray
theorem boolsA_get {l : List Bool} {k : Nat} (h : k < l.length) : (boolsA l)[k]? = some (.bool (l.getD k false)) := by
 simp [boolsA,List.getD_eq_getElem?_getD,h]
theorem boolsA_set (l : List Bool) (k : Nat) (v : Bool) : (boolsA l).setIfInBounds k (.bool v) = boolsA (l.set k v) := by
 simp [boolsA,List.map_set]
theorem make_bools (n : Nat) (hn : n ≤ 400000) (w : World) : (Instr.makeSlice 102 (.int .i64 (n : Int)) (.int .i64 (n : Int))).run Tryz.prog w = .ok (.slice (some ⟨w.heap.size,0,none⟩) n n) (w.alloc (.cells (boolsA (List.replicate n false)) 4)) := by
 obtain ⟨i,hi,hz,hsize,hby⟩ := info_parts (show (Tryz.prog.info? 4).map (fun i => (i.zero,i.size,i.bytes)) = some (some (.bool false),1,1) by kernel_rfl)
 have h := run_makeSlice (P := Tryz.prog) w 102 4 i (.bool false) Tryz.underlying102 hi hz .i64 .i64 (n : Int) (n : Int) (by omega) (by omega) (by rw [hsize]; omega) (by rw [hby]; omega) (by omega)
 rw [h]
 simp only [Int.toNat_natCast,hsize,Nat.mul_one]
 have e : madeCells (Value.bool false).cells n = boolsA (List.replicate n false) := by
  apply Array.toList_inj.1
  rw [show (Value.bool false).cells = #[.bool false] from rfl,toList_madeCells_one]
  simp [boolsA]
 rw [e]
theorem ownsRow_set {w : World} {base : Nat} {e : TypeId} {size : Nat} {v : Value} {n : Nat} {xs : List Value} (h : w.ownsRow base e size v n xs) {a : Addr} (ha : a.block < base) (u : Value) : (w.setCell a u).ownsRow base e size v n xs := by
 obtain ⟨hl,h⟩ := h
 refine ⟨hl,?_⟩
 rcases h with h | ⟨g,cap,cur,rfl,hb,hh,hr⟩
 ·
  exact Or.inl h
 ·
  exact Or.inr ⟨g,cap,cur,rfl,hb,(Below.heap_setCell _ _ _ _ (by omega)).trans hh,hr⟩
theorem own_fresh {w : World} {base : Nat} {e : TypeId} {v : Value} {n : Nat} {xs : List Value} (h : w.ownsRow base e 1 v n xs) : ∀ a n' c,v = .slice (some a) n' c→base ≤ a.block := by
 rintro a n' c rfl
 obtain ⟨-,h⟩ := h
 rcases h with ⟨h,-⟩ | ⟨g,cap,cur,h,hb,-⟩
 ·
  cases h
 ·
  simp only [Value.slice.injEq,Option.some.injEq] at h
  rw [h.1]
  exact hb
theorem gap_eq {n a k : Nat} (ha : a < n) (hk : k < n) : (a + n - k) % n = if k ≤ a then a - k else a + n - k := by
 split
 ·
  rw [show a + n - k = a - k + n by omega,Nat.add_mod_right,Nat.mod_eq_of_lt (by omega)]
 ·
  rw [Nat.mod_eq_of_lt (by omega)]
theorem gap_less {n a k : Nat} (ha : a < n) (hk : k < n) (h : k ≠ a) : (a + n - (k + 1) % n) % n < (a + n - k) % n := by
 rw [gap_eq ha hk,gap_eq ha (Nat.mod_lt _ (by omega))]
 rcases Nat.lt_or_ge (k + 1) n with h1 | h1
 ·
  rw [Nat.mod_eq_of_lt h1]
  split <;> split <;> omega
 ·
  obtain rfl : n = k + 1 := by omega
  rw [Nat.mod_self]
  split <;> split <;> omega
theorem pick_Round (c : Cfg) (a b : Int) (w : World) (ha1 : -9223372036854775808 ≤ a) (ha2 : a ≤ 9223372036854775807) (hb1 : -9223372036854775808 ≤ b) (hb2 : b ≤ 9223372036854775807) :
  Calls Tryz.prog 20 #[.agg c.cells,.int .i64 a,.int .i64 b] w fun e w' => ∃ v,e = .returned v∧Mod (fun _ => False) w w'∧SlV w' v ((c.round a b).map fun (k : Nat) => Value.int .i64 (k : Int))∧∀ a n c,v = .slice (some a) n c→w.heap.size ≤ a.block := by
 have kb := Blk.made w c.cells 23
 have m0 : Mod (fun _ => False) w (w.alloc (.cells c.cells 23)) := (Mod.refl _ _).alloc _
 have hpb := parts_bd c
 have HC := Lib.hid (fun w => pick_Count c w)
 obtain ⟨n,hn⟩ := Int.eq_ofNat_of_zero_le hpb.1
 have hR : c.round a b = if n = 0 then [] else roundL n (1 + (dist b % n).toNat) n (List.replicate n false) (dist a % n).toNat := by
  unfold Cfg.round
  rw [hn]
  simp only [Int.toNat_natCast]
  by_cases h0 : n = 0
  ·
   rw [if_pos h0,if_pos (by omega)]
  ·
   rw [if_neg h0,if_neg (by omega)]
 obtain ⟨R,hRR⟩ : ∃ R,c.round a b = R := ⟨_,rfl⟩
 rw [hRR] at hR ⊢
 rw [hn] at HC hpb
 simp only [Cfg.cells] at kb m0 HC ⊢
 clear hn hRR
 go_enter Tryz.func20,Tryz.ntmps20
 go_upto_region 1 with fail
 generalize w.alloc (.cells #[.int .i64 c.W,.int .i64 c.H,.int .i64 c.Lanes,.int .i64 c.Depth,.int .i64 c.Ring,.int .i64 c.Inbox,.int .i64 c.Bound,.bool c.West,.bool c.Cast] 23) = w0 at kb m0 ⊢
 obtain ⟨c0,c1,c2,c3,c4,c5,c6,c7,c8⟩ := cfg_cells kb
 go_wp2_with fail
 refine (HC.out _).mono ?_
 rintro e w1 ⟨rfl,m1⟩
 have m1 := m0.trans m1 (by simp)
 clear kb m0 c0 c1 c2 c3 c4 c5 c6 c7 c8 HC
 by_cases h0 : n = 0
 ·
  rw [if_pos h0] at hR
  subst hR
  subst h0
  go_wp2
  go_ret
  exact ⟨_,rfl,m1,⟨_,_,_,rfl,rfl,Nat.le_refl _,by decide,Or.inl rfl⟩,fun _ _ _ h => by cases h⟩
 ·
  rw [if_neg h0] at hR
  have q0 : ((n : Int) == 0) = false := by simp; omega
  have hmk := make_bools n (by omega) w1
  have hs1 : 1 ≤ (1 + (dist b % n).toNat : Nat) := by omega
  have hdb := Int.emod_nonneg (dist b) (show (n : Int) ≠ 0 by omega)
  have hdb2 := Int.emod_lt_of_pos (dist b) (show 0 < (n : Int) by omega)
  have hda := Int.emod_nonneg (dist a) (show (n : Int) ≠ 0 by omega)
  have hda2 := Int.emod_lt_of_pos (dist a) (show 0 < (n : Int) by omega)
  have H1 := Lib.hid (fun w => pick_round1 a n w (by omega) (by omega) ha1 ha2)
  have H2 := Lib.hid (fun w => pick_round1 b n w (by omega) (by omega) hb1 hb2)
  obtain ⟨st,hst⟩ := Int.eq_ofNat_of_zero_le hdb
  obtain ⟨k0,hk0⟩ := Int.eq_ofNat_of_zero_le hda
  rw [hst] at H2 hdb2 hR
  rw [hk0] at H1 hda2 hR
  simp only [Int.toNat_natCast] at hR
  have e1 : IntKind.i64.wrap (1 + (st : Int)) = ((1 + st : Nat) : Int) := by push_cast; exact IntWalk.i64_in _ (by omega)
  have kG := Blk.made w1 (boolsA (List.replicate n false)) 4
  have m2 := m1.alloc (.cells (boolsA (List.replicate n false)) 4)
  have s2 : (w1.alloc (.cells (boolsA (List.replicate n false)) 4)).heap.size = w1.heap.size + 1 := by simp
  have m1s := m1.size
  clear hst hk0 hdb hda h0 hs1 ha1 ha2 hb1 hb2
  go_wp2_with fail
  refine (H1.out _).mono ?_
  rintro e w2 ⟨rfl,hw2⟩
  subst hw2
  go_wp2_with fail
  refine (H2.out _).mono ?_
  rintro e w2 ⟨rfl,rfl⟩
  obtain ⟨G,hG⟩ : ∃ G,w1.heap.size = G := ⟨_,rfl⟩
  rw [hG] at kG s2 m1s ⊢
  generalize w1.alloc (.cells (boolsA (List.replicate n false)) 4) = w2 at kG m2 s2 ⊢
  obtain ⟨step,hstep⟩ : ∃ s,1 + st = s := ⟨_,rfl⟩
  rw [hstep] at e1 hR
  have hstl : step ≤ n := by omega
  clear hmk hG m1 H1 H2 q0 hstep
  go_wp2
  go_loopw [9,11,26] (fun k o i wr => ∃ (j kk : Nat) (had : List Bool) (l : List Nat),j ≤ n∧i = .int .i64 (j : Int)∧k = .int .i64 (kk : Int)∧kk < n∧had.length = n∧had.count true = j∧Blk wr G (boolsA had) 4∧wr.ownsRow (G + 1) 3 1 o j (l.map fun (k : Nat) => Value.int .i64 (k : Int))∧l ++ roundL n step (n - j) had kk = R∧Mod (fun q => G ≤ q) w2 wr) (fun _ _ i _ => n - (intOf i).toNat)
  case atStart => exact ⟨0,k0,List.replicate n false,[],by omega,rfl,rfl,by omega,by simp,by simp [List.count_replicate],kG,World.ownsRow_nil _ _ _ _,by rw [hR]; rfl,Mod.refl _ _⟩
  case round =>
   obtain ⟨j,kk,had,l,hj,rfl,rfl,hkk,hhl,hcnt,kH,hown,hrest,hmod⟩ := hrel
   obtain ⟨wA,rfl⟩ : ∃ wo : World,wo = wr := ⟨_,rfl⟩
   have hsz := hmod.size
   by_cases hlt : j < n
   ·
    have hA1 := nextFree_free (had := had) n kk (by obtain ⟨j',h1,h2⟩ := free_some (had := had) (by omega) (k := kk) (by omega); exact ⟨j',by omega,h2⟩) (by omega)
    have hA2 := nextFree_lt (had := had) n kk (by omega)
    obtain ⟨A,hA⟩ : ∃ A,nextFree had n kk = A := ⟨_,rfl⟩
    have hst : roundL n step (n - j) had kk = A :: roundL n step (n - (j + 1)) (had.set A true) ((A + step) % n) := by
     rw [show n - j = (n - (j + 1)) + 1 by omega,← hA]
     rfl
    rw [hA] at hA1 hA2
    rw [hhl] at hA2
    rw [hst] at hrest
    clear hst
    go_wp2
    go_loopw [9] (fun k wr => ∃ (k1 f : Nat),k = .int .i64 (k1 : Int)∧k1 < n∧nextFree had f k1 = A∧wr = wA) (fun k _ => (A + n - (intOf k).toNat) % n)
    case atStart => exact ⟨kk,n,rfl,hkk,hA,rfl⟩
    case round =>
     obtain ⟨k1,f,rfl,hk1,hnf,rfl⟩ := hrel
     obtain ⟨wB,rfl⟩ : ∃ wo : World,wo = wr := ⟨_,rfl⟩
     have hc := (kH.cell k1).trans (boolsA_get (by omega))
     have i0 : (0 : Int) ≤ (k1 : Int) := by omega
     have i1 : (k1 : Int) < (n : Int) := by omega
     cases hb : had.getD k1 false with
     | true =>
      rw [hb] at hc
      have hne : k1 ≠ A := fun e => by rw [← e,hb] at hA1; cases hA1
      have HM := Lib.hid (gap_less hA2 hk1 hne)
      obtain ⟨f',rfl⟩ : ∃ f',f = f' + 1 := by
       cases f with
       | zero => exact absurd hnf hne
       | succ f => exact ⟨f,rfl⟩
      have hnf2 : nextFree had f' ((k1 + 1) % n) = A := by
       rw [← hnf]
       conv => rhs; unfold nextFree
       rw [if_pos hb,hhl]
      have g1 : IntKind.i64.wrap ((k1 : Int) + 1) = ((k1 + 1 : Nat) : Int) := by push_cast; exact IntWalk.i64_in _ (by omega)
      have g2 : (((k1 + 1 : Nat) : Int)).tmod (n : Int) = (((k1 + 1) % n : Nat) : Int) := by rw [Int.tmod_eq_emod_of_nonneg (by omega)]; push_cast; rfl
      have hlt2 : (k1 + 1) % n < n := Nat.mod_lt _ (by omega)
      obtain ⟨k2,hk2⟩ : ∃ k2,(k1 + 1) % n = k2 := ⟨_,rfl⟩
      rw [hk2] at hnf2 g2 hlt2 HM
      clear hk2
      have nz1 : ((n : Int) == 0) = false := by simp; omega
      have nz2 : ¬ (n : Int) = 0 := by omega
      have nz3 : ¬ n = 0 := by omega
      have g3 : ((((k1 + 1 : Nat) : Int)) % (n : Int)) = (k2 : Int) := by rw [← Int.tmod_eq_emod_of_nonneg (by omega),g2]
      have g4 : IntKind.i64.wrap (k2 : Int) = (k2 : Int) := IntWalk.i64_in _ (by omega)
      have HG := Lib.hid (show ((k1 : Int) + 1) % (n : Int) = (k2 : Int) by rw [← g3]; push_cast; rfl)
      clear hb
      go_wp2
      go_roundw
      case rel => exact ⟨k2,f',congrArg (Value.int .i64) HG.out,hlt2,hnf2,trivial⟩
      case measure =>
       simp only [intOf]
       rw [HG.out]
       simpa using HM.out
     | false =>
      rw [hb] at hc
      have hkA : k1 = A := by
       rw [← hnf]
       cases f with
       | zero => rfl
       | succ f => unfold nextFree; rw [if_neg (by rw [hb]; simp)]
      subst hkA
      go_upto_region 11 with fail
      have hfz := kH.fz k1
      have kH2 := kH.set k1 (.bool true)
      rw [boolsA_set] at kH2
      have hown2 := ownsRow_set hown (a := ⟨G,k1,none⟩) (by simp only []; omega) (.bool true)
      have hmod2 := hmod.setCell (p := ⟨G,k1,none⟩) (Or.inl (Nat.le_refl _)) (.bool true)
      go_upto_region 12 with fail
      generalize wB.setCell ⟨G,k1,none⟩ (.bool true) = wC at kH2 hown2 hmod2 ⊢
      have hszC := hmod2.size
      have hlow := fun e => (hown2.lt G e).1
      have g1 : IntKind.i64.wrap ((k1 : Int) + (step : Int)) = ((k1 + step : Nat) : Int) := by push_cast; exact IntWalk.i64_in _ (by omega)
      have g2 : (((k1 + step : Nat) : Int)).tmod (n : Int) = (((k1 + step) % n : Nat) : Int) := by rw [Int.tmod_eq_emod_of_nonneg (by omega)]; push_cast; rfl
      have hlt2 : (k1 + step) % n < n := Nat.mod_lt _ (by omega)
      have hcnt2 := count_set (had := had) (a := k1) (by omega) hb
      obtain ⟨k2,hk2⟩ : ∃ k2,(k1 + step) % n = k2 := ⟨_,rfl⟩
      rw [hk2] at g2 hlt2 hrest
      clear hk2
      have nz1 : ((n : Int) == 0) = false := by simp; omega
      have nz2 : ¬ (n : Int) = 0 := by omega
      have nz3 : ¬ n = 0 := by omega
      have g3 : ((((k1 + step : Nat) : Int)) % (n : Int)) = (k2 : Int) := by rw [← Int.tmod_eq_emod_of_nonneg (by omega),g2]
      have g4 : IntKind.i64.wrap (k2 : Int) = (k2 : Int) := IntWalk.i64_in _ (by omega)
      have HG := Lib.hid (show ((k1 : Int) + (step : Int)) % (n : Int) = (k2 : Int) by rw [← g3]; push_cast; rfl)
      clear hb hc hfz hown hmod
      go_wp2_with (at_builtin; refine wpList_appendE rfl _ _ 44 rfl (G + 1) 3 (.int .i64 0) 1 8 Tryz.underlying44 info_int' rfl (by decide) _ _ _ rfl hown2 #[_] rfl rfl (by simp [Value.oneCell']) (by unfold maxLen; omega) (by omega) (by omega) ?_; intro g cap wz hown3 hm3 hat3)
      have kH3 := kH2.later hm3 (fun e => by have := hlow e; omega)
      have hmod3 := hmod2.trans' (S := fun q => G ≤ q) hm3 (fun _ _ h => h) (fun q hq e => by have := (hown2.lt q e).1; omega)
      go_wp2
      go_roundw
      case rel => exact ⟨j + 1,k2,had.set k1 true,l ++ [k1],by omega,by go_num,congrArg (Value.int .i64) HG.out,hlt2,by simpa using hhl,by omega,kH3,by simpa using hown3,by rw [List.append_assoc]; exact hrest,hmod3⟩
      case measure => simp [intOf]; omega
   ·
    have hj2 : j = n := by omega
    subst hj2
    rw [Nat.sub_self] at hrest
    have hl : l = R := by rw [← hrest]; simp [roundL]
    subst hl
    have hs := Lib.hid (SlV.own hown)
    have hfr := Lib.hid (own_fresh hown)
    have hmm := m2.trans' (S := fun _ => False) hmod (fun _ _ h => h) (fun i hi h => by omega)
    clear hown
    go_wp2
    go_ret
    exact ⟨_,rfl,hmm,hs.out,fun a n c h => by have := hfr.out a n c h; omega⟩
end Go.Proofs.YtfiklfkfbcpmgaaGreat
