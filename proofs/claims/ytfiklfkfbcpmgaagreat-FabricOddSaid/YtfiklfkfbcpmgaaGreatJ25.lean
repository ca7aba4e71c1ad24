/- Parts: FabW FabX FabY. No condition. -/
import Derived.Test.YtfiklfkfbcpmgaaGreatJ24
import Derived.Test.YtfiklfkfbcpmgaaGreatJ10
set_option linter.all false
set_option maxRecDepth 100000
set_option maxHeartbeats 3200000
namespace Go.Proofs.YtfiklfkfbcpmgaaGreat
open Go.RowKit
section
variable {b : Nat} {A : FAddr} {c : Cfg} {v : Value} {f : FabS} {own : Nat→Prop} {w : World}
def idleO (o : Option LinkS) : Bool := match o with | some l => l.idle | none => true
def NodeS.left (c : Cfg) (x : NodeS) : Nat := x.words.length + x.box.waits.length + begN c.Lanes.toNat x.joins 40
theorem quiet_is (x : NodeS) (hc : c.Ok) (hj : x.joins.length = 5 * c.Lanes.toNat) (hl : x.links.length = 5) :
  x.quiet = (decide (x.left c = 0) && x.lanes.all LaneS.idle && (idleO (x.link 0) && idleO (x.link 1) && idleO (x.link 2) && idleO (x.link 3) && idleO (x.link 4))) := by
 have h8 := hc.L2
 have e1 : x.joins.all (fun j => !j.begun) = decide (begN c.Lanes.toNat x.joins 40 = 0) := by
  have := begN_zero c.Lanes.toNat x.joins hj (by omega)
  rw [Bool.eq_iff_iff,decide_eq_true_eq]
  exact this.symm
 have e2 : x.links.all idleO = (idleO (x.link 0) && idleO (x.link 1) && idleO (x.link 2) && idleO (x.link 3) && idleO (x.link 4)) := by
  obtain ⟨ls,hls⟩ : ∃ ls,x.links = ls := ⟨_,rfl⟩
  unfold NodeS.link
  rw [hls] at hl ⊢
  match ls,hl with
  | [a0,a1,a2,a3,a4],_ =>
   simp only [List.all_cons,List.all_nil,Bool.and_true,← Bool.and_assoc]
   rfl
 have e3 : x.quiet = (decide (x.words = []) && decide (x.box.waits.length = 0) && x.joins.all (fun j => !j.begun) && x.lanes.all LaneS.idle && x.links.all idleO) := rfl
 rw [e3,e1,e2]
 have e4 : decide (x.left c = 0) = (decide (x.words = []) && decide (x.box.waits.length = 0) && decide (begN c.Lanes.toNat x.joins 40 = 0)) := by
  unfold NodeS.left
  rw [Bool.eq_iff_iff]
  simp only [decide_eq_true_eq,Bool.and_eq_true,← List.length_eq_zero_iff]
  omega
 rw [e4]
theorem fabric_Quiet (hF : Fam (fabX b A c v f) w own) (hk : FabOk c f) :
  Calls Tryz.prog 15 #[.pointer (some ⟨b,0,none⟩)] w fun e w' => e = .returned (.bool f.quiet)∧Mod (fun _ => False) w w' := by
 obtain ⟨g,o,cc,hv⟩ := fab_slice hF hk.ok.nodes_pos
 subst hv
 have hL1 := hk.ok.L1
 have hL8 := hk.ok.L2
 have hnb := Cfg.nodes_bd c
 have hC := Fam.fcells rfl hF
 have c9 := hC.c9
 have hst0 := Fam.stable (fabX_stable b A c (.slice (some ⟨g,o,none⟩) c.nodes.toNat cc) f)
 have HAT := Lib.hid (fun n (hn : n < c.nodes.toNat) w' (m : Mod (fun _ => False) w w') => (hC.later m).at hn)
 have HLK := Lib.hid (fun n (hn : n < c.nodes.toNat) w' (m : Mod (fun _ => False) w w') p (hp : p < 5) => (by
  rcases hk.linkO hn hp A with ⟨hl,ho⟩ | ⟨y,hl,ho⟩
  ·
   rw [ho]
   have e : idleO (f.link (n : Int) (p : Int)) = true := by rw [hl]; rfl
   rw [e]
   exact (link_idle_nil w').mono fun e w2 h => (⟨h.1,by rw [h.2]; exact Mod.refl _ _⟩ : e = Ending.returned (.bool true)∧Mod (fun _ => False) w' w2)
  ·
   rw [ho]
   have e : idleO (f.link (n : Int) (p : Int)) = y.idle := by rw [hl]; rfl
   rw [e]
   obtain ⟨o1,hR,-,-⟩ := fab_lk (hst0.later hF m (by simp)) hk.len hn hp (hk.ll n hn) hl
   exact (link_idle _ _ _ _ y _ _ hR (hk.lk n p hn hp y hl)).mono fun e w2 h => (⟨h.1,h.2.mod _⟩ : e = Ending.returned (.bool y.idle)∧Mod (fun _ => False) w' w2) : Calls Tryz.prog 48 #[.pointer (linkO A c n p)] w' fun e w2 => e = .returned (.bool (idleO (f.link (n : Int) (p : Int))))∧Mod (fun _ => False) w' w2))
 have HNL := Lib.hid (fun n (hn : n < c.nodes.toNat) w' (m : Mod (fun _ => False) w w') => by
  obtain ⟨o1,hR,-,-⟩ := fab_nic (hst0.later hF m (by simp)) hk.len hn
  exact (nic_left _ _ _ _ _ _ hR).mono fun e w2 h => (⟨h.1,by rw [h.2]; exact Mod.refl _ _⟩ : e = Ending.returned (.int .i64 ((f.at (n : Int)).words.length : Int))∧Mod (fun _ => False) w' w2))
 have HNW := Lib.hid (fun n (hn : n < c.nodes.toNat) w' (m : Mod (fun _ => False) w w') => by
  obtain ⟨o1,hR,-,-⟩ := fab_nic (hst0.later hF m (by simp)) hk.len hn
  exact (nic_waits _ _ _ _ _ _ hR (hk.nc n hn)).mono fun e w2 h => (⟨h.1,by rw [h.2]; exact Mod.refl _ _⟩ : e = Ending.returned (.int .i64 ((f.at (n : Int)).box.waits.length : Int))∧Mod (fun _ => False) w' w2))
 have HNB := Lib.hid (fun n (hn : n < c.nodes.toNat) w' (m : Mod (fun _ => False) w w') => by
  obtain ⟨o1,hR,-,-⟩ := fab_nic (hst0.later hF m (by simp)) hk.len hn
  exact (nic_begun _ _ _ _ _ _ hR (hk.nc n hn) hL1 hL8).mono fun e w2 h => (⟨h.1,h.2⟩ : e = Ending.returned (.int .i64 (begN c.Lanes.toNat (f.at (n : Int)).joins 40 : Int))∧Mod (fun _ => False) w' w2))
 have HNI := Lib.hid (fun n (hn : n < c.nodes.toNat) w' (m : Mod (fun _ => False) w w') => by
  obtain ⟨o1,hR,-,-⟩ := fab_rt (hst0.later hF m (by simp)) hk.len hn
  exact (router_idle _ _ _ _ _ _ hR (hk.rt n hn) hk.ok).mono fun e w2 h => (⟨h.1,h.2.mod _⟩ : e = Ending.returned (.bool ((f.at (n : Int)).lanes.all LaneS.idle))∧Mod (fun _ => False) w' w2))
 have HBD := Lib.hid (fun n (hn : n < c.nodes.toNat) => (⟨(hk.nc n hn).wl,(hk.nc n hn).box.len,begN_le _ _ _⟩ : (f.at (n : Int)).words.length ≤ 1000000∧(f.at (n : Int)).box.waits.length ≤ 268435456∧begN c.Lanes.toNat (f.at (n : Int)).joins 40 ≤ 40))
 have HQ := Lib.hid (fun n (hn : n < c.nodes.toNat) => quiet_is (f.at (n : Int)) hk.ok (hk.nc n hn).jl (hk.ll n hn))
 have HALL := Lib.hid (show f.quiet = true ↔ ∀ n : Nat,n < c.nodes.toNat→(f.at (n : Int)).quiet = true by
  unfold FabS.quiet
  rw [List.all_eq_true]
  constructor
  ·
   intro h n hn
   exact h _ (by unfold FabS.at; rw [Int.toNat_natCast,List.getD_eq_getElem?_getD,List.getElem?_eq_getElem (by rw [hk.len]; exact hn)]; exact List.getElem_mem _)
  ·
   intro h x hx
   obtain ⟨k,hkl,rfl⟩ := List.getElem_of_mem hx
   have := h k (by rw [← hk.len]; exact hkl)
   unfold FabS.at at this
   rw [Int.toNat_natCast,List.getD_eq_getElem?_getD,List.getElem?_eq_getElem hkl] at this
   exact this)
 obtain ⟨N,hN⟩ : ∃ N,c.nodes.toNat = N := ⟨_,rfl⟩
 have hN4 : N ≤ 4096 := by omega
 rw [hN] at c9 HAT HLK HNL HNW HNB HNI HBD HQ HALL
 clear hF hk hC hst0 hN hnb hL1 hL8
 go_enter Tryz.func15,Tryz.ntmps15
 go_wp2
 go_loopw [14] (fun i wr => ∃ n : Nat,n ≤ N∧i = .int .i64 (n : Int)∧Mod (fun _ => False) w wr∧∀ j : Nat,j < n→(f.at (j : Int)).quiet = true) (fun i _ => N - (intOf i).toNat)
 case atStart => exact ⟨0,by omega,rfl,Mod.refl _ _,fun j hj => by omega⟩
 case round =>
  obtain ⟨n,hn,rfl,hm,hall⟩ := hrel
  obtain ⟨wA,rfl⟩ : ∃ wo : World,wo = wr := ⟨_,rfl⟩
  have HA := Lib.hid hall
  clear hall
  by_cases hlt : n < N
  ·
   obtain ⟨l0,l1,l2,l3,l4,l5,l6⟩ := HAT.out n hlt wA hm
   have HL := Lib.hid (fun w' (m : Mod (fun _ => False) wA w') => HNL.out n hlt w' (hm.trans m (by simp)))
   have HW := Lib.hid (fun w' (m : Mod (fun _ => False) wA w') => HNW.out n hlt w' (hm.trans m (by simp)))
   have HB := Lib.hid (fun w' (m : Mod (fun _ => False) wA w') => HNB.out n hlt w' (hm.trans m (by simp)))
   have HI := Lib.hid (fun w' (m : Mod (fun _ => False) wA w') => HNI.out n hlt w' (hm.trans m (by simp)))
   have HK := Lib.hid (fun p (hp : p < 5) w' (m : Mod (fun _ => False) wA w') => HLK.out n hlt w' (hm.trans m (by simp)) p hp)
   have hbd := HBD.out n hlt
   have hq := HQ.out n hlt
   have HLEFT := Lib.hid (show (f.at (n : Int)).left c = (f.at (n : Int)).words.length + (f.at (n : Int)).box.waits.length + begN c.Lanes.toNat (f.at (n : Int)).joins 40 from rfl)
   generalize (f.at (n : Int)).left c = lft at hq HLEFT
   generalize (f.at (n : Int)).words.length = nl at HL hbd HLEFT
   generalize (f.at (n : Int)).box.waits.length = nw at HW hbd HLEFT
   generalize begN c.Lanes.toNat (f.at (n : Int)).joins 40 = nb at HB hbd HLEFT
   generalize (f.at (n : Int)).lanes.all LaneS.idle = id at HI hq
   obtain ⟨lv,hlv⟩ : ∃ lv,linkO A c n = lv := ⟨_,rfl⟩
   rw [hlv] at l2 l3 l4 l5 l6 HK
   obtain ⟨li,hli⟩ : ∃ li : Nat→Bool,(fun p : Nat => idleO (f.link (n : Int) (p : Int))) = li := ⟨_,rfl⟩
   have hli2 : ∀ p : Nat,idleO (f.link (n : Int) (p : Int)) = li p := fun p => congrFun hli p
   have HK := Lib.hid (fun p (hp : p < 5) w' (m : Mod (fun _ => False) wA w') => by
    have := HK.out p hp w' m
    rw [hli2] at this
    exact this)
   have hq2 : (f.at (n : Int)).quiet = (decide (lft = 0) && id && (li 0 && li 1 && li 2 && li 3 && li 4)) := by
    rw [← hli2 0,← hli2 1,← hli2 2,← hli2 3,← hli2 4]
    exact hq
   have HQ2 := Lib.hid hq2
   generalize A.rp n = r0 at l0 HI
   generalize A.np n = r1 at l1 HL HW HB
   have q0 : (0 : Int) ≤ (n : Int) := by omega
   have q1 : (n : Int) < (N : Int) := by omega
   have g1 : IntKind.i64.wrap ((nl : Int) + (nw : Int)) = (nl : Int) + (nw : Int) := IntWalk.i64_in _ (by omega)
   have g2 : IntKind.i64.wrap ((nl : Int) + (nw : Int) + (nb : Int)) = (nl : Int) + (nw : Int) + (nb : Int) := IntWalk.i64_in _ (by omega)
   have kn := Blk.made wA #[.pointer (some ⟨r0,0,none⟩),.pointer (some ⟨r1,0,none⟩),.pointer (lv 0),.pointer (lv 1),.pointer (lv 2),.pointer (lv 3),.pointer (lv 4)] 90
   have mn : Mod (fun _ => False) wA (wA.alloc (.cells #[.pointer (some ⟨r0,0,none⟩),.pointer (some ⟨r1,0,none⟩),.pointer (lv 0),.pointer (lv 1),.pointer (lv 2),.pointer (lv 3),.pointer (lv 4)] 90)) := (Mod.refl _ _).alloc _
   clear hbd hq hq2 hlv hli hli2
   go_upto_region 6 with fail
   generalize wA.alloc (.cells #[.pointer (some ⟨r0,0,none⟩),.pointer (some ⟨r1,0,none⟩),.pointer (lv 0),.pointer (lv 1),.pointer (lv 2),.pointer (lv 3),.pointer (lv 4)] 90) = w3 at kn mn ⊢
   have HS := Lib.hid (fun w' (m : Mod (fun _ => False) w3 w') => And.intro (show w'.cell? ⟨wA.heap.size,0,none⟩ = some (.pointer (some ⟨r0,0,none⟩)) from (kn.later m (by simp)).cell 0) (show w'.cell? ⟨wA.heap.size,1,none⟩ = some (.pointer (some ⟨r1,0,none⟩)) from (kn.later m (by simp)).cell 1))
   have HL := Lib.hid (fun w' (m : Mod (fun _ => False) w3 w') => HL.out w' (mn.trans m (by simp)))
   have HW := Lib.hid (fun w' (m : Mod (fun _ => False) w3 w') => HW.out w' (mn.trans m (by simp)))
   have HB := Lib.hid (fun w' (m : Mod (fun _ => False) w3 w') => HB.out w' (mn.trans m (by simp)))
   have HI := Lib.hid (fun w' (m : Mod (fun _ => False) w3 w') => HI.out w' (mn.trans m (by simp)))
   have HK := Lib.hid (fun p (hp : p < 5) w' (m : Mod (fun _ => False) w3 w') => HK.out p hp w' (mn.trans m (by simp)))
   have hm3 := hm.trans mn (by simp)
   have KN := Lib.hid kn
   clear kn mn hm l0 l1 l2 l3 l4 l5 l6
   have HNODE := Lib.hid (show ∀ p,p < 5→(#[.pointer (some ⟨r0,0,none⟩),.pointer (some ⟨r1,0,none⟩),.pointer (lv 0),.pointer (lv 1),.pointer (lv 2),.pointer (lv 3),.pointer (lv 4)] : Array Value).extract 2 7 = #[.pointer (lv 0),.pointer (lv 1),.pointer (lv 2),.pointer (lv 3),.pointer (lv 4)] from fun _ _ => rfl)
   have HX := Lib.hid (fun (p : Nat) (hp : p < 5) w' => (run_index_one (P := Tryz.prog) w' 88 67 5 _ #[.pointer (lv 0),.pointer (lv 1),.pointer (lv 2),.pointer (lv 3),.pointer (lv 4)] p (.pointer (lv p)) Tryz.underlying88 Tryz.underlying67 rfl (by kernel_rfl) hp (by
    rcases (show p = 0∨p = 1∨p = 2∨p = 3∨p = 4 by omega) with rfl | rfl | rfl | rfl | rfl <;> rfl) : (Instr.index 88 (.agg #[.pointer (lv 0),.pointer (lv 1),.pointer (lv 2),.pointer (lv 3),.pointer (lv 4)]) (.int .i64 (p : Int))).run Tryz.prog w' = .ok (.pointer (lv p)) w'))
   have HM3 := Lib.hid hm3
   by_cases h0 : (nl : Int) + (nw : Int) + (nb : Int) > 0
   ·
    have HQF := Lib.hid (show f.quiet = false by
     rcases hqf : f.quiet with _ | _
     ·
      rfl
     ·
      have := HALL.out.1 hqf n hlt
      rw [HQ2.out,decide_eq_false (by have := HLEFT.out; omega)] at this
      simp at this)
    have q5 : (0 : Int) < (nl : Int) + (nw : Int) + (nb : Int) := h0
    clear h0 hm3
    refine wp_region_quiet_all (fun w' => Mod (fun _ => False) w3 w') (by kernel_rfl) (by kernel_rfl) ?_ ?_
    ·
     exact (Mod.refl _ _).drew
    refine quiet_op ?vvq0_0 rfl ?hvq0_0 ?restq0_0
    case hvq0_0 =>
     intro wx hC
     obtain ⟨n0,n1⟩ := HS.out _ hC
     go_simp
     all_goals first | exact ⟨rfl,rfl⟩ | rfl
    try simp only [Act.put,lyA,lyB,lyC]
    refine quiet_op ?vvq0_1 rfl ?hvq0_1 ?restq0_1
    case hvq0_1 =>
     intro wx hC
     obtain ⟨n0,n1⟩ := HS.out _ hC
     go_simp
     all_goals first | exact ⟨rfl,rfl⟩ | rfl
    try simp only [Act.put,lyA,lyB,lyC]
    refine quiet_op (.int .i64 (nl : Int)) rfl ?hvq0_2 ?restq0_2
    case hvq0_2 =>
     intro wx hC
     obtain ⟨n0,n1⟩ := HS.out _ hC
     go_simp
     refine (HL.out wx hC).mono ?_
     rintro e wy ⟨rfl,my⟩
     exact ⟨rfl,hC.trans my (fun _ _ e => e)⟩
    try simp only [Act.put,lyA,lyB,lyC]
    refine quiet_op ?vvq0_3 rfl ?hvq0_3 ?restq0_3
    case hvq0_3 =>
     intro wx hC
     obtain ⟨n0,n1⟩ := HS.out _ hC
     go_simp
     all_goals first | exact ⟨rfl,rfl⟩ | rfl
    try simp only [Act.put,lyA,lyB,lyC]
    refine quiet_op ?vvq0_4 rfl ?hvq0_4 ?restq0_4
    case hvq0_4 =>
     intro wx hC
     obtain ⟨n0,n1⟩ := HS.out _ hC
     go_simp
     all_goals first | exact ⟨rfl,rfl⟩ | rfl
    try simp only [Act.put,lyA,lyB,lyC]
    refine quiet_op (.int .i64 (nw : Int)) rfl ?hvq0_5 ?restq0_5
    case hvq0_5 =>
     intro wx hC
     obtain ⟨n0,n1⟩ := HS.out _ hC
     go_simp
     refine (HW.out wx hC).mono ?_
     rintro e wy ⟨rfl,my⟩
     exact ⟨rfl,hC.trans my (fun _ _ e => e)⟩
    try simp only [Act.put,lyA,lyB,lyC]
    refine quiet_op ?vvq0_6 rfl ?hvq0_6 ?restq0_6
    case hvq0_6 =>
     intro wx hC
     obtain ⟨n0,n1⟩ := HS.out _ hC
     go_simp
     all_goals first | exact ⟨rfl,rfl⟩ | rfl
    try simp only [Act.put,lyA,lyB,lyC]
    refine quiet_op ?vvq0_7 rfl ?hvq0_7 ?restq0_7
    case hvq0_7 =>
     intro wx hC
     obtain ⟨n0,n1⟩ := HS.out _ hC
     go_simp
     all_goals first | exact ⟨rfl,rfl⟩ | rfl
    try simp only [Act.put,lyA,lyB,lyC]
    refine quiet_op ?vvq0_8 rfl ?hvq0_8 ?restq0_8
    case hvq0_8 =>
     intro wx hC
     obtain ⟨n0,n1⟩ := HS.out _ hC
     go_simp
     all_goals first | exact ⟨rfl,rfl⟩ | rfl
    try simp only [Act.put,lyA,lyB,lyC]
    refine quiet_op (.int .i64 (nb : Int)) rfl ?hvq0_9 ?restq0_9
    case hvq0_9 =>
     intro wx hC
     obtain ⟨n0,n1⟩ := HS.out _ hC
     go_simp
     refine (HB.out wx hC).mono ?_
     rintro e wy ⟨rfl,my⟩
     exact ⟨rfl,hC.trans my (fun _ _ e => e)⟩
    try simp only [Act.put,lyA,lyB,lyC]
    refine quiet_op ?vvq0_10 rfl ?hvq0_10 ?restq0_10
    case hvq0_10 =>
     intro wx hC
     obtain ⟨n0,n1⟩ := HS.out _ hC
     go_simp
     all_goals first | exact ⟨rfl,rfl⟩ | rfl
    try simp only [Act.put,lyA,lyB,lyC]
    refine quiet_op ?vvq0_11 rfl ?hvq0_11 ?restq0_11
    case hvq0_11 =>
     intro wx hC
     obtain ⟨n0,n1⟩ := HS.out _ hC
     go_simp
     all_goals first | exact ⟨rfl,rfl⟩ | rfl
    try simp only [Act.put,lyA,lyB,lyC]
    refine quiet_op ?vvq0_12 rfl ?hvq0_12 ?restq0_12
    case hvq0_12 =>
     intro wx hC
     obtain ⟨n0,n1⟩ := HS.out _ hC
     go_simp
     all_goals first | exact ⟨rfl,rfl⟩ | rfl
    try simp only [Act.put,lyA,lyB,lyC]
    refine quiet_skip (by rfl) ?_
    try simp only [Act.put,lyA,lyB,lyC]
    refine quiet_skip (by rfl) ?_
    try simp only [Act.put,lyA,lyB,lyC]
    refine quiet_skip (by rfl) ?_
    try simp only [Act.put,lyA,lyB,lyC]
    refine quiet_skip (by rfl) ?_
    try simp only [Act.put,lyA,lyB,lyC]
    refine quiet_op ?vvq0_17 rfl ?hvq0_17 ?restq0_17
    case hvq0_17 =>
     intro wx hC
     obtain ⟨n0,n1⟩ := HS.out _ hC
     go_simp
     all_goals first | exact ⟨rfl,rfl⟩ | rfl
    try simp only [Act.put,lyA,lyB,lyC]
    refine wpQuiet_nil ?_
    intro wq hC
    have mF := HM3.out.trans hC (by simp)
    clear hC
    go_wp2
    go_ret
    exact ⟨by rw [HQF.out]; rfl,mF⟩
   ·
    have q5 : ¬ (0 : Int) < (nl : Int) + (nw : Int) + (nb : Int) := h0
    clear h0 hm3
    refine wp_region_quiet_all (fun w' => Mod (fun _ => False) w3 w') (by kernel_rfl) (by kernel_rfl) ?_ ?_
    ·
     exact (Mod.refl _ _).drew
    refine quiet_op ?vvq1_0 rfl ?hvq1_0 ?restq1_0
    case hvq1_0 =>
     intro wx hC
     obtain ⟨n0,n1⟩ := HS.out _ hC
     go_simp
     all_goals first | exact ⟨rfl,rfl⟩ | rfl
    try simp only [Act.put,lyA,lyB,lyC]
    refine quiet_op ?vvq1_1 rfl ?hvq1_1 ?restq1_1
    case hvq1_1 =>
     intro wx hC
     obtain ⟨n0,n1⟩ := HS.out _ hC
     go_simp
     all_goals first | exact ⟨rfl,rfl⟩ | rfl
    try simp only [Act.put,lyA,lyB,lyC]
    refine quiet_op (.int .i64 (nl : Int)) rfl ?hvq1_2 ?restq1_2
    case hvq1_2 =>
     intro wx hC
     obtain ⟨n0,n1⟩ := HS.out _ hC
     go_simp
     refine (HL.out wx hC).mono ?_
     rintro e wy ⟨rfl,my⟩
     exact ⟨rfl,hC.trans my (fun _ _ e => e)⟩
    try simp only [Act.put,lyA,lyB,lyC]
    refine quiet_op ?vvq1_3 rfl ?hvq1_3 ?restq1_3
    case hvq1_3 =>
     intro wx hC
     obtain ⟨n0,n1⟩ := HS.out _ hC
     go_simp
     all_goals first | exact ⟨rfl,rfl⟩ | rfl
    try simp only [Act.put,lyA,lyB,lyC]
    refine quiet_op ?vvq1_4 rfl ?hvq1_4 ?restq1_4
    case hvq1_4 =>
     intro wx hC
     obtain ⟨n0,n1⟩ := HS.out _ hC
     go_simp
     all_goals first | exact ⟨rfl,rfl⟩ | rfl
    try simp only [Act.put,lyA,lyB,lyC]
    refine quiet_op (.int .i64 (nw : Int)) rfl ?hvq1_5 ?restq1_5
    case hvq1_5 =>
     intro wx hC
     obtain ⟨n0,n1⟩ := HS.out _ hC
     go_simp
     refine (HW.out wx hC).mono ?_
     rintro e wy ⟨rfl,my⟩
     exact ⟨rfl,hC.trans my (fun _ _ e => e)⟩
    try simp only [Act.put,lyA,lyB,lyC]
    refine quiet_op ?vvq1_6 rfl ?hvq1_6 ?restq1_6
    case hvq1_6 =>
     intro wx hC
     obtain ⟨n0,n1⟩ := HS.out _ hC
     go_simp
     all_goals first | exact ⟨rfl,rfl⟩ | rfl
    try simp only [Act.put,lyA,lyB,lyC]
    refine quiet_op ?vvq1_7 rfl ?hvq1_7 ?restq1_7
    case hvq1_7 =>
     intro wx hC
     obtain ⟨n0,n1⟩ := HS.out _ hC
     go_simp
     all_goals first | exact ⟨rfl,rfl⟩ | rfl
    try simp only [Act.put,lyA,lyB,lyC]
    refine quiet_op ?vvq1_8 rfl ?hvq1_8 ?restq1_8
    case hvq1_8 =>
     intro wx hC
     obtain ⟨n0,n1⟩ := HS.out _ hC
     go_simp
     all_goals first | exact ⟨rfl,rfl⟩ | rfl
    try simp only [Act.put,lyA,lyB,lyC]
    refine quiet_op (.int .i64 (nb : Int)) rfl ?hvq1_9 ?restq1_9
    case hvq1_9 =>
     intro wx hC
     obtain ⟨n0,n1⟩ := HS.out _ hC
     go_simp
     refine (HB.out wx hC).mono ?_
     rintro e wy ⟨rfl,my⟩
     exact ⟨rfl,hC.trans my (fun _ _ e => e)⟩
    try simp only [Act.put,lyA,lyB,lyC]
    refine quiet_op ?vvq1_10 rfl ?hvq1_10 ?restq1_10
    case hvq1_10 =>
     intro wx hC
     obtain ⟨n0,n1⟩ := HS.out _ hC
     go_simp
     all_goals first | exact ⟨rfl,rfl⟩ | rfl
    try simp only [Act.put,lyA,lyB,lyC]
    refine quiet_op ?vvq1_11 rfl ?hvq1_11 ?restq1_11
    case hvq1_11 =>
     intro wx hC
     obtain ⟨n0,n1⟩ := HS.out _ hC
     go_simp
     all_goals first | exact ⟨rfl,rfl⟩ | rfl
    try simp only [Act.put,lyA,lyB,lyC]
    refine quiet_op ?vvq1_12 rfl ?hvq1_12 ?restq1_12
    case hvq1_12 =>
     intro wx hC
     obtain ⟨n0,n1⟩ := HS.out _ hC
     go_simp
     all_goals first | exact ⟨rfl,rfl⟩ | rfl
    try simp only [Act.put,lyA,lyB,lyC]
    refine quiet_op ?vvq1_13 rfl ?hvq1_13 ?restq1_13
    case hvq1_13 =>
     intro wx hC
     obtain ⟨n0,n1⟩ := HS.out _ hC
     go_simp
     all_goals first | exact ⟨rfl,rfl⟩ | rfl
    try simp only [Act.put,lyA,lyB,lyC]
    refine quiet_op ?vvq1_14 rfl ?hvq1_14 ?restq1_14
    case hvq1_14 =>
     intro wx hC
     obtain ⟨n0,n1⟩ := HS.out _ hC
     go_simp
     all_goals first | exact ⟨rfl,rfl⟩ | rfl
    try simp only [Act.put,lyA,lyB,lyC]
    refine quiet_op (.bool id) rfl ?hvq1_15 ?restq1_15
    case hvq1_15 =>
     intro wx hC
     obtain ⟨n0,n1⟩ := HS.out _ hC
     go_simp
     refine (HI.out wx hC).mono ?_
     rintro e wy ⟨rfl,my⟩
     exact ⟨rfl,hC.trans my (fun _ _ e => e)⟩
    try simp only [Act.put,lyA,lyB,lyC]
    refine quiet_op ?vvq1_16 rfl ?hvq1_16 ?restq1_16
    case hvq1_16 =>
     intro wx hC
     obtain ⟨n0,n1⟩ := HS.out _ hC
     go_simp
     all_goals first | exact ⟨rfl,rfl⟩ | rfl
    try simp only [Act.put,lyA,lyB,lyC]
    refine quiet_op ?vvq1_17 rfl ?hvq1_17 ?restq1_17
    case hvq1_17 =>
     intro wx hC
     obtain ⟨n0,n1⟩ := HS.out _ hC
     go_simp
     all_goals first | exact ⟨rfl,rfl⟩ | rfl
    try simp only [Act.put,lyA,lyB,lyC]
    refine wpQuiet_nil ?_
    intro wq hC
    have mF := HM3.out.trans hC (by simp)
    have HK := Lib.hid (fun p (hp : p < 5) w' (m : Mod (fun _ => False) wq w') => HK.out p hp w' (hC.trans m (by simp)))
    have kq := KN.out.later hC (by simp)
    have HZ := Lib.hid (show nl = 0∧nw = 0∧nb = 0 by omega)
    have n0 := kq.cell 0
    have n1 := kq.cell 1
    have n2 := kq.cell 2
    have n3 := kq.cell 3
    have n4 := kq.cell 4
    have n5 := kq.cell 5
    have n6 := kq.cell 6
    simp at n0 n1 n2 n3 n4 n5 n6
    clear hC kq
    cases hid : id with
    | false =>
     have HQF := Lib.hid (show f.quiet = false by
      rcases hqf : f.quiet with _ | _
      ·
       rfl
      ·
       have := HALL.out.1 hqf n hlt
       rw [HQ2.out,hid] at this
       simp at this)
     subst hid
     go_wp2
     go_ret
     exact ⟨by rw [HQF.out]; rfl,mF⟩
    | true =>
     have HQ3 := Lib.hid (show (f.at (n : Int)).quiet = (li 0 && li 1 && li 2 && li 3 && li 4) by
      have := HLEFT.out
      obtain ⟨z1,z2,z3⟩ := HZ.out
      rw [HQ2.out,hid,decide_eq_true (by omega)]
      simp)
     subst hid
     go_wp2
     go_loopw [38] (fun i wr => ∃ p : Nat,p ≤ 5∧i = .int .i64 (p : Int)∧Mod (fun _ => False) wq wr∧∀ j : Nat,j < p→li j = true) (fun i _ => 5 - (intOf i).toNat)
     case atStart => exact ⟨0,by omega,rfl,Mod.refl _ _,fun j hj => by omega⟩
     case round =>
      obtain ⟨p,hp,rfl,hmq,hlis⟩ := hrel
      obtain ⟨wB,rfl⟩ : ∃ wo : World,wo = wr := ⟨_,rfl⟩
      have HLI := Lib.hid hlis
      clear hlis
      by_cases hp5 : p < 5
      ·
       have hx := HX.out p hp5 wB
       have HKp := Lib.hid (HK.out p hp5 wB hmq)
       have p0 : (0 : Int) ≤ (p : Int) := by omega
       have p1 : (p : Int) < 5 := by omega
       obtain ⟨lp,hlp⟩ : ∃ lp,lv p = lp := ⟨_,rfl⟩
       rw [hlp] at hx HKp
       clear hlp
       go_wp2_with fail
       refine HKp.out.mono ?_
       rintro e w5 ⟨rfl,m5⟩
       have m6 := hmq.trans m5 (by simp)
       cases hlip : li p with
       | false =>
        have HQF := Lib.hid (show f.quiet = false by
         rcases hqf : f.quiet with _ | _
         ·
          rfl
         ·
          have h9 := HALL.out.1 hqf n hlt
          rw [HQ3.out] at h9
          simp only [Bool.and_eq_true] at h9
          obtain ⟨⟨⟨⟨h0,h1⟩,h2⟩,h3⟩,h4⟩ := h9
          rcases (show p = 0∨p = 1∨p = 2∨p = 3∨p = 4 by omega) with rfl | rfl | rfl | rfl | rfl <;> simp_all)
        have mG := mF.trans m6 (by simp)
        clear hlip m5 m6 hmq
        go_wp2
        go_ret
        exact ⟨by rw [HQF.out]; rfl,mG⟩
       | true =>
        have HP := Lib.hid hlip
        clear hlip
        go_wp2
        go_roundw
        case rel => exact ⟨p + 1,by omega,by go_num,m6,fun j hj => by
         rcases Nat.lt_succ_iff_lt_or_eq.1 hj with h | h
         ·
          exact HLI.out j h
         ·
          rw [h]; exact HP.out⟩
        case measure => simp [intOf]; omega
      ·
       have hp6 : p = 5 := by omega
       subst hp6
       have mG := mF.trans hmq (by simp)
       have HQN := Lib.hid (show (f.at (n : Int)).quiet = true by
        rw [HQ3.out,HLI.out 0 (by omega),HLI.out 1 (by omega),HLI.out 2 (by omega),HLI.out 3 (by omega),HLI.out 4 (by omega)]
        rfl)
       go_wp2
       go_roundw
       case rel => exact ⟨n + 1,by omega,by go_num,mG,fun j hj => by
         rcases Nat.lt_succ_iff_lt_or_eq.1 hj with h | h
         ·
          exact HA.out j h
         ·
          rw [h]; exact HQN.out⟩
       case measure => simp [intOf]; omega
  ·
   have hn2 : n = N := by omega
   subst hn2
   have HQT := Lib.hid (show f.quiet = true from HALL.out.2 HA.out)
   go_wp2
   go_ret
   exact ⟨by rw [HQT.out]; rfl,hm⟩
end
open Go.RowKit
section
variable {α : Type} {enc enc' : α→List Value} {sz : Nat} {T : TypeId}
theorem Que.congr {v : Value} {xs : List α} (h : ∀ x ∈ xs,enc x = enc' x) : Que enc sz T v xs = Que enc' sz T v xs := by
 have key : ∀ (e1 e2 : α→List Value),(∀ x ∈ xs,e1 x = e2 x)→∀ w own,Que e1 sz T v xs w own→Que e2 sz T v xs w own := by
  intro e1 e2 h w own hq
  rcases hq with hq | ⟨g,o,n,cp,cur,hv,hb,h1,h2,h3,h4,h5,ho⟩
  ·
   exact Or.inl hq
  ·
   exact Or.inr ⟨g,o,n,cp,cur,hv,hb,h1,h2,h3,h4,fun j x hx t ht => by rw [h5 j x hx t ht,h x (List.mem_of_getElem? hx)],ho⟩
 funext w own
 exact propext ⟨key _ _ h w own,key _ _ (fun x hx => (h x hx).symm) w own⟩
theorem Que.setIn {a : Option Addr} {n cc : Nat} {xs : List α} {w : World} {own : Nat→Prop} (h : Que enc sz T (.slice a n cc) xs w own) {j : Nat} {x : α} (hj : xs[j]? = some x) {t : Nat} (ht : t < sz) (u : Value)
  (he : ∀ i y,xs[i]? = some y→∀ s,s < sz→(enc' y)[s]? = if i = j∧s = t then some u else (enc y)[s]?) :
  ∃ g o,a = some ⟨g,o,none⟩∧w.frozen? ⟨g,o + j * sz + t,none⟩ = false∧(∃ v0,w.cell? ⟨g,o + j * sz + t,none⟩ = some v0)∧Turn own (Que enc' sz T (.slice a n cc) xs) w (w.setCell ⟨g,o + j * sz + t,none⟩ u) := by
 rcases h with ⟨-,rfl,-⟩ | ⟨g,o,n',cp,cur,hval,hb,h1,h2,h3,h4,h5,ho⟩
 ·
  simp at hj
 ·
  simp only [Value.slice.injEq] at hval
  obtain ⟨rfl,rfl,rfl⟩ := hval
  have hjl := (List.getElem?_eq_some_iff.1 hj).1
  have hlt : o + j * sz + t < cur.size := by
   have e1 : (j + 1) * sz ≤ cc * sz := Nat.mul_le_mul_right _ (by omega)
   rw [Nat.succ_mul] at e1
   omega
  refine ⟨g,o,rfl,hb.fz _,?_,own,Or.inr ⟨g,o,n,cc,cur.setIfInBounds (o + j * sz + t) u,rfl,hb.set _ _,h1,h2,h3,by simpa using h4,fun i y hi s hs => ?_,ho⟩,(Mod.refl own w).setCell (Or.inl ((ho g).2 rfl)) u,fun k hk => Or.inl hk⟩
  ·
   rw [hb.cell,Array.getElem?_eq_getElem hlt]
   exact ⟨_,rfl⟩
  ·
   rw [he i y hi s hs]
   by_cases hc : i = j∧s = t
   ·
    obtain ⟨rfl,rfl⟩ := hc
    rw [if_pos ⟨rfl,rfl⟩]
    simp [hlt]
   ·
    rw [if_neg hc,← h5 i y hi s hs,Array.getElem?_setIfInBounds_ne]
    intro e
    apply hc
    have hz : 0 < sz := by omega
    have e2 : j * sz + t = i * sz + s := by omega
    have d1 : (j * sz + t) / sz = j := by rw [Nat.mul_comm,Nat.mul_add_div hz,Nat.div_eq_of_lt ht,Nat.add_zero]
    have d2 : (i * sz + s) / sz = i := by rw [Nat.mul_comm,Nat.mul_add_div hz,Nat.div_eq_of_lt hs,Nat.add_zero]
    have d3 : i = j := by rw [← d1,← d2,e2]
    subst d3
    exact ⟨rfl,by omega⟩
end
def encPr (x : Int × Int) : List Value := [.int .i64 x.1,.int .i64 x.2]
def lkO (A : FAddr) (d : Nat→Nat→Bool) (n p : Nat) : Option Addr := if d n p = true then some ⟨A.lk n p,0,none⟩ else none
def encS (A : FAddr) (d : Nat→Nat→Bool) (n : Nat) : List Value := [.pointer (some ⟨A.rp n,0,none⟩),.pointer (some ⟨A.np n,0,none⟩),.pointer (lkO A d n 0),.pointer (lkO A d n 1),.pointer (lkO A d n 2),.pointer (lkO A d n 3),.pointer (lkO A d n 4)]
def newRt (c : Cfg) : RouterS := ⟨List.replicate (5 * c.Lanes.toNat) LaneS.new,List.replicate (5 * c.Lanes.toNat) (-1),List.replicate 5 (-1),List.replicate 5 (-1)⟩
def newNc (c : Cfg) : NicS := ⟨[],0,List.replicate (5 * c.Lanes.toNat) JoinS.new,BoxS.new⟩
def stgF (b : Nat) (A : FAddr) (c : Cfg) (v : Value) (k : Nat) (d : Nat→Nat→Bool) : FP→Rep
 | .blk => Cells b (fabCells c v 0) 87
 | .nodes => Que (encS A d) 7 90 v (List.range k)
 | .rt n => if n < k then RouterAt (A.rp n) c (n : Int) (newRt c) else Emp
 | .nic n => if n < k then NicAt (A.np n) c (n : Int) (newNc c) else Emp
 | .link n p => if d n p = true then LinkAt (A.lk n p) c.Lanes.toNat c.Depth.toNat c.Ring.toNat (LinkS.new c) else Emp
theorem stgF_stable (b : Nat) (A : FAddr) (c : Cfg) (v : Value) (k : Nat) (d : Nat→Nat→Bool) (i : FP) : Stable (stgF b A c v k d i) := by
 have e := Emp.stable
 cases i
 ·
  exact Cells.stable _ _ _
 ·
  exact Que.stable _ _
 ·
  exact stable_ite (RouterAt.stable _ _ _ _) e
 ·
  exact stable_ite (NicAt.stable _ _ _ _) e
 ·
  exact stable_ite (LinkAt.stable _ _ _ _ _) e
theorem encS_congr {A B : FAddr} {d d' : Nat→Nat→Bool} {n : Nat} (h1 : A.rp n = B.rp n) (h2 : A.np n = B.np n) (h3 : ∀ p,p < 5→lkO A d n p = lkO B d' n p) : encS A d n = encS B d' n := by
 unfold encS
 rw [h1,h2,h3 0 (by decide),h3 1 (by decide),h3 2 (by decide),h3 3 (by decide),h3 4 (by decide)]
theorem encS_at (A : FAddr) (d : Nat→Nat→Bool) (n p : Nat) (hp : p < 5) : (encS A d n)[2 + p]? = some (.pointer (lkO A d n p)) := by
 rcases (show p = 0∨p = 1∨p = 2∨p = 3∨p = 4 by omega) with rfl | rfl | rfl | rfl | rfl <;> rfl
def dNo : Nat→Nat→Bool := fun _ _ => false
theorem stgF_zero (b : Nat) (A : FAddr) (c : Cfg) : upd (upd (fun _ => Emp) .blk (Cells b (fabCells c (.slice none 0 0) 0) 87)) .nodes (Que (encS A dNo) 7 90 (.slice none 0 0) []) = stgF b A c (.slice none 0 0) 0 dNo := by
 funext i
 cases i <;> simp [upd,stgF,dNo]
def FAddr.more (A : FAddr) (k x y : Nat) : FAddr := ⟨fnu A.rp k x,fnu A.np k y,A.lk⟩
theorem encS_more {A : FAddr} {d : Nat→Nat→Bool} {k x y n : Nat} (h : n ≠ k) : encS (A.more k x y) d n = encS A d n :=
 encS_congr (fnu_other h) (fnu_other h) (fun _ _ => rfl)
theorem stgF_node (b : Nat) (A : FAddr) (c : Cfg) (v v' : Value) (k x y : Nat) :
  upd (upd (upd (upd (stgF b A c v k dNo) (.rt k) (RouterAt x c (k : Int) (newRt c))) (.nic k) (NicAt y c (k : Int) (newNc c))) .nodes (Que (encS (A.more k x y) dNo) 7 90 v' (List.range k ++ [k]))) .blk (Cells b (fabCells c v' 0) 87)
  = stgF b (A.more k x y) c v' (k + 1) dNo := by
 funext i
 cases i with
 | blk => rfl
 | nodes =>
  show _ = Que (encS (A.more k x y) dNo) 7 90 v' (List.range (k + 1))
  rw [List.range_succ]
  rfl
 | rt n =>
  show upd _ _ _ _ = (if n < k + 1 then RouterAt (fnu A.rp k x n) c (n : Int) (newRt c) else Emp)
  by_cases h : n = k
  ·
   subst h
   rw [fnu_same]
   simp [upd]
  ·
   rw [fnu_other h]
   by_cases h2 : n < k
   ·
    simp [upd,h,stgF,h2,show n < k + 1 by omega]
   ·
    simp [upd,h,stgF,h2,show ¬ n < k + 1 by omega]
 | nic n =>
  show upd _ _ _ _ = (if n < k + 1 then NicAt (fnu A.np k y n) c (n : Int) (newNc c) else Emp)
  by_cases h : n = k
  ·
   subst h
   rw [fnu_same]
   simp [upd]
  ·
   rw [fnu_other h]
   by_cases h2 : n < k
   ·
    simp [upd,h,stgF,h2,show n < k + 1 by omega]
   ·
    simp [upd,h,stgF,h2,show ¬ n < k + 1 by omega]
 | link n p => simp [upd,stgF,dNo]
def FAddr.moreL (A : FAddr) (n p x : Nat) : FAddr := ⟨A.rp,A.np,fun m q => if m = n∧q = p then x else A.lk m q⟩
def dMore (d : Nat→Nat→Bool) (n p : Nat) : Nat→Nat→Bool := fun m q => d m q || (decide (m = n) && decide (q = p))
theorem lkO_more {A : FAddr} {d : Nat→Nat→Bool} {n p x : Nat} (m q : Nat) : lkO (A.moreL n p x) (dMore d n p) m q = if m = n∧q = p then some ⟨x,0,none⟩ else lkO A d m q := by
 unfold lkO dMore FAddr.moreL
 by_cases h : m = n∧q = p
 ·
  obtain ⟨rfl,rfl⟩ := h
  simp
 ·
  rw [if_neg h]
  have e : (d m q || (decide (m = n) && decide (q = p))) = d m q := by
   rcases hd : d m q with _ | _
   ·
    simp only [Bool.false_or,Bool.and_eq_false_iff,decide_eq_false_iff_not]
    by_cases h1 : m = n
    ·
     exact Or.inr (fun h2 => h ⟨h1,h2⟩)
    ·
     exact Or.inl h1
   ·
    rfl
  simp only [e,if_neg h]
theorem stgF_link (b : Nat) (A : FAddr) (c : Cfg) (v : Value) (d : Nat→Nat→Bool) (N n p x : Nat) :
  upd (upd (stgF b A c v N d) (.link n p) (LinkAt x c.Lanes.toNat c.Depth.toNat c.Ring.toNat (LinkS.new c))) .nodes (Que (encS (A.moreL n p x) (dMore d n p)) 7 90 v (List.range N)) = stgF b (A.moreL n p x) c v N (dMore d n p) := by
 funext i
 cases i with
 | blk => rfl
 | nodes => rfl
 | rt m => rfl
 | nic m => rfl
 | link m q =>
  show upd _ _ _ _ = (if dMore d n p m q = true then LinkAt (if m = n∧q = p then x else A.lk m q) _ _ _ _ else Emp)
  by_cases h : m = n∧q = p
  ·
   obtain ⟨rfl,rfl⟩ := h
   simp [upd,dMore]
  ·
   have e : dMore d n p m q = d m q := by
    unfold dMore
    rcases hd : d m q with _ | _
    ·
     simp only [Bool.false_or,Bool.and_eq_false_iff,decide_eq_false_iff_not]
     by_cases h1 : m = n
     ·
      exact Or.inr (fun h2 => h ⟨h1,h2⟩)
     ·
      exact Or.inl h1
    ·
     rfl
   have hne : ¬ (FP.link m q = FP.link n p) := fun e => h (by cases e; exact ⟨rfl,rfl⟩)
   rw [e,if_neg h]
   simp [upd,hne,stgF]
def Cfg.links (c : Cfg) : List (Int × Int) := (List.range c.nodes.toNat).flatMap fun (n : Nat) => (c.ports (n : Int)).map fun p => ((n : Int),p)
theorem ports_mem {c : Cfg} {n p : Int} : p ∈ c.ports n ↔ 1 ≤ p∧p ≤ 4∧c.besB n p = true := by
 rw [Cfg.mem_ports]
 constructor
 ·
  rintro ⟨h,hb⟩
  exact ⟨by omega,by omega,hb⟩
 ·
  rintro ⟨h1,h2,hb⟩
  exact ⟨by omega,hb⟩
theorem links_mem {c : Cfg} {x : Int × Int} : x ∈ c.links ↔ ∃ n p : Nat,x = ((n : Int),(p : Int))∧n < c.nodes.toNat∧1 ≤ p∧p < 5∧c.besB (n : Int) (p : Int) = true := by
 unfold Cfg.links
 rw [List.mem_flatMap]
 constructor
 ·
  rintro ⟨n,hn,hx⟩
  obtain ⟨p,hp,rfl⟩ := List.mem_map.1 hx
  obtain ⟨h1,h2,h3⟩ := ports_mem.1 hp
  obtain ⟨q,rfl⟩ := Int.eq_ofNat_of_zero_le (show 0 ≤ p by omega)
  exact ⟨n,q,rfl,List.mem_range.1 hn,by omega,by omega,h3⟩
 ·
  rintro ⟨n,p,rfl,hn,h1,h5,hb⟩
  exact ⟨n,List.mem_range.2 hn,List.mem_map.2 ⟨(p : Int),ports_mem.2 ⟨by omega,by omega,hb⟩,rfl⟩⟩
theorem links_nodup (c : Cfg) : c.links.Nodup := by
 unfold Cfg.links
 have key : ∀ l : List Nat,l.Nodup→(l.flatMap fun (n : Nat) => (c.ports (n : Int)).map fun p => ((n : Int),p)).Nodup := by
  intro l
  induction l with
  | nil => intro _; exact List.nodup_nil
  | cons a l ih =>
   intro h
   rw [List.nodup_cons] at h
   rw [List.flatMap_cons,List.nodup_append]
   refine ⟨?_,ih h.2,?_⟩
   ·
    unfold Cfg.ports
    refine List.Pairwise.map _ ?_ (List.Pairwise.filter _ (by decide : [1,2,3,4].Pairwise (fun (a b : Int) => a ≠ b)))
    intro x y hxy e
    exact hxy (Prod.mk.inj e).2
   ·
    intro x hx y hy e
    obtain ⟨p,-,rfl⟩ := List.mem_map.1 hx
    obtain ⟨m,hm,hy⟩ := List.mem_flatMap.1 hy
    obtain ⟨q,-,rfl⟩ := List.mem_map.1 hy
    have : (a : Int) = (m : Int) := (Prod.mk.inj e).1
    have : a = m := by omega
    exact h.1 (this ▸ hm)
 exact key _ List.nodup_range
theorem links_len (c : Cfg) : c.links.length ≤ 4 * c.nodes.toNat := by
 unfold Cfg.links
 have key : ∀ l : List Nat,(l.flatMap fun (n : Nat) => (c.ports (n : Int)).map fun p => ((n : Int),p)).length ≤ 4 * l.length := by
  intro l
  induction l with
  | nil => simp
  | cons a l ih =>
   have h1 : (c.ports (a : Int)).length ≤ 4 := by
    unfold Cfg.ports
    exact Nat.le_trans (List.length_filter_le _ _) (by decide)
   rw [List.flatMap_cons,List.length_append,List.length_map,List.length_cons]
   omega
 have := key (List.range c.nodes.toNat)
 rw [List.length_range] at this
 exact this
def dOf (l : List (Int × Int)) : Nat→Nat→Bool := fun n p => decide (((n : Int),(p : Int)) ∈ l)
theorem dOf_nil : dOf [] = dNo := by
 funext n p
 simp [dOf,dNo]
theorem dOf_more (l : List (Int × Int)) (n p : Nat) : dOf (l ++ [((n : Int),(p : Int))]) = dMore (dOf l) n p := by
 funext m q
 unfold dOf dMore
 rw [Bool.eq_iff_iff]
 simp only [List.mem_append,List.mem_singleton,Prod.mk.injEq,Bool.or_eq_true,Bool.and_eq_true,decide_eq_true_eq,Int.ofNat_inj]
theorem new_at {c : Cfg} {n : Nat} (hn : n < c.nodes.toNat) : (FabS.new c).at (n : Int) = NodeS.new c (n : Int) := by
 unfold FabS.at FabS.new
 simp [List.getD_eq_getElem?_getD,hn]
theorem new_link {c : Cfg} {n p : Nat} (hp : p < 5) : (NodeS.new c (n : Int)).link (p : Int) = if 1 ≤ p∧c.besB (n : Int) (p : Int) = true then some (LinkS.new c) else none := by
 unfold NodeS.link NodeS.new
 simp [List.getD_eq_getElem?_getD,hp]
theorem lanes5 {c : Cfg} (h : 0 ≤ c.Lanes) : (5 * c.Lanes).toNat = 5 * c.Lanes.toNat := by omega
theorem stgF_all {b : Nat} {A : FAddr} {c : Cfg} {v : Value} (hc : c.Ok) : stgF b A c v c.nodes.toNat (dOf c.links) = fabX b A c v (FabS.new c) := by
 have hd : ∀ n p,dOf c.links n p = decide (n < c.nodes.toNat∧p < 5∧1 ≤ p∧c.besB (n : Int) (p : Int) = true) := by
  intro n p
  unfold dOf
  rw [Bool.eq_iff_iff,decide_eq_true_eq,decide_eq_true_eq,links_mem]
  constructor
  ·
   rintro ⟨m,q,e,h1,h2,h3,h4⟩
   have e1 : n = m := by have := (Prod.mk.inj e).1; omega
   have e2 : p = q := by have := (Prod.mk.inj e).2; omega
   subst e1 e2
   exact ⟨h1,h3,h2,h4⟩
  ·
   rintro ⟨h1,h2,h3,h4⟩
   exact ⟨n,p,rfl,h1,h3,h2,h4⟩
 have hL := hc.L1
 funext i
 cases i with
 | blk => rfl
 | nodes =>
  refine Que.congr fun n hn => ?_
  have hnN := List.mem_range.1 hn
  have hl : ∀ p,p < 5→lkO A (dOf c.links) n p = linkO A c n p := by
   intro p hp
   unfold lkO linkO
   rw [hd]
   simp only [decide_eq_true_eq]
   by_cases h : 1 ≤ p∧c.besB (n : Int) (p : Int) = true
   ·
    rw [if_pos ⟨hnN,hp,h⟩,if_pos h]
   ·
    rw [if_neg (fun e => h e.2.2),if_neg h]
  unfold encS encN
  rw [hl 0 (by decide),hl 1 (by decide),hl 2 (by decide),hl 3 (by decide),hl 4 (by decide)]
 | rt n =>
  show (if n < c.nodes.toNat then _ else Emp) = (if n < c.nodes.toNat then _ else Emp)
  by_cases h : n < c.nodes.toNat
  ·
   rw [if_pos h,if_pos h,new_at h]
   unfold newRt NodeS.rt NodeS.new
   rw [lanes5 (by omega)]
  ·
   rw [if_neg h,if_neg h]
 | nic n =>
  show (if n < c.nodes.toNat then _ else Emp) = (if n < c.nodes.toNat then _ else Emp)
  by_cases h : n < c.nodes.toNat
  ·
   rw [if_pos h,if_pos h,new_at h]
   unfold newNc NodeS.nc NodeS.new
   rw [lanes5 (by omega)]
  ·
   rw [if_neg h,if_neg h]
 | link n p =>
  show (if dOf c.links n p = true then _ else Emp) = (if n < c.nodes.toNat∧p < 5 then (match ((FabS.new c).at (n : Int)).link (p : Int) with | some l => LinkAt (A.lk n p) c.Lanes.toNat c.Depth.toNat c.Ring.toNat l | none => Emp) else Emp)
  rw [hd]
  simp only [decide_eq_true_eq]
  by_cases h : n < c.nodes.toNat∧p < 5
  ·
   rw [if_pos h,new_at h.1,new_link h.2]
   by_cases h2 : 1 ≤ p∧c.besB (n : Int) (p : Int) = true
   ·
    rw [if_pos ⟨h.1,h.2,h2⟩,if_pos h2]
   ·
    rw [if_neg (fun e => h2 e.2.2),if_neg h2]
  ·
   rw [if_neg h,if_neg (fun e => h ⟨e.1,e.2.1⟩)]
theorem FabOk.new {c : Cfg} (hc : c.Ok) : FabOk c (FabS.new c) := by
 have hL := hc.L1
 have hL8 := hc.L2
 have hD := hc.D1
 have hD2 := hc.D2
 have hR := hc.R1
 have hR2 := hc.R2
 have hat : ∀ n : Nat,n < c.nodes.toNat→(FabS.new c).at (n : Int) = NodeS.new c (n : Int) := fun n hn => new_at hn
 have hlk : LinkOk c.Lanes.toNat c.Depth.toNat c.Ring.toNat (LinkS.new c) := by
  refine ⟨by simp [LinkS.new],by simp [LinkS.new],by omega,by omega,by omega,by omega,by omega,by omega,fun k hk => ?_,fun k hk => ?_,fun x hx => by simp [LinkS.new] at hx,fun x hx => by simp [LinkS.new] at hx,fun k hk => ?_⟩
  ·
   simp [LinkS.new,List.getD_eq_getElem?_getD,List.getElem?_replicate,hk]; omega
  ·
   simp [LinkS.new,List.getD_eq_getElem?_getD,List.getElem?_replicate,hk]
  ·
   simp [LinkS.new,List.getD_eq_getElem?_getD,List.getElem?_replicate,hk]; omega
 refine ⟨hc,by simp [FabS.new],fun n hn => ?_,fun n hn => ?_,fun n hn => ?_,fun n p hn hp l hl => ?_,fun n p hn hp => ?_,by simp [FabS.new]⟩
 ·
  rw [hat n hn]
  refine ⟨by simp [NodeS.rt,NodeS.new]; omega,by simp [NodeS.rt,NodeS.new]; omega,by simp [NodeS.rt,NodeS.new],by simp [NodeS.rt,NodeS.new],fun y hy => ?_,fun x hx => ?_,fun x hx => ?_⟩
  ·
   have : y = LaneS.new := List.eq_of_mem_replicate hy
   rw [this]
   exact LaneOk.new hc
  ·
   have : x = -1 := List.eq_of_mem_replicate hx
   omega
  ·
   have : x = -1 := List.eq_of_mem_replicate hx
   omega
 ·
  rw [hat n hn]
  refine ⟨by simp [NodeS.nc,NodeS.new]; omega,fun j hj => ?_,⟨by simp [NodeS.nc,NodeS.new,BoxS.new],fun p hp => by simp [NodeS.nc,NodeS.new,BoxS.new] at hp,fun i => by simp [NodeS.nc,NodeS.new,BoxS.new,BoxS.nx]⟩,by simp [NodeS.nc,NodeS.new],fun x hx => by simp [NodeS.nc,NodeS.new] at hx,by simp [NodeS.nc,NodeS.new]⟩
  have : j = JoinS.new := List.eq_of_mem_replicate hj
  rw [this]
  exact JoinOk.new
 ·
  rw [hat n hn]
  simp [NodeS.new]
 ·
  rw [hat n hn,new_link hp] at hl
  split at hl
  ·
   cases hl
   exact hlk
  ·
   cases hl
 ·
  rw [hat n hn,new_link hp]
  split
  ·
   rename_i h
   rw [decide_eq_true h]
   rfl
  ·
   rename_i h
   rw [decide_eq_false h]
   rfl
open Go.RowKit
theorem info_pr : (Tryz.prog.info? 112).map (fun i => (i.zero,i.size,i.bytes)) = some (some (.agg #[.int .i64 0,.int .i64 0]),2,16) := by kernel_rfl
def Cfg.linksTo (c : Cfg) (k : Nat) : List (Int × Int) := (List.range k).flatMap fun (n : Nat) => (c.ports (n : Int)).map fun p => ((n : Int),p)
theorem linksTo_succ (c : Cfg) (k : Nat) : c.linksTo (k + 1) = c.linksTo k ++ (c.ports (k : Int)).map fun p => ((k : Int),p) := by
 unfold Cfg.linksTo
 rw [List.range_succ,List.flatMap_append,List.flatMap_singleton]
theorem linksTo_len (c : Cfg) (k : Nat) : (c.linksTo k).length ≤ 4 * k := by
 induction k with
 | zero => simp [Cfg.linksTo]
 | succ k ih =>
  have h1 : (c.ports (k : Int)).length ≤ 4 := by
   unfold Cfg.ports
   exact Nat.le_trans (List.length_filter_le _ _) (by decide)
  rw [linksTo_succ,List.length_append,List.length_map]
  omega
theorem grid_Links (c : Cfg) (w : World) :
  Calls Tryz.prog 75 #[.agg c.cells] w fun e w' => ∃ v,e = .returned v∧Made (Que encPr 2 112 v c.links) w w' := by
 have kb := Blk.made w c.cells 23
 have m0 : Mod (fun _ => False) w (w.alloc (.cells c.cells 23)) := (Mod.refl _ _).alloc _
 have HN := Lib.hid (fun w => run_Nodes c w)
 have hnb := Cfg.nodes_bd c
 have HP := Lib.hid (fun (n : Int) w => run_PortsF c n w)
 simp only [Cfg.cells] at kb m0 HN HP ⊢
 have hs0 : w.heap.size < (w.alloc (.cells #[.int .i64 c.W,.int .i64 c.H,.int .i64 c.Lanes,.int .i64 c.Depth,.int .i64 c.Ring,.int .i64 c.Inbox,.int .i64 c.Bound,.bool c.West,.bool c.Cast] 23)).heap.size := by simp
 obtain ⟨N,hN⟩ := Int.eq_ofNat_of_zero_le hnb.1
 have HLL := Lib.hid (show c.linksTo N = c.links by unfold Cfg.links Cfg.linksTo; rw [hN]; rfl)
 rw [hN] at HN hnb
 clear hN
 go_enter Tryz.func75,Tryz.ntmps75
 go_upto_region 1 with fail
 generalize w.alloc (.cells #[.int .i64 c.W,.int .i64 c.H,.int .i64 c.Lanes,.int .i64 c.Depth,.int .i64 c.Ring,.int .i64 c.Inbox,.int .i64 c.Bound,.bool c.West,.bool c.Cast] 23) = w0 at kb m0 hs0 ⊢
 obtain ⟨c0,c1,c2,c3,c4,c5,c6,c7,c8⟩ := cfg_cells kb
 go_wp2_with fail
 refine (HN.out _).mono ?_
 rintro e w1 ⟨rfl,m1⟩
 have kb1 := kb.later m1 (by simp)
 have m01 := m0.trans m1 (by simp)
 have hs1 := m1.size
 clear c0 c1 c2 c3 c4 c5 c6 c7 c8 kb m0 m1 HN
 go_wp2
 go_loopw [3,9] (fun z i wr => ∃ k : Nat,k ≤ N∧i = .int .i64 (k : Int)∧wr.ownsRow w1.heap.size 112 2 z (c.linksTo k).length ((c.linksTo k).flatMap encPr)∧Mod (fun _ => False) w1 wr) (fun _ i _ => N - (intOf i).toNat)
 case atStart => exact ⟨0,by omega,rfl,World.ownsRow_nil _ _ _ _,Mod.refl _ _⟩
 case round =>
  obtain ⟨k,hk,rfl,hown,hmod⟩ := hrel
  obtain ⟨wA,rfl⟩ : ∃ wo : World,wo = wr := ⟨_,rfl⟩
  have hsz := hmod.size
  by_cases hlt : k < N
  ·
   have kb2 := kb1.later hmod (by simp)
   obtain ⟨c0,c1,c2,c3,c4,c5,c6,c7,c8⟩ := cfg_cells kb2
   go_wp2_with fail
   refine (HP.out _ _).mono ?_
   rintro e w2 ⟨vp,rfl,m2,hsl,hfr⟩
   have hown2 := hown.kept (row := none) ⟨m2.os,m2.tape,m2.output,m2.size,fun q hq _ => m2.block q hq (by simp)⟩ (by cases hv : Value.ownBlock _ <;> simp)
   have hlo := fun q e => (hown.lt q e).2
   have hmod2 := hmod.trans m2 (by simp)
   have hsz2 := m2.size
   obtain ⟨ap,np,cp,rfl,hn,hnc,hcm,hrow⟩ := id hsl
   rw [List.length_map] at hn
   have hll := linksTo_len c k
   have hpl : np ≤ 4 := by
    rw [← hn]
    unfold Cfg.ports
    exact Nat.le_trans (List.length_filter_le _ _) (by decide)
   obtain ⟨ps,hps⟩ : ∃ ps,c.ports (k : Int) = ps := ⟨_,rfl⟩
   have HSUC := Lib.hid (linksTo_succ c k)
   rw [hps] at hn hsl HSUC
   have HSL := Lib.hid hsl
   have HFR := Lib.hid hfr
   have HLO := Lib.hid hlo
   obtain ⟨pre,hpre⟩ : ∃ pre,c.linksTo k = pre := ⟨_,rfl⟩
   rw [hpre] at hown2 hll HSUC
   clear c0 c1 c2 c3 c4 c5 c6 c7 c8 kb2 hown hmod m2 hsl hrow hfr hlo hps hpre
   go_wp2
   go_loopw [3,16] (fun z i wr => ∃ j : Nat,j ≤ np∧i = .int .i64 (j : Int)∧wr.ownsRow w1.heap.size 112 2 z (pre ++ (ps.take j).map fun p => ((k : Int),p)).length ((pre ++ (ps.take j).map fun p => ((k : Int),p)).flatMap encPr)∧Mod (fun _ => False) w1 wr∧SlV wr (.slice ap np cp) (ps.map (Value.int .i64))∧∀ q,z.ownBlock = some q→∀ a,ap = some a→a.block ≠ q) (fun _ i _ => np - (intOf i).toNat)
   case atStart => exact ⟨0,by omega,rfl,by simpa using hown2,hmod2,HSL.out,fun q hq a ha e => by
    have h1 := HFR.out a.block (by rw [ha]; rfl)
    have h2 := HLO.out q hq
    omega⟩
   case round =>
    clear hmod2 hown2
    obtain ⟨j,hj,rfl,hown,hmod,hsl,hne⟩ := hrel
    obtain ⟨wB,rfl⟩ : ∃ wo : World,wo = wr := ⟨_,rfl⟩
    have hszB := hmod.size
    by_cases hjl : j < np
    ·
     obtain ⟨B,off,hap,hB,hcell⟩ := SlV.at hsl j hjl
     rw [List.getD_eq_getElem?_getD,List.getElem?_map,List.getElem?_eq_getElem (by omega),Option.map_some,Option.getD_some] at hcell
     have HE := Lib.hid (show ps.take (j + 1) = ps.take j ++ [ps[j]'(by omega)] from List.take_succ_eq_append_getElem (by omega))
     subst hap
     generalize ps[j] = p at hcell HE
     have i0 : (0 : Int) ≤ (j : Int) := by omega
     have i1 : (j : Int) < (np : Int) := by omega
     have htl : (ps.take j).length = j := by rw [List.length_take]; omega
     have hlen : (pre ++ (ps.take j).map fun p => ((k : Int),p)).length = pre.length + j := by rw [List.length_append,List.length_map,htl]
     have hlow := fun q e => (hown.lt q e).1
     have HSL2 := Lib.hid hsl
     have HNE := Lib.hid hne
     obtain ⟨cur,hcur⟩ : ∃ cur,pre ++ (ps.take j).map (fun p => ((k : Int),p)) = cur := ⟨_,rfl⟩
     have HCUR := Lib.hid (show pre ++ (ps.take (j + 1)).map (fun p => ((k : Int),p)) = cur ++ [((k : Int),p)] by rw [HE.out,List.map_append,← List.append_assoc,hcur]; rfl)
     rw [hcur] at hown hlen
     replace hlen := Nat.le_of_eq hlen
     clear hsl hne hcur htl
     go_wp2_with (at_builtin; refine wpList_appendE rfl _ _ 110 rfl w1.heap.size 112 (.agg #[.int .i64 0,.int .i64 0]) 2 16 Tryz.underlying110 info_pr rfl (by decide) _ _ _ rfl hown #[_,_] rfl rfl (by simp [Value.oneCell']) (by unfold maxLen; omega) (by omega) (by omega) ?_; intro g cap wz hown3 hm3 hat3)
     have hmod3 := hmod.trans' (S := fun _ => False) hm3 (fun _ _ h => h) (fun i hi hs => absurd hi (Nat.not_lt_of_le (hlow i hs)))
     have hsl3 := HSL2.out.later hm3 (fun a' n' c' e hs => by
      simp only [Value.slice.injEq] at e
      exact HNE.out _ hs ⟨B,off,none⟩ rfl (by rw [Option.some.inj e.1]))
     have hne3 : ∀ q,(Value.slice (some ⟨g,0,none⟩) (cur.length + 1) cap).ownBlock = some q→B ≠ q := by
      intro q hq e
      simp [Value.ownBlock] at hq
      subst hq
      rcases hat3 with h | h
      ·
       exact HNE.out _ h ⟨B,off,none⟩ rfl e
      ·
       omega
     have HN3 := Lib.hid hne3
     have HOWN := Lib.hid hown3
     have HSL3 := Lib.hid hsl3
     clear hcell hlow hown hmod hne3 hown3 hsl3 hat3
     go_wp2
     go_roundw
     case rel => exact ⟨j + 1,by omega,by go_num,by rw [HCUR.out]; simpa [encPr] using HOWN.out,hmod3,HSL3.out,fun q hq a ha => by
      cases ha
      exact HN3.out q hq⟩
     case measure => simp [intOf]; omega
    ·
     have hj2 : j = np := by omega
     have HT := Lib.hid (show ps.take j = ps from List.take_of_length_le (by omega))
     rw [HT.out] at hown
     have hown := HSUC.out ▸ hown
     clear hsl hne
     go_wp2
     go_roundw
     case rel => exact ⟨k + 1,by omega,by go_num,hown,hmod⟩
     case measure => simp [intOf]; omega
  ·
   have hk2 : k = N := by omega
   subst hk2
   rw [HLL.out] at hown
   have HQ := Lib.hid (Que.own (enc := encPr) (fun _ => rfl) hown)
   have HFR := Lib.hid (fun q e => (hown.lt q e).1)
   have hmm := m01.trans hmod (by simp)
   clear hown
   go_wp2
   go_ret
   exact ⟨_,rfl,_,HQ.out,hmm,fun q hq => by have := HFR.out q hq; omega⟩
end Go.Proofs.YtfiklfkfbcpmgaaGreat
