/- Parts: FabStill RefA FabricOddWalk Open OpenC. No condition. -/
import Derived.Test.YtfiklfkfbcpmgaaGreatJ26
import Derived.Test.YtfiklfkfbcpmgaaGreatJ03
import Derived.Test.YtfiklfkfbcpmgaaGreatJ01
import Derived.ProofKit
import Derived.OpenShut
import Derived.Carry
import Derived.Deep.Grids
set_option linter.all false
set_option maxRecDepth 100000
set_option maxHeartbeats 3200000
namespace Go.Proofs.YtfiklfkfbcpmgaaGreat
open Go.RowKit
section
variable {c : Cfg} {f : FabS}
theorem set_getD {α : Type} (l : List α) (k : Nat) (d : α) : l.set k (l.getD k d) = l := by
 by_cases hk : k < l.length
 ·
  rw [List.getD_eq_getElem?_getD,List.getElem?_eq_getElem hk,Option.getD_some,List.set_getElem_self]
 ·
  exact List.set_eq_of_length_le (by omega)
theorem find_false {y : LaneS} {node : Int} {leads : Flit→Int} (h : (y.find node leads).2 = false) : (y.find node leads).1 = y∧y.way node leads = none := by
 unfold LaneS.find at h ⊢
 rcases hw : y.way node leads with _ | ⟨ph,p⟩
 ·
  exact ⟨rfl,rfl⟩
 ·
  rw [hw] at h
  cases h
theorem put_rt_self {n : Nat} (hnl : n < f.nodes.length) : f.put (n : Int) ((f.at (n : Int)).setRt (f.at (n : Int)).rt) = f := by
 rw [show (f.at (n : Int)).setRt (f.at (n : Int)).rt = f.at (n : Int) from rfl,put_self hnl]
theorem still_find (hk : FabOk c f) {n k : Nat} (hn : n < c.nodes.toNat) {ch : Int} (h : (f.find c (n : Int) (k : Int) ch).2 = false) : (f.find c (n : Int) (k : Int) ch).1 = f := by
 have hnl : n < f.nodes.length := by rw [hk.len]; exact hn
 rw [find_is] at h ⊢
 dsimp only at h ⊢
 rw [(find_false h).1]
 unfold RouterS.setLane
 rw [set_getD]
 exact put_rt_self hnl
theorem still_give (hk : FabOk c f) {n k : Nat} (hn : n < c.nodes.toNat) (h : (f.give c (n : Int) (k : Int)).2 = false) : (f.give c (n : Int) (k : Int)).1 = f := by
 have hnl : n < f.nodes.length := by rw [hk.len]; exact hn
 rw [give_is hnl] at h ⊢
 dsimp only at h ⊢
 have e : ((f.at (n : Int)).rt.give c k).1 = (f.at (n : Int)).rt := by
  unfold RouterS.give at h ⊢
  split
  ·
   rename_i h1
   rw [if_pos h1] at h
   split
   ·
    rfl
   ·
    rename_i h2
    rw [h2] at h
    cases h
  ·
   rfl
 rw [e]
 exact put_rt_self hnl
theorem still_move (hk : FabOk c f) {n p : Nat} (hn : n < c.nodes.toNat) (h : (f.move c (n : Int) (p : Int)).2 = false) : (f.move c (n : Int) (p : Int)).1 = f := by
 rcases move_cases hk (p := p) hn with ⟨h1,-⟩ | ⟨kn,x,ln,q,-,-,-,-,-,-,-,-,-,h1⟩
 ·
  rw [h1]
 ·
  rw [h1] at h
  cases h
theorem still_putIn (hk : FabOk c f) {n : Nat} (hn : n < c.nodes.toNat) (h : (f.putIn c (n : Int)).2 = false) : (f.putIn c (n : Int)).1 = f := by
 have hnl : n < f.nodes.length := by rw [hk.len]; exact hn
 rcases hw : (f.at (n : Int)).words with _ | ⟨⟨k0,x⟩,ws⟩
 ·
  rw [putIn_none hw]
 ·
  obtain ⟨h0,-,-⟩ := (hk.nc n hn).ws (k0,x) (by show _ ∈ (f.at (n : Int)).words; rw [hw]; exact List.mem_cons_self ..)
  obtain ⟨k,rfl⟩ := Int.eq_ofNat_of_zero_le h0
  rw [putIn_some hnl hw] at h ⊢
  split
  ·
   rename_i h1
   rw [if_pos h1] at h
   cases h
  ·
   rfl
theorem still_tell (hk : FabOk c f) {n : Nat} (hn : n < c.nodes.toNat) (h : (f.tell c (n : Int)).2 = false) : (f.tell c (n : Int)).1 = f := by
 have hnl : n < f.nodes.length := by rw [hk.len]; exact hn
 have e : ((f.at (n : Int)).box.tell c).1 = (f.at (n : Int)).box := by
  have h' : ((f.at (n : Int)).box.tell c).2 = false := h
  unfold BoxS.tell at h' ⊢
  split
  ·
   rfl
  ·
   rename_i h1
   rw [h1] at h'
   dsimp only at h' ⊢
   split
   ·
    rfl
   ·
    rename_i h2
    rw [if_neg h2] at h'
    cases h'
 show f.put (n : Int) { f.at (n : Int) with box := ((f.at (n : Int)).box.tell c).1 } = f
 rw [e]
 exact put_self hnl
theorem still_carry (ht : FabTie c f) (hk : FabOk c f) {n p : Nat} (hn : n < c.nodes.toNat) (hp : p < 5) (h : (f.carry c (n : Int) (p : Int)).2 = false) : (f.carry c (n : Int) (p : Int)).1 = f∧∀ y,f.link (n : Int) (p : Int) = some y→y.words = [] := by
 have hL := hk.ok.L1
 rcases hl : f.link (n : Int) (p : Int) with _ | y
 ·
  rw [carry_none hl]
  exact ⟨rfl,fun y h => by cases h⟩
 ·
  rcases hw : y.words with _ | ⟨⟨k0,x⟩,ws⟩
  ·
   rw [carry_empty hl hw]
   exact ⟨rfl,fun y' h' => by cases h'; exact hw⟩
  ·
   have hlk := hk.lk n p hn hp y hl
   obtain ⟨h0,h1,h2⟩ := hlk.wl (k0,x) (by rw [hw]; exact List.mem_cons_self ..)
   obtain ⟨k,rfl⟩ := Int.eq_ofNat_of_zero_le h0
   obtain ⟨hp1,hbes⟩ := hk.link_is hn hp hl
   obtain ⟨m,hm,hmN⟩ := bes_at hbes
   obtain ⟨q,hq,hq5,hq1⟩ := back_is hp
   obtain ⟨hkL,hroom⟩ := ht.room hk hn hp hl hw hm hq
   have hnl : n < f.nodes.length := by rw [hk.len]; exact hn
   have hrt : ((f.put (n : Int) ((f.at (n : Int)).setLk p y.carry)).at (m : Int)).rt = (f.at (m : Int)).rt := put_lk_rt hnl m
   rw [carry_some (by omega) hl hw hm hq,if_pos (by rw [hrt]; exact hroom)] at h
   cases h
theorem still_credit (hk : FabOk c f) {n p : Nat} (hn : n < c.nodes.toNat) (hp : p < 5) (h : (f.credit (n : Int) (p : Int)).2 = false) : (f.credit (n : Int) (p : Int)).1 = f∧∀ y,f.link (n : Int) (p : Int) = some y→y.back = [] := by
 rcases hl : f.link (n : Int) (p : Int) with _ | y
 ·
  rw [credit_none hl]
  exact ⟨rfl,fun y h => by cases h⟩
 ·
  rw [credit_some hk hn hl] at h ⊢
  have hb : y.back = [] := by simpa using h
  have e : y.credit = y := by unfold LinkS.credit; rw [hb]
  dsimp only
  rw [e,setLk_same (x := f.at (n : Int)) (p := p) (l := y) hl,put_self (by rw [hk.len]; exact hn)]
  exact ⟨rfl,fun y' h' => by cases h'; exact hb⟩
theorem still_part (ht : FabTie c f) (hk : FabOk c f) {n : Nat} (hn : n < c.nodes.toNat) {r : Int} (h0 : 0 ≤ r) (h1 : r < c.each) {ch : Int} (h : (f.part c (n : Int) r ch).2 = false) : (f.part c (n : Int) r ch).1 = f := by
 have hL1 := hk.ok.L1
 rw [each_eq c (c.chk_of hk.ok)] at h1
 unfold FabS.part at h ⊢
 dsimp only at h ⊢
 by_cases c0 : r < 5 * c.Lanes
 ·
  rw [if_pos c0] at h ⊢
  obtain ⟨k,rfl⟩ := Int.eq_ofNat_of_zero_le h0
  exact still_find hk hn h
 rw [if_neg c0] at h ⊢
 by_cases c1 : r < 2 * (5 * c.Lanes)
 ·
  rw [if_pos c1] at h ⊢
  obtain ⟨k,hr⟩ := Int.eq_ofNat_of_zero_le (show 0 ≤ r - 5 * c.Lanes by omega)
  rw [hr] at h ⊢
  exact still_give hk hn h
 rw [if_neg c1] at h ⊢
 by_cases c2 : r < 2 * (5 * c.Lanes) + 5
 ·
  rw [if_pos c2] at h ⊢
  obtain ⟨p,hp⟩ := Int.eq_ofNat_of_zero_le (show 0 ≤ r - 2 * (5 * c.Lanes) by omega)
  rw [hp] at h ⊢
  exact still_move hk hn h
 rw [if_neg c2] at h ⊢
 by_cases c3 : r < 2 * (5 * c.Lanes) + 6
 ·
  rw [if_pos c3] at h ⊢
  exact still_putIn hk hn h
 rw [if_neg c3] at h ⊢
 by_cases c4 : r < 2 * (5 * c.Lanes) + 7
 ·
  rw [if_pos c4] at h ⊢
  exact still_tell hk hn h
 rw [if_neg c4] at h ⊢
 by_cases c5 : r < 2 * (5 * c.Lanes) + 11
 ·
  rw [if_pos c5] at h ⊢
  obtain ⟨p,hp⟩ := Int.eq_ofNat_of_zero_le (show 0 ≤ r - (2 * (5 * c.Lanes) + 7) + 1 by omega)
  rw [hp] at h ⊢
  exact (still_carry ht hk hn (by omega) h).1
 rw [if_neg c5] at h ⊢
 obtain ⟨p,hp⟩ := Int.eq_ofNat_of_zero_le (show 0 ≤ r - (2 * (5 * c.Lanes) + 11) + 1 by omega)
 rw [hp] at h ⊢
 exact (still_credit hk hn (by omega) h).1
theorem still_does (ht : FabTie c f) (hk : FabOk c f) {n ch : Int} (h : (f.does c n ch).2 = false) : (f.does c n ch).1 = f := by
 unfold FabS.does at h ⊢
 split
 ·
  rename_i h1
  rw [if_pos h1] at h
  obtain ⟨nd,hnd,hndN,hr0,hr1⟩ := part_no hk.ok h1.1 h1.2
  rw [hnd] at h ⊢
  dsimp only at h ⊢
  rw [h,still_part ht hk hndN hr0 hr1 h]
  rfl
 ·
  rfl
theorem new_lane {n : Nat} (hn : n < c.nodes.toNat) (k : Nat) : ((FabS.new c).at (n : Int)).rt.lanes.getD k LaneS.new = LaneS.new := by
 rw [new_at hn]
 show (List.replicate (5 * c.Lanes).toNat LaneS.new).getD k LaneS.new = LaneS.new
 rw [List.getD_eq_getElem?_getD,List.getElem?_replicate]
 split <;> rfl
theorem new_linkS {n p : Nat} (hn : n < c.nodes.toNat) (hp : p < 5) {y : LinkS} (h : (FabS.new c).link (n : Int) (p : Int) = some y) : y = LinkS.new c := by
 unfold FabS.link at h
 rw [new_at hn,new_link hp] at h
 split at h
 ·
  cases h
  rfl
 ·
  cases h
theorem new_part (hc : c.Ok) {n : Nat} (hn : n < c.nodes.toNat) {r : Int} (h0 : 0 ≤ r) (h1 : r < c.each) (ch : Int) : ((FabS.new c).part c (n : Int) r ch).2 = false := by
 have hk := FabOk.new hc
 have hL1 := hc.L1
 have hnl : n < (FabS.new c).nodes.length := by rw [hk.len]; exact hn
 rw [each_eq c (c.chk_of hc)] at h1
 unfold FabS.part
 dsimp only
 by_cases c0 : r < 5 * c.Lanes
 ·
  rw [if_pos c0]
  obtain ⟨k,rfl⟩ := Int.eq_ofNat_of_zero_le h0
  rw [find_is]
  dsimp only
  rw [new_lane hn]
  rfl
 rw [if_neg c0]
 by_cases c1 : r < 2 * (5 * c.Lanes)
 ·
  rw [if_pos c1]
  obtain ⟨k,hr⟩ := Int.eq_ofNat_of_zero_le (show 0 ≤ r - 5 * c.Lanes by omega)
  rw [hr,give_is hnl]
  dsimp only
  unfold RouterS.give
  rw [new_lane hn,if_neg (by decide)]
 rw [if_neg c1]
 by_cases c2 : r < 2 * (5 * c.Lanes) + 5
 ·
  rw [if_pos c2]
  obtain ⟨p,hp⟩ := Int.eq_ofNat_of_zero_le (show 0 ≤ r - 2 * (5 * c.Lanes) by omega)
  rw [hp]
  rcases move_cases hk (p := p) hn with ⟨h,-⟩ | ⟨kn,x,ln,q,-,-,hq,-⟩
  ·
   rw [h]
  ·
   rw [new_lane hn] at hq
   cases hq
 rw [if_neg c2]
 by_cases c3 : r < 2 * (5 * c.Lanes) + 6
 ·
  rw [if_pos c3,putIn_none (by rw [new_at hn]; rfl)]
 rw [if_neg c3]
 by_cases c4 : r < 2 * (5 * c.Lanes) + 7
 ·
  rw [if_pos c4]
  show ((((FabS.new c).at (n : Int)).box).tell c).2 = false
  rw [new_at hn]
  rfl
 rw [if_neg c4]
 by_cases c5 : r < 2 * (5 * c.Lanes) + 11
 ·
  rw [if_pos c5]
  obtain ⟨p,hp⟩ := Int.eq_ofNat_of_zero_le (show 0 ≤ r - (2 * (5 * c.Lanes) + 7) + 1 by omega)
  rw [hp]
  rcases hl : (FabS.new c).link (n : Int) (p : Int) with _ | y
  ·
   rw [carry_none hl]
  ·
   rw [carry_empty hl (by rw [new_linkS hn (by omega) hl]; rfl)]
 rw [if_neg c5]
 obtain ⟨p,hp⟩ := Int.eq_ofNat_of_zero_le (show 0 ≤ r - (2 * (5 * c.Lanes) + 11) + 1 by omega)
 rw [hp]
 rcases hl : (FabS.new c).link (n : Int) (p : Int) with _ | y
 ·
  rw [credit_none hl]
 ·
  rw [credit_some hk hn hl,new_linkS hn (by omega) hl]
  rfl
theorem new_does (hc : c.Ok) (n ch : Int) : (FabS.new c).does c n ch = (FabS.new c,false) := by
 have h : ((FabS.new c).does c n ch).2 = false := by
  unfold FabS.does
  split
  ·
   rename_i h1
   obtain ⟨nd,hnd,hndN,hr0,hr1⟩ := part_no hc h1.1 h1.2
   rw [hnd]
   exact new_part hc hndN hr0 hr1 ch
  ·
   rfl
 have h2 := still_does (FabTie.new hc) (FabOk.new hc) h
 rw [← h2] at h ⊢
 exact Prod.ext (by rw [h2,h2]) (by rw [h2] at h ⊢; exact h)
theorem new_rounds (hc : c.Ok) (ch : Int) (l : List Nat) : (FabS.new c).rounds c ch l = (FabS.new c,0) := by
 unfold FabS.rounds
 induction l with
 | nil => rfl
 | cons a l ih =>
  rw [List.foldl_cons]
  dsimp only
  rw [new_does hc]
  exact ih
theorem new_quiet (hc : c.Ok) : (FabS.new c).quiet = true := by
 have hL := hc.L1
 unfold FabS.quiet FabS.new
 rw [List.all_eq_true]
 intro x hx
 obtain ⟨n,hn,rfl⟩ := List.mem_map.1 hx
 unfold NodeS.quiet NodeS.new
 simp only [Bool.and_eq_true,List.all_eq_true,decide_eq_true_eq]
 refine ⟨⟨⟨⟨by simp,by simp [BoxS.new]⟩,fun j hj => ?_⟩,fun y hy => ?_⟩,fun l hl => ?_⟩
 ·
  rw [List.eq_of_mem_replicate hj]
  rfl
 ·
  rw [List.eq_of_mem_replicate hy]
  simp [LaneS.new]
 ·
  obtain ⟨p,-,rfl⟩ := List.mem_map.1 hl
  split
  ·
   rename_i h
   split at h
   ·
    cases h
    unfold LinkS.idle LinkS.new
    simp
   ·
    cases h
  ·
   rfl
end
open Go.RowKit
theorem ref_within (x m : Int) (w : World) :
  Calls Tryz.prog 79 #[.int .i64 x,.int .i64 1,.int .i64 m] w fun e w' => e = .returned (.bool (in1 m x))∧w' = w := by
 cases h : in1 m x with
 | true =>
  have hp := (in1_iff _ _).1 h
  clear h
  go_enter Tryz.func79,Tryz.ntmps79
  go_wp2
  go_ret
  exact ⟨rfl,rfl⟩
 | false =>
  have hp : ¬ (1 ≤ x∧x ≤ m) := by
   intro hh
   have := (in1_iff _ _).2 hh
   rw [h] at this
   cases this
  clear h
  by_cases h1 : 1 ≤ x
  ·
   have h2 : ¬ x ≤ m := fun h => hp ⟨h1,h⟩
   clear hp
   go_enter Tryz.func79,Tryz.ntmps79
   go_wp2
   go_ret
   exact ⟨rfl,rfl⟩
  ·
   clear hp
   go_enter Tryz.func79,Tryz.ntmps79
   go_wp2
   go_ret
   exact ⟨rfl,rfl⟩
def Cfg.chkR (c : Cfg) : Int :=
 if in1 64 c.W = false then 4 else if in1 64 c.H = false then 4
 else if in1 8 c.Lanes = false then 10 else if (c.Cast && decide (c.Lanes < 2)) = true then 10
 else if in1 64 c.Depth = false then 10 else if in1 64 c.Ring = false then 10 else if in1 64 c.Inbox = false then 10
 else if in1 16 c.Bound = false then 10 else 0
theorem Cfg.chkR_eq (c : Cfg) : c.chkR = c.chk := by
 unfold Cfg.chkR Cfg.chk
 simp only [List.all_cons,List.all_nil,Bool.and_true]
 cases h1 : in1 64 c.W <;> cases h2 : in1 64 c.H <;> simp
 cases h3 : in1 8 c.Lanes <;> simp
 have h3' := (in1_iff _ _).1 h3
 have h4 : (c.Lanes < 2) ↔ c.Lanes = 1 := by omega
 simp only [h4]
 split
 ·
  rfl
 ·
  cases in1 64 c.Depth <;> cases in1 64 c.Ring <;> cases in1 64 c.Inbox <;> cases in1 16 c.Bound <;> simp
theorem ref_Check (c : Cfg) (w : World) :
  Calls Tryz.prog 26 #[.agg c.cells] w fun e w' => e = .returned (.int .i64 c.chk)∧Mod (fun _ => False) w w' := by
 have kb := Blk.made w c.cells 23
 have m0 : Mod (fun _ => False) w (w.alloc (.cells c.cells 23)) := (Mod.refl _ _).alloc _
 rw [← Cfg.chkR_eq]
 obtain ⟨W,H,Ln,D,R,I,B,we,ca⟩ := c
 simp only [Cfg.cells] at kb m0 ⊢
 go_enter Tryz.func26,Tryz.ntmps26
 obtain ⟨c0,c1,c2,c3,c4,c5,c6,c7,c8⟩ := cfg_cells (c := ⟨W,H,Ln,D,R,I,B,we,ca⟩) kb
 clear kb
 go_wp2_with fail
 refine (ref_within W 64 _).mono ?_
 rintro e w1 ⟨rfl,rfl⟩
 cases h1 : in1 64 W with
 | false =>
  have H1 := Lib.hid h1
  clear h1
  go_wp2
  go_ret
  exact ⟨by simp only [Cfg.chkR,H1.out,if_true]; rfl,m0⟩
 | true =>
 have H1 := Lib.hid h1
 clear h1
 go_wp2_with fail
 refine (ref_within H 64 _).mono ?_
 rintro e w1 ⟨rfl,rfl⟩
 cases h2 : in1 64 H with
 | false =>
  have H2 := Lib.hid h2
  clear h2
  go_wp2
  go_ret
  exact ⟨by simp only [Cfg.chkR,H1.out,H2.out,if_true]; rfl,m0⟩
 | true =>
 have H2 := Lib.hid h2
 clear h2
 go_wp2_with fail
 refine (ref_within Ln 8 _).mono ?_
 rintro e w1 ⟨rfl,rfl⟩
 cases h3 : in1 8 Ln with
 | false =>
  have H3 := Lib.hid h3
  clear h3
  go_wp2
  go_ret
  exact ⟨by simp only [Cfg.chkR,H1.out,H2.out,H3.out,if_true]; rfl,m0⟩
 | true =>
 have H3 := Lib.hid h3
 clear h3
 cases h4 : (ca && decide (Ln < 2)) with
 | true =>
  have H4 := Lib.hid h4
  obtain ⟨rfl,hl⟩ : ca = true∧Ln < 2 := by simpa using h4
  clear h4
  go_wp2
  go_ret
  exact ⟨by simp only [Cfg.chkR,H1.out,H2.out,H3.out,H4.out,if_true]; rfl,m0⟩
 | false =>
 have H4 := Lib.hid h4
 have hce : ca = false∨(ca = true∧¬ Ln < 2) := by
  cases ca
  ·
   exact Or.inl rfl
  ·
   exact Or.inr ⟨rfl,by simpa using h4⟩
 clear h4
 rcases hce with rfl | ⟨rfl,hl⟩
 all_goals
  go_wp2_with fail
  refine (ref_within D 64 _).mono ?_
  rintro e w1 ⟨rfl,rfl⟩
  cases h5 : in1 64 D with
  | false =>
   have H5 := Lib.hid h5
   clear h5
   go_wp2
   go_ret
   exact ⟨by simp only [Cfg.chkR,H1.out,H2.out,H3.out,H4.out,H5.out,if_true]; rfl,m0⟩
  | true =>
  have H5 := Lib.hid h5
  clear h5
  go_wp2_with fail
  refine (ref_within R 64 _).mono ?_
  rintro e w1 ⟨rfl,rfl⟩
  cases h6 : in1 64 R with
  | false =>
   have H6 := Lib.hid h6
   clear h6
   go_wp2
   go_ret
   exact ⟨by simp only [Cfg.chkR,H1.out,H2.out,H3.out,H4.out,H5.out,H6.out,if_true]; rfl,m0⟩
  | true =>
  have H6 := Lib.hid h6
  clear h6
  go_wp2_with fail
  refine (ref_within I 64 _).mono ?_
  rintro e w1 ⟨rfl,rfl⟩
  cases h7 : in1 64 I with
  | false =>
   have H7 := Lib.hid h7
   clear h7
   go_wp2
   go_ret
   exact ⟨by simp only [Cfg.chkR,H1.out,H2.out,H3.out,H4.out,H5.out,H6.out,H7.out,if_true]; rfl,m0⟩
  | true =>
  have H7 := Lib.hid h7
  clear h7
  go_wp2_with fail
  refine (ref_within B 16 _).mono ?_
  rintro e w1 ⟨rfl,rfl⟩
  cases h8 : in1 16 B with
  | false =>
   have H8 := Lib.hid h8
   clear h8
   go_wp2
   go_ret
   exact ⟨by simp only [Cfg.chkR,H1.out,H2.out,H3.out,H4.out,H5.out,H6.out,H7.out,H8.out,if_true]; rfl,m0⟩
  | true =>
   have H8 := Lib.hid h8
   clear h8
   go_wp2
   go_ret
   exact ⟨by simp only [Cfg.chkR,H1.out,H2.out,H3.out,H4.out,H5.out,H6.out,H7.out,H8.out]; rfl,m0⟩
open Go.RowKit
theorem lit_bd {i : Int} (h : (Lit.int .i64 i).wf = true) : -9223372036854775808 ≤ i∧i ≤ 9223372036854775807 := by
 simp only [Lit.wf,Bool.and_eq_true,decide_eq_true_eq] at h
 have e1 : IntKind.i64.min = -9223372036854775808 := by decide
 have e2 : IntKind.i64.max = 9223372036854775807 := by decide
 rw [e1,e2] at h
 exact h
theorem walk_FabricOdd {w : World} (c : Cfg) (n : Int) (wn : (Lit.int .i64 n).wf = true) (ch : Int) (wch : (Lit.int .i64 ch).wf = true) :
  Calls Tryz.prog 8 #[.agg c.cells,.int .i64 n,.int .i64 ch] w fun e w' => e = .returned (.bool true)∧Below w.heap.size w w' := by
 obtain ⟨n1,n2⟩ := lit_bd wn
 obtain ⟨d1,d2⟩ := lit_bd wch
 clear wn wch
 have kb := Blk.made w c.cells 23
 have m0 : Mod (fun _ => False) w (w.alloc (.cells c.cells 23)) := (Mod.refl _ _).alloc _
 have HK := Lib.hid (fun w => ref_Check c w)
 have HN := Lib.hid (fun w => fabric_new_no c w)
 have HY := Lib.hid (fun w => fabric_new c w)
 simp only [Cfg.cells] at kb m0 HK HN HY ⊢
 go_enter Tryz.func8,Tryz.ntmps8
 go_wp2_with fail
 refine (run_lives19 _).mono ?_
 rintro e w1 ⟨rfl,m1⟩
 have k1 := kb.later m1 (by simp)
 have mm1 := m0.trans m1 (by simp)
 obtain ⟨c0,c1,c2,c3,c4,c5,c6,c7,c8⟩ := cfg_cells k1
 clear kb m0 m1
 by_cases hW : 16 < c.W
 ·
  go_wp2
  go_ret
  exact ⟨rfl,mm1.below⟩
 by_cases hH : 16 < c.H
 ·
  go_wp2
  go_ret
  exact ⟨rfl,mm1.below⟩
 by_cases hc : c.chk = 0
 ·
  have hok := c.ok_of hc
  go_wp2_with fail
  refine (HY.out _ hok).mono ?_
  rintro e w2 ⟨b,rfl,own,⟨A,v,hF⟩,M2,hlo⟩
  have k2 := k1.later M2 (by simp)
  have hlo2 : ∀ g,own g→w.heap.size ≤ g := fun g hg => Nat.le_trans mm1.size (hlo g hg)
  have mm2 := mm1.trans M2 (by simp)
  have M0 := Mid.start hF
  have hb2 := k1.lt
  have HCF := Lib.hid (fun f w' (M : Mid b A c v own w2 [] f w') => (k2.later M.turn.mod (fun h => by have := hlo _ h; omega)))
  have HEND := Lib.hid (fun f w' (M : Mid b A c v own w2 [] f w') => (Made.mods mm2 hlo2 M.turn.mod).below)
  have hk := FabOk.new hok
  have h0 := FabTie.new hok
  have HR := Lib.hid (fun w' (M : Mid b A c v own w2 [] (FabS.new c) w') => M.call (fun o' hF' => fabric_recv_no hF' hk (n := -1) (by
   rcases h : c.is (-1) with _ | _
   ·
    rfl
   ·
    have := (Cfg.is_iff c (-1)).1 h; omega)))
  have HD := Lib.hid (fun w' (M : Mid b A c v own w2 [] (FabS.new c) w') => M.call (f' := FabS.new c) (R := fun e => e = .returned (.bool false)) (fun o' hF' => by
   have h := fabric_do hF' hk (show (0 : Int) < 2305843009213693952 by decide) n d1 d2
   rw [new_does hok] at h
   exact h))
  have HQ := Lib.hid (fun w' (M : Mid b A c v own w2 [] (FabS.new c) w') => M.call (f' := FabS.new c) (R := fun e => e = .returned (.bool true)) (fun o' hF' => by
   have h := fabric_Quiet hF' hk
   rw [new_quiet hok] at h
   exact h.mono fun e w3 t => ⟨t.1,Turn.same (Fam.stable (fabX_stable b A c v _)) hF' t.2⟩))
  have HS := Lib.hid (fun w' (M : Mid b A c v own w2 [] (FabS.new c) w') => M.call (f' := FabS.new c) (R := fun e => e = .returned (.int .i64 0)) (fun o' hF' => by
   obtain ⟨g,o,cc,hC⟩ := fab_fcells hF' hok.nodes_pos
   exact (fabric_Steps hC).mono fun e w3 t => ⟨t.1,by rw [t.2]; exact Turn.same (Fam.stable (fabX_stable b A c v _)) hF' (Mod.refl _ _)⟩))
  have HRO := Lib.hid (fun w' (M : Mid b A c v own w2 [] (FabS.new c) w') => M.call (f' := FabS.new c) (R := fun e => e = .returned (.int .i64 0)) (fun o' hF' => by
   have h := fabric_round hF' hk (by have := parts_bd c; show (0 : Int) + c.parts ≤ _; omega) n1 n2 d1 d2 (ch := 0) (by decide) (by decide)
   rw [new_rounds hok] at h
   exact h))
  have HSE := Lib.hid (fun w' (M : Mid b A c v own w2 [] (FabS.new c) w') => M.call (f' := FabS.new c) (R := fun e => e = .returned (.int .i64 5)) (fun o' hF' => by
   have h := fabric_send_no hF' hk ⟨-1,false,[],⟨#[]⟩⟩ (.slice none 0 0) (by
    rcases h : c.is (-1) with _ | _
    ·
     rfl
    ·
     have := (Cfg.is_iff c (-1)).1 h; omega)
   simp only [Parcel.val] at h
   exact h))
  have HK2 := Lib.hid (fun w' => (HK.out w'))
  rw [hc] at HK2
  clear hF hlo hlo2 M2 mm2 mm1 k2 k1 hk h0 HK HN HY hok hc
  clear c0 c1 c2 c3 c4 c5 c6 c7 c8
  go_wp2_with fail
  refine (HR.out _ M0).mono ?_
  rintro e w3 ⟨rfl,M3⟩
  have M3 := M3.later ((Mod.refl (fun _ => False) w3).alloc (.cells #[.int .i64 0,.int .i64 0,.int .i64 0,.string ⟨#[]⟩] 46))
  go_upto_region 8 with fail
  generalize w3.alloc (.cells #[.int .i64 0,.int .i64 0,.int .i64 0,.string ⟨#[]⟩] 46) = w4 at M3 ⊢
  obtain ⟨c0,c1,c2,c3,c4,c5,c6,c7,c8⟩ := cfg_cells (HCF.out _ _ M3)
  go_wp2_with fail
  refine (HK2.out _).mono ?_
  rintro e w5 ⟨rfl,m5⟩
  have M5 := M3.later m5
  clear m5 M3 M0 c0 c1 c2 c3 c4 c5 c6 c7 c8
  go_wp2_with fail
  refine (HD.out _ M5).mono ?_
  rintro e w6 ⟨rfl,M6⟩
  go_wp2_with fail
  refine (HQ.out _ M6).mono ?_
  rintro e w7 ⟨rfl,M7⟩
  go_wp2_with fail
  refine (HS.out _ M7).mono ?_
  rintro e w8 ⟨rfl,M8⟩
  go_wp2_with fail
  refine (HRO.out _ M8).mono ?_
  rintro e w9 ⟨rfl,M9⟩
  go_wp2_with fail
  refine (HSE.out _ M9).mono ?_
  rintro e w10 ⟨rfl,M10⟩
  have hend := HEND.out _ _ M10
  clear M5 M6 M7 M8 M9 M10
  go_wp2
  go_ret
  exact ⟨rfl,hend⟩
 ·
  go_wp2_with fail
  refine (HN.out _ hc).mono ?_
  rintro e w2 ⟨rfl,m2⟩
  have k2 := k1.later m2 (by simp)
  have mm2 := mm1.trans m2 (by simp)
  clear c0 c1 c2 c3 c4 c5 c6 c7 c8 k1 mm1 m2
  go_wp2_with fail
  refine (fabric_recv_nil 0 _).mono ?_
  rintro e w3 ⟨rfl,m3⟩
  have m3 := m3.alloc (.cells #[.int .i64 0,.int .i64 0,.int .i64 0,.string ⟨#[]⟩] 46)
  go_upto_region 10 with fail
  generalize w3.alloc (.cells #[.int .i64 0,.int .i64 0,.int .i64 0,.string ⟨#[]⟩] 46) = w4 at m3 ⊢
  have k4 := k2.later m3 (by simp)
  have mm4 := mm2.trans m3 (by simp)
  have q0 : ¬ c.chk = 0 := hc
  obtain ⟨c0,c1,c2,c3,c4,c5,c6,c7,c8⟩ := cfg_cells k4
  generalize c.chk = ck at q0 HK
  have q1 : (ck != 0) = true := by simpa using q0
  clear k2 mm2 m3 hc HN HY
  go_wp2_with fail
  refine (HK.out _).mono ?_
  rintro e w5 ⟨rfl,m5⟩
  have mm5 := mm4.trans m5 (by simp)
  clear c0 c1 c2 c3 c4 c5 c6 c7 c8 k4 mm4 m5 HK
  go_wp2_with fail
  refine (fabric_Do_nil _ _ _).mono ?_
  rintro e w6 ⟨rfl,rfl⟩
  go_wp2_with fail
  refine (fabric_Quiet_nil _).mono ?_
  rintro e w6 ⟨rfl,rfl⟩
  go_wp2_with fail
  refine (fabric_Steps_nil _).mono ?_
  rintro e w6 ⟨rfl,rfl⟩
  go_wp2_with fail
  refine (fabric_Round_nil _ _ _ _).mono ?_
  rintro e w6 ⟨rfl,rfl⟩
  go_wp2_with fail
  have HSN := fabric_Send_nil ⟨0,false,[],⟨#[]⟩⟩ (.slice none 0 0) w6
  simp only [Parcel.val] at HSN
  refine HSN.mono ?_
  rintro e w7 ⟨rfl,m7⟩
  have mm7 := mm5.trans m7 (by simp)
  clear mm5 m7 HSN
  go_wp2_with fail
  refine (fabric_Link_nil _ _ _).mono ?_
  rintro e w8 ⟨rfl,rfl⟩
  go_wp2_with fail
  refine (fabric_Router_nil _ _).mono ?_
  rintro e w8 ⟨rfl,rfl⟩
  go_wp2_with fail
  refine (fabric_Nic_nil _ _).mono ?_
  rintro e w8 ⟨rfl,rfl⟩
  go_wp2_with fail
  refine (fabric_Full_nil _ _).mono ?_
  rintro e w8 ⟨rfl,rfl⟩
  go_wp2
  go_ret
  exact ⟨rfl,mm7.below⟩
open Go.ChangeShapes Go.WideShapes Go.ChangeAt Go.RowKit Go.Deep
section
variable {H : Type} {enc : TypeId × Value→H} {P : Program} {W : World} {v : Value} {d : DataW H} {p : List MemPlace} {t e q : TypeId}
end
open Go.ChangeShapes Go.WideShapes Go.ChangeAt Go.RowKit Go.Deep
theorem take1_drop {α : Type} {l : List α} {i : Nat} {x : α} (h : (l.drop i).take 1 = [x]) : l[i]? = some x := by
 have h0 : ((l.drop i).take 1)[0]? = some x := by rw [h]; rfl
 simpa using h0
section
variable {H : Type} {enc : TypeId × Value→H} {P : Program} {W : World} {v : Value} {d : DataW H} {p : List MemPlace} {t e q : TypeId}
theorem open_cfg {fs : Array Field} {ti tb : TypeId} (ht : P.underlying t = some (.struct fs)) (hfs : fs.toList.map (fun f => (f.type,f.offset)) = [(ti,0),(ti,1),(ti,2),(ti,3),(ti,4),(ti,5),(ti,6),(tb,7),(tb,8)])
  (hti : P.underlying ti = some (.int .i64)) (htb : P.underlying tb = some .bool) (hci : P.cellsOf ti = 1) (hcb : P.cellsOf tb = 1) (hct : P.cellsOf t = 9)
  {r : Reach} {b0 : Nat} (hval : Value.okWide P W r b0 t v) (h : DataW.Trod enc P W 0 (fun _ => true) true t v d p) : ∃ c : Cfg,v = .agg c.cells := by
 obtain ⟨cs,rfl,hsz⟩ := okWide_struct ht hval
 obtain ⟨fuel,hf⟩ := h
 obtain ⟨xs,n,-,-,-,hlen,hx⟩ := DataW.trod_struct ht hf
 have hfl : fs.size = 9 := by have := congrArg List.length hfs; simpa using this
 have field : ∀ (i : Nat) (u : TypeId) (o : Nat),([(ti,0),(ti,1),(ti,2),(ti,3),(ti,4),(ti,5),(ti,6),(tb,7),(tb,8)] : List (TypeId × Nat))[i]? = some (u,o)→∃ y,DataW.trod enc P W 0 (fun _ => true) true n u ((cs.toList.drop o).take (P.cellsOf u)) = some y := by
  intro i u o hi
  rw [← hfs] at hi
  simp only [List.getElem?_map,Option.map_eq_some_iff,Prod.mk.injEq] at hi
  obtain ⟨f,hf1,rfl,rfl⟩ := hi
  have h1 := hx i f (by simpa using hf1)
  have hil : i < fs.size := by
   rcases Nat.lt_or_ge i fs.size with h | h
   ·
    exact h
   ·
    rw [List.getElem?_eq_none (by simpa using h)] at hf1
    cases hf1
  have : xs[i]? = some (xs[i]'(by omega)) := List.getElem?_eq_getElem (by omega)
  rw [this] at h1
  exact ⟨_,h1⟩
 have num : ∀ (i : Nat),i < 7→∃ a : Int,cs.toList[i]? = some (.int .i64 a) := by
  intro i hi
  obtain ⟨y,hy⟩ := field i ti i (by
   match i,hi with
   | 0,_ => rfl
   | 1,_ => rfl
   | 2,_ => rfl
   | 3,_ => rfl
   | 4,_ => rfl
   | 5,_ => rfl
   | 6,_ => rfl)
  rw [hci] at hy
  obtain ⟨a,ha,-⟩ := DataW.trod_int hti hy
  exact ⟨a,take1_drop ha⟩
 have boo : ∀ (i : Nat),7 ≤ i→i < 9→∃ a : Bool,cs.toList[i]? = some (.bool a) := by
  intro i hi hi2
  obtain ⟨y,hy⟩ := field i tb i (by
   match i,hi,hi2 with
   | 7,_,_ => rfl
   | 8,_,_ => rfl)
  rw [hcb] at hy
  obtain ⟨a,ha,-⟩ := DataW.trod_bool htb hy
  exact ⟨a,take1_drop ha⟩
 obtain ⟨a0,h0⟩ := num 0 (by omega)
 obtain ⟨a1,h1⟩ := num 1 (by omega)
 obtain ⟨a2,h2⟩ := num 2 (by omega)
 obtain ⟨a3,h3⟩ := num 3 (by omega)
 obtain ⟨a4,h4⟩ := num 4 (by omega)
 obtain ⟨a5,h5⟩ := num 5 (by omega)
 obtain ⟨a6,h6⟩ := num 6 (by omega)
 obtain ⟨a7,h7⟩ := boo 7 (by omega) (by omega)
 obtain ⟨a8,h8⟩ := boo 8 (by omega) (by omega)
 refine ⟨⟨a0,a1,a2,a3,a4,a5,a6,a7,a8⟩,?_⟩
 have hl : cs.toList.length = 9 := by rw [← hct,← hsz]; simp
 have : cs.toList = [.int .i64 a0,.int .i64 a1,.int .i64 a2,.int .i64 a3,.int .i64 a4,.int .i64 a5,.int .i64 a6,.bool a7,.bool a8] := by
  apply List.ext_getElem?
  intro i
  match i with
  | 0 => exact h0
  | 1 => exact h1
  | 2 => exact h2
  | 3 => exact h3
  | 4 => exact h4
  | 5 => exact h5
  | 6 => exact h6
  | 7 => exact h7
  | 8 => exact h8
  | i + 9 => rw [List.getElem?_eq_none (by omega)]; rfl
 have e : cs = cs.toList.toArray := by simp
 rw [e,this]
end
end Go.Proofs.YtfiklfkfbcpmgaaGreat
