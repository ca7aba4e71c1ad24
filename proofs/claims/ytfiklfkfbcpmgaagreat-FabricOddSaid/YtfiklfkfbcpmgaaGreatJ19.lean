/- Parts: NicQ NicR PickA. No condition. -/
import Derived.Test.YtfiklfkfbcpmgaaGreatJ17
import Derived.Test.YtfiklfkfbcpmgaaGreatJ04
import Derived.Test.YtfiklfkfbcpmgaaGreatJ10
import Derived.Test.YtfiklfkfbcpmgaaGreatJ03
set_option linter.all false
set_option maxRecDepth 100000
set_option maxHeartbeats 3200000
namespace Go.Proofs.YtfiklfkfbcpmgaaGreat
open Go.RowKit
theorem join_new' (w : World) : Calls Tryz.prog 119 #[] w fun e w' => e = .returned (.pointer (some ⟨w.heap.size,0,none⟩))∧w' = w.alloc (.cells #[.bool false,.int .i64 0,.int .i64 0,.int .i64 0,.string ⟨#[]⟩,.int .i64 0] 191) := by
 go_enter Tryz.func119,Tryz.ntmps119
 go_wp2
 go_ret
 exact ⟨rfl,rfl⟩
def joinsK (L J m : Nat) : List Value := (List.range 40).map fun i => if i % 8 < L∧i / 8 * L + i % 8 < m then .pointer (some ⟨J + (i / 8 * L + i % 8),0,none⟩) else .pointer none
def nicK (bx L J m : Nat) (c : Cfg) (node : Int) : Array Value := (nicHead bx c node (.slice none 0 0) 0 ++ joinsK L J m).toArray
theorem joinsK_zero (L J : Nat) : joinsK L J 0 = List.replicate 40 (.pointer none) := by
 unfold joinsK
 rw [List.eq_replicate_iff]
 refine ⟨by simp,fun x hx => ?_⟩
 simp at hx
 exact hx.2.symm
theorem joinsK_all (L J : Nat) (h8 : L ≤ 8) : joinsK L J (5 * L) = joinsA L (fun k => J + k) := by
 unfold joinsK joinsA
 refine List.map_congr_left fun i hi => ?_
 rw [List.mem_range] at hi
 by_cases h : i % 8 < L
 ·
  have h2 : (i / 8 + 1) * L ≤ 5 * L := Nat.mul_le_mul_right _ (by omega)
  rw [Nat.succ_mul] at h2
  rw [if_pos ⟨h,by omega⟩,if_pos h]
 ·
  rw [if_neg (fun e => h e.1),if_neg h]
theorem idx_inj {L p l q k : Nat} (hl : l < L) (hk : k < L) (h : p * L + l = q * L + k) : p = q∧l = k := by
 have h1 : (p * L + l) / L = p := by rw [Nat.add_comm,Nat.add_mul_div_right _ _ (by omega),Nat.div_eq_of_lt hl,Nat.zero_add]
 have h2 : (q * L + k) / L = q := by rw [Nat.add_comm,Nat.add_mul_div_right _ _ (by omega),Nat.div_eq_of_lt hk,Nat.zero_add]
 have e : p = q := by rw [← h1,← h2,h]
 subst e
 exact ⟨rfl,by omega⟩
theorem nicK_set (bx L J p l : Nat) (c : Cfg) (node : Int) (hp : p < 5) (hl : l < L) (h8 : L ≤ 8) :
  (nicK bx L J (p * L + l) c node).setIfInBounds (13 + p * 8 + l) (.pointer (some ⟨J + (p * L + l),0,none⟩)) = nicK bx L J (p * L + l + 1) c node := by
 apply Array.ext_getElem?
 intro i
 unfold nicK
 rw [Array.getElem?_setIfInBounds]
 have h13 : (nicHead bx c node (.slice none 0 0) 0).length = 13 := rfl
 simp only [List.getElem?_toArray,List.size_toArray,List.length_append,h13]
 have hlen : ∀ m,(joinsK L J m).length = 40 := fun m => by simp [joinsK]
 rw [hlen]
 by_cases hi : 13 + p * 8 + l = i
 ·
  rw [if_pos hi,if_pos (by omega)]
  subst hi
  rw [List.getElem?_append_right (by omega),h13,show 13 + p * 8 + l - 13 = p * 8 + l by omega]
  unfold joinsK
  rw [List.getElem?_map,List.getElem?_range (by omega)]
  simp only [Option.map_some]
  rw [show (p * 8 + l) % 8 = l by omega,show (p * 8 + l) / 8 = p by omega,if_pos ⟨hl,by omega⟩]
 ·
  rw [if_neg hi]
  by_cases h : i < 13
  ·
   rw [List.getElem?_append_left (by omega),List.getElem?_append_left (by omega)]
  ·
   rw [List.getElem?_append_right (by omega),List.getElem?_append_right (by omega),h13]
   unfold joinsK
   rw [List.getElem?_map,List.getElem?_map]
   by_cases h40 : i - 13 < 40
   ·
    rw [List.getElem?_range h40]
    simp only [Option.map_some]
    congr 1
    by_cases hc1 : (i - 13) % 8 < L
    ·
     have hne : (i - 13) / 8 * L + (i - 13) % 8 ≠ p * L + l := fun e => by
      have := idx_inj hc1 hl e
      omega
     by_cases h2 : (i - 13) / 8 * L + (i - 13) % 8 < p * L + l
     ·
      rw [if_pos ⟨hc1,h2⟩,if_pos ⟨hc1,by omega⟩]
     ·
      rw [if_neg (fun e => h2 e.2),if_neg (fun e => by have := e.2; omega)]
    ·
     rw [if_neg (fun e => hc1 e.1),if_neg (fun e => hc1 e.1)]
   ·
    rw [List.getElem?_eq_none (by simp; omega)]
    rfl
open Go.RowKit
theorem nic_new (c : Cfg) (node : Int) (w : World) (hc : c.Ok) (hn : c.is node = true) :
  Calls Tryz.prog 74 #[.agg c.cells,.int .i64 node] w fun e w' => ∃ b,e = .returned (.pointer (some ⟨b,0,none⟩))∧Made (NicAt b c node ⟨[],0,List.replicate (5 * c.Lanes.toNat) JoinS.new,BoxS.new⟩) w w' := by
 have kb := Blk.made w c.cells 23
 have m0 : Mod (fun _ => False) w (w.alloc (.cells c.cells 23)) := (Mod.refl _ _).alloc _
 obtain ⟨I,hI⟩ := Int.eq_ofNat_of_zero_le (show 0 ≤ c.Inbox by have := hc.I1; omega)
 have hI1 := hc.I1
 have hI2 := hc.I2
 have HB := Lib.hid (fun w => inbox_new w I (by omega) (by omega))
 have HII := Lib.hid (show (I : Int) ≤ c.Inbox∧c.Inbox ≤ (I : Int) by omega)
 rw [← hI] at HB
 have HI := Lib.hid (fun w => run_Is c node w)
 rw [hn] at HI
 have hL1 := hc.L1
 have hL2 := hc.L2
 simp only [Cfg.cells] at kb m0 HI ⊢
 clear hI
 go_enter Tryz.func74,Tryz.ntmps74
 go_upto_region 1 with fail
 generalize w.alloc (.cells #[.int .i64 c.W,.int .i64 c.H,.int .i64 c.Lanes,.int .i64 c.Depth,.int .i64 c.Ring,.int .i64 c.Inbox,.int .i64 c.Bound,.bool c.West,.bool c.Cast] 23) = w0 at kb m0 ⊢
 obtain ⟨c0,c1,c2,c3,c4,c5,c6,c7,c8⟩ := cfg_cells kb
 go_wp2_with fail
 refine (HI.out _).mono ?_
 rintro e w1 ⟨rfl,m1⟩
 have kb1 := kb.later m1 (by simp)
 have hs1 := m0.size
 have hs1b := m1.size
 have m1 := m0.trans m1 (fun _ _ e => e)
 clear c0 c1 c2 c3 c4 c5 c6 c7 c8 kb m0
 go_upto_region 3 with fail
 refine walkT_begin 5 (fun w' => Mod (fun _ => False) w1 w'∧w'.cell? ⟨w.heap.size,0,none⟩ = some (.int .i64 c.W)∧w'.cell? ⟨w.heap.size,1,none⟩ = some (.int .i64 c.H)∧w'.cell? ⟨w.heap.size,2,none⟩ = some (.int .i64 c.Lanes)∧w'.cell? ⟨w.heap.size,3,none⟩ = some (.int .i64 c.Depth)∧w'.cell? ⟨w.heap.size,4,none⟩ = some (.int .i64 c.Ring)∧w'.cell? ⟨w.heap.size,5,none⟩ = some (.int .i64 c.Inbox)∧w'.cell? ⟨w.heap.size,6,none⟩ = some (.int .i64 c.Bound)∧w'.cell? ⟨w.heap.size,7,none⟩ = some (.bool c.West)∧w'.cell? ⟨w.heap.size,8,none⟩ = some (.bool c.Cast)) (by kernel_rfl) ?_
 have hHeld : (fun w' => Mod (fun _ => False) w1 w'∧w'.cell? ⟨w.heap.size,0,none⟩ = some (.int .i64 c.W)∧w'.cell? ⟨w.heap.size,1,none⟩ = some (.int .i64 c.H)∧w'.cell? ⟨w.heap.size,2,none⟩ = some (.int .i64 c.Lanes)∧w'.cell? ⟨w.heap.size,3,none⟩ = some (.int .i64 c.Depth)∧w'.cell? ⟨w.heap.size,4,none⟩ = some (.int .i64 c.Ring)∧w'.cell? ⟨w.heap.size,5,none⟩ = some (.int .i64 c.Inbox)∧w'.cell? ⟨w.heap.size,6,none⟩ = some (.int .i64 c.Bound)∧w'.cell? ⟨w.heap.size,7,none⟩ = some (.bool c.West)∧w'.cell? ⟨w.heap.size,8,none⟩ = some (.bool c.Cast)) (w1.drew) := by exact ⟨(Mod.refl _ _).drew,cfg_cells kb1⟩
 refine takeT_run 0 (v := ?_) rfl (by kernel_rfl) (by kernel_rfl) (by kernel_rfl) (fun _ _ _ h => h) (by rfl) ?_ (by assumption) ?_
 rotate_left
 ·
  (intro wx hSw; (try dsimp only at hSw); go_simp; try with_reducible rfl)
 try simp only [Act.put,lyA,lyB,lyC]
 refine takeT_run 1 (v := ?_) rfl (by kernel_rfl) (by kernel_rfl) (by kernel_rfl) (fun _ _ _ h => h) (by rfl) ?_ (by assumption) ?_
 rotate_left
 ·
  (intro wx hSw; (try dsimp only at hSw); go_simp; try with_reducible rfl)
 try simp only [Act.put,lyA,lyB,lyC]
 refine takeT_run 3 (v := ?_) rfl (by kernel_rfl) (by kernel_rfl) (by kernel_rfl) (fun _ _ _ h => h) (by rfl) ?_ (by assumption) ?_
 rotate_left
 ·
  (intro wx hSw; (try dsimp only at hSw); go_simp; try with_reducible rfl)
 try simp only [Act.put,lyA,lyB,lyC]
 refine takeT_run 4 (v := ?_) rfl (by kernel_rfl) (by kernel_rfl) (by kernel_rfl) (fun _ _ _ h => h) (by rfl) ?_ (by assumption) ?_
 rotate_left
 ·
  (intro wx hSw; (try dsimp only at hSw); go_simp; try with_reducible rfl)
 try simp only [Act.put,lyA,lyB,lyC]
 refine takeT_one 2 rfl (by kernel_rfl) (by rfl) ?_
 intro K hK
 go_simp
 refine (HB.out _).mono ?_
 rintro e w2 ⟨bx,rfl,obx,hbx,m2,hlo⟩
 have m2 := ((Mod.refl (fun _ => False) w1).drew).trans m2 (fun _ _ e => e)
 have kb2 := kb1.later m2 (by simp)
 refine hK.out _ _ ?_ (fun hHeld' => ?_)
 ·
  exact ⟨m2,cfg_cells kb2⟩
 clear hK K hHeld
 try simp only [Act.put,lyA,lyB,lyC]
 refine walkT_tail 5 rfl rfl (by kernel_rfl) rfl ?_
 simp only [List.drop_succ_cons,List.drop_zero]
 skip
 obtain ⟨L,hL⟩ : ∃ L,c.Lanes.toNat = L := ⟨_,rfl⟩
 have HCL := Lib.hid (show c.Lanes = (L : Int) by omega)
 have hL1' : 1 ≤ L := by omega
 have hL8 : L ≤ 8 := by omega
 obtain ⟨N,hN⟩ : ∃ N,w2.heap.size = N := ⟨_,rfl⟩
 have hsz2 := m2.size
 have hlo' : ∀ k,obx k→w.heap.size ≤ k := fun k hk => by have : w1.heap.size ≤ k := hlo k hk; omega
 have hhi : ∀ k,obx k→k < N := fun k hk => by rw [← hN]; exact (BoxAt.stable _ _ _).lt hbx hk
 have hm2 := m1.trans m2 (fun _ _ e => e)
 have hwN : w.heap.size < N := by rw [← hN]; exact kb2.lt
 go_upto_region 4 with fail
 have e0 : nicK bx L (N + 1) 0 c node = #[.pointer (some ⟨bx,0,none⟩),.int .i64 c.W,.int .i64 c.H,.int .i64 c.Lanes,.int .i64 c.Depth,.int .i64 c.Ring,.int .i64 c.Inbox,.int .i64 c.Bound,.bool c.West,.bool c.Cast,.int .i64 node,.slice none 0 0,.int .i64 0,.pointer none,.pointer none,.pointer none,.pointer none,.pointer none,.pointer none,.pointer none,.pointer none,.pointer none,.pointer none,.pointer none,.pointer none,.pointer none,.pointer none,.pointer none,.pointer none,.pointer none,.pointer none,.pointer none,.pointer none,.pointer none,.pointer none,.pointer none,.pointer none,.pointer none,.pointer none,.pointer none,.pointer none,.pointer none,.pointer none,.pointer none,.pointer none,.pointer none,.pointer none,.pointer none,.pointer none,.pointer none,.pointer none,.pointer none,.pointer none] := by
  unfold nicK
  rw [joinsK_zero]
  rfl
 have kN := Blk.made w2 #[.pointer (some ⟨bx,0,none⟩),.int .i64 c.W,.int .i64 c.H,.int .i64 c.Lanes,.int .i64 c.Depth,.int .i64 c.Ring,.int .i64 c.Inbox,.int .i64 c.Bound,.bool c.West,.bool c.Cast,.int .i64 node,.slice none 0 0,.int .i64 0,.pointer none,.pointer none,.pointer none,.pointer none,.pointer none,.pointer none,.pointer none,.pointer none,.pointer none,.pointer none,.pointer none,.pointer none,.pointer none,.pointer none,.pointer none,.pointer none,.pointer none,.pointer none,.pointer none,.pointer none,.pointer none,.pointer none,.pointer none,.pointer none,.pointer none,.pointer none,.pointer none,.pointer none,.pointer none,.pointer none,.pointer none,.pointer none,.pointer none,.pointer none,.pointer none,.pointer none,.pointer none,.pointer none,.pointer none,.pointer none] 136
 have mN : Mod (fun _ => False) w2 (w2.alloc (.cells #[.pointer (some ⟨bx,0,none⟩),.int .i64 c.W,.int .i64 c.H,.int .i64 c.Lanes,.int .i64 c.Depth,.int .i64 c.Ring,.int .i64 c.Inbox,.int .i64 c.Bound,.bool c.West,.bool c.Cast,.int .i64 node,.slice none 0 0,.int .i64 0,.pointer none,.pointer none,.pointer none,.pointer none,.pointer none,.pointer none,.pointer none,.pointer none,.pointer none,.pointer none,.pointer none,.pointer none,.pointer none,.pointer none,.pointer none,.pointer none,.pointer none,.pointer none,.pointer none,.pointer none,.pointer none,.pointer none,.pointer none,.pointer none,.pointer none,.pointer none,.pointer none,.pointer none,.pointer none,.pointer none,.pointer none,.pointer none,.pointer none,.pointer none,.pointer none,.pointer none,.pointer none,.pointer none,.pointer none,.pointer none] 136)) := (Mod.refl _ _).alloc _
 have sN : (w2.alloc (.cells #[.pointer (some ⟨bx,0,none⟩),.int .i64 c.W,.int .i64 c.H,.int .i64 c.Lanes,.int .i64 c.Depth,.int .i64 c.Ring,.int .i64 c.Inbox,.int .i64 c.Bound,.bool c.West,.bool c.Cast,.int .i64 node,.slice none 0 0,.int .i64 0,.pointer none,.pointer none,.pointer none,.pointer none,.pointer none,.pointer none,.pointer none,.pointer none,.pointer none,.pointer none,.pointer none,.pointer none,.pointer none,.pointer none,.pointer none,.pointer none,.pointer none,.pointer none,.pointer none,.pointer none,.pointer none,.pointer none,.pointer none,.pointer none,.pointer none,.pointer none,.pointer none,.pointer none,.pointer none,.pointer none,.pointer none,.pointer none,.pointer none,.pointer none,.pointer none,.pointer none,.pointer none,.pointer none,.pointer none,.pointer none] 136)).heap.size = N + 1 := by rw [World.size_alloc,hN]
 rw [hN] at kN
 generalize w2.alloc (.cells #[.pointer (some ⟨bx,0,none⟩),.int .i64 c.W,.int .i64 c.H,.int .i64 c.Lanes,.int .i64 c.Depth,.int .i64 c.Ring,.int .i64 c.Inbox,.int .i64 c.Bound,.bool c.West,.bool c.Cast,.int .i64 node,.slice none 0 0,.int .i64 0,.pointer none,.pointer none,.pointer none,.pointer none,.pointer none,.pointer none,.pointer none,.pointer none,.pointer none,.pointer none,.pointer none,.pointer none,.pointer none,.pointer none,.pointer none,.pointer none,.pointer none,.pointer none,.pointer none,.pointer none,.pointer none,.pointer none,.pointer none,.pointer none,.pointer none,.pointer none,.pointer none,.pointer none,.pointer none,.pointer none,.pointer none,.pointer none,.pointer none,.pointer none,.pointer none,.pointer none,.pointer none,.pointer none,.pointer none,.pointer none] 136) = w3 at kN mN sN ⊢
 rw [← e0] at kN
 have hbx3 := (BoxAt.stable _ _ _).later hbx mN (by simp)
 have kb3 := kb2.later mN (by simp)
 have hm3 := hm2.trans mN (fun _ _ e => e)
 clear e0 hbx kb2 hm2 m2 mN hlo hN kb1 m1
 go_wp2
 go_loopw [19] (fun i wr => ∃ p : Nat,p ≤ 5∧i = .int .i64 (p : Int)∧Blk wr N (nicK bx L (N + 1) (p * L) c node) 136∧wr.heap.size = N + 1 + p * L∧(∀ k,k < p * L→Blk wr (N + 1 + k) #[.bool false,.int .i64 0,.int .i64 0,.int .i64 0,.string ⟨#[]⟩,.int .i64 0] 191)∧Mod (fun g => g = N) w3 wr) (fun i _ => 5 - (intOf i).toNat)
 case atStart => exact ⟨0,by omega,rfl,by simpa using kN,by simpa using sN,fun k hk => by omega,Mod.refl _ _⟩
 case round =>
  obtain ⟨p,hp,rfl,kN4,s4,hj4,m4⟩ := hrel
  obtain ⟨w4,rfl⟩ : ∃ wo : World,wo = wr := ⟨_,rfl⟩
  have kb4 := kb3.later m4 (by omega)
  obtain ⟨c0,c1,c2,c3,c4,c5,c6,c7,c8⟩ := cfg_cells kb4
  by_cases hlt : p < 5
  ·
   clear c0 c1 c3 c4 c5 c6 c7 c8
   rw [HCL.out] at c2
   have S4 := Lib.hid (And.intro (Nat.le_of_eq s4) (Nat.le_of_eq s4.symm))
   clear s4
   go_wp2
   go_loopw [24] (fun i wr => ∃ l : Nat,l ≤ L∧i = .int .i64 (l : Int)∧Blk wr N (nicK bx L (N + 1) (p * L + l) c node) 136∧wr.heap.size = N + 1 + (p * L + l)∧(∀ k,k < p * L + l→Blk wr (N + 1 + k) #[.bool false,.int .i64 0,.int .i64 0,.int .i64 0,.string ⟨#[]⟩,.int .i64 0] 191)∧Mod (fun g => g = N) w3 wr) (fun i _ => L - (intOf i).toNat)
   case atStart => exact ⟨0,by omega,rfl,kN4,Nat.le_antisymm S4.out.1 S4.out.2,hj4,m4⟩
   case round =>
    obtain ⟨l,hl,rfl,kN5,s5,hj5,m5⟩ := hrel
    have S5 := Lib.hid (And.intro (Nat.le_of_eq s5) (Nat.le_of_eq s5.symm))
    have HJ5 := Lib.hid hj5
    clear s5 hj5
    obtain ⟨w4,rfl⟩ : ∃ wo : World,wo = wr := ⟨_,rfl⟩
    by_cases hll : l < L
    ·
     have HSET := Lib.hid (nicK_set bx L (N + 1) p l c node hlt hll hL8)
     have i0 : (0 : Int) ≤ (p : Int) := by omega
     have i1 : (p : Int) < 5 := by omega
     have i2 : (0 : Int) ≤ (l : Int) := by omega
     have i3 : (l : Int) < 8 := by omega
     go_upto_region 10 with fail
     refine walkT_begin 8 (fun _ => True) (by kernel_rfl) ?_
     have hHeld : (fun _ => True) (w4.drew) := by trivial
     refine takeT_run 0 (v := ?_) rfl (by kernel_rfl) (by kernel_rfl) (by kernel_rfl) (fun _ _ _ h => h) (by rfl) ?_ (by assumption) ?_
     rotate_left
     ·
      (intro wx hSw; (try dsimp only at hSw); go_simp; try with_reducible rfl)
     try simp only [Act.put,lyA,lyB,lyC]
     refine takeT_run 1 (v := ?_) rfl (by kernel_rfl) (by kernel_rfl) (by kernel_rfl) (fun _ _ _ h => h) (by rfl) ?_ (by assumption) ?_
     rotate_left
     ·
      (intro wx hSw; (try dsimp only at hSw); go_simp; try with_reducible rfl)
     try simp only [Act.put,lyA,lyB,lyC]
     refine takeT_run 2 (v := ?_) rfl (by kernel_rfl) (by kernel_rfl) (by kernel_rfl) (fun _ _ _ h => h) (by rfl) ?_ (by assumption) ?_
     rotate_left
     ·
      (intro wx hSw; (try dsimp only at hSw); go_simp; try with_reducible rfl)
     try simp only [Act.put,lyA,lyB,lyC]
     refine takeT_run 4 (v := ?_) rfl (by kernel_rfl) (by kernel_rfl) (by kernel_rfl) (fun _ _ _ h => h) (by rfl) ?_ (by assumption) ?_
     rotate_left
     ·
      (intro wx hSw; (try dsimp only at hSw); go_simp; try with_reducible rfl)
     try simp only [Act.put,lyA,lyB,lyC]
     refine takeT_run 5 (v := ?_) rfl (by kernel_rfl) (by kernel_rfl) (by kernel_rfl) (fun _ _ _ h => h) (by rfl) ?_ (by assumption) ?_
     rotate_left
     ·
      (intro wx hSw; (try dsimp only at hSw); go_simp; try with_reducible rfl)
     try simp only [Act.put,lyA,lyB,lyC]
     refine takeT_run 6 (v := ?_) rfl (by kernel_rfl) (by kernel_rfl) (by kernel_rfl) (fun _ _ _ h => h) (by rfl) ?_ (by assumption) ?_
     rotate_left
     ·
      (intro wx hSw; (try dsimp only at hSw); go_simp; try with_reducible rfl)
     try simp only [Act.put,lyA,lyB,lyC]
     refine takeT_one 3 rfl (by kernel_rfl) (by rfl) ?_
     intro K hK
     go_simp
     refine (join_new' _).mono ?_
     rintro e w5 ⟨rfl,rfl⟩
     refine hK.out _ _ ?_ (fun hHeld' => ?_)
     ·
      trivial
     clear hK K hHeld
     try simp only [Act.put,lyA,lyB,lyC]
     refine takeT_run 7 (v := ?_) rfl (by kernel_rfl) (by kernel_rfl) (by kernel_rfl) (fun _ _ _ h => h) (by rfl) ?_ (by assumption) ?_
     rotate_left
     ·
      (intro wx hSw; (try dsimp only at hSw); go_simp; try with_reducible rfl)
     try simp only [Act.put,lyA,lyB,lyC]
     refine walkT_tail 8 rfl rfl (by kernel_rfl) rfl ?_
     simp only [List.drop_succ_cons,List.drop_zero]
     skip
     have kN6 := kN5.drew.alloc (.cells #[.bool false,.int .i64 0,.int .i64 0,.int .i64 0,.string ⟨#[]⟩,.int .i64 0] 191)
     have m6 := m5.drew.alloc (.cells #[.bool false,.int .i64 0,.int .i64 0,.int .i64 0,.string ⟨#[]⟩,.int .i64 0] 191)
     have kJ6 := Blk.made w4.drew #[.bool false,.int .i64 0,.int .i64 0,.int .i64 0,.string ⟨#[]⟩,.int .i64 0] 191
     have hs6 : (w4.drew.alloc (.cells #[.bool false,.int .i64 0,.int .i64 0,.int .i64 0,.string ⟨#[]⟩,.int .i64 0] 191)).heap.size = w4.heap.size + 1 := by rw [World.size_alloc]; rfl
     have HJ6 := Lib.hid (fun k hk => ((HJ5.out k hk).drew.alloc (.cells #[.bool false,.int .i64 0,.int .i64 0,.int .i64 0,.string ⟨#[]⟩,.int .i64 0] 191)))
     have z6 := kN6.fz (13 + p * 8 + l)
     have y6 := kN6.cell (13 + p * 8 + l)
     rw [Array.getElem?_eq_getElem (by simp [nicK,joinsK,nicHead]; omega)] at y6
     generalize hv6 : (nicK bx L (N + 1) (p * L + l) c node)[13 + p * 8 + l]'_ = v6 at y6
     have kJ6 : Blk (w4.drew.alloc (.cells #[.bool false,.int .i64 0,.int .i64 0,.int .i64 0,.string ⟨#[]⟩,.int .i64 0] 191)) w4.heap.size #[.bool false,.int .i64 0,.int .i64 0,.int .i64 0,.string ⟨#[]⟩,.int .i64 0] 191 := kJ6
     have hwl : N + 1 ≤ w4.heap.size := by have := S5.out.2; omega
     generalize w4.drew.alloc (.cells #[.bool false,.int .i64 0,.int .i64 0,.int .i64 0,.string ⟨#[]⟩,.int .i64 0] 191) = w6 at kN6 m6 kJ6 hs6 HJ6 z6 y6 ⊢
     have hs6' := Nat.le_of_eq hs6
     have hs6'' := Nat.le_of_eq hs6.symm
     clear hs6 hv6
     have kN7 := kN6.set (13 + p * 8 + l) (.pointer (some ⟨w4.heap.size,0,none⟩))
     have m7 := m6.setCell (p := ⟨N,13 + p * 8 + l,none⟩) (Or.inl rfl) (.pointer (some ⟨w4.heap.size,0,none⟩))
     have kJ7 := kJ6.setOther (a := ⟨N,13 + p * 8 + l,none⟩) (by simp only [ne_eq]; omega) (.pointer (some ⟨w4.heap.size,0,none⟩))
     have HJ7 := Lib.hid (fun k hk => (HJ6.out k hk).setOther (a := ⟨N,13 + p * 8 + l,none⟩) (by simp only [ne_eq]; omega) (.pointer (some ⟨w4.heap.size,0,none⟩)))
     have s7 : (w6.setCell ⟨N,13 + p * 8 + l,none⟩ (.pointer (some ⟨w4.heap.size,0,none⟩))).heap.size = w6.heap.size := by simp
     clear kN6 m6 kJ6 HJ6 HJ5
     go_upto_region 11 with fail
     generalize w6.setCell ⟨N,13 + p * 8 + l,none⟩ (.pointer (some ⟨w4.heap.size,0,none⟩)) = w7 at kN7 m7 kJ7 HJ7 s7 ⊢
     have hs7 : w7.heap.size = w4.heap.size + 1 := by rw [s7]; omega
     have REL := Lib.hid (show Blk w7 N (nicK bx L (N + 1) (p * L + (l + 1)) c node) 136∧w7.heap.size = N + 1 + (p * L + (l + 1))∧(∀ k,k < p * L + (l + 1)→Blk w7 (N + 1 + k) #[.bool false,.int .i64 0,.int .i64 0,.int .i64 0,.string ⟨#[]⟩,.int .i64 0] 191)∧Mod (fun g => g = N) w3 w7 from by
      have e4 := Nat.le_antisymm S5.out.1 S5.out.2
      rw [e4] at kN7 kJ7 hs7
      rw [HSET.out] at kN7
      refine ⟨kN7,by omega,fun k hk => ?_,m7⟩
      by_cases hkk : k < p * L + l
      ·
       exact HJ7.out k hkk
      ·
       obtain rfl : k = p * L + l := by omega
       exact kJ7)
     clear kN7 m7 kJ7 HJ7 s7 hs7 z6 y6 hs6' hs6''
     go_wp2
     go_roundw
     case rel => exact ⟨l + 1,by omega,by go_num,REL.out⟩
     case measure => simp [intOf]; omega
    ·
     have hlL : l = L := by omega
     have REL := Lib.hid (show Blk w4 N (nicK bx L (N + 1) ((p + 1) * L) c node) 136∧w4.heap.size = N + 1 + (p + 1) * L∧(∀ k,k < (p + 1) * L→Blk w4 (N + 1 + k) #[.bool false,.int .i64 0,.int .i64 0,.int .i64 0,.string ⟨#[]⟩,.int .i64 0] 191)∧Mod (fun g => g = N) w3 w4 from by
      rw [hlL,← Nat.succ_mul] at kN5
      refine ⟨kN5,?_,fun k hk => HJ5.out k (by rw [hlL,← Nat.succ_mul]; exact hk),m5⟩
      have e5 := Nat.le_antisymm S5.out.1 S5.out.2
      rw [hlL] at e5
      rw [Nat.succ_mul]
      exact e5)
     clear HJ5 S5
     go_wp2
     go_roundw
     case rel => exact ⟨p + 1,by omega,by go_num,REL.out⟩
     case measure => simp [intOf]; omega
  ·
   have hp5 : p = 5 := by omega
   subst hp5
   have FIN := Lib.hid (show Made (NicAt N c node ⟨[],0,List.replicate (5 * c.Lanes.toNat) JoinS.new,BoxS.new⟩) w w4 from by
    unfold nicK at kN4
    rw [joinsK_all L (N + 1) hL8] at kN4
    refine ⟨_,⟨bx,fun k => N + 1 + k,.slice none 0 0,Fam.stretch
     (fun i => match i with | .blk => (fun g => g = N) | .words => (fun _ => False) | .box => obx | .join k => (fun g => k < 5 * L∧g = N + 1 + k))
     (fun i => match i with | .blk => N | .words => 0 | .box => w.heap.size | .join k => N + 1 + k)
     (fun i => match i with | .blk => N + 1 | .words => 0 | .box => N | .join k => N + 1 + k + 1) ?_ ?_ ?_⟩,?_,?_⟩
    ·
     intro i
     cases i with
     | blk =>
      refine ⟨?_,fun g => Iff.rfl⟩
      show Blk w4 N (nicCells bx (fun k => N + 1 + k) c node (.slice none 0 0) 0) 136
      unfold nicCells
      rw [hL]
      exact kN4
     | words => exact Que.nil w4
     | box =>
      have := (BoxAt.stable bx I BoxS.new).later hbx3 m4 (fun g hg e => by have := hhi g hg; omega)
      rw [show nicX N bx (fun k => N + 1 + k) (.slice none 0 0) c node ⟨[],0,List.replicate (5 * c.Lanes.toNat) JoinS.new,BoxS.new⟩ .box = BoxAt bx c.Inbox.toNat BoxS.new from rfl]
      rw [show c.Inbox.toNat = I by have := HII.out; omega]
      exact this
     | join k =>
      show (if k < 5 * c.Lanes.toNat then JoinAt (N + 1 + k) ((List.replicate (5 * c.Lanes.toNat) JoinS.new).getD k JoinS.new) else Emp) w4 _
      rw [hL]
      by_cases hk : k < 5 * L
      ·
       rw [if_pos hk]
       refine ⟨?_,fun g => by simp [hk]⟩
       have e : (List.replicate (5 * L) JoinS.new).getD k JoinS.new = JoinS.new := by
        rw [List.getD_eq_getElem?_getD,List.getElem?_replicate]
        split <;> rfl
       rw [e]
       exact hj4 k hk
      ·
       rw [if_neg hk]
       intro g hg
       exact hk hg.1
    ·
     intro i g hg
     cases i with
     | blk => simp only at hg ⊢; omega
     | words => exact absurd hg (by simp)
     | box => exact ⟨hlo' g hg,hhi g hg⟩
     | join k => simp only at hg ⊢; omega
    ·
     intro i j hij
     cases i <;> cases j <;> simp only <;> first | omega | exact absurd rfl hij | (rename_i a b; have : a ≠ b := fun e => hij (by rw [e]); omega)
    ·
     exact hm3.trans' (S := fun _ => False) m4 (fun _ _ e => e) (fun g hg e => by omega)
    ·
     rintro g ⟨i,hi⟩
     cases i with
     | blk => simp only at hi; omega
     | words => exact absurd hi (by simp)
     | box => exact hlo' g hi
     | join k => simp only at hi; omega)
   clear kN4 hj4 s4 m4
   go_wp2
   go_ret
   exact ⟨N,rfl,FIN.out⟩
open Go.RowKit
def sizesV (L : Int) : Array Value := #[.int .i64 (5 * L),.int .i64 (5 * L),.int .i64 5,.int .i64 1,.int .i64 1,.int .i64 4,.int .i64 4]
theorem pick_sizes (c : Cfg) (w : World) (h1 : 1 ≤ c.Lanes) (h8 : c.Lanes ≤ 8) :
  Calls Tryz.prog 61 #[.agg c.cells] w fun e w' => e = .returned (.agg (sizesV c.Lanes))∧Mod (fun _ => False) w w' := by
 have kb := (Blk.made w c.cells 23).alloc (.cells #[.int .i64 0,.int .i64 0,.int .i64 0,.int .i64 0,.int .i64 0,.int .i64 0,.int .i64 0] 103)
 have kr := Blk.made (w.alloc (.cells c.cells 23)) #[.int .i64 0,.int .i64 0,.int .i64 0,.int .i64 0,.int .i64 0,.int .i64 0,.int .i64 0] 103
 have m0 : Mod (fun _ => False) w ((w.alloc (.cells c.cells 23)).alloc (.cells #[.int .i64 0,.int .i64 0,.int .i64 0,.int .i64 0,.int .i64 0,.int .i64 0,.int .i64 0] 103)) := ((Mod.refl _ _).alloc _).alloc _
 have e1 : IntKind.i64.wrap (5 * c.Lanes) = 5 * c.Lanes := IntWalk.i64_in _ (by omega)
 simp only [Cfg.cells,World.size_alloc] at kb kr m0 ⊢
 go_enter Tryz.func61,Tryz.ntmps61
 go_wp2
 go_returns
 exact ⟨rfl,((Mod.refl _ _).alloc _).alloc _⟩
def sumsz (L : Int) (k : Nat) : Int := ([5 * L,5 * L,5,1,1,4,4].take k).sum
def sizeN (L : Int) (k : Nat) : Int := [5 * L,5 * L,5,1,1,4,4].getD k 0
theorem sumsz_succ (L : Int) (k : Nat) (h : k < 7) : sumsz L (k + 1) = sumsz L k + sizeN L k := by
 rcases (show k = 0∨k = 1∨k = 2∨k = 3∨k = 4∨k = 5∨k = 6 by omega) with rfl | rfl | rfl | rfl | rfl | rfl | rfl <;> simp [sumsz,sizeN] <;> omega
theorem sumsz_bd (L : Int) (k : Nat) (h1 : 1 ≤ L) (h8 : L ≤ 8) : 0 ≤ sumsz L k∧sumsz L k ≤ 95 := by
 rcases (show k = 0∨k = 1∨k = 2∨k = 3∨k = 4∨k = 5∨k = 6∨7 ≤ k by omega) with rfl | rfl | rfl | rfl | rfl | rfl | rfl | h
 all_goals try (simp [sumsz]; omega)
 all_goals try (simp [sumsz]; done)
 unfold sumsz
 rw [List.take_of_length_le (by simpa using h)]
 simp
 omega
theorem sizeN_bd (L : Int) (k : Nat) (h1 : 1 ≤ L) (h8 : L ≤ 8) : 0 ≤ sizeN L k∧sizeN L k ≤ 40 := by
 rcases (show k = 0∨k = 1∨k = 2∨k = 3∨k = 4∨k = 5∨k = 6∨7 ≤ k by omega) with rfl | rfl | rfl | rfl | rfl | rfl | rfl | h
 all_goals try (simp [sizeN]; omega)
 all_goals try (simp [sizeN]; done)
 unfold sizeN
 rw [List.getD_eq_getElem?_getD,List.getElem?_eq_none (by simpa using h)]
 simp
theorem sizes_at (L : Int) (k : Nat) (h : k < 7) (w : World) : (Instr.index 103 (.agg (sizesV L)) (.int .i64 (k : Int))).run Tryz.prog w = .ok (.int .i64 (sizeN L k)) w := by
 refine run_index_one w 103 3 7 _ _ k _ Tryz.underlying103 Tryz.underlying3 rfl (by kernel_rfl) h ?_
 rcases (show k = 0∨k = 1∨k = 2∨k = 3∨k = 4∨k = 5∨k = 6 by omega) with rfl | rfl | rfl | rfl | rfl | rfl | rfl <;> rfl
theorem each_eq (c : Cfg) (h : c.chk = 0) : c.each = 10 * c.Lanes + 15 := by unfold Cfg.each; rw [if_pos h]
theorem pick_Each (c : Cfg) (w : World) :
  Calls Tryz.prog 60 #[.agg c.cells] w fun e w' => e = .returned (.int .i64 c.each)∧Mod (fun _ => False) w w' := by
 have kb := Blk.made w c.cells 23
 have m0 : Mod (fun _ => False) w (w.alloc (.cells c.cells 23)) := (Mod.refl _ _).alloc _
 simp only [Cfg.cells] at kb m0 ⊢
 go_enter Tryz.func60,Tryz.ntmps60
 go_wp2_with fail
 refine (run_Check c _).mono ?_
 rintro e w1 ⟨rfl,m1⟩
 have k1 := kb.later m1 (by simp)
 have mm := m0.trans m1 (by simp)
 clear kb m0 m1
 obtain ⟨c0,c1,c2,c3,c4,c5,c6,c7,c8⟩ := cfg_cells k1
 by_cases h : c.chk = 0
 ·
  have hok := c.ok_of h
  have hl1 := hok.L1
  have hl2 := hok.L2
  have HE := Lib.hid (each_eq c h)
  rw [h]
  clear h hok
  go_wp2_with fail
  refine (pick_sizes c _ hl1 hl2).mono ?_
  rintro e w2 ⟨rfl,m2⟩
  have mm2 := mm.trans m2 (by simp)
  simp only [sizesV]
  go_wp2
  go_loopw [3,11] (fun z i wr => ∃ k : Nat,k ≤ 7∧i = .int .i64 (k : Int)∧z = .int .i64 (sumsz c.Lanes k)∧wr = w2) (fun _ i _ => 7 - (intOf i).toNat)
  case atStart => exact ⟨0,by omega,rfl,rfl,rfl⟩
  case round =>
   obtain ⟨k,hk,rfl,rfl,rfl⟩ := hrel
   by_cases hlt : k < 7
   ·
    have q0 : (0 : Int) ≤ (k : Int) := by omega
    have q1 : (k : Int) < 7 := by omega
    have hix := sizes_at c.Lanes k hlt
    have HS := Lib.hid (sumsz_succ c.Lanes k hlt)
    have b1 := sumsz_bd c.Lanes k hl1 hl2
    have b2 := sizeN_bd c.Lanes k hl1 hl2
    have hw : IntKind.i64.wrap (sumsz c.Lanes k + sizeN c.Lanes k) = sumsz c.Lanes k + sizeN c.Lanes k := IntWalk.i64_in _ (by omega)
    simp only [sizesV] at hix
    go_wp2
    go_roundw
    case rel => exact ⟨k + 1,by omega,by go_num,by rw [HS.out],trivial⟩
    case measure => simp [intOf]; omega
   ·
    have hk7 : k = 7 := by omega
    subst hk7
    have e7 : sumsz c.Lanes 7 = 10 * c.Lanes + 15 := by simp [sumsz]; omega
    have E7 := Lib.hid e7
    clear e7
    go_wp2
    go_ret
    exact ⟨by rw [HE.out,← E7.out]; rfl,mm2⟩
 ·
  have h2 : (c.chk == 0) = false := by simpa using h
  have HE := Lib.hid (show c.each = 0 by unfold Cfg.each; rw [if_neg h])
  generalize c.chk = E at h h2 ⊢
  clear h
  go_wp2
  go_ret
  exact ⟨by rw [HE.out]; rfl,mm⟩
theorem each_bd (c : Cfg) : 0 ≤ c.each∧c.each ≤ 95 := by
 unfold Cfg.each
 split
 ·
  rename_i h
  have k := c.ok_of h
  have h1 := k.L1
  have h2 := k.L2
  omega
 ·
  omega
theorem parts_bd (c : Cfg) : 0 ≤ c.parts∧c.parts ≤ 389120 := by
 have h1 := c.nodes_bd
 have h2 := each_bd c
 unfold Cfg.parts
 refine ⟨Int.mul_nonneg h1.1 h2.1,?_⟩
 calc c.nodes * c.each ≤ 4096 * 95 := Int.mul_le_mul h1.2 h2.2 h2.1 (by omega)
  _ = 389120 := rfl
theorem pick_Count (c : Cfg) (w : World) :
  Calls Tryz.prog 42 #[.agg c.cells] w fun e w' => e = .returned (.int .i64 c.parts)∧Mod (fun _ => False) w w' := by
 have kb := Blk.made w c.cells 23
 have m0 : Mod (fun _ => False) w (w.alloc (.cells c.cells 23)) := (Mod.refl _ _).alloc _
 have HN := Lib.hid (fun w => run_Nodes c w)
 have HE := Lib.hid (fun w => pick_Each c w)
 have hb := parts_bd c
 have e1 : IntKind.i64.wrap (c.nodes * c.each) = c.parts := IntWalk.i64_in _ (by unfold Cfg.parts at hb; omega)
 have E1 := Lib.hid e1
 generalize c.nodes = n at HN e1
 generalize c.each = m at HE e1
 generalize c.parts = pp at hb e1 ⊢
 simp only [Cfg.cells] at kb m0 HN HE ⊢
 clear E1
 go_enter Tryz.func42,Tryz.ntmps42
 go_upto_region 1 with fail
 generalize w.alloc (.cells #[.int .i64 c.W,.int .i64 c.H,.int .i64 c.Lanes,.int .i64 c.Depth,.int .i64 c.Ring,.int .i64 c.Inbox,.int .i64 c.Bound,.bool c.West,.bool c.Cast] 23) = w0 at kb m0 ⊢
 refine wp_region_quiet_all (fun w' => Mod (fun _ => False) w0 w') (by kernel_rfl) (by kernel_rfl) ?_ ?_
 ·
  exact (Mod.refl _ _).drew
 refine quiet_op ?vv0 rfl ?hv0 ?rest0
 case hv0 =>
  intro wx hC
  obtain ⟨c0,c1,c2,c3,c4,c5,c6,c7,c8⟩ := cfg_cells (kb.later hC (by simp))
  go_simp
  all_goals first | exact ⟨rfl,rfl⟩ | rfl
 try simp only [Act.put,lyA,lyB,lyC]
 refine quiet_op (.int .i64 n) rfl ?hv1 ?rest1
 case hv1 =>
  intro wx hC
  obtain ⟨c0,c1,c2,c3,c4,c5,c6,c7,c8⟩ := cfg_cells (kb.later hC (by simp))
  go_simp
  refine (HN.out wx).mono ?_
  rintro e wy ⟨rfl,my⟩
  exact ⟨rfl,hC.trans my (fun _ _ e => e)⟩
 try simp only [Act.put,lyA,lyB,lyC]
 refine quiet_op ?vv2 rfl ?hv2 ?rest2
 case hv2 =>
  intro wx hC
  obtain ⟨c0,c1,c2,c3,c4,c5,c6,c7,c8⟩ := cfg_cells (kb.later hC (by simp))
  go_simp
  all_goals first | exact ⟨rfl,rfl⟩ | rfl
 try simp only [Act.put,lyA,lyB,lyC]
 refine quiet_op (.int .i64 m) rfl ?hv3 ?rest3
 case hv3 =>
  intro wx hC
  obtain ⟨c0,c1,c2,c3,c4,c5,c6,c7,c8⟩ := cfg_cells (kb.later hC (by simp))
  go_simp
  refine (HE.out wx).mono ?_
  rintro e wy ⟨rfl,my⟩
  exact ⟨rfl,hC.trans my (fun _ _ e => e)⟩
 try simp only [Act.put,lyA,lyB,lyC]
 refine quiet_op ?vv4 rfl ?hv4 ?rest4
 case hv4 =>
  intro wx hC
  obtain ⟨c0,c1,c2,c3,c4,c5,c6,c7,c8⟩ := cfg_cells (kb.later hC (by simp))
  go_simp
  all_goals first | exact ⟨rfl,rfl⟩ | rfl
 try simp only [Act.put,lyA,lyB,lyC]
 refine quiet_op ?vv5 rfl ?hv5 ?rest5
 case hv5 =>
  intro wx hC
  obtain ⟨c0,c1,c2,c3,c4,c5,c6,c7,c8⟩ := cfg_cells (kb.later hC (by simp))
  go_simp
  all_goals first | exact ⟨rfl,rfl⟩ | rfl
 try simp only [Act.put,lyA,lyB,lyC]
 refine wpQuiet_nil ?_
 intro wq hC
 go_wp2
 go_ret
 exact ⟨rfl,m0.trans hC (fun _ _ e => e)⟩
end Go.Proofs.YtfiklfkfbcpmgaaGreat
