/- Parts: FlitD FlitRd Lane. No condition. -/
import Derived.Test.YtfiklfkfbcpmgaaGreatJ05
import Derived.Test.YtfiklfkfbcpmgaaGreatJ04
set_option linter.all false
set_option maxRecDepth 100000
set_option maxHeartbeats 3200000
namespace Go.Proofs.YtfiklfkfbcpmgaaGreat
open Go.RowKit
def datN (x : Nat) : Flit := ⟨((x % 4 : Nat) : Int),0,0,0,0,false,false,⟨(bytesN (min (x / 4 % 8) 6) (x / 32)).toArray⟩⟩
def bytesV (l : List UInt8) : List Value := l.map fun b => .int .u8 (b.toNat : Int)
theorem bytesN_succ (k n : Nat) : bytesN (k + 1) n = bytesN k n ++ [UInt8.ofNat (n / 256 ^ k % 256)] := by
 induction k generalizing n with
 | zero => simp [bytesN]
 | succ k ih =>
  rw [bytesN,ih,bytesN,List.cons_append,Nat.div_div_eq_div_mul,Nat.pow_succ,Nat.mul_comm 256]
theorem byte_ofNat (n : Nat) : ((UInt8.ofNat (n % 256)).toNat : Int) = ((n % 256 : Nat) : Int) := by
 rw [UInt8.toNat_ofNat']
 congr 1
 omega
theorem bytes_back {w : World} {v : Value} {l : List UInt8} (h : SlV w v (bytesV l)) : (convert 238 9 v).run Tryz.prog w = .ok (.string ⟨l.toArray⟩) w := by
 obtain ⟨a,n,c,rfl,hn,hc,hm,h⟩ := h
 have hn : l.length = n := by simpa [bytesV] using hn
 subst hn
 rcases h with h | ⟨B,off,rfl,hB,hcell⟩
 ·
  have hl : l = [] := by simpa [bytesV] using h
  subst hl
  rw [List.length_nil,run_convert_bytes_string w 238 9 5 a 0 c Tryz.underlying238 Tryz.underlying5 Tryz.underlying9]
  cases a <;> rfl
 ·
  refine run_convert_bytes_back w 238 9 5 ⟨B,off,none⟩ c l Tryz.underlying238 Tryz.underlying5 Tryz.underlying9 fun j hj => ?_
  have := hcell j (by simpa [bytesV] using hj)
  rw [show (⟨B,off,none⟩ : Addr).add j = ⟨B,off + j,none⟩ by simp [Addr.add],this]
  simp [bytesV,hj]
theorem info_u8 : (Tryz.prog.info? 5).map (fun i => (i.zero,i.size,i.bytes)) = some (some (.int .u8 0),1,1) := by kernel_rfl
theorem flit_data (x : Nat) (w : World) (hx : x < 2 ^ 64) :
  Calls Tryz.prog 198 #[.int .u64 (x : Int)] w fun e w' => e = .returned (.agg (datN x).cells)∧Mod (fun _ => False) w w' := by
 have HX := Lib.hid hx
 have hfit : FitL 0 [2,3] := by simp [FitL]
 have HFit := Lib.hid hfit
 have kb := Blk.made w #[.int .i64 0,.int .i64 0,.int .i64 0,.int .i64 0,.int .i64 0,.bool false,.bool false,.string ⟨#[]⟩] 197
 have m0 : Mod (fun _ => False) w (w.alloc (.cells #[.int .i64 0,.int .i64 0,.int .i64 0,.int .i64 0,.int .i64 0,.bool false,.bool false,.string ⟨#[]⟩] 197)) := (Mod.refl _ _).alloc _
 have HS1 := Lib.hid (show (w.alloc (.cells #[.int .i64 0,.int .i64 0,.int .i64 0,.int .i64 0,.int .i64 0,.bool false,.bool false,.string ⟨#[]⟩] 197)).heap.size = w.heap.size + 1 by simp)
 have s0 : w.heap.size < (w.alloc (.cells #[.int .i64 0,.int .i64 0,.int .i64 0,.int .i64 0,.int .i64 0,.bool false,.bool false,.string ⟨#[]⟩] 197)).heap.size := by simp
 have hk4 : x % 4 < 4 := Nat.mod_lt _ (by decide)
 have hfin : (datN x).cells = #[.int .i64 ((x % 4 : Nat) : Int),.int .i64 0,.int .i64 0,.int .i64 0,.int .i64 0,.bool false,.bool false,.string ⟨(bytesN (min (x / 4 % 8) 6) (x / 32)).toArray⟩] := rfl
 obtain ⟨n,hn⟩ : ∃ n,min (x / 4 % 8) 6 = n := ⟨_,rfl⟩
 obtain ⟨k4,hk⟩ : ∃ k,x % 4 = k := ⟨_,rfl⟩
 obtain ⟨q8,hq⟩ : ∃ k,x / 4 % 8 = k := ⟨_,rfl⟩
 have hn6 : n ≤ 6 := by omega
 have hunp : natsU (unpL x [2,3]) = [.int .u32 (k4 : Int),.int .u32 (q8 : Int)] := by
  simp only [unpL,natsU,List.map_cons,List.map_nil]
  rw [show (2 : Nat) ^ 2 = 4 from rfl,show (2 : Nat) ^ 3 = 8 from rfl,hk,hq]
 rw [hn,hk] at hfin
 rw [hk] at hk4
 have hq8 : q8 < 8 := by omega
 have hmin : min q8 6 = n := by rw [← hq]; exact hn
 rw [hfin]
 have HU := Lib.hid hunp
 have HMin := Lib.hid hmin
 clear hx hfit hfin hn hk hq hunp hmin
 go_enter Tryz.func198,Tryz.ntmps198
 go_wp2_with fail
 generalize w.alloc (.cells #[.int .i64 0,.int .i64 0,.int .i64 0,.int .i64 0,.int .i64 0,.bool false,.bool false,.string ⟨#[]⟩] 197) = w1 at kb m0 s0 HS1 ⊢
 refine (bits_unpack _ x [2,3] _ HX.out ?_ HFit.out).mono ?_
 ·
  exact SlV.new' 3 _ 2 2 _ HS1.out rfl rfl
 rintro e w2 ⟨r,rfl,hsl,m2,-⟩
 rw [HU.out] at hsl
 have m12 : Mod (fun _ => False) w1 w2 := ((Mod.refl (fun _ => False) w1).alloc _).trans m2 (fun i hi e => e)
 have k2 := kb.later m12 (by simp)
 have mm2 := m0.trans m12 (by simp)
 have s2 := m12.size
 obtain ⟨a,nn,c,rfl,hnn,hcn,hmn,-⟩ := id hsl
 obtain rfl : 2 = nn := by simpa using hnn
 obtain ⟨B,off,rfl,hB,d0⟩ := hsl.at 0 (by omega)
 obtain ⟨B',off',hBB,-,d1⟩ := hsl.at 1 (by omega)
 simp only [Option.some.injEq,Addr.mk.injEq,and_true] at hBB
 obtain ⟨rfl,rfl⟩ := hBB
 simp only [List.getD_cons_zero,List.getD_cons_succ,Nat.add_zero] at d0 d1
 have kf := Blk.made w2 #[.int .i64 (k4 : Int),.int .i64 0,.int .i64 0,.int .i64 0,.int .i64 0,.bool false,.bool false,.string ⟨#[]⟩] 197
 have m3 : Mod (fun _ => False) w2 (w2.alloc (.cells #[.int .i64 (k4 : Int),.int .i64 0,.int .i64 0,.int .i64 0,.int .i64 0,.bool false,.bool false,.string ⟨#[]⟩] 197)) := (Mod.refl _ _).alloc _
 have k3 := k2.later m3 (by simp)
 have mm3 := mm2.trans m3 (by simp)
 have s3 : w2.heap.size < (w2.alloc (.cells #[.int .i64 (k4 : Int),.int .i64 0,.int .i64 0,.int .i64 0,.int .i64 0,.bool false,.bool false,.string ⟨#[]⟩] 197)).heap.size := by simp
 have e1 := (show min (q8 : Int) 6 = (n : Int) by have := HMin.out; omega)
 have hlim : (6 < (q8 : Int)∧n = 6)∨((q8 : Int) ≤ 6∧n = q8) := by have := HMin.out; omega
 have HN := Lib.hid (show ((n : Int) = if 6 < (q8 : Int) then 6 else (q8 : Int)) by split <;> omega)
 clear hcn hnn hlim
 have HE1 := Lib.hid e1
 clear e1
 go_upto_region 4 with fail
 generalize w2.alloc (.cells #[.int .i64 (k4 : Int),.int .i64 0,.int .i64 0,.int .i64 0,.int .i64 0,.bool false,.bool false,.string ⟨#[]⟩] 197) = w3 at kf m3 k3 mm3 s3 ⊢
 have d1 := (m3.cell (p := ⟨B,off + 1,none⟩) hB (by simp)).trans d1
 go_cut [25,26] (fun z i w' => z = .int .i64 (n : Int)∧i = .int .i64 0∧w3 = w')
 case first =>
  go_wp2_with fail
  all_goals go_meet
  all_goals exact ⟨by rw [HN.out]; (first | rw [if_pos ‹_›] | rw [if_neg (by omega)]),rfl,rfl⟩
 case rest =>
 obtain ⟨rfl,rfl,rfl⟩ := hcut
 clear d0 d1 hsl
 have s3' := s3
 have HS3 := Lib.hid s3'
 go_wp2
 go_loopw [6,26] (fun z i wr => ∃ k : Nat,k ≤ n∧i = .int .i64 (k : Int)∧wr.ownsRow w3.heap.size 5 1 z k (bytesV (bytesN k (x / 32)))∧Mod (fun q => w3.heap.size ≤ q) w3 wr) (fun _ i _ => n - (intOf i).toNat)
 case atStart => exact ⟨0,by omega,by simp,by simp [bytesN,bytesV]; exact World.ownsRow_nil _ _ _ _,Mod.refl _ _⟩
 case round =>
  obtain ⟨k,hk,rfl,hown,hmod⟩ := hrel
  obtain ⟨wA,rfl⟩ : ∃ wo : World,wo = wr := ⟨_,rfl⟩
  have m4 : Mod (fun _ => False) w3 wA := hmod.mono (fun i hi e => by omega)
  by_cases hlt : k < n
  ·
   have hget : ∀ w,Calls Tryz.prog 215 #[.int .u64 (x : Int),.int .i64 (5 + 8 * (k : Int)),.int .i64 8] w fun e w' => e = .returned (.tuple #[.int .u32 ((x / 2 ^ (8 * k + 5) % 2 ^ 8 : Nat) : Int),.int .i64 0])∧Drw w w' := by
    intro w
    have := bits_get x (8 * k + 5) 8 w HX.out (by omega) (by omega) (by omega)
    rw [show ((8 * k + 5 : Nat) : Int) = 5 + 8 * (k : Int) by omega] at this
    exact this
   have HG := Lib.hid hget
   clear hget
   have HB := Lib.hid (show (((x / 2 ^ (8 * k + 5) % 2 ^ 8 : Nat) : Int)) = (((UInt8.ofNat (x / 32 / 256 ^ k % 256)).toNat : Int)) by
    rw [byte_ofNat,Nat.add_comm,Nat.pow_add,← Nat.div_div_eq_div_mul,Nat.pow_mul])
   generalize x / 2 ^ (8 * k + 5) % 2 ^ 8 = y at HG HB
   have hy : y < 256 := by have := HB.out; have := (UInt8.ofNat (x / 32 / 256 ^ k % 256)).toNat_lt; omega
   have hbs := hmod.size
   have hlow := fun i e => (hown.lt i e).1
   go_wp2_with fail
   refine (HG.out _).mono ?_
   rintro e w5 ⟨rfl,d5⟩
   have m5 := d5.mod (fun _ => False)
   have hown5 := own_laterF hown m5 (by simp)
   have hbs5 := m5.size
   go_wp2_with (at_builtin; refine wpList_append1 rfl _ _ 238 rfl w3.heap.size 5 (.int .u8 0) 1 Tryz.underlying238 info_u8 rfl _ _ _ rfl hown5 _ rfl rfl (by unfold maxLen; omega) (by omega) (by omega) ?_; intro v7 wz hown7 hm7)
   go_roundw
   case rel =>
    refine ⟨k + 1,by omega,by go_num,?_,(hmod.trans m5 (fun i hi e => e.elim)).trans hm7 (fun i hi e => hlow i e)⟩
    rw [bytesN_succ]
    rw [HB.out] at hown7
    simpa [bytesV] using hown7
   case measure => simp [intOf]; omega
  ·
   have hkn : k = n := by omega
   rw [hkn] at hown
   have HCV := Lib.hid (bytes_back (SlV.own hown))
   have kA := kf.later m4 (by simp)
   have kB := k3.later m4 (by simp)
   have hne : w.heap.size ≠ w2.heap.size := by omega
   have mmA := mm3.trans m4 (fun i hi e => e)
   have hcv := HCV.out
   obtain ⟨ba,hba⟩ : ∃ ba,(ByteArray.mk (bytesN n (x / 32)).toArray) = ba := ⟨_,rfl⟩
   rw [hba] at hcv
   have HBA := Lib.hid hba
   clear hba HCV
   have z7 := kA.fz 7
   have x7 := kA.cell 7
   simp at x7
   have kA2 := kA.set 7 (.string ba)
   have kB2 := kB.setOther (a := ⟨w2.heap.size,7,none⟩) hne (.string ba)
   simp at kA2
   have y0 := kA2.cell 0
   have y1 := kA2.cell 1
   have y2 := kA2.cell 2
   have y3 := kA2.cell 3
   have y4 := kA2.cell 4
   have y5 := kA2.cell 5
   have y6 := kA2.cell 6
   have y7 := kA2.cell 7
   simp at y0 y1 y2 y3 y4 y5 y6 y7
   have mmB : Mod (fun _ => False) w (wA.setCell ⟨w2.heap.size,7,none⟩ (.string ba)) := mmA.setCell (Or.inr (by show w.heap.size ≤ w2.heap.size; omega)) _
   clear hown hkn
   go_upto_region 11 with fail
   generalize wA.setCell ⟨w2.heap.size,7,none⟩ (.string ba) = wB at y0 y1 y2 y3 y4 y5 y6 y7 mmB kB2 ⊢
   clear kA2 kA kB k3 kf
   have v0 := kB2.cell 0
   have v1 := kB2.cell 1
   have v2 := kB2.cell 2
   have v3 := kB2.cell 3
   have v4 := kB2.cell 4
   have v5 := kB2.cell 5
   have v6 := kB2.cell 6
   have v7 := kB2.cell 7
   simp at v0 v1 v2 v3 v4 v5 v6 v7
   have u0 := kB2.fz 0
   have u1 := kB2.fz 1
   have u2 := kB2.fz 2
   have u3 := kB2.fz 3
   have u4 := kB2.fz 4
   have u5 := kB2.fz 5
   have u6 := kB2.fz 6
   have u7 := kB2.fz 7
   go_wp2
   have qE := ((((((((kB2.set (0) (.int .i64 (k4 : Int))).set (1) (.int .i64 0)).set (2) (.int .i64 0)).set (3) (.int .i64 0)).set (4) (.int .i64 0)).set (5) (.bool false)).set (6) (.bool false)).set (7) (.string ba))
   have mE := ((((((((mmB.setCell (p := ⟨w.heap.size,0,none⟩) (Or.inr (Nat.le_refl _)) (.int .i64 (k4 : Int))).setCell (p := ⟨w.heap.size,1,none⟩) (Or.inr (Nat.le_refl _)) (.int .i64 0)).setCell (p := ⟨w.heap.size,2,none⟩) (Or.inr (Nat.le_refl _)) (.int .i64 0)).setCell (p := ⟨w.heap.size,3,none⟩) (Or.inr (Nat.le_refl _)) (.int .i64 0)).setCell (p := ⟨w.heap.size,4,none⟩) (Or.inr (Nat.le_refl _)) (.int .i64 0)).setCell (p := ⟨w.heap.size,5,none⟩) (Or.inr (Nat.le_refl _)) (.bool false)).setCell (p := ⟨w.heap.size,6,none⟩) (Or.inr (Nat.le_refl _)) (.bool false)).setCell (p := ⟨w.heap.size,7,none⟩) (Or.inr (Nat.le_refl _)) (.string ba))
   simp at qE
   generalize ((((((((wB.setCell ⟨w.heap.size,0,none⟩ (.int .i64 (k4 : Int))).setCell ⟨w.heap.size,1,none⟩ (.int .i64 0)).setCell ⟨w.heap.size,2,none⟩ (.int .i64 0)).setCell ⟨w.heap.size,3,none⟩ (.int .i64 0)).setCell ⟨w.heap.size,4,none⟩ (.int .i64 0)).setCell ⟨w.heap.size,5,none⟩ (.bool false)).setCell ⟨w.heap.size,6,none⟩ (.bool false)).setCell ⟨w.heap.size,7,none⟩ (.string ba)) = wE at qE mE ⊢
   have qe0 := qE.cell 0
   have qe1 := qE.cell 1
   have qe2 := qE.cell 2
   have qe3 := qE.cell 3
   have qe4 := qE.cell 4
   have qe5 := qE.cell 5
   have qe6 := qE.cell 6
   have qe7 := qE.cell 7
   simp at qe0 qe1 qe2 qe3 qe4 qe5 qe6 qe7
   exact bodyPost_ret (v := .agg #[.int .i64 (k4 : Int),.int .i64 0,.int .i64 0,.int .i64 0,.int .i64 0,.bool false,.bool false,.string ba]) (by simp [results,Tryz.results198,go_sem,qe0,qe1,qe2,qe3,qe4,qe5,qe6,qe7]) rfl ⟨by rw [HBA.out],mE⟩
open Go.RowKit
def rdV (x : Nat) : Flit := (rdF x).getD Flit.none
theorem flit_write (f : Flit) (w : World) :
  Calls Tryz.prog 165 #[.agg f.cells] w fun e w' => e = .returned (if f.right = true then .tuple #[.int .u64 ((wr f : Nat) : Int),.int .i64 0] else .tuple #[.int .u64 0,.int .i64 1])∧Mod (fun _ => False) w w' := by
 by_cases hr : f.right = true
 ·
  rw [if_pos hr]
  by_cases hk : f.kind = 1
  ·
   exact flit_write_head f w hk hr
  ·
   exact flit_write_body f w hk hr
 ·
  rw [if_neg hr]
  exact flit_write_no f w (by simpa using hr)
theorem unp_head (x : Nat) : natsU (unpL x [2,12,12,16,7,1,1]) = [.int .u32 ((x % 4 : Nat) : Int),.int .u32 ((x / 2 ^ 2 % 4096 : Nat) : Int),.int .u32 ((x / 2 ^ 14 % 4096 : Nat) : Int),.int .u32 ((x / 2 ^ 26 % 65536 : Nat) : Int),.int .u32 ((x / 2 ^ 42 % 128 : Nat) : Int),.int .u32 ((x / 2 ^ 49 % 2 : Nat) : Int),.int .u32 ((x / 2 ^ 50 % 2 : Nat) : Int)] := by
 simp only [unpL,natsU,List.map_cons,List.map_nil,Nat.div_div_eq_div_mul,← Nat.pow_add]
theorem decN_dat {x : Nat} (h : x % 4 ≠ 1) : decN x = datN x := by
 unfold decN datN
 rw [if_neg h]
theorem rd_no {x : Nat} (h : ¬ (rightN x = true∧(decN x).right = true∧wr (decN x) = x)) : rdV x = Flit.none := by
 unfold rdV rdF
 rw [if_neg h]
 rfl
theorem rd_yes {x : Nat} (h : rightN x = true∧(decN x).right = true∧wr (decN x) = x) : rdV x = decN x := by
 unfold rdV rdF
 rw [if_pos h]
 rfl
def readS (x : Nat) (f : Flit) : Flit × Int := if f.right = true∧wr f = x then (f,0) else (Flit.none,2)
theorem readS_eq {x : Nat} (h : rightN x = true) : readS x (decN x) = (rdV x,rdE x) := by
 unfold readS rdE
 by_cases h2 : (decN x).right = true∧wr (decN x) = x
 ·
  rw [if_pos h2,if_pos h,if_pos h2,rd_yes ⟨h,h2⟩]
 ·
  rw [if_neg h2,if_pos h,if_neg h2,rd_no (fun e => h2 e.2)]
theorem flit_read (x : Nat) (w : World) (hx : x < 2 ^ 64) :
  Calls Tryz.prog 168 #[.int .u64 (x : Int)] w fun e w' => e = .returned (.tuple #[.agg (rdV x).cells,.int .i64 (rdE x)])∧Mod (fun _ => False) w w' := by
 have HX := Lib.hid hx
 have HR := Lib.hid (fun w => bits_rightW x w hx)
 have kb := Blk.made w #[.int .i64 0,.int .i64 0,.int .i64 0,.int .i64 0,.int .i64 0,.bool false,.bool false,.string ⟨#[]⟩] 197
 have m0 : Mod (fun _ => False) w (w.alloc (.cells #[.int .i64 0,.int .i64 0,.int .i64 0,.int .i64 0,.int .i64 0,.bool false,.bool false,.string ⟨#[]⟩] 197)) := (Mod.refl _ _).alloc _
 have HS1 := Lib.hid (show (w.alloc (.cells #[.int .i64 0,.int .i64 0,.int .i64 0,.int .i64 0,.int .i64 0,.bool false,.bool false,.string ⟨#[]⟩] 197)).heap.size = w.heap.size + 1 by simp)
 have s0 : w.heap.size < (w.alloc (.cells #[.int .i64 0,.int .i64 0,.int .i64 0,.int .i64 0,.int .i64 0,.bool false,.bool false,.string ⟨#[]⟩] 197)).heap.size := by simp
 clear hx
 by_cases hr : rightN x = true
 rotate_left
 ·
  have e1 : rdV x = Flit.none := rd_no (fun e => hr e.1)
  have e2 : rdE x = 3 := by unfold rdE; rw [if_neg hr]
  have hr' : rightN x = false := by simpa using hr
  rw [e1,e2]
  rw [hr'] at HR
  clear hr e1 e2 hr'
  go_enter Tryz.func168,Tryz.ntmps168
  go_wp2_with fail
  generalize w.alloc (.cells #[.int .i64 0,.int .i64 0,.int .i64 0,.int .i64 0,.int .i64 0,.bool false,.bool false,.string ⟨#[]⟩] 197) = w1 at kb m0 s0 HS1 ⊢
  refine (HR.out _).mono ?_
  rintro e w2 ⟨rfl,rfl⟩
  have v0 := kb.cell 0
  have v1 := kb.cell 1
  have v2 := kb.cell 2
  have v3 := kb.cell 3
  have v4 := kb.cell 4
  have v5 := kb.cell 5
  have v6 := kb.cell 6
  have v7 := kb.cell 7
  simp at v0 v1 v2 v3 v4 v5 v6 v7
  have u0 := kb.fz 0
  have u1 := kb.fz 1
  have u2 := kb.fz 2
  have u3 := kb.fz 3
  have u4 := kb.fz 4
  have u5 := kb.fz 5
  have u6 := kb.fz 6
  have u7 := kb.fz 7
  go_wp2
  have qE := ((((((((kb.set (0) (.int .i64 0)).set (1) (.int .i64 0)).set (2) (.int .i64 0)).set (3) (.int .i64 0)).set (4) (.int .i64 0)).set (5) (.bool false)).set (6) (.bool false)).set (7) (.string ⟨#[]⟩))
  have mE := ((((((((m0.setCell (p := ⟨w.heap.size,0,none⟩) (Or.inr (Nat.le_refl _)) (.int .i64 0)).setCell (p := ⟨w.heap.size,1,none⟩) (Or.inr (Nat.le_refl _)) (.int .i64 0)).setCell (p := ⟨w.heap.size,2,none⟩) (Or.inr (Nat.le_refl _)) (.int .i64 0)).setCell (p := ⟨w.heap.size,3,none⟩) (Or.inr (Nat.le_refl _)) (.int .i64 0)).setCell (p := ⟨w.heap.size,4,none⟩) (Or.inr (Nat.le_refl _)) (.int .i64 0)).setCell (p := ⟨w.heap.size,5,none⟩) (Or.inr (Nat.le_refl _)) (.bool false)).setCell (p := ⟨w.heap.size,6,none⟩) (Or.inr (Nat.le_refl _)) (.bool false)).setCell (p := ⟨w.heap.size,7,none⟩) (Or.inr (Nat.le_refl _)) (.string ⟨#[]⟩))
  simp at qE
  generalize ((((((((w2.setCell ⟨w.heap.size,0,none⟩ (.int .i64 0)).setCell ⟨w.heap.size,1,none⟩ (.int .i64 0)).setCell ⟨w.heap.size,2,none⟩ (.int .i64 0)).setCell ⟨w.heap.size,3,none⟩ (.int .i64 0)).setCell ⟨w.heap.size,4,none⟩ (.int .i64 0)).setCell ⟨w.heap.size,5,none⟩ (.bool false)).setCell ⟨w.heap.size,6,none⟩ (.bool false)).setCell ⟨w.heap.size,7,none⟩ (.string ⟨#[]⟩)) = wE at qE mE ⊢
  have qe0 := qE.cell 0
  have qe1 := qE.cell 1
  have qe2 := qE.cell 2
  have qe3 := qE.cell 3
  have qe4 := qE.cell 4
  have qe5 := qE.cell 5
  have qe6 := qE.cell 6
  have qe7 := qE.cell 7
  simp at qe0 qe1 qe2 qe3 qe4 qe5 qe6 qe7
  exact bodyPost_ret (v := .tuple #[.agg #[.int .i64 0,.int .i64 0,.int .i64 0,.int .i64 0,.int .i64 0,.bool false,.bool false,.string ⟨#[]⟩],.int .i64 3]) (by simp [results,Tryz.results168,go_sem,qe0,qe1,qe2,qe3,qe4,qe5,qe6,qe7]) rfl ⟨rfl,mE⟩
 have HRS := Lib.hid (readS_eq hr)
 rw [hr] at HR
 have hdec : (decN x) = if x % 4 = 1 then decN x else datN x := by
  split
  ·
   rfl
  ·
   rename_i h
   exact decN_dat h
 have hdk : (datN x).kind = ((x % 4 : Nat) : Int) := rfl
 have HDAT := Lib.hid (fun w => flit_data x w HX.out)
 obtain ⟨z,hz⟩ : ∃ z,x % 4 = z := ⟨_,rfl⟩
 have hcells : (datN x).cells = #[.int .i64 (z : Int),.int .i64 0,.int .i64 0,.int .i64 0,.int .i64 0,.bool false,.bool false,.string (datN x).data] := by rw [← hz]; rfl
 rw [hcells] at HDAT
 have HHC := Lib.hid hcells
 have HZ := Lib.hid hz
 clear hr hdec hdk hcells hz
 go_enter Tryz.func168,Tryz.ntmps168
 go_wp2_with fail
 generalize w.alloc (.cells #[.int .i64 0,.int .i64 0,.int .i64 0,.int .i64 0,.int .i64 0,.bool false,.bool false,.string ⟨#[]⟩] 197) = w1 at kb m0 s0 HS1 ⊢
 refine (HR.out _).mono ?_
 rintro e w2 ⟨rfl,rfl⟩
 go_wp2_with fail
 refine (HDAT.out _).mono ?_
 rintro e w3 ⟨rfl,m3⟩
 have k3 := kb.later m3 (by simp)
 have mm3 := m0.trans m3 (by simp)
 have s3 := m3.size
 clear kb m3
 go_upto_region 4 with fail
 have kf := Blk.made w3 #[.int .i64 (z : Int),.int .i64 0,.int .i64 0,.int .i64 0,.int .i64 0,.bool false,.bool false,.string (datN x).data] 197
 have mf : Mod (fun _ => False) w3 (w3.alloc (.cells #[.int .i64 (z : Int),.int .i64 0,.int .i64 0,.int .i64 0,.int .i64 0,.bool false,.bool false,.string (datN x).data] 197)) := (Mod.refl _ _).alloc _
 have s4 : w3.heap.size < (w3.alloc (.cells #[.int .i64 (z : Int),.int .i64 0,.int .i64 0,.int .i64 0,.int .i64 0,.bool false,.bool false,.string (datN x).data] 197)).heap.size := by simp
 generalize w3.alloc (.cells #[.int .i64 (z : Int),.int .i64 0,.int .i64 0,.int .i64 0,.int .i64 0,.bool false,.bool false,.string (datN x).data] 197) = w4 at kf mf s4 ⊢
 have y0 := kf.cell 0
 simp at y0
 have k4 := k3.later mf (by simp)
 have mm4 := mm3.trans mf (by simp)
 clear k3 mm3
 go_upto_if 17 with fail
 go_cut [] (fun w' => Blk w' w3.heap.size (decN x).cells 197∧Mod (fun k => k = w3.heap.size) w4 w')
 case first =>
  have hz := HZ.out
  by_cases h1 : z = 1
  rotate_left
  ·
   have q1 : ((z : Int) == 1) = false := by simp; omega
   have e1 : decN x = datN x := decN_dat (by omega)
   have hb : Blk w4 w3.heap.size (decN x).cells 197∧Mod (fun k => k = w3.heap.size) w4 w4 := by
    rw [e1,HHC.out]
    exact ⟨kf,Mod.refl _ _⟩
   have HB := Lib.hid hb
   clear hb
   clear h1 e1 kf hz
   go_wp2_with fail
   all_goals go_meet
   all_goals exact HB.out
  have q1 : ((z : Int) == 1) = true := by simp; omega
  have hfit : FitL 0 [2,12,12,16,7,1,1] := by simp [FitL]
  have HFit := Lib.hid hfit
  have HUH := Lib.hid (unp_head x)
  have hdc : (decN x).cells = #[.int .i64 1,.int .i64 ((x / 2 ^ 2 % 4096 : Nat) : Int),.int .i64 ((x / 2 ^ 14 % 4096 : Nat) : Int),.int .i64 ((x / 2 ^ 26 % 65536 : Nat) : Int),.int .i64 ((x / 2 ^ 42 % 128 : Nat) : Int),.bool (decide (x / 2 ^ 49 % 2 = 1)),.bool (decide (x / 2 ^ 50 % 2 = 1)),.string ⟨#[]⟩] := by
   unfold decN Flit.cells
   rw [if_pos (by omega)]
  have HDC := Lib.hid hdc
  have l1 : x / 2 ^ 2 % 4096 < 4096 := Nat.mod_lt _ (by decide)
  have l2 : x / 2 ^ 14 % 4096 < 4096 := Nat.mod_lt _ (by decide)
  have l3 : x / 2 ^ 26 % 65536 < 65536 := Nat.mod_lt _ (by decide)
  have l4 : x / 2 ^ 42 % 128 < 128 := Nat.mod_lt _ (by decide)
  have l5 : x / 2 ^ 49 % 2 < 2 := Nat.mod_lt _ (by decide)
  have l6 : x / 2 ^ 50 % 2 < 2 := Nat.mod_lt _ (by decide)
  generalize x / 2 ^ 2 % 4096 = v1 at l1 HUH HDC
  generalize x / 2 ^ 14 % 4096 = v2 at l2 HUH HDC
  generalize x / 2 ^ 26 % 65536 = v3 at l3 HUH HDC
  generalize x / 2 ^ 42 % 128 = v4 at l4 HUH HDC
  generalize x / 2 ^ 49 % 2 = v5 at l5 HUH HDC
  generalize x / 2 ^ 50 % 2 = v6 at l6 HUH HDC
  generalize x % 4 = v0 at HUH
  clear h1 hdc hfit hz
  go_wp2_with fail
  refine (flit_head _).mono ?_
  rintro e w5 ⟨hd,rfl,hsl,m5⟩
  have k5 := kf.later m5 (by simp)
  have HSL := Lib.hid hsl
  clear hsl kf
  go_wp2_with fail
  refine (bits_unpack _ x [2,12,12,16,7,1,1] _ HX.out HSL.out HFit.out).mono ?_
  rintro e w6 ⟨r,rfl,hsl,m6,hfr⟩
  rw [HUH.out] at hsl
  have k6 := k5.later m6 (by simp)
  have mm6 := m5.trans m6 (by simp)
  have s5 := m5.size
  have s6 := m6.size
  obtain ⟨a,nn,c,rfl,hnn,hcn,hmn,-⟩ := id hsl
  obtain rfl : 7 = nn := by simpa using hnn
  obtain ⟨B,off,rfl,hB,d1⟩ := hsl.at 1 (by omega)
  obtain ⟨B2,off2,hb2,-,d2⟩ := hsl.at 2 (by omega)
  obtain ⟨B3,off3,hb3,-,d3⟩ := hsl.at 3 (by omega)
  obtain ⟨B4,off4,hb4,-,d4⟩ := hsl.at 4 (by omega)
  obtain ⟨B5,off5,hb5,-,d5⟩ := hsl.at 5 (by omega)
  obtain ⟨B6,off6,hb6,-,d6⟩ := hsl.at 6 (by omega)
  have hBw : B ≠ w3.heap.size := by
   have := hfr B rfl
   omega
  clear hfr
  simp only [Option.some.injEq,Addr.mk.injEq,and_true] at hb2 hb3 hb4 hb5 hb6
  obtain ⟨rfl,rfl⟩ := hb2
  obtain ⟨rfl,rfl⟩ := hb3
  obtain ⟨rfl,rfl⟩ := hb4
  obtain ⟨rfl,rfl⟩ := hb5
  obtain ⟨rfl,rfl⟩ := hb6
  simp only [List.getD_cons_zero,List.getD_cons_succ] at d1 d2 d3 d4 d5 d6
  clear hsl hnn hcn k5 y0
  have y0 := k6.cell 0
  have y1 := k6.cell 1
  have y2 := k6.cell 2
  have y3 := k6.cell 3
  have y4 := k6.cell 4
  have y5 := k6.cell 5
  have y6 := k6.cell 6
  have y7 := k6.cell 7
  simp at y0 y1 y2 y3 y4 y5 y6 y7
  have u0 := k6.fz 0
  have u1 := k6.fz 1
  have u2 := k6.fz 2
  have u3 := k6.fz 3
  have u4 := k6.fz 4
  have u5 := k6.fz 5
  have u6 := k6.fz 6
  have u7 := k6.fz 7
  go_upto_region 6 with fail
  have HB5 := Lib.hid (show ((v5 : Int) == 1) = decide (v5 = 1) by rw [Bool.eq_iff_iff]; simp; omega)
  have HB6 := Lib.hid (show ((v6 : Int) == 1) = decide (v6 = 1) by rw [Bool.eq_iff_iff]; simp; omega)
  have mm6' : Mod (fun k => k = w3.heap.size) w4 w6 := mm6.mono (fun i hi e => e.elim)
  go_cut [] (fun w' => Blk w' w3.heap.size (decN x).cells 197∧Mod (fun k => k = w3.heap.size) w4 w')
  case first =>
   go_still_tail 25,(by kernel_rfl)
   have k7 := k6.drew
   have m7 := mm6'.drew
   change wpList _ _ _ _ _ w6.drew
   generalize w6.drew = w7 at k7 m7 ⊢
   clear y0 y1 y2 y3 y4 y5 y6 y7 u0 u1 u2 u3 u4 u5 u6 u7
   have y0 := k7.cell 0
   have y1 := k7.cell 1
   have y2 := k7.cell 2
   have y3 := k7.cell 3
   have y4 := k7.cell 4
   have y5 := k7.cell 5
   have y6 := k7.cell 6
   have y7 := k7.cell 7
   simp at y0 y1 y2 y3 y4 y5 y6 y7
   have u0 := k7.fz 0
   have u1 := k7.fz 1
   have u2 := k7.fz 2
   have u3 := k7.fz 3
   have u4 := k7.fz 4
   have u5 := k7.fz 5
   have u6 := k7.fz 6
   have u7 := k7.fz 7
   go_wp2_with fail
   go_meet
   have q := ((((((((k7.set (0) (.int .i64 1)).set (1) (.int .i64 v1)).set (2) (.int .i64 v2)).set (3) (.int .i64 v3)).set (4) (.int .i64 v4)).set (5) (.bool ((v5 : Int) == 1))).set (6) (.bool ((v6 : Int) == 1))).set (7) (.string ⟨#[]⟩))
   have m := ((((((((m7.setCell (p := ⟨w3.heap.size,0,none⟩) (Or.inl rfl) (.int .i64 1)).setCell (p := ⟨w3.heap.size,1,none⟩) (Or.inl rfl) (.int .i64 v1)).setCell (p := ⟨w3.heap.size,2,none⟩) (Or.inl rfl) (.int .i64 v2)).setCell (p := ⟨w3.heap.size,3,none⟩) (Or.inl rfl) (.int .i64 v3)).setCell (p := ⟨w3.heap.size,4,none⟩) (Or.inl rfl) (.int .i64 v4)).setCell (p := ⟨w3.heap.size,5,none⟩) (Or.inl rfl) (.bool ((v5 : Int) == 1))).setCell (p := ⟨w3.heap.size,6,none⟩) (Or.inl rfl) (.bool ((v6 : Int) == 1))).setCell (p := ⟨w3.heap.size,7,none⟩) (Or.inl rfl) (.string ⟨#[]⟩))
   simp at q
   generalize ((((((((w7.setCell ⟨w3.heap.size,0,none⟩ (.int .i64 1)).setCell ⟨w3.heap.size,1,none⟩ (.int .i64 v1)).setCell ⟨w3.heap.size,2,none⟩ (.int .i64 v2)).setCell ⟨w3.heap.size,3,none⟩ (.int .i64 v3)).setCell ⟨w3.heap.size,4,none⟩ (.int .i64 v4)).setCell ⟨w3.heap.size,5,none⟩ (.bool ((v5 : Int) == 1))).setCell ⟨w3.heap.size,6,none⟩ (.bool ((v6 : Int) == 1))).setCell ⟨w3.heap.size,7,none⟩ (.string ⟨#[]⟩)) = wz at q m ⊢
   rw [HDC.out,← HB5.out,← HB6.out]
   exact ⟨q,m⟩
  case rest =>
   have HB := Lib.hid hcut
   clear hcut
   go_wp2_with fail
   all_goals go_meet
   all_goals exact HB.out
 case rest =>
 obtain ⟨k5,m5⟩ := hcut
 obtain ⟨w5,rfl⟩ : ∃ wo : World,wo = wc := ⟨_,rfl⟩
 have hfc : (decN x).cells = #[.int .i64 (decN x).kind,.int .i64 (decN x).src,.int .i64 (decN x).dst,.int .i64 (decN x).seq,.int .i64 (decN x).len,.bool (decN x).more,.bool (decN x).cast,.string (decN x).data] := rfl
 have HW := Lib.hid (fun w => flit_write (decN x) w)
 have hne : w.heap.size ≠ w3.heap.size := by omega
 have k6 := k4.later m5 (fun e => hne e)
 have mm5 := mm4.trans m5 (fun i hi e => by have := s0; omega)
 clear k4 y0 kf mf
 obtain ⟨f,hf⟩ : ∃ f,decN x = f := ⟨_,rfl⟩
 rw [hf] at hfc k5 HRS HW
 rw [hfc] at k5 HW
 have HFC := Lib.hid hfc
 clear hfc hf
 have y0 := k5.cell 0
 have y1 := k5.cell 1
 have y2 := k5.cell 2
 have y3 := k5.cell 3
 have y4 := k5.cell 4
 have y5 := k5.cell 5
 have y6 := k5.cell 6
 have y7 := k5.cell 7
 simp at y0 y1 y2 y3 y4 y5 y6 y7
 go_wp2_with fail
 refine (HW.out _).mono ?_
 rintro e w7 ⟨rfl,m7⟩
 have k7 := k5.later m7 (by simp)
 have k8 := k6.later m7 (by simp)
 have mm7 := mm5.trans m7 (fun i hi e => e)
 clear y0 y1 y2 y3 y4 y5 y6 y7 k5 k6
 have v0 := k8.cell 0
 have v1 := k8.cell 1
 have v2 := k8.cell 2
 have v3 := k8.cell 3
 have v4 := k8.cell 4
 have v5 := k8.cell 5
 have v6 := k8.cell 6
 have v7 := k8.cell 7
 simp at v0 v1 v2 v3 v4 v5 v6 v7
 have u0 := k8.fz 0
 have u1 := k8.fz 1
 have u2 := k8.fz 2
 have u3 := k8.fz 3
 have u4 := k8.fz 4
 have u5 := k8.fz 5
 have u6 := k8.fz 6
 have u7 := k8.fz 7
 by_cases hr : f.right = true
 rotate_left
 ·
  rw [if_neg hr]
  have h1 := HRS.out
  unfold readS at h1
  rw [if_neg (fun e => hr e.1)] at h1
  have e1 := (Prod.mk.inj h1).1
  have e2 := (Prod.mk.inj h1).2
  have HE := Lib.hid (⟨e1,e2⟩ : Flit.none = rdV x∧2 = rdE x)
  clear h1 e1 e2 hr
  go_wp2
  have qE := ((((((((k8.set (0) (.int .i64 0)).set (1) (.int .i64 0)).set (2) (.int .i64 0)).set (3) (.int .i64 0)).set (4) (.int .i64 0)).set (5) (.bool false)).set (6) (.bool false)).set (7) (.string ⟨#[]⟩))
  have mE := ((((((((mm7.setCell (p := ⟨w.heap.size,0,none⟩) (Or.inr (Nat.le_refl _)) (.int .i64 0)).setCell (p := ⟨w.heap.size,1,none⟩) (Or.inr (Nat.le_refl _)) (.int .i64 0)).setCell (p := ⟨w.heap.size,2,none⟩) (Or.inr (Nat.le_refl _)) (.int .i64 0)).setCell (p := ⟨w.heap.size,3,none⟩) (Or.inr (Nat.le_refl _)) (.int .i64 0)).setCell (p := ⟨w.heap.size,4,none⟩) (Or.inr (Nat.le_refl _)) (.int .i64 0)).setCell (p := ⟨w.heap.size,5,none⟩) (Or.inr (Nat.le_refl _)) (.bool false)).setCell (p := ⟨w.heap.size,6,none⟩) (Or.inr (Nat.le_refl _)) (.bool false)).setCell (p := ⟨w.heap.size,7,none⟩) (Or.inr (Nat.le_refl _)) (.string ⟨#[]⟩))
  simp at qE
  generalize ((((((((w7.setCell ⟨w.heap.size,0,none⟩ (.int .i64 0)).setCell ⟨w.heap.size,1,none⟩ (.int .i64 0)).setCell ⟨w.heap.size,2,none⟩ (.int .i64 0)).setCell ⟨w.heap.size,3,none⟩ (.int .i64 0)).setCell ⟨w.heap.size,4,none⟩ (.int .i64 0)).setCell ⟨w.heap.size,5,none⟩ (.bool false)).setCell ⟨w.heap.size,6,none⟩ (.bool false)).setCell ⟨w.heap.size,7,none⟩ (.string ⟨#[]⟩)) = wE at qE mE ⊢
  have qe0 := qE.cell 0
  have qe1 := qE.cell 1
  have qe2 := qE.cell 2
  have qe3 := qE.cell 3
  have qe4 := qE.cell 4
  have qe5 := qE.cell 5
  have qe6 := qE.cell 6
  have qe7 := qE.cell 7
  simp at qe0 qe1 qe2 qe3 qe4 qe5 qe6 qe7
  exact bodyPost_ret (v := .tuple #[.agg #[.int .i64 0,.int .i64 0,.int .i64 0,.int .i64 0,.int .i64 0,.bool false,.bool false,.string ⟨#[]⟩],.int .i64 2]) (by simp [results,Tryz.results168,go_sem,qe0,qe1,qe2,qe3,qe4,qe5,qe6,qe7]) rfl ⟨by rw [← HE.out.1,← HE.out.2]; rfl,mE⟩
 rw [if_pos hr]
 by_cases hx : wr f = x
 rotate_left
 ·
  have h1 := HRS.out
  unfold readS at h1
  rw [if_neg (fun e => hx e.2)] at h1
  have e1 := (Prod.mk.inj h1).1
  have e2 := (Prod.mk.inj h1).2
  have HE := Lib.hid (⟨e1,e2⟩ : Flit.none = rdV x∧2 = rdE x)
  generalize wr f = x2 at hx ⊢
  have q1 : ((x2 : Int) != (x : Int)) = true := by rw [bne_iff_ne]; omega
  clear h1 e1 e2 hr hx
  go_wp2
  have qE := ((((((((k8.set (0) (.int .i64 0)).set (1) (.int .i64 0)).set (2) (.int .i64 0)).set (3) (.int .i64 0)).set (4) (.int .i64 0)).set (5) (.bool false)).set (6) (.bool false)).set (7) (.string ⟨#[]⟩))
  have mE := ((((((((mm7.setCell (p := ⟨w.heap.size,0,none⟩) (Or.inr (Nat.le_refl _)) (.int .i64 0)).setCell (p := ⟨w.heap.size,1,none⟩) (Or.inr (Nat.le_refl _)) (.int .i64 0)).setCell (p := ⟨w.heap.size,2,none⟩) (Or.inr (Nat.le_refl _)) (.int .i64 0)).setCell (p := ⟨w.heap.size,3,none⟩) (Or.inr (Nat.le_refl _)) (.int .i64 0)).setCell (p := ⟨w.heap.size,4,none⟩) (Or.inr (Nat.le_refl _)) (.int .i64 0)).setCell (p := ⟨w.heap.size,5,none⟩) (Or.inr (Nat.le_refl _)) (.bool false)).setCell (p := ⟨w.heap.size,6,none⟩) (Or.inr (Nat.le_refl _)) (.bool false)).setCell (p := ⟨w.heap.size,7,none⟩) (Or.inr (Nat.le_refl _)) (.string ⟨#[]⟩))
  simp at qE
  generalize ((((((((w7.setCell ⟨w.heap.size,0,none⟩ (.int .i64 0)).setCell ⟨w.heap.size,1,none⟩ (.int .i64 0)).setCell ⟨w.heap.size,2,none⟩ (.int .i64 0)).setCell ⟨w.heap.size,3,none⟩ (.int .i64 0)).setCell ⟨w.heap.size,4,none⟩ (.int .i64 0)).setCell ⟨w.heap.size,5,none⟩ (.bool false)).setCell ⟨w.heap.size,6,none⟩ (.bool false)).setCell ⟨w.heap.size,7,none⟩ (.string ⟨#[]⟩)) = wE at qE mE ⊢
  have qe0 := qE.cell 0
  have qe1 := qE.cell 1
  have qe2 := qE.cell 2
  have qe3 := qE.cell 3
  have qe4 := qE.cell 4
  have qe5 := qE.cell 5
  have qe6 := qE.cell 6
  have qe7 := qE.cell 7
  simp at qe0 qe1 qe2 qe3 qe4 qe5 qe6 qe7
  exact bodyPost_ret (v := .tuple #[.agg #[.int .i64 0,.int .i64 0,.int .i64 0,.int .i64 0,.int .i64 0,.bool false,.bool false,.string ⟨#[]⟩],.int .i64 2]) (by simp [results,Tryz.results168,go_sem,qe0,qe1,qe2,qe3,qe4,qe5,qe6,qe7]) rfl ⟨by rw [← HE.out.1,← HE.out.2]; rfl,mE⟩
 have h1 := HRS.out
 unfold readS at h1
 rw [if_pos ⟨hr,hx⟩] at h1
 have e1 := (Prod.mk.inj h1).1
 have e2 := (Prod.mk.inj h1).2
 have HE := Lib.hid (⟨e1,e2⟩ : f = rdV x∧0 = rdE x)
 rw [hx]
 have q1 : ((x : Int) != (x : Int)) = false := by simp
 have y0 := k7.cell 0
 have y1 := k7.cell 1
 have y2 := k7.cell 2
 have y3 := k7.cell 3
 have y4 := k7.cell 4
 have y5 := k7.cell 5
 have y6 := k7.cell 6
 have y7 := k7.cell 7
 simp at y0 y1 y2 y3 y4 y5 y6 y7
 clear h1 e1 e2 hr hx
 go_wp2
 have qE := ((((((((k8.set (0) (.int .i64 f.kind)).set (1) (.int .i64 f.src)).set (2) (.int .i64 f.dst)).set (3) (.int .i64 f.seq)).set (4) (.int .i64 f.len)).set (5) (.bool f.more)).set (6) (.bool f.cast)).set (7) (.string f.data))
 have mE := ((((((((mm7.setCell (p := ⟨w.heap.size,0,none⟩) (Or.inr (Nat.le_refl _)) (.int .i64 f.kind)).setCell (p := ⟨w.heap.size,1,none⟩) (Or.inr (Nat.le_refl _)) (.int .i64 f.src)).setCell (p := ⟨w.heap.size,2,none⟩) (Or.inr (Nat.le_refl _)) (.int .i64 f.dst)).setCell (p := ⟨w.heap.size,3,none⟩) (Or.inr (Nat.le_refl _)) (.int .i64 f.seq)).setCell (p := ⟨w.heap.size,4,none⟩) (Or.inr (Nat.le_refl _)) (.int .i64 f.len)).setCell (p := ⟨w.heap.size,5,none⟩) (Or.inr (Nat.le_refl _)) (.bool f.more)).setCell (p := ⟨w.heap.size,6,none⟩) (Or.inr (Nat.le_refl _)) (.bool f.cast)).setCell (p := ⟨w.heap.size,7,none⟩) (Or.inr (Nat.le_refl _)) (.string f.data))
 simp at qE
 generalize ((((((((w7.setCell ⟨w.heap.size,0,none⟩ (.int .i64 f.kind)).setCell ⟨w.heap.size,1,none⟩ (.int .i64 f.src)).setCell ⟨w.heap.size,2,none⟩ (.int .i64 f.dst)).setCell ⟨w.heap.size,3,none⟩ (.int .i64 f.seq)).setCell ⟨w.heap.size,4,none⟩ (.int .i64 f.len)).setCell ⟨w.heap.size,5,none⟩ (.bool f.more)).setCell ⟨w.heap.size,6,none⟩ (.bool f.cast)).setCell ⟨w.heap.size,7,none⟩ (.string f.data)) = wE at qE mE ⊢
 have qe0 := qE.cell 0
 have qe1 := qE.cell 1
 have qe2 := qE.cell 2
 have qe3 := qE.cell 3
 have qe4 := qE.cell 4
 have qe5 := qE.cell 5
 have qe6 := qE.cell 6
 have qe7 := qE.cell 7
 simp at qe0 qe1 qe2 qe3 qe4 qe5 qe6 qe7
 exact bodyPost_ret (v := .tuple #[.agg #[.int .i64 f.kind,.int .i64 f.src,.int .i64 f.dst,.int .i64 f.seq,.int .i64 f.len,.bool f.more,.bool f.cast,.string f.data],.int .i64 0]) (by simp [results,Tryz.results168,go_sem,qe0,qe1,qe2,qe3,qe4,qe5,qe6,qe7]) rfl ⟨by rw [← HE.out.1,← HE.out.2,HFC.out],mE⟩
open Go.RowKit
def LaneAt (b n : Nat) (s : LaneS) : Rep := fun w own => ∃ r ro,Blk w b #[.pointer (some ⟨r,0,none⟩),.int .i64 s.phase,.int .i64 s.port,.int .i64 s.lane,.bool s.copies] 182∧RingAt encW 1 126 226 r n s.q w ro∧¬ ro b∧∀ g,own g ↔ g = b∨ro g
theorem LaneAt.stable (b n : Nat) (s : LaneS) : Stable (LaneAt b n s) where
 later := by
  rintro w w' own S ⟨r,ro,kb,hr,hn,ho⟩ m hS
  exact ⟨r,ro,kb.later m (hS _ ((ho _).2 (Or.inl rfl))),(RingAt.stable ..).later hr m (fun g hg => hS _ ((ho _).2 (Or.inr hg))),hn,ho⟩
 lt := by
  rintro w own k ⟨r,ro,kb,hr,hn,ho⟩ hk
  rcases (ho k).1 hk with rfl | h
  ·
   exact kb.lt
  ·
   exact (RingAt.stable ..).lt hr h
theorem LaneAt.ring {b n : Nat} {s : LaneS} {r : Nat} {q : List Nat} {ro own : Nat→Prop} {w w' : World} (kb : Blk w b #[.pointer (some ⟨r,0,none⟩),.int .i64 s.phase,.int .i64 s.port,.int .i64 s.lane,.bool s.copies] 182) (hn : ¬ ro b) (ho : ∀ g,own g ↔ g = b∨ro g) (t : Turn ro (RingAt encW 1 126 226 r n q) w w') :
  Turn own (LaneAt b n ⟨q,s.phase,s.port,s.lane,s.copies⟩) w w' := by
 obtain ⟨o',hx,m,hh⟩ := t
 refine ⟨fun g => g = b∨o' g,⟨r,o',kb.later m hn,hx,fun h => ?_,fun g => Iff.rfl⟩,m.mono (fun g _ h => (ho g).2 (Or.inr h)),fun g hg => ?_⟩
 ·
  rcases hh _ h with h1 | h1
  ·
   exact hn h1
  ·
   have := kb.lt
   omega
 ·
  rcases hg with rfl | hg
  ·
   exact Or.inl ((ho _).2 (Or.inl rfl))
  ·
   exact (hh g hg).imp (fun h => (ho g).2 (Or.inr h)) id
theorem LaneAt.blk {b n : Nat} {s s' : LaneS} {r : Nat} {ro own : Nat→Prop} {w w' : World} (kb : Blk w' b #[.pointer (some ⟨r,0,none⟩),.int .i64 s'.phase,.int .i64 s'.port,.int .i64 s'.lane,.bool s'.copies] 182) (hr : RingAt encW 1 126 226 r n s.q w ro) (hq : s'.q = s.q) (hn : ¬ ro b) (ho : ∀ g,own g ↔ g = b∨ro g) (m : Mod (fun g => g = b) w w') :
  Turn own (LaneAt b n s') w w' :=
 ⟨own,⟨r,ro,kb,by rw [hq]; exact (RingAt.stable ..).later hr m (fun g hg e => hn (e ▸ hg)),hn,ho⟩,m.mono (fun g _ e => (ho g).2 (Or.inl e)),fun g hg => Or.inl hg⟩
theorem lane_new (w : World) (n : Nat) (h1 : 1 ≤ n) (h2 : n ≤ 64) :
  Calls Tryz.prog 117 #[.int .i64 (n : Int)] w fun e w' => ∃ b,e = .returned (.pointer (some ⟨b,0,none⟩))∧Made (LaneAt b n LaneS.new) w w' := by
 have q1 : ¬ (n : Int) < 1 := by omega
 have q2 : ¬ (64 : Int) < (n : Int) := by omega
 have q3 : (n : Int) ≤ 64 := by omega
 have q4 : (1 : Int) ≤ (n : Int) := by omega
 go_enter Tryz.func117,Tryz.ntmps117
 go_wp2_with fail
 refine (ringW_new _ n h1 (by omega)).mono ?_
 rintro e w1 ⟨r,rfl,ro,hr,m1,hlo⟩
 have kb := Blk.made w1 #[.pointer (some ⟨r,0,none⟩),.int .i64 0,.int .i64 0,.int .i64 0,.bool false] 182
 have hr2 := (RingAt.stable ..).later hr ((Mod.refl (fun _ => False) w1).alloc (.cells #[.pointer (some ⟨r,0,none⟩),.int .i64 0,.int .i64 0,.int .i64 0,.bool false] 182)) (by simp)
 go_wp2
 go_ret
 refine ⟨_,rfl,fun g => g = w1.heap.size∨ro g,⟨r,ro,kb,hr2,fun h => ?_,fun g => Iff.rfl⟩,m1.alloc _,fun k hk => ?_⟩
 ·
  have := (RingAt.stable ..).lt hr h
  omega
 ·
  rcases hk with rfl | hk
  ·
   exact m1.size
  ·
   exact hlo k hk
theorem lane_put (b n x : Nat) (s : LaneS) (own : Nat→Prop) (w : World) (h : LaneAt b n s w own) :
  Calls Tryz.prog 152 #[.pointer (some ⟨b,0,none⟩),.int .u64 (x : Int)] w fun e w' =>
   (s.q.length = n∧e = .returned (.int .i64 7)∧Mod (fun _ => False) w w') ∨
   (s.q.length < n∧e = .returned (.int .i64 0)∧Turn own (LaneAt b n ⟨s.q ++ [x],s.phase,s.port,s.lane,s.copies⟩) w w') := by
 obtain ⟨r,ro,kb,hr,hn,ho⟩ := h
 have c0 := kb.cell 0
 simp at c0
 have HR := Lib.hid (ringW_push x hr)
 have HT := Lib.hid (fun w' (t : Turn ro (RingAt encW 1 126 226 r n (s.q ++ [x])) w w') => LaneAt.ring (own := own) kb hn ho t)
 clear kb hr hn ho
 go_enter Tryz.func152,Tryz.ntmps152
 go_wp2_with fail
 refine HR.out.mono ?_
 rintro e w1 (⟨h1,rfl,m1⟩ | ⟨h1,rfl,t1⟩)
 ·
  have H1 := Lib.hid h1
  clear h1
  go_wp2
  go_ret
  exact Or.inl ⟨H1.out,rfl,m1⟩
 ·
  have T1 := Lib.hid (HT.out _ t1)
  clear t1
  go_wp2
  go_ret
  exact Or.inr ⟨h1,rfl,T1.out⟩
theorem lane_peek_none (b n : Nat) (s : LaneS) (own : Nat→Prop) (w : World) (h : LaneAt b n s w own) (hq : s.q = []) :
  Calls Tryz.prog 167 #[.pointer (some ⟨b,0,none⟩)] w fun e w' => e = .returned (.tuple #[.int .u64 0,.int .i64 8])∧Mod (fun _ => False) w w' := by
 obtain ⟨r,ro,kb,hr,hn,ho⟩ := h
 rw [hq] at hr
 have c0 := kb.cell 0
 simp at c0
 have HR := Lib.hid (ringW_at_peek_none hr)
 clear kb hr hn ho hq
 go_enter Tryz.func167,Tryz.ntmps167
 go_wp2_with fail
 refine HR.out.mono ?_
 rintro e w1 ⟨rfl,m1⟩
 go_wp2
 go_ret2
 exact ⟨rfl,m1⟩
theorem lane_peek (b n x : Nat) (l : List Nat) (s : LaneS) (own : Nat→Prop) (w : World) (h : LaneAt b n s w own) (hq : s.q = x :: l) :
  Calls Tryz.prog 167 #[.pointer (some ⟨b,0,none⟩)] w fun e w' => e = .returned (.tuple #[.int .u64 (x : Int),.int .i64 0])∧Mod (fun _ => False) w w' := by
 obtain ⟨r,ro,kb,hr,hn,ho⟩ := h
 rw [hq] at hr
 have c0 := kb.cell 0
 simp at c0
 have HR := Lib.hid (ringW_at_peek hr)
 clear kb hr hn ho hq
 go_enter Tryz.func167,Tryz.ntmps167
 go_wp2_with fail
 refine HR.out.mono ?_
 rintro e w1 ⟨rfl,m1⟩
 go_wp2
 go_ret2
 exact ⟨rfl,m1⟩
theorem lane_len (b n : Nat) (s : LaneS) (own : Nat→Prop) (w : World) (h : LaneAt b n s w own) :
  Calls Tryz.prog 86 #[.pointer (some ⟨b,0,none⟩)] w fun e w' => e = .returned (.int .i64 (s.q.length : Int))∧Drw w w' := by
 obtain ⟨r,ro,kb,hr,hn,ho⟩ := h
 have c0 := kb.cell 0
 simp at c0
 have HR := Lib.hid (ringW_at_len hr)
 clear kb hr hn ho
 go_enter Tryz.func86,Tryz.ntmps86
 go_wp2_with fail
 refine HR.out.mono ?_
 rintro e w1 ⟨rfl,d1⟩
 go_wp2
 go_ret
 exact ⟨rfl,d1⟩
theorem LaneAt.bd {b n : Nat} {s : LaneS} {own : Nat→Prop} {w : World} (h : LaneAt b n s w own) : s.q.length ≤ n∧1 ≤ n∧n ≤ 4096 := by
 obtain ⟨r,ro,kb,hr,hn,ho⟩ := h
 exact ringW_at_bd hr
theorem lane_phase (b n : Nat) (s : LaneS) (own : Nat→Prop) (w : World) (h : LaneAt b n s w own) :
  Calls Tryz.prog 91 #[.pointer (some ⟨b,0,none⟩)] w fun e w' => e = .returned (.int .i64 s.phase)∧w' = w := by
 obtain ⟨r,ro,kb,hr,hn,ho⟩ := h
 have c0 := kb.cell 1
 simp at c0
 clear kb hr hn ho
 go_enter Tryz.func91,Tryz.ntmps91
 go_wp2
 go_ret
 exact ⟨rfl,rfl⟩
theorem lane_port (b n : Nat) (s : LaneS) (own : Nat→Prop) (w : World) (h : LaneAt b n s w own) :
  Calls Tryz.prog 137 #[.pointer (some ⟨b,0,none⟩)] w fun e w' => e = .returned (.int .i64 s.port)∧w' = w := by
 obtain ⟨r,ro,kb,hr,hn,ho⟩ := h
 have c0 := kb.cell 2
 simp at c0
 clear kb hr hn ho
 go_enter Tryz.func137,Tryz.ntmps137
 go_wp2
 go_ret
 exact ⟨rfl,rfl⟩
theorem lane_given (b n : Nat) (s : LaneS) (own : Nat→Prop) (w : World) (h : LaneAt b n s w own) :
  Calls Tryz.prog 142 #[.pointer (some ⟨b,0,none⟩)] w fun e w' => e = .returned (.int .i64 s.lane)∧w' = w := by
 obtain ⟨r,ro,kb,hr,hn,ho⟩ := h
 have c0 := kb.cell 3
 simp at c0
 clear kb hr hn ho
 go_enter Tryz.func142,Tryz.ntmps142
 go_wp2
 go_ret
 exact ⟨rfl,rfl⟩
theorem lane_give (b n : Nat) (k : Int) (s : LaneS) (own : Nat→Prop) (w : World) (h : LaneAt b n s w own) (hp : s.phase = 1) :
  Calls Tryz.prog 140 #[.pointer (some ⟨b,0,none⟩),.int .i64 k] w fun e w' => e = .returned (.bool true)∧Turn own (LaneAt b n ⟨s.q,2,s.port,k,s.copies⟩) w w' := by
 obtain ⟨r,ro,kb,hr,hn,ho⟩ := h
 rw [hp] at kb
 have q := (kb.set 1 (.int .i64 2)).set 3 (.int .i64 k)
 have m := ((Mod.refl (fun g => g = b) w).setCell (p := ⟨b,1,none⟩) (Or.inl rfl) (.int .i64 2)).setCell (p := ⟨b,3,none⟩) (Or.inl rfl) (.int .i64 k)
 simp at q
 have HT := Lib.hid (LaneAt.blk (s' := ⟨s.q,2,s.port,k,s.copies⟩) q hr rfl hn ho m)
 have c0 := kb.cell 0
 have c1 := kb.cell 1
 have c2 := kb.cell 2
 have c3 := kb.cell 3
 have c4 := kb.cell 4
 simp at c0 c1 c2 c3 c4
 have z0 := kb.fz 0
 have z1 := kb.fz 1
 have z2 := kb.fz 2
 have z3 := kb.fz 3
 have z4 := kb.fz 4
 clear kb hr hn ho hp q m
 go_enter Tryz.func140,Tryz.ntmps140
 go_wp2
 go_ret
 exact ⟨rfl,HT.out⟩
end Go.Proofs.YtfiklfkfbcpmgaaGreat
