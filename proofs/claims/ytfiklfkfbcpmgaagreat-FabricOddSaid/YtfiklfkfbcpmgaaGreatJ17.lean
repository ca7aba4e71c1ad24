/- Parts: CutX NicO NicP. No condition. -/
import Derived.Test.YtfiklfkfbcpmgaaGreatJ16
import Derived.Test.YtfiklfkfbcpmgaaGreatJ10
import Derived.Test.YtfiklfkfbcpmgaaGreatJ03
set_option linter.all false
set_option maxRecDepth 100000
set_option maxHeartbeats 3200000
namespace Go.Proofs.YtfiklfkfbcpmgaaGreat
open Go.RowKit
def headFlit (p : Parcel) (t : Int × Int) (more : Bool) : Flit := ⟨1,p.src,t.1,t.2,p.data.size,more,p.cast,⟨#[]⟩⟩
theorem headWords_len (p : Parcel) (l : List (Int × Int)) : (headWords p l).length = l.length := by
 induction l with
 | nil => rfl
 | cons t l ih => simp [headWords,ih]
theorem headWords_get (p : Parcel) (l : List (Int × Int)) (k : Nat) (t : Int × Int) (h : l[k]? = some t) : (headWords p l)[k]? = some (wr (headFlit p t (decide (k + 1 < l.length)))) := by
 induction l generalizing k with
 | nil => simp at h
 | cons a l ih =>
  cases k with
  | zero =>
   simp at h
   subst h
   have : decide (l ≠ []) = decide (0 + 1 < (a :: l).length) := by cases l <;> simp
   simp only [headWords,List.getElem?_cons_zero,headFlit,this]
  | succ k =>
   simp at h
   simp only [headWords,List.getElem?_cons_succ,ih k h,List.length_cons]
   congr 3
   simp
theorem head_right {p : Parcel} (hp : p.right = true) {t : Int × Int} (ht : t ∈ p.heads) (m : Bool) : (headFlit p t m).right = true := by
 rw [right_eq] at hp
 simp only [Bool.and_eq_true,Bool.not_eq_true',decide_eq_true_eq] at hp
 obtain ⟨⟨⟨-,hs⟩,ha⟩,hd⟩ := hp
 have h1 : headOk t = true := by
  have := List.any_eq_false.1 ha t ht
  simpa using this
 unfold headOk at h1
 simp only [Bool.and_eq_true,decide_eq_true_eq] at h1
 unfold Flit.right headFlit
 rw [if_pos rfl]
 simp only [Bool.and_eq_true,decide_eq_true_eq]
 exact ⟨⟨⟨⟨⟨⟨by decide,hs⟩,h1.1.1⟩,h1.1.2⟩,h1.2⟩,by omega⟩,by omega⟩
theorem body_right {d : ByteArray} (h : d.size = 6) : Flit.right ⟨2,0,0,0,0,false,false,d⟩ = true := by
 unfold Flit.right
 rw [if_neg (by simp),if_pos rfl]
 simp [Flit.bare,h]
theorem tail_right {d : ByteArray} (h : d.size ≤ 6) : Flit.right ⟨3,0,0,0,0,false,false,d⟩ = true := by
 unfold Flit.right
 rw [if_neg (by simp),if_neg (by simp)]
 simp [Flit.bare,h]
theorem dataWords_tail (k : Nat) {d : ByteArray} (h : d.size ≤ 6) : dataWords k d = [wr ⟨3,0,0,0,0,false,false,d⟩] := by
 cases k with
 | zero => rfl
 | succ k => unfold dataWords; rw [if_neg (by omega)]
theorem dataWords_body (k : Nat) {d : ByteArray} (h : 6 < d.size) : dataWords (k + 1) d = wr ⟨2,0,0,0,0,false,false,d.extract 0 6⟩ :: dataWords k (d.extract 6 d.size) := by
 rw [dataWords,if_pos h]
def strSize : Value→Nat | .string s => s.size | _ => 0
theorem cut_words (p : Parcel) (v : Value) (w : World) (hs : HeadsV w v p.heads) (hp : p.right = true) :
  Calls Tryz.prog 124 #[.agg (p.val v)] w fun e w' => ∃ r,e = .returned (.tuple #[r,.int .i64 0])∧SlV w' r (wordsV p.words)∧Mod (fun _ => False) w w'∧(∀ g,r.ownBlock = some g→w.heap.size ≤ g)∧p.words.length ≤ 5000 := by
 have hmf : ∀ (fn : Fn) (first cap : Array Value) (w : World),(Instr.makeFunc fn first cap).run Tryz.prog w = .ok (.func fn first cap) w := fun _ _ _ _ => rfl
 have hen := enters_of (P := Tryz.prog) Tryz.func164 (by kernel_rfl) rfl
 have hp0 := hp
 rw [right_eq] at hp0
 simp only [Bool.and_eq_true,Bool.not_eq_true',decide_eq_true_eq,headsB] at hp0
 obtain ⟨⟨⟨⟨⟨hl1,hl2⟩,-⟩,-⟩,-⟩,hd⟩ := hp0
 obtain ⟨a,n,c,rfl,hn,hc,hm,-⟩ := id hs
 have kb := Blk.made w (p.val (.slice a n c)) 66
 have m0 : Mod (fun _ => False) w (w.alloc (.cells (p.val (.slice a n c)) 66)) := (Mod.refl _ _).alloc _
 have hs1 := hs.later m0 (by simp)
 have HRT := Lib.hid (fun w' (m : Mod (fun _ => False) w w') => cut_right p _ w' (hs.later m (by simp)) (by omega))
 rw [hp] at HRT
 simp only [Parcel.val] at kb m0 hs1 HRT ⊢
 have HP := Lib.hid hp
 have HN := Lib.hid hn
 have HHR := Lib.hid (fun t (ht : t ∈ p.heads) m => head_right hp ht m)
 rw [hn] at hl1 hl2
 unfold maxLen at hm
 have hnotgt : ¬ (64 : Int) < (p.data.size : Int) := by omega
 have hle64 : (p.data.size : Int) ≤ 64 := by omega
 clear hs hp hn
 go_enter Tryz.func124,Tryz.ntmps124
 go_upto_region 1 with fail
 generalize w.alloc (.cells #[.int .i64 p.src,.bool p.cast,.slice a n c,.string p.data] 66) = w1 at kb m0 hs1 ⊢
 have y0 := kb.cell 0
 have y1 := kb.cell 1
 have y2 := kb.cell 2
 have y3 := kb.cell 3
 simp at y0 y1 y2 y3
 go_wp2_with fail
 refine (HRT.out _ m0).mono ?_
 rintro e w2 ⟨rfl,m2⟩
 have k2 := kb.later m2 (by simp)
 have hs2 := hs1.later m2 (by simp)
 have m02 := m0.trans m2 (fun i hi e => e)
 have s02 := Nat.lt_of_lt_of_le kb.lt m2.size
 clear y0 y1 y2 y3 kb hs1 m0 m2
 go_upto_region 6 with fail
 have hWL : WL (w2.alloc (.cells #[.slice none 0 0] 166)) w2.heap.size [] := ⟨.slice none 0 0,Blk.made _ _ _,World.ownsRow_nil _ _ _ _⟩
 have m3 : Mod (fun _ => False) w2 (w2.alloc (.cells #[.slice none 0 0] 166)) := (Mod.refl _ _).alloc _
 have k3 := k2.later m3 (by simp)
 have hs3 := hs2.later m3 (by simp)
 have m03 := m02.trans m3 (fun i hi e => e)
 have s3 : w2.heap.size < (w2.alloc (.cells #[.slice none 0 0] 166)).heap.size := by simp
 have hsB := hs2
 generalize w2.alloc (.cells #[.slice none 0 0] 166) = w3 at hWL m3 k3 hs3 m03 s3 ⊢
 have HS2 := Lib.hid hs2
 clear hs2 k2 m02 hsB
 have HS3 := Lib.hid hs3
 have HW := Lib.hid hWL
 have y0 := k3.cell 0
 have y1 := k3.cell 1
 have y2 := k3.cell 2
 have y3 := k3.cell 3
 simp at y0 y1 y2 y3
 go_wp2
 clear y0 y1 y2 y3
 have HK3 := Lib.hid k3
 clear hs3 hWL k3
 go_loopw [22] (fun i wr => ∃ k : Nat,k ≤ n∧i = .int .i64 (k : Int)∧WL wr w2.heap.size ((headWords p p.heads).take k)∧Mod (fun g => w2.heap.size ≤ g) w3 wr) (fun i _ => n - (intOf i).toNat)
 case atStart => exact ⟨0,by omega,by simp,by simpa using HW.out,Mod.refl _ _⟩
 case round =>
  obtain ⟨k,hk,rfl,hwl,hmod⟩ := hrel
  obtain ⟨wA,rfl⟩ : ∃ wo : World,wo = wr := ⟨_,rfl⟩
  have k4 := HK3.out.later hmod (by omega)
  have sA := hmod.size
  have HWL := Lib.hid hwl
  by_cases hlt : k < n
  ·
   obtain ⟨t,ht⟩ : ∃ t,p.heads[k]? = some t := ⟨_,List.getElem?_eq_getElem (by have := HN.out; omega)⟩
   have hget := headWords_get p p.heads k t ht
   rw [HN.out] at hget
   have m2A : Mod (fun g => w2.heap.size ≤ g) w2 wA := (m3.mono (fun i hi e => e.elim)).trans hmod (fun i hi e => e)
   obtain ⟨B,off,rfl,hB,d1,d2⟩ := HS2.out.at k t ht
   have d1 := (m2A.cell (p := ⟨B,off + k * 2,none⟩) hB (by show ¬ w2.heap.size ≤ B; omega)).trans d1
   have d2 := (m2A.cell (p := ⟨B,off + k * 2 + 1,none⟩) hB (by show ¬ w2.heap.size ≤ B; omega)).trans d2
   have q0 : (0 : Int) ≤ (k : Int) := by omega
   have q1 : (k : Int) < (n : Int) := by omega
   have hrt := HHR.out t (List.mem_of_getElem? ht) (decide ((k : Int) + 1 < (n : Int)))
   have hlenk : ((headWords p p.heads).take k).length < 10000 := by
    have := List.length_take_le k (headWords p p.heads)
    omega
   have hmore : decide (k + 1 < n) = decide ((k : Int) + 1 < (n : Int)) := by rw [Bool.eq_iff_iff]; simp; omega
   rw [hmore] at hget
   have hst : (headWords p p.heads).take (k + 1) = (headWords p p.heads).take k ++ [wr (headFlit p t (decide ((k : Int) + 1 < (n : Int))))] := by
    rw [List.take_add_one,hget]
    rfl
   have HST := Lib.hid hst
   have HPUT := Lib.hid (fun W (hW : WL W w2.heap.size ((headWords p p.heads).take k)) => cut_put (headFlit p t (decide ((k : Int) + 1 < (n : Int)))) w2.heap.size _ W hrt hW hlenk)
   simp only [Flit.cells,headFlit] at HPUT
   clear ht hget hrt hlenk hmore hst hwl
   go_upto_region 10 with fail
   have kt := Blk.made wA #[.int .i64 t.1,.int .i64 t.2] 80
   have m5 : Mod (fun _ => False) wA (wA.alloc (.cells #[.int .i64 t.1,.int .i64 t.2] 80)) := (Mod.refl _ _).alloc _
   generalize wA.alloc (.cells #[.int .i64 t.1,.int .i64 t.2] 80) = wB at kt m5 ⊢
   have k5 := k4.later m5 (by simp)
   have HWL5 := Lib.hid (HWL.out.later m5)
   have hmodB := hmod.trans m5 (fun i hi e => e.elim)
   clear d1 d2
   have y0 := k5.cell 0
   have y1 := k5.cell 1
   have y2 := k5.cell 2
   have y3 := k5.cell 3
   simp at y0 y1 y2 y3
   have t0 := kt.cell 0
   have t1 := kt.cell 1
   simp at t0 t1
   go_wp2_with fail
   refine (HPUT.out _ HWL5.out).mono ?_
   rintro e w6 ⟨rfl,hwl6,m6⟩
   have HR6 := Lib.hid (⟨by rw [HST.out]; exact hwl6,hmodB.trans m6 (fun i hi e => e)⟩ : WL w6 w2.heap.size ((headWords p p.heads).take (k + 1))∧Mod (fun g => w2.heap.size ≤ g) w3 w6)
   clear hwl6 m6 y0 y1 y2 y3 t0 t1
   go_wp2
   go_roundw
   case rel => exact ⟨k + 1,by omega,by go_num,HR6.out.1,HR6.out.2⟩
   case measure => simp [intOf]; omega
  ·
   have hkn : k = n := by omega
   have hfin : (headWords p p.heads).take k = headWords p p.heads := List.take_of_length_le (by rw [headWords_len]; have := HN.out; omega)
   rw [hfin] at HWL
   clear hwl hfin hkn
   have y0 := k4.cell 0
   have y1 := k4.cell 1
   have y2 := k4.cell 2
   have y3 := k4.cell 3
   simp at y0 y1 y2 y3
   go_wp2
   clear y0 y1 y2 y3
   have HK4 := Lib.hid k4
   have HM4 := Lib.hid hmod
   clear k4 hmod
   go_loopw [8] (fun r wr => ∃ (j : Nat) (d : ByteArray) (ws : List Nat),r = .string d∧ws ++ dataWords j d = p.words∧d.size ≤ 6 * (j + 1)∧ws.length + j ≤ n + 11∧WL wr w2.heap.size ws∧Mod (fun g => w2.heap.size ≤ g) w3 wr) (fun r _ => strSize r)
   case atStart => exact ⟨11,p.data,headWords p p.heads,rfl,rfl,by omega,by rw [headWords_len,HN.out]; omega,HWL.out,HM4.out⟩
   case round =>
    obtain ⟨j,d,ws,rfl,hws,hdj,hwj,hwl,hmod⟩ := hrel
    obtain ⟨wC,rfl⟩ : ∃ wo : World,wo = wr := ⟨_,rfl⟩
    have HWS := Lib.hid hws
    have HWLC := Lib.hid hwl
    have sC := hmod.size
    clear hws hwl
    by_cases hgt : 6 < d.size
    ·
     obtain ⟨i,rfl⟩ : ∃ i,j = i + 1 := ⟨j - 1,by omega⟩
     have hds : d.size ≤ 9223372036854775807 := by omega
     have e6 : (d.extract 0 6).size = 6 := by rw [ByteArray.size_extract]; omega
     have e7 : (d.extract 6 d.size).size = d.size - 6 := by rw [ByteArray.size_extract]; omega
     have HPUT := Lib.hid (fun W (hW : WL W w2.heap.size ws) => cut_put ⟨2,0,0,0,0,false,false,d.extract 0 6⟩ w2.heap.size _ W (body_right e6) hW (by omega))
     simp only [Flit.cells] at HPUT
     have HBW := Lib.hid (dataWords_body i hgt)
     have q1 : (6 : Int) < (d.size : Int) := by omega
     have q2 : (6 : Int) ≤ (d.size : Int) := by omega
     have q3 : 6 ≤ d.size := by omega
     have HE7 := Lib.hid e7
     clear e6 e7
     go_wp2_with fail
     refine (HPUT.out _ HWLC.out).mono ?_
     rintro e w6 ⟨rfl,hwl6,m6⟩
     have HR6 := Lib.hid (⟨hwl6,hmod.trans m6 (fun i hi e => e)⟩ : WL w6 w2.heap.size (ws ++ [wr ⟨2,0,0,0,0,false,false,d.extract 0 6⟩])∧Mod (fun g => w2.heap.size ≤ g) w3 w6)
     clear hwl6 m6
     go_wp2
     go_roundw
     case rel => exact ⟨i,d.extract 6 d.size,ws ++ [wr ⟨2,0,0,0,0,false,false,d.extract 0 6⟩],by (first | rfl | simp),by rw [← HWS.out,HBW.out]; simp,by rw [HE7.out]; omega,by simp; omega,HR6.out.1,HR6.out.2⟩
     case measure => simp [strSize,HE7.out]; omega
    ·
     have hle : d.size ≤ 6 := by omega
     have HPUT := Lib.hid (fun W (hW : WL W w2.heap.size ws) => cut_put ⟨3,0,0,0,0,false,false,d⟩ w2.heap.size _ W (tail_right hle) hW (by omega))
     simp only [Flit.cells] at HPUT
     have hall := HWS.out
     rw [dataWords_tail j hle] at hall
     have HALL := Lib.hid hall
     have q1 : ¬ (6 : Int) < (d.size : Int) := by omega
     clear hall
     go_wp2_with fail
     refine (HPUT.out _ HWLC.out).mono ?_
     rintro e w6 ⟨rfl,hwl6,m6⟩
     rw [HALL.out] at hwl6
     have hmF := m03.trans' (S := fun g => w2.heap.size ≤ g) (hmod.trans m6 (fun i hi e => e)) (fun i hi e => e.elim) (fun i hi e => e)
     have hmF2 : Mod (fun _ => False) w w6 := hmF.mono (fun i hi e => by omega)
     obtain ⟨lv,kl,hown⟩ := hwl6
     have c0 := kl.cell 0
     simp at c0
     have HF := Lib.hid (⟨SlV.own hown,hmF2,fun g hg => by have := (hown.lt g hg).1; omega⟩ : SlV w6 lv (wordsV p.words)∧Mod (fun _ => False) w w6∧∀ g,lv.ownBlock = some g→w.heap.size ≤ g)
     have HLEN := Lib.hid (show p.words.length ≤ 5000 by rw [← HALL.out]; simp; omega)
     clear hmF hmF2 hown kl m6
     go_wp2
     go_ret2
     exact ⟨_,rfl,HF.out.1,HF.out.2.1,HF.out.2.2,HLEN.out⟩
open Go.RowKit
theorem tells_send {w0 : World} {b X bx : Nat} {jp : Nat→Nat} {c : Cfg} {node sent : Int} {wv : Value} {tX : TypeId} (kX : Blk w0 X #[.pointer (some ⟨b,0,none⟩)] tX) (kb : Blk w0 b (nicCells bx jp c node wv sent) 136) :
  TellsT w0 127 #[.pointer (some ⟨X,0,none⟩)] (fun t => !c.is t.1) where
 enters := enters_of Tryz.func127 (by kernel_rfl) rfl
 call := by
  intro W x m
  have kX1 := kX.later m (by simp)
  have kb1 := kb.later m (by simp)
  have kt := Blk.made W #[.int .i64 x.1,.int .i64 x.2] 80
  have m0 : Mod (fun _ => False) W (W.alloc (.cells #[.int .i64 x.1,.int .i64 x.2] 80)) := (Mod.refl _ _).alloc _
  have kX2 := kX1.later m0 (by simp)
  have kb2 := kb1.later m0 (by simp)
  have HI := Lib.hid (fun w => run_Is c x.1 w)
  simp only [Cfg.cells] at HI
  generalize c.is x.1 = r at HI ⊢
  go_enter Tryz.func127,Tryz.ntmps127
  go_upto_region 1 with fail
  generalize W.alloc (.cells #[.int .i64 x.1,.int .i64 x.2] 80) = w1 at kt m0 kX2 kb2 ⊢
  clear kX1 kb1 m kX kb
  refine wp_region_quiet_all (fun w' => Mod (fun _ => False) w1 w') (by kernel_rfl) (by kernel_rfl) ?_ ?_
  ·
   exact (Mod.refl _ _).drew
  refine quiet_op ?vv0 rfl ?hv0 ?rest0
  case hv0 =>
   intro wx hC
   have x0 := (kX2.later hC (by simp)).cell 0
   simp at x0
   obtain ⟨c0,c1,c2,c3,c4,c5,c6,c7,c8⟩ := nic_cfg (kb2.later hC (by simp))
   have t0 := (kt.later hC (by simp)).cell 0
   simp at t0
   go_simp
   all_goals first | exact ⟨rfl,rfl⟩ | rfl
  try simp only [Act.put,lyA,lyB,lyC]
  refine quiet_op ?vv1 rfl ?hv1 ?rest1
  case hv1 =>
   intro wx hC
   have x0 := (kX2.later hC (by simp)).cell 0
   simp at x0
   obtain ⟨c0,c1,c2,c3,c4,c5,c6,c7,c8⟩ := nic_cfg (kb2.later hC (by simp))
   have t0 := (kt.later hC (by simp)).cell 0
   simp at t0
   go_simp
   all_goals first | exact ⟨rfl,rfl⟩ | rfl
  try simp only [Act.put,lyA,lyB,lyC]
  refine quiet_op ?vv2 rfl ?hv2 ?rest2
  case hv2 =>
   intro wx hC
   have x0 := (kX2.later hC (by simp)).cell 0
   simp at x0
   obtain ⟨c0,c1,c2,c3,c4,c5,c6,c7,c8⟩ := nic_cfg (kb2.later hC (by simp))
   have t0 := (kt.later hC (by simp)).cell 0
   simp at t0
   go_simp
   all_goals first | exact ⟨rfl,rfl⟩ | rfl
  try simp only [Act.put,lyA,lyB,lyC]
  refine quiet_op ?vv3 rfl ?hv3 ?rest3
  case hv3 =>
   intro wx hC
   have x0 := (kX2.later hC (by simp)).cell 0
   simp at x0
   obtain ⟨c0,c1,c2,c3,c4,c5,c6,c7,c8⟩ := nic_cfg (kb2.later hC (by simp))
   have t0 := (kt.later hC (by simp)).cell 0
   simp at t0
   go_simp
   all_goals first | exact ⟨rfl,rfl⟩ | rfl
  try simp only [Act.put,lyA,lyB,lyC]
  refine quiet_op ?vv4 rfl ?hv4 ?rest4
  case hv4 =>
   intro wx hC
   have x0 := (kX2.later hC (by simp)).cell 0
   simp at x0
   obtain ⟨c0,c1,c2,c3,c4,c5,c6,c7,c8⟩ := nic_cfg (kb2.later hC (by simp))
   have t0 := (kt.later hC (by simp)).cell 0
   simp at t0
   go_simp
   all_goals first | exact ⟨rfl,rfl⟩ | rfl
  try simp only [Act.put,lyA,lyB,lyC]
  refine quiet_op ?vv5 rfl ?hv5 ?rest5
  case hv5 =>
   intro wx hC
   have x0 := (kX2.later hC (by simp)).cell 0
   simp at x0
   obtain ⟨c0,c1,c2,c3,c4,c5,c6,c7,c8⟩ := nic_cfg (kb2.later hC (by simp))
   have t0 := (kt.later hC (by simp)).cell 0
   simp at t0
   go_simp
   all_goals first | exact ⟨rfl,rfl⟩ | rfl
  try simp only [Act.put,lyA,lyB,lyC]
  refine quiet_op (.bool r) rfl ?hv6 ?rest6
  case hv6 =>
   intro wx hC
   have x0 := (kX2.later hC (by simp)).cell 0
   simp at x0
   obtain ⟨c0,c1,c2,c3,c4,c5,c6,c7,c8⟩ := nic_cfg (kb2.later hC (by simp))
   have t0 := (kt.later hC (by simp)).cell 0
   simp at t0
   go_simp
   refine (HI.out wx).mono ?_
   rintro e wy ⟨rfl,my⟩
   exact ⟨rfl,hC.trans my (fun _ _ e => e)⟩
  try simp only [Act.put,lyA,lyB,lyC]
  refine quiet_op ?vv7 rfl ?hv7 ?rest7
  case hv7 =>
   intro wx hC
   have x0 := (kX2.later hC (by simp)).cell 0
   simp at x0
   obtain ⟨c0,c1,c2,c3,c4,c5,c6,c7,c8⟩ := nic_cfg (kb2.later hC (by simp))
   have t0 := (kt.later hC (by simp)).cell 0
   simp at t0
   go_simp
   all_goals first | exact ⟨rfl,rfl⟩ | rfl
  try simp only [Act.put,lyA,lyB,lyC]
  refine quiet_op ?vv8 rfl ?hv8 ?rest8
  case hv8 =>
   intro wx hC
   have x0 := (kX2.later hC (by simp)).cell 0
   simp at x0
   obtain ⟨c0,c1,c2,c3,c4,c5,c6,c7,c8⟩ := nic_cfg (kb2.later hC (by simp))
   have t0 := (kt.later hC (by simp)).cell 0
   simp at t0
   go_simp
   all_goals first | exact ⟨rfl,rfl⟩ | rfl
  try simp only [Act.put,lyA,lyB,lyC]
  refine wpQuiet_nil ?_
  intro wq hC
  go_wp2
  go_ret
  exact ⟨rfl,m0.trans hC (fun _ _ e => e)⟩
open Go.RowKit
theorem cls_bd2 (c : Cfg) (h : c.Ok) (b : Bool) : 0 ≤ (c.cls b).1∧0 ≤ (c.cls b).2∧(c.cls b).1 + (c.cls b).2 ≤ c.Lanes := by
 have h1 := h.L1
 unfold Cfg.cls
 split
 ·
  dsimp only; omega
 split
 ·
  dsimp only; omega
 split
 ·
  dsimp only; omega
 ·
  dsimp only; omega
section
variable {P : Program} {o : Oper} {a : Act} {K : Act→World→Prop} {Q : Exit→Act→World→Prop} {w w' : World} {E : Prop} {prev : List Nat}
theorem wp_appendR (s x : Operand) (t : TypeId) (ho : o.op = .call { callee := .builtin .append,args := #[s,x],argTypes := #[t,t] }) {v xv r : Value} (hs : a.eval s = v) (hx : a.eval x = xv)
  (happ : (Builtin.append_ #[t,t] o.type #[v,xv]).run P w = .ok r w') (h : K (a.put o.dst r) w') : Oper.wp P o a w K Q := by
 unfold Oper.wp
 simp [execOp,ho,resolve,invoke,builtin,hs,hx,happ,Result.andThen]
 exact h
end
theorem nic_blk {b bx : Nat} {jp : Nat→Nat} {wv wv' : Value} {c : Cfg} {node : Int} {s : NicS} {ws : List (Int × Nat)} {w w1 : World} {own oq : Nat→Prop}
  (put : ∀ (X' : NP→Rep) (w' : World),(∀ j,j ≠ .words→X' j = nicX b bx jp wv c node s j)→Turn oq (X' .words) w w'→Turn own (Fam X') w w')
  (t : Turn oq (Que encC 2 128 wv' ws) w w1) : Blk w1 b (nicCells bx jp c node wv s.sent) 136 := by
 have t1 := put (fun i => match i with | .words => Que encC 2 128 wv' ws | j => nicX b bx jp wv c node s j) w1 (by intro j hj; cases j <;> first | rfl | exact absurd rfl hj) t
 obtain ⟨o1,h1,m1,ho1⟩ := t1
 have hst : ∀ i,Stable ((fun i => match i with | .words => Que encC 2 128 wv' ws | j => nicX b bx jp wv c node s j : NP→Rep) i) := by
  intro i
  cases i
  ·
   exact nicX_stable b bx jp wv c node s .blk
  ·
   exact Que.stable _ _
  ·
   exact nicX_stable b bx jp wv c node s .box
  ·
   exact nicX_stable b bx jp wv c node s (.join _)
 obtain ⟨ob,⟨kb,hob⟩,-,-⟩ := h1.at hst .blk
 exact kb
theorem encC_one (x : Int × Nat) : ∀ u ∈ encC x,u.oneCell' = true := by
 intro u hu
 simp [encC] at hu
 rcases hu with rfl | rfl <;> rfl
theorem info_cell : (Tryz.prog.info? 128).map (fun i => (i.zero,i.size,i.bytes)) = some (some (.agg #[.int .i64 0,.int .u64 0]),2,16) := by kernel_rfl
def NicS.sends (s : NicS) (f m : Int) (ws : List Nat) (k : Nat) : NicS := ⟨s.words ++ (ws.take k).map (fun x => (f + s.sent % m,x)),s.sent,s.joins,s.box⟩
theorem nic_send (b : Nat) (c : Cfg) (node : Int) (p : Parcel) (v : Value) (s : NicS) (own : Nat→Prop) (w : World) (h : NicAt b c node s w own) (hs : NicOk c s) (hc : c.Ok) (hv : HeadsV w v p.heads) (hp : p.right = true) (hsrc : p.src = node)
  (hall : ∀ t ∈ p.heads,c.is t.1 = true) (hcl : (c.cls p.cast).2 ≠ 0) (hlen : s.words.length + 5000 ≤ 1000000) (hst : s.sent ≤ 4611686018427387000) :
  Calls Tryz.prog 80 #[.pointer (some ⟨b,0,none⟩),.agg (p.val v)] w fun e w' => e = .returned (.int .i64 0) ∧
   Turn own (NicAt b c node ⟨s.words ++ p.words.map (fun x => ((c.cls p.cast).1 + s.sent % (c.cls p.cast).2,x)),s.sent + 1,s.joins,s.box⟩) w w' := by
 obtain ⟨a,n,cc,rfl,hn,-,-,-⟩ := id hv
 have hown := fun g (hg : own g) => (NicAt.stable b c node s).lt h hg
 have kX := (Blk.made w #[.pointer (some ⟨b,0,none⟩)] 71).alloc (.cells #[.int .i64 p.src,.bool p.cast,.slice a n cc,.string p.data] 66)
 have kY := Blk.made2 w (.cells #[.pointer (some ⟨b,0,none⟩)] 71) #[.int .i64 p.src,.bool p.cast,.slice a n cc,.string p.data] 66
 have m0 : Mod (fun _ => False) w ((w.alloc (.cells #[.pointer (some ⟨b,0,none⟩)] 71)).alloc (.cells #[.int .i64 p.src,.bool p.cast,.slice a n cc,.string p.data] 66)) := ((Mod.refl _ _).alloc _).alloc _
 have hclb := cls_bd2 c hc p.cast
 obtain ⟨cl,hcle⟩ : ∃ cl,c.cls p.cast = cl := ⟨_,rfl⟩
 have HC := Lib.hid (fun w => run_Class c p.cast w)
 rw [hcle] at HC hcl hclb ⊢
 simp only [Parcel.val,Cfg.cells] at HC ⊢
 have HW := Lib.hid (fun w' (m : Mod (fun _ => False) w w') => cut_words p _ w' (hv.later m (by simp)) hp)
 simp only [Parcel.val] at HW
 have hany : p.heads.any (fun t => !c.is t.1) = false := by
  rw [List.any_eq_false]
  intro t ht
  simp [hall t ht]
 obtain ⟨bx,jp,wv,hF⟩ := id h
 obtain ⟨ob,⟨kb,-⟩,-⟩ := hF.at (nicX_stable b bx jp wv c node s) .blk
 have HANY := Lib.hid hany
 have HLEN := Lib.hid hlen
 have HST := Lib.hid hst
 have HV := Lib.hid hv
 have HP := Lib.hid hp
 have HS := Lib.hid hs
 have HH := Lib.hid h
 have HSRC := Lib.hid hsrc
 have HCL := Lib.hid hcl
 clear hF hcle hany hlen hst hv hp hs h hsrc hall hcl
 go_enter Tryz.func80,Tryz.ntmps80
 go_upto_region 1 with fail
 generalize ((w.alloc (.cells #[.pointer (some ⟨b,0,none⟩)] 71)).alloc (.cells #[.int .i64 p.src,.bool p.cast,.slice a n cc,.string p.data] 66)) = w1 at kX kY m0 ⊢
 have kb1 := kb.later m0 (by simp)
 have x0 := kX.cell 0
 have y0 := kY.cell 0
 have y1 := kY.cell 1
 have y2 := kY.cell 2
 have y3 := kY.cell 3
 simp at x0 y0 y1 y2 y3
 go_wp2_with fail
 refine (HW.out _ m0).mono ?_
 rintro e w2 ⟨r,rfl,hr,m2,hrf,hwl⟩
 have kX2 := kX.later m2 (by simp)
 have kY2 := kY.later m2 (by simp)
 have kb2 := kb1.later m2 (by simp)
 have s01 := m0.size
 have s2 := m2.size
 have m2 := m0.trans m2 (fun _ _ e => e)
 clear kX kY kb1 m0 x0 y0 y1 y2 y3 HW
 have HRF := Lib.hid hrf
 have HR := Lib.hid hr
 have HWL := Lib.hid hwl
 clear hrf hr hwl
 go_upto_region 4 with fail
 refine wp_region_quiet_all (fun w' => Mod (fun _ => False) w2 w') (by kernel_rfl) (by kernel_rfl) ?_ ?_
 ·
  exact (Mod.refl _ _).drew
 refine quiet_op ?vvq0_0 rfl ?hvq0_0 ?restq0_0
 case hvq0_0 =>
  intro wx hC
  have x0 := (kX2.later hC (by simp)).cell 0
  simp at x0
  obtain ⟨c0,c1,c2,c3,c4,c5,c6,c7,c8⟩ := nic_cfg (kb2.later hC (by simp))
  have y1 := (kY2.later hC (by simp)).cell 1
  simp at y1
  go_simp
  all_goals first | exact ⟨rfl,rfl⟩ | rfl
 try simp only [Act.put,lyA,lyB,lyC]
 refine quiet_op ?vvq0_1 rfl ?hvq0_1 ?restq0_1
 case hvq0_1 =>
  intro wx hC
  have x0 := (kX2.later hC (by simp)).cell 0
  simp at x0
  obtain ⟨c0,c1,c2,c3,c4,c5,c6,c7,c8⟩ := nic_cfg (kb2.later hC (by simp))
  have y1 := (kY2.later hC (by simp)).cell 1
  simp at y1
  go_simp
  all_goals first | exact ⟨rfl,rfl⟩ | rfl
 try simp only [Act.put,lyA,lyB,lyC]
 refine quiet_op ?vvq0_2 rfl ?hvq0_2 ?restq0_2
 case hvq0_2 =>
  intro wx hC
  have x0 := (kX2.later hC (by simp)).cell 0
  simp at x0
  obtain ⟨c0,c1,c2,c3,c4,c5,c6,c7,c8⟩ := nic_cfg (kb2.later hC (by simp))
  have y1 := (kY2.later hC (by simp)).cell 1
  simp at y1
  go_simp
  all_goals first | exact ⟨rfl,rfl⟩ | rfl
 try simp only [Act.put,lyA,lyB,lyC]
 refine quiet_op ?vvq0_3 rfl ?hvq0_3 ?restq0_3
 case hvq0_3 =>
  intro wx hC
  have x0 := (kX2.later hC (by simp)).cell 0
  simp at x0
  obtain ⟨c0,c1,c2,c3,c4,c5,c6,c7,c8⟩ := nic_cfg (kb2.later hC (by simp))
  have y1 := (kY2.later hC (by simp)).cell 1
  simp at y1
  go_simp
  all_goals first | exact ⟨rfl,rfl⟩ | rfl
 try simp only [Act.put,lyA,lyB,lyC]
 refine quiet_op ?vvq0_4 rfl ?hvq0_4 ?restq0_4
 case hvq0_4 =>
  intro wx hC
  have x0 := (kX2.later hC (by simp)).cell 0
  simp at x0
  obtain ⟨c0,c1,c2,c3,c4,c5,c6,c7,c8⟩ := nic_cfg (kb2.later hC (by simp))
  have y1 := (kY2.later hC (by simp)).cell 1
  simp at y1
  go_simp
  all_goals first | exact ⟨rfl,rfl⟩ | rfl
 try simp only [Act.put,lyA,lyB,lyC]
 refine quiet_op ?vvq0_5 rfl ?hvq0_5 ?restq0_5
 case hvq0_5 =>
  intro wx hC
  have x0 := (kX2.later hC (by simp)).cell 0
  simp at x0
  obtain ⟨c0,c1,c2,c3,c4,c5,c6,c7,c8⟩ := nic_cfg (kb2.later hC (by simp))
  have y1 := (kY2.later hC (by simp)).cell 1
  simp at y1
  go_simp
  all_goals first | exact ⟨rfl,rfl⟩ | rfl
 try simp only [Act.put,lyA,lyB,lyC]
 refine quiet_op (.tuple #[.int .i64 cl.1,.int .i64 cl.2]) rfl ?hvq0_6 ?restq0_6
 case hvq0_6 =>
  intro wx hC
  have x0 := (kX2.later hC (by simp)).cell 0
  simp at x0
  obtain ⟨c0,c1,c2,c3,c4,c5,c6,c7,c8⟩ := nic_cfg (kb2.later hC (by simp))
  have y1 := (kY2.later hC (by simp)).cell 1
  simp at y1
  go_simp
  refine (HC.out wx).mono ?_
  rintro e wy ⟨rfl,my⟩
  exact ⟨rfl,hC.trans my (fun _ _ e => e)⟩
 try simp only [Act.put,lyA,lyB,lyC]
 refine quiet_op ?vvq0_7 rfl ?hvq0_7 ?restq0_7
 case hvq0_7 =>
  intro wx hC
  have x0 := (kX2.later hC (by simp)).cell 0
  simp at x0
  obtain ⟨c0,c1,c2,c3,c4,c5,c6,c7,c8⟩ := nic_cfg (kb2.later hC (by simp))
  have y1 := (kY2.later hC (by simp)).cell 1
  simp at y1
  go_simp
  all_goals first | exact ⟨rfl,rfl⟩ | rfl
 try simp only [Act.put,lyA,lyB,lyC]
 refine quiet_op ?vvq0_8 rfl ?hvq0_8 ?restq0_8
 case hvq0_8 =>
  intro wx hC
  have x0 := (kX2.later hC (by simp)).cell 0
  simp at x0
  obtain ⟨c0,c1,c2,c3,c4,c5,c6,c7,c8⟩ := nic_cfg (kb2.later hC (by simp))
  have y1 := (kY2.later hC (by simp)).cell 1
  simp at y1
  go_simp
  all_goals first | exact ⟨rfl,rfl⟩ | rfl
 try simp only [Act.put,lyA,lyB,lyC]
 refine quiet_op ?vvq0_9 rfl ?hvq0_9 ?restq0_9
 case hvq0_9 =>
  intro wx hC
  have x0 := (kX2.later hC (by simp)).cell 0
  simp at x0
  obtain ⟨c0,c1,c2,c3,c4,c5,c6,c7,c8⟩ := nic_cfg (kb2.later hC (by simp))
  have y1 := (kY2.later hC (by simp)).cell 1
  simp at y1
  go_simp
  all_goals first | exact ⟨rfl,rfl⟩ | rfl
 try simp only [Act.put,lyA,lyB,lyC]
 refine quiet_op ?vvq0_10 rfl ?hvq0_10 ?restq0_10
 case hvq0_10 =>
  intro wx hC
  have x0 := (kX2.later hC (by simp)).cell 0
  simp at x0
  obtain ⟨c0,c1,c2,c3,c4,c5,c6,c7,c8⟩ := nic_cfg (kb2.later hC (by simp))
  have y1 := (kY2.later hC (by simp)).cell 1
  simp at y1
  go_simp
  all_goals first | exact ⟨rfl,rfl⟩ | rfl
 try simp only [Act.put,lyA,lyB,lyC]
 refine quiet_op ?vvq0_11 rfl ?hvq0_11 ?restq0_11
 case hvq0_11 =>
  intro wx hC
  have x0 := (kX2.later hC (by simp)).cell 0
  simp at x0
  obtain ⟨c0,c1,c2,c3,c4,c5,c6,c7,c8⟩ := nic_cfg (kb2.later hC (by simp))
  have y1 := (kY2.later hC (by simp)).cell 1
  simp at y1
  go_simp
  all_goals first | exact ⟨rfl,rfl⟩ | rfl
 try simp only [Act.put,lyA,lyB,lyC]
 refine wpQuiet_nil ?_
 intro wq hC
 obtain ⟨w3,rfl⟩ : ∃ wo : World,wo = wq := ⟨_,rfl⟩
 have kX3 := kX2.later hC (by simp)
 have kY3 := kY2.later hC (by simp)
 have kb3 := kb2.later hC (by simp)
 have m3 := m2.trans hC (fun _ _ e => e)
 have hr3 := Lib.hid (HR.out.later hC (by simp))
 have s3 := hC.size
 clear kX2 kY2 kb2 m2 hC HR HC
 have hTE := tells_send kX3 kb3
 have HK := Lib.hid (fun w' (m : Mod (fun _ => False) w3 w') => run_ContainsT w3 _ _ _ _ p.heads w' hTE m ((HV.out.later m3 (by simp)).later m (by simp)))
 rw [HANY.out] at HK
 have HSR := HSRC.out
 subst HSR
 go_upto_region 7 with fail
 refine wp_region_quiet_all (fun w' => Mod (fun _ => False) w3 w') (by kernel_rfl) (by kernel_rfl) ?_ ?_
 ·
  exact (Mod.refl _ _).drew
 refine quiet_op ?vvq1_0 rfl ?hvq1_0 ?restq1_0
 case hvq1_0 =>
  intro wx hC
  have x0 := (kX3.later hC (by simp)).cell 0
  simp at x0
  obtain ⟨-,c10,c11,c12⟩ := nic_cell (kb3.later hC (by simp))
  have y0 := (kY3.later hC (by simp)).cell 0
  have y2 := (kY3.later hC (by simp)).cell 2
  simp at y0 y2
  go_simp
  all_goals first | exact ⟨rfl,rfl⟩ | rfl
 try simp only [Act.put,lyA,lyB,lyC]
 refine quiet_op ?vvq1_1 rfl ?hvq1_1 ?restq1_1
 case hvq1_1 =>
  intro wx hC
  have x0 := (kX3.later hC (by simp)).cell 0
  simp at x0
  obtain ⟨-,c10,c11,c12⟩ := nic_cell (kb3.later hC (by simp))
  have y0 := (kY3.later hC (by simp)).cell 0
  have y2 := (kY3.later hC (by simp)).cell 2
  simp at y0 y2
  go_simp
  all_goals first | exact ⟨rfl,rfl⟩ | rfl
 try simp only [Act.put,lyA,lyB,lyC]
 refine quiet_op ?vvq1_2 rfl ?hvq1_2 ?restq1_2
 case hvq1_2 =>
  intro wx hC
  have x0 := (kX3.later hC (by simp)).cell 0
  simp at x0
  obtain ⟨-,c10,c11,c12⟩ := nic_cell (kb3.later hC (by simp))
  have y0 := (kY3.later hC (by simp)).cell 0
  have y2 := (kY3.later hC (by simp)).cell 2
  simp at y0 y2
  go_simp
  all_goals first | exact ⟨rfl,rfl⟩ | rfl
 try simp only [Act.put,lyA,lyB,lyC]
 refine quiet_op ?vvq1_3 rfl ?hvq1_3 ?restq1_3
 case hvq1_3 =>
  intro wx hC
  have x0 := (kX3.later hC (by simp)).cell 0
  simp at x0
  obtain ⟨-,c10,c11,c12⟩ := nic_cell (kb3.later hC (by simp))
  have y0 := (kY3.later hC (by simp)).cell 0
  have y2 := (kY3.later hC (by simp)).cell 2
  simp at y0 y2
  go_simp
  all_goals first | exact ⟨rfl,rfl⟩ | rfl
 try simp only [Act.put,lyA,lyB,lyC]
 refine quiet_op ?vvq1_4 rfl ?hvq1_4 ?restq1_4
 case hvq1_4 =>
  intro wx hC
  have x0 := (kX3.later hC (by simp)).cell 0
  simp at x0
  obtain ⟨-,c10,c11,c12⟩ := nic_cell (kb3.later hC (by simp))
  have y0 := (kY3.later hC (by simp)).cell 0
  have y2 := (kY3.later hC (by simp)).cell 2
  simp at y0 y2
  go_simp
  all_goals first | exact ⟨rfl,rfl⟩ | rfl
 try simp only [Act.put,lyA,lyB,lyC]
 refine quiet_op ?vvq1_5 rfl ?hvq1_5 ?restq1_5
 case hvq1_5 =>
  intro wx hC
  have x0 := (kX3.later hC (by simp)).cell 0
  simp at x0
  obtain ⟨-,c10,c11,c12⟩ := nic_cell (kb3.later hC (by simp))
  have y0 := (kY3.later hC (by simp)).cell 0
  have y2 := (kY3.later hC (by simp)).cell 2
  simp at y0 y2
  go_simp
  all_goals first | exact ⟨rfl,rfl⟩ | rfl
 try simp only [Act.put,lyA,lyB,lyC]
 refine quiet_op ?vvq1_6 rfl ?hvq1_6 ?restq1_6
 case hvq1_6 =>
  intro wx hC
  have x0 := (kX3.later hC (by simp)).cell 0
  simp at x0
  obtain ⟨-,c10,c11,c12⟩ := nic_cell (kb3.later hC (by simp))
  have y0 := (kY3.later hC (by simp)).cell 0
  have y2 := (kY3.later hC (by simp)).cell 2
  simp at y0 y2
  go_simp
  all_goals first | exact ⟨rfl,rfl⟩ | rfl
 try simp only [Act.put,lyA,lyB,lyC]
 refine quiet_op ?vvq1_7 rfl ?hvq1_7 ?restq1_7
 case hvq1_7 =>
  intro wx hC
  have x0 := (kX3.later hC (by simp)).cell 0
  simp at x0
  obtain ⟨-,c10,c11,c12⟩ := nic_cell (kb3.later hC (by simp))
  have y0 := (kY3.later hC (by simp)).cell 0
  have y2 := (kY3.later hC (by simp)).cell 2
  simp at y0 y2
  go_simp
  all_goals first | exact ⟨rfl,rfl⟩ | rfl
 try simp only [Act.put,lyA,lyB,lyC]
 refine quiet_op ?vvq1_8 rfl ?hvq1_8 ?restq1_8
 case hvq1_8 =>
  intro wx hC
  have x0 := (kX3.later hC (by simp)).cell 0
  simp at x0
  obtain ⟨-,c10,c11,c12⟩ := nic_cell (kb3.later hC (by simp))
  have y0 := (kY3.later hC (by simp)).cell 0
  have y2 := (kY3.later hC (by simp)).cell 2
  simp at y0 y2
  go_simp
  all_goals first | exact ⟨rfl,rfl⟩ | rfl
 try simp only [Act.put,lyA,lyB,lyC]
 refine quiet_op ?vvq1_9 rfl ?hvq1_9 ?restq1_9
 case hvq1_9 =>
  intro wx hC
  have x0 := (kX3.later hC (by simp)).cell 0
  simp at x0
  obtain ⟨-,c10,c11,c12⟩ := nic_cell (kb3.later hC (by simp))
  have y0 := (kY3.later hC (by simp)).cell 0
  have y2 := (kY3.later hC (by simp)).cell 2
  simp at y0 y2
  go_simp
  all_goals first | exact ⟨rfl,rfl⟩ | rfl
 try simp only [Act.put,lyA,lyB,lyC]
 refine quiet_op ?vvq1_10 rfl ?hvq1_10 ?restq1_10
 case hvq1_10 =>
  intro wx hC
  have x0 := (kX3.later hC (by simp)).cell 0
  simp at x0
  obtain ⟨-,c10,c11,c12⟩ := nic_cell (kb3.later hC (by simp))
  have y0 := (kY3.later hC (by simp)).cell 0
  have y2 := (kY3.later hC (by simp)).cell 2
  simp at y0 y2
  go_simp
  all_goals first | exact ⟨rfl,rfl⟩ | rfl
 try simp only [Act.put,lyA,lyB,lyC]
 refine quiet_op (.bool false) rfl ?hvq1_11 ?restq1_11
 case hvq1_11 =>
  intro wx hC
  have x0 := (kX3.later hC (by simp)).cell 0
  simp at x0
  obtain ⟨-,c10,c11,c12⟩ := nic_cell (kb3.later hC (by simp))
  have y0 := (kY3.later hC (by simp)).cell 0
  have y2 := (kY3.later hC (by simp)).cell 2
  simp at y0 y2
  go_simp
  refine (HK.out wx hC).mono ?_
  rintro e wy ⟨rfl,my⟩
  exact ⟨rfl,hC.trans my (fun _ _ e => e)⟩
 try simp only [Act.put,lyA,lyB,lyC]
 refine quiet_op ?vvq1_12 rfl ?hvq1_12 ?restq1_12
 case hvq1_12 =>
  intro wx hC
  have x0 := (kX3.later hC (by simp)).cell 0
  simp at x0
  obtain ⟨-,c10,c11,c12⟩ := nic_cell (kb3.later hC (by simp))
  have y0 := (kY3.later hC (by simp)).cell 0
  have y2 := (kY3.later hC (by simp)).cell 2
  simp at y0 y2
  go_simp
  all_goals first | exact ⟨rfl,rfl⟩ | rfl
 try simp only [Act.put,lyA,lyB,lyC]
 refine quiet_op ?vvq1_13 rfl ?hvq1_13 ?restq1_13
 case hvq1_13 =>
  intro wx hC
  have x0 := (kX3.later hC (by simp)).cell 0
  simp at x0
  obtain ⟨-,c10,c11,c12⟩ := nic_cell (kb3.later hC (by simp))
  have y0 := (kY3.later hC (by simp)).cell 0
  have y2 := (kY3.later hC (by simp)).cell 2
  simp at y0 y2
  go_simp
  all_goals first | exact ⟨rfl,rfl⟩ | rfl
 try simp only [Act.put,lyA,lyB,lyC]
 refine wpQuiet_nil ?_
 intro wq hC
 obtain ⟨w4,rfl⟩ : ∃ wo : World,wo = wq := ⟨_,rfl⟩
 have kX4 := kX3.later hC (by simp)
 have kb4 := kb3.later hC (by simp)
 have m4 := m3.trans hC (fun _ _ e => e)
 have hr4 := Lib.hid (hr3.out.later hC (by simp))
 have s4 := hC.size
 clear kX3 kY3 kb3 m3 hC hr3 HK hTE
 have q1 : (cl.2 == 0) = false := beq_eq_false_iff_ne.2 HCL.out
 obtain ⟨ra,rn,rc,hrv,hrn,-,hrm,-⟩ := hr4.out
 subst hrv
 obtain ⟨N,hN⟩ : ∃ N,p.words.length = N := ⟨_,rfl⟩
 have hrn : N = rn := by rw [← hN,← hrn]; simp [wordsV]
 subst hrn
 have hNle := HWL.out
 rw [hN] at hNle
 have HN := Lib.hid hN
 clear hN
 have m2o := Nat.le_trans s01 (Nat.le_trans s2 (Nat.le_trans s3 s4))
 have hXlt := kX4.lt
 have HSE := Lib.hid HS.out.sent
 have hcl0 := HCL.out
 have hL2 := hc.L2
 have hse1 := HSE.out.1
 have hsm0 := Int.emod_nonneg s.sent HCL.out
 have hsm1 := Int.emod_lt_of_pos s.sent (show 0 < cl.2 by omega)
 go_wp2
 go_loopw [51] (fun i wr => ∃ k : Nat,k ≤ N∧i = .int .i64 (k : Int)∧Turn own (NicAt b c p.src (s.sends cl.1 cl.2 p.words k)) w4 wr) (fun i _ => N - (intOf i).toNat)
 case atStart =>
  have e0 : s.sends cl.1 cl.2 p.words 0 = s := by
   unfold NicS.sends
   simp
  exact ⟨0,by omega,rfl,by rw [e0]; exact ⟨own,(NicAt.stable b c p.src s).later HH.out m4 (by simp),Mod.refl _ _,fun g hg => Or.inl hg⟩⟩
 case round =>
  obtain ⟨k,hk,rfl,T⟩ := hrel
  obtain ⟨w5,rfl⟩ : ∃ wo : World,wo = wr := ⟨_,rfl⟩
  obtain ⟨o1,h1,m1,ho1⟩ := T
  have kX5 := kX4.later m1 (fun e => by have := hown _ e; omega)
  have hr5 := hr4.out.later m1 (fun a' n' c' e he => by
   have e1 := HRF.out a'.block (by rw [e]; rfl)
   have := hown _ he
   omega)
  obtain ⟨bx',jp',wv',hF⟩ := h1
  obtain ⟨ob',⟨kb5,-⟩,-⟩ := hF.at (nicX_stable b bx' jp' wv' c p.src _) .blk
  have x0 := kX5.cell 0
  simp at x0
  obtain ⟨-,c10,c11,c12⟩ := nic_cell kb5
  by_cases hlt : k < N
  ·
   obtain ⟨oq,hq5,hoq,put⟩ := hF.at (nicX_stable b bx' jp' wv' c p.src _) .words
   obtain ⟨qa,qc,hqv0,-,-⟩ := Que.form hq5
   have hqv : wv' = .slice qa (s.sends cl.1 cl.2 p.words k).words.length qc := hqv0
   clear hqv0
   have hql : (s.sends cl.1 cl.2 p.words k).words.length = s.words.length + k := by
    have := HN.out
    simp [NicS.sends]
    omega
   obtain ⟨qn,hqn⟩ : ∃ qn,s.words.length + k = qn := ⟨_,rfl⟩
   rw [hqn] at hql
   rw [hql] at hqv
   subst hqv
   have HQN := Lib.hid (And.intro (Nat.le_of_eq hqn) (Nat.le_of_eq hqn.symm))
   have HQL := Lib.hid (And.intro (Nat.le_of_eq hql) (Nat.le_of_eq hql.symm))
   clear hqn hql
   have HQL2 := Lib.hid (show (s.sends cl.1 cl.2 p.words k).words.length ≤ 1000000 by have h1 := HLEN.out; have h2 := HQL.out.1; have h3 := HQN.out.2; omega)
   have hoqX : ¬ oq w.heap.size := fun e => by
    rcases ho1 _ (hoq _ e) with h2 | h2
    ·
     have := hown _ h2; omega
    ·
     omega
   obtain ⟨B,off,hra,hB,hcell0⟩ := hr5.at k hlt
   subst hra
   obtain ⟨x,hx⟩ : ∃ x,p.words[k]? = some x := ⟨_,List.getElem?_eq_getElem (by have := HN.out; omega)⟩
   have hcell : w5.cell? ⟨B,off + k,none⟩ = some (.int .u64 (x : Int)) := by
    rw [hcell0]
    simp [wordsV,List.getD_eq_getElem?_getD,hx]
   clear hcell0
   have i0 : (0 : Int) ≤ (k : Int) := by omega
   have i1 : (k : Int) < (N : Int) := by omega
   have g1 : s.sent.tmod cl.2 = s.sent % cl.2 := Int.tmod_eq_emod_of_nonneg (by omega)
   have g2 : IntKind.i64.wrap (s.sent % cl.2) = s.sent % cl.2 := IntWalk.i64_in _ (by omega)
   have g3 : IntKind.i64.wrap (cl.1 + s.sent % cl.2) = cl.1 + s.sent % cl.2 := IntWalk.i64_in _ (by omega)
   have nz2 : ¬ cl.2 = 0 := HCL.out
   have HX := Lib.hid hx
   clear hx hr5
   go_upto_region 14 with fail
   refine walkT_begin 17 (fun w' => w'.cell? ⟨w.heap.size,0,none⟩ = some (.pointer (some ⟨b,0,none⟩))∧w'.cell? ⟨b,11,none⟩ = some (.slice qa qn qc)∧w'.cell? ⟨b,12,none⟩ = some (.int .i64 s.sent)) (by kernel_rfl) ?_
   have hHeld : (fun w' => w'.cell? ⟨w.heap.size,0,none⟩ = some (.pointer (some ⟨b,0,none⟩))∧w'.cell? ⟨b,11,none⟩ = some (.slice qa qn qc)∧w'.cell? ⟨b,12,none⟩ = some (.int .i64 s.sent)) (w5.drew) := by exact ⟨x0,c11,c12⟩
   refine takeT_run 0 (v := ?_) rfl (by kernel_rfl) (by kernel_rfl) (by kernel_rfl) (fun _ _ _ h => h) (by rfl) ?_ (by assumption) ?_
   rotate_left
   ·
    (intro wx hSw; (try dsimp only at hSw); go_simp; try with_reducible rfl)
   try simp only [Act.put,lyA,lyB,lyC]
   refine takeT_run 1 (v := ?_) rfl (by kernel_rfl) (by kernel_rfl) (by kernel_rfl) (fun _ _ _ h => h) (by rfl) ?_ (by assumption) ?_
   rotate_left
   ·
    (intro wx hSw; (try dsimp only at hSw); go_simp; try with_reducible rfl)
   try simp only [Act.put,lyA,lyB,lyC]
   refine takeT_run 2 (v := ?_) rfl (by kernel_rfl) (by kernel_rfl) (by kernel_rfl) (fun _ _ _ h => h) (by rfl) ?_ (by assumption) ?_
   rotate_left
   ·
    (intro wx hSw; (try dsimp only at hSw); go_simp; try with_reducible rfl)
   try simp only [Act.put,lyA,lyB,lyC]
   refine takeT_run 3 (v := ?_) rfl (by kernel_rfl) (by kernel_rfl) (by kernel_rfl) (fun _ _ _ h => h) (by rfl) ?_ (by assumption) ?_
   rotate_left
   ·
    (intro wx hSw; (try dsimp only at hSw); go_simp; try with_reducible rfl)
   try simp only [Act.put,lyA,lyB,lyC]
   refine takeT_run 4 (v := ?_) rfl (by kernel_rfl) (by kernel_rfl) (by kernel_rfl) (fun _ _ _ h => h) (by rfl) ?_ (by assumption) ?_
   rotate_left
   ·
    (intro wx hSw; (try dsimp only at hSw); go_simp; try with_reducible rfl)
   try simp only [Act.put,lyA,lyB,lyC]
   refine takeT_run 5 (v := ?_) rfl (by kernel_rfl) (by kernel_rfl) (by kernel_rfl) (fun _ _ _ h => h) (by rfl) ?_ (by assumption) ?_
   rotate_left
   ·
    (intro wx hSw; (try dsimp only at hSw); go_simp; try with_reducible rfl)
   try simp only [Act.put,lyA,lyB,lyC]
   refine takeT_run 6 (v := ?_) rfl (by kernel_rfl) (by kernel_rfl) (by kernel_rfl) (fun _ _ _ h => h) (by rfl) ?_ (by assumption) ?_
   rotate_left
   ·
    (intro wx hSw; (try dsimp only at hSw); go_simp; try with_reducible rfl)
   try simp only [Act.put,lyA,lyB,lyC]
   refine takeT_run 7 (v := ?_) rfl (by kernel_rfl) (by kernel_rfl) (by kernel_rfl) (fun _ _ _ h => h) (by rfl) ?_ (by assumption) ?_
   rotate_left
   ·
    (intro wx hSw; (try dsimp only at hSw); go_simp; try with_reducible rfl)
   try simp only [Act.put,lyA,lyB,lyC]
   refine takeT_run 8 (v := ?_) rfl (by kernel_rfl) (by kernel_rfl) (by kernel_rfl) (fun _ _ _ h => h) (by rfl) ?_ (by assumption) ?_
   rotate_left
   ·
    (intro wx hSw; (try dsimp only at hSw); go_simp; try with_reducible rfl)
   try simp only [Act.put,lyA,lyB,lyC]
   refine takeT_run 9 (v := ?_) rfl (by kernel_rfl) (by kernel_rfl) (by kernel_rfl) (fun _ _ _ h => h) (by rfl) ?_ (by assumption) ?_
   rotate_left
   ·
    (intro wx hSw; (try dsimp only at hSw); go_simp; try with_reducible rfl)
   try simp only [Act.put,lyA,lyB,lyC]
   refine takeT_run 10 (v := ?_) rfl (by kernel_rfl) (by kernel_rfl) (by kernel_rfl) (fun _ _ _ h => h) (by rfl) ?_ (by assumption) ?_
   rotate_left
   ·
    (intro wx hSw; (try dsimp only at hSw); go_simp; try with_reducible rfl)
   try simp only [Act.put,lyA,lyB,lyC]
   refine takeT_run 11 (v := ?_) rfl (by kernel_rfl) (by kernel_rfl) (by kernel_rfl) (fun _ _ _ h => h) (by rfl) ?_ (by assumption) ?_
   rotate_left
   ·
    (intro wx hSw; (try dsimp only at hSw); go_simp; try with_reducible rfl)
   try simp only [Act.put,lyA,lyB,lyC]
   refine takeT_run 12 (v := ?_) rfl (by kernel_rfl) (by kernel_rfl) (by kernel_rfl) (fun _ _ _ h => h) (by rfl) ?_ (by assumption) ?_
   rotate_left
   ·
    (intro wx hSw; (try dsimp only at hSw); go_simp; try with_reducible rfl)
   try simp only [Act.put,lyA,lyB,lyC]
   refine takeT_run 13 (v := ?_) rfl (by kernel_rfl) (by kernel_rfl) (by kernel_rfl) (fun _ _ _ h => h) (by rfl) ?_ (by assumption) ?_
   rotate_left
   ·
    (intro wx hSw; (try dsimp only at hSw); go_simp; try with_reducible rfl)
   try simp only [Act.put,lyA,lyB,lyC]
   refine takeT_run 14 (v := ?_) rfl (by kernel_rfl) (by kernel_rfl) (by kernel_rfl) (fun _ _ _ h => h) (by rfl) ?_ (by assumption) ?_
   rotate_left
   ·
    (intro wx hSw; (try dsimp only at hSw); go_simp; try with_reducible rfl)
   try simp only [Act.put,lyA,lyB,lyC]
   refine takeT_one 15 rfl (by kernel_rfl) (by rfl) ?_
   intro K hK
   go_simp
   have kX6 := (kX5.alloc (.cells #[.int .i64 (cl.1 + s.sent % cl.2),.int .u64 (x : Int)] 128)).drew
   have kb6 := (kb5.alloc (.cells #[.int .i64 (cl.1 + s.sent % cl.2),.int .u64 (x : Int)] 128)).drew
   have kc6 := (Blk.made w5 #[.int .i64 (cl.1 + s.sent % cl.2),.int .u64 (x : Int)] 128).drew
   have m6 := ((Mod.refl (fun _ => False) w5).alloc (.cells #[.int .i64 (cl.1 + s.sent % cl.2),.int .u64 (x : Int)] 128)).drew
   have hq6 := (Que.stable _ _).later hq5 m6 (by simp)
   generalize (w5.alloc (.cells #[.int .i64 (cl.1 + s.sent % cl.2),.int .u64 (x : Int)] 128)).drew = w6 at kX6 kb6 kc6 m6 hq6 ⊢
   have x6 := kX6.cell 0
   simp at x6
   obtain ⟨-,-,d11,d12⟩ := nic_cell kb6
   refine hK.out _ _ ?_ (fun hHeld' => ?_)
   ·
    exact ⟨x6,d11,d12⟩
   clear hK K hHeld
   try simp only [Act.put,lyA,lyB,lyC]
   refine takeT_one 16 rfl (by kernel_rfl) (by rfl) ?_
   intro K hK
   have hQL := HQL2.out
   obtain ⟨na,nc,w7,happ,t7⟩ := Que.append (enc := encC) (sz := 2) (P := Tryz.prog) (tS := 118) (ty := 118) (x := (cl.1 + s.sent % cl.2,x)) (fun _ => rfl) encC_one Tryz.underlying118 info_cell rfl (by decide) (by decide) hq6 kc6 rfl hQL
   rw [Nat.le_antisymm HQL.out.1 HQL.out.2] at happ t7
   have m7 := t7.mod
   have kX7 := kX6.later m7 hoqX
   have t57 := Turn.before m6 t7
   have kb7 := nic_blk put t57
   have x7 := kX7.cell 0
   simp at x7
   obtain ⟨-,-,e11,e12⟩ := nic_cell kb7
   clear hq6 kc6 kX6 kb6 x6 d11 d12
   rw [if_pos (by rfl)]
   refine wp_appendR _ _ _ rfl rfl rfl happ ?_
   try simp only [Act.put,lyA,lyB,lyC]
   refine hK.out _ _ ?_ (fun hHeld'' => ?_)
   ·
    exact ⟨x7,e11,e12⟩
   clear hK K hHeld'
   try simp only [Act.put,lyA,lyB,lyC]
   refine walkT_tail 17 rfl rfl (by kernel_rfl) rfl ?_
   simp only [List.drop_succ_cons,List.drop_zero]
   skip
   have hst7 : (s.sends cl.1 cl.2 p.words k).withWords ((s.sends cl.1 cl.2 p.words k).words ++ [(cl.1 + s.sent % cl.2,x)]) = s.sends cl.1 cl.2 p.words (k + 1) := by
    unfold NicS.sends NicS.withWords
    simp only [List.append_assoc]
    rw [List.take_add_one,HX.out]
    simp
   have T8 := Lib.hid (nic_turn (w2 := w7.setCell ⟨b,11,none⟩ (.slice na (qn + 1) nc)) hF hq5 hoq put t57 rfl)
   rw [hst7] at T8
   have z11 := kb7.fz 11
   clear t57 t7 happ hst7 kX7 x7 hF put hoqX
   go_wp2
   go_roundw
   case rel => exact ⟨k + 1,by omega,by go_num,Turn.next m1 ho1 T8.out⟩
   case measure => simp [intOf]; omega
  ·
   have hkN : k = N := by omega
   have eN : s.sends cl.1 cl.2 p.words k = ⟨s.words ++ p.words.map (fun x => (cl.1 + s.sent % cl.2,x)),s.sent,s.joins,s.box⟩ := by
    unfold NicS.sends
    rw [List.take_of_length_le (by have := HN.out; omega)]
   obtain ⟨ob2,⟨kb2',hob2⟩,-,putB⟩ := hF.at (nicX_stable b bx' jp' wv' c p.src _) .blk
   have z12 := kb5.fz 12
   have c12' : w5.cell? ⟨b,12,none⟩ = some (.int .i64 s.sent) := c12
   clear c12
   have g4 : IntKind.i64.wrap (s.sent + 1) = s.sent + 1 := IntWalk.i64_in _ (by have := HST.out; omega)
   have kb6 := kb2'.set 12 (.int .i64 (s.sent + 1))
   rw [nicCells_set12] at kb6
   have mB := (Mod.refl (fun g => g = b) w5).setCell (p := ⟨b,12,none⟩) (Or.inl rfl) (.int .i64 (s.sent + 1))
   obtain ⟨o2,hx2,m2',ho2⟩ := putB (nicX b bx' jp' wv' c p.src ⟨s.words ++ p.words.map (fun x => (cl.1 + s.sent % cl.2,x)),s.sent + 1,s.joins,s.box⟩) (w5.setCell ⟨b,12,none⟩ (.int .i64 (s.sent + 1))) (by rw [eN]; intro j hj; cases j <;> first | rfl | exact absurd rfl hj) (Cells.put hob2 kb6 mB)
   have T8 : Turn o1 (NicAt b c p.src ⟨s.words ++ p.words.map (fun x => (cl.1 + s.sent % cl.2,x)),s.sent + 1,s.joins,s.box⟩) w5 (w5.setCell ⟨b,12,none⟩ (.int .i64 (s.sent + 1))) := ⟨o2,⟨bx',jp',wv',hx2⟩,m2',ho2⟩
   have T9 := Lib.hid (Turn.before m4 (Turn.next m1 ho1 T8))
   clear T8 hx2 m2' ho2 putB hF kb6 mB eN hr5
   go_wp2
   go_ret
   exact ⟨rfl,T9.out⟩
end Go.Proofs.YtfiklfkfbcpmgaaGreat
