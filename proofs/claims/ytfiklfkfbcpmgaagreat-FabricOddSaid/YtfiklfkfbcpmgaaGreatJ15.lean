/- Parts: RouterP BoxC BoxR BoxT Nic. No condition. -/
import Derived.Test.YtfiklfkfbcpmgaaGreatJ14
import Derived.Test.YtfiklfkfbcpmgaaGreatJ13
import Derived.Test.YtfiklfkfbcpmgaaGreatJ08
import Derived.Test.YtfiklfkfbcpmgaaGreatJ03
set_option linter.all false
set_option maxRecDepth 100000
set_option maxHeartbeats 3200000
namespace Go.Proofs.YtfiklfkfbcpmgaaGreat
open Go.RowKit
def fnu {α : Type} (f : Nat→α) (k : Nat) (x : α) : Nat→α := fun j => if j = k then x else f j
theorem fnu_same {α : Type} (f : Nat→α) (k : Nat) (x : α) : fnu f k x k = x := if_pos rfl
theorem fnu_other {α : Type} {f : Nat→α} {k j : Nat} {x : α} (h : j ≠ k) : fnu f k x j = f j := if_neg h
theorem routerK_congr {A B : RAddr} {m : Nat} (c : Cfg) (node : Int) (h : ∀ p,p < m→sideV A p = sideV B p) : routerK A c node m = routerK B c node m := by
 have e : ∀ p,sideK A m p = sideK B m p := fun p => by
  unfold sideK
  by_cases hp : p < m
  ·
   rw [if_pos hp,if_pos hp,h p hp]
  ·
   rw [if_neg hp,if_neg hp]
 unfold routerK
 simp only [e]
theorem routerK_set (A : RAddr) (c : Cfg) (node : Int) (m : Nat) (hm : m < 5) :
  ((((routerK A c node m).setIfInBounds (10 + m * 4) (A.iv m)).setIfInBounds (10 + m * 4 + 1) (A.ov m)).setIfInBounds (10 + m * 4 + 2) (.pointer (some ⟨A.fg m,0,none⟩))).setIfInBounds (10 + m * 4 + 3) (.pointer (some ⟨A.fm m,0,none⟩)) = routerK A c node (m + 1) := by
 rcases (show m = 0∨m = 1∨m = 2∨m = 3∨m = 4 by omega) with rfl | rfl | rfl | rfl | rfl <;> rfl
theorem lanesV_congr {A B : RAddr} {L p l : Nat} (h : ∀ j,j < l→A.lp (p * L + j) = B.lp (p * L + j)) : lanesV A L p l = lanesV B L p l :=
 List.map_congr_left fun j hj => h j (List.mem_range.1 hj)
theorem lanesV_succ (A : RAddr) (L p l : Nat) : lanesV A L p (l + 1) = lanesV A L p l ++ [A.lp (p * L + l)] := by
 unfold lanesV
 rw [List.range_succ,List.map_append]
 rfl
theorem idx_lt {L m p j : Nat} (hj : j < L) (h : p < m) : p * L + j < m * L := by
 have : (p + 1) * L ≤ m * L := Nat.mul_le_mul_right _ h
 rw [Nat.succ_mul] at this
 omega
theorem stg_start (b : Nat) (A : RAddr) (c : Cfg) (node : Int) (m T x y : Nat) (hm : m < 5) (hL : 1 ≤ c.Lanes.toNat) :
  upd (upd (upd (upd (upd (stg b A c node m none) (.give m) (Cells x #[.int .i64 c.Lanes,.int .i64 (-1)] 217)) (.mv m) (Cells y #[.int .i64 (5 * c.Lanes),.int .i64 (-1)] 217))
   (.lane (5 * c.Lanes.toNat)) (Cells T #[.slice none 0 0,.slice none 0 0,.pointer (some ⟨x,0,none⟩),.pointer (some ⟨y,0,none⟩)] 141)) (.ins m) (Que encL 1 129 (.slice none 0 0) [])) (.own m) (Que encI 1 3 (.slice none 0 0) [])
  = stg b ⟨A.lp,fnu A.iv m (.slice none 0 0),fnu A.ov m (.slice none 0 0),fnu A.fg m x,fnu A.fm m y⟩ c node m (some (T,0)) := by
 funext i
 cases i with
 | blk =>
  show Cells b (routerK A c node m) 144 = Cells b (routerK _ c node m) 144
  congr 1
  refine routerK_congr c node fun p hp => ?_
  have hne : p ≠ m := by omega
  simp only [sideV,fnu_other hne]
 | ins p =>
  by_cases h : p = m
  ·
   subst h
   show upd _ _ _ _ = (if p < p then _ else if p = p then Que encL 1 129 (fnu A.iv p (.slice none 0 0) p) (lanesV _ _ p 0) else _)
   rw [if_neg (Nat.lt_irrefl p),if_pos rfl,fnu_same]
   simp [upd,lanesV]
  ·
   show upd _ _ _ _ = (if p < m then Que encL 1 129 (fnu A.iv m (.slice none 0 0) p) _ else if p = m then _ else Emp)
   rw [fnu_other h,if_neg h]
   simp [upd,h,stg]
   rfl
 | own p =>
  by_cases h : p = m
  ·
   subst h
   show upd _ _ _ _ = (if p < p then _ else if p = p then Que encI 1 3 (fnu A.ov p (.slice none 0 0) p) (List.replicate 0 (-1)) else _)
   rw [if_neg (Nat.lt_irrefl p),if_pos rfl,fnu_same]
   simp [upd]
  ·
   show upd _ _ _ _ = (if p < m then Que encI 1 3 (fnu A.ov m (.slice none 0 0) p) _ else if p = m then _ else Emp)
   rw [fnu_other h,if_neg h]
   simp [upd,h,stg]
 | give p =>
  by_cases h : p = m
  ·
   subst h
   show upd _ _ _ _ = (if p < p then _ else if p = p then Cells (fnu A.fg p x p) _ _ else _)
   rw [if_neg (Nat.lt_irrefl p),if_pos rfl,fnu_same]
   simp [upd]
  ·
   show upd _ _ _ _ = (if p < m then Cells (fnu A.fg m x p) _ _ else if p = m then _ else Emp)
   rw [fnu_other h,if_neg h]
   simp [upd,h,stg]
 | mv p =>
  by_cases h : p = m
  ·
   subst h
   show upd _ _ _ _ = (if p < p then _ else if p = p then Cells (fnu A.fm p y p) _ _ else _)
   rw [if_neg (Nat.lt_irrefl p),if_pos rfl,fnu_same]
   simp [upd]
  ·
   show upd _ _ _ _ = (if p < m then Cells (fnu A.fm m y p) _ _ else if p = m then _ else Emp)
   rw [fnu_other h,if_neg h]
   simp [upd,h,stg]
 | lane k =>
  have hmL : m * c.Lanes.toNat < 5 * c.Lanes.toNat := Nat.mul_lt_mul_of_pos_right hm hL
  show upd _ _ _ _ = (if k < m * c.Lanes.toNat then LaneAt (A.lp k) _ _ else if k < m * c.Lanes.toNat + 0 then LaneAt (A.lp k) _ _ else if k = 5 * c.Lanes.toNat then Cells T (sideV _ m).toArray 141 else Emp)
  by_cases h : k = 5 * c.Lanes.toNat
  ·
   rw [if_neg (by omega),if_neg (by omega),if_pos h]
   simp [upd,h,sideV,fnu_same]
  ·
   rw [if_neg h]
   by_cases h2 : k < m * c.Lanes.toNat
   ·
    rw [if_pos h2]
    simp [upd,h,stg,h2]
   ·
    rw [if_neg h2,if_neg (by omega)]
    simp [upd,h,stg,h2]
theorem stg_step (b : Nat) (A : RAddr) (c : Cfg) (node : Int) (m l T x : Nat) (v v' : Value) (hm : m < 5) (hl : l < c.Lanes.toNat) :
  upd (upd (upd (upd (stg b A c node m (some (T,l))) (.lane (m * c.Lanes.toNat + l)) (LaneAt x c.Depth.toNat LaneS.new)) (.ins m) (Que encL 1 129 v (lanesV A c.Lanes.toNat m l ++ [x]))) (.own m) (Que encI 1 3 v' (List.replicate l (-1) ++ [-1])))
   (.lane (5 * c.Lanes.toNat)) (Cells T #[v,v',.pointer (some ⟨A.fg m,0,none⟩),.pointer (some ⟨A.fm m,0,none⟩)] 141)
  = stg b ⟨fnu A.lp (m * c.Lanes.toNat + l) x,fnu A.iv m v,fnu A.ov m v',A.fg,A.fm⟩ c node m (some (T,l + 1)) := by
 have hk5 : m * c.Lanes.toNat + l < 5 * c.Lanes.toNat := idx_lt hl hm
 have hlv : ∀ p j,p < m→j < c.Lanes.toNat→p * c.Lanes.toNat + j ≠ m * c.Lanes.toNat + l := fun p j hp hj e => by
  have := idx_lt hj hp
  omega
 funext i
 cases i with
 | blk =>
  show Cells b (routerK A c node m) 144 = Cells b (routerK _ c node m) 144
  congr 1
  refine routerK_congr c node fun p hp => ?_
  have hne : p ≠ m := by omega
  simp only [sideV,fnu_other hne]
 | ins p =>
  by_cases h : p = m
  ·
   subst h
   show upd _ _ _ _ = (if p < p then _ else if p = p then Que encL 1 129 (fnu A.iv p v p) (lanesV _ _ p (l + 1)) else _)
   rw [if_neg (Nat.lt_irrefl p),if_pos rfl,fnu_same,lanesV_succ]
   simp only [fnu_same]
   have e : lanesV ⟨fnu A.lp (p * c.Lanes.toNat + l) x,fnu A.iv p v,fnu A.ov p v',A.fg,A.fm⟩ c.Lanes.toNat p l = lanesV A c.Lanes.toNat p l := lanesV_congr fun j hj => by
    show fnu A.lp _ x _ = _
    exact fnu_other (by omega)
   rw [e]
   simp [upd]
  ·
   show upd _ _ _ _ = (if p < m then Que encL 1 129 (fnu A.iv m v p) (lanesV _ _ p _) else if p = m then _ else Emp)
   rw [fnu_other h,if_neg h]
   by_cases hp : p < m
   ·
    rw [if_pos hp,lanesV_congr (B := A) (fun j hj => fnu_other (hlv p j hp hj))]
    simp [upd,h,stg,hp]
   ·
    rw [if_neg hp]
    simp [upd,h,stg,hp]
 | own p =>
  by_cases h : p = m
  ·
   subst h
   show upd _ _ _ _ = (if p < p then _ else if p = p then Que encI 1 3 (fnu A.ov p v' p) (List.replicate (l + 1) (-1)) else _)
   rw [if_neg (Nat.lt_irrefl p),if_pos rfl,fnu_same,List.replicate_succ']
   simp [upd]
  ·
   show upd _ _ _ _ = (if p < m then Que encI 1 3 (fnu A.ov m v' p) _ else if p = m then _ else Emp)
   rw [fnu_other h,if_neg h]
   simp [upd,h,stg]
 | give p => simp [upd,stg]
 | mv p => simp [upd,stg]
 | lane k =>
  show upd _ _ _ _ = (if k < m * c.Lanes.toNat then LaneAt (fnu A.lp _ x k) _ _ else if k < m * c.Lanes.toNat + (l + 1) then LaneAt (fnu A.lp _ x k) _ _ else if k = 5 * c.Lanes.toNat then Cells T (sideV _ m).toArray 141 else Emp)
  by_cases h : k = 5 * c.Lanes.toNat
  ·
   rw [if_neg (by omega),if_neg (by omega),if_pos h]
   simp [upd,h,sideV,fnu_same]
  ·
   rw [if_neg h]
   by_cases h1 : k = m * c.Lanes.toNat + l
   ·
    rw [if_neg (by omega),if_pos (by omega),h1,fnu_same]
    have hne : m * c.Lanes.toNat + l ≠ 5 * c.Lanes.toNat := by omega
    simp [upd,hne]
   ·
    rw [fnu_other h1]
    by_cases h2 : k < m * c.Lanes.toNat
    ·
     rw [if_pos h2]
     simp [upd,h,h1,stg,h2]
    ·
     rw [if_neg h2]
     by_cases h3 : k < m * c.Lanes.toNat + l
     ·
      rw [if_pos (by omega)]
      simp [upd,h,h1,stg,h2,h3]
     ·
      rw [if_neg (by omega)]
      simp [upd,h,h1,stg,h2,h3]
theorem stg_end (b : Nat) (A : RAddr) (c : Cfg) (node : Int) (m T : Nat) (hm : m < 5) :
  upd (upd (stg b A c node m (some (T,c.Lanes.toNat))) (.lane (5 * c.Lanes.toNat)) Emp) .blk (Cells b (routerK A c node (m + 1)) 144) = stg b A c node (m + 1) none := by
 have hm5 : (m + 1) * c.Lanes.toNat ≤ 5 * c.Lanes.toNat := Nat.mul_le_mul_right _ hm
 funext i
 cases i with
 | blk => rfl
 | ins p =>
  show (if p < m then _ else if p = m then Que encL 1 129 (A.iv p) (lanesV A c.Lanes.toNat p c.Lanes.toNat) else Emp) = (if p < m + 1 then _ else Emp)
  by_cases h : p < m
  ·
   rw [if_pos h,if_pos (by omega)]
  ·
   rw [if_neg h]
   by_cases h2 : p = m
   ·
    rw [if_pos h2,if_pos (by omega)]
   ·
    rw [if_neg h2,if_neg (by omega)]
 | own p =>
  show (if p < m then _ else if p = m then Que encI 1 3 (A.ov p) _ else Emp) = (if p < m + 1 then _ else Emp)
  by_cases h : p < m
  ·
   rw [if_pos h,if_pos (by omega)]
  ·
   rw [if_neg h]
   by_cases h2 : p = m
   ·
    rw [if_pos h2,if_pos (by omega)]
   ·
    rw [if_neg h2,if_neg (by omega)]
 | give p =>
  show (if p < m then _ else if p = m then Cells (A.fg p) _ _ else Emp) = (if p < m + 1 then _ else Emp)
  by_cases h : p < m
  ·
   rw [if_pos h,if_pos (by omega)]
  ·
   rw [if_neg h]
   by_cases h2 : p = m
   ·
    rw [if_pos h2,if_pos (by omega)]
   ·
    rw [if_neg h2,if_neg (by omega)]
 | mv p =>
  show (if p < m then _ else if p = m then Cells (A.fm p) _ _ else Emp) = (if p < m + 1 then _ else Emp)
  by_cases h : p < m
  ·
   rw [if_pos h,if_pos (by omega)]
  ·
   rw [if_neg h]
   by_cases h2 : p = m
   ·
    rw [if_pos h2,if_pos (by omega)]
   ·
    rw [if_neg h2,if_neg (by omega)]
 | lane k =>
  rw [Nat.succ_mul] at hm5
  have e1 : (m + 1) * c.Lanes.toNat = m * c.Lanes.toNat + c.Lanes.toNat := Nat.succ_mul _ _
  show upd _ _ _ _ = (if k < (m + 1) * c.Lanes.toNat then _ else Emp)
  rw [e1]
  by_cases h : k = 5 * c.Lanes.toNat
  ·
   rw [if_neg (by omega)]
   simp [upd,h]
  ·
   by_cases h2 : k < m * c.Lanes.toNat
   ·
    rw [if_pos (by omega)]
    simp [upd,h,stg,h2]
   ·
    by_cases h3 : k < m * c.Lanes.toNat + c.Lanes.toNat
    ·
     rw [if_pos h3]
     simp [upd,h,stg,h2,h3]
    ·
     rw [if_neg h3]
     simp [upd,h,stg,h2,h3]
open Go.RowKit
def BoxPost (b n : Nat) (own : Nat→Prop) (w : World) (s' : BoxS) (e : Ending) (w' : World) : Prop :=
 ∃ er : Int,e = .returned (.int .i64 er)∧Turn own (BoxAt b n s') w w'
theorem inbox_come (b n : Nat) (p : Pkt) (s : BoxS) (own : Nat→Prop) (w : World) (h : BoxAt b n s w own) (hs : BoxOk s) (hp : p.Ok) :
  Calls Tryz.prog 150 #[.pointer (some ⟨b,0,none⟩),.agg p.cells] w (BoxPost b n own w (s.come p)) := by
 have hw1 := hs.wok
 have hp2 := hp.wf
 have kp := (Blk.made w #[.int .i64 p.src,.int .i64 p.dst,.int .i64 p.seq,.string p.data] 46).alloc (.cells #[.int .i64 p.src,.int .i64 p.seq] 112)
 have kk := Blk.made (w.alloc (.cells #[.int .i64 p.src,.int .i64 p.dst,.int .i64 p.seq,.string p.data] 46)) #[.int .i64 p.src,.int .i64 p.seq] 112
 simp only [World.size_alloc] at kk
 have m0 : Mod (fun _ => False) w ((w.alloc (.cells #[.int .i64 p.src,.int .i64 p.dst,.int .i64 p.seq,.string p.data] 46)).alloc (.cells #[.int .i64 p.src,.int .i64 p.seq] 112)) := ((Mod.refl _ _).alloc _).alloc _
 have s0 : w.heap.size + 1 < ((w.alloc (.cells #[.int .i64 p.src,.int .i64 p.dst,.int .i64 p.seq,.string p.data] 46)).alloc (.cells #[.int .i64 p.src,.int .i64 p.seq] 112)).heap.size := by simp
 have HS := Lib.hid (fun w' (m : Mod (fun _ => False) w w') => Turn.same (BoxAt.stable b n s) h m)
 have h1 := (BoxAt.stable b n s).later h m0 (by simp)
 obtain ⟨p1,p2,p3,p4⟩ := hp
 simp only [nodeB,Bool.and_eq_true,decide_eq_true_eq] at p1
 obtain ⟨p1,p1b⟩ := p1
 obtain ⟨p3,p3b⟩ := p3
 have hce : s.come p = if keyB s.waits p.src p.seq = true then s else ⟨s.q,s.waits ++ [p],s.next⟩ := by
  unfold BoxS.come
  show (if keyB s.waits p.src p.seq = true then s else _) = _
  by_cases hk : keyB s.waits p.src p.seq = true
  ·
   rw [if_pos hk,if_pos hk]
  ·
   rw [if_neg hk,if_neg hk,if_pos ⟨by simp [nodeB]; omega,by omega,by omega⟩]
 obtain ⟨s',hs'⟩ : ∃ s',s.come p = s' := ⟨_,rfl⟩
 rw [hs'] at hce ⊢
 have HC := Lib.hid hce
 have HOK := Lib.hid hs
 clear h p2 p4 hs' hce hs
 simp only [Pkt.cells]
 go_enter Tryz.func150,Tryz.ntmps150
 go_upto_region 4 with fail
 generalize (w.alloc (.cells #[.int .i64 p.src,.int .i64 p.dst,.int .i64 p.seq,.string p.data] 46)).alloc (.cells #[.int .i64 p.src,.int .i64 p.seq] 112) = w1 at kp kk m0 s0 h1 ⊢
 have H1 := Lib.hid h1
 obtain ⟨r,m1,m2,hF⟩ := h1
 obtain ⟨ob,⟨kbA,hob⟩,hobo,putB⟩ := hF.at (boxX_stable b r m1 m2 n s) .blk
 obtain ⟨oq,hqA,hoqo,putQ⟩ := hF.at (boxX_stable b r m1 m2 n s) .q
 obtain ⟨ow,hwA,howo,putW⟩ := hF.at (boxX_stable b r m1 m2 n s) .waits
 obtain ⟨on',hnA,hono,putN⟩ := hF.at (boxX_stable b r m1 m2 n s) .next
 clear hF
 obtain ⟨kb2,hkb2⟩ : ∃ k,keyB s.waits p.src p.seq = k := ⟨_,rfl⟩
 obtain ⟨x0,hl0⟩ := hwA.look hw1 hp2.1 hp2.2
 obtain ⟨x1,hl1⟩ := ((MapW.stable _ _).later hwA ((Mod.refl (fun _ => False) w1).drew) (by simp)).look hw1 hp2.1 hp2.2
 obtain ⟨x2,hl2⟩ := ((MapW.stable _ _).later hwA (((Mod.refl (fun _ => False) w1).alloc (.cells #[.int .i64 0,.int .i64 0,.int .i64 0,.string ⟨#[]⟩] 46)).drew) (by simp)).look hw1 hp2.1 hp2.2
 rw [hkb2] at hl0 hl1 hl2
 have c1 := kbA.cell 1
 simp at c1
 have b1 := kbA.lt
 have b2 := kk.lt
 have b3 := kp.lt
 have b1n : b ≠ w1.heap.size := by omega
 have b2n : w.heap.size + 1 ≠ w1.heap.size := by omega
 have b3n : w.heap.size ≠ w1.heap.size := by omega
 have HKB := Lib.hid hkb2
 clear kbA hob hobo putB hqA hoqo putQ hwA howo putW hnA hono putN
 have k0 := kk.cell 0
 have k1 := kk.cell 1
 simp at k0 k1
 go_cut [7] (fun z w' => z = .bool kb2∧Mod (fun _ => False) w1 w')
 case first =>
  simp only [Pkt.cells] at hl0 hl1 hl2
  go_region
  all_goals go_wp2_with fail
  all_goals go_meet
  all_goals exact ⟨rfl,((Mod.refl _ _).alloc _).drew⟩
 case rest =>
 obtain ⟨rfl,m4⟩ := hcut
 obtain ⟨w4,rfl⟩ : ∃ wo : World,wo = wc := ⟨_,rfl⟩
 have m04 := m0.trans m4 (fun i hi e => e)
 have h4 := (BoxAt.stable b n s).later H1.out m4 (by simp)
 have kp4 := kp.later m4 (by simp)
 have kk4 := kk.later m4 (by simp)
 clear c1 k0 k1 hl0 hl1 hl2 kp kk b1n b2n b3n b1 b2 b3 m0
 cases kb2 with
 | true =>
  have HE := Lib.hid (show s' = s by rw [HC.out,if_pos HKB.out])
  have T := Lib.hid (HS.out _ m04)
  clear h4
  go_wp2
  go_ret
  exact ⟨13,rfl,by rw [HE.out]; exact T.out⟩
 | false =>
  have HE := Lib.hid (show s' = ⟨s.q,s.waits ++ [p],s.next⟩ by rw [HC.out,if_neg (by rw [HKB.out]; simp)])
  have y0 := kp4.cell 0
  have y1 := kp4.cell 1
  have y2 := kp4.cell 2
  have y3 := kp4.cell 3
  simp at y0 y1 y2 y3
  go_upto_region 9 with fail
  clear y0 y1 y2 y3
  have h4d := (BoxAt.stable b n s).later h4 ((Mod.refl (fun _ => False) w4).drew) (by simp)
  have kpd := kp4.drew
  have kkd := kk4.drew
  obtain ⟨r,m1,m2,hF⟩ := h4d
  obtain ⟨ob,⟨kbA,hob⟩,hobo,putB⟩ := hF.at (boxX_stable b r m1 m2 n s) .blk
  obtain ⟨oq,hqA,hoqo,putQ⟩ := hF.at (boxX_stable b r m1 m2 n s) .q
  obtain ⟨ow,hwA,howo,putW⟩ := hF.at (boxX_stable b r m1 m2 n s) .waits
  obtain ⟨on',hnA,hono,putN⟩ := hF.at (boxX_stable b r m1 m2 n s) .next
  clear hF
  have c1 := kbA.cell 1
  simp at c1
  obtain ⟨w5,hu,t5⟩ := hwA.put hw1 p hp2.1 hp2.2 HKB.out
  simp only [Pkt.cells] at hu
  have T := Lib.hid (show Turn own (BoxAt b n ⟨s.q,s.waits ++ [p],s.next⟩) w w5 by
   obtain ⟨o',hx',m',ho'⟩ := putW (boxX b r m1 m2 n ⟨s.q,s.waits ++ [p],s.next⟩) w5 (by intro j hj; cases j <;> first | rfl | exact absurd rfl hj) t5
   exact Turn.before m04.drew ⟨o',⟨r,m1,m2,hx'⟩,m',ho'⟩)
  clear kbA hob hobo putB hqA hoqo putQ hwA howo putW hnA hono putN
  have y0 := kp4.cell 0
  have y1 := kp4.cell 1
  have y2 := kp4.cell 2
  have y3 := kp4.cell 3
  simp at y0 y1 y2 y3
  have k0 := kk4.cell 0
  have k1 := kk4.cell 1
  simp at k0 k1
  go_cut [] (fun w' => w' = w5)
  case first =>
   go_still_tail 6,(by kernel_rfl)
   change wpList _ _ _ _ _ w4.drew
   go_wp2_with fail
   all_goals go_meet
   all_goals rfl
  case rest =>
   obtain rfl := hcut
   clear hu c1 y0 y1 y2 y3 k0 k1
   go_wp2
   go_ret
   exact ⟨0,rfl,by rw [HE.out]; exact T.out⟩
open Go.RowKit Go.WideMaps Go.ChangeMaps
def Best (nx : Int→Int) (V : Pkt→Prop) : Option Pkt→Prop
 | none => ∀ p,V p→p.seq ≠ nx p.src
 | some p => V p∧p.seq = nx p.src∧∀ q,V q→q.seq = nx q.src→p.src ≤ q.src
def minK : Option Pkt→Pkt→Option Pkt := fun o x => match o with | none => some x | some y => if x.src < y.src then some x else some y
theorem fold_best (nx : Int→Int) (L : List Pkt) : ∀ (V : Pkt→Prop) (o : Option Pkt),Best nx V o→(∀ x ∈ L,x.seq = nx x.src)→Best nx (fun p => V p∨p ∈ L) (L.foldl minK o) := by
 induction L with
 | nil =>
  intro V o h _
  have e : (fun p => V p∨p ∈ ([] : List Pkt)) = V := funext fun p => by simp
  rw [e]
  exact h
 | cons a L ih =>
  intro V o h hL
  rw [List.foldl_cons]
  have h1 : Best nx (fun p => V p∨p = a) (minK o a) := by
   have ha := hL a (by simp)
   cases o with
   | none =>
    refine ⟨Or.inr rfl,ha,fun q hq hr => ?_⟩
    rcases hq with hq | rfl
    ·
     exact absurd hr (h q hq)
    ·
     exact Int.le_refl _
   | some y =>
    obtain ⟨hv,hr,hm⟩ := h
    show Best nx _ (if a.src < y.src then some a else some y)
    by_cases hlt : a.src < y.src
    ·
     rw [if_pos hlt]
     refine ⟨Or.inr rfl,ha,fun q hq hqr => ?_⟩
     rcases hq with hq | rfl
     ·
      have := hm q hq hqr; omega
     ·
      exact Int.le_refl _
    ·
     rw [if_neg hlt]
     refine ⟨Or.inl hv,hr,fun q hq hqr => ?_⟩
     rcases hq with hq | rfl
     ·
      exact hm q hq hqr
     ·
      omega
  have h2 := ih _ _ h1 (fun x hx => hL x (List.mem_cons_of_mem _ hx))
  have e : (fun p => V p∨p ∈ a :: L) = (fun p => (V p∨p = a)∨p ∈ L) := funext fun p => by simp [or_assoc]
  rw [e]
  exact h2
theorem ready_best (s : BoxS) : Best s.nx (fun p => p ∈ s.waits) s.ready := by
 have h := fold_best s.nx (s.waits.filter fun x => decide (x.seq = s.nx x.src)) (fun _ => False) none (fun p hp => hp.elim) (fun x hx => by simpa using (List.mem_filter.1 hx).2)
 have e : s.ready = (s.waits.filter fun x => decide (x.seq = s.nx x.src)).foldl minK none := rfl
 rw [← e] at h
 rcases hr : s.ready with _ | p
 ·
  rw [hr] at h
  exact fun p hp hpr => h p (Or.inr (List.mem_filter.2 ⟨hp,by simpa using hpr⟩)) hpr
 ·
  rw [hr] at h
  obtain ⟨h1,h2,h3⟩ := h
  refine ⟨?_,h2,fun q hq hqr => h3 q (Or.inr (List.mem_filter.2 ⟨hq,by simpa using hqr⟩)) hqr⟩
  rcases h1 with h1 | h1
  ·
   exact h1.elim
  ·
   exact (List.mem_filter.1 h1).1
theorem dj_eq {l : List Pkt} (hd : (l.map fun p => (p.src,p.seq)).Nodup) {p q : Pkt} (hp : p ∈ l) (hq : q ∈ l) (h1 : p.src = q.src) (h2 : p.seq = q.seq) : p = q := by
 induction l with
 | nil => cases hp
 | cons a l ih =>
  rw [List.map_cons,List.nodup_cons] at hd
  rcases List.mem_cons.1 hp with e1 | hp'
  ·
   rcases List.mem_cons.1 hq with e2 | hq'
   ·
    rw [e1,e2]
   ·
    exact absurd (List.mem_map.2 ⟨q,hq',by rw [← e1,h1,h2]⟩) hd.1
  ·
   rcases List.mem_cons.1 hq with e2 | hq'
   ·
    exact absurd (List.mem_map.2 ⟨p,hp',by rw [← e2,h1,h2]⟩) hd.1
   ·
    exact ih hd.2 hp' hq'
theorem best_uniq {s : BoxS} (h : BoxOk s) {o : Option Pkt} (ho : Best s.nx (fun p => p ∈ s.waits) o) : s.ready = o := by
 have hr := ready_best s
 rcases hr1 : s.ready with _ | p <;> rcases o with _ | q
 ·
  rfl
 ·
  rw [hr1] at hr
  exact absurd ho.2.1 (hr q ho.1)
 ·
  rw [hr1] at hr
  exact absurd hr.2.1 (ho p hr.1)
 ·
  rw [hr1] at hr
  have h1 := hr.2.2 q ho.1 ho.2.1
  have h2 := ho.2.2 p hr.1 hr.2.1
  have hs : p.src = q.src := by omega
  rw [dj_eq h.dj hr.1 ho.1 hs (by rw [hr.2.1,ho.2.1,hs])]
theorem setBlock_other' (w : World) (b k : Nat) (o : Obj) (h : k ≠ b) : (setBlock w b o).heap[k]? = w.heap[k]? := by
 simp [setBlock,Array.getElem?_setIfInBounds_ne (Ne.symm h)]
theorem setBlock_same' (w : World) (b : Nat) (o : Obj) (h : b < w.heap.size) : (setBlock w b o).heap[b]? = some o := by
 simp [setBlock,h]
def Seen (es : Array MapEntry) (l : List Pkt) (seen : Array Nat) (p : Pkt) : Prop := ∃ (q : Nat) (e : MapEntry),es.toList[q]? = some e∧l[q]? = some p∧seen.contains e.born = true
theorem seen_push {es : Array MapEntry} {l : List Pkt} {seen : Array Nat} {qi : Nat} {e : MapEntry} {p : Pkt} (hb : (es.toList.map (·.born)).Nodup) (hq : es.toList[qi]? = some e) (hp : l[qi]? = some p) :
  Seen es l (seen.push e.born) = fun x => Seen es l seen x∨x = p := by
 funext x
 apply propext
 constructor
 ·
  rintro ⟨q,e',h1,h2,h3⟩
  rw [contains_push,Bool.or_eq_true] at h3
  rcases h3 with h3 | h3
  ·
   exact Or.inl ⟨q,e',h1,h2,h3⟩
  ·
   right
   have h4 : e'.born = e.born := by simpa using h3
   have hl1 := (List.getElem?_eq_some_iff.1 h1)
   have hl2 := (List.getElem?_eq_some_iff.1 hq)
   have hqq : q = qi := by
    by_cases h : q = qi
    ·
     exact h
    ·
     have h5 := List.pairwise_iff_getElem.1 hb
     rcases Nat.lt_or_gt_of_ne h with h6 | h6
     ·
      exact (h5 q qi (by simpa using hl1.1) (by simpa using hl2.1) h6 (by rw [List.getElem_map,List.getElem_map,hl1.2,hl2.2,h4])).elim
     ·
      exact (h5 qi q (by simpa using hl2.1) (by simpa using hl1.1) h6 (by rw [List.getElem_map,List.getElem_map,hl1.2,hl2.2,h4])).elim
   rw [hqq,hp] at h2
   simpa using h2.symm
 ·
  rintro (⟨q,e',h1,h2,h3⟩ | rfl)
  ·
   exact ⟨q,e',h1,h2,by rw [contains_push,h3]; rfl⟩
  ·
   exact ⟨qi,e,hq,hp,by rw [contains_push]; simp⟩
def takeB (nx : Int→Int) (p : Pkt) (cur : Option Pkt) : Bool := decide (p.seq = nx p.src) && (match cur with | none => true | some c => decide (p.src < c.src))
theorem best_step {nx : Int→Int} {V : Pkt→Prop} {cur : Option Pkt} (h : Best nx V cur) (p : Pkt) : Best nx (fun x => V x∨x = p) (if takeB nx p cur = true then some p else cur) := by
 unfold takeB
 by_cases hr : p.seq = nx p.src
 ·
  cases cur with
  | none =>
   rw [if_pos (by simp [hr])]
   refine ⟨Or.inr rfl,hr,fun q hq hqr => ?_⟩
   rcases hq with hq | rfl
   ·
    exact absurd hqr (h q hq)
   ·
    exact Int.le_refl _
  | some c =>
   obtain ⟨h1,h2,h3⟩ := h
   by_cases hlt : p.src < c.src
   ·
    rw [if_pos (by simp [hr,hlt])]
    refine ⟨Or.inr rfl,hr,fun q hq hqr => ?_⟩
    rcases hq with hq | rfl
    ·
     have := h3 q hq hqr; omega
    ·
     exact Int.le_refl _
   ·
    rw [if_neg (by simp [hlt])]
    refine ⟨Or.inl h1,h2,fun q hq hqr => ?_⟩
    rcases hq with hq | rfl
    ·
     exact h3 q hq hqr
    ·
     omega
 ·
  rw [if_neg (by simp [hr])]
  cases cur with
  | none =>
   intro q hq
   rcases hq with hq | rfl
   ·
    exact h q hq
   ·
    exact hr
  | some c =>
   obtain ⟨h1,h2,h3⟩ := h
   refine ⟨Or.inl h1,h2,fun q hq hqr => ?_⟩
   rcases hq with hq | rfl
   ·
    exact h3 q hq hqr
   ·
    exact absurd hqr hr
theorem inbox_ready (b n : Nat) (s : BoxS) (own : Nat→Prop) (w : World) (h : BoxAt b n s w own) (hs : BoxOk s) :
  Calls Tryz.prog 157 #[.pointer (some ⟨b,0,none⟩)] w fun e w' => e = .returned (.tuple #[.agg (s.ready.getD Pkt.zero).cells,.bool s.ready.isSome])∧Mod (fun _ => False) w w' := by
 have HU := Lib.hid (fun o (ho : Best s.nx (fun p => p ∈ s.waits) o) => best_uniq hs ho)
 have hwok := hs.wok
 have hnxb := hs.nx
 have kr := (Blk.made w #[.int .i64 0,.int .i64 0,.int .i64 0,.string ⟨#[]⟩] 46).alloc (.cells #[.int .i64 0,.int .i64 0,.int .i64 0,.string ⟨#[]⟩] 46)
 have kf := Blk.made (w.alloc (.cells #[.int .i64 0,.int .i64 0,.int .i64 0,.string ⟨#[]⟩] 46)) #[.int .i64 0,.int .i64 0,.int .i64 0,.string ⟨#[]⟩] 46
 simp only [World.size_alloc] at kf
 have m0 : Mod (fun _ => False) w ((w.alloc (.cells #[.int .i64 0,.int .i64 0,.int .i64 0,.string ⟨#[]⟩] 46)).alloc (.cells #[.int .i64 0,.int .i64 0,.int .i64 0,.string ⟨#[]⟩] 46)) := ((Mod.refl _ _).alloc _).alloc _
 have s0 : w.heap.size + 1 < ((w.alloc (.cells #[.int .i64 0,.int .i64 0,.int .i64 0,.string ⟨#[]⟩] 46)).alloc (.cells #[.int .i64 0,.int .i64 0,.int .i64 0,.string ⟨#[]⟩] 46)).heap.size := by simp
 have h1 := (BoxAt.stable b n s).later h m0 (by simp)
 have olt := fun g (hg : own g) => (BoxAt.stable b n s).lt h hg
 clear h hs
 obtain ⟨rv,hrv⟩ : ∃ r,s.ready = r := ⟨_,rfl⟩
 rw [hrv] at HU ⊢
 clear hrv
 go_enter Tryz.func157,Tryz.ntmps157
 go_upto_region 3 with fail
 generalize (w.alloc (.cells #[.int .i64 0,.int .i64 0,.int .i64 0,.string ⟨#[]⟩] 46)).alloc (.cells #[.int .i64 0,.int .i64 0,.int .i64 0,.string ⟨#[]⟩] 46) = w1 at kr kf m0 s0 h1 ⊢
 obtain ⟨r,m1,m2,hF⟩ := h1
 obtain ⟨ob,⟨kbA,hob⟩,hobo,putB⟩ := hF.at (boxX_stable b r m1 m2 n s) .blk
 obtain ⟨oq,hqA,hoqo,putQ⟩ := hF.at (boxX_stable b r m1 m2 n s) .q
 obtain ⟨ow,hwA,howo,putW⟩ := hF.at (boxX_stable b r m1 m2 n s) .waits
 obtain ⟨on',hnA,hono,putN⟩ := hF.at (boxX_stable b r m1 m2 n s) .next
 clear hF
 have c1 := kbA.cell 1
 have c2 := kbA.cell 2
 simp at c1 c2
 have hbo := olt b (hobo _ ((hob _).2 rfl))
 obtain ⟨es,clock,hE,hv,hoW⟩ := hwA
 have hm1 := olt m1 (howo _ ((hoW _).2 rfl))
 have hrg := run_range_map (P := Tryz.prog) w1 186 112 46 m1 es clock Tryz.underlying186 hE.at'
 have bF : w.heap.size + 1 < w1.heap.size := s0
 have m2i := (Mod.refl (fun _ => False) w1).alloc (.mapIter (some m1) clock #[] clock)
 have kb2 := kbA.later m2i (by simp)
 have kf2 := kf.later m2i (by simp)
 have kr2 := kr.later m2i (by simp)
 have hE2 : Ents (w1.alloc (.mapIter (some m1) clock #[] clock)) m1 es clock := ⟨(m2i.block m1 (Array.getElem?_eq_some_iff.1 hE.at').1 (by simp)).trans hE.at',hE.keys,hE.borns,hE.old⟩
 have hn2 := (MapI.stable _ _).later hnA m2i (by simp)
 have hit2 : (w1.alloc (.mapIter (some m1) clock #[] clock)).heap[w1.heap.size]? = some (.mapIter (some m1) clock #[] clock) := heap_alloc_new w1 _
 have s2 : w1.heap.size < (w1.alloc (.mapIter (some m1) clock #[] clock)).heap.size := by simp
 have m02 := m0.trans m2i (fun i hi e => e)
 have hnlt := fun g (hg : on' g) => olt g (hono g hg)
 go_upto_region 6 with fail
 generalize w1.alloc (.mapIter (some m1) clock #[] clock) = w2 at kb2 kf2 kr2 hE2 hn2 hit2 s2 m02 ⊢
 clear hrg c1 c2 kbA hob hobo putB hqA hoqo putQ howo putW hnA hono putN hE kf kr m2i m0 hoW
 have HV := Lib.hid hv
 have HWOK := Lib.hid hwok
 have HNX := Lib.hid hnxb
 have HN2 := Lib.hid hn2
 have HE2 := Lib.hid hE2
 have HNLT := Lib.hid hnlt
 clear hv hwok hnxb hn2 hE2 hnlt olt
 go_loopw [5] (fun z wr => ∃ (seen : Array Nat) (cur : Option Pkt),z = .bool cur.isSome∧Blk wr (w.heap.size + 1) (cur.getD Pkt.zero).cells 46∧wr.heap[w1.heap.size]? = some (.mapIter (some m1) clock seen clock)∧Best s.nx (Seen es s.waits seen) cur∧Mod (fun g => g = w.heap.size + 1∨g = w1.heap.size) w2 wr) (fun _ wr => (leftOf es (wr.iterSeen w1.heap.size)).size)
 case atStart => exact ⟨#[],none,rfl,kf2,hit2,fun p ⟨q,e,h1,h2,h3⟩ => by simp at h3,Mod.refl _ _⟩
 case round =>
  obtain ⟨seen,cur,rfl,kfr,hitr,hbest,hmod⟩ := hrel
  have hsz := hmod.size
  have hEr : Ents wr m1 es clock := ⟨(hmod.block m1 (Array.getElem?_eq_some_iff.1 HE2.out.at').1 (by omega)).trans HE2.out.at',HE2.out.keys,HE2.out.borns,HE2.out.old⟩
  have HEr := Lib.hid hEr
  have law := run_next_at (P := Tryz.prog) wr 0 w1.heap.size m1 clock clock seen es clock hitr hEr.at' hEr.old (Nat.le_refl _)
  have HB := Lib.hid hbest
  clear hbest hEr
  rcases law with ⟨h0,hrun⟩ | ⟨e,he,w3,hal,hrun⟩
  ·
   have hnx : ∀ ty,(Instr.next (.pointer (some ⟨w1.heap.size,0,none⟩)) false ty).run Tryz.prog wr = _ := fun _ => hrun
   have hall := all_seen es seen h0
   have hfin : rv = cur := HU.out cur (by
    have h1 := HB.out
    have h2 : Seen es s.waits seen = fun p => p ∈ s.waits := by
     funext p
     apply propext
     constructor
     ·
      rintro ⟨q,e,h1,h2,h3⟩
      exact List.mem_of_getElem? h2
     ·
      intro hp
      obtain ⟨q,hq⟩ := List.mem_iff_getElem?.1 hp
      have hlen : es.toList.length = s.waits.length := by
       have := congrArg List.length HV.out
       simpa using this
      have hql := (List.getElem?_eq_some_iff.1 hq).1
      have hqe : es.toList[q]? = some es.toList[q] := List.getElem?_eq_getElem (by omega)
      exact ⟨q,_,hqe,hq,hall _ (List.getElem_mem (by omega))⟩
    rw [h2] at h1
    exact h1)
   have HF := Lib.hid hfin
   have krr := kr2.later hmod (by omega)
   have mmr := m02.trans hmod (fun i hi e => by omega)
   clear hfin hall hrun h0 hitr
   obtain ⟨cv,hcv⟩ : ∃ c,cur.getD Pkt.zero = c := ⟨_,rfl⟩
   rw [hcv] at kfr
   have HCV := Lib.hid hcv
   simp only [Pkt.cells] at kfr
   obtain ⟨cb,hcb⟩ : ∃ c,cur.isSome = c := ⟨_,rfl⟩
   rw [hcb]
   have HCB := Lib.hid hcb
   clear hcv hcb
   have f0 := kfr.cell 0
   have f1 := kfr.cell 1
   have f2 := kfr.cell 2
   have f3 := kfr.cell 3
   simp at f0 f1 f2 f3
   have y0 := krr.cell 0
   have y1 := krr.cell 1
   have y2 := krr.cell 2
   have y3 := krr.cell 3
   simp at y0 y1 y2 y3
   have u0 := krr.fz 0
   have u1 := krr.fz 1
   have u2 := krr.fz 2
   have u3 := krr.fz 3
   go_wp2
   have qE := ((((krr.set (0) (.int .i64 cv.src)).set (1) (.int .i64 cv.dst)).set (2) (.int .i64 cv.seq)).set (3) (.string cv.data))
   have mE := ((((mmr.setCell (p := ⟨w.heap.size,0,none⟩) (Or.inr (Nat.le_refl _)) (.int .i64 cv.src)).setCell (p := ⟨w.heap.size,1,none⟩) (Or.inr (Nat.le_refl _)) (.int .i64 cv.dst)).setCell (p := ⟨w.heap.size,2,none⟩) (Or.inr (Nat.le_refl _)) (.int .i64 cv.seq)).setCell (p := ⟨w.heap.size,3,none⟩) (Or.inr (Nat.le_refl _)) (.string cv.data))
   have mB := (((((Mod.refl (fun g => g = w.heap.size) wr).setCell (p := ⟨w.heap.size,0,none⟩) (Or.inl rfl) (.int .i64 cv.src)).setCell (p := ⟨w.heap.size,1,none⟩) (Or.inl rfl) (.int .i64 cv.dst)).setCell (p := ⟨w.heap.size,2,none⟩) (Or.inl rfl) (.int .i64 cv.seq)).setCell (p := ⟨w.heap.size,3,none⟩) (Or.inl rfl) (.string cv.data))
   simp at qE
   generalize ((((wr.setCell ⟨w.heap.size,0,none⟩ (.int .i64 cv.src)).setCell ⟨w.heap.size,1,none⟩ (.int .i64 cv.dst)).setCell ⟨w.heap.size,2,none⟩ (.int .i64 cv.seq)).setCell ⟨w.heap.size,3,none⟩ (.string cv.data)) = wE at qE mE mB ⊢
   have qe0 := qE.cell 0
   have qe1 := qE.cell 1
   have qe2 := qE.cell 2
   have qe3 := qE.cell 3
   simp at qe0 qe1 qe2 qe3
   exact bodyPost_ret (v := .tuple #[.agg #[.int .i64 cv.src,.int .i64 cv.dst,.int .i64 cv.seq,.string cv.data],.bool cb]) (by simp [results,Tryz.results157,go_sem,qe0,qe1,qe2,qe3]) rfl ⟨by rw [HF.out,HCV.out,HCB.out]; rfl,mE⟩
  ·
   have hnx : ∀ ty,(Instr.next (.pointer (some ⟨w1.heap.size,0,none⟩)) false ty).run Tryz.prog wr = _ := fun _ => hrun
   have hmemL := mem_left he
   obtain ⟨qi,hqi⟩ := List.mem_iff_getElem?.1 hmemL.1
   obtain ⟨p,hp,hek,hev⟩ := ents_at HV.out hqi
   have hshr := left_shrinks es seen e he
   have hwfp := HWOK.out.wf p (List.mem_of_getElem? hp)
   have hnxp := HNX.out p.src
   have mw3 : Mod (fun _ => False) wr w3 := by rcases hal with rfl | rfl; exact Mod.refl _ _; exact (Mod.refl _ _).drew
   have hit3 : w3.heap[w1.heap.size]? = some (.mapIter (some m1) clock seen clock) := by rcases hal with rfl | rfl <;> exact hitr
   have m5 : Mod (fun g => g = w1.heap.size) wr (setBlock w3 w1.heap.size (.mapIter (some m1) clock (seen.push e.born) clock)) :=
    (mw3.mono (fun i hi e => e.elim)).trans (⟨rfl,rfl,rfl,by simp [setBlock],fun k _ hk => setBlock_other' _ _ _ _ (fun e => hk e)⟩ : Mod (fun g => g = w1.heap.size) w3 (setBlock w3 w1.heap.size (.mapIter (some m1) clock (seen.push e.born) clock))) (fun i hi e => e)
   have hit5 : (setBlock w3 w1.heap.size (.mapIter (some m1) clock (seen.push e.born) clock)).heap[w1.heap.size]? = some (.mapIter (some m1) clock (seen.push e.born) clock) := setBlock_same' _ _ _ (Array.getElem?_eq_some_iff.1 hit3).1
   have HSR := Lib.hid (show wr.iterSeen w1.heap.size = seen by unfold World.iterSeen; rw [hitr])
   have HBV := Lib.hid (⟨hqi,hp,hshr⟩ : es.toList[qi]? = some e∧s.waits[qi]? = some p∧(leftOf es (seen.push e.born)).size < (leftOf es seen).size)
   go_upto_region 7 with fail
   generalize setBlock w3 w1.heap.size (.mapIter (some m1) clock (seen.push e.born) clock) = w5 at m5 hit5 ⊢
   clear hnx hrun hit3 hal mw3 hitr
   have hE5 : Ents w5 m1 es clock := ⟨(m5.block m1 (Array.getElem?_eq_some_iff.1 HEr.out.at').1 (by omega)).trans HEr.out.at',HE2.out.keys,HE2.out.borns,HE2.out.old⟩
   have hent := run_entry_at (P := Tryz.prog) w5 w1.heap.size m1 clock seen es clock e hit5 hE5.at' hmemL.1 hE5.borns
   rw [hek,hev] at hent
   simp only [Pkt.key,pairK,Pkt.cells] at hent
   have m25 := hmod.trans m5 (fun i hi e => Or.inr e)
   have s5 := m25.size
   have kf5 := kfr.later m5 (by omega)
   have hmem5 := hmemL
   clear hek hev hE5 hqi hp hshr he hmemL hmem5 kfr hmod m5
   go_upto_region 8 with fail
   have kk := (Blk.made w5 #[.int .i64 p.src,.int .i64 p.seq] 112).alloc (.cells #[.int .i64 p.src,.int .i64 p.dst,.int .i64 p.seq,.string p.data] 46)
   have kv := Blk.made (w5.alloc (.cells #[.int .i64 p.src,.int .i64 p.seq] 112)) #[.int .i64 p.src,.int .i64 p.dst,.int .i64 p.seq,.string p.data] 46
   simp only [World.size_alloc] at kv
   have m6 : Mod (fun _ => False) w5 ((w5.alloc (.cells #[.int .i64 p.src,.int .i64 p.seq] 112)).alloc (.cells #[.int .i64 p.src,.int .i64 p.dst,.int .i64 p.seq,.string p.data] 46)) := ((Mod.refl _ _).alloc _).alloc _
   generalize (w5.alloc (.cells #[.int .i64 p.src,.int .i64 p.seq] 112)).alloc (.cells #[.int .i64 p.src,.int .i64 p.dst,.int .i64 p.seq,.string p.data] 46) = w6 at kk kv m6 ⊢
   have m26 := m25.trans m6 (fun i hi e => e.elim)
   have kf6 := kf5.later m6 (by simp)
   have hit6 : w6.heap[w1.heap.size]? = some (.mapIter (some m1) clock (seen.push e.born) clock) := (m6.block _ (Array.getElem?_eq_some_iff.1 hit5).1 (by simp)).trans hit5
   have kb6 := kb2.later m26 (by omega)
   have hn6 := (MapI.stable _ _).later HN2.out m26 (fun g hg => by have := HNLT.out g hg; omega)
   have hlk : ∀ nq,(Instr.lookup 187 (.map (some m2)) (.int .i64 p.src) false).run Tryz.prog (w6.drewN nq) = .ok (.int .i64 (s.nx p.src)) (w6.drewN nq) := fun nq => ((MapI.stable _ _).later hn6 ((Mod.refl (fun _ => False) w6).drewN nq) (by simp)).lookup hwfp.1
   have c2 := kb6.cell 2
   simp at c2
   clear hent kf5 hit5 m25 m6 hn6 kb6
   have k0 := kk.cell 0
   have k1 := kk.cell 1
   simp at k0 k1
   have v0 := kv.cell 0
   have v1 := kv.cell 1
   have v2 := kv.cell 2
   have v3 := kv.cell 3
   simp at v0 v1 v2 v3
   have hnew := best_step HB.out p
   rw [← seen_push HE2.out.borns HBV.out.1 HBV.out.2.1] at hnew
   have HNEW := Lib.hid hnew
   have hm26 := m26
   clear hnew
   obtain ⟨tk,htk⟩ : ∃ t,takeB s.nx p cur = t := ⟨_,rfl⟩
   rw [htk] at HNEW
   have HTK := Lib.hid htk
   clear htk
   have HKF := Lib.hid kf6
   go_cut [41] (fun z w' => z = .bool tk∧Drw w6 w')
   case first =>
    have htk := HTK.out
    unfold takeB at htk
    by_cases hr : p.seq = s.nx p.src
    ·
     have q1 : (p.seq == s.nx p.src) = true := by rw [hr]; simp
     rw [decide_eq_true hr,Bool.true_and] at htk
     cases cur with
     | none =>
      have htk : true = tk := htk
      subst htk
      clear hr
      go_quiet (fail)
      go_wp2_with fail
      all_goals go_meet
      all_goals exact ⟨rfl,Drw.drewN _ _⟩
     | some c =>
      simp only [Option.getD_some,Pkt.cells] at kf6
      have f0 := kf6.cell 0
      have f1 := kf6.cell 1
      have f2 := kf6.cell 2
      have f3 := kf6.cell 3
      simp at f0 f1 f2 f3
      have htk : decide (p.src < c.src) = tk := htk
      have HT2 := Lib.hid htk
      clear hr htk
      go_quiet (fail)
      go_wp2_with fail
      all_goals go_meet
      all_goals exact ⟨by rw [← HT2.out],Drw.drewN _ _⟩
    ·
     have q1 : (p.seq == s.nx p.src) = false := beq_eq_false_iff_ne.2 hr
     rw [decide_eq_false hr,Bool.false_and] at htk
     subst htk
     clear hr
     go_quiet (fail)
     go_wp2_with fail
     all_goals go_meet
     all_goals exact ⟨rfl,Drw.drewN _ _⟩
   case rest =>
   obtain ⟨rfl,d7⟩ := hcut
   obtain ⟨w7,rfl⟩ : ∃ wo : World,wo = wc := ⟨_,rfl⟩
   have m7 := d7.mod (fun _ => False)
   have kf7 := HKF.out.later m7 (by simp)
   have kv7 := kv.later m7 (by simp)
   have m27 := hm26.trans m7 (fun i hi e => e.elim)
   have hit7 : w7.heap[w1.heap.size]? = some (.mapIter (some m1) clock (seen.push e.born) clock) := by rw [d7.heap]; exact hit6
   have hseen7 : w7.iterSeen w1.heap.size = seen.push e.born := by unfold World.iterSeen; rw [hit7]
   clear hlk c2 k0 k1 v0 v1 v2 v3 kk kv m26 hm26 kf6 d7 m7
   have HS7 := Lib.hid hseen7
   have HI7 := Lib.hid hit7
   have HM27 := Lib.hid m27
   cases tk with
   | false =>
    clear hseen7 hit7
    go_wp2
    refine ⟨⟨seen.push e.born,cur,rfl,kf7,HI7.out,?_,HM27.out⟩,by rw [HS7.out,HSR.out]; exact HBV.out.2.2⟩
    have := HNEW.out
    simpa using this
   | true =>
    simp only [Pkt.cells] at kf7
    obtain ⟨cv,hcv⟩ : ∃ c,cur.getD Pkt.zero = c := ⟨_,rfl⟩
    rw [hcv] at kf7
    clear hseen7 hit7 hcv HKF
    have v0 := kv7.cell 0
    have v1 := kv7.cell 1
    have v2 := kv7.cell 2
    have v3 := kv7.cell 3
    simp at v0 v1 v2 v3
    have f0 := kf7.cell 0
    have f1 := kf7.cell 1
    have f2 := kf7.cell 2
    have f3 := kf7.cell 3
    simp at f0 f1 f2 f3
    have z0 := kf7.fz 0
    have z1 := kf7.fz 1
    have z2 := kf7.fz 2
    have z3 := kf7.fz 3
    have m8 := Mod.refl (fun g => g = w.heap.size + 1) w7
    have q8 := (((kf7.set 0 (.int .i64 p.src)).set 1 (.int .i64 p.dst)).set 2 (.int .i64 p.seq)).set 3 (.string p.data)
    have n8 := (((m8.setCell (p := ⟨w.heap.size + 1,0,none⟩) (Or.inl rfl) (.int .i64 p.src)).setCell (p := ⟨w.heap.size + 1,1,none⟩) (Or.inl rfl) (.int .i64 p.dst)).setCell (p := ⟨w.heap.size + 1,2,none⟩) (Or.inl rfl) (.int .i64 p.seq)).setCell (p := ⟨w.heap.size + 1,3,none⟩) (Or.inl rfl) (.string p.data)
    simp at q8
    have H8 := Lib.hid (⟨q8,n8⟩ : _∧_)
    clear q8 n8 m8
    go_wp2
    have hI8 := (H8.out.2.block w1.heap.size (Array.getElem?_eq_some_iff.1 HI7.out).1 (by omega)).trans HI7.out
    refine ⟨⟨seen.push e.born,some p,rfl,H8.out.1,hI8,?_,HM27.out.trans H8.out.2 (fun i hi e => Or.inl e)⟩,?_⟩
    ·
     have := HNEW.out
     simpa using this
    ·
     have : ∀ W : World,W.heap[w1.heap.size]? = some (.mapIter (some m1) clock (seen.push e.born) clock)→W.iterSeen w1.heap.size = seen.push e.born := fun W h => by unfold World.iterSeen; rw [h]
     rw [this _ hI8,HSR.out]
     exact HBV.out.2.2
open Go.RowKit Go.WideMaps Go.ChangeMaps
def TellPost (b n : Nat) (own : Nat→Prop) (w : World) (s' : BoxS) (r : Bool) (e : Ending) (w' : World) : Prop := e = .returned (.bool r)∧Turn own (BoxAt b n s') w w'
def BoxS.told (s : BoxS) (p : Pkt) : BoxS :=
 ⟨s.q ++ [p],s.waits.filter (fun x => !(decide (x.src = p.src) && decide (x.seq = p.seq))),(p.src,(p.seq + 1) % 65536) :: s.next.filter fun x => decide (x.1 ≠ p.src)⟩
theorem find_filter (l : List (Int × Int)) (a i : Int) (h : i ≠ a) : (l.filter fun x => decide (x.1 ≠ a)).find? (fun x => decide (x.1 = i)) = l.find? (fun x => decide (x.1 = i)) := by
 induction l with
 | nil => rfl
 | cons y l ih =>
  rw [List.filter_cons]
  by_cases h1 : y.1 ≠ a
  ·
   rw [if_pos (by simpa using h1),List.find?_cons,List.find?_cons,ih]
  ·
   rw [if_neg (by simpa using h1),ih,List.find?_cons]
   have : ¬ y.1 = i := fun e => h1 (by rw [e]; exact h)
   rw [decide_eq_false this]
theorem told_nx (s : BoxS) (p : Pkt) : (s.told p).nx = fun a => if a = p.src then (p.seq + 1) % 65536 else s.nx a := by
 funext i
 unfold BoxS.told BoxS.nx
 dsimp only
 rw [List.find?_cons]
 by_cases h : i = p.src
 ·
  rw [if_pos h,h]
  simp
 ·
  rw [if_neg h,decide_eq_false (fun e => h e.symm)]
  dsimp only
  rw [find_filter _ _ _ h]
theorem inbox_tell_none (b n : Nat) (s : BoxS) (own : Nat→Prop) (w : World) (h : BoxAt b n s w own) (hs : BoxOk s) (hr : s.ready = none) :
  Calls Tryz.prog 153 #[.pointer (some ⟨b,0,none⟩)] w (TellPost b n own w s false) := by
 have HR := Lib.hid (inbox_ready b n s own w h hs)
 have HS := Lib.hid (fun w' (m : Mod (fun _ => False) w w') => Turn.same (BoxAt.stable b n s) h m)
 rw [hr] at HR
 simp only [Option.getD_none,Option.isSome_none,Pkt.cells,Pkt.zero] at HR
 clear h hs hr
 go_enter Tryz.func153,Tryz.ntmps153
 go_wp2_with fail
 refine HR.out.mono ?_
 rintro e w1 ⟨rfl,m1⟩
 have T := Lib.hid (fun nq => HS.out _ ((m1.alloc (.cells #[.int .i64 0,.int .i64 0,.int .i64 0,.string ⟨#[]⟩] 46)).drewN nq))
 go_wp2
 go_quiet (fail)
 have T2 := Lib.hid (T.out nq)
 clear T
 go_wp2
 go_ret
 exact ⟨rfl,T2.out⟩
theorem inbox_tell (b n : Nat) (p : Pkt) (s : BoxS) (own : Nat→Prop) (w : World) (h : BoxAt b n s w own) (hs : BoxOk s) (hr : s.ready = some p) :
  Calls Tryz.prog 153 #[.pointer (some ⟨b,0,none⟩)] w fun e w' => (s.q.length = n∧TellPost b n own w s false e w')∨(s.q.length < n∧TellPost b n own w (s.told p) true e w') := by
 have HR := Lib.hid (inbox_ready b n s own w h hs)
 have HS := Lib.hid (fun w' (m : Mod (fun _ => False) w w') => Turn.same (BoxAt.stable b n s) h m)
 have olt := fun g (hg : own g) => (BoxAt.stable b n s).lt h hg
 have hb := ready_best s
 rw [hr] at hb HR
 obtain ⟨hpm,hpr,-⟩ := hb
 have hok := hs.wait p hpm
 have hwf := hok.wf
 have hwok := hs.wok
 obtain ⟨p1,-,⟨p3,p3b⟩,-⟩ := hok
 simp only [Option.getD_some,Option.isSome_some,Pkt.cells] at HR
 have HST := Lib.hid (fun w' own' (h : BoxAt b n s w' own') => h)
 have H0 := Lib.hid h
 clear h hs hr hpr p1
 go_enter Tryz.func153,Tryz.ntmps153
 go_wp2_with fail
 refine HR.out.mono ?_
 rintro e w1 ⟨rfl,m1⟩
 have kp := Blk.made w1 #[.int .i64 p.src,.int .i64 p.dst,.int .i64 p.seq,.string p.data] 46
 have m2 := m1.alloc (.cells #[.int .i64 p.src,.int .i64 p.dst,.int .i64 p.seq,.string p.data] 46)
 have s2 : w.heap.size ≤ w1.heap.size := m1.size
 go_upto_region 2 with fail
 generalize w1.alloc (.cells #[.int .i64 p.src,.int .i64 p.dst,.int .i64 p.seq,.string p.data] 46) = w2 at kp m2 ⊢
 have hnw : ¬ own w1.heap.size := fun h => by have := olt _ h; omega
 have s3 := kp.lt
 have h2 := (BoxAt.stable b n s).later H0.out m2 (by simp)
 have h2d := (BoxAt.stable b n s).later h2 ((Mod.refl (fun _ => False) w2).drew) (by simp)
 go_cut [21] (fun z w' => (s.q.length = n∧z = .bool true∧Mod (fun _ => False) w2 w')∨(s.q.length < n∧z = .bool false∧Turn own (BoxAt b n ⟨s.q ++ [p],s.waits,s.next⟩) w2 w'))
 case first =>
  obtain ⟨r,m1,m2,hF⟩ := h2d
  obtain ⟨ob,⟨kbA,hob⟩,hobo,putB⟩ := hF.at (boxX_stable b r m1 m2 n s) .blk
  obtain ⟨oq,hqA,hoqo,putQ⟩ := hF.at (boxX_stable b r m1 m2 n s) .q
  obtain ⟨ow,hwA,howo,putW⟩ := hF.at (boxX_stable b r m1 m2 n s) .waits
  obtain ⟨on',hnA,hono,putN⟩ := hF.at (boxX_stable b r m1 m2 n s) .next
  clear hF
  have HP := Lib.hid (ringP_push p hqA)
  have HPUT := Lib.hid (fun w' (t : Turn oq (RingAt encP 4 46 233 r n (s.q ++ [p])) w2.drew w') => (by
   obtain ⟨o',hx',m',ho'⟩ := putQ (boxX b r m1 m2 n ⟨s.q ++ [p],s.waits,s.next⟩) w' (by intro j hj; cases j <;> first | rfl | exact absurd rfl hj) t
   exact Turn.before ((Mod.refl (fun _ => False) w2).drew) ⟨o',⟨r,m1,m2,hx'⟩,m',ho'⟩ : Turn own (BoxAt b n ⟨s.q ++ [p],s.waits,s.next⟩) w2 w'))
  have c0 := kbA.cell 0
  simp at c0
  clear kbA hob hobo putB hqA hoqo putQ hwA howo putW hnA hono putN
  have y0 := kp.cell 0
  have y1 := kp.cell 1
  have y2 := kp.cell 2
  have y3 := kp.cell 3
  simp at y0 y1 y2 y3
  go_still_tail 9,(by kernel_rfl)
  change wpList _ _ _ _ _ w2.drew
  go_wp2_with fail
  refine HP.out.mono ?_
  rintro e w4 (⟨hl,rfl,m4⟩ | ⟨hl,rfl,t4⟩)
  ·
   have J := Lib.hid (⟨hl,((Mod.refl (fun _ => False) w2).drew).trans m4 (fun i hi e => e)⟩ : s.q.length = n∧Mod (fun _ => False) w2 w4)
   clear hl m4
   go_wp2_with fail
   all_goals go_meet
   all_goals exact Or.inl ⟨J.out.1,rfl,J.out.2⟩
  ·
   have J := Lib.hid (⟨hl,HPUT.out _ t4⟩ : s.q.length < n∧Turn own (BoxAt b n ⟨s.q ++ [p],s.waits,s.next⟩) w2 w4)
   clear hl t4
   go_wp2_with fail
   all_goals go_meet
   all_goals exact Or.inr ⟨J.out.1,rfl,J.out.2⟩
 case rest =>
 rcases hcut with ⟨hl,rfl,m4⟩ | ⟨hl,rfl,t4⟩
 ·
  have J := Lib.hid (⟨hl,HS.out _ (m2.trans m4 (fun i hi e => e))⟩ : s.q.length = n∧Turn own (BoxAt b n s) w wc)
  clear hl m4 h2 h2d
  go_wp2
  go_ret
  exact Or.inl ⟨J.out.1,rfl,J.out.2⟩
 ·
  have HL := Lib.hid hl
  obtain ⟨o4,h4,m4,ho4⟩ := t4
  obtain ⟨w4,rfl⟩ : ∃ wo : World,wo = wc := ⟨_,rfl⟩
  have kp4 := kp.later m4 hnw
  have m04 : Mod own w w4 := (m2.mono (fun i hi e => e.elim)).trans m4 (fun i hi e => e)
  have ho04 : ∀ g,o4 g→own g∨w.heap.size ≤ g := fun g hg => (ho4 g hg).imp id (fun e => by have := m2.size; omega)
  have hnw4 : ¬ o4 w1.heap.size := fun h => by
   rcases ho4 _ h with e | e
   ·
    exact hnw e
   ·
    omega
  have s4 := kp4.lt
  have h4d := (BoxAt.stable ..).later h4 ((Mod.refl (fun _ => False) w4).drew) (by simp)
  clear hl h2 h2d kp h4
  go_upto_region 4 with fail
  obtain ⟨r,m1,m2,hF⟩ := h4d
  obtain ⟨ob,⟨kbA,hob⟩,hobo,putB⟩ := hF.at (boxX_stable b r m1 m2 n ⟨s.q ++ [p],s.waits,s.next⟩) .blk
  obtain ⟨oq,hqA,hoqo,putQ⟩ := hF.at (boxX_stable b r m1 m2 n ⟨s.q ++ [p],s.waits,s.next⟩) .q
  obtain ⟨ow,hwA,howo,putW⟩ := hF.at (boxX_stable b r m1 m2 n ⟨s.q ++ [p],s.waits,s.next⟩) .waits
  obtain ⟨on',hnA,hono,putN⟩ := hF.at (boxX_stable b r m1 m2 n ⟨s.q ++ [p],s.waits,s.next⟩) .next
  clear hF
  have c1 := kbA.cell 1
  simp at c1
  obtain ⟨w5,hu,t5⟩ := hwA.del hwok p hpm 0
  have hdel : ∀ ty,(Builtin.delete_ #[186,112] ty #[.map (some m1),.agg #[.int .i64 p.src,.int .i64 p.seq]]).run Tryz.prog w4.drew = .ok (.tuple #[]) w5 := fun _ => hu
  have T5 := (show Turn o4 (BoxAt b n ⟨s.q ++ [p],s.waits.filter (fun x => !(decide (x.src = p.src) && decide (x.seq = p.seq))),s.next⟩) w4 w5 by
   obtain ⟨o',hx',m',ho'⟩ := putW (boxX b r m1 m2 n ⟨s.q ++ [p],s.waits.filter (fun x => !(decide (x.src = p.src) && decide (x.seq = p.seq))),s.next⟩) w5 (by intro j hj; cases j <;> first | rfl | exact absurd rfl hj) t5
   exact Turn.before ((Mod.refl (fun _ => False) w4).drew) ⟨o',⟨r,m1,m2,hx'⟩,m',ho'⟩)
  clear kbA hob hobo putB hqA hoqo putQ hwA howo putW hnA hono putN
  clear hu t5
  have HT5 := Lib.hid T5
  clear T5
  have y0 := kp4.cell 0
  have y1 := kp4.cell 1
  have y2 := kp4.cell 2
  have y3 := kp4.cell 3
  simp at y0 y1 y2 y3
  go_cut [] (fun w' => w' = w5)
  case first =>
   go_still_tail 9,(by kernel_rfl)
   change wpList _ _ _ _ _ w4.drew
   go_wp2_with fail
   all_goals go_meet
   all_goals rfl
  case rest =>
  obtain rfl := hcut
  obtain ⟨o5,h5,m5,ho5⟩ := HT5.out
  have kp5 := kp4.later m5 hnw4
  have m05 : Mod own w wc := m04.trans m5 (fun i hi e => (ho04 i e).elim id (fun e2 => by omega))
  have ho05 : ∀ g,o5 g→own g∨w.heap.size ≤ g := fun g hg => (ho5 g hg).elim (fun e => ho04 g e) (fun e => Or.inr (by have := m04.size; omega))
  have h5d := (BoxAt.stable ..).later h5 ((Mod.refl (fun _ => False) wc).drew) (by simp)
  clear y0 y1 y2 y3 c1 hdel kp4
  clear HT5 h5
  go_upto_region 5 with fail
  obtain ⟨r,m1,m2,hF⟩ := h5d
  obtain ⟨ob,⟨kbA,hob⟩,hobo,putB⟩ := hF.at (boxX_stable b r m1 m2 n ⟨s.q ++ [p],s.waits.filter (fun x => !(decide (x.src = p.src) && decide (x.seq = p.seq))),s.next⟩) .blk
  obtain ⟨oq,hqA,hoqo,putQ⟩ := hF.at (boxX_stable b r m1 m2 n ⟨s.q ++ [p],s.waits.filter (fun x => !(decide (x.src = p.src) && decide (x.seq = p.seq))),s.next⟩) .q
  obtain ⟨ow,hwA,howo,putW⟩ := hF.at (boxX_stable b r m1 m2 n ⟨s.q ++ [p],s.waits.filter (fun x => !(decide (x.src = p.src) && decide (x.seq = p.seq))),s.next⟩) .waits
  obtain ⟨on',hnA,hono,putN⟩ := hF.at (boxX_stable b r m1 m2 n ⟨s.q ++ [p],s.waits.filter (fun x => !(decide (x.src = p.src) && decide (x.seq = p.seq))),s.next⟩) .next
  clear hF
  have c2 := kbA.cell 2
  simp at c2
  obtain ⟨w6,hu,t6⟩ := hnA.update hwf.1 ((p.seq + 1) % 65536)
  have T6 := (show Turn own (BoxAt b n (s.told p)) w w6 by
   have e1 : (fun a => if a = p.src then (p.seq + 1) % 65536 else s.nx a) = (s.told p).nx := (told_nx s p).symm
   have t6 : Turn on' (MapI m2 (fun a => if a = p.src then (p.seq + 1) % 65536 else s.nx a)) wc.drew w6 := t6
   rw [e1] at t6
   obtain ⟨o',hx',m',ho'⟩ := putN (boxX b r m1 m2 n (s.told p)) w6 (by intro j hj; cases j <;> first | rfl | exact absurd rfl hj) t6
   exact Turn.next m05.drew ho05 ⟨o',⟨r,m1,m2,hx'⟩,m',ho'⟩)
  clear kbA hob hobo putB hqA hoqo putQ hwA howo putW hnA hono putN
  have HT6 := Lib.hid T6
  have hrem : ((p.seq + 1).tmod 65536) = (p.seq + 1) % 65536 := Int.tmod_eq_emod_of_nonneg (by omega)
  have hwr : IntKind.i64.wrap (p.seq + 1) = p.seq + 1 := IntWalk.i64_in _ (by omega)
  clear T6 t6
  have y0 := kp5.cell 0
  have y1 := kp5.cell 1
  have y2 := kp5.cell 2
  have y3 := kp5.cell 3
  simp at y0 y1 y2 y3
  go_cut [] (fun w' => w' = w6)
  case first =>
   go_still_tail 10,(by kernel_rfl)
   change wpList _ _ _ _ _ wc.drew
   go_wp2_with fail
   all_goals go_meet
   all_goals rfl
  case rest =>
  obtain rfl := hcut
  clear hu hrem hwr c2 y0 y1 y2 y3
  go_wp2
  go_ret
  exact Or.inr ⟨HL.out,rfl,HT6.out⟩
theorem BoxOk.come {s : BoxS} (h : BoxOk s) {p : Pkt} (hp : p.Ok) : BoxOk (s.come p) := by
 unfold BoxS.come
 by_cases hk : keyB s.waits p.src p.seq = true
 ·
  rw [show (if (s.waits.any fun x => decide (x.src = p.src) && decide (x.seq = p.seq)) = true then s else _) = s from if_pos hk]
  exact h
 ·
  rw [show (if (s.waits.any fun x => decide (x.src = p.src) && decide (x.seq = p.seq)) = true then s else _) = _ from if_neg hk]
  split
  ·
   refine ⟨?_,fun q hq => ?_,h.nx⟩
   ·
    show ((s.waits ++ [p]).map _).Nodup
    rw [List.map_append,List.map_singleton]
    refine nodup_push h.dj (fun hm => hk ?_)
    obtain ⟨q,hq,he⟩ := List.mem_map.1 hm
    have h1 := (Prod.mk.inj he).1
    have h2 := (Prod.mk.inj he).2
    exact keyB_iff.2 ⟨q,hq,by unfold Pkt.key; rw [h1,h2]⟩
   ·
    rcases List.mem_append.1 hq with hq | hq
    ·
     exact h.wait q hq
    ·
     simp at hq
     rw [hq]
     exact hp
  ·
   exact h
theorem BoxOk.told {s : BoxS} (h : BoxOk s) {p : Pkt} (hp : p.Ok) : BoxOk (s.told p) := by
 refine ⟨?_,fun q hq => h.wait q (List.mem_filter.1 hq).1,fun i => ?_⟩
 ·
  exact ((List.filter_sublist).map _).nodup h.dj
 ·
  rw [told_nx]
  dsimp only
  split
  ·
   omega
  ·
   exact h.nx i
open Go.RowKit
def joinsA (L : Nat) (jp : Nat→Nat) : List Value := (List.range 40).map fun i => if i % 8 < L then .pointer (some ⟨jp (i / 8 * L + i % 8),0,none⟩) else .pointer none
def nicHead (bx : Nat) (c : Cfg) (node : Int) (wv : Value) (sent : Int) : List Value := [.pointer (some ⟨bx,0,none⟩),.int .i64 c.W,.int .i64 c.H,.int .i64 c.Lanes,.int .i64 c.Depth,.int .i64 c.Ring,.int .i64 c.Inbox,.int .i64 c.Bound,.bool c.West,.bool c.Cast,.int .i64 node,wv,.int .i64 sent]
def nicCells (bx : Nat) (jp : Nat→Nat) (c : Cfg) (node : Int) (wv : Value) (sent : Int) : Array Value := (nicHead bx c node wv sent ++ joinsA c.Lanes.toNat jp).toArray
inductive NP where
 | blk | words | box
 | join (k : Nat)
def NP.no : NP→Nat
 | .blk => 0 | .words => 1 | .box => 2
 | .join k => k + 3
theorem NP.no_inj {a b : NP} (h : a.no = b.no) : a = b := by
 cases a <;> cases b <;> simp only [NP.no] at h <;> first | rfl | omega | (congr 1; omega)
instance : DecidableEq NP := fun a b => if h : a.no = b.no then isTrue (NP.no_inj h) else isFalse (fun e => h (by rw [e]))
structure NicS where
 words : List (Int × Nat)
 sent : Int
 joins : List JoinS
 box : BoxS
def nicX (b bx : Nat) (jp : Nat→Nat) (wv : Value) (c : Cfg) (node : Int) (s : NicS) : NP→Rep
 | .blk => Cells b (nicCells bx jp c node wv s.sent) 136
 | .words => Que encC 2 128 wv s.words
 | .box => BoxAt bx c.Inbox.toNat s.box
 | .join k => if k < 5 * c.Lanes.toNat then JoinAt (jp k) (s.joins.getD k JoinS.new) else Emp
def NicAt (b : Nat) (c : Cfg) (node : Int) (s : NicS) : Rep := fun w own => ∃ bx jp wv,Fam (nicX b bx jp wv c node s) w own
theorem nicX_stable (b bx : Nat) (jp : Nat→Nat) (wv : Value) (c : Cfg) (node : Int) (s : NicS) (i : NP) : Stable (nicX b bx jp wv c node s i) := by
 cases i
 ·
  exact Cells.stable _ _ _
 ·
  exact Que.stable _ _
 ·
  exact BoxAt.stable _ _ _
 ·
  show Stable (if _ then _ else _)
  split
  ·
   exact JoinAt.stable _ _
  ·
   exact Emp.stable
theorem NicAt.stable (b : Nat) (c : Cfg) (node : Int) (s : NicS) : Stable (NicAt b c node s) where
 later := by
  rintro w w' own S ⟨bx,jp,wv,h⟩ m hS
  exact ⟨bx,jp,wv,(Fam.stable (nicX_stable b bx jp wv c node s)).later h m hS⟩
 lt := by
  rintro w own g ⟨bx,jp,wv,h⟩ hg
  exact (Fam.stable (nicX_stable b bx jp wv c node s)).lt h hg
structure NicOk (c : Cfg) (s : NicS) : Prop where
 jl : s.joins.length = 5 * c.Lanes.toNat
 join : ∀ j ∈ s.joins,JoinOk j
 box : BoxOk s.box
 wl : s.words.length ≤ 1000000
 ws : ∀ x ∈ s.words,0 ≤ x.1∧x.1 < c.Lanes∧x.2 < 2 ^ 64
 sent : 0 ≤ s.sent∧s.sent ≤ 4611686018427387904
theorem nic_cell {w : World} {b bx : Nat} {jp : Nat→Nat} {c : Cfg} {node sent : Int} {wv : Value} (h : Blk w b (nicCells bx jp c node wv sent) 136) :
  w.cell? ⟨b,0,none⟩ = some (.pointer (some ⟨bx,0,none⟩))∧w.cell? ⟨b,10,none⟩ = some (.int .i64 node)∧w.cell? ⟨b,11,none⟩ = some wv∧w.cell? ⟨b,12,none⟩ = some (.int .i64 sent) := by
 refine ⟨?_,?_,?_,?_⟩ <;> (rw [h.cell]; rfl)
theorem nic_cfg {w : World} {b bx : Nat} {jp : Nat→Nat} {c : Cfg} {node sent : Int} {wv : Value} (h : Blk w b (nicCells bx jp c node wv sent) 136) :
  w.cell? ⟨b,1,none⟩ = some (.int .i64 c.W)∧w.cell? ⟨b,2,none⟩ = some (.int .i64 c.H)∧w.cell? ⟨b,3,none⟩ = some (.int .i64 c.Lanes)∧w.cell? ⟨b,4,none⟩ = some (.int .i64 c.Depth)∧w.cell? ⟨b,5,none⟩ = some (.int .i64 c.Ring)∧w.cell? ⟨b,6,none⟩ = some (.int .i64 c.Inbox)∧w.cell? ⟨b,7,none⟩ = some (.int .i64 c.Bound)∧w.cell? ⟨b,8,none⟩ = some (.bool c.West)∧w.cell? ⟨b,9,none⟩ = some (.bool c.Cast) := by
 refine ⟨?_,?_,?_,?_,?_,?_,?_,?_,?_⟩ <;> (rw [h.cell]; rfl)
theorem nic_box (b bx : Nat) (w : World) (h : w.cell? ⟨b,0,none⟩ = some (.pointer (some ⟨bx,0,none⟩))) :
  Calls Tryz.prog 87 #[.pointer (some ⟨b,0,none⟩)] w fun e w' => e = .returned (.pointer (some ⟨bx,0,none⟩))∧w' = w := by
 go_enter Tryz.func87,Tryz.ntmps87
 go_wp2
 go_ret
 exact ⟨rfl,rfl⟩
theorem nic_waits (b : Nat) (c : Cfg) (node : Int) (s : NicS) (own : Nat→Prop) (w : World) (h : NicAt b c node s w own) (hs : NicOk c s) :
  Calls Tryz.prog 45 #[.pointer (some ⟨b,0,none⟩)] w fun e w' => e = .returned (.int .i64 (s.box.waits.length : Int))∧w' = w := by
 have hbx := hs.box
 obtain ⟨bx,jp,wv,hF⟩ := h
 obtain ⟨ob,⟨kbA,hob⟩,hobo,putB⟩ := hF.at (nicX_stable b bx jp wv c node s) .blk
 obtain ⟨oq,hqA,hoqo,putQ⟩ := hF.at (nicX_stable b bx jp wv c node s) .words
 obtain ⟨ox,hxA,hoxo,putX⟩ := hF.at (nicX_stable b bx jp wv c node s) .box
 have HB := Lib.hid (nic_box b bx w (nic_cell kbA).1)
 have HC := Lib.hid (inbox_waits bx _ s.box ox w hxA hbx)
 clear kbA hob hobo putB hqA hoqo putQ hxA hoxo putX hF
 clear hs hbx
 generalize c.Inbox.toNat = nI at HC ⊢
 go_enter Tryz.func45,Tryz.ntmps45
 go_wp2_with fail
 refine HB.out.mono ?_
 rintro e w1 ⟨rfl,rfl⟩
 go_wp2_with fail
 refine HC.out.mono ?_
 rintro e w2 ⟨rfl,d2⟩
 go_wp2
 go_ret
 exact ⟨rfl,by first | exact d2 | rfl⟩
theorem nic_left (b : Nat) (c : Cfg) (node : Int) (s : NicS) (own : Nat→Prop) (w : World) (h : NicAt b c node s w own) :
  Calls Tryz.prog 44 #[.pointer (some ⟨b,0,none⟩)] w fun e w' => e = .returned (.int .i64 (s.words.length : Int))∧w' = w := by
 obtain ⟨bx,jp,wv,hF⟩ := h
 obtain ⟨ob,⟨kbA,hob⟩,hobo,putB⟩ := hF.at (nicX_stable b bx jp wv c node s) .blk
 obtain ⟨oq,hqA,hoqo,putQ⟩ := hF.at (nicX_stable b bx jp wv c node s) .words
 obtain ⟨ox,hxA,hoxo,putX⟩ := hF.at (nicX_stable b bx jp wv c node s) .box
 obtain ⟨a,cc,rfl,hl,hc⟩ := Que.form hqA
 have c11 := (nic_cell kbA).2.2.1
 clear kbA hob hobo putB hqA hoqo putQ hxA hoxo putX hF
 go_enter Tryz.func44,Tryz.ntmps44
 go_wp2
 go_ret
 exact ⟨rfl,rfl⟩
end Go.Proofs.YtfiklfkfbcpmgaaGreat
