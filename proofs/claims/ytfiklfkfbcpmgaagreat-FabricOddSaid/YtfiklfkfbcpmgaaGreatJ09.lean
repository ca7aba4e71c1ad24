/- Parts: LinkS Router RouterB Turn TurnB TurnC Take RouterF. No condition. -/
import Derived.Test.YtfiklfkfbcpmgaaGreatJ08
import Derived.Test.YtfiklfkfbcpmgaaGreatJ03
import Derived.Test.YtfiklfkfbcpmgaaGreatJ04
import Derived.Test.YtfiklfkfbcpmgaaGreatJ01
import Derived.Deep.RegionHeld3
set_option linter.all false
set_option maxRecDepth 100000
set_option maxHeartbeats 3200000
namespace Go.Proofs.YtfiklfkfbcpmgaaGreat
open Go.RowKit
theorem Turn.next {o o1 : Nat→Prop} {Y : Rep} {w w1 w2 : World} (m : Mod o w w1) (ho : ∀ g,o1 g→o g∨w.heap.size ≤ g) (t : Turn o1 Y w1 w2) : Turn o Y w w2 := by
 obtain ⟨o2,hy,m2,ho2⟩ := t
 refine ⟨o2,hy,⟨m2.os.trans m.os,m2.tape.trans m.tape,m2.output.trans m.output,Nat.le_trans m.size m2.size,fun i hi hn => ?_⟩,fun g hg => ?_⟩
 ·
  refine (m2.block i (Nat.lt_of_lt_of_le hi m.size) (fun h1 => ?_)).trans (m.block i hi hn)
  rcases ho i h1 with h2 | h2
  ·
   exact hn h2
  ·
   omega
 ·
  rcases ho2 g hg with h2 | h2
  ·
   exact ho g h2
  ·
   exact Or.inr (Nat.le_trans m.size h2)
theorem Cells.put {b : Nat} {cs' : Array Value} {t : TypeId} {w w' : World} {o : Nat→Prop} (ho : ∀ g,o g ↔ g = b) (k : Blk w' b cs' t) (m : Mod (fun g => g = b) w w') : Turn o (Cells b cs' t) w w' :=
 ⟨o,⟨k,ho⟩,m.mono (fun g _ e => (ho g).2 e),fun g hg => Or.inl hg⟩
def LinkPost (b L D R : Nat) (own : Nat→Prop) (w : World) (s' : LinkS) (ok : Bool) (e : Ending) (w' : World) : Prop :=
 ∃ er : Int,(er = 0 ↔ ok = true)∧e = .returned (.int .i64 er)∧Turn own (LinkAt b L D R s') w w'
theorem link_send (b L D R k x : Nat) (s : LinkS) (own : Nat→Prop) (w : World) (h : LinkAt b L D R s w own) (hs : LinkOk L D R s) (hk : k < L) :
  Calls Tryz.prog 105 #[.pointer (some ⟨b,0,none⟩),.agg #[.int .i64 (k : Int),.int .u64 (x : Int)]] w
   (LinkPost b L D R own w (if 0 < s.credits.getD k 0∧s.words.length < R then ⟨bump s.credits (k : Int) (-1),s.far,s.words ++ [((k : Int),x)],s.back⟩ else s) (decide (0 < s.credits.getD k 0∧s.words.length < R))) := by
 obtain ⟨c0,c64,-,-⟩ := hs.cb hk
 have hL := hs.L8
 have hcl := hs.cl
 have kx := Blk.made w #[.int .i64 (k : Int),.int .u64 (x : Int)] 128
 have m0 : Mod (fun _ => False) w (w.alloc (.cells #[.int .i64 (k : Int),.int .u64 (x : Int)] 128)) := (Mod.refl _ _).alloc _
 have s0 : w.heap.size < (w.alloc (.cells #[.int .i64 (k : Int),.int .u64 (x : Int)] 128)).heap.size := by simp
 have olt := fun g (hg : own g) => (LinkAt.stable b L D R s).lt h hg
 have h1 := (LinkAt.stable b L D R s).later h m0 (by simp)
 clear h hs
 obtain ⟨z,hz⟩ : ∃ z,s.credits.getD k 0 = z := ⟨_,rfl⟩
 rw [hz] at c0 c64 ⊢
 obtain ⟨s',hs'⟩ : ∃ s',(if 0 < z∧s.words.length < R then ⟨bump s.credits (k : Int) (-1),s.far,s.words ++ [((k : Int),x)],s.back⟩ else s : LinkS) = s' := ⟨_,rfl⟩
 obtain ⟨ok,hok⟩ : ∃ ok,decide (0 < z∧s.words.length < R) = ok := ⟨_,rfl⟩
 rw [hs',hok]
 have HN := Lib.hid (fun (hn : ¬ (0 < z∧s.words.length < R)) => (⟨by rw [← hs',if_neg hn],by rw [← hok]; exact decide_eq_false hn⟩ : s' = s∧ok = false))
 have HY := Lib.hid (fun (hn : 0 < z∧s.words.length < R) => (⟨by rw [← hs',if_pos hn],by rw [← hok]; exact decide_eq_true hn⟩ : s' = ⟨bump s.credits (k : Int) (-1),s.far,s.words ++ [((k : Int),x)],s.back⟩∧ok = true))
 clear hs' hok
 have q0 : (0 : Int) ≤ (k : Int) := by omega
 have q1 : (k : Int) < (L : Int) := by omega
 go_enter Tryz.func105,Tryz.ntmps105
 go_upto_region 1 with fail
 generalize w.alloc (.cells #[.int .i64 (k : Int),.int .u64 (x : Int)] 128) = w1 at kx m0 s0 h1 ⊢
 have HI := Lib.hid (link_is b L D R k s own w1 h1 hk)
 have H1 := Lib.hid h1
 have x0 := kx.cell 0
 have x1 := kx.cell 1
 simp at x0 x1
 obtain ⟨r1,r2,g1,g2,hF⟩ := h1
 obtain ⟨ob,⟨kbA,hob⟩,hobo,putB⟩ := hF.at (linkX_stable b r1 r2 g1 g2 L D R s) .blk
 obtain ⟨oc,⟨kcA,hoc⟩,hoco,putC⟩ := hF.at (linkX_stable b r1 r2 g1 g2 L D R s) .cr
 obtain ⟨of',⟨kfA,hof⟩,hofo,putF⟩ := hF.at (linkX_stable b r1 r2 g1 g2 L D R s) .far
 obtain ⟨oq,hqA,hoqo,putQ⟩ := hF.at (linkX_stable b r1 r2 g1 g2 L D R s) .back
 obtain ⟨ow,hwA,howo,putW⟩ := hF.at (linkX_stable b r1 r2 g1 g2 L D R s) .words
 clear hF
 have c2 := kbA.cell 2
 have c3 := (kcA.cell k).trans (intsA_get (by omega))
 rw [hz] at c3
 simp at c2
 clear kbA hob hobo putB kcA hoc hoco putC kfA hof hofo putF hqA hoqo putQ hwA howo putW
 go_wp2_with fail
 refine HI.out.mono ?_
 rintro e w2 ⟨rfl,rfl⟩
 by_cases hz0 : z = 0
 ·
  have qz : (z == 0) = true := by rw [hz0]; rfl
  have HZ := Lib.hid (HN.out (by omega))
  clear hz0 hz
  go_wp2_with fail
  go_quiet (fail)
  have T := Lib.hid ((Turn.same (LinkAt.stable b L D R s) H1.out ((Mod.refl _ _).drewN nq)).before m0)
  go_wp2
  go_ret
  exact ⟨8,by rw [HZ.out.2]; simp,rfl,by rw [HZ.out.1]; exact T.out⟩
 have qz : (z == 0) = false := beq_eq_false_iff_ne.2 hz0
 have hz1 : 0 < z := by omega
 clear hz0
 go_upto_region 3 with fail
 go_cut [12] (fun y w' => y = .bool false∧Drw w2 w')
 case first =>
  go_quiet (fail)
  go_wp2_with fail
  all_goals go_meet
  all_goals exact ⟨rfl,Drw.drewN _ _⟩
 case rest =>
 obtain ⟨rfl,d3⟩ := hcut
 obtain ⟨w3,rfl⟩ : ∃ wo : World,wo = wc := ⟨_,rfl⟩
 have m3 := d3.mod (fun _ => False)
 have h3 := (LinkAt.stable b L D R s).later H1.out m3 (by simp)
 have kx3 := kx.later m3 (by simp)
 have m03 := m0.trans m3 (by simp)
 have s3 := Nat.lt_of_lt_of_le s0 m3.size
 clear c2 c3 x0 x1 HI H1 kx m0 m3 d3
 go_upto_region 5 with fail
 go_cut [5] (fun y w' => (s.words.length = R∧y = .int .i64 7∧Mod (fun _ => False) w3 w')∨(s.words.length < R∧y = .int .i64 0∧Turn own (LinkAt b L D R ⟨s.credits,s.far,s.words ++ [((k : Int),x)],s.back⟩) w3 w'))
 case first =>
  have h3d := (LinkAt.stable b L D R s).later h3 ((Mod.refl (fun _ => False) w3).drew) (by simp)
  have kxd := kx3.drew
  obtain ⟨r1,r2,g1,g2,hF⟩ := h3
  obtain ⟨ob,⟨kbA,hob⟩,hobo,putB⟩ := hF.at (linkX_stable b r1 r2 g1 g2 L D R s) .blk
  obtain ⟨oc,⟨kcA,hoc⟩,hoco,putC⟩ := hF.at (linkX_stable b r1 r2 g1 g2 L D R s) .cr
  obtain ⟨of',⟨kfA,hof⟩,hofo,putF⟩ := hF.at (linkX_stable b r1 r2 g1 g2 L D R s) .far
  obtain ⟨oq,hqA,hoqo,putQ⟩ := hF.at (linkX_stable b r1 r2 g1 g2 L D R s) .back
  obtain ⟨ow,hwA,howo,putW⟩ := hF.at (linkX_stable b r1 r2 g1 g2 L D R s) .words
  clear hF
  have c1 := kbA.cell 1
  have x0 := kx3.cell 0
  have x1 := kx3.cell 1
  simp at x0 x1
  simp at c1
  have m3d := (Mod.refl (fun _ => False) w3).drew
  have HP := Lib.hid (ringC_push ((k : Int),x) ((RingAt.stable ..).later hwA m3d (by simp)))
  have HPUT := Lib.hid (fun w' (t : Turn ow (RingAt encC 2 128 174 r2 R (s.words ++ [((k : Int),x)])) w3.drew w') => (by
   obtain ⟨o',hx',m',ho'⟩ := putW (linkX b r1 r2 g1 g2 L D R ⟨s.credits,s.far,s.words ++ [((k : Int),x)],s.back⟩) w' (by intro j hj; cases j <;> first | rfl | exact absurd rfl hj) (t.before m3d)
   exact ⟨o',⟨r1,r2,g1,g2,hx'⟩,m',ho'⟩ : Turn own (LinkAt b L D R ⟨s.credits,s.far,s.words ++ [((k : Int),x)],s.back⟩) w3 w'))
  clear kbA hob hobo putB kcA hoc hoco putC kfA hof hofo putF hqA hoqo putQ hwA howo putW
  go_still_tail 5,(by kernel_rfl)
  change wpList _ _ _ _ _ w3.drew
  go_wp2_with fail
  refine HP.out.mono ?_
  rintro e w4 (⟨hl,rfl,m4⟩ | ⟨hl,rfl,t4⟩)
  ·
   have J := Lib.hid (⟨hl,m3d.trans m4 (fun i hi e => e)⟩ : s.words.length = R∧Mod (fun _ => False) w3 w4)
   clear hl m4
   go_wp2_with fail
   all_goals go_meet
   all_goals exact Or.inl ⟨J.out.1,rfl,J.out.2⟩
  ·
   have J := Lib.hid (⟨hl,HPUT.out _ t4⟩ : s.words.length < R∧Turn own (LinkAt b L D R ⟨s.credits,s.far,s.words ++ [((k : Int),x)],s.back⟩) w3 w4)
   clear hl t4
   go_wp2_with fail
   all_goals go_meet
   all_goals exact Or.inr ⟨J.out.1,rfl,J.out.2⟩
 case rest =>
 rcases hcut with ⟨hl,rfl,m4⟩ | ⟨hl,rfl,t4⟩
 ·
  have J := Lib.hid (HN.out (by omega))
  have T := Lib.hid ((Turn.same (LinkAt.stable b L D R s) h3 m4).before m03)
  clear hl h3 m4
  go_wp2
  go_ret
  exact ⟨7,by rw [J.out.2]; simp,rfl,by rw [J.out.1]; exact T.out⟩
 ·
  have J := Lib.hid (HY.out ⟨hz1,hl⟩)
  obtain ⟨o4,h4,m4,ho4⟩ := t4
  obtain ⟨w4,rfl⟩ : ∃ wo : World,wo = wc := ⟨_,rfl⟩
  have h4d := (LinkAt.stable ..).later h4 ((Mod.refl (fun _ => False) w4).drew) (by simp)
  have kx4 := kx3.later m4 (fun h => by have := olt _ h; omega)
  have m04 : Mod own w w4 := (m03.mono (fun i hi e => e.elim)).trans m4 (fun i hi e => e)
  have ho04 : ∀ g,o4 g→own g∨w.heap.size ≤ g := fun g hg => (ho4 g hg).imp id (fun e => by have := m03.size; omega)
  clear hl h3 kx3 h4
  obtain ⟨r1,r2,g1,g2,hF⟩ := h4d
  obtain ⟨ob,⟨kbA,hob⟩,hobo,putB⟩ := hF.at (linkX_stable b r1 r2 g1 g2 L D R ⟨s.credits,s.far,s.words ++ [((k : Int),x)],s.back⟩) .blk
  obtain ⟨oc,⟨kcA,hoc⟩,hoco,putC⟩ := hF.at (linkX_stable b r1 r2 g1 g2 L D R ⟨s.credits,s.far,s.words ++ [((k : Int),x)],s.back⟩) .cr
  obtain ⟨of',⟨kfA,hof⟩,hofo,putF⟩ := hF.at (linkX_stable b r1 r2 g1 g2 L D R ⟨s.credits,s.far,s.words ++ [((k : Int),x)],s.back⟩) .far
  obtain ⟨oq,hqA,hoqo,putQ⟩ := hF.at (linkX_stable b r1 r2 g1 g2 L D R ⟨s.credits,s.far,s.words ++ [((k : Int),x)],s.back⟩) .back
  obtain ⟨ow,hwA,howo,putW⟩ := hF.at (linkX_stable b r1 r2 g1 g2 L D R ⟨s.credits,s.far,s.words ++ [((k : Int),x)],s.back⟩) .words
  clear hF
  have c2 := kbA.cell 2
  have c3 : w4.drew.cell? ⟨g1,k,none⟩ = some (.int .i64 z) := by rw [← hz]; exact (kcA.cell k).trans (intsA_get (show k < s.credits.length by omega))
  have z3 := kcA.fz k
  have x0 := kx4.cell 0
  have x1 := kx4.cell 1
  simp at x0 x1
  simp at c2 c3 z3
  have kcB := kcA.set k (.int .i64 (z - 1))
  rw [show (intsA (LinkS.credits ⟨s.credits,s.far,s.words ++ [((k : Int),x)],s.back⟩)).setIfInBounds k (.int .i64 (z - 1)) = intsA (bump s.credits (k : Int) (-1)) by
   rw [intsA_set]; unfold bump; rw [Int.toNat_natCast,hz]; rfl] at kcB
  have mB := (Mod.refl (fun g => g = g1) w4.drew).setCell (p := ⟨g1,k,none⟩) (Or.inl rfl) (.int .i64 (z - 1))
  have T := Lib.hid (show Turn own (LinkAt b L D R ⟨bump s.credits (k : Int) (-1),s.far,s.words ++ [((k : Int),x)],s.back⟩) w (w4.drew.setCell ⟨g1,k,none⟩ (.int .i64 (z - 1))) by
   obtain ⟨o',hx',m',ho'⟩ := putC (linkX b r1 r2 g1 g2 L D R ⟨bump s.credits (k : Int) (-1),s.far,s.words ++ [((k : Int),x)],s.back⟩) _ (by intro j hj; cases j <;> first | rfl | exact absurd rfl hj) (Cells.put hoc kcB mB)
   exact Turn.next (m04.drew) ho04 ⟨o',⟨r1,r2,g1,g2,hx'⟩,m',ho'⟩)
  clear kbA hob hobo putB kcA hoc hoco putC kfA hof hofo putF hqA hoqo putQ hwA howo putW kcB mB
  go_upto_region 7 with fail
  go_cut [] (fun w' => Turn own (LinkAt b L D R ⟨bump s.credits (k : Int) (-1),s.far,s.words ++ [((k : Int),x)],s.back⟩) w w')
  case first =>
   go_still_tail 10,(by kernel_rfl)
   change wpList _ _ _ _ _ w4.drew
   go_wp2_with fail
   all_goals go_meet
   all_goals exact T.out
  case rest =>
   have T2 := Lib.hid hcut
   clear hcut T
   go_wp2
   go_ret
   exact ⟨0,by rw [J.out.2]; simp,rfl,by rw [J.out.1]; exact T2.out⟩
open Go.RowKit
def encL (x : Nat) : List Value := [.pointer (some ⟨x,0,none⟩)]
structure RouterS where
 lanes : List LaneS
 owners : List Int
 gives : List Int
 moves : List Int
inductive RP where
 | blk
 | ins (p : Nat)
 | own (p : Nat)
 | give (p : Nat)
 | mv (p : Nat)
 | lane (k : Nat)
def RP.no : RP→Nat × Nat
 | .blk => (0,0) | .ins p => (1,p) | .own p => (2,p) | .give p => (3,p) | .mv p => (4,p) | .lane k => (5,k)
theorem RP.no_inj {a b : RP} (h : a.no = b.no) : a = b := by
 cases a <;> cases b <;> simp only [RP.no,Prod.mk.injEq] at h <;> first | rfl | exact absurd h.1 (by decide) | (congr 1; exact h.2)
instance : DecidableEq RP := fun a b => if h : a.no = b.no then isTrue (RP.no_inj h) else isFalse (fun e => h (by rw [e]))
structure RAddr where
 lp : Nat→Nat
 iv : Nat→Value
 ov : Nat→Value
 fg : Nat→Nat
 fm : Nat→Nat
def sideV (A : RAddr) (p : Nat) : List Value := [A.iv p,A.ov p,.pointer (some ⟨A.fg p,0,none⟩),.pointer (some ⟨A.fm p,0,none⟩)]
def routerHead (c : Cfg) (node : Int) : List Value := [.int .i64 c.W,.int .i64 c.H,.int .i64 c.Lanes,.int .i64 c.Depth,.int .i64 c.Ring,.int .i64 c.Inbox,.int .i64 c.Bound,.bool c.West,.bool c.Cast,.int .i64 node]
def routerCells (A : RAddr) (c : Cfg) (node : Int) : Array Value := (routerHead c node ++ (sideV A 0 ++ sideV A 1 ++ sideV A 2 ++ sideV A 3 ++ sideV A 4)).toArray
def RouterS.row (s : RouterS) (L p : Nat) : List Int := (s.owners.drop (p * L)).take L
def routerX (b : Nat) (A : RAddr) (c : Cfg) (node : Int) (s : RouterS) : RP→Rep
 | .blk => Cells b (routerCells A c node) 144
 | .ins p => if p < 5 then Que encL 1 129 (A.iv p) ((List.range c.Lanes.toNat).map fun l => A.lp (p * c.Lanes.toNat + l)) else Emp
 | .own p => if p < 5 then Que encI 1 3 (A.ov p) (s.row c.Lanes.toNat p) else Emp
 | .give p => if p < 5 then Cells (A.fg p) #[.int .i64 c.Lanes,.int .i64 (s.gives.getD p 0)] 217 else Emp
 | .mv p => if p < 5 then Cells (A.fm p) #[.int .i64 (5 * c.Lanes),.int .i64 (s.moves.getD p 0)] 217 else Emp
 | .lane k => if k < 5 * c.Lanes.toNat then LaneAt (A.lp k) c.Depth.toNat (s.lanes.getD k LaneS.new) else Emp
def RouterAt (b : Nat) (c : Cfg) (node : Int) (s : RouterS) : Rep := fun w own => ∃ A,Fam (routerX b A c node s) w own
theorem stable_ite {p : Prop} [Decidable p] {X Y : Rep} (h1 : Stable X) (h2 : Stable Y) : Stable (if p then X else Y) := by
 split
 ·
  exact h1
 ·
  exact h2
theorem routerX_stable (b : Nat) (A : RAddr) (c : Cfg) (node : Int) (s : RouterS) (i : RP) : Stable (routerX b A c node s i) := by
 cases i
 ·
  exact Cells.stable _ _ _
 ·
  exact stable_ite (Que.stable _ _) Emp.stable
 ·
  exact stable_ite (Que.stable _ _) Emp.stable
 ·
  exact stable_ite (Cells.stable _ _ _) Emp.stable
 ·
  exact stable_ite (Cells.stable _ _ _) Emp.stable
 ·
  exact stable_ite (LaneAt.stable _ _ _) Emp.stable
theorem RouterAt.stable (b : Nat) (c : Cfg) (node : Int) (s : RouterS) : Stable (RouterAt b c node s) where
 later := by
  rintro w w' own S ⟨A,h⟩ m hS
  exact ⟨A,(Fam.stable (routerX_stable b A c node s)).later h m hS⟩
 lt := by
  rintro w own g ⟨A,h⟩ hg
  exact (Fam.stable (routerX_stable b A c node s)).lt h hg
theorem router_head {w : World} {b : Nat} {A : RAddr} {c : Cfg} {node : Int} (h : Blk w b (routerCells A c node) 144) :
  w.cell? ⟨b,2,none⟩ = some (.int .i64 c.Lanes)∧w.cell? ⟨b,9,none⟩ = some (.int .i64 node) := by
 refine ⟨?_,?_⟩ <;> (rw [h.cell]; rfl)
theorem router_side {w : World} {b : Nat} {A : RAddr} {c : Cfg} {node : Int} (h : Blk w b (routerCells A c node) 144) {p : Nat} (hp : p < 5) :
  w.cell? ⟨b,10 + p * 4,none⟩ = some (A.iv p)∧w.cell? ⟨b,10 + p * 4 + 1,none⟩ = some (A.ov p)∧w.cell? ⟨b,10 + p * 4 + 2,none⟩ = some (.pointer (some ⟨A.fg p,0,none⟩))∧w.cell? ⟨b,10 + p * 4 + 3,none⟩ = some (.pointer (some ⟨A.fm p,0,none⟩)) := by
 rcases (show p = 0∨p = 1∨p = 2∨p = 3∨p = 4 by omega) with rfl | rfl | rfl | rfl | rfl <;> (refine ⟨?_,?_,?_,?_⟩ <;> (rw [h.cell]; rfl))
theorem router_at (b : Nat) (c : Cfg) (node : Int) (s : RouterS) (own : Nat→Prop) (w : World) (h : RouterAt b c node s w own) :
  Calls Tryz.prog 132 #[.pointer (some ⟨b,0,none⟩)] w fun e w' => e = .returned (.int .i64 node)∧w' = w := by
 obtain ⟨A,hF⟩ := h
 obtain ⟨ob,⟨kb,-⟩,-⟩ := hF.at (routerX_stable b A c node s) .blk
 have c9 := (router_head kb).2
 clear hF kb
 go_enter Tryz.func132,Tryz.ntmps132
 go_wp2
 go_ret
 exact ⟨rfl,rfl⟩
theorem router_in (b : Nat) (A : RAddr) (c : Cfg) (node : Int) (p l : Nat) (s : RouterS) (own : Nat→Prop) (w : World) (hF : Fam (routerX b A c node s) w own) (hp : p < 5) (hl : (l : Int) < c.Lanes) (h8 : c.Lanes ≤ 8) :
  Calls Tryz.prog 85 #[.pointer (some ⟨b,0,none⟩),.int .i64 (p : Int),.int .i64 (l : Int)] w fun e w' => e = .returned (.pointer (some ⟨A.lp (p * c.Lanes.toNat + l),0,none⟩))∧w' = w := by
 obtain ⟨ob,⟨kb,-⟩,-⟩ := hF.at (routerX_stable b A c node s) .blk
 obtain ⟨oi,hi,-⟩ := hF.at (routerX_stable b A c node s) (.ins p)
 rw [routerX,if_pos hp] at hi
 have c2 := (router_head kb).1
 have cs := (router_side kb hp).1
 obtain ⟨a,cc,hv,hlen,hcc⟩ := Que.form hi
 rw [hv] at hi cs
 simp only [List.length_map,List.length_range] at hi cs hlen
 obtain ⟨g,o,rfl,-,hg,hcell⟩ := Que.at hi (j := l) (x := A.lp (p * c.Lanes.toNat + l)) (by rw [List.getElem?_map,List.getElem?_range (by omega)]; rfl)
 have d := hcell 0 (by decide)
 simp [encL] at d
 obtain ⟨L,hL⟩ : ∃ L,c.Lanes.toNat = L := ⟨_,rfl⟩
 rw [hL] at cs d hlen ⊢
 have q1 : ¬ (p : Int) < 0 := by omega
 have q2 : ¬ (5 : Int) ≤ (p : Int) := by omega
 have q3 : ¬ (l : Int) < 0 := by omega
 have q4 : ¬ c.Lanes ≤ (l : Int) := by omega
 have q5 : (p : Int) < 5 := by omega
 have q6 : (l : Int) < (L : Int) := by omega
 have q7 : (0 : Int) ≤ (p : Int) := by omega
 have q8 : (0 : Int) ≤ (l : Int) := by omega
 clear hF kb hi hv hcell hL
 go_enter Tryz.func85,Tryz.ntmps85
 go_wp2
 go_ret
 exact ⟨rfl,rfl⟩
open Go.RowKit
theorem router_place (b : Nat) (A : RAddr) (c : Cfg) (node : Int) (k : Nat) (s : RouterS) (own : Nat→Prop) (w : World) (hF : Fam (routerX b A c node s) w own) (hk : k < 5 * c.Lanes.toNat) (h1 : 1 ≤ c.Lanes) (h8 : c.Lanes ≤ 8) :
  Calls Tryz.prog 90 #[.pointer (some ⟨b,0,none⟩),.int .i64 (k : Int)] w fun e w' => e = .returned (.pointer (some ⟨A.lp k,0,none⟩))∧Drw w w' := by
 obtain ⟨L,hL⟩ : ∃ L,c.Lanes.toNat = L := ⟨_,rfl⟩
 have hcL : c.Lanes = (L : Int) := by omega
 have hL1 : 1 ≤ L := by omega
 rw [hL] at hk
 have hp : k / L < 5 := Nat.div_lt_of_lt_mul (by rw [Nat.mul_comm]; exact hk)
 have hl : k % L < L := Nat.mod_lt _ hL1
 have hdm : k / L * L + k % L = k := by rw [Nat.mul_comm]; exact Nat.div_add_mod k L
 have HIN := Lib.hid (fun w1 (m : Mod (fun _ => False) w w1) => router_in b A c node (k / L) (k % L) s own w1 ((Fam.stable (routerX_stable b A c node s)).later hF m (by simp)) hp (by omega) h8)
 rw [hL,hdm] at HIN
 obtain ⟨ob,⟨kb,-⟩,-⟩ := hF.at (routerX_stable b A c node s) .blk
 have c2 := (router_head kb).1
 rw [hcL] at c2
 have e1 : ((k : Int)).tdiv (L : Int) = ((k / L : Nat) : Int) := by rw [Int.tdiv_eq_ediv_of_nonneg (by omega)]; push_cast; rfl
 have e2 : ((k : Int)).tmod (L : Int) = ((k % L : Nat) : Int) := by rw [Int.tmod_eq_emod_of_nonneg (by omega)]; push_cast; rfl
 have e3 : ((k : Int)) / (L : Int) = ((k / L : Nat) : Int) := by push_cast; rfl
 have e4 : ((k : Int)) % (L : Int) = ((k % L : Nat) : Int) := by push_cast; rfl
 generalize hq : k / L = q at *
 generalize hr : k % L = r at *
 have n1 : ((L : Int) == 0) = false := by simp; omega
 have n2 : ¬ ((L : Int) = 0) := by omega
 have n3 : ¬ L = 0 := by omega
 clear hF kb hcL hL hdm hq hr
 go_enter Tryz.func90,Tryz.ntmps90
 go_wp2_with fail
 go_quiet ((go_at_call 85; exact Calls.quiet_of_same (HIN.out _ ((Mod.refl _ _).drewN _))))
 go_wp2
 go_ret
 exact ⟨rfl,Drw.drewN _ _⟩
def RouterS.setLane (s : RouterS) (k : Nat) (x : LaneS) : RouterS := ⟨s.lanes.set k x,s.owners,s.gives,s.moves⟩
theorem router_lane {b : Nat} {A : RAddr} {c : Cfg} {node : Int} {k : Nat} {s : RouterS} {own : Nat→Prop} {w : World} (hF : Fam (routerX b A c node s) w own) (hk : k < 5 * c.Lanes.toNat) (hlen : s.lanes.length = 5 * c.Lanes.toNat) :
  ∃ ol,LaneAt (A.lp k) c.Depth.toNat (s.lanes.getD k LaneS.new) w ol∧(∀ g,ol g→own g)∧∀ x w',Turn ol (LaneAt (A.lp k) c.Depth.toNat x) w w'→Turn own (Fam (routerX b A c node (s.setLane k x))) w w' := by
 obtain ⟨ol,hl,hlo,put⟩ := hF.at (routerX_stable b A c node s) (.lane k)
 rw [routerX,if_pos hk] at hl
 refine ⟨ol,hl,hlo,fun x w' t => put (routerX b A c node (s.setLane k x)) w' (fun i hi => ?_) ?_⟩
 ·
  cases i
  ·
   rfl
  ·
   rfl
  ·
   rfl
  ·
   rfl
  ·
   rfl
  ·
   rename_i k'
   have hkk : k ≠ k' := fun e => hi (by rw [e])
   show (if k' < 5 * c.Lanes.toNat then LaneAt (A.lp k') c.Depth.toNat ((s.lanes.set k x).getD k' LaneS.new) else Emp) = (if k' < 5 * c.Lanes.toNat then LaneAt (A.lp k') c.Depth.toNat (s.lanes.getD k' LaneS.new) else Emp)
   rw [List.getD_eq_getElem?_getD,List.getElem?_set_ne hkk,List.getD_eq_getElem?_getD]
 ·
  have e : routerX b A c node (s.setLane k x) (.lane k) = LaneAt (A.lp k) c.Depth.toNat x := by
   show (if k < 5 * c.Lanes.toNat then LaneAt (A.lp k) c.Depth.toNat ((s.lanes.set k x).getD k LaneS.new) else Emp) = _
   rw [if_pos hk,List.getD_eq_getElem?_getD,List.getElem?_set_self (by omega)]
   rfl
  rw [e]
  exact t
theorem router_of {b : Nat} {A : RAddr} {c : Cfg} {node : Int} {s : RouterS} {own : Nat→Prop} {w w' : World} (t : Turn own (Fam (routerX b A c node s)) w w') : Turn own (RouterAt b c node s) w w' := t.weak (fun o' h => ⟨A,h⟩)
theorem lane_index {L p l : Nat} (hp : p < 5) (hl : l < L) : p * L + l < 5 * L := by
 have : p * L + L ≤ 5 * L := by rw [← Nat.succ_mul]; exact Nat.mul_le_mul_right _ hp
 omega
theorem router_put (b : Nat) (c : Cfg) (node : Int) (p l x : Nat) (s : RouterS) (own : Nat→Prop) (w : World) (h : RouterAt b c node s w own) (hlen : s.lanes.length = 5 * c.Lanes.toNat) (hp : p < 5) (hl : (l : Int) < c.Lanes) (h8 : c.Lanes ≤ 8) :
  Calls Tryz.prog 107 #[.pointer (some ⟨b,0,none⟩),.int .i64 (p : Int),.int .i64 (l : Int),.int .u64 (x : Int)] w fun e w' =>
   ((s.lanes.getD (p * c.Lanes.toNat + l) LaneS.new).q.length = c.Depth.toNat∧e = .returned (.int .i64 7)∧Mod (fun _ => False) w w') ∨
   ((s.lanes.getD (p * c.Lanes.toNat + l) LaneS.new).q.length < c.Depth.toNat∧e = .returned (.int .i64 0)∧Turn own (RouterAt b c node (s.setLane (p * c.Lanes.toNat + l) ⟨(s.lanes.getD (p * c.Lanes.toNat + l) LaneS.new).q ++ [x],(s.lanes.getD (p * c.Lanes.toNat + l) LaneS.new).phase,(s.lanes.getD (p * c.Lanes.toNat + l) LaneS.new).port,(s.lanes.getD (p * c.Lanes.toNat + l) LaneS.new).lane,(s.lanes.getD (p * c.Lanes.toNat + l) LaneS.new).copies⟩)) w w') := by
 obtain ⟨A,hF⟩ := h
 obtain ⟨ol,hL,hlo,put⟩ := router_lane hF (lane_index hp (l := l) (by omega)) hlen
 have HI := Lib.hid (router_in b A c node p l s own w hF hp hl h8)
 have HP := Lib.hid (lane_put _ _ x _ _ _ hL)
 have HT := Lib.hid (fun y w' (t : Turn ol (LaneAt (A.lp (p * c.Lanes.toNat + l)) c.Depth.toNat y) w w') => router_of (put y w' t))
 generalize p * c.Lanes.toNat + l = k at HI HP HT ⊢
 generalize s.lanes.getD k LaneS.new = y at HP ⊢
 clear hF hL hlo put hlen
 go_enter Tryz.func107,Tryz.ntmps107
 go_wp2_with fail
 refine HI.out.mono ?_
 rintro e w1 ⟨rfl,rfl⟩
 go_wp2_with fail
 refine HP.out.mono ?_
 rintro e w2 (⟨h1,rfl,m1⟩ | ⟨h1,rfl,t1⟩)
 ·
  have H1 := Lib.hid h1
  clear h1
  go_wp2
  go_ret
  exact Or.inl ⟨H1.out,rfl,m1⟩
 ·
  have T1 := Lib.hid (HT.out _ _ t1)
  clear t1
  go_wp2
  go_ret
  exact Or.inr ⟨h1,rfl,T1.out⟩
open Go.RowKit
theorem cmp_nan (a : Int) (w : World) :
  Calls Tryz.prog 223 #[.int .i64 a] w fun e w' => e = .returned (.bool false)∧w' = w := by
 have q : (a != a) = false := by simp
 go_enter Tryz.func223,Tryz.ntmps223
 go_wp2
 go_ret
 exact ⟨rfl,rfl⟩
def cmpV (a b : Int) : Int := if a < b then -1 else if b < a then 1 else 0
theorem cmp_compare (a b : Int) (w : World) :
  Calls Tryz.prog 217 #[.int .i64 a,.int .i64 b] w fun e w' => e = .returned (.int .i64 (cmpV a b))∧w' = w := by
 have HA := Lib.hid (fun w => cmp_nan a w)
 have HB := Lib.hid (fun w => cmp_nan b w)
 by_cases h1 : a < b
 ·
  have HC := Lib.hid (show cmpV a b = -1 by unfold cmpV; rw [if_pos h1])
  go_enter Tryz.func217,Tryz.ntmps217
  go_wp2_with fail
  refine (HA.out _).mono ?_
  rintro e w1 ⟨rfl,rfl⟩
  go_wp2_with fail
  refine (HB.out _).mono ?_
  rintro e w1 ⟨rfl,rfl⟩
  go_wp2
  go_ret
  exact ⟨by rw [HC.out]; rfl,rfl⟩
 ·
  by_cases h2 : b < a
  ·
   have HC := Lib.hid (show cmpV a b = 1 by unfold cmpV; rw [if_neg h1,if_pos h2])
   go_enter Tryz.func217,Tryz.ntmps217
   go_wp2_with fail
   refine (HA.out _).mono ?_
   rintro e w1 ⟨rfl,rfl⟩
   go_wp2_with fail
   refine (HB.out _).mono ?_
   rintro e w1 ⟨rfl,rfl⟩
   go_wp2
   go_ret
   exact ⟨by rw [HC.out]; rfl,rfl⟩
  ·
   have HC := Lib.hid (show cmpV a b = 0 by unfold cmpV; rw [if_neg h1,if_neg h2])
   go_enter Tryz.func217,Tryz.ntmps217
   go_wp2_with fail
   refine (HA.out _).mono ?_
   rintro e w1 ⟨rfl,rfl⟩
   go_wp2_with fail
   refine (HB.out _).mono ?_
   rintro e w1 ⟨rfl,rfl⟩
   go_wp2
   go_ret
   exact ⟨by rw [HC.out]; rfl,rfl⟩
theorem turn_toward (f t more less : Int) (w : World) :
  Calls Tryz.prog 200 #[.int .i64 f,.int .i64 t,.int .i64 more,.int .i64 less] w fun e w' => e = .returned (.int .i64 (toward f t more less))∧w' = w := by
 have HC := Lib.hid (fun w => cmp_compare t f w)
 have i0 : ∀ w,(Instr.index 25 (.agg #[.int .i64 less,.int .i64 0,.int .i64 more]) (.int .i64 0)).run Tryz.prog w = .ok (.int .i64 less) w := fun _ => by kernel_rfl
 have i1 : ∀ w,(Instr.index 25 (.agg #[.int .i64 less,.int .i64 0,.int .i64 more]) (.int .i64 1)).run Tryz.prog w = .ok (.int .i64 0) w := fun _ => by kernel_rfl
 have i2 : ∀ w,(Instr.index 25 (.agg #[.int .i64 less,.int .i64 0,.int .i64 more]) (.int .i64 2)).run Tryz.prog w = .ok (.int .i64 more) w := fun _ => by kernel_rfl
 rcases Int.lt_trichotomy t f with h | h | h
 ·
  have e1 : cmpV t f = -1 := by unfold cmpV; rw [if_pos h]
  have HT := Lib.hid (show toward f t more less = less by unfold toward; rw [if_pos h])
  rw [e1] at HC
  clear e1 h
  go_enter Tryz.func200,Tryz.ntmps200
  go_wp2_with fail
  refine (HC.out _).mono ?_
  rintro e w1 ⟨rfl,rfl⟩
  go_wp2
  go_ret
  exact ⟨by rw [HT.out]; rfl,rfl⟩
 ·
  have e1 : cmpV t f = 0 := by unfold cmpV; rw [if_neg (by omega),if_neg (by omega)]
  have HT := Lib.hid (show toward f t more less = 0 by unfold toward; rw [if_neg (by omega),if_pos h])
  rw [e1] at HC
  clear e1 h
  go_enter Tryz.func200,Tryz.ntmps200
  go_wp2_with fail
  refine (HC.out _).mono ?_
  rintro e w1 ⟨rfl,rfl⟩
  go_wp2
  go_ret
  exact ⟨by rw [HT.out]; rfl,rfl⟩
 ·
  have e1 : cmpV t f = 1 := by unfold cmpV; rw [if_neg (by omega),if_pos h]
  have HT := Lib.hid (show toward f t more less = more by unfold toward; rw [if_neg (by omega),if_neg (by omega)])
  rw [e1] at HC
  clear e1 h
  go_enter Tryz.func200,Tryz.ntmps200
  go_wp2_with fail
  refine (HC.out _).mono ?_
  rintro e w1 ⟨rfl,rfl⟩
  go_wp2
  go_ret
  exact ⟨by rw [HT.out]; rfl,rfl⟩
open Go.RowKit
theorem turn_options (c : Cfg) (n t : Int) (w : World) :
  Calls Tryz.prog 169 #[.agg c.cells,.int .i64 n,.int .i64 t] w fun e w' => ∃ r,e = .returned r∧SlV w' r ((c.options n t).map (Value.int .i64))∧Mod (fun _ => False) w w' := by
 have kb := Blk.made w c.cells 23
 have m0 : Mod (fun _ => False) w (w.alloc (.cells c.cells 23)) := (Mod.refl _ _).alloc _
 have HPn := Lib.hid (fun w => run_Place c n w)
 have HPt := Lib.hid (fun w => run_Place c t w)
 obtain ⟨l,hl⟩ : ∃ l,c.options n t = l := ⟨_,rfl⟩
 rw [hl]
 have HL := Lib.hid hl
 obtain ⟨W,H,Ln,D,R,I,B,we,ca⟩ := c
 simp only [Cfg.cells] at kb m0 HPn HPt ⊢
 clear hl
 by_cases hn : Cfg.is ⟨W,H,Ln,D,R,I,B,we,ca⟩ n = true
 ·
  by_cases ht : Cfg.is ⟨W,H,Ln,D,R,I,B,we,ca⟩ t = true
  ·
   simp only [Cfg.px,Cfg.py,Cfg.pe,if_pos hn,if_pos ht] at HPn HPt
   obtain ⟨a,ha⟩ : ∃ a,toward (n % W) (t % W) 1 2 = a := ⟨_,rfl⟩
   obtain ⟨z,hz⟩ : ∃ a,toward (n / W) (t / W) 3 4 = a := ⟨_,rfl⟩
   have hopt := HL.out
   unfold Cfg.options at hopt
   rw [if_pos (by rw [hn,ht]; rfl)] at hopt
   dsimp only at hopt
   rw [ha,hz] at hopt
   have HO := Lib.hid hopt
   have HA := Lib.hid (fun w => turn_toward (n % W) (t % W) 1 2 w)
   have HZ := Lib.hid (fun w => turn_toward (n / W) (t / W) 3 4 w)
   rw [ha] at HA
   rw [hz] at HZ
   clear hn ht ha hz hopt HL
   generalize n % W = x1 at HPn HA
   generalize n / W = y1 at HPn HZ
   generalize t % W = x2 at HPt HA
   generalize t / W = y2 at HPt HZ
   go_enter Tryz.func169,Tryz.ntmps169
   go_upto_region 1 with fail
   generalize w.alloc (.cells #[.int .i64 W,.int .i64 H,.int .i64 Ln,.int .i64 D,.int .i64 R,.int .i64 I,.int .i64 B,.bool we,.bool ca] 23) = w1 at kb m0 ⊢
   have c0 := kb.cell 0
   have c1 := kb.cell 1
   have c2 := kb.cell 2
   have c3 := kb.cell 3
   have c4 := kb.cell 4
   have c5 := kb.cell 5
   have c6 := kb.cell 6
   have c7 := kb.cell 7
   have c8 := kb.cell 8
   simp at c0 c1 c2 c3 c4 c5 c6 c7 c8
   go_wp2_with fail
   refine (HPn.out _).mono ?_
   rintro e w2 ⟨rfl,m2⟩
   have k2 := kb.later m2 (by simp)
   have m2 := m0.trans m2 (fun i hi e => e)
   clear c0 c1 c2 c3 c4 c5 c6 c7 c8
   have c0 := k2.cell 0
   have c1 := k2.cell 1
   have c2 := k2.cell 2
   have c3 := k2.cell 3
   have c4 := k2.cell 4
   have c5 := k2.cell 5
   have c6 := k2.cell 6
   have c7 := k2.cell 7
   have c8 := k2.cell 8
   simp at c0 c1 c2 c3 c4 c5 c6 c7 c8
   go_wp2_with fail
   refine (HPt.out _).mono ?_
   rintro e w3 ⟨rfl,m3⟩
   have k3 := k2.later m3 (by simp)
   have m3 := m2.trans m3 (fun i hi e => e)
   clear c0 c1 c2 c3 c4 c5 c6 c7 c8 m2 k2
   go_wp2_with fail
   refine (HA.out _).mono ?_
   rintro e w4 ⟨rfl,rfl⟩
   go_wp2_with fail
   refine (HZ.out _).mono ?_
   rintro e w4 ⟨rfl,rfl⟩
   clear HA HZ HPn HPt
   by_cases ha0 : a = 0
   ·
    have q1 : (a == 0) = true := by rw [ha0]; rfl
    have HE := Lib.hid (show l = [z] by rw [← HO.out,if_pos ha0])
    clear ha0 HO
    go_wp2
    go_ret
    exact ⟨_,rfl,by rw [HE.out]; exact SlV.new 3 1 _ rfl 1 rfl,m3.alloc _⟩
   ·
    have q1 : (a == 0) = false := beq_eq_false_iff_ne.2 ha0
    by_cases ha2 : a = 2
    ·
     have q2 : (a == 2) = true := by rw [ha2]; rfl
     have HE := Lib.hid (show l = [a] by rw [← HO.out,if_neg ha0,if_pos (Or.inl ha2)])
     clear ha0 ha2 HO
     go_wp2
     go_ret
     exact ⟨_,rfl,by rw [HE.out]; exact SlV.new 3 1 _ rfl 1 rfl,m3.alloc _⟩
    ·
     have q2 : (a == 2) = false := beq_eq_false_iff_ne.2 ha2
     by_cases hz0 : z = 0
     ·
      have q3 : (z == 0) = true := by rw [hz0]; rfl
      have HE := Lib.hid (show l = [a] by rw [← HO.out,if_neg ha0,if_pos (Or.inr (Or.inl hz0))])
      clear ha0 ha2 hz0 HO
      go_wp2
      go_ret
      exact ⟨_,rfl,by rw [HE.out]; exact SlV.new 3 1 _ rfl 1 rfl,m3.alloc _⟩
     ·
      have q3 : (z == 0) = false := beq_eq_false_iff_ne.2 hz0
      have c0 := k3.cell 0
      have c1 := k3.cell 1
      have c2 := k3.cell 2
      have c3 := k3.cell 3
      have c4 := k3.cell 4
      have c5 := k3.cell 5
      have c6 := k3.cell 6
      have c7 := k3.cell 7
      have c8 := k3.cell 8
      simp at c0 c1 c2 c3 c4 c5 c6 c7 c8
      cases we with
      | false =>
       have HE := Lib.hid (show l = [a] by rw [← HO.out,if_neg ha0,if_pos (Or.inr (Or.inr rfl))])
       clear ha0 ha2 hz0 HO
       go_wp2
       go_ret
       exact ⟨_,rfl,by rw [HE.out]; exact SlV.new 3 1 _ rfl 1 rfl,m3.alloc _⟩
      | true =>
       have HE := Lib.hid (show l = [a,z] by rw [← HO.out,if_neg ha0,if_neg (fun h => by rcases h with h | h | h; exact ha2 h; exact hz0 h; cases h)])
       clear ha0 ha2 hz0 HO
       go_wp2
       go_ret
       exact ⟨_,rfl,by rw [HE.out]; exact SlV.new 3 2 _ rfl 2 rfl,m3.alloc _⟩
  ·
   have HE := Lib.hid (show l = [] by rw [← HL.out]; unfold Cfg.options; rw [if_neg (by rw [hn]; simpa using ht)])
   simp only [Cfg.px,Cfg.py,Cfg.pe,if_pos hn,if_neg ht] at HPn HPt
   clear hn ht HL
   generalize n % W = x1 at HPn
   generalize n / W = y1 at HPn
   go_enter Tryz.func169,Tryz.ntmps169
   go_upto_region 1 with fail
   generalize w.alloc (.cells #[.int .i64 W,.int .i64 H,.int .i64 Ln,.int .i64 D,.int .i64 R,.int .i64 I,.int .i64 B,.bool we,.bool ca] 23) = w1 at kb m0 ⊢
   have c0 := kb.cell 0
   have c1 := kb.cell 1
   have c2 := kb.cell 2
   have c3 := kb.cell 3
   have c4 := kb.cell 4
   have c5 := kb.cell 5
   have c6 := kb.cell 6
   have c7 := kb.cell 7
   have c8 := kb.cell 8
   simp at c0 c1 c2 c3 c4 c5 c6 c7 c8
   go_wp2_with fail
   refine (HPn.out _).mono ?_
   rintro e w2 ⟨rfl,m2⟩
   have k2 := kb.later m2 (by simp)
   have m2 := m0.trans m2 (fun i hi e => e)
   clear c0 c1 c2 c3 c4 c5 c6 c7 c8
   have c0 := k2.cell 0
   have c1 := k2.cell 1
   have c2 := k2.cell 2
   have c3 := k2.cell 3
   have c4 := k2.cell 4
   have c5 := k2.cell 5
   have c6 := k2.cell 6
   have c7 := k2.cell 7
   have c8 := k2.cell 8
   simp at c0 c1 c2 c3 c4 c5 c6 c7 c8
   go_wp2_with fail
   refine (HPt.out _).mono ?_
   rintro e w3 ⟨rfl,m3⟩
   have k3 := k2.later m3 (by simp)
   have m3 := m2.trans m3 (fun i hi e => e)
   clear c0 c1 c2 c3 c4 c5 c6 c7 c8 m2 k2
   go_wp2
   go_ret
   exact ⟨_,rfl,by rw [HE.out]; exact ⟨none,0,0,rfl,rfl,Nat.le_refl _,by decide,Or.inl rfl⟩,m3⟩
 ·
  have HE := Lib.hid (show l = [] by rw [← HL.out]; unfold Cfg.options; rw [if_neg (by simp [hn])])
  simp only [Cfg.px,Cfg.py,Cfg.pe,if_neg hn] at HPn
  obtain ⟨x2,hx2⟩ : ∃ x,Cfg.px ⟨W,H,Ln,D,R,I,B,we,ca⟩ t = x := ⟨_,rfl⟩
  obtain ⟨y2,hy2⟩ : ∃ x,Cfg.py ⟨W,H,Ln,D,R,I,B,we,ca⟩ t = x := ⟨_,rfl⟩
  obtain ⟨e2,he2⟩ : ∃ x,Cfg.pe ⟨W,H,Ln,D,R,I,B,we,ca⟩ t = x := ⟨_,rfl⟩
  rw [hx2,hy2,he2] at HPt
  clear hn HL hx2 hy2 he2
  go_enter Tryz.func169,Tryz.ntmps169
  go_upto_region 1 with fail
  generalize w.alloc (.cells #[.int .i64 W,.int .i64 H,.int .i64 Ln,.int .i64 D,.int .i64 R,.int .i64 I,.int .i64 B,.bool we,.bool ca] 23) = w1 at kb m0 ⊢
  have c0 := kb.cell 0
  have c1 := kb.cell 1
  have c2 := kb.cell 2
  have c3 := kb.cell 3
  have c4 := kb.cell 4
  have c5 := kb.cell 5
  have c6 := kb.cell 6
  have c7 := kb.cell 7
  have c8 := kb.cell 8
  simp at c0 c1 c2 c3 c4 c5 c6 c7 c8
  go_wp2_with fail
  refine (HPn.out _).mono ?_
  rintro e w2 ⟨rfl,m2⟩
  have k2 := kb.later m2 (by simp)
  have m2 := m0.trans m2 (fun i hi e => e)
  clear c0 c1 c2 c3 c4 c5 c6 c7 c8
  have c0 := k2.cell 0
  have c1 := k2.cell 1
  have c2 := k2.cell 2
  have c3 := k2.cell 3
  have c4 := k2.cell 4
  have c5 := k2.cell 5
  have c6 := k2.cell 6
  have c7 := k2.cell 7
  have c8 := k2.cell 8
  simp at c0 c1 c2 c3 c4 c5 c6 c7 c8
  go_wp2_with fail
  refine (HPt.out _).mono ?_
  rintro e w3 ⟨rfl,m3⟩
  have k3 := k2.later m3 (by simp)
  have m3 := m2.trans m3 (fun i hi e => e)
  clear c0 c1 c2 c3 c4 c5 c6 c7 c8 m2 k2
  go_wp2
  go_ret
  exact ⟨_,rfl,by rw [HE.out]; exact ⟨none,0,0,rfl,rfl,Nat.le_refl _,by decide,Or.inl rfl⟩,m3⟩
open Go.RowKit
theorem options_len (c : Cfg) (n t : Int) : (c.options n t).length ≤ 2 := by
 unfold Cfg.options
 split
 ·
  split
  ·
   simp
  ·
   split <;> simp
 ·
  simp
theorem turn_choose (c : Cfg) (n t ch : Int) (w : World) (h1 : -9223372036854775808 ≤ ch) (h2 : ch ≤ 9223372036854775807) :
  Calls Tryz.prog 134 #[.agg c.cells,.int .i64 n,.int .i64 t,.int .i64 ch] w fun e w' => e = .returned (.tuple #[.int .i64 (c.choose n t ch),.bool (decide (c.options n t ≠ []))])∧Mod (fun _ => False) w w' := by
 have kb := Blk.made w c.cells 23
 have m0 : Mod (fun _ => False) w (w.alloc (.cells c.cells 23)) := (Mod.refl _ _).alloc _
 have HO := Lib.hid (fun w => turn_options c n t w)
 have hlen := options_len c n t
 obtain ⟨v,hv⟩ : ∃ v,c.choose n t ch = v := ⟨_,rfl⟩
 have hv2 : (c.options n t).getD (dist ch % (c.options n t).length).toNat 0 = v := hv
 rw [hv]
 generalize c.options n t = l at HO hlen hv2 ⊢
 obtain ⟨bb,hbb⟩ : ∃ b,decide (l ≠ []) = b := ⟨_,rfl⟩
 rw [hbb]
 have HB := Lib.hid hbb
 have HV := Lib.hid hv2
 obtain ⟨W,H,Ln,D,R,I,B,we,ca⟩ := c
 simp only [Cfg.cells] at kb m0 HO ⊢
 clear hv hv2 hbb
 go_enter Tryz.func134,Tryz.ntmps134
 go_upto_region 1 with fail
 generalize w.alloc (.cells #[.int .i64 W,.int .i64 H,.int .i64 Ln,.int .i64 D,.int .i64 R,.int .i64 I,.int .i64 B,.bool we,.bool ca] 23) = w1 at kb m0 ⊢
 have c0 := kb.cell 0
 have c1 := kb.cell 1
 have c2 := kb.cell 2
 have c3 := kb.cell 3
 have c4 := kb.cell 4
 have c5 := kb.cell 5
 have c6 := kb.cell 6
 have c7 := kb.cell 7
 have c8 := kb.cell 8
 simp at c0 c1 c2 c3 c4 c5 c6 c7 c8
 go_wp2_with fail
 refine (HO.out _).mono ?_
 rintro e w2 ⟨r,rfl,hsl,m2⟩
 have m2 := m0.trans m2 (fun i hi e => e)
 clear c0 c1 c2 c3 c4 c5 c6 c7 c8 m0
 obtain ⟨a,k,cc,rfl,hk,hkc,hcm,-⟩ := id hsl
 rw [List.length_map] at hk
 unfold maxLen at hcm
 have HS := Lib.hid hsl
 have HK := Lib.hid hk
 rw [hk] at hlen
 clear hsl hk
 by_cases hk0 : k = 0
 ·
  have hl0 : l = [] := List.eq_nil_of_length_eq_zero (by rw [HK.out]; exact hk0)
  have HE := Lib.hid (⟨by rw [← HV.out,hl0]; rfl,by rw [← HB.out,hl0]; rfl⟩ : v = 0∧bb = false)
  subst hk0
  clear hl0
  go_wp2
  go_ret2
  exact ⟨by rw [HE.out.1,HE.out.2]; rfl,m2⟩
 ·
  have q1 : ((k : Int) == 0) = false := by simp; omega
  have n2 : ¬ ((k : Int) = 0) := by omega
  have HE := Lib.hid (show bb = true by rw [← HB.out]; exact decide_eq_true (fun e => by have := HK.out; rw [e] at this; simp at this; omega))
  obtain ⟨d,hd⟩ : ∃ d,dist ch = d := ⟨_,rfl⟩
  have hd0 : 0 ≤ d∧d ≤ 9223372036854775807 := by rw [← hd]; unfold dist; split <;> omega
  have hdm : d.tmod (k : Int) = d % (k : Int) := Int.tmod_eq_emod_of_nonneg hd0.1
  have hlt : d % (k : Int) < (k : Int) := Int.emod_lt_of_pos _ (by omega)
  have hge : 0 ≤ d % (k : Int) := Int.emod_nonneg _ n2
  obtain ⟨j,hj⟩ : ∃ j : Nat,d % (k : Int) = (j : Int) := ⟨(d % (k : Int)).toNat,by omega⟩
  rw [hj] at hdm hlt
  obtain ⟨B',off,rfl,hB',dcell⟩ := HS.out.at j (by omega)
  have hval : (l.map (Value.int .i64)).getD j undef = .int .i64 v := by
   have h3 := HV.out
   rw [HK.out,hd,hj,Int.toNat_natCast] at h3
   have hjl : j < l.length := by rw [HK.out]; omega
   rw [List.getD_eq_getElem?_getD,List.getElem?_map,List.getElem?_eq_getElem hjl]
   rw [List.getD_eq_getElem?_getD,List.getElem?_eq_getElem hjl] at h3
   simpa using h3
  rw [hval] at dcell
  have b0 : (0 : Int) ≤ (j : Int) := by omega
  have n3 : ¬ k = 0 := hk0
  clear hval hge hj hk0
  by_cases hc : ch < 0
  ·
   have hdc : -(ch + 1) = d := by rw [← hd]; unfold dist; rw [if_pos hc]
   have hdc2 : -(1 + ch) = d := by omega
   have hdc3 : - ch - 1 = d := by omega
   clear hd
   go_wp2
   go_ret2
   exact ⟨by rw [HE.out]; rfl,m2⟩
  ·
   have hdc : ch = d := by rw [← hd]; unfold dist; rw [if_neg hc]
   subst hdc
   clear hd
   go_wp2
   go_ret2
   exact ⟨by rw [HE.out]; rfl,m2⟩
section
variable {P : Program} {ops : Array Oper} {Q : Exit→Act→World→Prop} {md : Region.Mode} {S : World→Prop}
theorem take_run (i : Nat) {oi : Oper} {v : Value} {fuel : Nat} {listed : Array Bool} {a : Act} {w : World} (hi : ops.toList[i]? = some oi)
  (hs : Region.noSelect ops = true) (hf : Region.free md ops listed i = true) (hr : (Region.ready md ops listed).contains i = true)
  (hQ : ∀ c a w,Q (.panic c) (a.put oi.dst v) w→Q (.panic c) a w) (hw : Region.wanted oi (yielded ops a.tmps) = true)
  (hy : ∀ w,S w→(execOp a.eval oi).run P w = .ok (.value v) w) (hS : S w)
  (h : wpAnyH P md ops Q S fuel (listed.setIfInBounds i true) (a.put oi.dst v) w) : wpAnyH P md ops Q S (fuel + 1) listed a w :=
 wpAnyH_take (by simpa using hi) hs hf hr hQ (Or.inl ⟨hw,hy⟩) hS h
theorem take_skip (i : Nat) {oi : Oper} {fuel : Nat} {listed : Array Bool} {a : Act} {w : World} (hi : ops.toList[i]? = some oi)
  (hs : Region.noSelect ops = true) (hf : Region.free md ops listed i = true) (hr : (Region.ready md ops listed).contains i = true)
  (hQ : ∀ c a w,Q (.panic c) (a.put oi.dst undef) w→Q (.panic c) a w) (hw : Region.wanted oi (yielded ops a.tmps) = false) (hS : S w)
  (h : wpAnyH P md ops Q S fuel (listed.setIfInBounds i true) (a.put oi.dst undef) w) : wpAnyH P md ops Q S (fuel + 1) listed a w :=
 wpAnyH_take (by simpa using hi) hs hf hr hQ (Or.inr ⟨hw,rfl⟩) hS h
theorem take_call (i : Nat) {oi : Oper} {fuel : Nat} {listed : Array Bool} {a : Act} {w : World} (hi : ops.toList[i]? = some oi)
  (hr : Region.ready md ops listed = [i])
  (h : ∀ K' : Act→World→Prop,Shut (∀ a w,S w→(S w→wpAnyH P md ops Q S fuel (listed.setIfInBounds i true) a w)→K' a w)→if Region.wanted oi (yielded ops a.tmps) = true then Oper.wp P oi a w K' Q else K' (a.put oi.dst undef) w) :
  wpAnyH P md ops Q S (fuel + 1) listed a w :=
 wpAnyH_ready hr (by simp) (AllReadyH.cons (by simpa using hi) h AllReadyH.nil)
end
open Go.RowKit
theorem router_snake (c : Cfg) (n t ch : Int) (w : World) :
  Calls Tryz.prog 135 #[.agg c.cells,.int .i64 n,.int .i64 t,.int .i64 ch] w fun e w' => e = .returned (.tuple #[.int .i64 (c.stepV n t),.bool (c.is n && c.is t)])∧Mod (fun _ => False) w w' := by
 have kb := Blk.made w c.cells 23
 have m0 : Mod (fun _ => False) w (w.alloc (.cells c.cells 23)) := (Mod.refl _ _).alloc _
 have HS := Lib.hid (fun w => run_Step c n t w)
 generalize c.stepV n t = v at HS ⊢
 generalize (c.is n && c.is t) = bb at HS ⊢
 simp only [Cfg.cells] at kb m0 HS ⊢
 go_enter Tryz.func135,Tryz.ntmps135
 go_upto_region 1 with fail
 generalize w.alloc (.cells #[.int .i64 c.W,.int .i64 c.H,.int .i64 c.Lanes,.int .i64 c.Depth,.int .i64 c.Ring,.int .i64 c.Inbox,.int .i64 c.Bound,.bool c.West,.bool c.Cast] 23) = w1 at kb m0 ⊢
 have c0 := kb.cell 0
 have c1 := kb.cell 1
 have c2 := kb.cell 2
 have c3 := kb.cell 3
 have c4 := kb.cell 4
 have c5 := kb.cell 5
 have c6 := kb.cell 6
 have c7 := kb.cell 7
 have c8 := kb.cell 8
 simp at c0 c1 c2 c3 c4 c5 c6 c7 c8
 go_wp2_with fail
 refine (HS.out _).mono ?_
 rintro e w2 ⟨rfl,m2⟩
 go_wp2
 go_ret2
 exact ⟨rfl,m0.trans m2 (fun i hi e => e)⟩
theorem router_cfg {w : World} {b : Nat} {A : RAddr} {c : Cfg} {node : Int} (h : Blk w b (routerCells A c node) 144) :
  w.cell? ⟨b,0,none⟩ = some (.int .i64 c.W)∧w.cell? ⟨b,1,none⟩ = some (.int .i64 c.H)∧w.cell? ⟨b,2,none⟩ = some (.int .i64 c.Lanes)∧w.cell? ⟨b,3,none⟩ = some (.int .i64 c.Depth)∧w.cell? ⟨b,4,none⟩ = some (.int .i64 c.Ring)∧w.cell? ⟨b,5,none⟩ = some (.int .i64 c.Inbox)∧w.cell? ⟨b,6,none⟩ = some (.int .i64 c.Bound)∧w.cell? ⟨b,7,none⟩ = some (.bool c.West)∧w.cell? ⟨b,8,none⟩ = some (.bool c.Cast) := by
 refine ⟨?_,?_,?_,?_,?_,?_,?_,?_,?_⟩ <;> (rw [h.cell]; rfl)
def Cfg.leads (c : Cfg) (node ch : Int) (f : Flit) : Int := if f.cast then c.stepV node f.dst else c.choose node f.dst ch
theorem router_leads (b X Y : Nat) (A : RAddr) (c : Cfg) (node ch : Int) (w : World) (kb : Blk w b (routerCells A c node) 144) {tX tY : TypeId} (kX : Blk w X #[.pointer (some ⟨b,0,none⟩)] tX) (kY : Blk w Y #[.int .i64 ch] tY) (h1 : -9223372036854775808 ≤ ch) (h2 : ch ≤ 9223372036854775807) :
  Leads 133 #[.pointer (some ⟨X,0,none⟩),.pointer (some ⟨Y,0,none⟩)] w (c.leads node ch) where
 enters := enters_of Tryz.func133 (by kernel_rfl) rfl
 call := by
  intro f w1 hr hk m1
  have k1 := kb.later m1 (by simp)
  have kX1 := kX.later m1 (by simp)
  have kY1 := kY.later m1 (by simp)
  have kf := Blk.made w1 #[.int .i64 f.kind,.int .i64 f.src,.int .i64 f.dst,.int .i64 f.seq,.int .i64 f.len,.bool f.more,.bool f.cast,.string f.data] 197
  have m0 : Mod (fun _ => False) w1 (w1.alloc (.cells #[.int .i64 f.kind,.int .i64 f.src,.int .i64 f.dst,.int .i64 f.seq,.int .i64 f.len,.bool f.more,.bool f.cast,.string f.data] 197)) := (Mod.refl _ _).alloc _
  have k2 := k1.later m0 (by simp)
  have kX2 := kX1.later m0 (by simp)
  have kY2 := kY1.later m0 (by simp)
  have e134 := enters_of (P := Tryz.prog) Tryz.func134 (by kernel_rfl) rfl
  have e135 := enters_of (P := Tryz.prog) Tryz.func135 (by kernel_rfl) rfl
  obtain ⟨v,hv⟩ : ∃ v,c.leads node ch f = v := ⟨_,rfl⟩
  rw [hv]
  have HC := Lib.hid (fun w => turn_choose c node f.dst ch w h1 h2)
  have HS := Lib.hid (fun w => router_snake c node f.dst ch w)
  have HV := Lib.hid hv
  simp only [Flit.cells]
  clear hr hk kb kX kY k1 kX1 kY1 hv
  go_enter Tryz.func133,Tryz.ntmps133
  go_upto_region 1 with fail
  generalize w1.alloc (.cells #[.int .i64 f.kind,.int .i64 f.src,.int .i64 f.dst,.int .i64 f.seq,.int .i64 f.len,.bool f.more,.bool f.cast,.string f.data] 197) = w2 at kf m0 k2 kX2 kY2 ⊢
  have f0 := kf.cell 0
  have f1 := kf.cell 1
  have f2 := kf.cell 2
  have f3 := kf.cell 3
  have f4 := kf.cell 4
  have f5 := kf.cell 5
  have f6 := kf.cell 6
  have f7 := kf.cell 7
  simp at f0 f1 f2 f3 f4 f5 f6 f7
  obtain ⟨c0,c1,c2,c3,c4,c5,c6,c7,c8⟩ := router_cfg k2
  have c9 := (router_head k2).2
  have x0 := kX2.cell 0
  have y0 := kY2.cell 0
  simp at x0 y0
  cases hcast : f.cast with
  | true =>
   have HL := Lib.hid (show c.stepV node f.dst = v by rw [← HV.out]; unfold Cfg.leads; rw [if_pos hcast])
   rw [HL.out] at HS
   rw [hcast] at f6
   simp only [Cfg.cells] at HS
   clear hcast HC HV
   go_upto_region 4 with fail
   go_cut [6] (fun z w' => z = .int .i64 v∧Mod (fun _ => False) w2 w')
   case first =>
    refine wp_region_held_drew (S := fun w' => w'.cell? ⟨X,0,none⟩ = some (.pointer (some ⟨b,0,none⟩))∧w'.cell? ⟨Y,0,none⟩ = some (.int .i64 ch)∧w'.cell? ⟨w1.heap.size,2,none⟩ = some (.int .i64 f.dst)∧w'.cell? ⟨b,9,none⟩ = some (.int .i64 node)∧w'.cell? ⟨b,0,none⟩ = some (.int .i64 c.W)∧w'.cell? ⟨b,1,none⟩ = some (.int .i64 c.H)∧w'.cell? ⟨b,2,none⟩ = some (.int .i64 c.Lanes)∧w'.cell? ⟨b,3,none⟩ = some (.int .i64 c.Depth)∧w'.cell? ⟨b,4,none⟩ = some (.int .i64 c.Ring)∧w'.cell? ⟨b,5,none⟩ = some (.int .i64 c.Inbox)∧w'.cell? ⟨b,6,none⟩ = some (.int .i64 c.Bound)∧w'.cell? ⟨b,7,none⟩ = some (.bool c.West)∧w'.cell? ⟨b,8,none⟩ = some (.bool c.Cast)) (by kernel_rfl) ?_ (fun hHeld => ?_)
    ·
     exact ⟨x0,y0,f2,c9,c0,c1,c2,c3,c4,c5,c6,c7,c8⟩
    refine take_run 0 (v := ?_) rfl (by kernel_rfl) (by kernel_rfl) (by kernel_rfl) (fun _ _ _ h => h) (by rfl) ?_ (by assumption) ?_
    rotate_left
    ·
     (intro wx hSw; (try dsimp only at hSw); go_simp; try with_reducible rfl)
    try simp only [Act.put,lyA,lyB,lyC]
    refine take_run 1 (v := ?_) rfl (by kernel_rfl) (by kernel_rfl) (by kernel_rfl) (fun _ _ _ h => h) (by rfl) ?_ (by assumption) ?_
    rotate_left
    ·
     (intro wx hSw; (try dsimp only at hSw); go_simp; try with_reducible rfl)
    try simp only [Act.put,lyA,lyB,lyC]
    refine take_run 2 (v := ?_) rfl (by kernel_rfl) (by kernel_rfl) (by kernel_rfl) (fun _ _ _ h => h) (by rfl) ?_ (by assumption) ?_
    rotate_left
    ·
     (intro wx hSw; (try dsimp only at hSw); go_simp; try with_reducible rfl)
    try simp only [Act.put,lyA,lyB,lyC]
    refine take_run 3 (v := ?_) rfl (by kernel_rfl) (by kernel_rfl) (by kernel_rfl) (fun _ _ _ h => h) (by rfl) ?_ (by assumption) ?_
    rotate_left
    ·
     (intro wx hSw; (try dsimp only at hSw); go_simp; try with_reducible rfl)
    try simp only [Act.put,lyA,lyB,lyC]
    refine take_run 4 (v := ?_) rfl (by kernel_rfl) (by kernel_rfl) (by kernel_rfl) (fun _ _ _ h => h) (by rfl) ?_ (by assumption) ?_
    rotate_left
    ·
     (intro wx hSw; (try dsimp only at hSw); go_simp; try with_reducible rfl)
    try simp only [Act.put,lyA,lyB,lyC]
    refine take_run 5 (v := ?_) rfl (by kernel_rfl) (by kernel_rfl) (by kernel_rfl) (fun _ _ _ h => h) (by rfl) ?_ (by assumption) ?_
    rotate_left
    ·
     (intro wx hSw; (try dsimp only at hSw); go_simp; try with_reducible rfl)
    try simp only [Act.put,lyA,lyB,lyC]
    refine take_run 6 (v := ?_) rfl (by kernel_rfl) (by kernel_rfl) (by kernel_rfl) (fun _ _ _ h => h) (by rfl) ?_ (by assumption) ?_
    rotate_left
    ·
     (intro wx hSw; (try dsimp only at hSw); go_simp; try with_reducible rfl)
    try simp only [Act.put,lyA,lyB,lyC]
    refine take_run 7 (v := ?_) rfl (by kernel_rfl) (by kernel_rfl) (by kernel_rfl) (fun _ _ _ h => h) (by rfl) ?_ (by assumption) ?_
    rotate_left
    ·
     (intro wx hSw; (try dsimp only at hSw); go_simp; try with_reducible rfl)
    try simp only [Act.put,lyA,lyB,lyC]
    refine take_run 8 (v := ?_) rfl (by kernel_rfl) (by kernel_rfl) (by kernel_rfl) (fun _ _ _ h => h) (by rfl) ?_ (by assumption) ?_
    rotate_left
    ·
     (intro wx hSw; (try dsimp only at hSw); go_simp; try with_reducible rfl)
    try simp only [Act.put,lyA,lyB,lyC]
    refine take_run 9 (v := ?_) rfl (by kernel_rfl) (by kernel_rfl) (by kernel_rfl) (fun _ _ _ h => h) (by rfl) ?_ (by assumption) ?_
    rotate_left
    ·
     (intro wx hSw; (try dsimp only at hSw); go_simp; try with_reducible rfl)
    try simp only [Act.put,lyA,lyB,lyC]
    refine take_run 10 (v := ?_) rfl (by kernel_rfl) (by kernel_rfl) (by kernel_rfl) (fun _ _ _ h => h) (by rfl) ?_ (by assumption) ?_
    rotate_left
    ·
     (intro wx hSw; (try dsimp only at hSw); go_simp; try with_reducible rfl)
    try simp only [Act.put,lyA,lyB,lyC]
    refine take_run 11 (v := ?_) rfl (by kernel_rfl) (by kernel_rfl) (by kernel_rfl) (fun _ _ _ h => h) (by rfl) ?_ (by assumption) ?_
    rotate_left
    ·
     (intro wx hSw; (try dsimp only at hSw); go_simp; try with_reducible rfl)
    try simp only [Act.put,lyA,lyB,lyC]
    refine take_call 12 rfl (by kernel_rfl) (fun K hK => ?_)
    go_simp
    refine (HS.out _).mono ?_
    rintro e w4 ⟨rfl,m4⟩
    have m5 := ((Mod.refl (fun _ => False) w2).drew).trans m4 (fun i hi e => e)
    refine hK.out _ _ ?_ (fun hHeld2 => ?_)
    ·
     exact ⟨(m5.cell (p := ⟨X,0,none⟩) kX2.lt (by simp)).trans x0,(m5.cell (p := ⟨Y,0,none⟩) kY2.lt (by simp)).trans y0,(m5.cell (p := ⟨w1.heap.size,2,none⟩) kf.lt (by simp)).trans f2,(m5.cell (p := ⟨b,9,none⟩) k2.lt (by simp)).trans c9,(m5.cell (p := ⟨b,0,none⟩) k2.lt (by simp)).trans c0,(m5.cell (p := ⟨b,1,none⟩) k2.lt (by simp)).trans c1,(m5.cell (p := ⟨b,2,none⟩) k2.lt (by simp)).trans c2,(m5.cell (p := ⟨b,3,none⟩) k2.lt (by simp)).trans c3,(m5.cell (p := ⟨b,4,none⟩) k2.lt (by simp)).trans c4,(m5.cell (p := ⟨b,5,none⟩) k2.lt (by simp)).trans c5,(m5.cell (p := ⟨b,6,none⟩) k2.lt (by simp)).trans c6,(m5.cell (p := ⟨b,7,none⟩) k2.lt (by simp)).trans c7,(m5.cell (p := ⟨b,8,none⟩) k2.lt (by simp)).trans c8⟩
    clear hK K
    try simp only [Act.put,lyA,lyB,lyC]
    clear hHeld
    refine take_run 13 (v := ?_) rfl (by kernel_rfl) (by kernel_rfl) (by kernel_rfl) (fun _ _ _ h => h) (by rfl) ?_ (by assumption) ?_
    rotate_left
    ·
     (intro wx hSw; (try dsimp only at hSw); go_simp; try with_reducible rfl)
    try simp only [Act.put,lyA,lyB,lyC]
    refine take_run 14 (v := ?_) rfl (by kernel_rfl) (by kernel_rfl) (by kernel_rfl) (fun _ _ _ h => h) (by rfl) ?_ (by assumption) ?_
    rotate_left
    ·
     (intro wx hSw; (try dsimp only at hSw); go_simp; try with_reducible rfl)
    try simp only [Act.put,lyA,lyB,lyC]
    refine take_run 15 (v := ?_) rfl (by kernel_rfl) (by kernel_rfl) (by kernel_rfl) (fun _ _ _ h => h) (by rfl) ?_ (by assumption) ?_
    rotate_left
    ·
     (intro wx hSw; (try dsimp only at hSw); go_simp; try with_reducible rfl)
    try simp only [Act.put,lyA,lyB,lyC]
    refine take_run 16 (v := ?_) rfl (by kernel_rfl) (by kernel_rfl) (by kernel_rfl) (fun _ _ _ h => h) (by rfl) ?_ (by assumption) ?_
    rotate_left
    ·
     (intro wx hSw; (try dsimp only at hSw); go_simp; try with_reducible rfl)
    try simp only [Act.put,lyA,lyB,lyC]
    refine take_run 17 (v := ?_) rfl (by kernel_rfl) (by kernel_rfl) (by kernel_rfl) (fun _ _ _ h => h) (by rfl) ?_ (by assumption) ?_
    rotate_left
    ·
     (intro wx hSw; (try dsimp only at hSw); go_simp; try with_reducible rfl)
    try simp only [Act.put,lyA,lyB,lyC]
    refine wpAnyH_done (by kernel_rfl) ?_ _
    go_wp2_with fail
    go_meet
    exact ⟨rfl,m5⟩
   case rest =>
    obtain ⟨rfl,m4⟩ := hcut
    have T := Lib.hid (m0.trans m4 (fun i hi e => e))
    clear m4
    go_wp2
    go_ret
    exact ⟨rfl,T.out⟩
  | false =>
   have HL := Lib.hid (show c.choose node f.dst ch = v by rw [← HV.out]; unfold Cfg.leads; rw [if_neg (by rw [hcast]; simp)])
   rw [HL.out] at HC
   rw [hcast] at f6
   simp only [Cfg.cells] at HC
   clear hcast HS HV
   go_upto_region 4 with fail
   go_cut [6] (fun z w' => z = .int .i64 v∧Mod (fun _ => False) w2 w')
   case first =>
    refine wp_region_held_drew (S := fun w' => w'.cell? ⟨X,0,none⟩ = some (.pointer (some ⟨b,0,none⟩))∧w'.cell? ⟨Y,0,none⟩ = some (.int .i64 ch)∧w'.cell? ⟨w1.heap.size,2,none⟩ = some (.int .i64 f.dst)∧w'.cell? ⟨b,9,none⟩ = some (.int .i64 node)∧w'.cell? ⟨b,0,none⟩ = some (.int .i64 c.W)∧w'.cell? ⟨b,1,none⟩ = some (.int .i64 c.H)∧w'.cell? ⟨b,2,none⟩ = some (.int .i64 c.Lanes)∧w'.cell? ⟨b,3,none⟩ = some (.int .i64 c.Depth)∧w'.cell? ⟨b,4,none⟩ = some (.int .i64 c.Ring)∧w'.cell? ⟨b,5,none⟩ = some (.int .i64 c.Inbox)∧w'.cell? ⟨b,6,none⟩ = some (.int .i64 c.Bound)∧w'.cell? ⟨b,7,none⟩ = some (.bool c.West)∧w'.cell? ⟨b,8,none⟩ = some (.bool c.Cast)) (by kernel_rfl) ?_ (fun hHeld => ?_)
    ·
     exact ⟨x0,y0,f2,c9,c0,c1,c2,c3,c4,c5,c6,c7,c8⟩
    refine take_run 0 (v := ?_) rfl (by kernel_rfl) (by kernel_rfl) (by kernel_rfl) (fun _ _ _ h => h) (by rfl) ?_ (by assumption) ?_
    rotate_left
    ·
     (intro wx hSw; (try dsimp only at hSw); go_simp; try with_reducible rfl)
    try simp only [Act.put,lyA,lyB,lyC]
    refine take_run 1 (v := ?_) rfl (by kernel_rfl) (by kernel_rfl) (by kernel_rfl) (fun _ _ _ h => h) (by rfl) ?_ (by assumption) ?_
    rotate_left
    ·
     (intro wx hSw; (try dsimp only at hSw); go_simp; try with_reducible rfl)
    try simp only [Act.put,lyA,lyB,lyC]
    refine take_run 2 (v := ?_) rfl (by kernel_rfl) (by kernel_rfl) (by kernel_rfl) (fun _ _ _ h => h) (by rfl) ?_ (by assumption) ?_
    rotate_left
    ·
     (intro wx hSw; (try dsimp only at hSw); go_simp; try with_reducible rfl)
    try simp only [Act.put,lyA,lyB,lyC]
    refine take_run 3 (v := ?_) rfl (by kernel_rfl) (by kernel_rfl) (by kernel_rfl) (fun _ _ _ h => h) (by rfl) ?_ (by assumption) ?_
    rotate_left
    ·
     (intro wx hSw; (try dsimp only at hSw); go_simp; try with_reducible rfl)
    try simp only [Act.put,lyA,lyB,lyC]
    refine take_run 4 (v := ?_) rfl (by kernel_rfl) (by kernel_rfl) (by kernel_rfl) (fun _ _ _ h => h) (by rfl) ?_ (by assumption) ?_
    rotate_left
    ·
     (intro wx hSw; (try dsimp only at hSw); go_simp; try with_reducible rfl)
    try simp only [Act.put,lyA,lyB,lyC]
    refine take_run 5 (v := ?_) rfl (by kernel_rfl) (by kernel_rfl) (by kernel_rfl) (fun _ _ _ h => h) (by rfl) ?_ (by assumption) ?_
    rotate_left
    ·
     (intro wx hSw; (try dsimp only at hSw); go_simp; try with_reducible rfl)
    try simp only [Act.put,lyA,lyB,lyC]
    refine take_run 6 (v := ?_) rfl (by kernel_rfl) (by kernel_rfl) (by kernel_rfl) (fun _ _ _ h => h) (by rfl) ?_ (by assumption) ?_
    rotate_left
    ·
     (intro wx hSw; (try dsimp only at hSw); go_simp; try with_reducible rfl)
    try simp only [Act.put,lyA,lyB,lyC]
    refine take_run 7 (v := ?_) rfl (by kernel_rfl) (by kernel_rfl) (by kernel_rfl) (fun _ _ _ h => h) (by rfl) ?_ (by assumption) ?_
    rotate_left
    ·
     (intro wx hSw; (try dsimp only at hSw); go_simp; try with_reducible rfl)
    try simp only [Act.put,lyA,lyB,lyC]
    refine take_run 8 (v := ?_) rfl (by kernel_rfl) (by kernel_rfl) (by kernel_rfl) (fun _ _ _ h => h) (by rfl) ?_ (by assumption) ?_
    rotate_left
    ·
     (intro wx hSw; (try dsimp only at hSw); go_simp; try with_reducible rfl)
    try simp only [Act.put,lyA,lyB,lyC]
    refine take_run 9 (v := ?_) rfl (by kernel_rfl) (by kernel_rfl) (by kernel_rfl) (fun _ _ _ h => h) (by rfl) ?_ (by assumption) ?_
    rotate_left
    ·
     (intro wx hSw; (try dsimp only at hSw); go_simp; try with_reducible rfl)
    try simp only [Act.put,lyA,lyB,lyC]
    refine take_run 10 (v := ?_) rfl (by kernel_rfl) (by kernel_rfl) (by kernel_rfl) (fun _ _ _ h => h) (by rfl) ?_ (by assumption) ?_
    rotate_left
    ·
     (intro wx hSw; (try dsimp only at hSw); go_simp; try with_reducible rfl)
    try simp only [Act.put,lyA,lyB,lyC]
    refine take_run 11 (v := ?_) rfl (by kernel_rfl) (by kernel_rfl) (by kernel_rfl) (fun _ _ _ h => h) (by rfl) ?_ (by assumption) ?_
    rotate_left
    ·
     (intro wx hSw; (try dsimp only at hSw); go_simp; try with_reducible rfl)
    try simp only [Act.put,lyA,lyB,lyC]
    refine take_call 12 rfl (by kernel_rfl) (fun K hK => ?_)
    go_simp
    refine (HC.out _).mono ?_
    rintro e w4 ⟨rfl,m4⟩
    have m5 := ((Mod.refl (fun _ => False) w2).drew).trans m4 (fun i hi e => e)
    refine hK.out _ _ ?_ (fun hHeld2 => ?_)
    ·
     exact ⟨(m5.cell (p := ⟨X,0,none⟩) kX2.lt (by simp)).trans x0,(m5.cell (p := ⟨Y,0,none⟩) kY2.lt (by simp)).trans y0,(m5.cell (p := ⟨w1.heap.size,2,none⟩) kf.lt (by simp)).trans f2,(m5.cell (p := ⟨b,9,none⟩) k2.lt (by simp)).trans c9,(m5.cell (p := ⟨b,0,none⟩) k2.lt (by simp)).trans c0,(m5.cell (p := ⟨b,1,none⟩) k2.lt (by simp)).trans c1,(m5.cell (p := ⟨b,2,none⟩) k2.lt (by simp)).trans c2,(m5.cell (p := ⟨b,3,none⟩) k2.lt (by simp)).trans c3,(m5.cell (p := ⟨b,4,none⟩) k2.lt (by simp)).trans c4,(m5.cell (p := ⟨b,5,none⟩) k2.lt (by simp)).trans c5,(m5.cell (p := ⟨b,6,none⟩) k2.lt (by simp)).trans c6,(m5.cell (p := ⟨b,7,none⟩) k2.lt (by simp)).trans c7,(m5.cell (p := ⟨b,8,none⟩) k2.lt (by simp)).trans c8⟩
    clear hK K
    try simp only [Act.put,lyA,lyB,lyC]
    clear hHeld
    refine take_run 13 (v := ?_) rfl (by kernel_rfl) (by kernel_rfl) (by kernel_rfl) (fun _ _ _ h => h) (by rfl) ?_ (by assumption) ?_
    rotate_left
    ·
     (intro wx hSw; (try dsimp only at hSw); go_simp; try with_reducible rfl)
    try simp only [Act.put,lyA,lyB,lyC]
    refine take_run 14 (v := ?_) rfl (by kernel_rfl) (by kernel_rfl) (by kernel_rfl) (fun _ _ _ h => h) (by rfl) ?_ (by assumption) ?_
    rotate_left
    ·
     (intro wx hSw; (try dsimp only at hSw); go_simp; try with_reducible rfl)
    try simp only [Act.put,lyA,lyB,lyC]
    refine take_run 15 (v := ?_) rfl (by kernel_rfl) (by kernel_rfl) (by kernel_rfl) (fun _ _ _ h => h) (by rfl) ?_ (by assumption) ?_
    rotate_left
    ·
     (intro wx hSw; (try dsimp only at hSw); go_simp; try with_reducible rfl)
    try simp only [Act.put,lyA,lyB,lyC]
    refine take_run 16 (v := ?_) rfl (by kernel_rfl) (by kernel_rfl) (by kernel_rfl) (fun _ _ _ h => h) (by rfl) ?_ (by assumption) ?_
    rotate_left
    ·
     (intro wx hSw; (try dsimp only at hSw); go_simp; try with_reducible rfl)
    try simp only [Act.put,lyA,lyB,lyC]
    refine take_run 17 (v := ?_) rfl (by kernel_rfl) (by kernel_rfl) (by kernel_rfl) (fun _ _ _ h => h) (by rfl) ?_ (by assumption) ?_
    rotate_left
    ·
     (intro wx hSw; (try dsimp only at hSw); go_simp; try with_reducible rfl)
    try simp only [Act.put,lyA,lyB,lyC]
    refine wpAnyH_done (by kernel_rfl) ?_ _
    go_wp2_with fail
    go_meet
    exact ⟨rfl,m5⟩
   case rest =>
    obtain ⟨rfl,m4⟩ := hcut
    have T := Lib.hid (m0.trans m4 (fun i hi e => e))
    clear m4
    go_wp2
    go_ret
    exact ⟨rfl,T.out⟩
end Go.Proofs.YtfiklfkfbcpmgaaGreat
