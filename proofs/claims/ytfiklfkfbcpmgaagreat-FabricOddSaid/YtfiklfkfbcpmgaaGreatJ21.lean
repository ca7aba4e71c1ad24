/- Parts: FabA FabB FabC FabD FabE FabF. No condition. -/
import Derived.Test.YtfiklfkfbcpmgaaGreatJ18
import Derived.Test.YtfiklfkfbcpmgaaGreatJ19
import Derived.Test.YtfiklfkfbcpmgaaGreatJ20
set_option linter.all false
set_option maxRecDepth 100000
set_option maxHeartbeats 3200000
namespace Go.Proofs.YtfiklfkfbcpmgaaGreat
open Go.RowKit
def NodeS.rt (x : NodeS) : RouterS := ⟨x.lanes,x.owners,x.gives,x.moves⟩
def NodeS.nc (x : NodeS) : NicS := ⟨x.words,x.sent,x.joins,x.box⟩
def NodeS.setRt (x : NodeS) (s : RouterS) : NodeS := { x with lanes := s.lanes,owners := s.owners,gives := s.gives,moves := s.moves }
def NodeS.setNc (x : NodeS) (s : NicS) : NodeS := { x with words := s.words,sent := s.sent,joins := s.joins,box := s.box }
def NodeS.setLk (x : NodeS) (p : Nat) (l : LinkS) : NodeS := { x with links := x.links.set p (some l) }
structure FAddr where
 rp : Nat→Nat
 np : Nat→Nat
 lk : Nat→Nat→Nat
def linkO (A : FAddr) (c : Cfg) (n p : Nat) : Option Addr := if 1 ≤ p∧c.besB (n : Int) (p : Int) = true then some ⟨A.lk n p,0,none⟩ else none
def encN (A : FAddr) (c : Cfg) (n : Nat) : List Value := [.pointer (some ⟨A.rp n,0,none⟩),.pointer (some ⟨A.np n,0,none⟩),.pointer (linkO A c n 0),.pointer (linkO A c n 1),.pointer (linkO A c n 2),.pointer (linkO A c n 3),.pointer (linkO A c n 4)]
def fabCells (c : Cfg) (v : Value) (steps : Int) : Array Value := #[.int .i64 c.W,.int .i64 c.H,.int .i64 c.Lanes,.int .i64 c.Depth,.int .i64 c.Ring,.int .i64 c.Inbox,.int .i64 c.Bound,.bool c.West,.bool c.Cast,v,.int .i64 steps]
inductive FP where
 | blk | nodes
 | rt (n : Nat)
 | nic (n : Nat)
 | link (n p : Nat)
def FP.no : FP→Nat × Nat × Nat
 | .blk => (0,0,0) | .nodes => (1,0,0) | .rt n => (2,n,0) | .nic n => (3,n,0) | .link n p => (4,n,p)
theorem FP.no_inj {a b : FP} (h : a.no = b.no) : a = b := by
 cases a <;> cases b <;> simp only [FP.no,Prod.mk.injEq] at h <;> first | rfl | exact absurd h.1 (by decide) | (obtain ⟨-,rfl,rfl⟩ := h; rfl) | (congr 1; exact h.2.1)
instance : DecidableEq FP := fun a b => if h : a.no = b.no then isTrue (FP.no_inj h) else isFalse (fun e => h (by rw [e]))
def fabX (b : Nat) (A : FAddr) (c : Cfg) (v : Value) (f : FabS) : FP→Rep
 | .blk => Cells b (fabCells c v f.steps) 87
 | .nodes => Que (encN A c) 7 90 v (List.range c.nodes.toNat)
 | .rt n => if n < c.nodes.toNat then RouterAt (A.rp n) c (n : Int) (f.at (n : Int)).rt else Emp
 | .nic n => if n < c.nodes.toNat then NicAt (A.np n) c (n : Int) (f.at (n : Int)).nc else Emp
 | .link n p => if n < c.nodes.toNat∧p < 5 then (match (f.at (n : Int)).link (p : Int) with | some l => LinkAt (A.lk n p) c.Lanes.toNat c.Depth.toNat c.Ring.toNat l | none => Emp) else Emp
def FabAt (b : Nat) (c : Cfg) (f : FabS) : Rep := fun w own => ∃ A v,Fam (fabX b A c v f) w own
theorem fabX_stable (b : Nat) (A : FAddr) (c : Cfg) (v : Value) (f : FabS) (i : FP) : Stable (fabX b A c v f i) := by
 have e := Emp.stable
 cases i
 ·
  exact Cells.stable _ _ _
 ·
  exact Que.stable _ _
 ·
  exact stable_ite (RouterAt.stable _ _ _ _) e
 ·
  exact stable_ite (NicAt.stable _ _ _ _) e
 ·
  refine stable_ite ?_ e
  split
  ·
   exact LinkAt.stable _ _ _ _ _
  ·
   exact e
theorem FabAt.stable (b : Nat) (c : Cfg) (f : FabS) : Stable (FabAt b c f) where
 later := by
  rintro w w' own S ⟨A,v,h⟩ m hS
  exact ⟨A,v,(Fam.stable (fabX_stable b A c v f)).later h m hS⟩
 lt := by
  rintro w own g ⟨A,v,h⟩ hg
  exact (Fam.stable (fabX_stable b A c v f)).lt h hg
structure FabOk (c : Cfg) (f : FabS) : Prop where
 ok : c.Ok
 len : f.nodes.length = c.nodes.toNat
 rt : ∀ n : Nat,n < c.nodes.toNat→RouterOk c (f.at (n : Int)).rt
 nc : ∀ n : Nat,n < c.nodes.toNat→NicOk c (f.at (n : Int)).nc
 ll : ∀ n : Nat,n < c.nodes.toNat→(f.at (n : Int)).links.length = 5
 lk : ∀ n p : Nat,n < c.nodes.toNat→p < 5→∀ l,(f.at (n : Int)).link (p : Int) = some l→LinkOk c.Lanes.toNat c.Depth.toNat c.Ring.toNat l
 is : ∀ n p : Nat,n < c.nodes.toNat→p < 5→((f.at (n : Int)).link (p : Int)).isSome = decide (1 ≤ p∧c.besB (n : Int) (p : Int) = true)
 steps : 0 ≤ f.steps∧f.steps ≤ 2305843009213693952
theorem put_at {f : FabS} {n m : Nat} {x : NodeS} (hn : n < f.nodes.length) : (f.put (n : Int) x).at (m : Int) = if m = n then x else f.at (m : Int) := by
 unfold FabS.at FabS.put
 simp only [Int.toNat_natCast,List.getD_eq_getElem?_getD]
 by_cases h : m = n
 ·
  rw [if_pos h,h,List.getElem?_set_self hn]
  rfl
 ·
  rw [if_neg h,List.getElem?_set_ne (fun e => h e.symm)]
theorem put_same {f : FabS} {n : Nat} {x : NodeS} (hn : n < f.nodes.length) : (f.put (n : Int) x).at (n : Int) = x := by rw [put_at hn,if_pos rfl]
theorem put_other {f : FabS} {n m : Nat} {x : NodeS} (hn : n < f.nodes.length) (h : m ≠ n) : (f.put (n : Int) x).at (m : Int) = f.at (m : Int) := by rw [put_at hn,if_neg h]
section
variable {b : Nat} {A : FAddr} {c : Cfg} {v : Value} {f : FabS} {own : Nat→Prop} {w : World}
theorem fab_rt (hF : Fam (fabX b A c v f) w own) (hlen : f.nodes.length = c.nodes.toNat) {n : Nat} (hn : n < c.nodes.toNat) :
  ∃ o,RouterAt (A.rp n) c (n : Int) (f.at (n : Int)).rt w o∧(∀ g,o g→own g)∧∀ s w',Turn o (RouterAt (A.rp n) c (n : Int) s) w w'→Turn own (Fam (fabX b A c v (f.put (n : Int) ((f.at (n : Int)).setRt s)))) w w' := by
 obtain ⟨o,h,ho,put⟩ := hF.at (fabX_stable b A c v f) (.rt n)
 rw [fabX,if_pos hn] at h
 have hn2 : n < f.nodes.length := by rw [hlen]; exact hn
 refine ⟨o,h,ho,fun s w' t => put _ w' (fun i hi => ?_) ?_⟩
 ·
  cases i with
  | blk => rfl
  | nodes => rfl
  | rt m =>
   have hne : m ≠ n := fun e => hi (by rw [e])
   simp only [fabX,put_other hn2 hne]
  | nic m =>
   by_cases hne : m = n
   ·
    subst hne
    simp only [fabX,put_same hn2]
    rfl
   ·
    simp only [fabX,put_other hn2 hne]
  | link m p =>
   by_cases hne : m = n
   ·
    subst hne
    simp only [fabX,put_same hn2]
    rfl
   ·
    simp only [fabX,put_other hn2 hne]
 ·
  simp only [fabX,put_same hn2,if_pos hn]
  exact t
theorem fab_nic (hF : Fam (fabX b A c v f) w own) (hlen : f.nodes.length = c.nodes.toNat) {n : Nat} (hn : n < c.nodes.toNat) :
  ∃ o,NicAt (A.np n) c (n : Int) (f.at (n : Int)).nc w o∧(∀ g,o g→own g)∧∀ s w',Turn o (NicAt (A.np n) c (n : Int) s) w w'→Turn own (Fam (fabX b A c v (f.put (n : Int) ((f.at (n : Int)).setNc s)))) w w' := by
 obtain ⟨o,h,ho,put⟩ := hF.at (fabX_stable b A c v f) (.nic n)
 rw [fabX,if_pos hn] at h
 have hn2 : n < f.nodes.length := by rw [hlen]; exact hn
 refine ⟨o,h,ho,fun s w' t => put _ w' (fun i hi => ?_) ?_⟩
 ·
  cases i with
  | blk => rfl
  | nodes => rfl
  | nic m =>
   have hne : m ≠ n := fun e => hi (by rw [e])
   simp only [fabX,put_other hn2 hne]
  | rt m =>
   by_cases hne : m = n
   ·
    subst hne
    simp only [fabX,put_same hn2]
    rfl
   ·
    simp only [fabX,put_other hn2 hne]
  | link m p =>
   by_cases hne : m = n
   ·
    subst hne
    simp only [fabX,put_same hn2]
    rfl
   ·
    simp only [fabX,put_other hn2 hne]
 ·
  simp only [fabX,put_same hn2,if_pos hn]
  exact t
theorem fab_lk (hF : Fam (fabX b A c v f) w own) (hlen : f.nodes.length = c.nodes.toNat) {n p : Nat} (hn : n < c.nodes.toNat) (hp : p < 5) (hll : (f.at (n : Int)).links.length = 5) {l : LinkS} (hl : (f.at (n : Int)).link (p : Int) = some l) :
  ∃ o,LinkAt (A.lk n p) c.Lanes.toNat c.Depth.toNat c.Ring.toNat l w o∧(∀ g,o g→own g)∧∀ l' w',Turn o (LinkAt (A.lk n p) c.Lanes.toNat c.Depth.toNat c.Ring.toNat l') w w'→Turn own (Fam (fabX b A c v (f.put (n : Int) ((f.at (n : Int)).setLk p l')))) w w' := by
 obtain ⟨o,h,ho,put⟩ := hF.at (fabX_stable b A c v f) (.link n p)
 rw [fabX,if_pos ⟨hn,hp⟩,hl] at h
 have hn2 : n < f.nodes.length := by rw [hlen]; exact hn
 have hset : ∀ (x : NodeS) (q : Nat) (l' : LinkS),x.links.length = 5→q < 5→(x.setLk p l').link (q : Int) = if q = p then some l' else x.link (q : Int) := by
  intro x q l' hx hq
  unfold NodeS.link NodeS.setLk
  simp only [Int.toNat_natCast,List.getD_eq_getElem?_getD]
  by_cases h : q = p
  ·
   rw [if_pos h,h,List.getElem?_set_self (by omega)]
   rfl
  ·
   rw [if_neg h,List.getElem?_set_ne (fun e => h e.symm)]
 refine ⟨o,h,ho,fun l' w' t => put _ w' (fun i hi => ?_) ?_⟩
 ·
  cases i with
  | blk => rfl
  | nodes => rfl
  | rt m =>
   by_cases hne : m = n
   ·
    subst hne
    simp only [fabX,put_same hn2]
    rfl
   ·
    simp only [fabX,put_other hn2 hne]
  | nic m =>
   by_cases hne : m = n
   ·
    subst hne
    simp only [fabX,put_same hn2]
    rfl
   ·
    simp only [fabX,put_other hn2 hne]
  | link m q =>
   by_cases hne : m = n
   ·
    subst hne
    simp only [fabX,put_same hn2]
    by_cases hq : q < 5
    ·
     have hqp : q ≠ p := fun e => hi (by rw [e])
     rw [hset _ _ _ hll hq,if_neg hqp]
    ·
     rw [if_neg (fun e => hq e.2),if_neg (fun e => hq e.2)]
   ·
    simp only [fabX,put_other hn2 hne]
 ·
  simp only [fabX,put_same hn2,if_pos (⟨hn,hp⟩ : n < c.nodes.toNat∧p < 5)]
  rw [hset _ _ _ hll hp,if_pos rfl]
  exact t
theorem fab_cells (hF : Fam (fabX b A c v f) w own) :
  Blk w b (fabCells c v f.steps) 87∧∃ a cc,v = .slice a c.nodes.toNat cc∧∀ n,n < c.nodes.toNat→∃ g o,a = some ⟨g,o,none⟩∧∀ t,t < 7→w.cell? ⟨g,o + n * 7 + t,none⟩ = (encN A c n)[t]? := by
 obtain ⟨ob,⟨kb,-⟩,-,-⟩ := hF.at (fabX_stable b A c v f) .blk
 obtain ⟨oq,hq,-,-⟩ := hF.at (fabX_stable b A c v f) .nodes
 have hq : Que (encN A c) 7 90 v (List.range c.nodes.toNat) w oq := hq
 obtain ⟨a,cc,hv,-,-⟩ := Que.form hq
 rw [List.length_range] at hv
 refine ⟨kb,a,cc,hv,fun n hn => ?_⟩
 rw [hv] at hq
 obtain ⟨g,o,ha,-,-,hc⟩ := Que.at hq (j := n) (x := n) (List.getElem?_range hn)
 exact ⟨g,o,ha,hc⟩
end
open Go.RowKit
theorem fabric_is (b N cc : Nat) (a : Option Addr) (n : Int) (w : World) (h : w.cell? ⟨b,9,none⟩ = some (.slice a N cc)) :
  Calls Tryz.prog 77 #[.pointer (some ⟨b,0,none⟩),.int .i64 n] w fun e w' => e = .returned (.bool (decide (0 ≤ n) && decide (n < (N : Int))))∧w' = w := by
 by_cases h0 : 0 ≤ n
 ·
  by_cases h1 : n < (N : Int)
  ·
   go_enter Tryz.func77,Tryz.ntmps77
   go_wp2
   go_ret
   exact ⟨ret_bool (by simp [h0,h1]),rfl⟩
  ·
   go_enter Tryz.func77,Tryz.ntmps77
   go_wp2
   go_ret
   exact ⟨ret_bool (by simp; omega),rfl⟩
 ·
  go_enter Tryz.func77,Tryz.ntmps77
  go_wp2
  go_ret
  exact ⟨ret_bool (by simp; omega),rfl⟩
theorem fabric_is_nil (n : Int) (w : World) : Calls Tryz.prog 77 #[.pointer none,.int .i64 n] w fun e w' => e = .returned (.bool false)∧w' = w := by
 go_enter Tryz.func77,Tryz.ntmps77
 go_wp2
 go_ret
 exact ⟨rfl,rfl⟩
structure FCells (b : Nat) (A : FAddr) (c : Cfg) (steps : Int) (g o cc : Nat) (w : World) : Prop where
 blk : Blk w b (fabCells c (.slice (some ⟨g,o,none⟩) c.nodes.toNat cc) steps) 87
 node : ∀ n,n < c.nodes.toNat→∀ t,t < 7→w.cell? ⟨g,o + n * 7 + t,none⟩ = (encN A c n)[t]?
theorem fab_fcells {b : Nat} {A : FAddr} {c : Cfg} {v : Value} {f : FabS} {own : Nat→Prop} {w : World} (hF : Fam (fabX b A c v f) w own) (h : 0 < c.nodes.toNat) : ∃ g o cc,FCells b A c f.steps g o cc w := by
 obtain ⟨kb,a,cc,hv,hn⟩ := fab_cells hF
 obtain ⟨g,o,ha,h0⟩ := hn 0 h
 refine ⟨g,o,cc,by rw [hv,ha] at kb; exact kb,fun n hlt t ht => ?_⟩
 obtain ⟨g',o',ha',h1⟩ := hn n hlt
 rw [ha] at ha'
 simp only [Option.some.injEq,Addr.mk.injEq] at ha'
 obtain ⟨rfl,rfl,-⟩ := ha'
 exact h1 t ht
theorem FCells.drw {b : Nat} {A : FAddr} {c : Cfg} {steps : Int} {g o cc : Nat} {w w' : World} (h : FCells b A c steps g o cc w) (d : Drw w w') : FCells b A c steps g o cc w' :=
 ⟨h.blk.drw d,fun n hn t ht => (d.cell _).trans (h.node n hn t ht)⟩
section
variable {b : Nat} {A : FAddr} {c : Cfg} {steps : Int} {g o cc : Nat} {w : World}
theorem FCells.cfg (h : FCells b A c steps g o cc w) :
  w.cell? ⟨b,0,none⟩ = some (.int .i64 c.W)∧w.cell? ⟨b,1,none⟩ = some (.int .i64 c.H)∧w.cell? ⟨b,2,none⟩ = some (.int .i64 c.Lanes)∧w.cell? ⟨b,3,none⟩ = some (.int .i64 c.Depth)∧w.cell? ⟨b,4,none⟩ = some (.int .i64 c.Ring)∧w.cell? ⟨b,5,none⟩ = some (.int .i64 c.Inbox)∧w.cell? ⟨b,6,none⟩ = some (.int .i64 c.Bound)∧w.cell? ⟨b,7,none⟩ = some (.bool c.West)∧w.cell? ⟨b,8,none⟩ = some (.bool c.Cast) := by
 refine ⟨?_,?_,?_,?_,?_,?_,?_,?_,?_⟩ <;> (rw [h.blk.cell]; rfl)
theorem FCells.c9 (h : FCells b A c steps g o cc w) : w.cell? ⟨b,9,none⟩ = some (.slice (some ⟨g,o,none⟩) c.nodes.toNat cc) := by rw [h.blk.cell]; rfl
theorem FCells.c10 (h : FCells b A c steps g o cc w) : w.cell? ⟨b,10,none⟩ = some (.int .i64 steps) := by rw [h.blk.cell]; rfl
theorem FCells.at (h : FCells b A c steps g o cc w) {n : Nat} (hn : n < c.nodes.toNat) :
  w.cell? ⟨g,o + n * 7,none⟩ = some (.pointer (some ⟨A.rp n,0,none⟩))∧w.cell? ⟨g,o + n * 7 + 1,none⟩ = some (.pointer (some ⟨A.np n,0,none⟩))∧w.cell? ⟨g,o + n * 7 + 2,none⟩ = some (.pointer (linkO A c n 0))∧w.cell? ⟨g,o + n * 7 + 3,none⟩ = some (.pointer (linkO A c n 1))∧w.cell? ⟨g,o + n * 7 + 4,none⟩ = some (.pointer (linkO A c n 2))∧w.cell? ⟨g,o + n * 7 + 5,none⟩ = some (.pointer (linkO A c n 3))∧w.cell? ⟨g,o + n * 7 + 6,none⟩ = some (.pointer (linkO A c n 4)) :=
 ⟨by have := h.node n hn 0 (by decide); simpa [encN] using this,h.node n hn 1 (by decide),h.node n hn 2 (by decide),h.node n hn 3 (by decide),h.node n hn 4 (by decide),h.node n hn 5 (by decide),h.node n hn 6 (by decide)⟩
theorem FCells.link (h : FCells b A c steps g o cc w) {n p : Nat} (hn : n < c.nodes.toNat) (hp : p < 5) : w.cell? ⟨g,o + n * 7 + 2 + p,none⟩ = some (.pointer (linkO A c n p)) := by
 obtain ⟨-,-,h0,h1,h2,h3,h4⟩ := h.at hn
 rcases (show p = 0∨p = 1∨p = 2∨p = 3∨p = 4 by omega) with rfl | rfl | rfl | rfl | rfl
 ·
  exact h0
 ·
  exact h1
 ·
  exact h2
 ·
  exact h3
 ·
  exact h4
theorem fabric_Link (h : FCells b A c steps g o cc w) {n p : Nat} (hn : n < c.nodes.toNat) (hp : p < 5) :
  Calls Tryz.prog 28 #[.pointer (some ⟨b,0,none⟩),.int .i64 (n : Int),.int .i64 (p : Int)] w fun e w' => e = .returned (.pointer (linkO A c n p))∧w' = w := by
 have l0 := h.link hn hp
 obtain ⟨N,hN⟩ : ∃ N,c.nodes.toNat = N := ⟨_,rfl⟩
 have hI := Lib.hid (fabric_is b c.nodes.toNat cc (some ⟨g,o,none⟩) (n : Int) w h.c9)
 have c9 := h.c9
 rw [hN] at hI c9 hn
 have q0 : (0 : Int) ≤ (n : Int) := by omega
 have q1 : (n : Int) < (N : Int) := by omega
 rw [decide_eq_true q0,decide_eq_true q1] at hI
 have q2 : ¬ (p : Int) < 0 := by omega
 have q3 : ¬ (5 : Int) ≤ (p : Int) := by omega
 have q4 : (0 : Int) ≤ (p : Int) := by omega
 have q5 : (p : Int) < 5 := by omega
 clear h hN
 go_enter Tryz.func28,Tryz.ntmps28
 go_wp2_with fail
 refine hI.out.mono ?_
 rintro e w1 ⟨rfl,rfl⟩
 go_wp2
 go_ret
 exact ⟨rfl,rfl⟩
theorem fabric_Steps (h : FCells b A c steps g o cc w) :
  Calls Tryz.prog 14 #[.pointer (some ⟨b,0,none⟩)] w fun e w' => e = .returned (.int .i64 steps)∧w' = w := by
 have c10 := h.c10
 clear h
 go_enter Tryz.func14,Tryz.ntmps14
 go_wp2
 go_ret
 exact ⟨rfl,rfl⟩
end
open Go.RowKit
section
variable {b : Nat} {A : FAddr} {c : Cfg} {v : Value} {f : FabS} {own : Nat→Prop} {w : World}
def partA (kind n p l : Nat) : Array Value := #[.int .i64 (kind : Int),.int .i64 (n : Int),.int .i64 (p : Int),.int .i64 (l : Int)]
theorem FCells.later {steps : Int} {g o cc : Nat} {w' : World} (h : FCells b A c steps g o cc w) (m : Mod (fun _ => False) w w') : FCells b A c steps g o cc w' :=
 ⟨h.blk.later m (by simp),fun n hn t ht => by
  have e := h.node n hn t ht
  have hlt : t < (encN A c n).length := by simp [encN]; omega
  rw [List.getElem?_eq_getElem hlt] at e ⊢
  exact (m.cell (World.block_lt_of_cell? _ _ e) (by simp)).trans e⟩
theorem find_is (f : FabS) (c : Cfg) (n k : Nat) (ch : Int) : f.find c (n : Int) (k : Int) ch = (f.put (n : Int) ((f.at (n : Int)).setRt ((f.at (n : Int)).rt.setLane k (((f.at (n : Int)).rt.lanes.getD k LaneS.new).find (n : Int) (c.leads (n : Int) ch)).1)),(((f.at (n : Int)).rt.lanes.getD k LaneS.new).find (n : Int) (c.leads (n : Int) ch)).2) := rfl
theorem fabric_find (hF : Fam (fabX b A c v f) w own) (hk : FabOk c f) {kind n p l : Nat} (hn : n < c.nodes.toNat) (hp : p < 5) (hl : (l : Int) < c.Lanes) {ch : Int} (h1 : -9223372036854775808 ≤ ch) (h2 : ch ≤ 9223372036854775807) :
  Calls Tryz.prog 62 #[.pointer (some ⟨b,0,none⟩),.agg (partA kind n p l),.int .i64 ch] w fun e w' =>
   e = .returned (.bool (f.find c (n : Int) ((p * c.Lanes.toNat + l : Nat) : Int) ch).2)∧Turn own (Fam (fabX b A c v (f.find c (n : Int) ((p * c.Lanes.toNat + l : Nat) : Int) ch).1)) w w' := by
 obtain ⟨g,o,cc,hC⟩ := fab_fcells hF (show 0 < c.nodes.toNat by omega)
 have kT := Blk.made w (partA kind n p l) 51
 have m0 : Mod (fun _ => False) w (w.alloc (.cells (partA kind n p l) 51)) := (Mod.refl _ _).alloc _
 have q0 : (0 : Int) ≤ (n : Int) := by omega
 have q1 : (n : Int) < (c.nodes.toNat : Int) := by omega
 rw [find_is]
 obtain ⟨r,hr⟩ : ∃ r,((f.at (n : Int)).rt.lanes.getD (p * c.Lanes.toNat + l) LaneS.new).find (n : Int) (c.leads (n : Int) ch) = r := ⟨_,rfl⟩
 rw [hr]
 go_enter Tryz.func62,Tryz.ntmps62
 go_upto_region 1 with fail
 generalize w.alloc (.cells (partA kind n p l) 51) = w1 at kT m0 ⊢
 have t1 := kT.cell 1
 have t2 := kT.cell 2
 have t3 := kT.cell 3
 simp [partA] at t1 t2 t3
 have hC1 := hC.later m0
 have c9 := hC1.c9
 have l0 := (hC1.at hn).1
 have HF := Lib.hid (fun k => by
  have hF2 := (Fam.stable (fabX_stable b A c v f)).later hF (m0.drewN k) (by simp)
  obtain ⟨o,hR,hlo,put⟩ := fab_rt hF2 hk.len hn
  have hf := router_find (A.rp n) c (n : Int) p l ch _ _ _ hR (hk.rt n hn).ll (mem_getD (hk.rt n hn).lane (LaneOk.new hk.ok) _).q hp hl hk.ok.L2 h1 h2
  rw [hr] at hf
  exact hf.mono fun e w' ⟨he,t⟩ => (⟨he,Turn.before (m0.drewN k) (put _ _ t)⟩ : e = Ending.returned (.bool r.2)∧Turn own (Fam (fabX b A c v (f.put (n : Int) ((f.at (n : Int)).setRt ((f.at (n : Int)).rt.setLane (p * c.Lanes.toNat + l) r.1))))) w w'))
 obtain ⟨N,hN⟩ : ∃ N,c.nodes.toNat = N := ⟨_,rfl⟩
 rw [hN] at c9 q1
 clear hF hC hC1 m0 kT hk hr hn hN
 refine wp_region_quiet_tail 14 (fun w' => ∃ n,w' = World.drewN (w1) n) (by kernel_rfl) (by kernel_rfl) ⟨1,rfl⟩ ?_
 simp only [List.take_succ_cons,List.take_zero,List.drop_succ_cons,List.drop_zero]
 repeat (quiet_step (fail))
 refine wpQuiet_nil ?_
 intro _ hw'
 obtain ⟨nq,hw''⟩ := hw'
 subst hw''
 go_wp2_with fail
 refine (HF.out _).mono ?_
 rintro e w2 ⟨rfl,t2⟩
 have T := Lib.hid t2
 clear t2
 go_wp2
 go_ret
 exact ⟨rfl,T.out⟩
theorem fabric_give0 (hF : Fam (fabX b A c v f) w own) (hk : FabOk c f) {kind n p l : Nat} (hn : n < c.nodes.toNat) (hp : p < 5) (hl : (l : Int) < c.Lanes) {ch : Int} :
  Calls Tryz.prog 63 #[.pointer (some ⟨b,0,none⟩),.agg (partA kind n p l),.int .i64 ch] w fun e w' =>
   e = .returned (.bool ((f.at (n : Int)).rt.give c (p * c.Lanes.toNat + l)).2)∧Turn own (Fam (fabX b A c v (f.put (n : Int) ((f.at (n : Int)).setRt ((f.at (n : Int)).rt.give c (p * c.Lanes.toNat + l)).1)))) w w' := by
 obtain ⟨g,o,cc,hC⟩ := fab_fcells hF (show 0 < c.nodes.toNat by omega)
 have kT := Blk.made w (partA kind n p l) 51
 have m0 : Mod (fun _ => False) w (w.alloc (.cells (partA kind n p l) 51)) := (Mod.refl _ _).alloc _
 have q0 : (0 : Int) ≤ (n : Int) := by omega
 have q1 : (n : Int) < (c.nodes.toNat : Int) := by omega
 obtain ⟨r,hr⟩ : ∃ r,(f.at (n : Int)).rt.give c (p * c.Lanes.toNat + l) = r := ⟨_,rfl⟩
 rw [hr]
 go_enter Tryz.func63,Tryz.ntmps63
 go_upto_region 1 with fail
 generalize w.alloc (.cells (partA kind n p l) 51) = w1 at kT m0 ⊢
 have t1 := kT.cell 1
 have t2 := kT.cell 2
 have t3 := kT.cell 3
 simp [partA] at t1 t2 t3
 have hC1 := hC.later m0
 have c9 := hC1.c9
 have l0 := (hC1.at hn).1
 have HF := Lib.hid (fun k => by
  have hF2 := (Fam.stable (fabX_stable b A c v f)).later hF (m0.drewN k) (by simp)
  obtain ⟨o,hR,hlo,put⟩ := fab_rt hF2 hk.len hn
  have hf := router_give (A.rp n) c (n : Int) p l _ _ _ hR (hk.rt n hn) hk.ok hp hl
  refine hf.mono fun e w' ⟨he,t⟩ => (⟨?_,?_⟩ : e = Ending.returned (.bool r.2)∧Turn own (Fam (fabX b A c v (f.put (n : Int) ((f.at (n : Int)).setRt r.1)))) w w')
  ·
   rw [← hr]
   exact he
  ·
   rw [← hr]
   exact Turn.before (m0.drewN k) (put _ _ t))
 obtain ⟨N,hN⟩ : ∃ N,c.nodes.toNat = N := ⟨_,rfl⟩
 rw [hN] at c9 q1
 clear hF hC hC1 m0 kT hk hr hn hN
 refine wp_region_quiet_tail 13 (fun w' => ∃ n,w' = World.drewN (w1) n) (by kernel_rfl) (by kernel_rfl) ⟨1,rfl⟩ ?_
 simp only [List.take_succ_cons,List.take_zero,List.drop_succ_cons,List.drop_zero]
 repeat (quiet_step (fail))
 refine wpQuiet_nil ?_
 intro _ hw'
 obtain ⟨nq,hw''⟩ := hw'
 subst hw''
 go_wp2_with fail
 refine (HF.out _).mono ?_
 rintro e w2 ⟨rfl,t2⟩
 have T := Lib.hid t2
 clear t2
 go_wp2
 go_ret
 exact ⟨rfl,T.out⟩
theorem fabric_tell (hF : Fam (fabX b A c v f) w own) (hk : FabOk c f) {kind n p l : Nat} (hn : n < c.nodes.toNat) {ch : Int} :
  Calls Tryz.prog 66 #[.pointer (some ⟨b,0,none⟩),.agg (partA kind n p l),.int .i64 ch] w fun e w' =>
   e = .returned (.bool (f.tell c (n : Int)).2)∧Turn own (Fam (fabX b A c v (f.tell c (n : Int)).1)) w w' := by
 obtain ⟨g,o,cc,hC⟩ := fab_fcells hF (show 0 < c.nodes.toNat by omega)
 have kT := Blk.made w (partA kind n p l) 51
 have m0 : Mod (fun _ => False) w (w.alloc (.cells (partA kind n p l) 51)) := (Mod.refl _ _).alloc _
 have q0 : (0 : Int) ≤ (n : Int) := by omega
 have q1 : (n : Int) < (c.nodes.toNat : Int) := by omega
 obtain ⟨r,hr⟩ : ∃ r,f.tell c (n : Int) = r := ⟨_,rfl⟩
 rw [hr]
 go_enter Tryz.func66,Tryz.ntmps66
 go_upto_region 1 with fail
 generalize w.alloc (.cells (partA kind n p l) 51) = w1 at kT m0 ⊢
 have t1 := kT.cell 1
 have t2 := kT.cell 2
 have t3 := kT.cell 3
 simp [partA] at t1 t2 t3
 have hC1 := hC.later m0
 have c9 := hC1.c9
 have l0 := (hC1.at hn).2.1
 have HF := Lib.hid (fun k => by
  have hF2 := (Fam.stable (fabX_stable b A c v f)).later hF (m0.drewN k) (by simp)
  obtain ⟨o,hR,hlo,put⟩ := fab_nic hF2 hk.len hn
  have hf := nic_tell (A.np n) c (n : Int) _ _ _ hR (hk.nc n hn) hk.ok.I1
  refine hf.mono fun e w' ⟨he,t⟩ => (⟨?_,?_⟩ : e = Ending.returned (.bool r.2)∧Turn own (Fam (fabX b A c v r.1)) w w')
  ·
   rw [← hr]
   exact he
  ·
   rw [← hr]
   exact Turn.before (m0.drewN k) (put _ _ t))
 obtain ⟨N,hN⟩ : ∃ N,c.nodes.toNat = N := ⟨_,rfl⟩
 rw [hN] at c9 q1
 clear hF hC hC1 m0 kT hk hr hn hN
 refine wp_region_quiet_tail 9 (fun w' => ∃ n,w' = World.drewN (w1) n) (by kernel_rfl) (by kernel_rfl) ⟨1,rfl⟩ ?_
 simp only [List.take_succ_cons,List.take_zero,List.drop_succ_cons,List.drop_zero]
 repeat (quiet_step (fail))
 refine wpQuiet_nil ?_
 intro _ hw'
 obtain ⟨nq,hw''⟩ := hw'
 subst hw''
 go_wp2_with fail
 refine (HF.out _).mono ?_
 rintro e w2 ⟨rfl,t2⟩
 have T := Lib.hid t2
 clear t2
 go_wp2
 go_ret
 exact ⟨rfl,T.out⟩
end
open Go.RowKit
theorem link_credit_nil (w : World) :
  Calls Tryz.prog 111 #[.pointer none] w fun e w' => e = .returned (.int .i64 1)∧w' = w := by
 go_enter Tryz.func111,Tryz.ntmps111
 go_wp2
 go_ret
 exact ⟨rfl,rfl⟩
theorem link_credit_all (b L D R : Nat) (s : LinkS) (own : Nat→Prop) (w : World) (h : LinkAt b L D R s w own) (hs : LinkOk L D R s) :
  Calls Tryz.prog 111 #[.pointer (some ⟨b,0,none⟩)] w (LinkPost b L D R own w s.credit (decide (s.back ≠ []))) := by
 rcases hb : s.back with _ | ⟨k,bs⟩
 ·
  have e : s.credit = s := by unfold LinkS.credit; rw [hb]
  rw [e]
  simpa using link_credit_none b L D R s own w h hb
 ·
  obtain ⟨h0,h1⟩ := hs.bl k (by rw [hb]; exact List.mem_cons_self ..)
  obtain ⟨q,rfl⟩ := Int.eq_ofNat_of_zero_le h0
  have e : s.credit = ⟨bump s.credits (q : Int) 1,s.far,s.words,bs⟩ := by unfold LinkS.credit; rw [hb]
  rw [e]
  simpa using link_credit b L D R q bs s own w h hs (by omega) hb
theorem setLink_is {f : FabS} {n p : Nat} {l : LinkS} (h : f.link (n : Int) (p : Int) = some l) (g : LinkS→LinkS) : f.setLink (n : Int) (p : Int) g = f.put (n : Int) ((f.at (n : Int)).setLk p (g l)) := by
 unfold FabS.setLink NodeS.setLk
 unfold FabS.link at h
 rw [h]
 rfl
theorem setLk_same {x : NodeS} {p : Nat} {l : LinkS} (h : x.link (p : Int) = some l) : x.setLk p l = x := by
 unfold NodeS.link at h
 simp only [Int.toNat_natCast,List.getD_eq_getElem?_getD] at h
 have e : x.links.set p (some l) = x.links := by
  apply List.ext_getElem?
  intro i
  by_cases hi : i = p
  ·
   subst hi
   by_cases hl : i < x.links.length
   ·
    rw [List.getElem?_set_self hl]
    rw [List.getElem?_eq_getElem hl] at h ⊢
    simp only [Option.getD_some] at h
    rw [h]
   ·
    rw [List.getElem?_eq_none (by omega)] at h
    simp at h
  ·
   rw [List.getElem?_set_ne (fun e => hi e.symm)]
 unfold NodeS.setLk
 rw [e]
theorem put_self {f : FabS} {n : Nat} (hn : n < f.nodes.length) : f.put (n : Int) (f.at (n : Int)) = f := by
 unfold FabS.put FabS.at
 simp only [Int.toNat_natCast,List.getD_eq_getElem?_getD,List.getElem?_eq_getElem hn,Option.getD_some,List.set_getElem_self]
section
variable {b : Nat} {A : FAddr} {c : Cfg} {v : Value} {f : FabS} {own : Nat→Prop} {w : World}
theorem FabOk.linkO (hk : FabOk c f) {n p : Nat} (hn : n < c.nodes.toNat) (hp : p < 5) (A : FAddr) :
  (f.link (n : Int) (p : Int) = none∧linkO A c n p = none)∨∃ l,f.link (n : Int) (p : Int) = some l∧linkO A c n p = some ⟨A.lk n p,0,none⟩ := by
 have h := hk.is n p hn hp
 unfold FabS.link Go.Proofs.YtfiklfkfbcpmgaaGreat.linkO
 rcases hl : (f.at (n : Int)).link (p : Int) with _ | l
 ·
  rw [hl] at h
  exact Or.inl ⟨rfl,if_neg (fun e => by simp [e] at h)⟩
 ·
  rw [hl] at h
  refine Or.inr ⟨l,rfl,if_pos ?_⟩
  have := h.symm
  simp only [Option.isSome_some,decide_eq_true_eq] at this
  exact this
theorem credit_none {n p : Nat} (h : f.link (n : Int) (p : Int) = none) : f.credit (n : Int) (p : Int) = (f,false) := by
 unfold FabS.credit
 rw [h]
theorem credit_some (hk : FabOk c f) {n p : Nat} (hn : n < c.nodes.toNat) {l : LinkS} (h : f.link (n : Int) (p : Int) = some l) : f.credit (n : Int) (p : Int) = (f.put (n : Int) ((f.at (n : Int)).setLk p l.credit),decide (l.back ≠ [])) := by
 unfold FabS.credit
 rw [h]
 rcases hb : l.back with _ | ⟨k,bs⟩
 ·
  have e : l.credit = l := by unfold LinkS.credit; rw [hb]
  have e2 := setLk_same (x := f.at (n : Int)) (p := p) (l := l) h
  rw [e,e2,put_self (by rw [hk.len]; exact hn)]
  simp [hb]
 ·
  rw [setLink_is h]
  simp [hb]
theorem fabric_credit (hF : Fam (fabX b A c v f) w own) (hk : FabOk c f) {kind n p l : Nat} (hn : n < c.nodes.toNat) (hp : p < 5) {ch : Int} :
  Calls Tryz.prog 68 #[.pointer (some ⟨b,0,none⟩),.agg (partA kind n p l),.int .i64 ch] w fun e w' =>
   e = .returned (.bool (f.credit (n : Int) (p : Int)).2)∧Turn own (Fam (fabX b A c v (f.credit (n : Int) (p : Int)).1)) w w' := by
 obtain ⟨g,o,cc,hC⟩ := fab_fcells hF (show 0 < c.nodes.toNat by omega)
 have kT := Blk.made w (partA kind n p l) 51
 have m0 : Mod (fun _ => False) w (w.alloc (.cells (partA kind n p l) 51)) := (Mod.refl _ _).alloc _
 have HO := hk.linkO hn hp A
 rcases HO with ⟨hl,ho⟩ | ⟨y,hl,ho⟩
 ·
  rw [credit_none hl]
  go_enter Tryz.func68,Tryz.ntmps68
  go_upto_region 1 with fail
  generalize w.alloc (.cells (partA kind n p l) 51) = w1 at kT m0 ⊢
  have t1 := kT.cell 1
  have t2 := kT.cell 2
  simp [partA] at t1 t2
  have HL := Lib.hid (fabric_Link (hC.later m0) hn hp)
  have HS := Lib.hid (Turn.same (Fam.stable (fabX_stable b A c v f)) hF m0)
  rw [ho] at HL
  clear hF hk hC m0 kT hl ho
  go_wp2_with fail
  refine HL.out.mono ?_
  rintro e w2 ⟨rfl,rfl⟩
  go_wp2_with fail
  refine (link_credit_nil _).mono ?_
  rintro e w3 ⟨rfl,rfl⟩
  go_wp2
  go_ret
  exact ⟨ret_bool (by simp),HS.out⟩
 ·
  rw [credit_some hk hn hl]
  obtain ⟨r,hr⟩ : ∃ r,f.put (n : Int) ((f.at (n : Int)).setLk p y.credit) = r := ⟨_,rfl⟩
  obtain ⟨q,hq⟩ : ∃ q,decide (y.back ≠ []) = q := ⟨_,rfl⟩
  rw [hr,hq]
  go_enter Tryz.func68,Tryz.ntmps68
  go_upto_region 1 with fail
  generalize w.alloc (.cells (partA kind n p l) 51) = w1 at kT m0 ⊢
  have t1 := kT.cell 1
  have t2 := kT.cell 2
  simp [partA] at t1 t2
  have HL := Lib.hid (fabric_Link (hC.later m0) hn hp)
  rw [ho] at HL
  have HF := Lib.hid (by
   have hF2 := (Fam.stable (fabX_stable b A c v f)).later hF m0 (by simp)
   obtain ⟨o,hR,hlo,put⟩ := fab_lk hF2 hk.len hn hp (hk.ll n hn) hl
   have hf := link_credit_all (A.lk n p) _ _ _ y _ _ hR (hk.lk n p hn hp y hl)
   rw [hq] at hf
   exact hf.mono fun e w' ⟨er,he,e',t⟩ => (⟨er,he,e',hr ▸ Turn.before m0 (put _ _ t)⟩ : ∃ er : Int,(er = 0 ↔ q = true)∧e = Ending.returned (.int .i64 er)∧Turn own (Fam (fabX b A c v r)) w w'))
  clear hF hk hC m0 kT hl ho hr hq
  go_wp2_with fail
  refine HL.out.mono ?_
  rintro e w2 ⟨rfl,rfl⟩
  go_wp2_with fail
  refine HF.out.mono ?_
  rintro e w3 ⟨er,her,rfl,t⟩
  have T := Lib.hid t
  have E := Lib.hid her
  clear t her
  go_wp2
  go_ret
  refine ⟨ret_bool ?_,T.out⟩
  have := E.out
  cases q <;> simp_all
end
open Go.RowKit
def nodeV (A : FAddr) (c : Cfg) (n : Nat) : Array Value := #[.pointer (some ⟨A.rp n,0,none⟩),.pointer (some ⟨A.np n,0,none⟩),.pointer (linkO A c n 0),.pointer (linkO A c n 1),.pointer (linkO A c n 2),.pointer (linkO A c n 3),.pointer (linkO A c n 4)]
section
variable {b : Nat} {A : FAddr} {c : Cfg} {v : Value} {f : FabS} {own : Nat→Prop} {w : World}
theorem put_put {f : FabS} {n : Nat} {x y : NodeS} : (f.put (n : Int) x).put (n : Int) y = f.put (n : Int) y := by
 unfold FabS.put
 simp
theorem put_len {f : FabS} {n : Int} {x : NodeS} : (f.put n x).nodes.length = f.nodes.length := by
 unfold FabS.put
 simp
theorem putIn_none {f : FabS} {c : Cfg} {n : Nat} (h : (f.at (n : Int)).words = []) : f.putIn c (n : Int) = (f,false) := by
 unfold FabS.putIn
 rw [h]
theorem putIn_some {f : FabS} {c : Cfg} {n k x : Nat} {ws : List (Int × Nat)} (hn : n < f.nodes.length) (h : (f.at (n : Int)).words = ((k : Int),x) :: ws) :
  f.putIn c (n : Int) = if ((((f.at (n : Int)).rt.lanes.getD k LaneS.new).q.length : Int) < c.Depth) then
   (f.put (n : Int) (((f.at (n : Int)).setRt ((f.at (n : Int)).rt.setLane k { (f.at (n : Int)).rt.lanes.getD k LaneS.new with q := ((f.at (n : Int)).rt.lanes.getD k LaneS.new).q ++ [x] })).setNc ((f.at (n : Int)).nc.withWords ws)),true) else (f,false) := by
 unfold FabS.putIn
 rw [h]
 simp only [FabS.room,decide_eq_true_eq]
 split
 ·
  rename_i h2
  refine Eq.trans ?_ (if_pos h2).symm
  congr 1
  show ((f.put (n : Int) { f.at (n : Int) with words := ws }).into (n : Int) (k : Int) x) = _
  unfold FabS.into
  rw [put_same hn,put_put]
  rfl
 ·
  rename_i h2
  exact (if_neg h2).symm
theorem fabric_put (hF : Fam (fabX b A c v f) w own) (hk : FabOk c f) {kind n p l : Nat} (hn : n < c.nodes.toNat) {ch : Int} :
  Calls Tryz.prog 65 #[.pointer (some ⟨b,0,none⟩),.agg (partA kind n p l),.int .i64 ch] w fun e w' =>
   e = .returned (.bool (f.putIn c (n : Int)).2)∧Turn own (Fam (fabX b A c v (f.putIn c (n : Int)).1)) w w' := by
 obtain ⟨g,o,cc,hC⟩ := fab_fcells hF (show 0 < c.nodes.toNat by omega)
 have kT := Blk.made w (partA kind n p l) 51
 have m0 : Mod (fun _ => False) w (w.alloc (.cells (partA kind n p l) 51)) := (Mod.refl _ _).alloc _
 have q0 : (0 : Int) ≤ (n : Int) := by omega
 have q1 : (n : Int) < (c.nodes.toNat : Int) := by omega
 have q8 := hk.ok.L2
 have hnl : n < f.nodes.length := by rw [hk.len]; exact hn
 obtain ⟨T,hT⟩ : ∃ T : FabS × Bool→Ending→World→Prop,T = fun r e w' => e = .returned (.bool r.2)∧Turn own (Fam (fabX b A c v r.1)) w w' := ⟨_,rfl⟩
 have hT2 : ∀ (r : FabS × Bool) w',Turn own (Fam (fabX b A c v r.1)) w w'→T r (.returned (.bool r.2)) w' := fun r w' t => by rw [hT]; exact ⟨rfl,t⟩
 rw [show (fun e w' => e = Ending.returned (.bool (f.putIn c (n : Int)).2)∧Turn own (Fam (fabX b A c v (f.putIn c (n : Int)).1)) w w') = T (f.putIn c (n : Int)) by rw [hT]]
 clear hT
 rcases hw : (f.at (n : Int)).words with _ | ⟨⟨k0,x⟩,ws⟩
 ·
  rw [putIn_none hw]
  go_enter Tryz.func65,Tryz.ntmps65
  go_upto_region 1 with fail
  generalize w.alloc (.cells (partA kind n p l) 51) = w1 at kT m0 ⊢
  have hC1 := hC.later m0
  have HN : ∀ w',Mod (fun _ => False) w1 w'→Calls Tryz.prog 106 #[.pointer (some ⟨A.np n,0,none⟩)] w' (fun e w3 => e = .returned (.tuple #[.agg #[.int .i64 0,.int .u64 0],.int .i64 8])∧∀ w4,Mod (fun _ => False) w3 w4→T (f,false) (.returned (.bool false)) w4) := fun w' m => by
   have m2 := m0.trans m (by simp)
   have hF2 := (Fam.stable (fabX_stable b A c v f)).later hF m2 (by simp)
   obtain ⟨o,hR,hlo,put⟩ := fab_nic hF2 hk.len hn
   have hf := nic_first_none (A.np n) c (n : Int) _ _ _ hR hw
   exact hf.mono fun e w3 h => ⟨h.1,fun w4 m4 => hT2 (f,false) _ (Turn.same (Fam.stable (fabX_stable b A c v f)) hF ((m2.trans h.2 (by simp)).trans m4 (by simp)))⟩
  have HN := Lib.hid HN
  have HR := trivial
  have HS : ∀ w',Mod (fun _ => False) w1 w'→(w'.cell? ⟨b,9,none⟩ = some (.slice (some ⟨g,o,none⟩) c.nodes.toNat cc)∧w'.cell? ⟨w.heap.size,1,none⟩ = some (.int .i64 (n : Int))∧w'.cell? ⟨g,o + n * 7,none⟩ = some (.pointer (some ⟨A.rp n,0,none⟩))∧w'.cell? ⟨g,o + n * 7 + 1,none⟩ = some (.pointer (some ⟨A.np n,0,none⟩))∧w'.cell? ⟨g,o + n * 7 + 2,none⟩ = some (.pointer (linkO A c n 0))∧w'.cell? ⟨g,o + n * 7 + 3,none⟩ = some (.pointer (linkO A c n 1))∧w'.cell? ⟨g,o + n * 7 + 4,none⟩ = some (.pointer (linkO A c n 2))∧w'.cell? ⟨g,o + n * 7 + 5,none⟩ = some (.pointer (linkO A c n 3))∧w'.cell? ⟨g,o + n * 7 + 6,none⟩ = some (.pointer (linkO A c n 4))) := fun w' m => ⟨(hC1.later m).c9,(by have := (kT.later m (by simp)).cell 1; simpa [partA] using this),(hC1.later m).at hn⟩
  obtain ⟨N,hN⟩ : ∃ N,c.nodes.toNat = N := ⟨_,rfl⟩
  rw [hN] at HS q1
  generalize linkO A c n 0 = y0 at HS
  generalize linkO A c n 1 = y1 at HS
  generalize linkO A c n 2 = y2 at HS
  generalize linkO A c n 3 = y3 at HS
  generalize linkO A c n 4 = y4 at HS
  generalize A.rp n = r0 at HS HR
  generalize A.np n = r1 at HS HN HR
  have HS := Lib.hid HS
  clear hF hC hC1 m0 kT hk hn hN hnl hw hT2
  refine walkT_begin 9 (fun w' => Mod (fun _ => False) w1 w'∧w'.cell? ⟨b,9,none⟩ = some (.slice (some ⟨g,o,none⟩) N cc)∧w'.cell? ⟨w.heap.size,1,none⟩ = some (.int .i64 (n : Int))∧w'.cell? ⟨g,o + n * 7,none⟩ = some (.pointer (some ⟨r0,0,none⟩))∧w'.cell? ⟨g,o + n * 7 + 1,none⟩ = some (.pointer (some ⟨r1,0,none⟩))∧w'.cell? ⟨g,o + n * 7 + 2,none⟩ = some (.pointer y0)∧w'.cell? ⟨g,o + n * 7 + 3,none⟩ = some (.pointer y1)∧w'.cell? ⟨g,o + n * 7 + 4,none⟩ = some (.pointer y2)∧w'.cell? ⟨g,o + n * 7 + 5,none⟩ = some (.pointer y3)∧w'.cell? ⟨g,o + n * 7 + 6,none⟩ = some (.pointer y4)) (by kernel_rfl) ?_
  have hHeld : (fun w' => Mod (fun _ => False) w1 w'∧w'.cell? ⟨b,9,none⟩ = some (.slice (some ⟨g,o,none⟩) N cc)∧w'.cell? ⟨w.heap.size,1,none⟩ = some (.int .i64 (n : Int))∧w'.cell? ⟨g,o + n * 7,none⟩ = some (.pointer (some ⟨r0,0,none⟩))∧w'.cell? ⟨g,o + n * 7 + 1,none⟩ = some (.pointer (some ⟨r1,0,none⟩))∧w'.cell? ⟨g,o + n * 7 + 2,none⟩ = some (.pointer y0)∧w'.cell? ⟨g,o + n * 7 + 3,none⟩ = some (.pointer y1)∧w'.cell? ⟨g,o + n * 7 + 4,none⟩ = some (.pointer y2)∧w'.cell? ⟨g,o + n * 7 + 5,none⟩ = some (.pointer y3)∧w'.cell? ⟨g,o + n * 7 + 6,none⟩ = some (.pointer y4)) (w1.drew) := by exact ⟨(Mod.refl _ _).drew,HS.out _ ((Mod.refl _ _).drew)⟩
  refine takeT_run 0 (v := ?_) rfl (by kernel_rfl) (by kernel_rfl) (by kernel_rfl) (fun _ _ _ h => h) (by rfl) ?_ (by assumption) ?_
  rotate_left
  ·
   (intro wx hSw; (try dsimp only at hSw); go_simp; try with_reducible rfl)
  try simp only [Act.put,lyA,lyB,lyC]
  refine takeT_run 1 (v := ?_) rfl (by kernel_rfl) (by kernel_rfl) (by kernel_rfl) (fun _ _ _ h => h) (by rfl) ?_ (by assumption) ?_
  rotate_left
  ·
   (intro wx hSw; (try dsimp only at hSw); go_simp; try with_reducible rfl)
  try simp only [Act.put,lyA,lyB,lyC]
  refine takeT_run 2 (v := ?_) rfl (by kernel_rfl) (by kernel_rfl) (by kernel_rfl) (fun _ _ _ h => h) (by rfl) ?_ (by assumption) ?_
  rotate_left
  ·
   (intro wx hSw; (try dsimp only at hSw); go_simp; try with_reducible rfl)
  try simp only [Act.put,lyA,lyB,lyC]
  refine takeT_run 3 (v := ?_) rfl (by kernel_rfl) (by kernel_rfl) (by kernel_rfl) (fun _ _ _ h => h) (by rfl) ?_ (by assumption) ?_
  rotate_left
  ·
   (intro wx hSw; (try dsimp only at hSw); go_simp; try with_reducible rfl)
  try simp only [Act.put,lyA,lyB,lyC]
  refine takeT_run 4 (v := ?_) rfl (by kernel_rfl) (by kernel_rfl) (by kernel_rfl) (fun _ _ _ h => h) (by rfl) ?_ (by assumption) ?_
  rotate_left
  ·
   (intro wx hSw; (try dsimp only at hSw); go_simp; try with_reducible rfl)
  try simp only [Act.put,lyA,lyB,lyC]
  refine takeT_run 5 (v := ?_) rfl (by kernel_rfl) (by kernel_rfl) (by kernel_rfl) (fun _ _ _ h => h) (by rfl) ?_ (by assumption) ?_
  rotate_left
  ·
   (intro wx hSw; (try dsimp only at hSw); go_simp; try with_reducible rfl)
  try simp only [Act.put,lyA,lyB,lyC]
  refine takeT_run 6 (v := ?_) rfl (by kernel_rfl) (by kernel_rfl) (by kernel_rfl) (fun _ _ _ h => h) (by rfl) ?_ (by assumption) ?_
  rotate_left
  ·
   (intro wx hSw; (try dsimp only at hSw); go_simp; try with_reducible rfl)
  try simp only [Act.put,lyA,lyB,lyC]
  refine takeT_run 7 (v := ?_) rfl (by kernel_rfl) (by kernel_rfl) (by kernel_rfl) (fun _ _ _ h => h) (by rfl) ?_ (by assumption) ?_
  rotate_left
  ·
   (intro wx hSw; (try dsimp only at hSw); go_simp; try with_reducible rfl)
  try simp only [Act.put,lyA,lyB,lyC]
  refine takeT_one 8 rfl (by kernel_rfl) (by rfl) ?_
  intro K hK
  go_simp
  have kn := (Blk.made w1 #[.pointer none,.pointer none,.pointer none,.pointer none,.pointer none,.pointer none,.pointer none] 90).drew
  have m2 := ((Mod.refl (fun _ => False) w1).alloc (.cells #[.pointer none,.pointer none,.pointer none,.pointer none,.pointer none,.pointer none,.pointer none] 90)).drew
  generalize (w1.alloc (.cells #[.pointer none,.pointer none,.pointer none,.pointer none,.pointer none,.pointer none,.pointer none] 90)).drew = w2 at kn m2 ⊢
  refine hK.out _ _ ?_ (fun hHeld' => ?_)
  ·
   exact ⟨m2,HS.out _ m2⟩
  clear hK K hHeld
  try simp only [Act.put,lyA,lyB,lyC]
  refine walkT_tail 9 rfl rfl (by kernel_rfl) rfl ?_
  simp only [List.drop_succ_cons,List.drop_zero]
  skip
  have z0 := kn.fz 0
  have z1 := kn.fz 1
  have z2 := kn.fz 2
  have z3 := kn.fz 3
  have z4 := kn.fz 4
  have z5 := kn.fz 5
  have z6 := kn.fz 6
  have h0 := kn.cell 0
  have h1 := kn.cell 1
  have h2 := kn.cell 2
  have h3 := kn.cell 3
  have h4 := kn.cell 4
  have h5 := kn.cell 5
  have h6 := kn.cell 6
  simp at h0 h1 h2 h3 h4 h5 h6
  go_upto_region 2 with fail
  have k2 := (((((((kn.set (0) (.pointer (some ⟨r0,0,none⟩))).set (1) (.pointer (some ⟨r1,0,none⟩))).set (2) (.pointer y0)).set (3) (.pointer y1)).set (4) (.pointer y2)).set (5) (.pointer y3)).set (6) (.pointer y4))
  have mm2 := (((((((m2.setCell (p := ⟨w1.heap.size,0,none⟩) (Or.inr (Nat.le_refl _)) (.pointer (some ⟨r0,0,none⟩))).setCell (p := ⟨w1.heap.size,1,none⟩) (Or.inr (Nat.le_refl _)) (.pointer (some ⟨r1,0,none⟩))).setCell (p := ⟨w1.heap.size,2,none⟩) (Or.inr (Nat.le_refl _)) (.pointer y0)).setCell (p := ⟨w1.heap.size,3,none⟩) (Or.inr (Nat.le_refl _)) (.pointer y1)).setCell (p := ⟨w1.heap.size,4,none⟩) (Or.inr (Nat.le_refl _)) (.pointer y2)).setCell (p := ⟨w1.heap.size,5,none⟩) (Or.inr (Nat.le_refl _)) (.pointer y3)).setCell (p := ⟨w1.heap.size,6,none⟩) (Or.inr (Nat.le_refl _)) (.pointer y4))
  simp at k2
  generalize (((((((w2.setCell ⟨w1.heap.size,0,none⟩ (.pointer (some ⟨r0,0,none⟩))).setCell ⟨w1.heap.size,1,none⟩ (.pointer (some ⟨r1,0,none⟩))).setCell ⟨w1.heap.size,2,none⟩ (.pointer y0)).setCell ⟨w1.heap.size,3,none⟩ (.pointer y1)).setCell ⟨w1.heap.size,4,none⟩ (.pointer y2)).setCell ⟨w1.heap.size,5,none⟩ (.pointer y3)).setCell ⟨w1.heap.size,6,none⟩ (.pointer y4)) = w3 at k2 mm2 ⊢
  have n1 := k2.cell 1
  simp at n1
  go_wp2_with fail
  refine (HN.out _ mm2).mono ?_
  rintro e w4 ⟨rfl,t⟩
  have T1 := Lib.hid t
  clear t
  go_wp2
  exact T1.out _ ((Mod.refl _ _).alloc _)
 ·
  obtain ⟨hk0,hkL,hx⟩ := (hk.nc n hn).ws ((k0,x)) (by show (k0,x) ∈ (f.at (n : Int)).words; rw [hw]; exact List.mem_cons_self ..)
  obtain ⟨k,rfl⟩ := Int.eq_ofNat_of_zero_le hk0
  have OLT : ∀ g,own g→g < w.heap.size := fun g hg => (Fam.stable (fabX_stable b A c v f)).lt hF hg
  have hwl : (f.at (n : Int)).words.length ≤ 1000000 := (hk.nc n hn).wl
  rw [hw] at hwl
  simp only [List.length_cons] at hwl
  rw [putIn_some hnl hw]
  obtain ⟨R,hRR⟩ : ∃ R,T (if ((((f.at (n : Int)).rt.lanes.getD k LaneS.new).q.length : Int) < c.Depth) then
   (f.put (n : Int) (((f.at (n : Int)).setRt ((f.at (n : Int)).rt.setLane k { (f.at (n : Int)).rt.lanes.getD k LaneS.new with q := ((f.at (n : Int)).rt.lanes.getD k LaneS.new).q ++ [x] })).setNc ((f.at (n : Int)).nc.withWords ws)),true) else (f,false)) = R := ⟨_,rfl⟩
  rw [hRR]
  go_enter Tryz.func65,Tryz.ntmps65
  go_upto_region 1 with fail
  generalize w.alloc (.cells (partA kind n p l) 51) = w1 at kT m0 ⊢
  have hC1 := hC.later m0
  have HN : ∀ w',Mod (fun _ => False) w1 w'→Calls Tryz.prog 106 #[.pointer (some ⟨A.np n,0,none⟩)] w' (fun e w3 => e = .returned (.tuple #[.agg #[.int .i64 (k : Int),.int .u64 (x : Int)],.int .i64 0])∧Mod (fun _ => False) w' w3) := fun w' m => by
   have m2 := m0.trans m (by simp)
   have hF2 := (Fam.stable (fabX_stable b A c v f)).later hF m2 (by simp)
   obtain ⟨o,hR,hlo,put⟩ := fab_nic hF2 hk.len hn
   have hf := nic_first (A.np n) c (n : Int) _ _ _ _ _ hR hw
   exact hf.mono fun e w3 h => ⟨h.1,h.2⟩
  have hsz := m0.size
  have OLT : ∀ g,own g→g < w1.heap.size := fun g hg => Nat.lt_of_lt_of_le (OLT g hg) hsz
  have OLT := Lib.hid OLT
  clear hsz
  have HR : ∀ w',Mod (fun _ => False) w1 w'→Calls Tryz.prog 107 #[.pointer (some ⟨A.rp n,0,none⟩),.int .i64 0,.int .i64 (k : Int),.int .u64 (x : Int)] w' (fun e w3 =>
    (e = .returned (.int .i64 7)∧R (.returned (.bool false)) w3)∨(e = .returned (.int .i64 0)∧Mod own w' w3∧Calls Tryz.prog 108 #[.pointer (some ⟨A.np n,0,none⟩)] w3 (fun e w4 => e = .returned (.tuple #[.agg #[.int .i64 (k : Int),.int .u64 (x : Int)],.int .i64 0])∧R (.returned (.bool true)) w4))) := fun w' m => by
   have m2 := m0.trans m (by simp)
   have hF2 := (Fam.stable (fabX_stable b A c v f)).later hF m2 (by simp)
   obtain ⟨o,hR,hlo,put⟩ := fab_rt hF2 hk.len hn
   have hf := router_put (A.rp n) c (n : Int) 0 k x _ _ _ hR (hk.rt n hn).ll (by decide) hkL q8
   rw [Nat.zero_mul,Nat.zero_add] at hf
   refine hf.mono fun e w3 h => ?_
   have hD := hk.ok.D1
   rcases h with ⟨hq,he,m3⟩ | ⟨hq,he,t⟩
   ·
    refine Or.inl ⟨he,?_⟩
    rw [if_neg (by omega)] at hRR
    rw [← hRR]
    exact hT2 (f,false) _ (Turn.same (Fam.stable (fabX_stable b A c v f)) hF (m2.trans m3 (by simp)))
   ·
    obtain ⟨o',hF3,m3,ho3⟩ := put _ _ t
    refine Or.inr ⟨he,m3,?_⟩
    rw [if_pos (by omega)] at hRR
    obtain ⟨o4,hN4,hlo4,put4⟩ := fab_nic hF3 (by rw [put_len]; exact hk.len) hn
    have hf4 := nic_put (A.np n) c (n : Int) ((k : Int),x) ws _ _ _ hN4 (by rw [put_same hnl]; exact hw) (by omega)
    refine hf4.mono fun e w4 h4 => ⟨h4.1,?_⟩
    have t5 := put4 _ _ h4.2
    rw [put_put,put_same hnl] at t5
    rw [← hRR]
    exact hT2 _ _ (Turn.before m2 (Turn.next m3 ho3 t5))
  have HN := Lib.hid HN
  have HS : ∀ w',Mod (fun _ => False) w1 w'→(w'.cell? ⟨b,9,none⟩ = some (.slice (some ⟨g,o,none⟩) c.nodes.toNat cc)∧w'.cell? ⟨w.heap.size,1,none⟩ = some (.int .i64 (n : Int))∧w'.cell? ⟨g,o + n * 7,none⟩ = some (.pointer (some ⟨A.rp n,0,none⟩))∧w'.cell? ⟨g,o + n * 7 + 1,none⟩ = some (.pointer (some ⟨A.np n,0,none⟩))∧w'.cell? ⟨g,o + n * 7 + 2,none⟩ = some (.pointer (linkO A c n 0))∧w'.cell? ⟨g,o + n * 7 + 3,none⟩ = some (.pointer (linkO A c n 1))∧w'.cell? ⟨g,o + n * 7 + 4,none⟩ = some (.pointer (linkO A c n 2))∧w'.cell? ⟨g,o + n * 7 + 5,none⟩ = some (.pointer (linkO A c n 3))∧w'.cell? ⟨g,o + n * 7 + 6,none⟩ = some (.pointer (linkO A c n 4))) := fun w' m => ⟨(hC1.later m).c9,(by have := (kT.later m (by simp)).cell 1; simpa [partA] using this),(hC1.later m).at hn⟩
  obtain ⟨N,hN⟩ : ∃ N,c.nodes.toNat = N := ⟨_,rfl⟩
  rw [hN] at HS q1
  generalize linkO A c n 0 = y0 at HS
  generalize linkO A c n 1 = y1 at HS
  generalize linkO A c n 2 = y2 at HS
  generalize linkO A c n 3 = y3 at HS
  generalize linkO A c n 4 = y4 at HS
  generalize A.rp n = r0 at HS HR
  generalize A.np n = r1 at HS HN HR
  have HS := Lib.hid HS
  have HR := Lib.hid HR
  clear hF hC hC1 m0 kT hk hn hN hnl hw hT2 hRR hk0 hkL hx hwl
  refine walkT_begin 9 (fun w' => Mod (fun _ => False) w1 w'∧w'.cell? ⟨b,9,none⟩ = some (.slice (some ⟨g,o,none⟩) N cc)∧w'.cell? ⟨w.heap.size,1,none⟩ = some (.int .i64 (n : Int))∧w'.cell? ⟨g,o + n * 7,none⟩ = some (.pointer (some ⟨r0,0,none⟩))∧w'.cell? ⟨g,o + n * 7 + 1,none⟩ = some (.pointer (some ⟨r1,0,none⟩))∧w'.cell? ⟨g,o + n * 7 + 2,none⟩ = some (.pointer y0)∧w'.cell? ⟨g,o + n * 7 + 3,none⟩ = some (.pointer y1)∧w'.cell? ⟨g,o + n * 7 + 4,none⟩ = some (.pointer y2)∧w'.cell? ⟨g,o + n * 7 + 5,none⟩ = some (.pointer y3)∧w'.cell? ⟨g,o + n * 7 + 6,none⟩ = some (.pointer y4)) (by kernel_rfl) ?_
  have hHeld : (fun w' => Mod (fun _ => False) w1 w'∧w'.cell? ⟨b,9,none⟩ = some (.slice (some ⟨g,o,none⟩) N cc)∧w'.cell? ⟨w.heap.size,1,none⟩ = some (.int .i64 (n : Int))∧w'.cell? ⟨g,o + n * 7,none⟩ = some (.pointer (some ⟨r0,0,none⟩))∧w'.cell? ⟨g,o + n * 7 + 1,none⟩ = some (.pointer (some ⟨r1,0,none⟩))∧w'.cell? ⟨g,o + n * 7 + 2,none⟩ = some (.pointer y0)∧w'.cell? ⟨g,o + n * 7 + 3,none⟩ = some (.pointer y1)∧w'.cell? ⟨g,o + n * 7 + 4,none⟩ = some (.pointer y2)∧w'.cell? ⟨g,o + n * 7 + 5,none⟩ = some (.pointer y3)∧w'.cell? ⟨g,o + n * 7 + 6,none⟩ = some (.pointer y4)) (w1.drew) := by exact ⟨(Mod.refl _ _).drew,HS.out _ ((Mod.refl _ _).drew)⟩
  refine takeT_run 0 (v := ?_) rfl (by kernel_rfl) (by kernel_rfl) (by kernel_rfl) (fun _ _ _ h => h) (by rfl) ?_ (by assumption) ?_
  rotate_left
  ·
   (intro wx hSw; (try dsimp only at hSw); go_simp; try with_reducible rfl)
  try simp only [Act.put,lyA,lyB,lyC]
  refine takeT_run 1 (v := ?_) rfl (by kernel_rfl) (by kernel_rfl) (by kernel_rfl) (fun _ _ _ h => h) (by rfl) ?_ (by assumption) ?_
  rotate_left
  ·
   (intro wx hSw; (try dsimp only at hSw); go_simp; try with_reducible rfl)
  try simp only [Act.put,lyA,lyB,lyC]
  refine takeT_run 2 (v := ?_) rfl (by kernel_rfl) (by kernel_rfl) (by kernel_rfl) (fun _ _ _ h => h) (by rfl) ?_ (by assumption) ?_
  rotate_left
  ·
   (intro wx hSw; (try dsimp only at hSw); go_simp; try with_reducible rfl)
  try simp only [Act.put,lyA,lyB,lyC]
  refine takeT_run 3 (v := ?_) rfl (by kernel_rfl) (by kernel_rfl) (by kernel_rfl) (fun _ _ _ h => h) (by rfl) ?_ (by assumption) ?_
  rotate_left
  ·
   (intro wx hSw; (try dsimp only at hSw); go_simp; try with_reducible rfl)
  try simp only [Act.put,lyA,lyB,lyC]
  refine takeT_run 4 (v := ?_) rfl (by kernel_rfl) (by kernel_rfl) (by kernel_rfl) (fun _ _ _ h => h) (by rfl) ?_ (by assumption) ?_
  rotate_left
  ·
   (intro wx hSw; (try dsimp only at hSw); go_simp; try with_reducible rfl)
  try simp only [Act.put,lyA,lyB,lyC]
  refine takeT_run 5 (v := ?_) rfl (by kernel_rfl) (by kernel_rfl) (by kernel_rfl) (fun _ _ _ h => h) (by rfl) ?_ (by assumption) ?_
  rotate_left
  ·
   (intro wx hSw; (try dsimp only at hSw); go_simp; try with_reducible rfl)
  try simp only [Act.put,lyA,lyB,lyC]
  refine takeT_run 6 (v := ?_) rfl (by kernel_rfl) (by kernel_rfl) (by kernel_rfl) (fun _ _ _ h => h) (by rfl) ?_ (by assumption) ?_
  rotate_left
  ·
   (intro wx hSw; (try dsimp only at hSw); go_simp; try with_reducible rfl)
  try simp only [Act.put,lyA,lyB,lyC]
  refine takeT_run 7 (v := ?_) rfl (by kernel_rfl) (by kernel_rfl) (by kernel_rfl) (fun _ _ _ h => h) (by rfl) ?_ (by assumption) ?_
  rotate_left
  ·
   (intro wx hSw; (try dsimp only at hSw); go_simp; try with_reducible rfl)
  try simp only [Act.put,lyA,lyB,lyC]
  refine takeT_one 8 rfl (by kernel_rfl) (by rfl) ?_
  intro K hK
  go_simp
  have kn := (Blk.made w1 #[.pointer none,.pointer none,.pointer none,.pointer none,.pointer none,.pointer none,.pointer none] 90).drew
  have m2 := ((Mod.refl (fun _ => False) w1).alloc (.cells #[.pointer none,.pointer none,.pointer none,.pointer none,.pointer none,.pointer none,.pointer none] 90)).drew
  generalize (w1.alloc (.cells #[.pointer none,.pointer none,.pointer none,.pointer none,.pointer none,.pointer none,.pointer none] 90)).drew = w2 at kn m2 ⊢
  refine hK.out _ _ ?_ (fun hHeld' => ?_)
  ·
   exact ⟨m2,HS.out _ m2⟩
  clear hK K hHeld
  try simp only [Act.put,lyA,lyB,lyC]
  refine walkT_tail 9 rfl rfl (by kernel_rfl) rfl ?_
  simp only [List.drop_succ_cons,List.drop_zero]
  skip
  have z0 := kn.fz 0
  have z1 := kn.fz 1
  have z2 := kn.fz 2
  have z3 := kn.fz 3
  have z4 := kn.fz 4
  have z5 := kn.fz 5
  have z6 := kn.fz 6
  have h0 := kn.cell 0
  have h1 := kn.cell 1
  have h2 := kn.cell 2
  have h3 := kn.cell 3
  have h4 := kn.cell 4
  have h5 := kn.cell 5
  have h6 := kn.cell 6
  simp at h0 h1 h2 h3 h4 h5 h6
  go_upto_region 2 with fail
  have k2 := (((((((kn.set (0) (.pointer (some ⟨r0,0,none⟩))).set (1) (.pointer (some ⟨r1,0,none⟩))).set (2) (.pointer y0)).set (3) (.pointer y1)).set (4) (.pointer y2)).set (5) (.pointer y3)).set (6) (.pointer y4))
  have mm2 := (((((((m2.setCell (p := ⟨w1.heap.size,0,none⟩) (Or.inr (Nat.le_refl _)) (.pointer (some ⟨r0,0,none⟩))).setCell (p := ⟨w1.heap.size,1,none⟩) (Or.inr (Nat.le_refl _)) (.pointer (some ⟨r1,0,none⟩))).setCell (p := ⟨w1.heap.size,2,none⟩) (Or.inr (Nat.le_refl _)) (.pointer y0)).setCell (p := ⟨w1.heap.size,3,none⟩) (Or.inr (Nat.le_refl _)) (.pointer y1)).setCell (p := ⟨w1.heap.size,4,none⟩) (Or.inr (Nat.le_refl _)) (.pointer y2)).setCell (p := ⟨w1.heap.size,5,none⟩) (Or.inr (Nat.le_refl _)) (.pointer y3)).setCell (p := ⟨w1.heap.size,6,none⟩) (Or.inr (Nat.le_refl _)) (.pointer y4))
  simp at k2
  generalize (((((((w2.setCell ⟨w1.heap.size,0,none⟩ (.pointer (some ⟨r0,0,none⟩))).setCell ⟨w1.heap.size,1,none⟩ (.pointer (some ⟨r1,0,none⟩))).setCell ⟨w1.heap.size,2,none⟩ (.pointer y0)).setCell ⟨w1.heap.size,3,none⟩ (.pointer y1)).setCell ⟨w1.heap.size,4,none⟩ (.pointer y2)).setCell ⟨w1.heap.size,5,none⟩ (.pointer y3)).setCell ⟨w1.heap.size,6,none⟩ (.pointer y4)) = w3 at k2 mm2 ⊢
  have n1 := k2.cell 1
  simp at n1
  go_wp2_with fail
  refine (HN.out _ mm2).mono ?_
  rintro e w4 ⟨rfl,t⟩
  have t2 := t
  have t := mm2.trans t2 (by simp)
  have k5 := Blk.made w4 #[.int .i64 (k : Int),.int .u64 (x : Int)] 128
  have m5 := t.alloc (.cells #[.int .i64 (k : Int),.int .u64 (x : Int)] 128)
  have n0 := ((k2.later t2 (by simp)).alloc (.cells #[.int .i64 (k : Int),.int .u64 (x : Int)] 128)).cell 0
  have n1 := ((k2.later t2 (by simp)).alloc (.cells #[.int .i64 (k : Int),.int .u64 (x : Int)] 128)).cell 1
  simp at n0 n1
  go_upto_region 3 with fail
  generalize w4.alloc (.cells #[.int .i64 (k : Int),.int .u64 (x : Int)] 128) = w5 at k5 m5 n0 n1 ⊢
  have d0 := k5.cell 0
  have d1 := k5.cell 1
  simp at d0 d1
  go_wp2_with fail
  refine (HR.out _ m5).mono ?_
  rintro e w6 (⟨rfl,t6⟩ | ⟨rfl,m6,t6⟩)
  ·
   have T6 := Lib.hid t6
   clear t6
   go_wp2
   exact T6.out
  ·
   have T6 := Lib.hid t6
   clear t6
   have hlt : w1.heap.size < w5.heap.size := World.block_lt_of_cell? _ _ n1
   have hno : ¬ own w1.heap.size := fun h => Nat.lt_irrefl _ (OLT.out _ h)
   have p1 : w6.cell? ⟨w1.heap.size,1,none⟩ = some (.pointer (some ⟨r1,0,none⟩)) := (m6.cell (p := ⟨w1.heap.size,1,none⟩) hlt hno).trans n1
   clear hlt hno
   clear n0 n1 d0 d1
   go_wp2_with fail
   refine T6.out.mono ?_
   rintro e w7 ⟨rfl,t7⟩
   have T7 := Lib.hid t7
   clear t7
   go_wp2
   exact T7.out
end
open Go.RowKit
theorem run_Back (p : Nat) (hp : p < 5) (w : World) : Calls Tryz.prog 102 #[.int .i64 (p : Int)] w fun e w' => e = .returned (.int .i64 (backP (p : Int)))∧w' = w := by
  rcases (show p = 0∨p = 1∨p = 2∨p = 3∨p = 4 by omega) with rfl | rfl | rfl | rfl | rfl <;>
    (go_enter Tryz.func102,Tryz.ntmps102
     go_wp2
     go_ret
     exact ⟨rfl,rfl⟩)
theorem back_is {p : Nat} (hp : p < 5) : ∃ q : Nat,backP (p : Int) = (q : Int)∧q < 5∧(1 ≤ p→1 ≤ q) := by
  rcases (show p = 0∨p = 1∨p = 2∨p = 3∨p = 4 by omega) with rfl | rfl | rfl | rfl | rfl
  · exact ⟨0,rfl,by decide,by decide⟩
  · exact ⟨2,rfl,by decide,by decide⟩
  · exact ⟨1,rfl,by decide,by decide⟩
  · exact ⟨4,rfl,by decide,by decide⟩
  · exact ⟨3,rfl,by decide,by decide⟩
theorem bes_at {c : Cfg} {n p : Int} (h : c.besB n p = true) : ∃ m : Nat,c.besV n p = (m : Int)∧m < c.nodes.toNat := by
  have hv : c.besV n p = (n / c.W + dY p) * c.W + (n % c.W + dX p) := by rw [Cfg.besV,if_pos h]
  simp only [Cfg.besB,Cfg.atB,Bool.and_eq_true,decide_eq_true_eq] at h
  obtain ⟨-,⟨⟨⟨hc,hx⟩,hy⟩,hxW⟩,hyH⟩ := h
  generalize n / c.W + dY p = y at hv hy hyH
  generalize n % c.W + dX p = x at hv hx hxW
  have h0 : 0 ≤ y * c.W := Int.mul_nonneg hy (by omega)
  have h1 : (y + 1) * c.W ≤ c.H * c.W := Int.mul_le_mul_of_nonneg_right (by omega) (by omega)
  rw [Int.add_mul,Int.one_mul,Int.mul_comm c.H] at h1
  have hn : c.nodes = c.W * c.H := by rw [Cfg.nodes,if_pos hc]
  exact ⟨(c.besV n p).toNat,by omega,by omega⟩
theorem link_carry_nil (w : World) :
    Calls Tryz.prog 110 #[.pointer none] w fun e w' => e = .returned (.tuple #[.agg #[.int .i64 0,.int .u64 0],.int .i64 1])∧Mod (fun _ => False) w w' := by
  have kr := Blk.made w #[.int .i64 0,.int .u64 0] 128
  have m0 : Mod (fun _ => False) w (w.alloc (.cells #[.int .i64 0,.int .u64 0] 128)) := (Mod.refl _ _).alloc _
  go_enter Tryz.func110,Tryz.ntmps110
  go_upto_region 1 with fail
  generalize w.alloc (.cells #[.int .i64 0,.int .u64 0] 128) = w1 at kr m0 ⊢
  have r0 := kr.cell 0
  have r1 := kr.cell 1
  simp at r0 r1
  have u0 := kr.fz 0
  have u1 := kr.fz 1
  go_wp2
  have qE := ((kr.set (0) (.int .i64 0)).set (1) (.int .u64 0))
  have mE := ((m0.setCell (p := ⟨w.heap.size,0,none⟩) (Or.inr (Nat.le_refl _)) (.int .i64 0)).setCell (p := ⟨w.heap.size,1,none⟩) (Or.inr (Nat.le_refl _)) (.int .u64 0))
  have mB := (((Mod.refl (fun g => g = w.heap.size) w1).setCell (p := ⟨w.heap.size,0,none⟩) (Or.inl rfl) (.int .i64 0)).setCell (p := ⟨w.heap.size,1,none⟩) (Or.inl rfl) (.int .u64 0))
  simp at qE
  generalize ((w1.setCell ⟨w.heap.size,0,none⟩ (.int .i64 0)).setCell ⟨w.heap.size,1,none⟩ (.int .u64 0)) = wE at qE mE mB ⊢
  have qe0 := qE.cell 0
  have qe1 := qE.cell 1
  simp at qe0 qe1
  exact bodyPost_ret (v := .tuple #[.agg #[.int .i64 0,.int .u64 0],.int .i64 1]) (by simp [results,Tryz.results110,go_sem,qe0,qe1]) rfl ⟨rfl,mE⟩
def LinkS.first (s : LinkS) : Int × Nat := s.words.headD (0,0)
theorem link_carry_all (b L D R : Nat) (s : LinkS) (own : Nat→Prop) (w : World) (h : LinkAt b L D R s w own) (hs : LinkOk L D R s) :
    Calls Tryz.prog 110 #[.pointer (some ⟨b,0,none⟩)] w (CarryPost b L D R own w s.carry s.first (if s.words = [] then 8 else 0)) := by
  rcases hb : s.words with _ | ⟨⟨k,x⟩,ws⟩
  · have e : s.carry = s := by unfold LinkS.carry; rw [hb]
    have e2 : s.first = (0,0) := by unfold LinkS.first; rw [hb]; rfl
    rw [e,e2,if_pos rfl]
    exact link_carry_none b L D R s own w h hb
  · obtain ⟨h0,h1,-⟩ := hs.wl (k,x) (by rw [hb]; exact List.mem_cons_self ..)
    obtain ⟨q,rfl⟩ := Int.eq_ofNat_of_zero_le h0
    have e : s.carry = ⟨s.credits,bump s.far (q : Int) 1,ws,s.back⟩ := by unfold LinkS.carry; rw [hb]
    have e2 : s.first = ((q : Int),x) := by unfold LinkS.first; rw [hb]; rfl
    rw [e,e2,if_neg (by simp)]
    exact link_carry b L D R q x ws s own w h hs (by omega) hb
end Go.Proofs.YtfiklfkfbcpmgaaGreat
