/- Parts: Base Objs Grow Sep Ring RingI. No condition. -/
import Derived.Test.YtfiklfkfbcpmgaaGreatRows
import Derived.WalkKit
import Derived.WalkSpells
import Derived.WalkLawsBesides
import Derived.Deep.QuietTactic
import Derived.BigQuiet
import Derived.Deep.LoopGhost
import Derived.Deep.DeepCutAuto
import Derived.Deep.CutBlock
import Derived.Deep.RegionHeld3
import Derived.Lib.Hide
import Derived.IntWalk
import Derived.Deep.OwnRows
import Derived.StillTailTactics
import Derived.Handy
import Derived.Shelf.Abstract
import Derived.Deep.DeepFit
import Derived.Deep.DeepMust
import Derived.Deep.RegionWith
import Derived.Deep.AppendLies
import Derived.Deep.RegionLaw
import Derived.BigRegion
set_option linter.all false
set_option maxRecDepth 100000
set_option maxHeartbeats 3200000
namespace Go.Proofs.YtfiklfkfbcpmgaaGreat
theorem lyA {α : Type} (l : List α) (i : Nat) (a : α) : l.toArray.setIfInBounds i a = (l.set i a).toArray := List.setIfInBounds_toArray l i a
theorem lyB {α : Type} (x : α) (l : List α) (a : α) : (x :: l).set 0 a = a :: l := List.set_cons_zero
theorem lyC {α : Type} (x : α) (l : List α) (n : Nat) (a : α) : (x :: l).set (n + 1) a = x :: l.set n a := List.set_cons_succ
open Go.RowKit
theorem ret_bool {a b : Bool} (h : a = b) : Ending.returned (.bool a) = .returned (.bool b) := by rw [h]
structure Mod (S : Nat→Prop) (w w' : World) : Prop where
 os : w'.os = w.os
 tape : w'.tape = w.tape
 output : w'.output = w.output
 size : w.heap.size ≤ w'.heap.size
 block : ∀ k,k < w.heap.size→¬ S k→w'.heap[k]? = w.heap[k]?
namespace Mod
variable {S S' : Nat→Prop} {a w w' w'' : World}
theorem refl (S : Nat→Prop) (w : World) : Mod S w w := ⟨rfl,rfl,rfl,Nat.le_refl _,fun _ _ _ => rfl⟩
theorem mono (h : Mod S w w') (hS : ∀ k,k < w.heap.size→S k→S' k) : Mod S' w w' :=
 ⟨h.os,h.tape,h.output,h.size,fun k hk hn => h.block k hk (fun hs => hn (hS k hk hs))⟩
theorem trans (h : Mod S w w') (k : Mod S' w' w'') (hS : ∀ i,i < w.heap.size→S' i→S i) : Mod S w w'' :=
 ⟨k.os.trans h.os,k.tape.trans h.tape,k.output.trans h.output,Nat.le_trans h.size k.size,
  fun i hi hn => (k.block i (Nat.lt_of_lt_of_le hi h.size) (fun hs => hn (hS i hi hs))).trans (h.block i hi hn)⟩
theorem trans' {S1 S2 S : Nat→Prop} (h : Mod S1 w w') (k : Mod S2 w' w'') (h1 : ∀ i,i < w.heap.size→S1 i→S i) (h2 : ∀ i,i < w.heap.size→S2 i→S i) : Mod S w w'' :=
 (h.mono h1).trans k h2
theorem drew (h : Mod S a w) : Mod S a w.drew := ⟨h.os,h.tape,h.output,h.size,h.block⟩
theorem drewN (h : Mod S a w) (n : Nat) : Mod S a (w.drewN n) := ⟨h.os,h.tape,h.output,h.size,h.block⟩
theorem alloc (h : Mod S a w) (o : Obj) : Mod S a (w.alloc o) :=
 ⟨h.os,h.tape,h.output,by have := h.size; simp; omega,fun k hk hn => (Below.heap_alloc _ _ _ (Nat.lt_of_lt_of_le hk h.size)).trans (h.block k hk hn)⟩
theorem setCell (h : Mod S a w) {p : Addr} (hp : S p.block∨a.heap.size ≤ p.block) (u : Value) : Mod S a (w.setCell p u) :=
 ⟨h.os,h.tape,h.output,by have := h.size; simpa using this,fun k hk hn => (Below.heap_setCell _ _ _ _ (fun e => by
  rcases hp with hp | hp
  ·
   exact hn (e ▸ hp)
  ·
   omega)).trans (h.block k hk hn)⟩
theorem cell (h : Mod S w w') {p : Addr} (hp : p.block < w.heap.size) (hn : ¬ S p.block) : w'.cell? p = w.cell? p := World.cell?_of_block (w := w) (h.block p.block hp hn)
theorem frozen (h : Mod S w w') {p : Addr} (hp : p.block < w.heap.size) (hn : ¬ S p.block) : w'.frozen? p = w.frozen? p := World.frozen?_of_block (w := w) (h.block p.block hp hn)
theorem below (h : Mod (fun _ => False) w w') : Below w.heap.size w w' := ⟨h.os,h.tape,h.output,h.size,fun k hk => h.block k hk (fun x => x)⟩
end Mod
def Drw (w w' : World) : Prop := ∃ n,w' = w.drewN n
theorem Drw.refl (w : World) : Drw w w := ⟨0,rfl⟩
theorem Drw.drewN (w : World) (n : Nat) : Drw w (w.drewN n) := ⟨n,rfl⟩
theorem Drw.drew (w : World) : Drw w w.drew := ⟨1,rfl⟩
theorem Drw.trans {a b c : World} (h : Drw a b) (k : Drw b c) : Drw a c := by
 obtain ⟨n,rfl⟩ := h
 obtain ⟨m,rfl⟩ := k
 exact ⟨n + m,by simp [World.drewN,Nat.add_assoc]⟩
theorem Drw.mod {w w' : World} (h : Drw w w') (S : Nat→Prop) : Mod S w w' := by
 obtain ⟨n,rfl⟩ := h
 exact (Mod.refl S w).drewN n
theorem Drw.heap {w w' : World} (h : Drw w w') : w'.heap = w.heap := by obtain ⟨n,rfl⟩ := h; rfl
theorem Drw.cell {w w' : World} (h : Drw w w') (a : Addr) : w'.cell? a = w.cell? a := by obtain ⟨n,rfl⟩ := h; rfl
theorem Drw.frozen {w w' : World} (h : Drw w w') (a : Addr) : w'.frozen? a = w.frozen? a := by obtain ⟨n,rfl⟩ := h; rfl
def SlV (w : World) (v : Value) (xs : List Value) : Prop :=
 ∃ a n c,v = .slice a n c∧xs.length = n∧n ≤ c∧c ≤ maxLen∧(xs = []∨∃ B off,a = some ⟨B,off,none⟩∧B < w.heap.size∧∀ j,j < xs.length→w.cell? ⟨B,off + j,none⟩ = some (xs.getD j undef))
theorem SlV.new {w : World} {xs : List Value} (t : TypeId) (c : Nat) (cs : Array Value) (hcs : cs = xs.toArray) (n : Nat) (hn : xs.length = n) (hc : n ≤ c := by decide) (hm : c ≤ maxLen := by decide) : SlV (w.alloc (.cells cs t)) (.slice (some ⟨w.heap.size,0,none⟩) n c) xs := by
 refine ⟨_,_,c,rfl,hn,hc,hm,Or.inr ⟨w.heap.size,0,rfl,by simp,fun j hj => ?_⟩⟩
 subst hcs
 rw [Nat.zero_add,World.cell?_alloc_new]
 simp [List.getD_eq_getElem?_getD,hj]
theorem SlV.at {w : World} {a : Option Addr} {n c : Nat} {xs : List Value} (h : SlV w (.slice a n c) xs) (i : Nat) (hi : i < n) :
  ∃ B off,a = some ⟨B,off,none⟩∧B < w.heap.size∧w.cell? ⟨B,off + i,none⟩ = some (xs.getD i undef) := by
 obtain ⟨a',n',c',hv,hn,_,_,h⟩ := h
 simp only [Value.slice.injEq] at hv
 obtain ⟨rfl,rfl,rfl⟩ := hv
 rcases h with rfl | ⟨B,off,ha,hB,h⟩
 ·
  simp at hn; omega
 ·
  exact ⟨B,off,ha,hB,h i (by omega)⟩
theorem SlV.later {w w' : World} {v : Value} {xs : List Value} (h : SlV w v xs) {S : Nat→Prop} (hm : Mod S w w') (hS : ∀ a n c,v = .slice (some a) n c→¬ S a.block) : SlV w' v xs := by
 obtain ⟨a,n,c,hv,hn,hc,hm',h⟩ := h
 refine ⟨a,n,c,hv,hn,hc,hm',?_⟩
 rcases h with h | ⟨B,off,ha,hB,h⟩
 ·
  exact Or.inl h
 ·
  refine Or.inr ⟨B,off,ha,Nat.lt_of_lt_of_le hB hm.size,fun j hj => ?_⟩
  rw [hm.cell (p := ⟨B,off + j,none⟩) hB (hS ⟨B,off,none⟩ _ _ (by rw [hv,ha]))]
  exact h j hj
theorem Mod.grown {a w w' : World} {S : Nat→Prop} {row : Option Nat} (h : Mod S a w) (hg : w.grownBy w' row) (hr : ∀ k,row = some k→S k∨a.heap.size ≤ k) : Mod S a w' :=
 ⟨hg.os.trans h.os,hg.tape.trans h.tape,hg.output.trans h.output,Nat.le_trans h.size hg.size,fun k hk hn =>
  (hg.block k (Nat.lt_of_lt_of_le hk h.size) (fun e => by
   rcases hr k e.symm with h1 | h1
   ·
    exact hn h1
   ·
    omega)).trans (h.block k hk hn)⟩
theorem SlV.own {w : World} {base : Nat} {e : TypeId} {v : Value} {n : Nat} {xs : List Value} (h : w.ownsRow base e 1 v n xs) : SlV w v xs := by
 obtain ⟨hl,h⟩ := h
 rcases h with ⟨rfl,rfl⟩ | ⟨g,cap,cur,rfl,hb,hh,hc,hm,hs,ht⟩
 ·
  exact ⟨_,_,_,rfl,by simpa using hl,Nat.le_refl _,by decide,Or.inl (by simpa using hl)⟩
 ·
  have hg : g < w.heap.size := by
   obtain ⟨hlt,_⟩ := Array.getElem?_eq_some_iff.1 hh
   exact hlt
  refine ⟨_,_,_,rfl,by omega,hc,hm,Or.inr ⟨g,0,rfl,hg,fun j hj => ?_⟩⟩
  have hj' : j < n := by omega
  simp only [World.cell?,hh,Nat.zero_add,Option.isSome_none,Bool.false_eq_true,if_false]
  rw [← ht,List.getD_eq_getElem?_getD,List.getElem?_take,if_pos (by omega),← Array.getElem?_toList]
  rw [List.getElem?_eq_getElem (by simp; omega)]
  rfl
theorem wpList_append1 {P : Program} {ops : Array Oper} {rest : List Oper} {o : Oper} {a : Act} {Q : Exit→Act→World→Prop} {w : World} (hgd : o.guard = none) (s x : Operand) (t : TypeId)
  (ho : o.op = .call { callee := .builtin .append,args := #[s,x],argTypes := #[t,t] })
  (base : Nat) (e : TypeId) (z : Value) (bytes : Nat) (ht : P.underlying t = some (.slice e)) (hinfo : (P.info? e).map (fun i => (i.zero,i.size,i.bytes)) = some (some z,1,bytes)) (hzs : z.cells.size = 1)
  (v : Value) (n : Nat) (xs : List Value) (hs : a.eval s = v) (hown : w.ownsRow base e 1 v n xs) (xv : Value)
  (hx : a.eval x = .slice (some ⟨w.heap.size,0,none⟩) 1 1) (h1 : xv.oneCell' = true)
  (h63 : n + 1 ≤ maxLen) (hbytes : (n + 1) * bytes ≤ 140737488355328) (hbase : base ≤ w.heap.size)
  (h : ∀ v' w',w'.ownsRow base e 1 v' (n + 1) (xs ++ [xv])→Mod (fun k => v.ownBlock = some k) w w'→wpList P ops Q rest (a.put o.dst v') w') :
  wpList P ops Q (o :: rest) a (w.alloc (.cells #[xv] e)) := by
 obtain ⟨i,hi,hz,hsize,hby⟩ := info_parts hinfo
 refine wpList_append_own _ hgd s x t ho base e i z 1 bytes ht hi hz hsize hby hzs (by decide) v n xs hs (hown.alloc _) ⟨w.heap.size,0,none⟩ 1 1 [xv] hx rfl ?_ ?_ h63 hbytes (by simp; omega) ?_
 ·
  intro j u hj
  match j,hj with
  | 0,hj => simp at hj; subst hj; simp [Addr.add]
 ·
  intro u hu
  simp at hu; subst hu; exact h1
 ·
  intro v' w' hown' hg _
  exact h v' w' hown' (((Mod.refl _ w).alloc _).grown hg (fun k hk => Or.inl hk))
open Go.RowKit
structure Stable (X : World→(Nat→Prop)→Prop) : Prop where
 later : ∀ {w w' : World} {o S : Nat→Prop},X w o→Mod S w w'→(∀ g,o g→¬ S g)→X w' o
 lt : ∀ {w : World} {o : Nat→Prop} {g : Nat},X w o→o g→g < w.heap.size
def Pair (P : Nat→Prop) (A B : World→(Nat→Prop)→Prop) (w : World) : Prop :=
 ∃ oa ob,A w oa∧B w ob∧(∀ g,oa g→¬ ob g)∧∀ g,P g→g < w.heap.size∧¬ oa g∧¬ ob g
def Turn (o : Nat→Prop) (X' : World→(Nat→Prop)→Prop) (w w' : World) : Prop :=
 ∃ o',X' w' o'∧Mod o w w'∧∀ g,o' g→o g∨w.heap.size ≤ g
theorem Pair.left {P : Nat→Prop} {A B A' : World→(Nat→Prop)→Prop} {w w' : World} (hB : Stable B) {oa ob : Nat→Prop} (ha : A w oa) (hb : B w ob) (hd : ∀ g,oa g→¬ ob g) (hp : ∀ g,P g→g < w.heap.size∧¬ oa g∧¬ ob g) (t : Turn oa A' w w') : Pair P A' B w'∧Mod (fun g => ¬ P g) w w' := by
 obtain ⟨o',hx,m,ho⟩ := t
 refine ⟨⟨o',ob,hx,hB.later hb m (fun g hg ha => hd g ha hg),fun g hg hbg => ?_,fun g hg => ?_⟩,m.mono (fun g _ ha hpg => (hp g hpg).2.1 ha)⟩
 ·
  rcases ho g hg with h | h
  ·
   exact hd g h hbg
  ·
   have := hB.lt hb hbg
   omega
 ·
  obtain ⟨h1,h2,h3⟩ := hp g hg
  refine ⟨Nat.lt_of_lt_of_le h1 m.size,fun h => ?_,h3⟩
  rcases ho g h with h | h
  ·
   exact h2 h
  ·
   omega
theorem Pair.swap {P : Nat→Prop} {A B : World→(Nat→Prop)→Prop} {w : World} (h : Pair P A B w) : Pair P B A w := by
 obtain ⟨oa,ob,ha,hb,hd,hp⟩ := h
 exact ⟨ob,oa,hb,ha,fun g hg hag => hd g hag hg,fun g hg => ⟨(hp g hg).1,(hp g hg).2.2,(hp g hg).2.1⟩⟩
theorem Pair.later {P : Nat→Prop} {A B : World→(Nat→Prop)→Prop} {w w' : World} (hA : Stable A) (hB : Stable B) (h : Pair P A B w) (m : Mod (fun _ => False) w w') : Pair P A B w' := by
 obtain ⟨oa,ob,ha,hb,hd,hp⟩ := h
 exact ⟨oa,ob,hA.later ha m (by simp),hB.later hb m (by simp),hd,fun g hg => ⟨Nat.lt_of_lt_of_le (hp g hg).1 m.size,(hp g hg).2⟩⟩
theorem Pair.more {P P' S : Nat→Prop} {A B : World→(Nat→Prop)→Prop} {w w' : World} (hA : Stable A) (hB : Stable B) (h : Pair P A B w) (m : Mod S w w') (hS : ∀ g,S g→P g) (hP : ∀ g,P' g→P g∨(w.heap.size ≤ g∧g < w'.heap.size)) : Pair P' A B w' := by
 obtain ⟨oa,ob,ha,hb,hd,hp⟩ := h
 refine ⟨oa,ob,hA.later ha m (fun g hg hs => (hp g (hS g hs)).2.1 hg),hB.later hb m (fun g hg hs => (hp g (hS g hs)).2.2 hg),hd,fun g hg => ?_⟩
 rcases hP g hg with h | ⟨h1,h2⟩
 ·
  exact ⟨Nat.lt_of_lt_of_le (hp g h).1 m.size,(hp g h).2⟩
 ·
  exact ⟨h2,fun h => by have := hA.lt ha h; omega,fun h => by have := hB.lt hb h; omega⟩
theorem Pair.less {P P' : Nat→Prop} {A B : World→(Nat→Prop)→Prop} {w : World} (h : Pair P' A B w) (hP : ∀ g,P g→P' g) : Pair P A B w := by
 obtain ⟨oa,ob,ha,hb,hd,hp⟩ := h
 exact ⟨oa,ob,ha,hb,hd,fun g hg => hp g (hP g hg)⟩
open Go.RowKit
def Blk (w : World) (b : Nat) (cs : Array Value) (t : TypeId) : Prop := w.heap[b]? = some (.cells cs t (0,0))
namespace Blk
variable {w w' : World} {b : Nat} {cs : Array Value} {t : TypeId}
theorem made (w : World) (cs : Array Value) (t : TypeId) : Blk (w.alloc (.cells cs t)) w.heap.size cs t := heap_alloc_new w _
theorem lt (h : Blk w b cs t) : b < w.heap.size := by
 obtain ⟨hlt,_⟩ := Array.getElem?_eq_some_iff.1 h
 exact hlt
theorem later (h : Blk w b cs t) {S : Nat→Prop} (m : Mod S w w') (hS : ¬ S b) : Blk w' b cs t := (m.block b h.lt hS).trans h
theorem alloc (h : Blk w b cs t) (o : Obj) : Blk (w.alloc o) b cs t := (Below.heap_alloc _ _ _ h.lt).trans h
theorem drew (h : Blk w b cs t) : Blk w.drew b cs t := h
theorem drewN (h : Blk w b cs t) (n : Nat) : Blk (w.drewN n) b cs t := h
theorem cell (h : Blk w b cs t) (i : Nat) : w.cell? ⟨b,i,none⟩ = cs[i]? := by
 simp only [Blk] at h
 simp [World.cell?,h]
theorem fz (h : Blk w b cs t) (i : Nat) : w.frozen? ⟨b,i,none⟩ = false := by
 simp only [Blk] at h
 simp [World.frozen?,h]
theorem set (h : Blk w b cs t) (i : Nat) (v : Value) : Blk (w.setCell ⟨b,i,none⟩ v) b (cs.setIfInBounds i v) t := by
 simp only [Blk] at h ⊢
 simp [World.setCell,Array.getElem?_modify,h]
theorem setOther (h : Blk w b cs t) {a : Addr} (ha : b ≠ a.block) (v : Value) : Blk (w.setCell a v) b cs t := (Below.heap_setCell _ _ _ _ ha).trans h
end Blk
section
variable {P : Program} {ops : Array Oper} {rest : List Oper} {o : Oper} {a : Act} {Q : Exit→Act→World→Prop} {w : World}
theorem wpList_appendE (hgd : o.guard = none) (s x : Operand) (t : TypeId)
  (ho : o.op = .call { callee := .builtin .append,args := #[s,x],argTypes := #[t,t] })
  (base : Nat) (e : TypeId) (z : Value) (size bytes : Nat) (ht : P.underlying t = some (.slice e)) (hinfo : (P.info? e).map (fun i => (i.zero,i.size,i.bytes)) = some (some z,size,bytes)) (hzs : z.cells.size = size) (hsz : 0 < size)
  (v : Value) (n : Nat) (xs : List Value) (hs : a.eval s = v) (hown : w.ownsRow base e size v n xs) (cs : Array Value) (hcs : cs.size = size)
  (hx : a.eval x = .slice (some ⟨w.heap.size,0,none⟩) 1 1) (h1 : ∀ u ∈ cs.toList,u.oneCell' = true)
  (h63 : n + 1 ≤ maxLen) (hbytes : (n + 1) * bytes ≤ 140737488355328) (hbase : base ≤ w.heap.size)
  (h : ∀ g cap w',w'.ownsRow base e size (.slice (some ⟨g,0,none⟩) (n + 1) cap) (n + 1) (xs ++ cs.toList)→Mod (fun k => v.ownBlock = some k) w w'→(v.ownBlock = some g∨w.heap.size < g) →
   wpList P ops Q rest (a.put o.dst (.slice (some ⟨g,0,none⟩) (n + 1) cap)) w') :
  wpList P ops Q (o :: rest) a (w.alloc (.cells cs e)) := by
 obtain ⟨i,hi,hz,hsize,hby⟩ := info_parts hinfo
 refine wpList_append_lies (w.alloc (.cells cs e)) hgd s x t ho base e i z size bytes ht hi hz hsize hby hzs hsz v n xs hs (hown.alloc _) ⟨w.heap.size,0,none⟩ 1 1 cs.toList hx (by simp [hcs]) ?_ h1 (by decide) h63 hbytes (by simp; omega) (w.heap.size + 1) (by simp) ?_
 ·
  exact World.news_of_block (cs := cs) (t := e) (fr := (0,0)) (heap_alloc_new w _)
 ·
  intro g cap w' hown' hg hat _
  exact h g cap w' hown' (((Mod.refl _ w).alloc _).grown hg (fun k hk => Or.inl hk)) (hat.imp id (fun h => by omega))
end
open Go.RowKit
abbrev Rep := World→(Nat→Prop)→Prop
theorem Turn.mod {o : Nat→Prop} {X : Rep} {w w' : World} (h : Turn o X w w') : Mod o w w' := by
 obtain ⟨o',hx,m,ho⟩ := h
 exact m
theorem Turn.same {o : Nat→Prop} {X : Rep} (hX : Stable X) {w w' : World} (h : X w o) (m : Mod (fun _ => False) w w') : Turn o X w w' :=
 ⟨o,hX.later h m (by simp),m.mono (fun _ _ e => e.elim),fun g hg => Or.inl hg⟩
theorem Turn.weak {o : Nat→Prop} {X Y : Rep} {w w' : World} (h : Turn o X w w') (hXY : ∀ o',X w' o'→Y w' o') : Turn o Y w w' := by
 obtain ⟨o',hx,m,ho⟩ := h
 exact ⟨o',hXY o' hx,m,ho⟩
theorem Turn.andThen {o : Nat→Prop} {X Y : Rep} {w w1 w2 : World} (h : Turn o X w w1) (k : ∀ o1,X w1 o1→Turn o1 Y w1 w2) (hlt : ∀ g,o g→g < w.heap.size) : Turn o Y w w2 := by
 obtain ⟨o1,hx,m,ho⟩ := h
 obtain ⟨o2,hy,m2,ho2⟩ := k o1 hx
 refine ⟨o2,hy,⟨m2.os.trans m.os,m2.tape.trans m.tape,m2.output.trans m.output,Nat.le_trans m.size m2.size,fun i hi hn => ?_⟩,fun g hg => ?_⟩
 ·
  refine (m2.block i (Nat.lt_of_lt_of_le hi m.size) (fun h1 => ?_)).trans (m.block i hi hn)
  rcases ho i h1 with h2 | h2
  ·
   exact hn h2
  ·
   omega
 ·
  rcases ho2 g hg with h2 | h2
  ·
   exact ho g h2
  ·
   exact Or.inr (Nat.le_trans m.size h2)
theorem Turn.before {o : Nat→Prop} {X : Rep} {w w1 w2 : World} (m : Mod (fun _ => False) w w1) (h : Turn o X w1 w2) : Turn o X w w2 := by
 obtain ⟨o',hx,m2,ho⟩ := h
 exact ⟨o',hx,(m.mono (fun _ _ e => e.elim)).trans m2 (fun _ _ e => e),fun g hg => (ho g hg).imp id (fun e => Nat.le_trans m.size e)⟩
theorem Turn.behind {o : Nat→Prop} {X : Rep} (hX : Stable X) {w w1 w2 : World} (h : Turn o X w w1) (m : Mod (fun _ => False) w1 w2) : Turn o X w w2 := by
 obtain ⟨o',hx,m2,ho⟩ := h
 exact ⟨o',hX.later hx m (by simp),m2.trans m (fun _ _ e => e.elim),ho⟩
def Made (X : Rep) (w w' : World) : Prop := ∃ own,X w' own∧Mod (fun _ => False) w w'∧∀ k,own k→w.heap.size ≤ k
def Sep (A B : Rep) : Rep := fun w o => ∃ oa ob,A w oa∧B w ob∧(∀ g,oa g→¬ ob g)∧∀ g,o g ↔ oa g∨ob g
theorem Sep.stable {A B : Rep} (hA : Stable A) (hB : Stable B) : Stable (Sep A B) where
 later := by
  rintro w w' o S ⟨oa,ob,ha,hb,hd,ho⟩ m hS
  exact ⟨oa,ob,hA.later ha m (fun g hg => hS g ((ho g).2 (Or.inl hg))),hB.later hb m (fun g hg => hS g ((ho g).2 (Or.inr hg))),hd,ho⟩
 lt := by
  rintro w o g ⟨oa,ob,ha,hb,hd,ho⟩ hg
  rcases (ho g).1 hg with h | h
  ·
   exact hA.lt ha h
  ·
   exact hB.lt hb h
theorem Sep.swap {A B : Rep} {w : World} {o : Nat→Prop} (h : Sep A B w o) : Sep B A w o := by
 obtain ⟨oa,ob,ha,hb,hd,ho⟩ := h
 exact ⟨ob,oa,hb,ha,fun g h1 h2 => hd g h2 h1,fun g => by rw [ho g]; exact Or.comm⟩
theorem Sep.left {A B A' : Rep} {w w' : World} {o oa ob : Nat→Prop} (hB : Stable B) (hb : B w ob) (hd : ∀ g,oa g→¬ ob g) (ho : ∀ g,o g ↔ oa g∨ob g) (t : Turn oa A' w w') : Turn o (Sep A' B) w w' := by
 obtain ⟨o',hx,m,hn⟩ := t
 refine ⟨fun g => o' g∨ob g,⟨o',ob,hx,hB.later hb m (fun g hg h => hd g h hg),fun g h1 h2 => ?_,fun g => Iff.rfl⟩,m.mono (fun g _ h => (ho g).2 (Or.inl h)),fun g hg => ?_⟩
 ·
  rcases hn g h1 with h | h
  ·
   exact hd g h h2
  ·
   have := hB.lt hb h2
   omega
 ·
  rcases hg with hg | hg
  ·
   exact (hn g hg).imp (fun h => (ho g).2 (Or.inl h)) id
  ·
   exact Or.inl ((ho g).2 (Or.inr hg))
theorem Sep.right {A B B' : Rep} {w w' : World} {o oa ob : Nat→Prop} (hA : Stable A) (ha : A w oa) (hd : ∀ g,oa g→¬ ob g) (ho : ∀ g,o g ↔ oa g∨ob g) (t : Turn ob B' w w') : Turn o (Sep A B') w w' := by
 have := Sep.left (A := B) (o := o) hA ha (fun g h1 h2 => hd g h2 h1) (fun g => by rw [ho g]; exact Or.comm) t
 exact this.weak (fun o' h => h.swap)
def Fam {ι : Type} (X : ι→Rep) : Rep := fun w o => ∃ f : ι→Nat→Prop,(∀ i,X i w (f i))∧(∀ i j g,f i g→f j g→i = j)∧∀ g,o g ↔ ∃ i,f i g
theorem Fam.stable {ι : Type} {X : ι→Rep} (h : ∀ i,Stable (X i)) : Stable (Fam X) where
 later := by
  rintro w w' o S ⟨f,hx,hd,ho⟩ m hS
  exact ⟨f,fun i => (h i).later (hx i) m (fun g hg => hS g ((ho g).2 ⟨i,hg⟩)),hd,ho⟩
 lt := by
  rintro w o g ⟨f,hx,hd,ho⟩ hg
  obtain ⟨i,hi⟩ := (ho g).1 hg
  exact (h i).lt (hx i) hi
theorem Fam.at {ι : Type} [DecidableEq ι] {X : ι→Rep} (hst : ∀ i,Stable (X i)) {w : World} {o : Nat→Prop} (h : Fam X w o) (i : ι) :
  ∃ oi : Nat→Prop,X i w oi∧(∀ g,oi g→o g)∧∀ (X' : ι→Rep) (w' : World),(∀ j,j ≠ i→X' j = X j)→Turn oi (X' i) w w'→Turn o (Fam X') w w' := by
 obtain ⟨f,hx,hd,ho⟩ := h
 refine ⟨f i,hx i,fun g hg => (ho g).2 ⟨i,hg⟩,fun X' w' hX' t => ?_⟩
 obtain ⟨o',ht,m,hn⟩ := t
 refine ⟨fun g => ∃ j,(if j = i then o' else f j) g,⟨fun j => if j = i then o' else f j,fun j => ?_,fun j k g h1 h2 => ?_,fun g => Iff.rfl⟩,m.mono (fun g _ h => (ho g).2 ⟨i,h⟩),fun g hg => ?_⟩
 ·
  by_cases hj : j = i
  ·
   subst hj
   simp only [if_true]
   exact ht
  ·
   simp only [if_neg hj]
   rw [hX' j hj]
   exact (hst j).later (hx j) m (fun g h1 h2 => hj (hd j i g h1 h2))
 ·
  by_cases hj : j = i <;> by_cases hk : k = i
  ·
   rw [hj,hk]
  ·
   simp only [if_pos hj] at h1
   simp only [if_neg hk] at h2
   rcases hn g h1 with h | h
   ·
    exact absurd (hd i k g h h2).symm hk
   ·
    have := (hst k).lt (hx k) h2
    omega
  ·
   simp only [if_neg hj] at h1
   simp only [if_pos hk] at h2
   rcases hn g h2 with h | h
   ·
    exact absurd (hd i j g h h1).symm hj
   ·
    have := (hst j).lt (hx j) h1
    omega
  ·
   simp only [if_neg hj] at h1
   simp only [if_neg hk] at h2
   exact hd j k g h1 h2
 ·
  obtain ⟨j,hj⟩ := hg
  by_cases hji : j = i
  ·
   simp only [if_pos hji] at hj
   exact (hn g hj).imp (fun h => (ho g).2 ⟨i,h⟩) id
  ·
   simp only [if_neg hji] at hj
   exact Or.inl ((ho g).2 ⟨j,hj⟩)
def Emp : Rep := fun _ o => ∀ g,¬ o g
theorem Emp.stable : Stable Emp := ⟨fun h _ _ => h,fun h hg => absurd hg (h _)⟩
def Cells (b : Nat) (cs : Array Value) (t : TypeId) : Rep := fun w o => Blk w b cs t∧∀ g,o g ↔ g = b
theorem Cells.stable (b : Nat) (cs : Array Value) (t : TypeId) : Stable (Cells b cs t) :=
 ⟨fun h m hS => ⟨h.1.later m (hS _ ((h.2 _).2 rfl)),h.2⟩,fun h hg => by rw [(h.2 _).1 hg]; exact h.1.lt⟩
open Go.RowKit
def putRow (cs : Array Value) (b : Nat) : List Value→Array Value
 | [] => cs
 | v :: vs => putRow (cs.setIfInBounds b v) (b + 1) vs
theorem putRow_size (vs : List Value) : ∀ (cs : Array Value) (b : Nat),(putRow cs b vs).size = cs.size := by
 induction vs with
 | nil => intro cs b; rfl
 | cons v vs ih => intro cs b; rw [putRow,ih]; simp
theorem putRow_out (vs : List Value) : ∀ (cs : Array Value) (b k : Nat),k < b∨b + vs.length ≤ k→(putRow cs b vs)[k]? = cs[k]? := by
 induction vs with
 | nil => intro cs b k h; rfl
 | cons v vs ih =>
  intro cs b k h
  rw [List.length_cons] at h
  rw [putRow,ih _ _ _ (by omega),Array.getElem?_setIfInBounds_ne (by omega)]
theorem putRow_in (vs : List Value) : ∀ (cs : Array Value) (b t : Nat),t < vs.length→b + vs.length ≤ cs.size→(putRow cs b vs)[b + t]? = vs[t]? := by
 induction vs with
 | nil => intro cs b t h; simp at h
 | cons v vs ih =>
  intro cs b t h hs
  rw [List.length_cons] at h hs
  rw [putRow]
  cases t with
  | zero =>
   rw [putRow_out _ _ _ _ (by omega),Nat.add_zero,Array.getElem?_setIfInBounds_self_of_lt (by omega)]
   rfl
  | succ t =>
   rw [show b + (t + 1) = b + 1 + t by omega,ih _ _ _ (by omega) (by simp; omega)]
   rfl
section
variable {α : Type} (enc : α→List Value) (sz : Nat)
structure RingOk (n a : Nat) (cs : Array Value) (l : List α) : Prop where
 n1 : 1 ≤ n
 n2 : n ≤ 4096
 an : a < n
 ln : l.length ≤ n
 csz : cs.size = n * sz
 at' : ∀ j x,l[j]? = some x→∀ t,t < sz→cs[(a + j) % n * sz + t]? = (enc x)[t]?
variable {enc : α→List Value} {sz : Nat}
theorem place_lt {p n sz t : Nat} (hp : p < n) (ht : t < sz) : p * sz + t < n * sz := by
 have : p * sz + sz ≤ n * sz := by
  rw [← Nat.succ_mul]
  exact Nat.mul_le_mul_right _ hp
 omega
theorem place_ne {p q sz t : Nat} (h : p ≠ q) (ht : t < sz) : p * sz + t < q * sz∨q * sz + sz ≤ p * sz + t := by
 rcases Nat.lt_or_gt_of_ne h with h | h
 ·
  left
  have : p * sz + sz ≤ q * sz := by
   rw [← Nat.succ_mul]
   exact Nat.mul_le_mul_right _ h
  omega
 ·
  right
  have : q * sz + sz ≤ p * sz := by
   rw [← Nat.succ_mul]
   exact Nat.mul_le_mul_right _ h
  omega
theorem mod_ne {a i j n : Nat} (hi : i < n) (hj : j < n) (h : i ≠ j) : (a + i) % n ≠ (a + j) % n := by
 intro e
 apply h
 have h1 := Nat.div_add_mod (a + i) n
 have h2 := Nat.div_add_mod (a + j) n
 rcases Nat.lt_trichotomy ((a + i) / n) ((a + j) / n) with hh | hh | hh
 ·
  have : n * ((a + i) / n) + n ≤ n * ((a + j) / n) := by
   rw [← Nat.mul_succ]
   exact Nat.mul_le_mul_left _ hh
  omega
 ·
  rw [hh] at h1
  omega
 ·
  have : n * ((a + j) / n) + n ≤ n * ((a + i) / n) := by
   rw [← Nat.mul_succ]
   exact Nat.mul_le_mul_left _ hh
  omega
theorem RingOk.push {n a : Nat} {cs : Array Value} {l : List α} (h : RingOk enc sz n a cs l) (hl : l.length < n) (x : α) (hx : (enc x).length = sz) :
  RingOk enc sz n a (putRow cs ((a + l.length) % n * sz) (enc x)) (l ++ [x]) := by
 have hn : 0 < n := h.n1
 have hb : (a + l.length) % n * sz + sz ≤ cs.size := by
  rw [h.csz,← Nat.succ_mul]
  exact Nat.mul_le_mul_right _ (Nat.mod_lt _ hn)
 refine ⟨h.n1,h.n2,h.an,by simp; omega,by rw [putRow_size]; exact h.csz,fun j y hy t ht => ?_⟩
 rcases Nat.lt_or_ge j l.length with hj | hj
 ·
  rw [List.getElem?_append_left hj] at hy
  rw [putRow_out,h.at' j y hy t ht]
  rw [hx]
  exact place_ne (mod_ne (by omega) hl (by omega)) ht
 ·
  have hjl : j = l.length := by
   have := (List.getElem?_eq_some_iff.1 hy).1
   simp at this
   omega
  subst hjl
  simp at hy
  subst hy
  rw [putRow_in _ _ _ _ (by omega) (by omega)]
theorem RingOk.pop {n a : Nat} {cs : Array Value} {x : α} {l : List α} (h : RingOk enc sz n a cs (x :: l)) (vs : List Value) (hv : vs.length = sz) :
  RingOk enc sz n ((a + 1) % n) (putRow cs (a * sz) vs) l := by
 have hn : 0 < n := h.n1
 have hll := h.ln
 rw [List.length_cons] at hll
 refine ⟨h.n1,h.n2,Nat.mod_lt _ hn,by omega,by rw [putRow_size]; exact h.csz,fun j y hy t ht => ?_⟩
 have hj := (List.getElem?_eq_some_iff.1 hy).1
 have e : ((a + 1) % n + j) % n = (a + (j + 1)) % n := by
  rw [Nat.mod_add_mod]
  congr 1
  omega
 rw [e,putRow_out,h.at' (j + 1) y (by simpa using hy) t ht]
 have := mod_ne (a := a) (i := j + 1) (j := 0) (n := n) (by omega) hn (by omega)
 have e0 : (a + 0) % n = a := Nat.mod_eq_of_lt h.an
 rw [e0] at this
 rw [hv]
 exact place_ne this ht
theorem RingOk.head {n a : Nat} {cs : Array Value} {x : α} {l : List α} (h : RingOk enc sz n a cs (x :: l)) (t : Nat) (ht : t < sz) : cs[a * sz + t]? = (enc x)[t]? := by
 have := h.at' 0 x rfl t ht
 rwa [Nat.add_zero,Nat.mod_eq_of_lt h.an] at this
theorem RingOk.lt {n a : Nat} {cs : Array Value} {l : List α} (h : RingOk enc sz n a cs l) {p t : Nat} (hp : p < n) (ht : t < sz) : p * sz + t < cs.size := by
 rw [h.csz]
 exact place_lt hp ht
structure RingIn (T TR : TypeId) (w : World) (r g n : Nat) (i o : Int) (a : Nat) (laid : Bool) (cs : Array Value) : Prop where
 blk : Blk w r #[.slice (some ⟨g,0,none⟩) n n,.int .u32 i,.int .u32 o,.int .i64 (a : Int),.bool laid] TR
 row : Blk w g cs T
 ne : r ≠ g
 i0 : 0 ≤ i∧i < 4294967296
 o0 : 0 ≤ o∧o < 4294967296
variable {T TR : TypeId} {w : World} {r g n : Nat} {i o : Int} {a : Nat} {laid : Bool} {cs : Array Value}
theorem RingIn.later {w' : World} (h : RingIn T TR w r g n i o a laid cs) {S : Nat→Prop} (m : Mod S w w') (hr : ¬ S r) (hg : ¬ S g) : RingIn T TR w' r g n i o a laid cs :=
 ⟨h.blk.later m hr,h.row.later m hg,h.ne,h.i0,h.o0⟩
theorem RingIn.cells (h : RingIn T TR w r g n i o a laid cs) :
  w.cell? ⟨r,0,none⟩ = some (.slice (some ⟨g,0,none⟩) n n)∧w.cell? ⟨r,1,none⟩ = some (.int .u32 i)∧w.cell? ⟨r,2,none⟩ = some (.int .u32 o)∧w.cell? ⟨r,3,none⟩ = some (.int .i64 (a : Int))∧w.cell? ⟨r,4,none⟩ = some (.bool laid) := by
 have hb := h.blk
 refine ⟨?_,?_,?_,?_,?_⟩ <;> (rw [hb.cell]; rfl)
theorem RingIn.setRow (h : RingIn T TR w r g n i o a laid cs) (b : Nat) (v : Value) : RingIn T TR (w.setCell ⟨g,b,none⟩ v) r g n i o a laid (cs.setIfInBounds b v) := by
 have hne := h.ne
 exact ⟨h.blk.setOther hne v,h.row.set b v,h.ne,h.i0,h.o0⟩
theorem RingIn.setLaid (h : RingIn T TR w r g n i o a laid cs) (x : Bool) : RingIn T TR (w.setCell ⟨r,4,none⟩ (.bool x)) r g n i o a x cs := by
 have hne := h.ne
 refine ⟨?_,h.row.setOther (fun e => hne e.symm) _,h.ne,h.i0,h.o0⟩
 have := h.blk.set 4 (.bool x)
 simpa using this
theorem RingIn.setI (h : RingIn T TR w r g n i o a laid cs) (x : Int) (hx : 0 ≤ x∧x < 4294967296) : RingIn T TR (w.setCell ⟨r,1,none⟩ (.int .u32 x)) r g n x o a laid cs := by
 have hne := h.ne
 refine ⟨?_,h.row.setOther (fun e => hne e.symm) _,h.ne,hx,h.o0⟩
 have := h.blk.set 1 (.int .u32 x)
 simpa using this
theorem RingIn.setO (h : RingIn T TR w r g n i o a laid cs) (x : Int) (hx : 0 ≤ x∧x < 4294967296) : RingIn T TR (w.setCell ⟨r,2,none⟩ (.int .u32 x)) r g n i x a laid cs := by
 have hne := h.ne
 refine ⟨?_,h.row.setOther (fun e => hne e.symm) _,h.ne,h.i0,hx⟩
 have := h.blk.set 2 (.int .u32 x)
 simpa using this
theorem RingIn.setA (h : RingIn T TR w r g n i o a laid cs) (x : Nat) : RingIn T TR (w.setCell ⟨r,3,none⟩ (.int .i64 (x : Int))) r g n i o x laid cs := by
 have hne := h.ne
 refine ⟨?_,h.row.setOther (fun e => hne e.symm) _,h.ne,h.i0,h.o0⟩
 have := h.blk.set 3 (.int .i64 (x : Int))
 simpa using this
def RingAt (enc : α→List Value) (sz : Nat) (T TR : TypeId) (r n : Nat) (l : List α) : Rep := fun w own =>
 ∃ (g : Nat) (i o : Int) (a : Nat) (cs : Array Value),RingIn T TR w r g n i o a false cs∧RingOk enc sz n a cs l∧(i - o) % 4294967296 = l.length∧∀ k,own k ↔ k = r∨k = g
theorem RingAt.stable (enc : α→List Value) (sz : Nat) (T TR : TypeId) (r n : Nat) (l : List α) : Stable (RingAt enc sz T TR r n l) where
 later := by
  rintro w w' own S ⟨g,i,o,a,cs,h,hk,hl,ho⟩ m hS
  exact ⟨g,i,o,a,cs,h.later m (hS _ ((ho _).2 (Or.inl rfl))) (hS _ ((ho _).2 (Or.inr rfl))),hk,hl,ho⟩
 lt := by
  rintro w own k ⟨g,i,o,a,cs,h,hk,hl,ho⟩ hk2
  rcases (ho k).1 hk2 with rfl | rfl
  ·
   exact h.blk.lt
  ·
   exact h.row.lt
end
def encI (x : Int) : List Value := [.int .i64 x]
def encW (x : Nat) : List Value := [.int .u64 (x : Int)]
def encC (x : Int × Nat) : List Value := [.int .i64 x.1,.int .u64 (x.2 : Int)]
open Go.RowKit
section
variable {w : World} {r g n : Nat} {i o : Int} {a : Nat} {laid : Bool} {cs : Array Value} {l : List (Int)}
theorem ringI_len (m : Nat) (h : RingIn 3 193 w r g n i o a laid cs) (hm : (i - o) % 4294967296 = m) :
  Calls Tryz.prog 93 #[.pointer (some ⟨r,0,none⟩)] w fun e w' => e = .returned (.int .i64 (m : Int))∧Drw w w' := by
 obtain ⟨c0,c1,c2,c3,c4⟩ := h.cells
 have hm2 : m < 4294967296 := by omega
 have HM := Lib.hid hm
 clear h hm
 go_enter Tryz.func93,Tryz.ntmps93
 go_wp2
 go_quiet (fail)
 go_wp2
 go_ret
 exact ⟨by rw [← HM.out]; rfl,Drw.drewN _ _⟩
theorem ringI_room (m : Nat) (h : RingIn 3 193 w r g n i o a false cs) (hm : (i - o) % 4294967296 = m) (hn : n ≤ 4096) :
  Calls Tryz.prog 203 #[.pointer (some ⟨r,0,none⟩)] w fun e w' => e = .returned (.int .i64 ((n : Int) - m))∧Drw w w' := by
 obtain ⟨c0,c1,c2,c3,c4⟩ := h.cells
 have hm2 : m < 4294967296 := by omega
 have HL := Lib.hid (fun w1 (hd : Drw w w1) => ringI_len m (h.later (hd.mod (fun _ => False)) (by simp) (by simp)) hm)
 clear h hm
 go_enter Tryz.func203,Tryz.ntmps203
 go_upto_region 3 with fail
 go_cut [3] (fun z w' => z = .int .i64 ((n : Int) - m)∧Drw w w')
 case first => as_aux_lemma =>
  go_region_held3 (fun w' => w'.cell? ⟨r,0,none⟩ = some (.slice (some ⟨g,0,none⟩) n n))
   (first | exact c0 | exact (d9.cell _).trans c0 | go_keep)
   ((go_at_call 93; refine (HL.out _ (Drw.drew _)).mono ?_; rintro e w9 ⟨rfl,d9⟩))
  all_goals go_wp2_with fail
  all_goals go_meet
  all_goals exact ⟨by simp [IntWalk.i64_in ((n : Int) - m) (by omega)],(Drw.drew _).trans d9⟩
 case rest =>
  obtain ⟨rfl,d1⟩ := hcut
  have c4 := (d1.cell ⟨r,4,none⟩).trans c4
  go_wp2
  go_ret
  exact ⟨rfl,d1⟩
theorem ringI_end (m : Nat) (h : RingIn 3 193 w r g n i o a laid cs) (hm : (i - o) % 4294967296 = m) (hn : n ≤ 4096) (hn1 : 1 ≤ n) (ha : a < n) :
  Calls Tryz.prog 204 #[.pointer (some ⟨r,0,none⟩)] w fun e w' => e = .returned (.int .i64 (((a + m) % n : Nat) : Int))∧Drw w w' := by
 obtain ⟨c0,c1,c2,c3,c4⟩ := h.cells
 have hm2 : m < 4294967296 := by omega
 have HL := Lib.hid (fun w1 (hd : Drw w w1) => ringI_len m (h.later (hd.mod (fun _ => False)) (by simp) (by simp)) hm)
 have e1 : ((a : Int) + m).tmod n = (((a + m) % n : Nat) : Int) := by
  rw [Int.tmod_eq_emod_of_nonneg (by omega)]
  push_cast
  rfl
 have HE := Lib.hid e1
 have hn0 : ((n : Int) == 0) = false := by simp; omega
 have hn2 : ¬ ((n : Int) = 0) := by omega
 have hn3 : ¬ n = 0 := by omega
 have hlt : (a + m) % n < n := Nat.mod_lt _ (by omega)
 clear h hm e1
 generalize (a + m) % n = z at HE hlt ⊢
 go_enter Tryz.func204,Tryz.ntmps204
 go_upto_region 1 with fail
 go_cut [2] (fun v w' => v = .int .i64 (z : Int)∧Drw w w')
 case first => as_aux_lemma =>
  go_region_held3 (fun w' => w'.cell? ⟨r,0,none⟩ = some (.slice (some ⟨g,0,none⟩) n n)∧w'.cell? ⟨r,3,none⟩ = some (.int .i64 (a : Int)))
   (first | exact ⟨c0,c3⟩ | exact ⟨(d9.cell _).trans c0,(d9.cell _).trans c3⟩ | go_keep)
   ((go_at_call 93; refine (HL.out _ (Drw.drew _)).mono ?_; rintro e w9 ⟨rfl,d9⟩))
  all_goals go_wp2_with fail
  all_goals go_meet
  all_goals exact ⟨by rw [IntWalk.i64_in ((a : Int) + m) (by omega),HE.out],(Drw.drew _).trans d9⟩
 case rest =>
  obtain ⟨rfl,d1⟩ := hcut
  go_wp2
  go_ret
  exact ⟨rfl,d1⟩
theorem ringI_lay (x : Int) (h : RingIn 3 193 w r g n i o a false cs) (ok : RingOk encI 1 n a cs l) (hl : (i - o) % 4294967296 = l.length) :
  Calls Tryz.prog 175 #[.pointer (some ⟨r,0,none⟩),.int .i64 x] w fun e w' =>
   (l.length = n∧e = .returned (.int .i64 7)∧Mod (fun _ => False) w w') ∨
   (l.length < n∧e = .returned (.int .i64 0)∧RingIn 3 193 w' r g n i o a true (putRow cs ((a + l.length) % n * 1) (encI x))∧Mod (fun k => k = r∨k = g) w w') := by
 have hz : (a + l.length) % n < n := Nat.mod_lt _ (by have := ok.n1; omega)
 have n1 := ok.n1
 have n2 := ok.n2
 have an := ok.an
 have ln := ok.ln
 have hRe : ∀ w1,Mod (fun _ => False) w w1→RingIn 3 193 w1 r g n i o a false cs := fun w1 m => h.later m (by simp) (by simp)
 have HRE := Lib.hid hRe
 have HRoom := Lib.hid (fun w1 (m : Mod (fun _ => False) w w1) => ringI_room l.length (hRe w1 m) hl n2)
 have HEnd := Lib.hid (fun w1 (m : Mod (fun _ => False) w w1) => ringI_end l.length (hRe w1 m) hl n2 n1 an)
 have rlt := h.blk.lt
 have glt := h.row.lt
 obtain ⟨z,hzz⟩ : ∃ z,(a + l.length) % n = z := ⟨_,rfl⟩
 rw [hzz] at hz HEnd ⊢
 obtain ⟨v0,hv0⟩ : ∃ v,cs[z * 1]? = some v := ⟨_,Array.getElem?_eq_getElem (by have := ok.lt hz (t := 0) (by decide); omega)⟩
 have HV0 := Lib.hid hv0
 obtain ⟨m,hm⟩ : ∃ m,l.length = m := ⟨_,rfl⟩
 rw [hm] at HRoom ln ⊢
 clear ok hl hRe hm hzz hv0
 go_enter Tryz.func175,Tryz.ntmps175
 have m0 : Mod (fun _ => False) w w := Mod.refl _ _
 have h0 := HRE.out _ m0
 obtain ⟨c0,c1,c2,c3,c4⟩ := h0.cells
 go_wp2_with fail
 refine (HRoom.out _ m0).mono ?_
 rintro e w1 ⟨rfl,d1⟩
 have m1 := m0.trans (d1.mod (fun _ => False)) (fun i hi e => e)
 have h1 := HRE.out _ m1
 clear c0 c1 c2 c3 c4 h0
 obtain ⟨c0,c1,c2,c3,c4⟩ := h1.cells
 by_cases hfull : m = n
 ·
  have q : (((n : Int) - m) == 0) = true := by rw [hfull]; simp
  have HF := Lib.hid hfull
  clear hfull
  go_wp2
  go_ret
  exact Or.inl ⟨HF.out,rfl,m1⟩
 ·
  have q : (((n : Int) - m) == 0) = false := by simp; omega
  have hlt : m < n := by omega
  clear hfull
  have b0 : (0 : Int) ≤ (z : Int) := by omega
  have b1 : (z : Int) < (n : Int) := by omega
  go_upto_region 7 with fail
  go_cut [] (fun w' => RingIn 3 193 w' r g n i o a false (putRow cs (z * 1) (encI x))∧Mod (fun k => k = r∨k = g) w w')
  case first => as_aux_lemma =>
   have mdr : Mod (fun _ => False) w w1.drew := m1.drew
   go_region_held3 (fun w' => w'.cell? ⟨r,0,none⟩ = some (.slice (some ⟨g,0,none⟩) n n))
    (first | exact c0 | exact e0 | exact (H9.setRow (z) (.int .i64 x)).cells.1 | go_keep)
    ((go_at_call 204; refine (HEnd.out _ mdr).mono ?_; rintro e w9 ⟨rfl,d9⟩; have m9 : Mod (fun _ => False) w1 w9 := (Mod.refl (fun _ => False) w1).drew.trans (d9.mod (fun _ => False)) (fun i hi e => e); have H9 := HRE.out _ (m1.trans m9 (fun i hi e => e)); have e0 := H9.cells.1; have y0 := (H9.row.cell (z)).trans (by simpa using HV0.out); have f0 := H9.row.fz (z)))
   all_goals go_wp2_with fail
   all_goals go_meet
   all_goals
    have hR := (H9.setRow (z) (.int .i64 x))
    have hM := (m1.mono (S' := fun k => k = r∨k = g) (fun i hi e => e.elim)).trans ((m9.mono (S' := fun k => k = r∨k = g) (fun i hi e => e.elim)).trans ((Mod.refl (fun k => k = r∨k = g) w9).setCell (p := ⟨g,z,none⟩) (Or.inl (Or.inr rfl)) (.int .i64 x)) (fun i hi e => e)) (fun i hi e => e)
    exact ⟨by simpa [putRow,encI] using hR,by simpa using hM⟩
  case rest =>
   obtain ⟨hR,hM⟩ := hcut
   obtain ⟨w2,rfl⟩ : ∃ wo : World,wo = wc := ⟨_,rfl⟩
   have c4 := hR.cells.2.2.2.2
   have z4 := hR.blk.fz 4
   have hF := hR.setLaid true
   have HF := Lib.hid hF
   clear hF c0 c1 c2 c3
   go_wp2
   go_ret
   exact Or.inr ⟨hlt,rfl,HF.out,hM.setCell (p := ⟨r,4,none⟩) (Or.inl (Or.inl rfl)) _⟩
theorem ringI_publish (h : RingIn 3 193 w r g n i o a true cs) :
  Calls Tryz.prog 176 #[.pointer (some ⟨r,0,none⟩)] w fun e w' => e = .returned (.int .i64 0)∧RingIn 3 193 w' r g n ((i + 1) % 4294967296) o a false cs∧Mod (fun k => k = r) w w' := by
 have hF := Lib.hid ((h.setI ((i + 1) % 4294967296) ⟨by omega,by omega⟩).setLaid false)
 obtain ⟨c0,c1,c2,c3,c4⟩ := h.cells
 have z1 := h.blk.fz 1
 have z4 := h.blk.fz 4
 clear h
 go_enter Tryz.func176,Tryz.ntmps176
 go_wp2
 go_ret
 exact ⟨rfl,hF.out,((Mod.refl (fun k => k = r) w).setCell (p := ⟨r,1,none⟩) (Or.inl rfl) _).setCell (p := ⟨r,4,none⟩) (Or.inl rfl) _⟩
theorem ringI_push {own : Nat→Prop} (x : Int) (h : RingAt encI 1 3 193 r n l w own) :
  Calls Tryz.prog 148 #[.pointer (some ⟨r,0,none⟩),.int .i64 x] w fun e w' =>
   (l.length = n∧e = .returned (.int .i64 7)∧Mod (fun _ => False) w w') ∨
   (l.length < n∧e = .returned (.int .i64 0)∧Turn own (RingAt encI 1 3 193 r n (l ++ [x])) w w') := by
 obtain ⟨g,i,o,a,cs,h,ok,hl,ho⟩ := h
 have hlt : r < w.heap.size∧g < w.heap.size := ⟨h.blk.lt,h.row.lt⟩
 have HL := Lib.hid (fun w1 (m : Mod (fun _ => False) w w1) => ringI_lay x (h.later m (by simp) (by simp)) ok hl)
 have hll := ok.ln
 have hn2 := ok.n2
 have HK := Lib.hid ok
 have HO := Lib.hid ho
 have HI := Lib.hid hl
 have HI0 := Lib.hid h.i0
 have HO0 := Lib.hid h.o0
 clear h ok ho hl
 go_enter Tryz.func148,Tryz.ntmps148
 go_wp2_with fail
 have m0 : Mod (fun _ => False) w w := Mod.refl _ _
 refine (HL.out _ m0).mono ?_
 rintro e w1 (⟨h1,rfl,m1⟩ | ⟨h1,rfl,hR,m1⟩)
 ·
  have HF := Lib.hid h1
  have mm := m0.trans m1 (fun i hi e => e)
  clear h1
  go_wp2
  go_ret
  exact Or.inl ⟨HF.out,rfl,mm⟩
 ·
  have HP := Lib.hid (ringI_publish hR)
  have mm := (m0.mono (S' := fun k => k = r∨k = g) (fun i hi e => e.elim)).trans m1 (fun i hi e => e)
  clear hR
  go_wp2_with fail
  refine HP.out.mono ?_
  rintro e w2 ⟨rfl,hR2,m2⟩
  have HR2 := Lib.hid hR2
  have mm2 := mm.trans m2 (fun i hi e => Or.inl e)
  clear hR2
  go_wp2
  go_ret
  refine Or.inr ⟨h1,rfl,own,⟨g,_,o,a,_,HR2.out,HK.out.push h1 x rfl,?_,HO.out⟩,mm2.mono (fun k hk e => (HO.out k).2 e),fun k hk => Or.inl hk⟩
  have := HI.out
  have := HI0.out
  have := HO0.out
  simp only [List.length_append,List.length_singleton]
  omega
theorem ringI_peek_none (h : RingIn 3 193 w r g n i o a laid cs) (hl : (i - o) % 4294967296 = 0) :
  Calls Tryz.prog 183 #[.pointer (some ⟨r,0,none⟩)] w fun e w' => e = .returned (.tuple #[.int .i64 0,.int .i64 8])∧Mod (fun _ => False) w w' := by
 have q : (i == o) = true := by have := h.i0; have := h.o0; simp; omega
 obtain ⟨c0,c1,c2,c3,c4⟩ := h.cells
 have rlt := h.blk.lt
 clear h
 go_enter Tryz.func183,Tryz.ntmps183
 go_wp2
 go_quiet (fail)
 go_wp2
 go_ret2
 exact ⟨rfl,Mod.drewN (Mod.refl _ _) _⟩
theorem ringI_peek_some (x : Int) (h : RingIn 3 193 w r g n i o a laid cs) (ok : RingOk encI 1 n a cs (x :: l)) (hl : (i - o) % 4294967296 ≠ 0) :
  Calls Tryz.prog 183 #[.pointer (some ⟨r,0,none⟩)] w fun e w' => e = .returned (.tuple #[.int .i64 x,.int .i64 0])∧Mod (fun _ => False) w w' := by
 have q : (i == o) = false := by have := h.i0; have := h.o0; simp; omega
 obtain ⟨c0,c1,c2,c3,c4⟩ := h.cells
 have rlt := h.blk.lt
 have glt := h.row.lt
 have an := ok.an
 have n2 := ok.n2
 have h0 := (h.row.cell (a * 1 + 0)).trans (ok.head 0 (by decide))
 simp [encI] at h0
 have b0 : (0 : Int) ≤ (a : Int) := by omega
 have b1 : (a : Int) < (n : Int) := by omega
 clear h ok
 go_enter Tryz.func183,Tryz.ntmps183
 go_upto_region 4 with fail
 go_quiet (fail)
 go_upto_region 6 with fail
 go_quiet (fail)
 go_wp2
 go_ret2
 exact ⟨rfl,Mod.drewN (Mod.drewN (Mod.refl _ _) _) _⟩
theorem ringI_free (x : Int) (h : RingIn 3 193 w r g n i o a false cs) (ok : RingOk encI 1 n a cs (x :: l)) (hl : (i - o) % 4294967296 ≠ 0) :
  Calls Tryz.prog 184 #[.pointer (some ⟨r,0,none⟩)] w fun e w' => e = .returned (.int .i64 0)∧RingIn 3 193 w' r g n i ((o + 1) % 4294967296) ((a + 1) % n) false (putRow cs (a * 1) [.int .i64 0])∧Mod (fun k => k = r∨k = g) w w' := by
 have hRe : ∀ w1,Mod (fun _ => False) w w1→RingIn 3 193 w1 r g n i o a false cs := fun w1 m => h.later m (by simp) (by simp)
 have HRE := Lib.hid hRe
 have HPeek := Lib.hid (ringI_peek_some x h ok hl)
 have an := ok.an
 have n1 := ok.n1
 have n2 := ok.n2
 have rlt := h.blk.lt
 have glt := h.row.lt
 have e1 : (IntKind.i64.wrap ((a : Int) + 1)).tmod n = (((a + 1) % n : Nat) : Int) := by
  rw [IntWalk.i64_in _ (by omega),Int.tmod_eq_emod_of_nonneg (by omega)]
  push_cast
  rfl
 have HE := Lib.hid e1
 have e2 : ((a : Int) + 1) % n = (((a + 1) % n : Nat) : Int) := by
  push_cast
  rfl
 have HE2 := Lib.hid e2
 have hz : (a + 1) % n < n := Nat.mod_lt _ (by omega)
 generalize (a + 1) % n = z at HE HE2 hz ⊢
 have hn0 : ((n : Int) == 0) = false := by simp; omega
 have hn2 : ¬ ((n : Int) = 0) := by omega
 have hn3 : ¬ n = 0 := by omega
 obtain ⟨v0,hv0⟩ : ∃ v,cs[a * 1]? = some v := ⟨_,Array.getElem?_eq_getElem (by have := ok.lt ok.an (t := 0) (by decide); omega)⟩
 have HV0 := Lib.hid hv0
 clear h ok hl hRe e1 e2 hv0
 go_enter Tryz.func184,Tryz.ntmps184
 go_wp2_with fail
 refine HPeek.out.mono ?_
 rintro e w1 ⟨rfl,m1⟩
 go_upto_region 5 with fail
 have m5 := m1
 obtain ⟨w5,rfl⟩ : ∃ wo : World,wo = w1 := ⟨_,rfl⟩
 have h5 := HRE.out _ m5
 obtain ⟨c0,c1,c2,c3,c4⟩ := h5.cells
 have y0 := (h5.row.cell (a)).trans (by simpa using HV0.out)
 have f0 := h5.row.fz (a)
 have b0 : (0 : Int) ≤ (a : Int) := by omega
 have b1 : (a : Int) < (n : Int) := by omega
 go_cut [] (fun w' => RingIn 3 193 w' r g n i o a false (putRow cs (a * 1) [.int .i64 0])∧Mod (fun k => k = r∨k = g) w w')
 case first => as_aux_lemma =>
  go_region_held3 (fun w' => w'.cell? ⟨r,0,none⟩ = some (.slice (some ⟨g,0,none⟩) n n)∧w'.cell? ⟨r,3,none⟩ = some (.int .i64 (a : Int)))
   (first | exact ⟨c0,c3⟩ | exact ⟨((h5).setRow (a) (.int .i64 0)).cells.1,((h5).setRow (a) (.int .i64 0)).cells.2.2.2.1⟩ | go_keep)
   ((fail))
  all_goals go_wp2_with fail
  all_goals go_meet
  all_goals exact ⟨by first | simpa [putRow] using (h5.later ((Mod.refl (fun _ => False) w5).drew) (by simp) (by simp)).setRow (a) (.int .i64 0) | simpa [putRow] using ((h5).setRow (a) (.int .i64 0)).later ((Mod.refl (fun _ => False) _).drew) (by simp) (by simp),by first | exact (m5.mono (S' := fun k => k = r∨k = g) (fun i hi e => e.elim)).trans (((Mod.refl (fun k => k = r∨k = g) w5).drew).setCell (p := ⟨g,a,none⟩) (Or.inl (Or.inr rfl)) (.int .i64 0)) (fun i hi e => e) | exact (m5.mono (S' := fun k => k = r∨k = g) (fun i hi e => e.elim)).trans ((((Mod.refl (fun k => k = r∨k = g) w5)).setCell (p := ⟨g,a,none⟩) (Or.inl (Or.inr rfl)) (.int .i64 0)).drew) (fun i hi e => e)⟩
 case rest =>
 obtain ⟨h6,m6⟩ := hcut
 obtain ⟨w6,rfl⟩ : ∃ wo : World,wo = wc := ⟨_,rfl⟩
 clear c0 c1 c2 c3 c4 h5 m5 y0 f0
 obtain ⟨c0,c1,c2,c3,c4⟩ := h6.cells
 have z3 := h6.blk.fz 3
 go_upto_region 6 with fail
 go_cut [] (fun w' => RingIn 3 193 w' r g n i o z false (putRow cs (a * 1) [.int .i64 0])∧Mod (fun k => k = r∨k = g) w w')
 case first => as_aux_lemma =>
  go_region
  all_goals go_wp2_with fail
  all_goals go_meet
  all_goals refine ⟨?_,?_⟩
  all_goals first | rw [HE2.out] | rw [HE.out]
  all_goals first
   | exact (h6.later ((Mod.refl (fun _ => False) w6).drew) (by simp) (by simp)).setA z
   | exact (h6.setA z).later ((Mod.refl (fun _ => False) _).drew) (by simp) (by simp)
   | exact (m6.drew).setCell (p := ⟨r,3,none⟩) (Or.inl (Or.inl rfl)) _
   | exact ((m6.setCell (p := ⟨r,3,none⟩) (Or.inl (Or.inl rfl)) _)).drew
 case rest =>
 obtain ⟨h7,m7⟩ := hcut
 obtain ⟨w7,rfl⟩ : ∃ wo : World,wo = wc := ⟨_,rfl⟩
 clear c0 c1 c2 c3 c4 z3 h6 m6
 obtain ⟨c0,c1,c2,c3,c4⟩ := h7.cells
 have z2 := h7.blk.fz 2
 have HF := Lib.hid (h7.setO ((o + 1) % 4294967296) ⟨by omega,by omega⟩)
 clear h7
 go_wp2
 go_ret
 exact ⟨rfl,HF.out,m7.setCell (p := ⟨r,2,none⟩) (Or.inl (Or.inl rfl)) _⟩
theorem ringI_pop_none {own : Nat→Prop} (h : RingAt encI 1 3 193 r n ([] : List (Int)) w own) :
  Calls Tryz.prog 155 #[.pointer (some ⟨r,0,none⟩)] w fun e w' => e = .returned (.tuple #[.int .i64 0,.int .i64 8])∧Mod (fun _ => False) w w' := by
 obtain ⟨g,i,o,a,cs,h,ok,hl,ho⟩ := h
 have rlt := h.blk.lt
 have glt := h.row.lt
 have HPeek := Lib.hid (fun w1 (m : Mod (fun _ => False) w w1) => ringI_peek_none (h.later m (by simp) (by simp)) (by simpa using hl))
 clear h ok hl ho
 go_enter Tryz.func155,Tryz.ntmps155
 go_wp2_with fail
 refine (HPeek.out _ (Mod.refl _ _)).mono ?_
 rintro e w1 ⟨rfl,m1⟩
 go_wp2
 go_ret2
 exact ⟨rfl,m1⟩
theorem ringI_pop {own : Nat→Prop} (x : Int) (h : RingAt encI 1 3 193 r n (x :: l) w own) :
  Calls Tryz.prog 155 #[.pointer (some ⟨r,0,none⟩)] w fun e w' => e = .returned (.tuple #[.int .i64 x,.int .i64 0])∧Turn own (RingAt encI 1 3 193 r n l) w w' := by
 obtain ⟨g,i,o,a,cs,h,ok,hl,ho⟩ := h
 have rlt := h.blk.lt
 have glt := h.row.lt
 have hl0 : (i - o) % 4294967296 ≠ 0 := by rw [hl]; simp only [List.length_cons]; omega
 have HPeek := Lib.hid (fun w1 (m : Mod (fun _ => False) w w1) => ringI_peek_some x (h.later m (by simp) (by simp)) ok hl0)
 have HFree := Lib.hid (fun w1 (m : Mod (fun _ => False) w w1) => ringI_free x (h.later m (by simp) (by simp)) ok hl0)
 have HK := Lib.hid ok
 have HO := Lib.hid ho
 have HI := Lib.hid hl
 have HI0 := Lib.hid h.i0
 have HO0 := Lib.hid h.o0
 have HN2 := Lib.hid (show l.length < 4096 from by have := ok.ln; have := ok.n2; simp only [List.length_cons] at *; omega)
 clear h ok hl ho hl0
 go_enter Tryz.func155,Tryz.ntmps155
 go_wp2_with fail
 refine (HPeek.out _ (Mod.refl _ _)).mono ?_
 rintro e w1 ⟨rfl,m1⟩
 go_wp2_with fail
 refine (HFree.out _ m1).mono ?_
 rintro e w3 ⟨rfl,hR,m3⟩
 have m3 := (m1.mono (S' := fun k => k = r∨k = g) (fun i hi e => e.elim)).trans m3 (fun i hi e => e)
 have HR2 := Lib.hid hR
 clear hR
 go_wp2
 go_ret2
 refine ⟨rfl,own,⟨g,i,_,_,_,HR2.out,HK.out.pop _ rfl,?_,HO.out⟩,m3.mono (fun k hk e => (HO.out k).2 e),fun k hk => Or.inl hk⟩
 have h1 := HI.out
 have h2 := HI0.out
 have h3 := HO0.out
 have h4 := HN2.out
 simp only [List.length_cons] at h1
 omega
theorem ringI_made (w : World) (N : Nat) (hN : N ≤ 4096) : ∃ w' cs,(Instr.makeSlice 44 (.int .i64 (N : Int)) (.int .i64 (N : Int))).run Tryz.prog w = .ok (.slice (some ⟨w.heap.size,0,none⟩) N N) w'∧Blk w' w.heap.size cs 3∧cs.size = N * 1∧Mod (fun _ => False) w w' := by
 obtain ⟨i,hi,hz,hsize,hby⟩ := info_parts (show (Tryz.prog.info? 3).map (fun i => (i.zero,i.size,i.bytes)) = some (some (.int .i64 0),1,8) by kernel_rfl)
 obtain ⟨w',hr,ho,hg⟩ := run_makeSlice_full (P := Tryz.prog) w w.heap.size 44 3 i (.int .i64 0) 1 Tryz.underlying44 hi hz hsize .i64 .i64 N (by omega) (by rw [hby]; omega) (by unfold maxLen; omega) (Nat.le_refl _)
 rcases ho.2 with ⟨h,-⟩ | ⟨g',cap,cur,hv,-,hh,-,-,hs,ht⟩
 ·
  cases h
 ·
  simp only [Value.slice.injEq,Option.some.injEq,Addr.mk.injEq,and_true,true_and] at hv
  obtain ⟨rfl,rfl⟩ := hv
  exact ⟨w',cur,hr,hh,hs,(Mod.refl _ w).grown hg (fun k hk => by cases hk)⟩
theorem ringI_new (w : World) (N : Nat) (h1 : 1 ≤ N) (h2 : N ≤ 4096) :
  Calls Tryz.prog 121 #[.int .i64 (N : Int),.int .u32 0] w fun e w' => ∃ r,e = .returned (.pointer (some ⟨r,0,none⟩))∧Made (RingAt encI 1 3 193 r N []) w w' := by
 obtain ⟨w1,cs,hr,hb,hs,m1⟩ := ringI_made w N h2
 have q1 : ¬ (N : Int) < 1 := by omega
 have q2 : ¬ (4096 : Int) < (N : Int) := by omega
 have q3 : (N : Int) ≤ 4096 := by omega
 have q4 : (1 : Int) ≤ (N : Int) := by omega
 have q5 : max (N : Int) 1 = (N : Int) := by omega
 have q6 : min (N : Int) 4096 = (N : Int) := by omega
 go_enter Tryz.func121,Tryz.ntmps121
 go_wp2
 go_ret
 have hlt := hb.lt
 have hk := Blk.made w1 #[.slice (some ⟨w.heap.size,0,none⟩) N N,.int .u32 0,.int .u32 0,.int .i64 0,.bool false] 193
 exact ⟨w1.heap.size,rfl,fun k => k = w1.heap.size∨k = w.heap.size,⟨w.heap.size,0,0,0,cs,⟨hk,hb.alloc _,by omega,by decide,by decide⟩,⟨h1,h2,by omega,by simp,hs,by simp⟩,by simp,fun k => Iff.rfl⟩,m1.alloc _,fun k hk => by have := m1.size; omega⟩
end
end Go.Proofs.YtfiklfkfbcpmgaaGreat
