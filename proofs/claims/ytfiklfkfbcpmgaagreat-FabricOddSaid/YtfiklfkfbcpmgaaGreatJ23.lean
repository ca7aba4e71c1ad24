/- Parts: FabL FabM. No condition. -/
import Derived.Test.YtfiklfkfbcpmgaaGreatJ22
set_option linter.all false
set_option maxRecDepth 100000
set_option maxHeartbeats 3200000
namespace Go.Proofs.YtfiklfkfbcpmgaaGreat
open Go.RowKit
section
variable {b : Nat} {A : FAddr} {c : Cfg} {v : Value} {f : FabS} {own : Nat→Prop} {w : World}
def Mid (b : Nat) (A : FAddr) (c : Cfg) (v : Value) (own : Nat→Prop) (w : World) (bs : List (Nat × Array Value × TypeId)) (f : FabS) (w' : World) : Prop :=
 ∃ o',Fam (fabX b A c v f) w' o'∧Mod own w w'∧(∀ g,o' g→own g∨w.heap.size ≤ g)∧∀ x ∈ bs,¬ o' x.1∧Blk w' x.1 x.2.1 x.2.2
theorem Mid.start (h : Fam (fabX b A c v f) w own) : Mid b A c v own w [] f w := ⟨own,h,Mod.refl _ _,fun g hg => Or.inl hg,fun x hx => by simp at hx⟩
theorem Mid.turn {bs : List (Nat × Array Value × TypeId)} {w' : World} (h : Mid b A c v own w bs f w') : Turn own (Fam (fabX b A c v f)) w w' := by
 obtain ⟨o',h1,h2,h3,-⟩ := h
 exact ⟨o',h1,h2,h3⟩
theorem Mid.step1 {bs : List (Nat × Array Value × TypeId)} {f' : FabS} {w1 w2 : World} {o1 : Nat→Prop} (m1 : Mod own w w1) (ho1 : ∀ g,o1 g→own g∨w.heap.size ≤ g) (hb : ∀ x ∈ bs,¬ o1 x.1∧Blk w1 x.1 x.2.1 x.2.2) (t : Turn o1 (Fam (fabX b A c v f')) w1 w2) : Mid b A c v own w bs f' w2 := by
 obtain ⟨o2,h2,m2,ho2⟩ := Turn.next m1 ho1 t
 obtain ⟨o3,h3,m3,ho3⟩ := t
 refine ⟨o3,h3,m2,fun g hg => ?_,fun x hx => ?_⟩
 ·
  rcases ho3 g hg with h | h
  ·
   exact ho1 g h
  ·
   exact Or.inr (Nat.le_trans m1.size h)
 ·
  obtain ⟨hn,hB⟩ := hb x hx
  refine ⟨fun hg => ?_,hB.later m3 hn⟩
  rcases ho3 _ hg with h | h
  ·
   exact hn h
  ·
   exact Nat.lt_irrefl _ (Nat.lt_of_lt_of_le hB.lt h)
theorem Mid.step {bs : List (Nat × Array Value × TypeId)} {f' : FabS} {w1 w2 : World} (h : Mid b A c v own w bs f w1) (k : ∀ o',Fam (fabX b A c v f) w1 o'→Turn o' (Fam (fabX b A c v f')) w1 w2) : Mid b A c v own w bs f' w2 := by
 obtain ⟨o1,h1,m1,ho1,hb⟩ := h
 exact Mid.step1 m1 ho1 hb (k o1 h1)
theorem Mid.call {bs : List (Nat × Array Value × TypeId)} {f' : FabS} {w1 : World} {P : Program} {fn : FuncId} {args : Array Value} {R : Ending→Prop} (h : Mid b A c v own w bs f w1) (k : ∀ o',Fam (fabX b A c v f) w1 o'→Calls P fn args w1 fun e w2 => R e∧Turn o' (Fam (fabX b A c v f')) w1 w2) : Calls P fn args w1 fun e w2 => R e∧Mid b A c v own w bs f' w2 := by
 obtain ⟨o1,h1,m1,ho1,hb⟩ := h
 exact (k o1 h1).mono fun e w2 t => ⟨t.1,Mid.step1 m1 ho1 hb t.2⟩
theorem Mid.later {bs : List (Nat × Array Value × TypeId)} {w1 w2 : World} (h : Mid b A c v own w bs f w1) (m : Mod (fun _ => False) w1 w2) : Mid b A c v own w bs f w2 :=
 h.step (fun _ hF => Turn.same (Fam.stable (fabX_stable b A c v f)) hF m)
theorem Mid.add {bs : List (Nat × Array Value × TypeId)} {w1 w2 : World} (h : Mid b A c v own w bs f w1) (m : Mod (fun _ => False) w1 w2) {k : Nat} {cs : Array Value} {t : TypeId} (hk : w1.heap.size ≤ k) (hB : Blk w2 k cs t) : Mid b A c v own w ((k,cs,t) :: bs) f w2 := by
 obtain ⟨o1,h1,m1,ho1,hb⟩ := h
 have hst := Fam.stable (fabX_stable b A c v f)
 refine ⟨o1,hst.later h1 m (by simp),m1.trans m (fun _ _ e => e.elim),ho1,fun x hx => ?_⟩
 rcases List.mem_cons.1 hx with rfl | hx
 ·
  exact ⟨fun hg => by have := hst.lt h1 hg; dsimp only at this; omega,hB⟩
 ·
  obtain ⟨hn,hB'⟩ := hb x hx
  exact ⟨hn,hB'.later m (by simp)⟩
theorem Mid.blk {bs : List (Nat × Array Value × TypeId)} {w' : World} (h : Mid b A c v own w bs f w') {k : Nat} {cs : Array Value} {t : TypeId} (hx : (k,cs,t) ∈ bs) : Blk w' k cs t := by
 obtain ⟨o',-,-,-,hb⟩ := h
 exact (hb _ hx).2
theorem Fam.fcells {g o N cc : Nat} {w' : World} {own' : Nat→Prop} (hN : N = c.nodes.toNat) (h : Fam (fabX b A c (.slice (some ⟨g,o,none⟩) N cc) f) w' own') : FCells b A c f.steps g o cc w' := by
 subst hN
 obtain ⟨kb,a,cc',hv,hn⟩ := fab_cells h
 simp only [Value.slice.injEq] at hv
 obtain ⟨rfl,-,rfl⟩ := hv
 refine ⟨kb,fun n hlt t ht => ?_⟩
 obtain ⟨g',o',ha',h1⟩ := hn n hlt
 simp only [Option.some.injEq,Addr.mk.injEq] at ha'
 obtain ⟨rfl,rfl,-⟩ := ha'
 exact h1 t ht
theorem Mid.fcells {g o N cc : Nat} (hN : N = c.nodes.toNat) {bs : List (Nat × Array Value × TypeId)} {w' : World} (h : Mid b A c (.slice (some ⟨g,o,none⟩) N cc) own w bs f w') : FCells b A c f.steps g o cc w' := by
 obtain ⟨o',h1,-⟩ := h
 exact Fam.fcells hN h1
theorem fab_slice (h : Fam (fabX b A c v f) w own) (h0 : 0 < c.nodes.toNat) : ∃ g o cc,v = .slice (some ⟨g,o,none⟩) c.nodes.toNat cc := by
 obtain ⟨kb,a,cc',hv,hn⟩ := fab_cells h
 obtain ⟨g,o,ha,-⟩ := hn 0 h0
 exact ⟨g,o,cc',by rw [hv,ha]⟩
def mayF (c : Cfg) (o : Option LinkS) (k : Int) : Bool := match o with | some l => l.may c k | none => false
theorem moveK_is (x : NodeS) (p : Nat) : x.moveK c (p : Int) = x.rt.moveK c p (mayF c (x.link (p : Int))) := rfl
def FabS.mv1 (c : Cfg) (f : FabS) (n p kn x : Nat) (q : List Nat) : FabS := f.put (n : Int) ((f.at (n : Int)).setRt ((f.at (n : Int)).rt.moved c p kn x q))
def FabS.mv2 (c : Cfg) (f : FabS) (n kn : Nat) : FabS := if (kn : Int) / c.Lanes ≠ 0∧c.besB (n : Int) ((kn : Int) / c.Lanes) = true then f.setLink (c.besV (n : Int) ((kn : Int) / c.Lanes)) (backP ((kn : Int) / c.Lanes)) fun l => l.taken c ((kn : Int) % c.Lanes) else f
def FabS.mv3 (f : FabS) (n p kn x : Nat) (cp : Bool) : FabS := if p = 0∨cp = true then f.put (n : Int) ((f.at (n : Int)).setNc ((f.at (n : Int)).nc.took kn x)) else f
def FabS.mv4 (c : Cfg) (f : FabS) (n p : Nat) (k : Int) (x : Nat) : FabS := if p ≠ 0 then f.setLink (n : Int) (p : Int) fun l => l.send c k x else f
theorem move_none {n p : Nat} (h : (f.at (n : Int)).rt.moveK c p (mayF c ((f.at (n : Int)).link (p : Int))) = none) : f.move c (n : Int) (p : Int) = (f,false) := by
 unfold FabS.move
 dsimp only
 rw [moveK_is,h]
theorem take_is (n kn x : Nat) : f.take (n : Int) (kn : Int) x = f.put (n : Int) ((f.at (n : Int)).setNc ((f.at (n : Int)).nc.took kn x)) := by
 unfold FabS.take NodeS.setNc NicS.took NodeS.nc
 simp only [Int.toNat_natCast]
 rcases ((f.at (n : Int)).joins.getD kn JoinS.new).take x with ⟨j,_ | p⟩ <;> rfl
theorem move_some {n p kn x : Nat} {q : List Nat} (hL : 0 ≤ c.Lanes) (hlane : 0 ≤ ((f.at (n : Int)).rt.lanes.getD kn LaneS.new).lane) (h : (f.at (n : Int)).rt.moveK c p (mayF c ((f.at (n : Int)).link (p : Int))) = some (kn : Int)) (hq : ((f.at (n : Int)).rt.lanes.getD kn LaneS.new).q = x :: q) :
  f.move c (n : Int) (p : Int) = (((((f.mv1 c n p kn x q).mv2 c n kn).mv3 n p kn x (((f.at (n : Int)).rt.lanes.getD kn LaneS.new).out x).copy).mv4 c n p (((f.at (n : Int)).rt.lanes.getD kn LaneS.new).lane) x),true) := by
 unfold FabS.move
 dsimp only
 rw [moveK_is,h]
 dsimp only
 have hq' : ((f.at (n : Int)).lane (kn : Int)).q = x :: q := hq
 rw [hq']
 dsimp only
 have e1 : (f.put (n : Int) { f.at (n : Int) with
   lanes := (f.at (n : Int)).lanes.set (kn : Int).toNat (((f.at (n : Int)).lane (kn : Int)).rest x q)
   moves := (f.at (n : Int)).moves.set (p : Int).toNat (kn : Int)
   owners := if (((f.at (n : Int)).lane (kn : Int)).out x).ends = true∧(p : Int) ≠ 0 then (f.at (n : Int)).owners.set ((p : Int) * c.Lanes + (((f.at (n : Int)).lane (kn : Int)).out x).lane).toNat (-1) else (f.at (n : Int)).owners }) = f.mv1 c n p kn x q := by
  unfold FabS.mv1 RouterS.moved NodeS.setRt
  have e : ((p : Int) * c.Lanes + (((f.at (n : Int)).lane (kn : Int)).out x).lane).toNat = p * c.Lanes.toNat + ((f.at (n : Int)).rt.lanes.getD kn LaneS.new).lane.toNat := by
   obtain ⟨L,hL⟩ := Int.eq_ofNat_of_zero_le hL
   obtain ⟨l,hl⟩ := Int.eq_ofNat_of_zero_le hlane
   have hl' : (((f.at (n : Int)).lane (kn : Int)).out x).lane = (l : Int) := hl
   rw [hl',hl,hL]
   have : (p : Int) * (L : Int) = ((p * L : Nat) : Int) := by push_cast; rfl
   rw [this]
   simp only [Int.toNat_natCast]
   omega
  rw [e]
  have e2 : ((p : Int) ≠ 0) = (p ≠ 0) := by simp
  simp only [e2,Int.toNat_natCast]
  rfl
 rw [e1]
 generalize f.mv1 c n p kn x q = f1
 rw [show (if (kn : Int) / c.Lanes ≠ 0∧c.besB (n : Int) ((kn : Int) / c.Lanes) = true then f1.setLink (c.besV (n : Int) ((kn : Int) / c.Lanes)) (backP ((kn : Int) / c.Lanes)) fun l => l.taken c ((kn : Int) % c.Lanes) else f1) = f1.mv2 c n kn from rfl]
 generalize f1.mv2 c n kn = f2
 have e3 : (if (p : Int) = 0∨(((f.at (n : Int)).lane (kn : Int)).out x).copy = true then f2.take (n : Int) (kn : Int) x else f2) = f2.mv3 n p kn x (((f.at (n : Int)).rt.lanes.getD kn LaneS.new).out x).copy := by
  unfold FabS.mv3
  rw [take_is]
  have e2 : ((p : Int) = 0) = (p = 0) := by simp
  simp only [e2]
  rfl
 rw [e3]
 generalize f2.mv3 n p kn x _ = f3
 have e4 : (if (p : Int) ≠ 0 then f3.setLink (n : Int) (p : Int) fun l => l.send c (((f.at (n : Int)).lane (kn : Int)).out x).lane x else f3) = f3.mv4 c n p (((f.at (n : Int)).rt.lanes.getD kn LaneS.new).lane) x := by
  unfold FabS.mv4
  have e2 : ((p : Int) ≠ 0) = (p ≠ 0) := by simp
  simp only [e2]
  rfl
 rw [e4]
theorem bes_back {n p : Int} (hp : 1 ≤ p) (h : c.besB n p = true) : c.besB (c.besV n p) (backP p) = true∧c.besV (c.besV n p) (backP p) = n := by
 obtain ⟨h1,h2,h3,h4,h5,h6,h7⟩ := Cfg.bes_is h
 obtain ⟨hok,hn0,hnN⟩ := Cfg.is_ok h1
 have hW := hok.W1
 have hx0 : 0 ≤ n % c.W := Int.emod_nonneg _ (by omega)
 have hx1 : n % c.W < c.W := Int.emod_lt_of_pos _ (by omega)
 have hy0 : 0 ≤ n / c.W := Int.ediv_nonneg hn0 (by omega)
 have hy1 : n / c.W < c.H := Int.ediv_lt_of_lt_mul (by omega) (by rw [Int.mul_comm]; exact hnN)
 have ex : dX p + dX (backP p) = 0∧dY p + dY (backP p) = 0∧0 ≤ backP p∧backP p < 5 := by
  rcases (show p = 1∨p = 2∨p = 3∨p = 4 by omega) with rfl | rfl | rfl | rfl <;> decide
 have hb : c.besB (c.besV n p) (backP p) = true := Cfg.bes_mk h4 ex.2.2.1 ex.2.2.2 (by rw [h5]; omega) (by rw [h5]; omega) (by rw [h6]; omega) (by rw [h6]; omega)
 refine ⟨hb,?_⟩
 rw [Cfg.besV,if_pos hb,h5,h6]
 have e1 : n / c.W + dY p + dY (backP p) = n / c.W := by omega
 have e2 : n % c.W + dX p + dX (backP p) = n % c.W := by omega
 rw [e1,e2,Int.mul_comm]
 exact Int.mul_ediv_add_emod n c.W
theorem FabOk.mv1 (hk : FabOk c f) {n p kn x : Nat} {q : List Nat} (hn : n < c.nodes.toNat) (hkn : kn < 5 * c.Lanes.toNat) (hq : ((f.at (n : Int)).rt.lanes.getD kn LaneS.new).q = x :: q) : FabOk c (f.mv1 c n p kn x q) :=
 hk.put_rt hn ((hk.rt n hn).moved hk.ok hkn hq)
theorem FabOk.some_link (hk : FabOk c f) {n p : Nat} (hn : n < c.nodes.toNat) (hp1 : 1 ≤ p) (hp : p < 5) (hb : c.besB (n : Int) (p : Int) = true) : ∃ l,f.link (n : Int) (p : Int) = some l := by
 have h := hk.is n p hn hp
 rw [decide_eq_true ⟨hp1,hb⟩] at h
 exact Option.isSome_iff_exists.1 h
theorem taken_is {l : LinkS} {ln : Nat} (hl : (ln : Int) < c.Lanes) : l.taken c (ln : Int) = if l.far.getD ln 0 ≠ 0 then ⟨l.credits,bump l.far (ln : Int) (-1),l.words,l.back ++ [(ln : Int)]⟩ else l := by
 unfold LinkS.taken
 simp only [Int.toNat_natCast]
 by_cases h : l.far.getD ln 0 ≠ 0
 ·
  rw [if_pos ⟨by omega,hl,h⟩,if_pos h]
 ·
  rw [if_neg (fun e => h e.2.2),if_neg h]
theorem send_is {l : LinkS} {ln x : Nat} (hR : 0 ≤ c.Ring) (hl : (ln : Int) < c.Lanes) : l.send c (ln : Int) x = if 0 < l.credits.getD ln 0∧l.words.length < c.Ring.toNat then ⟨bump l.credits (ln : Int) (-1),l.far,l.words ++ [((ln : Int),x)],l.back⟩ else l := by
 unfold LinkS.send LinkS.may
 simp only [Int.toNat_natCast,Bool.and_eq_true,decide_eq_true_eq]
 by_cases h : 0 < l.credits.getD ln 0∧l.words.length < c.Ring.toNat
 ·
  rw [if_pos ⟨⟨⟨by omega,hl⟩,h.1⟩,by omega⟩,if_pos h]
 ·
  rw [if_neg (fun e => h ⟨e.1.2,by omega⟩),if_neg h]
theorem LinkOk.taken {l : LinkS} {D R : Nat} (hL : 0 ≤ c.Lanes) (h : LinkOk c.Lanes.toNat D R l) {ln : Nat} (hl : (ln : Int) < c.Lanes) : LinkOk c.Lanes.toNat D R (l.taken c (ln : Int)) := by
 rw [taken_is hl]
 split
 ·
  rename_i hf
  exact h.takenK (by omega) hf
 ·
  exact h
theorem LinkOk.send {l : LinkS} {D R : Nat} (hL : 0 ≤ c.Lanes) (hR : 0 ≤ c.Ring) (h : LinkOk c.Lanes.toNat D R l) {ln x : Nat} (hx : x < 2 ^ 64) (hl : (ln : Int) < c.Lanes) : LinkOk c.Lanes.toNat D R (l.send c (ln : Int) x) := by
 rw [send_is hR hl]
 split
 ·
  rename_i hf
  exact h.sendK (by omega) hx hf.1
 ·
  exact h
theorem FabOk.setLk (hk : FabOk c f) {n p : Nat} (hn : n < c.nodes.toNat) (hp : p < 5) {g : LinkS→LinkS} (hg : ∀ l,LinkOk c.Lanes.toNat c.Depth.toNat c.Ring.toNat l→LinkOk c.Lanes.toNat c.Depth.toNat c.Ring.toNat (g l)) : FabOk c (f.setLink (n : Int) (p : Int) g) := by
 rcases hl : f.link (n : Int) (p : Int) with _ | l
 ·
  have e : f.setLink (n : Int) (p : Int) g = f := by
   have hl' : (f.at (n : Int)).link (p : Int) = none := hl
   unfold FabS.setLink
   rw [hl']
   have e2 : (f.at (n : Int)).links.set (p : Int).toNat (Option.map g none) = (f.at (n : Int)).links := by
    unfold NodeS.link at hl'
    simp only [Int.toNat_natCast,List.getD_eq_getElem?_getD] at hl'
    simp only [Int.toNat_natCast,Option.map_none]
    apply List.ext_getElem?
    intro i
    by_cases hi : i = p
    ·
     subst hi
     have hlen := hk.ll n hn
     rw [List.getElem?_set_self (by omega)]
     rw [List.getElem?_eq_getElem (by omega)] at hl' ⊢
     simp only [Option.getD_some] at hl'
     rw [hl']
    ·
     rw [List.getElem?_set_ne (fun e => hi e.symm)]
   rw [e2]
   exact put_self (by rw [hk.len]; exact hn)
  rw [e]
  exact hk
 ·
  rw [setLink_is hl]
  exact hk.put_lk hn hp hl (hg _ (hk.lk n p hn hp l hl))
theorem FabOk.mv2 (hk : FabOk c f) {n kn : Nat} (hkn : kn < 5 * c.Lanes.toNat) : FabOk c (f.mv2 c n kn) := by
 unfold FabS.mv2
 split
 ·
  rename_i h
  have hL1 := hk.ok.L1
  have hd0 : 0 ≤ (kn : Int) / c.Lanes := Int.ediv_nonneg (by omega) (by omega)
  have hd5 : (kn : Int) / c.Lanes < 5 := Int.ediv_lt_of_lt_mul (by omega) (by omega)
  obtain ⟨p,hp⟩ := Int.eq_ofNat_of_zero_le hd0
  have hr0 : 0 ≤ (kn : Int) % c.Lanes := Int.emod_nonneg _ (by omega)
  have hr1 : (kn : Int) % c.Lanes < c.Lanes := Int.emod_lt_of_pos _ (by omega)
  obtain ⟨l,hl⟩ := Int.eq_ofNat_of_zero_le hr0
  rw [hp] at h hd5 ⊢
  rw [hl] at hr1 ⊢
  obtain ⟨m,hm,hmN⟩ := bes_at h.2
  obtain ⟨q,hq,hq5,-⟩ := back_is (p := p) (by omega)
  rw [hm,hq]
  exact hk.setLk hmN hq5 (fun y hy => hy.taken (by omega) hr1)
 ·
  exact hk
theorem FabOk.mv3 (hk : FabOk c f) {n p kn x : Nat} (hn : n < c.nodes.toNat) (cp : Bool) : FabOk c (f.mv3 n p kn x cp) := by
 unfold FabS.mv3
 split
 ·
  exact hk.put_nc hn ((hk.nc n hn).took kn x)
 ·
  exact hk
theorem FabOk.mv4 (hk : FabOk c f) {n p x : Nat} {k : Int} (hn : n < c.nodes.toNat) (hp : p < 5) (hx : x < 2 ^ 64) (h0 : 0 ≤ k) (h1 : k < c.Lanes) : FabOk c (f.mv4 c n p k x) := by
 unfold FabS.mv4
 split
 ·
  obtain ⟨l,rfl⟩ := Int.eq_ofNat_of_zero_le h0
  exact hk.setLk hn hp (fun y hy => hy.send (by omega) (by have := hk.ok.R1; omega) hx h1)
 ·
  exact hk
end
open Go.RowKit
section
variable {b : Nat} {A : FAddr} {c : Cfg} {v : Value} {f : FabS} {own : Nat→Prop} {w : World}
theorem may_is (hF : Fam (fabX b A c v f) w own) (hk : FabOk c f) {n p : Nat} (hn : n < c.nodes.toNat) (hp : p < 5) : May 100 (.pointer (linkO A c n p)) c w (mayF c (f.link (n : Int) (p : Int))) where
 enters := enters_of Tryz.func100 (by kernel_rfl) rfl
 call := by
  intro l w1 hl d
  rcases hk.linkO hn hp A with ⟨hy,ho⟩ | ⟨y,hy,ho⟩
  ·
   rw [hy,ho]
   refine (link_may_nil (l : Int) w1).mono ?_
   rintro e w' ⟨rfl,rfl⟩
   exact ⟨rfl,Drw.refl _⟩
  ·
   rw [hy,ho]
   have hF2 := (Fam.stable (fabX_stable b A c v f)).later hF (d.mod (fun _ => False)) (by simp)
   obtain ⟨o,hR,-,-⟩ := fab_lk hF2 hk.len hn hp (hk.ll n hn) hy
   have hlk := hk.lk n p hn hp y hy
   have hR1 := hk.ok.R1
   refine (link_may (A.lk n p) _ _ _ l y _ _ hR (by omega) hlk.L8 hlk.cl).mono fun e w' h => ⟨?_,h.2⟩
   rw [h.1]
   have e1 : mayF c (some y) (l : Int) = (decide (0 < y.credits.getD l 0) && decide ((y.words.length : Int) < (c.Ring.toNat : Int))) := by
    show y.may c (l : Int) = _
    unfold LinkS.may
    rw [decide_eq_true (show (0 : Int) ≤ (l : Int) by omega),decide_eq_true hl,Bool.true_and,Bool.true_and,Int.toNat_natCast,Int.toNat_of_nonneg (show 0 ≤ c.Ring by omega)]
   rw [e1]
theorem link_taken_all (b L D R k : Nat) (s : LinkS) (own : Nat→Prop) (w : World) (h : LinkAt b L D R s w own) (hs : LinkOk L D R s) (hk : k < L) :
  Calls Tryz.prog 103 #[.pointer (some ⟨b,0,none⟩),.int .i64 (k : Int)] w fun e w' => (∃ er : Int,e = .returned (.int .i64 er))∧Turn own (LinkAt b L D R (if s.far.getD k 0 ≠ 0 then ⟨s.credits,bump s.far (k : Int) (-1),s.words,s.back ++ [(k : Int)]⟩ else s)) w w' := by
 by_cases hf : s.far.getD k 0 = 0
 ·
  rw [if_neg (fun e => e hf)]
  exact (link_taken_none b L D R k s own w h hs hk hf).mono fun e w' ⟨er,_,he,t⟩ => ⟨⟨er,he⟩,t⟩
 ·
  rw [if_pos hf]
  exact (link_taken b L D R k s own w h hs hk hf (hs.back_lt hk hf)).mono fun e w' ⟨er,_,he,t⟩ => ⟨⟨er,he⟩,t⟩
theorem fabric_move (hF : Fam (fabX b A c v f) w own) (hk : FabOk c f) {kind n p l : Nat} (hn : n < c.nodes.toNat) (hp : p < 5) {ch : Int} :
  Calls Tryz.prog 64 #[.pointer (some ⟨b,0,none⟩),.agg (partA kind n p l),.int .i64 ch] w fun e w' =>
   e = .returned (.bool (f.move c (n : Int) (p : Int)).2)∧Turn own (Fam (fabX b A c v (f.move c (n : Int) (p : Int)).1)) w w' := by
 obtain ⟨g,o,cc,hC⟩ := fab_fcells hF (show 0 < c.nodes.toNat by omega)
 obtain ⟨gs,os,cs,hvs⟩ := fab_slice hF (show 0 < c.nodes.toNat by omega)
 have kT := Blk.made w (partA kind n p l) 51
 have m0 : Mod (fun _ => False) w (w.alloc (.cells (partA kind n p l) 51)) := (Mod.refl _ _).alloc _
 have q0 : (0 : Int) ≤ (n : Int) := by omega
 have q1 : (n : Int) < (c.nodes.toNat : Int) := by omega
 have q2 : (0 : Int) ≤ (p : Int) := by omega
 have q3 : (p : Int) < 5 := by omega
 have hL1 := hk.ok.L1
 have hL8 := hk.ok.L2
 have hR1 := hk.ok.R1
 have hnl : n < f.nodes.length := by rw [hk.len]; exact hn
 obtain ⟨T,hT⟩ : ∃ T : FabS × Bool→Ending→World→Prop,T = fun r e w' => e = .returned (.bool r.2)∧Turn own (Fam (fabX b A c v r.1)) w w' := ⟨_,rfl⟩
 have hT2 : ∀ (r : FabS × Bool) w',Turn own (Fam (fabX b A c v r.1)) w w'→T r (.returned (.bool r.2)) w' := fun r w' t => by rw [hT]; exact ⟨rfl,t⟩
 rw [show (fun e w' => e = Ending.returned (.bool (f.move c (n : Int) (p : Int)).2)∧Turn own (Fam (fabX b A c v (f.move c (n : Int) (p : Int)).1)) w w') = T (f.move c (n : Int) (p : Int)) by rw [hT]]
 clear hT
 rcases hK : (f.at (n : Int)).rt.moveK c p (mayF c (f.link (n : Int) (p : Int))) with _ | k0
 ·
  rw [move_none hK]
  go_enter Tryz.func64,Tryz.ntmps64
  go_upto_region 1 with fail
  generalize w.alloc (.cells (partA kind n p l) 51) = w1 at kT m0 ⊢
  have hC1 := hC.later m0
  have HMV : ∀ w',Mod (fun _ => False) w1 w'→Calls Tryz.prog 99 #[.pointer (some ⟨A.rp n,0,none⟩),.int .i64 (p : Int),.func (.func 100) #[.pointer (linkO A c n p)] #[]] w' (fun e w3 => e = .returned (.tuple #[.agg #[.int .i64 0,.int .i64 0,.int .u64 0,.bool false,.bool false,.int .i64 0,.int .i64 0],.bool false])∧∀ w4,Mod (fun _ => False) w3 w4→T (f,false) (.returned (.bool false)) w4) := by
   intro w' m
   have m2 := m0.trans m (by simp)
   have hF2 := (Fam.stable (fabX_stable b A c v f)).later hF m2 (by simp)
   obtain ⟨o,hR,hlo,put⟩ := fab_rt hF2 hk.len hn
   have hf := router_move_none (A.rp n) c (n : Int) p _ _ w' 100 (.pointer (linkO A c n p)) _ hR (hk.rt n hn) hk.ok hp (fun w5 m5 => may_is ((Fam.stable (fabX_stable b A c v f)).later hF2 m5 (by simp)) hk hn hp) hK
   refine hf.mono fun e w3 h => ⟨h.1,fun w4 m4 => hT2 (f,false) _ ?_⟩
   have t := put _ _ h.2
   rw [show (f.at (n : Int)).setRt (f.at (n : Int)).rt = f.at (n : Int) from rfl,put_self hnl] at t
   exact (Turn.before m2 t).behind (Fam.stable (fabX_stable b A c v f)) m4
  have HS : ∀ w',Mod (fun _ => False) w1 w'→(w'.cell? ⟨b,9,none⟩ = some (.slice (some ⟨g,o,none⟩) c.nodes.toNat cc)∧w'.cell? ⟨w.heap.size,1,none⟩ = some (.int .i64 (n : Int))∧w'.cell? ⟨g,o + n * 7,none⟩ = some (.pointer (some ⟨A.rp n,0,none⟩))∧w'.cell? ⟨g,o + n * 7 + 1,none⟩ = some (.pointer (some ⟨A.np n,0,none⟩))∧w'.cell? ⟨g,o + n * 7 + 2,none⟩ = some (.pointer (linkO A c n 0))∧w'.cell? ⟨g,o + n * 7 + 3,none⟩ = some (.pointer (linkO A c n 1))∧w'.cell? ⟨g,o + n * 7 + 4,none⟩ = some (.pointer (linkO A c n 2))∧w'.cell? ⟨g,o + n * 7 + 5,none⟩ = some (.pointer (linkO A c n 3))∧w'.cell? ⟨g,o + n * 7 + 6,none⟩ = some (.pointer (linkO A c n 4))) := fun w' m => ⟨(hC1.later m).c9,(by have := (kT.later m (by simp)).cell 1; simpa [partA] using this),(hC1.later m).at hn⟩
  obtain ⟨N,hN⟩ : ∃ N,c.nodes.toNat = N := ⟨_,rfl⟩
  rw [hN] at HS q1
  obtain ⟨lv,hlv⟩ : ∃ lv,linkO A c n = lv := ⟨_,rfl⟩
  rw [hlv] at HS HMV
  generalize A.rp n = r0 at HS HMV
  generalize A.np n = r1 at HS
  have HS := Lib.hid HS
  have HMV := Lib.hid HMV
  have hp5 : p = 0∨p = 1∨p = 2∨p = 3∨p = 4 := by omega
  have HP5 := Lib.hid hp5
  have t2 : w1.cell? ⟨w.heap.size,2,none⟩ = some (.int .i64 (p : Int)) := by have := kT.cell 2; simpa [partA] using this
  have HT2 := Lib.hid (fun w' (m : Mod (fun _ => False) w1 w') => (m.cell (p := ⟨w.heap.size,2,none⟩) kT.lt (by simp)).trans t2)
  clear hF hC hC1 m0 kT hk hn hnl hT2 hK hp5 hlv hN hvs t2 hp
  refine walkT_begin 9 (fun w' => Mod (fun _ => False) w1 w'∧w'.cell? ⟨b,9,none⟩ = some (.slice (some ⟨g,o,none⟩) N cc)∧w'.cell? ⟨w.heap.size,1,none⟩ = some (.int .i64 (n : Int))∧w'.cell? ⟨g,o + n * 7,none⟩ = some (.pointer (some ⟨r0,0,none⟩))∧w'.cell? ⟨g,o + n * 7 + 1,none⟩ = some (.pointer (some ⟨r1,0,none⟩))∧w'.cell? ⟨g,o + n * 7 + 2,none⟩ = some (.pointer (lv 0))∧w'.cell? ⟨g,o + n * 7 + 3,none⟩ = some (.pointer (lv 1))∧w'.cell? ⟨g,o + n * 7 + 4,none⟩ = some (.pointer (lv 2))∧w'.cell? ⟨g,o + n * 7 + 5,none⟩ = some (.pointer (lv 3))∧w'.cell? ⟨g,o + n * 7 + 6,none⟩ = some (.pointer (lv 4))) (by kernel_rfl) ?_
  have hHeld : (fun w' => Mod (fun _ => False) w1 w'∧w'.cell? ⟨b,9,none⟩ = some (.slice (some ⟨g,o,none⟩) N cc)∧w'.cell? ⟨w.heap.size,1,none⟩ = some (.int .i64 (n : Int))∧w'.cell? ⟨g,o + n * 7,none⟩ = some (.pointer (some ⟨r0,0,none⟩))∧w'.cell? ⟨g,o + n * 7 + 1,none⟩ = some (.pointer (some ⟨r1,0,none⟩))∧w'.cell? ⟨g,o + n * 7 + 2,none⟩ = some (.pointer (lv 0))∧w'.cell? ⟨g,o + n * 7 + 3,none⟩ = some (.pointer (lv 1))∧w'.cell? ⟨g,o + n * 7 + 4,none⟩ = some (.pointer (lv 2))∧w'.cell? ⟨g,o + n * 7 + 5,none⟩ = some (.pointer (lv 3))∧w'.cell? ⟨g,o + n * 7 + 6,none⟩ = some (.pointer (lv 4))) (w1.drew) := by exact ⟨(Mod.refl _ _).drew,HS.out _ ((Mod.refl _ _).drew)⟩
  refine takeT_run 0 (v := ?_) rfl (by kernel_rfl) (by kernel_rfl) (by kernel_rfl) (fun _ _ _ h => h) (by rfl) ?_ (by assumption) ?_
  rotate_left
  ·
   (intro wx hSw; (try dsimp only at hSw); go_simp; try with_reducible rfl)
  try simp only [Act.put,lyA,lyB,lyC]
  refine takeT_run 1 (v := ?_) rfl (by kernel_rfl) (by kernel_rfl) (by kernel_rfl) (fun _ _ _ h => h) (by rfl) ?_ (by assumption) ?_
  rotate_left
  ·
   (intro wx hSw; (try dsimp only at hSw); go_simp; try with_reducible rfl)
  try simp only [Act.put,lyA,lyB,lyC]
  refine takeT_run 2 (v := ?_) rfl (by kernel_rfl) (by kernel_rfl) (by kernel_rfl) (fun _ _ _ h => h) (by rfl) ?_ (by assumption) ?_
  rotate_left
  ·
   (intro wx hSw; (try dsimp only at hSw); go_simp; try with_reducible rfl)
  try simp only [Act.put,lyA,lyB,lyC]
  refine takeT_run 3 (v := ?_) rfl (by kernel_rfl) (by kernel_rfl) (by kernel_rfl) (fun _ _ _ h => h) (by rfl) ?_ (by assumption) ?_
  rotate_left
  ·
   (intro wx hSw; (try dsimp only at hSw); go_simp; try with_reducible rfl)
  try simp only [Act.put,lyA,lyB,lyC]
  refine takeT_run 4 (v := ?_) rfl (by kernel_rfl) (by kernel_rfl) (by kernel_rfl) (fun _ _ _ h => h) (by rfl) ?_ (by assumption) ?_
  rotate_left
  ·
   (intro wx hSw; (try dsimp only at hSw); go_simp; try with_reducible rfl)
  try simp only [Act.put,lyA,lyB,lyC]
  refine takeT_run 5 (v := ?_) rfl (by kernel_rfl) (by kernel_rfl) (by kernel_rfl) (fun _ _ _ h => h) (by rfl) ?_ (by assumption) ?_
  rotate_left
  ·
   (intro wx hSw; (try dsimp only at hSw); go_simp; try with_reducible rfl)
  try simp only [Act.put,lyA,lyB,lyC]
  refine takeT_run 6 (v := ?_) rfl (by kernel_rfl) (by kernel_rfl) (by kernel_rfl) (fun _ _ _ h => h) (by rfl) ?_ (by assumption) ?_
  rotate_left
  ·
   (intro wx hSw; (try dsimp only at hSw); go_simp; try with_reducible rfl)
  try simp only [Act.put,lyA,lyB,lyC]
  refine takeT_run 7 (v := ?_) rfl (by kernel_rfl) (by kernel_rfl) (by kernel_rfl) (fun _ _ _ h => h) (by rfl) ?_ (by assumption) ?_
  rotate_left
  ·
   (intro wx hSw; (try dsimp only at hSw); go_simp; try with_reducible rfl)
  try simp only [Act.put,lyA,lyB,lyC]
  refine takeT_one 8 rfl (by kernel_rfl) (by rfl) ?_
  intro K hK
  go_simp
  have kn := (Blk.made w1 #[.pointer none,.pointer none,.pointer none,.pointer none,.pointer none,.pointer none,.pointer none] 90).drew
  have m2 := ((Mod.refl (fun _ => False) w1).alloc (.cells #[.pointer none,.pointer none,.pointer none,.pointer none,.pointer none,.pointer none,.pointer none] 90)).drew
  generalize (w1.alloc (.cells #[.pointer none,.pointer none,.pointer none,.pointer none,.pointer none,.pointer none,.pointer none] 90)).drew = w2 at kn m2 ⊢
  refine hK.out _ _ ?_ (fun hHeld' => ?_)
  ·
   exact ⟨m2,HS.out _ m2⟩
  clear hK K hHeld
  try simp only [Act.put,lyA,lyB,lyC]
  refine walkT_tail 9 rfl rfl (by kernel_rfl) rfl ?_
  simp only [List.drop_succ_cons,List.drop_zero]
  skip
  have z0 := kn.fz 0
  have z1 := kn.fz 1
  have z2 := kn.fz 2
  have z3 := kn.fz 3
  have z4 := kn.fz 4
  have z5 := kn.fz 5
  have z6 := kn.fz 6
  have h0 := kn.cell 0
  have h1 := kn.cell 1
  have h2 := kn.cell 2
  have h3 := kn.cell 3
  have h4 := kn.cell 4
  have h5 := kn.cell 5
  have h6 := kn.cell 6
  simp at h0 h1 h2 h3 h4 h5 h6
  go_upto_region 2 with fail
  have k2 := (((((((kn.set (0) (.pointer (some ⟨r0,0,none⟩))).set (1) (.pointer (some ⟨r1,0,none⟩))).set (2) (.pointer (lv 0))).set (3) (.pointer (lv 1))).set (4) (.pointer (lv 2))).set (5) (.pointer (lv 3))).set (6) (.pointer (lv 4)))
  have mm2 := (((((((m2.setCell (p := ⟨w1.heap.size,0,none⟩) (Or.inr (Nat.le_refl _)) (.pointer (some ⟨r0,0,none⟩))).setCell (p := ⟨w1.heap.size,1,none⟩) (Or.inr (Nat.le_refl _)) (.pointer (some ⟨r1,0,none⟩))).setCell (p := ⟨w1.heap.size,2,none⟩) (Or.inr (Nat.le_refl _)) (.pointer (lv 0))).setCell (p := ⟨w1.heap.size,3,none⟩) (Or.inr (Nat.le_refl _)) (.pointer (lv 1))).setCell (p := ⟨w1.heap.size,4,none⟩) (Or.inr (Nat.le_refl _)) (.pointer (lv 2))).setCell (p := ⟨w1.heap.size,5,none⟩) (Or.inr (Nat.le_refl _)) (.pointer (lv 3))).setCell (p := ⟨w1.heap.size,6,none⟩) (Or.inr (Nat.le_refl _)) (.pointer (lv 4)))
  simp at k2
  generalize (((((((w2.setCell ⟨w1.heap.size,0,none⟩ (.pointer (some ⟨r0,0,none⟩))).setCell ⟨w1.heap.size,1,none⟩ (.pointer (some ⟨r1,0,none⟩))).setCell ⟨w1.heap.size,2,none⟩ (.pointer (lv 0))).setCell ⟨w1.heap.size,3,none⟩ (.pointer (lv 1))).setCell ⟨w1.heap.size,4,none⟩ (.pointer (lv 2))).setCell ⟨w1.heap.size,5,none⟩ (.pointer (lv 3))).setCell ⟨w1.heap.size,6,none⟩ (.pointer (lv 4))) = w3 at k2 mm2 ⊢
  have n0 := k2.cell 0
  simp at n0
  have np : w3.cell? ⟨w1.heap.size,2 + p,none⟩ = some (.pointer (lv p)) := by
   rw [k2.cell]
   rcases HP5.out with rfl | rfl | rfl | rfl | rfl <;> rfl
  have t2 := HT2.out _ mm2
  clear k2 kn z0 z1 z2 z3 z4 z5 z6 h0 h1 h2 h3 h4 h5 h6
  go_wp2_with fail
  refine (HMV.out _ mm2).mono ?_
  rintro e w4 ⟨rfl,t⟩
  have T1 := Lib.hid t
  clear t
  go_wp2
  exact T1.out _ ((Mod.refl _ _).alloc _)
 ·
  have hmb := moveB_yes (moveK_yes hK)
  obtain ⟨hk00,hk01⟩ := seeR_bd (show (1 : Int) ≤ 5 * c.Lanes by omega) hK
  obtain ⟨kn,rfl⟩ := Int.eq_ofNat_of_zero_le hk00
  rw [Int.toNat_natCast] at hmb
  obtain ⟨-,hport,hqne,hmay⟩ := hmb
  have hkn : kn < 5 * c.Lanes.toNat := by omega
  rcases hq : ((f.at (n : Int)).rt.lanes.getD kn LaneS.new).q with _ | ⟨x,qs⟩
  ·
   exact absurd hq hqne
  have hy := (hk.rt n hn).get hk.ok kn
  obtain ⟨hl0,hl1⟩ := hy.lane
  have hx : x < 2 ^ 64 := hy.q x (by rw [hq]; exact List.mem_cons_self ..)
  obtain ⟨ln,hln⟩ := Int.eq_ofNat_of_zero_le hl0
  rw [move_some (by omega) hl0 hK hq]
  obtain ⟨cp,hcp⟩ : ∃ cp,(((f.at (n : Int)).rt.lanes.getD kn LaneS.new).out x).copy = cp := ⟨_,rfl⟩
  obtain ⟨en,hen⟩ : ∃ en,(((f.at (n : Int)).rt.lanes.getD kn LaneS.new).out x).ends = en := ⟨_,rfl⟩
  rw [hcp,hln]
  rw [hln] at hl1 hmay
  have hf1 := hk.mv1 (p := p) hn hkn hq
  have hf2 : FabOk c ((f.mv1 c n p kn x qs).mv2 c n kn) := hf1.mv2 hkn
  have hf3 : FabOk c (((f.mv1 c n p kn x qs).mv2 c n kn).mv3 n p kn x cp) := hf2.mv3 hn cp
  obtain ⟨f1,hf1e⟩ : ∃ f1,f.mv1 c n p kn x qs = f1 := ⟨_,rfl⟩
  rw [hf1e] at hf1 hf2 hf3 ⊢
  obtain ⟨f2,hf2e⟩ : ∃ f2,f1.mv2 c n kn = f2 := ⟨_,rfl⟩
  rw [hf2e] at hf2 hf3 ⊢
  obtain ⟨f3,hf3e⟩ : ∃ f3,f2.mv3 n p kn x cp = f3 := ⟨_,rfl⟩
  rw [hf3e] at hf3 ⊢
  obtain ⟨f4,hf4e⟩ : ∃ f4,f3.mv4 c n p (ln : Int) x = f4 := ⟨_,rfl⟩
  rw [hf4e]
  obtain ⟨fp,hfp⟩ := Int.eq_ofNat_of_zero_le (show 0 ≤ (kn : Int) / c.Lanes from Int.ediv_nonneg (by omega) (by omega))
  obtain ⟨fl,hfl⟩ := Int.eq_ofNat_of_zero_le (show 0 ≤ (kn : Int) % c.Lanes from Int.emod_nonneg _ (by omega))
  have hfp5 : (kn : Int) / c.Lanes < 5 := Int.ediv_lt_of_lt_mul (by omega) (by omega)
  have hfl1 : (kn : Int) % c.Lanes < c.Lanes := Int.emod_lt_of_pos _ (by omega)
  have hkfl : fp * c.Lanes.toNat + fl = kn := by
   have h1 := Int.mul_ediv_add_emod (kn : Int) c.Lanes
   rw [hfp,hfl] at h1
   obtain ⟨L,hL⟩ := Int.eq_ofNat_of_zero_le (show 0 ≤ c.Lanes by omega)
   rw [hL] at h1 ⊢
   rw [Int.toNat_natCast]
   have h2 : (L : Int) * (fp : Int) = ((fp * L : Nat) : Int) := by rw [Int.mul_comm]; push_cast; rfl
   rw [h2] at h1
   omega
  rw [hfp] at hfp5
  rw [hfl] at hfl1
  have hMV : ∀ bs w',Mid b A c v own w bs f w'→Calls Tryz.prog 99 #[.pointer (some ⟨A.rp n,0,none⟩),.int .i64 (p : Int),.func (.func 100) #[.pointer (linkO A c n p)] #[]] w' (fun e w4 => e = .returned (.tuple #[.agg #[.int .i64 (p : Int),.int .i64 (ln : Int),.int .u64 (x : Int),.bool cp,.bool en,.int .i64 (fp : Int),.int .i64 (fl : Int)],.bool true])∧Mid b A c v own w bs f1 w4) := by
   intro bs w' M
   refine M.call (fun o' hF' => ?_)
   obtain ⟨o,hR,hlo,put⟩ := fab_rt hF' hk.len hn
   have hf := router_move_some (A.rp n) c (n : Int) p kn x qs _ _ w' 100 (.pointer (linkO A c n p)) _ hR (hk.rt n hn) hk.ok hp (fun w5 m5 => may_is ((Fam.stable (fabX_stable b A c v f)).later hF' m5 (by simp)) hk hn hp) hK hq
   refine hf.mono fun e w4 h => ⟨?_,?_⟩
   ·
    rw [h.1,hfp,hfl]
    unfold movedV
    rw [hcp,hen]
    have e1 : (((f.at (n : Int)).rt.lanes.getD kn LaneS.new).out x).port = (p : Int) := hport
    have e2 : (((f.at (n : Int)).rt.lanes.getD kn LaneS.new).out x).lane = (ln : Int) := hln
    have e3 : (((f.at (n : Int)).rt.lanes.getD kn LaneS.new).out x).word = x := rfl
    rw [e1,e2,e3]
   ·
    have t := put _ _ h.2
    rw [show f.put (n : Int) ((f.at (n : Int)).setRt ((f.at (n : Int)).rt.moved c p kn x qs)) = f1 from hf1e] at t
    exact t
  have hTK : ∃ (dd : Int) (be : Bool) (m q : Nat),c.besV (n : Int) (fp : Int) = dd∧c.besB (n : Int) (fp : Int) = be∧(¬ (be = true∧fp ≠ 0)→f2 = f1)∧((be = true∧fp ≠ 0)→dd = (m : Int)∧backP (fp : Int) = (q : Int)∧m < c.nodes.toNat∧q < 5∧linkO A c m q = some ⟨A.lk m q,0,none⟩∧∀ bs w',Mid b A c v own w bs f1 w'→Calls Tryz.prog 103 #[.pointer (some ⟨A.lk m q,0,none⟩),.int .i64 (fl : Int)] w' (fun e w4 => (∃ er : Int,e = .returned (.int .i64 er))∧Mid b A c v own w bs f2 w4)) := by
   by_cases hb : c.besB (n : Int) (fp : Int) = true∧fp ≠ 0
   ·
    obtain ⟨m,hm,hmN⟩ := bes_at hb.1
    obtain ⟨q,hqe,hq5,hq1⟩ := back_is (p := fp) (by omega)
    have hfp1 : 1 ≤ fp := by omega
    obtain ⟨hbb,-⟩ := bes_back (by omega) hb.1
    rw [hm,hqe] at hbb
    refine ⟨_,_,m,q,rfl,rfl,fun h => absurd hb h,fun _ => ⟨hm,hqe,hmN,hq5,by unfold linkO; rw [if_pos ⟨hq1 hfp1,hbb⟩],fun bs w' M => ?_⟩⟩
    obtain ⟨z,hz⟩ := hf1.some_link hmN (hq1 hfp1) hq5 hbb
    refine M.call (fun o' hF' => ?_)
    obtain ⟨o,hR,hlo,put⟩ := fab_lk hF' hf1.len hmN hq5 (hf1.ll m hmN) hz
    have hf := link_taken_all (A.lk m q) _ _ _ fl z _ _ hR (hf1.lk m q hmN hq5 z hz) (by omega)
    refine hf.mono fun e w4 h => ⟨h.1,?_⟩
    have t := put _ _ h.2
    have e5 : f2 = f1.put (m : Int) ((f1.at (m : Int)).setLk q (z.taken c (fl : Int))) := by
     rw [← hf2e]
     unfold FabS.mv2
     rw [hfp,hfl,if_pos ⟨by omega,hb.1⟩,hm,hqe,setLink_is hz]
    rw [e5,taken_is hfl1]
    exact t
   ·
    refine ⟨_,_,0,0,rfl,rfl,fun _ => ?_,fun h => absurd h hb⟩
    rw [← hf2e]
    unfold FabS.mv2
    rw [hfp,if_neg (fun h => hb ⟨h.2,by omega⟩)]
  have hTA : (p = 0∨cp = true)→∀ bs w',Mid b A c v own w bs f2 w'→Calls Tryz.prog 104 #[.pointer (some ⟨A.np n,0,none⟩),.int .i64 (fp : Int),.int .i64 (fl : Int),.int .u64 (x : Int)] w' (fun e w4 => (∃ er : Int,e = .returned (.int .i64 er))∧Mid b A c v own w bs f3 w4) := by
   intro hh bs w' M
   refine M.call (fun o' hF' => ?_)
   obtain ⟨o,hR,hlo,put⟩ := fab_nic hF' hf2.len hn
   have hf := nic_take (A.np n) c (n : Int) fp fl x _ _ _ hR (hf2.nc n hn) (by omega) hfl1 hL8 hx
   refine hf.mono fun e w4 ⟨er,h1,h2⟩ => ⟨⟨er,h1⟩,?_⟩
   have t := put _ _ h2
   rw [hkfl] at t
   have e5 : f3 = f2.put (n : Int) ((f2.at (n : Int)).setNc ((f2.at (n : Int)).nc.took kn x)) := by
    rw [← hf3e]
    unfold FabS.mv3
    rw [if_pos hh]
   rw [e5]
   exact t
  have hTA2 : ¬ (p = 0∨cp = true)→f3 = f2 := by
   intro hh
   rw [← hf3e]
   unfold FabS.mv3
   rw [if_neg hh]
  have hSD : p ≠ 0→linkO A c n p = some ⟨A.lk n p,0,none⟩∧∀ bs w',Mid b A c v own w bs f3 w'→Calls Tryz.prog 105 #[.pointer (some ⟨A.lk n p,0,none⟩),.agg #[.int .i64 (ln : Int),.int .u64 (x : Int)]] w' (fun e w4 => (∃ er : Int,e = .returned (.int .i64 er))∧Mid b A c v own w bs f4 w4) := by
   intro hp0
   have hm := hmay.resolve_left hp0
   have hb : c.besB (n : Int) (p : Int) = true := by
    have h := hk.is n p hn hp
    rw [show (f.at (n : Int)).link (p : Int) = f.link (n : Int) (p : Int) from rfl] at h
    rcases hz : f.link (n : Int) (p : Int) with _ | z
    ·
     rw [hz] at hm
     cases hm
    ·
     rw [hz] at h
     have := of_decide_eq_true h.symm
     exact this.2
   refine ⟨by unfold linkO; rw [if_pos ⟨by omega,hb⟩],fun bs w' M => ?_⟩
   obtain ⟨z,hz⟩ := hf3.some_link hn (by omega) hp hb
   refine M.call (fun o' hF' => ?_)
   obtain ⟨o,hR,hlo,put⟩ := fab_lk hF' hf3.len hn hp (hf3.ll n hn) hz
   have hf := link_send (A.lk n p) _ _ _ ln x z _ _ hR (hf3.lk n p hn hp z hz) (by omega)
   refine hf.mono fun e w4 ⟨er,_,h1,h2⟩ => ⟨⟨er,h1⟩,?_⟩
   have t := put _ _ h2
   have e5 : f4 = f3.put (n : Int) ((f3.at (n : Int)).setLk p (z.send c (ln : Int) x)) := by
    rw [← hf4e]
    unfold FabS.mv4
    rw [if_pos hp0,setLink_is hz]
   rw [e5,send_is (by omega) hl1]
   exact t
  have hSD2 : p = 0→f4 = f3 := by
   intro hh
   rw [← hf4e]
   unfold FabS.mv4
   rw [if_neg (fun h => h hh)]
  have hT4 : ∀ bs w',Mid b A c v own w bs f4 w'→T (f4,true) (.returned (.bool true)) w' := fun bs w' M => hT2 (f4,true) _ M.turn
  have hp5 : p = 0∨p = 1∨p = 2∨p = 3∨p = 4 := by omega
  obtain ⟨dd,be,m,q,hdd,hbe,hTK2,hTK⟩ := hTK
  have hqb := hTK
  have HB := Lib.hid (fun w => run_Beside c (n : Int) (fp : Int) w)
  rw [hdd,hbe] at HB
  have HQ := Lib.hid (fun (h : be = true∧fp ≠ 0) w => (by
   have := run_Back fp (by omega) w
   rw [(hTK h).2.1] at this
   exact this : Calls Tryz.prog 102 #[.int .i64 (fp : Int)] w fun e w' => e = .returned (.int .i64 (q : Int))∧w' = w))
  subst hvs
  have HFC := Lib.hid (fun bs fi w' (M : Mid b A c (.slice (some ⟨gs,os,none⟩) c.nodes.toNat cs) own w bs fi w') => M.fcells rfl)
  have HLK := Lib.hid (fun (h : be = true∧fp ≠ 0) bs fi w' (M : Mid b A c (.slice (some ⟨gs,os,none⟩) c.nodes.toNat cs) own w bs fi w') => (by
   have := fabric_Link (M.fcells rfl) (hTK h).2.2.1 (hTK h).2.2.2.1
   rw [(hTK h).2.2.2.2.1] at this
   exact this : Calls Tryz.prog 28 #[.pointer (some ⟨b,0,none⟩),.int .i64 (m : Int),.int .i64 (q : Int)] w' fun e w'' => e = .returned (.pointer (some ⟨A.lk m q,0,none⟩))∧w'' = w'))
  have hTKc : (be = true∧fp ≠ 0)→dd = (m : Int)∧∀ bs w',Mid b A c (.slice (some ⟨gs,os,none⟩) c.nodes.toNat cs) own w bs f1 w'→Calls Tryz.prog 103 #[.pointer (some ⟨A.lk m q,0,none⟩),.int .i64 (fl : Int)] w' (fun e w4 => (∃ er : Int,e = .returned (.int .i64 er))∧Mid b A c (.slice (some ⟨gs,os,none⟩) c.nodes.toNat cs) own w bs f2 w4) := fun h => ⟨(hTK h).1,(hTK h).2.2.2.2.2⟩
  have HM0 := Lib.hid (Mid.start hF)
  generalize A.lk m q = lkq at hTKc HLK
  have HTKc := Lib.hid hTKc
  have HTK2 := Lib.hid hTK2
  have HTA := Lib.hid hTA
  have HTA2 := Lib.hid hTA2
  have HSD2 := Lib.hid hSD2
  have HT4 := Lib.hid hT4
  go_enter Tryz.func64,Tryz.ntmps64
  go_upto_region 1 with fail
  generalize w.alloc (.cells (partA kind n p l) 51) = w1 at kT m0 ⊢
  have hC1 := hC.later m0
  have HS : ∀ w',Mod (fun _ => False) w1 w'→(w'.cell? ⟨b,9,none⟩ = some (.slice (some ⟨g,o,none⟩) c.nodes.toNat cc)∧w'.cell? ⟨w.heap.size,1,none⟩ = some (.int .i64 (n : Int))∧w'.cell? ⟨g,o + n * 7,none⟩ = some (.pointer (some ⟨A.rp n,0,none⟩))∧w'.cell? ⟨g,o + n * 7 + 1,none⟩ = some (.pointer (some ⟨A.np n,0,none⟩))∧w'.cell? ⟨g,o + n * 7 + 2,none⟩ = some (.pointer (linkO A c n 0))∧w'.cell? ⟨g,o + n * 7 + 3,none⟩ = some (.pointer (linkO A c n 1))∧w'.cell? ⟨g,o + n * 7 + 4,none⟩ = some (.pointer (linkO A c n 2))∧w'.cell? ⟨g,o + n * 7 + 5,none⟩ = some (.pointer (linkO A c n 3))∧w'.cell? ⟨g,o + n * 7 + 6,none⟩ = some (.pointer (linkO A c n 4))) := fun w' m => ⟨(hC1.later m).c9,(by have := (kT.later m (by simp)).cell 1; simpa [partA] using this),(hC1.later m).at hn⟩
  obtain ⟨lv,hlv⟩ : ∃ lv,linkO A c n = lv := ⟨_,rfl⟩
  rw [hlv] at HS hMV hSD
  generalize A.rp n = r0 at HS hMV
  generalize A.np n = r1 at HS HTA
  generalize A.lk n p = lkp at hSD
  obtain ⟨N,hN⟩ : ∃ N,c.nodes.toNat = N := ⟨_,rfl⟩
  have HM3 := Lib.hid (fun w3 (m : Mod (fun _ => False) w1 w3) (k : Blk w3 w1.heap.size #[.pointer (some ⟨r0,0,none⟩),.pointer (some ⟨r1,0,none⟩),.pointer (lv 0),.pointer (lv 1),.pointer (lv 2),.pointer (lv 3),.pointer (lv 4)] 90) => ((HM0.out.add m0 (Nat.le_refl _) kT).add m (Nat.le_refl _) k))
  rw [hN] at HS q1 HM3 HFC HLK HTKc HTA hMV hSD HT4
  have HS := Lib.hid HS
  have HMV := Lib.hid hMV
  have HSD := Lib.hid hSD
  have HP5 := Lib.hid hp5
  have t2 : w1.cell? ⟨w.heap.size,2,none⟩ = some (.int .i64 (p : Int)) := by have := kT.cell 2; simpa [partA] using this
  have HT2 := Lib.hid (fun w' (m : Mod (fun _ => False) w1 w') => (m.cell (p := ⟨w.heap.size,2,none⟩) kT.lt (by simp)).trans t2)
  clear hF hC hC1 m0 kT hk hn hnl hT2 hK hp5 hlv hN t2 hp hqb hTKc hTK hTK2 hTA hTA2 hSD hSD2 hT4 hMV HM0 hf1 hf2 hf3 hf1e hf2e hf3e hf4e hkfl hcp hen hy hq hqne hport hmay hl0 hln hkn hdd hbe hk00 hk01 hfp hfl hL1 hL8 hR1
  refine walkT_begin 9 (fun w' => Mod (fun _ => False) w1 w'∧w'.cell? ⟨b,9,none⟩ = some (.slice (some ⟨g,o,none⟩) N cc)∧w'.cell? ⟨w.heap.size,1,none⟩ = some (.int .i64 (n : Int))∧w'.cell? ⟨g,o + n * 7,none⟩ = some (.pointer (some ⟨r0,0,none⟩))∧w'.cell? ⟨g,o + n * 7 + 1,none⟩ = some (.pointer (some ⟨r1,0,none⟩))∧w'.cell? ⟨g,o + n * 7 + 2,none⟩ = some (.pointer (lv 0))∧w'.cell? ⟨g,o + n * 7 + 3,none⟩ = some (.pointer (lv 1))∧w'.cell? ⟨g,o + n * 7 + 4,none⟩ = some (.pointer (lv 2))∧w'.cell? ⟨g,o + n * 7 + 5,none⟩ = some (.pointer (lv 3))∧w'.cell? ⟨g,o + n * 7 + 6,none⟩ = some (.pointer (lv 4))) (by kernel_rfl) ?_
  have hHeld : (fun w' => Mod (fun _ => False) w1 w'∧w'.cell? ⟨b,9,none⟩ = some (.slice (some ⟨g,o,none⟩) N cc)∧w'.cell? ⟨w.heap.size,1,none⟩ = some (.int .i64 (n : Int))∧w'.cell? ⟨g,o + n * 7,none⟩ = some (.pointer (some ⟨r0,0,none⟩))∧w'.cell? ⟨g,o + n * 7 + 1,none⟩ = some (.pointer (some ⟨r1,0,none⟩))∧w'.cell? ⟨g,o + n * 7 + 2,none⟩ = some (.pointer (lv 0))∧w'.cell? ⟨g,o + n * 7 + 3,none⟩ = some (.pointer (lv 1))∧w'.cell? ⟨g,o + n * 7 + 4,none⟩ = some (.pointer (lv 2))∧w'.cell? ⟨g,o + n * 7 + 5,none⟩ = some (.pointer (lv 3))∧w'.cell? ⟨g,o + n * 7 + 6,none⟩ = some (.pointer (lv 4))) (w1.drew) := by exact ⟨(Mod.refl _ _).drew,HS.out _ ((Mod.refl _ _).drew)⟩
  refine takeT_run 0 (v := ?_) rfl (by kernel_rfl) (by kernel_rfl) (by kernel_rfl) (fun _ _ _ h => h) (by rfl) ?_ (by assumption) ?_
  rotate_left
  ·
   (intro wx hSw; (try dsimp only at hSw); go_simp; try with_reducible rfl)
  try simp only [Act.put,lyA,lyB,lyC]
  refine takeT_run 1 (v := ?_) rfl (by kernel_rfl) (by kernel_rfl) (by kernel_rfl) (fun _ _ _ h => h) (by rfl) ?_ (by assumption) ?_
  rotate_left
  ·
   (intro wx hSw; (try dsimp only at hSw); go_simp; try with_reducible rfl)
  try simp only [Act.put,lyA,lyB,lyC]
  refine takeT_run 2 (v := ?_) rfl (by kernel_rfl) (by kernel_rfl) (by kernel_rfl) (fun _ _ _ h => h) (by rfl) ?_ (by assumption) ?_
  rotate_left
  ·
   (intro wx hSw; (try dsimp only at hSw); go_simp; try with_reducible rfl)
  try simp only [Act.put,lyA,lyB,lyC]
  refine takeT_run 3 (v := ?_) rfl (by kernel_rfl) (by kernel_rfl) (by kernel_rfl) (fun _ _ _ h => h) (by rfl) ?_ (by assumption) ?_
  rotate_left
  ·
   (intro wx hSw; (try dsimp only at hSw); go_simp; try with_reducible rfl)
  try simp only [Act.put,lyA,lyB,lyC]
  refine takeT_run 4 (v := ?_) rfl (by kernel_rfl) (by kernel_rfl) (by kernel_rfl) (fun _ _ _ h => h) (by rfl) ?_ (by assumption) ?_
  rotate_left
  ·
   (intro wx hSw; (try dsimp only at hSw); go_simp; try with_reducible rfl)
  try simp only [Act.put,lyA,lyB,lyC]
  refine takeT_run 5 (v := ?_) rfl (by kernel_rfl) (by kernel_rfl) (by kernel_rfl) (fun _ _ _ h => h) (by rfl) ?_ (by assumption) ?_
  rotate_left
  ·
   (intro wx hSw; (try dsimp only at hSw); go_simp; try with_reducible rfl)
  try simp only [Act.put,lyA,lyB,lyC]
  refine takeT_run 6 (v := ?_) rfl (by kernel_rfl) (by kernel_rfl) (by kernel_rfl) (fun _ _ _ h => h) (by rfl) ?_ (by assumption) ?_
  rotate_left
  ·
   (intro wx hSw; (try dsimp only at hSw); go_simp; try with_reducible rfl)
  try simp only [Act.put,lyA,lyB,lyC]
  refine takeT_run 7 (v := ?_) rfl (by kernel_rfl) (by kernel_rfl) (by kernel_rfl) (fun _ _ _ h => h) (by rfl) ?_ (by assumption) ?_
  rotate_left
  ·
   (intro wx hSw; (try dsimp only at hSw); go_simp; try with_reducible rfl)
  try simp only [Act.put,lyA,lyB,lyC]
  refine takeT_one 8 rfl (by kernel_rfl) (by rfl) ?_
  intro K hK
  go_simp
  have kn := (Blk.made w1 #[.pointer none,.pointer none,.pointer none,.pointer none,.pointer none,.pointer none,.pointer none] 90).drew
  have m2 := ((Mod.refl (fun _ => False) w1).alloc (.cells #[.pointer none,.pointer none,.pointer none,.pointer none,.pointer none,.pointer none,.pointer none] 90)).drew
  generalize (w1.alloc (.cells #[.pointer none,.pointer none,.pointer none,.pointer none,.pointer none,.pointer none,.pointer none] 90)).drew = w2 at kn m2 ⊢
  refine hK.out _ _ ?_ (fun hHeld' => ?_)
  ·
   exact ⟨m2,HS.out _ m2⟩
  clear hK K hHeld
  try simp only [Act.put,lyA,lyB,lyC]
  refine walkT_tail 9 rfl rfl (by kernel_rfl) rfl ?_
  simp only [List.drop_succ_cons,List.drop_zero]
  skip
  have z0 := kn.fz 0
  have z1 := kn.fz 1
  have z2 := kn.fz 2
  have z3 := kn.fz 3
  have z4 := kn.fz 4
  have z5 := kn.fz 5
  have z6 := kn.fz 6
  have h0 := kn.cell 0
  have h1 := kn.cell 1
  have h2 := kn.cell 2
  have h3 := kn.cell 3
  have h4 := kn.cell 4
  have h5 := kn.cell 5
  have h6 := kn.cell 6
  simp at h0 h1 h2 h3 h4 h5 h6
  go_upto_region 2 with fail
  have k2 := (((((((kn.set (0) (.pointer (some ⟨r0,0,none⟩))).set (1) (.pointer (some ⟨r1,0,none⟩))).set (2) (.pointer (lv 0))).set (3) (.pointer (lv 1))).set (4) (.pointer (lv 2))).set (5) (.pointer (lv 3))).set (6) (.pointer (lv 4)))
  have mm2 := (((((((m2.setCell (p := ⟨w1.heap.size,0,none⟩) (Or.inr (Nat.le_refl _)) (.pointer (some ⟨r0,0,none⟩))).setCell (p := ⟨w1.heap.size,1,none⟩) (Or.inr (Nat.le_refl _)) (.pointer (some ⟨r1,0,none⟩))).setCell (p := ⟨w1.heap.size,2,none⟩) (Or.inr (Nat.le_refl _)) (.pointer (lv 0))).setCell (p := ⟨w1.heap.size,3,none⟩) (Or.inr (Nat.le_refl _)) (.pointer (lv 1))).setCell (p := ⟨w1.heap.size,4,none⟩) (Or.inr (Nat.le_refl _)) (.pointer (lv 2))).setCell (p := ⟨w1.heap.size,5,none⟩) (Or.inr (Nat.le_refl _)) (.pointer (lv 3))).setCell (p := ⟨w1.heap.size,6,none⟩) (Or.inr (Nat.le_refl _)) (.pointer (lv 4)))
  simp at k2
  generalize (((((((w2.setCell ⟨w1.heap.size,0,none⟩ (.pointer (some ⟨r0,0,none⟩))).setCell ⟨w1.heap.size,1,none⟩ (.pointer (some ⟨r1,0,none⟩))).setCell ⟨w1.heap.size,2,none⟩ (.pointer (lv 0))).setCell ⟨w1.heap.size,3,none⟩ (.pointer (lv 1))).setCell ⟨w1.heap.size,4,none⟩ (.pointer (lv 2))).setCell ⟨w1.heap.size,5,none⟩ (.pointer (lv 3))).setCell ⟨w1.heap.size,6,none⟩ (.pointer (lv 4))) = w3 at k2 mm2 ⊢
  have M3 := HM3.out _ mm2 k2
  have n0 := k2.cell 0
  simp at n0
  have np : w3.cell? ⟨w1.heap.size,2 + p,none⟩ = some (.pointer (lv p)) := by
   rw [k2.cell]
   rcases HP5.out with rfl | rfl | rfl | rfl | rfl <;> rfl
  have t2 := HT2.out _ mm2
  clear k2 kn z0 z1 z2 z3 z4 z5 z6 h0 h1 h2 h3 h4 h5 h6 HS HT2 HM3
  go_wp2_with fail
  refine (HMV.out _ _ M3).mono ?_
  rintro e w4 ⟨rfl,M4⟩
  have m5 : Mod (fun _ => False) w4 (w4.alloc (.cells #[.int .i64 (p : Int),.int .i64 (ln : Int),.int .u64 (x : Int),.bool cp,.bool en,.int .i64 (fp : Int),.int .i64 (fl : Int)] 149)) := (Mod.refl _ _).alloc _
  have k5 := Blk.made w4 #[.int .i64 (p : Int),.int .i64 (ln : Int),.int .u64 (x : Int),.bool cp,.bool en,.int .i64 (fp : Int),.int .i64 (fl : Int)] 149
  have M5 := M4.add m5 (Nat.le_refl _) k5
  clear m2 mm2 M3 n0 np t2 HMV
  go_upto_region 6 with fail
  generalize w4.alloc (.cells #[.int .i64 (p : Int),.int .i64 (ln : Int),.int .u64 (x : Int),.bool cp,.bool en,.int .i64 (fp : Int),.int .i64 (fl : Int)] 149) = w5 at m5 k5 M5 ⊢
  have HS6 := Lib.hid (fun w' (m : Mod (fun _ => False) w5 w') => And.intro (HFC.out _ _ _ (M5.later m)).cfg (And.intro (show w'.cell? ⟨w.heap.size,1,none⟩ = some (.int .i64 (n : Int)) by have := ((M5.later m).blk (by simp : (w.heap.size,partA kind n p l,51) ∈ _)).cell 1; simpa [partA] using this) (show w'.cell? ⟨w4.heap.size,5,none⟩ = some (.int .i64 (fp : Int)) from (k5.later m (by simp)).cell 5)))
  refine wp_region_quiet_tail 13 (fun w' => Mod (fun _ => False) w5 w') (by kernel_rfl) (by kernel_rfl) ?_ ?_
  ·
   exact (Mod.refl _ _).drew
  simp only [List.take_succ_cons,List.take_zero,List.drop_succ_cons,List.drop_zero]
  refine quiet_op ?vvq0_0 rfl ?hvq0_0 ?restq0_0
  case hvq0_0 =>
   intro wx hC
   obtain ⟨hC9,t1,d5⟩ := HS6.out _ hC
   obtain ⟨c0,c1,c2,c3,c4,c5,c6,c7,c8⟩ := hC9
   go_simp
   all_goals first | exact ⟨rfl,rfl⟩ | rfl
  try simp only [Act.put,lyA,lyB,lyC]
  refine quiet_op ?vvq0_1 rfl ?hvq0_1 ?restq0_1
  case hvq0_1 =>
   intro wx hC
   obtain ⟨hC9,t1,d5⟩ := HS6.out _ hC
   obtain ⟨c0,c1,c2,c3,c4,c5,c6,c7,c8⟩ := hC9
   go_simp
   all_goals first | exact ⟨rfl,rfl⟩ | rfl
  try simp only [Act.put,lyA,lyB,lyC]
  refine quiet_op ?vvq0_2 rfl ?hvq0_2 ?restq0_2
  case hvq0_2 =>
   intro wx hC
   obtain ⟨hC9,t1,d5⟩ := HS6.out _ hC
   obtain ⟨c0,c1,c2,c3,c4,c5,c6,c7,c8⟩ := hC9
   go_simp
   all_goals first | exact ⟨rfl,rfl⟩ | rfl
  try simp only [Act.put,lyA,lyB,lyC]
  refine quiet_op ?vvq0_3 rfl ?hvq0_3 ?restq0_3
  case hvq0_3 =>
   intro wx hC
   obtain ⟨hC9,t1,d5⟩ := HS6.out _ hC
   obtain ⟨c0,c1,c2,c3,c4,c5,c6,c7,c8⟩ := hC9
   go_simp
   all_goals first | exact ⟨rfl,rfl⟩ | rfl
  try simp only [Act.put,lyA,lyB,lyC]
  refine quiet_op ?vvq0_4 rfl ?hvq0_4 ?restq0_4
  case hvq0_4 =>
   intro wx hC
   obtain ⟨hC9,t1,d5⟩ := HS6.out _ hC
   obtain ⟨c0,c1,c2,c3,c4,c5,c6,c7,c8⟩ := hC9
   go_simp
   all_goals first | exact ⟨rfl,rfl⟩ | rfl
  try simp only [Act.put,lyA,lyB,lyC]
  refine quiet_op ?vvq0_5 rfl ?hvq0_5 ?restq0_5
  case hvq0_5 =>
   intro wx hC
   obtain ⟨hC9,t1,d5⟩ := HS6.out _ hC
   obtain ⟨c0,c1,c2,c3,c4,c5,c6,c7,c8⟩ := hC9
   go_simp
   all_goals first | exact ⟨rfl,rfl⟩ | rfl
  try simp only [Act.put,lyA,lyB,lyC]
  refine quiet_op ?vvq0_6 rfl ?hvq0_6 ?restq0_6
  case hvq0_6 =>
   intro wx hC
   obtain ⟨hC9,t1,d5⟩ := HS6.out _ hC
   obtain ⟨c0,c1,c2,c3,c4,c5,c6,c7,c8⟩ := hC9
   go_simp
   all_goals first | exact ⟨rfl,rfl⟩ | rfl
  try simp only [Act.put,lyA,lyB,lyC]
  refine quiet_op ?vvq0_7 rfl ?hvq0_7 ?restq0_7
  case hvq0_7 =>
   intro wx hC
   obtain ⟨hC9,t1,d5⟩ := HS6.out _ hC
   obtain ⟨c0,c1,c2,c3,c4,c5,c6,c7,c8⟩ := hC9
   go_simp
   all_goals first | exact ⟨rfl,rfl⟩ | rfl
  try simp only [Act.put,lyA,lyB,lyC]
  refine quiet_op (.tuple #[.int .i64 dd,.bool be]) rfl ?hvq0_8 ?restq0_8
  case hvq0_8 =>
   intro wx hC
   obtain ⟨hC9,t1,d5⟩ := HS6.out _ hC
   obtain ⟨c0,c1,c2,c3,c4,c5,c6,c7,c8⟩ := hC9
   go_simp
   refine (HB.out wx).mono ?_
   rintro e wy ⟨rfl,my⟩
   exact ⟨rfl,hC.trans my (fun _ _ e => e)⟩
  try simp only [Act.put,lyA,lyB,lyC]
  refine quiet_op ?vvq0_9 rfl ?hvq0_9 ?restq0_9
  case hvq0_9 =>
   intro wx hC
   obtain ⟨hC9,t1,d5⟩ := HS6.out _ hC
   obtain ⟨c0,c1,c2,c3,c4,c5,c6,c7,c8⟩ := hC9
   go_simp
   all_goals first | exact ⟨rfl,rfl⟩ | rfl
  try simp only [Act.put,lyA,lyB,lyC]
  refine quiet_op ?vvq0_10 rfl ?hvq0_10 ?restq0_10
  case hvq0_10 =>
   intro wx hC
   obtain ⟨hC9,t1,d5⟩ := HS6.out _ hC
   obtain ⟨c0,c1,c2,c3,c4,c5,c6,c7,c8⟩ := hC9
   go_simp
   all_goals first | exact ⟨rfl,rfl⟩ | rfl
  try simp only [Act.put,lyA,lyB,lyC]
  refine quiet_op ?vvq0_11 rfl ?hvq0_11 ?restq0_11
  case hvq0_11 =>
   intro wx hC
   obtain ⟨hC9,t1,d5⟩ := HS6.out _ hC
   obtain ⟨c0,c1,c2,c3,c4,c5,c6,c7,c8⟩ := hC9
   go_simp
   all_goals first | exact ⟨rfl,rfl⟩ | rfl
  try simp only [Act.put,lyA,lyB,lyC]
  refine quiet_op ?vvq0_12 rfl ?hvq0_12 ?restq0_12
  case hvq0_12 =>
   intro wx hC
   obtain ⟨hC9,t1,d5⟩ := HS6.out _ hC
   obtain ⟨c0,c1,c2,c3,c4,c5,c6,c7,c8⟩ := hC9
   go_simp
   all_goals first | exact ⟨rfl,rfl⟩ | rfl
  try simp only [Act.put,lyA,lyB,lyC]
  refine wpQuiet_nil ?_
  intro wq hC
  have M6 := M5.later hC
  clear HS6 hC m5 k5 M5 M4
  obtain ⟨w6,rfl⟩ : ∃ wo : World,wo = wq := ⟨_,rfl⟩
  have k6 := M6.blk (List.mem_cons_self ..)
  have d5 := k6.cell 5
  simp at d5
  obtain ⟨cb,hcb⟩ : ∃ cb,(be && decide (fp ≠ 0)) = cb := ⟨_,rfl⟩
  have HCB := Lib.hid hcb
  have hbv : be = true∨be = false := by cases be <;> simp
  clear hcb
  go_upto_region 7 with fail
  go_cut [55] (fun z w' => z = .bool cb∧w' = w6)
  case first =>
   have hcb := HCB.out
   rcases hbv with hbe | hbe
   ·
    by_cases h0 : (fp : Int) = 0
    ·
     have HE := Lib.hid (show cb = false by rw [← hcb]; simp <;> omega)
     subst hbe
     clear hcb
     go_wp2_with fail
     all_goals go_meet
     all_goals exact ⟨by rw [HE.out] <;> first | rfl | (simp <;> omega),rfl⟩
    ·
     have HE := Lib.hid (show cb = true by rw [← hcb,hbe]; simp <;> omega)
     subst hbe
     clear hcb
     go_wp2_with fail
     all_goals go_meet
     all_goals exact ⟨by rw [HE.out] <;> first | rfl | (simp <;> omega),rfl⟩
   ·
    have HE := Lib.hid (show cb = false by rw [← hcb,hbe]; simp)
    subst hbe
    clear hcb
    go_wp2_with fail
    all_goals go_meet
    all_goals exact ⟨by rw [HE.out] <;> first | rfl | (simp <;> omega),rfl⟩
  case rest =>
  obtain ⟨rfl,rfl⟩ := hcut
  obtain ⟨w6,rfl⟩ : ∃ wo : World,wo = wc := ⟨_,rfl⟩
  go_upto_if 55 with fail
  go_cut [] (fun w' => Mid b A c (.slice (some ⟨gs,os,none⟩) N cs) own w [(w4.heap.size,#[.int .i64 (p : Int),.int .i64 (ln : Int),.int .u64 (x : Int),.bool cp,.bool en,.int .i64 (fp : Int),.int .i64 (fl : Int)],149),(w1.heap.size,#[.pointer (some ⟨r0,0,none⟩),.pointer (some ⟨r1,0,none⟩),.pointer (lv 0),.pointer (lv 1),.pointer (lv 2),.pointer (lv 3),.pointer (lv 4)],90),(w.heap.size,partA kind n p l,51)] f2 w')
  case first =>
   have hcb := HCB.out
   cases hz : cb with
   | false =>
    rw [hz] at hcb
    have HE := Lib.hid (show f2 = f1 from HTK2.out (fun h => by rw [h.1,Bool.true_and] at hcb; exact of_decide_eq_false hcb h.2))
    have M7 := Lib.hid M6
    subst hz
    clear hcb M6 k6
    go_wp2_with fail
    all_goals go_meet
    all_goals exact HE.out ▸ M7.out
   | true =>
    rw [hz,Bool.and_eq_true,decide_eq_true_eq] at hcb
    obtain ⟨hdd,HT⟩ := HTKc.out hcb
    have HQ := Lib.hid (HQ.out hcb)
    have HLQ := Lib.hid (fun w' (m : Mod (fun _ => False) w6 w') => HLK.out hcb _ _ w' (M6.later m))
    have HT := Lib.hid (fun w' (m : Mod (fun _ => False) w6 w') => HT _ w' (M6.later m))
    have HS8 := Lib.hid (fun w' (mm : Mod (fun _ => False) w6 w') => And.intro (show w'.cell? ⟨w4.heap.size,5,none⟩ = some (.int .i64 (fp : Int)) from (k6.later mm (by simp)).cell 5) (show w'.cell? ⟨w4.heap.size,6,none⟩ = some (.int .i64 (fl : Int)) from (k6.later mm (by simp)).cell 6))
    subst hz hdd
    clear hcb k6 d5 M6
    go_upto_region 8 with fail
    refine wp_region_quiet_tail 8 (fun w' => Mod (fun _ => False) w6 w') (by kernel_rfl) (by kernel_rfl) ?_ ?_
    ·
     exact (Mod.refl _ _).drew
    simp only [List.take_succ_cons,List.take_zero,List.drop_succ_cons,List.drop_zero]
    refine quiet_op ?vvq1_0 rfl ?hvq1_0 ?restq1_0
    case hvq1_0 =>
     intro wx hC
     obtain ⟨d5,d6⟩ := HS8.out _ hC
     go_simp
     all_goals first | exact ⟨rfl,rfl⟩ | rfl
    try simp only [Act.put,lyA,lyB,lyC]
    refine quiet_op ?vvq1_1 rfl ?hvq1_1 ?restq1_1
    case hvq1_1 =>
     intro wx hC
     obtain ⟨d5,d6⟩ := HS8.out _ hC
     go_simp
     all_goals first | exact ⟨rfl,rfl⟩ | rfl
    try simp only [Act.put,lyA,lyB,lyC]
    refine quiet_op ?vvq1_2 rfl ?hvq1_2 ?restq1_2
    case hvq1_2 =>
     intro wx hC
     obtain ⟨d5,d6⟩ := HS8.out _ hC
     go_simp
     all_goals first | exact ⟨rfl,rfl⟩ | rfl
    try simp only [Act.put,lyA,lyB,lyC]
    refine quiet_op ?vvq1_3 rfl ?hvq1_3 ?restq1_3
    case hvq1_3 =>
     intro wx hC
     obtain ⟨d5,d6⟩ := HS8.out _ hC
     go_simp
     all_goals first | exact ⟨rfl,rfl⟩ | rfl
    try simp only [Act.put,lyA,lyB,lyC]
    refine quiet_op (.int .i64 (q : Int)) rfl ?hvq1_4 ?restq1_4
    case hvq1_4 =>
     intro wx hC
     obtain ⟨d5,d6⟩ := HS8.out _ hC
     go_simp
     refine (HQ.out wx).mono ?_
     rintro e wy ⟨rfl,rfl⟩
     exact ⟨rfl,hC⟩
    try simp only [Act.put,lyA,lyB,lyC]
    refine quiet_op (.pointer (some ⟨lkq,0,none⟩)) rfl ?hvq1_5 ?restq1_5
    case hvq1_5 =>
     intro wx hC
     obtain ⟨d5,d6⟩ := HS8.out _ hC
     go_simp
     refine (HLQ.out wx hC).mono ?_
     rintro e wy ⟨rfl,rfl⟩
     exact ⟨rfl,hC⟩
    try simp only [Act.put,lyA,lyB,lyC]
    refine quiet_op ?vvq1_6 rfl ?hvq1_6 ?restq1_6
    case hvq1_6 =>
     intro wx hC
     obtain ⟨d5,d6⟩ := HS8.out _ hC
     go_simp
     all_goals first | exact ⟨rfl,rfl⟩ | rfl
    try simp only [Act.put,lyA,lyB,lyC]
    refine quiet_op ?vvq1_7 rfl ?hvq1_7 ?restq1_7
    case hvq1_7 =>
     intro wx hC
     obtain ⟨d5,d6⟩ := HS8.out _ hC
     go_simp
     all_goals first | exact ⟨rfl,rfl⟩ | rfl
    try simp only [Act.put,lyA,lyB,lyC]
    refine wpQuiet_nil ?_
    intro wq hC
    have d7 := (HS8.out _ hC).2
    go_wp2_with fail
    refine (HT.out _ hC).mono ?_
    rintro e w7 ⟨⟨er,rfl⟩,M7⟩
    have M7 := Lib.hid M7
    clear HS8 hC d7
    go_wp2_with fail
    all_goals go_meet
    all_goals exact M7.out
  case rest =>
  have M7 := hcut
  obtain ⟨w7,rfl⟩ : ∃ wo : World,wo = wc := ⟨_,rfl⟩
  clear k6 d5 M6 hcut HCB HTKc HTK2 HLK HB HQ
  have k7 := M7.blk (List.mem_cons_self ..)
  have d0 := k7.cell 0
  have d1 := k7.cell 1
  have d2 := k7.cell 2
  have d3 := k7.cell 3
  have d4 := k7.cell 4
  have d5 := k7.cell 5
  have d6 := k7.cell 6
  simp at d0 d1 d2 d3 d4 d5 d6
  obtain ⟨tb,htb⟩ : ∃ tb,(decide (p = 0) || cp) = tb := ⟨_,rfl⟩
  have HTB := Lib.hid htb
  clear htb
  go_upto_region 9 with fail
  go_cut [73] (fun z w' => z = .bool tb∧w' = w7)
  case first =>
   have htb := HTB.out
   by_cases h0 : (p : Int) = 0
   ·
    have HE := Lib.hid (show tb = true by rw [← htb,decide_eq_true (show p = 0 by omega)]; rfl)
    clear htb
    go_wp2_with fail
    all_goals go_meet
    all_goals exact ⟨by rw [HE.out] <;> first | rfl | (simp <;> omega),rfl⟩
   ·
    have HE := Lib.hid (show tb = cp by rw [← htb,decide_eq_false (show ¬ p = 0 by omega)]; rfl)
    clear htb
    go_wp2_with fail
    all_goals go_meet
    all_goals exact ⟨by rw [HE.out] <;> first | rfl | (simp <;> omega),rfl⟩
  case rest =>
  obtain ⟨rfl,rfl⟩ := hcut
  obtain ⟨w7,rfl⟩ : ∃ wo : World,wo = wc := ⟨_,rfl⟩
  go_upto_if 73 with fail
  go_cut [] (fun w' => Mid b A c (.slice (some ⟨gs,os,none⟩) N cs) own w [(w4.heap.size,#[.int .i64 (p : Int),.int .i64 (ln : Int),.int .u64 (x : Int),.bool cp,.bool en,.int .i64 (fp : Int),.int .i64 (fl : Int)],149),(w1.heap.size,#[.pointer (some ⟨r0,0,none⟩),.pointer (some ⟨r1,0,none⟩),.pointer (lv 0),.pointer (lv 1),.pointer (lv 2),.pointer (lv 3),.pointer (lv 4)],90),(w.heap.size,partA kind n p l,51)] f3 w')
  case first =>
   have htb := HTB.out
   cases hz : tb with
   | false =>
    rw [hz] at htb
    have HE := Lib.hid (show f3 = f2 from HTA2.out (fun h => by rcases h with h | h <;> simp [h] at htb))
    have M8 := Lib.hid M7
    subst hz
    clear htb M7 k7
    go_wp2_with fail
    all_goals go_meet
    all_goals exact HE.out ▸ M8.out
   | true =>
    rw [hz,Bool.or_eq_true,decide_eq_true_eq] at htb
    have HT := Lib.hid (HTA.out htb _ w7 M7)
    have n1 := (M7.blk (List.mem_cons_of_mem _ (List.mem_cons_self ..))).cell 1
    simp at n1
    subst hz
    clear htb k7 M7
    go_wp2_with fail
    refine HT.out.mono ?_
    rintro e w8 ⟨⟨er,rfl⟩,M8⟩
    have M8 := Lib.hid M8
    go_wp2_with fail
    all_goals go_meet
    all_goals exact M8.out
  case rest =>
  have M8 := hcut
  obtain ⟨w8,rfl⟩ : ∃ wo : World,wo = wc := ⟨_,rfl⟩
  clear k7 d0 d1 d2 d3 d4 d5 d6 M7 hcut HTB HTA HTA2
  have k8 := M8.blk (List.mem_cons_self ..)
  have d0 := k8.cell 0
  have d1 := k8.cell 1
  have d2 := k8.cell 2
  have d3 := k8.cell 3
  have d4 := k8.cell 4
  have d5 := k8.cell 5
  have d6 := k8.cell 6
  simp at d0 d1 d2 d3 d4 d5 d6
  by_cases h0 : p = 0
  ·
   have HE := Lib.hid (HSD2.out h0)
   have M9 := Lib.hid M8
   have q9 : (p : Int) = 0 := by omega
   clear h0 k8 M8
   go_wp2
   exact HT4.out _ _ (HE.out.symm ▸ M9.out)
  ·
   obtain ⟨hlp,HT⟩ := HSD.out h0
   have HT := HT _ w8 M8
   rw [← hlp] at HT
   have HT := Lib.hid HT
   have q9 : ¬ (p : Int) = 0 := by omega
   clear h0 k8 M8 hlp
   go_wp2_with fail
   refine HT.out.mono ?_
   rintro e w9 ⟨⟨er,rfl⟩,M9⟩
   have M9 := Lib.hid M9
   go_wp2
   exact HT4.out _ _ M9.out
end
end Go.Proofs.YtfiklfkfbcpmgaaGreat
