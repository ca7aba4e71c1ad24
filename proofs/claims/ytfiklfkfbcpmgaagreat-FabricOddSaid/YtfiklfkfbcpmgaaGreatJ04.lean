/- Parts: FabS RingPk RingP RingX. No condition. -/
import Derived.Test.YtfiklfkfbcpmgaaGreatJ03
import Derived.Test.YtfiklfkfbcpmgaaGreatJ01
import Derived.Test.YtfiklfkfbcpmgaaGreatJ02
set_option linter.all false
set_option maxRecDepth 100000
set_option maxHeartbeats 3200000
namespace Go.Proofs.YtfiklfkfbcpmgaaGreat
structure Pkt where
  src : Int
  dst : Int
  seq : Int
  data : ByteArray
def Pkt.zero : Pkt := ⟨0,0,0,⟨#[]⟩⟩
def toward (f t more less : Int) : Int := if t < f then less else if t = f then 0 else more
def Cfg.options (c : Cfg) (n t : Int) : List Int :=
  if c.is n && c.is t then
    (if toward (n % c.W) (t % c.W) 1 2 = 0 then [toward (n / c.W) (t / c.W) 3 4]
     else if toward (n % c.W) (t % c.W) 1 2 = 2∨toward (n / c.W) (t / c.W) 3 4 = 0∨c.West = false then [toward (n % c.W) (t % c.W) 1 2]
     else [toward (n % c.W) (t % c.W) 1 2,toward (n / c.W) (t / c.W) 3 4])
  else []
def dist (x : Int) : Int := if x < 0 then -(x + 1) else x
def Cfg.choose (c : Cfg) (n t ch : Int) : Int := (c.options n t).getD (dist ch % (c.options n t).length).toNat 0
def Cfg.cls (c : Cfg) (several : Bool) : Int × Int :=
  if c.chk ≠ 0∨(several = true∧c.Cast = false) then (0,0) else if several then (c.Lanes - 1,1) else if c.Cast then (0,c.Lanes - 1) else (0,c.Lanes)
structure LaneS where
  q : List Nat
  phase : Int
  port : Int
  lane : Int
  copies : Bool
def LaneS.new : LaneS := ⟨[],0,0,0,false⟩
structure OutS where
  port : Int
  lane : Int
  word : Nat
  copy : Bool
  ends : Bool
def headWay (node : Int) (leads : Flit→Int) (w : Nat) : Option (Int × Int) :=
  match rdF w with
  | none => none
  | some f => if f.kind = 1 then (if f.dst = node then some (2,0) else if 0 < leads f∧leads f < 5 then some (1,leads f) else none) else none
def LaneS.way (x : LaneS) (node : Int) (leads : Flit→Int) : Option (Int × Int) := if x.phase = 0 then x.q.head?.bind (headWay node leads) else none
def LaneS.find (x : LaneS) (node : Int) (leads : Flit→Int) : LaneS × Bool :=
  match x.way node leads with
  | some (ph,p) => (⟨x.q,ph,p,0,x.copies⟩,true)
  | none => (x,false)
def moreW (w : Nat) : Bool := match rdF w with | some f => decide (f.kind = 1) && f.more | none => false
def LaneS.out (x : LaneS) (w : Nat) : OutS := ⟨x.port,x.lane,w,decide (x.port ≠ 0) && x.copies && decide (w % 4 ≠ 1),decide (w % 4 = 3)⟩
def LaneS.rest (x : LaneS) (w : Nat) (q : List Nat) : LaneS :=
  if w % 4 = 3 then ⟨q,0,0,0,false⟩ else if x.port = 0∧moreW w = true then ⟨q,0,0,0,true⟩ else ⟨q,x.phase,x.port,x.lane,x.copies⟩
structure LinkS where
  credits : List Int
  far : List Int
  words : List (Int × Nat)
  back : List Int
def LinkS.new (c : Cfg) : LinkS := ⟨List.replicate c.Lanes.toNat c.Depth,List.replicate c.Lanes.toNat 0,[],[]⟩
def bump (l : List Int) (k d : Int) : List Int := l.set k.toNat (l.getD k.toNat 0 + d)
def LinkS.may (c : Cfg) (l : LinkS) (k : Int) : Bool := decide (0 ≤ k) && decide (k < c.Lanes) && decide (0 < l.credits.getD k.toNat 0) && decide ((l.words.length : Int) < c.Ring)
def LinkS.send (c : Cfg) (l : LinkS) (k : Int) (w : Nat) : LinkS := if l.may c k then ⟨bump l.credits k (-1),l.far,l.words ++ [(k,w)],l.back⟩ else l
def LinkS.carry (l : LinkS) : LinkS := match l.words with | [] => l | (k,_) :: ws => ⟨l.credits,bump l.far k 1,ws,l.back⟩
def LinkS.taken (c : Cfg) (l : LinkS) (k : Int) : LinkS := if 0 ≤ k∧k < c.Lanes∧l.far.getD k.toNat 0 ≠ 0 then ⟨l.credits,bump l.far k (-1),l.words,l.back ++ [k]⟩ else l
def LinkS.credit (l : LinkS) : LinkS := match l.back with | [] => l | k :: b => ⟨bump l.credits k 1,l.far,l.words,b⟩
def LinkS.idle (l : LinkS) : Bool := decide ((l.words.length : Int) + l.back.length + l.far.sum = 0)
structure JoinS where
  begun : Bool
  p : Pkt
  size : Int
def JoinS.new : JoinS := ⟨false,Pkt.zero,0⟩
def JoinS.take (j : JoinS) (w : Nat) : JoinS × Option Pkt :=
  match rdF w with
  | none => (j,none)
  | some f =>
    if decide (f.kind = 1) = j.begun then (j,none)
    else if f.kind = 1 then (⟨true,⟨f.src,f.dst,f.seq,⟨#[]⟩⟩,f.len⟩,none)
    else if f.kind = 3 then (JoinS.new,if ((j.p.data ++ f.data).size : Int) = j.size then some ⟨j.p.src,j.p.dst,j.p.seq,j.p.data ++ f.data⟩ else none)
    else if j.size < ((j.p.data ++ f.data).size : Int) then (j,none)
    else (⟨j.begun,⟨j.p.src,j.p.dst,j.p.seq,j.p.data ++ f.data⟩,j.size⟩,none)
structure BoxS where
  q : List Pkt
  waits : List Pkt
  next : List (Int × Int)
def BoxS.new : BoxS := ⟨[],[],[]⟩
def BoxS.nx (b : BoxS) (s : Int) : Int := ((b.next.find? fun x => decide (x.1 = s)).map (·.2)).getD 0
def BoxS.come (b : BoxS) (p : Pkt) : BoxS :=
  if (b.waits.any fun x => decide (x.src = p.src) && decide (x.seq = p.seq)) = true then b
  else if nodeB p.src = true∧0 ≤ p.seq∧p.seq < 65536 then ⟨b.q,b.waits ++ [p],b.next⟩ else b
def BoxS.ready (b : BoxS) : Option Pkt :=
  (b.waits.filter fun x => decide (x.seq = b.nx x.src)).foldl (fun o x => match o with | none => some x | some y => if x.src < y.src then some x else some y) none
def BoxS.full (c : Cfg) (b : BoxS) : Bool := decide (c.Inbox ≤ (b.q.length : Int))
def BoxS.tell (c : Cfg) (b : BoxS) : BoxS × Bool :=
  match b.ready with
  | none => (b,false)
  | some p => if b.full c then (b,false) else
    (⟨b.q ++ [p],b.waits.filter (fun x => !(decide (x.src = p.src) && decide (x.seq = p.seq))),(p.src,(p.seq + 1) % 65536) :: b.next.filter fun x => decide (x.1 ≠ p.src)⟩,true)
structure Parcel where
  src : Int
  cast : Bool
  heads : List (Int × Int)
  data : ByteArray
def Parcel.right (p : Parcel) : Bool :=
  decide (0 < p.heads.length) && decide (p.heads.length ≤ 4096) && (p.cast || decide (p.heads.length = 1)) && nodeB p.src && p.heads.all (fun t => nodeB t.1 && decide (0 ≤ t.2) && decide (t.2 < 65536)) && decide (p.data.size ≤ 64)
def headWords (p : Parcel) : List (Int × Int)→List Nat
  | [] => []
  | t :: ts => wr ⟨1,p.src,t.1,t.2,p.data.size,decide (ts ≠ []),p.cast,⟨#[]⟩⟩ :: headWords p ts
def dataWords : Nat→ByteArray→List Nat
  | 0,d => [wr ⟨3,0,0,0,0,false,false,d⟩]
  | k + 1,d => if 6 < d.size then wr ⟨2,0,0,0,0,false,false,d.extract 0 6⟩ :: dataWords k (d.extract 6 d.size) else [wr ⟨3,0,0,0,0,false,false,d⟩]
def Parcel.words (p : Parcel) : List Nat := headWords p p.heads ++ dataWords 11 p.data
def Parcel.chk (p : Parcel) : Int := if 64 < p.data.size then 4 else if p.right then 0 else 1
structure NodeS where
  lanes : List LaneS
  owners : List Int
  gives : List Int
  moves : List Int
  words : List (Int × Nat)
  sent : Int
  joins : List JoinS
  box : BoxS
  links : List (Option LinkS)
def NodeS.none : NodeS := ⟨[],[],[],[],[],0,[],BoxS.new,[]⟩
structure FabS where
  nodes : List NodeS
  steps : Int
def NodeS.new (c : Cfg) (n : Int) : NodeS :=
  ⟨List.replicate (5 * c.Lanes).toNat LaneS.new,List.replicate (5 * c.Lanes).toNat (-1),List.replicate 5 (-1),List.replicate 5 (-1),[],0,List.replicate (5 * c.Lanes).toNat JoinS.new,BoxS.new,
   (List.range 5).map fun (p : Nat) => if 1 ≤ p∧c.besB n (p : Int) = true then some (LinkS.new c) else Option.none⟩
def FabS.new (c : Cfg) : FabS := ⟨(List.range c.nodes.toNat).map fun (n : Nat) => NodeS.new c (n : Int),0⟩
section
variable (c : Cfg)
def FabS.at (f : FabS) (n : Int) : NodeS := f.nodes.getD n.toNat NodeS.none
def FabS.put (f : FabS) (n : Int) (x : NodeS) : FabS := ⟨f.nodes.set n.toNat x,f.steps⟩
def NodeS.lane (x : NodeS) (k : Int) : LaneS := x.lanes.getD k.toNat LaneS.new
def NodeS.link (x : NodeS) (p : Int) : Option LinkS := x.links.getD p.toNat Option.none
def FabS.link (f : FabS) (n p : Int) : Option LinkS := (f.at n).link p
def FabS.setLink (f : FabS) (n p : Int) (g : LinkS→LinkS) : FabS :=
  f.put n { f.at n with links := (f.at n).links.set p.toNat (((f.at n).link p).map g) }
def FabS.room (f : FabS) (n k : Int) : Bool := decide ((((f.at n).lane k).q.length : Int) < c.Depth)
def FabS.into (f : FabS) (n k : Int) (w : Nat) : FabS :=
  f.put n { f.at n with lanes := (f.at n).lanes.set k.toNat { (f.at n).lane k with q := ((f.at n).lane k).q ++ [w] } }
def backP (p : Int) : Int := if p = 0 then 0 else if p = 1 then 2 else if p = 2 then 1 else if p = 3 then 4 else if p = 4 then 3 else -1
def FabS.find (f : FabS) (n k ch : Int) : FabS × Bool :=
  let y := ((f.at n).lane k).find n fun fl => if fl.cast then c.stepV n fl.dst else c.choose n fl.dst ch
  (f.put n { f.at n with lanes := (f.at n).lanes.set k.toNat y.1 },y.2)
def NodeS.giveK (x : NodeS) (p k : Int) : Option Int :=
  let cl := c.cls (c.Cast && decide (k % c.Lanes = c.Lanes - 1))
  seeR c.Lanes (x.gives.getD p.toNat (-1)) fun i =>
    let j := (x.gives.getD p.toNat (-1) + 1 + i) % c.Lanes
    decide (cl.1 ≤ j) && decide (j < cl.1 + cl.2) && decide (x.owners.getD (p * c.Lanes + j).toNat (-1) = -1)
def FabS.give (f : FabS) (n k : Int) : FabS × Bool :=
  let x := f.at n
  let y := x.lane k
  if y.phase = 1 then
    match x.giveK c y.port k with
    | Option.none => (f,false)
    | some j => (f.put n { x with lanes := x.lanes.set k.toNat ⟨y.q,2,y.port,j,y.copies⟩,owners := x.owners.set (y.port * c.Lanes + j).toNat k,gives := x.gives.set y.port.toNat j },true)
  else (f,false)
def NodeS.moveK (x : NodeS) (p : Int) : Option Int :=
  seeR (5 * c.Lanes) (x.moves.getD p.toNat (-1)) fun i =>
    let y := x.lane ((x.moves.getD p.toNat (-1) + 1 + i) % (5 * c.Lanes))
    decide (y.phase = 2) && decide (y.port = p) && decide (y.q ≠ []) && (decide (p = 0) || match x.link p with | some l => l.may c y.lane | Option.none => false)
def FabS.take (f : FabS) (n k : Int) (w : Nat) : FabS :=
  let x := f.at n
  let t := (x.joins.getD k.toNat JoinS.new).take w
  f.put n { x with joins := x.joins.set k.toNat t.1,box := match t.2 with | some p => x.box.come p | Option.none => x.box }
def FabS.move (f : FabS) (n p : Int) : FabS × Bool :=
  let x := f.at n
  match x.moveK c p with
  | Option.none => (f,false)
  | some k =>
    let y := x.lane k
    match y.q with
    | [] => (f,false)
    | w :: q =>
      let o := y.out w
      let f := f.put n { x with lanes := x.lanes.set k.toNat (y.rest w q),moves := x.moves.set p.toNat k,owners := if o.ends = true∧p ≠ 0 then x.owners.set (p * c.Lanes + o.lane).toNat (-1) else x.owners }
      let f := if k / c.Lanes ≠ 0∧c.besB n (k / c.Lanes) = true then f.setLink (c.besV n (k / c.Lanes)) (backP (k / c.Lanes)) fun l => l.taken c (k % c.Lanes) else f
      let f := if p = 0∨o.copy = true then f.take n k w else f
      let f := if p ≠ 0 then f.setLink n p fun l => l.send c o.lane w else f
      (f,true)
def FabS.putIn (f : FabS) (n : Int) : FabS × Bool :=
  match (f.at n).words with
  | [] => (f,false)
  | (k,w) :: ws => if f.room c n k then (({ f with nodes := f.nodes.set n.toNat { f.at n with words := ws } } : FabS).into n k w,true) else (f,false)
def FabS.tell (f : FabS) (n : Int) : FabS × Bool :=
  let y := (f.at n).box.tell c
  (f.put n { f.at n with box := y.1 },y.2)
def FabS.carry (f : FabS) (n p : Int) : FabS × Bool :=
  match f.link n p with
  | Option.none => (f,false)
  | some l => match l.words with
    | [] => (f,false)
    | (k,w) :: _ =>
      let g := f.setLink n p LinkS.carry
      if g.room c (c.besV n p) (backP p * c.Lanes + k) then (g.into (c.besV n p) (backP p * c.Lanes + k) w,true) else (g,false)
def FabS.credit (f : FabS) (n p : Int) : FabS × Bool :=
  match f.link n p with
  | Option.none => (f,false)
  | some l => match l.back with
    | [] => (f,false)
    | _ :: _ => (f.setLink n p LinkS.credit,true)
def Cfg.each : Int := if c.chk = 0 then 10 * c.Lanes + 15 else 0
def Cfg.parts : Int := c.nodes * c.each
def FabS.part (f : FabS) (n k ch : Int) : FabS × Bool :=
  let L := 5 * c.Lanes
  if k < L then f.find c n k ch
  else if k < 2 * L then f.give c n (k - L)
  else if k < 2 * L + 5 then f.move c n (k - 2 * L)
  else if k < 2 * L + 6 then f.putIn c n
  else if k < 2 * L + 7 then f.tell c n
  else if k < 2 * L + 11 then f.carry c n (k - (2 * L + 7) + 1)
  else f.credit n (k - (2 * L + 11) + 1)
def FabS.does (f : FabS) (n ch : Int) : FabS × Bool :=
  if 0 ≤ n∧n < c.parts then
    let y := f.part c (n / c.each) (n % c.each) ch
    (⟨y.1.nodes,if y.2 then y.1.steps + 1 else y.1.steps⟩,y.2)
  else (f,false)
def nextFree (had : List Bool) : Nat→Nat→Nat
  | 0,k => k
  | j + 1,k => if had.getD k false then nextFree had j ((k + 1) % had.length) else k
def roundL (n step : Nat) : Nat→List Bool→Nat→List Nat
  | 0,_,_ => []
  | j + 1,had,k =>
    let a := nextFree had n k
    a :: roundL n step j (had.set a true) ((a + step) % n)
def Cfg.round (c : Cfg) (from' by' : Int) : List Nat :=
  if c.parts = 0 then [] else roundL c.parts.toNat (1 + (dist by' % c.parts).toNat) c.parts.toNat (List.replicate c.parts.toNat false) (dist from' % c.parts).toNat
def FabS.rounds (f : FabS) (ch : Int) (l : List Nat) : FabS × Nat := l.foldl (fun s (k : Nat) => let y := s.1.does c (k : Int) ch; (y.1,if y.2 then s.2 + 1 else s.2)) (f,0)
def NodeS.send (x : NodeS) (n : Int) (p : Parcel) : NodeS × Int :=
  if p.chk ≠ 0 then (x,p.chk)
  else if p.src ≠ n∨(p.heads.any fun t => !c.is t.1) = true then (x,5)
  else if (c.cls p.cast).2 = 0 then (x,10)
  else ({ x with words := x.words ++ p.words.map fun w => ((c.cls p.cast).1 + x.sent % (c.cls p.cast).2,w),sent := x.sent + 1 },0)
def FabS.send (f : FabS) (p : Parcel) : FabS × Int :=
  if c.is p.src then (f.put p.src ((f.at p.src).send c p.src p).1,((f.at p.src).send c p.src p).2) else (f,5)
def FabS.recv (f : FabS) (n : Int) : FabS × Pkt × Int :=
  if c.is n then (match (f.at n).box.q with
    | [] => (f,Pkt.zero,8)
    | p :: q => (f.put n { f.at n with box := { (f.at n).box with q := q } },p,0))
  else (f,Pkt.zero,5)
def NodeS.quiet (x : NodeS) : Bool :=
  decide (x.words = []) && decide (x.box.waits.length = 0) && x.joins.all (fun j => !j.begun) && x.lanes.all (fun y => decide (y.q = []) && decide (y.phase = 0)) && x.links.all (fun l => match l with | some l => l.idle | Option.none => true)
def FabS.quiet (f : FabS) : Bool := f.nodes.all NodeS.quiet
def FabS.full (f : FabS) (n : Int) : Bool := c.is n && (f.at n).box.full c && (f.at n).box.ready.isSome
end
def exC : Cfg := ⟨2,1,1,1,1,4,4,false,false⟩
def exP : Parcel := ⟨0,false,[(1,0)],⟨#[97]⟩⟩
def exRun (k : Nat) : FabS := (List.range k).foldl (fun f _ => (f.rounds exC 0 (exC.round 0 0)).1) ((FabS.new exC).send exC exP).1
#print axioms exRun
open Go.RowKit
def encP (x : Pkt) : List Value := [.int .i64 x.src,.int .i64 x.dst,.int .i64 x.seq,.string x.data]
open Go.RowKit
section
variable {w : World} {r g n : Nat} {i o : Int} {a : Nat} {laid : Bool} {cs : Array Value} {l : List (Pkt)}
theorem ringP_len (m : Nat) (h : RingIn 46 233 w r g n i o a laid cs) (hm : (i - o) % 4294967296 = m) :
  Calls Tryz.prog 185 #[.pointer (some ⟨r,0,none⟩)] w fun e w' => e = .returned (.int .i64 (m : Int))∧Drw w w' := by
 obtain ⟨c0,c1,c2,c3,c4⟩ := h.cells
 have hm2 : m < 4294967296 := by omega
 have HM := Lib.hid hm
 clear h hm
 go_enter Tryz.func185,Tryz.ntmps185
 go_wp2
 go_quiet (fail)
 go_wp2
 go_ret
 exact ⟨by rw [← HM.out]; rfl,Drw.drewN _ _⟩
theorem ringP_room (m : Nat) (h : RingIn 46 233 w r g n i o a false cs) (hm : (i - o) % 4294967296 = m) (hn : n ≤ 4096) :
  Calls Tryz.prog 156 #[.pointer (some ⟨r,0,none⟩)] w fun e w' => e = .returned (.int .i64 ((n : Int) - m))∧Drw w w' := by
 obtain ⟨c0,c1,c2,c3,c4⟩ := h.cells
 have hm2 : m < 4294967296 := by omega
 have HL := Lib.hid (fun w1 (hd : Drw w w1) => ringP_len m (h.later (hd.mod (fun _ => False)) (by simp) (by simp)) hm)
 clear h hm
 go_enter Tryz.func156,Tryz.ntmps156
 go_upto_region 3 with fail
 go_cut [3] (fun z w' => z = .int .i64 ((n : Int) - m)∧Drw w w')
 case first => as_aux_lemma =>
  go_region_held3 (fun w' => w'.cell? ⟨r,0,none⟩ = some (.slice (some ⟨g,0,none⟩) n n))
   (first | exact c0 | exact (d9.cell _).trans c0 | go_keep)
   ((go_at_call 185; refine (HL.out _ (Drw.drew _)).mono ?_; rintro e w9 ⟨rfl,d9⟩))
  all_goals go_wp2_with fail
  all_goals go_meet
  all_goals exact ⟨by simp [IntWalk.i64_in ((n : Int) - m) (by omega)],(Drw.drew _).trans d9⟩
 case rest =>
  obtain ⟨rfl,d1⟩ := hcut
  have c4 := (d1.cell ⟨r,4,none⟩).trans c4
  go_wp2
  go_ret
  exact ⟨rfl,d1⟩
theorem ringP_end (m : Nat) (h : RingIn 46 233 w r g n i o a laid cs) (hm : (i - o) % 4294967296 = m) (hn : n ≤ 4096) (hn1 : 1 ≤ n) (ha : a < n) :
  Calls Tryz.prog 221 #[.pointer (some ⟨r,0,none⟩)] w fun e w' => e = .returned (.int .i64 (((a + m) % n : Nat) : Int))∧Drw w w' := by
 obtain ⟨c0,c1,c2,c3,c4⟩ := h.cells
 have hm2 : m < 4294967296 := by omega
 have HL := Lib.hid (fun w1 (hd : Drw w w1) => ringP_len m (h.later (hd.mod (fun _ => False)) (by simp) (by simp)) hm)
 have e1 : ((a : Int) + m).tmod n = (((a + m) % n : Nat) : Int) := by
  rw [Int.tmod_eq_emod_of_nonneg (by omega)]
  push_cast
  rfl
 have HE := Lib.hid e1
 have hn0 : ((n : Int) == 0) = false := by simp; omega
 have hn2 : ¬ ((n : Int) = 0) := by omega
 have hn3 : ¬ n = 0 := by omega
 have hlt : (a + m) % n < n := Nat.mod_lt _ (by omega)
 clear h hm e1
 generalize (a + m) % n = z at HE hlt ⊢
 go_enter Tryz.func221,Tryz.ntmps221
 go_upto_region 1 with fail
 go_cut [2] (fun v w' => v = .int .i64 (z : Int)∧Drw w w')
 case first => as_aux_lemma =>
  go_region_held3 (fun w' => w'.cell? ⟨r,0,none⟩ = some (.slice (some ⟨g,0,none⟩) n n)∧w'.cell? ⟨r,3,none⟩ = some (.int .i64 (a : Int)))
   (first | exact ⟨c0,c3⟩ | exact ⟨(d9.cell _).trans c0,(d9.cell _).trans c3⟩ | go_keep)
   ((go_at_call 185; refine (HL.out _ (Drw.drew _)).mono ?_; rintro e w9 ⟨rfl,d9⟩))
  all_goals go_wp2_with fail
  all_goals go_meet
  all_goals exact ⟨by rw [IntWalk.i64_in ((a : Int) + m) (by omega),HE.out],(Drw.drew _).trans d9⟩
 case rest =>
  obtain ⟨rfl,d1⟩ := hcut
  go_wp2
  go_ret
  exact ⟨rfl,d1⟩
theorem ringP_lay (x : Pkt) (h : RingIn 46 233 w r g n i o a false cs) (ok : RingOk encP 4 n a cs l) (hl : (i - o) % 4294967296 = l.length) :
  Calls Tryz.prog 208 #[.pointer (some ⟨r,0,none⟩),.agg #[.int .i64 x.src,.int .i64 x.dst,.int .i64 x.seq,.string x.data]] w fun e w' =>
   (l.length = n∧e = .returned (.int .i64 7)∧Mod (fun _ => False) w w') ∨
   (l.length < n∧e = .returned (.int .i64 0)∧RingIn 46 233 w' r g n i o a true (putRow cs ((a + l.length) % n * 4) (encP x))∧Mod (fun k => k = r∨k = g) w w') := by
 have hz : (a + l.length) % n < n := Nat.mod_lt _ (by have := ok.n1; omega)
 have n1 := ok.n1
 have n2 := ok.n2
 have an := ok.an
 have ln := ok.ln
 have hRe : ∀ w1,Mod (fun _ => False) w w1→RingIn 46 233 w1 r g n i o a false cs := fun w1 m => h.later m (by simp) (by simp)
 have HRE := Lib.hid hRe
 have HRoom := Lib.hid (fun w1 (m : Mod (fun _ => False) w w1) => ringP_room l.length (hRe w1 m) hl n2)
 have HEnd := Lib.hid (fun w1 (m : Mod (fun _ => False) w w1) => ringP_end l.length (hRe w1 m) hl n2 n1 an)
 have rlt := h.blk.lt
 have glt := h.row.lt
 obtain ⟨z,hzz⟩ : ∃ z,(a + l.length) % n = z := ⟨_,rfl⟩
 rw [hzz] at hz HEnd ⊢
 obtain ⟨v0,hv0⟩ : ∃ v,cs[z * 4]? = some v := ⟨_,Array.getElem?_eq_getElem (by have := ok.lt hz (t := 0) (by decide); omega)⟩
 obtain ⟨v1,hv1⟩ : ∃ v,cs[z * 4 + 1]? = some v := ⟨_,Array.getElem?_eq_getElem (by have := ok.lt hz (t := 1) (by decide); omega)⟩
 obtain ⟨v2,hv2⟩ : ∃ v,cs[z * 4 + 2]? = some v := ⟨_,Array.getElem?_eq_getElem (by have := ok.lt hz (t := 2) (by decide); omega)⟩
 obtain ⟨v3,hv3⟩ : ∃ v,cs[z * 4 + 3]? = some v := ⟨_,Array.getElem?_eq_getElem (by have := ok.lt hz (t := 3) (by decide); omega)⟩
 have HV0 := Lib.hid hv0
 have HV1 := Lib.hid hv1
 have HV2 := Lib.hid hv2
 have HV3 := Lib.hid hv3
 obtain ⟨m,hm⟩ : ∃ m,l.length = m := ⟨_,rfl⟩
 rw [hm] at HRoom ln ⊢
 have kP := Blk.made w #[.int .i64 x.src,.int .i64 x.dst,.int .i64 x.seq,.string x.data] 46
 have m0 : Mod (fun _ => False) w (w.alloc (.cells #[.int .i64 x.src,.int .i64 x.dst,.int .i64 x.seq,.string x.data] 46)) := (Mod.refl _ _).alloc _
 clear ok hl hRe hm hzz hv0 hv1 hv2 hv3
 go_enter Tryz.func208,Tryz.ntmps208
 go_upto_region 1 with fail
 generalize w.alloc (.cells #[.int .i64 x.src,.int .i64 x.dst,.int .i64 x.seq,.string x.data] 46) = w0 at kP m0 ⊢
 have h0 := HRE.out _ m0
 obtain ⟨c0,c1,c2,c3,c4⟩ := h0.cells
 go_wp2_with fail
 refine (HRoom.out _ m0).mono ?_
 rintro e w1 ⟨rfl,d1⟩
 have m1 := m0.trans (d1.mod (fun _ => False)) (fun i hi e => e)
 have h1 := HRE.out _ m1
 clear c0 c1 c2 c3 c4 h0
 obtain ⟨c0,c1,c2,c3,c4⟩ := h1.cells
 by_cases hfull : m = n
 ·
  have q : (((n : Int) - m) == 0) = true := by rw [hfull]; simp
  have HF := Lib.hid hfull
  clear hfull
  go_wp2
  go_ret
  exact Or.inl ⟨HF.out,rfl,m1⟩
 ·
  have q : (((n : Int) - m) == 0) = false := by simp; omega
  have hlt : m < n := by omega
  clear hfull
  have b0 : (0 : Int) ≤ (z : Int) := by omega
  have b1 : (z : Int) < (n : Int) := by omega
  have k1 := kP.later (d1.mod (fun _ => False)) (by simp)
  go_upto_region 7 with fail
  go_cut [] (fun w' => RingIn 46 233 w' r g n i o a false (putRow cs (z * 4) (encP x))∧Mod (fun k => k = r∨k = g) w w')
  case first => as_aux_lemma =>
   have mdr : Mod (fun _ => False) w w1.drew := m1.drew
   go_region_held3 (fun w' => w'.cell? ⟨r,0,none⟩ = some (.slice (some ⟨g,0,none⟩) n n)∧w'.cell? ⟨w.heap.size,0,none⟩ = some (.int .i64 x.src)∧w'.cell? ⟨w.heap.size,1,none⟩ = some (.int .i64 x.dst)∧w'.cell? ⟨w.heap.size,2,none⟩ = some (.int .i64 x.seq)∧w'.cell? ⟨w.heap.size,3,none⟩ = some (.string x.data))
    (first | exact ⟨c0,k1.cell 0,k1.cell 1,k1.cell 2,k1.cell 3⟩ | exact ⟨e0,k9.cell 0,k9.cell 1,k9.cell 2,k9.cell 3⟩ | exact ⟨((((H9.setRow (z * 4) (.int .i64 x.src)).setRow (z * 4 + 1) (.int .i64 x.dst)).setRow (z * 4 + 2) (.int .i64 x.seq)).setRow (z * 4 + 3) (.string x.data)).cells.1,((((k9.setOther (Nat.ne_of_gt glt) (.int .i64 x.src)).setOther (Nat.ne_of_gt glt) (.int .i64 x.dst)).setOther (Nat.ne_of_gt glt) (.int .i64 x.seq)).setOther (Nat.ne_of_gt glt) (.string x.data)).cell 0,((((k9.setOther (Nat.ne_of_gt glt) (.int .i64 x.src)).setOther (Nat.ne_of_gt glt) (.int .i64 x.dst)).setOther (Nat.ne_of_gt glt) (.int .i64 x.seq)).setOther (Nat.ne_of_gt glt) (.string x.data)).cell 1,((((k9.setOther (Nat.ne_of_gt glt) (.int .i64 x.src)).setOther (Nat.ne_of_gt glt) (.int .i64 x.dst)).setOther (Nat.ne_of_gt glt) (.int .i64 x.seq)).setOther (Nat.ne_of_gt glt) (.string x.data)).cell 2,((((k9.setOther (Nat.ne_of_gt glt) (.int .i64 x.src)).setOther (Nat.ne_of_gt glt) (.int .i64 x.dst)).setOther (Nat.ne_of_gt glt) (.int .i64 x.seq)).setOther (Nat.ne_of_gt glt) (.string x.data)).cell 3⟩ | go_keep)
    ((go_at_call 221; refine (HEnd.out _ mdr).mono ?_; rintro e w9 ⟨rfl,d9⟩; have m9 : Mod (fun _ => False) w1 w9 := (Mod.refl (fun _ => False) w1).drew.trans (d9.mod (fun _ => False)) (fun i hi e => e); have k9 := k1.later m9 (by simp); have H9 := HRE.out _ (m1.trans m9 (fun i hi e => e)); have e0 := H9.cells.1; have y0 := (H9.row.cell (z * 4)).trans (by simpa using HV0.out); have f0 := H9.row.fz (z * 4); have y1 := (H9.row.cell (z * 4 + 1)).trans (by simpa using HV1.out); have f1 := H9.row.fz (z * 4 + 1); have y2 := (H9.row.cell (z * 4 + 2)).trans (by simpa using HV2.out); have f2 := H9.row.fz (z * 4 + 2); have y3 := (H9.row.cell (z * 4 + 3)).trans (by simpa using HV3.out); have f3 := H9.row.fz (z * 4 + 3)))
   all_goals go_wp2_with fail
   all_goals go_meet
   all_goals
    have hR := ((((H9.setRow (z * 4) (.int .i64 x.src)).setRow (z * 4 + 1) (.int .i64 x.dst)).setRow (z * 4 + 2) (.int .i64 x.seq)).setRow (z * 4 + 3) (.string x.data))
    have hM := (m1.mono (S' := fun k => k = r∨k = g) (fun i hi e => e.elim)).trans ((m9.mono (S' := fun k => k = r∨k = g) (fun i hi e => e.elim)).trans (((((Mod.refl (fun k => k = r∨k = g) w9).setCell (p := ⟨g,z * 4,none⟩) (Or.inl (Or.inr rfl)) (.int .i64 x.src)).setCell (p := ⟨g,z * 4 + 1,none⟩) (Or.inl (Or.inr rfl)) (.int .i64 x.dst)).setCell (p := ⟨g,z * 4 + 2,none⟩) (Or.inl (Or.inr rfl)) (.int .i64 x.seq)).setCell (p := ⟨g,z * 4 + 3,none⟩) (Or.inl (Or.inr rfl)) (.string x.data)) (fun i hi e => e)) (fun i hi e => e)
    exact ⟨by simpa [putRow,encP] using hR,by simpa using hM⟩
  case rest =>
   obtain ⟨hR,hM⟩ := hcut
   obtain ⟨w2,rfl⟩ : ∃ wo : World,wo = wc := ⟨_,rfl⟩
   have c4 := hR.cells.2.2.2.2
   have z4 := hR.blk.fz 4
   have hF := hR.setLaid true
   have HF := Lib.hid hF
   clear hF c0 c1 c2 c3
   go_wp2
   go_ret
   exact Or.inr ⟨hlt,rfl,HF.out,hM.setCell (p := ⟨r,4,none⟩) (Or.inl (Or.inl rfl)) _⟩
theorem ringP_publish (h : RingIn 46 233 w r g n i o a true cs) :
  Calls Tryz.prog 209 #[.pointer (some ⟨r,0,none⟩)] w fun e w' => e = .returned (.int .i64 0)∧RingIn 46 233 w' r g n ((i + 1) % 4294967296) o a false cs∧Mod (fun k => k = r) w w' := by
 have hF := Lib.hid ((h.setI ((i + 1) % 4294967296) ⟨by omega,by omega⟩).setLaid false)
 obtain ⟨c0,c1,c2,c3,c4⟩ := h.cells
 have z1 := h.blk.fz 1
 have z4 := h.blk.fz 4
 clear h
 go_enter Tryz.func209,Tryz.ntmps209
 go_wp2
 go_ret
 exact ⟨rfl,hF.out,((Mod.refl (fun k => k = r) w).setCell (p := ⟨r,1,none⟩) (Or.inl rfl) _).setCell (p := ⟨r,4,none⟩) (Or.inl rfl) _⟩
theorem ringP_push {own : Nat→Prop} (x : Pkt) (h : RingAt encP 4 46 233 r n l w own) :
  Calls Tryz.prog 180 #[.pointer (some ⟨r,0,none⟩),.agg #[.int .i64 x.src,.int .i64 x.dst,.int .i64 x.seq,.string x.data]] w fun e w' =>
   (l.length = n∧e = .returned (.int .i64 7)∧Mod (fun _ => False) w w') ∨
   (l.length < n∧e = .returned (.int .i64 0)∧Turn own (RingAt encP 4 46 233 r n (l ++ [x])) w w') := by
 obtain ⟨g,i,o,a,cs,h,ok,hl,ho⟩ := h
 have hlt : r < w.heap.size∧g < w.heap.size := ⟨h.blk.lt,h.row.lt⟩
 have HL := Lib.hid (fun w1 (m : Mod (fun _ => False) w w1) => ringP_lay x (h.later m (by simp) (by simp)) ok hl)
 have hll := ok.ln
 have hn2 := ok.n2
 have HK := Lib.hid ok
 have HO := Lib.hid ho
 have HI := Lib.hid hl
 have HI0 := Lib.hid h.i0
 have HO0 := Lib.hid h.o0
 clear h ok ho hl
 go_enter Tryz.func180,Tryz.ntmps180
 go_wp2_with fail
 have m0 : Mod (fun _ => False) w (w.alloc (.cells #[.int .i64 x.src,.int .i64 x.dst,.int .i64 x.seq,.string x.data] 46)) := (Mod.refl _ _).alloc _
 generalize w.alloc (.cells #[.int .i64 x.src,.int .i64 x.dst,.int .i64 x.seq,.string x.data] 46) = w0 at m0 ⊢
 refine (HL.out _ m0).mono ?_
 rintro e w1 (⟨h1,rfl,m1⟩ | ⟨h1,rfl,hR,m1⟩)
 ·
  have HF := Lib.hid h1
  have mm := m0.trans m1 (fun i hi e => e)
  clear h1
  go_wp2
  go_ret
  exact Or.inl ⟨HF.out,rfl,mm⟩
 ·
  have HP := Lib.hid (ringP_publish hR)
  have mm := (m0.mono (S' := fun k => k = r∨k = g) (fun i hi e => e.elim)).trans m1 (fun i hi e => e)
  clear hR
  go_wp2_with fail
  refine HP.out.mono ?_
  rintro e w2 ⟨rfl,hR2,m2⟩
  have HR2 := Lib.hid hR2
  have mm2 := mm.trans m2 (fun i hi e => Or.inl e)
  clear hR2
  go_wp2
  go_ret
  refine Or.inr ⟨h1,rfl,own,⟨g,_,o,a,_,HR2.out,HK.out.push h1 x rfl,?_,HO.out⟩,mm2.mono (fun k hk e => (HO.out k).2 e),fun k hk => Or.inl hk⟩
  have := HI.out
  have := HI0.out
  have := HO0.out
  simp only [List.length_append,List.length_singleton]
  omega
theorem ringP_peek_none (h : RingIn 46 233 w r g n i o a laid cs) (hl : (i - o) % 4294967296 = 0) :
  Calls Tryz.prog 187 #[.pointer (some ⟨r,0,none⟩)] w fun e w' => e = .returned (.tuple #[.agg #[.int .i64 0,.int .i64 0,.int .i64 0,.string ⟨#[]⟩],.int .i64 8])∧Mod (fun _ => False) w w' := by
 have q : (i == o) = true := by have := h.i0; have := h.o0; simp; omega
 obtain ⟨c0,c1,c2,c3,c4⟩ := h.cells
 have rlt := h.blk.lt
 clear h
 go_enter Tryz.func187,Tryz.ntmps187
 go_wp2
 go_quiet (fail)
 go_wp2
 have q := (((((((Blk.made w #[.int .i64 0,.int .i64 0,.int .i64 0,.string ⟨#[]⟩] 46).alloc (.cells #[.int .i64 0,.int .i64 0,.int .i64 0,.string ⟨#[]⟩] 46)).drewN nq).set 0 (.int .i64 0)).set 1 (.int .i64 0)).set 2 (.int .i64 0)).set 3 (.string ⟨#[]⟩))
 have mq := ((((((((Mod.refl (fun _ => False) w).alloc (.cells #[.int .i64 0,.int .i64 0,.int .i64 0,.string ⟨#[]⟩] 46)).alloc (.cells #[.int .i64 0,.int .i64 0,.int .i64 0,.string ⟨#[]⟩] 46)).drewN nq).setCell (p := ⟨w.heap.size,0,none⟩) (Or.inr (by simp)) (.int .i64 0)).setCell (p := ⟨w.heap.size,1,none⟩) (Or.inr (by simp)) (.int .i64 0)).setCell (p := ⟨w.heap.size,2,none⟩) (Or.inr (by simp)) (.int .i64 0)).setCell (p := ⟨w.heap.size,3,none⟩) (Or.inr (by simp)) (.string ⟨#[]⟩))
 simp at q
 generalize (((((((w.alloc (.cells #[.int .i64 0,.int .i64 0,.int .i64 0,.string ⟨#[]⟩] 46)).alloc (.cells #[.int .i64 0,.int .i64 0,.int .i64 0,.string ⟨#[]⟩] 46)).drewN nq).setCell ⟨w.heap.size,0,none⟩ (.int .i64 0)).setCell ⟨w.heap.size,1,none⟩ (.int .i64 0)).setCell ⟨w.heap.size,2,none⟩ (.int .i64 0)).setCell ⟨w.heap.size,3,none⟩ (.string ⟨#[]⟩)) = W at q mq ⊢
 have q0 := q.cell 0
 have q1 := q.cell 1
 have q2 := q.cell 2
 have q3 := q.cell 3
 simp at q0 q1 q2 q3
 exact bodyPost_ret (v := .tuple #[.agg #[.int .i64 0,.int .i64 0,.int .i64 0,.string ⟨#[]⟩],.int .i64 8]) (by simp [results,Tryz.results187,go_sem,q0,q1,q2,q3]) rfl ⟨rfl,mq⟩
theorem ringP_peek_some (x : Pkt) (h : RingIn 46 233 w r g n i o a laid cs) (ok : RingOk encP 4 n a cs (x :: l)) (hl : (i - o) % 4294967296 ≠ 0) :
  Calls Tryz.prog 187 #[.pointer (some ⟨r,0,none⟩)] w fun e w' => e = .returned (.tuple #[.agg #[.int .i64 x.src,.int .i64 x.dst,.int .i64 x.seq,.string x.data],.int .i64 0])∧Mod (fun _ => False) w w' := by
 have q : (i == o) = false := by have := h.i0; have := h.o0; simp; omega
 obtain ⟨c0,c1,c2,c3,c4⟩ := h.cells
 have rlt := h.blk.lt
 have glt := h.row.lt
 have an := ok.an
 have n2 := ok.n2
 have h0 := (h.row.cell (a * 4 + 0)).trans (ok.head 0 (by decide))
 have h1 := (h.row.cell (a * 4 + 1)).trans (ok.head 1 (by decide))
 have h2 := (h.row.cell (a * 4 + 2)).trans (ok.head 2 (by decide))
 have h3 := (h.row.cell (a * 4 + 3)).trans (ok.head 3 (by decide))
 simp [encP] at h0 h1 h2 h3
 have b0 : (0 : Int) ≤ (a : Int) := by omega
 have b1 : (a : Int) < (n : Int) := by omega
 clear h ok
 go_enter Tryz.func187,Tryz.ntmps187
 go_upto_region 4 with fail
 go_quiet (fail)
 go_upto_region 6 with fail
 go_cut [3] (fun z w' => z = .int .i64 0∧Blk w' w.heap.size #[.int .i64 x.src,.int .i64 x.dst,.int .i64 x.seq,.string x.data] 46∧Mod (fun _ => False) w w')
 case first => as_aux_lemma =>
  go_region
  all_goals go_wp2_with fail
  all_goals go_meet
  all_goals exact ⟨rfl,by simpa using ((((((Blk.made w #[.int .i64 0,.int .i64 0,.int .i64 0,.string ⟨#[]⟩] 46).alloc (.cells #[.int .i64 0,.int .i64 0,.int .i64 0,.string ⟨#[]⟩] 46)).drewN (nq + 1)).set 0 (.int .i64 x.src)).set 1 (.int .i64 x.dst)).set 2 (.int .i64 x.seq)).set 3 (.string x.data),(((((((Mod.refl (fun _ => False) w).alloc (.cells #[.int .i64 0,.int .i64 0,.int .i64 0,.string ⟨#[]⟩] 46)).alloc (.cells #[.int .i64 0,.int .i64 0,.int .i64 0,.string ⟨#[]⟩] 46)).drewN (nq + 1)).setCell (p := ⟨w.heap.size,0,none⟩) (Or.inr (by simp)) (.int .i64 x.src)).setCell (p := ⟨w.heap.size,1,none⟩) (Or.inr (by simp)) (.int .i64 x.dst)).setCell (p := ⟨w.heap.size,2,none⟩) (Or.inr (by simp)) (.int .i64 x.seq)).setCell (p := ⟨w.heap.size,3,none⟩) (Or.inr (by simp)) (.string x.data)⟩
 case rest =>
 obtain ⟨rfl,q9,mq⟩ := hcut
 have q0 := q9.cell 0
 have q1 := q9.cell 1
 have q2 := q9.cell 2
 have q3 := q9.cell 3
 simp at q0 q1 q2 q3
 clear h0
 go_wp2
 exact bodyPost_ret (v := .tuple #[.agg #[.int .i64 x.src,.int .i64 x.dst,.int .i64 x.seq,.string x.data],.int .i64 0]) (by simp [results,Tryz.results187,go_sem,q0,q1,q2,q3]) rfl ⟨rfl,mq⟩
theorem ringP_free (x : Pkt) (h : RingIn 46 233 w r g n i o a false cs) (ok : RingOk encP 4 n a cs (x :: l)) (hl : (i - o) % 4294967296 ≠ 0) :
  Calls Tryz.prog 188 #[.pointer (some ⟨r,0,none⟩)] w fun e w' => e = .returned (.int .i64 0)∧RingIn 46 233 w' r g n i ((o + 1) % 4294967296) ((a + 1) % n) false (putRow cs (a * 4) [.int .i64 0,.int .i64 0,.int .i64 0,.string ⟨#[]⟩])∧Mod (fun k => k = r∨k = g) w w' := by
 have hRe : ∀ w1,Mod (fun _ => False) w w1→RingIn 46 233 w1 r g n i o a false cs := fun w1 m => h.later m (by simp) (by simp)
 have HRE := Lib.hid hRe
 have HPeek := Lib.hid (ringP_peek_some x h ok hl)
 have an := ok.an
 have n1 := ok.n1
 have n2 := ok.n2
 have rlt := h.blk.lt
 have glt := h.row.lt
 have e1 : (IntKind.i64.wrap ((a : Int) + 1)).tmod n = (((a + 1) % n : Nat) : Int) := by
  rw [IntWalk.i64_in _ (by omega),Int.tmod_eq_emod_of_nonneg (by omega)]
  push_cast
  rfl
 have HE := Lib.hid e1
 have e2 : ((a : Int) + 1) % n = (((a + 1) % n : Nat) : Int) := by
  push_cast
  rfl
 have HE2 := Lib.hid e2
 have hz : (a + 1) % n < n := Nat.mod_lt _ (by omega)
 generalize (a + 1) % n = z at HE HE2 hz ⊢
 have hn0 : ((n : Int) == 0) = false := by simp; omega
 have hn2 : ¬ ((n : Int) = 0) := by omega
 have hn3 : ¬ n = 0 := by omega
 obtain ⟨v0,hv0⟩ : ∃ v,cs[a * 4]? = some v := ⟨_,Array.getElem?_eq_getElem (by have := ok.lt ok.an (t := 0) (by decide); omega)⟩
 obtain ⟨v1,hv1⟩ : ∃ v,cs[a * 4 + 1]? = some v := ⟨_,Array.getElem?_eq_getElem (by have := ok.lt ok.an (t := 1) (by decide); omega)⟩
 obtain ⟨v2,hv2⟩ : ∃ v,cs[a * 4 + 2]? = some v := ⟨_,Array.getElem?_eq_getElem (by have := ok.lt ok.an (t := 2) (by decide); omega)⟩
 obtain ⟨v3,hv3⟩ : ∃ v,cs[a * 4 + 3]? = some v := ⟨_,Array.getElem?_eq_getElem (by have := ok.lt ok.an (t := 3) (by decide); omega)⟩
 have HV0 := Lib.hid hv0
 have HV1 := Lib.hid hv1
 have HV2 := Lib.hid hv2
 have HV3 := Lib.hid hv3
 clear h ok hl hRe e1 e2 hv0 hv1 hv2 hv3
 go_enter Tryz.func188,Tryz.ntmps188
 go_wp2_with fail
 refine HPeek.out.mono ?_
 rintro e w1 ⟨rfl,m1⟩
 go_upto_region 5 with fail
 have hkg : w1.heap.size + 1 ≠ g := by have := m1.size; omega
 have m5 := (m1.alloc (.cells #[.int .i64 x.src,.int .i64 x.dst,.int .i64 x.seq,.string x.data] 46)).alloc (.cells #[.int .i64 0,.int .i64 0,.int .i64 0,.string ⟨#[]⟩] 46)
 have kz := Blk.made (w1.alloc (.cells #[.int .i64 x.src,.int .i64 x.dst,.int .i64 x.seq,.string x.data] 46)) #[.int .i64 0,.int .i64 0,.int .i64 0,.string ⟨#[]⟩] 46
 simp only [World.size_alloc] at kz
 generalize (w1.alloc (.cells #[.int .i64 x.src,.int .i64 x.dst,.int .i64 x.seq,.string x.data] 46)).alloc (.cells #[.int .i64 0,.int .i64 0,.int .i64 0,.string ⟨#[]⟩] 46) = w5 at m5 kz ⊢
 have kz0 := kz.cell 0
 have kz1 := kz.cell 1
 have kz2 := kz.cell 2
 have kz3 := kz.cell 3
 simp at kz0 kz1 kz2 kz3
 have h5 := HRE.out _ m5
 obtain ⟨c0,c1,c2,c3,c4⟩ := h5.cells
 have y0 := (h5.row.cell (a * 4)).trans (by simpa using HV0.out)
 have f0 := h5.row.fz (a * 4)
 have y1 := (h5.row.cell (a * 4 + 1)).trans (by simpa using HV1.out)
 have f1 := h5.row.fz (a * 4 + 1)
 have y2 := (h5.row.cell (a * 4 + 2)).trans (by simpa using HV2.out)
 have f2 := h5.row.fz (a * 4 + 2)
 have y3 := (h5.row.cell (a * 4 + 3)).trans (by simpa using HV3.out)
 have f3 := h5.row.fz (a * 4 + 3)
 have b0 : (0 : Int) ≤ (a : Int) := by omega
 have b1 : (a : Int) < (n : Int) := by omega
 go_cut [] (fun w' => RingIn 46 233 w' r g n i o a false (putRow cs (a * 4) [.int .i64 0,.int .i64 0,.int .i64 0,.string ⟨#[]⟩])∧Mod (fun k => k = r∨k = g) w w')
 case first => as_aux_lemma =>
  go_region_held3 (fun w' => w'.cell? ⟨r,0,none⟩ = some (.slice (some ⟨g,0,none⟩) n n)∧w'.cell? ⟨r,3,none⟩ = some (.int .i64 (a : Int))∧w'.cell? ⟨w1.heap.size + 1,0,none⟩ = some (.int .i64 0)∧w'.cell? ⟨w1.heap.size + 1,1,none⟩ = some (.int .i64 0)∧w'.cell? ⟨w1.heap.size + 1,2,none⟩ = some (.int .i64 0)∧w'.cell? ⟨w1.heap.size + 1,3,none⟩ = some (.string ⟨#[]⟩))
   (first | exact ⟨c0,c3,kz0,kz1,kz2,kz3⟩ | exact ⟨(((((h5).setRow (a * 4) (.int .i64 0)).setRow (a * 4 + 1) (.int .i64 0)).setRow (a * 4 + 2) (.int .i64 0)).setRow (a * 4 + 3) (.string ⟨#[]⟩)).cells.1,(((((h5).setRow (a * 4) (.int .i64 0)).setRow (a * 4 + 1) (.int .i64 0)).setRow (a * 4 + 2) (.int .i64 0)).setRow (a * 4 + 3) (.string ⟨#[]⟩)).cells.2.2.2.1,((((kz.setOther hkg (.int .i64 0)).setOther hkg (.int .i64 0)).setOther hkg (.int .i64 0)).setOther hkg (.string ⟨#[]⟩)).cell 0,((((kz.setOther hkg (.int .i64 0)).setOther hkg (.int .i64 0)).setOther hkg (.int .i64 0)).setOther hkg (.string ⟨#[]⟩)).cell 1,((((kz.setOther hkg (.int .i64 0)).setOther hkg (.int .i64 0)).setOther hkg (.int .i64 0)).setOther hkg (.string ⟨#[]⟩)).cell 2,((((kz.setOther hkg (.int .i64 0)).setOther hkg (.int .i64 0)).setOther hkg (.int .i64 0)).setOther hkg (.string ⟨#[]⟩)).cell 3⟩ | go_keep)
   ((fail))
  all_goals go_wp2_with fail
  all_goals go_meet
  all_goals exact ⟨by first | simpa [putRow] using ((((h5.later ((Mod.refl (fun _ => False) w5).drew) (by simp) (by simp)).setRow (a * 4) (.int .i64 0)).setRow (a * 4 + 1) (.int .i64 0)).setRow (a * 4 + 2) (.int .i64 0)).setRow (a * 4 + 3) (.string ⟨#[]⟩) | simpa [putRow] using (((((h5).setRow (a * 4) (.int .i64 0)).setRow (a * 4 + 1) (.int .i64 0)).setRow (a * 4 + 2) (.int .i64 0)).setRow (a * 4 + 3) (.string ⟨#[]⟩)).later ((Mod.refl (fun _ => False) _).drew) (by simp) (by simp),by first | exact (m5.mono (S' := fun k => k = r∨k = g) (fun i hi e => e.elim)).trans ((((((Mod.refl (fun k => k = r∨k = g) w5).drew).setCell (p := ⟨g,a * 4,none⟩) (Or.inl (Or.inr rfl)) (.int .i64 0)).setCell (p := ⟨g,a * 4 + 1,none⟩) (Or.inl (Or.inr rfl)) (.int .i64 0)).setCell (p := ⟨g,a * 4 + 2,none⟩) (Or.inl (Or.inr rfl)) (.int .i64 0)).setCell (p := ⟨g,a * 4 + 3,none⟩) (Or.inl (Or.inr rfl)) (.string ⟨#[]⟩)) (fun i hi e => e) | exact (m5.mono (S' := fun k => k = r∨k = g) (fun i hi e => e.elim)).trans (((((((Mod.refl (fun k => k = r∨k = g) w5)).setCell (p := ⟨g,a * 4,none⟩) (Or.inl (Or.inr rfl)) (.int .i64 0)).setCell (p := ⟨g,a * 4 + 1,none⟩) (Or.inl (Or.inr rfl)) (.int .i64 0)).setCell (p := ⟨g,a * 4 + 2,none⟩) (Or.inl (Or.inr rfl)) (.int .i64 0)).setCell (p := ⟨g,a * 4 + 3,none⟩) (Or.inl (Or.inr rfl)) (.string ⟨#[]⟩)).drew) (fun i hi e => e)⟩
 case rest =>
 obtain ⟨h6,m6⟩ := hcut
 obtain ⟨w6,rfl⟩ : ∃ wo : World,wo = wc := ⟨_,rfl⟩
 clear c0 c1 c2 c3 c4 h5 m5 y0 f0 y1 f1 y2 f2 y3 f3 kz kz0 kz1 kz2 kz3
 obtain ⟨c0,c1,c2,c3,c4⟩ := h6.cells
 have z3 := h6.blk.fz 3
 go_upto_region 6 with fail
 go_cut [] (fun w' => RingIn 46 233 w' r g n i o z false (putRow cs (a * 4) [.int .i64 0,.int .i64 0,.int .i64 0,.string ⟨#[]⟩])∧Mod (fun k => k = r∨k = g) w w')
 case first => as_aux_lemma =>
  go_region
  all_goals go_wp2_with fail
  all_goals go_meet
  all_goals refine ⟨?_,?_⟩
  all_goals first | rw [HE2.out] | rw [HE.out]
  all_goals first
   | exact (h6.later ((Mod.refl (fun _ => False) w6).drew) (by simp) (by simp)).setA z
   | exact (h6.setA z).later ((Mod.refl (fun _ => False) _).drew) (by simp) (by simp)
   | exact (m6.drew).setCell (p := ⟨r,3,none⟩) (Or.inl (Or.inl rfl)) _
   | exact ((m6.setCell (p := ⟨r,3,none⟩) (Or.inl (Or.inl rfl)) _)).drew
 case rest =>
 obtain ⟨h7,m7⟩ := hcut
 obtain ⟨w7,rfl⟩ : ∃ wo : World,wo = wc := ⟨_,rfl⟩
 clear c0 c1 c2 c3 c4 z3 h6 m6
 obtain ⟨c0,c1,c2,c3,c4⟩ := h7.cells
 have z2 := h7.blk.fz 2
 have HF := Lib.hid (h7.setO ((o + 1) % 4294967296) ⟨by omega,by omega⟩)
 clear h7
 go_wp2
 go_ret
 exact ⟨rfl,HF.out,m7.setCell (p := ⟨r,2,none⟩) (Or.inl (Or.inl rfl)) _⟩
theorem ringP_pop_none {own : Nat→Prop} (h : RingAt encP 4 46 233 r n ([] : List (Pkt)) w own) :
  Calls Tryz.prog 162 #[.pointer (some ⟨r,0,none⟩)] w fun e w' => e = .returned (.tuple #[.agg #[.int .i64 0,.int .i64 0,.int .i64 0,.string ⟨#[]⟩],.int .i64 8])∧Mod (fun _ => False) w w' := by
 obtain ⟨g,i,o,a,cs,h,ok,hl,ho⟩ := h
 have rlt := h.blk.lt
 have glt := h.row.lt
 have HPeek := Lib.hid (fun w1 (m : Mod (fun _ => False) w w1) => ringP_peek_none (h.later m (by simp) (by simp)) (by simpa using hl))
 clear h ok hl ho
 have kb := Blk.made w #[.int .i64 0,.int .i64 0,.int .i64 0,.string ⟨#[]⟩] 46
 have m0 : Mod (fun _ => False) w (w.alloc (.cells #[.int .i64 0,.int .i64 0,.int .i64 0,.string ⟨#[]⟩] 46)) := (Mod.refl _ _).alloc _
 go_enter Tryz.func162,Tryz.ntmps162
 go_wp2_with fail
 generalize w.alloc (.cells #[.int .i64 0,.int .i64 0,.int .i64 0,.string ⟨#[]⟩] 46) = w0 at kb m0 ⊢
 refine (HPeek.out _ m0).mono ?_
 rintro e w1 ⟨rfl,m1⟩
 have k1 := (kb.later m1 (by simp)).alloc (.cells #[.int .i64 0,.int .i64 0,.int .i64 0,.string ⟨#[]⟩] 46)
 have mm := (m0.trans m1 (by simp)).alloc (.cells #[.int .i64 0,.int .i64 0,.int .i64 0,.string ⟨#[]⟩] 46)
 have hw1 : w.heap.size ≤ w1.heap.size := (m0.trans m1 (by simp)).size
 have hw2 := kb.lt
 have hw3 := m1.size
 have zc0 := k1.cell 0
 have zf0 := k1.fz 0
 have zc1 := k1.cell 1
 have zf1 := k1.fz 1
 have zc2 := k1.cell 2
 have zf2 := k1.fz 2
 have zc3 := k1.cell 3
 have zf3 := k1.fz 3
 simp at zc0 zc1 zc2 zc3
 go_wp2
 have q := ((((k1.set 0 (.int .i64 0)).set 1 (.int .i64 0)).set 2 (.int .i64 0)).set 3 (.string ⟨#[]⟩))
 have mq := ((((mm.setCell (p := ⟨w.heap.size,0,none⟩) (Or.inr (Nat.le_refl _)) (.int .i64 0)).setCell (p := ⟨w.heap.size,1,none⟩) (Or.inr (Nat.le_refl _)) (.int .i64 0)).setCell (p := ⟨w.heap.size,2,none⟩) (Or.inr (Nat.le_refl _)) (.int .i64 0)).setCell (p := ⟨w.heap.size,3,none⟩) (Or.inr (Nat.le_refl _)) (.string ⟨#[]⟩))
 simp at q
 generalize ((((((((w1.alloc (.cells #[.int .i64 0,.int .i64 0,.int .i64 0,.string ⟨#[]⟩] 46)).setCell ⟨w.heap.size,0,none⟩ (.int .i64 0))).setCell ⟨w.heap.size,1,none⟩ (.int .i64 0))).setCell ⟨w.heap.size,2,none⟩ (.int .i64 0))).setCell ⟨w.heap.size,3,none⟩ (.string ⟨#[]⟩)) = W at q mq ⊢
 have q0 := q.cell 0
 have q1 := q.cell 1
 have q2 := q.cell 2
 have q3 := q.cell 3
 simp at q0 q1 q2 q3
 exact bodyPost_ret (v := .tuple #[.agg #[.int .i64 0,.int .i64 0,.int .i64 0,.string ⟨#[]⟩],.int .i64 8]) (by simp [results,Tryz.results162,go_sem,q0,q1,q2,q3]) rfl ⟨rfl,mq⟩
theorem ringP_pop {own : Nat→Prop} (x : Pkt) (h : RingAt encP 4 46 233 r n (x :: l) w own) :
  Calls Tryz.prog 162 #[.pointer (some ⟨r,0,none⟩)] w fun e w' => e = .returned (.tuple #[.agg #[.int .i64 x.src,.int .i64 x.dst,.int .i64 x.seq,.string x.data],.int .i64 0])∧Turn own (RingAt encP 4 46 233 r n l) w w' := by
 obtain ⟨g,i,o,a,cs,h,ok,hl,ho⟩ := h
 have rlt := h.blk.lt
 have glt := h.row.lt
 have hl0 : (i - o) % 4294967296 ≠ 0 := by rw [hl]; simp only [List.length_cons]; omega
 have HPeek := Lib.hid (fun w1 (m : Mod (fun _ => False) w w1) => ringP_peek_some x (h.later m (by simp) (by simp)) ok hl0)
 have HFree := Lib.hid (fun w1 (m : Mod (fun _ => False) w w1) => ringP_free x (h.later m (by simp) (by simp)) ok hl0)
 have HK := Lib.hid ok
 have HO := Lib.hid ho
 have HI := Lib.hid hl
 have HI0 := Lib.hid h.i0
 have HO0 := Lib.hid h.o0
 have HN2 := Lib.hid (show l.length < 4096 from by have := ok.ln; have := ok.n2; simp only [List.length_cons] at *; omega)
 clear h ok hl ho hl0
 have kb := Blk.made w #[.int .i64 0,.int .i64 0,.int .i64 0,.string ⟨#[]⟩] 46
 have m0 : Mod (fun _ => False) w (w.alloc (.cells #[.int .i64 0,.int .i64 0,.int .i64 0,.string ⟨#[]⟩] 46)) := (Mod.refl _ _).alloc _
 go_enter Tryz.func162,Tryz.ntmps162
 go_wp2_with fail
 generalize w.alloc (.cells #[.int .i64 0,.int .i64 0,.int .i64 0,.string ⟨#[]⟩] 46) = w0 at kb m0 ⊢
 refine (HPeek.out _ m0).mono ?_
 rintro e w1 ⟨rfl,m1⟩
 have kx := Blk.made w1 #[.int .i64 x.src,.int .i64 x.dst,.int .i64 x.seq,.string x.data] 46
 have k2 := (kb.later m1 (by simp)).alloc (.cells #[.int .i64 x.src,.int .i64 x.dst,.int .i64 x.seq,.string x.data] 46)
 have m2 := (m0.trans m1 (by simp)).alloc (.cells #[.int .i64 x.src,.int .i64 x.dst,.int .i64 x.seq,.string x.data] 46)
 have hw1 : w.heap.size < w1.heap.size := by have := kb.lt; have := m1.size; omega
 go_wp2_with fail
 generalize w1.alloc (.cells #[.int .i64 x.src,.int .i64 x.dst,.int .i64 x.seq,.string x.data] 46) = w2 at kx k2 m2 ⊢
 refine (HFree.out _ m2).mono ?_
 rintro e w3 ⟨rfl,hR,m3⟩
 have k3 := k2.later m3 (by omega)
 have x3 := kx.later m3 (by omega)
 have m3 := (m2.mono (S' := fun k => k = r∨k = g) (fun i hi e => e.elim)).trans m3 (fun i hi e => e)
 have zc0 := k3.cell 0
 have zf0 := k3.fz 0
 have xc0 := x3.cell 0
 have zc1 := k3.cell 1
 have zf1 := k3.fz 1
 have xc1 := x3.cell 1
 have zc2 := k3.cell 2
 have zf2 := k3.fz 2
 have xc2 := x3.cell 2
 have zc3 := k3.cell 3
 have zf3 := k3.fz 3
 have xc3 := x3.cell 3
 simp at zc0 xc0 zc1 xc1 zc2 xc2 zc3 xc3
 have hR2 := hR.later (((((Mod.refl (fun k => k = w.heap.size) w3).setCell (p := ⟨w.heap.size,0,none⟩) (Or.inl rfl) (.int .i64 x.src)).setCell (p := ⟨w.heap.size,1,none⟩) (Or.inl rfl) (.int .i64 x.dst)).setCell (p := ⟨w.heap.size,2,none⟩) (Or.inl rfl) (.int .i64 x.seq)).setCell (p := ⟨w.heap.size,3,none⟩) (Or.inl rfl) (.string x.data)) (by omega) (by omega)
 have HR2 := Lib.hid hR2
 clear hR hR2
 go_wp2
 have q := ((((k3.set 0 (.int .i64 x.src)).set 1 (.int .i64 x.dst)).set 2 (.int .i64 x.seq)).set 3 (.string x.data))
 have mq := ((((m3.setCell (p := ⟨w.heap.size,0,none⟩) (Or.inr (Nat.le_refl _)) (.int .i64 x.src)).setCell (p := ⟨w.heap.size,1,none⟩) (Or.inr (Nat.le_refl _)) (.int .i64 x.dst)).setCell (p := ⟨w.heap.size,2,none⟩) (Or.inr (Nat.le_refl _)) (.int .i64 x.seq)).setCell (p := ⟨w.heap.size,3,none⟩) (Or.inr (Nat.le_refl _)) (.string x.data))
 simp at q
 generalize ((((w3.setCell ⟨w.heap.size,0,none⟩ (.int .i64 x.src)).setCell ⟨w.heap.size,1,none⟩ (.int .i64 x.dst)).setCell ⟨w.heap.size,2,none⟩ (.int .i64 x.seq)).setCell ⟨w.heap.size,3,none⟩ (.string x.data)) = W at q mq HR2 ⊢
 have q0 := q.cell 0
 have q1 := q.cell 1
 have q2 := q.cell 2
 have q3 := q.cell 3
 simp at q0 q1 q2 q3
 refine bodyPost_ret (v := .tuple #[.agg #[.int .i64 x.src,.int .i64 x.dst,.int .i64 x.seq,.string x.data],.int .i64 0]) (by simp [results,Tryz.results162,go_sem,q0,q1,q2,q3]) rfl ⟨rfl,own,⟨g,i,_,_,_,HR2.out,HK.out.pop _ rfl,?_,HO.out⟩,mq.mono (fun k hk e => (HO.out k).2 e),fun k hk => Or.inl hk⟩
 have h1 := HI.out
 have h2 := HI0.out
 have h3 := HO0.out
 have h4 := HN2.out
 simp only [List.length_cons] at h1
 omega
theorem ringP_made (w : World) (N : Nat) (hN : N ≤ 4096) : ∃ w' cs,(Instr.makeSlice 31 (.int .i64 (N : Int)) (.int .i64 (N : Int))).run Tryz.prog w = .ok (.slice (some ⟨w.heap.size,0,none⟩) N N) w'∧Blk w' w.heap.size cs 46∧cs.size = N * 4∧Mod (fun _ => False) w w' := by
 obtain ⟨i,hi,hz,hsize,hby⟩ := info_parts (show (Tryz.prog.info? 46).map (fun i => (i.zero,i.size,i.bytes)) = some (some (.agg #[.int .i64 0,.int .i64 0,.int .i64 0,.string ⟨#[]⟩]),4,40) by kernel_rfl)
 obtain ⟨w',hr,ho,hg⟩ := run_makeSlice_full (P := Tryz.prog) w w.heap.size 31 46 i (.agg #[.int .i64 0,.int .i64 0,.int .i64 0,.string ⟨#[]⟩]) 4 Tryz.underlying31 hi hz hsize .i64 .i64 N (by omega) (by rw [hby]; omega) (by unfold maxLen; omega) (Nat.le_refl _)
 rcases ho.2 with ⟨h,-⟩ | ⟨g',cap,cur,hv,-,hh,-,-,hs,ht⟩
 ·
  cases h
 ·
  simp only [Value.slice.injEq,Option.some.injEq,Addr.mk.injEq,and_true,true_and] at hv
  obtain ⟨rfl,rfl⟩ := hv
  exact ⟨w',cur,hr,hh,hs,(Mod.refl _ w).grown hg (fun k hk => by cases hk)⟩
theorem ringP_new (w : World) (N : Nat) (h1 : 1 ≤ N) (h2 : N ≤ 4096) :
  Calls Tryz.prog 161 #[.int .i64 (N : Int),.int .u32 0] w fun e w' => ∃ r,e = .returned (.pointer (some ⟨r,0,none⟩))∧Made (RingAt encP 4 46 233 r N []) w w' := by
 obtain ⟨w1,cs,hr,hb,hs,m1⟩ := ringP_made w N h2
 have q1 : ¬ (N : Int) < 1 := by omega
 have q2 : ¬ (4096 : Int) < (N : Int) := by omega
 have q3 : (N : Int) ≤ 4096 := by omega
 have q4 : (1 : Int) ≤ (N : Int) := by omega
 have q5 : max (N : Int) 1 = (N : Int) := by omega
 have q6 : min (N : Int) 4096 = (N : Int) := by omega
 go_enter Tryz.func161,Tryz.ntmps161
 go_wp2
 go_ret
 have hlt := hb.lt
 have hk := Blk.made w1 #[.slice (some ⟨w.heap.size,0,none⟩) N N,.int .u32 0,.int .u32 0,.int .i64 0,.bool false] 233
 exact ⟨w1.heap.size,rfl,fun k => k = w1.heap.size∨k = w.heap.size,⟨w.heap.size,0,0,0,cs,⟨hk,hb.alloc _,by omega,by decide,by decide⟩,⟨h1,h2,by omega,by simp,hs,by simp⟩,by simp,fun k => Iff.rfl⟩,m1.alloc _,fun k hk => by have := m1.size; omega⟩
end
open Go.RowKit
theorem ringI_at_len {w : World} {r n : Nat} {l : List (Int)} {own : Nat→Prop} (h : RingAt encI 1 3 193 r n l w own) :
  Calls Tryz.prog 93 #[.pointer (some ⟨r,0,none⟩)] w fun e w' => e = .returned (.int .i64 (l.length : Int))∧Drw w w' := by
 obtain ⟨g,i,o,a,cs,h,ok,hl,ho⟩ := h
 exact ringI_len l.length h hl
theorem ringI_at_bd {w : World} {r n : Nat} {l : List (Int)} {own : Nat→Prop} (h : RingAt encI 1 3 193 r n l w own) : l.length ≤ n∧1 ≤ n∧n ≤ 4096 := by
 obtain ⟨g,i,o,a,cs,h,ok,hl,ho⟩ := h
 exact ⟨ok.ln,ok.n1,ok.n2⟩
theorem ringW_at_len {w : World} {r n : Nat} {l : List (Nat)} {own : Nat→Prop} (h : RingAt encW 1 126 226 r n l w own) :
  Calls Tryz.prog 129 #[.pointer (some ⟨r,0,none⟩)] w fun e w' => e = .returned (.int .i64 (l.length : Int))∧Drw w w' := by
 obtain ⟨g,i,o,a,cs,h,ok,hl,ho⟩ := h
 exact ringW_len l.length h hl
theorem ringW_at_bd {w : World} {r n : Nat} {l : List (Nat)} {own : Nat→Prop} (h : RingAt encW 1 126 226 r n l w own) : l.length ≤ n∧1 ≤ n∧n ≤ 4096 := by
 obtain ⟨g,i,o,a,cs,h,ok,hl,ho⟩ := h
 exact ⟨ok.ln,ok.n1,ok.n2⟩
theorem ringW_at_peek_none {w : World} {r n : Nat} {own : Nat→Prop} (h : RingAt encW 1 126 226 r n [] w own) :
  Calls Tryz.prog 196 #[.pointer (some ⟨r,0,none⟩)] w fun e w' => e = .returned (.tuple #[.int .u64 0,.int .i64 8])∧Mod (fun _ => False) w w' := by
 obtain ⟨g,i,o,a,cs,h,ok,hl,ho⟩ := h
 exact ringW_peek_none h (by simpa using hl)
theorem ringW_at_peek {w : World} {r n : Nat} {x : Nat} {l : List (Nat)} {own : Nat→Prop} (h : RingAt encW 1 126 226 r n (x :: l) w own) :
  Calls Tryz.prog 196 #[.pointer (some ⟨r,0,none⟩)] w fun e w' => e = .returned (.tuple #[.int .u64 (x : Int),.int .i64 0])∧Mod (fun _ => False) w w' := by
 obtain ⟨g,i,o,a,cs,h,ok,hl,ho⟩ := h
 exact ringW_peek_some x h ok (by rw [hl]; simp only [List.length_cons]; omega)
theorem ringC_at_len {w : World} {r n : Nat} {l : List (Int × Nat)} {own : Nat→Prop} (h : RingAt encC 2 128 174 r n l w own) :
  Calls Tryz.prog 92 #[.pointer (some ⟨r,0,none⟩)] w fun e w' => e = .returned (.int .i64 (l.length : Int))∧Drw w w' := by
 obtain ⟨g,i,o,a,cs,h,ok,hl,ho⟩ := h
 exact ringC_len l.length h hl
theorem ringC_at_room {w : World} {r n : Nat} {l : List (Int × Nat)} {own : Nat→Prop} (h : RingAt encC 2 128 174 r n l w own) :
  Calls Tryz.prog 144 #[.pointer (some ⟨r,0,none⟩)] w fun e w' => e = .returned (.int .i64 ((n : Int) - l.length))∧Drw w w' := by
 obtain ⟨g,i,o,a,cs,h,ok,hl,ho⟩ := h
 exact ringC_room l.length h hl ok.n2
theorem ringC_at_bd {w : World} {r n : Nat} {l : List (Int × Nat)} {own : Nat→Prop} (h : RingAt encC 2 128 174 r n l w own) : l.length ≤ n∧1 ≤ n∧n ≤ 4096 := by
 obtain ⟨g,i,o,a,cs,h,ok,hl,ho⟩ := h
 exact ⟨ok.ln,ok.n1,ok.n2⟩
theorem ringP_at_bd {w : World} {r n : Nat} {l : List (Pkt)} {own : Nat→Prop} (h : RingAt encP 4 46 233 r n l w own) : l.length ≤ n∧1 ≤ n∧n ≤ 4096 := by
 obtain ⟨g,i,o,a,cs,h,ok,hl,ho⟩ := h
 exact ⟨ok.ln,ok.n1,ok.n2⟩
end Go.Proofs.YtfiklfkfbcpmgaaGreat
