/- Parts: NicB NicC NicT NicN Heads CutR CutW. No condition. -/
import Derived.Test.YtfiklfkfbcpmgaaGreatJ15
import Derived.Test.YtfiklfkfbcpmgaaGreatJ10
import Derived.Test.YtfiklfkfbcpmgaaGreatJ06
import Derived.Test.YtfiklfkfbcpmgaaGreatJ04
set_option linter.all false
set_option maxRecDepth 100000
set_option maxHeartbeats 3200000
namespace Go.Proofs.YtfiklfkfbcpmgaaGreat
open Go.RowKit
def NicS.withBox (s : NicS) (x : BoxS) : NicS := ⟨s.words,s.sent,s.joins,x⟩
def NRecvPost (b : Nat) (c : Cfg) (node : Int) (own : Nat→Prop) (w : World) (s' : NicS) (p : Pkt) (er : Int) (e : Ending) (w' : World) : Prop :=
 e = .returned (.tuple #[.agg p.cells,.int .i64 er])∧Turn own (NicAt b c node s') w w'
theorem nic_recv (b : Nat) (c : Cfg) (node : Int) (s : NicS) (s' : BoxS) (p : Pkt) (er : Int) (own : Nat→Prop) (w : World) (h : NicAt b c node s w own)
  (hR : ∀ bx ox w1,BoxAt bx c.Inbox.toNat s.box w1 ox→Calls Tryz.prog 123 #[.pointer (some ⟨bx,0,none⟩)] w1 (RecvPost bx c.Inbox.toNat ox w1 s' p er)) :
  Calls Tryz.prog 78 #[.pointer (some ⟨b,0,none⟩)] w (NRecvPost b c node own w (s.withBox s') p er) := by
 have kr := Blk.made w #[.int .i64 0,.int .i64 0,.int .i64 0,.string ⟨#[]⟩] 46
 have m0 : Mod (fun _ => False) w (w.alloc (.cells #[.int .i64 0,.int .i64 0,.int .i64 0,.string ⟨#[]⟩] 46)) := (Mod.refl _ _).alloc _
 have s0 : w.heap.size < (w.alloc (.cells #[.int .i64 0,.int .i64 0,.int .i64 0,.string ⟨#[]⟩] 46)).heap.size := by simp
 have olt := fun g (hg : own g) => (NicAt.stable b c node s).lt h hg
 have h1 := (NicAt.stable b c node s).later h m0 (by simp)
 clear h
 go_enter Tryz.func78,Tryz.ntmps78
 go_upto_region 1 with fail
 generalize w.alloc (.cells #[.int .i64 0,.int .i64 0,.int .i64 0,.string ⟨#[]⟩] 46) = w1 at kr m0 s0 h1 ⊢
 obtain ⟨bx,jp,wv,hF⟩ := h1
 obtain ⟨ob,⟨kbA,hob⟩,hobo,putB⟩ := hF.at (nicX_stable b bx jp wv c node s) .blk
 obtain ⟨oq,hqA,hoqo,putQ⟩ := hF.at (nicX_stable b bx jp wv c node s) .words
 obtain ⟨ox,hxA,hoxo,putX⟩ := hF.at (nicX_stable b bx jp wv c node s) .box
 clear hF
 have HB := Lib.hid (nic_box b bx w1 (nic_cell kbA).1)
 have HC := Lib.hid (hR bx ox w1 hxA)
 have HPUT := Lib.hid (fun w' (t : Turn ox (BoxAt bx c.Inbox.toNat s') w1 w') => (by
  obtain ⟨o',hx',m',ho'⟩ := putX (nicX b bx jp wv c node (s.withBox s')) w' (by intro j hj; cases j <;> first | rfl | exact absurd rfl hj) t
  exact ⟨o',⟨bx,jp,wv,hx'⟩,m',ho'⟩ : Turn own (NicAt b c node (s.withBox s')) w1 w'))
 clear kbA hob hobo putB hqA hoqo putQ hxA hoxo putX
 clear hR
 go_wp2_with fail
 refine HB.out.mono ?_
 rintro e w2 ⟨rfl,rfl⟩
 go_wp2_with fail
 refine HC.out.mono ?_
 rintro e w3 ⟨rfl,t1⟩
 obtain ⟨o2,h2,m2,ho2⟩ := HPUT.out _ t1
 have hnw : ¬ own w.heap.size := fun h => by have := olt _ h; omega
 have kr := kr.later m2 hnw
 have m02 : Mod own w w3 := (m0.mono (fun i hi e => e.elim)).trans m2 (fun i hi e => e)
 have ho02 : ∀ g,o2 g→own g∨w.heap.size ≤ g := fun g hg => (ho2 g hg).imp id (fun e => by omega)
 have hnw2 : ¬ o2 w.heap.size := fun h => by
  rcases ho2 _ h with e | e
  ·
   exact hnw e
  ·
   omega
 have HF := Lib.hid (fun wE (mE : Mod own w wE) (mB : Mod (fun g => g = w.heap.size) w3 wE) => (⟨o2,(NicAt.stable ..).later h2 mB (fun g hg e => hnw2 (e ▸ hg)),mE,ho02⟩ : Turn own (NicAt b c node (s.withBox s')) w wE))
 clear t1 HC HPUT h2 m2 m0
 simp only [Pkt.cells]
 have r0 := kr.cell 0
 have r1 := kr.cell 1
 have r2 := kr.cell 2
 have r3 := kr.cell 3
 simp at r0 r1 r2 r3
 have u0 := kr.fz 0
 have u1 := kr.fz 1
 have u2 := kr.fz 2
 have u3 := kr.fz 3
 go_wp2
 have qE := ((((kr.set (0) (.int .i64 p.src)).set (1) (.int .i64 p.dst)).set (2) (.int .i64 p.seq)).set (3) (.string p.data))
 have mE := ((((m02.setCell (p := ⟨w.heap.size,0,none⟩) (Or.inr (Nat.le_refl _)) (.int .i64 p.src)).setCell (p := ⟨w.heap.size,1,none⟩) (Or.inr (Nat.le_refl _)) (.int .i64 p.dst)).setCell (p := ⟨w.heap.size,2,none⟩) (Or.inr (Nat.le_refl _)) (.int .i64 p.seq)).setCell (p := ⟨w.heap.size,3,none⟩) (Or.inr (Nat.le_refl _)) (.string p.data))
 have mB := (((((Mod.refl (fun g => g = w.heap.size) w3).setCell (p := ⟨w.heap.size,0,none⟩) (Or.inl rfl) (.int .i64 p.src)).setCell (p := ⟨w.heap.size,1,none⟩) (Or.inl rfl) (.int .i64 p.dst)).setCell (p := ⟨w.heap.size,2,none⟩) (Or.inl rfl) (.int .i64 p.seq)).setCell (p := ⟨w.heap.size,3,none⟩) (Or.inl rfl) (.string p.data))
 simp at qE
 generalize ((((w3.setCell ⟨w.heap.size,0,none⟩ (.int .i64 p.src)).setCell ⟨w.heap.size,1,none⟩ (.int .i64 p.dst)).setCell ⟨w.heap.size,2,none⟩ (.int .i64 p.seq)).setCell ⟨w.heap.size,3,none⟩ (.string p.data)) = wE at qE mE mB ⊢
 have qe0 := qE.cell 0
 have qe1 := qE.cell 1
 have qe2 := qE.cell 2
 have qe3 := qE.cell 3
 simp at qe0 qe1 qe2 qe3
 exact bodyPost_ret (v := .tuple #[.agg #[.int .i64 p.src,.int .i64 p.dst,.int .i64 p.seq,.string p.data],.int .i64 er]) (by simp [results,Tryz.results78,go_sem,qe0,qe1,qe2,qe3]) rfl ⟨rfl,HF.out _ mE mB⟩
def NTellPost (b : Nat) (c : Cfg) (node : Int) (own : Nat→Prop) (w : World) (s' : NicS) (r : Bool) (e : Ending) (w' : World) : Prop :=
 e = .returned (.bool r)∧Turn own (NicAt b c node s') w w'
theorem nic_tell (b : Nat) (c : Cfg) (node : Int) (s : NicS) (own : Nat→Prop) (w : World) (h : NicAt b c node s w own) (hs : NicOk c s) (hI : 1 ≤ c.Inbox) :
  Calls Tryz.prog 109 #[.pointer (some ⟨b,0,none⟩)] w (NTellPost b c node own w (s.withBox (s.box.tell c).1) (s.box.tell c).2) := by
 have hbx := hs.box
 obtain ⟨bx,jp,wv,hF⟩ := h
 obtain ⟨ob,⟨kbA,hob⟩,hobo,putB⟩ := hF.at (nicX_stable b bx jp wv c node s) .blk
 obtain ⟨oq,hqA,hoqo,putQ⟩ := hF.at (nicX_stable b bx jp wv c node s) .words
 obtain ⟨ox,hxA,hoxo,putX⟩ := hF.at (nicX_stable b bx jp wv c node s) .box
 clear hF
 have hbd := BoxAt.bd hxA
 have HB := Lib.hid (nic_box b bx w (nic_cell kbA).1)
 have HPUT := Lib.hid (fun s' w' (t : Turn ox (BoxAt bx c.Inbox.toNat s') w w') => (by
  obtain ⟨o',hx',m',ho'⟩ := putX (nicX b bx jp wv c node (s.withBox s')) w' (by intro j hj; cases j <;> first | rfl | exact absurd rfl hj) t
  exact ⟨o',⟨bx,jp,wv,hx'⟩,m',ho'⟩ : Turn own (NicAt b c node (s.withBox s')) w w'))
 have hC : Calls Tryz.prog 153 #[.pointer (some ⟨bx,0,none⟩)] w (TellPost bx c.Inbox.toNat ox w (s.box.tell c).1 (s.box.tell c).2) := by
  rcases hr : s.box.ready with _ | p
  ·
   have e : s.box.tell c = (s.box,false) := by unfold BoxS.tell; rw [hr]
   rw [e]
   exact inbox_tell_none bx _ s.box ox w hxA hbx hr
  ·
   have e : s.box.tell c = if s.box.full c then (s.box,false) else (s.box.told p,true) := by unfold BoxS.tell BoxS.told; rw [hr]
   refine (inbox_tell bx _ p s.box ox w hxA hbx hr).mono ?_
   rintro e w' (⟨hl,ht⟩ | ⟨hl,ht⟩)
   ·
    have hf : s.box.full c = true := by unfold BoxS.full; simp; omega
    rw [‹s.box.tell c = _›,if_pos hf]
    exact ht
   ·
    have hf : ¬ s.box.full c = true := by unfold BoxS.full; simp; omega
    rw [‹s.box.tell c = _›,if_neg hf]
    exact ht
 have HC := Lib.hid hC
 clear kbA hob hobo putB hqA hoqo putQ hxA hoxo putX
 clear hs hbx hbd hC
 generalize s.box.tell c = y at HC ⊢
 obtain ⟨y1,y2⟩ := y
 dsimp only at HC ⊢
 go_enter Tryz.func109,Tryz.ntmps109
 go_wp2_with fail
 refine HB.out.mono ?_
 rintro e w1 ⟨rfl,rfl⟩
 go_wp2_with fail
 refine HC.out.mono ?_
 rintro e w2 ⟨rfl,t2⟩
 have T := Lib.hid (HPUT.out _ _ t2)
 clear t2
 go_wp2
 go_ret
 exact ⟨rfl,T.out⟩
open Go.RowKit
theorem nic_first_none (b : Nat) (c : Cfg) (node : Int) (s : NicS) (own : Nat→Prop) (w : World) (h : NicAt b c node s w own) (hq : s.words = []) :
  Calls Tryz.prog 106 #[.pointer (some ⟨b,0,none⟩)] w fun e w' => e = .returned (.tuple #[.agg #[.int .i64 0,.int .u64 0],.int .i64 8])∧Mod (fun _ => False) w w' := by
 have kr := Blk.made w #[.int .i64 0,.int .u64 0] 128
 have m0 : Mod (fun _ => False) w (w.alloc (.cells #[.int .i64 0,.int .u64 0] 128)) := (Mod.refl _ _).alloc _
 have h1 := (NicAt.stable b c node s).later h m0 (by simp)
 clear h
 go_enter Tryz.func106,Tryz.ntmps106
 go_upto_region 1 with fail
 generalize w.alloc (.cells #[.int .i64 0,.int .u64 0] 128) = w1 at kr m0 h1 ⊢
 obtain ⟨bx,jp,wv,hF⟩ := h1
 obtain ⟨ob,⟨kbA,hob⟩,hobo,putB⟩ := hF.at (nicX_stable b bx jp wv c node s) .blk
 obtain ⟨oq,hqA,hoqo,putQ⟩ := hF.at (nicX_stable b bx jp wv c node s) .words
 obtain ⟨ox,hxA,hoxo,putX⟩ := hF.at (nicX_stable b bx jp wv c node s) .box
 clear hF
 obtain ⟨a,cc,rfl,hl,hc⟩ := Que.form hqA
 rw [hq] at kbA
 simp only [List.length_nil] at kbA
 have c11 := (nic_cell kbA).2.2.1
 clear kbA hob hobo putB hqA hoqo putQ hxA hoxo putX
 clear hq hl
 have r0 := kr.cell 0
 have r1 := kr.cell 1
 simp at r0 r1
 have u0 := kr.fz 0
 have u1 := kr.fz 1
 go_wp2
 have qE := ((kr.set (0) (.int .i64 0)).set (1) (.int .u64 0))
 have mE := ((m0.setCell (p := ⟨w.heap.size,0,none⟩) (Or.inr (Nat.le_refl _)) (.int .i64 0)).setCell (p := ⟨w.heap.size,1,none⟩) (Or.inr (Nat.le_refl _)) (.int .u64 0))
 have mB := (((Mod.refl (fun g => g = w.heap.size) w1).setCell (p := ⟨w.heap.size,0,none⟩) (Or.inl rfl) (.int .i64 0)).setCell (p := ⟨w.heap.size,1,none⟩) (Or.inl rfl) (.int .u64 0))
 simp at qE
 generalize ((w1.setCell ⟨w.heap.size,0,none⟩ (.int .i64 0)).setCell ⟨w.heap.size,1,none⟩ (.int .u64 0)) = wE at qE mE mB ⊢
 have qe0 := qE.cell 0
 have qe1 := qE.cell 1
 simp at qe0 qe1
 exact bodyPost_ret (v := .tuple #[.agg #[.int .i64 0,.int .u64 0],.int .i64 8]) (by simp [results,Tryz.results106,go_sem,qe0,qe1]) rfl ⟨rfl,mE⟩
theorem nic_first (b : Nat) (c : Cfg) (node : Int) (x : Int × Nat) (ws : List (Int × Nat)) (s : NicS) (own : Nat→Prop) (w : World) (h : NicAt b c node s w own) (hq : s.words = x :: ws) :
  Calls Tryz.prog 106 #[.pointer (some ⟨b,0,none⟩)] w fun e w' => e = .returned (.tuple #[.agg #[.int .i64 x.1,.int .u64 (x.2 : Int)],.int .i64 0])∧Mod (fun _ => False) w w' := by
 have kr := Blk.made w #[.int .i64 0,.int .u64 0] 128
 have m0 : Mod (fun _ => False) w (w.alloc (.cells #[.int .i64 0,.int .u64 0] 128)) := (Mod.refl _ _).alloc _
 have s0 : w.heap.size < (w.alloc (.cells #[.int .i64 0,.int .u64 0] 128)).heap.size := by simp
 have olt := fun g (hg : own g) => (NicAt.stable b c node s).lt h hg
 have h1 := (NicAt.stable b c node s).later h m0 (by simp)
 clear h
 go_enter Tryz.func106,Tryz.ntmps106
 go_upto_region 1 with fail
 generalize w.alloc (.cells #[.int .i64 0,.int .u64 0] 128) = w1 at kr m0 s0 h1 ⊢
 obtain ⟨bx,jp,wv,hF⟩ := h1
 obtain ⟨ob,⟨kbA,hob⟩,hobo,putB⟩ := hF.at (nicX_stable b bx jp wv c node s) .blk
 obtain ⟨oq,hqA,hoqo,putQ⟩ := hF.at (nicX_stable b bx jp wv c node s) .words
 obtain ⟨ox,hxA,hoxo,putX⟩ := hF.at (nicX_stable b bx jp wv c node s) .box
 clear hF
 obtain ⟨a,cc,rfl,hl,hc⟩ := Que.form hqA
 have hlen : s.words.length = ws.length + 1 := by rw [hq]; rfl
 have hq0 : s.words[0]? = some x := by rw [hq]; rfl
 obtain ⟨g,o,rfl,hog,hglt,hcell⟩ := Que.at hqA hq0
 have d0 := hcell 0 (by decide)
 have d1 := hcell 1 (by decide)
 simp [encC] at d0 d1
 have c11 := (nic_cell kbA).2.2.1
 rw [hlen] at c11 hl
 obtain ⟨n,hn⟩ : ∃ n,ws.length = n := ⟨_,rfl⟩
 rw [hn] at c11 hl
 have q1 : (((n + 1 : Nat) : Int) == 0) = false := by simp; omega
 have q2 : ((n : Int) + 1 == 0) = false := by simp; omega
 have hgo := olt g (hoqo g hog)
 clear kbA hob hobo putB hqA hoqo putQ hxA hoxo putX
 clear hq hq0 hlen hcell hn
 have r0 := kr.cell 0
 have r1 := kr.cell 1
 simp at r0 r1
 have u0 := kr.fz 0
 have u1 := kr.fz 1
 go_wp2
 have qE := ((kr.set (0) (.int .i64 x.1)).set (1) (.int .u64 (x.2 : Int)))
 have mE := ((m0.setCell (p := ⟨w.heap.size,0,none⟩) (Or.inr (Nat.le_refl _)) (.int .i64 x.1)).setCell (p := ⟨w.heap.size,1,none⟩) (Or.inr (Nat.le_refl _)) (.int .u64 (x.2 : Int)))
 have mB := (((Mod.refl (fun g => g = w.heap.size) w1).setCell (p := ⟨w.heap.size,0,none⟩) (Or.inl rfl) (.int .i64 x.1)).setCell (p := ⟨w.heap.size,1,none⟩) (Or.inl rfl) (.int .u64 (x.2 : Int)))
 simp at qE
 generalize ((w1.setCell ⟨w.heap.size,0,none⟩ (.int .i64 x.1)).setCell ⟨w.heap.size,1,none⟩ (.int .u64 (x.2 : Int))) = wE at qE mE mB ⊢
 have qe0 := qE.cell 0
 have qe1 := qE.cell 1
 simp at qe0 qe1
 exact bodyPost_ret (v := .tuple #[.agg #[.int .i64 x.1,.int .u64 (x.2 : Int)],.int .i64 0]) (by simp [results,Tryz.results106,go_sem,qe0,qe1]) rfl ⟨rfl,mE⟩
def NicS.withWords (s : NicS) (ws : List (Int × Nat)) : NicS := ⟨ws,s.sent,s.joins,s.box⟩
theorem nicCells_set {bx : Nat} {jp : Nat→Nat} {c : Cfg} {node sent : Int} {wv : Value} (v : Value) : (nicCells bx jp c node wv sent).setIfInBounds 11 v = nicCells bx jp c node v sent := by
 unfold nicCells nicHead
 simp
theorem nicCells_set12 {bx : Nat} {jp : Nat→Nat} {c : Cfg} {node sent : Int} {wv : Value} (x : Int) : (nicCells bx jp c node wv sent).setIfInBounds 12 (.int .i64 x) = nicCells bx jp c node wv x := by
 unfold nicCells nicHead
 simp
theorem nic_turn {b bx : Nat} {jp : Nat→Nat} {wv wv' : Value} {c : Cfg} {node : Int} {s : NicS} {ws : List (Int × Nat)} {w w1 w2 : World} {own oq : Nat→Prop} (h : Fam (nicX b bx jp wv c node s) w own)
  (hq : nicX b bx jp wv c node s .words w oq) (hoq : ∀ g,oq g→own g) (put : ∀ (X' : NP→Rep) (w' : World),(∀ j,j ≠ .words→X' j = nicX b bx jp wv c node s j)→Turn oq (X' .words) w w'→Turn own (Fam X') w w')
  (t : Turn oq (Que encC 2 128 wv' ws) w w1) (hw2 : w2 = w1.setCell ⟨b,11,none⟩ wv') : Turn own (NicAt b c node (s.withWords ws)) w w2 := by
 have t1 := put (fun i => match i with | .words => Que encC 2 128 wv' ws | j => nicX b bx jp wv c node s j) w1 (by intro j hj; cases j <;> first | rfl | exact absurd rfl hj) t
 obtain ⟨o1,h1,m1,ho1⟩ := t1
 have hst : ∀ i,Stable ((fun i => match i with | .words => Que encC 2 128 wv' ws | j => nicX b bx jp wv c node s j : NP→Rep) i) := by
  intro i
  cases i
  ·
   exact nicX_stable b bx jp wv c node s .blk
  ·
   exact Que.stable _ _
  ·
   exact nicX_stable b bx jp wv c node s .box
  ·
   exact nicX_stable b bx jp wv c node s (.join _)
 obtain ⟨ob,⟨kb,hob⟩,hobo,putB⟩ := h1.at hst .blk
 have kb2 := kb.set 11 wv'
 rw [nicCells_set] at kb2
 have mB := (Mod.refl (fun g => g = b) w1).setCell (p := ⟨b,11,none⟩) (Or.inl rfl) wv'
 obtain ⟨o2,hx2,m2,ho2⟩ := putB (nicX b bx jp wv' c node (s.withWords ws)) (w1.setCell ⟨b,11,none⟩ wv') (by intro j hj; cases j <;> first | rfl | exact absurd rfl hj) (Cells.put hob kb2 mB)
 subst hw2
 exact Turn.next m1 ho1 ⟨o2,⟨bx,jp,wv',hx2⟩,m2,ho2⟩
theorem nic_put (b : Nat) (c : Cfg) (node : Int) (x : Int × Nat) (ws : List (Int × Nat)) (s : NicS) (own : Nat→Prop) (w : World) (h : NicAt b c node s w own) (hq : s.words = x :: ws) (hlw : ws.length ≤ 1000000) :
  Calls Tryz.prog 108 #[.pointer (some ⟨b,0,none⟩)] w fun e w' => e = .returned (.tuple #[.agg #[.int .i64 x.1,.int .u64 (x.2 : Int)],.int .i64 0])∧Turn own (NicAt b c node (s.withWords ws)) w w' := by
 have kr := Blk.made w #[.int .i64 0,.int .u64 0] 128
 have m0 : Mod (fun _ => False) w (w.alloc (.cells #[.int .i64 0,.int .u64 0] 128)) := (Mod.refl _ _).alloc _
 have s0 : w.heap.size < (w.alloc (.cells #[.int .i64 0,.int .u64 0] 128)).heap.size := by simp
 have olt := fun g (hg : own g) => (NicAt.stable b c node s).lt h hg
 have h1 := (NicAt.stable b c node s).later h m0 (by simp)
 clear h
 go_enter Tryz.func108,Tryz.ntmps108
 go_upto_region 1 with fail
 generalize w.alloc (.cells #[.int .i64 0,.int .u64 0] 128) = w1 at kr m0 s0 h1 ⊢
 have HF := Lib.hid (nic_first b c node x ws s own w1 h1 hq)
 go_wp2_with fail
 refine HF.out.mono ?_
 rintro e w2 ⟨rfl,m2⟩
 have kr := kr.later m2 (by simp)
 have m0 := m0.trans m2 (fun i hi e => e)
 have h2 := (NicAt.stable b c node s).later h1 m2 (by simp)
 have s0 := Nat.lt_of_lt_of_le s0 m2.size
 clear h1 m2 HF
 go_upto_region 2 with fail
 have kr := kr.alloc (.cells #[.int .i64 x.1,.int .u64 (x.2 : Int)] 128)
 have kx := Blk.made w2 #[.int .i64 x.1,.int .u64 (x.2 : Int)] 128
 have mx : Mod (fun _ => False) w2 (w2.alloc (.cells #[.int .i64 x.1,.int .u64 (x.2 : Int)] 128)) := (Mod.refl _ _).alloc _
 have m0 := m0.trans mx (fun i hi e => e)
 have h3 := (NicAt.stable b c node s).later h2 mx (by simp)
 have sx : w2.heap.size < (w2.alloc (.cells #[.int .i64 x.1,.int .u64 (x.2 : Int)] 128)).heap.size := by simp
 generalize w2.alloc (.cells #[.int .i64 x.1,.int .u64 (x.2 : Int)] 128) = w3 at kr kx m0 h3 mx sx ⊢
 clear h2 mx
 go_upto_region 3 with fail
 have h3d := (NicAt.stable b c node s).later h3 ((Mod.refl (fun _ => False) w3).drew) (by simp)
 obtain ⟨bx,jp,wv,hF⟩ := h3d
 have hF0 := hF
 obtain ⟨ob,⟨kbA,hob⟩,hobo,putB⟩ := hF.at (nicX_stable b bx jp wv c node s) .blk
 obtain ⟨oq,hqA,hoqo,putQ⟩ := hF.at (nicX_stable b bx jp wv c node s) .words
 obtain ⟨a,cc,rfl,hl,hc⟩ := Que.form hqA
 have hlen : s.words.length = ws.length + 1 := by rw [hq]; rfl
 obtain ⟨g,o,rfl,hn,hnc,hrest⟩ := Que.rest (x := x) (xs := ws) (by
  have := hqA
  rw [nicX,hq] at this
  exact this)
 have c11 := (nic_cell kbA).2.2.1
 have z11 := kbA.fz 11
 simp at c11 z11
 obtain ⟨k,hk⟩ : ∃ k,ws.length = k := ⟨_,rfl⟩
 rw [hlen,hk] at c11 hl
 have HK := Lib.hid hk
 have HLL := Lib.hid hlen
 have HR := Lib.hid hrest
 have HPQ := Lib.hid hqA
 have HPUT := Lib.hid (fun v w' (t : Turn oq (Que encC 2 128 v ws) w3.drew w') => nic_turn (ws := ws) (w2 := w'.setCell ⟨b,11,none⟩ v) hF0 hqA hoqo putQ t rfl)
 have q0 : (1 : Int) ≤ (k : Int) + 1 := by omega
 have q1 : k ≤ 1000000 := by omega
 have q3 : (k : Int) + 1 ≤ (cc : Int) := by omega
 have q4 : (cc : Int) ≤ 9223372036854775807 := by omega
 clear hrest hqA putQ hF0 hF putB hob hobo kbA hq hn hlen hlw hk
 go_cut [] (fun w' => ∃ a',(a' = some ⟨g,o,none⟩∧k = 0∨a' = some ⟨g,o + 2,none⟩)∧w' = (w3.setCell ⟨b,11,none⟩ (.slice a' k k)).drew)
 case first =>
  by_cases hk0 : k = 0
  ·
   subst hk0
   have q6 : (1 : Int) ≤ (cc : Int) := by omega
   have q7 : 1 ≤ cc := by omega
   go_still_tail 18,(by kernel_rfl)
   change wpList _ _ _ _ _ w3.drew
   go_wp2_with fail
   all_goals go_meet
   all_goals exact ⟨_,Or.inl ⟨rfl,trivial⟩,rfl⟩
  ·
   go_still_tail 18,(by kernel_rfl)
   change wpList _ _ _ _ _ w3.drew
   go_wp2_with fail
   all_goals go_meet
   all_goals exact ⟨_,Or.inr rfl,rfl⟩
 case rest =>
 obtain ⟨a',ha',hwc⟩ := hcut
 have tq := HR.out a' (ha'.imp (fun e => ⟨e.1,by have e2 := e.2; have e3 := HK.out; rw [List.length_cons]; omega⟩) id)
 have t1 : Turn oq (Que encC 2 128 (.slice a' k k) ws) w3.drew w3.drew := ⟨oq,by simpa [HK.out] using tq,Mod.refl _ _,fun g hg => Or.inl hg⟩
 have T := HPUT.out _ _ t1
 rw [show w3.drew.setCell ⟨b,11,none⟩ (.slice a' k k) = wc by rw [hwc]; rfl] at T
 have T3 := T.before ((Mod.refl (fun _ => False) w3).drew)
 obtain ⟨o2,h2,m2,ho2⟩ := T3
 have hnw : ¬ own w.heap.size := fun h => by have := olt _ h; omega
 have hnx : ¬ own w2.heap.size := fun h => by have := olt _ h; omega
 have kr := kr.later m2 hnw
 have kx := kx.later m2 hnx
 have m02 : Mod own w wc := (m0.mono (fun i hi e => e.elim)).trans m2 (fun i hi e => e)
 have ho02 : ∀ g,o2 g→own g∨w.heap.size ≤ g := fun g hg => (ho2 g hg).imp id (fun e => by omega)
 have hnw2 : ¬ o2 w.heap.size := fun h => by
  rcases ho2 _ h with e | e
  ·
   exact hnw e
  ·
   omega
 have HFF := Lib.hid (fun wE (mE : Mod own w wE) (mB : Mod (fun g => g = w.heap.size) wc wE) => (⟨o2,(NicAt.stable ..).later h2 mB (fun g hg e => hnw2 (e ▸ hg)),mE,ho02⟩ : Turn own (NicAt b c node (s.withWords ws)) w wE))
 clear hwc ha' tq t1 T h2 m2 m0 c11 z11 HR HPQ HPUT h3
 have x0 := kx.cell 0
 have x1 := kx.cell 1
 simp at x0 x1
 have r0 := kr.cell 0
 have r1 := kr.cell 1
 simp at r0 r1
 have u0 := kr.fz 0
 have u1 := kr.fz 1
 go_wp2
 have qE := ((kr.set (0) (.int .i64 x.1)).set (1) (.int .u64 (x.2 : Int)))
 have mE := ((m02.setCell (p := ⟨w.heap.size,0,none⟩) (Or.inr (Nat.le_refl _)) (.int .i64 x.1)).setCell (p := ⟨w.heap.size,1,none⟩) (Or.inr (Nat.le_refl _)) (.int .u64 (x.2 : Int)))
 have mB := (((Mod.refl (fun g => g = w.heap.size) wc).setCell (p := ⟨w.heap.size,0,none⟩) (Or.inl rfl) (.int .i64 x.1)).setCell (p := ⟨w.heap.size,1,none⟩) (Or.inl rfl) (.int .u64 (x.2 : Int)))
 simp at qE
 generalize ((wc.setCell ⟨w.heap.size,0,none⟩ (.int .i64 x.1)).setCell ⟨w.heap.size,1,none⟩ (.int .u64 (x.2 : Int))) = wE at qE mE mB ⊢
 have qe0 := qE.cell 0
 have qe1 := qE.cell 1
 simp at qe0 qe1
 exact bodyPost_ret (v := .tuple #[.agg #[.int .i64 x.1,.int .u64 (x.2 : Int)],.int .i64 0]) (by simp [results,Tryz.results108,go_sem,qe0,qe1]) rfl ⟨rfl,HFF.out _ mE mB⟩
open Go.RowKit
theorem nic_join {w : World} {b bx : Nat} {jp : Nat→Nat} {c : Cfg} {node sent : Int} {wv : Value} (h : Blk w b (nicCells bx jp c node wv sent) 136) {p l : Nat} (hp : p < 5) (hl : l < c.Lanes.toNat) (h8 : c.Lanes.toNat ≤ 8) :
  w.cell? ⟨b,13 + p * 8 + l,none⟩ = some (.pointer (some ⟨jp (p * c.Lanes.toNat + l),0,none⟩)) := by
 rw [h.cell]
 unfold nicCells
 have h1 : (nicHead bx c node wv sent).length = 13 := rfl
 rw [List.getElem?_toArray,List.getElem?_append_right (by omega),h1,show 13 + p * 8 + l - 13 = p * 8 + l by omega]
 unfold joinsA
 rw [List.getElem?_map,List.getElem?_range (by omega)]
 simp only [Option.map_some]
 rw [show (p * 8 + l) % 8 = l by omega,show (p * 8 + l) / 8 = p by omega,if_pos hl]
def BoxS.comeO (s : BoxS) : Option Pkt→BoxS
 | some p => s.come p
 | none => s
def NicS.took (s : NicS) (k x : Nat) : NicS :=
 ⟨s.words,s.sent,s.joins.set k ((s.joins.getD k JoinS.new).take x).1,s.box.comeO ((s.joins.getD k JoinS.new).take x).2⟩
def NPost (b : Nat) (c : Cfg) (node : Int) (own : Nat→Prop) (w : World) (s' : NicS) (e : Ending) (w' : World) : Prop :=
 ∃ er : Int,e = .returned (.int .i64 er)∧Turn own (NicAt b c node s') w w'
theorem nic_take (b : Nat) (c : Cfg) (node : Int) (p l x : Nat) (s : NicS) (own : Nat→Prop) (w : World) (h : NicAt b c node s w own) (hs : NicOk c s) (hp : p < 5) (hl : (l : Int) < c.Lanes) (h8 : c.Lanes ≤ 8) (hx : x < 2 ^ 64) :
  Calls Tryz.prog 104 #[.pointer (some ⟨b,0,none⟩),.int .i64 (p : Int),.int .i64 (l : Int),.int .u64 (x : Int)] w (NPost b c node own w (s.took (p * c.Lanes.toNat + l) x)) := by
 obtain ⟨k,hk⟩ : ∃ k,p * c.Lanes.toNat + l = k := ⟨_,rfl⟩
 have hklt : k < 5 * c.Lanes.toNat := by
  have : p * c.Lanes.toNat + c.Lanes.toNat ≤ 5 * c.Lanes.toNat := by rw [← Nat.succ_mul]; exact Nat.mul_le_mul_right _ hp
  omega
 rw [hk]
 have hkj : k < s.joins.length := by rw [hs.jl]; exact hklt
 have hjk : s.joins[k]? = some s.joins[k] := List.getElem?_eq_getElem hkj
 have hjok : JoinOk (s.joins.getD k JoinS.new) := by rw [List.getD_eq_getElem?_getD,hjk]; exact hs.join _ (List.getElem_mem _)
 have hbox := hs.box
 obtain ⟨j,hj⟩ : ∃ j,s.joins.getD k JoinS.new = j := ⟨_,rfl⟩
 rw [hj] at hjok
 obtain ⟨hjok2,hpk⟩ := hjok.take x
 have olt := fun g (hg : own g) => (NicAt.stable b c node s).lt h hg
 obtain ⟨bx,jp,wv,hF⟩ := h
 obtain ⟨ob,⟨kbA,hob⟩,hobo,putB⟩ := hF.at (nicX_stable b bx jp wv c node s) .blk
 obtain ⟨oj,hjA,hojo,putJ⟩ := hF.at (nicX_stable b bx jp wv c node s) (.join k)
 have hjA : JoinAt (jp k) j w oj := by
  have h1 := hjA
  rw [nicX,if_pos hklt,hj] at h1
  exact h1
 have cj := nic_join kbA hp (l := l) (by omega) (by omega)
 rw [hk] at cj
 have c3 := (nic_cfg kbA).2.2.1
 obtain ⟨j',hj'⟩ : ∃ j',(j.take x).1 = j' := ⟨_,rfl⟩
 obtain ⟨o',ho'⟩ : ∃ o',(j.take x).2 = o' := ⟨_,rfl⟩
 have HT := Lib.hid (join_take (jp k) x j oj w hjA hjok hx)
 rw [hj',ho'] at HT
 rw [ho'] at hpk
 obtain ⟨s1,hs1⟩ : ∃ s1 : NicS,s1 = ⟨s.words,s.sent,s.joins.set k j',s.box⟩ := ⟨_,rfl⟩
 have HPUT := Lib.hid (fun w' (t : Turn oj (JoinAt (jp k) j') w w') => (by
  obtain ⟨o2,hx',m',ho2⟩ := putJ (nicX b bx jp wv c node s1) w' (by
   intro i hi
   rw [hs1]
   cases i
   ·
    rfl
   ·
    rfl
   ·
    rfl
   ·
    rename_i k'
    have hkk : k ≠ k' := fun e => hi (by rw [e])
    show (if k' < 5 * c.Lanes.toNat then JoinAt (jp k') ((s.joins.set k j').getD k' JoinS.new) else Emp) = (if k' < 5 * c.Lanes.toNat then JoinAt (jp k') (s.joins.getD k' JoinS.new) else Emp)
    rw [List.getD_eq_getElem?_getD,List.getElem?_set_ne hkk,List.getD_eq_getElem?_getD]) (by
   have e : nicX b bx jp wv c node s1 (.join k) = JoinAt (jp k) j' := by
    rw [hs1]
    show (if k < 5 * c.Lanes.toNat then JoinAt (jp k) ((s.joins.set k j').getD k JoinS.new) else Emp) = _
    rw [if_pos hklt,List.getD_eq_getElem?_getD,List.getElem?_set_self (by rw [hs.jl]; exact hklt)]
    rfl
   rw [e]
   exact t)
  exact ⟨o2,⟨bx,jp,wv,hx'⟩,m',ho2⟩ : Turn own (NicAt b c node s1) w w'))
 have hsk : s.took k x = ⟨s.words,s.sent,s.joins.set k j',s.box.comeO o'⟩ := by
  unfold NicS.took
  rw [hj,hj',ho']
 obtain ⟨s2,hs2⟩ : ∃ s2,s.took k x = s2 := ⟨_,rfl⟩
 rw [hs2] at hsk ⊢
 have HS2 := Lib.hid hsk
 have HS1 := Lib.hid hs1
 have HPK := Lib.hid hpk
 have HBOX := Lib.hid hbox
 have q1 : ¬ (p : Int) < 0 := by omega
 have q2 : ¬ (5 : Int) ≤ (p : Int) := by omega
 have q3 : ¬ (l : Int) < 0 := by omega
 have q4 : ¬ c.Lanes ≤ (l : Int) := by omega
 have q5 : (p : Int) < 5 := by omega
 have q6 : (l : Int) < 8 := by omega
 have q7 : (0 : Int) ≤ (p : Int) := by omega
 have q8 : (0 : Int) ≤ (l : Int) := by omega
 clear hk hklt hjk hkj hjok hbox hj hjok2 hpk hF kbA hob hobo putB hjA hojo putJ hj' ho' hs1 hsk hs2 hs hx
 go_enter Tryz.func104,Tryz.ntmps104
 go_wp2_with fail
 refine HT.out.mono ?_
 rintro e w1 ⟨er,rfl,t1⟩
 obtain ⟨o1,h1,m1,ho1⟩ := HPUT.out _ t1
 clear t1 cj c3 HT HPUT
 cases o' with
 | none =>
  simp only [Option.getD_none,Option.isSome_none,Pkt.cells,Pkt.zero]
  have T := Lib.hid (fun nq : Unit => Turn.behind (NicAt.stable b c node s1) (⟨o1,h1,m1,ho1⟩ : Turn own (NicAt b c node s1) w w1) ((Mod.refl (fun _ => False) w1).alloc (.cells #[.int .i64 0,.int .i64 0,.int .i64 0,.string ⟨#[]⟩] 46)))
  have HE := Lib.hid (show s2 = s1 by rw [HS2.out,HS1.out]; rfl)
  clear h1 m1 ho1
  go_wp2
  go_ret
  exact ⟨er,rfl,by rw [HE.out]; exact T.out ()⟩
 | some pk =>
  simp only [Option.getD_some,Option.isSome_some,Pkt.cells]
  have hpok := HPK.out pk rfl
  go_upto_region 5 with fail
  have kp := Blk.made w1 #[.int .i64 pk.src,.int .i64 pk.dst,.int .i64 pk.seq,.string pk.data] 46
  have mp : Mod (fun _ => False) w1 (w1.alloc (.cells #[.int .i64 pk.src,.int .i64 pk.dst,.int .i64 pk.seq,.string pk.data] 46)) := (Mod.refl _ _).alloc _
  generalize w1.alloc (.cells #[.int .i64 pk.src,.int .i64 pk.dst,.int .i64 pk.seq,.string pk.data] 46) = w2 at kp mp ⊢
  have h2 := (NicAt.stable ..).later h1 mp (by simp)
  have m2 := m1.trans mp (fun i hi e => e.elim)
  have h2d := (NicAt.stable ..).later h2 ((Mod.refl (fun _ => False) w2).drew) (by simp)
  obtain ⟨bx2,jp2,wv2,hF2⟩ := h2d
  obtain ⟨ob2,⟨kbB,hob2⟩,hobo2,putB2⟩ := hF2.at (nicX_stable b bx2 jp2 wv2 c node s1) .blk
  obtain ⟨ox2,hxB,hoxo2,putX2⟩ := hF2.at (nicX_stable b bx2 jp2 wv2 c node s1) .box
  have hbx1 : s1.box = s.box := by rw [HS1.out]
  have hxB : BoxAt bx2 c.Inbox.toNat s.box w2.drew ox2 := by
   have h3 := hxB
   rw [nicX,hbx1] at h3
   exact h3
  have HC := Lib.hid (inbox_come bx2 _ pk s.box ox2 w2.drew hxB HBOX.out hpok)
  have HPX := Lib.hid (fun w' (t : Turn ox2 (BoxAt bx2 c.Inbox.toNat (s.box.come pk)) w2.drew w') => (by
   obtain ⟨o3,hx',m',ho3⟩ := putX2 (nicX b bx2 jp2 wv2 c node s2) w' (by
    intro i hi
    have e1 := HS1.out
    have e2 := HS2.out
    cases i
    ·
     rw [e1,e2]; rfl
    ·
     rw [e1,e2]; rfl
    ·
     exact absurd rfl hi
    ·
     rw [e1,e2]; rfl) (by
    have e2 := HS2.out
    rw [e2]
    exact t)
   exact Turn.next m2.drew (fun g hg => ho1 g hg) ⟨o3,⟨bx2,jp2,wv2,hx'⟩,m',ho3⟩ : Turn own (NicAt b c node s2) w w'))
  have c0 := (nic_cell kbB).1
  simp at c0
  clear hF2 kbB hob2 hobo2 putB2 hxB hoxo2 putX2 h1 h2 hbx1 hpok
  have y0 := kp.cell 0
  have y1 := kp.cell 1
  have y2 := kp.cell 2
  have y3 := kp.cell 3
  simp at y0 y1 y2 y3
  go_cut [11] (fun z w' => ∃ er : Int,z = .int .i64 er∧Turn own (NicAt b c node s2) w w')
  case first =>
   go_still_tail 5,(by kernel_rfl)
   change wpList _ _ _ _ _ w2.drew
   go_wp2_with fail
   refine HC.out.mono ?_
   rintro e w4 ⟨er2,rfl,t4⟩
   have T := Lib.hid (HPX.out _ t4)
   clear t4
   go_wp2_with fail
   all_goals go_meet
   all_goals exact ⟨er2,rfl,T.out⟩
  case rest =>
   obtain ⟨er2,rfl,T⟩ := hcut
   have T2 := Lib.hid T
   clear T
   go_wp2
   go_ret
   exact ⟨er2,rfl,T2.out⟩
open Go.RowKit
def joinO (L : Nat) (jp : Nat→Nat) (p l : Nat) : Option Addr := if l < L then some ⟨jp (p * L + l),0,none⟩ else none
def joinV (L : Nat) (jp : Nat→Nat) (p l : Nat) : Value := .pointer (joinO L jp p l)
theorem joinV_eq (L : Nat) (jp : Nat→Nat) (p l : Nat) : joinV L jp p l = if l < L then .pointer (some ⟨jp (p * L + l),0,none⟩) else .pointer none := by
 unfold joinV joinO
 split <;> rfl
def joinRow (L : Nat) (jp : Nat→Nat) (p : Nat) : Array Value := #[joinV L jp p 0,joinV L jp p 1,joinV L jp p 2,joinV L jp p 3,joinV L jp p 4,joinV L jp p 5,joinV L jp p 6,joinV L jp p 7]
theorem joinsA_row (L : Nat) (jp : Nat→Nat) (p : Nat) (hp : p < 5) : (joinsA L jp).toArray.extract (p * 8) (p * 8 + 8) = joinRow L jp p := by
 unfold joinRow
 simp only [joinV_eq]
 rcases (show p = 0∨p = 1∨p = 2∨p = 3∨p = 4 by omega) with rfl | rfl | rfl | rfl | rfl <;> rfl
theorem joinRow_at (L : Nat) (jp : Nat→Nat) (p l : Nat) (hl : l < 8) : (joinRow L jp p)[l]? = some (joinV L jp p l) := by
 rcases (show l = 0∨l = 1∨l = 2∨l = 3∨l = 4∨l = 5∨l = 6∨l = 7 by omega) with rfl | rfl | rfl | rfl | rfl | rfl | rfl | rfl <;> rfl
def begB (L : Nat) (js : List JoinS) (i : Nat) : Bool := decide (i % 8 < L) && (js.getD (i / 8 * L + i % 8) JoinS.new).begun
def begN (L : Nat) (js : List JoinS) (m : Nat) : Nat := ((List.range m).filter (begB L js)).length
theorem begN_succ (L : Nat) (js : List JoinS) (m : Nat) : begN L js (m + 1) = begN L js m + if begB L js m = true then 1 else 0 := by
 unfold begN
 rw [List.range_succ,List.filter_append,List.length_append]
 by_cases h : begB L js m = true <;> simp [h]
theorem begN_le (L : Nat) (js : List JoinS) (m : Nat) : begN L js m ≤ m := by
 unfold begN
 exact Nat.le_trans (List.length_filter_le _ _) (by simp)
theorem begN_zero (L : Nat) (js : List JoinS) (hl : js.length = 5 * L) (h8 : L ≤ 8) : begN L js 40 = 0 ↔ js.all (fun j => !j.begun) = true := by
 unfold begN
 rw [List.length_eq_zero_iff,List.filter_eq_nil_iff,List.all_eq_true]
 constructor
 ·
  intro h x hx
  obtain ⟨k,hk,rfl⟩ := List.getElem_of_mem hx
  have hL : 0 < L := by omega
  have hm := Nat.mod_lt k hL
  have hd : k / L < 5 := Nat.div_lt_of_lt_mul (by rw [Nat.mul_comm]; omega)
  have hi := h (k / L * 8 + k % L) (by rw [List.mem_range]; omega)
  unfold begB at hi
  have e1 : (k / L * 8 + k % L) % 8 = k % L := by omega
  have e2 : (k / L * 8 + k % L) / 8 = k / L := by omega
  rw [e1,e2,show k / L * L + k % L = k by rw [Nat.mul_comm]; exact Nat.div_add_mod k L,decide_eq_true hm,List.getD_eq_getElem?_getD,List.getElem?_eq_getElem hk] at hi
  simpa using hi
 ·
  intro h i hi
  rw [List.mem_range] at hi
  unfold begB
  by_cases h1 : i % 8 < L
  ·
   have hk : i / 8 * L + i % 8 < js.length := by
    have h2 : (i / 8 + 1) * L ≤ 5 * L := Nat.mul_le_mul_right _ (by omega)
    rw [Nat.succ_mul] at h2
    omega
   have := h _ (List.getElem_mem hk)
   rw [decide_eq_true h1,List.getD_eq_getElem?_getD,List.getElem?_eq_getElem hk]
   simpa using this
  ·
   simp [h1]
theorem nic_begun (b : Nat) (c : Cfg) (node : Int) (s : NicS) (own : Nat→Prop) (w : World) (h : NicAt b c node s w own) (hs : NicOk c s) (h1 : 1 ≤ c.Lanes) (h8 : c.Lanes ≤ 8) :
  Calls Tryz.prog 46 #[.pointer (some ⟨b,0,none⟩)] w fun e w' => e = .returned (.int .i64 (begN c.Lanes.toNat s.joins 40 : Int))∧Mod (fun _ => False) w w' := by
 obtain ⟨bx,jp,wv,hF⟩ := h
 obtain ⟨ob,⟨kb,-⟩,-⟩ := hF.at (nicX_stable b bx jp wv c node s) .blk
 obtain ⟨L,hL⟩ : ∃ L,c.Lanes.toNat = L := ⟨_,rfl⟩
 have hR : w.rangeAt b 13 (joinsA L jp) := by
  intro j v hj
  rw [kb.cell]
  unfold nicCells
  have h13 : (nicHead bx c node wv s.sent).length = 13 := rfl
  rw [List.getElem?_toArray,List.getElem?_append_right (by omega),h13,show 13 + j - 13 = j by omega,hL]
  exact hj
 obtain ⟨N,hN⟩ : ∃ N,begN c.Lanes.toNat s.joins 40 = N := ⟨_,rfl⟩
 rw [hN]
 have HE := Lib.hid (show begN L s.joins 40 = N by rw [← hN,hL])
 clear hN
 go_enter Tryz.func46,Tryz.ntmps46
 go_upto_region 3 with fail
 have HJ := Lib.hid (fun (p l : Nat) (hp : p < 5) (hl : l < 8) (w1 : World) (m : Mod (fun _ => False) w w1) => (by
  have hjl := hs.jl
  rw [hL] at hjl
  rw [joinV_eq]
  unfold begB
  by_cases hlL : l < L
  ·
   obtain ⟨oj,hj,-,-⟩ := hF.at (nicX_stable b bx jp wv c node s) (.join (p * L + l))
   have hidx : p * L + l < 5 * L := by
    have h2 : (p + 1) * L ≤ 5 * L := Nat.mul_le_mul_right _ (by omega)
    rw [Nat.succ_mul] at h2
    omega
   rw [nicX,hL,if_pos hidx] at hj
   rw [if_pos hlL,show (p * 8 + l) % 8 = l by omega,show (p * 8 + l) / 8 = p by omega,decide_eq_true hlL,Bool.true_and]
   exact join_begun _ _ _ _ ((JoinAt.stable _ _).later hj m (by simp))
  ·
   rw [if_neg hlL,show (p * 8 + l) % 8 = l by omega,decide_eq_false hlL,Bool.false_and]
   exact join_begun_nil w1 : Calls Tryz.prog 89 #[joinV L jp p l] w1 fun e w' => e = .returned (.bool (begB L s.joins (p * 8 + l)))∧w' = w1))
 have HX := Lib.hid (fun (p : Nat) (hp : p < 5) (w1 : World) => (by
  have := run_index_agg (P := Tryz.prog) w1 134 133 5 8 _ (joinsA L jp).toArray p Tryz.underlying134 Tryz.underlying133 rfl (by kernel_rfl) hp
  rw [joinsA_row L jp p hp] at this
  exact this : (Instr.index 134 (.agg (joinsA L jp).toArray) (.int .i64 (p : Int))).run Tryz.prog w1 = .ok (.agg (joinRow L jp p)) w1))
 have HY := Lib.hid (fun (p l : Nat) (hl : l < 8) (w1 : World) => run_index_one (P := Tryz.prog) w1 133 132 8 _ (joinRow L jp p) l _ Tryz.underlying133 Tryz.underlying132 rfl (by kernel_rfl) hl (joinRow_at L jp p l hl))
 generalize s.joins = js at HJ HE
 clear hF kb hs
 go_wp2_with (refine wpList_load_mid rfl 134 _ rfl b 13 rfl (joinsA L jp) _ hR Tryz.underlying134 rfl (by kernel_rfl) ?_)
 obtain ⟨arr,harr⟩ : ∃ a,(joinsA L jp).toArray = a := ⟨_,rfl⟩
 rw [harr] at HX ⊢
 clear harr hR
 go_loopw [3,14] (fun z i wr => ∃ p : Nat,p ≤ 5∧i = .int .i64 (p : Int)∧z = .int .i64 (begN L js (p * 8) : Int)∧Mod (fun _ => False) w wr) (fun _ i _ => 5 - (intOf i).toNat)
 case atStart => exact ⟨0,by omega,rfl,rfl,Mod.refl _ _⟩
 case round =>
  obtain ⟨p,hp,rfl,rfl,hm⟩ := hrel
  obtain ⟨wA,rfl⟩ : ∃ wo : World,wo = wr := ⟨_,rfl⟩
  by_cases hlt : p < 5
  ·
   have q0 : (0 : Int) ≤ (p : Int) := by omega
   have q1 : (p : Int) < 5 := by omega
   have hx := HX.out p hlt wA
   have HY2 := Lib.hid (HY.out p)
   have HJ2 := Lib.hid (fun l hl => HJ.out p l hlt hl)
   simp only [joinRow,joinV] at hx HY2 HJ2
   generalize joinO L jp p = jo at hx HY2 HJ2
   go_wp2
   go_loopw [3,18] (fun z i wr => ∃ l : Nat,l ≤ 8∧i = .int .i64 (l : Int)∧z = .int .i64 (begN L js (p * 8 + l) : Int)∧Mod (fun _ => False) w wr) (fun _ i _ => 8 - (intOf i).toNat)
   case atStart => exact ⟨0,by omega,rfl,rfl,hm.alloc _⟩
   case round =>
    obtain ⟨l,hl,rfl,rfl,hm2⟩ := hrel
    obtain ⟨wB,rfl⟩ : ∃ wo : World,wo = wr := ⟨_,rfl⟩
    by_cases hll : l < 8
    ·
     have q2 : (0 : Int) ≤ (l : Int) := by omega
     have q3 : (l : Int) < 8 := by omega
     have hy := HY2.out l hll wB
     have HJ3 := Lib.hid (HJ2.out l hll wB hm2)
     have HS := Lib.hid (begN_succ L js (p * 8 + l))
     have hbn := begN_le L js (p * 8 + l)
     generalize jo l = jol at hy HJ3
     go_wp2_with fail
     refine HJ3.out.mono ?_
     rintro e w3 ⟨rfl,hw3⟩
     subst hw3
     cases hb : begB L js (p * 8 + l) with
     | true =>
      rw [hb] at HS
      have g1 : IntKind.i64.wrap ((begN L js (p * 8 + l) : Int) + 1) = (begN L js (p * 8 + l) : Int) + 1 := IntWalk.i64_in _ (by omega)
      clear hb
      go_wp2
      go_roundw
      case rel => exact ⟨l + 1,by omega,by go_num,by rw [← Nat.add_assoc,HS.out]; simp,hm2⟩
      case measure => simp [intOf]; omega
     | false =>
      rw [hb] at HS
      clear hb
      go_wp2
      go_roundw
      case rel => exact ⟨l + 1,by omega,by go_num,by rw [← Nat.add_assoc,HS.out]; simp,hm2⟩
      case measure => simp [intOf]; omega
    ·
     have hl8 : l = 8 := by omega
     subst hl8
     go_wp2
     go_roundw
     case rel => exact ⟨p + 1,by omega,by go_num,by rw [show (p + 1) * 8 = p * 8 + 8 by omega],hm2⟩
     case measure => simp [intOf]; omega
  ·
   have hp5 : p = 5 := by omega
   subst hp5
   go_wp2
   go_ret
   exact ⟨by rw [← HE.out]; rfl,hm⟩
open Go.RowKit
def HeadsV (w : World) (v : Value) (xs : List (Int × Int)) : Prop :=
 ∃ a n c,v = .slice a n c∧xs.length = n∧n ≤ c∧c ≤ maxLen∧(xs = []∨∃ B off,a = some ⟨B,off,none⟩∧B < w.heap.size∧∀ j x,xs[j]? = some x→w.cell? ⟨B,off + j * 2,none⟩ = some (.int .i64 x.1)∧w.cell? ⟨B,off + j * 2 + 1,none⟩ = some (.int .i64 x.2))
theorem HeadsV.later {w w' : World} {v : Value} {xs : List (Int × Int)} (h : HeadsV w v xs) {S : Nat→Prop} (hm : Mod S w w') (hS : ∀ a n c,v = .slice (some a) n c→¬ S a.block) : HeadsV w' v xs := by
 obtain ⟨a,n,c,hv,hn,hc,hm',h⟩ := h
 refine ⟨a,n,c,hv,hn,hc,hm',?_⟩
 rcases h with h | ⟨B,off,ha,hB,h⟩
 ·
  exact Or.inl h
 ·
  refine Or.inr ⟨B,off,ha,Nat.lt_of_lt_of_le hB hm.size,fun j x hj => ?_⟩
  have hS' := hS ⟨B,off,none⟩ n c (by rw [hv,ha])
  rw [hm.cell (p := ⟨B,off + j * 2,none⟩) hB hS',hm.cell (p := ⟨B,off + j * 2 + 1,none⟩) hB hS']
  exact h j x hj
theorem HeadsV.at {w : World} {a : Option Addr} {n c : Nat} {xs : List (Int × Int)} (h : HeadsV w (.slice a n c) xs) (i : Nat) (x : Int × Int) (hx : xs[i]? = some x) :
  ∃ B off,a = some ⟨B,off,none⟩∧B < w.heap.size∧w.cell? ⟨B,off + i * 2,none⟩ = some (.int .i64 x.1)∧w.cell? ⟨B,off + i * 2 + 1,none⟩ = some (.int .i64 x.2) := by
 obtain ⟨a',n',c',hv,hn,_,_,h⟩ := h
 simp only [Value.slice.injEq] at hv
 obtain ⟨rfl,rfl,rfl⟩ := hv
 rcases h with rfl | ⟨B,off,ha,hB,h⟩
 ·
  simp at hx
 ·
  exact ⟨B,off,ha,hB,h i x hx⟩
structure TellsT (w0 : World) (g : Nat) (lb : Array Value) (p : Int × Int→Bool) : Prop where
 enters : ∀ args w,(callFunc g args).run Tryz.prog w = .ok (.enter g args) w
 call : ∀ (W : World) (x : Int × Int),Mod (fun _ => False) w0 W→Calls Tryz.prog g (#[.agg #[.int .i64 x.1,.int .i64 x.2]] ++ lb) W fun e w' => e = .returned (.bool (p x))∧Mod (fun _ => False) W w'
def idxT (p : Int × Int→Bool) (xs : List (Int × Int)) : Int := match xs.findIdx? p with | some k => k | none => -1
theorem run_IndexT (w0 : World) (g : Nat) (lb : Array Value) (p : Int × Int→Bool) (v : Value) (xs : List (Int × Int)) (w : World) (hT : TellsT w0 g lb p) (h0 : Mod (fun _ => False) w0 w) (hs : HeadsV w v xs) :
  Calls Tryz.prog 166 #[v,.func (.func g) #[] lb] w fun e w' => e = .returned (.int .i64 (idxT p xs))∧Mod (fun _ => False) w w' := by
 have eg := hT.enters
 obtain ⟨a,n,c,rfl,hn,hc,hm,-⟩ := id hs
 have HS := Lib.hid hs
 have HN := Lib.hid hn
 unfold maxLen at hm
 clear hs hn
 go_enter Tryz.func166,Tryz.ntmps166
 go_wp2
 go_loopw [8] (fun i wr => ∃ k : Nat,k ≤ n∧i = .int .i64 k∧Mod (fun _ => False) w wr∧∀ j x,j < k→xs[j]? = some x→p x = false) (fun i _ => n - (intOf i).toNat)
 case atStart => exact ⟨0,by omega,rfl,Mod.refl _ _,fun j x hj => by omega⟩
 case round =>
  obtain ⟨k,hk,rfl,hmod,hno⟩ := hrel
  by_cases hlt : k < n
  ·
   obtain ⟨x,hx⟩ : ∃ x,xs[k]? = some x := ⟨xs[k]'(by have := HN.out; omega),by rw [List.getElem?_eq_getElem]⟩
   obtain ⟨B,off,rfl,hB,h1,h2⟩ := HS.out.at k x hx
   have h1 := (hmod.cell (p := ⟨B,off + k * 2,none⟩) hB (by simp)).trans h1
   have h2 := (hmod.cell (p := ⟨B,off + k * 2 + 1,none⟩) hB (by simp)).trans h2
   have HX := Lib.hid hx
   have HO := Lib.hid hno
   clear hx hno
   go_wp2_with fail
   refine (hT.call _ x (h0.trans hmod (by simp))).mono ?_
   rintro e w1 ⟨rfl,m1⟩
   cases hp : p x with
   | true =>
    have HP := Lib.hid hp
    clear hp
    go_wp2
    go_ret
    have hi : xs.findIdx? p = some k := by
     rw [List.findIdx?_eq_some_iff_getElem]
     have hk' : k < xs.length := by have := HN.out; omega
     have hxk : xs[k] = x := by have := HX.out; rw [List.getElem?_eq_getElem hk'] at this; exact Option.some.inj this
     refine ⟨hk',by rw [hxk]; exact HP.out,fun j hj => ?_⟩
     have := HO.out j xs[j] hj (List.getElem?_eq_getElem (by omega))
     simp [this]
    exact ⟨by simp [idxT,hi],hmod.trans m1 (by simp)⟩
   | false =>
    have HP := Lib.hid hp
    clear hp
    go_wp2
    go_roundw
    case rel => exact ⟨k + 1,by omega,by go_num,hmod.trans m1 (by simp),fun j y hj hy => by
     by_cases e : j = k
     ·
      subst e
      have h1 := HX.out
      rw [hy] at h1
      obtain rfl := Option.some.inj h1
      exact HP.out
     ·
      exact HO.out j y (by omega) hy⟩
    case measure => simp [intOf]; omega
  ·
   have hf : xs.findIdx? p = none := by
    rw [List.findIdx?_eq_none_iff]
    intro x hx
    obtain ⟨j,hj,rfl⟩ := List.mem_iff_getElem.1 hx
    exact hno j _ (by have := HN.out; omega) (List.getElem?_eq_getElem hj)
   have HF := Lib.hid hf
   clear hno hf
   go_wp2
   go_ret
   exact ⟨by simp [idxT,HF.out],hmod⟩
theorem run_ContainsT (w0 : World) (g : Nat) (lb : Array Value) (p : Int × Int→Bool) (v : Value) (xs : List (Int × Int)) (w : World) (hT : TellsT w0 g lb p) (h0 : Mod (fun _ => False) w0 w) (hs : HeadsV w v xs) :
  Calls Tryz.prog 126 #[v,.func (.func g) #[] lb] w fun e w' => e = .returned (.bool (xs.any p))∧Mod (fun _ => False) w w' := by
 obtain ⟨a,n,c,rfl,-⟩ := id hs
 have HS := Lib.hid hs
 clear hs
 have hv : (decide (0 ≤ idxT p xs)) = xs.any p := by
  unfold idxT
  cases hf : xs.findIdx? p with
  | some k =>
   rw [List.findIdx?_eq_some_iff_getElem] at hf
   obtain ⟨hk,hp,_⟩ := hf
   have : xs.any p = true := List.any_eq_true.2 ⟨xs[k],List.getElem_mem hk,hp⟩
   simp [this]
  | none =>
   rw [List.findIdx?_eq_none_iff] at hf
   have : xs.any p = false := List.any_eq_false.2 fun x hx => by simp [hf x hx]
   simp [this]
 go_enter Tryz.func126,Tryz.ntmps126
 go_wp2_with fail
 refine (run_IndexT w0 g lb p _ xs w hT h0 HS.out).mono ?_
 rintro e w1 ⟨rfl,m1⟩
 go_wp2
 go_ret
 exact ⟨by rw [← hv]; rfl,m1⟩
theorem cut_node (n : Int) (w : World) :
  Calls Tryz.prog 190 #[.int .i64 n] w fun e w' => e = .returned (.bool (nodeB n))∧w' = w := by
 by_cases h0 : 0 ≤ n
 ·
  by_cases h1 : n < 4096
  all_goals
   go_enter Tryz.func190,Tryz.ntmps190
   go_wp2
   go_ret
   exact ⟨by simp [nodeB,h0,h1],rfl⟩
 ·
  go_enter Tryz.func190,Tryz.ntmps190
  go_wp2
  go_ret
  exact ⟨by simp [nodeB]; omega,rfl⟩
def headOk (t : Int × Int) : Bool := nodeB t.1 && decide (0 ≤ t.2) && decide (t.2 < 65536)
theorem tells_odd (w : World) : TellsT w 189 #[] (fun t => !headOk t) where
 enters := enters_of Tryz.func189 (by kernel_rfl) rfl
 call := by
  intro W x hm
  obtain ⟨x1,x2⟩ := x
  have kb := Blk.made W #[.int .i64 x1,.int .i64 x2] 80
  have m0 : Mod (fun _ => False) W (W.alloc (.cells #[.int .i64 x1,.int .i64 x2] 80)) := (Mod.refl _ _).alloc _
  have c0 := kb.cell 0
  have c1 := kb.cell 1
  simp at c0 c1
  obtain ⟨nb,hnb⟩ : ∃ n,nodeB x1 = n := ⟨_,rfl⟩
  have HN := Lib.hid (fun w => cut_node x1 w)
  have HB := Lib.hid (show headOk (x1,x2) = (nb && decide (0 ≤ x2) && decide (x2 < 65536)) by unfold headOk; rw [hnb])
  rw [hnb] at HN
  clear hnb hm
  go_enter Tryz.func189,Tryz.ntmps189
  go_wp2_with fail
  refine (HN.out _).mono ?_
  rintro e w1 ⟨rfl,rfl⟩
  cases nb with
  | false =>
   go_wp2
   go_ret
   exact ⟨by rw [HB.out]; rfl,m0⟩
  | true =>
   by_cases h0 : x2 < 0
   ·
    go_wp2
    go_ret
    exact ⟨by rw [HB.out]; simp; omega,m0⟩
   ·
    by_cases h1 : 65536 ≤ x2
    ·
     go_wp2
     go_ret
     exact ⟨by rw [HB.out]; simp; omega,m0⟩
    ·
     go_wp2
     go_ret
     exact ⟨by rw [HB.out,show decide (0 ≤ x2) = true from decide_eq_true (by omega),show decide (x2 < 65536) = true from decide_eq_true (by omega)]; (first | (simp; done) | (simp; omega)),m0⟩
open Go.RowKit
def Parcel.val (p : Parcel) (v : Value) : Array Value := #[.int .i64 p.src,.bool p.cast,v,.string p.data]
def headsB (p : Parcel) : Bool := decide (0 < p.heads.length) && decide (p.heads.length ≤ 4096) && (p.cast || decide (p.heads.length = 1))
theorem right_eq (p : Parcel) : p.right = (headsB p && nodeB p.src && !(p.heads.any fun t => !headOk t) && decide (p.data.size ≤ 64)) := by
 have e : (!(p.heads.any fun t => !headOk t)) = p.heads.all headOk := by rw [List.not_any_eq_all_not]; simp
 rw [e]
 rfl
theorem cut_right (p : Parcel) (v : Value) (w : World) (hs : HeadsV w v p.heads) (hd : p.data.size ≤ 9223372036854775807) :
  Calls Tryz.prog 163 #[.agg (p.val v)] w fun e w' => e = .returned (.bool p.right)∧Mod (fun _ => False) w w' := by
 have hmf : ∀ (fn : Fn) (first cap : Array Value) (w : World),(Instr.makeFunc fn first cap).run Tryz.prog w = .ok (.func fn first cap) w := fun _ _ _ _ => rfl
 obtain ⟨src,cast,heads,data⟩ := p
 have hre := right_eq ⟨src,cast,heads,data⟩
 obtain ⟨a,n,c,rfl,hn,hc,hm,-⟩ := id hs
 dsimp only at hs hd hn hre
 obtain ⟨hbv,hhb⟩ : ∃ b,headsB ⟨src,cast,heads,data⟩ = b := ⟨_,rfl⟩
 have hhb2 : hbv = (decide (0 < n) && decide (n ≤ 4096) && (cast || decide (n = 1))) := by rw [← hhb,← hn]; rfl
 obtain ⟨rv,hrv⟩ : ∃ r,Parcel.right ⟨src,cast,heads,data⟩ = r := ⟨_,rfl⟩
 obtain ⟨av,hav⟩ : ∃ r,(heads.any fun t => !headOk t) = r := ⟨_,rfl⟩
 obtain ⟨nv,hnv⟩ : ∃ r,nodeB src = r := ⟨_,rfl⟩
 rw [hhb,hrv,hav,hnv] at hre
 rw [hrv]
 have HRE := Lib.hid hre
 have HHB := Lib.hid hhb2
 have HN := Lib.hid (fun w => cut_node src w)
 rw [hnv] at HN
 unfold maxLen at hm
 have kb := Blk.made w #[.int .i64 src,.bool cast,.slice a n c,.string data] 66
 have m0 : Mod (fun _ => False) w (w.alloc (.cells #[.int .i64 src,.bool cast,.slice a n c,.string data] 66)) := (Mod.refl _ _).alloc _
 have hs1 := hs.later m0 (by simp)
 simp only [Parcel.val]
 clear hhb hrv hnv hre hhb2 hs hn
 have HAV := Lib.hid hav
 clear hav
 go_enter Tryz.func163,Tryz.ntmps163
 go_upto_region 2 with fail
 generalize w.alloc (.cells #[.int .i64 src,.bool cast,.slice a n c,.string data] 66) = w1 at kb m0 hs1 ⊢
 have HS := Lib.hid hs1
 clear hs1
 have y0 := kb.cell 0
 have y1 := kb.cell 1
 have y2 := kb.cell 2
 have y3 := kb.cell 3
 simp at y0 y1 y2 y3
 go_cut [4] (fun z w' => z = .bool hbv∧w1 = w')
 case first =>
  by_cases h1 : 0 < n
  ·
   by_cases h2 : n ≤ 4096
   ·
    cases cast with
    | true =>
     have H := Lib.hid (show hbv = true by rw [HHB.out]; simp [h1,h2])
     clear HHB
     go_wp2_with fail
     all_goals go_meet
     all_goals exact ⟨by rw [H.out]; (try simp); (try omega),rfl⟩
    | false =>
     by_cases h3 : n = 1
     ·
      have q3 : ((n : Int) == 1) = true := by rw [h3]; rfl
      have H := Lib.hid (show hbv = true by rw [HHB.out]; simp [h1,h2,h3])
      clear HHB h3
      go_wp2_with fail
      all_goals go_meet
      all_goals exact ⟨by rw [H.out],rfl⟩
     ·
      have q3 : ((n : Int) == 1) = false := by simp; omega
      have H := Lib.hid (show hbv = false by rw [HHB.out]; simp [h3])
      clear HHB h3
      go_wp2_with fail
      all_goals go_meet
      all_goals exact ⟨by rw [H.out],rfl⟩
   ·
    have q2 : decide (n ≤ 4096) = false := decide_eq_false h2
    have q3 : decide ((n : Int) ≤ 4096) = false := decide_eq_false (by omega)
    have H := Lib.hid (show hbv = false by rw [HHB.out]; simp [h2])
    clear HHB
    go_wp2_with fail
    all_goals go_meet
    all_goals exact ⟨by rw [H.out],rfl⟩
  ·
   have q2 : decide (0 < n) = false := decide_eq_false h1
   have q3 : decide (0 < (n : Int)) = false := decide_eq_false (by omega)
   have H := Lib.hid (show hbv = false by rw [HHB.out]; simp [h1])
   clear HHB
   go_wp2_with fail
   all_goals go_meet
   all_goals exact ⟨by rw [H.out],rfl⟩
 case rest =>
 obtain ⟨rfl,rfl⟩ := hcut
 clear HHB
 cases hbv with
 | false =>
  go_wp2
  go_ret
  exact ⟨by rw [HRE.out]; simp,m0⟩
 | true =>
  go_wp2_with fail
  refine (HN.out _).mono ?_
  rintro e w2 ⟨rfl,rfl⟩
  cases nv with
  | false =>
   go_wp2
   go_ret
   exact ⟨by rw [HRE.out]; simp,m0⟩
  | true =>
   go_wp2_with fail
   refine (run_ContainsT _ _ _ _ _ heads _ (tells_odd _) (Mod.refl _ _) HS.out).mono ?_
   rw [HAV.out]
   rintro e w3 ⟨rfl,m3⟩
   have k3 := kb.later m3 (by simp)
   have m03 := m0.trans m3 (by simp)
   clear y0 y1 y2 y3
   have y0 := k3.cell 0
   have y1 := k3.cell 1
   have y2 := k3.cell 2
   have y3 := k3.cell 3
   simp at y0 y1 y2 y3
   cases av with
   | true =>
    go_wp2
    go_ret
    exact ⟨by rw [HRE.out]; simp,m03⟩
   | false =>
    by_cases h6 : data.size ≤ 64
    all_goals
     go_wp2
     go_ret
     exact ⟨by rw [HRE.out]; (first | (simp; done) | (simp; omega)),m03⟩
open Go.RowKit
def wordsV (l : List Nat) : List Value := l.map fun (x : Nat) => .int .u64 (x : Int)
theorem info_u64 : (Tryz.prog.info? 126).map (fun i => (i.zero,i.size,i.bytes)) = some (some (.int .u64 0),1,8) := by kernel_rfl
def WL (w : World) (L : Nat) (xs : List Nat) : Prop := ∃ lv,Blk w L #[lv] 166∧w.ownsRow (L + 1) 126 1 lv xs.length (wordsV xs)
theorem WL.later {w w' : World} {L : Nat} {xs : List Nat} (h : WL w L xs) (m : Mod (fun _ => False) w w') : WL w' L xs := by
 obtain ⟨lv,kb,ho⟩ := h
 exact ⟨lv,kb.later m (by simp),own_laterF ho m (by simp)⟩
theorem cut_put (f : Flit) (L : Nat) (xs : List Nat) (w : World) (hr : f.right = true) (h : WL w L xs) (hn : xs.length < 10000) :
  Calls Tryz.prog 164 #[.agg f.cells,.pointer (some ⟨L,0,none⟩)] w fun e w' => e = .returned (.tuple #[])∧WL w' L (xs ++ [wr f])∧Mod (fun g => L ≤ g) w w' := by
 have HW := Lib.hid (fun w => flit_write f w)
 rw [if_pos hr] at HW
 obtain ⟨wf,hwf⟩ : ∃ x,wr f = x := ⟨_,rfl⟩
 rw [hwf] at HW ⊢
 have m0 : Mod (fun _ => False) w (w.alloc (.cells #[.int .i64 f.kind,.int .i64 f.src,.int .i64 f.dst,.int .i64 f.seq,.int .i64 f.len,.bool f.more,.bool f.cast,.string f.data] 197)) := (Mod.refl _ _).alloc _
 have kf := Blk.made w #[.int .i64 f.kind,.int .i64 f.src,.int .i64 f.dst,.int .i64 f.seq,.int .i64 f.len,.bool f.more,.bool f.cast,.string f.data] 197
 have h1 := h.later m0
 simp only [Flit.cells] at HW ⊢
 clear hr h hwf
 go_enter Tryz.func164,Tryz.ntmps164
 go_upto_region 1 with fail
 generalize w.alloc (.cells #[.int .i64 f.kind,.int .i64 f.src,.int .i64 f.dst,.int .i64 f.seq,.int .i64 f.len,.bool f.more,.bool f.cast,.string f.data] 197) = w1 at kf m0 h1 ⊢
 have f0 := kf.cell 0
 have f1 := kf.cell 1
 have f2 := kf.cell 2
 have f3 := kf.cell 3
 have f4 := kf.cell 4
 have f5 := kf.cell 5
 have f6 := kf.cell 6
 have f7 := kf.cell 7
 simp at f0 f1 f2 f3 f4 f5 f6 f7
 go_wp2_with fail
 refine (HW.out _).mono ?_
 rintro e w2 ⟨rfl,m2⟩
 have h2 := h1.later m2
 have m02 := m0.trans m2 (fun i hi e => e)
 clear f0 f1 f2 f3 f4 f5 f6 f7 h1
 obtain ⟨lv,kb,hown⟩ := h2
 have hlow := fun i e => (hown.lt i e).1
 have hLlt := kb.lt
 have c0 := kb.cell 0
 simp at c0
 go_wp2_with (at_builtin; refine wpList_appendE rfl _ _ 166 rfl (L + 1) 126 (.int .u64 0) 1 8 Tryz.underlying166 info_u64 rfl (by decide) lv xs.length (wordsV xs) rfl hown #[.int .u64 (wf : Int)] rfl rfl (by simp [Value.oneCell']) (by unfold maxLen; omega) (by omega) (by omega) ?_; intro g cap wz hown7 hm7 hat7; have kbz := kb.later hm7 (fun e => by have := hlow L e; omega); have cz := kbz.cell 0; simp at cz; have zz := kbz.fz 0)
 have hgL : g ≠ L := fun e => by
  have := (hown7.lt g rfl).1
  omega
 have kbF := kbz.set 0 (.slice (some ⟨g,0,none⟩) (xs.length + 1) cap)
 simp at kbF
 have hownF := own_laterF hown7 ((Mod.refl (fun k => k = L) wz).setCell (p := ⟨L,0,none⟩) (Or.inl rfl) (.slice (some ⟨g,0,none⟩) (xs.length + 1) cap)) (fun q hq e => by
  have h1 : g = q := (by simpa [Value.ownBlock] using hq)
  exact hgL (h1.trans e))
 go_end0
 refine ⟨rfl,⟨_,kbF,?_⟩,((m02.mono (S' := fun g => L ≤ g) (fun i hi e => e.elim)).trans hm7 (fun i hi e => by have := hlow i e; omega)).setCell (p := ⟨L,0,none⟩) (Or.inl (Nat.le_refl _)) _⟩
 simpa [wordsV] using hownF
end Go.Proofs.YtfiklfkfbcpmgaaGreat
