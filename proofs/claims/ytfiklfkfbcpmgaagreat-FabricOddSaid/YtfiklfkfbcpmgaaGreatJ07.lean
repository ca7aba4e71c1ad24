/- Parts: Join. No condition. -/
import Derived.Test.YtfiklfkfbcpmgaaGreatJ06
import Derived.Test.YtfiklfkfbcpmgaaGreatJ04
import Derived.Test.YtfiklfkfbcpmgaaGreatJ01
set_option linter.all false
set_option maxRecDepth 100000
set_option maxHeartbeats 3200000
namespace Go.Proofs.YtfiklfkfbcpmgaaGreat
open Go.RowKit
def JoinS.cells (s : JoinS) : Array Value := #[.bool s.begun,.int .i64 s.p.src,.int .i64 s.p.dst,.int .i64 s.p.seq,.string s.p.data,.int .i64 s.size]
def Pkt.cells (p : Pkt) : Array Value := #[.int .i64 p.src,.int .i64 p.dst,.int .i64 p.seq,.string p.data]
def JoinAt (b : Nat) (s : JoinS) : Rep := Cells b s.cells 191
theorem JoinAt.stable (b : Nat) (s : JoinS) : Stable (JoinAt b s) := Cells.stable _ _ _
structure JoinOk (s : JoinS) : Prop where
 src : nodeB s.p.src = true
 dst : nodeB s.p.dst = true
 seq : 0 ≤ s.p.seq∧s.p.seq < 65536
 size : 0 ≤ s.size∧s.size ≤ 64
 data : (s.p.data.size : Int) ≤ 64
def Pkt.Ok (p : Pkt) : Prop := nodeB p.src = true∧nodeB p.dst = true∧(0 ≤ p.seq∧p.seq < 65536)∧(p.data.size : Int) ≤ 64
theorem JoinOk.new : JoinOk JoinS.new := ⟨rfl,rfl,by simp [JoinS.new,Pkt.zero],by simp [JoinS.new],by decide⟩
theorem join_begun (b : Nat) (s : JoinS) (own : Nat→Prop) (w : World) (h : JoinAt b s w own) :
  Calls Tryz.prog 89 #[.pointer (some ⟨b,0,none⟩)] w fun e w' => e = .returned (.bool s.begun)∧w' = w := by
 obtain ⟨kb,-⟩ := h
 have c0 := kb.cell 0
 simp [JoinS.cells] at c0
 go_enter Tryz.func89,Tryz.ntmps89
 go_wp2
 go_ret
 exact ⟨rfl,rfl⟩
theorem join_begun_nil (w : World) :
  Calls Tryz.prog 89 #[.pointer none] w fun e w' => e = .returned (.bool false)∧w' = w := by
 go_enter Tryz.func89,Tryz.ntmps89
 go_wp2
 go_ret
 exact ⟨rfl,rfl⟩
theorem rdF_none {x : Nat} (h : rdF x = none) : rdE x ≠ 0 := by
 intro e
 unfold rdF at h
 unfold rdE at e
 by_cases h1 : rightN x = true
 ·
  by_cases h2 : (decN x).right = true∧wr (decN x) = x
  ·
   rw [if_pos ⟨h1,h2⟩] at h
   cases h
  ·
   rw [if_pos h1,if_neg h2] at e
   cases e
 ·
  rw [if_neg h1] at e
  cases e
def TakePost (b : Nat) (own : Nat→Prop) (w : World) (s' : JoinS) (o : Option Pkt) (e : Ending) (w' : World) : Prop :=
 ∃ er : Int,e = .returned (.tuple #[.agg (o.getD Pkt.zero).cells,.bool o.isSome,.int .i64 er])∧Turn own (JoinAt b s') w w'
theorem join_take_none (b x : Nat) (s : JoinS) (own : Nat→Prop) (w : World) (h : JoinAt b s w own) (hx : x < 2 ^ 64) (hf : rdF x = none) :
  Calls Tryz.prog 149 #[.pointer (some ⟨b,0,none⟩),.int .u64 (x : Int)] w (TakePost b own w (s.take x).1 (s.take x).2) := by
 have ht : s.take x = (s,none) := by unfold JoinS.take; rw [hf]
 rw [ht]
 have HFin := Lib.hid (fun w' (m : Mod (fun _ => False) w w') => Turn.same (JoinAt.stable b s) h m)
 have he := rdF_none hf
 have hv : rdV x = Flit.none := by unfold rdV; rw [hf]; rfl
 obtain ⟨ka,ho⟩ := id h
 have hb := ka.lt
 have kr := (Blk.made w #[.int .i64 0,.int .i64 0,.int .i64 0,.string ⟨#[]⟩] 46).alloc (.cells #[.int .i64 0,.int .i64 0,.int .i64 0,.string ⟨#[]⟩] 46)
 have kn := Blk.made (w.alloc (.cells #[.int .i64 0,.int .i64 0,.int .i64 0,.string ⟨#[]⟩] 46)) #[.int .i64 0,.int .i64 0,.int .i64 0,.string ⟨#[]⟩] 46
 have ka := (ka.alloc (.cells #[.int .i64 0,.int .i64 0,.int .i64 0,.string ⟨#[]⟩] 46)).alloc (.cells #[.int .i64 0,.int .i64 0,.int .i64 0,.string ⟨#[]⟩] 46)
 have m0 : Mod (fun _ => False) w ((w.alloc (.cells #[.int .i64 0,.int .i64 0,.int .i64 0,.string ⟨#[]⟩] 46)).alloc (.cells #[.int .i64 0,.int .i64 0,.int .i64 0,.string ⟨#[]⟩] 46)) := ((Mod.refl _ _).alloc _).alloc _
 have HO := Lib.hid ho
 have HRD := Lib.hid (fun w => flit_read x w hx)
 simp only [World.size_alloc] at kn
 have s0 : w.heap.size + 1 < ((w.alloc (.cells #[.int .i64 0,.int .i64 0,.int .i64 0,.string ⟨#[]⟩] 46)).alloc (.cells #[.int .i64 0,.int .i64 0,.int .i64 0,.string ⟨#[]⟩] 46)).heap.size := by simp
 clear ho hx h
 rw [hv] at HRD
 simp only [Flit.cells,Flit.none] at HRD
 have hq : (rdE x != 0) = true := by rw [bne_iff_ne]; exact he
 generalize rdE x = er at HRD hq ⊢
 clear he hv hf ht
 go_enter Tryz.func149,Tryz.ntmps149
 go_wp2_with fail
 generalize (w.alloc (.cells #[.int .i64 0,.int .i64 0,.int .i64 0,.string ⟨#[]⟩] 46)).alloc (.cells #[.int .i64 0,.int .i64 0,.int .i64 0,.string ⟨#[]⟩] 46) = w1 at kr kn ka m0 s0 ⊢
 refine (HRD.out _).mono ?_
 rintro e w2 ⟨rfl,m2⟩
 have kr := kr.later m2 (by simp)
 have kn := kn.later m2 (by simp)
 have ka := ka.later m2 (by simp)
 have mm := m0.trans m2 (by simp)
 have hsz := Nat.lt_of_lt_of_le s0 m2.size
 go_upto_region 5 with fail
 have kf := Blk.made w2 #[.int .i64 0,.int .i64 0,.int .i64 0,.int .i64 0,.int .i64 0,.bool false,.bool false,.string ⟨#[]⟩] 197
 have kr := kr.alloc (.cells #[.int .i64 0,.int .i64 0,.int .i64 0,.int .i64 0,.int .i64 0,.bool false,.bool false,.string ⟨#[]⟩] 197)
 have kn := kn.alloc (.cells #[.int .i64 0,.int .i64 0,.int .i64 0,.int .i64 0,.int .i64 0,.bool false,.bool false,.string ⟨#[]⟩] 197)
 have ka := ka.alloc (.cells #[.int .i64 0,.int .i64 0,.int .i64 0,.int .i64 0,.int .i64 0,.bool false,.bool false,.string ⟨#[]⟩] 197)
 have mm := mm.alloc (.cells #[.int .i64 0,.int .i64 0,.int .i64 0,.int .i64 0,.int .i64 0,.bool false,.bool false,.string ⟨#[]⟩] 197)
 have hsf : w2.heap.size < (w2.alloc (.cells #[.int .i64 0,.int .i64 0,.int .i64 0,.int .i64 0,.int .i64 0,.bool false,.bool false,.string ⟨#[]⟩] 197)).heap.size := by simp
 generalize w2.alloc (.cells #[.int .i64 0,.int .i64 0,.int .i64 0,.int .i64 0,.int .i64 0,.bool false,.bool false,.string ⟨#[]⟩] 197) = w3 at kf kr kn ka mm hsf ⊢
 clear m0 m2
 have v0 := kn.cell 0
 have v1 := kn.cell 1
 have v2 := kn.cell 2
 have v3 := kn.cell 3
 simp at v0 v1 v2 v3
 have y0 := kr.cell 0
 have y1 := kr.cell 1
 have y2 := kr.cell 2
 have y3 := kr.cell 3
 simp at y0 y1 y2 y3
 have u0 := kr.fz 0
 have u1 := kr.fz 1
 have u2 := kr.fz 2
 have u3 := kr.fz 3
 go_wp2
 have qE := ((((kr.set (0) (.int .i64 0)).set (1) (.int .i64 0)).set (2) (.int .i64 0)).set (3) (.string ⟨#[]⟩))
 have mE := ((((mm.setCell (p := ⟨w.heap.size,0,none⟩) (Or.inr (Nat.le_refl _)) (.int .i64 0)).setCell (p := ⟨w.heap.size,1,none⟩) (Or.inr (Nat.le_refl _)) (.int .i64 0)).setCell (p := ⟨w.heap.size,2,none⟩) (Or.inr (Nat.le_refl _)) (.int .i64 0)).setCell (p := ⟨w.heap.size,3,none⟩) (Or.inr (Nat.le_refl _)) (.string ⟨#[]⟩))
 have mB := (((((Mod.refl (fun g => g = w.heap.size) w3).setCell (p := ⟨w.heap.size,0,none⟩) (Or.inl rfl) (.int .i64 0)).setCell (p := ⟨w.heap.size,1,none⟩) (Or.inl rfl) (.int .i64 0)).setCell (p := ⟨w.heap.size,2,none⟩) (Or.inl rfl) (.int .i64 0)).setCell (p := ⟨w.heap.size,3,none⟩) (Or.inl rfl) (.string ⟨#[]⟩))
 simp at qE
 generalize ((((w3.setCell ⟨w.heap.size,0,none⟩ (.int .i64 0)).setCell ⟨w.heap.size,1,none⟩ (.int .i64 0)).setCell ⟨w.heap.size,2,none⟩ (.int .i64 0)).setCell ⟨w.heap.size,3,none⟩ (.string ⟨#[]⟩)) = wE at qE mE mB ⊢
 have qe0 := qE.cell 0
 have qe1 := qE.cell 1
 have qe2 := qE.cell 2
 have qe3 := qE.cell 3
 simp at qe0 qe1 qe2 qe3
 exact bodyPost_ret (v := .tuple #[.agg #[.int .i64 0,.int .i64 0,.int .i64 0,.string ⟨#[]⟩],.bool false,.int .i64 er]) (by simp [results,Tryz.results149,go_sem,qe0,qe1,qe2,qe3]) rfl ⟨er,rfl,HFin.out _ mE⟩
theorem rdV_some {x : Nat} {f : Flit} (h : rdF x = some f) : rdV x = f := by unfold rdV; rw [h]; rfl
theorem rdE_some {x : Nat} {f : Flit} (h : rdF x = some f) : rdE x = 0 := (rdF_some h).2.2.2
theorem join_take_same (b x : Nat) (s : JoinS) (own : Nat→Prop) (w : World) (f : Flit) (h : JoinAt b s w own) (hx : x < 2 ^ 64) (hf : rdF x = some f) (hk : decide (f.kind = 1) = s.begun) :
  Calls Tryz.prog 149 #[.pointer (some ⟨b,0,none⟩),.int .u64 (x : Int)] w (TakePost b own w (s.take x).1 (s.take x).2) := by
 have ht : s.take x = (s,none) := by unfold JoinS.take; rw [hf]; dsimp only; rw [if_pos hk]
 rw [ht]
 have HFin := Lib.hid (fun w' (m : Mod (fun _ => False) w w') => Turn.same (JoinAt.stable b s) h m)
 have hq : (f.kind == 1) = s.begun := by rw [← hk]; rfl
 clear ht hk
 have HQ := Lib.hid hq
 clear hq
 have hv := rdV_some hf
 have he := rdE_some hf
 obtain ⟨ka,ho⟩ := id h
 have hb := ka.lt
 have kr := (Blk.made w #[.int .i64 0,.int .i64 0,.int .i64 0,.string ⟨#[]⟩] 46).alloc (.cells #[.int .i64 0,.int .i64 0,.int .i64 0,.string ⟨#[]⟩] 46)
 have kn := Blk.made (w.alloc (.cells #[.int .i64 0,.int .i64 0,.int .i64 0,.string ⟨#[]⟩] 46)) #[.int .i64 0,.int .i64 0,.int .i64 0,.string ⟨#[]⟩] 46
 have ka := (ka.alloc (.cells #[.int .i64 0,.int .i64 0,.int .i64 0,.string ⟨#[]⟩] 46)).alloc (.cells #[.int .i64 0,.int .i64 0,.int .i64 0,.string ⟨#[]⟩] 46)
 have m0 : Mod (fun _ => False) w ((w.alloc (.cells #[.int .i64 0,.int .i64 0,.int .i64 0,.string ⟨#[]⟩] 46)).alloc (.cells #[.int .i64 0,.int .i64 0,.int .i64 0,.string ⟨#[]⟩] 46)) := ((Mod.refl _ _).alloc _).alloc _
 have HO := Lib.hid ho
 have HRD := Lib.hid (fun w => flit_read x w hx)
 simp only [World.size_alloc] at kn
 have s0 : w.heap.size + 1 < ((w.alloc (.cells #[.int .i64 0,.int .i64 0,.int .i64 0,.string ⟨#[]⟩] 46)).alloc (.cells #[.int .i64 0,.int .i64 0,.int .i64 0,.string ⟨#[]⟩] 46)).heap.size := by simp
 clear ho hx h
 rw [hv,he] at HRD
 simp only [Flit.cells] at HRD
 clear he hv hf
 go_enter Tryz.func149,Tryz.ntmps149
 go_wp2_with fail
 generalize (w.alloc (.cells #[.int .i64 0,.int .i64 0,.int .i64 0,.string ⟨#[]⟩] 46)).alloc (.cells #[.int .i64 0,.int .i64 0,.int .i64 0,.string ⟨#[]⟩] 46) = w1 at kr kn ka m0 s0 ⊢
 refine (HRD.out _).mono ?_
 rintro e w2 ⟨rfl,m2⟩
 have kr := kr.later m2 (by simp)
 have kn := kn.later m2 (by simp)
 have ka := ka.later m2 (by simp)
 have mm := m0.trans m2 (by simp)
 have hsz := Nat.lt_of_lt_of_le s0 m2.size
 go_upto_region 5 with fail
 have kf := Blk.made w2 #[.int .i64 f.kind,.int .i64 f.src,.int .i64 f.dst,.int .i64 f.seq,.int .i64 f.len,.bool f.more,.bool f.cast,.string f.data] 197
 have kr := kr.alloc (.cells #[.int .i64 f.kind,.int .i64 f.src,.int .i64 f.dst,.int .i64 f.seq,.int .i64 f.len,.bool f.more,.bool f.cast,.string f.data] 197)
 have kn := kn.alloc (.cells #[.int .i64 f.kind,.int .i64 f.src,.int .i64 f.dst,.int .i64 f.seq,.int .i64 f.len,.bool f.more,.bool f.cast,.string f.data] 197)
 have ka := ka.alloc (.cells #[.int .i64 f.kind,.int .i64 f.src,.int .i64 f.dst,.int .i64 f.seq,.int .i64 f.len,.bool f.more,.bool f.cast,.string f.data] 197)
 have mm := mm.alloc (.cells #[.int .i64 f.kind,.int .i64 f.src,.int .i64 f.dst,.int .i64 f.seq,.int .i64 f.len,.bool f.more,.bool f.cast,.string f.data] 197)
 have hsf : w2.heap.size < (w2.alloc (.cells #[.int .i64 f.kind,.int .i64 f.src,.int .i64 f.dst,.int .i64 f.seq,.int .i64 f.len,.bool f.more,.bool f.cast,.string f.data] 197)).heap.size := by simp
 generalize w2.alloc (.cells #[.int .i64 f.kind,.int .i64 f.src,.int .i64 f.dst,.int .i64 f.seq,.int .i64 f.len,.bool f.more,.bool f.cast,.string f.data] 197) = w3 at kf kr kn ka mm hsf ⊢
 clear m0 m2
 have ka0 := ka
 simp only [JoinS.cells] at ka0
 have f0 := kf.cell 0
 have a0 := ka0.cell 0
 simp at f0 a0
 clear ka0
 go_upto_region 7 with fail
 go_cut [25] (fun z w' => z = .bool true∧Drw w3 w')
 case first =>
  have hq := HQ.out
  generalize s.begun = bg at a0 hq
  cases bg
  all_goals
   go_quiet (fail)
   go_wp2_with fail
   all_goals go_meet
   all_goals exact ⟨by rfl,Drw.drewN _ _⟩
 case rest =>
 obtain ⟨rfl,d4⟩ := hcut
 have kr := kr.later (d4.mod (fun _ => False)) (by simp)
 have kn := kn.later (d4.mod (fun _ => False)) (by simp)
 have mm := mm.trans (d4.mod (fun _ => False)) (by simp)
 clear kf ka f0 a0
 have v0 := kn.cell 0
 have v1 := kn.cell 1
 have v2 := kn.cell 2
 have v3 := kn.cell 3
 simp at v0 v1 v2 v3
 have y0 := kr.cell 0
 have y1 := kr.cell 1
 have y2 := kr.cell 2
 have y3 := kr.cell 3
 simp at y0 y1 y2 y3
 have u0 := kr.fz 0
 have u1 := kr.fz 1
 have u2 := kr.fz 2
 have u3 := kr.fz 3
 go_wp2
 have qE := ((((kr.set (0) (.int .i64 0)).set (1) (.int .i64 0)).set (2) (.int .i64 0)).set (3) (.string ⟨#[]⟩))
 have mE := ((((mm.setCell (p := ⟨w.heap.size,0,none⟩) (Or.inr (Nat.le_refl _)) (.int .i64 0)).setCell (p := ⟨w.heap.size,1,none⟩) (Or.inr (Nat.le_refl _)) (.int .i64 0)).setCell (p := ⟨w.heap.size,2,none⟩) (Or.inr (Nat.le_refl _)) (.int .i64 0)).setCell (p := ⟨w.heap.size,3,none⟩) (Or.inr (Nat.le_refl _)) (.string ⟨#[]⟩))
 have mB := (((((Mod.refl (fun g => g = w.heap.size) wc).setCell (p := ⟨w.heap.size,0,none⟩) (Or.inl rfl) (.int .i64 0)).setCell (p := ⟨w.heap.size,1,none⟩) (Or.inl rfl) (.int .i64 0)).setCell (p := ⟨w.heap.size,2,none⟩) (Or.inl rfl) (.int .i64 0)).setCell (p := ⟨w.heap.size,3,none⟩) (Or.inl rfl) (.string ⟨#[]⟩))
 simp at qE
 generalize ((((wc.setCell ⟨w.heap.size,0,none⟩ (.int .i64 0)).setCell ⟨w.heap.size,1,none⟩ (.int .i64 0)).setCell ⟨w.heap.size,2,none⟩ (.int .i64 0)).setCell ⟨w.heap.size,3,none⟩ (.string ⟨#[]⟩)) = wE at qE mE mB ⊢
 have qe0 := qE.cell 0
 have qe1 := qE.cell 1
 have qe2 := qE.cell 2
 have qe3 := qE.cell 3
 simp at qe0 qe1 qe2 qe3
 exact bodyPost_ret (v := .tuple #[.agg #[.int .i64 0,.int .i64 0,.int .i64 0,.string ⟨#[]⟩],.bool false,.int .i64 13]) (by simp [results,Tryz.results149,go_sem,qe0,qe1,qe2,qe3]) rfl ⟨13,rfl,HFin.out _ mE⟩
theorem join_take_head (b x : Nat) (s : JoinS) (own : Nat→Prop) (w : World) (f : Flit) (h : JoinAt b s w own) (hx : x < 2 ^ 64) (hf : rdF x = some f) (hk : f.kind = 1) (hb : s.begun = false) :
  Calls Tryz.prog 149 #[.pointer (some ⟨b,0,none⟩),.int .u64 (x : Int)] w (TakePost b own w (s.take x).1 (s.take x).2) := by
 have ht : s.take x = (⟨true,⟨f.src,f.dst,f.seq,⟨#[]⟩⟩,f.len⟩,none) := by unfold JoinS.take; rw [hf]; dsimp only; rw [if_neg (by simp [hk,hb]),if_pos hk]
 rw [ht]
 have hq : (f.kind == 1) = true := by rw [hk]; rfl
 have HB := Lib.hid hb
 clear ht hk hb
 have hv := rdV_some hf
 have he := rdE_some hf
 obtain ⟨ka,ho⟩ := id h
 have hb := ka.lt
 have kr := (Blk.made w #[.int .i64 0,.int .i64 0,.int .i64 0,.string ⟨#[]⟩] 46).alloc (.cells #[.int .i64 0,.int .i64 0,.int .i64 0,.string ⟨#[]⟩] 46)
 have kn := Blk.made (w.alloc (.cells #[.int .i64 0,.int .i64 0,.int .i64 0,.string ⟨#[]⟩] 46)) #[.int .i64 0,.int .i64 0,.int .i64 0,.string ⟨#[]⟩] 46
 have ka := (ka.alloc (.cells #[.int .i64 0,.int .i64 0,.int .i64 0,.string ⟨#[]⟩] 46)).alloc (.cells #[.int .i64 0,.int .i64 0,.int .i64 0,.string ⟨#[]⟩] 46)
 have m0 : Mod (fun _ => False) w ((w.alloc (.cells #[.int .i64 0,.int .i64 0,.int .i64 0,.string ⟨#[]⟩] 46)).alloc (.cells #[.int .i64 0,.int .i64 0,.int .i64 0,.string ⟨#[]⟩] 46)) := ((Mod.refl _ _).alloc _).alloc _
 have HO := Lib.hid ho
 have HRD := Lib.hid (fun w => flit_read x w hx)
 simp only [World.size_alloc] at kn
 have s0 : w.heap.size + 1 < ((w.alloc (.cells #[.int .i64 0,.int .i64 0,.int .i64 0,.string ⟨#[]⟩] 46)).alloc (.cells #[.int .i64 0,.int .i64 0,.int .i64 0,.string ⟨#[]⟩] 46)).heap.size := by simp
 clear ho hx h
 rw [hv,he] at HRD
 simp only [Flit.cells] at HRD
 clear he hv hf
 go_enter Tryz.func149,Tryz.ntmps149
 go_wp2_with fail
 generalize (w.alloc (.cells #[.int .i64 0,.int .i64 0,.int .i64 0,.string ⟨#[]⟩] 46)).alloc (.cells #[.int .i64 0,.int .i64 0,.int .i64 0,.string ⟨#[]⟩] 46) = w1 at kr kn ka m0 s0 ⊢
 refine (HRD.out _).mono ?_
 rintro e w2 ⟨rfl,m2⟩
 have kr := kr.later m2 (by simp)
 have kn := kn.later m2 (by simp)
 have ka := ka.later m2 (by simp)
 have mm := m0.trans m2 (by simp)
 have hsz := Nat.lt_of_lt_of_le s0 m2.size
 go_upto_region 5 with fail
 have kf := Blk.made w2 #[.int .i64 f.kind,.int .i64 f.src,.int .i64 f.dst,.int .i64 f.seq,.int .i64 f.len,.bool f.more,.bool f.cast,.string f.data] 197
 have kr := kr.alloc (.cells #[.int .i64 f.kind,.int .i64 f.src,.int .i64 f.dst,.int .i64 f.seq,.int .i64 f.len,.bool f.more,.bool f.cast,.string f.data] 197)
 have kn := kn.alloc (.cells #[.int .i64 f.kind,.int .i64 f.src,.int .i64 f.dst,.int .i64 f.seq,.int .i64 f.len,.bool f.more,.bool f.cast,.string f.data] 197)
 have ka := ka.alloc (.cells #[.int .i64 f.kind,.int .i64 f.src,.int .i64 f.dst,.int .i64 f.seq,.int .i64 f.len,.bool f.more,.bool f.cast,.string f.data] 197)
 have mm := mm.alloc (.cells #[.int .i64 f.kind,.int .i64 f.src,.int .i64 f.dst,.int .i64 f.seq,.int .i64 f.len,.bool f.more,.bool f.cast,.string f.data] 197)
 have hsf : w2.heap.size < (w2.alloc (.cells #[.int .i64 f.kind,.int .i64 f.src,.int .i64 f.dst,.int .i64 f.seq,.int .i64 f.len,.bool f.more,.bool f.cast,.string f.data] 197)).heap.size := by simp
 generalize w2.alloc (.cells #[.int .i64 f.kind,.int .i64 f.src,.int .i64 f.dst,.int .i64 f.seq,.int .i64 f.len,.bool f.more,.bool f.cast,.string f.data] 197) = w3 at kf kr kn ka mm hsf ⊢
 clear m0 m2
 have ka0 := ka
 simp only [JoinS.cells] at ka0
 have f0 := kf.cell 0
 rw [HB.out] at ka0
 have a0 := ka0.cell 0
 simp at f0 a0
 go_upto_region 7 with fail
 go_cut [25] (fun z w' => z = .bool false∧Drw w3 w')
 case first =>
  go_quiet (fail)
  go_wp2_with fail
  all_goals go_meet
  all_goals exact ⟨by rfl,Drw.drewN _ _⟩
 case rest =>
 obtain ⟨rfl,d4⟩ := hcut
 obtain ⟨w4,rfl⟩ : ∃ wo : World,wo = wc := ⟨_,rfl⟩
 have kr := kr.later (d4.mod (fun _ => False)) (by simp)
 have kn := kn.later (d4.mod (fun _ => False)) (by simp)
 have kf := kf.later (d4.mod (fun _ => False)) (by simp)
 have ka := ka0.later (d4.mod (fun _ => False)) (by simp)
 have mm := mm.trans (d4.mod (fun _ => False)) (by simp)
 have hsg := (d4.mod (fun _ => False)).size
 have mo : Mod own w w4 := mm.mono (fun i hi e => e.elim)
 clear ka0 a0 f0
 have f0 := kf.cell 0
 have f1 := kf.cell 1
 have f2 := kf.cell 2
 have f3 := kf.cell 3
 have f4 := kf.cell 4
 have f5 := kf.cell 5
 have f6 := kf.cell 6
 have f7 := kf.cell 7
 simp at f0 f1 f2 f3 f4 f5 f6 f7
 have a0 := ka.cell 0
 have a1 := ka.cell 1
 have a2 := ka.cell 2
 have a3 := ka.cell 3
 have a4 := ka.cell 4
 have a5 := ka.cell 5
 simp at a0 a1 a2 a3 a4 a5
 have z0 := ka.fz 0
 have z1 := ka.fz 1
 have z2 := ka.fz 2
 have z3 := ka.fz 3
 have z4 := ka.fz 4
 have z5 := ka.fz 5
 go_upto_region 11 with fail
 have m5 := Mod.refl (fun g => g = b) w4
 have ka := ((((((ka.set (0) (.bool true)).set (1) (.int .i64 f.src)).set (2) (.int .i64 f.dst)).set (3) (.int .i64 f.seq)).set (4) (.string ⟨#[]⟩)).set (5) (.int .i64 f.len))
 have m5 := ((((((m5.setCell (p := ⟨b,0,none⟩) (Or.inl rfl) (.bool true)).setCell (p := ⟨b,1,none⟩) (Or.inl rfl) (.int .i64 f.src)).setCell (p := ⟨b,2,none⟩) (Or.inl rfl) (.int .i64 f.dst)).setCell (p := ⟨b,3,none⟩) (Or.inl rfl) (.int .i64 f.seq)).setCell (p := ⟨b,4,none⟩) (Or.inl rfl) (.string ⟨#[]⟩)).setCell (p := ⟨b,5,none⟩) (Or.inl rfl) (.int .i64 f.len))
 simp at ka
 generalize ((((((w4.setCell ⟨b,0,none⟩ (.bool true)).setCell ⟨b,1,none⟩ (.int .i64 f.src)).setCell ⟨b,2,none⟩ (.int .i64 f.dst)).setCell ⟨b,3,none⟩ (.int .i64 f.seq)).setCell ⟨b,4,none⟩ (.string ⟨#[]⟩)).setCell ⟨b,5,none⟩ (.int .i64 f.len)) = w5 at ka m5 ⊢
 have kr := kr.later m5 (by omega)
 have kn := kn.later m5 (by omega)
 have mo := mo.trans m5 (fun i hi e => (HO.out i).2 e)
 have HT := Lib.hid ka
 clear ka kf f0 f1 f2 f3 f4 f5 f6 f7 a0 a1 a2 a3 a4 a5 z0 z1 z2 z3 z4 z5
 have v0 := kn.cell 0
 have v1 := kn.cell 1
 have v2 := kn.cell 2
 have v3 := kn.cell 3
 simp at v0 v1 v2 v3
 have y0 := kr.cell 0
 have y1 := kr.cell 1
 have y2 := kr.cell 2
 have y3 := kr.cell 3
 simp at y0 y1 y2 y3
 have u0 := kr.fz 0
 have u1 := kr.fz 1
 have u2 := kr.fz 2
 have u3 := kr.fz 3
 go_wp2
 have qE := ((((kr.set (0) (.int .i64 0)).set (1) (.int .i64 0)).set (2) (.int .i64 0)).set (3) (.string ⟨#[]⟩))
 have mE := ((((mo.setCell (p := ⟨w.heap.size,0,none⟩) (Or.inr (Nat.le_refl _)) (.int .i64 0)).setCell (p := ⟨w.heap.size,1,none⟩) (Or.inr (Nat.le_refl _)) (.int .i64 0)).setCell (p := ⟨w.heap.size,2,none⟩) (Or.inr (Nat.le_refl _)) (.int .i64 0)).setCell (p := ⟨w.heap.size,3,none⟩) (Or.inr (Nat.le_refl _)) (.string ⟨#[]⟩))
 have mB := (((((Mod.refl (fun g => g = w.heap.size) w5).setCell (p := ⟨w.heap.size,0,none⟩) (Or.inl rfl) (.int .i64 0)).setCell (p := ⟨w.heap.size,1,none⟩) (Or.inl rfl) (.int .i64 0)).setCell (p := ⟨w.heap.size,2,none⟩) (Or.inl rfl) (.int .i64 0)).setCell (p := ⟨w.heap.size,3,none⟩) (Or.inl rfl) (.string ⟨#[]⟩))
 simp at qE
 generalize ((((w5.setCell ⟨w.heap.size,0,none⟩ (.int .i64 0)).setCell ⟨w.heap.size,1,none⟩ (.int .i64 0)).setCell ⟨w.heap.size,2,none⟩ (.int .i64 0)).setCell ⟨w.heap.size,3,none⟩ (.string ⟨#[]⟩)) = wE at qE mE mB ⊢
 have qe0 := qE.cell 0
 have qe1 := qE.cell 1
 have qe2 := qE.cell 2
 have qe3 := qE.cell 3
 simp at qe0 qe1 qe2 qe3
 exact bodyPost_ret (v := .tuple #[.agg #[.int .i64 0,.int .i64 0,.int .i64 0,.string ⟨#[]⟩],.bool false,.int .i64 0]) (by simp [results,Tryz.results149,go_sem,qe0,qe1,qe2,qe3]) rfl ⟨0,rfl,own,⟨HT.out.later mB (by omega),HO.out⟩,mE,fun g hg => Or.inl hg⟩
theorem join_take_tail (b x : Nat) (s : JoinS) (own : Nat→Prop) (w : World) (f : Flit) (h : JoinAt b s w own) (hs : JoinOk s) (hx : x < 2 ^ 64) (hf : rdF x = some f) (hk : f.kind = 3) (hb : s.begun = true) :
  Calls Tryz.prog 149 #[.pointer (some ⟨b,0,none⟩),.int .u64 (x : Int)] w (TakePost b own w (s.take x).1 (s.take x).2) := by
 have ht : s.take x = (JoinS.new,if ((s.p.data ++ f.data).size : Int) = s.size then some ⟨s.p.src,s.p.dst,s.p.seq,s.p.data ++ f.data⟩ else none) := by unfold JoinS.take; rw [hf]; dsimp only; rw [if_neg (by simp [hk,hb]),if_neg (by omega),if_pos hk]
 obtain ⟨o,ho⟩ : ∃ o,(if ((s.p.data ++ f.data).size : Int) = s.size then some (⟨s.p.src,s.p.dst,s.p.seq,s.p.data ++ f.data⟩ : Pkt) else none) = o := ⟨_,rfl⟩
 rw [ho] at ht
 have HR := Lib.hid ho
 rw [ht]
 have hq : (f.kind == 1) = false := by rw [hk]; rfl
 have hq3 : (f.kind == 3) = true := by rw [hk]; rfl
 have hds := hs.data
 have hfs := (body_bd (by omega) (rdF_some hf).1).2.1
 have hsum : s.p.data.size + f.data.size ≤ 9223372036854775807 := by omega
 have HB := Lib.hid hb
 clear ht hk hb ho
 have hv := rdV_some hf
 have he := rdE_some hf
 obtain ⟨ka,ho⟩ := id h
 have hb := ka.lt
 have kr := (Blk.made w #[.int .i64 0,.int .i64 0,.int .i64 0,.string ⟨#[]⟩] 46).alloc (.cells #[.int .i64 0,.int .i64 0,.int .i64 0,.string ⟨#[]⟩] 46)
 have kn := Blk.made (w.alloc (.cells #[.int .i64 0,.int .i64 0,.int .i64 0,.string ⟨#[]⟩] 46)) #[.int .i64 0,.int .i64 0,.int .i64 0,.string ⟨#[]⟩] 46
 have ka := (ka.alloc (.cells #[.int .i64 0,.int .i64 0,.int .i64 0,.string ⟨#[]⟩] 46)).alloc (.cells #[.int .i64 0,.int .i64 0,.int .i64 0,.string ⟨#[]⟩] 46)
 have m0 : Mod (fun _ => False) w ((w.alloc (.cells #[.int .i64 0,.int .i64 0,.int .i64 0,.string ⟨#[]⟩] 46)).alloc (.cells #[.int .i64 0,.int .i64 0,.int .i64 0,.string ⟨#[]⟩] 46)) := ((Mod.refl _ _).alloc _).alloc _
 have HO := Lib.hid ho
 have HRD := Lib.hid (fun w => flit_read x w hx)
 simp only [World.size_alloc] at kn
 have s0 : w.heap.size + 1 < ((w.alloc (.cells #[.int .i64 0,.int .i64 0,.int .i64 0,.string ⟨#[]⟩] 46)).alloc (.cells #[.int .i64 0,.int .i64 0,.int .i64 0,.string ⟨#[]⟩] 46)).heap.size := by simp
 clear ho hx h
 rw [hv,he] at HRD
 simp only [Flit.cells] at HRD
 clear he hv hf
 go_enter Tryz.func149,Tryz.ntmps149
 go_wp2_with fail
 generalize (w.alloc (.cells #[.int .i64 0,.int .i64 0,.int .i64 0,.string ⟨#[]⟩] 46)).alloc (.cells #[.int .i64 0,.int .i64 0,.int .i64 0,.string ⟨#[]⟩] 46) = w1 at kr kn ka m0 s0 ⊢
 refine (HRD.out _).mono ?_
 rintro e w2 ⟨rfl,m2⟩
 have kr := kr.later m2 (by simp)
 have kn := kn.later m2 (by simp)
 have ka := ka.later m2 (by simp)
 have mm := m0.trans m2 (by simp)
 have hsz := Nat.lt_of_lt_of_le s0 m2.size
 go_upto_region 5 with fail
 have kf := Blk.made w2 #[.int .i64 f.kind,.int .i64 f.src,.int .i64 f.dst,.int .i64 f.seq,.int .i64 f.len,.bool f.more,.bool f.cast,.string f.data] 197
 have kr := kr.alloc (.cells #[.int .i64 f.kind,.int .i64 f.src,.int .i64 f.dst,.int .i64 f.seq,.int .i64 f.len,.bool f.more,.bool f.cast,.string f.data] 197)
 have kn := kn.alloc (.cells #[.int .i64 f.kind,.int .i64 f.src,.int .i64 f.dst,.int .i64 f.seq,.int .i64 f.len,.bool f.more,.bool f.cast,.string f.data] 197)
 have ka := ka.alloc (.cells #[.int .i64 f.kind,.int .i64 f.src,.int .i64 f.dst,.int .i64 f.seq,.int .i64 f.len,.bool f.more,.bool f.cast,.string f.data] 197)
 have mm := mm.alloc (.cells #[.int .i64 f.kind,.int .i64 f.src,.int .i64 f.dst,.int .i64 f.seq,.int .i64 f.len,.bool f.more,.bool f.cast,.string f.data] 197)
 have hsf : w2.heap.size < (w2.alloc (.cells #[.int .i64 f.kind,.int .i64 f.src,.int .i64 f.dst,.int .i64 f.seq,.int .i64 f.len,.bool f.more,.bool f.cast,.string f.data] 197)).heap.size := by simp
 generalize w2.alloc (.cells #[.int .i64 f.kind,.int .i64 f.src,.int .i64 f.dst,.int .i64 f.seq,.int .i64 f.len,.bool f.more,.bool f.cast,.string f.data] 197) = w3 at kf kr kn ka mm hsf ⊢
 clear m0 m2
 have ka0 := ka
 simp only [JoinS.cells] at ka0
 have f0 := kf.cell 0
 rw [HB.out] at ka0
 have a0 := ka0.cell 0
 simp at f0 a0
 go_upto_region 7 with fail
 go_cut [25] (fun z w' => z = .bool false∧Drw w3 w')
 case first =>
  go_quiet (fail)
  go_wp2_with fail
  all_goals go_meet
  all_goals exact ⟨by rfl,Drw.drewN _ _⟩
 case rest =>
 obtain ⟨rfl,d4⟩ := hcut
 obtain ⟨w4,rfl⟩ : ∃ wo : World,wo = wc := ⟨_,rfl⟩
 have kr := kr.later (d4.mod (fun _ => False)) (by simp)
 have kn := kn.later (d4.mod (fun _ => False)) (by simp)
 have kf := kf.later (d4.mod (fun _ => False)) (by simp)
 have ka := ka0.later (d4.mod (fun _ => False)) (by simp)
 have mm := mm.trans (d4.mod (fun _ => False)) (by simp)
 have hsg := (d4.mod (fun _ => False)).size
 have mo : Mod own w w4 := mm.mono (fun i hi e => e.elim)
 clear ka0 a0 f0
 have f0 := kf.cell 0
 have f1 := kf.cell 1
 have f2 := kf.cell 2
 have f3 := kf.cell 3
 have f4 := kf.cell 4
 have f5 := kf.cell 5
 have f6 := kf.cell 6
 have f7 := kf.cell 7
 simp at f0 f1 f2 f3 f4 f5 f6 f7
 go_upto_region 12 with fail
 clear f0 f1 f2 f3 f4 f5 f6 f7
 have kw := Blk.made w4 #[.int .i64 s.p.src,.int .i64 s.p.dst,.int .i64 s.p.seq,.string s.p.data] 46
 have kr := kr.alloc (.cells #[.int .i64 s.p.src,.int .i64 s.p.dst,.int .i64 s.p.seq,.string s.p.data] 46)
 have kn := kn.alloc (.cells #[.int .i64 s.p.src,.int .i64 s.p.dst,.int .i64 s.p.seq,.string s.p.data] 46)
 have kf := kf.alloc (.cells #[.int .i64 s.p.src,.int .i64 s.p.dst,.int .i64 s.p.seq,.string s.p.data] 46)
 have hw4 := Nat.lt_of_lt_of_le (Nat.lt_of_lt_of_le hsf hsg) (Nat.le_refl _)
 have kb := ka.alloc (.cells #[.int .i64 s.p.src,.int .i64 s.p.dst,.int .i64 s.p.seq,.string s.p.data] 46)
 have mo := mo.alloc (.cells #[.int .i64 s.p.src,.int .i64 s.p.dst,.int .i64 s.p.seq,.string s.p.data] 46)
 have hsw : w4.heap.size < (w4.alloc (.cells #[.int .i64 s.p.src,.int .i64 s.p.dst,.int .i64 s.p.seq,.string s.p.data] 46)).heap.size := by simp
 have a0 := ka.cell 0
 have a1 := ka.cell 1
 have a2 := ka.cell 2
 have a3 := ka.cell 3
 have a4 := ka.cell 4
 have a5 := ka.cell 5
 simp at a0 a1 a2 a3 a4 a5
 go_upto_region 13 with fail
 generalize w4.alloc (.cells #[.int .i64 s.p.src,.int .i64 s.p.dst,.int .i64 s.p.seq,.string s.p.data] 46) = w5 at kr kn kf kb kw mo hsw ⊢
 clear ka a0 a1 a2 a3 a4 a5
 have a0 := kb.cell 0
 have a1 := kb.cell 1
 have a2 := kb.cell 2
 have a3 := kb.cell 3
 have a4 := kb.cell 4
 have a5 := kb.cell 5
 simp at a0 a1 a2 a3 a4 a5
 have f0 := kf.cell 0
 have f1 := kf.cell 1
 have f2 := kf.cell 2
 have f3 := kf.cell 3
 have f4 := kf.cell 4
 have f5 := kf.cell 5
 have f6 := kf.cell 6
 have f7 := kf.cell 7
 simp at f0 f1 f2 f3 f4 f5 f6 f7
 have p0 := kw.cell 0
 have p1 := kw.cell 1
 have p2 := kw.cell 2
 have p3 := kw.cell 3
 simp at p0 p1 p2 p3
 have z0 := kw.fz 0
 have z1 := kw.fz 1
 have z2 := kw.fz 2
 have z3 := kw.fz 3
 go_upto_region 14 with fail
 clear a0 a1 a2 a3 a4 a5 f0 f1 f2 f3 f4 f5 f6 f7 p0 p1 p2 p3 z0 z1 z2 z3
 have m6 := Mod.refl (fun g => g = w4.heap.size) w5
 have kw := (kw.set (3) (.string (s.p.data ++ f.data)))
 have m6 := (m6.setCell (p := ⟨w4.heap.size,3,none⟩) (Or.inl rfl) (.string (s.p.data ++ f.data)))
 simp at kw
 generalize (w5.setCell ⟨w4.heap.size,3,none⟩ (.string (s.p.data ++ f.data))) = w6 at kw m6 ⊢
 have hs4 := mo.size
 have kr := kr.later m6 (by omega)
 have kn := kn.later m6 (by omega)
 have kf := kf.later m6 (by omega)
 have kb := kb.later m6 (by omega)
 have mo := mo.trans m6 (fun i hi e => by omega)
 have f0 := kf.cell 0
 have f1 := kf.cell 1
 have f2 := kf.cell 2
 have f3 := kf.cell 3
 have f4 := kf.cell 4
 have f5 := kf.cell 5
 have f6 := kf.cell 6
 have f7 := kf.cell 7
 simp at f0 f1 f2 f3 f4 f5 f6 f7
 have p0 := kw.cell 0
 have p1 := kw.cell 1
 have p2 := kw.cell 2
 have p3 := kw.cell 3
 simp at p0 p1 p2 p3
 have a0 := kb.cell 0
 have a1 := kb.cell 1
 have a2 := kb.cell 2
 have a3 := kb.cell 3
 have a4 := kb.cell 4
 have a5 := kb.cell 5
 simp at a0 a1 a2 a3 a4 a5
 obtain ⟨D,hD⟩ : ∃ D,s.p.data ++ f.data = D := ⟨_,rfl⟩
 rw [hD] at kw p3
 have hDs : D.size = s.p.data.size + f.data.size := by rw [← hD]; exact ByteArray.size_append
 have HD := Lib.hid hD
 have hDm : D.size ≤ s.p.data.size + f.data.size := by omega
 clear hD hDs
 have hDm : D.size ≤ 70 := by omega
 have hsz2 := hs.size
 by_cases hfit : (D.size : Int) = s.size
 ·
  have HR2 := Lib.hid (show some ⟨s.p.src,s.p.dst,s.p.seq,D⟩ = o by rw [← HR.out,HD.out,if_pos hfit])
  have hq5 : ((D.size : Int) == s.size) = true := by rw [hfit]; simp
  clear hfit
  go_upto_region 15 with fail
  go_cut [11] (fun z w' => z = .bool true∧Drw w6 w')
  case first =>
   go_quiet (fail)
   go_wp2_with fail
   all_goals go_meet
   all_goals exact ⟨by rfl,Drw.drewN _ _⟩
  case rest =>
  obtain ⟨rfl,d7⟩ := hcut
  obtain ⟨w7,rfl⟩ : ∃ wo : World,wo = wc := ⟨_,rfl⟩
  clear a0 a1 a2 a3 a4 a5 f0 f1 f2 f3 f4 f5 f6 f7 p0 p1 p2 p3
  have hs7 := (d7.mod (fun _ => False)).size
  have kr := kr.later (d7.mod (fun _ => False)) (by simp)
  have kn := kn.later (d7.mod (fun _ => False)) (by simp)
  have kw := kw.later (d7.mod (fun _ => False)) (by simp)
  have kb := kb.later (d7.mod (fun _ => False)) (by simp)
  have mo := mo.trans (d7.mod (fun _ => False)) (fun i hi e => e.elim)
  have a0 := kb.cell 0
  have a1 := kb.cell 1
  have a2 := kb.cell 2
  have a3 := kb.cell 3
  have a4 := kb.cell 4
  have a5 := kb.cell 5
  simp at a0 a1 a2 a3 a4 a5
  have z0 := kb.fz 0
  have z1 := kb.fz 1
  have z2 := kb.fz 2
  have z3 := kb.fz 3
  have z4 := kb.fz 4
  have z5 := kb.fz 5
  go_upto_region 17 with fail
  have m8 := Mod.refl (fun g => g = b) w7
  have kb := ((((((kb.set (0) (.bool false)).set (1) (.int .i64 0)).set (2) (.int .i64 0)).set (3) (.int .i64 0)).set (4) (.string ⟨#[]⟩)).set (5) (.int .i64 0))
  have m8 := ((((((m8.setCell (p := ⟨b,0,none⟩) (Or.inl rfl) (.bool false)).setCell (p := ⟨b,1,none⟩) (Or.inl rfl) (.int .i64 0)).setCell (p := ⟨b,2,none⟩) (Or.inl rfl) (.int .i64 0)).setCell (p := ⟨b,3,none⟩) (Or.inl rfl) (.int .i64 0)).setCell (p := ⟨b,4,none⟩) (Or.inl rfl) (.string ⟨#[]⟩)).setCell (p := ⟨b,5,none⟩) (Or.inl rfl) (.int .i64 0))
  simp at kb
  generalize ((((((w7.setCell ⟨b,0,none⟩ (.bool false)).setCell ⟨b,1,none⟩ (.int .i64 0)).setCell ⟨b,2,none⟩ (.int .i64 0)).setCell ⟨b,3,none⟩ (.int .i64 0)).setCell ⟨b,4,none⟩ (.string ⟨#[]⟩)).setCell ⟨b,5,none⟩ (.int .i64 0)) = w8 at kb m8 ⊢
  have mo := mo.trans m8 (fun i hi e => (HO.out i).2 e)
  have kr := kr.later m8 (by omega)
  have HT := Lib.hid kb
  clear kb a0 a1 a2 a3 a4 a5 z0 z1 z2 z3 z4 z5
  have kw := kw.later m8 (by omega)
  have q0 := kw.cell 0
  have q1 := kw.cell 1
  have q2 := kw.cell 2
  have q3 := kw.cell 3
  simp at q0 q1 q2 q3
  have u0 := kr.fz 0
  have u1 := kr.fz 1
  have u2 := kr.fz 2
  have u3 := kr.fz 3
  have y0 := kr.cell 0
  have y1 := kr.cell 1
  have y2 := kr.cell 2
  have y3 := kr.cell 3
  simp at y0 y1 y2 y3
  go_wp2
  have qE := ((((kr.set (0) (.int .i64 s.p.src)).set (1) (.int .i64 s.p.dst)).set (2) (.int .i64 s.p.seq)).set (3) (.string D))
  have mE := ((((mo.setCell (p := ⟨w.heap.size,0,none⟩) (Or.inr (Nat.le_refl _)) (.int .i64 s.p.src)).setCell (p := ⟨w.heap.size,1,none⟩) (Or.inr (Nat.le_refl _)) (.int .i64 s.p.dst)).setCell (p := ⟨w.heap.size,2,none⟩) (Or.inr (Nat.le_refl _)) (.int .i64 s.p.seq)).setCell (p := ⟨w.heap.size,3,none⟩) (Or.inr (Nat.le_refl _)) (.string D))
  have mB := (((((Mod.refl (fun g => g = w.heap.size) w8).setCell (p := ⟨w.heap.size,0,none⟩) (Or.inl rfl) (.int .i64 s.p.src)).setCell (p := ⟨w.heap.size,1,none⟩) (Or.inl rfl) (.int .i64 s.p.dst)).setCell (p := ⟨w.heap.size,2,none⟩) (Or.inl rfl) (.int .i64 s.p.seq)).setCell (p := ⟨w.heap.size,3,none⟩) (Or.inl rfl) (.string D))
  simp at qE
  generalize ((((w8.setCell ⟨w.heap.size,0,none⟩ (.int .i64 s.p.src)).setCell ⟨w.heap.size,1,none⟩ (.int .i64 s.p.dst)).setCell ⟨w.heap.size,2,none⟩ (.int .i64 s.p.seq)).setCell ⟨w.heap.size,3,none⟩ (.string D)) = wE at qE mE mB ⊢
  have qe0 := qE.cell 0
  have qe1 := qE.cell 1
  have qe2 := qE.cell 2
  have qe3 := qE.cell 3
  simp at qe0 qe1 qe2 qe3
  exact bodyPost_ret (v := .tuple #[.agg #[.int .i64 s.p.src,.int .i64 s.p.dst,.int .i64 s.p.seq,.string D],.bool true,.int .i64 0]) (by simp [results,Tryz.results149,go_sem,qe0,qe1,qe2,qe3]) rfl ⟨0,by rw [← HR2.out]; rfl,own,⟨HT.out.later mB (by omega),HO.out⟩,mE,fun g hg => Or.inl hg⟩
 ·
  have HR2 := Lib.hid (show none = o by rw [← HR.out,HD.out,if_neg hfit])
  have hq5 : ((D.size : Int) == s.size) = false := by simpa using hfit
  clear hfit
  go_upto_region 15 with fail
  go_cut [11] (fun z w' => z = .bool false∧Drw w6 w')
  case first =>
   go_quiet (fail)
   go_wp2_with fail
   all_goals go_meet
   all_goals exact ⟨by rfl,Drw.drewN _ _⟩
  case rest =>
  obtain ⟨rfl,d7⟩ := hcut
  obtain ⟨w7,rfl⟩ : ∃ wo : World,wo = wc := ⟨_,rfl⟩
  clear a0 a1 a2 a3 a4 a5 f0 f1 f2 f3 f4 f5 f6 f7 p0 p1 p2 p3
  have hs7 := (d7.mod (fun _ => False)).size
  have kr := kr.later (d7.mod (fun _ => False)) (by simp)
  have kn := kn.later (d7.mod (fun _ => False)) (by simp)
  have kw := kw.later (d7.mod (fun _ => False)) (by simp)
  have kb := kb.later (d7.mod (fun _ => False)) (by simp)
  have mo := mo.trans (d7.mod (fun _ => False)) (fun i hi e => e.elim)
  have a0 := kb.cell 0
  have a1 := kb.cell 1
  have a2 := kb.cell 2
  have a3 := kb.cell 3
  have a4 := kb.cell 4
  have a5 := kb.cell 5
  simp at a0 a1 a2 a3 a4 a5
  have z0 := kb.fz 0
  have z1 := kb.fz 1
  have z2 := kb.fz 2
  have z3 := kb.fz 3
  have z4 := kb.fz 4
  have z5 := kb.fz 5
  go_upto_region 17 with fail
  have m8 := Mod.refl (fun g => g = b) w7
  have kb := ((((((kb.set (0) (.bool false)).set (1) (.int .i64 0)).set (2) (.int .i64 0)).set (3) (.int .i64 0)).set (4) (.string ⟨#[]⟩)).set (5) (.int .i64 0))
  have m8 := ((((((m8.setCell (p := ⟨b,0,none⟩) (Or.inl rfl) (.bool false)).setCell (p := ⟨b,1,none⟩) (Or.inl rfl) (.int .i64 0)).setCell (p := ⟨b,2,none⟩) (Or.inl rfl) (.int .i64 0)).setCell (p := ⟨b,3,none⟩) (Or.inl rfl) (.int .i64 0)).setCell (p := ⟨b,4,none⟩) (Or.inl rfl) (.string ⟨#[]⟩)).setCell (p := ⟨b,5,none⟩) (Or.inl rfl) (.int .i64 0))
  simp at kb
  generalize ((((((w7.setCell ⟨b,0,none⟩ (.bool false)).setCell ⟨b,1,none⟩ (.int .i64 0)).setCell ⟨b,2,none⟩ (.int .i64 0)).setCell ⟨b,3,none⟩ (.int .i64 0)).setCell ⟨b,4,none⟩ (.string ⟨#[]⟩)).setCell ⟨b,5,none⟩ (.int .i64 0)) = w8 at kb m8 ⊢
  have mo := mo.trans m8 (fun i hi e => (HO.out i).2 e)
  have kr := kr.later m8 (by omega)
  have HT := Lib.hid kb
  clear kb a0 a1 a2 a3 a4 a5 z0 z1 z2 z3 z4 z5
  have kn := kn.later m8 (by omega)
  have q0 := kn.cell 0
  have q1 := kn.cell 1
  have q2 := kn.cell 2
  have q3 := kn.cell 3
  simp at q0 q1 q2 q3
  have u0 := kr.fz 0
  have u1 := kr.fz 1
  have u2 := kr.fz 2
  have u3 := kr.fz 3
  have y0 := kr.cell 0
  have y1 := kr.cell 1
  have y2 := kr.cell 2
  have y3 := kr.cell 3
  simp at y0 y1 y2 y3
  go_wp2
  have qE := ((((kr.set (0) (.int .i64 0)).set (1) (.int .i64 0)).set (2) (.int .i64 0)).set (3) (.string ⟨#[]⟩))
  have mE := ((((mo.setCell (p := ⟨w.heap.size,0,none⟩) (Or.inr (Nat.le_refl _)) (.int .i64 0)).setCell (p := ⟨w.heap.size,1,none⟩) (Or.inr (Nat.le_refl _)) (.int .i64 0)).setCell (p := ⟨w.heap.size,2,none⟩) (Or.inr (Nat.le_refl _)) (.int .i64 0)).setCell (p := ⟨w.heap.size,3,none⟩) (Or.inr (Nat.le_refl _)) (.string ⟨#[]⟩))
  have mB := (((((Mod.refl (fun g => g = w.heap.size) w8).setCell (p := ⟨w.heap.size,0,none⟩) (Or.inl rfl) (.int .i64 0)).setCell (p := ⟨w.heap.size,1,none⟩) (Or.inl rfl) (.int .i64 0)).setCell (p := ⟨w.heap.size,2,none⟩) (Or.inl rfl) (.int .i64 0)).setCell (p := ⟨w.heap.size,3,none⟩) (Or.inl rfl) (.string ⟨#[]⟩))
  simp at qE
  generalize ((((w8.setCell ⟨w.heap.size,0,none⟩ (.int .i64 0)).setCell ⟨w.heap.size,1,none⟩ (.int .i64 0)).setCell ⟨w.heap.size,2,none⟩ (.int .i64 0)).setCell ⟨w.heap.size,3,none⟩ (.string ⟨#[]⟩)) = wE at qE mE mB ⊢
  have qe0 := qE.cell 0
  have qe1 := qE.cell 1
  have qe2 := qE.cell 2
  have qe3 := qE.cell 3
  simp at qe0 qe1 qe2 qe3
  exact bodyPost_ret (v := .tuple #[.agg #[.int .i64 0,.int .i64 0,.int .i64 0,.string ⟨#[]⟩],.bool false,.int .i64 4]) (by simp [results,Tryz.results149,go_sem,qe0,qe1,qe2,qe3]) rfl ⟨4,by rw [← HR2.out]; rfl,own,⟨HT.out.later mB (by omega),HO.out⟩,mE,fun g hg => Or.inl hg⟩
theorem join_take_body (b x : Nat) (s : JoinS) (own : Nat→Prop) (w : World) (f : Flit) (h : JoinAt b s w own) (hs : JoinOk s) (hx : x < 2 ^ 64) (hf : rdF x = some f) (hk : f.kind = 2) (hb : s.begun = true) :
  Calls Tryz.prog 149 #[.pointer (some ⟨b,0,none⟩),.int .u64 (x : Int)] w (TakePost b own w (s.take x).1 (s.take x).2) := by
 have ht : s.take x = if s.size < ((s.p.data ++ f.data).size : Int) then (s,none) else (⟨s.begun,⟨s.p.src,s.p.dst,s.p.seq,s.p.data ++ f.data⟩,s.size⟩,none) := by unfold JoinS.take; rw [hf]; dsimp only; rw [if_neg (by simp [hk,hb]),if_neg (by omega),if_neg (by omega)]
 obtain ⟨o,ho⟩ : ∃ o,(if s.size < ((s.p.data ++ f.data).size : Int) then s else ⟨s.begun,⟨s.p.src,s.p.dst,s.p.seq,s.p.data ++ f.data⟩,s.size⟩) = o := ⟨_,rfl⟩
 have ht : s.take x = (o,none) := by rw [ht,← ho]; split <;> rfl
 have HR := Lib.hid ho
 rw [ht]
 have hq : (f.kind == 1) = false := by rw [hk]; rfl
 have hq3 : (f.kind == 3) = false := by rw [hk]; rfl
 have hds := hs.data
 have hfs := (body_bd (by omega) (rdF_some hf).1).2.1
 have hsum : s.p.data.size + f.data.size ≤ 9223372036854775807 := by omega
 have HB := Lib.hid hb
 clear ht hk hb ho
 have hv := rdV_some hf
 have he := rdE_some hf
 obtain ⟨ka,ho⟩ := id h
 have hb := ka.lt
 have kr := (Blk.made w #[.int .i64 0,.int .i64 0,.int .i64 0,.string ⟨#[]⟩] 46).alloc (.cells #[.int .i64 0,.int .i64 0,.int .i64 0,.string ⟨#[]⟩] 46)
 have kn := Blk.made (w.alloc (.cells #[.int .i64 0,.int .i64 0,.int .i64 0,.string ⟨#[]⟩] 46)) #[.int .i64 0,.int .i64 0,.int .i64 0,.string ⟨#[]⟩] 46
 have ka := (ka.alloc (.cells #[.int .i64 0,.int .i64 0,.int .i64 0,.string ⟨#[]⟩] 46)).alloc (.cells #[.int .i64 0,.int .i64 0,.int .i64 0,.string ⟨#[]⟩] 46)
 have m0 : Mod (fun _ => False) w ((w.alloc (.cells #[.int .i64 0,.int .i64 0,.int .i64 0,.string ⟨#[]⟩] 46)).alloc (.cells #[.int .i64 0,.int .i64 0,.int .i64 0,.string ⟨#[]⟩] 46)) := ((Mod.refl _ _).alloc _).alloc _
 have HO := Lib.hid ho
 have HRD := Lib.hid (fun w => flit_read x w hx)
 simp only [World.size_alloc] at kn
 have s0 : w.heap.size + 1 < ((w.alloc (.cells #[.int .i64 0,.int .i64 0,.int .i64 0,.string ⟨#[]⟩] 46)).alloc (.cells #[.int .i64 0,.int .i64 0,.int .i64 0,.string ⟨#[]⟩] 46)).heap.size := by simp
 clear ho hx h
 rw [hv,he] at HRD
 simp only [Flit.cells] at HRD
 clear he hv hf
 go_enter Tryz.func149,Tryz.ntmps149
 go_wp2_with fail
 generalize (w.alloc (.cells #[.int .i64 0,.int .i64 0,.int .i64 0,.string ⟨#[]⟩] 46)).alloc (.cells #[.int .i64 0,.int .i64 0,.int .i64 0,.string ⟨#[]⟩] 46) = w1 at kr kn ka m0 s0 ⊢
 refine (HRD.out _).mono ?_
 rintro e w2 ⟨rfl,m2⟩
 have kr := kr.later m2 (by simp)
 have kn := kn.later m2 (by simp)
 have ka := ka.later m2 (by simp)
 have mm := m0.trans m2 (by simp)
 have hsz := Nat.lt_of_lt_of_le s0 m2.size
 go_upto_region 5 with fail
 have kf := Blk.made w2 #[.int .i64 f.kind,.int .i64 f.src,.int .i64 f.dst,.int .i64 f.seq,.int .i64 f.len,.bool f.more,.bool f.cast,.string f.data] 197
 have kr := kr.alloc (.cells #[.int .i64 f.kind,.int .i64 f.src,.int .i64 f.dst,.int .i64 f.seq,.int .i64 f.len,.bool f.more,.bool f.cast,.string f.data] 197)
 have kn := kn.alloc (.cells #[.int .i64 f.kind,.int .i64 f.src,.int .i64 f.dst,.int .i64 f.seq,.int .i64 f.len,.bool f.more,.bool f.cast,.string f.data] 197)
 have ka := ka.alloc (.cells #[.int .i64 f.kind,.int .i64 f.src,.int .i64 f.dst,.int .i64 f.seq,.int .i64 f.len,.bool f.more,.bool f.cast,.string f.data] 197)
 have mm := mm.alloc (.cells #[.int .i64 f.kind,.int .i64 f.src,.int .i64 f.dst,.int .i64 f.seq,.int .i64 f.len,.bool f.more,.bool f.cast,.string f.data] 197)
 have hsf : w2.heap.size < (w2.alloc (.cells #[.int .i64 f.kind,.int .i64 f.src,.int .i64 f.dst,.int .i64 f.seq,.int .i64 f.len,.bool f.more,.bool f.cast,.string f.data] 197)).heap.size := by simp
 generalize w2.alloc (.cells #[.int .i64 f.kind,.int .i64 f.src,.int .i64 f.dst,.int .i64 f.seq,.int .i64 f.len,.bool f.more,.bool f.cast,.string f.data] 197) = w3 at kf kr kn ka mm hsf ⊢
 clear m0 m2
 have ka0 := ka
 simp only [JoinS.cells] at ka0
 have f0 := kf.cell 0
 rw [HB.out] at ka0
 have a0 := ka0.cell 0
 simp at f0 a0
 go_upto_region 7 with fail
 go_cut [25] (fun z w' => z = .bool false∧Drw w3 w')
 case first =>
  go_quiet (fail)
  go_wp2_with fail
  all_goals go_meet
  all_goals exact ⟨by rfl,Drw.drewN _ _⟩
 case rest =>
 obtain ⟨rfl,d4⟩ := hcut
 obtain ⟨w4,rfl⟩ : ∃ wo : World,wo = wc := ⟨_,rfl⟩
 have kr := kr.later (d4.mod (fun _ => False)) (by simp)
 have kn := kn.later (d4.mod (fun _ => False)) (by simp)
 have kf := kf.later (d4.mod (fun _ => False)) (by simp)
 have ka := ka0.later (d4.mod (fun _ => False)) (by simp)
 have mm := mm.trans (d4.mod (fun _ => False)) (by simp)
 have hsg := (d4.mod (fun _ => False)).size
 have mo : Mod own w w4 := mm.mono (fun i hi e => e.elim)
 clear ka0 a0 f0
 have f0 := kf.cell 0
 have f1 := kf.cell 1
 have f2 := kf.cell 2
 have f3 := kf.cell 3
 have f4 := kf.cell 4
 have f5 := kf.cell 5
 have f6 := kf.cell 6
 have f7 := kf.cell 7
 simp at f0 f1 f2 f3 f4 f5 f6 f7
 go_upto_region 12 with fail
 clear f0 f1 f2 f3 f4 f5 f6 f7
 have kw := Blk.made w4 #[.int .i64 s.p.src,.int .i64 s.p.dst,.int .i64 s.p.seq,.string s.p.data] 46
 have kr := kr.alloc (.cells #[.int .i64 s.p.src,.int .i64 s.p.dst,.int .i64 s.p.seq,.string s.p.data] 46)
 have kn := kn.alloc (.cells #[.int .i64 s.p.src,.int .i64 s.p.dst,.int .i64 s.p.seq,.string s.p.data] 46)
 have kf := kf.alloc (.cells #[.int .i64 s.p.src,.int .i64 s.p.dst,.int .i64 s.p.seq,.string s.p.data] 46)
 have hw4 := Nat.lt_of_lt_of_le (Nat.lt_of_lt_of_le hsf hsg) (Nat.le_refl _)
 have kb := ka.alloc (.cells #[.int .i64 s.p.src,.int .i64 s.p.dst,.int .i64 s.p.seq,.string s.p.data] 46)
 have mo := mo.alloc (.cells #[.int .i64 s.p.src,.int .i64 s.p.dst,.int .i64 s.p.seq,.string s.p.data] 46)
 have hsw : w4.heap.size < (w4.alloc (.cells #[.int .i64 s.p.src,.int .i64 s.p.dst,.int .i64 s.p.seq,.string s.p.data] 46)).heap.size := by simp
 have a0 := ka.cell 0
 have a1 := ka.cell 1
 have a2 := ka.cell 2
 have a3 := ka.cell 3
 have a4 := ka.cell 4
 have a5 := ka.cell 5
 simp at a0 a1 a2 a3 a4 a5
 go_upto_region 13 with fail
 generalize w4.alloc (.cells #[.int .i64 s.p.src,.int .i64 s.p.dst,.int .i64 s.p.seq,.string s.p.data] 46) = w5 at kr kn kf kb kw mo hsw ⊢
 clear ka a0 a1 a2 a3 a4 a5
 have a0 := kb.cell 0
 have a1 := kb.cell 1
 have a2 := kb.cell 2
 have a3 := kb.cell 3
 have a4 := kb.cell 4
 have a5 := kb.cell 5
 simp at a0 a1 a2 a3 a4 a5
 have f0 := kf.cell 0
 have f1 := kf.cell 1
 have f2 := kf.cell 2
 have f3 := kf.cell 3
 have f4 := kf.cell 4
 have f5 := kf.cell 5
 have f6 := kf.cell 6
 have f7 := kf.cell 7
 simp at f0 f1 f2 f3 f4 f5 f6 f7
 have p0 := kw.cell 0
 have p1 := kw.cell 1
 have p2 := kw.cell 2
 have p3 := kw.cell 3
 simp at p0 p1 p2 p3
 have z0 := kw.fz 0
 have z1 := kw.fz 1
 have z2 := kw.fz 2
 have z3 := kw.fz 3
 go_upto_region 14 with fail
 clear a0 a1 a2 a3 a4 a5 f0 f1 f2 f3 f4 f5 f6 f7 p0 p1 p2 p3 z0 z1 z2 z3
 have m6 := Mod.refl (fun g => g = w4.heap.size) w5
 have kw := (kw.set (3) (.string (s.p.data ++ f.data)))
 have m6 := (m6.setCell (p := ⟨w4.heap.size,3,none⟩) (Or.inl rfl) (.string (s.p.data ++ f.data)))
 simp at kw
 generalize (w5.setCell ⟨w4.heap.size,3,none⟩ (.string (s.p.data ++ f.data))) = w6 at kw m6 ⊢
 have hs4 := mo.size
 have kr := kr.later m6 (by omega)
 have kn := kn.later m6 (by omega)
 have kf := kf.later m6 (by omega)
 have kb := kb.later m6 (by omega)
 have mo := mo.trans m6 (fun i hi e => by omega)
 have f0 := kf.cell 0
 have f1 := kf.cell 1
 have f2 := kf.cell 2
 have f3 := kf.cell 3
 have f4 := kf.cell 4
 have f5 := kf.cell 5
 have f6 := kf.cell 6
 have f7 := kf.cell 7
 simp at f0 f1 f2 f3 f4 f5 f6 f7
 have p0 := kw.cell 0
 have p1 := kw.cell 1
 have p2 := kw.cell 2
 have p3 := kw.cell 3
 simp at p0 p1 p2 p3
 have a0 := kb.cell 0
 have a1 := kb.cell 1
 have a2 := kb.cell 2
 have a3 := kb.cell 3
 have a4 := kb.cell 4
 have a5 := kb.cell 5
 simp at a0 a1 a2 a3 a4 a5
 obtain ⟨D,hD⟩ : ∃ D,s.p.data ++ f.data = D := ⟨_,rfl⟩
 rw [hD] at kw p3
 have hDs : D.size = s.p.data.size + f.data.size := by rw [← hD]; exact ByteArray.size_append
 have HD := Lib.hid hD
 have hDm : D.size ≤ s.p.data.size + f.data.size := by omega
 clear hD hDs
 have hDm : D.size ≤ 70 := by omega
 have hsz2 := hs.size
 by_cases hfit : s.size < (D.size : Int)
 ·
  have HR2 := Lib.hid (show s = o by rw [← HR.out,HD.out,if_pos hfit])
  have hq5 : decide (s.size < (D.size : Int)) = true := decide_eq_true hfit
  have hq6 := hfit
  clear hfit
  go_upto_region 20 with fail
  go_cut [81] (fun z w' => z = .bool true∧Drw w6 w')
  case first =>
   go_quiet (fail)
   go_wp2_with fail
   all_goals go_meet
   all_goals exact ⟨by rfl,Drw.drewN _ _⟩
  case rest =>
  obtain ⟨rfl,d7⟩ := hcut
  obtain ⟨w7,rfl⟩ : ∃ wo : World,wo = wc := ⟨_,rfl⟩
  clear a0 a1 a2 a3 a4 a5 f0 f1 f2 f3 f4 f5 f6 f7 p0 p1 p2 p3
  have hs7 := (d7.mod (fun _ => False)).size
  have kr := kr.later (d7.mod (fun _ => False)) (by simp)
  have kn := kn.later (d7.mod (fun _ => False)) (by simp)
  have kw := kw.later (d7.mod (fun _ => False)) (by simp)
  have kb := kb.later (d7.mod (fun _ => False)) (by simp)
  have mo := mo.trans (d7.mod (fun _ => False)) (fun i hi e => e.elim)
  have q0 := kn.cell 0
  have q1 := kn.cell 1
  have q2 := kn.cell 2
  have q3 := kn.cell 3
  simp at q0 q1 q2 q3
  have u0 := kr.fz 0
  have u1 := kr.fz 1
  have u2 := kr.fz 2
  have u3 := kr.fz 3
  have y0 := kr.cell 0
  have y1 := kr.cell 1
  have y2 := kr.cell 2
  have y3 := kr.cell 3
  simp at y0 y1 y2 y3
  have HT := Lib.hid kb
  go_wp2
  have qE := ((((kr.set (0) (.int .i64 0)).set (1) (.int .i64 0)).set (2) (.int .i64 0)).set (3) (.string ⟨#[]⟩))
  have mE := ((((mo.setCell (p := ⟨w.heap.size,0,none⟩) (Or.inr (Nat.le_refl _)) (.int .i64 0)).setCell (p := ⟨w.heap.size,1,none⟩) (Or.inr (Nat.le_refl _)) (.int .i64 0)).setCell (p := ⟨w.heap.size,2,none⟩) (Or.inr (Nat.le_refl _)) (.int .i64 0)).setCell (p := ⟨w.heap.size,3,none⟩) (Or.inr (Nat.le_refl _)) (.string ⟨#[]⟩))
  have mB := (((((Mod.refl (fun g => g = w.heap.size) w7).setCell (p := ⟨w.heap.size,0,none⟩) (Or.inl rfl) (.int .i64 0)).setCell (p := ⟨w.heap.size,1,none⟩) (Or.inl rfl) (.int .i64 0)).setCell (p := ⟨w.heap.size,2,none⟩) (Or.inl rfl) (.int .i64 0)).setCell (p := ⟨w.heap.size,3,none⟩) (Or.inl rfl) (.string ⟨#[]⟩))
  simp at qE
  generalize ((((w7.setCell ⟨w.heap.size,0,none⟩ (.int .i64 0)).setCell ⟨w.heap.size,1,none⟩ (.int .i64 0)).setCell ⟨w.heap.size,2,none⟩ (.int .i64 0)).setCell ⟨w.heap.size,3,none⟩ (.string ⟨#[]⟩)) = wE at qE mE mB ⊢
  have qe0 := qE.cell 0
  have qe1 := qE.cell 1
  have qe2 := qE.cell 2
  have qe3 := qE.cell 3
  simp at qe0 qe1 qe2 qe3
  exact bodyPost_ret (v := .tuple #[.agg #[.int .i64 0,.int .i64 0,.int .i64 0,.string ⟨#[]⟩],.bool false,.int .i64 4]) (by simp [results,Tryz.results149,go_sem,qe0,qe1,qe2,qe3]) rfl ⟨4,rfl,own,⟨by rw [← HR2.out]; unfold JoinS.cells; rw [HB.out]; exact HT.out.later mB (by omega),HO.out⟩,mE,fun g hg => Or.inl hg⟩
 ·
  have HR2 := Lib.hid (show (⟨s.begun,⟨s.p.src,s.p.dst,s.p.seq,D⟩,s.size⟩ : JoinS) = o by rw [← HR.out,HD.out,if_neg hfit])
  have hq5 : decide (s.size < (D.size : Int)) = false := decide_eq_false hfit
  have hq6 : (D.size : Int) ≤ s.size := by omega
  clear hfit
  go_upto_region 20 with fail
  go_cut [81] (fun z w' => z = .bool false∧Drw w6 w')
  case first =>
   go_quiet (fail)
   go_wp2_with fail
   all_goals go_meet
   all_goals exact ⟨by rfl,Drw.drewN _ _⟩
  case rest =>
  obtain ⟨rfl,d7⟩ := hcut
  obtain ⟨w7,rfl⟩ : ∃ wo : World,wo = wc := ⟨_,rfl⟩
  clear a0 a1 a2 a3 a4 a5 f0 f1 f2 f3 f4 f5 f6 f7 p0 p1 p2 p3
  have hs7 := (d7.mod (fun _ => False)).size
  have kr := kr.later (d7.mod (fun _ => False)) (by simp)
  have kn := kn.later (d7.mod (fun _ => False)) (by simp)
  have kw := kw.later (d7.mod (fun _ => False)) (by simp)
  have kb := kb.later (d7.mod (fun _ => False)) (by simp)
  have mo := mo.trans (d7.mod (fun _ => False)) (fun i hi e => e.elim)
  have p0 := kw.cell 0
  have p1 := kw.cell 1
  have p2 := kw.cell 2
  have p3 := kw.cell 3
  simp at p0 p1 p2 p3
  have a0 := kb.cell 0
  have a1 := kb.cell 1
  have a2 := kb.cell 2
  have a3 := kb.cell 3
  have a4 := kb.cell 4
  have a5 := kb.cell 5
  simp at a0 a1 a2 a3 a4 a5
  have z0 := kb.fz 0
  have z1 := kb.fz 1
  have z2 := kb.fz 2
  have z3 := kb.fz 3
  have z4 := kb.fz 4
  have z5 := kb.fz 5
  go_upto_region 23 with fail
  have m8 := Mod.refl (fun g => g = b) w7
  have kb := ((((kb.set (1) (.int .i64 s.p.src)).set (2) (.int .i64 s.p.dst)).set (3) (.int .i64 s.p.seq)).set (4) (.string D))
  have m8 := ((((m8.setCell (p := ⟨b,1,none⟩) (Or.inl rfl) (.int .i64 s.p.src)).setCell (p := ⟨b,2,none⟩) (Or.inl rfl) (.int .i64 s.p.dst)).setCell (p := ⟨b,3,none⟩) (Or.inl rfl) (.int .i64 s.p.seq)).setCell (p := ⟨b,4,none⟩) (Or.inl rfl) (.string D))
  simp at kb
  generalize ((((w7.setCell ⟨b,1,none⟩ (.int .i64 s.p.src)).setCell ⟨b,2,none⟩ (.int .i64 s.p.dst)).setCell ⟨b,3,none⟩ (.int .i64 s.p.seq)).setCell ⟨b,4,none⟩ (.string D)) = w8 at kb m8 ⊢
  have mo := mo.trans m8 (fun i hi e => (HO.out i).2 e)
  have kr := kr.later m8 (by omega)
  have kn := kn.later m8 (by omega)
  have HT := Lib.hid kb
  clear kb a0 a1 a2 a3 a4 a5 z0 z1 z2 z3 z4 z5 p0 p1 p2 p3
  have q0 := kn.cell 0
  have q1 := kn.cell 1
  have q2 := kn.cell 2
  have q3 := kn.cell 3
  simp at q0 q1 q2 q3
  have u0 := kr.fz 0
  have u1 := kr.fz 1
  have u2 := kr.fz 2
  have u3 := kr.fz 3
  have y0 := kr.cell 0
  have y1 := kr.cell 1
  have y2 := kr.cell 2
  have y3 := kr.cell 3
  simp at y0 y1 y2 y3
  go_wp2
  have qE := ((((kr.set (0) (.int .i64 0)).set (1) (.int .i64 0)).set (2) (.int .i64 0)).set (3) (.string ⟨#[]⟩))
  have mE := ((((mo.setCell (p := ⟨w.heap.size,0,none⟩) (Or.inr (Nat.le_refl _)) (.int .i64 0)).setCell (p := ⟨w.heap.size,1,none⟩) (Or.inr (Nat.le_refl _)) (.int .i64 0)).setCell (p := ⟨w.heap.size,2,none⟩) (Or.inr (Nat.le_refl _)) (.int .i64 0)).setCell (p := ⟨w.heap.size,3,none⟩) (Or.inr (Nat.le_refl _)) (.string ⟨#[]⟩))
  have mB := (((((Mod.refl (fun g => g = w.heap.size) w8).setCell (p := ⟨w.heap.size,0,none⟩) (Or.inl rfl) (.int .i64 0)).setCell (p := ⟨w.heap.size,1,none⟩) (Or.inl rfl) (.int .i64 0)).setCell (p := ⟨w.heap.size,2,none⟩) (Or.inl rfl) (.int .i64 0)).setCell (p := ⟨w.heap.size,3,none⟩) (Or.inl rfl) (.string ⟨#[]⟩))
  simp at qE
  generalize ((((w8.setCell ⟨w.heap.size,0,none⟩ (.int .i64 0)).setCell ⟨w.heap.size,1,none⟩ (.int .i64 0)).setCell ⟨w.heap.size,2,none⟩ (.int .i64 0)).setCell ⟨w.heap.size,3,none⟩ (.string ⟨#[]⟩)) = wE at qE mE mB ⊢
  have qe0 := qE.cell 0
  have qe1 := qE.cell 1
  have qe2 := qE.cell 2
  have qe3 := qE.cell 3
  simp at qe0 qe1 qe2 qe3
  exact bodyPost_ret (v := .tuple #[.agg #[.int .i64 0,.int .i64 0,.int .i64 0,.string ⟨#[]⟩],.bool false,.int .i64 0]) (by simp [results,Tryz.results149,go_sem,qe0,qe1,qe2,qe3]) rfl ⟨0,rfl,own,⟨by rw [← HR2.out]; unfold JoinS.cells; rw [HB.out]; exact HT.out.later mB (by omega),HO.out⟩,mE,fun g hg => Or.inl hg⟩
theorem join_take (b x : Nat) (s : JoinS) (own : Nat→Prop) (w : World) (h : JoinAt b s w own) (hs : JoinOk s) (hx : x < 2 ^ 64) :
  Calls Tryz.prog 149 #[.pointer (some ⟨b,0,none⟩),.int .u64 (x : Int)] w (TakePost b own w (s.take x).1 (s.take x).2) := by
 rcases hf : rdF x with _ | f
 ·
  exact join_take_none b x s own w h hx hf
 ·
  by_cases hk : decide (f.kind = 1) = s.begun
  ·
   exact join_take_same b x s own w f h hx hf hk
  ·
   by_cases h1 : f.kind = 1
   ·
    exact join_take_head b x s own w f h hx hf h1 (by simpa [h1] using hk)
   ·
    have hb : s.begun = true := by simpa [h1] using hk
    rcases (body_bd h1 (rdF_some hf).1).1 with h2 | h3
    ·
     exact join_take_body b x s own w f h hs hx hf h2 hb
    ·
     exact join_take_tail b x s own w f h hs hx hf h3 hb
theorem JoinOk.take {s : JoinS} (h : JoinOk s) (x : Nat) : JoinOk (s.take x).1∧∀ p,(s.take x).2 = some p→p.Ok := by
 unfold JoinS.take
 rcases hf : rdF x with _ | f
 ·
  exact ⟨h,by simp⟩
 ·
  dsimp only
  have hr := (rdF_some hf).1
  have hd := h.data
  have hsz := h.size
  split
  ·
   exact ⟨h,by simp⟩
  ·
   split
   ·
    rename_i h1
    have hb := head_bd h1 hr
    refine ⟨⟨?_,?_,hb.2.2.2.1,hb.2.2.2.2,(by decide : ((ByteArray.mk #[]).size : Int) ≤ 64)⟩,by simp⟩
    ·
     simp only [nodeB,Bool.and_eq_true,decide_eq_true_eq]; exact hb.2.1
    ·
     simp only [nodeB,Bool.and_eq_true,decide_eq_true_eq]; exact hb.2.2.1
   ·
    split
    ·
     refine ⟨JoinOk.new,fun p hp => ?_⟩
     dsimp only at hp
     split at hp
     ·
      rename_i hd2
      simp only [Option.some.injEq] at hp
      subst hp
      exact ⟨h.src,h.dst,h.seq,by show ((s.p.data ++ f.data).size : Int) ≤ 64; omega⟩
     ·
      cases hp
    ·
     split
     ·
      exact ⟨h,by simp⟩
     ·
      exact ⟨⟨h.src,h.dst,h.seq,h.size,by show ((s.p.data ++ f.data).size : Int) ≤ 64; omega⟩,by simp⟩
end Go.Proofs.YtfiklfkfbcpmgaaGreat
