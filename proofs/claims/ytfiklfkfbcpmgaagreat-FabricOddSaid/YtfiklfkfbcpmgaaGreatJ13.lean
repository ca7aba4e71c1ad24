/- Parts: LinkU MapN Box. No condition. -/
import Derived.Test.YtfiklfkfbcpmgaaGreatJ12
import Derived.Test.YtfiklfkfbcpmgaaGreatJ07
import Derived.Maps.Keyed
import Derived.Maps.RangeRun
import Derived.WideKeyPair
import Derived.DeepKeys4
import Derived.Test.YtfiklfkfbcpmgaaGreatJ09
import Derived.Maps.OwnSet
set_option linter.all false
set_option maxRecDepth 100000
set_option maxHeartbeats 3200000
namespace Go.Proofs.YtfiklfkfbcpmgaaGreat
open Go.RowKit
def CarryPost (b L D R : Nat) (own : Nat→Prop) (w : World) (s' : LinkS) (c : Int × Nat) (er : Int) (e : Ending) (w' : World) : Prop :=
 e = .returned (.tuple #[.agg #[.int .i64 c.1,.int .u64 (c.2 : Int)],.int .i64 er])∧Turn own (LinkAt b L D R s') w w'
theorem link_carry_none (b L D R : Nat) (s : LinkS) (own : Nat→Prop) (w : World) (h : LinkAt b L D R s w own) (hb : s.words = []) :
  Calls Tryz.prog 110 #[.pointer (some ⟨b,0,none⟩)] w (CarryPost b L D R own w s (0,0) 8) := by
 have kr := Blk.made w #[.int .i64 0,.int .u64 0] 128
 have m0 : Mod (fun _ => False) w (w.alloc (.cells #[.int .i64 0,.int .u64 0] 128)) := (Mod.refl _ _).alloc _
 have s0 : w.heap.size < (w.alloc (.cells #[.int .i64 0,.int .u64 0] 128)).heap.size := by simp
 have HS := Lib.hid (fun w' (m : Mod (fun _ => False) w w') => Turn.same (LinkAt.stable b L D R s) h m)
 have h1 := (LinkAt.stable b L D R s).later h m0 (by simp)
 clear h
 go_enter Tryz.func110,Tryz.ntmps110
 go_upto_region 1 with fail
 generalize w.alloc (.cells #[.int .i64 0,.int .u64 0] 128) = w1 at kr m0 s0 h1 ⊢
 obtain ⟨r1,r2,g1,g2,hF⟩ := h1
 obtain ⟨ob,⟨kbA,hob⟩,hobo,putB⟩ := hF.at (linkX_stable b r1 r2 g1 g2 L D R s) .blk
 obtain ⟨oc,⟨kcA,hoc⟩,hoco,putC⟩ := hF.at (linkX_stable b r1 r2 g1 g2 L D R s) .cr
 obtain ⟨of',⟨kfA,hof⟩,hofo,putF⟩ := hF.at (linkX_stable b r1 r2 g1 g2 L D R s) .far
 obtain ⟨oq,hqA,hoqo,putQ⟩ := hF.at (linkX_stable b r1 r2 g1 g2 L D R s) .back
 obtain ⟨ow,hwA,howo,putW⟩ := hF.at (linkX_stable b r1 r2 g1 g2 L D R s) .words
 clear hF
 rw [linkX,hb] at hwA
 have HP := Lib.hid (ringC_pop_none hwA)
 have c1 := kbA.cell 1
 simp at c1
 clear kbA hob hobo putB kcA hoc hoco putC kfA hof hofo putF hqA hoqo putQ hwA howo putW
 clear hb
 go_wp2_with fail
 refine HP.out.mono ?_
 rintro e w2 ⟨rfl,m2⟩
 have kr := kr.later m2 (by simp)
 have m0 := m0.trans m2 (by simp)
 have s0 := Nat.lt_of_lt_of_le s0 m2.size
 go_upto_region 4 with fail
 have kr := kr.alloc (.cells #[.int .i64 0,.int .u64 0] 128)
 have kx := Blk.made w2 #[.int .i64 0,.int .u64 0] 128
 have m0 := m0.alloc (.cells #[.int .i64 0,.int .u64 0] 128)
 generalize w2.alloc (.cells #[.int .i64 0,.int .u64 0] 128) = w3 at kr kx m0 ⊢
 have x0 := kx.cell 0
 have x1 := kx.cell 1
 simp at x0 x1
 have r0 := kr.cell 0
 have r1 := kr.cell 1
 simp at r0 r1
 have u0 := kr.fz 0
 have u1 := kr.fz 1
 go_wp2
 have qE := ((kr.set (0) (.int .i64 0)).set (1) (.int .u64 0))
 have mE := ((m0.setCell (p := ⟨w.heap.size,0,none⟩) (Or.inr (Nat.le_refl _)) (.int .i64 0)).setCell (p := ⟨w.heap.size,1,none⟩) (Or.inr (Nat.le_refl _)) (.int .u64 0))
 have mB := (((Mod.refl (fun g => g = w.heap.size) w3).setCell (p := ⟨w.heap.size,0,none⟩) (Or.inl rfl) (.int .i64 0)).setCell (p := ⟨w.heap.size,1,none⟩) (Or.inl rfl) (.int .u64 0))
 simp at qE
 generalize ((w3.setCell ⟨w.heap.size,0,none⟩ (.int .i64 0)).setCell ⟨w.heap.size,1,none⟩ (.int .u64 0)) = wE at qE mE mB ⊢
 have qe0 := qE.cell 0
 have qe1 := qE.cell 1
 simp at qe0 qe1
 exact bodyPost_ret (v := .tuple #[.agg #[.int .i64 0,.int .u64 0],.int .i64 8]) (by simp [results,Tryz.results110,go_sem,qe0,qe1]) rfl ⟨rfl,HS.out _ mE⟩
theorem link_carry (b L D R k x : Nat) (ws : List (Int × Nat)) (s : LinkS) (own : Nat→Prop) (w : World) (h : LinkAt b L D R s w own) (hs : LinkOk L D R s) (hk : k < L) (hb : s.words = ((k : Int),x) :: ws) :
  Calls Tryz.prog 110 #[.pointer (some ⟨b,0,none⟩)] w (CarryPost b L D R own w ⟨s.credits,bump s.far (k : Int) 1,ws,s.back⟩ ((k : Int),x) 0) := by
 have kr := Blk.made w #[.int .i64 0,.int .u64 0] 128
 have m0 : Mod (fun _ => False) w (w.alloc (.cells #[.int .i64 0,.int .u64 0] 128)) := (Mod.refl _ _).alloc _
 have s0 : w.heap.size < (w.alloc (.cells #[.int .i64 0,.int .u64 0] 128)).heap.size := by simp
 have olt := fun g (hg : own g) => (LinkAt.stable b L D R s).lt h hg
 have h1 := (LinkAt.stable b L D R s).later h m0 (by simp)
 obtain ⟨-,-,q0,q64⟩ := hs.cb hk
 have hL := hs.L8
 have hfl := hs.fl
 obtain ⟨z,hz⟩ : ∃ z,s.far.getD k 0 = z := ⟨_,rfl⟩
 rw [hz] at q0 q64
 have q1 : (0 : Int) ≤ (k : Int) := by omega
 have q2 : (k : Int) < (L : Int) := by omega
 clear h hs
 go_enter Tryz.func110,Tryz.ntmps110
 go_upto_region 1 with fail
 generalize w.alloc (.cells #[.int .i64 0,.int .u64 0] 128) = w1 at kr m0 s0 h1 ⊢
 obtain ⟨r1,r2,g1,g2,hF⟩ := h1
 obtain ⟨ob,⟨kbA,hob⟩,hobo,putB⟩ := hF.at (linkX_stable b r1 r2 g1 g2 L D R s) .blk
 obtain ⟨oc,⟨kcA,hoc⟩,hoco,putC⟩ := hF.at (linkX_stable b r1 r2 g1 g2 L D R s) .cr
 obtain ⟨of',⟨kfA,hof⟩,hofo,putF⟩ := hF.at (linkX_stable b r1 r2 g1 g2 L D R s) .far
 obtain ⟨oq,hqA,hoqo,putQ⟩ := hF.at (linkX_stable b r1 r2 g1 g2 L D R s) .back
 obtain ⟨ow,hwA,howo,putW⟩ := hF.at (linkX_stable b r1 r2 g1 g2 L D R s) .words
 clear hF
 rw [linkX,hb] at hwA
 have HP := Lib.hid (ringC_pop ((k : Int),x) hwA)
 have HPUT := Lib.hid (fun w' (t : Turn ow (RingAt encC 2 128 174 r2 R ws) w1 w') => (by
  obtain ⟨o',hx',m',ho'⟩ := putW (linkX b r1 r2 g1 g2 L D R ⟨s.credits,s.far,ws,s.back⟩) w' (by intro j hj; cases j <;> first | rfl | exact absurd rfl hj) t
  exact ⟨o',⟨r1,r2,g1,g2,hx'⟩,m',ho'⟩ : Turn own (LinkAt b L D R ⟨s.credits,s.far,ws,s.back⟩) w1 w'))
 have c1 := kbA.cell 1
 simp at c1
 clear kbA hob hobo putB kcA hoc hoco putC kfA hof hofo putF hqA hoqo putQ hwA howo putW
 clear hb
 go_wp2_with fail
 refine HP.out.mono ?_
 rintro e w2 ⟨rfl,t1⟩
 obtain ⟨o2,h2,m2,ho2⟩ := HPUT.out _ t1
 clear t1 c1 HP HPUT
 have hnw : ¬ own w.heap.size := fun h => by have := olt _ h; omega
 have kr := kr.later m2 hnw
 have m02 : Mod own w w2 := (m0.mono (fun i hi e => e.elim)).trans m2 (fun i hi e => e)
 have ho02 : ∀ g,o2 g→own g∨w.heap.size ≤ g := fun g hg => (ho2 g hg).imp id (fun e => by omega)
 have hnw2 : ¬ o2 w.heap.size := fun h => by
  rcases ho2 _ h with e | e
  ·
   exact hnw e
  ·
   omega
 have s0 := Nat.lt_of_lt_of_le s0 m2.size
 go_upto_region 4 with fail
 have kr := kr.alloc (.cells #[.int .i64 (k : Int),.int .u64 (x : Int)] 128)
 have kx := Blk.made w2 #[.int .i64 (k : Int),.int .u64 (x : Int)] 128
 have mx : Mod (fun _ => False) w2 (w2.alloc (.cells #[.int .i64 (k : Int),.int .u64 (x : Int)] 128)) := (Mod.refl _ _).alloc _
 have sx : w2.heap.size < (w2.alloc (.cells #[.int .i64 (k : Int),.int .u64 (x : Int)] 128)).heap.size := by simp
 generalize w2.alloc (.cells #[.int .i64 (k : Int),.int .u64 (x : Int)] 128) = w3 at kr kx mx sx ⊢
 have h3 := (LinkAt.stable ..).later h2 mx (by simp)
 have hnx : ¬ o2 w2.heap.size := fun h => by have := (LinkAt.stable ..).lt h2 h; omega
 have m03 := m02.trans mx (fun i hi e => e.elim)
 have h3d := (LinkAt.stable ..).later h3 ((Mod.refl (fun _ => False) w3).drew) (by simp)
 clear h3 h2 m02 m2 m0 mx
 obtain ⟨r1,r2,g1,g2,hF⟩ := h3d
 obtain ⟨ob,⟨kbA,hob⟩,hobo,putB⟩ := hF.at (linkX_stable b r1 r2 g1 g2 L D R ⟨s.credits,s.far,ws,s.back⟩) .blk
 obtain ⟨oc,⟨kcA,hoc⟩,hoco,putC⟩ := hF.at (linkX_stable b r1 r2 g1 g2 L D R ⟨s.credits,s.far,ws,s.back⟩) .cr
 obtain ⟨of',⟨kfA,hof⟩,hofo,putF⟩ := hF.at (linkX_stable b r1 r2 g1 g2 L D R ⟨s.credits,s.far,ws,s.back⟩) .far
 obtain ⟨oq,hqA,hoqo,putQ⟩ := hF.at (linkX_stable b r1 r2 g1 g2 L D R ⟨s.credits,s.far,ws,s.back⟩) .back
 obtain ⟨ow,hwA,howo,putW⟩ := hF.at (linkX_stable b r1 r2 g1 g2 L D R ⟨s.credits,s.far,ws,s.back⟩) .words
 clear hF
 have c3 := kbA.cell 3
 have c4 : w3.drew.cell? ⟨g2,k,none⟩ = some (.int .i64 z) := by rw [← hz]; exact (kfA.cell k).trans (intsA_get (show k < s.far.length by omega))
 have z4 := kfA.fz k
 simp at c3 c4 z4
 have hgx : g2 ≠ w2.heap.size := fun e => hnx (hofo _ ((hof _).2 e.symm))
 have hgr : g2 ≠ w.heap.size := fun e => hnw2 (hofo _ ((hof _).2 e.symm))
 have kfB := kfA.set k (.int .i64 (z + 1))
 rw [show (intsA (LinkS.far ⟨s.credits,s.far,ws,s.back⟩)).setIfInBounds k (.int .i64 (z + 1)) = intsA (bump s.far (k : Int) 1) by
  rw [intsA_set]; unfold bump; rw [Int.toNat_natCast,hz]] at kfB
 have mB := (Mod.refl (fun g => g = g2) w3.drew).setCell (p := ⟨g2,k,none⟩) (Or.inl rfl) (.int .i64 (z + 1))
 have T := Lib.hid (show ∃ o',LinkAt b L D R ⟨s.credits,bump s.far (k : Int) 1,ws,s.back⟩ (w3.drew.setCell ⟨g2,k,none⟩ (.int .i64 (z + 1))) o'∧Mod own w (w3.drew.setCell ⟨g2,k,none⟩ (.int .i64 (z + 1)))∧(∀ g,o' g→own g∨w.heap.size ≤ g)∧¬ o' w.heap.size∧Blk (w3.drew.setCell ⟨g2,k,none⟩ (.int .i64 (z + 1))) w2.heap.size #[.int .i64 (k : Int),.int .u64 (x : Int)] 128∧Blk (w3.drew.setCell ⟨g2,k,none⟩ (.int .i64 (z + 1))) w.heap.size #[.int .i64 0,.int .u64 0] 128 by
  obtain ⟨o',hx',m',ho'⟩ := putF (linkX b r1 r2 g1 g2 L D R ⟨s.credits,bump s.far (k : Int) 1,ws,s.back⟩) _ (by intro j hj; cases j <;> first | rfl | exact absurd rfl hj) (Cells.put hof kfB mB)
  have hsz := m03.size
  refine ⟨o',⟨r1,r2,g1,g2,hx'⟩,(Turn.next m03.drew ho02 ⟨o',hx',m',ho'⟩).mod,fun g hg => ?_,fun hg => ?_,kx.drew.later mB (fun e => hgx e.symm),kr.drew.later mB (fun e => hgr e.symm)⟩
  ·
   rcases ho' g hg with e | e
   ·
    exact ho02 g e
   ·
    exact Or.inr (by have : w3.drew.heap.size = w3.heap.size := rfl; omega)
  ·
   rcases ho' _ hg with e | e
   ·
    exact hnw2 e
   ·
    have : w3.drew.heap.size = w3.heap.size := rfl
    omega)
 clear kbA hob hobo putB kcA hoc hoco putC kfA hof hofo putF hqA hoqo putQ hwA howo putW
 clear kfB mB hz
 have x0 := kx.cell 0
 have x1 := kx.cell 1
 simp at x0 x1
 go_upto_region 5 with fail
 go_cut [] (fun w' => ∃ o',LinkAt b L D R ⟨s.credits,bump s.far (k : Int) 1,ws,s.back⟩ w' o'∧Mod own w w'∧(∀ g,o' g→own g∨w.heap.size ≤ g)∧¬ o' w.heap.size∧Blk w' w2.heap.size #[.int .i64 (k : Int),.int .u64 (x : Int)] 128∧Blk w' w.heap.size #[.int .i64 0,.int .u64 0] 128)
 case first =>
  go_still_tail 10,(by kernel_rfl)
  change wpList _ _ _ _ _ w3.drew
  go_wp2_with fail
  all_goals go_meet
  all_goals exact T.out
 case rest =>
  obtain ⟨o5,h5,m5,ho5,hn5,kx5,kr5⟩ := hcut
  have HF := Lib.hid (fun wE (mE : Mod own w wE) (mB : Mod (fun g => g = w.heap.size) wc wE) => (⟨o5,(LinkAt.stable ..).later h5 mB (fun g hg e => hn5 (e ▸ hg)),mE,ho5⟩ : Turn own (LinkAt b L D R ⟨s.credits,bump s.far (k : Int) 1,ws,s.back⟩) w wE))
  clear T c3 c4 z4 x0 x1 h5
  have x0 := kx5.cell 0
  have x1 := kx5.cell 1
  simp at x0 x1
  have r0 := kr5.cell 0
  have r1 := kr5.cell 1
  simp at r0 r1
  have u0 := kr5.fz 0
  have u1 := kr5.fz 1
  go_wp2
  have qE := ((kr5.set (0) (.int .i64 (k : Int))).set (1) (.int .u64 (x : Int)))
  have mE := ((m5.setCell (p := ⟨w.heap.size,0,none⟩) (Or.inr (Nat.le_refl _)) (.int .i64 (k : Int))).setCell (p := ⟨w.heap.size,1,none⟩) (Or.inr (Nat.le_refl _)) (.int .u64 (x : Int)))
  have mB := (((Mod.refl (fun g => g = w.heap.size) wc).setCell (p := ⟨w.heap.size,0,none⟩) (Or.inl rfl) (.int .i64 (k : Int))).setCell (p := ⟨w.heap.size,1,none⟩) (Or.inl rfl) (.int .u64 (x : Int)))
  simp at qE
  generalize ((wc.setCell ⟨w.heap.size,0,none⟩ (.int .i64 (k : Int))).setCell ⟨w.heap.size,1,none⟩ (.int .u64 (x : Int))) = wE at qE mE mB ⊢
  have qe0 := qE.cell 0
  have qe1 := qE.cell 1
  simp at qe0 qe1
  exact bodyPost_ret (v := .tuple #[.agg #[.int .i64 (k : Int),.int .u64 (x : Int)],.int .i64 0]) (by simp [results,Tryz.results110,go_sem,qe0,qe1]) rfl ⟨rfl,HF.out _ mE mB⟩
theorem sum_take_succ (l : List Int) (k : Nat) (hk : k < l.length) : (l.take (k + 1)).sum = (l.take k).sum + l.getD k 0 := by
 rw [List.take_succ_eq_append_getElem hk,List.sum_append]
 simp [List.getD_eq_getElem?_getD,hk]
theorem sum_take_bd (l : List Int) (h : ∀ k,k < l.length→0 ≤ l.getD k 0∧l.getD k 0 ≤ 64) (k : Nat) (hk : k ≤ l.length) : 0 ≤ (l.take k).sum∧(l.take k).sum ≤ 64 * k := by
 induction k with
 | zero => simp
 | succ k ih =>
  have h1 := ih (by omega)
  have h2 := h k (by omega)
  rw [sum_take_succ l k (by omega)]
  omega
theorem link_idle_nil (w : World) :
  Calls Tryz.prog 48 #[.pointer none] w fun e w' => e = .returned (.bool true)∧w' = w := by
 go_enter Tryz.func48,Tryz.ntmps48
 go_wp2
 go_ret
 exact ⟨rfl,rfl⟩
theorem link_idle (b L D R : Nat) (s : LinkS) (own : Nat→Prop) (w : World) (h : LinkAt b L D R s w own) (hs : LinkOk L D R s) :
  Calls Tryz.prog 48 #[.pointer (some ⟨b,0,none⟩)] w fun e w' => e = .returned (.bool s.idle)∧Drw w w' := by
 have hfl := hs.fl
 have hL := hs.L8
 have hbd := sum_take_bd s.far (fun k hk => by have := hs.cb (k := k) (by omega); omega)
 have HST := Lib.hid (LinkAt.stable b L D R s)
 have H0 := Lib.hid h
 obtain ⟨r1,r2,g1,g2,hF⟩ := h
 obtain ⟨ob,⟨kbA,hob⟩,hobo,putB⟩ := hF.at (linkX_stable b r1 r2 g1 g2 L D R s) .blk
 obtain ⟨oc,⟨kcA,hoc⟩,hoco,putC⟩ := hF.at (linkX_stable b r1 r2 g1 g2 L D R s) .cr
 obtain ⟨of',⟨kfA,hof⟩,hofo,putF⟩ := hF.at (linkX_stable b r1 r2 g1 g2 L D R s) .far
 obtain ⟨oq,hqA,hoqo,putQ⟩ := hF.at (linkX_stable b r1 r2 g1 g2 L D R s) .back
 obtain ⟨ow,hwA,howo,putW⟩ := hF.at (linkX_stable b r1 r2 g1 g2 L D R s) .words
 clear hF
 have hq1 := ringI_at_bd hqA
 have hw1 := ringC_at_bd hwA
 have HLW := Lib.hid (fun w' (d : Drw w w') => ringC_at_len ((RingAt.stable ..).later hwA (d.mod (fun _ => False)) (by simp)))
 have HLQ := Lib.hid (fun w' (d : Drw w w') => ringI_at_len ((RingAt.stable ..).later hqA (d.mod (fun _ => False)) (by simp)))
 have c0 := kbA.cell 0
 have c1 := kbA.cell 1
 have c3 := kbA.cell 3
 simp at c0 c1 c3
 have HC := Lib.hid (fun k (hk : k < L) => (kfA.cell k).trans (intsA_get (by omega)))
 obtain ⟨res,hres⟩ : ∃ r,s.idle = r := ⟨_,rfl⟩
 rw [hres]
 have HR := Lib.hid (show decide ((s.words.length : Int) + s.back.length + s.far.sum = 0) = res from hres)
 obtain ⟨nw,hnw⟩ : ∃ n,s.words.length = n := ⟨_,rfl⟩
 obtain ⟨nq,hnq⟩ : ∃ n,s.back.length = n := ⟨_,rfl⟩
 rw [hnw,hnq] at HR
 rw [hnw] at HLW hw1
 rw [hnq] at HLQ hq1
 have b1 : nw ≤ 4096 := by omega
 have b2 : nq ≤ 4096 := by omega
 have HBD := Lib.hid hbd
 have HFL := Lib.hid hfl
 clear kbA hob hobo putB kcA hoc hoco putC kfA hof hofo putF hqA hoqo putQ hwA howo putW
 clear hres hnw hnq hbd hfl hq1 hw1 hs HST H0
 go_enter Tryz.func48,Tryz.ntmps48
 go_upto_region 3 with fail
 go_cut [3] (fun z w' => z = .int .i64 ((nw : Int) + nq)∧Drw w w')
 case first =>
  go_quiet ((first | (go_at_call 92; exact Calls.quiet_of (HLW.out _ (Drw.drewN _ _))) | (go_at_call 93; exact Calls.quiet_of (HLQ.out _ (Drw.drewN _ _)))))
  go_wp2_with fail
  all_goals go_meet
  all_goals exact ⟨rfl,Drw.drewN _ _⟩
 case rest =>
 obtain ⟨rfl,d1⟩ := hcut
 obtain ⟨w1,rfl⟩ : ∃ wo : World,wo = wc := ⟨_,rfl⟩
 have c3 := (d1.cell ⟨b,3,none⟩).trans c3
 clear c0 c1
 go_wp2
 go_loopw [3,25] (fun z i wr => ∃ k : Nat,k ≤ L∧i = .int .i64 (k : Int)∧z = .int .i64 ((nw : Int) + nq + (s.far.take k).sum)∧wr = w1) (fun _ i _ => L - (intOf i).toNat)
 case atStart => exact ⟨0,by omega,by simp,by simp,rfl⟩
 case round =>
  obtain ⟨k,hk,rfl,rfl,rfl⟩ := hrel
  have hb1 := HBD.out k (by have := HFL.out; omega)
  by_cases hlt : k < L
  ·
   have hst := sum_take_succ s.far k (by have := HFL.out; omega)
   have hb2 := HBD.out (k + 1) (by have := HFL.out; omega)
   have c4 := (d1.cell ⟨g2,k,none⟩).trans (HC.out k hlt)
   have HST := Lib.hid hst
   clear hst
   generalize (s.far.take k).sum = sm at hb1 HST ⊢
   have q0 : (0 : Int) ≤ (k : Int) := by omega
   have q1 : (k : Int) < (L : Int) := by omega
   have hz0 : -100000 ≤ s.far.getD k 0 := by have := HST.out; omega
   have hz1 : s.far.getD k 0 ≤ 100000 := by have := HST.out; omega
   clear hb2
   generalize s.far.getD k 0 = z at c4 HST hz0 hz1
   go_wp2
   go_roundw
   case rel => exact ⟨k + 1,by omega,by go_num,by rw [HST.out]; congr 1; omega,trivial⟩
   case measure => simp [intOf]; omega
  ·
   have hkL : k = L := by omega
   have hfin : (s.far.take k).sum = s.far.sum := by rw [List.take_of_length_le (by have := HFL.out; omega)]
   rw [hfin] at hb1 ⊢
   generalize s.far.sum = sm at hb1 HR ⊢
   clear hfin hkL
   go_wp2
   go_ret
   exact ⟨ret_bool (by rw [← HR.out]; rfl),d1⟩
open Go.RowKit Go.WideMaps Go.ChangeMaps
theorem laidOutM : laidOutB Tryz.prog = true := by kernel_rfl
theorem key2_arr : ArrKey Tryz.prog 112 3 2 := ⟨Tryz.underlying112,by kernel_rfl,by kernel_rfl,by kernel_rfl⟩
theorem key2 : Maps.Keyed Tryz.prog 112 := Maps.Keyed.of_law (deep_law_laid laidOutM (m := 2) (by omega) (of_decide_eq_true (by kernel_rfl)) (by kernel_rfl) key2_arr.wide)
theorem types_pos : 0 < Tryz.prog.types.size := of_decide_eq_true (by kernel_rfl)
theorem key2_of {i j : Int} (hi : (Lit.int .i64 i).wf = true) (hj : (Lit.int .i64 j).wf = true) : ∃ l,keyOf Tryz.prog 112 (.agg #[.int .i64 i,.int .i64 j]) = some l :=
 ⟨_,keyOf_pair key2_arr Tryz.underlying3 ⟨Tryz.prog.types.size - 1,by have := types_pos; omega⟩ hi hj⟩
theorem keyI : Maps.Keyed Tryz.prog 3 := Maps.int_keyed Tryz.underlying3
theorem keyI_of {i : Int} (hi : (Lit.int .i64 i).wf = true) : ∃ l,keyOf Tryz.prog 3 (.int .i64 i) = some l := ⟨_,Maps.keyOf_int_mk Tryz.underlying3 hi⟩
def pairK (i j : Int) : Value := .agg #[.int .i64 i,.int .i64 j]
theorem pairK_inj {i j i' j' : Int} (h : pairK i j = pairK i' j') : i = i'∧j = j' := by
 simp [pairK] at h
 exact h
theorem zeroPk (w : World) : (zeroValue 46).run Tryz.prog w = .ok (.agg #[.int .i64 0,.int .i64 0,.int .i64 0,.string ⟨#[]⟩]) w := by kernel_rfl
theorem zeroIn (w : World) : (zeroValue 3).run Tryz.prog w = .ok (.int .i64 0) w := by kernel_rfl
theorem nodup_push {α : Type} {l : List α} {x : α} (h : l.Nodup) (hx : x ∉ l) : (l ++ [x]).Nodup := by
 rw [List.nodup_append]
 refine ⟨h,by simp,fun a ha b hb => ?_⟩
 simp at hb
 subst hb
 rintro rfl
 exact hx ha
structure Ents (w : World) (b : Nat) (es : Array MapEntry) (clock : Nat) : Prop where
 at' : w.heap[b]? = some (.map es clock)
 keys : (es.toList.map (·.key)).Nodup
 borns : (es.toList.map (·.born)).Nodup
 old : ∀ e ∈ es.toList,e.born < clock
def MapI (b : Nat) (f : Int→Int) : Rep := fun w own => ∃ es clock,Ents w b es clock∧(∀ e ∈ es.toList,∃ i : Int,(Lit.int .i64 i).wf = true∧e.key = .int .i64 i∧e.val = .int .i64 (f i))∧(∀ i,(∀ e ∈ es.toList,e.key ≠ .int .i64 i)→f i = 0)∧∀ g,own g ↔ g = b
theorem MapI.stable (b : Nat) (f : Int→Int) : Stable (MapI b f) where
 later := by
  rintro w w' o S ⟨es,clock,he,r1,r2,ho⟩ m hS
  exact ⟨es,clock,⟨(m.block b (Array.getElem?_eq_some_iff.1 he.at').1 (hS _ ((ho _).2 rfl))).trans he.at',he.keys,he.borns,he.old⟩,r1,r2,ho⟩
 lt := by
  rintro w o g ⟨es,clock,he,r1,r2,ho⟩ hg
  rw [(ho g).1 hg]
  exact (Array.getElem?_eq_some_iff.1 he.at').1
theorem MapI.made (w : World) : Made (MapI w.heap.size (fun _ => 0)) w (w.alloc (.map #[] 0)) :=
 ⟨fun g => g = w.heap.size,⟨#[],0,⟨(MapKept.heap_alloc w _).1,by simp,by simp,by simp⟩,by simp,fun _ _ => rfl,fun g => Iff.rfl⟩,(Mod.refl _ _).alloc _,fun k hk => by omega⟩
theorem MapI.lookup {w : World} {b : Nat} {f : Int→Int} {own : Nat→Prop} (h : MapI b f w own) {i : Int} (hi : (Lit.int .i64 i).wf = true) :
  (Instr.lookup 187 (.map (some b)) (.int .i64 i) false).run Tryz.prog w = .ok (.int .i64 (f i)) w := by
 obtain ⟨es,clock,he,hv,hz,-⟩ := h
 obtain ⟨l,hl⟩ := keyI_of hi
 have hks : ∀ e ∈ es.toList,∃ l,keyOf Tryz.prog 3 e.key = some l := fun e he => by
  obtain ⟨a,ha,hk,-⟩ := hv e he
  rw [hk]
  exact keyI_of ha
 rcases keyI.find w hl es.toList hks with ⟨h1,h2⟩ | ⟨q,e0,h1,h2,h3⟩
 ·
  simp [Instr.lookup,run_underlying Tryz.underlying187,MapKept.run_getObj_map he.at',keyI.check w _ hl,h1,zeroIn,Result.andThen]
  exact (hz i h2).symm
 ·
  have hm : e0 ∈ es.toList := List.mem_of_getElem? h2
  obtain ⟨a,-,hk,hval⟩ := hv e0 hm
  rw [h3] at hk
  simp only [Value.int.injEq,true_and] at hk
  subst hk
  simp [Instr.lookup,run_underlying Tryz.underlying187,MapKept.run_getObj_map he.at',keyI.check w _ hl,h1,Result.andThen]
  exact hval
theorem Ents.modify {w : World} {b : Nat} {es : Array MapEntry} {clock q : Nat} {e0 : MapEntry} (h : Ents w b es clock) (hq : es.toList[q]? = some e0) (v : Value) :
  Ents (setBlock w b (.map (es.modify q (fun e' => { e' with key := e0.key,val := v })) clock)) b (es.modify q (fun e' => { e' with key := e0.key,val := v })) clock∧(es.modify q (fun e' => { e' with key := e0.key,val := v })).toList = es.toList.set q { e0 with val := v } := by
 have hql : q < es.toList.length := (List.getElem?_eq_some_iff.1 hq).1
 have hqs : q < es.size := by simpa using hql
 have hlist : (es.modify q (fun e' => { e' with key := e0.key,val := v })).toList = es.toList.set q { e0 with val := v } := by
  rw [Array.toList_modify]
  apply List.ext_getElem?
  intro m
  simp only [List.getElem?_modify,List.getElem?_set]
  by_cases hm : q = m
  ·
   subst hm
   rw [hq]
   simp [hqs]
  ·
   simp [hm]
 have he0 : es.toList[q] = e0 := by
  rw [List.getElem?_eq_getElem hql] at hq
  simpa using hq
 refine ⟨⟨heap_setBlock_same h.at' _,?_,?_,?_⟩,hlist⟩
 ·
  rw [hlist]
  have h4 : e0.key = (es.toList.map (·.key))[q]'(by simpa using hql) := by rw [List.getElem_map,he0]
  rw [List.map_set]
  show ((es.toList.map (·.key)).set q e0.key).Nodup
  rw [h4,List.set_getElem_self]
  exact h.keys
 ·
  rw [hlist]
  have h4 : e0.born = (es.toList.map (·.born))[q]'(by simpa using hql) := by rw [List.getElem_map,he0]
  rw [List.map_set]
  show ((es.toList.map (·.born)).set q e0.born).Nodup
  rw [h4,List.set_getElem_self]
  exact h.borns
 ·
  intro e he
  rw [hlist] at he
  obtain ⟨m,hm,rfl⟩ := List.getElem_of_mem he
  rw [List.getElem_set]
  split
  ·
   exact h.old e0 (List.mem_of_getElem? hq)
  ·
   exact h.old _ (List.getElem_mem (by simpa using hm))
theorem Ents.push {w : World} {b : Nat} {es : Array MapEntry} {clock : Nat} (h : Ents w b es clock) (k v : Value) (hk : ∀ e ∈ es.toList,e.key ≠ k) :
  Ents (setBlock w b (.map (es.push ⟨k,v,clock⟩) (clock + 1))) b (es.push ⟨k,v,clock⟩) (clock + 1) := by
 refine ⟨heap_setBlock_same h.at' _,?_,?_,?_⟩
 ·
  rw [Array.toList_push,List.map_append,List.map_singleton]
  refine nodup_push h.keys ?_
  intro hm
  obtain ⟨e,he,hk'⟩ := List.mem_map.1 hm
  exact hk e he hk'
 ·
  rw [Array.toList_push,List.map_append,List.map_singleton]
  refine nodup_push h.borns ?_
  intro hm
  obtain ⟨e,he,hk'⟩ := List.mem_map.1 hm
  have h4 := h.old e he
  have h5 : e.born = clock := hk'
  omega
 ·
  intro e he
  rw [Array.toList_push] at he
  rcases List.mem_append.1 he with he | he
  ·
   have := h.old e he
   omega
  ·
   simp at he
   subst he
   simp
theorem Ents.mod {w : World} {b : Nat} {es : Array MapEntry} {clock : Nat} (h : Ents w b es clock) (o : Obj) : Mod (· = b) w (setBlock w b o) :=
 ⟨rfl,rfl,rfl,by simp [setBlock],fun k _ hk => heap_setBlock_other h.at' _ (fun e => hk e)⟩
theorem MapI.update {w : World} {b : Nat} {f : Int→Int} {own : Nat→Prop} (h : MapI b f w own) {i : Int} (hi : (Lit.int .i64 i).wf = true) (v : Int) :
  ∃ w2,(Instr.mapUpdate 187 (.map (some b)) (.int .i64 i) (.int .i64 v)).run Tryz.prog w = .ok () w2∧Turn own (MapI b (fun a => if a = i then v else f a)) w w2 := by
 obtain ⟨es,clock,he,hv,hz,ho⟩ := h
 obtain ⟨l,hl⟩ := keyI_of hi
 have hks : ∀ e ∈ es.toList,∃ l,keyOf Tryz.prog 3 e.key = some l := fun e he => by
  obtain ⟨a,ha,hk,-⟩ := hv e he
  rw [hk]
  exact keyI_of ha
 rcases keyI.find w hl es.toList hks with ⟨h1,h2⟩ | ⟨q,e0,h1,h2,h3⟩
 ·
  refine ⟨setBlock w b (.map (es.push ⟨.int .i64 i,.int .i64 v,clock⟩) (clock + 1)),?_,own,⟨_,_,he.push _ _ h2,?_,?_,ho⟩,(he.mod _).mono (fun g _ e => (ho g).2 e),fun g hg => Or.inl hg⟩
  ·
   simp [Instr.mapUpdate,run_underlying Tryz.underlying187,MapKept.run_getObj_map he.at',keyI.check w false hl,h1,MapKept.run_setObj_map _ he.at',Result.andThen,setBlock]
  ·
   intro e hm
   rw [Array.toList_push] at hm
   rcases List.mem_append.1 hm with hm | hm
   ·
    obtain ⟨a,ha,hk,hval⟩ := hv e hm
    refine ⟨a,ha,hk,?_⟩
    show e.val = Value.int .i64 (if a = i then v else f a)
    rw [if_neg (fun e1 => h2 e hm (by rw [hk,e1]))]
    exact hval
   ·
    simp at hm
    subst hm
    exact ⟨i,hi,rfl,by simp⟩
  ·
   intro a hne
   have ha : a ≠ i := by
    rintro rfl
    exact hne ⟨.int .i64 a,.int .i64 v,clock⟩ (by rw [Array.toList_push]; simp) rfl
   show (if a = i then v else f a) = 0
   rw [if_neg ha]
   exact hz a (fun e hm => hne e (by rw [Array.toList_push]; exact List.mem_append_left _ hm))
 ·
  obtain ⟨hE,hlist⟩ := he.modify h2 (.int .i64 v)
  rw [h3] at hE hlist
  have hj0 : es[q]? = some e0 := by simpa using h2
  refine ⟨_,?_,own,⟨_,_,hE,?_,?_,ho⟩,(he.mod _).mono (fun g _ e => (ho g).2 e),fun g hg => Or.inl hg⟩
  ·
   simp [Instr.mapUpdate,run_underlying Tryz.underlying187,MapKept.run_getObj_map he.at',keyI.check w false hl,h1,hj0,h3,keyI.stays w hl,MapKept.run_setObj_map _ he.at',Result.andThen,setBlock]
  ·
   intro e hm
   rw [hlist] at hm
   obtain ⟨m,hml,rfl⟩ := List.getElem_of_mem hm
   rw [List.getElem_set]
   split
   ·
    exact ⟨i,hi,rfl,by simp⟩
   ·
    rename_i hne
    have hm' : m < es.toList.length := by simpa using hml
    obtain ⟨a,ha,hk,hval⟩ := hv _ (List.getElem_mem hm')
    refine ⟨a,ha,hk,?_⟩
    show _ = Value.int .i64 (if a = i then v else f a)
    rw [if_neg]
    ·
     exact hval
    ·
     rintro rfl
     have h4 := List.pairwise_iff_getElem.1 he.keys
     have hql : q < es.toList.length := (List.getElem?_eq_some_iff.1 h2).1
     have e1 : es.toList[q].key = es.toList[m].key := by
      rw [List.getElem?_eq_getElem hql] at h2
      simp only [Option.some.injEq] at h2
      rw [h2,h3,hk]
     rcases Nat.lt_or_gt_of_ne hne with h5 | h5
     ·
      exact h4 q m (by simpa using hql) (by simpa using hm') h5 (by simpa using e1)
     ·
      exact h4 m q (by simpa using hm') (by simpa using hql) h5 (by simpa using e1.symm)
  ·
   intro a hne
   have hql : q < es.toList.length := (List.getElem?_eq_some_iff.1 h2).1
   have hmem : (⟨.int .i64 i,.int .i64 v,e0.born⟩ : MapEntry) ∈ es.toList.set q ⟨.int .i64 i,.int .i64 v,e0.born⟩ := List.mem_iff_getElem.2 ⟨q,by simpa using hql,by simp⟩
   have ha : a ≠ i := by
    rintro rfl
    exact hne _ (by rw [hlist]; exact hmem) rfl
   show (if a = i then v else f a) = 0
   rw [if_neg ha]
   refine hz a (fun e hm hk => ?_)
   obtain ⟨m,hml,rfl⟩ := List.getElem_of_mem hm
   by_cases hqm : q = m
   ·
    subst hqm
    have : es.toList[q] = e0 := by
     rw [List.getElem?_eq_getElem hql] at h2
     simpa using h2
    rw [this,h3] at hk
    simp at hk
    exact ha hk.symm
   ·
    refine hne es.toList[m] ?_ hk
    rw [hlist]
    exact List.mem_iff_getElem.2 ⟨m,by simpa using hml,by rw [List.getElem_set_ne hqm]⟩
def Pkt.key (p : Pkt) : Value := pairK p.src p.seq
structure WOk (l : List Pkt) : Prop where
 wf : ∀ p ∈ l,(Lit.int .i64 p.src).wf = true∧(Lit.int .i64 p.seq).wf = true
 dj : (l.map fun p => (p.src,p.seq)).Nodup
def MapW (b : Nat) (l : List Pkt) : Rep := fun w own => ∃ es clock,Ents w b es clock∧(es.toList.map fun e => (e.key,e.val)) = (l.map fun p => (p.key,Value.agg p.cells))∧∀ g,own g ↔ g = b
theorem MapW.stable (b : Nat) (l : List Pkt) : Stable (MapW b l) where
 later := by
  rintro w w' o S ⟨es,clock,he,r1,ho⟩ m hS
  exact ⟨es,clock,⟨(m.block b (Array.getElem?_eq_some_iff.1 he.at').1 (hS _ ((ho _).2 rfl))).trans he.at',he.keys,he.borns,he.old⟩,r1,ho⟩
 lt := by
  rintro w o g ⟨es,clock,he,r1,ho⟩ hg
  rw [(ho g).1 hg]
  exact (Array.getElem?_eq_some_iff.1 he.at').1
theorem MapW.made (w : World) : Made (MapW w.heap.size []) w (w.alloc (.map #[] 0)) :=
 ⟨fun g => g = w.heap.size,⟨#[],0,⟨(MapKept.heap_alloc w _).1,by simp,by simp,by simp⟩,by simp,fun g => Iff.rfl⟩,(Mod.refl _ _).alloc _,fun k hk => by omega⟩
theorem ents_at {es : Array MapEntry} {l : List Pkt} (h : (es.toList.map fun e => (e.key,e.val)) = (l.map fun p => (p.key,Value.agg p.cells))) {q : Nat} {e : MapEntry} (hq : es.toList[q]? = some e) :
  ∃ p,l[q]? = some p∧e.key = p.key∧e.val = .agg p.cells := by
 have h1 : (es.toList.map fun e => (e.key,e.val))[q]? = some (e.key,e.val) := by rw [List.getElem?_map,hq]; rfl
 rw [h,List.getElem?_map] at h1
 rcases hl : l[q]? with _ | p
 ·
  rw [hl] at h1
  cases h1
 ·
  rw [hl] at h1
  simp only [Option.map_some,Option.some.injEq,Prod.mk.injEq] at h1
  exact ⟨p,rfl,h1.1.symm,h1.2.symm⟩
theorem ents_mem {es : Array MapEntry} {l : List Pkt} (h : (es.toList.map fun e => (e.key,e.val)) = (l.map fun p => (p.key,Value.agg p.cells))) {e : MapEntry} (he : e ∈ es.toList) :
  ∃ p ∈ l,e.key = p.key∧e.val = .agg p.cells := by
 obtain ⟨q,hq⟩ := List.mem_iff_getElem?.1 he
 obtain ⟨p,hp,r⟩ := ents_at h hq
 exact ⟨p,List.mem_of_getElem? hp,r⟩
theorem ents_of {es : Array MapEntry} {l : List Pkt} (h : (es.toList.map fun e => (e.key,e.val)) = (l.map fun p => (p.key,Value.agg p.cells))) {p : Pkt} (hp : p ∈ l) :
  ∃ e ∈ es.toList,e.key = p.key∧e.val = .agg p.cells := by
 have h1 : (p.key,Value.agg p.cells) ∈ (l.map fun p => (p.key,Value.agg p.cells)) := List.mem_map_of_mem (f := fun p : Pkt => (p.key,Value.agg p.cells)) hp
 rw [← h] at h1
 obtain ⟨e,he,hk⟩ := List.mem_map.1 h1
 simp only [Prod.mk.injEq] at hk
 exact ⟨e,he,hk⟩
def keyB (l : List Pkt) (i j : Int) : Bool := l.any fun p => decide (p.src = i) && decide (p.seq = j)
theorem keyB_iff {l : List Pkt} {i j : Int} : keyB l i j = true ↔ ∃ p ∈ l,p.key = pairK i j := by
 unfold keyB
 rw [List.any_eq_true]
 constructor
 ·
  rintro ⟨p,hp,h⟩
  simp only [Bool.and_eq_true,decide_eq_true_eq] at h
  exact ⟨p,hp,by unfold Pkt.key; rw [h.1,h.2]⟩
 ·
  rintro ⟨p,hp,h⟩
  obtain ⟨h1,h2⟩ := pairK_inj h
  exact ⟨p,hp,by simp [h1,h2]⟩
theorem ents_keys {es : Array MapEntry} {l : List Pkt} (h : (es.toList.map fun e => (e.key,e.val)) = (l.map fun p => (p.key,Value.agg p.cells))) (hl : WOk l) : ∀ e ∈ es.toList,∃ l,keyOf Tryz.prog 112 e.key = some l := fun e he => by
 obtain ⟨p,hp,hk,-⟩ := ents_mem h he
 rw [hk]
 exact key2_of (hl.wf p hp).1 (hl.wf p hp).2
theorem MapW.look {w : World} {b : Nat} {l : List Pkt} {own : Nat→Prop} (h : MapW b l w own) (hl : WOk l) {i j : Int} (hi : (Lit.int .i64 i).wf = true) (hj : (Lit.int .i64 j).wf = true) :
  ∃ p : Pkt,(Instr.lookup 186 (.map (some b)) (.agg #[.int .i64 i,.int .i64 j]) true).run Tryz.prog w = .ok (.tuple #[.agg p.cells,.bool (keyB l i j)]) w := by
 obtain ⟨es,clock,he,hv,-⟩ := h
 obtain ⟨k,hk⟩ := key2_of hi hj
 rcases key2.find w hk es.toList (ents_keys hv hl) with ⟨h1,h2⟩ | ⟨q,e0,h1,h2,h3⟩
 ·
  have hb : keyB l i j = false := by
   rw [← Bool.not_eq_true,keyB_iff]
   rintro ⟨p,hp,hpk⟩
   obtain ⟨e,hem,hek,-⟩ := ents_of hv hp
   exact h2 e hem (hek.trans hpk)
  refine ⟨Pkt.zero,?_⟩
  rw [hb]
  simp [Instr.lookup,run_underlying Tryz.underlying186,MapKept.run_getObj_map he.at',key2.check w _ hk,h1,zeroPk,Result.andThen]
  rfl
 ·
  obtain ⟨p,hp,hpk,hpv⟩ := ents_at hv h2
  have hb : keyB l i j = true := keyB_iff.2 ⟨p,List.mem_of_getElem? hp,by rw [← hpk,h3]; rfl⟩
  refine ⟨p,?_⟩
  rw [hb,← hpv]
  simp [Instr.lookup,run_underlying Tryz.underlying186,MapKept.run_getObj_map he.at',key2.check w _ hk,h1,Result.andThen]
theorem MapW.put {w : World} {b : Nat} {l : List Pkt} {own : Nat→Prop} (h : MapW b l w own) (hl : WOk l) (p : Pkt) (hi : (Lit.int .i64 p.src).wf = true) (hj : (Lit.int .i64 p.seq).wf = true) (hn : keyB l p.src p.seq = false) :
  ∃ w2,(Instr.mapUpdate 186 (.map (some b)) (.agg #[.int .i64 p.src,.int .i64 p.seq]) (.agg p.cells)).run Tryz.prog w = .ok () w2∧Turn own (MapW b (l ++ [p])) w w2 := by
 obtain ⟨es,clock,he,hv,ho⟩ := h
 obtain ⟨k,hk⟩ := key2_of hi hj
 have h2 : ∀ e ∈ es.toList,e.key ≠ pairK p.src p.seq := fun e hem hek => by
  obtain ⟨x,hx,hxk,-⟩ := ents_mem hv hem
  have : keyB l p.src p.seq = true := keyB_iff.2 ⟨x,hx,by rw [← hxk,hek]⟩
  rw [hn] at this
  cases this
 rcases key2.find w hk es.toList (ents_keys hv hl) with ⟨h1,-⟩ | ⟨q,e0,h1,h3,h4⟩
 ·
  refine ⟨setBlock w b (.map (es.push ⟨pairK p.src p.seq,.agg p.cells,clock⟩) (clock + 1)),?_,own,⟨_,_,he.push _ _ h2,?_,ho⟩,(he.mod _).mono (fun g _ e => (ho g).2 e),fun g hg => Or.inl hg⟩
  ·
   simp [Instr.mapUpdate,run_underlying Tryz.underlying186,MapKept.run_getObj_map he.at',key2.check w false hk,h1,MapKept.run_setObj_map _ he.at',Result.andThen,setBlock,pairK]
  ·
   rw [Array.toList_push,List.map_append,List.map_append,hv]
   rfl
 ·
  exact absurd h4 (h2 e0 (List.mem_of_getElem? h3))
theorem filter_erase {l : List Pkt} (hd : (l.map fun p => (p.src,p.seq)).Nodup) {q : Nat} {p : Pkt} (hq : l[q]? = some p) :
  l.filter (fun x => !(decide (x.src = p.src) && decide (x.seq = p.seq))) = l.eraseIdx q := by
 induction l generalizing q with
 | nil => simp at hq
 | cons a l ih =>
  rw [List.map_cons,List.nodup_cons] at hd
  cases q with
  | zero =>
   simp at hq
   subst hq
   rw [List.filter_cons,if_neg (by simp),List.eraseIdx_cons_zero,List.filter_eq_self]
   intro x hx
   simp only [Bool.not_eq_true',Bool.and_eq_false_iff,decide_eq_false_iff_not]
   by_cases h1 : x.src = a.src
   ·
    right
    intro h2
    exact hd.1 (List.mem_map.2 ⟨x,hx,by rw [h1,h2]⟩)
   ·
    exact Or.inl h1
  | succ q =>
   simp at hq
   have hpa : ¬ (a.src = p.src∧a.seq = p.seq) := fun h => hd.1 (List.mem_map.2 ⟨p,List.mem_of_getElem? hq,by rw [h.1,h.2]⟩)
   rw [List.filter_cons,if_pos (by simp only [Bool.not_eq_true',Bool.and_eq_false_iff,decide_eq_false_iff_not]; by_cases h : a.src = p.src; (· exact Or.inr (fun h2 => hpa ⟨h,h2⟩)); (· exact Or.inl h)),List.eraseIdx_cons_succ,ih hd.2 hq]
theorem map_eraseIdxM {α β : Type} (f : α→β) (l : List α) (q : Nat) : (l.eraseIdx q).map f = (l.map f).eraseIdx q := by
 induction l generalizing q with
 | nil => rfl
 | cons a l ih => cases q with
  | zero => rfl
  | succ q => simp [ih]
theorem MapW.del {w : World} {b : Nat} {l : List Pkt} {own : Nat→Prop} (h : MapW b l w own) (hl : WOk l) (p : Pkt) (hp : p ∈ l) (ty : TypeId) :
  ∃ w2,(Builtin.delete_ #[186,112] ty #[.map (some b),.agg #[.int .i64 p.src,.int .i64 p.seq]]).run Tryz.prog w = .ok (.tuple #[]) w2∧Turn own (MapW b (l.filter fun x => !(decide (x.src = p.src) && decide (x.seq = p.seq)))) w w2 := by
 obtain ⟨es,clock,he,hv,ho⟩ := h
 obtain ⟨k,hk⟩ := key2_of (hl.wf p hp).1 (hl.wf p hp).2
 rcases key2.find w hk es.toList (ents_keys hv hl) with ⟨h1,h2⟩ | ⟨q,e0,h1,h3,h4⟩
 ·
  obtain ⟨e,hem,hek,-⟩ := ents_of hv hp
  exact absurd hek (h2 e hem)
 ·
  obtain ⟨x,hx,hxk,-⟩ := ents_at hv h3
  have hxp : x.src = p.src∧x.seq = p.seq := pairK_inj (show pairK x.src x.seq = pairK p.src p.seq from hxk.symm.trans h4)
  have hf := filter_erase hl.dj hx
  rw [hxp.1,hxp.2] at hf
  have hjl : q < es.toList.length := (List.getElem?_eq_some_iff.1 h3).1
  have hjs : q < es.size := by simpa using hjl
  have hsub : (es.eraseIdxIfInBounds q).toList = es.toList.eraseIdx q := by
   unfold Array.eraseIdxIfInBounds
   rw [dif_pos hjs]
   simp
  refine ⟨setBlock w b (.map (es.eraseIdxIfInBounds q) clock),?_,own,⟨_,_,⟨heap_setBlock_same he.at' _,?_,?_,?_⟩,?_,ho⟩,(he.mod _).mono (fun g _ e => (ho g).2 e),fun g hg => Or.inl hg⟩
  ·
   simp [Builtin.delete_,run_underlying Tryz.underlying186,MapKept.run_getObj_map he.at',key2.check w _ hk,h1,MapKept.run_setObj_map _ he.at',Result.andThen,setBlock]
  ·
   rw [hsub]
   exact ((List.eraseIdx_sublist _ _).map _).nodup he.keys
  ·
   rw [hsub]
   exact ((List.eraseIdx_sublist _ _).map _).nodup he.borns
  ·
   intro e hem
   rw [hsub] at hem
   exact he.old e ((List.eraseIdx_sublist _ _).subset hem)
  ·
   rw [hsub,hf,map_eraseIdxM,hv,map_eraseIdxM]
open Go.RowKit
theorem Fam.stretch {ι : Type} {X : ι→Rep} {w : World} (f : ι→Nat→Prop) (lo hi : ι→Nat) (hX : ∀ i,X i w (f i)) (hb : ∀ i g,f i g→lo i ≤ g∧g < hi i) (hd : ∀ i j,i ≠ j→hi i ≤ lo j∨hi j ≤ lo i) : Fam X w (fun g => ∃ i,f i g) := by
 refine ⟨f,hX,fun i j g h1 h2 => ?_,fun g => Iff.rfl⟩
 by_cases h : i = j
 ·
  exact h
 ·
  have := hb i g h1
  have := hb j g h2
  rcases hd i j h with e | e <;> omega
section
variable {P : Program} {ops : Array Oper} {rest : List Oper} {o : Oper} {a : Act} {Q : Exit→Act→World→Prop} {w : World}
theorem wpList_lenM (hg : o.guard = none) (m : Operand) (t : TypeId) (hop : o.op = Op.call { callee := Callee.builtin Builtin.len,args := #[m],argTypes := #[t] })
  (k e : TypeId) (ht : P.underlying t = some (.map k e)) (b : Nat) (es : Array MapEntry) (clock : Nat) (hm : a.eval m = .map (some b)) (hb : w.heap[b]? = some (.map es clock))
  (hK : wpList P ops Q rest (a.put o.dst (.int .i64 (es.size : Int))) w) :
  wpList P ops Q (o :: rest) a w := by
 refine wpList_plain hg fun K' hK' => ?_
 have h : (Builtin.len_ #[t] o.type #[.map (some b)]).run P w = .ok (.int .i64 (es.size : Int)) w := by
  simp [Builtin.len_,run_underlying ht,MapKept.run_getObj_map hb,Result.andThen,goInt]
 unfold Oper.wp
 simp [execOp,hop,resolve,invoke,builtin,hm,h,Result.andThen]
 exact hK' _ _ hK
end
inductive BP where
 | blk | q | waits | next
def BP.pick (a b c d : Nat→Prop) : BP→Nat→Prop
 | .blk => a | .q => b | .waits => c | .next => d
def BP.pickN (a b c d : Nat) : BP→Nat
 | .blk => a | .q => b | .waits => c | .next => d
def BP.no : BP→Nat
 | .blk => 0 | .q => 1 | .waits => 2 | .next => 3
instance : DecidableEq BP := fun a b => if h : a.no = b.no then isTrue (by cases a <;> cases b <;> simp [BP.no] at h <;> rfl) else isFalse (fun e => h (by rw [e]))
def boxX (b r m1 m2 n : Nat) (s : BoxS) : BP→Rep
 | .blk => Cells b #[.pointer (some ⟨r,0,none⟩),.map (some m1),.map (some m2)] 189
 | .q => RingAt encP 4 46 233 r n s.q
 | .waits => MapW m1 s.waits
 | .next => MapI m2 s.nx
def BoxAt (b n : Nat) (s : BoxS) : Rep := fun w own => ∃ r m1 m2,Fam (boxX b r m1 m2 n s) w own
theorem boxX_stable (b r m1 m2 n : Nat) (s : BoxS) (i : BP) : Stable (boxX b r m1 m2 n s i) := by
 cases i
 ·
  exact Cells.stable _ _ _
 ·
  exact RingAt.stable ..
 ·
  exact MapW.stable _ _
 ·
  exact MapI.stable _ _
theorem BoxAt.stable (b n : Nat) (s : BoxS) : Stable (BoxAt b n s) where
 later := by
  rintro w w' own S ⟨r,m1,m2,h⟩ m hS
  exact ⟨r,m1,m2,(Fam.stable (boxX_stable b r m1 m2 n s)).later h m hS⟩
 lt := by
  rintro w own g ⟨r,m1,m2,h⟩ hg
  exact (Fam.stable (boxX_stable b r m1 m2 n s)).lt h hg
structure BoxOk (s : BoxS) : Prop where
 dj : (s.waits.map fun p => (p.src,p.seq)).Nodup
 wait : ∀ p ∈ s.waits,p.Ok
 nx : ∀ i,0 ≤ s.nx i∧s.nx i < 65536
theorem wf_in {i : Int} (h0 : 0 ≤ i) (h1 : i ≤ 9223372036854775807) : (Lit.int .i64 i).wf = true := by
 simp only [Lit.wf,Bool.and_eq_true,decide_eq_true_eq]
 have e1 : IntKind.i64.min = -9223372036854775808 := by decide
 have e2 : IntKind.i64.max = 9223372036854775807 := by decide
 rw [e1,e2]
 omega
theorem Pkt.Ok.wf {p : Pkt} (h : p.Ok) : (Lit.int .i64 p.src).wf = true∧(Lit.int .i64 p.seq).wf = true := by
 obtain ⟨h1,-,h2,-⟩ := h
 simp only [nodeB,Bool.and_eq_true,decide_eq_true_eq] at h1
 exact ⟨wf_in h1.1 (by omega),wf_in h2.1 (by omega)⟩
theorem BoxOk.wok {s : BoxS} (h : BoxOk s) : WOk s.waits := ⟨fun p hp => (h.wait p hp).wf,h.dj⟩
theorem inbox_new (w : World) (n : Nat) (h1 : 1 ≤ n) (h2 : n ≤ 64) :
  Calls Tryz.prog 118 #[.int .i64 (n : Int)] w fun e w' => ∃ b,e = .returned (.pointer (some ⟨b,0,none⟩))∧Made (BoxAt b n BoxS.new) w w' := by
 have q1 : ¬ (n : Int) < 1 := by omega
 have q2 : ¬ (64 : Int) < (n : Int) := by omega
 have q3 : (n : Int) ≤ 64 := by omega
 have q4 : (1 : Int) ≤ (n : Int) := by omega
 have hmm := @run_makeMap Tryz.prog
 go_enter Tryz.func118,Tryz.ntmps118
 go_wp2_with fail
 refine (ringP_new _ n h1 (by omega)).mono ?_
 rintro e w1 ⟨r,rfl,ro,hr,ma,hlo⟩
 go_wp2
 go_ret
 have hlt := fun k (hk : ro k) => (RingAt.stable ..).lt hr hk
 have hsz := ma.size
 have t1 := MapW.made w1
 have t2 := MapI.made (w1.alloc (.map #[] 0))
 obtain ⟨o1,h1,n1,l1⟩ := t1
 obtain ⟨o2,h2,n2,l2⟩ := t2
 have u1 := fun k (hk : o1 k) => (MapW.stable _ _).lt h1 hk
 have u2 := fun k (hk : o2 k) => (MapI.stable _ _).lt h2 hk
 simp only [World.size_alloc] at l1 l2 u1 u2 h2
 have kb := Blk.made ((w1.alloc (.map #[] 0)).alloc (.map #[] 0)) #[.pointer (some ⟨r,0,none⟩),.map (some w1.heap.size),.map (some (w1.heap.size + 1))] 189
 simp only [World.size_alloc] at kb
 have mF : Mod (fun _ => False) (w1.alloc (.map #[] 0)) (((w1.alloc (.map #[] 0)).alloc (.map #[] 0)).alloc (.cells #[.pointer (some ⟨r,0,none⟩),.map (some w1.heap.size),.map (some (w1.heap.size + 1))] 189)) := ((Mod.refl _ _).alloc _).alloc _
 have mG : Mod (fun _ => False) ((w1.alloc (.map #[] 0)).alloc (.map #[] 0)) (((w1.alloc (.map #[] 0)).alloc (.map #[] 0)).alloc (.cells #[.pointer (some ⟨r,0,none⟩),.map (some w1.heap.size),.map (some (w1.heap.size + 1))] 189)) := (Mod.refl _ _).alloc _
 refine ⟨_,rfl,fun g => ∃ i,BP.pick (fun g => g = w1.heap.size + 1 + 1) ro o1 o2 i g,⟨r,w1.heap.size,w1.heap.size + 1,Fam.stretch _ (BP.pickN (w1.heap.size + 2) w.heap.size w1.heap.size (w1.heap.size + 1)) (BP.pickN (w1.heap.size + 3) w1.heap.size (w1.heap.size + 1) (w1.heap.size + 2)) (fun i => ?_) (fun i g hg => ?_) (fun i j hij => ?_)⟩,((ma.alloc _).alloc _).alloc _,fun k hk => ?_⟩
 ·
  cases i
  ·
   exact ⟨kb,fun g => Iff.rfl⟩
  ·
   exact (RingAt.stable ..).later hr (n1.trans mF (fun i hi e => e)) (by simp)
  ·
   exact (MapW.stable _ _).later h1 mF (by simp)
  ·
   exact (MapI.stable _ _).later h2 mG (by simp)
 ·
  cases i <;> simp only [BP.pick,BP.pickN] at hg ⊢
  ·
   omega
  ·
   exact ⟨hlo g hg,hlt g hg⟩
  ·
   exact ⟨l1 g hg,u1 g hg⟩
  ·
   have := l2 g hg; have := u2 g hg; omega
 ·
  cases i <;> cases j <;> first | exact absurd rfl hij | (simp only [BP.pickN]; omega)
 ·
  obtain ⟨i,hi⟩ := hk
  cases i <;> simp only [BP.pick] at hi
  ·
   omega
  ·
   exact hlo k hi
  ·
   have := l1 k hi; omega
  ·
   have := l2 k hi; omega
theorem BoxAt.bd {b n : Nat} {s : BoxS} {own : Nat→Prop} {w : World} (h : BoxAt b n s w own) : s.q.length ≤ n∧1 ≤ n∧n ≤ 4096 := by
 obtain ⟨r,m1,m2,hF⟩ := h
 obtain ⟨ob,⟨kbA,hob⟩,hobo,putB⟩ := hF.at (boxX_stable b r m1 m2 n s) .blk
 obtain ⟨oq,hqA,hoqo,putQ⟩ := hF.at (boxX_stable b r m1 m2 n s) .q
 obtain ⟨ow,hwA,howo,putW⟩ := hF.at (boxX_stable b r m1 m2 n s) .waits
 obtain ⟨on',hnA,hono,putN⟩ := hF.at (boxX_stable b r m1 m2 n s) .next
 clear hF
 exact ringP_at_bd hqA
theorem nodup_bd : ∀ (n : Nat) (l : List Nat),l.Nodup→(∀ x ∈ l,x < n)→l.length ≤ n := by
 intro n
 induction n with
 | zero =>
  intro l _ h
  cases l with
  | nil => simp
  | cons a l => exact absurd (h a (by simp)) (by omega)
 | succ n ih =>
  intro l hd h
  by_cases hn : n ∈ l
  ·
   have h1 := ih (l.erase n) (hd.erase n) (fun x hx => by
    have h2 := h x (List.mem_of_mem_erase hx)
    have h3 : x ≠ n := fun e => by
     rw [e,hd.mem_erase_iff] at hx
     exact hx.1 rfl
    omega)
   rw [List.length_erase_of_mem hn] at h1
   omega
  ·
   have := ih l hd (fun x hx => by
    have h2 := h x hx
    have h3 : x ≠ n := fun e => hn (e ▸ hx)
    omega)
   omega
theorem BoxOk.len {s : BoxS} (h : BoxOk s) : s.waits.length ≤ 268435456 := by
 have h1 := nodup_bd 268435456 (s.waits.map fun p => p.src.toNat * 65536 + p.seq.toNat) (by
  have h2 := h.dj
  have hok := h.wait
  generalize s.waits = l at h2 hok
  induction l with
  | nil => simp
  | cons a l ih =>
   rw [List.map_cons,List.nodup_cons] at h2 ⊢
   refine ⟨fun hm => h2.1 ?_,ih h2.2 (fun p hp => hok p (List.mem_cons_of_mem _ hp))⟩
   obtain ⟨p,hp,he⟩ := List.mem_map.1 hm
   have h3 := hok p (List.mem_cons_of_mem _ hp)
   have h4 := hok a (by simp)
   obtain ⟨a1,-,a2,-⟩ := h3
   obtain ⟨b1,-,b2,-⟩ := h4
   simp only [nodeB,Bool.and_eq_true,decide_eq_true_eq] at a1 b1
   refine List.mem_map.2 ⟨p,hp,?_⟩
   have e1 : p.src = a.src := by omega
   have e2 : p.seq = a.seq := by omega
   rw [e1,e2]) (fun x hx => by
  obtain ⟨p,hp,rfl⟩ := List.mem_map.1 hx
  obtain ⟨a1,-,a2,-⟩ := h.wait p hp
  simp only [nodeB,Bool.and_eq_true,decide_eq_true_eq] at a1
  omega)
 simpa using h1
theorem inbox_waits (b n : Nat) (s : BoxS) (own : Nat→Prop) (w : World) (h : BoxAt b n s w own) (hs : BoxOk s) :
  Calls Tryz.prog 88 #[.pointer (some ⟨b,0,none⟩)] w fun e w' => e = .returned (.int .i64 (s.waits.length : Int))∧w' = w := by
 have hlen := hs.len
 obtain ⟨r,m1,m2,hF⟩ := h
 obtain ⟨ob,⟨kbA,hob⟩,hobo,putB⟩ := hF.at (boxX_stable b r m1 m2 n s) .blk
 obtain ⟨oq,hqA,hoqo,putQ⟩ := hF.at (boxX_stable b r m1 m2 n s) .q
 obtain ⟨ow,hwA,howo,putW⟩ := hF.at (boxX_stable b r m1 m2 n s) .waits
 obtain ⟨on',hnA,hono,putN⟩ := hF.at (boxX_stable b r m1 m2 n s) .next
 clear hF
 have c1 := kbA.cell 1
 simp at c1
 obtain ⟨es,clock,he,hv,-⟩ := hwA
 have hl : es.size = s.waits.length := by
  have := congrArg List.length hv
  simpa using this
 rw [← hl] at hlen ⊢
 have hat := he.at'
 clear kbA hob hobo putB hqA hoqo putQ he hv hl howo putW hnA hono putN
 go_enter Tryz.func88,Tryz.ntmps88
 go_wp2_with (at_len; refine wpList_lenM rfl _ 186 rfl 112 46 Tryz.underlying186 m1 es clock rfl hat ?_)
 go_ret
 exact ⟨rfl,rfl⟩
def RecvPost (b n : Nat) (own : Nat→Prop) (w : World) (s' : BoxS) (p : Pkt) (er : Int) (e : Ending) (w' : World) : Prop :=
 e = .returned (.tuple #[.agg p.cells,.int .i64 er])∧Turn own (BoxAt b n s') w w'
theorem inbox_recv_none (b n : Nat) (s : BoxS) (own : Nat→Prop) (w : World) (h : BoxAt b n s w own) (hq : s.q = []) :
  Calls Tryz.prog 123 #[.pointer (some ⟨b,0,none⟩)] w (RecvPost b n own w s Pkt.zero 8) := by
 have kr := Blk.made w #[.int .i64 0,.int .i64 0,.int .i64 0,.string ⟨#[]⟩] 46
 have m0 : Mod (fun _ => False) w (w.alloc (.cells #[.int .i64 0,.int .i64 0,.int .i64 0,.string ⟨#[]⟩] 46)) := (Mod.refl _ _).alloc _
 have s0 : w.heap.size < (w.alloc (.cells #[.int .i64 0,.int .i64 0,.int .i64 0,.string ⟨#[]⟩] 46)).heap.size := by simp
 have HS := Lib.hid (fun w' (m : Mod (fun _ => False) w w') => Turn.same (BoxAt.stable b n s) h m)
 have h1 := (BoxAt.stable b n s).later h m0 (by simp)
 clear h
 go_enter Tryz.func123,Tryz.ntmps123
 go_upto_region 1 with fail
 generalize w.alloc (.cells #[.int .i64 0,.int .i64 0,.int .i64 0,.string ⟨#[]⟩] 46) = w1 at kr m0 s0 h1 ⊢
 obtain ⟨r,m1,m2,hF⟩ := h1
 obtain ⟨ob,⟨kbA,hob⟩,hobo,putB⟩ := hF.at (boxX_stable b r m1 m2 n s) .blk
 obtain ⟨oq,hqA,hoqo,putQ⟩ := hF.at (boxX_stable b r m1 m2 n s) .q
 obtain ⟨ow,hwA,howo,putW⟩ := hF.at (boxX_stable b r m1 m2 n s) .waits
 obtain ⟨on',hnA,hono,putN⟩ := hF.at (boxX_stable b r m1 m2 n s) .next
 clear hF
 rw [boxX,hq] at hqA
 have HP := Lib.hid (ringP_pop_none hqA)
 have c0 := kbA.cell 0
 simp at c0
 clear kbA hob hobo putB hqA hoqo putQ hwA howo putW hnA hono putN
 clear hq
 go_wp2_with fail
 refine HP.out.mono ?_
 rintro e w2 ⟨rfl,m2⟩
 have kr := kr.later m2 (by simp)
 have m0 := m0.trans m2 (by simp)
 have r0 := kr.cell 0
 have r1 := kr.cell 1
 have r2 := kr.cell 2
 have r3 := kr.cell 3
 simp at r0 r1 r2 r3
 have u0 := kr.fz 0
 have u1 := kr.fz 1
 have u2 := kr.fz 2
 have u3 := kr.fz 3
 go_wp2
 have qE := ((((kr.set (0) (.int .i64 0)).set (1) (.int .i64 0)).set (2) (.int .i64 0)).set (3) (.string ⟨#[]⟩))
 have mE := ((((m0.setCell (p := ⟨w.heap.size,0,none⟩) (Or.inr (Nat.le_refl _)) (.int .i64 0)).setCell (p := ⟨w.heap.size,1,none⟩) (Or.inr (Nat.le_refl _)) (.int .i64 0)).setCell (p := ⟨w.heap.size,2,none⟩) (Or.inr (Nat.le_refl _)) (.int .i64 0)).setCell (p := ⟨w.heap.size,3,none⟩) (Or.inr (Nat.le_refl _)) (.string ⟨#[]⟩))
 have mB := (((((Mod.refl (fun g => g = w.heap.size) w2).setCell (p := ⟨w.heap.size,0,none⟩) (Or.inl rfl) (.int .i64 0)).setCell (p := ⟨w.heap.size,1,none⟩) (Or.inl rfl) (.int .i64 0)).setCell (p := ⟨w.heap.size,2,none⟩) (Or.inl rfl) (.int .i64 0)).setCell (p := ⟨w.heap.size,3,none⟩) (Or.inl rfl) (.string ⟨#[]⟩))
 simp at qE
 generalize ((((w2.setCell ⟨w.heap.size,0,none⟩ (.int .i64 0)).setCell ⟨w.heap.size,1,none⟩ (.int .i64 0)).setCell ⟨w.heap.size,2,none⟩ (.int .i64 0)).setCell ⟨w.heap.size,3,none⟩ (.string ⟨#[]⟩)) = wE at qE mE mB ⊢
 have qe0 := qE.cell 0
 have qe1 := qE.cell 1
 have qe2 := qE.cell 2
 have qe3 := qE.cell 3
 simp at qe0 qe1 qe2 qe3
 exact bodyPost_ret (v := .tuple #[.agg #[.int .i64 0,.int .i64 0,.int .i64 0,.string ⟨#[]⟩],.int .i64 8]) (by simp [results,Tryz.results123,go_sem,qe0,qe1,qe2,qe3]) rfl ⟨rfl,HS.out _ mE⟩
theorem inbox_recv (b n : Nat) (p : Pkt) (l : List Pkt) (s : BoxS) (own : Nat→Prop) (w : World) (h : BoxAt b n s w own) (hq : s.q = p :: l) :
  Calls Tryz.prog 123 #[.pointer (some ⟨b,0,none⟩)] w (RecvPost b n own w ⟨l,s.waits,s.next⟩ p 0) := by
 have kr := Blk.made w #[.int .i64 0,.int .i64 0,.int .i64 0,.string ⟨#[]⟩] 46
 have m0 : Mod (fun _ => False) w (w.alloc (.cells #[.int .i64 0,.int .i64 0,.int .i64 0,.string ⟨#[]⟩] 46)) := (Mod.refl _ _).alloc _
 have s0 : w.heap.size < (w.alloc (.cells #[.int .i64 0,.int .i64 0,.int .i64 0,.string ⟨#[]⟩] 46)).heap.size := by simp
 have olt := fun g (hg : own g) => (BoxAt.stable b n s).lt h hg
 have h1 := (BoxAt.stable b n s).later h m0 (by simp)
 clear h
 go_enter Tryz.func123,Tryz.ntmps123
 go_upto_region 1 with fail
 generalize w.alloc (.cells #[.int .i64 0,.int .i64 0,.int .i64 0,.string ⟨#[]⟩] 46) = w1 at kr m0 s0 h1 ⊢
 obtain ⟨r,m1,m2,hF⟩ := h1
 obtain ⟨ob,⟨kbA,hob⟩,hobo,putB⟩ := hF.at (boxX_stable b r m1 m2 n s) .blk
 obtain ⟨oq,hqA,hoqo,putQ⟩ := hF.at (boxX_stable b r m1 m2 n s) .q
 obtain ⟨ow,hwA,howo,putW⟩ := hF.at (boxX_stable b r m1 m2 n s) .waits
 obtain ⟨on',hnA,hono,putN⟩ := hF.at (boxX_stable b r m1 m2 n s) .next
 clear hF
 rw [boxX,hq] at hqA
 have HP := Lib.hid (ringP_pop p hqA)
 have HPUT := Lib.hid (fun w' (t : Turn oq (RingAt encP 4 46 233 r n l) w1 w') => (by
  obtain ⟨o',hx',m',ho'⟩ := putQ (boxX b r m1 m2 n ⟨l,s.waits,s.next⟩) w' (by intro j hj; cases j <;> first | rfl | exact absurd rfl hj) t
  exact ⟨o',⟨r,m1,m2,hx'⟩,m',ho'⟩ : Turn own (BoxAt b n ⟨l,s.waits,s.next⟩) w1 w'))
 have c0 := kbA.cell 0
 simp at c0
 clear kbA hob hobo putB hqA hoqo putQ hwA howo putW hnA hono putN
 clear hq
 go_wp2_with fail
 refine HP.out.mono ?_
 rintro e w2 ⟨rfl,t1⟩
 obtain ⟨o2,h2,m2,ho2⟩ := HPUT.out _ t1
 have hnw : ¬ own w.heap.size := fun h => by have := olt _ h; omega
 have kr := kr.later m2 hnw
 have m02 : Mod own w w2 := (m0.mono (fun i hi e => e.elim)).trans m2 (fun i hi e => e)
 have ho02 : ∀ g,o2 g→own g∨w.heap.size ≤ g := fun g hg => (ho2 g hg).imp id (fun e => by omega)
 have hnw2 : ¬ o2 w.heap.size := fun h => by
  rcases ho2 _ h with e | e
  ·
   exact hnw e
  ·
   omega
 have HF := Lib.hid (fun wE (mE : Mod own w wE) (mB : Mod (fun g => g = w.heap.size) w2 wE) => (⟨o2,(BoxAt.stable ..).later h2 mB (fun g hg e => hnw2 (e ▸ hg)),mE,ho02⟩ : Turn own (BoxAt b n ⟨l,s.waits,s.next⟩) w wE))
 clear t1 c0 HP HPUT h2 m2 m0
 have r0 := kr.cell 0
 have r1 := kr.cell 1
 have r2 := kr.cell 2
 have r3 := kr.cell 3
 simp at r0 r1 r2 r3
 have u0 := kr.fz 0
 have u1 := kr.fz 1
 have u2 := kr.fz 2
 have u3 := kr.fz 3
 go_wp2
 have qE := ((((kr.set (0) (.int .i64 p.src)).set (1) (.int .i64 p.dst)).set (2) (.int .i64 p.seq)).set (3) (.string p.data))
 have mE := ((((m02.setCell (p := ⟨w.heap.size,0,none⟩) (Or.inr (Nat.le_refl _)) (.int .i64 p.src)).setCell (p := ⟨w.heap.size,1,none⟩) (Or.inr (Nat.le_refl _)) (.int .i64 p.dst)).setCell (p := ⟨w.heap.size,2,none⟩) (Or.inr (Nat.le_refl _)) (.int .i64 p.seq)).setCell (p := ⟨w.heap.size,3,none⟩) (Or.inr (Nat.le_refl _)) (.string p.data))
 have mB := (((((Mod.refl (fun g => g = w.heap.size) w2).setCell (p := ⟨w.heap.size,0,none⟩) (Or.inl rfl) (.int .i64 p.src)).setCell (p := ⟨w.heap.size,1,none⟩) (Or.inl rfl) (.int .i64 p.dst)).setCell (p := ⟨w.heap.size,2,none⟩) (Or.inl rfl) (.int .i64 p.seq)).setCell (p := ⟨w.heap.size,3,none⟩) (Or.inl rfl) (.string p.data))
 simp at qE
 generalize ((((w2.setCell ⟨w.heap.size,0,none⟩ (.int .i64 p.src)).setCell ⟨w.heap.size,1,none⟩ (.int .i64 p.dst)).setCell ⟨w.heap.size,2,none⟩ (.int .i64 p.seq)).setCell ⟨w.heap.size,3,none⟩ (.string p.data)) = wE at qE mE mB ⊢
 have qe0 := qE.cell 0
 have qe1 := qE.cell 1
 have qe2 := qE.cell 2
 have qe3 := qE.cell 3
 simp at qe0 qe1 qe2 qe3
 exact bodyPost_ret (v := .tuple #[.agg #[.int .i64 p.src,.int .i64 p.dst,.int .i64 p.seq,.string p.data],.int .i64 0]) (by simp [results,Tryz.results123,go_sem,qe0,qe1,qe2,qe3]) rfl ⟨rfl,HF.out _ mE mB⟩
end Go.Proofs.YtfiklfkfbcpmgaaGreat
