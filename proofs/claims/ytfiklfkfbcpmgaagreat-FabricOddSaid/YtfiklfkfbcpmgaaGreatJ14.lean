/- Parts: LinkN RouterO. No condition. -/
import Derived.Test.YtfiklfkfbcpmgaaGreatJ13
import Derived.Test.YtfiklfkfbcpmgaaGreatJ10
import Derived.Laws.OwnMore
import Derived.Test.YtfiklfkfbcpmgaaGreatJ12
set_option linter.all false
set_option maxRecDepth 100000
set_option maxHeartbeats 3200000
namespace Go.Proofs.YtfiklfkfbcpmgaaGreat
open Go.RowKit
theorem make_ints (L : Nat) (hL : L ≤ 8) (w : World) : (Instr.makeSlice 44 (.int .i64 (L : Int)) (.int .i64 (L : Int))).run Tryz.prog w = .ok (.slice (some ⟨w.heap.size,0,none⟩) L L) (w.alloc (.cells (intsA (List.replicate L 0)) 3)) := by
 obtain ⟨i,hi,hz,hsize,hby⟩ := info_parts (show (Tryz.prog.info? 3).map (fun i => (i.zero,i.size,i.bytes)) = some (some (.int .i64 0),1,8) by kernel_rfl)
 have h := run_makeSlice (P := Tryz.prog) w 44 3 i (.int .i64 0) Tryz.underlying44 hi hz .i64 .i64 (L : Int) (L : Int) (by omega) (by omega) (by rw [hsize]; omega) (by rw [hby]; omega) (by omega)
 rw [h]
 simp only [Int.toNat_natCast,hsize,Nat.mul_one]
 have e : madeCells (Value.int IntKind.i64 0).cells L = intsA (List.replicate L 0) := by
  apply Array.toList_inj.1
  rw [show (Value.int IntKind.i64 0).cells = #[.int .i64 0] from rfl,toList_madeCells_one]
  simp [intsA]
 rw [e]
def Within (X : Rep) (lo hi : Nat) (w : World) : Prop := ∃ o,X w o∧∀ g,o g→lo ≤ g∧g < hi
theorem Within.later {X : Rep} (hX : Stable X) {lo hi : Nat} {w w' : World} (h : Within X lo hi w) (m : Mod (fun _ => False) w w') : Within X lo hi w' := by
 obtain ⟨o,hx,hb⟩ := h
 exact ⟨o,hX.later hx m (by simp),hb⟩
theorem Within.made {X : Rep} (hX : Stable X) {w w' : World} (h : Made X w w') : Within X w.heap.size w'.heap.size w'∧Mod (fun _ => False) w w' := by
 obtain ⟨o,hx,m,hlo⟩ := h
 exact ⟨⟨o,hx,fun g hg => ⟨hlo g hg,hX.lt hx hg⟩⟩,m⟩
theorem Within.cells (w : World) (cs : Array Value) (t : TypeId) : Within (Cells w.heap.size cs t) w.heap.size (w.alloc (.cells cs t)).heap.size (w.alloc (.cells cs t)) :=
 ⟨fun g => g = w.heap.size,⟨Blk.made w cs t,fun g => Iff.rfl⟩,fun g hg => by subst hg; simp⟩
theorem link_fam {b r1 r2 g1 g2 L D R : Nat} {s : LinkS} {w0 w : World} {l1 u1 l2 u2 l3 u3 l4 u4 : Nat}
  (kb : Blk w b #[.pointer (some ⟨r1,0,none⟩),.pointer (some ⟨r2,0,none⟩),.slice (some ⟨g1,0,none⟩) L L,.slice (some ⟨g2,0,none⟩) L L] 124)
  (h1 : Within (RingAt encI 1 3 193 r1 (L * D) s.back) l1 u1 w) (h2 : Within (RingAt encC 2 128 174 r2 R s.words) l2 u2 w) (h3 : Within (Cells g1 (intsA s.credits) 3) l3 u3 w) (h4 : Within (Cells g2 (intsA s.far) 3) l4 u4 w)
  (d12 : u1 ≤ l2∨u2 ≤ l1) (d13 : u1 ≤ l3∨u3 ≤ l1) (d14 : u1 ≤ l4∨u4 ≤ l1) (d23 : u2 ≤ l3∨u3 ≤ l2) (d24 : u2 ≤ l4∨u4 ≤ l2) (d34 : u3 ≤ l4∨u4 ≤ l3)
  (e1 : u1 ≤ b) (e2 : u2 ≤ b) (e3 : u3 ≤ b) (e4 : u4 ≤ b) (f1 : w0.heap.size ≤ l1) (f2 : w0.heap.size ≤ l2) (f3 : w0.heap.size ≤ l3) (f4 : w0.heap.size ≤ l4) (f5 : w0.heap.size ≤ b) :
  ∃ own,Fam (linkX b r1 r2 g1 g2 L D R s) w own∧∀ g,own g→w0.heap.size ≤ g := by
 obtain ⟨o1,x1,b1⟩ := h1
 obtain ⟨o2,x2,b2⟩ := h2
 obtain ⟨o3,x3,b3⟩ := h3
 obtain ⟨o4,x4,b4⟩ := h4
 refine ⟨_,Fam.stretch (fun i => match i with | .blk => (fun g => g = b) | .cr => o3 | .far => o4 | .back => o1 | .words => o2)
  (fun i => match i with | .blk => b | .cr => l3 | .far => l4 | .back => l1 | .words => l2)
  (fun i => match i with | .blk => b + 1 | .cr => u3 | .far => u4 | .back => u1 | .words => u2) ?_ ?_ ?_,?_⟩
 ·
  intro i
  cases i
  ·
   exact ⟨kb,fun g => Iff.rfl⟩
  ·
   exact x3
  ·
   exact x4
  ·
   exact x1
  ·
   exact x2
 ·
  intro i g hg
  cases i
  ·
   simp only at hg ⊢; omega
  ·
   exact b3 g hg
  ·
   exact b4 g hg
  ·
   exact b1 g hg
  ·
   exact b2 g hg
 ·
  intro i j hij
  cases i <;> cases j <;> simp only <;> first | exact absurd rfl hij | omega
 ·
  rintro g ⟨i,hi⟩
  cases i
  ·
   simp only at hi; omega
  ·
   exact Nat.le_trans f3 (b3 g hi).1
  ·
   exact Nat.le_trans f4 (b4 g hi).1
  ·
   exact Nat.le_trans f1 (b1 g hi).1
  ·
   exact Nat.le_trans f2 (b2 g hi).1
theorem link_new (w : World) (L D R : Nat) (hL1 : 1 ≤ L) (hL : L ≤ 8) (hD1 : 1 ≤ D) (hD : D ≤ 64) (hR1 : 1 ≤ R) (hR : R ≤ 64) :
  Calls Tryz.prog 76 #[.int .i64 (L : Int),.int .i64 (D : Int),.int .i64 (R : Int)] w fun e w' => ∃ b,e = .returned (.pointer (some ⟨b,0,none⟩))∧Made (LinkAt b L D R ⟨List.replicate L (D : Int),List.replicate L 0,[],[]⟩) w w' := by
 obtain ⟨w1,rfl⟩ : ∃ wo : World,wo = w := ⟨_,rfl⟩
 have hmk := make_ints L hL
 obtain ⟨z,hz⟩ : ∃ z,intsA (List.replicate L 0) = z := ⟨_,rfl⟩
 rw [hz] at hmk
 have HZ := Lib.hid (show intsA (List.replicate L 0) = z∧True from ⟨hz,trivial⟩)
 have q1 : ¬ (L : Int) < 1 := by omega
 have q2 : ¬ (8 : Int) < (L : Int) := by omega
 have q3 : ¬ (D : Int) < 1 := by omega
 have q4 : ¬ (64 : Int) < (D : Int) := by omega
 have q5 : ¬ (R : Int) < 1 := by omega
 have q6 : ¬ (64 : Int) < (R : Int) := by omega
 have p1 : (L : Int) ≤ 8 := by omega
 have p2 : (1 : Int) ≤ (L : Int) := by omega
 have p3 : (D : Int) ≤ 64 := by omega
 have p4 : (1 : Int) ≤ (D : Int) := by omega
 have p5 : (R : Int) ≤ 64 := by omega
 have p6 : (1 : Int) ≤ (R : Int) := by omega
 have hLD : L * D ≤ 512 := Nat.le_trans (Nat.mul_le_mul hL hD) (by decide)
 have hLD1 : 1 ≤ L * D := Nat.mul_pos hL1 hD1
 obtain ⟨LD,hld⟩ : ∃ m,L * D = m := ⟨_,rfl⟩
 have e1 : (L : Int) * (D : Int) = (LD : Int) := by rw [← hld]; push_cast; rfl
 rw [hld] at hLD hLD1
 have HLD := Lib.hid (show L * D = LD∧True from ⟨hld,trivial⟩)
 have e2 : IntKind.i64.wrap (LD : Int) = (LD : Int) := IntWalk.i64_in _ (by omega)
 clear hz hld
 go_enter Tryz.func76,Tryz.ntmps76
 go_upto_region 2 with fail
 go_cut [7] (fun y w' => ∃ b r1 r2 g1 g2 own,y = .pointer (some ⟨b,0,none⟩)∧Fam (linkX b r1 r2 g1 g2 L D R ⟨List.replicate L 0,List.replicate L 0,[],[]⟩) w' own∧(∀ g,own g→w1.heap.size ≤ g)∧Mod (fun _ => False) w1 w')
 case first =>
  refine walkT_begin 13 (fun _ => True) (by kernel_rfl) ?_
  have hHeld : (fun _ => True) (w1.drew) := by trivial
  refine takeT_run 0 (v := ?_) rfl (by kernel_rfl) (by kernel_rfl) (by kernel_rfl) (fun _ _ _ h => h) (by rfl) ?_ (by assumption) ?_
  rotate_left
  ·
   (intro wx hSw; (try dsimp only at hSw); go_simp; try with_reducible rfl)
  try simp only [Act.put,lyA,lyB,lyC]
  refine takeT_run 1 (v := ?_) rfl (by kernel_rfl) (by kernel_rfl) (by kernel_rfl) (fun _ _ _ h => h) (by rfl) ?_ (by assumption) ?_
  rotate_left
  ·
   (intro wx hSw; (try dsimp only at hSw); go_simp; try with_reducible rfl)
  try simp only [Act.put,lyA,lyB,lyC]
  refine takeT_run 2 (v := ?_) rfl (by kernel_rfl) (by kernel_rfl) (by kernel_rfl) (fun _ _ _ h => h) (by rfl) ?_ (by assumption) ?_
  rotate_left
  ·
   (intro wx hSw; (try dsimp only at hSw); go_simp; try with_reducible rfl)
  try simp only [Act.put,lyA,lyB,lyC]
  refine takeT_run 5 (v := ?_) rfl (by kernel_rfl) (by kernel_rfl) (by kernel_rfl) (fun _ _ _ h => h) (by rfl) ?_ (by assumption) ?_
  rotate_left
  ·
   (intro wx hSw; (try dsimp only at hSw); go_simp; try with_reducible rfl)
  try simp only [Act.put,lyA,lyB,lyC]
  refine takeT_run 6 (v := ?_) rfl (by kernel_rfl) (by kernel_rfl) (by kernel_rfl) (fun _ _ _ h => h) (by rfl) ?_ (by assumption) ?_
  rotate_left
  ·
   (intro wx hSw; (try dsimp only at hSw); go_simp; try with_reducible rfl)
  try simp only [Act.put,lyA,lyB,lyC]
  refine takeT_run 7 (v := ?_) rfl (by kernel_rfl) (by kernel_rfl) (by kernel_rfl) (fun _ _ _ h => h) (by rfl) ?_ (by assumption) ?_
  rotate_left
  ·
   (intro wx hSw; (try dsimp only at hSw); go_simp; try with_reducible rfl)
  try simp only [Act.put,lyA,lyB,lyC]
  refine takeT_run 9 (v := ?_) rfl (by kernel_rfl) (by kernel_rfl) (by kernel_rfl) (fun _ _ _ h => h) (by rfl) ?_ (by assumption) ?_
  rotate_left
  ·
   (intro wx hSw; (try dsimp only at hSw); go_simp; try with_reducible rfl)
  try simp only [Act.put,lyA,lyB,lyC]
  refine takeT_run 11 (v := ?_) rfl (by kernel_rfl) (by kernel_rfl) (by kernel_rfl) (fun _ _ _ h => h) (by rfl) ?_ (by assumption) ?_
  rotate_left
  ·
   (intro wx hSw; (try dsimp only at hSw); go_simp; try with_reducible rfl)
  try simp only [Act.put,lyA,lyB,lyC]
  refine takeT_three 3 10 12 rfl rfl rfl (by kernel_rfl) (by rfl) ?_ ?_ ?_
  ·
   intro K hK
   go_simp
   refine (ringI_new _ LD hLD1 (by omega)).mono ?_
   rintro e w2 ⟨r1,rfl,hM⟩
   obtain ⟨qA,m0⟩ := Within.made (RingAt.stable ..) hM
   have qA : Within _ w1.heap.size w2.heap.size w2 := qA
   have m0 := ((Mod.refl (fun _ => False) w1).drew).trans m0 (fun _ _ e => e)
   have s0 := m0.size
   have M := m0
   refine hK.out _ _ ?_ (fun hHeld' => ?_)
   ·
    trivial
   clear hK K hHeld
   try simp only [Act.put,lyA,lyB,lyC]
   refine takeT_run 4 (v := ?_) rfl (by kernel_rfl) (by kernel_rfl) (by kernel_rfl) (fun _ _ _ h => h) (by rfl) ?_ (by assumption) ?_
   rotate_left
   ·
    (intro wx hSw; (try dsimp only at hSw); go_simp; try with_reducible rfl)
   try simp only [Act.put,lyA,lyB,lyC]
   refine takeT_three 8 10 12 rfl rfl rfl (by kernel_rfl) (by rfl) ?_ ?_ ?_
   ·
    intro K hK
    go_simp
    refine (ringC_new _ R hR1 (by omega)).mono ?_
    rintro e w3 ⟨r2,rfl,hM⟩
    obtain ⟨qB,m1⟩ := Within.made (RingAt.stable ..) hM
    have qA := qA.later (RingAt.stable ..) m1
    have s1 := m1.size
    have M := M.trans m1 (fun _ _ e => e)
    refine hK.out _ _ ?_ (fun hHeld'' => ?_)
    ·
     trivial
    clear hK K hHeld'
    try simp only [Act.put,lyA,lyB,lyC]
    refine takeT_two 10 12 rfl rfl (by kernel_rfl) (by rfl) ?_ ?_
    ·
     intro K hK
     go_simp
     have qC := Within.cells w3 z 3
     have m2 : Mod (fun _ => False) w3 (w3.alloc (.cells z 3)) := (Mod.refl _ _).alloc _
     obtain ⟨gC,yC⟩ : ∃ g,w3.heap.size = g := ⟨_,rfl⟩
     have YC := And.intro (Nat.le_of_eq yC) (Nat.le_of_eq yC.symm)
     rw [yC] at qC ⊢
     clear yC
     generalize (w3.alloc (.cells z 3)) = w4 at qC m2 ⊢
     have qA := qA.later (RingAt.stable ..) m2
     have qB := qB.later (RingAt.stable ..) m2
     have s2 := m2.size
     have M := M.trans m2 (fun _ _ e => e)
     refine hK.out _ _ ?_ (fun hHeld''' => ?_)
     ·
      trivial
     clear hK K hHeld''
     try simp only [Act.put,lyA,lyB,lyC]
     refine takeT_one 12 rfl (by kernel_rfl) (by rfl) ?_
     intro K hK
     go_simp
     have qE := Within.cells w4 z 3
     have m3 : Mod (fun _ => False) w4 (w4.alloc (.cells z 3)) := (Mod.refl _ _).alloc _
     obtain ⟨gE,yE⟩ : ∃ g,w4.heap.size = g := ⟨_,rfl⟩
     have YE := And.intro (Nat.le_of_eq yE) (Nat.le_of_eq yE.symm)
     rw [yE] at qE ⊢
     clear yE
     generalize (w4.alloc (.cells z 3)) = w5 at qE m3 ⊢
     have qA := qA.later (RingAt.stable ..) m3
     have qB := qB.later (RingAt.stable ..) m3
     have qC := qC.later (Cells.stable _ _ _) m3
     have s3 := m3.size
     have M := M.trans m3 (fun _ _ e => e)
     refine hK.out _ _ ?_ (fun hHeld'''' => ?_)
     ·
      trivial
     clear hK K hHeld'''
     try simp only [Act.put,lyA,lyB,lyC]
     refine walkT_tail 13 rfl rfl (by kernel_rfl) rfl ?_
     simp only [List.drop_succ_cons,List.drop_zero]
     go_wp2_with fail
     go_meet
     have kb := Blk.made w5 #[.pointer (some ⟨r1,0,none⟩),.pointer (some ⟨r2,0,none⟩),.slice (some ⟨gC,0,none⟩) L L,.slice (some ⟨gE,0,none⟩) L L] 124
     have mb : Mod (fun _ => False) w5 (w5.alloc (.cells #[.pointer (some ⟨r1,0,none⟩),.pointer (some ⟨r2,0,none⟩),.slice (some ⟨gC,0,none⟩) L L,.slice (some ⟨gE,0,none⟩) L L] 124)) := (Mod.refl _ _).alloc _
     obtain ⟨own,hf,hlo⟩ := link_fam (w0 := w1) (R := R) (D := D) (s := ⟨List.replicate L 0,List.replicate L 0,[],[]⟩) kb (by rw [HLD.out.1]; exact qA.later (RingAt.stable ..) mb) (qB.later (RingAt.stable ..) mb) (by dsimp only; rw [HZ.out.1]; exact qC.later (Cells.stable _ _ _) mb) (by dsimp only; rw [HZ.out.1]; exact qE.later (Cells.stable _ _ _) mb) (by omega) (by omega) (by omega) (by omega) (by omega) (by omega) (by omega) (by omega) (by omega) (by omega) (by omega) (by omega) (by omega) (by omega) (by omega)
     exact ⟨_,_,_,_,_,own,rfl,hf,hlo,M.trans mb (fun _ _ e => e)⟩
    ·
     intro K hK
     go_simp
     have qE := Within.cells w3 z 3
     have m2 : Mod (fun _ => False) w3 (w3.alloc (.cells z 3)) := (Mod.refl _ _).alloc _
     obtain ⟨gE,yE⟩ : ∃ g,w3.heap.size = g := ⟨_,rfl⟩
     have YE := And.intro (Nat.le_of_eq yE) (Nat.le_of_eq yE.symm)
     rw [yE] at qE ⊢
     clear yE
     generalize (w3.alloc (.cells z 3)) = w4 at qE m2 ⊢
     have qA := qA.later (RingAt.stable ..) m2
     have qB := qB.later (RingAt.stable ..) m2
     have s2 := m2.size
     have M := M.trans m2 (fun _ _ e => e)
     refine hK.out _ _ ?_ (fun hHeld''' => ?_)
     ·
      trivial
     clear hK K hHeld''
     try simp only [Act.put,lyA,lyB,lyC]
     refine takeT_one 10 rfl (by kernel_rfl) (by rfl) ?_
     intro K hK
     go_simp
     have qC := Within.cells w4 z 3
     have m3 : Mod (fun _ => False) w4 (w4.alloc (.cells z 3)) := (Mod.refl _ _).alloc _
     obtain ⟨gC,yC⟩ : ∃ g,w4.heap.size = g := ⟨_,rfl⟩
     have YC := And.intro (Nat.le_of_eq yC) (Nat.le_of_eq yC.symm)
     rw [yC] at qC ⊢
     clear yC
     generalize (w4.alloc (.cells z 3)) = w5 at qC m3 ⊢
     have qA := qA.later (RingAt.stable ..) m3
     have qB := qB.later (RingAt.stable ..) m3
     have qE := qE.later (Cells.stable _ _ _) m3
     have s3 := m3.size
     have M := M.trans m3 (fun _ _ e => e)
     refine hK.out _ _ ?_ (fun hHeld'''' => ?_)
     ·
      trivial
     clear hK K hHeld'''
     try simp only [Act.put,lyA,lyB,lyC]
     refine walkT_tail 13 rfl rfl (by kernel_rfl) rfl ?_
     simp only [List.drop_succ_cons,List.drop_zero]
     go_wp2_with fail
     go_meet
     have kb := Blk.made w5 #[.pointer (some ⟨r1,0,none⟩),.pointer (some ⟨r2,0,none⟩),.slice (some ⟨gC,0,none⟩) L L,.slice (some ⟨gE,0,none⟩) L L] 124
     have mb : Mod (fun _ => False) w5 (w5.alloc (.cells #[.pointer (some ⟨r1,0,none⟩),.pointer (some ⟨r2,0,none⟩),.slice (some ⟨gC,0,none⟩) L L,.slice (some ⟨gE,0,none⟩) L L] 124)) := (Mod.refl _ _).alloc _
     obtain ⟨own,hf,hlo⟩ := link_fam (w0 := w1) (R := R) (D := D) (s := ⟨List.replicate L 0,List.replicate L 0,[],[]⟩) kb (by rw [HLD.out.1]; exact qA.later (RingAt.stable ..) mb) (qB.later (RingAt.stable ..) mb) (by dsimp only; rw [HZ.out.1]; exact qC.later (Cells.stable _ _ _) mb) (by dsimp only; rw [HZ.out.1]; exact qE.later (Cells.stable _ _ _) mb) (by omega) (by omega) (by omega) (by omega) (by omega) (by omega) (by omega) (by omega) (by omega) (by omega) (by omega) (by omega) (by omega) (by omega) (by omega)
     exact ⟨_,_,_,_,_,own,rfl,hf,hlo,M.trans mb (fun _ _ e => e)⟩
   ·
    intro K hK
    go_simp
    have qC := Within.cells w2 z 3
    have m1 : Mod (fun _ => False) w2 (w2.alloc (.cells z 3)) := (Mod.refl _ _).alloc _
    obtain ⟨gC,yC⟩ : ∃ g,w2.heap.size = g := ⟨_,rfl⟩
    have YC := And.intro (Nat.le_of_eq yC) (Nat.le_of_eq yC.symm)
    rw [yC] at qC ⊢
    clear yC
    generalize (w2.alloc (.cells z 3)) = w3 at qC m1 ⊢
    have qA := qA.later (RingAt.stable ..) m1
    have s1 := m1.size
    have M := M.trans m1 (fun _ _ e => e)
    refine hK.out _ _ ?_ (fun hHeld'' => ?_)
    ·
     trivial
    clear hK K hHeld'
    try simp only [Act.put,lyA,lyB,lyC]
    refine takeT_two 8 12 rfl rfl (by kernel_rfl) (by rfl) ?_ ?_
    ·
     intro K hK
     go_simp
     refine (ringC_new _ R hR1 (by omega)).mono ?_
     rintro e w4 ⟨r2,rfl,hM⟩
     obtain ⟨qB,m2⟩ := Within.made (RingAt.stable ..) hM
     have qA := qA.later (RingAt.stable ..) m2
     have qC := qC.later (Cells.stable _ _ _) m2
     have s2 := m2.size
     have M := M.trans m2 (fun _ _ e => e)
     refine hK.out _ _ ?_ (fun hHeld''' => ?_)
     ·
      trivial
     clear hK K hHeld''
     try simp only [Act.put,lyA,lyB,lyC]
     refine takeT_one 12 rfl (by kernel_rfl) (by rfl) ?_
     intro K hK
     go_simp
     have qE := Within.cells w4 z 3
     have m3 : Mod (fun _ => False) w4 (w4.alloc (.cells z 3)) := (Mod.refl _ _).alloc _
     obtain ⟨gE,yE⟩ : ∃ g,w4.heap.size = g := ⟨_,rfl⟩
     have YE := And.intro (Nat.le_of_eq yE) (Nat.le_of_eq yE.symm)
     rw [yE] at qE ⊢
     clear yE
     generalize (w4.alloc (.cells z 3)) = w5 at qE m3 ⊢
     have qA := qA.later (RingAt.stable ..) m3
     have qC := qC.later (Cells.stable _ _ _) m3
     have qB := qB.later (RingAt.stable ..) m3
     have s3 := m3.size
     have M := M.trans m3 (fun _ _ e => e)
     refine hK.out _ _ ?_ (fun hHeld'''' => ?_)
     ·
      trivial
     clear hK K hHeld'''
     try simp only [Act.put,lyA,lyB,lyC]
     refine walkT_tail 13 rfl rfl (by kernel_rfl) rfl ?_
     simp only [List.drop_succ_cons,List.drop_zero]
     go_wp2_with fail
     go_meet
     have kb := Blk.made w5 #[.pointer (some ⟨r1,0,none⟩),.pointer (some ⟨r2,0,none⟩),.slice (some ⟨gC,0,none⟩) L L,.slice (some ⟨gE,0,none⟩) L L] 124
     have mb : Mod (fun _ => False) w5 (w5.alloc (.cells #[.pointer (some ⟨r1,0,none⟩),.pointer (some ⟨r2,0,none⟩),.slice (some ⟨gC,0,none⟩) L L,.slice (some ⟨gE,0,none⟩) L L] 124)) := (Mod.refl _ _).alloc _
     obtain ⟨own,hf,hlo⟩ := link_fam (w0 := w1) (R := R) (D := D) (s := ⟨List.replicate L 0,List.replicate L 0,[],[]⟩) kb (by rw [HLD.out.1]; exact qA.later (RingAt.stable ..) mb) (qB.later (RingAt.stable ..) mb) (by dsimp only; rw [HZ.out.1]; exact qC.later (Cells.stable _ _ _) mb) (by dsimp only; rw [HZ.out.1]; exact qE.later (Cells.stable _ _ _) mb) (by omega) (by omega) (by omega) (by omega) (by omega) (by omega) (by omega) (by omega) (by omega) (by omega) (by omega) (by omega) (by omega) (by omega) (by omega)
     exact ⟨_,_,_,_,_,own,rfl,hf,hlo,M.trans mb (fun _ _ e => e)⟩
    ·
     intro K hK
     go_simp
     have qE := Within.cells w3 z 3
     have m2 : Mod (fun _ => False) w3 (w3.alloc (.cells z 3)) := (Mod.refl _ _).alloc _
     obtain ⟨gE,yE⟩ : ∃ g,w3.heap.size = g := ⟨_,rfl⟩
     have YE := And.intro (Nat.le_of_eq yE) (Nat.le_of_eq yE.symm)
     rw [yE] at qE ⊢
     clear yE
     generalize (w3.alloc (.cells z 3)) = w4 at qE m2 ⊢
     have qA := qA.later (RingAt.stable ..) m2
     have qC := qC.later (Cells.stable _ _ _) m2
     have s2 := m2.size
     have M := M.trans m2 (fun _ _ e => e)
     refine hK.out _ _ ?_ (fun hHeld''' => ?_)
     ·
      trivial
     clear hK K hHeld''
     try simp only [Act.put,lyA,lyB,lyC]
     refine takeT_one 8 rfl (by kernel_rfl) (by rfl) ?_
     intro K hK
     go_simp
     refine (ringC_new _ R hR1 (by omega)).mono ?_
     rintro e w5 ⟨r2,rfl,hM⟩
     obtain ⟨qB,m3⟩ := Within.made (RingAt.stable ..) hM
     have qA := qA.later (RingAt.stable ..) m3
     have qC := qC.later (Cells.stable _ _ _) m3
     have qE := qE.later (Cells.stable _ _ _) m3
     have s3 := m3.size
     have M := M.trans m3 (fun _ _ e => e)
     refine hK.out _ _ ?_ (fun hHeld'''' => ?_)
     ·
      trivial
     clear hK K hHeld'''
     try simp only [Act.put,lyA,lyB,lyC]
     refine walkT_tail 13 rfl rfl (by kernel_rfl) rfl ?_
     simp only [List.drop_succ_cons,List.drop_zero]
     go_wp2_with fail
     go_meet
     have kb := Blk.made w5 #[.pointer (some ⟨r1,0,none⟩),.pointer (some ⟨r2,0,none⟩),.slice (some ⟨gC,0,none⟩) L L,.slice (some ⟨gE,0,none⟩) L L] 124
     have mb : Mod (fun _ => False) w5 (w5.alloc (.cells #[.pointer (some ⟨r1,0,none⟩),.pointer (some ⟨r2,0,none⟩),.slice (some ⟨gC,0,none⟩) L L,.slice (some ⟨gE,0,none⟩) L L] 124)) := (Mod.refl _ _).alloc _
     obtain ⟨own,hf,hlo⟩ := link_fam (w0 := w1) (R := R) (D := D) (s := ⟨List.replicate L 0,List.replicate L 0,[],[]⟩) kb (by rw [HLD.out.1]; exact qA.later (RingAt.stable ..) mb) (qB.later (RingAt.stable ..) mb) (by dsimp only; rw [HZ.out.1]; exact qC.later (Cells.stable _ _ _) mb) (by dsimp only; rw [HZ.out.1]; exact qE.later (Cells.stable _ _ _) mb) (by omega) (by omega) (by omega) (by omega) (by omega) (by omega) (by omega) (by omega) (by omega) (by omega) (by omega) (by omega) (by omega) (by omega) (by omega)
     exact ⟨_,_,_,_,_,own,rfl,hf,hlo,M.trans mb (fun _ _ e => e)⟩
   ·
    intro K hK
    go_simp
    have qE := Within.cells w2 z 3
    have m1 : Mod (fun _ => False) w2 (w2.alloc (.cells z 3)) := (Mod.refl _ _).alloc _
    obtain ⟨gE,yE⟩ : ∃ g,w2.heap.size = g := ⟨_,rfl⟩
    have YE := And.intro (Nat.le_of_eq yE) (Nat.le_of_eq yE.symm)
    rw [yE] at qE ⊢
    clear yE
    generalize (w2.alloc (.cells z 3)) = w3 at qE m1 ⊢
    have qA := qA.later (RingAt.stable ..) m1
    have s1 := m1.size
    have M := M.trans m1 (fun _ _ e => e)
    refine hK.out _ _ ?_ (fun hHeld'' => ?_)
    ·
     trivial
    clear hK K hHeld'
    try simp only [Act.put,lyA,lyB,lyC]
    refine takeT_two 8 10 rfl rfl (by kernel_rfl) (by rfl) ?_ ?_
    ·
     intro K hK
     go_simp
     refine (ringC_new _ R hR1 (by omega)).mono ?_
     rintro e w4 ⟨r2,rfl,hM⟩
     obtain ⟨qB,m2⟩ := Within.made (RingAt.stable ..) hM
     have qA := qA.later (RingAt.stable ..) m2
     have qE := qE.later (Cells.stable _ _ _) m2
     have s2 := m2.size
     have M := M.trans m2 (fun _ _ e => e)
     refine hK.out _ _ ?_ (fun hHeld''' => ?_)
     ·
      trivial
     clear hK K hHeld''
     try simp only [Act.put,lyA,lyB,lyC]
     refine takeT_one 10 rfl (by kernel_rfl) (by rfl) ?_
     intro K hK
     go_simp
     have qC := Within.cells w4 z 3
     have m3 : Mod (fun _ => False) w4 (w4.alloc (.cells z 3)) := (Mod.refl _ _).alloc _
     obtain ⟨gC,yC⟩ : ∃ g,w4.heap.size = g := ⟨_,rfl⟩
     have YC := And.intro (Nat.le_of_eq yC) (Nat.le_of_eq yC.symm)
     rw [yC] at qC ⊢
     clear yC
     generalize (w4.alloc (.cells z 3)) = w5 at qC m3 ⊢
     have qA := qA.later (RingAt.stable ..) m3
     have qE := qE.later (Cells.stable _ _ _) m3
     have qB := qB.later (RingAt.stable ..) m3
     have s3 := m3.size
     have M := M.trans m3 (fun _ _ e => e)
     refine hK.out _ _ ?_ (fun hHeld'''' => ?_)
     ·
      trivial
     clear hK K hHeld'''
     try simp only [Act.put,lyA,lyB,lyC]
     refine walkT_tail 13 rfl rfl (by kernel_rfl) rfl ?_
     simp only [List.drop_succ_cons,List.drop_zero]
     go_wp2_with fail
     go_meet
     have kb := Blk.made w5 #[.pointer (some ⟨r1,0,none⟩),.pointer (some ⟨r2,0,none⟩),.slice (some ⟨gC,0,none⟩) L L,.slice (some ⟨gE,0,none⟩) L L] 124
     have mb : Mod (fun _ => False) w5 (w5.alloc (.cells #[.pointer (some ⟨r1,0,none⟩),.pointer (some ⟨r2,0,none⟩),.slice (some ⟨gC,0,none⟩) L L,.slice (some ⟨gE,0,none⟩) L L] 124)) := (Mod.refl _ _).alloc _
     obtain ⟨own,hf,hlo⟩ := link_fam (w0 := w1) (R := R) (D := D) (s := ⟨List.replicate L 0,List.replicate L 0,[],[]⟩) kb (by rw [HLD.out.1]; exact qA.later (RingAt.stable ..) mb) (qB.later (RingAt.stable ..) mb) (by dsimp only; rw [HZ.out.1]; exact qC.later (Cells.stable _ _ _) mb) (by dsimp only; rw [HZ.out.1]; exact qE.later (Cells.stable _ _ _) mb) (by omega) (by omega) (by omega) (by omega) (by omega) (by omega) (by omega) (by omega) (by omega) (by omega) (by omega) (by omega) (by omega) (by omega) (by omega)
     exact ⟨_,_,_,_,_,own,rfl,hf,hlo,M.trans mb (fun _ _ e => e)⟩
    ·
     intro K hK
     go_simp
     have qC := Within.cells w3 z 3
     have m2 : Mod (fun _ => False) w3 (w3.alloc (.cells z 3)) := (Mod.refl _ _).alloc _
     obtain ⟨gC,yC⟩ : ∃ g,w3.heap.size = g := ⟨_,rfl⟩
     have YC := And.intro (Nat.le_of_eq yC) (Nat.le_of_eq yC.symm)
     rw [yC] at qC ⊢
     clear yC
     generalize (w3.alloc (.cells z 3)) = w4 at qC m2 ⊢
     have qA := qA.later (RingAt.stable ..) m2
     have qE := qE.later (Cells.stable _ _ _) m2
     have s2 := m2.size
     have M := M.trans m2 (fun _ _ e => e)
     refine hK.out _ _ ?_ (fun hHeld''' => ?_)
     ·
      trivial
     clear hK K hHeld''
     try simp only [Act.put,lyA,lyB,lyC]
     refine takeT_one 8 rfl (by kernel_rfl) (by rfl) ?_
     intro K hK
     go_simp
     refine (ringC_new _ R hR1 (by omega)).mono ?_
     rintro e w5 ⟨r2,rfl,hM⟩
     obtain ⟨qB,m3⟩ := Within.made (RingAt.stable ..) hM
     have qA := qA.later (RingAt.stable ..) m3
     have qE := qE.later (Cells.stable _ _ _) m3
     have qC := qC.later (Cells.stable _ _ _) m3
     have s3 := m3.size
     have M := M.trans m3 (fun _ _ e => e)
     refine hK.out _ _ ?_ (fun hHeld'''' => ?_)
     ·
      trivial
     clear hK K hHeld'''
     try simp only [Act.put,lyA,lyB,lyC]
     refine walkT_tail 13 rfl rfl (by kernel_rfl) rfl ?_
     simp only [List.drop_succ_cons,List.drop_zero]
     go_wp2_with fail
     go_meet
     have kb := Blk.made w5 #[.pointer (some ⟨r1,0,none⟩),.pointer (some ⟨r2,0,none⟩),.slice (some ⟨gC,0,none⟩) L L,.slice (some ⟨gE,0,none⟩) L L] 124
     have mb : Mod (fun _ => False) w5 (w5.alloc (.cells #[.pointer (some ⟨r1,0,none⟩),.pointer (some ⟨r2,0,none⟩),.slice (some ⟨gC,0,none⟩) L L,.slice (some ⟨gE,0,none⟩) L L] 124)) := (Mod.refl _ _).alloc _
     obtain ⟨own,hf,hlo⟩ := link_fam (w0 := w1) (R := R) (D := D) (s := ⟨List.replicate L 0,List.replicate L 0,[],[]⟩) kb (by rw [HLD.out.1]; exact qA.later (RingAt.stable ..) mb) (qB.later (RingAt.stable ..) mb) (by dsimp only; rw [HZ.out.1]; exact qC.later (Cells.stable _ _ _) mb) (by dsimp only; rw [HZ.out.1]; exact qE.later (Cells.stable _ _ _) mb) (by omega) (by omega) (by omega) (by omega) (by omega) (by omega) (by omega) (by omega) (by omega) (by omega) (by omega) (by omega) (by omega) (by omega) (by omega)
     exact ⟨_,_,_,_,_,own,rfl,hf,hlo,M.trans mb (fun _ _ e => e)⟩
  ·
   intro K hK
   go_simp
   have qC := Within.cells w1 z 3
   have m0 : Mod (fun _ => False) w1 (w1.alloc (.cells z 3)) := (Mod.refl _ _).alloc _
   have qC : Within _ w1.heap.size (w1.alloc (.cells z 3)).drew.heap.size _ := qC.later (Cells.stable _ _ _) ((Mod.refl (fun _ => False) _).drew)
   have m0 := m0.drew
   obtain ⟨gC,yC⟩ : ∃ g,w1.heap.size = g := ⟨_,rfl⟩
   have YC := And.intro (Nat.le_of_eq yC) (Nat.le_of_eq yC.symm)
   rw [yC] at qC ⊢
   clear yC
   generalize (w1.alloc (.cells z 3)).drew = w2 at qC m0 ⊢
   have s0 := m0.size
   have M := m0
   refine hK.out _ _ ?_ (fun hHeld' => ?_)
   ·
    trivial
   clear hK K hHeld
   try simp only [Act.put,lyA,lyB,lyC]
   refine takeT_two 3 12 rfl rfl (by kernel_rfl) (by rfl) ?_ ?_
   ·
    intro K hK
    go_simp
    refine (ringI_new _ LD hLD1 (by omega)).mono ?_
    rintro e w3 ⟨r1,rfl,hM⟩
    obtain ⟨qA,m1⟩ := Within.made (RingAt.stable ..) hM
    have qC := qC.later (Cells.stable _ _ _) m1
    have s1 := m1.size
    have M := M.trans m1 (fun _ _ e => e)
    refine hK.out _ _ ?_ (fun hHeld'' => ?_)
    ·
     trivial
    clear hK K hHeld'
    try simp only [Act.put,lyA,lyB,lyC]
    refine takeT_run 4 (v := ?_) rfl (by kernel_rfl) (by kernel_rfl) (by kernel_rfl) (fun _ _ _ h => h) (by rfl) ?_ (by assumption) ?_
    rotate_left
    ·
     (intro wx hSw; (try dsimp only at hSw); go_simp; try with_reducible rfl)
    try simp only [Act.put,lyA,lyB,lyC]
    refine takeT_two 8 12 rfl rfl (by kernel_rfl) (by rfl) ?_ ?_
    ·
     intro K hK
     go_simp
     refine (ringC_new _ R hR1 (by omega)).mono ?_
     rintro e w4 ⟨r2,rfl,hM⟩
     obtain ⟨qB,m2⟩ := Within.made (RingAt.stable ..) hM
     have qC := qC.later (Cells.stable _ _ _) m2
     have qA := qA.later (RingAt.stable ..) m2
     have s2 := m2.size
     have M := M.trans m2 (fun _ _ e => e)
     refine hK.out _ _ ?_ (fun hHeld''' => ?_)
     ·
      trivial
     clear hK K hHeld''
     try simp only [Act.put,lyA,lyB,lyC]
     refine takeT_one 12 rfl (by kernel_rfl) (by rfl) ?_
     intro K hK
     go_simp
     have qE := Within.cells w4 z 3
     have m3 : Mod (fun _ => False) w4 (w4.alloc (.cells z 3)) := (Mod.refl _ _).alloc _
     obtain ⟨gE,yE⟩ : ∃ g,w4.heap.size = g := ⟨_,rfl⟩
     have YE := And.intro (Nat.le_of_eq yE) (Nat.le_of_eq yE.symm)
     rw [yE] at qE ⊢
     clear yE
     generalize (w4.alloc (.cells z 3)) = w5 at qE m3 ⊢
     have qC := qC.later (Cells.stable _ _ _) m3
     have qA := qA.later (RingAt.stable ..) m3
     have qB := qB.later (RingAt.stable ..) m3
     have s3 := m3.size
     have M := M.trans m3 (fun _ _ e => e)
     refine hK.out _ _ ?_ (fun hHeld'''' => ?_)
     ·
      trivial
     clear hK K hHeld'''
     try simp only [Act.put,lyA,lyB,lyC]
     refine walkT_tail 13 rfl rfl (by kernel_rfl) rfl ?_
     simp only [List.drop_succ_cons,List.drop_zero]
     go_wp2_with fail
     go_meet
     have kb := Blk.made w5 #[.pointer (some ⟨r1,0,none⟩),.pointer (some ⟨r2,0,none⟩),.slice (some ⟨gC,0,none⟩) L L,.slice (some ⟨gE,0,none⟩) L L] 124
     have mb : Mod (fun _ => False) w5 (w5.alloc (.cells #[.pointer (some ⟨r1,0,none⟩),.pointer (some ⟨r2,0,none⟩),.slice (some ⟨gC,0,none⟩) L L,.slice (some ⟨gE,0,none⟩) L L] 124)) := (Mod.refl _ _).alloc _
     obtain ⟨own,hf,hlo⟩ := link_fam (w0 := w1) (R := R) (D := D) (s := ⟨List.replicate L 0,List.replicate L 0,[],[]⟩) kb (by rw [HLD.out.1]; exact qA.later (RingAt.stable ..) mb) (qB.later (RingAt.stable ..) mb) (by dsimp only; rw [HZ.out.1]; exact qC.later (Cells.stable _ _ _) mb) (by dsimp only; rw [HZ.out.1]; exact qE.later (Cells.stable _ _ _) mb) (by omega) (by omega) (by omega) (by omega) (by omega) (by omega) (by omega) (by omega) (by omega) (by omega) (by omega) (by omega) (by omega) (by omega) (by omega)
     exact ⟨_,_,_,_,_,own,rfl,hf,hlo,M.trans mb (fun _ _ e => e)⟩
    ·
     intro K hK
     go_simp
     have qE := Within.cells w3 z 3
     have m2 : Mod (fun _ => False) w3 (w3.alloc (.cells z 3)) := (Mod.refl _ _).alloc _
     obtain ⟨gE,yE⟩ : ∃ g,w3.heap.size = g := ⟨_,rfl⟩
     have YE := And.intro (Nat.le_of_eq yE) (Nat.le_of_eq yE.symm)
     rw [yE] at qE ⊢
     clear yE
     generalize (w3.alloc (.cells z 3)) = w4 at qE m2 ⊢
     have qC := qC.later (Cells.stable _ _ _) m2
     have qA := qA.later (RingAt.stable ..) m2
     have s2 := m2.size
     have M := M.trans m2 (fun _ _ e => e)
     refine hK.out _ _ ?_ (fun hHeld''' => ?_)
     ·
      trivial
     clear hK K hHeld''
     try simp only [Act.put,lyA,lyB,lyC]
     refine takeT_one 8 rfl (by kernel_rfl) (by rfl) ?_
     intro K hK
     go_simp
     refine (ringC_new _ R hR1 (by omega)).mono ?_
     rintro e w5 ⟨r2,rfl,hM⟩
     obtain ⟨qB,m3⟩ := Within.made (RingAt.stable ..) hM
     have qC := qC.later (Cells.stable _ _ _) m3
     have qA := qA.later (RingAt.stable ..) m3
     have qE := qE.later (Cells.stable _ _ _) m3
     have s3 := m3.size
     have M := M.trans m3 (fun _ _ e => e)
     refine hK.out _ _ ?_ (fun hHeld'''' => ?_)
     ·
      trivial
     clear hK K hHeld'''
     try simp only [Act.put,lyA,lyB,lyC]
     refine walkT_tail 13 rfl rfl (by kernel_rfl) rfl ?_
     simp only [List.drop_succ_cons,List.drop_zero]
     go_wp2_with fail
     go_meet
     have kb := Blk.made w5 #[.pointer (some ⟨r1,0,none⟩),.pointer (some ⟨r2,0,none⟩),.slice (some ⟨gC,0,none⟩) L L,.slice (some ⟨gE,0,none⟩) L L] 124
     have mb : Mod (fun _ => False) w5 (w5.alloc (.cells #[.pointer (some ⟨r1,0,none⟩),.pointer (some ⟨r2,0,none⟩),.slice (some ⟨gC,0,none⟩) L L,.slice (some ⟨gE,0,none⟩) L L] 124)) := (Mod.refl _ _).alloc _
     obtain ⟨own,hf,hlo⟩ := link_fam (w0 := w1) (R := R) (D := D) (s := ⟨List.replicate L 0,List.replicate L 0,[],[]⟩) kb (by rw [HLD.out.1]; exact qA.later (RingAt.stable ..) mb) (qB.later (RingAt.stable ..) mb) (by dsimp only; rw [HZ.out.1]; exact qC.later (Cells.stable _ _ _) mb) (by dsimp only; rw [HZ.out.1]; exact qE.later (Cells.stable _ _ _) mb) (by omega) (by omega) (by omega) (by omega) (by omega) (by omega) (by omega) (by omega) (by omega) (by omega) (by omega) (by omega) (by omega) (by omega) (by omega)
     exact ⟨_,_,_,_,_,own,rfl,hf,hlo,M.trans mb (fun _ _ e => e)⟩
   ·
    intro K hK
    go_simp
    have qE := Within.cells w2 z 3
    have m1 : Mod (fun _ => False) w2 (w2.alloc (.cells z 3)) := (Mod.refl _ _).alloc _
    obtain ⟨gE,yE⟩ : ∃ g,w2.heap.size = g := ⟨_,rfl⟩
    have YE := And.intro (Nat.le_of_eq yE) (Nat.le_of_eq yE.symm)
    rw [yE] at qE ⊢
    clear yE
    generalize (w2.alloc (.cells z 3)) = w3 at qE m1 ⊢
    have qC := qC.later (Cells.stable _ _ _) m1
    have s1 := m1.size
    have M := M.trans m1 (fun _ _ e => e)
    refine hK.out _ _ ?_ (fun hHeld'' => ?_)
    ·
     trivial
    clear hK K hHeld'
    try simp only [Act.put,lyA,lyB,lyC]
    refine takeT_one 3 rfl (by kernel_rfl) (by rfl) ?_
    intro K hK
    go_simp
    refine (ringI_new _ LD hLD1 (by omega)).mono ?_
    rintro e w4 ⟨r1,rfl,hM⟩
    obtain ⟨qA,m2⟩ := Within.made (RingAt.stable ..) hM
    have qC := qC.later (Cells.stable _ _ _) m2
    have qE := qE.later (Cells.stable _ _ _) m2
    have s2 := m2.size
    have M := M.trans m2 (fun _ _ e => e)
    refine hK.out _ _ ?_ (fun hHeld''' => ?_)
    ·
     trivial
    clear hK K hHeld''
    try simp only [Act.put,lyA,lyB,lyC]
    refine takeT_run 4 (v := ?_) rfl (by kernel_rfl) (by kernel_rfl) (by kernel_rfl) (fun _ _ _ h => h) (by rfl) ?_ (by assumption) ?_
    rotate_left
    ·
     (intro wx hSw; (try dsimp only at hSw); go_simp; try with_reducible rfl)
    try simp only [Act.put,lyA,lyB,lyC]
    refine takeT_one 8 rfl (by kernel_rfl) (by rfl) ?_
    intro K hK
    go_simp
    refine (ringC_new _ R hR1 (by omega)).mono ?_
    rintro e w5 ⟨r2,rfl,hM⟩
    obtain ⟨qB,m3⟩ := Within.made (RingAt.stable ..) hM
    have qC := qC.later (Cells.stable _ _ _) m3
    have qE := qE.later (Cells.stable _ _ _) m3
    have qA := qA.later (RingAt.stable ..) m3
    have s3 := m3.size
    have M := M.trans m3 (fun _ _ e => e)
    refine hK.out _ _ ?_ (fun hHeld'''' => ?_)
    ·
     trivial
    clear hK K hHeld'''
    try simp only [Act.put,lyA,lyB,lyC]
    refine walkT_tail 13 rfl rfl (by kernel_rfl) rfl ?_
    simp only [List.drop_succ_cons,List.drop_zero]
    go_wp2_with fail
    go_meet
    have kb := Blk.made w5 #[.pointer (some ⟨r1,0,none⟩),.pointer (some ⟨r2,0,none⟩),.slice (some ⟨gC,0,none⟩) L L,.slice (some ⟨gE,0,none⟩) L L] 124
    have mb : Mod (fun _ => False) w5 (w5.alloc (.cells #[.pointer (some ⟨r1,0,none⟩),.pointer (some ⟨r2,0,none⟩),.slice (some ⟨gC,0,none⟩) L L,.slice (some ⟨gE,0,none⟩) L L] 124)) := (Mod.refl _ _).alloc _
    obtain ⟨own,hf,hlo⟩ := link_fam (w0 := w1) (R := R) (D := D) (s := ⟨List.replicate L 0,List.replicate L 0,[],[]⟩) kb (by rw [HLD.out.1]; exact qA.later (RingAt.stable ..) mb) (qB.later (RingAt.stable ..) mb) (by dsimp only; rw [HZ.out.1]; exact qC.later (Cells.stable _ _ _) mb) (by dsimp only; rw [HZ.out.1]; exact qE.later (Cells.stable _ _ _) mb) (by omega) (by omega) (by omega) (by omega) (by omega) (by omega) (by omega) (by omega) (by omega) (by omega) (by omega) (by omega) (by omega) (by omega) (by omega)
    exact ⟨_,_,_,_,_,own,rfl,hf,hlo,M.trans mb (fun _ _ e => e)⟩
  ·
   intro K hK
   go_simp
   have qE := Within.cells w1 z 3
   have m0 : Mod (fun _ => False) w1 (w1.alloc (.cells z 3)) := (Mod.refl _ _).alloc _
   have qE : Within _ w1.heap.size (w1.alloc (.cells z 3)).drew.heap.size _ := qE.later (Cells.stable _ _ _) ((Mod.refl (fun _ => False) _).drew)
   have m0 := m0.drew
   obtain ⟨gE,yE⟩ : ∃ g,w1.heap.size = g := ⟨_,rfl⟩
   have YE := And.intro (Nat.le_of_eq yE) (Nat.le_of_eq yE.symm)
   rw [yE] at qE ⊢
   clear yE
   generalize (w1.alloc (.cells z 3)).drew = w2 at qE m0 ⊢
   have s0 := m0.size
   have M := m0
   refine hK.out _ _ ?_ (fun hHeld' => ?_)
   ·
    trivial
   clear hK K hHeld
   try simp only [Act.put,lyA,lyB,lyC]
   refine takeT_two 3 10 rfl rfl (by kernel_rfl) (by rfl) ?_ ?_
   ·
    intro K hK
    go_simp
    refine (ringI_new _ LD hLD1 (by omega)).mono ?_
    rintro e w3 ⟨r1,rfl,hM⟩
    obtain ⟨qA,m1⟩ := Within.made (RingAt.stable ..) hM
    have qE := qE.later (Cells.stable _ _ _) m1
    have s1 := m1.size
    have M := M.trans m1 (fun _ _ e => e)
    refine hK.out _ _ ?_ (fun hHeld'' => ?_)
    ·
     trivial
    clear hK K hHeld'
    try simp only [Act.put,lyA,lyB,lyC]
    refine takeT_run 4 (v := ?_) rfl (by kernel_rfl) (by kernel_rfl) (by kernel_rfl) (fun _ _ _ h => h) (by rfl) ?_ (by assumption) ?_
    rotate_left
    ·
     (intro wx hSw; (try dsimp only at hSw); go_simp; try with_reducible rfl)
    try simp only [Act.put,lyA,lyB,lyC]
    refine takeT_two 8 10 rfl rfl (by kernel_rfl) (by rfl) ?_ ?_
    ·
     intro K hK
     go_simp
     refine (ringC_new _ R hR1 (by omega)).mono ?_
     rintro e w4 ⟨r2,rfl,hM⟩
     obtain ⟨qB,m2⟩ := Within.made (RingAt.stable ..) hM
     have qE := qE.later (Cells.stable _ _ _) m2
     have qA := qA.later (RingAt.stable ..) m2
     have s2 := m2.size
     have M := M.trans m2 (fun _ _ e => e)
     refine hK.out _ _ ?_ (fun hHeld''' => ?_)
     ·
      trivial
     clear hK K hHeld''
     try simp only [Act.put,lyA,lyB,lyC]
     refine takeT_one 10 rfl (by kernel_rfl) (by rfl) ?_
     intro K hK
     go_simp
     have qC := Within.cells w4 z 3
     have m3 : Mod (fun _ => False) w4 (w4.alloc (.cells z 3)) := (Mod.refl _ _).alloc _
     obtain ⟨gC,yC⟩ : ∃ g,w4.heap.size = g := ⟨_,rfl⟩
     have YC := And.intro (Nat.le_of_eq yC) (Nat.le_of_eq yC.symm)
     rw [yC] at qC ⊢
     clear yC
     generalize (w4.alloc (.cells z 3)) = w5 at qC m3 ⊢
     have qE := qE.later (Cells.stable _ _ _) m3
     have qA := qA.later (RingAt.stable ..) m3
     have qB := qB.later (RingAt.stable ..) m3
     have s3 := m3.size
     have M := M.trans m3 (fun _ _ e => e)
     refine hK.out _ _ ?_ (fun hHeld'''' => ?_)
     ·
      trivial
     clear hK K hHeld'''
     try simp only [Act.put,lyA,lyB,lyC]
     refine walkT_tail 13 rfl rfl (by kernel_rfl) rfl ?_
     simp only [List.drop_succ_cons,List.drop_zero]
     go_wp2_with fail
     go_meet
     have kb := Blk.made w5 #[.pointer (some ⟨r1,0,none⟩),.pointer (some ⟨r2,0,none⟩),.slice (some ⟨gC,0,none⟩) L L,.slice (some ⟨gE,0,none⟩) L L] 124
     have mb : Mod (fun _ => False) w5 (w5.alloc (.cells #[.pointer (some ⟨r1,0,none⟩),.pointer (some ⟨r2,0,none⟩),.slice (some ⟨gC,0,none⟩) L L,.slice (some ⟨gE,0,none⟩) L L] 124)) := (Mod.refl _ _).alloc _
     obtain ⟨own,hf,hlo⟩ := link_fam (w0 := w1) (R := R) (D := D) (s := ⟨List.replicate L 0,List.replicate L 0,[],[]⟩) kb (by rw [HLD.out.1]; exact qA.later (RingAt.stable ..) mb) (qB.later (RingAt.stable ..) mb) (by dsimp only; rw [HZ.out.1]; exact qC.later (Cells.stable _ _ _) mb) (by dsimp only; rw [HZ.out.1]; exact qE.later (Cells.stable _ _ _) mb) (by omega) (by omega) (by omega) (by omega) (by omega) (by omega) (by omega) (by omega) (by omega) (by omega) (by omega) (by omega) (by omega) (by omega) (by omega)
     exact ⟨_,_,_,_,_,own,rfl,hf,hlo,M.trans mb (fun _ _ e => e)⟩
    ·
     intro K hK
     go_simp
     have qC := Within.cells w3 z 3
     have m2 : Mod (fun _ => False) w3 (w3.alloc (.cells z 3)) := (Mod.refl _ _).alloc _
     obtain ⟨gC,yC⟩ : ∃ g,w3.heap.size = g := ⟨_,rfl⟩
     have YC := And.intro (Nat.le_of_eq yC) (Nat.le_of_eq yC.symm)
     rw [yC] at qC ⊢
     clear yC
     generalize (w3.alloc (.cells z 3)) = w4 at qC m2 ⊢
     have qE := qE.later (Cells.stable _ _ _) m2
     have qA := qA.later (RingAt.stable ..) m2
     have s2 := m2.size
     have M := M.trans m2 (fun _ _ e => e)
     refine hK.out _ _ ?_ (fun hHeld''' => ?_)
     ·
      trivial
     clear hK K hHeld''
     try simp only [Act.put,lyA,lyB,lyC]
     refine takeT_one 8 rfl (by kernel_rfl) (by rfl) ?_
     intro K hK
     go_simp
     refine (ringC_new _ R hR1 (by omega)).mono ?_
     rintro e w5 ⟨r2,rfl,hM⟩
     obtain ⟨qB,m3⟩ := Within.made (RingAt.stable ..) hM
     have qE := qE.later (Cells.stable _ _ _) m3
     have qA := qA.later (RingAt.stable ..) m3
     have qC := qC.later (Cells.stable _ _ _) m3
     have s3 := m3.size
     have M := M.trans m3 (fun _ _ e => e)
     refine hK.out _ _ ?_ (fun hHeld'''' => ?_)
     ·
      trivial
     clear hK K hHeld'''
     try simp only [Act.put,lyA,lyB,lyC]
     refine walkT_tail 13 rfl rfl (by kernel_rfl) rfl ?_
     simp only [List.drop_succ_cons,List.drop_zero]
     go_wp2_with fail
     go_meet
     have kb := Blk.made w5 #[.pointer (some ⟨r1,0,none⟩),.pointer (some ⟨r2,0,none⟩),.slice (some ⟨gC,0,none⟩) L L,.slice (some ⟨gE,0,none⟩) L L] 124
     have mb : Mod (fun _ => False) w5 (w5.alloc (.cells #[.pointer (some ⟨r1,0,none⟩),.pointer (some ⟨r2,0,none⟩),.slice (some ⟨gC,0,none⟩) L L,.slice (some ⟨gE,0,none⟩) L L] 124)) := (Mod.refl _ _).alloc _
     obtain ⟨own,hf,hlo⟩ := link_fam (w0 := w1) (R := R) (D := D) (s := ⟨List.replicate L 0,List.replicate L 0,[],[]⟩) kb (by rw [HLD.out.1]; exact qA.later (RingAt.stable ..) mb) (qB.later (RingAt.stable ..) mb) (by dsimp only; rw [HZ.out.1]; exact qC.later (Cells.stable _ _ _) mb) (by dsimp only; rw [HZ.out.1]; exact qE.later (Cells.stable _ _ _) mb) (by omega) (by omega) (by omega) (by omega) (by omega) (by omega) (by omega) (by omega) (by omega) (by omega) (by omega) (by omega) (by omega) (by omega) (by omega)
     exact ⟨_,_,_,_,_,own,rfl,hf,hlo,M.trans mb (fun _ _ e => e)⟩
   ·
    intro K hK
    go_simp
    have qC := Within.cells w2 z 3
    have m1 : Mod (fun _ => False) w2 (w2.alloc (.cells z 3)) := (Mod.refl _ _).alloc _
    obtain ⟨gC,yC⟩ : ∃ g,w2.heap.size = g := ⟨_,rfl⟩
    have YC := And.intro (Nat.le_of_eq yC) (Nat.le_of_eq yC.symm)
    rw [yC] at qC ⊢
    clear yC
    generalize (w2.alloc (.cells z 3)) = w3 at qC m1 ⊢
    have qE := qE.later (Cells.stable _ _ _) m1
    have s1 := m1.size
    have M := M.trans m1 (fun _ _ e => e)
    refine hK.out _ _ ?_ (fun hHeld'' => ?_)
    ·
     trivial
    clear hK K hHeld'
    try simp only [Act.put,lyA,lyB,lyC]
    refine takeT_one 3 rfl (by kernel_rfl) (by rfl) ?_
    intro K hK
    go_simp
    refine (ringI_new _ LD hLD1 (by omega)).mono ?_
    rintro e w4 ⟨r1,rfl,hM⟩
    obtain ⟨qA,m2⟩ := Within.made (RingAt.stable ..) hM
    have qE := qE.later (Cells.stable _ _ _) m2
    have qC := qC.later (Cells.stable _ _ _) m2
    have s2 := m2.size
    have M := M.trans m2 (fun _ _ e => e)
    refine hK.out _ _ ?_ (fun hHeld''' => ?_)
    ·
     trivial
    clear hK K hHeld''
    try simp only [Act.put,lyA,lyB,lyC]
    refine takeT_run 4 (v := ?_) rfl (by kernel_rfl) (by kernel_rfl) (by kernel_rfl) (fun _ _ _ h => h) (by rfl) ?_ (by assumption) ?_
    rotate_left
    ·
     (intro wx hSw; (try dsimp only at hSw); go_simp; try with_reducible rfl)
    try simp only [Act.put,lyA,lyB,lyC]
    refine takeT_one 8 rfl (by kernel_rfl) (by rfl) ?_
    intro K hK
    go_simp
    refine (ringC_new _ R hR1 (by omega)).mono ?_
    rintro e w5 ⟨r2,rfl,hM⟩
    obtain ⟨qB,m3⟩ := Within.made (RingAt.stable ..) hM
    have qE := qE.later (Cells.stable _ _ _) m3
    have qC := qC.later (Cells.stable _ _ _) m3
    have qA := qA.later (RingAt.stable ..) m3
    have s3 := m3.size
    have M := M.trans m3 (fun _ _ e => e)
    refine hK.out _ _ ?_ (fun hHeld'''' => ?_)
    ·
     trivial
    clear hK K hHeld'''
    try simp only [Act.put,lyA,lyB,lyC]
    refine walkT_tail 13 rfl rfl (by kernel_rfl) rfl ?_
    simp only [List.drop_succ_cons,List.drop_zero]
    go_wp2_with fail
    go_meet
    have kb := Blk.made w5 #[.pointer (some ⟨r1,0,none⟩),.pointer (some ⟨r2,0,none⟩),.slice (some ⟨gC,0,none⟩) L L,.slice (some ⟨gE,0,none⟩) L L] 124
    have mb : Mod (fun _ => False) w5 (w5.alloc (.cells #[.pointer (some ⟨r1,0,none⟩),.pointer (some ⟨r2,0,none⟩),.slice (some ⟨gC,0,none⟩) L L,.slice (some ⟨gE,0,none⟩) L L] 124)) := (Mod.refl _ _).alloc _
    obtain ⟨own,hf,hlo⟩ := link_fam (w0 := w1) (R := R) (D := D) (s := ⟨List.replicate L 0,List.replicate L 0,[],[]⟩) kb (by rw [HLD.out.1]; exact qA.later (RingAt.stable ..) mb) (qB.later (RingAt.stable ..) mb) (by dsimp only; rw [HZ.out.1]; exact qC.later (Cells.stable _ _ _) mb) (by dsimp only; rw [HZ.out.1]; exact qE.later (Cells.stable _ _ _) mb) (by omega) (by omega) (by omega) (by omega) (by omega) (by omega) (by omega) (by omega) (by omega) (by omega) (by omega) (by omega) (by omega) (by omega) (by omega)
    exact ⟨_,_,_,_,_,own,rfl,hf,hlo,M.trans mb (fun _ _ e => e)⟩
 case rest =>
 obtain ⟨b,r1,r2,g1,g2,own,rfl,hF0,hlo0,M0⟩ := hcut
 obtain ⟨w2,rfl⟩ : ∃ wo : World,wo = wc := ⟨_,rfl⟩
 obtain ⟨ob,⟨kb,-⟩,-,-⟩ := hF0.at (linkX_stable b r1 r2 g1 g2 L D R _) .blk
 have c2 := kb.cell 2
 simp at c2
 clear kb hmk e1 e2
 go_wp2
 go_loopw [35] (fun i wr => ∃ (k : Nat) (o : Nat→Prop),k ≤ L∧i = .int .i64 (k : Int)∧Fam (linkX b r1 r2 g1 g2 L D R ⟨List.replicate k (D : Int) ++ List.replicate (L - k) 0,List.replicate L 0,[],[]⟩) wr o∧(∀ g,o g→w1.heap.size ≤ g)∧Mod (fun _ => False) w1 wr) (fun i _ => L - (intOf i).toNat)
 case atStart => exact ⟨0,own,by omega,rfl,by simpa using hF0,hlo0,M0⟩
 case round =>
  obtain ⟨k,o,hk,rfl,hF,hlo,M⟩ := hrel
  obtain ⟨w3,rfl⟩ : ∃ wo : World,wo = wr := ⟨_,rfl⟩
  by_cases hlt : k < L
  ·
   obtain ⟨ob,⟨kb,-⟩,-,-⟩ := hF.at (linkX_stable b r1 r2 g1 g2 L D R _) .blk
   obtain ⟨oc,⟨kc,hoc⟩,-,put⟩ := hF.at (linkX_stable b r1 r2 g1 g2 L D R _) .cr
   have d2 := kb.cell 2
   simp at d2
   have hln : (List.replicate k (D : Int) ++ List.replicate (L - k) 0).length = L := by simp; omega
   have d3 := (kc.cell k).trans (intsA_get (by dsimp only; omega))
   have z3 := kc.fz k
   have kc2 := kc.set k (.int .i64 (D : Int))
   rw [intsA_set] at kc2
   have hset : (List.replicate k (D : Int) ++ List.replicate (L - k) 0).set k (D : Int) = List.replicate (k + 1) (D : Int) ++ List.replicate (L - (k + 1)) 0 := by
    rw [List.set_append_right _ _ (by simp),List.length_replicate,Nat.sub_self,show L - k = (L - (k + 1)) + 1 by omega,List.replicate_succ,List.set_cons_zero,List.replicate_succ',List.append_assoc]
    rfl
   dsimp only at hset kc2 d3
   rw [hset] at kc2
   have mc := (Mod.refl (fun g => g = g1) w3).setCell (p := ⟨g1,k,none⟩) (Or.inl rfl) (.int .i64 (D : Int))
   obtain ⟨o2,hx2,m2,ho2⟩ := put (linkX b r1 r2 g1 g2 L D R ⟨List.replicate (k + 1) (D : Int) ++ List.replicate (L - (k + 1)) 0,List.replicate L 0,[],[]⟩) _ (by intro j hj; cases j <;> first | rfl | exact absurd rfl hj) (Cells.put hoc kc2 mc)
   have REL := Lib.hid (show (∀ g,o2 g→w1.heap.size ≤ g)∧Mod (fun _ => False) w1 (w3.setCell ⟨g1,k,none⟩ (.int .i64 (D : Int))) from ⟨fun g hg => by
    rcases ho2 g hg with h | h
    ·
     exact hlo g h
    ·
     have := M.size; omega,M.trans' m2 (fun _ _ e => e) (fun g hg h => by have := hlo g h; omega)⟩)
   have i0 : (0 : Int) ≤ (k : Int) := by omega
   have i1 : (k : Int) < (L : Int) := by omega
   have HX := Lib.hid hx2
   clear kb kc hoc put hF hlo M kc2 mc hx2 m2 ho2 hset hln
   go_wp2
   go_roundw
   case rel => exact ⟨k + 1,o2,by omega,by go_num,HX.out,REL.out⟩
   case measure => simp [intOf]; omega
  ·
   have hkL : k = L := by omega
   have FIN := Lib.hid (show Made (LinkAt b L D R ⟨List.replicate L (D : Int),List.replicate L 0,[],[]⟩) w1 w3 from ⟨o,⟨r1,r2,g1,g2,by rw [hkL] at hF; simpa using hF⟩,M,hlo⟩)
   clear hF hlo M
   go_wp2
   go_ret
   exact ⟨b,rfl,FIN.out⟩
open Go.RowKit
section
variable {ι : Type} [DecidableEq ι]
def upd (X : ι→Rep) (i : ι) (Y : Rep) : ι→Rep := fun j => if j = i then Y else X j
def Fresh (w0 : World) (X : ι→Rep) (w : World) : Prop := ∃ o,Fam X w o∧(∀ g,o g→w0.heap.size ≤ g)∧Mod (fun _ => False) w0 w
theorem Fresh.later {w0 w w' : World} {X : ι→Rep} (hX : ∀ i,Stable (X i)) (h : Fresh w0 X w) (m : Mod (fun _ => False) w w') : Fresh w0 X w' := by
 obtain ⟨o,hF,hlo,M⟩ := h
 exact ⟨o,(Fam.stable hX).later hF m (by simp),hlo,M.trans m (fun _ _ e => e)⟩
theorem Fresh.turn {w0 w w' : World} {X : ι→Rep} (hX : ∀ i,Stable (X i)) (h : Fresh w0 X w) (i : ι) (Y : Rep) (t : ∀ oi,X i w oi→(∀ g,oi g→w0.heap.size ≤ g)→Turn oi Y w w') : Fresh w0 (upd X i Y) w' := by
 obtain ⟨o,hF,hlo,M⟩ := h
 obtain ⟨oi,hi,hio,put⟩ := hF.at hX i
 obtain ⟨o',hF',m',ho'⟩ := put (upd X i Y) w' (fun j hj => by unfold upd; rw [if_neg hj]) (by unfold upd; rw [if_pos rfl]; exact t oi hi (fun g hg => hlo g (hio g hg)))
 refine ⟨o',hF',fun g hg => ?_,M.trans' m' (fun _ _ e => e) (fun g hg e => by have := hlo g e; omega)⟩
 rcases ho' g hg with h | h
 ·
  exact hlo g h
 ·
  have := M.size
  omega
theorem Fresh.at {w0 w : World} {X : ι→Rep} (hX : ∀ i,Stable (X i)) (h : Fresh w0 X w) (i : ι) : ∃ oi,X i w oi∧∀ g,oi g→w0.heap.size ≤ g := by
 obtain ⟨o,hF,hlo,M⟩ := h
 obtain ⟨oi,hi,hio,-⟩ := hF.at hX i
 exact ⟨oi,hi,fun g hg => hlo g (hio g hg)⟩
theorem Fresh.add {w0 w w' : World} {X : ι→Rep} (hX : ∀ i,Stable (X i)) (h : Fresh w0 X w) (i : ι) (Y : Rep) (hi : X i = Emp) (hY : Made Y w w') : Fresh w0 (upd X i Y) w' := by
 refine h.turn hX i Y (fun oi ho _ => ?_)
 obtain ⟨o',hy,m,hlo⟩ := hY
 exact ⟨o',hy,m.mono (fun _ _ e => e.elim),fun g hg => Or.inr (hlo g hg)⟩
theorem Fresh.drop {w0 w : World} {X : ι→Rep} (hX : ∀ i,Stable (X i)) (h : Fresh w0 X w) (i : ι) : Fresh w0 (upd X i Emp) w :=
 h.turn hX i Emp (fun oi _ _ => ⟨fun _ => False,fun g hg => hg,Mod.refl _ _,fun g hg => hg.elim⟩)
theorem upd_stable {X : ι→Rep} {i : ι} {Y : Rep} (hX : ∀ i,Stable (X i)) (hY : Stable Y) : ∀ j,Stable (upd X i Y j) := by
 intro j
 unfold upd
 split
 ·
  exact hY
 ·
  exact hX j
end
def sideK (A : RAddr) (m p : Nat) : List Value := if p < m then sideV A p else [.slice none 0 0,.slice none 0 0,.pointer none,.pointer none]
def routerK (A : RAddr) (c : Cfg) (node : Int) (m : Nat) : Array Value := (routerHead c node ++ (sideK A m 0 ++ sideK A m 1 ++ sideK A m 2 ++ sideK A m 3 ++ sideK A m 4)).toArray
def lanesV (A : RAddr) (L p l : Nat) : List Nat := (List.range l).map fun j => A.lp (p * L + j)
def stg (b : Nat) (A : RAddr) (c : Cfg) (node : Int) (m : Nat) (l : Option (Nat × Nat)) : RP→Rep
 | .blk => Cells b (routerK A c node m) 144
 | .ins p => if p < m then Que encL 1 129 (A.iv p) (lanesV A c.Lanes.toNat p c.Lanes.toNat) else match l with | some (T,k) => if p = m then Que encL 1 129 (A.iv p) (lanesV A c.Lanes.toNat p k) else Emp | none => Emp
 | .own p => if p < m then Que encI 1 3 (A.ov p) (List.replicate c.Lanes.toNat (-1)) else match l with | some (T,k) => if p = m then Que encI 1 3 (A.ov p) (List.replicate k (-1)) else Emp | none => Emp
 | .give p => if p < m then Cells (A.fg p) #[.int .i64 c.Lanes,.int .i64 (-1)] 217 else match l with | some (T,k) => if p = m then Cells (A.fg p) #[.int .i64 c.Lanes,.int .i64 (-1)] 217 else Emp | none => Emp
 | .mv p => if p < m then Cells (A.fm p) #[.int .i64 (5 * c.Lanes),.int .i64 (-1)] 217 else match l with | some (T,k) => if p = m then Cells (A.fm p) #[.int .i64 (5 * c.Lanes),.int .i64 (-1)] 217 else Emp | none => Emp
 | .lane k => if k < m * c.Lanes.toNat then LaneAt (A.lp k) c.Depth.toNat LaneS.new else match l with | some (T,j) => if k < m * c.Lanes.toNat + j then LaneAt (A.lp k) c.Depth.toNat LaneS.new else if k = 5 * c.Lanes.toNat then Cells T (sideV A m).toArray 141 else Emp | none => Emp
theorem stg_stable (b : Nat) (A : RAddr) (c : Cfg) (node : Int) (m : Nat) (l : Option (Nat × Nat)) (i : RP) : Stable (stg b A c node m l i) := by
 have e := Emp.stable
 cases i
 ·
  exact Cells.stable _ _ _
 all_goals
  refine stable_ite ?_ ?_
  ·
   first | exact Que.stable _ _ | exact Cells.stable _ _ _ | exact LaneAt.stable _ _ _
  ·
   rcases l with _ | ⟨T,k⟩
   ·
    exact e
   ·
    refine stable_ite ?_ ?_
    ·
     first | exact Que.stable _ _ | exact Cells.stable _ _ _ | exact LaneAt.stable _ _ _
    ·
     first | exact e | exact stable_ite (Cells.stable _ _ _) e
theorem stg_all (b : Nat) (A : RAddr) (c : Cfg) (node : Int) : stg b A c node 5 none = routerX b A c node ⟨List.replicate (5 * c.Lanes.toNat) LaneS.new,List.replicate (5 * c.Lanes.toNat) (-1),List.replicate 5 (-1),List.replicate 5 (-1)⟩ := by
 funext i
 cases i with
 | blk => rfl
 | ins p => rfl
 | own p =>
  show (if p < 5 then Que encI 1 3 (A.ov p) (List.replicate c.Lanes.toNat (-1)) else Emp) = (if p < 5 then Que encI 1 3 (A.ov p) (((List.replicate (5 * c.Lanes.toNat) (-1)).drop (p * c.Lanes.toNat)).take c.Lanes.toNat) else Emp)
  by_cases h : p < 5
  ·
   have h1 : (p + 1) * c.Lanes.toNat ≤ 5 * c.Lanes.toNat := Nat.mul_le_mul_right _ h
   rw [Nat.succ_mul] at h1
   rw [if_pos h,if_pos h,List.drop_replicate,List.take_replicate,show min c.Lanes.toNat (5 * c.Lanes.toNat - p * c.Lanes.toNat) = c.Lanes.toNat by omega]
  ·
   rw [if_neg h,if_neg h]
 | give p =>
  show (if p < 5 then Cells (A.fg p) #[.int .i64 c.Lanes,.int .i64 (-1)] 217 else Emp) = (if p < 5 then Cells (A.fg p) #[.int .i64 c.Lanes,.int .i64 ((List.replicate 5 (-1)).getD p 0)] 217 else Emp)
  by_cases h : p < 5
  ·
   rw [if_pos h,if_pos h,List.getD_eq_getElem?_getD,List.getElem?_replicate,if_pos h]
   rfl
  ·
   rw [if_neg h,if_neg h]
 | mv p =>
  show (if p < 5 then Cells (A.fm p) #[.int .i64 (5 * c.Lanes),.int .i64 (-1)] 217 else Emp) = (if p < 5 then Cells (A.fm p) #[.int .i64 (5 * c.Lanes),.int .i64 ((List.replicate 5 (-1)).getD p 0)] 217 else Emp)
  by_cases h : p < 5
  ·
   rw [if_pos h,if_pos h,List.getD_eq_getElem?_getD,List.getElem?_replicate,if_pos h]
   rfl
  ·
   rw [if_neg h,if_neg h]
 | lane k =>
  show (if k < 5 * c.Lanes.toNat then LaneAt (A.lp k) c.Depth.toNat LaneS.new else Emp) = (if k < 5 * c.Lanes.toNat then LaneAt (A.lp k) c.Depth.toNat ((List.replicate (5 * c.Lanes.toNat) LaneS.new).getD k LaneS.new) else Emp)
  by_cases h : k < 5 * c.Lanes.toNat
  ·
   rw [if_pos h,if_pos h,List.getD_eq_getElem?_getD,List.getElem?_replicate,if_pos h]
   rfl
  ·
   rw [if_neg h,if_neg h]
end Go.Proofs.YtfiklfkfbcpmgaaGreat
