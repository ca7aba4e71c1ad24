/- Parts: RingW RingC. No condition. -/
import Derived.Test.YtfiklfkfbcpmgaaGreatJ01
set_option linter.all false
set_option maxRecDepth 100000
set_option maxHeartbeats 3200000
namespace Go.Proofs.YtfiklfkfbcpmgaaGreat
open Go.RowKit
section
variable {w : World} {r g n : Nat} {i o : Int} {a : Nat} {laid : Bool} {cs : Array Value} {l : List (Nat)}
theorem ringW_len (m : Nat) (h : RingIn 126 226 w r g n i o a laid cs) (hm : (i - o) % 4294967296 = m) :
  Calls Tryz.prog 129 #[.pointer (some ⟨r,0,none⟩)] w fun e w' => e = .returned (.int .i64 (m : Int))∧Drw w w' := by
 obtain ⟨c0,c1,c2,c3,c4⟩ := h.cells
 have hm2 : m < 4294967296 := by omega
 have HM := Lib.hid hm
 clear h hm
 go_enter Tryz.func129,Tryz.ntmps129
 go_wp2
 go_quiet (fail)
 go_wp2
 go_ret
 exact ⟨by rw [← HM.out]; rfl,Drw.drewN _ _⟩
theorem ringW_room (m : Nat) (h : RingIn 126 226 w r g n i o a false cs) (hm : (i - o) % 4294967296 = m) (hn : n ≤ 4096) :
  Calls Tryz.prog 219 #[.pointer (some ⟨r,0,none⟩)] w fun e w' => e = .returned (.int .i64 ((n : Int) - m))∧Drw w w' := by
 obtain ⟨c0,c1,c2,c3,c4⟩ := h.cells
 have hm2 : m < 4294967296 := by omega
 have HL := Lib.hid (fun w1 (hd : Drw w w1) => ringW_len m (h.later (hd.mod (fun _ => False)) (by simp) (by simp)) hm)
 clear h hm
 go_enter Tryz.func219,Tryz.ntmps219
 go_upto_region 3 with fail
 go_cut [3] (fun z w' => z = .int .i64 ((n : Int) - m)∧Drw w w')
 case first => as_aux_lemma =>
  go_region_held3 (fun w' => w'.cell? ⟨r,0,none⟩ = some (.slice (some ⟨g,0,none⟩) n n))
   (first | exact c0 | exact (d9.cell _).trans c0 | go_keep)
   ((go_at_call 129; refine (HL.out _ (Drw.drew _)).mono ?_; rintro e w9 ⟨rfl,d9⟩))
  all_goals go_wp2_with fail
  all_goals go_meet
  all_goals exact ⟨by simp [IntWalk.i64_in ((n : Int) - m) (by omega)],(Drw.drew _).trans d9⟩
 case rest =>
  obtain ⟨rfl,d1⟩ := hcut
  have c4 := (d1.cell ⟨r,4,none⟩).trans c4
  go_wp2
  go_ret
  exact ⟨rfl,d1⟩
theorem ringW_end (m : Nat) (h : RingIn 126 226 w r g n i o a laid cs) (hm : (i - o) % 4294967296 = m) (hn : n ≤ 4096) (hn1 : 1 ≤ n) (ha : a < n) :
  Calls Tryz.prog 220 #[.pointer (some ⟨r,0,none⟩)] w fun e w' => e = .returned (.int .i64 (((a + m) % n : Nat) : Int))∧Drw w w' := by
 obtain ⟨c0,c1,c2,c3,c4⟩ := h.cells
 have hm2 : m < 4294967296 := by omega
 have HL := Lib.hid (fun w1 (hd : Drw w w1) => ringW_len m (h.later (hd.mod (fun _ => False)) (by simp) (by simp)) hm)
 have e1 : ((a : Int) + m).tmod n = (((a + m) % n : Nat) : Int) := by
  rw [Int.tmod_eq_emod_of_nonneg (by omega)]
  push_cast
  rfl
 have HE := Lib.hid e1
 have hn0 : ((n : Int) == 0) = false := by simp; omega
 have hn2 : ¬ ((n : Int) = 0) := by omega
 have hn3 : ¬ n = 0 := by omega
 have hlt : (a + m) % n < n := Nat.mod_lt _ (by omega)
 clear h hm e1
 generalize (a + m) % n = z at HE hlt ⊢
 go_enter Tryz.func220,Tryz.ntmps220
 go_upto_region 1 with fail
 go_cut [2] (fun v w' => v = .int .i64 (z : Int)∧Drw w w')
 case first => as_aux_lemma =>
  go_region_held3 (fun w' => w'.cell? ⟨r,0,none⟩ = some (.slice (some ⟨g,0,none⟩) n n)∧w'.cell? ⟨r,3,none⟩ = some (.int .i64 (a : Int)))
   (first | exact ⟨c0,c3⟩ | exact ⟨(d9.cell _).trans c0,(d9.cell _).trans c3⟩ | go_keep)
   ((go_at_call 129; refine (HL.out _ (Drw.drew _)).mono ?_; rintro e w9 ⟨rfl,d9⟩))
  all_goals go_wp2_with fail
  all_goals go_meet
  all_goals exact ⟨by rw [IntWalk.i64_in ((a : Int) + m) (by omega),HE.out],(Drw.drew _).trans d9⟩
 case rest =>
  obtain ⟨rfl,d1⟩ := hcut
  go_wp2
  go_ret
  exact ⟨rfl,d1⟩
theorem ringW_lay (x : Nat) (h : RingIn 126 226 w r g n i o a false cs) (ok : RingOk encW 1 n a cs l) (hl : (i - o) % 4294967296 = l.length) :
  Calls Tryz.prog 206 #[.pointer (some ⟨r,0,none⟩),.int .u64 (x : Int)] w fun e w' =>
   (l.length = n∧e = .returned (.int .i64 7)∧Mod (fun _ => False) w w') ∨
   (l.length < n∧e = .returned (.int .i64 0)∧RingIn 126 226 w' r g n i o a true (putRow cs ((a + l.length) % n * 1) (encW x))∧Mod (fun k => k = r∨k = g) w w') := by
 have hz : (a + l.length) % n < n := Nat.mod_lt _ (by have := ok.n1; omega)
 have n1 := ok.n1
 have n2 := ok.n2
 have an := ok.an
 have ln := ok.ln
 have hRe : ∀ w1,Mod (fun _ => False) w w1→RingIn 126 226 w1 r g n i o a false cs := fun w1 m => h.later m (by simp) (by simp)
 have HRE := Lib.hid hRe
 have HRoom := Lib.hid (fun w1 (m : Mod (fun _ => False) w w1) => ringW_room l.length (hRe w1 m) hl n2)
 have HEnd := Lib.hid (fun w1 (m : Mod (fun _ => False) w w1) => ringW_end l.length (hRe w1 m) hl n2 n1 an)
 have rlt := h.blk.lt
 have glt := h.row.lt
 obtain ⟨z,hzz⟩ : ∃ z,(a + l.length) % n = z := ⟨_,rfl⟩
 rw [hzz] at hz HEnd ⊢
 obtain ⟨v0,hv0⟩ : ∃ v,cs[z * 1]? = some v := ⟨_,Array.getElem?_eq_getElem (by have := ok.lt hz (t := 0) (by decide); omega)⟩
 have HV0 := Lib.hid hv0
 obtain ⟨m,hm⟩ : ∃ m,l.length = m := ⟨_,rfl⟩
 rw [hm] at HRoom ln ⊢
 clear ok hl hRe hm hzz hv0
 go_enter Tryz.func206,Tryz.ntmps206
 have m0 : Mod (fun _ => False) w w := Mod.refl _ _
 have h0 := HRE.out _ m0
 obtain ⟨c0,c1,c2,c3,c4⟩ := h0.cells
 go_wp2_with fail
 refine (HRoom.out _ m0).mono ?_
 rintro e w1 ⟨rfl,d1⟩
 have m1 := m0.trans (d1.mod (fun _ => False)) (fun i hi e => e)
 have h1 := HRE.out _ m1
 clear c0 c1 c2 c3 c4 h0
 obtain ⟨c0,c1,c2,c3,c4⟩ := h1.cells
 by_cases hfull : m = n
 ·
  have q : (((n : Int) - m) == 0) = true := by rw [hfull]; simp
  have HF := Lib.hid hfull
  clear hfull
  go_wp2
  go_ret
  exact Or.inl ⟨HF.out,rfl,m1⟩
 ·
  have q : (((n : Int) - m) == 0) = false := by simp; omega
  have hlt : m < n := by omega
  clear hfull
  have b0 : (0 : Int) ≤ (z : Int) := by omega
  have b1 : (z : Int) < (n : Int) := by omega
  go_upto_region 7 with fail
  go_cut [] (fun w' => RingIn 126 226 w' r g n i o a false (putRow cs (z * 1) (encW x))∧Mod (fun k => k = r∨k = g) w w')
  case first => as_aux_lemma =>
   have mdr : Mod (fun _ => False) w w1.drew := m1.drew
   go_region_held3 (fun w' => w'.cell? ⟨r,0,none⟩ = some (.slice (some ⟨g,0,none⟩) n n))
    (first | exact c0 | exact e0 | exact (H9.setRow (z) (.int .u64 (x : Int))).cells.1 | go_keep)
    ((go_at_call 220; refine (HEnd.out _ mdr).mono ?_; rintro e w9 ⟨rfl,d9⟩; have m9 : Mod (fun _ => False) w1 w9 := (Mod.refl (fun _ => False) w1).drew.trans (d9.mod (fun _ => False)) (fun i hi e => e); have H9 := HRE.out _ (m1.trans m9 (fun i hi e => e)); have e0 := H9.cells.1; have y0 := (H9.row.cell (z)).trans (by simpa using HV0.out); have f0 := H9.row.fz (z)))
   all_goals go_wp2_with fail
   all_goals go_meet
   all_goals
    have hR := (H9.setRow (z) (.int .u64 (x : Int)))
    have hM := (m1.mono (S' := fun k => k = r∨k = g) (fun i hi e => e.elim)).trans ((m9.mono (S' := fun k => k = r∨k = g) (fun i hi e => e.elim)).trans ((Mod.refl (fun k => k = r∨k = g) w9).setCell (p := ⟨g,z,none⟩) (Or.inl (Or.inr rfl)) (.int .u64 (x : Int))) (fun i hi e => e)) (fun i hi e => e)
    exact ⟨by simpa [putRow,encW] using hR,by simpa using hM⟩
  case rest =>
   obtain ⟨hR,hM⟩ := hcut
   obtain ⟨w2,rfl⟩ : ∃ wo : World,wo = wc := ⟨_,rfl⟩
   have c4 := hR.cells.2.2.2.2
   have z4 := hR.blk.fz 4
   have hF := hR.setLaid true
   have HF := Lib.hid hF
   clear hF c0 c1 c2 c3
   go_wp2
   go_ret
   exact Or.inr ⟨hlt,rfl,HF.out,hM.setCell (p := ⟨r,4,none⟩) (Or.inl (Or.inl rfl)) _⟩
theorem ringW_publish (h : RingIn 126 226 w r g n i o a true cs) :
  Calls Tryz.prog 207 #[.pointer (some ⟨r,0,none⟩)] w fun e w' => e = .returned (.int .i64 0)∧RingIn 126 226 w' r g n ((i + 1) % 4294967296) o a false cs∧Mod (fun k => k = r) w w' := by
 have hF := Lib.hid ((h.setI ((i + 1) % 4294967296) ⟨by omega,by omega⟩).setLaid false)
 obtain ⟨c0,c1,c2,c3,c4⟩ := h.cells
 have z1 := h.blk.fz 1
 have z4 := h.blk.fz 4
 clear h
 go_enter Tryz.func207,Tryz.ntmps207
 go_wp2
 go_ret
 exact ⟨rfl,hF.out,((Mod.refl (fun k => k = r) w).setCell (p := ⟨r,1,none⟩) (Or.inl rfl) _).setCell (p := ⟨r,4,none⟩) (Or.inl rfl) _⟩
theorem ringW_push {own : Nat→Prop} (x : Nat) (h : RingAt encW 1 126 226 r n l w own) :
  Calls Tryz.prog 179 #[.pointer (some ⟨r,0,none⟩),.int .u64 (x : Int)] w fun e w' =>
   (l.length = n∧e = .returned (.int .i64 7)∧Mod (fun _ => False) w w') ∨
   (l.length < n∧e = .returned (.int .i64 0)∧Turn own (RingAt encW 1 126 226 r n (l ++ [x])) w w') := by
 obtain ⟨g,i,o,a,cs,h,ok,hl,ho⟩ := h
 have hlt : r < w.heap.size∧g < w.heap.size := ⟨h.blk.lt,h.row.lt⟩
 have HL := Lib.hid (fun w1 (m : Mod (fun _ => False) w w1) => ringW_lay x (h.later m (by simp) (by simp)) ok hl)
 have hll := ok.ln
 have hn2 := ok.n2
 have HK := Lib.hid ok
 have HO := Lib.hid ho
 have HI := Lib.hid hl
 have HI0 := Lib.hid h.i0
 have HO0 := Lib.hid h.o0
 clear h ok ho hl
 go_enter Tryz.func179,Tryz.ntmps179
 go_wp2_with fail
 have m0 : Mod (fun _ => False) w w := Mod.refl _ _
 refine (HL.out _ m0).mono ?_
 rintro e w1 (⟨h1,rfl,m1⟩ | ⟨h1,rfl,hR,m1⟩)
 ·
  have HF := Lib.hid h1
  have mm := m0.trans m1 (fun i hi e => e)
  clear h1
  go_wp2
  go_ret
  exact Or.inl ⟨HF.out,rfl,mm⟩
 ·
  have HP := Lib.hid (ringW_publish hR)
  have mm := (m0.mono (S' := fun k => k = r∨k = g) (fun i hi e => e.elim)).trans m1 (fun i hi e => e)
  clear hR
  go_wp2_with fail
  refine HP.out.mono ?_
  rintro e w2 ⟨rfl,hR2,m2⟩
  have HR2 := Lib.hid hR2
  have mm2 := mm.trans m2 (fun i hi e => Or.inl e)
  clear hR2
  go_wp2
  go_ret
  refine Or.inr ⟨h1,rfl,own,⟨g,_,o,a,_,HR2.out,HK.out.push h1 x rfl,?_,HO.out⟩,mm2.mono (fun k hk e => (HO.out k).2 e),fun k hk => Or.inl hk⟩
  have := HI.out
  have := HI0.out
  have := HO0.out
  simp only [List.length_append,List.length_singleton]
  omega
theorem ringW_peek_none (h : RingIn 126 226 w r g n i o a laid cs) (hl : (i - o) % 4294967296 = 0) :
  Calls Tryz.prog 196 #[.pointer (some ⟨r,0,none⟩)] w fun e w' => e = .returned (.tuple #[.int .u64 0,.int .i64 8])∧Mod (fun _ => False) w w' := by
 have q : (i == o) = true := by have := h.i0; have := h.o0; simp; omega
 obtain ⟨c0,c1,c2,c3,c4⟩ := h.cells
 have rlt := h.blk.lt
 clear h
 go_enter Tryz.func196,Tryz.ntmps196
 go_wp2
 go_quiet (fail)
 go_wp2
 go_ret2
 exact ⟨rfl,Mod.drewN (Mod.refl _ _) _⟩
theorem ringW_peek_some (x : Nat) (h : RingIn 126 226 w r g n i o a laid cs) (ok : RingOk encW 1 n a cs (x :: l)) (hl : (i - o) % 4294967296 ≠ 0) :
  Calls Tryz.prog 196 #[.pointer (some ⟨r,0,none⟩)] w fun e w' => e = .returned (.tuple #[.int .u64 (x : Int),.int .i64 0])∧Mod (fun _ => False) w w' := by
 have q : (i == o) = false := by have := h.i0; have := h.o0; simp; omega
 obtain ⟨c0,c1,c2,c3,c4⟩ := h.cells
 have rlt := h.blk.lt
 have glt := h.row.lt
 have an := ok.an
 have n2 := ok.n2
 have h0 := (h.row.cell (a * 1 + 0)).trans (ok.head 0 (by decide))
 simp [encW] at h0
 have b0 : (0 : Int) ≤ (a : Int) := by omega
 have b1 : (a : Int) < (n : Int) := by omega
 clear h ok
 go_enter Tryz.func196,Tryz.ntmps196
 go_upto_region 4 with fail
 go_quiet (fail)
 go_upto_region 6 with fail
 go_quiet (fail)
 go_wp2
 go_ret2
 exact ⟨rfl,Mod.drewN (Mod.drewN (Mod.refl _ _) _) _⟩
theorem ringW_free (x : Nat) (h : RingIn 126 226 w r g n i o a false cs) (ok : RingOk encW 1 n a cs (x :: l)) (hl : (i - o) % 4294967296 ≠ 0) :
  Calls Tryz.prog 202 #[.pointer (some ⟨r,0,none⟩)] w fun e w' => e = .returned (.int .i64 0)∧RingIn 126 226 w' r g n i ((o + 1) % 4294967296) ((a + 1) % n) false (putRow cs (a * 1) [.int .u64 0])∧Mod (fun k => k = r∨k = g) w w' := by
 have hRe : ∀ w1,Mod (fun _ => False) w w1→RingIn 126 226 w1 r g n i o a false cs := fun w1 m => h.later m (by simp) (by simp)
 have HRE := Lib.hid hRe
 have HPeek := Lib.hid (ringW_peek_some x h ok hl)
 have an := ok.an
 have n1 := ok.n1
 have n2 := ok.n2
 have rlt := h.blk.lt
 have glt := h.row.lt
 have e1 : (IntKind.i64.wrap ((a : Int) + 1)).tmod n = (((a + 1) % n : Nat) : Int) := by
  rw [IntWalk.i64_in _ (by omega),Int.tmod_eq_emod_of_nonneg (by omega)]
  push_cast
  rfl
 have HE := Lib.hid e1
 have e2 : ((a : Int) + 1) % n = (((a + 1) % n : Nat) : Int) := by
  push_cast
  rfl
 have HE2 := Lib.hid e2
 have hz : (a + 1) % n < n := Nat.mod_lt _ (by omega)
 generalize (a + 1) % n = z at HE HE2 hz ⊢
 have hn0 : ((n : Int) == 0) = false := by simp; omega
 have hn2 : ¬ ((n : Int) = 0) := by omega
 have hn3 : ¬ n = 0 := by omega
 obtain ⟨v0,hv0⟩ : ∃ v,cs[a * 1]? = some v := ⟨_,Array.getElem?_eq_getElem (by have := ok.lt ok.an (t := 0) (by decide); omega)⟩
 have HV0 := Lib.hid hv0
 clear h ok hl hRe e1 e2 hv0
 go_enter Tryz.func202,Tryz.ntmps202
 go_wp2_with fail
 refine HPeek.out.mono ?_
 rintro e w1 ⟨rfl,m1⟩
 go_upto_region 5 with fail
 have m5 := m1
 obtain ⟨w5,rfl⟩ : ∃ wo : World,wo = w1 := ⟨_,rfl⟩
 have h5 := HRE.out _ m5
 obtain ⟨c0,c1,c2,c3,c4⟩ := h5.cells
 have y0 := (h5.row.cell (a)).trans (by simpa using HV0.out)
 have f0 := h5.row.fz (a)
 have b0 : (0 : Int) ≤ (a : Int) := by omega
 have b1 : (a : Int) < (n : Int) := by omega
 go_cut [] (fun w' => RingIn 126 226 w' r g n i o a false (putRow cs (a * 1) [.int .u64 0])∧Mod (fun k => k = r∨k = g) w w')
 case first => as_aux_lemma =>
  go_region_held3 (fun w' => w'.cell? ⟨r,0,none⟩ = some (.slice (some ⟨g,0,none⟩) n n)∧w'.cell? ⟨r,3,none⟩ = some (.int .i64 (a : Int)))
   (first | exact ⟨c0,c3⟩ | exact ⟨((h5).setRow (a) (.int .u64 0)).cells.1,((h5).setRow (a) (.int .u64 0)).cells.2.2.2.1⟩ | go_keep)
   ((fail))
  all_goals go_wp2_with fail
  all_goals go_meet
  all_goals exact ⟨by first | simpa [putRow] using (h5.later ((Mod.refl (fun _ => False) w5).drew) (by simp) (by simp)).setRow (a) (.int .u64 0) | simpa [putRow] using ((h5).setRow (a) (.int .u64 0)).later ((Mod.refl (fun _ => False) _).drew) (by simp) (by simp),by first | exact (m5.mono (S' := fun k => k = r∨k = g) (fun i hi e => e.elim)).trans (((Mod.refl (fun k => k = r∨k = g) w5).drew).setCell (p := ⟨g,a,none⟩) (Or.inl (Or.inr rfl)) (.int .u64 0)) (fun i hi e => e) | exact (m5.mono (S' := fun k => k = r∨k = g) (fun i hi e => e.elim)).trans ((((Mod.refl (fun k => k = r∨k = g) w5)).setCell (p := ⟨g,a,none⟩) (Or.inl (Or.inr rfl)) (.int .u64 0)).drew) (fun i hi e => e)⟩
 case rest =>
 obtain ⟨h6,m6⟩ := hcut
 obtain ⟨w6,rfl⟩ : ∃ wo : World,wo = wc := ⟨_,rfl⟩
 clear c0 c1 c2 c3 c4 h5 m5 y0 f0
 obtain ⟨c0,c1,c2,c3,c4⟩ := h6.cells
 have z3 := h6.blk.fz 3
 go_upto_region 6 with fail
 go_cut [] (fun w' => RingIn 126 226 w' r g n i o z false (putRow cs (a * 1) [.int .u64 0])∧Mod (fun k => k = r∨k = g) w w')
 case first => as_aux_lemma =>
  go_region
  all_goals go_wp2_with fail
  all_goals go_meet
  all_goals refine ⟨?_,?_⟩
  all_goals first | rw [HE2.out] | rw [HE.out]
  all_goals first
   | exact (h6.later ((Mod.refl (fun _ => False) w6).drew) (by simp) (by simp)).setA z
   | exact (h6.setA z).later ((Mod.refl (fun _ => False) _).drew) (by simp) (by simp)
   | exact (m6.drew).setCell (p := ⟨r,3,none⟩) (Or.inl (Or.inl rfl)) _
   | exact ((m6.setCell (p := ⟨r,3,none⟩) (Or.inl (Or.inl rfl)) _)).drew
 case rest =>
 obtain ⟨h7,m7⟩ := hcut
 obtain ⟨w7,rfl⟩ : ∃ wo : World,wo = wc := ⟨_,rfl⟩
 clear c0 c1 c2 c3 c4 z3 h6 m6
 obtain ⟨c0,c1,c2,c3,c4⟩ := h7.cells
 have z2 := h7.blk.fz 2
 have HF := Lib.hid (h7.setO ((o + 1) % 4294967296) ⟨by omega,by omega⟩)
 clear h7
 go_wp2
 go_ret
 exact ⟨rfl,HF.out,m7.setCell (p := ⟨r,2,none⟩) (Or.inl (Or.inl rfl)) _⟩
theorem ringW_pop {own : Nat→Prop} (x : Nat) (h : RingAt encW 1 126 226 r n (x :: l) w own) :
  Calls Tryz.prog 172 #[.pointer (some ⟨r,0,none⟩)] w fun e w' => e = .returned (.tuple #[.int .u64 (x : Int),.int .i64 0])∧Turn own (RingAt encW 1 126 226 r n l) w w' := by
 obtain ⟨g,i,o,a,cs,h,ok,hl,ho⟩ := h
 have rlt := h.blk.lt
 have glt := h.row.lt
 have hl0 : (i - o) % 4294967296 ≠ 0 := by rw [hl]; simp only [List.length_cons]; omega
 have HPeek := Lib.hid (fun w1 (m : Mod (fun _ => False) w w1) => ringW_peek_some x (h.later m (by simp) (by simp)) ok hl0)
 have HFree := Lib.hid (fun w1 (m : Mod (fun _ => False) w w1) => ringW_free x (h.later m (by simp) (by simp)) ok hl0)
 have HK := Lib.hid ok
 have HO := Lib.hid ho
 have HI := Lib.hid hl
 have HI0 := Lib.hid h.i0
 have HO0 := Lib.hid h.o0
 have HN2 := Lib.hid (show l.length < 4096 from by have := ok.ln; have := ok.n2; simp only [List.length_cons] at *; omega)
 clear h ok hl ho hl0
 go_enter Tryz.func172,Tryz.ntmps172
 go_wp2_with fail
 refine (HPeek.out _ (Mod.refl _ _)).mono ?_
 rintro e w1 ⟨rfl,m1⟩
 go_wp2_with fail
 refine (HFree.out _ m1).mono ?_
 rintro e w3 ⟨rfl,hR,m3⟩
 have m3 := (m1.mono (S' := fun k => k = r∨k = g) (fun i hi e => e.elim)).trans m3 (fun i hi e => e)
 have HR2 := Lib.hid hR
 clear hR
 go_wp2
 go_ret2
 refine ⟨rfl,own,⟨g,i,_,_,_,HR2.out,HK.out.pop _ rfl,?_,HO.out⟩,m3.mono (fun k hk e => (HO.out k).2 e),fun k hk => Or.inl hk⟩
 have h1 := HI.out
 have h2 := HI0.out
 have h3 := HO0.out
 have h4 := HN2.out
 simp only [List.length_cons] at h1
 omega
theorem ringW_made (w : World) (N : Nat) (hN : N ≤ 4096) : ∃ w' cs,(Instr.makeSlice 166 (.int .i64 (N : Int)) (.int .i64 (N : Int))).run Tryz.prog w = .ok (.slice (some ⟨w.heap.size,0,none⟩) N N) w'∧Blk w' w.heap.size cs 126∧cs.size = N * 1∧Mod (fun _ => False) w w' := by
 obtain ⟨i,hi,hz,hsize,hby⟩ := info_parts (show (Tryz.prog.info? 126).map (fun i => (i.zero,i.size,i.bytes)) = some (some (.int .u64 0),1,8) by kernel_rfl)
 obtain ⟨w',hr,ho,hg⟩ := run_makeSlice_full (P := Tryz.prog) w w.heap.size 166 126 i (.int .u64 0) 1 Tryz.underlying166 hi hz hsize .i64 .i64 N (by omega) (by rw [hby]; omega) (by unfold maxLen; omega) (Nat.le_refl _)
 rcases ho.2 with ⟨h,-⟩ | ⟨g',cap,cur,hv,-,hh,-,-,hs,ht⟩
 ·
  cases h
 ·
  simp only [Value.slice.injEq,Option.some.injEq,Addr.mk.injEq,and_true,true_and] at hv
  obtain ⟨rfl,rfl⟩ := hv
  exact ⟨w',cur,hr,hh,hs,(Mod.refl _ w).grown hg (fun k hk => by cases hk)⟩
theorem ringW_new (w : World) (N : Nat) (h1 : 1 ≤ N) (h2 : N ≤ 4096) :
  Calls Tryz.prog 160 #[.int .i64 (N : Int),.int .u32 0] w fun e w' => ∃ r,e = .returned (.pointer (some ⟨r,0,none⟩))∧Made (RingAt encW 1 126 226 r N []) w w' := by
 obtain ⟨w1,cs,hr,hb,hs,m1⟩ := ringW_made w N h2
 have q1 : ¬ (N : Int) < 1 := by omega
 have q2 : ¬ (4096 : Int) < (N : Int) := by omega
 have q3 : (N : Int) ≤ 4096 := by omega
 have q4 : (1 : Int) ≤ (N : Int) := by omega
 have q5 : max (N : Int) 1 = (N : Int) := by omega
 have q6 : min (N : Int) 4096 = (N : Int) := by omega
 go_enter Tryz.func160,Tryz.ntmps160
 go_wp2
 go_ret
 have hlt := hb.lt
 have hk := Blk.made w1 #[.slice (some ⟨w.heap.size,0,none⟩) N N,.int .u32 0,.int .u32 0,.int .i64 0,.bool false] 226
 exact ⟨w1.heap.size,rfl,fun k => k = w1.heap.size∨k = w.heap.size,⟨w.heap.size,0,0,0,cs,⟨hk,hb.alloc _,by omega,by decide,by decide⟩,⟨h1,h2,by omega,by simp,hs,by simp⟩,by simp,fun k => Iff.rfl⟩,m1.alloc _,fun k hk => by have := m1.size; omega⟩
end
open Go.RowKit
section
variable {w : World} {r g n : Nat} {i o : Int} {a : Nat} {laid : Bool} {cs : Array Value} {l : List (Int × Nat)}
theorem ringC_len (m : Nat) (h : RingIn 128 174 w r g n i o a laid cs) (hm : (i - o) % 4294967296 = m) :
  Calls Tryz.prog 92 #[.pointer (some ⟨r,0,none⟩)] w fun e w' => e = .returned (.int .i64 (m : Int))∧Drw w w' := by
 obtain ⟨c0,c1,c2,c3,c4⟩ := h.cells
 have hm2 : m < 4294967296 := by omega
 have HM := Lib.hid hm
 clear h hm
 go_enter Tryz.func92,Tryz.ntmps92
 go_wp2
 go_quiet (fail)
 go_wp2
 go_ret
 exact ⟨by rw [← HM.out]; rfl,Drw.drewN _ _⟩
theorem ringC_room (m : Nat) (h : RingIn 128 174 w r g n i o a false cs) (hm : (i - o) % 4294967296 = m) (hn : n ≤ 4096) :
  Calls Tryz.prog 144 #[.pointer (some ⟨r,0,none⟩)] w fun e w' => e = .returned (.int .i64 ((n : Int) - m))∧Drw w w' := by
 obtain ⟨c0,c1,c2,c3,c4⟩ := h.cells
 have hm2 : m < 4294967296 := by omega
 have HL := Lib.hid (fun w1 (hd : Drw w w1) => ringC_len m (h.later (hd.mod (fun _ => False)) (by simp) (by simp)) hm)
 clear h hm
 go_enter Tryz.func144,Tryz.ntmps144
 go_upto_region 3 with fail
 go_cut [3] (fun z w' => z = .int .i64 ((n : Int) - m)∧Drw w w')
 case first => as_aux_lemma =>
  go_region_held3 (fun w' => w'.cell? ⟨r,0,none⟩ = some (.slice (some ⟨g,0,none⟩) n n))
   (first | exact c0 | exact (d9.cell _).trans c0 | go_keep)
   ((go_at_call 92; refine (HL.out _ (Drw.drew _)).mono ?_; rintro e w9 ⟨rfl,d9⟩))
  all_goals go_wp2_with fail
  all_goals go_meet
  all_goals exact ⟨by simp [IntWalk.i64_in ((n : Int) - m) (by omega)],(Drw.drew _).trans d9⟩
 case rest =>
  obtain ⟨rfl,d1⟩ := hcut
  have c4 := (d1.cell ⟨r,4,none⟩).trans c4
  go_wp2
  go_ret
  exact ⟨rfl,d1⟩
theorem ringC_end (m : Nat) (h : RingIn 128 174 w r g n i o a laid cs) (hm : (i - o) % 4294967296 = m) (hn : n ≤ 4096) (hn1 : 1 ≤ n) (ha : a < n) :
  Calls Tryz.prog 205 #[.pointer (some ⟨r,0,none⟩)] w fun e w' => e = .returned (.int .i64 (((a + m) % n : Nat) : Int))∧Drw w w' := by
 obtain ⟨c0,c1,c2,c3,c4⟩ := h.cells
 have hm2 : m < 4294967296 := by omega
 have HL := Lib.hid (fun w1 (hd : Drw w w1) => ringC_len m (h.later (hd.mod (fun _ => False)) (by simp) (by simp)) hm)
 have e1 : ((a : Int) + m).tmod n = (((a + m) % n : Nat) : Int) := by
  rw [Int.tmod_eq_emod_of_nonneg (by omega)]
  push_cast
  rfl
 have HE := Lib.hid e1
 have hn0 : ((n : Int) == 0) = false := by simp; omega
 have hn2 : ¬ ((n : Int) = 0) := by omega
 have hn3 : ¬ n = 0 := by omega
 have hlt : (a + m) % n < n := Nat.mod_lt _ (by omega)
 clear h hm e1
 generalize (a + m) % n = z at HE hlt ⊢
 go_enter Tryz.func205,Tryz.ntmps205
 go_upto_region 1 with fail
 go_cut [2] (fun v w' => v = .int .i64 (z : Int)∧Drw w w')
 case first => as_aux_lemma =>
  go_region_held3 (fun w' => w'.cell? ⟨r,0,none⟩ = some (.slice (some ⟨g,0,none⟩) n n)∧w'.cell? ⟨r,3,none⟩ = some (.int .i64 (a : Int)))
   (first | exact ⟨c0,c3⟩ | exact ⟨(d9.cell _).trans c0,(d9.cell _).trans c3⟩ | go_keep)
   ((go_at_call 92; refine (HL.out _ (Drw.drew _)).mono ?_; rintro e w9 ⟨rfl,d9⟩))
  all_goals go_wp2_with fail
  all_goals go_meet
  all_goals exact ⟨by rw [IntWalk.i64_in ((a : Int) + m) (by omega),HE.out],(Drw.drew _).trans d9⟩
 case rest =>
  obtain ⟨rfl,d1⟩ := hcut
  go_wp2
  go_ret
  exact ⟨rfl,d1⟩
theorem ringC_lay (x : Int × Nat) (h : RingIn 128 174 w r g n i o a false cs) (ok : RingOk encC 2 n a cs l) (hl : (i - o) % 4294967296 = l.length) :
  Calls Tryz.prog 177 #[.pointer (some ⟨r,0,none⟩),.agg #[.int .i64 x.1,.int .u64 (x.2 : Int)]] w fun e w' =>
   (l.length = n∧e = .returned (.int .i64 7)∧Mod (fun _ => False) w w') ∨
   (l.length < n∧e = .returned (.int .i64 0)∧RingIn 128 174 w' r g n i o a true (putRow cs ((a + l.length) % n * 2) (encC x))∧Mod (fun k => k = r∨k = g) w w') := by
 have hz : (a + l.length) % n < n := Nat.mod_lt _ (by have := ok.n1; omega)
 have n1 := ok.n1
 have n2 := ok.n2
 have an := ok.an
 have ln := ok.ln
 have hRe : ∀ w1,Mod (fun _ => False) w w1→RingIn 128 174 w1 r g n i o a false cs := fun w1 m => h.later m (by simp) (by simp)
 have HRE := Lib.hid hRe
 have HRoom := Lib.hid (fun w1 (m : Mod (fun _ => False) w w1) => ringC_room l.length (hRe w1 m) hl n2)
 have HEnd := Lib.hid (fun w1 (m : Mod (fun _ => False) w w1) => ringC_end l.length (hRe w1 m) hl n2 n1 an)
 have rlt := h.blk.lt
 have glt := h.row.lt
 obtain ⟨z,hzz⟩ : ∃ z,(a + l.length) % n = z := ⟨_,rfl⟩
 rw [hzz] at hz HEnd ⊢
 obtain ⟨v0,hv0⟩ : ∃ v,cs[z * 2]? = some v := ⟨_,Array.getElem?_eq_getElem (by have := ok.lt hz (t := 0) (by decide); omega)⟩
 obtain ⟨v1,hv1⟩ : ∃ v,cs[z * 2 + 1]? = some v := ⟨_,Array.getElem?_eq_getElem (by have := ok.lt hz (t := 1) (by decide); omega)⟩
 have HV0 := Lib.hid hv0
 have HV1 := Lib.hid hv1
 obtain ⟨m,hm⟩ : ∃ m,l.length = m := ⟨_,rfl⟩
 rw [hm] at HRoom ln ⊢
 have kP := Blk.made w #[.int .i64 x.1,.int .u64 (x.2 : Int)] 128
 have m0 : Mod (fun _ => False) w (w.alloc (.cells #[.int .i64 x.1,.int .u64 (x.2 : Int)] 128)) := (Mod.refl _ _).alloc _
 clear ok hl hRe hm hzz hv0 hv1
 go_enter Tryz.func177,Tryz.ntmps177
 go_upto_region 1 with fail
 generalize w.alloc (.cells #[.int .i64 x.1,.int .u64 (x.2 : Int)] 128) = w0 at kP m0 ⊢
 have h0 := HRE.out _ m0
 obtain ⟨c0,c1,c2,c3,c4⟩ := h0.cells
 go_wp2_with fail
 refine (HRoom.out _ m0).mono ?_
 rintro e w1 ⟨rfl,d1⟩
 have m1 := m0.trans (d1.mod (fun _ => False)) (fun i hi e => e)
 have h1 := HRE.out _ m1
 clear c0 c1 c2 c3 c4 h0
 obtain ⟨c0,c1,c2,c3,c4⟩ := h1.cells
 by_cases hfull : m = n
 ·
  have q : (((n : Int) - m) == 0) = true := by rw [hfull]; simp
  have HF := Lib.hid hfull
  clear hfull
  go_wp2
  go_ret
  exact Or.inl ⟨HF.out,rfl,m1⟩
 ·
  have q : (((n : Int) - m) == 0) = false := by simp; omega
  have hlt : m < n := by omega
  clear hfull
  have b0 : (0 : Int) ≤ (z : Int) := by omega
  have b1 : (z : Int) < (n : Int) := by omega
  have k1 := kP.later (d1.mod (fun _ => False)) (by simp)
  go_upto_region 7 with fail
  go_cut [] (fun w' => RingIn 128 174 w' r g n i o a false (putRow cs (z * 2) (encC x))∧Mod (fun k => k = r∨k = g) w w')
  case first => as_aux_lemma =>
   have mdr : Mod (fun _ => False) w w1.drew := m1.drew
   go_region_held3 (fun w' => w'.cell? ⟨r,0,none⟩ = some (.slice (some ⟨g,0,none⟩) n n)∧w'.cell? ⟨w.heap.size,0,none⟩ = some (.int .i64 x.1)∧w'.cell? ⟨w.heap.size,1,none⟩ = some (.int .u64 (x.2 : Int)))
    (first | exact ⟨c0,k1.cell 0,k1.cell 1⟩ | exact ⟨e0,k9.cell 0,k9.cell 1⟩ | exact ⟨((H9.setRow (z * 2) (.int .i64 x.1)).setRow (z * 2 + 1) (.int .u64 (x.2 : Int))).cells.1,((k9.setOther (Nat.ne_of_gt glt) (.int .i64 x.1)).setOther (Nat.ne_of_gt glt) (.int .u64 (x.2 : Int))).cell 0,((k9.setOther (Nat.ne_of_gt glt) (.int .i64 x.1)).setOther (Nat.ne_of_gt glt) (.int .u64 (x.2 : Int))).cell 1⟩ | go_keep)
    ((go_at_call 205; refine (HEnd.out _ mdr).mono ?_; rintro e w9 ⟨rfl,d9⟩; have m9 : Mod (fun _ => False) w1 w9 := (Mod.refl (fun _ => False) w1).drew.trans (d9.mod (fun _ => False)) (fun i hi e => e); have k9 := k1.later m9 (by simp); have H9 := HRE.out _ (m1.trans m9 (fun i hi e => e)); have e0 := H9.cells.1; have y0 := (H9.row.cell (z * 2)).trans (by simpa using HV0.out); have f0 := H9.row.fz (z * 2); have y1 := (H9.row.cell (z * 2 + 1)).trans (by simpa using HV1.out); have f1 := H9.row.fz (z * 2 + 1)))
   all_goals go_wp2_with fail
   all_goals go_meet
   all_goals
    have hR := ((H9.setRow (z * 2) (.int .i64 x.1)).setRow (z * 2 + 1) (.int .u64 (x.2 : Int)))
    have hM := (m1.mono (S' := fun k => k = r∨k = g) (fun i hi e => e.elim)).trans ((m9.mono (S' := fun k => k = r∨k = g) (fun i hi e => e.elim)).trans (((Mod.refl (fun k => k = r∨k = g) w9).setCell (p := ⟨g,z * 2,none⟩) (Or.inl (Or.inr rfl)) (.int .i64 x.1)).setCell (p := ⟨g,z * 2 + 1,none⟩) (Or.inl (Or.inr rfl)) (.int .u64 (x.2 : Int))) (fun i hi e => e)) (fun i hi e => e)
    exact ⟨by simpa [putRow,encC] using hR,by simpa using hM⟩
  case rest =>
   obtain ⟨hR,hM⟩ := hcut
   obtain ⟨w2,rfl⟩ : ∃ wo : World,wo = wc := ⟨_,rfl⟩
   have c4 := hR.cells.2.2.2.2
   have z4 := hR.blk.fz 4
   have hF := hR.setLaid true
   have HF := Lib.hid hF
   clear hF c0 c1 c2 c3
   go_wp2
   go_ret
   exact Or.inr ⟨hlt,rfl,HF.out,hM.setCell (p := ⟨r,4,none⟩) (Or.inl (Or.inl rfl)) _⟩
theorem ringC_publish (h : RingIn 128 174 w r g n i o a true cs) :
  Calls Tryz.prog 178 #[.pointer (some ⟨r,0,none⟩)] w fun e w' => e = .returned (.int .i64 0)∧RingIn 128 174 w' r g n ((i + 1) % 4294967296) o a false cs∧Mod (fun k => k = r) w w' := by
 have hF := Lib.hid ((h.setI ((i + 1) % 4294967296) ⟨by omega,by omega⟩).setLaid false)
 obtain ⟨c0,c1,c2,c3,c4⟩ := h.cells
 have z1 := h.blk.fz 1
 have z4 := h.blk.fz 4
 clear h
 go_enter Tryz.func178,Tryz.ntmps178
 go_wp2
 go_ret
 exact ⟨rfl,hF.out,((Mod.refl (fun k => k = r) w).setCell (p := ⟨r,1,none⟩) (Or.inl rfl) _).setCell (p := ⟨r,4,none⟩) (Or.inl rfl) _⟩
theorem ringC_push {own : Nat→Prop} (x : Int × Nat) (h : RingAt encC 2 128 174 r n l w own) :
  Calls Tryz.prog 151 #[.pointer (some ⟨r,0,none⟩),.agg #[.int .i64 x.1,.int .u64 (x.2 : Int)]] w fun e w' =>
   (l.length = n∧e = .returned (.int .i64 7)∧Mod (fun _ => False) w w') ∨
   (l.length < n∧e = .returned (.int .i64 0)∧Turn own (RingAt encC 2 128 174 r n (l ++ [x])) w w') := by
 obtain ⟨g,i,o,a,cs,h,ok,hl,ho⟩ := h
 have hlt : r < w.heap.size∧g < w.heap.size := ⟨h.blk.lt,h.row.lt⟩
 have HL := Lib.hid (fun w1 (m : Mod (fun _ => False) w w1) => ringC_lay x (h.later m (by simp) (by simp)) ok hl)
 have hll := ok.ln
 have hn2 := ok.n2
 have HK := Lib.hid ok
 have HO := Lib.hid ho
 have HI := Lib.hid hl
 have HI0 := Lib.hid h.i0
 have HO0 := Lib.hid h.o0
 clear h ok ho hl
 go_enter Tryz.func151,Tryz.ntmps151
 go_wp2_with fail
 have m0 : Mod (fun _ => False) w (w.alloc (.cells #[.int .i64 x.1,.int .u64 (x.2 : Int)] 128)) := (Mod.refl _ _).alloc _
 generalize w.alloc (.cells #[.int .i64 x.1,.int .u64 (x.2 : Int)] 128) = w0 at m0 ⊢
 refine (HL.out _ m0).mono ?_
 rintro e w1 (⟨h1,rfl,m1⟩ | ⟨h1,rfl,hR,m1⟩)
 ·
  have HF := Lib.hid h1
  have mm := m0.trans m1 (fun i hi e => e)
  clear h1
  go_wp2
  go_ret
  exact Or.inl ⟨HF.out,rfl,mm⟩
 ·
  have HP := Lib.hid (ringC_publish hR)
  have mm := (m0.mono (S' := fun k => k = r∨k = g) (fun i hi e => e.elim)).trans m1 (fun i hi e => e)
  clear hR
  go_wp2_with fail
  refine HP.out.mono ?_
  rintro e w2 ⟨rfl,hR2,m2⟩
  have HR2 := Lib.hid hR2
  have mm2 := mm.trans m2 (fun i hi e => Or.inl e)
  clear hR2
  go_wp2
  go_ret
  refine Or.inr ⟨h1,rfl,own,⟨g,_,o,a,_,HR2.out,HK.out.push h1 x rfl,?_,HO.out⟩,mm2.mono (fun k hk e => (HO.out k).2 e),fun k hk => Or.inl hk⟩
  have := HI.out
  have := HI0.out
  have := HO0.out
  simp only [List.length_append,List.length_singleton]
  omega
theorem ringC_peek_none (h : RingIn 128 174 w r g n i o a laid cs) (hl : (i - o) % 4294967296 = 0) :
  Calls Tryz.prog 181 #[.pointer (some ⟨r,0,none⟩)] w fun e w' => e = .returned (.tuple #[.agg #[.int .i64 0,.int .u64 0],.int .i64 8])∧Mod (fun _ => False) w w' := by
 have q : (i == o) = true := by have := h.i0; have := h.o0; simp; omega
 obtain ⟨c0,c1,c2,c3,c4⟩ := h.cells
 have rlt := h.blk.lt
 clear h
 go_enter Tryz.func181,Tryz.ntmps181
 go_wp2
 go_quiet (fail)
 go_wp2
 have q := (((((Blk.made w #[.int .i64 0,.int .u64 0] 128).alloc (.cells #[.int .i64 0,.int .u64 0] 128)).drewN nq).set 0 (.int .i64 0)).set 1 (.int .u64 0))
 have mq := ((((((Mod.refl (fun _ => False) w).alloc (.cells #[.int .i64 0,.int .u64 0] 128)).alloc (.cells #[.int .i64 0,.int .u64 0] 128)).drewN nq).setCell (p := ⟨w.heap.size,0,none⟩) (Or.inr (by simp)) (.int .i64 0)).setCell (p := ⟨w.heap.size,1,none⟩) (Or.inr (by simp)) (.int .u64 0))
 simp at q
 generalize (((((w.alloc (.cells #[.int .i64 0,.int .u64 0] 128)).alloc (.cells #[.int .i64 0,.int .u64 0] 128)).drewN nq).setCell ⟨w.heap.size,0,none⟩ (.int .i64 0)).setCell ⟨w.heap.size,1,none⟩ (.int .u64 0)) = W at q mq ⊢
 have q0 := q.cell 0
 have q1 := q.cell 1
 simp at q0 q1
 exact bodyPost_ret (v := .tuple #[.agg #[.int .i64 0,.int .u64 0],.int .i64 8]) (by simp [results,Tryz.results181,go_sem,q0,q1]) rfl ⟨rfl,mq⟩
theorem ringC_peek_some (x : Int × Nat) (h : RingIn 128 174 w r g n i o a laid cs) (ok : RingOk encC 2 n a cs (x :: l)) (hl : (i - o) % 4294967296 ≠ 0) :
  Calls Tryz.prog 181 #[.pointer (some ⟨r,0,none⟩)] w fun e w' => e = .returned (.tuple #[.agg #[.int .i64 x.1,.int .u64 (x.2 : Int)],.int .i64 0])∧Mod (fun _ => False) w w' := by
 have q : (i == o) = false := by have := h.i0; have := h.o0; simp; omega
 obtain ⟨c0,c1,c2,c3,c4⟩ := h.cells
 have rlt := h.blk.lt
 have glt := h.row.lt
 have an := ok.an
 have n2 := ok.n2
 have h0 := (h.row.cell (a * 2 + 0)).trans (ok.head 0 (by decide))
 have h1 := (h.row.cell (a * 2 + 1)).trans (ok.head 1 (by decide))
 simp [encC] at h0 h1
 have b0 : (0 : Int) ≤ (a : Int) := by omega
 have b1 : (a : Int) < (n : Int) := by omega
 clear h ok
 go_enter Tryz.func181,Tryz.ntmps181
 go_upto_region 4 with fail
 go_quiet (fail)
 go_upto_region 6 with fail
 go_cut [3] (fun z w' => z = .int .i64 0∧Blk w' w.heap.size #[.int .i64 x.1,.int .u64 (x.2 : Int)] 128∧Mod (fun _ => False) w w')
 case first => as_aux_lemma =>
  go_region
  all_goals go_wp2_with fail
  all_goals go_meet
  all_goals exact ⟨rfl,by simpa using ((((Blk.made w #[.int .i64 0,.int .u64 0] 128).alloc (.cells #[.int .i64 0,.int .u64 0] 128)).drewN (nq + 1)).set 0 (.int .i64 x.1)).set 1 (.int .u64 (x.2 : Int)),(((((Mod.refl (fun _ => False) w).alloc (.cells #[.int .i64 0,.int .u64 0] 128)).alloc (.cells #[.int .i64 0,.int .u64 0] 128)).drewN (nq + 1)).setCell (p := ⟨w.heap.size,0,none⟩) (Or.inr (by simp)) (.int .i64 x.1)).setCell (p := ⟨w.heap.size,1,none⟩) (Or.inr (by simp)) (.int .u64 (x.2 : Int))⟩
 case rest =>
 obtain ⟨rfl,q9,mq⟩ := hcut
 have q0 := q9.cell 0
 have q1 := q9.cell 1
 simp at q0 q1
 clear h0
 go_wp2
 exact bodyPost_ret (v := .tuple #[.agg #[.int .i64 x.1,.int .u64 (x.2 : Int)],.int .i64 0]) (by simp [results,Tryz.results181,go_sem,q0,q1]) rfl ⟨rfl,mq⟩
theorem ringC_free (x : Int × Nat) (h : RingIn 128 174 w r g n i o a false cs) (ok : RingOk encC 2 n a cs (x :: l)) (hl : (i - o) % 4294967296 ≠ 0) :
  Calls Tryz.prog 182 #[.pointer (some ⟨r,0,none⟩)] w fun e w' => e = .returned (.int .i64 0)∧RingIn 128 174 w' r g n i ((o + 1) % 4294967296) ((a + 1) % n) false (putRow cs (a * 2) [.int .i64 0,.int .u64 0])∧Mod (fun k => k = r∨k = g) w w' := by
 have hRe : ∀ w1,Mod (fun _ => False) w w1→RingIn 128 174 w1 r g n i o a false cs := fun w1 m => h.later m (by simp) (by simp)
 have HRE := Lib.hid hRe
 have HPeek := Lib.hid (ringC_peek_some x h ok hl)
 have an := ok.an
 have n1 := ok.n1
 have n2 := ok.n2
 have rlt := h.blk.lt
 have glt := h.row.lt
 have e1 : (IntKind.i64.wrap ((a : Int) + 1)).tmod n = (((a + 1) % n : Nat) : Int) := by
  rw [IntWalk.i64_in _ (by omega),Int.tmod_eq_emod_of_nonneg (by omega)]
  push_cast
  rfl
 have HE := Lib.hid e1
 have e2 : ((a : Int) + 1) % n = (((a + 1) % n : Nat) : Int) := by
  push_cast
  rfl
 have HE2 := Lib.hid e2
 have hz : (a + 1) % n < n := Nat.mod_lt _ (by omega)
 generalize (a + 1) % n = z at HE HE2 hz ⊢
 have hn0 : ((n : Int) == 0) = false := by simp; omega
 have hn2 : ¬ ((n : Int) = 0) := by omega
 have hn3 : ¬ n = 0 := by omega
 obtain ⟨v0,hv0⟩ : ∃ v,cs[a * 2]? = some v := ⟨_,Array.getElem?_eq_getElem (by have := ok.lt ok.an (t := 0) (by decide); omega)⟩
 obtain ⟨v1,hv1⟩ : ∃ v,cs[a * 2 + 1]? = some v := ⟨_,Array.getElem?_eq_getElem (by have := ok.lt ok.an (t := 1) (by decide); omega)⟩
 have HV0 := Lib.hid hv0
 have HV1 := Lib.hid hv1
 clear h ok hl hRe e1 e2 hv0 hv1
 go_enter Tryz.func182,Tryz.ntmps182
 go_wp2_with fail
 refine HPeek.out.mono ?_
 rintro e w1 ⟨rfl,m1⟩
 go_upto_region 5 with fail
 have hkg : w1.heap.size + 1 ≠ g := by have := m1.size; omega
 have m5 := (m1.alloc (.cells #[.int .i64 x.1,.int .u64 (x.2 : Int)] 128)).alloc (.cells #[.int .i64 0,.int .u64 0] 128)
 have kz := Blk.made (w1.alloc (.cells #[.int .i64 x.1,.int .u64 (x.2 : Int)] 128)) #[.int .i64 0,.int .u64 0] 128
 simp only [World.size_alloc] at kz
 generalize (w1.alloc (.cells #[.int .i64 x.1,.int .u64 (x.2 : Int)] 128)).alloc (.cells #[.int .i64 0,.int .u64 0] 128) = w5 at m5 kz ⊢
 have kz0 := kz.cell 0
 have kz1 := kz.cell 1
 simp at kz0 kz1
 have h5 := HRE.out _ m5
 obtain ⟨c0,c1,c2,c3,c4⟩ := h5.cells
 have y0 := (h5.row.cell (a * 2)).trans (by simpa using HV0.out)
 have f0 := h5.row.fz (a * 2)
 have y1 := (h5.row.cell (a * 2 + 1)).trans (by simpa using HV1.out)
 have f1 := h5.row.fz (a * 2 + 1)
 have b0 : (0 : Int) ≤ (a : Int) := by omega
 have b1 : (a : Int) < (n : Int) := by omega
 go_cut [] (fun w' => RingIn 128 174 w' r g n i o a false (putRow cs (a * 2) [.int .i64 0,.int .u64 0])∧Mod (fun k => k = r∨k = g) w w')
 case first => as_aux_lemma =>
  go_region_held3 (fun w' => w'.cell? ⟨r,0,none⟩ = some (.slice (some ⟨g,0,none⟩) n n)∧w'.cell? ⟨r,3,none⟩ = some (.int .i64 (a : Int))∧w'.cell? ⟨w1.heap.size + 1,0,none⟩ = some (.int .i64 0)∧w'.cell? ⟨w1.heap.size + 1,1,none⟩ = some (.int .u64 0))
   (first | exact ⟨c0,c3,kz0,kz1⟩ | exact ⟨(((h5).setRow (a * 2) (.int .i64 0)).setRow (a * 2 + 1) (.int .u64 0)).cells.1,(((h5).setRow (a * 2) (.int .i64 0)).setRow (a * 2 + 1) (.int .u64 0)).cells.2.2.2.1,((kz.setOther hkg (.int .i64 0)).setOther hkg (.int .u64 0)).cell 0,((kz.setOther hkg (.int .i64 0)).setOther hkg (.int .u64 0)).cell 1⟩ | go_keep)
   ((fail))
  all_goals go_wp2_with fail
  all_goals go_meet
  all_goals exact ⟨by first | simpa [putRow] using ((h5.later ((Mod.refl (fun _ => False) w5).drew) (by simp) (by simp)).setRow (a * 2) (.int .i64 0)).setRow (a * 2 + 1) (.int .u64 0) | simpa [putRow] using (((h5).setRow (a * 2) (.int .i64 0)).setRow (a * 2 + 1) (.int .u64 0)).later ((Mod.refl (fun _ => False) _).drew) (by simp) (by simp),by first | exact (m5.mono (S' := fun k => k = r∨k = g) (fun i hi e => e.elim)).trans ((((Mod.refl (fun k => k = r∨k = g) w5).drew).setCell (p := ⟨g,a * 2,none⟩) (Or.inl (Or.inr rfl)) (.int .i64 0)).setCell (p := ⟨g,a * 2 + 1,none⟩) (Or.inl (Or.inr rfl)) (.int .u64 0)) (fun i hi e => e) | exact (m5.mono (S' := fun k => k = r∨k = g) (fun i hi e => e.elim)).trans (((((Mod.refl (fun k => k = r∨k = g) w5)).setCell (p := ⟨g,a * 2,none⟩) (Or.inl (Or.inr rfl)) (.int .i64 0)).setCell (p := ⟨g,a * 2 + 1,none⟩) (Or.inl (Or.inr rfl)) (.int .u64 0)).drew) (fun i hi e => e)⟩
 case rest =>
 obtain ⟨h6,m6⟩ := hcut
 obtain ⟨w6,rfl⟩ : ∃ wo : World,wo = wc := ⟨_,rfl⟩
 clear c0 c1 c2 c3 c4 h5 m5 y0 f0 y1 f1 kz kz0 kz1
 obtain ⟨c0,c1,c2,c3,c4⟩ := h6.cells
 have z3 := h6.blk.fz 3
 go_upto_region 6 with fail
 go_cut [] (fun w' => RingIn 128 174 w' r g n i o z false (putRow cs (a * 2) [.int .i64 0,.int .u64 0])∧Mod (fun k => k = r∨k = g) w w')
 case first => as_aux_lemma =>
  go_region
  all_goals go_wp2_with fail
  all_goals go_meet
  all_goals refine ⟨?_,?_⟩
  all_goals first | rw [HE2.out] | rw [HE.out]
  all_goals first
   | exact (h6.later ((Mod.refl (fun _ => False) w6).drew) (by simp) (by simp)).setA z
   | exact (h6.setA z).later ((Mod.refl (fun _ => False) _).drew) (by simp) (by simp)
   | exact (m6.drew).setCell (p := ⟨r,3,none⟩) (Or.inl (Or.inl rfl)) _
   | exact ((m6.setCell (p := ⟨r,3,none⟩) (Or.inl (Or.inl rfl)) _)).drew
 case rest =>
 obtain ⟨h7,m7⟩ := hcut
 obtain ⟨w7,rfl⟩ : ∃ wo : World,wo = wc := ⟨_,rfl⟩
 clear c0 c1 c2 c3 c4 z3 h6 m6
 obtain ⟨c0,c1,c2,c3,c4⟩ := h7.cells
 have z2 := h7.blk.fz 2
 have HF := Lib.hid (h7.setO ((o + 1) % 4294967296) ⟨by omega,by omega⟩)
 clear h7
 go_wp2
 go_ret
 exact ⟨rfl,HF.out,m7.setCell (p := ⟨r,2,none⟩) (Or.inl (Or.inl rfl)) _⟩
theorem ringC_pop_none {own : Nat→Prop} (h : RingAt encC 2 128 174 r n ([] : List (Int × Nat)) w own) :
  Calls Tryz.prog 154 #[.pointer (some ⟨r,0,none⟩)] w fun e w' => e = .returned (.tuple #[.agg #[.int .i64 0,.int .u64 0],.int .i64 8])∧Mod (fun _ => False) w w' := by
 obtain ⟨g,i,o,a,cs,h,ok,hl,ho⟩ := h
 have rlt := h.blk.lt
 have glt := h.row.lt
 have HPeek := Lib.hid (fun w1 (m : Mod (fun _ => False) w w1) => ringC_peek_none (h.later m (by simp) (by simp)) (by simpa using hl))
 clear h ok hl ho
 have kb := Blk.made w #[.int .i64 0,.int .u64 0] 128
 have m0 : Mod (fun _ => False) w (w.alloc (.cells #[.int .i64 0,.int .u64 0] 128)) := (Mod.refl _ _).alloc _
 go_enter Tryz.func154,Tryz.ntmps154
 go_wp2_with fail
 generalize w.alloc (.cells #[.int .i64 0,.int .u64 0] 128) = w0 at kb m0 ⊢
 refine (HPeek.out _ m0).mono ?_
 rintro e w1 ⟨rfl,m1⟩
 have k1 := (kb.later m1 (by simp)).alloc (.cells #[.int .i64 0,.int .u64 0] 128)
 have mm := (m0.trans m1 (by simp)).alloc (.cells #[.int .i64 0,.int .u64 0] 128)
 have hw1 : w.heap.size ≤ w1.heap.size := (m0.trans m1 (by simp)).size
 have hw2 := kb.lt
 have hw3 := m1.size
 have zc0 := k1.cell 0
 have zf0 := k1.fz 0
 have zc1 := k1.cell 1
 have zf1 := k1.fz 1
 simp at zc0 zc1
 go_wp2
 have q := ((k1.set 0 (.int .i64 0)).set 1 (.int .u64 0))
 have mq := ((mm.setCell (p := ⟨w.heap.size,0,none⟩) (Or.inr (Nat.le_refl _)) (.int .i64 0)).setCell (p := ⟨w.heap.size,1,none⟩) (Or.inr (Nat.le_refl _)) (.int .u64 0))
 simp at q
 generalize ((((w1.alloc (.cells #[.int .i64 0,.int .u64 0] 128)).setCell ⟨w.heap.size,0,none⟩ (.int .i64 0))).setCell ⟨w.heap.size,1,none⟩ (.int .u64 0)) = W at q mq ⊢
 have q0 := q.cell 0
 have q1 := q.cell 1
 simp at q0 q1
 exact bodyPost_ret (v := .tuple #[.agg #[.int .i64 0,.int .u64 0],.int .i64 8]) (by simp [results,Tryz.results154,go_sem,q0,q1]) rfl ⟨rfl,mq⟩
theorem ringC_pop {own : Nat→Prop} (x : Int × Nat) (h : RingAt encC 2 128 174 r n (x :: l) w own) :
  Calls Tryz.prog 154 #[.pointer (some ⟨r,0,none⟩)] w fun e w' => e = .returned (.tuple #[.agg #[.int .i64 x.1,.int .u64 (x.2 : Int)],.int .i64 0])∧Turn own (RingAt encC 2 128 174 r n l) w w' := by
 obtain ⟨g,i,o,a,cs,h,ok,hl,ho⟩ := h
 have rlt := h.blk.lt
 have glt := h.row.lt
 have hl0 : (i - o) % 4294967296 ≠ 0 := by rw [hl]; simp only [List.length_cons]; omega
 have HPeek := Lib.hid (fun w1 (m : Mod (fun _ => False) w w1) => ringC_peek_some x (h.later m (by simp) (by simp)) ok hl0)
 have HFree := Lib.hid (fun w1 (m : Mod (fun _ => False) w w1) => ringC_free x (h.later m (by simp) (by simp)) ok hl0)
 have HK := Lib.hid ok
 have HO := Lib.hid ho
 have HI := Lib.hid hl
 have HI0 := Lib.hid h.i0
 have HO0 := Lib.hid h.o0
 have HN2 := Lib.hid (show l.length < 4096 from by have := ok.ln; have := ok.n2; simp only [List.length_cons] at *; omega)
 clear h ok hl ho hl0
 have kb := Blk.made w #[.int .i64 0,.int .u64 0] 128
 have m0 : Mod (fun _ => False) w (w.alloc (.cells #[.int .i64 0,.int .u64 0] 128)) := (Mod.refl _ _).alloc _
 go_enter Tryz.func154,Tryz.ntmps154
 go_wp2_with fail
 generalize w.alloc (.cells #[.int .i64 0,.int .u64 0] 128) = w0 at kb m0 ⊢
 refine (HPeek.out _ m0).mono ?_
 rintro e w1 ⟨rfl,m1⟩
 have kx := Blk.made w1 #[.int .i64 x.1,.int .u64 (x.2 : Int)] 128
 have k2 := (kb.later m1 (by simp)).alloc (.cells #[.int .i64 x.1,.int .u64 (x.2 : Int)] 128)
 have m2 := (m0.trans m1 (by simp)).alloc (.cells #[.int .i64 x.1,.int .u64 (x.2 : Int)] 128)
 have hw1 : w.heap.size < w1.heap.size := by have := kb.lt; have := m1.size; omega
 go_wp2_with fail
 generalize w1.alloc (.cells #[.int .i64 x.1,.int .u64 (x.2 : Int)] 128) = w2 at kx k2 m2 ⊢
 refine (HFree.out _ m2).mono ?_
 rintro e w3 ⟨rfl,hR,m3⟩
 have k3 := k2.later m3 (by omega)
 have x3 := kx.later m3 (by omega)
 have m3 := (m2.mono (S' := fun k => k = r∨k = g) (fun i hi e => e.elim)).trans m3 (fun i hi e => e)
 have zc0 := k3.cell 0
 have zf0 := k3.fz 0
 have xc0 := x3.cell 0
 have zc1 := k3.cell 1
 have zf1 := k3.fz 1
 have xc1 := x3.cell 1
 simp at zc0 xc0 zc1 xc1
 have hR2 := hR.later (((Mod.refl (fun k => k = w.heap.size) w3).setCell (p := ⟨w.heap.size,0,none⟩) (Or.inl rfl) (.int .i64 x.1)).setCell (p := ⟨w.heap.size,1,none⟩) (Or.inl rfl) (.int .u64 (x.2 : Int))) (by omega) (by omega)
 have HR2 := Lib.hid hR2
 clear hR hR2
 go_wp2
 have q := ((k3.set 0 (.int .i64 x.1)).set 1 (.int .u64 (x.2 : Int)))
 have mq := ((m3.setCell (p := ⟨w.heap.size,0,none⟩) (Or.inr (Nat.le_refl _)) (.int .i64 x.1)).setCell (p := ⟨w.heap.size,1,none⟩) (Or.inr (Nat.le_refl _)) (.int .u64 (x.2 : Int)))
 simp at q
 generalize ((w3.setCell ⟨w.heap.size,0,none⟩ (.int .i64 x.1)).setCell ⟨w.heap.size,1,none⟩ (.int .u64 (x.2 : Int))) = W at q mq HR2 ⊢
 have q0 := q.cell 0
 have q1 := q.cell 1
 simp at q0 q1
 refine bodyPost_ret (v := .tuple #[.agg #[.int .i64 x.1,.int .u64 (x.2 : Int)],.int .i64 0]) (by simp [results,Tryz.results154,go_sem,q0,q1]) rfl ⟨rfl,own,⟨g,i,_,_,_,HR2.out,HK.out.pop _ rfl,?_,HO.out⟩,mq.mono (fun k hk e => (HO.out k).2 e),fun k hk => Or.inl hk⟩
 have h1 := HI.out
 have h2 := HI0.out
 have h3 := HO0.out
 have h4 := HN2.out
 simp only [List.length_cons] at h1
 omega
theorem ringC_made (w : World) (N : Nat) (hN : N ≤ 4096) : ∃ w' cs,(Instr.makeSlice 118 (.int .i64 (N : Int)) (.int .i64 (N : Int))).run Tryz.prog w = .ok (.slice (some ⟨w.heap.size,0,none⟩) N N) w'∧Blk w' w.heap.size cs 128∧cs.size = N * 2∧Mod (fun _ => False) w w' := by
 obtain ⟨i,hi,hz,hsize,hby⟩ := info_parts (show (Tryz.prog.info? 128).map (fun i => (i.zero,i.size,i.bytes)) = some (some (.agg #[.int .i64 0,.int .u64 0]),2,16) by kernel_rfl)
 obtain ⟨w',hr,ho,hg⟩ := run_makeSlice_full (P := Tryz.prog) w w.heap.size 118 128 i (.agg #[.int .i64 0,.int .u64 0]) 2 Tryz.underlying118 hi hz hsize .i64 .i64 N (by omega) (by rw [hby]; omega) (by unfold maxLen; omega) (Nat.le_refl _)
 rcases ho.2 with ⟨h,-⟩ | ⟨g',cap,cur,hv,-,hh,-,-,hs,ht⟩
 ·
  cases h
 ·
  simp only [Value.slice.injEq,Option.some.injEq,Addr.mk.injEq,and_true,true_and] at hv
  obtain ⟨rfl,rfl⟩ := hv
  exact ⟨w',cur,hr,hh,hs,(Mod.refl _ w).grown hg (fun k hk => by cases hk)⟩
theorem ringC_new (w : World) (N : Nat) (h1 : 1 ≤ N) (h2 : N ≤ 4096) :
  Calls Tryz.prog 122 #[.int .i64 (N : Int),.int .u32 0] w fun e w' => ∃ r,e = .returned (.pointer (some ⟨r,0,none⟩))∧Made (RingAt encC 2 128 174 r N []) w w' := by
 obtain ⟨w1,cs,hr,hb,hs,m1⟩ := ringC_made w N h2
 have q1 : ¬ (N : Int) < 1 := by omega
 have q2 : ¬ (4096 : Int) < (N : Int) := by omega
 have q3 : (N : Int) ≤ 4096 := by omega
 have q4 : (1 : Int) ≤ (N : Int) := by omega
 have q5 : max (N : Int) 1 = (N : Int) := by omega
 have q6 : min (N : Int) 4096 = (N : Int) := by omega
 go_enter Tryz.func122,Tryz.ntmps122
 go_wp2
 go_ret
 have hlt := hb.lt
 have hk := Blk.made w1 #[.slice (some ⟨w.heap.size,0,none⟩) N N,.int .u32 0,.int .u32 0,.int .i64 0,.bool false] 174
 exact ⟨w1.heap.size,rfl,fun k => k = w1.heap.size∨k = w.heap.size,⟨w.heap.size,0,0,0,cs,⟨hk,hb.alloc _,by omega,by decide,by decide⟩,⟨h1,h2,by omega,by simp,hs,by simp⟩,by simp,fun k => Iff.rfl⟩,m1.alloc _,fun k hk => by have := m1.size; omega⟩
end
end Go.Proofs.YtfiklfkfbcpmgaaGreat
