/- The walk of FairTurns. -/
import Derived.Test.YtpcjhkkinmfjlaaFairD
import Derived.Test.YtpcjhkkinmfjlaaFairE
import Derived.Test.YtpcjhkkinmfjlaaFairF
namespace Go.Proofs.Ytpcjhkkinmfjlaa
open Go.RowKit

/-- Two numbers in memory. -/
def FairB (w : World) (b : Nat) (places last : Int) (t : TypeId) : Prop := w.heap[b]? = some (.cells #[.int .i64 places, .int .i64 last] t)
theorem FairB.ne {w : World} {b B off : Nat} {places last : Int} {t : TypeId} {x : Value} (hf : FairB w b places last t) (hx : ∀ y, x ≠ .int .i64 y) (h : w.cell? ⟨B, off, none⟩ = some x) : B ≠ b := by
  rintro rfl
  simp only [FairB] at hf
  simp only [World.cell?, hf] at h
  match off, h with
  | 0, h => simp at h; exact hx _ h.symm
  | 1, h => simp at h; exact hx _ h.symm
  | n + 2, h => simp at h
theorem SlV.fairs2 {w w' : World} {v : Value} {xs : List Value} {F G : Nat} {p l q m : Int} {t : TypeId} (h : SlV w v xs) (hm : Mod (fun k => k = F ∨ k = G) w w') (hf : FairAt w F p l) (hg : FairB w G q m t)
    (hx : ∀ x ∈ xs, ∀ y, x ≠ .int .i64 y) : SlV w' v xs :=
  h.later' hm (fun B off x hxs hc hS => by
    rcases hS with e | e
    · exact hf.ne (hx x hxs) hc e
    · exact hg.ne (hx x hxs) hc e)

set_option maxHeartbeats 400000 in
theorem ref12_next (places last : Int) (v : Value) (l : List Bool) (w : World) (hfit : Fit places last) (hs : SlV w v (l.map Value.bool)) :
    Calls Try.prog 20 #[.agg #[.int .i64 places, .int .i64 last], v] w fun e w' =>
      e = .returned (.tuple #[.agg #[.int .i64 places, .int .i64 ((seeR places last (ansL places last l)).getD last)], .int .i64 ((seeR places last (ansL places last l)).getD 0), .bool (seeR places last (ansL places last l)).isSome]) ∧ Below w.heap.size w w' := by
  obtain ⟨a, n, c, rfl, hn, hc, hm, -⟩ := id hs
  have HS := Lib.hid hs
  clear hs hn hm hc
  go_enter Try.func20, Try.ntmps20
  go_wp2_with fail
  have m0 : Mod (fun _ => False) w ((w.alloc (.cells #[.int .i64 places, .int .i64 last] 27)).alloc (.cells #[.int .i64 0, .int .i64 0] 27)) := ((Mod.refl _ w).alloc _).alloc _
  refine (ref12_see places last _ l _ hfit (HS.out.later m0 (by simp))).mono ?_
  rintro e w2 ⟨rfl, b2⟩
  have m2 := Mod.of_below b2 rfl (fun _ => False)
  have k0 := ((Blk.made w #[.int .i64 places, .int .i64 last] 27).alloc (.cells #[.int .i64 0, .int .i64 0] 27)).later m2 (by simp)
  have k1 := (Blk.made (w.alloc (.cells #[.int .i64 places, .int .i64 last] 27)) #[.int .i64 0, .int .i64 0] 27).later m2 (by simp)
  simp only [World.size_alloc] at k1
  have c0 := k0.cell 0
  have c1 := k0.cell 1
  have d0 := k1.cell 0
  have d1 := k1.cell 1
  have z0 := k0.fz 0
  have z1 := k0.fz 1
  have y0 := k1.fz 0
  have y1 := k1.fz 1
  simp at c0 c1 d0 d1
  have sz := m2.size
  simp at sz
  have mm := m0.trans m2 (by simp)
  clear m0 m2 b2
  cases hr : seeR places last (ansL places last l) with
  | none =>
    have HR := Lib.hid hr
    clear hr
    simp only [Option.getD_none, Option.isSome_none]
    go_wp2
    have q := (k1.set 0 (.int .i64 places)).set 1 (.int .i64 last)
    have mq := (mm.setCell (p := ⟨w.heap.size + 1, 0, none⟩) (Or.inr (by simp)) (.int .i64 places)).setCell (p := ⟨w.heap.size + 1, 1, none⟩) (Or.inr (by simp)) (.int .i64 last)
    simp at q
    generalize (w2.setCell ⟨w.heap.size + 1, 0, none⟩ (.int .i64 places)).setCell ⟨w.heap.size + 1, 1, none⟩ (.int .i64 last) = W at q mq ⊢
    have q0 := q.cell 0
    have q1 := q.cell 1
    simp at q0 q1
    exact bodyPost_ret (v := .tuple #[.agg #[.int .i64 places, .int .i64 last], .int .i64 0, .bool false]) (by simp [results, Try.results20, go_sem, q0, q1]) rfl ⟨by rw [HR.out]; rfl, mq.below⟩
  | some r =>
    have HR := Lib.hid hr
    clear hr
    simp only [Option.getD_some, Option.isSome_some]
    go_wp2
    have q := ((k1.setOther (a := ⟨w.heap.size, 1, none⟩) (by simp) (.int .i64 r)).set 0 (.int .i64 places)).set 1 (.int .i64 r)
    have mq := ((mm.setCell (p := ⟨w.heap.size, 1, none⟩) (Or.inr (by simp)) (.int .i64 r)).setCell (p := ⟨w.heap.size + 1, 0, none⟩) (Or.inr (by simp)) (.int .i64 places)).setCell (p := ⟨w.heap.size + 1, 1, none⟩) (Or.inr (by simp)) (.int .i64 r)
    simp at q
    generalize ((w2.setCell ⟨w.heap.size, 1, none⟩ (.int .i64 r)).setCell ⟨w.heap.size + 1, 0, none⟩ (.int .i64 places)).setCell ⟨w.heap.size + 1, 1, none⟩ (.int .i64 r) = W at q mq ⊢
    have q0 := q.cell 0
    have q1 := q.cell 1
    simp at q0 q1
    exact bodyPost_ret (v := .tuple #[.agg #[.int .i64 places, .int .i64 r], .int .i64 r, .bool true]) (by simp [results, Try.results20, go_sem, q0, q1]) rfl ⟨by rw [HR.out]; rfl, mq.below⟩

set_option maxRecDepth 100000 in
set_option maxHeartbeats 4000000 in
theorem walk_FairTurns {w : World} (a0 : Int) (w0 : (Lit.int .i64 a0).wf = true) (v : Value) (vs : List Value) (l : List (List Bool)) (hv : SlV w v vs) (_ : vs.length ≤ maxLen) (hl : l.length = vs.length)
    (hr : ∀ i, i < vs.length → SlV w (vs.getD i undef) ((l.getD i []).map Value.bool) ∧ (l.getD i []).length ≤ maxLen) :
    Calls Try.prog 3 #[.int .i64 a0, v] w fun e w' => e = .returned (.bool true) ∧ Below w.heap.size w w' := by
  have hrows : Rows2 w v vs l := ⟨hv, hl, fun i hi => (hr i hi).1⟩
  clear hv hl hr w0
  go_enter Try.func3, Try.ntmps3
  go_wp2_with fail
  refine (fair_lives w).mono ?_
  rintro e w1 ⟨rfl, b1⟩
  have m1 : Mod (fun _ => False) w w1 := Mod.of_below b1 rfl _
  clear b1
  go_wp2_with fail
  refine (fair_new _ w1).mono ?_
  rintro e w2 ⟨rfl, hw2⟩
  have f2 : FairAt w2 w1.heap.size (nPl a0) (-1) := hw2 ▸ FairAt.made _ _ _
  have m2 : Mod (fun _ => False) w w2 := m1.trans (hw2 ▸ (Mod.refl (fun _ => False) w1).alloc _) (by simp)
  have s2 := f2.lt
  have s1 := m1.size
  clear hw2 m1
  go_wp2_with fail
  refine (ref12_new _ w2).mono ?_
  rintro e w3 ⟨rfl, b3⟩
  have m23 := Mod.of_below b3 rfl (fun _ => False)
  have f3 := f2.later m23 (by simp)
  have m3 := m2.trans m23 (by simp)
  have s3 := m23.size
  clear b3 m23 m2 f2
  go_wp2_with fail
  have k4 := Blk.made w3 #[.int .i64 (nPl a0), .int .i64 (-1)] 27
  have m34 : Mod (fun _ => False) w3 (w3.alloc (.cells #[.int .i64 (nPl a0), .int .i64 (-1)] 27)) := (Mod.refl _ _).alloc _
  refine (run_few v vs l _ (hrows.later (m3.trans m34 (by simp)))).mono ?_
  rintro e w4 ⟨v', vs', rfl, m4', hrows4, h40⟩
  have f4 := (f3.later m34 (by simp)).later m4' (by simp)
  have g4 := k4.later m4' (by simp)
  have m4 := m3.trans (m34.trans m4' (by simp)) (by simp)
  have s4 := g4.lt
  clear m3 m34 m4' f3 k4 hrows
  generalize (l.take 40).map (·.take 20) = ll at hrows4
  obtain ⟨h1, h2, h3⟩ := hrows4
  obtain ⟨a, n, c, rfl, hn, hnc, hm, -⟩ := id h1
  have H1 := Lib.hid h1
  have H2 := Lib.hid h2
  have H3 := Lib.hid h3
  rw [hn] at h40
  have HN := Lib.hid hn
  clear h1 h2 h3 hn hm
  obtain ⟨F, hF⟩ : ∃ F, F = w1.heap.size := ⟨_, rfl⟩
  obtain ⟨G, hG⟩ : ∃ G, G = w3.heap.size := ⟨_, rfl⟩
  have hFG : F < G ∧ G < w4.heap.size ∧ w.heap.size ≤ F := by omega
  rw [← hF] at f4 ⊢
  rw [← hG] at g4 ⊢
  clear hF hG s1 s2 s4 s3
  go_wp2
  go_loopw [7] (fun i wr => ∃ (k : Nat) (last : Int), k ≤ n ∧ i = .int .i64 k ∧ Fit (nPl a0) last ∧ FairAt wr F (nPl a0) last ∧ Blk wr G #[.int .i64 (nPl a0), .int .i64 last] 27 ∧ Mod (fun k => k = F ∨ k = G) w4 wr) (fun i _ => n - (intOf i).toNat)
  case atStart => exact ⟨0, -1, by omega, rfl, fit_new a0, f4, g4, Mod.refl _ _⟩
  case round =>
    obtain ⟨k, last, hk, rfl, hfit, hf, hg, hmod⟩ := hrel
    by_cases hlt : k < n
    · obtain ⟨B, off, rfl, hB, hcell⟩ := H1.out.at k hlt
      have hrow := H3.out k (by have := HN.out; omega)
      obtain ⟨ar, nr, cr, hvr, hnr, hcr, hmr, -⟩ := id hrow
      rw [hvr] at hcell hrow
      have hBF := f4.ne (by simp) hcell
      have hBG := (show FairB w4 G (nPl a0) (-1) _ from g4).ne (by simp) hcell
      have hrow := hrow.fairs2 hmod f4 g4 (bools_ne _)
      have hcell := (hmod.cell (p := ⟨B, off + k, none⟩) hB (by simp; omega)).trans hcell
      have hBr := Nat.lt_of_lt_of_le hB hmod.size
      generalize ll.getD k [] = row at hrow
      have HW := Lib.hid hrow
      clear hrow hvr hnr hmr hcr
      obtain ⟨r, hr⟩ : ∃ r, r = seeR (nPl a0) last (ansL (nPl a0) last row) := ⟨_, rfl⟩
      have HR := Lib.hid hr
      clear hr
      go_wp2_with fail
      refine (run_at _ _ _ _).mono ?_
      rintro e w5 ⟨rfl, hw5⟩
      have m5 : Mod (fun _ => False) wr w5 := hw5 ▸ (Mod.refl _ _).alloc _
      have c5 : w5.cell? ⟨wr.heap.size, 0, none⟩ = some (.slice ar nr cr) := by rw [hw5]; simp
      clear hw5
      go_wp2_with fail
      refine (fair_see_at F (nPl a0) last _ _ row _ (hf.later m5 (by simp)) hfit c5 (HW.out.later m5 (by simp))).mono ?_
      rw [← HR.out]
      rintro e w6 ⟨rfl, d6⟩
      have m6 := m5.trans (d6.mod (fun _ => False)) (by simp)
      have hcell6 := (m6.cell (p := ⟨B, off + k, none⟩) hBr (by simp)).trans hcell
      have hg6 := hg.later m6 (by simp)
      have hf6 := hf.later m6 (by simp)
      have hB6 := Nat.lt_of_lt_of_le hBr m6.size
      clear m5 c5 d6
      have q0 := hg6.cell 0
      have q1 := hg6.cell 1
      simp at q0 q1
      have hk0 : (0 : Int) ≤ (k : Int) := by omega
      have hk1 : (k : Int) < (n : Int) := by omega
      go_wp2_with fail
      go_region_held3 (fun w' => w'.cell? ⟨G, 0, none⟩ = some (.int .i64 (nPl a0)) ∧ w'.cell? ⟨G, 1, none⟩ = some (.int .i64 last) ∧ w'.cell? ⟨B, off + k, none⟩ = some (.slice ar nr cr))
        (first
          | go_keep
          | (go_split_ands; exact ⟨by rw [m7.cell hg6.lt (by simp)]; assumption, by rw [m7.cell hg6.lt (by simp)]; assumption, by rw [m7.cell (by simp; omega) (by simp)]; assumption⟩))
        ((go_at_call 15; refine (ref12_see (nPl a0) last _ row _ hfit ((HW.out.later m6 (by simp)).later ((Mod.refl (fun _ => False) w6).drew) (by simp))).mono ?_; rw [← HR.out]; rintro e w7 ⟨rfl, b7⟩; have m7 := Mod.of_below b7 rfl (fun _ => False)))
      have hm7 := m6.drew.trans m7 (by simp)
      have hg7 := hg.later hm7 (by simp)
      have hf7 := hf.later hm7 (by simp)
      have l7 := hf7.c1
      have p7 := hf7.c0
      have r7 := hg7.cell 0
      have t7 := hg7.cell 1
      simp at r7 t7
      have hcell7 := (hm7.cell (p := ⟨B, off + k, none⟩) hBr (by simp)).trans hcell
      rename_i hHeld
      clear m6 hcell6 hg6 hf6 q0 q1 m7 b7 hHeld
      go_wp2_with fail
      go_quiet ((first | (go_at_call 16; exact Calls.quiet_of_same (fair_last _ _ _ l7)) | (go_at_call 17; exact Calls.quiet_of_same (fair_places _ _ _ p7))))
      have hm8 := hm7.drewN nq
      have hg8 := hg7.drewN nq
      have hf8 : FairAt (w7.drewN nq) F (nPl a0) last := hf7
      have hcell8 : (w7.drewN nq).cell? ⟨B, off + k, none⟩ = some (.slice ar nr cr) := hcell7
      have hrow8 := HW.out.later hm8 (by simp)
      generalize w7.drewN nq = w8 at hm8 hg8 hf8 hcell8 hrow8 ⊢
      have HW8 := Lib.hid hrow8
      clear hm7 hg7 hf7 l7 p7 r7 t7 hcell7 hrow8
      go_wp2_with fail
      all_goals
        first
        | (go_at_call 18
           refine (fair_of F (nPl a0) last _ row _ hf8 hfit HW8.out).mono ?_
           rw [← HR.out]
           rintro e w10 ⟨rfl, m10', f10⟩
           have m10 : Mod (· = F) w8 w10 := m10')
        | (go_at_call 14
           refine (run_at _ _ _ _).mono ?_
           rintro e w9 ⟨rfl, hw9⟩
           have m9 : Mod (fun _ => False) w8 w9 := hw9 ▸ (Mod.refl _ _).alloc _
           have c9 : w9.cell? ⟨w8.heap.size, 0, none⟩ = some (.slice ar nr cr) := by rw [hw9]; simp
           clear hw9
           go_wp2_with fail
           refine (fair_next_at F (nPl a0) last _ _ row _ (hf8.later m9 (by simp)) hfit c9 (HW8.out.later m9 (by simp))).mono ?_
           rw [← HR.out]
           rintro e w10 ⟨rfl, m10', f10⟩
           have m10 : Mod (· = F) w8 w10 := m9.trans' m10' (by simp) (fun _ _ h => h)
           clear m9 c9)
        have n10 : Mod (fun k => k = F ∨ k = G) wr w10 := hm8.trans' m10 (by simp) (fun _ _ h => Or.inl h)
        have g10 := hg8.later m10 (by omega)
        have hrow10 := HW.out.fairs2 n10 hf hg (bools_ne _)
        have hcell10 := (n10.cell (p := ⟨B, off + k, none⟩) hBr (by simp; omega)).trans hcell
        have hB10 := Nat.lt_of_lt_of_le hBr n10.size
        have HW10 := Lib.hid hrow10
        have q0 := g10.cell 0
        have q1 := g10.cell 1
        simp at q0 q1
        have hG10 := g10.lt
        clear m10' m10 hm8 hrow10 HW8 hg8 hf8 hcell8
        go_upto_region 17 with fail
        go_cut [14, 15, 16] (fun p x y w' => ∃ N : Nat, p = .pointer (some ⟨N, 0, none⟩) ∧ x = .int .i64 (r.getD 0) ∧ y = .bool r.isSome ∧ Blk w' N #[.int .i64 (nPl a0), .int .i64 (r.getD last)] 27 ∧ w10.heap.size ≤ N ∧ Mod (fun _ => False) w10 w')
        case first =>
          go_region_with ((go_at_call 20; refine (ref12_next (nPl a0) last _ row _ hfit (HW10.out.later (S := fun _ => False) (by first | exact (Mod.refl _ _).drew | exact ((Mod.refl _ _).alloc _).drew) (by simp))).mono ?_; rw [← HR.out]; rintro e w11 ⟨rfl, b11⟩; have m11 := (show Mod (fun _ => False) w10 _ from (by first | exact (Mod.refl _ _).drew | exact ((Mod.refl _ _).alloc _).drew)).trans (Mod.of_below b11 rfl (fun _ => False)) (by simp); try ((have kk := (Blk.made w10 #[.int .i64 0, .int .i64 0] 27).drew.later (w' := w11) (S := fun _ => False) (Mod.of_below b11 rfl (fun _ => False)) (fun h => h); have e0 : w11.cell? ⟨w10.heap.size, 0, none⟩ = some (.int .i64 0) := kk.cell 0; have e1 : w11.cell? ⟨w10.heap.size, 1, none⟩ = some (.int .i64 0) := kk.cell 1; have z0 := kk.fz 0; have z1 := kk.fz 1; have lk := kk.lt)); have hG11 := Nat.lt_of_lt_of_le g10.lt m11.size; have hB11 := Nat.lt_of_lt_of_le hB10 m11.size))
          all_goals go_wp2_with fail
          all_goals go_meet
          all_goals first
            | exact ⟨w11.heap.size, rfl, rfl, rfl, Blk.made _ _ _, by have := m11.size; omega, m11.alloc _⟩
            | exact ⟨w10.heap.size, rfl, rfl, rfl, by simpa using (kk.set 0 (.int .i64 (nPl a0))).set 1 (.int .i64 (r.getD last)), Nat.le_refl _, (m11.setCell (Or.inr (Nat.le_refl _)) _).setCell (Or.inr (Nat.le_refl _)) _⟩
        case rest =>
          obtain ⟨N, rfl, rfl, rfl, hN, hNs, hmN⟩ := hcut
          have gN := g10.later hmN (by simp)
          have fN := f10.later hmN (by simp)
          have nN := n10.trans hmN (by simp)
          have v0 := hN.cell 0
          have v1 := hN.cell 1
          have u0 := gN.cell 0
          have u1 := gN.cell 1
          simp at v0 v1 u0 u1
          have y0 := gN.fz 0
          have y1 := gN.fz 1
          have hNG : N ≠ G := by omega
          clear q0 q1 hcell10 HW10 n10
          go_wp2_with fail
          have g13 := (gN.set 0 (.int .i64 (nPl a0))).set 1 (.int .i64 (r.getD last))
          have f13 := fN.later (((Mod.refl (· = G) wc).setCell (p := ⟨G, 0, none⟩) (Or.inl rfl) (.int .i64 (nPl a0))).setCell (p := ⟨G, 1, none⟩) (Or.inl rfl) (.int .i64 (r.getD last))) (by omega)
          have n13 := (nN.setCell (p := ⟨G, 0, none⟩) (Or.inl (Or.inr rfl)) (.int .i64 (nPl a0))).setCell (p := ⟨G, 1, none⟩) (Or.inl (Or.inr rfl)) (.int .i64 (r.getD last))
          simp at g13
          have hfit' : Fit (nPl a0) (r.getD last) := by rw [HR.out]; exact hfit.next _
          generalize (wc.setCell ⟨G, 0, none⟩ (.int .i64 (nPl a0))).setCell ⟨G, 1, none⟩ (.int .i64 (r.getD last)) = w13 at g13 f13 n13 ⊢
          have c1 := f13.c1
          have q1 := g13.cell 1
          simp at q1
          clear v0 v1 u0 u1 y0 y1
          go_quiet ((go_at_call 16; exact Calls.quiet_of_same (fair_last _ _ _ c1)))
          go_wp2
          go_roundw
          case rel => exact ⟨k + 1, r.getD last, by omega, by go_num, hfit', f13, g13, hmod.trans (n13.drewN _) (fun _ _ h => h)⟩
          case measure => simp [intOf]; omega
    · go_wp2
      go_ret
      exact ⟨rfl, (m4.trans (S := fun _ => False) hmod (fun i hi h => by omega)).below⟩

end Go.Proofs.Ytpcjhkkinmfjlaa
