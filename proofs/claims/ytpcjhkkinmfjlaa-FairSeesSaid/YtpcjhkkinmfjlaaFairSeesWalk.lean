/- The walk of FairSees. -/
import Derived.Test.YtpcjhkkinmfjlaaFairE
import Derived.Test.YtpcjhkkinmfjlaaFairF
namespace Go.Proofs.Ytpcjhkkinmfjlaa
open Go.RowKit

set_option maxRecDepth 100000 in
set_option maxHeartbeats 1600000 in
theorem walk_FairSees {w : World} (a0 : Int) (w0 : (Lit.int .i64 a0).wf = true) (v : Value) (vs : List Value) (l : List (List Bool)) (hv : SlV w v vs) (_ : vs.length ≤ maxLen) (hl : l.length = vs.length)
    (hr : ∀ i, i < vs.length → SlV w (vs.getD i undef) ((l.getD i []).map Value.bool) ∧ (l.getD i []).length ≤ maxLen) :
    Calls Try.prog 8 #[.int .i64 a0, v] w fun e w' => e = .returned (.bool true) ∧ Below w.heap.size w w' := by
  have hrows : Rows2 w v vs l := ⟨hv, hl, fun i hi => (hr i hi).1⟩
  clear hv hl hr w0
  go_enter Try.func8, Try.ntmps8
  go_wp2_with fail
  refine (fair_lives w).mono ?_
  rintro e w1 ⟨rfl, b1⟩
  have m1 : Mod (fun _ => False) w w1 := Mod.of_below b1 rfl _
  clear b1
  go_wp2_with fail
  refine (fair_new _ w1).mono ?_
  rintro e w2 ⟨rfl, hw2⟩
  have f2 : FairAt w2 w1.heap.size (nPl a0) (-1) := hw2 ▸ FairAt.made _ _ _
  have m2 : Mod (fun _ => False) w w2 := m1.trans (hw2 ▸ (Mod.refl (fun _ => False) w1).alloc _) (by simp)
  have s2 := f2.lt
  have s1 := m1.size
  clear hw2 m1
  go_wp2_with fail
  refine (fair_new _ w2).mono ?_
  rintro e w3 ⟨rfl, hw3⟩
  have g3 : FairAt w3 w2.heap.size (nPl a0) (-1) := hw3 ▸ FairAt.made _ _ _
  have m23 : Mod (fun _ => False) w2 w3 := hw3 ▸ (Mod.refl (fun _ => False) w2).alloc _
  have f3 := f2.later m23 (by simp)
  have m3 := m2.trans m23 (by simp)
  clear hw3 m23 m2 f2
  go_wp2_with fail
  refine (run_few v vs l w3 (hrows.later m3)).mono ?_
  rintro e w4 ⟨v', vs', rfl, m34, hrows4, h40⟩
  have f4 := f3.later m34 (by simp)
  have g4 := g3.later m34 (by simp)
  have m4 := m3.trans m34 (by simp)
  have s4 := g3.lt
  clear m3 m34 f3 g3 hrows
  generalize (l.take 40).map (·.take 20) = ll at hrows4
  obtain ⟨h1, h2, h3⟩ := hrows4
  obtain ⟨a, n, c, rfl, hn, hnc, hm, -⟩ := id h1
  have H1 := Lib.hid h1
  have H2 := Lib.hid h2
  have H3 := Lib.hid h3
  rw [hn] at h40
  have HN := Lib.hid hn
  clear h1 h2 h3 hn hm
  obtain ⟨F, hF⟩ : ∃ F, F = w1.heap.size := ⟨_, rfl⟩
  obtain ⟨G, hG⟩ : ∃ G, G = w2.heap.size := ⟨_, rfl⟩
  have hFG : F < G ∧ G < w4.heap.size ∧ w.heap.size ≤ F := by have := g4.lt; omega
  rw [← hF] at f4 ⊢
  rw [← hG] at g4 ⊢
  clear hF hG s1 s2 s4
  go_wp2
  go_loopw [7] (fun i wr => ∃ (k : Nat) (last : Int), k ≤ n ∧ i = .int .i64 k ∧ Fit (nPl a0) last ∧ FairAt wr F (nPl a0) last ∧ FairAt wr G (nPl a0) last ∧ Mod (fun k => k = F ∨ k = G) w4 wr) (fun i _ => n - (intOf i).toNat)
  case atStart => exact ⟨0, -1, by omega, rfl, fit_new a0, f4, g4, Mod.refl _ _⟩
  case round =>
    obtain ⟨k, last, hk, rfl, hfit, hf, hg, hmod⟩ := hrel
    by_cases hlt : k < n
    · obtain ⟨B, off, rfl, hB, hcell⟩ := H1.out.at k hlt
      have hrow := H3.out k (by have := HN.out; omega)
      obtain ⟨ar, nr, cr, hvr, hnr, hcr, hmr, -⟩ := id hrow
      rw [hvr] at hcell hrow
      have hBF := f4.ne (by simp) hcell
      have hBG := g4.ne (by simp) hcell
      have hrow := hrow.fairs hmod f4 g4 (bools_ne _)
      have hcell := (hmod.cell (p := ⟨B, off + k, none⟩) hB (by simp; omega)).trans hcell
      have hBr := Nat.lt_of_lt_of_le hB hmod.size
      generalize ll.getD k [] = row at hrow
      have HW := Lib.hid hrow
      clear hrow hvr hnr hmr hcr
      obtain ⟨r, hr⟩ : ∃ r, r = seeR (nPl a0) last (ansL (nPl a0) last row) := ⟨_, rfl⟩
      have HR := Lib.hid hr
      clear hr
      go_wp2_with fail
      refine (run_at _ _ _ _).mono ?_
      rintro e w5 ⟨rfl, hw5⟩
      have m5 : Mod (fun _ => False) wr w5 := hw5 ▸ (Mod.refl _ _).alloc _
      have c5 : w5.cell? ⟨wr.heap.size, 0, none⟩ = some (.slice ar nr cr) := by rw [hw5]; simp
      clear hw5
      go_wp2_with fail
      refine (fair_see_at F (nPl a0) last _ _ row _ (hf.later m5 (by simp)) hfit c5 (HW.out.later m5 (by simp))).mono ?_
      rw [← HR.out]
      rintro e w6 ⟨rfl, d6⟩
      have m6 := m5.trans (d6.mod (fun _ => False)) (by simp)
      have hcell6 := (m6.cell (p := ⟨B, off + k, none⟩) hBr (by simp)).trans hcell
      clear m5 c5 d6
      go_wp2_with fail
      refine (run_at _ _ _ _).mono ?_
      rintro e w7 ⟨rfl, hw7⟩
      have m7 : Mod (fun _ => False) w6 w7 := hw7 ▸ (Mod.refl _ _).alloc _
      have c7 : w7.cell? ⟨w6.heap.size, 0, none⟩ = some (.slice ar nr cr) := by rw [hw7]; simp
      clear hw7
      go_wp2_with fail
      refine (fair_see_at F (nPl a0) last _ _ row _ (hf.later (m6.trans m7 (by simp)) (by simp)) hfit c7 (HW.out.later (m6.trans m7 (by simp)) (by simp))).mono ?_
      rw [← HR.out]
      rintro e w8 ⟨rfl, d8⟩
      have m8 := m6.trans (m7.trans (d8.mod (fun _ => False)) (by simp)) (by simp)
      have hcell8 := (m8.cell (p := ⟨B, off + k, none⟩) hBr (by simp)).trans hcell
      clear m7 c7 d8 m6 hcell6
      go_wp2_with fail
      refine (fair_last _ _ _ (hf.later m8 (by simp)).c1).mono ?_
      rintro e w9 ⟨rfl, hw9⟩
      have m9 := hw9 ▸ m8
      have hcell9 := hw9 ▸ hcell8
      clear hw9 m8 hcell8
      go_wp2_with fail
      refine (run_at _ _ _ _).mono ?_
      rintro e w10 ⟨rfl, hw10⟩
      have m10 : Mod (fun _ => False) w9 w10 := hw10 ▸ (Mod.refl _ _).alloc _
      have c10 : w10.cell? ⟨w9.heap.size, 0, none⟩ = some (.slice ar nr cr) := by rw [hw10]; simp
      clear hw10
      go_wp2_with fail
      have m10' := m9.trans m10 (by simp)
      refine (fair_next_at F (nPl a0) last _ _ row _ (hf.later m10' (by simp)) hfit c10 (HW.out.later m10' (by simp))).mono ?_
      rw [← HR.out]
      rintro e w11 ⟨rfl, m11, f11⟩
      have n11 : Mod (fun k => k = F ∨ k = G) wr w11 := m10'.trans' m11 (by simp) (fun _ _ h => Or.inl h)
      have g11 := (hg.later m10' (by simp)).later m11 (by omega)
      have hrow11 := HW.out.fairs n11 hf hg (bools_ne _)
      have hcell11 := (n11.cell (p := ⟨B, off + k, none⟩) hBr (by simp; omega)).trans hcell
      have HW11 := Lib.hid hrow11
      clear m9 hcell9 m10 c10 m10' m11 hrow11
      go_wp2_with fail
      refine (fair_of G (nPl a0) last _ row _ g11 hfit HW11.out).mono ?_
      rw [← HR.out]
      rintro e w12 ⟨rfl, m12, g12⟩
      have f12 := f11.later m12 (by omega)
      have n12 : Mod (fun k => k = F ∨ k = G) wr w12 := n11.trans' m12 (fun _ _ h => h) (fun _ _ h => Or.inr h)
      have hfit' : Fit (nPl a0) (r.getD last) := by rw [HR.out]; exact hfit.next _
      clear n11 m12 g11 f11 hcell11 hcell
      have n12' := hmod.trans n12 (fun _ _ h => h)
      clear n12 hmod HR hf hg
      cases r with
      | none =>
        simp only [Option.getD_none, Option.isSome_none] at f12 g12 hfit' ⊢
        go_wp2_with fail
        refine (fair_last _ _ _ f12.c1).mono ?_
        rintro e w13 ⟨rfl, rfl⟩
        go_wp2_with fail
        refine (fair_last _ _ _ g12.c1).mono ?_
        rintro e w14 ⟨rfl, rfl⟩
        go_wp2_with fail
        refine (fair_last _ _ _ f12.c1).mono ?_
        rintro e w15 ⟨rfl, rfl⟩
        go_wp2
        go_roundw
        case rel => exact ⟨k + 1, last, by omega, by go_num, hfit', f12, g12, n12'⟩
        case measure => simp [intOf]; omega
      | some v =>
        simp only [Option.getD_some, Option.isSome_some] at f12 g12 hfit' ⊢
        go_wp2_with fail
        refine (fair_last _ _ _ f12.c1).mono ?_
        rintro e w13 ⟨rfl, rfl⟩
        go_wp2_with fail
        refine (fair_last _ _ _ g12.c1).mono ?_
        rintro e w14 ⟨rfl, rfl⟩
        go_wp2
        go_roundw
        case rel => exact ⟨k + 1, v, by omega, by go_num, hfit', f12, g12, n12'⟩
        case measure => simp [intOf]; omega
    · go_wp2
      go_ret
      exact ⟨rfl, (m4.trans (S := fun _ => False) hmod (fun i hi h => by omega)).below⟩

end Go.Proofs.Ytpcjhkkinmfjlaa
