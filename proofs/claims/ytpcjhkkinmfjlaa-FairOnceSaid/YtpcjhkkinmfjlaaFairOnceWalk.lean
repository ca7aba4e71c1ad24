/- The walk of FairOnce. -/
import Derived.Test.YtpcjhkkinmfjlaaFairAllWalk
import Derived.Test.YtpcjhkkinmfjlaaGrow
namespace Go.Proofs.Ytpcjhkkinmfjlaa
open Go.RowKit

/-- What the function that is handed over remembers: how often it was asked (block N), and whether all went in the row (block I). -/
def OnceI (w : World) (N I : Nat) (i : Nat) (w' : World) : Prop :=
  Blk w' N #[.int .i64 i] 3 ∧ Blk w' I #[.bool true] 4 ∧ Mod (fun k => k = N ∨ k = I) w w'

set_option maxHeartbeats 400000 in
theorem run_once1 (N I T P L : Nat) (last places : Int) (v : Value) (l : List Bool) (i : Nat) (w : World) (hfit : Fit places last) (hi : (i : Int) < places)
    (hN : Blk w N #[.int .i64 i] 3) (hI : Blk w I #[.bool true] 4) (hNI : N ≠ I)
    (hT : w.cell? ⟨T, 0, none⟩ = some (.int .i64 last)) (hP : w.cell? ⟨P, 0, none⟩ = some (.int .i64 places)) (hL : w.cell? ⟨L, 0, none⟩ = some v)
    (tN : T ≠ N) (pN : P ≠ N) (lN : L ≠ N) (lI : L ≠ I) (hs : SlV w v (l.map Value.bool)) (hsN : ∀ B off n c, v = .slice (some ⟨B, off, none⟩) n c → 0 < n → B ≠ N ∧ B ≠ I) :
    Calls Try.prog 22 #[.int .i64 ((last + 1 + i) % places), .pointer (some ⟨N, 0, none⟩), .pointer (some ⟨I, 0, none⟩), .pointer (some ⟨T, 0, none⟩), .pointer (some ⟨P, 0, none⟩), .pointer (some ⟨L, 0, none⟩)] w fun e w' =>
      e = .returned (.bool (ansL places last l i)) ∧ Blk w' N #[.int .i64 ((i + 1 : Nat) : Int)] 3 ∧ Blk w' I #[.bool true] 4 ∧ Mod (fun k => k = N ∨ k = I) w w' := by
  have p1 := hfit.p1
  have p2 := hfit.p2
  have l1 := hfit.l1
  have l2 := hfit.l2
  obtain ⟨q, hq⟩ : ∃ q : Nat, (last + 1 + i) % places = q := ⟨((last + 1 + i) % places).toNat, by have := Int.emod_nonneg (last + 1 + i) (show places ≠ 0 by omega); omega⟩
  have hq5 : q < 5000 := by have := Int.emod_lt_of_pos (last + 1 + i) (show 0 < places by omega); omega
  have ha : ansL places last l i = l.getD q false := by unfold ansL; rw [hq, Int.toNat_natCast]
  have hq' : (last + ((i : Int) + 1)) % places = q := by rw [← hq]; congr 1; omega
  rw [hq, ha]
  have HQ := Lib.hid hq'
  obtain ⟨a, n, c, rfl, hn, hc, hm, -⟩ := id hs
  rw [List.length_map] at hn
  subst hn
  have n0 := hN.cell 0
  have nf := hN.fz 0
  have i0 := hI.cell 0
  have fi := hI.fz 0
  simp at n0 i0
  have hN' := (hN.set 0 (.int .i64 ((i : Int) + 1)))
  have hI' := (((hI.setOther (a := ⟨N, 0, none⟩) (Ne.symm hNI) (.int .i64 ((i : Int) + 1))).set 0 (.bool true)))
  have hN2 := (hN'.setOther (a := ⟨I, 0, none⟩) hNI (.bool true))
  have mm : Mod (fun k => k = N ∨ k = I) w ((w.setCell ⟨N, 0, none⟩ (.int .i64 ((i : Int) + 1))).setCell ⟨I, 0, none⟩ (.bool true)) := ((Mod.refl _ w).setCell (Or.inl (Or.inl rfl)) _).setCell (Or.inl (Or.inr rfl)) _
  simp at hN2 hI'
  have hend : ∀ b : Bool, b = l.getD q false → Ending.returned (.bool b) = .returned (.bool (l.getD q false)) ∧ Blk ((w.setCell ⟨N, 0, none⟩ (.int .i64 ((i : Int) + 1))).setCell ⟨I, 0, none⟩ (.bool true)) N #[.int .i64 ((i + 1 : Nat) : Int)] 3 ∧
      Blk ((w.setCell ⟨N, 0, none⟩ (.int .i64 ((i : Int) + 1))).setCell ⟨I, 0, none⟩ (.bool true)) I #[.bool true] 4 ∧ Mod (fun k => k = N ∨ k = I) w ((w.setCell ⟨N, 0, none⟩ (.int .i64 ((i : Int) + 1))).setCell ⟨I, 0, none⟩ (.bool true)) :=
    fun b hb => ⟨by rw [hb], hN2, hI', mm⟩
  have HE := Lib.hid hend
  clear hend hN' hI' hN2 mm hq hq'
  have hIN : I ≠ N := Ne.symm hNI
  by_cases hlt : q < l.length
  · obtain ⟨B, off, rfl, hB, hcell⟩ := hs.at q hlt
    obtain ⟨hBN, hBI⟩ := hsN _ _ _ _ rfl (by omega)
    have hv : (l.map Value.bool).getD q undef = .bool l[q] := by simp [List.getD_eq_getElem?_getD, hlt]
    have hl : l.getD q false = l[q] := by simp [List.getD_eq_getElem?_getD, hlt]
    rw [hv] at hcell
    have HL := Lib.hid hl
    have HS := Lib.hid hs
    have hQ := HQ.out
    clear hv hl hs hsN ha
    go_enter Try.func22, Try.ntmps22
    go_wp2
    go_ret
    exact HE.out _ HL.out.symm
  · have hl : l.getD q false = false := by rw [List.getD_eq_getElem?_getD, List.getElem?_eq_none (by omega)]; rfl
    have HL := Lib.hid hl
    have HS := Lib.hid hs
    have hQ := HQ.out
    clear hl hs hsN ha
    go_enter Try.func22, Try.ntmps22
    go_wp2
    go_ret
    exact HE.out _ HL.out.symm

theorem asks_once (w W : World) (F N I T P L : Nat) (places last : Int) (v : Value) (l : List Bool) (hfit : Fit places last) (hF : FairAt W F places last)
    (hN : Blk W N #[.int .i64 0] 3) (hI : Blk W I #[.bool true] 4) (hT : Blk W T #[.int .i64 last] 3) (hP : Blk W P #[.int .i64 places] 3) (hL : Blk W L #[v] 34)
    (hNI : N ≠ I) (fN : F ≠ N) (fI : F ≠ I) (tN : T ≠ N) (tI : T ≠ I) (pN : P ≠ N) (pI : P ≠ I) (lN : L ≠ N) (lI : L ≠ I) (hs : SlV w v (l.map Value.bool)) (hm : Mod (fun _ => False) w W) (wN : w.heap.size ≤ N) (wI : w.heap.size ≤ I) :
    Asks 22 #[.pointer (some ⟨N, 0, none⟩), .pointer (some ⟨I, 0, none⟩), .pointer (some ⟨T, 0, none⟩), .pointer (some ⟨P, 0, none⟩), .pointer (some ⟨L, 0, none⟩)] F places last (ansL places last l) (OnceI W N I) where
  p1 := hfit.p1
  p2 := hfit.p2
  l1 := hfit.l1
  l2 := hfit.l2
  enters := enters_of Try.func22 (by kernel_rfl) rfl
  c0 := fun _ _ h => (hF.later h.2.2 (by omega)).c0
  c1 := fun _ _ h => (hF.later h.2.2 (by omega)).c1
  fz := fun _ _ h => (hF.later h.2.2 (by omega)).fz 1
  drewN := fun _ _ m h => ⟨h.1, h.2.1, h.2.2.drewN m⟩
  call := by
    intro i w1 hi ⟨h1, h2, h3⟩
    have hm1 : Mod (fun _ => False) w w1 := hm.trans h3 (fun i hi h => by omega)
    refine (run_once1 N I T P L last places v l i w1 hfit hi h1 h2 hNI ((hT.later h3 (by omega)).cell 0) ((hP.later h3 (by omega)).cell 0) ((hL.later h3 (by omega)).cell 0) tN pN lN lI (hs.later hm1 (by simp)) ?_).mono ?_
    · intro B off n c hv hn
      rw [hv] at hs
      obtain ⟨B', off', e, hB, _⟩ := hs.at 0 hn
      simp only [Option.some.injEq, Addr.mk.injEq] at e
      obtain ⟨rfl, _⟩ := e
      omega
    · rintro e w2 ⟨rfl, g1, g2, g3⟩
      exact ⟨rfl, g1, g2, h3.trans g3 (fun _ _ h => h)⟩

/-- What See comes to, and how often was asked. -/
theorem once_facts (places last : Int) (l : List Bool) (hfit : Fit places last) :
    (∃ c : Nat, cntI places (ansL places last l) = c ∧ seeR places last (ansL places last l) = some ((last + c) % places) ∧ 1 ≤ c ∧ (c : Int) ≤ places ∧ ∃ q : Nat, (q : Int) < places ∧ l.getD q false = true) ∨
    (cntI places (ansL places last l) = places.toNat ∧ seeR places last (ansL places last l) = none ∧ ∀ q : Nat, (q : Int) < places → l.getD q false = false) := by
  have p1 := hfit.p1
  have l1 := hfit.l1
  cases hf : firstI places (ansL places last l) with
  | some k =>
    left
    have hk := hf
    unfold firstI at hk
    rw [List.find?_range_eq_some] at hk
    obtain ⟨h1, h2, _⟩ := hk
    have h2 : k < places.toNat := by simpa using h2
    have hz := Int.emod_nonneg (last + 1 + (k : Int)) (show places ≠ 0 by omega)
    have hlt := Int.emod_lt_of_pos (last + 1 + (k : Int)) (show 0 < places by omega)
    refine ⟨k + 1, by simp [cntI, hf], ?_, by omega, by omega, ((last + 1 + k) % places).toNat, by omega, h1⟩
    simp only [seeR, hf]
    show some ((last + 1 + (k : Int)) % places) = _
    rw [show last + 1 + (k : Int) = last + ((k + 1 : Nat) : Int) by omega]
  | none =>
    right
    refine ⟨by simp [cntI, hf], by simp [seeR, hf], fun q hq => ?_⟩
    unfold firstI at hf
    rw [List.find?_range_eq_none] at hf
    have hz := Int.emod_nonneg ((q : Int) - last - 1) (show places ≠ 0 by omega)
    have hlt := Int.emod_lt_of_pos ((q : Int) - last - 1) (show 0 < places by omega)
    have := hf (((q : Int) - last - 1) % places).toNat (by omega)
    simp only [Bool.not_eq_true', ansL] at this
    rw [show last + 1 + (((((q : Int) - last - 1) % places).toNat : Nat) : Int) = last + 1 + ((q : Int) - last - 1) % places by omega, Int.add_emod_emod] at this
    rw [show last + 1 + ((q : Int) - last - 1) = q by omega, Int.emod_eq_of_lt (by omega) hq, Int.toNat_natCast] at this
    simpa using this

/-- Some place of the first k ones wants. -/
def someL (l : List Bool) (k : Nat) : Bool := (l.take k).any id
theorem someL_step (l : List Bool) (k : Nat) (h : k < l.length) : someL l (k + 1) = (someL l k || l[k]) := by
  unfold someL
  rw [List.take_succ_eq_append_getElem h, List.any_append]
  simp
theorem someL_of (l : List Bool) (k q : Nat) (hq : q < k) (h : l.getD q false = true) : someL l k = true := by
  unfold someL
  rw [List.any_eq_true]
  have hl : q < l.length := by
    rcases Nat.lt_or_ge q l.length with h' | h'
    · exact h'
    · rw [List.getD_eq_getElem?_getD, List.getElem?_eq_none h'] at h; simp at h
  refine ⟨l[q], ?_, by simpa [List.getD_eq_getElem?_getD, hl] using h⟩
  rw [List.mem_take_iff_getElem]
  exact ⟨q, by omega, rfl⟩
theorem someL_none (l : List Bool) (k : Nat) (h : ∀ q, q < k → l.getD q false = false) : someL l k = false := by
  unfold someL
  rw [List.any_eq_false]
  intro x hx
  rw [List.mem_take_iff_getElem] at hx
  obtain ⟨q, hq, rfl⟩ := hx
  have := h q (by omega)
  rw [List.getD_eq_getElem?_getD, List.getElem?_eq_getElem (by omega)] at this
  simpa using this
theorem someL_min (l : List Bool) (k : Nat) : someL l (min l.length k) = someL l k := by
  unfold someL
  rcases Nat.le_total l.length k with h | h
  · rw [Nat.min_eq_left h, List.take_of_length_le h, List.take_length]
  · rw [Nat.min_eq_right h]

set_option maxRecDepth 100000 in
set_option maxHeartbeats 1600000 in
theorem walk_FairOnce {w : World} (a0 : Int) (w0 : (Lit.int .i64 a0).wf = true) (v : Value) (l : List Bool) (hs : SlV w v (l.map Value.bool)) (hl : l.length ≤ maxLen) (a2 : Int) (w2 : (Lit.int .i64 a2).wf = true) :
    Calls Try.prog 5 #[.int .i64 a0, v, .int .i64 a2] w fun e w' => e = .returned (.bool true) ∧ Below w.heap.size w w' := by
  clear w0 w2
  have hmf : ∀ (fn : Fn) (first cap : Array Value) (w : World), (Instr.makeFunc fn first cap).run Try.prog w = .ok (.func fn first cap) w := fun _ _ _ _ => rfl
  obtain ⟨p, hp1, hp2, hp⟩ := umod1 a0 12 (by omega) (by omega)
  obtain ⟨t, ht1, ht⟩ := umod a2 15 (by omega) (by omega)
  have HP := Lib.hid hp
  have HT := Lib.hid ht
  obtain ⟨a, n, c, rfl, hn, hc, hm, -⟩ := id hs
  rw [List.length_map] at hn
  subst hn
  have HS := Lib.hid hs
  clear hp ht hs
  go_enter Try.func5, Try.ntmps5
  go_wp2_with fail
  have kP := (Blk.made w #[.int .i64 a0] 3).alloc (.cells #[.slice a l.length c] 34)
  have kL := Blk.made (w.alloc (.cells #[.int .i64 a0] 3)) #[.slice a l.length c] 34
  have m1 : Mod (fun _ => False) w ((w.alloc (.cells #[.int .i64 a0] 3)).alloc (.cells #[.slice a l.length c] 34)) := ((Mod.refl _ w).alloc _).alloc _
  refine (fair_lives _).mono ?_
  rintro e w1 ⟨rfl, b1⟩
  have m01 := Mod.of_below b1 rfl (fun _ => False)
  have kP1 := kP.later m01 (by simp)
  have kL1 := kL.later m01 (by simp)
  simp only [World.size_alloc] at kL1
  have m1' := m1.trans m01 (by simp)
  clear kP kL m1 b1 m01
  have x0 := kP1.cell 0
  have f0 := kP1.fz 0
  simp at x0
  go_wp2_with fail
  rw [HP.out]
  have kP2 := kP1.set 0 (.int .i64 p)
  have kL2 := kL1.setOther (a := ⟨w.heap.size, 0, none⟩) (by simp) (.int .i64 p)
  have m2 := m1'.setCell (p := ⟨w.heap.size, 0, none⟩) (Or.inr (Nat.le_refl _)) (.int .i64 p)
  simp at kP2
  generalize w1.setCell ⟨w.heap.size, 0, none⟩ (.int .i64 p) = w2 at kP2 kL2 m2 ⊢
  clear kP1 kL1 m1' x0 f0
  refine (fair_new _ w2).mono ?_
  rintro e w3 ⟨rfl, hw3⟩
  have e0 : nPl p = p := by unfold nPl; omega
  rw [e0] at hw3
  have f3 : FairAt w3 w2.heap.size p (-1) := hw3 ▸ FairAt.made _ _ _
  have m23 : Mod (fun _ => False) w2 w3 := hw3 ▸ (Mod.refl (fun _ => False) w2).alloc _
  have kP3 := kP2.later m23 (by simp)
  have kL3 := kL2.later m23 (by simp)
  have m3 := m2.trans m23 (by simp)
  have s3 := kL2.lt
  clear hw3 m23 kP2 kL2 m2 e0
  obtain ⟨F, hF⟩ : ∃ F, F = w2.heap.size := ⟨_, rfl⟩
  rw [← hF] at f3 s3 ⊢
  clear hF
  have sF := f3.lt
  have s0 : w.heap.size ≤ w.heap.size := Nat.le_refl _
  go_wp2
  go_loopw [8] (fun i wr => ∃ k : Nat, k ≤ t ∧ i = .int .i64 k ∧ FairAt wr F p (lastA p k) ∧ Mod (· = F) w3 wr) (fun i _ => t - (intOf i).toNat)
  case atStart => exact ⟨0, by omega, rfl, f3, Mod.refl _ _⟩
  case round =>
    obtain ⟨k, hk, rfl, hf, hmod⟩ := hrel
    have hT := HT.out
    by_cases hlt : k < t
    · have hfit := lastA_fit p k (by omega) (by omega)
      obtain ⟨e1, e2⟩ := lastA_next p k (by omega)
      have E1 := Lib.hid e1
      have E2 := Lib.hid e2
      clear e1 e2
      go_wp2_with fail
      refine (fair_next_all _ p _ wr hf hfit).mono ?_
      rw [E1.out]
      rintro e w4 ⟨rfl, m4, h4⟩
      go_wp2
      go_roundw
      case rel => exact ⟨k + 1, by omega, by go_num, by rw [E2.out]; exact h4, hmod.trans m4 (fun _ _ h => h)⟩
      case measure => simp [intOf]; omega
    · have hfit := lastA_fit p k (by omega) (by omega)
      generalize lastA p k = last at hf hfit
      clear f3
      have kP4 := kP3.later hmod (by omega)
      have kL4 := kL3.later hmod (by omega)
      have hs4 := (HS.out.later m3 (by simp))
      go_wp2_with fail
      refine (fair_last _ _ _ hf.c1).mono ?_
      rintro e w5 ⟨rfl, rfl⟩
      go_wp2_with fail
      have kT := ((Blk.made w5 #[.int .i64 last] 3).alloc (.cells #[.int .i64 0] 3)).alloc (.cells #[.bool true] 4)
      have kN := (Blk.made (w5.alloc (.cells #[.int .i64 last] 3)) #[.int .i64 0] 3).alloc (.cells #[.bool true] 4)
      have kI := Blk.made ((w5.alloc (.cells #[.int .i64 last] 3)).alloc (.cells #[.int .i64 0] 3)) #[.bool true] 4
      simp only [World.size_alloc] at kN kI
      have m56 : Mod (fun _ => False) w5 (((w5.alloc (.cells #[.int .i64 last] 3)).alloc (.cells #[.int .i64 0] 3)).alloc (.cells #[.bool true] 4)) := (((Mod.refl _ w5).alloc _).alloc _).alloc _
      have kP6 := kP4.later m56 (by simp)
      have kL6 := kL4.later m56 (by simp)
      have f6 := hf.later m56 (by simp)
      have sF5 := hf.lt
      have s05 := hmod.size
      have m6 : Mod (fun _ => False) w _ := m3.trans (hmod.trans m56 (by simp)) (fun i hi h => by omega)
      have hA := asks_once w _ F (w5.heap.size + 1) (w5.heap.size + 1 + 1) w5.heap.size w.heap.size (w.heap.size + 1) p last _ l hfit f6 kN kI kT kP6 kL6 (by omega) (by omega) (by omega) (by omega) (by omega) (by omega) (by omega) (by omega) (by omega) HS.out m6 (by omega) (by omega)
      refine (fair_see _ _ F p last _ _ _ hA ⟨kN, kI, Mod.refl _ _⟩).mono ?_
      rintro e w7 ⟨rfl, k7N, k7I, m7⟩
      have k7T := kT.later m7 (by omega)
      have k7P := kP6.later m7 (by omega)
      have k7L := kL6.later m7 (by omega)
      have f7 := f6.later m7 (by omega)
      have mm7 := m6.trans m7 (fun i hi h => by omega)
      have HS7 := Lib.hid (HS.out.later mm7 (by simp))
      have HF := Lib.hid (once_facts p last l hfit)
      clear kT kN kI m56 kP6 kL6 f6 hA m7 m6 hs4 kP4 kL4 hmod hf
      generalize hc7 : cntI p (ansL p last l) = cnt at k7N HF
      generalize hr7 : seeR p last (ansL p last l) = r at HF ⊢
      clear hc7 hr7
      have x0 := k7L.cell 0
      have y0 := k7P.cell 0
      simp at x0 y0
      go_wp2
      go_loop [14, 15] (fun s i => ∃ k : Nat, k ≤ l.length ∧ k ≤ p ∧ i = .int .i64 k ∧ s = .bool (someL l k)) (fun _ i => l.length - (intOf i).toNat)
      case atStart => exact ⟨0, by omega, by omega, rfl, by simp [someL]⟩
      case round =>
        obtain ⟨j, hj, hjp, rfl, rfl⟩ := hrel
        unfold maxLen at hl
        by_cases hlt2 : j < l.length ∧ j < p
        · obtain ⟨h1, h2⟩ := hlt2
          obtain ⟨B, off, rfl, hB, hcell⟩ := HS7.out.at j h1
          have hv : (l.map Value.bool).getD j undef = .bool l[j] := by simp [List.getD_eq_getElem?_getD, h1]
          rw [hv] at hcell
          have HST := Lib.hid (someL_step l j h1)
          clear hv
          cases hsj : someL l j with
          | true =>
            have HJ := Lib.hid hsj
            clear hsj
            go_wp2
            go_round
            case rel => exact ⟨j + 1, by omega, by omega, by go_num, by rw [HST.out, HJ.out]; rfl⟩
            case measure => simp [intOf]; omega
          | false =>
            have HJ := Lib.hid hsj
            clear hsj
            go_wp2
            go_round
            case rel => exact ⟨j + 1, by omega, by omega, by go_num, by rw [HST.out, HJ.out]; rfl⟩
            case measure => simp [intOf]; omega
        · have hj2 : someL l j = someL l p := by
            rcases Nat.le_total l.length p with h | h
            · have e : j = l.length := by omega
              rw [e, ← someL_min l p, Nat.min_eq_left h]
            · have e : j = p := by omega
              rw [e]
          have HJ := Lib.hid hj2
          clear hj2
          have n0 := k7N.cell 0
          have i0 := k7I.cell 0
          have t0 := k7T.cell 0
          have l7 := f7.c1
          simp at n0 i0 t0
          have hend : ∀ nq, Below w.heap.size w (w7.drewN nq) := fun nq => (mm7.drewN nq).below
          have HE := Lib.hid hend
          clear hend
          rcases HF.out with ⟨cv, e1, rfl, e0, e3, q, hq, hlq⟩ | ⟨e1, rfl, e3⟩
          · subst e1
            have hs : someL l p = true := someL_of l p q (by omega) hlq
            rw [HJ.out, hs]
            have q1 := hfit.l1
            have q2 := hfit.l2
            have u1 : 0 ≤ last + (cnt : Int) := by omega
            have u2 : IntKind.i64.wrap (last + (cnt : Int)) = last + (cnt : Int) := IntWalk.i64_in _ (by omega)
            have u3 : (last + (cnt : Int)).tmod (p : Int) = (last + (cnt : Int)) % (p : Int) := Int.tmod_eq_emod_of_nonneg u1
            clear hlq hs HF
            simp only [Option.getD_some, Option.isSome_some]
            by_cases hjl : j < l.length
            all_goals
              go_wp2
              go_quiet ((go_at_call 16; exact Calls.quiet_of_same (fair_last _ _ _ l7)))
              go_wp2
              go_ret
              exact ⟨rfl, HE.out _⟩
          · rw [Int.toNat_natCast] at e1
            subst e1
            have hs : someL l cnt = false := someL_none l cnt fun q hq => e3 q (by omega)
            rw [HJ.out, hs]
            clear e3 hs HF
            simp only [Option.getD_none, Option.isSome_none]
            by_cases hjl : j < l.length
            all_goals
              go_wp2
              go_quiet ((go_at_call 16; exact Calls.quiet_of_same (fair_last _ _ _ l7)))
              go_wp2
              go_ret
              exact ⟨rfl, HE.out _⟩

end Go.Proofs.Ytpcjhkkinmfjlaa
