/- The contract of snake.Plan where there is no plan. -/
import Derived.Test.YtonnooenebfbeaaPlanB
import Derived.Test.YtonnooenebfbeaaCompact
namespace Go.Proofs.Ytonnooenebfbeaa
open Go.RowKit

theorem sorted_nodup {c : Cfg} : ∀ (ys : List Int), SortedBy c.lab ys → (∀ x ∈ ys, c.is x = true) → (∀ i (h : i + 1 < ys.length), ys[i] ≠ ys[i + 1]) → ys.Nodup := by
  intro ys
  induction ys with
  | nil => intro _ _ _; simp
  | cons y ys ih =>
    intro h1 h2 h3
    unfold SortedBy at h1
    rw [List.pairwise_cons] at h1
    refine List.nodup_cons.2 ⟨?_, ih h1.2 (fun x hx => h2 x (List.mem_cons_of_mem _ hx)) (fun i hi => h3 (i + 1) (by simp; omega))⟩
    cases ys with
    | nil => simp
    | cons z zs =>
      intro hm
      have hyz := h3 0 (by simp)
      simp at hyz
      rcases List.mem_cons.1 hm with h | h
      · exact hyz h
      · have e1 := h1.1 z List.mem_cons_self
        have e2 := (List.pairwise_cons.1 h1.2).1 y h
        exact hyz (Cfg.lab_inj (h2 y List.mem_cons_self) (h2 z (by simp)) (by omega))

def planNo : Ending := .returned (.tuple #[.agg #[.slice none 0 0, .slice none 0 0, .slice none 0 0], .int .i64 6])

set_option maxRecDepth 100000 in
set_option maxHeartbeats 4000000 in
theorem run_Plan_no (c : Cfg) (f : Int) (v : Value) (set : List Int) (w : World) (hs : SlV w v (set.map (Value.int .i64))) (hlen : set.length ≤ 12) (hno : ¬ (set ≠ [] ∧ c.is f = true ∧ (∀ n ∈ set, c.is n = true) ∧ set.Nodup)) :
    Calls Try.prog 38 #[.agg c.cells, .int .i64 f, v] w fun e w' => e = .returned (.tuple #[.agg #[.slice none 0 0, .slice none 0 0, .slice none 0 0], .int .i64 6]) ∧ Mod (fun _ => False) w w' := by
  have hmf : ∀ (fn : Fn) (first cap : Array Value) (w : World), (Instr.makeFunc fn first cap).run Try.prog w = .ok (.func fn first cap) w := fun _ _ _ _ => rfl
  have kb := (Blk.made w c.cells 25).alloc (.cells #[.slice none 0 0, .slice none 0 0, .slice none 0 0] 72)
  have ka := Blk.made (w.alloc (.cells c.cells 25)) #[.slice none 0 0, .slice none 0 0, .slice none 0 0] 72
  have m0 : Mod (fun _ => False) w ((w.alloc (.cells c.cells 25)).alloc (.cells #[.slice none 0 0, .slice none 0 0, .slice none 0 0] 72)) := ((Mod.refl _ _).alloc _).alloc _
  simp only [World.size_alloc] at ka
  obtain ⟨a, n, cap, rfl, hn, hcap, hmax, -⟩ := id hs
  rw [List.length_map] at hn
  have HS := Lib.hid hs
  have HN := Lib.hid hn
  have HNO := Lib.hid hno
  have hn12 : n ≤ 12 := by omega
  have HLEN := Lib.hid hlen
  unfold maxLen at hmax
  clear hs hn hno hlen
  simp only [Cfg.cells] at kb ka m0 ⊢
  go_enter Try.func38, Try.ntmps38
  go_wp2_with fail
  refine (run_Clone _ set _ (HS.out.later m0 (by simp)) (by have := HLEN.out; omega)).mono ?_
  rintro e w1 ⟨r, rfl, m1, hown⟩
  have kb1 := kb.later m1 (by simp)
  have ka1 := ka.later m1 (by simp)
  have mm1 := m0.trans m1 (by simp)
  clear kb ka m1
  rw [HN.out] at hown
  by_cases hz0 : n = 0
  · subst hz0
    obtain ⟨ra, rm, rc, rfl, hrm, -, -, -⟩ := id (SlV.own hown)
    rw [List.length_map] at hrm
    obtain rfl : rm = 0 := by rw [← hrm]; exact HN.out
    have z0 := ka1.fz 0
    have z1 := ka1.fz 1
    have z2 := ka1.fz 2
    have y0 := ka1.cell 0
    have y1 := ka1.cell 1
    have y2 := ka1.cell 2
    simp at y0 y1 y2
    clear hrm hown
    go_wp2_with fail
    refine (run_SortFunc_nil _ _ _ _).mono ?_
    rintro e w2 ⟨rfl, rfl⟩
    go_wp2
    have ks := ((ka1.set 0 (.slice none 0 0)).set 1 (.slice none 0 0)).set 2 (.slice none 0 0)
    have ms := ((mm1.setCell (p := ⟨w.heap.size + 1, 0, none⟩) (Or.inr (by simp)) (.slice none 0 0)).setCell (p := ⟨w.heap.size + 1, 1, none⟩) (Or.inr (by simp)) (.slice none 0 0)).setCell (p := ⟨w.heap.size + 1, 2, none⟩) (Or.inr (by simp)) (.slice none 0 0)
    simp at ks
    generalize ((w1.setCell ⟨w.heap.size + 1, 0, none⟩ (.slice none 0 0)).setCell ⟨w.heap.size + 1, 1, none⟩ (.slice none 0 0)).setCell ⟨w.heap.size + 1, 2, none⟩ (.slice none 0 0) = wf at ks ms ⊢
    have t0 := ks.cell 0
    have t1 := ks.cell 1
    have t2 := ks.cell 2
    simp at t0 t1 t2
    exact bodyPost_ret (v := .tuple #[.agg #[.slice none 0 0, .slice none 0 0, .slice none 0 0], .int .i64 6]) (by simp [results, Try.results38, go_sem, t0, t1, t2]) rfl ⟨rfl, ms⟩
  have hn0 : 0 < n := by omega
  have hz : ((n : Int) == 0) = false := by simp; omega
  obtain ⟨G, gcap, rfl, hG, hGs, hgc⟩ := slice_of_own hown hn0
  simp only [World.size_alloc] at hG
  go_wp2_with fail
  refine (run_SortFunc w1 G _ _ _ c.lab n gcap set w1 (cmps_plan c w.heap.size G w1 kb1 (by omega)) (Mod.refl _ _) hown hn12).mono ?_
  rintro e w2 ⟨rfl, ys, hperm, hsort, m2, hown2⟩
  have kb2 := kb1.later m2 (by omega)
  have ka2 := ka1.later m2 (by omega)
  have mm2 := mm1.trans m2 (fun i hi h => by omega)
  have s2 := m2.size
  have HPERM := Lib.hid hperm
  have HSORT := Lib.hid hsort
  have hyl : ys.length = n := by rw [hperm.length_eq]; exact HN.out
  have HYL := Lib.hid hyl
  have HSY := Lib.hid (SlV.own hown2)
  clear kb1 ka1 mm1 m2 hown hperm hsort hyl hown2
  go_wp2_with fail
  refine (run_plan2 c w.heap.size f _ kb2).mono ?_
  rintro e w3 ⟨rfl, m3⟩
  have kb3 := kb2.later m3 (by simp)
  have ka3 := ka2.later m3 (by simp)
  have mm3 := mm2.trans m3 (by simp)
  have hs3 := HSY.out.later m3 (by simp)
  have HS3 := Lib.hid hs3
  have s3 := m3.size
  clear kb2 ka2 mm2 m3 hs3 HSY
  cases hf : c.is f with
  | false =>
    have z0 := ka3.fz 0
    have z1 := ka3.fz 1
    have z2 := ka3.fz 2
    have y0 := ka3.cell 0
    have y1 := ka3.cell 1
    have y2 := ka3.cell 2
    simp at y0 y1 y2
    clear hf HNO
    go_wp2
    have ks := ((ka3.set 0 (.slice none 0 0)).set 1 (.slice none 0 0)).set 2 (.slice none 0 0)
    have ms := ((mm3.setCell (p := ⟨w.heap.size + 1, 0, none⟩) (Or.inr (by simp)) (.slice none 0 0)).setCell (p := ⟨w.heap.size + 1, 1, none⟩) (Or.inr (by simp)) (.slice none 0 0)).setCell (p := ⟨w.heap.size + 1, 2, none⟩) (Or.inr (by simp)) (.slice none 0 0)
    simp at ks
    generalize ((w3.setCell ⟨w.heap.size + 1, 0, none⟩ (.slice none 0 0)).setCell ⟨w.heap.size + 1, 1, none⟩ (.slice none 0 0)).setCell ⟨w.heap.size + 1, 2, none⟩ (.slice none 0 0) = wf at ks ms ⊢
    have t0 := ks.cell 0
    have t1 := ks.cell 1
    have t2 := ks.cell 2
    simp at t0 t1 t2
    exact bodyPost_ret (v := .tuple #[.agg #[.slice none 0 0, .slice none 0 0, .slice none 0 0], .int .i64 6]) (by simp [results, Try.results38, go_sem, t0, t1, t2]) rfl ⟨rfl, ms⟩
  | true =>
  have HF := Lib.hid hf
  clear hf
  go_wp2_with fail
  refine (run_ContainsFunc w3 _ _ _ _ ys _ (tells_plan2 c w.heap.size w3 kb3) (Mod.refl _ _) HS3.out).mono ?_
  rintro e w4 ⟨rfl, m4⟩
  have kb4 := kb3.later m4 (by simp)
  have ka4 := ka3.later m4 (by simp)
  have mm4 := mm3.trans m4 (by simp)
  have HS4 := Lib.hid (HS3.out.later m4 (by simp))
  have s4 := m4.size
  clear kb3 ka3 mm3 m4 HS3
  cases hany : (ys.any fun n => !c.is n) with
  | true =>
    have z0 := ka4.fz 0
    have z1 := ka4.fz 1
    have z2 := ka4.fz 2
    have y0 := ka4.cell 0
    have y1 := ka4.cell 1
    have y2 := ka4.cell 2
    simp at y0 y1 y2
    clear hany HNO
    go_wp2
    have ks := ((ka4.set 0 (.slice none 0 0)).set 1 (.slice none 0 0)).set 2 (.slice none 0 0)
    have ms := ((mm4.setCell (p := ⟨w.heap.size + 1, 0, none⟩) (Or.inr (by simp)) (.slice none 0 0)).setCell (p := ⟨w.heap.size + 1, 1, none⟩) (Or.inr (by simp)) (.slice none 0 0)).setCell (p := ⟨w.heap.size + 1, 2, none⟩) (Or.inr (by simp)) (.slice none 0 0)
    simp at ks
    generalize ((w4.setCell ⟨w.heap.size + 1, 0, none⟩ (.slice none 0 0)).setCell ⟨w.heap.size + 1, 1, none⟩ (.slice none 0 0)).setCell ⟨w.heap.size + 1, 2, none⟩ (.slice none 0 0) = wf at ks ms ⊢
    have t0 := ks.cell 0
    have t1 := ks.cell 1
    have t2 := ks.cell 2
    simp at t0 t1 t2
    exact bodyPost_ret (v := .tuple #[.agg #[.slice none 0 0, .slice none 0 0, .slice none 0 0], .int .i64 6]) (by simp [results, Try.results38, go_sem, t0, t1, t2]) rfl ⟨rfl, ms⟩
  | false =>
  have hyall : ∀ x ∈ ys, c.is x = true := fun x hx => by
    have := List.any_eq_false.1 hany x hx
    simpa using this
  have hdup : ¬ ∀ i (h : i + 1 < ys.length), ys[i] ≠ ys[i + 1] := by
    intro h
    refine HNO.out ⟨?_, HF.out, fun x hx => hyall x (HPERM.out.mem_iff.2 hx), HPERM.out.nodup_iff.1 (sorted_nodup ys HSORT.out hyall h)⟩
    intro e
    rw [e] at HN
    have := HN.out
    simp at this
    omega
  have HDUP := Lib.hid hdup
  clear hyall hdup hany
  go_wp2_with fail
  refine (run_Clone _ ys _ HS4.out (by have := HYL.out; omega)).mono ?_
  rintro e w5 ⟨r, rfl, m5, hown5⟩
  have kb5 := kb4.later m5 (by simp)
  have ka5 := ka4.later m5 (by simp)
  have mm5 := mm4.trans m5 (by simp)
  have s5 := m5.size
  have lk4 := ka4.lt
  rw [HYL.out] at hown5
  obtain ⟨ga, gn, gc, hgv, -, hgc2, hgm, -⟩ := id (SlV.own hown5)
  obtain ⟨G2, g2cap, rfl, hG2, -, hg2c⟩ := slice_of_own hown5 hn0
  simp only [Value.slice.injEq] at hgv
  obtain ⟨-, -, rfl⟩ := hgv
  unfold maxLen at hgm
  clear kb4 ka4 mm4 m5 HS4 hgc2
  go_wp2_with fail
  refine (run_Compact_dup G2 _ n _ ys _ hown5 (by omega) hg2c (by omega) HDUP.out).mono ?_
  rintro e w6 ⟨m, mc, rfl, hmn, m6⟩
  have ka6 := ka5.later m6 (by omega)
  have mm6 := mm5.trans m6 (fun i hi h => by have := mm5.size; omega)
  have z0 := ka6.fz 0
  have z1 := ka6.fz 1
  have z2 := ka6.fz 2
  have y0 := ka6.cell 0
  have y1 := ka6.cell 1
  have y2 := ka6.cell 2
  simp at y0 y1 y2
  clear ka5 mm5 hown5 m6 kb5
  go_wp2
  have ks := ((ka6.set 0 (.slice none 0 0)).set 1 (.slice none 0 0)).set 2 (.slice none 0 0)
  have ms := ((mm6.setCell (p := ⟨w.heap.size + 1, 0, none⟩) (Or.inr (by simp)) (.slice none 0 0)).setCell (p := ⟨w.heap.size + 1, 1, none⟩) (Or.inr (by simp)) (.slice none 0 0)).setCell (p := ⟨w.heap.size + 1, 2, none⟩) (Or.inr (by simp)) (.slice none 0 0)
  simp at ks
  generalize ((w6.setCell ⟨w.heap.size + 1, 0, none⟩ (.slice none 0 0)).setCell ⟨w.heap.size + 1, 1, none⟩ (.slice none 0 0)).setCell ⟨w.heap.size + 1, 2, none⟩ (.slice none 0 0) = wf at ks ms ⊢
  have t0 := ks.cell 0
  have t1 := ks.cell 1
  have t2 := ks.cell 2
  simp at t0 t1 t2
  exact bodyPost_ret (v := .tuple #[.agg #[.slice none 0 0, .slice none 0 0, .slice none 0 0], .int .i64 6]) (by simp [results, Try.results38, go_sem, t0, t1, t2]) rfl ⟨rfl, ms⟩

end Go.Proofs.Ytonnooenebfbeaa
