/- The contract of snake.Plan, for sets that may be. -/
import Derived.Test.YtonnooenebfbeaaPlan
namespace Go.Proofs.Ytonnooenebfbeaa
open Go.RowKit

/-- Those of a row ahead of a label, behind it, at it. -/
def Cfg.ups (c : Cfg) (f : Int) (ys : List Int) : List Int := ys.filter fun n => decide (c.lab f < c.lab n)
def Cfg.dns (c : Cfg) (f : Int) (ys : List Int) : List Int := ys.filter fun n => decide (c.lab n < c.lab f)
def Cfg.eqs (c : Cfg) (f : Int) (ys : List Int) : List Int := ys.filter fun n => decide (c.lab n = c.lab f)

theorem slice_of_own {w : World} {base : Nat} {e : TypeId} {v : Value} {n : Nat} {xs : List Value} (h : w.ownsRow base e 1 v n xs) (hn : 0 < n) : ∃ G cap, v = .slice (some ⟨G, 0, none⟩) n cap ∧ base ≤ G ∧ G < w.heap.size ∧ n ≤ cap := by
  have hlt := h.lt
  rcases h.2 with ⟨-, h0⟩ | ⟨g, cap, cur, rfl, hb, _, hc, _⟩
  · omega
  · exact ⟨g, cap, rfl, hb, (hlt g rfl).2, hc⟩

theorem own_form {w : World} {base : Nat} {e : TypeId} {v : Value} {n : Nat} {xs : List Value} (h : w.ownsRow base e 1 v n xs) : ∃ a m c, v = .slice a m c := by
  rcases h.2 with ⟨h0, -⟩ | ⟨g, cap, cur, h0, -⟩
  · exact ⟨_, _, _, h0⟩
  · exact ⟨_, _, _, h0⟩

theorem filter_take_succ (p : Int → Bool) (ys : List Int) (k : Nat) (h : k < ys.length) : (ys.take (k + 1)).filter p = (ys.take k).filter p ++ if p ys[k] then [ys[k]] else [] := by
  rw [List.take_succ_eq_append_getElem h, List.filter_append]
  congr 1
  simp only [List.filter_cons, List.filter_nil]

/-- The slices of a plan, in memory. -/
structure PlanMem (w : World) (base : Nat) (A : Nat) (v0 v1 v2 : Value) (l0 l1 l2 : List Int) : Prop where
  blk : Blk w A #[v0, v1, v2] 72
  o0 : w.ownsRow base 3 1 v0 l0.length (l0.map (Value.int .i64))
  o1 : w.ownsRow base 3 1 v1 l1.length (l1.map (Value.int .i64))
  o2 : w.ownsRow base 3 1 v2 l2.length (l2.map (Value.int .i64))
  d01 : Dj v0 v1
  d02 : Dj v0 v2
  d12 : Dj v1 v2
  lt : A < base

theorem PlanMem.later {w w' : World} {base A : Nat} {v0 v1 v2 : Value} {l0 l1 l2 : List Int} (h : PlanMem w base A v0 v1 v2 l0 l1 l2) (m : Mod (fun _ => False) w w') : PlanMem w' base A v0 v1 v2 l0 l1 l2 :=
  ⟨h.blk.later m (by simp), own_later h.o0 m, own_later h.o1 m, own_later h.o2 m, h.d01, h.d02, h.d12, h.lt⟩

theorem PlanMem.grow0 {w w' : World} {base A : Nat} {v0 v1 v2 : Value} {l0 l1 l2 : List Int} (h : PlanMem w base A v0 v1 v2 l0 l1 l2) {x : Int} {g cap : Nat}
    (hown : w'.ownsRow base 3 1 (.slice (some ⟨g, 0, none⟩) (l0.length + 1) cap) (l0.length + 1) (l0.map (Value.int .i64) ++ [.int .i64 x])) (hm : Mod (fun k => v0.ownBlock = some k) w w') (hat : v0.ownBlock = some g ∨ w.heap.size < g) :
    PlanMem (w'.setCell ⟨A, 0, none⟩ (.slice (some ⟨g, 0, none⟩) (l0.length + 1) cap)) base A (.slice (some ⟨g, 0, none⟩) (l0.length + 1) cap) v1 v2 (l0 ++ [x]) l1 l2 := by
  refine ⟨?_, ownsRow_setCell_below (by simpa using hown) h.lt _, ownsRow_setCell_below (own_other h.o1 hm h.d01) h.lt _, ownsRow_setCell_below (own_other h.o2 hm h.d02) h.lt _, h.d01.grown h.o1 hat, h.d02.grown h.o2 hat, h.d12, h.lt⟩
  have := (h.blk.later hm (fun e => by have := (h.o0.lt A e).1; have := h.lt; omega)).set 0 (.slice (some ⟨g, 0, none⟩) (l0.length + 1) cap)
  simpa using this

theorem PlanMem.grow1 {w w' : World} {base A : Nat} {v0 v1 v2 : Value} {l0 l1 l2 : List Int} (h : PlanMem w base A v0 v1 v2 l0 l1 l2) {x : Int} {g cap : Nat}
    (hown : w'.ownsRow base 3 1 (.slice (some ⟨g, 0, none⟩) (l1.length + 1) cap) (l1.length + 1) (l1.map (Value.int .i64) ++ [.int .i64 x])) (hm : Mod (fun k => v1.ownBlock = some k) w w') (hat : v1.ownBlock = some g ∨ w.heap.size < g) :
    PlanMem (w'.setCell ⟨A, 1, none⟩ (.slice (some ⟨g, 0, none⟩) (l1.length + 1) cap)) base A v0 (.slice (some ⟨g, 0, none⟩) (l1.length + 1) cap) v2 l0 (l1 ++ [x]) l2 := by
  refine ⟨?_, ownsRow_setCell_below (own_other h.o0 hm h.d01.symm) h.lt _, ownsRow_setCell_below (by simpa using hown) h.lt _, ownsRow_setCell_below (own_other h.o2 hm h.d12) h.lt _, (h.d01.symm.grown h.o0 hat).symm, h.d02, h.d12.grown h.o2 hat, h.lt⟩
  have := (h.blk.later hm (fun e => by have := (h.o1.lt A e).1; have := h.lt; omega)).set 1 (.slice (some ⟨g, 0, none⟩) (l1.length + 1) cap)
  simpa using this

theorem PlanMem.grow2 {w w' : World} {base A : Nat} {v0 v1 v2 : Value} {l0 l1 l2 : List Int} (h : PlanMem w base A v0 v1 v2 l0 l1 l2) {x : Int} {g cap : Nat}
    (hown : w'.ownsRow base 3 1 (.slice (some ⟨g, 0, none⟩) (l2.length + 1) cap) (l2.length + 1) (l2.map (Value.int .i64) ++ [.int .i64 x])) (hm : Mod (fun k => v2.ownBlock = some k) w w') (hat : v2.ownBlock = some g ∨ w.heap.size < g) :
    PlanMem (w'.setCell ⟨A, 2, none⟩ (.slice (some ⟨g, 0, none⟩) (l2.length + 1) cap)) base A v0 v1 (.slice (some ⟨g, 0, none⟩) (l2.length + 1) cap) l0 l1 (l2 ++ [x]) := by
  refine ⟨?_, ownsRow_setCell_below (own_other h.o0 hm h.d02.symm) h.lt _, ownsRow_setCell_below (own_other h.o1 hm h.d12.symm) h.lt _, ownsRow_setCell_below (by simpa using hown) h.lt _, h.d01, (h.d02.symm.grown h.o0 hat).symm, (h.d12.symm.grown h.o1 hat).symm, h.lt⟩
  have := (h.blk.later hm (fun e => by have := (h.o2.lt A e).1; have := h.lt; omega)).set 2 (.slice (some ⟨g, 0, none⟩) (l2.length + 1) cap)
  simpa using this

set_option maxRecDepth 100000 in
set_option maxHeartbeats 4000000 in
theorem run_Plan_yes (c : Cfg) (f : Int) (v : Value) (set : List Int) (w : World) (hs : SlV w v (set.map (Value.int .i64))) (hlen : set.length ≤ 12) (h0 : set ≠ []) (hf : c.is f = true) (hall : ∀ n ∈ set, c.is n = true) (hnd : set.Nodup) :
    Calls Try.prog 38 #[.agg c.cells, .int .i64 f, v] w fun e w' => ∃ r0 r1 r2 ys, e = .returned (.tuple #[.agg #[r0, r1, r2], .int .i64 0]) ∧ Mod (fun _ => False) w w' ∧ ys.Perm set ∧ SortedBy c.lab ys ∧
      SlV w' r0 ((c.ups f ys).map (Value.int .i64)) ∧ SlV w' r1 ((c.dns f ys).reverse.map (Value.int .i64)) ∧ SlV w' r2 ((c.eqs f ys).map (Value.int .i64)) := by
  have hmf : ∀ (fn : Fn) (first cap : Array Value) (w : World), (Instr.makeFunc fn first cap).run Try.prog w = .ok (.func fn first cap) w := fun _ _ _ _ => rfl
  have kb := (Blk.made w c.cells 25).alloc (.cells #[.slice none 0 0, .slice none 0 0, .slice none 0 0] 72)
  have ka := Blk.made (w.alloc (.cells c.cells 25)) #[.slice none 0 0, .slice none 0 0, .slice none 0 0] 72
  have m0 : Mod (fun _ => False) w ((w.alloc (.cells c.cells 25)).alloc (.cells #[.slice none 0 0, .slice none 0 0, .slice none 0 0] 72)) := ((Mod.refl _ _).alloc _).alloc _
  simp only [World.size_alloc] at ka
  obtain ⟨a, n, cap, rfl, hn, hcap, hmax, -⟩ := id hs
  rw [List.length_map] at hn
  have hn0 : 0 < n := by
    rcases Nat.eq_zero_or_pos n with h | h
    · exfalso; apply h0; exact List.eq_nil_of_length_eq_zero (by omega)
    · exact h
  have HS := Lib.hid hs
  have HN := Lib.hid hn
  have HALL := Lib.hid hall
  have HND := Lib.hid hnd
  have hn12 : n ≤ 12 := by omega
  have HLEN := Lib.hid hlen
  unfold maxLen at hmax
  clear hs hn hall hnd h0 hlen
  simp only [Cfg.cells] at kb ka m0 ⊢
  have hz : ((n : Int) == 0) = false := by simp; omega
  go_enter Try.func38, Try.ntmps38
  go_wp2_with fail
  refine (run_Clone _ set _ (HS.out.later m0 (by simp)) (by have := HLEN.out; omega)).mono ?_
  rintro e w1 ⟨r, rfl, m1, hown⟩
  have kb1 := kb.later m1 (by simp)
  have ka1 := ka.later m1 (by simp)
  have mm1 := m0.trans m1 (by simp)
  clear kb ka m1
  rw [HN.out] at hown
  obtain ⟨G, gcap, rfl, hG, hGs, hgc⟩ := slice_of_own hown hn0
  simp only [World.size_alloc] at hG
  go_wp2_with fail
  refine (run_SortFunc w1 G _ _ _ c.lab n gcap set w1 (cmps_plan c w.heap.size G w1 kb1 (by omega)) (Mod.refl _ _) hown hn12).mono ?_
  rintro e w2 ⟨rfl, ys, hperm, hsort, m2, hown2⟩
  have kb2 := kb1.later m2 (by omega)
  have ka2 := ka1.later m2 (by omega)
  have mm2 := mm1.trans m2 (fun i hi h => by omega)
  have s2 := m2.size
  have HPERM := Lib.hid hperm
  have HSORT := Lib.hid hsort
  have hyl : ys.length = n := by rw [hperm.length_eq]; exact HN.out
  have hyall : ∀ x ∈ ys, c.is x = true := fun x hx => HALL.out x (hperm.mem_iff.1 hx)
  have hynd : ys.Nodup := hperm.nodup_iff.2 HND.out
  have HYL := Lib.hid hyl
  have HYALL := Lib.hid hyall
  have HYND := Lib.hid hynd
  have HSY := Lib.hid (SlV.own hown2)
  clear kb1 ka1 mm1 m2 hown hperm hsort hyl hyall hynd hown2
  go_wp2_with fail
  refine (run_plan2 c w.heap.size f _ kb2).mono ?_
  rw [hf]
  rintro e w3 ⟨rfl, m3⟩
  have kb3 := kb2.later m3 (by simp)
  have ka3 := ka2.later m3 (by simp)
  have mm3 := mm2.trans m3 (by simp)
  have hs3 := HSY.out.later m3 (by simp)
  have HS3 := Lib.hid hs3
  have s3 := m3.size
  clear kb2 ka2 mm2 m3 hs3 HSY
  go_wp2_with fail
  refine (run_ContainsFunc w3 _ _ _ _ ys _ (tells_plan2 c w.heap.size w3 kb3) (Mod.refl _ _) HS3.out).mono ?_
  have hany : (ys.any fun n => !c.is n) = false := List.any_eq_false.2 fun x hx => by simp [HYALL.out x hx]
  rw [hany]
  rintro e w4 ⟨rfl, m4⟩
  have kb4 := kb3.later m4 (by simp)
  have ka4 := ka3.later m4 (by simp)
  have mm4 := mm3.trans m4 (by simp)
  have HS4 := Lib.hid (HS3.out.later m4 (by simp))
  have s4 := m4.size
  clear kb3 ka3 mm3 m4 HS3 hany
  go_wp2_with fail
  refine (run_Clone _ ys _ HS4.out (by have := HYL.out; omega)).mono ?_
  rintro e w5 ⟨r, rfl, m5, hown5⟩
  have kb5 := kb4.later m5 (by simp)
  have ka5 := ka4.later m5 (by simp)
  have mm5 := mm4.trans m5 (by simp)
  have HS5 := Lib.hid (HS4.out.later m5 (by simp))
  have hs5 := SlV.own hown5
  have s5 := m5.size
  rw [HYL.out] at hown5
  obtain ⟨G2, g2cap, rfl, -, -, -⟩ := slice_of_own hown5 hn0
  clear kb4 ka4 mm4 m5 HS4 hown5
  go_wp2_with fail
  refine (run_Compact_no _ ys _ hs5 (by have := HYL.out; omega) ?_).mono ?_
  · intro i hi
    have := HYND.out
    rw [List.nodup_iff_pairwise_ne, List.pairwise_iff_getElem] at this
    exact this i (i + 1) (by omega) hi (by omega)
  rintro e w6 ⟨rfl, d6⟩
  have kb6 := kb5.later (d6.mod (fun _ => False)) (by simp)
  have ka6 := ka5.later (d6.mod (fun _ => False)) (by simp)
  have mm6 := mm5.trans (d6.mod (fun _ => False)) (by simp)
  have HS6 := Lib.hid (HS5.out.later (d6.mod (fun _ => False)) (by simp))
  have s6 := (d6.mod (fun _ => False)).size
  clear kb5 ka5 mm5 hs5 d6 HS5
  go_wp2
  have km := Blk.made w6 #[.slice none 0 0, .slice none 0 0, .slice none 0 0] 72
  have m67 : Mod (fun _ => False) w6 (w6.alloc (.cells #[.slice none 0 0, .slice none 0 0, .slice none 0 0] 72)) := (Mod.refl _ _).alloc _
  have kb7 := kb6.later m67 (by simp)
  have ka7 := ka6.later m67 (by simp)
  have mm7 := mm6.trans m67 (by simp)
  have hdn : ∀ v : Value, Dj (.slice none 0 0) v := fun v k h => by simp [Value.ownBlock] at h
  have PM0 : PlanMem (w6.alloc (.cells #[.slice none 0 0, .slice none 0 0, .slice none 0 0] 72)) (w6.heap.size + 1) w6.heap.size (.slice none 0 0) (.slice none 0 0) (.slice none 0 0) [] [] [] :=
    ⟨km, World.ownsRow_nil _ _ _ _, World.ownsRow_nil _ _ _ _, World.ownsRow_nil _ _ _ _, hdn _, hdn _, hdn _, by omega⟩
  have hsz7 : w6.heap.size + 1 ≤ (w6.alloc (.cells #[.slice none 0 0, .slice none 0 0, .slice none 0 0] 72)).heap.size := by simp
  have lb6 := kb6.lt
  have la6 := ka6.lt
  clear kb6 ka6 mm6 hdn km m67
  go_loopw [45] (fun i wr => ∃ (k : Nat) (v0 v1 v2 : Value), k ≤ n ∧ i = .int .i64 k ∧ PlanMem wr (w6.heap.size + 1) w6.heap.size v0 v1 v2 (c.ups f (ys.take k)) (c.dns f (ys.take k)) (c.eqs f (ys.take k)) ∧
      Mod (fun q => w6.heap.size ≤ q) (w6.alloc (.cells #[.slice none 0 0, .slice none 0 0, .slice none 0 0] 72)) wr) (fun i _ => n - (intOf i).toNat)
  case atStart => exact ⟨0, _, _, _, by omega, rfl, by simpa [Cfg.ups, Cfg.dns, Cfg.eqs] using PM0, Mod.refl _ _⟩
  case round =>
    obtain ⟨k, v0, v1, v2, hk, rfl, PM, hmod⟩ := hrel
    clear PM0
    have hszr := hmod.size
    simp only [World.size_alloc] at hszr
    have kbR := kb7.later hmod (by omega)
    by_cases hlt : k < n
    · have hkl : k < ys.length := by have := HYL.out; omega
      obtain ⟨B, off, hB1, hB, hcell⟩ := HS6.out.at k hlt
      have hv : (ys.map (Value.int .i64)).getD k undef = .int .i64 ys[k] := by simp [List.getD_eq_getElem?_getD, hkl]
      rw [hv] at hcell
      simp only [Option.some.injEq, Addr.mk.injEq, and_true] at hB1
      obtain ⟨rfl, rfl⟩ := hB1
      have hcell := ((((Mod.refl (fun _ => False) w6).alloc (.cells #[.slice none 0 0, .slice none 0 0, .slice none 0 0] 72)).trans' (S := fun q => w6.heap.size ≤ q) hmod (by simp) (fun _ _ h => h)).cell (p := ⟨G, 0 + k, none⟩) hB (by simp; omega)).trans hcell
      rw [Nat.zero_add] at hcell
      have HU := Lib.hid (filter_take_succ (fun n => decide (c.lab f < c.lab n)) ys k hkl)
      have HD := Lib.hid (filter_take_succ (fun n => decide (c.lab n < c.lab f)) ys k hkl)
      have HE := Lib.hid (filter_take_succ (fun n => decide (c.lab n = c.lab f)) ys k hkl)
      have hl0 : (c.ups f (ys.take k)).length ≤ 12 := by unfold Cfg.ups; have := List.length_filter_le (fun n => decide (c.lab f < c.lab n)) (ys.take k); simp at this ⊢; omega
      have hl1 : (c.dns f (ys.take k)).length ≤ 12 := by unfold Cfg.dns; have := List.length_filter_le (fun n => decide (c.lab n < c.lab f)) (ys.take k); simp at this ⊢; omega
      have hl2 : (c.eqs f (ys.take k)).length ≤ 12 := by unfold Cfg.eqs; have := List.length_filter_le (fun n => decide (c.lab n = c.lab f)) (ys.take k); simp at this ⊢; omega
      generalize ys[k] = x at hcell HU HD HE
      clear hv
      obtain ⟨c0, c1, c2, c3, c4, c5, c6, c7, c8⟩ := cfg_cells kbR
      go_wp2_with fail
      refine (run_label c x _).mono ?_
      rintro e wa ⟨rfl, ma⟩
      have kbA := kbR.later ma (by simp)
      have PMA := PM.later ma
      have hmA := hmod.trans ma (by simp)
      clear c0 c1 c2 c3 c4 c5 c6 c7 c8 kbR PM hmod hcell ma
      obtain ⟨c0, c1, c2, c3, c4, c5, c6, c7, c8⟩ := cfg_cells kbA
      go_wp2_with fail
      refine (run_label c f _).mono ?_
      rintro e wb ⟨rfl, mb⟩
      have kbB := kbA.later mb (by simp)
      have PM := PMA.later mb
      have hmB := hmA.trans mb (by simp)
      have hszB := hmB.size
      simp only [World.size_alloc] at hszB
      clear c0 c1 c2 c3 c4 c5 c6 c7 c8 kbA PMA hmA mb
      have a0 := PM.blk.cell 0
      have a1 := PM.blk.cell 1
      have a2 := PM.blk.cell 2
      simp at a0 a1 a2
      have z0 := PM.blk.fz 0
      have z1 := PM.blk.fz 1
      have z2 := PM.blk.fz 2
      by_cases h1 : c.lab f < c.lab x
      · go_wp2_with (at_builtin; refine wpList_appendE rfl _ _ 39 rfl (w6.heap.size + 1) 3 (.int .i64 0) 1 8 Try.underlying39 info_i rfl (by decide) v0 (c.ups f (ys.take k)).length ((c.ups f (ys.take k)).map (Value.int .i64)) rfl PM.o0 #[.int .i64 x] rfl rfl (by simp [Value.oneCell']) (by unfold maxLen; omega) (by omega) (by omega) ?_; intro g gcap2 wz hown7 hm7 hat7; have zz := (PM.blk.later hm7 (fun e => by have := (PM.o0.lt _ e).1; omega)).cell 0; have zf := (PM.blk.later hm7 (fun e => by have := (PM.o0.lt _ e).1; omega)).fz 0; simp at zz)
        have PM2 := PM.grow0 hown7 hm7 hat7
        have hm8 := (hmB.trans (S := fun q => w6.heap.size ≤ q) hm7 (fun q hq e => by have := (PM.o0.lt q e).1; omega)).setCell (p := ⟨w6.heap.size, 0, none⟩) (Or.inl (Nat.le_refl _)) (.slice (some ⟨g, 0, none⟩) ((c.ups f (ys.take k)).length + 1) gcap2)
        have hu : c.ups f (ys.take (k + 1)) = c.ups f (ys.take k) ++ [x] := by unfold Cfg.ups; rw [HU.out, decide_eq_true (by omega)]; rfl
        have hd : c.dns f (ys.take (k + 1)) = c.dns f (ys.take k) ++ [] := by unfold Cfg.dns; rw [HD.out, decide_eq_false (by omega)]; rfl
        have he : c.eqs f (ys.take (k + 1)) = c.eqs f (ys.take k) ++ [] := by unfold Cfg.eqs; rw [HE.out, decide_eq_false (by omega)]; rfl
        rw [List.append_nil] at hd he
        go_roundw
        case rel => exact ⟨k + 1, _, _, _, by omega, by go_num, by rw [hu, hd, he]; exact PM2, hm8⟩
        case measure => simp [intOf]; omega
      · obtain ⟨c0, c1, c2, c3, c4, c5, c6, c7, c8⟩ := cfg_cells kbB
        by_cases h2 : c.lab x < c.lab f
        · go_wp2_with fail
          refine (run_label c f _).mono ?_
          rintro e wd ⟨rfl, md⟩
          have PMD := PM.later md
          have hmD := hmB.trans md (by simp)
          have hszD := hmD.size
          simp only [World.size_alloc] at hszD
          clear c0 c1 c2 c3 c4 c5 c6 c7 c8 kbB PM hmB md a0 a1 a2 z0 z1 z2
          have a0 := PMD.blk.cell 0
          have a1 := PMD.blk.cell 1
          have a2 := PMD.blk.cell 2
          simp at a0 a1 a2
          have z0 := PMD.blk.fz 0
          have z1 := PMD.blk.fz 1
          have z2 := PMD.blk.fz 2
          go_wp2_with (at_builtin; refine wpList_appendE rfl _ _ 39 rfl (w6.heap.size + 1) 3 (.int .i64 0) 1 8 Try.underlying39 info_i rfl (by decide) v1 (c.dns f (ys.take k)).length ((c.dns f (ys.take k)).map (Value.int .i64)) rfl PMD.o1 #[.int .i64 x] rfl rfl (by simp [Value.oneCell']) (by unfold maxLen; omega) (by omega) (by omega) ?_; intro g gcap2 wz hown7 hm7 hat7; have zz := (PMD.blk.later hm7 (fun e => by have := (PMD.o1.lt _ e).1; omega)).cell 1; have zf := (PMD.blk.later hm7 (fun e => by have := (PMD.o1.lt _ e).1; omega)).fz 1; simp at zz)
          have PM2 := PMD.grow1 hown7 hm7 hat7
          have hm8 := (hmD.trans (S := fun q => w6.heap.size ≤ q) hm7 (fun q hq e => by have := (PMD.o1.lt q e).1; omega)).setCell (p := ⟨w6.heap.size, 1, none⟩) (Or.inl (Nat.le_refl _)) (.slice (some ⟨g, 0, none⟩) ((c.dns f (ys.take k)).length + 1) gcap2)
          have hu : c.ups f (ys.take (k + 1)) = c.ups f (ys.take k) ++ [] := by unfold Cfg.ups; rw [HU.out, decide_eq_false (by omega)]; rfl
          have hd : c.dns f (ys.take (k + 1)) = c.dns f (ys.take k) ++ [x] := by unfold Cfg.dns; rw [HD.out, decide_eq_true (by omega)]; rfl
          have he : c.eqs f (ys.take (k + 1)) = c.eqs f (ys.take k) ++ [] := by unfold Cfg.eqs; rw [HE.out, decide_eq_false (by omega)]; rfl
          rw [List.append_nil] at hu he
          go_roundw
          case rel => exact ⟨k + 1, _, _, _, by omega, by go_num, by rw [hu, hd, he]; exact PM2, hm8⟩
          case measure => simp [intOf]; omega
        · go_wp2_with fail
          refine (run_label c f _).mono ?_
          rintro e wd ⟨rfl, md⟩
          have PMD := PM.later md
          have hmD := hmB.trans md (by simp)
          have hszD := hmD.size
          simp only [World.size_alloc] at hszD
          clear c0 c1 c2 c3 c4 c5 c6 c7 c8 kbB PM hmB md a0 a1 a2 z0 z1 z2
          have a0 := PMD.blk.cell 0
          have a1 := PMD.blk.cell 1
          have a2 := PMD.blk.cell 2
          simp at a0 a1 a2
          have z0 := PMD.blk.fz 0
          have z1 := PMD.blk.fz 1
          have z2 := PMD.blk.fz 2
          go_wp2_with (at_builtin; refine wpList_appendE rfl _ _ 39 rfl (w6.heap.size + 1) 3 (.int .i64 0) 1 8 Try.underlying39 info_i rfl (by decide) v2 (c.eqs f (ys.take k)).length ((c.eqs f (ys.take k)).map (Value.int .i64)) rfl PMD.o2 #[.int .i64 x] rfl rfl (by simp [Value.oneCell']) (by unfold maxLen; omega) (by omega) (by omega) ?_; intro g gcap2 wz hown7 hm7 hat7; have zz := (PMD.blk.later hm7 (fun e => by have := (PMD.o2.lt _ e).1; omega)).cell 2; have zf := (PMD.blk.later hm7 (fun e => by have := (PMD.o2.lt _ e).1; omega)).fz 2; simp at zz)
          have PM2 := PMD.grow2 hown7 hm7 hat7
          have hm8 := (hmD.trans (S := fun q => w6.heap.size ≤ q) hm7 (fun q hq e => by have := (PMD.o2.lt q e).1; omega)).setCell (p := ⟨w6.heap.size, 2, none⟩) (Or.inl (Nat.le_refl _)) (.slice (some ⟨g, 0, none⟩) ((c.eqs f (ys.take k)).length + 1) gcap2)
          have hu : c.ups f (ys.take (k + 1)) = c.ups f (ys.take k) ++ [] := by unfold Cfg.ups; rw [HU.out, decide_eq_false (by omega)]; rfl
          have hd : c.dns f (ys.take (k + 1)) = c.dns f (ys.take k) ++ [] := by unfold Cfg.dns; rw [HD.out, decide_eq_false (by omega)]; rfl
          have he : c.eqs f (ys.take (k + 1)) = c.eqs f (ys.take k) ++ [x] := by unfold Cfg.eqs; rw [HE.out, decide_eq_true (by omega)]; rfl
          rw [List.append_nil] at hu hd
          go_roundw
          case rel => exact ⟨k + 1, _, _, _, by omega, by go_num, by rw [hu, hd, he]; exact PM2, hm8⟩
          case measure => simp [intOf]; omega
    · have hkl : ys.take k = ys := List.take_of_length_le (by have := HYL.out; omega)
      rw [hkl] at PM
      clear hkl
      have kaR := ka7.later hmod (by omega)
      have a1 := PM.blk.cell 1
      simp at a1
      have hfin : ∀ wq : World, Mod (fun q => v1.ownBlock = some q) wr wq → wq.ownsRow (w6.heap.size + 1) 3 1 v1 (c.dns f ys).length ((c.dns f ys).reverse.map (Value.int .i64)) →
          Blk wq w6.heap.size #[v0, v1, v2] 72 ∧ Blk wq (w.heap.size + 1) #[.slice none 0 0, .slice none 0 0, .slice none 0 0] 72 ∧
          wq.ownsRow (w6.heap.size + 1) 3 1 v0 (c.ups f ys).length ((c.ups f ys).map (Value.int .i64)) ∧ wq.ownsRow (w6.heap.size + 1) 3 1 v2 (c.eqs f ys).length ((c.eqs f ys).map (Value.int .i64)) ∧
          Mod (fun _ => False) w wq := by
        intro wq mq oq
        have hnb : ∀ q, v1.ownBlock = some q → w6.heap.size < q := fun q e => (PM.o1.lt q e).1
        refine ⟨PM.blk.later mq (fun e => by have := hnb _ e; omega), kaR.later mq (fun e => by have := hnb _ e; omega), own_other PM.o0 mq PM.d01.symm, own_other PM.o2 mq PM.d12, ?_⟩
        exact (mm7.trans hmod (fun i hi h => by omega)).trans mq (fun i hi e => by have := hnb _ e; omega)
      have HFIN := Lib.hid hfin
      have o1 := PM.o1
      have HPM := Lib.hid PM
      clear hfin kbR PM hmod kaR
      have hrev : ∀ (P : Prop), (∀ (ar : Option Addr) (cr : Nat), v1 = .slice ar 0 cr → (c.dns f ys).reverse = c.dns f ys → P) → (∀ (g gc : Nat), v1 = .slice (some ⟨g, 0, none⟩) (c.dns f ys).length gc → P) → P := by
        intro P h1 h2
        rcases Nat.eq_zero_or_pos (c.dns f ys).length with h | h
        · have hnil : c.dns f ys = [] := List.eq_nil_of_length_eq_zero h
          rcases o1.2 with ⟨hv, -⟩ | ⟨g, cp, cur, hv, -⟩
          · exact h1 none 0 hv (by rw [hnil]; rfl)
          · exact h1 _ cp (by rw [hv, h]) (by rw [hnil]; rfl)
        · obtain ⟨g, gc, hv, -⟩ := slice_of_own o1 h
          exact h2 g gc hv
      have hdl : (c.dns f ys).length ≤ 12 := by unfold Cfg.dns; have := List.length_filter_le (fun n => decide (c.lab n < c.lab f)) ys; have := HYL.out; omega
      refine hrev _ ?_ ?_
      · intro ar cr hv1 hrv
        have oq : wr.ownsRow (w6.heap.size + 1) 3 1 v1 (c.dns f ys).length ((c.dns f ys).reverse.map (Value.int .i64)) := by rw [hrv]; exact o1
        have hf2 := HFIN.out wr (Mod.refl _ _) oq
        obtain ⟨a0, n0, c0, rfl⟩ := own_form HPM.out.o0
        obtain ⟨a2, n2, c2, rfl⟩ := own_form HPM.out.o2
        subst hv1
        clear hrev hrv hdl o1
        go_wp2_with fail
        refine (run_Reverse_nil ar cr _).mono ?_
        rintro e wq ⟨rfl, rfl⟩
        clear HFIN HPM
        obtain ⟨kq, ka, o0, o2, mq⟩ := hf2
        have lw := ka.lt
        have q0 := kq.cell 0
        have q1 := kq.cell 1
        have q2 := kq.cell 2
        have p0 := ka.cell 0
        have p1 := ka.cell 1
        have p2 := ka.cell 2
        simp at q0 q1 q2 p0 p1 p2
        have f0 := ka.fz 0
        have f1 := ka.fz 1
        have f2 := ka.fz 2
        go_wp2
        have ks := ((ka.set 0 (.slice a0 n0 c0)).set 1 (.slice ar 0 cr)).set 2 (.slice a2 n2 c2)
        have ms := ((mq.setCell (p := ⟨w.heap.size + 1, 0, none⟩) (Or.inr (by simp)) (.slice a0 n0 c0)).setCell (p := ⟨w.heap.size + 1, 1, none⟩) (Or.inr (by simp)) (.slice ar 0 cr)).setCell (p := ⟨w.heap.size + 1, 2, none⟩) (Or.inr (by simp)) (.slice a2 n2 c2)
        have s0 := SlV.own (ownsRow_setCell_below (a := ⟨w.heap.size + 1, 2, none⟩) (ownsRow_setCell_below (a := ⟨w.heap.size + 1, 1, none⟩) (ownsRow_setCell_below (a := ⟨w.heap.size + 1, 0, none⟩) o0 (by simp; omega) (.slice a0 n0 c0)) (by simp; omega) (.slice ar 0 cr)) (by simp; omega) (.slice a2 n2 c2))
        have s1 := SlV.own (ownsRow_setCell_below (a := ⟨w.heap.size + 1, 2, none⟩) (ownsRow_setCell_below (a := ⟨w.heap.size + 1, 1, none⟩) (ownsRow_setCell_below (a := ⟨w.heap.size + 1, 0, none⟩) oq (by simp; omega) (.slice a0 n0 c0)) (by simp; omega) (.slice ar 0 cr)) (by simp; omega) (.slice a2 n2 c2))
        have s2 := SlV.own (ownsRow_setCell_below (a := ⟨w.heap.size + 1, 2, none⟩) (ownsRow_setCell_below (a := ⟨w.heap.size + 1, 1, none⟩) (ownsRow_setCell_below (a := ⟨w.heap.size + 1, 0, none⟩) o2 (by simp; omega) (.slice a0 n0 c0)) (by simp; omega) (.slice ar 0 cr)) (by simp; omega) (.slice a2 n2 c2))
        simp at ks
        generalize ((wr.setCell ⟨w.heap.size + 1, 0, none⟩ (.slice a0 n0 c0)).setCell ⟨w.heap.size + 1, 1, none⟩ (.slice ar 0 cr)).setCell ⟨w.heap.size + 1, 2, none⟩ (.slice a2 n2 c2) = wf at ks ms s0 s1 s2 ⊢
        have t0 := ks.cell 0
        have t1 := ks.cell 1
        have t2 := ks.cell 2
        simp at t0 t1 t2
        exact bodyPost_ret (v := .tuple #[.agg #[(.slice a0 n0 c0), (.slice ar 0 cr), (.slice a2 n2 c2)], .int .i64 0]) (by simp [results, Try.results38, go_sem, t0, t1, t2]) rfl ⟨_, _, _, ys, rfl, ms, HPERM.out, HSORT.out, s0, s1, s2⟩
      · intro g gc hv1
        obtain ⟨a0, n0, c0, rfl⟩ := own_form HPM.out.o0
        obtain ⟨a2, n2, c2, rfl⟩ := own_form HPM.out.o2
        subst hv1
        clear hrev
        go_wp2_with fail
        refine (run_Reverse g _ _ gc (c.dns f ys) _ o1 (by omega)).mono ?_
        rintro e wq ⟨rfl, mrev, oq⟩
        have hf2 := HFIN.out wq (mrev.mono (fun q _ h => by simp [Value.ownBlock, h])) oq
        clear HFIN HPM hdl o1 mrev a1
        obtain ⟨kq, ka, o0, o2, mq⟩ := hf2
        have lw := ka.lt
        have q0 := kq.cell 0
        have q1 := kq.cell 1
        have q2 := kq.cell 2
        have p0 := ka.cell 0
        have p1 := ka.cell 1
        have p2 := ka.cell 2
        simp at q0 q1 q2 p0 p1 p2
        have f0 := ka.fz 0
        have f1 := ka.fz 1
        have f2 := ka.fz 2
        go_wp2
        have ks := ((ka.set 0 (.slice a0 n0 c0)).set 1 (.slice (some ⟨g, 0, none⟩) (c.dns f ys).length gc)).set 2 (.slice a2 n2 c2)
        have ms := ((mq.setCell (p := ⟨w.heap.size + 1, 0, none⟩) (Or.inr (by simp)) (.slice a0 n0 c0)).setCell (p := ⟨w.heap.size + 1, 1, none⟩) (Or.inr (by simp)) (.slice (some ⟨g, 0, none⟩) (c.dns f ys).length gc)).setCell (p := ⟨w.heap.size + 1, 2, none⟩) (Or.inr (by simp)) (.slice a2 n2 c2)
        have s0 := SlV.own (ownsRow_setCell_below (a := ⟨w.heap.size + 1, 2, none⟩) (ownsRow_setCell_below (a := ⟨w.heap.size + 1, 1, none⟩) (ownsRow_setCell_below (a := ⟨w.heap.size + 1, 0, none⟩) o0 (by simp; omega) (.slice a0 n0 c0)) (by simp; omega) (.slice (some ⟨g, 0, none⟩) (c.dns f ys).length gc)) (by simp; omega) (.slice a2 n2 c2))
        have s1 := SlV.own (ownsRow_setCell_below (a := ⟨w.heap.size + 1, 2, none⟩) (ownsRow_setCell_below (a := ⟨w.heap.size + 1, 1, none⟩) (ownsRow_setCell_below (a := ⟨w.heap.size + 1, 0, none⟩) oq (by simp; omega) (.slice a0 n0 c0)) (by simp; omega) (.slice (some ⟨g, 0, none⟩) (c.dns f ys).length gc)) (by simp; omega) (.slice a2 n2 c2))
        have s2 := SlV.own (ownsRow_setCell_below (a := ⟨w.heap.size + 1, 2, none⟩) (ownsRow_setCell_below (a := ⟨w.heap.size + 1, 1, none⟩) (ownsRow_setCell_below (a := ⟨w.heap.size + 1, 0, none⟩) o2 (by simp; omega) (.slice a0 n0 c0)) (by simp; omega) (.slice (some ⟨g, 0, none⟩) (c.dns f ys).length gc)) (by simp; omega) (.slice a2 n2 c2))
        simp at ks
        generalize ((wq.setCell ⟨w.heap.size + 1, 0, none⟩ (.slice a0 n0 c0)).setCell ⟨w.heap.size + 1, 1, none⟩ (.slice (some ⟨g, 0, none⟩) (c.dns f ys).length gc)).setCell ⟨w.heap.size + 1, 2, none⟩ (.slice a2 n2 c2) = wf at ks ms s0 s1 s2 ⊢
        have t0 := ks.cell 0
        have t1 := ks.cell 1
        have t2 := ks.cell 2
        simp at t0 t1 t2
        exact bodyPost_ret (v := .tuple #[.agg #[(.slice a0 n0 c0), (.slice (some ⟨g, 0, none⟩) (c.dns f ys).length gc), (.slice a2 n2 c2)], .int .i64 0]) (by simp [results, Try.results38, go_sem, t0, t1, t2]) rfl ⟨_, _, _, ys, rfl, ms, HPERM.out, HSORT.out, s0, s1, s2⟩

end Go.Proofs.Ytonnooenebfbeaa
