/- The first calls of a model's law, of few bytes. -/
import Derived.Test.YtonnooenebfbeaaNodes20
import Derived.Test.YtonnooenebfbeaaDat
namespace Go.Proofs.Ytonnooenebfbeaa
open Go.RowKit

abbrev callT : Ty := .pair .int (.pair .int (.pair .int (.pair .int (.pair (.slice .int) (.pair .str .unit)))))

structure MCall where
  K : Int
  A : Int
  B : Int
  N : Int
  Set : List Int
  Data : ByteArray

def mcall (d : Dat callT) : MCall := ⟨d.1, d.2.1, d.2.2.1, d.2.2.2.1, d.2.2.2.2.1, d.2.2.2.2.2.1⟩
def MCall.cells (x : MCall) (s : Value) : List Value := [.int .i64 x.K, .int .i64 x.A, .int .i64 x.B, .int .i64 x.N, s, .string x.Data]
def MCall.wf (x : MCall) : Prop := (Lit.int .i64 x.K).wf = true ∧ (Lit.int .i64 x.A).wf = true ∧ (Lit.int .i64 x.B).wf = true ∧ (Lit.int .i64 x.N).wf = true

theorem rd_ints {w : World} {B : Nat} (hB : B ≤ w.heap.size) {l : List Int} {cs : List Value} (h : Rd w B (.slice .int) l cs) : ∃ s, cs = [s] ∧ SlV w s (l.map (Value.int .i64)) := by
  obtain ⟨a, n, c, h1, h2, h3, h4, h5⟩ := h
  refine ⟨_, h1, _, _, _, rfl, by rw [List.length_map]; exact h2, h3, h4, ?_⟩
  rcases h5 with h5 | ⟨g, off, h5, h6, h7⟩
  · left; rw [h5]; rfl
  · refine Or.inr ⟨g, off, h5, by omega, fun j hj => ?_⟩
    simp only [List.length_map] at hj
    obtain ⟨ccs, h8, h9, h10, -⟩ := h7 j l[j] (List.getElem?_eq_getElem hj)
    have h11 := h9 0 (by decide)
    rw [h10] at h11
    simp only [width, Nat.mul_one, Nat.add_zero] at h11
    rw [h11]
    simp [List.getD_eq_getElem?_getD, hj]

/-- A slice of calls, at one of them. -/
theorem rd_call {w : World} {B : Nat} (hB : B ≤ w.heap.size) {l : List (Dat callT)} {a : Option Addr} {n c : Nat} (h : Rd w B (.slice callT) l [.slice a n c]) {j : Nat} (hj : j < n) :
    ∃ (g off : Nat) (x : MCall) (s : Value), a = some ⟨g, off, none⟩ ∧ g < B ∧ (l.map mcall)[j]? = some x ∧ x.wf ∧ x.Data.size ≤ maxLen ∧ SlV w s (x.Set.map (Value.int .i64)) ∧
      ∀ i, i < 6 → w.cell? ⟨g, off + j * 6 + i, none⟩ = (x.cells s)[i]? := by
  obtain ⟨a', n', c', h1, h2, h3, h4, h5⟩ := h
  simp only [List.cons.injEq, Value.slice.injEq, and_true] at h1
  obtain ⟨rfl, rfl, rfl⟩ := h1
  have hjl : j < List.length l := by omega
  rcases h5 with h5 | ⟨g, off, h5, h6, h7⟩
  · subst h5; simp at hjl
  · obtain ⟨ccs, h8, h9, h10⟩ := h7 j l[j] (List.getElem?_eq_getElem hjl)
    obtain ⟨e0, r0, q0, -, ⟨p0, w0⟩, e1, r1, q1, -, ⟨p1, w1⟩, e2, r2, q2, -, ⟨p2, w2⟩, e3, r3, q3, -, ⟨p3, w3⟩, e4, r4, q4, -, p4, e5, r5, q5, -, ⟨p5, w5⟩, q6⟩ := h10
    obtain ⟨s, p4, hs⟩ := rd_ints hB p4
    have q6 : r5 = [] := q6
    subst p0 p1 p2 p3 p4 p5 q6 q5 q4 q3 q2 q1
    refine ⟨g, off, mcall l[j], s, h5, h6, by rw [List.getElem?_map, List.getElem?_eq_getElem hjl]; rfl, ⟨w0, w1, w2, w3⟩, w5, hs, fun i hi => ?_⟩
    rw [show off + j * 6 + i = off + j * width callT + i from rfl, h9 i hi, q0]
    rfl

def early21 (c : Cfg) (x : MCall) : MCall := ⟨x.K, x.A, x.B, x.N, c.nodes20 x.Set, x.Data.extract 0 70⟩

/-- Calls of the law's own: their rows lie in blocks from lo on. -/
def CallsV (w : World) (lo hi : Nat) (v : Value) (l : List MCall) : Prop :=
  ∃ (a : Option Addr) (n c : Nat) (xs : List (MCall × Value)), v = .slice a n c ∧ l.length = n ∧ n ≤ c ∧ c ≤ maxLen ∧ xs.map (·.1) = l ∧ (∀ p ∈ xs, SlV w p.2 (p.1.Set.map (Value.int .i64)) ∧ ∀ i, p.2.ownBlock = some i → lo ≤ i ∧ i < hi) ∧ hi ≤ w.heap.size ∧
    (n = 0 ∨ ∃ g, a = some ⟨g, 0, none⟩ ∧ lo ≤ g ∧ g < hi ∧ ∀ (j : Nat) (p : MCall × Value), xs[j]? = some p → ∀ i, i < 6 → w.cell? ⟨g, j * 6 + i, none⟩ = (p.1.cells p.2)[i]?)

theorem rowsOf_get {xs : List (MCall × Value)} {j : Nat} {p : MCall × Value} (h : xs[j]? = some p) {i : Nat} (hi : i < 6) : (xs.flatMap fun p => p.1.cells p.2)[j * 6 + i]? = (p.1.cells p.2)[i]? := by
  induction xs generalizing j with
  | nil => simp at h
  | cons x xs ih =>
    rw [List.flatMap_cons]
    have hl : (x.1.cells x.2).length = 6 := rfl
    cases j with
    | zero =>
      simp at h
      subst h
      rw [List.getElem?_append_left (by omega)]
      congr 1
      omega
    | succ j =>
      simp at h
      rw [List.getElem?_append_right (by omega), hl, ← ih h]
      congr 1
      omega

theorem extract_all (d : ByteArray) {n : Nat} (h : d.size ≤ n) : d.extract 0 n = d := by
  rw [ByteArray.ext_iff, ByteArray.data_extract]
  exact Array.extract_eq_self_of_le h

theorem own_laterS {w w' : World} {base : Nat} {e : TypeId} {size : Nat} {v : Value} {n : Nat} {xs : List Value} (h : w.ownsRow base e size v n xs) {S : Nat → Prop} (m : Mod S w w') (hS : ∀ i, v.ownBlock = some i → ¬ S i) : w'.ownsRow base e size v n xs := by
  refine ⟨h.1, ?_⟩
  rcases h.2 with h2 | ⟨g, cap, cur, rfl, hb, hh, r⟩
  · exact Or.inl h2
  · exact Or.inr ⟨g, cap, cur, rfl, hb, (m.block g (Array.getElem?_eq_some_iff.1 hh).1 (hS g rfl)).trans hh, r⟩

theorem info_call : (Try.prog.info? 41).map (fun i => (i.zero, i.size, i.bytes)) = some (some (.agg #[.int .i64 0, .int .i64 0, .int .i64 0, .int .i64 0, .slice none 0 0, .string ⟨#[]⟩]), 6, 72) := by kernel_rfl

def rowsOf (xs : List (MCall × Value)) : List Value := xs.flatMap fun p => p.1.cells p.2

set_option maxRecDepth 100000 in
set_option maxHeartbeats 1600000 in
theorem run_early21 (c : Cfg) (v : Value) (l : List (Dat callT)) (m : Nat) (w : World) (B : Nat) (hc : c.Ok) (h : Rd w B (.slice callT) l [v]) (hB : B ≤ w.heap.size) (hm : m ≤ 1000) :
    Calls Try.prog 23 #[.agg c.cells, v, .int .i64 m] w fun e w' => ∃ r, e = .returned r ∧ Mod (fun _ => False) w w' ∧ CallsV w' w.heap.size w'.heap.size r (((l.map mcall).take m).map (early21 c)) := by
  have kb := Blk.made w c.cells 25
  have m0 : Mod (fun _ => False) w (w.alloc (.cells c.cells 25)) := (Mod.refl _ _).alloc _
  have HR := Lib.hid h
  obtain ⟨a, len, cap, hv, hl, hcap, hmax, -⟩ := id h
  obtain rfl : v = .slice a len cap := by simpa using hv
  unfold maxLen at hmax
  have HL := Lib.hid hl
  clear h hv hl
  simp only [Cfg.cells] at kb m0 ⊢
  go_enter Try.func23, Try.ntmps23
  go_wp2
  generalize w.alloc (.cells #[.int .i64 c.W, .int .i64 c.H, .int .i64 c.Lanes, .int .i64 c.Depth, .int .i64 c.Ring, .int .i64 c.Inbox, .int .i64 c.Bound, .bool c.West, .bool c.Cast] 25) = w1 at kb m0 ⊢
  have lb := kb.lt
  go_loopw [7, 8] (fun o i wr => ∃ (k : Nat) (xs : List (MCall × Value)), k ≤ len ∧ k ≤ m ∧ i = .int .i64 k ∧ wr.ownsRow w1.heap.size 41 6 o k (rowsOf xs) ∧ xs.map (·.1) = ((l.map mcall).take k).map (early21 c) ∧
    (∀ p ∈ xs, SlV wr p.2 (p.1.Set.map (Value.int .i64)) ∧ ∀ i, p.2.ownBlock = some i → w1.heap.size ≤ i ∧ i < wr.heap.size ∧ ¬ o.ownBlock = some i) ∧ Mod (fun q => w1.heap.size ≤ q) w1 wr) (fun _ i _ => len - (intOf i).toNat)
  case atStart => exact ⟨0, [], by omega, by omega, by simp, World.ownsRow_nil _ _ _ _, rfl, by simp, Mod.refl _ _⟩
  case round =>
    obtain ⟨k, xs, hk, hkm, rfl, hown, hxs, hsl, hmod⟩ := hrel
    obtain ⟨wA, rfl⟩ : ∃ wo : World, wo = wr := ⟨_, rfl⟩
    have MA : Mod (fun _ => False) w wA := m0.trans hmod (fun i hi h => by omega)
    have kA := kb.later hmod (by omega)
    have HXS := Lib.hid hxs
    have HSL := Lib.hid hsl
    clear hxs hsl
    by_cases hlt : k < len ∧ k < m
    · obtain ⟨hlt, hltm⟩ := hlt
      obtain ⟨g, off, x, s, rfl, hg, hx, hwf, hdl, hs, hcells⟩ := rd_call hB HR.out hlt
      have hg := Nat.lt_of_lt_of_le hg hB
      have hgm : ¬ (w1.heap.size ≤ g) := by have := m0.size; omega
      have hwA := MA.size
      have d0 := (MA.cell (p := ⟨g, off + k * 6 + 0, none⟩) hg (by simp)).trans (hcells 0 (by omega))
      have d1 := (MA.cell (p := ⟨g, off + k * 6 + 1, none⟩) hg (by simp)).trans (hcells 1 (by omega))
      have d2 := (MA.cell (p := ⟨g, off + k * 6 + 2, none⟩) hg (by simp)).trans (hcells 2 (by omega))
      have d3 := (MA.cell (p := ⟨g, off + k * 6 + 3, none⟩) hg (by simp)).trans (hcells 3 (by omega))
      have d4 := (MA.cell (p := ⟨g, off + k * 6 + 4, none⟩) hg (by simp)).trans (hcells 4 (by omega))
      have d5 := (MA.cell (p := ⟨g, off + k * 6 + 5, none⟩) hg (by simp)).trans (hcells 5 (by omega))
      simp [MCall.cells] at d0 d1 d2 d3 d4 d5
      have HX := Lib.hid hx
      have HS := Lib.hid (hs.later MA (by simp))
      clear hx hs hcells hwf
      unfold maxLen at hdl
      have b0 : (0 : Int) ≤ (k : Int) := by omega
      have b1 : (k : Int) < (len : Int) := by omega
      obtain ⟨c0, c1, c2, c3, c4, c5, c6, c7, c8⟩ := cfg_cells kA
      obtain ⟨sa, sn, sc, rfl, -, -, -, -⟩ := id HS.out
      obtain ⟨d, hd⟩ : ∃ d, x.Data.extract 0 70 = d := ⟨_, rfl⟩
      have HD := Lib.hid hd
      have hds : d.size ≤ 70 := by rw [← hd]; simp; omega
      clear hd
      go_upto_region 6 with fail
      go_cut [] (fun w' => w' = wA.alloc (.cells #[.int .i64 x.K, .int .i64 x.A, .int .i64 x.B, .int .i64 x.N, .slice sa sn sc, .string d] 41))
      case first =>
        by_cases h70 : x.Data.size ≤ 70
        · have e : x.Data = d := by
            rw [← HD.out]
            exact (extract_all _ h70).symm
          have HE := Lib.hid e
          clear e
          go_wp2_with fail
          all_goals go_meet
          all_goals rw [HE.out]
        · go_wp2_with fail
          all_goals go_meet
          all_goals rw [HD.out]
      case rest =>
        obtain rfl := hcut
        have mX : Mod (fun _ => False) wA (wA.alloc (.cells #[.int .i64 x.K, .int .i64 x.A, .int .i64 x.B, .int .i64 x.N, .slice sa sn sc, .string d] 41)) := (Mod.refl _ _).alloc _
        have kX := Blk.made wA #[.int .i64 x.K, .int .i64 x.A, .int .i64 x.B, .int .i64 x.N, .slice sa sn sc, .string d] 41
        have HS2 := Lib.hid (HS.out.later mX (by simp))
        have lA := kA.lt
        clear d0 d1 d2 d3 d4 d5 c0 c1 c2 c3 c4 c5 c6 c7 c8
        generalize wA.alloc (.cells #[.int .i64 x.K, .int .i64 x.A, .int .i64 x.B, .int .i64 x.N, .slice sa sn sc, .string d] 41) = wX at mX kX HS2 ⊢
        have kC := kA.later mX (by simp)
        obtain ⟨c0, c1, c2, c3, c4, c5, c6, c7, c8⟩ := cfg_cells kC
        have d4 := kX.cell 4
        simp at d4
        go_wp2_with fail
        refine (ref_Nodes20 c _ x.Set _ hc HS2.out).mono ?_
        rintro e w3 ⟨r, rfl, m3, s3, o3⟩
        obtain ⟨ra, rn, rc, rfl, -, -, -, -⟩ := id s3
        have k3 := kX.later m3 (by simp)
        have S3 := Lib.hid s3
        have O3 := Lib.hid o3
        have mm3 := mX.trans m3 (by simp)
        have l3 := k3.lt
        have z4 := k3.fz 4
        have y4 := k3.cell 4
        simp at y4
        have hsz := hmod.size
        have hsz3 := m3.size
        have hszX := kX.lt
        clear s3 o3 kX kC kA d4 c0 c1 c2 c3 c4 c5 c6 c7 c8 HS2 mX m3
        go_upto_region 8 with fail
        have k4 := k3.set 4 (.slice ra rn rc)
        simp at k4
        have m4 := (mm3.mono (S' := fun q => q = wA.heap.size) (fun _ _ e => e.elim)).setCell (p := ⟨wA.heap.size, 4, none⟩) (Or.inl rfl) (.slice ra rn rc)
        have S4 := Lib.hid (S3.out.later ((Mod.refl (fun q => q = wA.heap.size) w3).setCell (p := ⟨wA.heap.size, 4, none⟩) (Or.inl rfl) (.slice ra rn rc)) (fun a n c e => by
          have := O3.out a.block (by rw [e]; rfl)
          omega))
        have hs4 : (w3.setCell ⟨wA.heap.size, 4, none⟩ (.slice ra rn rc)).heap.size = w3.heap.size := by simp
        have O4 := Lib.hid (show ∀ i, (Value.slice ra rn rc).ownBlock = some i → wA.heap.size < i ∧ i < (w3.setCell ⟨wA.heap.size, 4, none⟩ (.slice ra rn rc)).heap.size from fun i e => by rw [hs4]; have := O3.out i e; omega)
        have hl4 : w3.heap.size ≤ (w3.setCell ⟨wA.heap.size, 4, none⟩ (.slice ra rn rc)).heap.size := by omega
        clear hs4
        generalize w3.setCell ⟨wA.heap.size, 4, none⟩ (.slice ra rn rc) = w4 at k4 m4 S4 O4 hl4 ⊢
        clear k3 S3 O3 z4 y4 mm3 l3
        obtain ⟨e0, e1, e2, e3, e4, e5⟩ : w4.cell? ⟨wA.heap.size, 0, none⟩ = some (.int .i64 x.K) ∧ w4.cell? ⟨wA.heap.size, 1, none⟩ = some (.int .i64 x.A) ∧ w4.cell? ⟨wA.heap.size, 2, none⟩ = some (.int .i64 x.B) ∧ w4.cell? ⟨wA.heap.size, 3, none⟩ = some (.int .i64 x.N) ∧ w4.cell? ⟨wA.heap.size, 4, none⟩ = some (.slice ra rn rc) ∧ w4.cell? ⟨wA.heap.size, 5, none⟩ = some (.string d) := by
          refine ⟨?_, ?_, ?_, ?_, ?_, ?_⟩ <;> (rw [k4.cell]; rfl)
        have hown4 : w4.ownsRow w1.heap.size 41 6 u7 k (rowsOf xs) := own_laterS hown m4 (fun i e1 e2 => by have := (hown.lt i e1).2; omega)
        have hlow6 := fun i e => (hown4.lt i e).1
        go_wp2_with (at_builtin; refine wpList_appendE rfl _ _ 51 rfl w1.heap.size 41 (.agg #[.int .i64 0, .int .i64 0, .int .i64 0, .int .i64 0, .slice none 0 0, .string ⟨#[]⟩]) 6 72 Try.underlying51 info_call rfl (by decide) _ _ _ rfl hown4 #[_, _, _, _, _, _] rfl rfl (by simp [Value.oneCell']) (by unfold maxLen; omega) (by omega) (by omega) ?_; intro g cap wz hown7 hm7 hat7)
        go_roundw
        case rel =>
          have hs7 := hm7.size
          have hml := fun i e => (hown.lt i e).2
          refine ⟨k + 1, xs ++ [(early21 c x, .slice ra rn rc)], by omega, by omega, by go_num, ?_, ?_, ?_, ?_⟩
          · have e : rowsOf (xs ++ [(early21 c x, .slice ra rn rc)]) = rowsOf xs ++ #[Value.int .i64 x.K, .int .i64 x.A, .int .i64 x.B, .int .i64 x.N, .slice ra rn rc, .string d].toList := by
              simp [rowsOf, MCall.cells, early21, HD.out]
            rw [e]
            exact hown7
          · rw [List.take_add_one, HX.out]
            simp [HXS.out]
          · intro p hp
            rcases List.mem_append.1 hp with hp | hp
            · obtain ⟨h1, h2⟩ := HSL.out p hp
              refine ⟨(h1.later m4 (fun a n c e => ?_)).later hm7 (fun a n c e => ?_), fun i hi => ?_⟩
              · have := h2 a.block (by rw [e]; rfl)
                omega
              · exact (h2 a.block (by rw [e]; rfl)).2.2
              · obtain ⟨q1, q2, q3⟩ := h2 i hi
                refine ⟨q1, by omega, fun e => ?_⟩
                have e2 : g = i := by simpa [Value.ownBlock] using e
                subst e2
                rcases hat7 with h | h
                · exact q3 h
                · omega
            · simp only [List.mem_singleton] at hp
              subst hp
              refine ⟨S4.out.later hm7 (fun a n c e h => ?_), fun i hi => ?_⟩
              · have h3 := (O4.out a.block (by rw [e]; rfl)).1
                have h4 := hml _ h
                omega
              · obtain ⟨q1, q2⟩ := O4.out i hi
                refine ⟨by omega, by omega, fun e => ?_⟩
                have e2 : g = i := by simpa [Value.ownBlock] using e
                subst e2
                rcases hat7 with h | h
                · have := hml _ h
                  omega
                · omega
          · exact (hmod.trans m4 (fun i hi e => by omega)).trans hm7 (fun i hi e => hlow6 i e)
        case measure => simp [intOf]; omega
    · have hk2 : k = min len m := by omega
      have hfin : ((l.map mcall).take k).map (early21 c) = ((l.map mcall).take m).map (early21 c) := by
        rcases Nat.lt_or_ge k m with h | h
        · have hll : l.length ≤ k := by have := HL.out; have : List.length l = len := this; omega
          rw [List.take_of_length_le (by simpa using hll), List.take_of_length_le (by simp; omega)]
        · rw [show k = m from by omega]
      have hcv : CallsV wA w.heap.size wA.heap.size u7 (((l.map mcall).take m).map (early21 c)) := by
        have hm0 := m0.size
        have hxl : xs.length = k := by
          have := congrArg List.length HXS.out
          simp at this
          have h2 : List.length l = len := HL.out
          rw [this, h2]
          omega
        rw [← hfin, ← HXS.out]
        rcases hown.2 with ⟨rfl, h0⟩ | ⟨g, cap', cur, rfl, hb, hh, hc', hm', hs', ht⟩
        · exact ⟨none, 0, 0, xs, rfl, by simp [hxl, h0], Nat.le_refl _, by decide, rfl, fun p hp => ⟨(HSL.out p hp).1, fun i hi => ⟨by have := ((HSL.out p hp).2 i hi).1; omega, ((HSL.out p hp).2 i hi).2.1⟩⟩, Nat.le_refl _, Or.inl rfl⟩
        · refine ⟨_, k, cap', xs, rfl, by simp [hxl], hc', hm', rfl, fun p hp => ⟨(HSL.out p hp).1, fun i hi => ⟨by have := ((HSL.out p hp).2 i hi).1; omega, ((HSL.out p hp).2 i hi).2.1⟩⟩, Nat.le_refl _, Or.inr ⟨g, rfl, by omega, (Array.getElem?_eq_some_iff.1 hh).1, fun j p hp i hi => ?_⟩⟩
          have hjl : j < xs.length := (List.getElem?_eq_some_iff.1 hp).1
          have h1 : cur.toList[j * 6 + i]? = (p.1.cells p.2)[i]? := by
            rw [← rowsOf_get hp hi]
            show _ = (rowsOf xs)[j * 6 + i]?
            rw [← ht, List.getElem?_take, if_pos (by omega)]
          simp only [World.cell?, hh, Option.isSome_none, Bool.false_eq_true, if_false, ← Array.getElem?_toList]
          exact h1
      have HC := Lib.hid hcv
      clear hcv hfin hown hmod
      by_cases h6 : k < len
      all_goals
        go_wp2
        all_goals first | (exfalso; omega) | go_ret
        all_goals exact ⟨_, rfl, MA, HC.out⟩

theorem CallsV.later {w w' : World} {lo hi : Nat} {v : Value} {l : List MCall} (h : CallsV w lo hi v l) {S : Nat → Prop} (m : Mod S w w') (hS : ∀ g, lo ≤ g → g < hi → ¬ S g) : CallsV w' lo hi v l := by
  obtain ⟨a, n, c, xs, h1, h2, h3, h4, h5, h6, h7, h8⟩ := h
  refine ⟨a, n, c, xs, h1, h2, h3, h4, h5, fun p hp => ⟨(h6 p hp).1.later m (fun a n c e => ?_), (h6 p hp).2⟩, Nat.le_trans h7 m.size, ?_⟩
  · obtain ⟨q1, q2⟩ := (h6 p hp).2 a.block (by rw [e]; rfl)
    exact hS _ q1 q2
  · rcases h8 with h8 | ⟨g, q1, q2, q3, q4⟩
    · exact Or.inl h8
    · exact Or.inr ⟨g, q1, q2, q3, fun j p hp i hi => (m.cell (p := ⟨g, j * 6 + i, none⟩) (Nat.lt_of_lt_of_le q3 h7) (hS g q2 q3)).trans (q4 j p hp i hi)⟩

theorem CallsV.at {w : World} {lo hi : Nat} {a : Option Addr} {n c : Nat} {l : List MCall} (h : CallsV w lo hi (.slice a n c) l) {j : Nat} (hj : j < n) :
    ∃ (g : Nat) (x : MCall) (s : Value), a = some ⟨g, 0, none⟩ ∧ lo ≤ g ∧ g < hi ∧ l[j]? = some x ∧ SlV w s (x.Set.map (Value.int .i64)) ∧ (∀ i, s.ownBlock = some i → lo ≤ i ∧ i < hi) ∧ ∀ i, i < 6 → w.cell? ⟨g, j * 6 + i, none⟩ = (x.cells s)[i]? := by
  obtain ⟨a', n', c', xs, h1, h2, h3, h4, h5, h6, h7, h8⟩ := h
  simp only [Value.slice.injEq] at h1
  obtain ⟨rfl, rfl, rfl⟩ := h1
  have hxl : xs.length = l.length := by rw [← h5]; simp
  rcases h8 with h8 | ⟨g, q1, q2, q3, q4⟩
  · omega
  · obtain ⟨p, hp⟩ : ∃ p, xs[j]? = some p := ⟨_, List.getElem?_eq_getElem (by omega)⟩
    have hm : p ∈ xs := List.mem_of_getElem? hp
    refine ⟨g, p.1, p.2, q1, q2, q3, by subst h5; rw [List.getElem?_map, hp]; rfl, (h6 p hm).1, (h6 p hm).2, fun i hi => q4 j p hp i hi⟩

theorem rd_wf {w : World} {B : Nat} (hB : B ≤ w.heap.size) {l : List (Dat callT)} {v : Value} (h : Rd w B (.slice callT) l [v]) : ∀ x ∈ l.map mcall, x.wf := by
  intro x hx
  obtain ⟨a, n, c, hv, hl, -⟩ := id h
  obtain rfl : v = .slice a n c := by simpa using hv
  obtain ⟨j, hj, hx2⟩ := List.getElem_of_mem hx
  have hjn : j < n := by
    rw [← hl]
    simpa using hj
  obtain ⟨g, off, y, s, -, -, hy, hw, -⟩ := rd_call hB h hjn
  rw [List.getElem?_eq_getElem hj, hx2] at hy
  obtain rfl := Option.some.inj hy
  exact hw
theorem early21_wf {c : Cfg} {x : MCall} (h : x.wf) : (early21 c x).wf := h
theorem early21_size (c : Cfg) (x : MCall) : (early21 c x).Data.size ≤ 70 := by
  simp [early21]
  omega
theorem early21_len (c : Cfg) (x : MCall) : (early21 c x).Set.length ≤ 6 := by
  simp [early21, Cfg.nodes20]
  omega

end Go.Proofs.Ytonnooenebfbeaa
