/- The contract of a model's Multicast, and of its Close. -/
import Derived.Test.YtonnooenebfbeaaMdlSend
import Derived.Test.YtonnooenebfbeaaPlanN
namespace Go.Proofs.Ytonnooenebfbeaa
open Go.RowKit

def castOk (c : Cfg) (src : Int) (set : List Int) : Prop := set ≠ [] ∧ c.is src = true ∧ (∀ n ∈ set, c.is n = true) ∧ set.Nodup
instance (c : Cfg) (src : Int) (set : List Int) : Decidable (castOk c src set) := by unfold castOk; exact inferInstance
def castE (c : Cfg) (U : List Int) (C : List Bool) (src : Int) (set : List Int) (n : Nat) : Int :=
  if mayE c C src = 0 then (if c.Cast = true then (if castOk c src set then (if 64 < n then 4 else if c.Bound < U.getD src.toNat 0 + set.length then 7 else 0) else 6) else 10) else mayE c C src

set_option maxRecDepth 100000 in
set_option maxHeartbeats 3200000 in
theorem run_Multicast {b bq bu bc : Nat} {f : Int → Int → Value} {c : Cfg} {k : Nat} {Q : Int → Int → List ByteArray} {U : List Int} {C : List Bool} (src : Int) (v : Value) (set : List Int) (data : ByteArray) (w : World)
    (h : MdlIn w b bq bu bc f c k Q U C) (hk : k ≤ 100000) (hs : SlV w v (set.map (Value.int .i64))) (hlen : set.length ≤ 12) (hdata : data.size ≤ 4294967295) (hB : 0 ≤ c.Bound ∧ c.Bound ≤ 16) (hsep : ∀ a n c, v = .slice (some a) n c → ¬ own4 b bq bu bc f a.block) :
    Calls Try.prog 18 #[.pointer (some ⟨b, 0, none⟩), .int .i64 src, v, .string data] w fun e w' =>
      e = .returned (.int .i64 (castE c U C src set data.size)) ∧
      ((castE c U C src set data.size ≠ 0 ∧ Mod (fun _ => False) w w') ∨
       (castE c U C src set data.size = 0 ∧ Mod (own4 b bq bu bc f) w w' ∧ ∃ f', MdlIn w' b bq bu bc f' c (k + set.length) (putQ Q src data set) (U.set src.toNat (U.getD src.toNat 0 + set.length)) C ∧ ∀ g, own4 b bq bu bc f' g → own4 b bq bu bc f g ∨ w.heap.size ≤ g)) := by
  obtain ⟨c0, c1, c2, c3, c4, c5, c6, c7, c8, c9, c10, c11⟩ := mdl_cells h
  have HM := Lib.hid h
  have HS := Lib.hid hs
  have HLEN := Lib.hid hlen
  have HSEP := Lib.hid hsep
  obtain ⟨sa, sn, sc, rfl, -, -, -, -⟩ := id hs
  generalize hE : castE c U C src set data.size = E
  have HE := Lib.hid hE
  clear h hE hs hlen hsep
  go_enter Try.func18, Try.ntmps18
  go_wp2_with fail
  refine (run_may src _ HM.out).mono ?_
  rintro e w1 ⟨rfl, m1⟩
  have HM1 := Lib.hid (HM.out.later m1 (by simp))
  have HS1 := Lib.hid (HS.out.later m1 (by simp))
  clear c0 c1 c2 c3 c4 c5 c6 c7 c8 c9 c10 c11
  by_cases hz : mayE c C src = 0
  · have his := mayE_zero hz
    have hv : E = if c.Cast = true then (if castOk c src set then (if 64 < data.size then 4 else if c.Bound < U.getD src.toNat 0 + set.length then 7 else 0) else 6) else 10 := by
      rw [← HE.out]
      unfold castE
      rw [if_pos hz]
    have HV := Lib.hid hv
    have HIS := Lib.hid his
    rw [hz]
    clear hz hv his
    obtain ⟨c0, c1, c2, c3, c4, c5, c6, c7, c8, c9, c10, c11⟩ := mdl_cells HM1.out
    cases hct : c.Cast with
    | false =>
      rw [hct] at c8
      have hv2 : E = 10 := by rw [HV.out, if_neg (by rw [hct]; simp)]
      have HV2 := Lib.hid hv2
      clear hct hv2
      go_wp2
      go_ret
      exact ⟨by rw [HV2.out]; rfl, Or.inl ⟨by rw [HV2.out]; decide, m1⟩⟩
    | true =>
      have hv2 : E = if castOk c src set then (if 64 < data.size then 4 else if c.Bound < U.getD src.toNat 0 + set.length then 7 else 0) else 6 := by rw [HV.out, if_pos hct]
      have HV2 := Lib.hid hv2
      obtain ⟨W0, H0, L0, D0, R0, I0, B0, We0, Ca0⟩ := c
      obtain rfl : Ca0 = true := hct
      dsimp only at c0 c1 c2 c3 c4 c5 c6 c7 c8 hB
      clear hv2
      by_cases hok : castOk ⟨W0, H0, L0, D0, R0, I0, B0, We0, true⟩ src set
      · have hv3 : E = if 64 < data.size then 4 else if B0 < U.getD src.toNat 0 + set.length then 7 else 0 := by rw [HV2.out, if_pos hok]
        have HV3 := Lib.hid hv3
        obtain ⟨o1, o2, o3, o4⟩ := hok
        obtain HSM := Lib.hid (is_lt o2 HM.out.ul)
        have O3 := Lib.hid o3
        have HP := Lib.hid (run_Plan_yes ⟨W0, H0, L0, D0, R0, I0, B0, We0, true⟩ src _ set _ HS1.out HLEN.out o1 o2 o3 o4)
        clear hv3 o1 o2 o3 o4
        go_wp2_with fail
        refine HP.out.mono ?_
        rintro e w3 ⟨r0, r1, r2, ys, rfl, m3, -, -, s0, s1, s2⟩
        obtain ⟨a0, n0, p0, rfl, -⟩ := s0
        obtain ⟨a1, n1, p1, rfl, -⟩ := s1
        obtain ⟨a2, n2, p2, rfl, -⟩ := s2
        clear HP c0 c1 c2 c3 c4 c5 c6 c7 c8 c9 c10 c11
        have mm3 := m1.trans m3 (by simp)
        have mA := (m3.alloc (.cells #[.slice a0 n0 p0, .slice a1 n1 p1, .slice a2 n2 p2] 72))
        go_wp2_with fail
        have mmA := m1.trans mA (by simp)
        have hw3 : w.heap.size ≤ w3.heap.size := mm3.size
        have HMA := Lib.hid (HM1.out.later mA (by simp))
        have HSA := Lib.hid (HS1.out.later mA (by simp))
        have hwA := mmA.size
        generalize w3.alloc (.cells #[.slice a0 n0 p0, .slice a1 n1 p1, .slice a2 n2 p2] 72) = wA at mmA HMA HSA hwA ⊢
        obtain ⟨m, rfl, hm⟩ := HSM.out
        have HP := Lib.hid (run_put m data _ set _ HMA.out hm HSA.out O3.out (by have := HLEN.out; omega) hk hdata hB HSEP.out HIS.out)
        refine HP.out.mono ?_
        clear HP m1 m3 mm3 mA
        rintro e w4 (⟨h1, rfl, m4⟩ | ⟨h1, h2, rfl, m4⟩ | ⟨h1, h2, rfl, m4, f', hM4, ho4⟩)
        · have mm4 := mmA.trans m4 (by simp)
          have hv2 : E = 4 := by rw [HV3.out, if_pos h1]
          have HV4 := Lib.hid hv2
          clear h1 hv2
          go_wp2
          go_ret
          exact ⟨by rw [HV4.out]; rfl, Or.inl ⟨by rw [HV4.out]; decide, mm4⟩⟩
        · have mm4 := mmA.trans m4 (by simp)
          have hv2 : E = 7 := by rw [HV3.out, if_neg (by omega), if_pos (by simpa using h2)]
          have HV4 := Lib.hid hv2
          clear h1 h2 hv2
          go_wp2
          go_ret
          exact ⟨by rw [HV4.out]; rfl, Or.inl ⟨by rw [HV4.out]; decide, mm4⟩⟩
        · have mm4 : Mod (own4 b bq bu bc f) w w4 := (mmA.mono (S' := own4 b bq bu bc f) (fun i hi e => e.elim)).trans m4 (fun i hi e => e)
          have HM4 := Lib.hid hM4
          have HO4 := Lib.hid ho4
          have h3 : U.getD m 0 + (set.length : Int) ≤ B0 := h2
          have hv2 : E = 0 := by rw [HV3.out, if_neg (by omega), if_neg (by simp only [Int.toNat_natCast]; omega)]
          have HV4 := Lib.hid hv2
          clear h1 h2 h3 hM4 ho4 hv2
          go_wp2
          go_ret
          exact ⟨by rw [HV4.out]; rfl, Or.inr ⟨HV4.out, mm4, f', HM4.out, fun g hg => (HO4.out g hg).imp id (fun e => by omega)⟩⟩
      · have hv3 : E = 6 := by rw [HV2.out, if_neg hok]
        have HV3 := Lib.hid hv3
        have HP := Lib.hid (run_Plan_no ⟨W0, H0, L0, D0, R0, I0, B0, We0, true⟩ src _ set _ HS1.out HLEN.out hok)
        clear hv3 hok
        go_wp2_with fail
        refine HP.out.mono ?_
        rintro e w3 ⟨rfl, m3⟩
        have mm3 := m1.trans m3 (by simp)
        clear HP c0 c1 c2 c3 c4 c5 c6 c7 c8 c9 c10 c11
        go_wp2
        go_ret
        exact ⟨by rw [HV3.out]; rfl, Or.inl ⟨by rw [HV3.out]; decide, mm3.alloc _⟩⟩
  · have hv : E = mayE c C src := by rw [← HE.out]; unfold castE; rw [if_neg hz]
    have hz2 : (mayE c C src != 0) = true := by simp [hz]
    have hz3 : (mayE c C src == 0) = false := by simp [hz]
    generalize mayE c C src = x at hz2 hz3 hz hv ⊢
    have HZ := Lib.hid hz
    have HV := Lib.hid hv
    clear hv hz
    go_wp2
    go_ret
    exact ⟨by rw [HV.out]; rfl, Or.inl ⟨by rw [HV.out]; exact HZ.out, m1⟩⟩

/-- A mark of a closed node. -/
theorem MdlIn.setC {w : World} {b bq bu bc : Nat} {f : Int → Int → Value} {c : Cfg} {k : Nat} {Q : Int → Int → List ByteArray} {U : List Int} {C : List Bool} (h : MdlIn w b bq bu bc f c k Q U C)
    (m : Nat) (x : Bool) : MdlIn (w.setCell ⟨bc, m, none⟩ (.bool x)) b bq bu bc f c k Q U (C.set m x) := by
  have hne := h.ne
  have mm : Mod (fun g => g = bc) w (w.setCell ⟨bc, m, none⟩ (.bool x)) := (Mod.refl (fun g => g = bc) _).setCell (p := ⟨bc, m, none⟩) (Or.inl rfl) _
  refine ⟨?_, h.map.later mm (by omega), h.ub.later mm (by omega), ?_, h.ul, by simpa using h.cl, fun i j => (h.qs i j).later mm (fun g hg => (h.sep i j g hg).2.2.2), h.dis, h.sep, h.ne, h.qk, h.uk⟩
  · have := h.blk.later mm (by omega)
    simpa using this
  · have := h.cb.set m (.bool x)
    have e : ((C.set m x).map Value.bool).toArray = (C.map Value.bool).toArray.setIfInBounds m (.bool x) := by
      simp [List.map_set]
    rw [e]
    exact this

set_option maxHeartbeats 1600000 in
theorem run_Close {b bq bu bc : Nat} {f : Int → Int → Value} {c : Cfg} {k : Nat} {Q : Int → Int → List ByteArray} {U : List Int} {C : List Bool} (n : Int) (w : World) (h : MdlIn w b bq bu bc f c k Q U C) :
    Calls Try.prog 26 #[.pointer (some ⟨b, 0, none⟩), .int .i64 n] w fun e w' => e = .returned (.int .i64 (mayE c C n)) ∧
      ((mayE c C n ≠ 0 ∧ Mod (fun _ => False) w w') ∨ (mayE c C n = 0 ∧ Mod (fun g => g = bc) w w' ∧ MdlIn w' b bq bu bc f c k Q U (C.set n.toNat true))) := by
  have HM := Lib.hid h
  generalize hE : mayE c C n = E
  have HE := Lib.hid hE
  clear h hE
  go_enter Try.func26, Try.ntmps26
  go_wp2_with fail
  refine (run_may n _ HM.out).mono ?_
  rw [HE.out]
  rintro e w1 ⟨rfl, m1⟩
  have HM1 := Lib.hid (HM.out.later m1 (by simp))
  by_cases hz : E = 0
  · subst hz
    obtain ⟨m, rfl, hm⟩ := is_lt (mayE_zero HE.out) HM.out.cl
    obtain ⟨c0, c1, c2, c3, c4, c5, c6, c7, c8, c9, c10, c11⟩ := mdl_cells HM1.out
    have hc : w1.cell? ⟨bc, m, none⟩ = some (.bool (C.getD m false)) := by
      rw [HM1.out.cb.cell]
      simp [List.getD_eq_getElem?_getD, List.getElem?_eq_getElem hm]
    have hf := HM1.out.cb.fz m
    have r0 : (0 : Int) ≤ (m : Int) := by omega
    have r1 : (m : Int) < (C.length : Int) := by omega
    generalize C.getD m false = u at hc
    have m2 : Mod (fun g => g = bc) w (w1.setCell ⟨bc, m, none⟩ (.bool true)) := ((m1.mono (S' := fun g => g = bc) (fun i hi e => e.elim)).setCell (p := ⟨bc, m, none⟩) (Or.inl rfl) _)
    have HM2 := Lib.hid (HM1.out.setC m true)
    clear m1
    go_wp2
    go_ret
    exact ⟨rfl, m2, HM2.out⟩
  · have q1 : (E == 0) = false := by simp [hz]
    have HZ := Lib.hid hz
    clear hz
    go_wp2
    go_ret
    exact ⟨rfl, Or.inl ⟨HZ.out, m1⟩⟩

end Go.Proofs.Ytonnooenebfbeaa
