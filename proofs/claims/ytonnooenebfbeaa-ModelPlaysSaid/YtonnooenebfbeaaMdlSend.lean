/- The contract of a model's Send. -/
import Derived.Test.YtonnooenebfbeaaMdlPut
namespace Go.Proofs.Ytonnooenebfbeaa
open Go.RowKit

theorem MdlIn.own_lt {w : World} {b bq bu bc : Nat} {f : Int → Int → Value} {c : Cfg} {k : Nat} {Q : Int → Int → List ByteArray} {U : List Int} {C : List Bool} (h : MdlIn w b bq bu bc f c k Q U C) {g : Nat} (hg : own4 b bq bu bc f g) : g < w.heap.size := by
  rcases hg with rfl | rfl | rfl | rfl | ⟨i, j, hg⟩
  · exact h.blk.lt
  · exact h.map.lt
  · exact h.ub.lt
  · exact h.cb.lt
  · exact (h.qs i j).lt hg

def sendE (c : Cfg) (U : List Int) (C : List Bool) (src dst : Int) (n : Nat) : Int :=
  if c.is dst = true then (if mayE c C src = 0 then (if 64 < n then 4 else if c.Bound < U.getD src.toNat 0 + 1 then 7 else 0) else mayE c C src) else 5

theorem mayE_zero {c : Cfg} {C : List Bool} {n : Int} (h : mayE c C n = 0) : c.is n = true := by
  unfold mayE at h
  by_cases hn : c.is n = true
  · exact hn
  · rw [if_neg hn] at h
    omega

set_option maxRecDepth 100000 in
set_option maxHeartbeats 1600000 in
theorem run_Send {b bq bu bc : Nat} {f : Int → Int → Value} {c : Cfg} {k : Nat} {Q : Int → Int → List ByteArray} {U : List Int} {C : List Bool} (src dst : Int) (data : ByteArray) (w : World)
    (h : MdlIn w b bq bu bc f c k Q U C) (hk : k ≤ 100000) (hdata : data.size ≤ 4294967295) (hB : 0 ≤ c.Bound ∧ c.Bound ≤ 16) :
    Calls Try.prog 11 #[.pointer (some ⟨b, 0, none⟩), .int .i64 src, .int .i64 dst, .string data] w fun e w' =>
      e = .returned (.int .i64 (sendE c U C src dst data.size)) ∧
      ((sendE c U C src dst data.size ≠ 0 ∧ Mod (fun _ => False) w w') ∨
       (sendE c U C src dst data.size = 0 ∧ Mod (own4 b bq bu bc f) w w' ∧ ∃ f', MdlIn w' b bq bu bc f' c (k + 1) (updQ Q src dst (Q src dst ++ [data])) (U.set src.toNat (U.getD src.toNat 0 + 1)) C ∧ ∀ g, own4 b bq bu bc f' g → own4 b bq bu bc f g ∨ w.heap.size ≤ g)) := by
  obtain ⟨c0, c1, c2, c3, c4, c5, c6, c7, c8, c9, c10, c11⟩ := mdl_cells h
  have HM := Lib.hid h
  generalize hE : sendE c U C src dst data.size = E
  have HE := Lib.hid hE
  clear h hE
  go_enter Try.func11, Try.ntmps11
  go_wp2_with fail
  refine (run_Is c dst _).mono ?_
  rintro e w1 ⟨rfl, m1⟩
  have HM1 := Lib.hid (HM.out.later m1 (by simp))
  clear c0 c1 c2 c3 c4 c5 c6 c7 c8 c9 c10 c11
  cases hd : c.is dst with
  | false =>
    have hv : E = 5 := by rw [← HE.out]; unfold sendE; rw [if_neg (by rw [hd]; simp)]
    have HV := Lib.hid hv
    clear hd hv
    go_wp2
    go_ret
    exact ⟨by rw [HV.out]; rfl, Or.inl ⟨by rw [HV.out]; decide, m1⟩⟩
  | true =>
  go_wp2_with fail
  refine (run_may src _ HM1.out).mono ?_
  rintro e w2 ⟨rfl, m2⟩
  have HM2 := Lib.hid (HM1.out.later m2 (by simp))
  have mm2 := m1.trans m2 (by simp)
  clear m1 m2 HM1
  by_cases hz : mayE c C src = 0
  · have his := mayE_zero hz
    obtain ⟨m, rfl, hm⟩ := is_lt his HM.out.ul
    have hv : E = if 64 < data.size then 4 else if c.Bound < U.getD m 0 + 1 then 7 else 0 := by
      rw [← HE.out]
      unfold sendE
      rw [if_pos hd, if_pos hz]
      simp
    have HV := Lib.hid hv
    rw [hz]
    have HD := Lib.hid hd
    have HIS := Lib.hid his
    have hlt := fun g hg => HM2.out.own_lt (g := g) hg
    have mA : Mod (fun _ => False) w2 (w2.alloc (.cells #[.int .i64 dst] 3)) := (Mod.refl _ _).alloc _
    have HM3 := Lib.hid (HM2.out.later mA (by simp))
    have sp : SlV (w2.alloc (.cells #[.int .i64 dst] 3)) (.slice (some ⟨w2.heap.size, 0, none⟩) 1 1) (([dst] : List Int).map (Value.int .i64)) := SlV.new _ _ _ rfl _ rfl
    have hsep : ∀ a n c, (.slice (some ⟨w2.heap.size, 0, none⟩) 1 1 : Value) = .slice (some a) n c → ¬ own4 b bq bu bc f a.block := by
      intro a n c e ho
      simp only [Value.slice.injEq, Option.some.injEq] at e
      have := hlt _ ho
      rw [← e.1] at this
      simp at this
    have HP := Lib.hid (run_put m data _ [dst] _ HM3.out hm sp (by simpa using hd) (by simp) hk hdata hB hsep his)
    clear hz hv hd his sp hsep hlt
    go_wp2_with fail
    refine HP.out.mono ?_
    rintro e w4 (⟨h1, rfl, m4⟩ | ⟨h1, h2, rfl, m4⟩ | ⟨h1, h2, rfl, m4, f', hM4, ho4⟩)
    · have mm4 := (mm2.trans mA (by simp)).trans m4 (by simp)
      have hv2 : E = 4 := by rw [HV.out, if_pos h1]
      have HV2 := Lib.hid hv2
      clear h1 HP hv2
      go_wp2
      go_ret
      exact ⟨by rw [HV2.out]; rfl, Or.inl ⟨by rw [HV2.out]; decide, mm4⟩⟩
    · have mm4 := (mm2.trans mA (by simp)).trans m4 (by simp)
      have hv2 : E = 7 := by rw [HV.out, if_neg (by omega), if_pos (by simpa using h2)]
      have HV2 := Lib.hid hv2
      clear h1 h2 HP hv2
      go_wp2
      go_ret
      exact ⟨by rw [HV2.out]; rfl, Or.inl ⟨by rw [HV2.out]; decide, mm4⟩⟩
    · have mm4 : Mod (own4 b bq bu bc f) w w4 := ((mm2.trans mA (by simp)).mono (S' := own4 b bq bu bc f) (fun i hi e => e.elim)).trans m4 (fun i hi e => e)
      have hss := mm2.size
      have HM4 := Lib.hid hM4
      have HO4 := Lib.hid ho4
      have hv2 : E = 0 := by rw [HV.out, if_neg (by omega), if_neg (by rw [show (([dst].length : Nat) : Int) = 1 from rfl] at h2; omega)]
      have HV2 := Lib.hid hv2
      clear h1 h2 HP hM4 ho4 hv2
      go_wp2
      go_ret
      exact ⟨by rw [HV2.out]; rfl, Or.inr ⟨HV2.out, mm4, f', HM4.out, fun g hg => (HO4.out g hg).imp id (fun e => by simp at e; omega)⟩⟩
  · have hv : E = mayE c C src := by rw [← HE.out]; unfold sendE; rw [if_pos hd, if_neg hz]
    have hz2 : (mayE c C src != 0) = true := by simp [hz]
    have hz3 : (mayE c C src == 0) = false := by simp [hz]
    generalize mayE c C src = x at hz2 hz3 hz hv ⊢
    have HZ := Lib.hid hz
    have HV := Lib.hid hv
    clear hd hv hz
    go_wp2
    go_ret
    exact ⟨by rw [HV.out]; rfl, Or.inl ⟨by rw [HV.out]; exact HZ.out, mm2⟩⟩

end Go.Proofs.Ytonnooenebfbeaa
