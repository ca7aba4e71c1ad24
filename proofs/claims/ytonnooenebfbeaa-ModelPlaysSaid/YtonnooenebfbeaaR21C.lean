/- The reference's model: Send, Multicast, Close, Took, Open. -/
import Derived.Test.YtonnooenebfbeaaR21B
import Derived.Test.YtonnooenebfbeaaRefJ
namespace Go.Proofs.Ytonnooenebfbeaa
open Go.RowKit

def rsendE (c : Cfg) (L : List RP) (C : List Bool) (src dst : Int) (n : Nat) : Int := if c.is src = true ∧ c.is dst = true then (if C.getD src.toNat false = true then 9 else rputE c L src 1 n) else 5
def rcastE (c : Cfg) (L : List RP) (C : List Bool) (src : Int) (set : List Int) (n : Nat) : Int := if c.is src = true then (if C.getD src.toNat false = true then 9 else if c.Cast = true then (if castOk c src set then rputE c L src set.length n else 6) else 10) else 5
def rcloseE (c : Cfg) (C : List Bool) (n : Int) : Int := if c.is n = true then (if C.getD n.toNat false = true then 9 else 0) else 5

section
variable {w : World} {b bc : Nat} {v : Value} {c : Cfg} {k : Nat} {L : List RP} {C : List Bool}

theorem RefIn.closed (h : RefIn w b bc v c k L C) {n : Int} (hn : c.is n = true) : ∃ m : Nat, n = (m : Int) ∧ m < C.length ∧ w.cell? ⟨bc, m, none⟩ = some (.bool (C.getD m false)) := by
  obtain ⟨m, rfl, hm⟩ := is_lt hn h.cl
  refine ⟨m, rfl, hm, ?_⟩
  rw [h.cb.cell]
  simp [List.getD_eq_getElem?_getD, List.getElem?_eq_getElem hm]

theorem RefIn.setC (h : RefIn w b bc v c k L C) (m : Nat) (x : Bool) : RefIn (w.setCell ⟨bc, m, none⟩ (.bool x)) b bc v c k L (C.set m x) := by
  have hne := h.ne
  have hm : Mod (fun q => q = bc) w (w.setCell ⟨bc, m, none⟩ (.bool x)) := (Mod.refl (fun q => q = bc) w).setCell (p := ⟨bc, m, none⟩) (Or.inl rfl) _
  refine ⟨?_, own_laterR h.row hm (fun g hg e => (h.sep g hg).2 e), ?_, by simpa using h.cl, h.ne, h.sep, h.lk⟩
  · have := h.blk.later hm hne
    simpa using this
  · have := h.cb.set m (.bool x)
    rw [List.map_set]
    simpa using this

set_option maxHeartbeats 1600000 in
theorem run_RClose (n : Int) (h : RefIn w b bc v c k L C) :
    Calls Try.prog 27 #[.pointer (some ⟨b, 0, none⟩), .int .i64 n] w fun e w' => e = .returned (.int .i64 (rcloseE c C n)) ∧
      ((rcloseE c C n ≠ 0 ∧ w' = w) ∨ (rcloseE c C n = 0 ∧ Mod (fun g => g = bc) w w' ∧ RefIn w' b bc v c k L (C.set n.toNat true))) := by
  have H := Lib.hid h
  obtain ⟨c0, c1, c2, c3, c4, c5, c6, c7, c8, c9, c10⟩ := ref_cells h
  generalize hE : rcloseE c C n = E
  have HE := Lib.hid hE
  clear h hE
  go_enter Try.func27, Try.ntmps27
  go_wp2_with fail
  refine (run_RIs n H.out).mono ?_
  rintro e w1 ⟨rfl, rfl⟩
  cases hn : c.is n with
  | false =>
    have hv : E = 5 := by rw [← HE.out]; unfold rcloseE; rw [if_neg (by rw [hn]; simp)]
    have HV := Lib.hid hv
    clear hn hv
    go_wp2
    go_ret
    exact ⟨by rw [HV.out]; rfl, Or.inl ⟨by rw [HV.out]; decide, rfl⟩⟩
  | true =>
    obtain ⟨m, rfl, hm, hc⟩ := H.out.closed hn
    have hv : E = if C.getD m false = true then 9 else 0 := by rw [← HE.out]; unfold rcloseE; rw [if_pos hn]; simp
    have r0 : (0 : Int) ≤ (m : Int) := by omega
    have r1 : (m : Int) < (C.length : Int) := by omega
    have hz := H.out.cb.fz m
    cases hx : C.getD m false with
    | true =>
      rw [hx] at hc hv
      have HV := Lib.hid hv
      clear hn hv hx
      go_wp2
      go_ret
      exact ⟨by rw [HV.out]; rfl, Or.inl ⟨by rw [HV.out]; decide, rfl⟩⟩
    | false =>
      rw [hx] at hc hv
      have HV := Lib.hid hv
      have hset := Lib.hid (H.out.setC m true)
      clear hn hv hx
      go_wp2
      go_ret
      refine ⟨by rw [HV.out]; rfl, Or.inr ⟨by rw [HV.out]; rfl, (Mod.refl (fun q => q = bc) _).setCell (p := ⟨bc, m, none⟩) (Or.inl rfl) _, ?_⟩⟩
      simpa using hset.out

set_option maxHeartbeats 1600000 in
theorem run_RSend (src dst : Int) (d : ByteArray) (h : RefIn w b bc v c k L C) (hk : k ≤ 100000) (hdata : d.size ≤ 4294967295) (hB : 0 ≤ c.Bound ∧ c.Bound ≤ 16) :
    Calls Try.prog 24 #[.pointer (some ⟨b, 0, none⟩), .int .i64 src, .int .i64 dst, .string d] w fun e w' =>
      e = .returned (.int .i64 (rsendE c L C src dst d.size)) ∧
      ((rsendE c L C src dst d.size ≠ 0 ∧ Mod (fun _ => False) w w') ∨
       (rsendE c L C src dst d.size = 0 ∧ Mod (own3 b bc v) w w' ∧ ∃ v', RefIn w' b bc v' c (k + 1) (rput L src d [dst]) C ∧ ∀ g, own3 b bc v' g → own3 b bc v g ∨ w.heap.size ≤ g)) := by
  have H := Lib.hid h
  obtain ⟨c0, c1, c2, c3, c4, c5, c6, c7, c8, c9, c10⟩ := ref_cells h
  generalize hE : rsendE c L C src dst d.size = E
  have HE := Lib.hid hE
  clear h hE
  go_enter Try.func24, Try.ntmps24
  go_wp2_with fail
  refine (run_RIs src H.out).mono ?_
  rintro e w1 ⟨rfl, rfl⟩
  cases hn : c.is src with
  | false =>
    have hv : E = 5 := by rw [← HE.out]; unfold rsendE; rw [if_neg (by rw [hn]; simp)]
    have HV := Lib.hid hv
    clear hn hv
    go_wp2
    go_ret
    exact ⟨by rw [HV.out]; rfl, Or.inl ⟨by rw [HV.out]; decide, Mod.refl _ _⟩⟩
  | true =>
    go_wp2_with fail
    refine (run_RIs dst H.out).mono ?_
    rintro e w1 ⟨rfl, rfl⟩
    cases hn2 : c.is dst with
    | false =>
      have hv : E = 5 := by rw [← HE.out]; unfold rsendE; rw [if_neg (by rw [hn2]; simp)]
      have HV := Lib.hid hv
      clear hn hn2 hv
      go_wp2
      go_ret
      exact ⟨by rw [HV.out]; rfl, Or.inl ⟨by rw [HV.out]; decide, Mod.refl _ _⟩⟩
    | true =>
      obtain ⟨m, rfl, hm, hc⟩ := H.out.closed hn
      have hv : E = if C.getD m false = true then 9 else rputE c L m 1 d.size := by rw [← HE.out]; unfold rsendE; rw [if_pos ⟨hn, hn2⟩]; simp
      have r0 : (0 : Int) ≤ (m : Int) := by omega
      have r1 : (m : Int) < (C.length : Int) := by omega
      cases hx : C.getD m false with
      | true =>
        rw [hx] at hc hv
        have HV := Lib.hid hv
        clear hn hv hx hn2
        go_wp2
        go_ret
        exact ⟨by rw [HV.out]; rfl, Or.inl ⟨by rw [HV.out, if_pos trivial]; decide, Mod.refl _ _⟩⟩
      | false =>
        rw [hx] at hc hv
        have HV := Lib.hid hv
        clear hn hv hx hn2
        go_wp2_with fail
        have mA : Mod (fun _ => False) w1 (w1.alloc (.cells #[.int .i64 dst] 3)) := (Mod.refl _ _).alloc _
        have HA := Lib.hid (H.out.later mA (by simp))
        have hs : SlV (w1.alloc (.cells #[.int .i64 dst] 3)) (.slice (some ⟨w1.heap.size, 0, none⟩) 1 1) ([dst].map (Value.int .i64)) := SlV.new 3 1 #[.int .i64 dst] rfl 1 rfl
        refine (run_RPut (m : Int) _ [dst] d HA.out hk hs (by simp) hdata hB (fun a n cc e ho => ?_)).mono ?_
        · simp only [Value.slice.injEq, Option.some.injEq] at e
          have := H.out.own_lt ho
          rw [← e.1] at this
          simp at this
        · rintro e w2 ⟨rfl, ho⟩
          rw [show rputE c L (m : Int) [dst].length d.size = E from by rw [HV.out]; rfl] at ho ⊢
          have HO := Lib.hid ho
          clear ho
          go_wp2
          go_ret
          refine ⟨rfl, ?_⟩
          rcases HO.out with ⟨h0, m2⟩ | ⟨h0, m2, v', hR, hO⟩
          · exact Or.inl ⟨h0, mA.trans m2 (by simp)⟩
          · exact Or.inr ⟨h0, (mA.mono (S' := own3 b bc v) (fun i hi e => e.elim)).trans m2 (fun i hi e => e), v', hR, fun g hg => (hO g hg).imp id (fun e => by simp at e; omega)⟩

set_option maxHeartbeats 3200000 in
theorem run_RCast (src : Int) (u : Value) (set : List Int) (d : ByteArray) (h : RefIn w b bc v c k L C) (hk : k ≤ 100000) (hs : SlV w u (set.map (Value.int .i64))) (hlen : set.length ≤ 12) (hdata : d.size ≤ 4294967295) (hB : 0 ≤ c.Bound ∧ c.Bound ≤ 16) (hsep : ∀ a n c, u = .slice (some a) n c → ¬ own3 b bc v a.block) :
    Calls Try.prog 25 #[.pointer (some ⟨b, 0, none⟩), .int .i64 src, u, .string d] w fun e w' =>
      e = .returned (.int .i64 (rcastE c L C src set d.size)) ∧
      ((rcastE c L C src set d.size ≠ 0 ∧ Mod (fun _ => False) w w') ∨
       (rcastE c L C src set d.size = 0 ∧ Mod (own3 b bc v) w w' ∧ ∃ v', RefIn w' b bc v' c (k + set.length) (rput L src d set) C ∧ ∀ g, own3 b bc v' g → own3 b bc v g ∨ w.heap.size ≤ g)) := by
  have H := Lib.hid h
  have HS := Lib.hid hs
  have HLEN := Lib.hid hlen
  have HSEP := Lib.hid hsep
  obtain ⟨sa, sn, sc, rfl, -, -, -, -⟩ := id hs
  obtain ⟨c0, c1, c2, c3, c4, c5, c6, c7, c8, c9, c10⟩ := ref_cells h
  generalize hE : rcastE c L C src set d.size = E
  have HE := Lib.hid hE
  clear h hE hs hlen hsep
  go_enter Try.func25, Try.ntmps25
  go_wp2_with fail
  refine (run_RIs src H.out).mono ?_
  rintro e w1 ⟨rfl, rfl⟩
  cases hn : c.is src with
  | false =>
    have hv : E = 5 := by rw [← HE.out]; unfold rcastE; rw [if_neg (by rw [hn]; simp)]
    have HV := Lib.hid hv
    clear hn hv
    go_wp2
    go_ret
    exact ⟨by rw [HV.out]; rfl, Or.inl ⟨by rw [HV.out]; decide, Mod.refl _ _⟩⟩
  | true =>
    obtain ⟨m, rfl, hm, hc⟩ := H.out.closed hn
    have hv : E = if C.getD m false = true then 9 else if c.Cast = true then (if castOk c m set then rputE c L m set.length d.size else 6) else 10 := by rw [← HE.out]; unfold rcastE; rw [if_pos hn]; simp
    have r0 : (0 : Int) ≤ (m : Int) := by omega
    have r1 : (m : Int) < (C.length : Int) := by omega
    cases hx : C.getD m false with
    | true =>
      rw [hx, if_pos rfl] at hv
      rw [hx] at hc
      have HV := Lib.hid hv
      clear hn hv hx
      go_wp2
      go_ret
      exact ⟨by rw [HV.out]; rfl, Or.inl ⟨by rw [HV.out]; decide, Mod.refl _ _⟩⟩
    | false =>
      rw [hx, if_neg (by simp)] at hv
      rw [hx] at hc
      have HV := Lib.hid hv
      clear hv hx
      cases hct : c.Cast with
      | false =>
        rw [hct] at c8
        have hv2 : E = 10 := by rw [HV.out, if_neg (by rw [hct]; simp)]
        have HV2 := Lib.hid hv2
        clear hct hv2 hn
        go_wp2
        go_ret
        exact ⟨by rw [HV2.out]; rfl, Or.inl ⟨by rw [HV2.out]; decide, Mod.refl _ _⟩⟩
      | true =>
        have hv2 : E = if castOk c m set then rputE c L m set.length d.size else 6 := by rw [HV.out, if_pos hct]
        have HV2 := Lib.hid hv2
        obtain ⟨W0, H0, L0, D0, R0, I0, B0, We0, Ca0⟩ := c
        obtain rfl : Ca0 = true := hct
        dsimp only at c0 c1 c2 c3 c4 c5 c6 c7 c8 hB
        have HP := Lib.hid (ref_Plan ⟨W0, H0, L0, D0, R0, I0, B0, We0, true⟩ m _ set _ HS.out HLEN.out)
        clear hv2 hn
        go_wp2_with fail
        refine HP.out.mono ?_
        rintro e w3 ⟨m3, (⟨hno, rfl⟩ | ⟨hyes, r0, r1, r2, rfl, s0, s1, s2⟩)⟩
        · have hv3 : E = 6 := by rw [HV2.out, if_neg (show ¬ castOk ⟨W0, H0, L0, D0, R0, I0, B0, We0, true⟩ m set from hno)]
          have HV3 := Lib.hid hv3
          clear hv3 hno HP c0 c1 c2 c3 c4 c5 c6 c7 c8 c9 c10 hc
          go_wp2
          go_ret
          exact ⟨by rw [HV3.out]; rfl, Or.inl ⟨by rw [HV3.out]; decide, m3.alloc _⟩⟩
        · have hv3 : E = rputE ⟨W0, H0, L0, D0, R0, I0, B0, We0, true⟩ L m set.length d.size := by rw [HV2.out, if_pos (show castOk ⟨W0, H0, L0, D0, R0, I0, B0, We0, true⟩ m set from hyes)]
          have HV3 := Lib.hid hv3
          obtain ⟨a0, n0, p0, rfl, -⟩ := s0
          obtain ⟨a1, n1, p1, rfl, -⟩ := s1
          obtain ⟨a2, n2, p2, rfl, -⟩ := s2
          clear hv3 hyes HP c0 c1 c2 c3 c4 c5 c6 c7 c8 c9 c10 hc
          have mA := (m3.alloc (.cells #[.slice a0 n0 p0, .slice a1 n1 p1, .slice a2 n2 p2] 72))
          have HA := Lib.hid (H.out.later mA (by simp))
          have HSA := Lib.hid (HS.out.later mA (by simp))
          have hsz := mA.size
          go_wp2_with fail
          generalize w3.alloc (.cells #[.slice a0 n0 p0, .slice a1 n1 p1, .slice a2 n2 p2] 72) = wA at mA HA HSA hsz ⊢
          refine (run_RPut (m : Int) _ set d HA.out hk HSA.out HLEN.out hdata hB HSEP.out).mono ?_
          rintro e w4 ⟨rfl, ho⟩
          rw [← HV3.out] at ho ⊢
          have HO := Lib.hid ho
          clear ho
          go_wp2
          go_ret
          refine ⟨rfl, ?_⟩
          rcases HO.out with ⟨h0, m2⟩ | ⟨h0, m2, v', hR, hO⟩
          · exact Or.inl ⟨h0, mA.trans m2 (by simp)⟩
          · exact Or.inr ⟨h0, (mA.mono (S' := own3 b bc v) (fun i hi e => e.elim)).trans m2 (fun i hi e => e), v', hR, fun g hg => (hO g hg).imp id (fun e => by omega)⟩

end
end Go.Proofs.Ytonnooenebfbeaa
