/- Contracts of package fair: Of; Next and See with a law's own function of a list. -/
import Derived.Test.YtpcjhkkinmfjlaaFairA
namespace Go.Proofs.Ytpcjhkkinmfjlaa
open Go.RowKit

/-- The answers of a list. -/
def ansL (places last : Int) (l : List Bool) (i : Nat) : Bool := l.getD ((last + 1 + i) % places).toNat false

set_option maxHeartbeats 400000 in
theorem fair_of1 (B : Nat) (v : Value) (l : List Bool) (p : Int) (w : World) (hp : 0 ≤ p) (hp2 : p ≤ 5000) (hbox : w.cell? ⟨B, 0, none⟩ = some v) (hs : SlV w v (l.map Value.bool)) :
    Calls Try.prog 24 #[.int .i64 p, .pointer (some ⟨B, 0, none⟩)] w fun e w' => e = .returned (.bool (l.getD p.toNat false)) ∧ Drw w w' := by
  obtain ⟨a, n, c, rfl, hn, _, _, hs⟩ := hs
  rw [List.length_map] at hn
  obtain rfl := hn
  obtain ⟨q, rfl⟩ := Int.eq_ofNat_of_zero_le hp
  by_cases hlt : q < l.length
  · rcases hs with hs | ⟨B', off, rfl, hB, hs⟩
    · simp at hs; subst hs; simp at hlt
    · have hcell : w.cell? ⟨B', off + q, none⟩ = some (.bool l[q]) := by simpa [List.getD_eq_getElem?_getD, hlt] using hs q (by simpa using hlt)
      have hv : l.getD ((q : Int).toNat) false = l[q] := by simp [List.getD_eq_getElem?_getD, hlt]
      have HV := Lib.hid hv
      clear hv hs
      go_enter Try.func24, Try.ntmps24
      go_wp2
      go_ret
      exact ⟨by rw [HV.out]; rfl, Drw.refl _⟩
  · have hv : l.getD ((q : Int).toNat) false = false := by simp only [List.getD_eq_getElem?_getD, Int.toNat_natCast]; rw [List.getElem?_eq_none (by omega)]; rfl
    have HV := Lib.hid hv
    clear hv hs
    go_enter Try.func24, Try.ntmps24
    go_wp2
    go_ret
    exact ⟨by rw [HV.out]; rfl, Drw.refl _⟩

/-- The premise of Next, paid by Of's own function. -/
theorem asks_of (b : Nat) (places last : Int) (B : Nat) (v : Value) (l : List Bool) (w : World) (hf : FairAt w b places last) (p1 : 1 ≤ places) (p2 : places ≤ 4096) (l1 : -1 ≤ last) (l2 : last < places)
    (hbox : w.cell? ⟨B, 0, none⟩ = some v) (hs : SlV w v (l.map Value.bool)) :
    Asks 24 #[.pointer (some ⟨B, 0, none⟩)] b places last (ansL places last l) (fun _ w' => Drw w w') where
  p1 := p1
  p2 := p2
  l1 := l1
  l2 := l2
  enters := enters_of Try.func24 (by kernel_rfl) rfl
  c0 := fun _ _ h => by rw [h.cell]; exact hf.c0
  c1 := fun _ _ h => by rw [h.cell]; exact hf.c1
  fz := fun _ _ h => by rw [h.frozen]; exact hf.fz 1
  drewN := fun _ _ m h => h.trans (Drw.drewN _ m)
  call := by
    intro i w1 hi hd
    have e1 : 0 ≤ (last + 1 + i) % places := Int.emod_nonneg _ (by omega)
    have e2 : (last + 1 + i) % places < places := Int.emod_lt_of_pos _ (by omega)
    refine (fair_of1 B v l _ _ e1 (by omega) ((hd.cell _).trans hbox) (hs.later (hd.mod (fun _ => False)) (by simp))).mono ?_
    rintro e w' ⟨rfl, hd'⟩
    exact ⟨rfl, hd.trans hd'⟩

theorem seeR_lt {places last : Int} {ans : Nat → Bool} (p1 : 1 ≤ places) {v : Int} (h : seeR places last ans = some v) : 0 ≤ v ∧ v < places := by
  unfold seeR at h
  cases hf : firstI places ans with
  | none => simp [hf] at h
  | some k =>
    simp [hf] at h
    subst h
    exact ⟨Int.emod_nonneg _ (by omega), Int.emod_lt_of_pos _ (by omega)⟩

theorem getD_lt {places last : Int} {ans : Nat → Bool} (p1 : 1 ≤ places) (l1 : -1 ≤ last) (l2 : last < places) : -1 ≤ (seeR places last ans).getD last ∧ (seeR places last ans).getD last < places := by
  cases h : seeR places last ans with
  | none => exact ⟨l1, l2⟩
  | some v => have := seeR_lt p1 h; simp; omega

/-- A Fair that is in order. -/
structure Fit (places last : Int) : Prop where
  p1 : 1 ≤ places
  p2 : places ≤ 4096
  l1 : -1 ≤ last
  l2 : last < places
theorem Fit.next {places last : Int} (h : Fit places last) (ans : Nat → Bool) : Fit places ((seeR places last ans).getD last) :=
  ⟨h.p1, h.p2, (getD_lt h.p1 h.l1 h.l2).1, (getD_lt h.p1 h.l1 h.l2).2⟩
theorem fit_new (n : Int) : Fit (nPl n) (-1) := by unfold nPl; constructor <;> omega

set_option maxHeartbeats 400000 in
theorem fair_of (b : Nat) (places last : Int) (v : Value) (l : List Bool) (w : World) (hf : FairAt w b places last) (hfit : Fit places last) (hs : SlV w v (l.map Value.bool)) :
    Calls Try.prog 18 #[.pointer (some ⟨b, 0, none⟩), v] w fun e w' =>
      e = .returned (.tuple #[.int .i64 ((seeR places last (ansL places last l)).getD 0), .bool (seeR places last (ansL places last l)).isSome]) ∧
      Mod (· = b) w w' ∧ FairAt w' b places ((seeR places last (ansL places last l)).getD last) := by
  have hmf : ∀ (fn : Fn) (first cap : Array Value) (w : World), (Instr.makeFunc fn first cap).run Try.prog w = .ok (.func fn first cap) w := fun _ _ _ _ => rfl
  obtain ⟨a, n, c, hv, hn, hc', hm', hs'⟩ := id hs
  have m0 : Mod (fun _ => False) w (w.alloc (.cells #[v] 34)) := (Mod.refl _ _).alloc _
  have hA := asks_of b places last w.heap.size v l (w.alloc (.cells #[v] 34)) (hf.later m0 (by simp)) hfit.p1 hfit.p2 hfit.l1 hfit.l2 (by simp) (hs.later m0 (by simp))
  subst hv
  clear hs hs' hn hc' hm'
  go_enter Try.func18, Try.ntmps18
  go_wp2_with fail
  refine (fair_next _ _ b places last _ _ _ hA (Drw.refl _)).mono ?_
  rintro e w2 ⟨rfl, w1, hd, rfl⟩
  go_wp2
  go_ret2
  have m1 := m0.trans (hd.mod (fun _ => False)) (fun i _ h => h)
  have hf2 := hf.later m1 (by simp)
  exact ⟨rfl, m1.trans' (setLast_mod (S := (· = b)) _ rfl) (by simp) (by simp), hf2.set _⟩

end Go.Proofs.Ytpcjhkkinmfjlaa
