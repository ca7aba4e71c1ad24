/- Next and See with the statements' own function of a list. -/
import Derived.Test.YtpcjhkkinmfjlaaFairC
namespace Go.Proofs.Ytpcjhkkinmfjlaa
open Go.RowKit

set_option maxHeartbeats 400000 in
theorem run_at (a : Option Addr) (n c : Nat) (w : World) :
    Calls Try.prog 14 #[.slice a n c] w fun e w' => e = .returned (.func (.func 23) #[] #[.pointer (some ⟨w.heap.size, 0, none⟩)]) ∧ w' = w.alloc (.cells #[.slice a n c] 34) := by
  have hmf : ∀ (fn : Fn) (first cap : Array Value) (w : World), (Instr.makeFunc fn first cap).run Try.prog w = .ok (.func fn first cap) w := fun _ _ _ _ => rfl
  go_enter Try.func14, Try.ntmps14
  go_wp2
  go_ret
  exact ⟨rfl, rfl⟩

set_option maxHeartbeats 400000 in
theorem run_at1 (B : Nat) (v : Value) (l : List Bool) (p : Int) (w : World) (hp : 0 ≤ p) (hp2 : p ≤ 5000) (hbox : w.cell? ⟨B, 0, none⟩ = some v) (hs : SlV w v (l.map Value.bool)) :
    Calls Try.prog 23 #[.int .i64 p, .pointer (some ⟨B, 0, none⟩)] w fun e w' => e = .returned (.bool (l.getD p.toNat false)) ∧ Drw w w' := by
  obtain ⟨a, n, c, rfl, hn, _, _, hs⟩ := hs
  rw [List.length_map] at hn
  obtain rfl := hn
  obtain ⟨q, rfl⟩ := Int.eq_ofNat_of_zero_le hp
  by_cases hlt : q < l.length
  · rcases hs with hs | ⟨B', off, rfl, hB, hs⟩
    · simp at hs; subst hs; simp at hlt
    · have hcell : w.cell? ⟨B', off + q, none⟩ = some (.bool l[q]) := by simpa [List.getD_eq_getElem?_getD, hlt] using hs q (by simpa using hlt)
      have hv : l.getD ((q : Int).toNat) false = l[q] := by simp [List.getD_eq_getElem?_getD, hlt]
      have HV := Lib.hid hv
      clear hv hs
      go_enter Try.func23, Try.ntmps23
      go_wp2
      go_ret
      exact ⟨by rw [HV.out]; rfl, Drw.refl _⟩
  · have hv : l.getD ((q : Int).toNat) false = false := by simp only [List.getD_eq_getElem?_getD, Int.toNat_natCast]; rw [List.getElem?_eq_none (by omega)]; rfl
    have HV := Lib.hid hv
    clear hv hs
    go_enter Try.func23, Try.ntmps23
    go_wp2
    go_ret
    exact ⟨by rw [HV.out]; rfl, Drw.refl _⟩

theorem asks_at (b : Nat) (places last : Int) (B : Nat) (v : Value) (l : List Bool) (w : World) (hf : FairAt w b places last) (hfit : Fit places last)
    (hbox : w.cell? ⟨B, 0, none⟩ = some v) (hs : SlV w v (l.map Value.bool)) :
    Asks 23 #[.pointer (some ⟨B, 0, none⟩)] b places last (ansL places last l) (fun _ w' => Drw w w') where
  p1 := hfit.p1
  p2 := hfit.p2
  l1 := hfit.l1
  l2 := hfit.l2
  enters := enters_of Try.func23 (by kernel_rfl) rfl
  c0 := fun _ _ h => by rw [h.cell]; exact hf.c0
  c1 := fun _ _ h => by rw [h.cell]; exact hf.c1
  fz := fun _ _ h => by rw [h.frozen]; exact hf.fz 1
  drewN := fun _ _ m h => h.trans (Drw.drewN _ m)
  call := by
    intro i w1 hi hd
    have p1 := hfit.p1
    have p2 := hfit.p2
    have e1 : 0 ≤ (last + 1 + i) % places := Int.emod_nonneg _ (by omega)
    have e2 : (last + 1 + i) % places < places := Int.emod_lt_of_pos _ (by omega)
    refine (run_at1 B v l _ _ e1 (by omega) ((hd.cell _).trans hbox) (hs.later (hd.mod (fun _ => False)) (by simp))).mono ?_
    rintro e w' ⟨rfl, hd'⟩
    exact ⟨rfl, hd.trans hd'⟩

theorem fair_see_at (b : Nat) (places last : Int) (B : Nat) (v : Value) (l : List Bool) (w : World) (hf : FairAt w b places last) (hfit : Fit places last)
    (hbox : w.cell? ⟨B, 0, none⟩ = some v) (hs : SlV w v (l.map Value.bool)) :
    Calls Try.prog 13 #[.pointer (some ⟨b, 0, none⟩), .func (.func 23) #[] #[.pointer (some ⟨B, 0, none⟩)]] w fun e w' =>
      e = .returned (.tuple #[.int .i64 ((seeR places last (ansL places last l)).getD 0), .bool (seeR places last (ansL places last l)).isSome]) ∧ Drw w w' :=
  fair_see _ _ b places last _ _ _ (asks_at b places last B v l w hf hfit hbox hs) (Drw.refl _)

theorem fair_next_at (b : Nat) (places last : Int) (B : Nat) (v : Value) (l : List Bool) (w : World) (hf : FairAt w b places last) (hfit : Fit places last)
    (hbox : w.cell? ⟨B, 0, none⟩ = some v) (hs : SlV w v (l.map Value.bool)) :
    Calls Try.prog 19 #[.pointer (some ⟨b, 0, none⟩), .func (.func 23) #[] #[.pointer (some ⟨B, 0, none⟩)]] w fun e w' =>
      e = .returned (.tuple #[.int .i64 ((seeR places last (ansL places last l)).getD 0), .bool (seeR places last (ansL places last l)).isSome]) ∧
      Mod (· = b) w w' ∧ FairAt w' b places ((seeR places last (ansL places last l)).getD last) := by
  refine (fair_next _ _ b places last _ _ _ (asks_at b places last B v l w hf hfit hbox hs) (Drw.refl _)).mono ?_
  rintro e w2 ⟨rfl, w1, hd, rfl⟩
  have hf1 := hf.later (hd.mod (fun _ => False)) (by simp)
  exact ⟨rfl, (hd.mod _).trans (setLast_mod (S := (· = b)) _ rfl) (fun i _ h => h), hf1.set _⟩

theorem SlV.later' {w w' : World} {v : Value} {xs : List Value} (h : SlV w v xs) {S : Nat → Prop} (hm : Mod S w w') (hS : ∀ B off x, x ∈ xs → w.cell? ⟨B, off, none⟩ = some x → ¬ S B) : SlV w' v xs := by
  obtain ⟨a, n, c, hv, hn, hc, hm', h⟩ := h
  refine ⟨a, n, c, hv, hn, hc, hm', ?_⟩
  rcases h with h | ⟨B, off, ha, hB, h⟩
  · exact Or.inl h
  · refine Or.inr ⟨B, off, ha, Nat.lt_of_lt_of_le hB hm.size, fun j hj => ?_⟩
    have hx : xs.getD j undef ∈ xs := by rw [List.getD_eq_getElem?_getD, List.getElem?_eq_getElem hj]; simp
    rw [hm.cell (p := ⟨B, off + j, none⟩) hB (hS B (off + j) _ hx (h j hj))]
    exact h j hj

/-- A block whose cell holds no number is none of a Fair's. -/
theorem FairAt.ne {w : World} {b B off : Nat} {places last : Int} {x : Value} (hf : FairAt w b places last) (hx : ∀ y, x ≠ .int .i64 y) (h : w.cell? ⟨B, off, none⟩ = some x) : B ≠ b := by
  rintro rfl
  simp only [FairAt] at hf
  simp only [World.cell?, hf] at h
  match off, h with
  | 0, h => simp at h; exact hx _ h.symm
  | 1, h => simp at h; exact hx _ h.symm
  | n + 2, h => simp at h

/-- The rows in a later world: of two Fairs that were turned. -/
theorem SlV.fairs {w w' : World} {v : Value} {xs : List Value} {F G : Nat} {p l q m : Int} (h : SlV w v xs) (hm : Mod (fun k => k = F ∨ k = G) w w') (hf : FairAt w F p l) (hg : FairAt w G q m)
    (hx : ∀ x ∈ xs, ∀ y, x ≠ .int .i64 y) : SlV w' v xs :=
  h.later' hm (fun B off x hxs hc hS => by
    rcases hS with e | e
    · exact hf.ne (hx x hxs) hc e
    · exact hg.ne (hx x hxs) hc e)
theorem bools_ne (l : List Bool) : ∀ x ∈ l.map Value.bool, ∀ y, x ≠ .int .i64 y := by
  intro x hx y
  obtain ⟨b, _, rfl⟩ := List.mem_map.1 hx
  simp

end Go.Proofs.Ytpcjhkkinmfjlaa
