/- Contracts of package fair: New, Last, Places, and the calls on nil. -/
import Derived.Test.YtpcjhkkinmfjlaaBase
namespace Go.Proofs.Ytpcjhkkinmfjlaa
open Go.RowKit

/-- The number of places that New gives. -/
def nPl (n : Int) : Int := min (max n 1) 4096

set_option maxHeartbeats 400000 in
theorem fair_new (n : Int) (w : World) :
    Calls Try.prog 10 #[.int .i64 n] w fun e w' => e = .returned (.pointer (some ⟨w.heap.size, 0, none⟩)) ∧ w' = w.alloc (.cells #[.int .i64 (nPl n), .int .i64 (-1)] 48) := by
  go_enter Try.func10, Try.ntmps10
  go_wp2
  all_goals go_ret
  all_goals exact ⟨rfl, by have : nPl n = min (max n 1) 4096 := rfl; congr 5; omega⟩

theorem fair_last_nil (w : World) :
    Calls Try.prog 16 #[.pointer none] w fun e w' => e = .returned (.int .i64 (-1)) ∧ w' = w := by
  go_enter Try.func16, Try.ntmps16
  go_wp2
  go_ret
  exact ⟨rfl, rfl⟩

theorem fair_last (b : Nat) (v : Int) (w : World) (h : w.cell? ⟨b, 1, none⟩ = some (.int .i64 v)) :
    Calls Try.prog 16 #[.pointer (some ⟨b, 0, none⟩)] w fun e w' => e = .returned (.int .i64 v) ∧ w' = w := by
  go_enter Try.func16, Try.ntmps16
  go_wp2
  go_ret
  exact ⟨rfl, rfl⟩

theorem fair_places_nil (w : World) :
    Calls Try.prog 17 #[.pointer none] w fun e w' => e = .returned (.int .i64 0) ∧ w' = w := by
  go_enter Try.func17, Try.ntmps17
  go_wp2
  go_ret
  exact ⟨rfl, rfl⟩

theorem fair_places (b : Nat) (v : Int) (w : World) (h : w.cell? ⟨b, 0, none⟩ = some (.int .i64 v)) :
    Calls Try.prog 17 #[.pointer (some ⟨b, 0, none⟩)] w fun e w' => e = .returned (.int .i64 v) ∧ w' = w := by
  go_enter Try.func17, Try.ntmps17
  go_wp2
  go_ret
  exact ⟨rfl, rfl⟩

theorem fair_see_nil (f : Value) (w : World) :
    Calls Try.prog 13 #[.pointer none, f] w fun e w' => e = .returned (.tuple #[.int .i64 0, .bool false]) ∧ w' = w := by
  go_enter Try.func13, Try.ntmps13
  go_wp2
  go_ret2
  exact ⟨rfl, rfl⟩

theorem fair_next_nil (f : Value) (w : World) :
    Calls Try.prog 19 #[.pointer none, f] w fun e w' => e = .returned (.tuple #[.int .i64 0, .bool false]) ∧ w' = w := by
  go_enter Try.func19, Try.ntmps19
  go_wp2_with (go_at_call 13; refine (fair_see_nil _ _).mono ?_; rintro e w' ⟨rfl, rfl⟩)
  go_ret2
  exact ⟨rfl, rfl⟩

theorem fair_of_nil (a : Option Addr) (n c : Nat) (w : World) :
    Calls Try.prog 18 #[.pointer none, .slice a n c] w fun e w' => e = .returned (.tuple #[.int .i64 0, .bool false]) ∧ w' = w.alloc (.cells #[.slice a n c] 34) := by
  have hmf : ∀ (fn : Fn) (first cap : Array Value) (w : World), (Instr.makeFunc fn first cap).run Try.prog w = .ok (.func fn first cap) w := fun _ _ _ _ => rfl
  go_enter Try.func18, Try.ntmps18
  go_wp2_with (go_at_call 19; refine (fair_next_nil _ _).mono ?_; rintro e w' ⟨rfl, rfl⟩)
  go_ret2
  exact ⟨rfl, rfl⟩

/-- Which question is the first of which the answer is yes. -/
def firstI (places : Int) (ans : Nat → Bool) : Option Nat := (List.range places.toNat).find? ans
/-- The place that See gives. -/
def seeR (places last : Int) (ans : Nat → Bool) : Option Int := (firstI places ans).map fun k => (last + 1 + k) % places
/-- How often was asked. -/
def cntI (places : Int) (ans : Nat → Bool) : Nat := ((firstI places ans).map (· + 1)).getD places.toNat
theorem firstI_some {places : Int} {ans : Nat → Bool} {k : Nat} (hk : (k : Int) < places) (ha : ans k = true) (hno : ∀ j, j < k → ans j = false) : firstI places ans = some k := by
  unfold firstI
  rw [List.find?_range_eq_some]
  exact ⟨ha, by simp; omega, fun j hj => by simp [hno j hj]⟩
theorem firstI_none {places : Int} {ans : Nat → Bool} (hno : ∀ j : Nat, (j : Int) < places → ans j = false) : firstI places ans = none := by
  unfold firstI
  rw [List.find?_range_eq_none]
  intro j hj
  simp [hno j (by omega)]
/-- What a call of Next does to the last place. -/
def setLast (b : Nat) : Option Int → World → World
  | none, w => w
  | some v, w => w.setCell ⟨b, 1, none⟩ (.int .i64 v)
def SeePost (places last : Int) (ans : Nat → Bool) (I : Nat → World → Prop) (e : Ending) (w' : World) : Prop :=
  e = .returned (.tuple #[.int .i64 ((seeR places last ans).getD 0), .bool (seeR places last ans).isSome]) ∧ I (cntI places ans) w'
def NextPost (b : Nat) (places last : Int) (ans : Nat → Bool) (I : Nat → World → Prop) (e : Ending) (w' : World) : Prop :=
  e = .returned (.tuple #[.int .i64 ((seeR places last ans).getD 0), .bool (seeR places last ans).isSome]) ∧ ∃ w1, I (cntI places ans) w1 ∧ w' = setLast b (seeR places last ans) w1

/-- What is asked of a function value that is handed over. 'I i w': the world behind i questions. -/
structure Asks (g : Nat) (lb : Array Value) (b : Nat) (places last : Int) (ans : Nat → Bool) (I : Nat → World → Prop) : Prop where
  p1 : 1 ≤ places
  p2 : places ≤ 4096
  l1 : -1 ≤ last
  l2 : last < places
  enters : ∀ args w, (callFunc g args).run Try.prog w = .ok (.enter g args) w
  c0 : ∀ i w, I i w → w.cell? ⟨b, 0, none⟩ = some (.int .i64 places)
  c1 : ∀ i w, I i w → w.cell? ⟨b, 1, none⟩ = some (.int .i64 last)
  fz : ∀ i w, I i w → w.frozen? ⟨b, 1, none⟩ = false
  drewN : ∀ i w n, I i w → I i (w.drewN n)
  call : ∀ (i : Nat) w, (i : Int) < places → I i w → Calls Try.prog g (#[.int .i64 ((last + 1 + i) % places)] ++ lb) w fun e w' => e = .returned (.bool (ans i)) ∧ I (i + 1) w'

set_option maxHeartbeats 400000 in
theorem fair_see (g : Nat) (lb : Array Value) (b : Nat) (places last : Int) (ans : Nat → Bool) (I : Nat → World → Prop) (w : World) (hA : Asks g lb b places last ans I) (hI : I 0 w) :
    Calls Try.prog 13 #[.pointer (some ⟨b, 0, none⟩), .func (.func g) #[] lb] w (SeePost places last ans I) := by
  have p1 := hA.p1
  have p2 := hA.p2
  have l1 := hA.l1
  have l2 := hA.l2
  have hc0 := hA.c0 0 w hI
  have hc1 := hA.c1 0 w hI
  have eg := hA.enters
  go_enter Try.func13, Try.ntmps13
  go_wp2
  clear hc0 hc1
  go_loopw [14] (fun i wr => ∃ k : Nat, (k : Int) ≤ places ∧ i = .int .i64 k ∧ I k wr ∧ ∀ j, j < k → ans j = false) (fun i _ => (places - intOf i).toNat)
  case atStart => exact ⟨0, by omega, rfl, hI, fun j hj => by omega⟩
  case round =>
    obtain ⟨k, hk, rfl, hIk, hno⟩ := hrel
    have hc0 := hA.c0 k wr hIk
    have hc1 := hA.c1 k wr hIk
    by_cases hlt : (k : Int) < places
    · go_wp2
      go_quiet (fail)
      go_wp2_with fail
      refine (hA.call k _ hlt (hA.drewN k wr _ hIk)).mono ?_
      rintro e w1 ⟨rfl, hI1⟩
      by_cases ha : ans k = true
      · rw [ha]
        go_wp2
        go_ret2
        have hf := firstI_some hlt ha hno
        exact ⟨by simp [seeR, hf], by simpa [cntI, hf] using hI1⟩
      · have ha' : ans k = false := by simpa using ha
        rw [ha']
        go_wp2
        go_roundw
        case rel => exact ⟨k + 1, by omega, by go_num, hI1, fun j hj => if h : j = k then h ▸ ha' else hno j (by omega)⟩
        case measure => simp [intOf]; omega
    · go_wp2
      go_ret2
      have hk' : (k : Int) = places := by omega
      have hf := firstI_none (places := places) (ans := ans) fun j hj => hno j (by omega)
      exact ⟨by simp [seeR, hf], by have e : places.toNat = k := by omega
                                    simp only [cntI, hf, e]; exact hIk⟩

set_option maxHeartbeats 400000 in
theorem fair_next (g : Nat) (lb : Array Value) (b : Nat) (places last : Int) (ans : Nat → Bool) (I : Nat → World → Prop) (w : World) (hA : Asks g lb b places last ans I) (hI : I 0 w) :
    Calls Try.prog 19 #[.pointer (some ⟨b, 0, none⟩), .func (.func g) #[] lb] w (NextPost b places last ans I) := by
  go_enter Try.func19, Try.ntmps19
  go_wp2_with fail
  refine (fair_see g lb b places last ans I w hA hI).mono ?_
  rintro e w1 ⟨rfl, hI1⟩
  cases hr : seeR places last ans with
  | none =>
    simp only [Option.getD_none, Option.isSome_none]
    go_wp2
    go_ret2
    exact ⟨by rw [hr]; rfl, w1, hI1, by rw [hr]; rfl⟩
  | some v =>
    simp only [Option.getD_some, Option.isSome_some]
    have hfz := hA.fz _ _ hI1
    have hc1 := hA.c1 _ _ hI1
    have HR := Lib.hid hr
    clear hr
    go_wp2
    go_ret2
    exact ⟨by rw [HR.out]; rfl, w1, hI1, by rw [HR.out]; rfl⟩

/-- A Fair in memory. -/
def FairAt (w : World) (b : Nat) (places last : Int) : Prop := w.heap[b]? = some (.cells #[.int .i64 places, .int .i64 last] 48)
theorem FairAt.c0 {w : World} {b : Nat} {places last : Int} (h : FairAt w b places last) : w.cell? ⟨b, 0, none⟩ = some (.int .i64 places) := by simp [FairAt] at h; simp [World.cell?, h]
theorem FairAt.c1 {w : World} {b : Nat} {places last : Int} (h : FairAt w b places last) : w.cell? ⟨b, 1, none⟩ = some (.int .i64 last) := by simp [FairAt] at h; simp [World.cell?, h]
theorem FairAt.fz {w : World} {b : Nat} {places last : Int} (h : FairAt w b places last) (i : Nat) : w.frozen? ⟨b, i, none⟩ = false := by simp [FairAt] at h; simp [World.frozen?, h]
theorem FairAt.lt {w : World} {b : Nat} {places last : Int} (h : FairAt w b places last) : b < w.heap.size := World.block_lt_of_cell? (a := ⟨b, 0, none⟩) _ h.c0
theorem FairAt.set {w : World} {b : Nat} {places last : Int} (h : FairAt w b places last) (r : Option Int) : FairAt (setLast b r w) b places (r.getD last) := by
  cases r with
  | none => exact h
  | some v =>
    simp only [FairAt] at h ⊢
    simp [setLast, World.setCell, Array.getElem?_modify, h]
theorem setLast_mod {w : World} {b : Nat} (r : Option Int) {S : Nat → Prop} (hS : S b) : Mod S w (setLast b r w) := by
  cases r with
  | none => exact Mod.refl _ _
  | some v => exact (Mod.refl _ _).setCell (Or.inl hS) _
theorem FairAt.later {w w' : World} {b : Nat} {places last : Int} (h : FairAt w b places last) {S : Nat → Prop} (hm : Mod S w w') (hS : ¬ S b) : FairAt w' b places last :=
  (hm.block b h.lt hS).trans h

end Go.Proofs.Ytpcjhkkinmfjlaa
