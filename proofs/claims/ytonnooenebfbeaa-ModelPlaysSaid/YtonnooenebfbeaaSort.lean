/- The contract of slices.SortFunc over at most twelve numbers, with a comparison by a key. -/
import Derived.Test.YtonnooenebfbeaaCfg
import Derived.BigRegion
namespace Go.Proofs.Ytonnooenebfbeaa
open Go.RowKit

/-- Which of two numbers is more. -/
def cmpI (x y : Int) : Int := if x < y then -1 else if y < x then 1 else 0

theorem cmpI_lt (x y : Int) : (cmpI x y < 0) = (x < y) := by
  unfold cmpI
  split
  · simp [*]
  · split <;> simp [*]

theorem run_isNaN (x : Int) (w : World) : Calls Try.prog 61 #[.int .i64 x] w fun e w' => e = .returned (.bool false) ∧ w = w' := by
  go_enter Try.func61, Try.ntmps61
  go_wp2
  go_ret
  exact ⟨rfl, rfl⟩

set_option maxHeartbeats 400000 in
theorem run_Compare (x y : Int) (w : World) : Calls Try.prog 50 #[.int .i64 x, .int .i64 y] w fun e w' => e = .returned (.int .i64 (cmpI x y)) ∧ w = w' := by
  go_enter Try.func50, Try.ntmps50
  go_wp2_with fail
  refine (run_isNaN x w).mono ?_
  rintro e w' ⟨rfl, rfl⟩
  go_wp2_with fail
  refine (run_isNaN y w).mono ?_
  rintro e w' ⟨rfl, rfl⟩
  by_cases h1 : x < y
  · have h : cmpI x y = -1 := by unfold cmpI; rw [if_pos h1]
    have H := Lib.hid h
    clear h
    go_wp2
    go_ret
    exact ⟨by rw [H.out]; rfl, rfl⟩
  by_cases h2 : y < x
  · have h : cmpI x y = 1 := by unfold cmpI; rw [if_neg h1, if_pos h2]
    have H := Lib.hid h
    clear h
    go_wp2
    go_ret
    exact ⟨by rw [H.out]; rfl, rfl⟩
  · have h : cmpI x y = 0 := by unfold cmpI; rw [if_neg h1, if_neg h2]
    have H := Lib.hid h
    clear h
    go_wp2
    go_ret
    exact ⟨by rw [H.out]; rfl, rfl⟩

/-- A function value that compares numbers by a key; it turns nothing that lay in w0. G: the array that is sorted meanwhile. -/
structure Cmps (w0 : World) (G : Nat) (g : Nat) (lb : Array Value) (key : Int → Int) : Prop where
  enters : ∀ args w, (callFunc g args).run Try.prog w = .ok (.enter g args) w
  call : ∀ (W : World) (x y : Int), Mod (· = G) w0 W → Calls Try.prog g (#[.int .i64 x, .int .i64 y] ++ lb) W fun e w' => e = .returned (.int .i64 (cmpI (key x) (key y))) ∧ Mod (fun _ => False) W w'

theorem own_later' {w w' : World} {base : Nat} {e : TypeId} {size : Nat} {v : Value} {n : Nat} {xs : List Value} (h : w.ownsRow base e size v n xs) (m : Mod (fun _ => False) w w') : w'.ownsRow base e size v n xs :=
  h.kept (row := none) ⟨m.os, m.tape, m.output, m.size, fun q hq _ => m.block q hq (by simp)⟩ (by cases hv : Value.ownBlock v <;> simp)

theorem set_swap (l1 : List Int) (y x : Int) (r : List Int) : ((((l1 ++ [y]) ++ x :: r).map (Value.int .i64)).set (l1.length + 1) (.int .i64 y)).set l1.length (.int .i64 x) = ((l1 ++ x :: y :: r)).map (Value.int .i64) := by
  simp [List.set_append]

/-- Sorted by a key. -/
def SortedBy (key : Int → Int) (l : List Int) : Prop := l.Pairwise (fun a b => key a ≤ key b)

theorem sorted_ins (key : Int → Int) (l1 l2 : List Int) (x : Int) (h : SortedBy key (l1 ++ l2)) (h2 : ∀ y ∈ l2, key x < key y) (h1 : ∀ y ∈ l1, key y ≤ key x) : SortedBy key (l1 ++ x :: l2) := by
  unfold SortedBy at *
  rw [List.pairwise_append] at h ⊢
  obtain ⟨a, b, d⟩ := h
  refine ⟨a, List.pairwise_cons.2 ⟨fun y hy => by have := h2 y hy; omega, b⟩, fun p hp q hq => ?_⟩
  rcases List.mem_cons.1 hq with rfl | hq
  · exact h1 p hp
  · exact d p hp q hq

theorem sorted_last (key : Int → Int) (l : List Int) (y : Int) (h : SortedBy key (l ++ [y])) : ∀ z ∈ l, key z ≤ key y := by
  unfold SortedBy at h
  rw [List.pairwise_append] at h
  exact fun z hz => h.2.2 z hz y (by simp)

set_option maxRecDepth 100000 in
set_option maxHeartbeats 1600000 in
theorem run_insertion (w0 : World) (G base : Nat) (g : Nat) (lb : Array Value) (key : Int → Int) (n cap : Nat) (xs : List Int) (w : World) (hC : Cmps w0 G g lb key) (h0 : Mod (· = G) w0 w)
    (hown : w.ownsRow base 3 1 (.slice (some ⟨G, 0, none⟩) n cap) n (xs.map (Value.int .i64))) (hn : n ≤ 1000000) :
    Calls Try.prog 64 #[.slice (some ⟨G, 0, none⟩) n cap, .int .i64 0, .int .i64 n, .func (.func g) #[] lb] w fun e w' => e = .returned (.tuple #[]) ∧
      ∃ ys : List Int, ys.Perm xs ∧ SortedBy key ys ∧ Mod (· = G) w w' ∧ w'.ownsRow base 3 1 (.slice (some ⟨G, 0, none⟩) n cap) n (ys.map (Value.int .i64)) := by
  have eg := hC.enters
  have hl : xs.length = n := by have := hown.1; simpa using this
  have HL := Lib.hid hl
  clear hl
  go_enter Try.func64, Try.ntmps64
  go_wp2
  go_loopw [8] (fun i wr => ∃ (k : Nat) (s r : List Int), i = .int .i64 k ∧ 1 ≤ k ∧ (s ++ r).Perm xs ∧ (s.length = k ∨ (r = [] ∧ n ≤ k)) ∧ k ≤ n + 1 ∧ SortedBy key s ∧ Mod (· = G) w wr ∧ wr.ownsRow base 3 1 (.slice (some ⟨G, 0, none⟩) n cap) n ((s ++ r).map (Value.int .i64))) (fun i _ => n + 1 - (intOf i).toNat)
  case atStart =>
    cases xs with
    | nil => exact ⟨1, [], [], rfl, by omega, by simp, Or.inr ⟨rfl, by have := HL.out; simp at this; omega⟩, by omega, List.Pairwise.nil, Mod.refl _ _, hown⟩
    | cons x xs => exact ⟨1, [x], xs, rfl, by omega, by simp, Or.inl rfl, by omega, List.pairwise_singleton _ _, Mod.refl _ _, hown⟩
  case round =>
    obtain ⟨k, s, r, rfl, hk1, hperm, hlen, hkn, hsort, hmod, hown1⟩ := hrel
    by_cases hlt : k < n
    · obtain ⟨x, r', rfl⟩ : ∃ x r', r = x :: r' := by
        cases r with
        | nil =>
          exfalso
          have h1 := hperm.length_eq
          have h2 := HL.out
          rcases hlen with h | ⟨-, h⟩
          · simp at h1; omega
          · omega
        | cons x r' => exact ⟨x, r', rfl⟩
      have hsl : s.length = k := by
        rcases hlen with h | ⟨h, -⟩
        · exact h
        · simp at h
      have HP := Lib.hid hperm
      have HS := Lib.hid hsort
      have HK := Lib.hid hsl
      clear hperm hsort hsl hlen
      obtain ⟨wA, rfl⟩ : ∃ wo : World, wo = wr := ⟨_, rfl⟩
      go_wp2
      go_loopw [9] (fun j wr => ∃ (qi : Int) (l1 l2 : List Int), j = .int .i64 qi ∧ qi = (l1.length : Int) ∧ (l1 ++ l2).Perm s ∧ SortedBy key (l1 ++ l2) ∧ (∀ y ∈ l2, key x < key y) ∧ Mod (· = G) w wr ∧ wr.ownsRow base 3 1 (.slice (some ⟨G, 0, none⟩) n cap) n ((l1 ++ x :: (l2 ++ r')).map (Value.int .i64))) (fun j _ => (intOf j).toNat)
      case atStart => exact ⟨k, s, [], rfl, by rw [HK.out], by simp, by simpa using HS.out, by simp, hmod, by simpa using hown1⟩
      case round =>
        obtain ⟨qi, l1, l2, rfl, hqi, hpm, hso, hl2, hmod2, hown2⟩ := hrel
        clear hown1 hmod
        have hll : l1.length + l2.length = k := by have := hpm.length_eq; simp at this; have := HK.out; omega
        have HPM := Lib.hid hpm
        have HSO := Lib.hid hso
        have HL2 := Lib.hid hl2
        clear hpm hso hl2
        rcases List.eq_nil_or_concat l1 with rfl | ⟨m, y, hmy⟩
        · obtain rfl : qi = 0 := by simpa using hqi
          have hperm2 : (x :: (l2 ++ r')).Perm xs := by
            refine List.Perm.trans ?_ HP.out
            have : (l2 ++ x :: r').Perm (x :: (l2 ++ r')) := List.perm_middle
            exact this.symm.trans ((by simpa using HPM.out : l2.Perm s).append_right _)
          have hsort2 : SortedBy key (x :: l2) := by
            have := sorted_ins key [] l2 x (by simpa using HSO.out) HL2.out (by simp)
            simpa using this
          have HP2 := Lib.hid hperm2
          have HS2 := Lib.hid hsort2
          clear hperm2 hsort2
          simp only [List.nil_append] at hown2
          clear hqi
          simp only [List.length_nil, Nat.zero_add] at hll
          go_wp2
          go_quiet (fail)
          go_wp2
          go_roundw
          case rel => exact ⟨k + 1, x :: l2, r', by go_num, by omega, HP2.out, Or.inl (by simp [hll]), by omega, HS2.out, hmod2.drewN _, hown2⟩
          case measure => simp [intOf]; omega
        · skip
          rw [List.concat_eq_append] at hmy
          subst hmy
          obtain rfl : qi = (m.length : Int) + 1 := by simpa using hqi
          clear hqi
          have hsl := HSO.out
          have c1 : wr.cell? ⟨G, m.length + 1, none⟩ = some (.int .i64 x) := by
            rw [hown2.cellAt (m.length + 1) (by have := hown2.1; simp at this; omega)]
            simp
          have c0 : wr.cell? ⟨G, m.length, none⟩ = some (.int .i64 y) := by
            rw [hown2.cellAt m.length (by have := hown2.1; simp at this; omega)]
            simp
          have f1 := hown2.frozenAt (m.length + 1)
          have f0 := hown2.frozenAt m.length
          have hmn : m.length + 1 < n := by have := hown2.1; simp at this; omega
          have hpos : (0 : Int) < (m.length : Int) + 1 := by omega
          have b1 : (0 : Int) ≤ (m.length : Int) + 1 := by omega
          have b2 : (m.length : Int) + 1 < (n : Int) := by omega
          have b3 : (0 : Int) ≤ (m.length : Int) := by omega
          have b4 : (m.length : Int) < (n : Int) := by omega
          have u1 : IntKind.i64.wrap ((m.length : Int) + 1 - 1) = (m.length : Int) := by rw [Int.add_sub_cancel]; exact IntWalk.i64_in _ (by omega)
          have u2 : IntKind.i64.wrap (m.length : Int) = (m.length : Int) := IntWalk.i64_in _ (by omega)
          have hG := World.block_lt_of_cell? _ _ c0
          go_wp2
          go_upto_region 4 with fail
          go_cut [34] (fun v w' => v = .bool (decide (key x < key y)) ∧ Mod (fun _ => False) wr w')
          case first =>
            go_region_held3 (fun w' => w'.cell? ⟨G, m.length + 1, none⟩ = some (.int .i64 x) ∧ w'.cell? ⟨G, m.length, none⟩ = some (.int .i64 y))
              (first
                | go_keep
                | (refine ⟨?_, ?_⟩; · exact (m5.cell hG (by simp)).trans c1
                   · exact (m5.cell hG (by simp)).trans c0))
              ((go_at_fn g; refine (hC.call _ x y ?_).mono ?_; exact (h0.trans hmod2 (fun _ _ h => h)).drew; rintro e w5 ⟨rfl, m5⟩))
            go_wp2_with fail
            go_meet
            exact ⟨by simp only [cmpI_lt], (Mod.refl _ _).drew.trans m5 (by simp)⟩
          case rest =>
            obtain ⟨rfl, m6⟩ := hcut
            have hown6 := own_later' hown2 m6
            have hmod6 := hmod2.trans m6 (by simp)
            clear hown2 hmod2 hsl c1 c0 f1 f0
            by_cases hk : key x < key y
            · have hd : decide (key x < key y) = true := by simp [hk]
              rw [hd]
              have HK := Lib.hid hk
              clear hd hk
              have c1 : wc.cell? ⟨G, m.length + 1, none⟩ = some (.int .i64 x) := by
                rw [hown6.cellAt (m.length + 1) (by omega)]
                simp
              have c0 : wc.cell? ⟨G, m.length, none⟩ = some (.int .i64 y) := by
                rw [hown6.cellAt m.length (by omega)]
                simp
              have f1 := hown6.frozenAt (m.length + 1)
              have f0 := hown6.frozenAt m.length
              go_wp2
              go_region
              have hst := ((hown6.stored (m.length + 1) (.int .i64 y)).1.stored m.length (.int .i64 x)).1.drew
              have hmd := ((hmod6.setCell (p := ⟨G, m.length + 1, none⟩) (Or.inl rfl) (.int .i64 y)).setCell (p := ⟨G, m.length, none⟩) (Or.inl rfl) (.int .i64 x)).drew
              rw [set_swap] at hst
              generalize ((wc.setCell ⟨G, m.length + 1, none⟩ (.int .i64 y)).setCell ⟨G, m.length, none⟩ (.int .i64 x)).drew = wz at hst hmd ⊢
              clear c1 c0 f1 f0 hown6 hmod6
              have hp2 : (m ++ y :: l2).Perm s := by simpa using HPM.out
              have hs2 : SortedBy key (m ++ y :: l2) := by simpa using HSO.out
              have hl3 : ∀ z ∈ y :: l2, key x < key z := fun z hz => by
                rcases List.mem_cons.1 hz with rfl | hz
                · exact HK.out
                · exact HL2.out z hz
              have HP2 := Lib.hid hp2
              have HS2 := Lib.hid hs2
              have HL3 := Lib.hid hl3
              clear hp2 hs2 hl3
              go_wp2
              go_roundw
              case rel => exact ⟨m.length, m, y :: l2, rfl, rfl, HP2.out, HS2.out, HL3.out, hmd, hst⟩
              case measure => simp only [intOf]; omega
            · have hd : decide (key x < key y) = false := by simp [hk]
              rw [hd]
              have hle : ∀ z ∈ m ++ [y], key z ≤ key x := by
                have h1 : SortedBy key (m ++ [y]) := by
                  have := HSO.out
                  unfold SortedBy at this ⊢
                  exact (List.pairwise_append.1 this).1
                intro z hz
                rcases List.mem_append.1 hz with hz | hz
                · have := sorted_last key m y h1 z hz; omega
                · simp at hz; subst hz; omega
              have hsort2 := sorted_ins key (m ++ [y]) l2 x HSO.out HL2.out hle
              have hperm2 : ((m ++ [y] ++ x :: l2) ++ r').Perm xs := by
                refine List.Perm.trans ?_ HP.out
                have h1 : (m ++ [y] ++ x :: l2 ++ r').Perm (x :: (m ++ [y] ++ l2 ++ r')) := by
                  have := (List.perm_middle (l₁ := m ++ [y]) (a := x) (l₂ := l2 ++ r'))
                  simpa using this
                have h2 : (s ++ x :: r').Perm (x :: (s ++ r')) := List.perm_middle
                exact h1.trans (((HPM.out.append_right r').cons x).trans h2.symm)
              have HS2 := Lib.hid hsort2
              have HP2 := Lib.hid hperm2
              have hln : (m ++ [y] ++ x :: l2).length = k + 1 := by simp at hll ⊢; omega
              have hown7 : wc.ownsRow base 3 1 (.slice (some ⟨G, 0, none⟩) n cap) n (((m ++ [y] ++ x :: l2) ++ r').map (Value.int .i64)) := by simpa using hown6
              have HLN := Lib.hid hln
              clear hd hk hle hsort2 hperm2 hln hown6
              go_wp2
              go_roundw
              case rel => exact ⟨k + 1, m ++ [y] ++ x :: l2, r', by go_num, by omega, HP2.out, Or.inl HLN.out, by omega, HS2.out, hmod6, hown7⟩
              case measure => simp [intOf]; omega
    · have hr : r = [] := by
        rcases hlen with h | ⟨h, -⟩
        · have h1 := hperm.length_eq
          have h2 := HL.out
          simp at h1
          have : r.length = 0 := by omega
          exact List.eq_nil_of_length_eq_zero this
        · exact h
      subst hr
      have hp : s.Perm xs := by simpa using hperm
      rw [List.append_nil] at hown1
      have HP := Lib.hid hp
      have HS := Lib.hid hsort
      clear hp hsort hperm hlen
      go_wp2
      go_end0
      exact ⟨rfl, s, HP.out, HS.out, hmod, hown1⟩

set_option maxHeartbeats 400000 in
theorem run_insertion_nil (a : Option Addr) (cap : Nat) (f : Value) (w : World) :
    Calls Try.prog 64 #[.slice a 0 cap, .int .i64 0, .int .i64 0, f] w fun e w' => e = .returned (.tuple #[]) ∧ w = w' := by
  go_enter Try.func64, Try.ntmps64
  go_wp2
  refine wp_loop_rounds 1 ?_
  rw [rounds_succ]
  go_wp2
  go_end0
  exact ⟨rfl, rfl⟩

/-- What a sort leaves: the sorted row; nothing but its array turned. -/
def SortPost (G base n cap : Nat) (key : Int → Int) (xs : List Int) (w : World) (e : Ending) (w' : World) : Prop :=
  e = .returned (.tuple #[]) ∧ ∃ ys : List Int, ys.Perm xs ∧ SortedBy key ys ∧ Mod (· = G) w w' ∧ w'.ownsRow base 3 1 (.slice (some ⟨G, 0, none⟩) n cap) n (ys.map (Value.int .i64))

set_option maxRecDepth 100000 in
set_option maxHeartbeats 800000 in
theorem run_pdq (w0 : World) (G base : Nat) (g : Nat) (lb : Array Value) (key : Int → Int) (n cap : Nat) (xs : List Int) (lim : Int) (w : World) (hC : Cmps w0 G g lb key) (h0 : Mod (· = G) w0 w)
    (hown : w.ownsRow base 3 1 (.slice (some ⟨G, 0, none⟩) n cap) n (xs.map (Value.int .i64))) (hn : n ≤ 12) :
    Calls Try.prog 59 #[.slice (some ⟨G, 0, none⟩) n cap, .int .i64 0, .int .i64 n, .int .i64 lim, .func (.func g) #[] lb] w (SortPost G base n cap key xs w) := by
  have HO := Lib.hid hown
  clear hown
  go_enter Try.func59, Try.ntmps59
  go_wp2
  refine wp_loop_rounds 1 ?_
  rw [rounds_succ]
  go_wp2_with fail
  refine (run_insertion w0 G base g lb key n cap xs w hC h0 HO.out (by omega)).mono ?_
  rintro e w1 ⟨rfl, h⟩
  have H := Lib.hid h
  clear h
  go_wp2
  go_end0
  exact ⟨rfl, H.out⟩

theorem run_pdq_nil (a : Option Addr) (cap : Nat) (f : Value) (lim : Int) (w : World) :
    Calls Try.prog 59 #[.slice a 0 cap, .int .i64 0, .int .i64 0, .int .i64 lim, f] w fun e w' => e = .returned (.tuple #[]) ∧ w = w' := by
  go_enter Try.func59, Try.ntmps59
  go_wp2
  refine wp_loop_rounds 1 ?_
  rw [rounds_succ]
  go_wp2_with fail
  refine (run_insertion_nil a cap f w).mono ?_
  rintro e w1 ⟨rfl, rfl⟩
  go_wp2
  go_returns
  exact ⟨rfl, rfl⟩

set_option maxRecDepth 100000 in
set_option maxHeartbeats 1600000 in
theorem run_Len64 (n : Nat) (hn : n ≤ 12) (w : World) : Calls Try.prog 73 #[.int .u64 n] w fun e w' => (∃ r, e = .returned (.int .i64 r)) ∧ w = w' := by
  have h : n = 0 ∨ n = 1 ∨ n = 2 ∨ n = 3 ∨ n = 4 ∨ n = 5 ∨ n = 6 ∨ n = 7 ∨ n = 8 ∨ n = 9 ∨ n = 10 ∨ n = 11 ∨ n = 12 := by omega
  rcases h with rfl | rfl | rfl | rfl | rfl | rfl | rfl | rfl | rfl | rfl | rfl | rfl | rfl
  all_goals
    go_enter Try.func73, Try.ntmps73
    go_wp2
    go_ret
    exact ⟨⟨_, rfl⟩, rfl⟩

theorem run_Len (n : Nat) (hn : n ≤ 12) (w : World) : Calls Try.prog 60 #[.int .u64 n] w fun e w' => (∃ r, e = .returned (.int .i64 r)) ∧ w = w' := by
  go_enter Try.func60, Try.ntmps60
  go_wp2_with fail
  refine (run_Len64 n hn w).mono ?_
  rintro e w1 ⟨⟨r, rfl⟩, rfl⟩
  go_wp2
  go_ret
  exact ⟨⟨_, rfl⟩, rfl⟩

theorem run_SortFunc (w0 : World) (G base : Nat) (g : Nat) (lb : Array Value) (key : Int → Int) (n cap : Nat) (xs : List Int) (w : World) (hC : Cmps w0 G g lb key) (h0 : Mod (· = G) w0 w)
    (hown : w.ownsRow base 3 1 (.slice (some ⟨G, 0, none⟩) n cap) n (xs.map (Value.int .i64))) (hn : n ≤ 12) :
    Calls Try.prog 48 #[.slice (some ⟨G, 0, none⟩) n cap, .func (.func g) #[] lb] w (SortPost G base n cap key xs w) := by
  have HO := Lib.hid hown
  have hu : IntKind.u64.wrap (n : Int) = n := by simp only [IntKind.wrap_u64]; omega
  clear hown
  go_enter Try.func48, Try.ntmps48
  go_wp2_with fail
  refine (run_Len n hn w).mono ?_
  rintro e w1 ⟨⟨r, rfl⟩, rfl⟩
  go_wp2_with fail
  refine (run_pdq w0 G base g lb key n cap xs r w hC h0 HO.out hn).mono ?_
  rintro e w1 ⟨rfl, h⟩
  have H := Lib.hid h
  clear h
  go_wp2
  go_end0
  exact ⟨rfl, H.out⟩

theorem run_SortFunc_nil (a : Option Addr) (cap : Nat) (f : Value) (w : World) :
    Calls Try.prog 48 #[.slice a 0 cap, f] w fun e w' => e = .returned (.tuple #[]) ∧ w = w' := by
  go_enter Try.func48, Try.ntmps48
  go_wp2_with fail
  refine (run_Len 0 (by omega) w).mono ?_
  rintro e w1 ⟨⟨r, rfl⟩, rfl⟩
  go_wp2_with fail
  refine (run_pdq_nil a cap f r w).mono ?_
  rintro e w1 ⟨rfl, rfl⟩
  go_wp2
  go_end0
  exact ⟨rfl, rfl⟩

end Go.Proofs.Ytonnooenebfbeaa
