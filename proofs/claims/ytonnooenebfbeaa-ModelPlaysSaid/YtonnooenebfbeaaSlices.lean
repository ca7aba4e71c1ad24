/- Contracts of slices.Clone, slices.Compact and slices.Reverse over numbers. -/
import Derived.Test.YtonnooenebfbeaaSort
import Derived.Lib.LazyBuf
namespace Go.Proofs.Ytonnooenebfbeaa
open Go.RowKit

theorem info_i : (Try.prog.info? 3).map (fun i => (i.zero, i.size, i.bytes)) = some (some (.int .i64 0), 1, 8) := by kernel_rfl

theorem Mod.grown0 {w w' : World} {row : Option Nat} (hg : w.grownBy w' row) : Mod (fun k => row = some k) w w' :=
  ⟨hg.os, hg.tape, hg.output, hg.size, fun k hk hn => hg.block k hk (fun e => hn e.symm)⟩

set_option maxHeartbeats 800000 in
theorem run_Clone (v : Value) (xs : List Int) (w : World) (hs : SlV w v (xs.map (Value.int .i64))) (hlen : xs.length ≤ 1000000) :
    Calls Try.prog 47 #[v] w fun e w' => ∃ r, e = .returned r ∧ Mod (fun _ => False) w w' ∧ w'.ownsRow w.heap.size 3 1 r xs.length (xs.map (Value.int .i64)) := by
  obtain ⟨a, n, c, rfl, hn, hc, hm, h⟩ := hs
  rw [List.length_map] at hn
  have he := fun (W : World) => Lib.run_eql_slice_nil (P := Try.prog) W 39 3 a n c 0 0 Try.underlying39
  cases a with
  | none =>
    have hx : xs = [] := by
      rcases h with h | ⟨B, off, h, _⟩
      · simpa using h
      · simp at h
    subst hx
    obtain rfl : n = 0 := by simpa using hn.symm
    go_enter Try.func47, Try.ntmps47
    go_wp2
    go_ret
    exact ⟨_, rfl, Mod.refl _ _, World.ownsRow_nil _ _ _ _⟩
  | some ad =>
    obtain ⟨i0, hi, hz0, hz1, hz2⟩ := info_parts info_i
    have hown0 : (w.alloc (.cells #[] 3)).ownsRow w.heap.size 3 1 (.slice (some ⟨w.heap.size, 0, none⟩) 0 0) 0 [] :=
      World.ownsRow_lit w #[] 0 (Nat.le_refl _) (by decide) rfl
    have hcells : ∀ j u, (xs.map (Value.int .i64))[j]? = some u → (w.alloc (.cells #[] 3)).cell? (ad.add j) = some u := by
      intro j u hj
      rcases h with h | ⟨B, off, h1, hB, h2⟩
      · rw [h] at hj; simp at hj
      · obtain rfl := Option.some.inj h1
        have hjl : j < (xs.map (Value.int .i64)).length := by
          rcases Nat.lt_or_ge j (xs.map (Value.int .i64)).length with h' | h'
          · exact h'
          · rw [List.getElem?_eq_none h'] at hj; simp at hj
        have := h2 j hjl
        rw [List.getD_eq_getElem?_getD, hj] at this
        have e : (⟨B, off, none⟩ : Addr).add j = ⟨B, off + j, none⟩ := by
          unfold Addr.add
          split <;> simp_all
        rw [e, World.cell?_alloc_past _ _ _ hB]
        exact this
    have HC := Lib.hid hcells
    clear h hcells
    go_enter Try.func47, Try.ntmps47
    go_wp2_with (at_builtin; refine wpList_append_own _ rfl _ _ 39 rfl w.heap.size 3 i0 (.int .i64 0) 1 8 Try.underlying39 hi hz0 hz1 hz2 rfl (by decide) (.slice (some ⟨w.heap.size, 0, none⟩) 0 0) 0 [] rfl hown0 ad n c (xs.map (Value.int .i64)) rfl (by simpa using hn) HC.out (by intro u hu; obtain ⟨x, _, rfl⟩ := List.mem_map.1 hu; rfl) (by unfold maxLen; omega) (by omega) (by simp) ?_; intro v' w1 hown1 hg1 _)
    have hm1 := (Mod.grown0 hg1)
    have hm2 : Mod (fun _ => False) w w1 := ((Mod.refl (fun _ => False) w).alloc (.cells #[] 3)).trans hm1 (fun i hi hs => by have : w.heap.size = i := by simpa [Value.ownBlock] using hs
                                                                                                                              omega)
    rw [Nat.zero_add, List.nil_append] at hown1
    have HO := Lib.hid (hn ▸ hown1)
    clear hown1 hg1 hm1
    go_wp2
    go_ret
    exact ⟨_, rfl, hm2, HO.out⟩

/-- A row without a number that stands next to the like of it. -/
def compactL : List Int → List Int
  | [] => []
  | [x] => [x]
  | x :: y :: l => if x = y then compactL (y :: l) else x :: compactL (y :: l)

set_option maxRecDepth 100000 in
set_option maxHeartbeats 800000 in
theorem run_Compact_no (v : Value) (xs : List Int) (w : World) (hs : SlV w v (xs.map (Value.int .i64))) (hlen : xs.length ≤ 1000000) (hne : ∀ i (h : i + 1 < xs.length), xs[i] ≠ xs[i + 1]) :
    Calls Try.prog 53 #[v] w fun e w' => e = .returned v ∧ Drw w w' := by
  obtain ⟨a, n, c, rfl, hn, hc, hm, -⟩ := id hs
  rw [List.length_map] at hn
  have HS := Lib.hid hs
  have HN := Lib.hid hn
  have HE := Lib.hid hne
  unfold maxLen at hm
  rw [hn] at hlen
  clear hs hn hne
  by_cases h2 : n < 2
  · go_enter Try.func53, Try.ntmps53
    go_wp2
    go_ret
    exact ⟨rfl, Drw.refl _⟩
  · go_enter Try.func53, Try.ntmps53
    go_wp2
    go_loopw [3] (fun i wr => ∃ k : Nat, 1 ≤ k ∧ k ≤ n ∧ i = .int .i64 k ∧ Drw w wr) (fun i _ => n - (intOf i).toNat)
    case atStart => exact ⟨1, by omega, by omega, rfl, Drw.refl _⟩
    case round =>
      obtain ⟨k, hk1, hk, rfl, hd⟩ := hrel
      by_cases hlt : k < n
      · obtain ⟨q, rfl⟩ : ∃ q, k = q + 1 := ⟨k - 1, by omega⟩
        have hql : q + 1 < xs.length := by have := HN.out; omega
        obtain ⟨B, off, rfl, hB, c1⟩ := HS.out.at (q + 1) hlt
        obtain ⟨B', off', e', hB', c0⟩ := HS.out.at q (by omega)
        simp only [Option.some.injEq, Addr.mk.injEq, and_true] at e'
        obtain ⟨rfl, rfl⟩ := e'
        have hv1 : (xs.map (Value.int .i64)).getD (q + 1) undef = .int .i64 xs[q + 1] := by simp [List.getD_eq_getElem?_getD, hql]
        have hv0 : (xs.map (Value.int .i64)).getD q undef = .int .i64 xs[q] := by simp [List.getD_eq_getElem?_getD, (show q < xs.length by omega)]
        rw [hv1] at c1
        rw [hv0] at c0
        have hne := HE.out q hql
        have ht : (xs[q + 1] == xs[q]) = false := by simp; exact Ne.symm hne
        have c1 := (hd.cell _).trans c1
        have c0 := (hd.cell _).trans c0
        generalize xs[q + 1] = y at c1 ht
        generalize xs[q]'(by omega) = x at c0 ht
        have e1 : ((q + 1 : Nat) : Int) = (q : Int) + 1 := by simp
        rw [e1]
        have b1 : (0 : Int) ≤ (q : Int) + 1 := by omega
        have b2 : (q : Int) + 1 < (n : Int) := by omega
        have b3 : (0 : Int) ≤ (q : Int) := by omega
        have b4 : (q : Int) < (n : Int) := by omega
        have u1 : IntKind.i64.wrap ((q : Int) + 1 - 1) = (q : Int) := by rw [Int.add_sub_cancel]; exact IntWalk.i64_in _ (by omega)
        have u2 : IntKind.i64.wrap (q : Int) = (q : Int) := IntWalk.i64_in _ (by omega)
        clear hv1 hv0 hne e1
        go_wp2
        go_quiet (fail)
        go_wp2
        go_roundw
        case rel => exact ⟨q + 2, by omega, by omega, by go_num, hd.trans (Drw.drewN _ _)⟩
        case measure => simp [intOf]; omega
      · go_wp2
        go_ret
        exact ⟨rfl, hd⟩

theorem run_Reverse_nil (a : Option Addr) (cap : Nat) (w : World) :
    Calls Try.prog 54 #[.slice a 0 cap] w fun e w' => e = .returned (.tuple #[]) ∧ w = w' := by
  go_enter Try.func54, Try.ntmps54
  go_wp2
  refine wp_loop_rounds 1 ?_
  rw [rounds_succ]
  go_wp2
  go_end0
  exact ⟨rfl, rfl⟩

theorem set_swap2 (a m b : List Int) (x y : Int) : ((((a ++ (x :: (m ++ [y])) ++ b)).map (Value.int .i64)).set a.length (.int .i64 y)).set (a.length + m.length + 1) (.int .i64 x) = ((a ++ [y]) ++ m ++ (x :: b)).map (Value.int .i64) := by
  have h1 : ((a ++ (x :: (m ++ [y])) ++ b).map (Value.int .i64)) = a.map (Value.int .i64) ++ (.int .i64 x :: (m.map (Value.int .i64) ++ (.int .i64 y :: b.map (Value.int .i64)))) := by simp
  rw [h1, List.set_append_right _ _ (by simp)]
  simp only [List.length_map, Nat.sub_self, List.set_cons_zero]
  rw [List.set_append_right _ _ (by simp; omega)]
  simp only [List.length_map]
  rw [show a.length + m.length + 1 - a.length = m.length + 1 by omega, List.set_cons_succ, List.set_append_right _ _ (by simp)]
  simp

set_option maxRecDepth 100000 in
set_option maxHeartbeats 1600000 in
theorem run_Reverse (G base n cap : Nat) (xs : List Int) (w : World) (hown : w.ownsRow base 3 1 (.slice (some ⟨G, 0, none⟩) n cap) n (xs.map (Value.int .i64))) (hn : n ≤ 1000000) :
    Calls Try.prog 54 #[.slice (some ⟨G, 0, none⟩) n cap] w fun e w' => e = .returned (.tuple #[]) ∧ Mod (· = G) w w' ∧ w'.ownsRow base 3 1 (.slice (some ⟨G, 0, none⟩) n cap) n (xs.reverse.map (Value.int .i64)) := by
  go_enter Try.func54, Try.ntmps54
  go_wp2
  go_loopw [2, 3] (fun i j wr => ∃ (ii jj : Int) (a m b : List Int), i = .int .i64 ii ∧ j = .int .i64 jj ∧ ii = a.length ∧ jj + 1 = a.length + m.length ∧ a.length = b.length ∧ xs.reverse = a ++ m.reverse ++ b ∧ Mod (· = G) w wr ∧ wr.ownsRow base 3 1 (.slice (some ⟨G, 0, none⟩) n cap) n ((a ++ m ++ b).map (Value.int .i64))) (fun i j _ => (intOf j - intOf i + 1).toNat)
  case atStart => exact ⟨0, (n : Int) - 1, [], xs, [], rfl, rfl, by simp, by have := hown.1; simp at this; simp; omega, rfl, by simp, Mod.refl _ _, by simpa using hown⟩
  case round =>
    obtain ⟨ii, jj, a, m, b, rfl, rfl, hi, hj, hab, hx, hmod, hown1⟩ := hrel
    have hln : a.length + m.length + b.length = n := by have := hown1.1; simp at this; omega
    have HX := Lib.hid hx
    have HAB := Lib.hid hab
    clear hx hab
    by_cases hlt : ii < jj
    · obtain ⟨x, y, m', rfl⟩ : ∃ x y m', m = x :: (m' ++ [y]) := by
        cases m with
        | nil => simp at hj; omega
        | cons x m1 =>
          rcases List.eq_nil_or_concat m1 with rfl | ⟨m', y, rfl⟩
          · simp at hj; omega
          · exact ⟨x, y, m', by rw [List.concat_eq_append]⟩
      obtain rfl : jj = (a.length : Int) + m'.length + 1 := by simp at hj; omega
      subst hi
      have c0 : wr.cell? ⟨G, a.length, none⟩ = some (.int .i64 x) := by
        rw [hown1.cellAt a.length (by simp at hln; omega)]
        simp
      have c1 : wr.cell? ⟨G, a.length + m'.length + 1, none⟩ = some (.int .i64 y) := by
        rw [hown1.cellAt (a.length + m'.length + 1) (by simp at hln; omega)]
        have h1 : ((a ++ (x :: (m' ++ [y])) ++ b).map (Value.int .i64)) = a.map (Value.int .i64) ++ (.int .i64 x :: (m'.map (Value.int .i64) ++ (.int .i64 y :: b.map (Value.int .i64)))) := by simp
        rw [h1, List.getElem?_append_right (by simp; omega), List.length_map, show a.length + m'.length + 1 - a.length = m'.length + 1 by omega, List.getElem?_cons_succ, List.getElem?_append_right (by simp)]
        simp
      have f0 := hown1.frozenAt a.length
      have f1 := hown1.frozenAt (a.length + m'.length + 1)
      have hln2 : a.length + (m'.length + 1 + 1) + b.length = n := by simpa using hln
      have b1 : (0 : Int) ≤ (a.length : Int) := by omega
      have b2 : (a.length : Int) < (n : Int) := by omega
      have b3 : (0 : Int) ≤ (a.length : Int) + m'.length + 1 := by omega
      have b4 : (a.length : Int) + m'.length + 1 < (n : Int) := by omega
      clear hj hln
      go_wp2
      go_region
      have hst := ((hown1.stored a.length (.int .i64 y)).1.stored (a.length + m'.length + 1) (.int .i64 x)).1.drew
      have hmd := ((hmod.setCell (p := ⟨G, a.length, none⟩) (Or.inl rfl) (.int .i64 y)).setCell (p := ⟨G, a.length + m'.length + 1, none⟩) (Or.inl rfl) (.int .i64 x)).drew
      rw [set_swap2] at hst
      generalize ((wr.setCell ⟨G, a.length, none⟩ (.int .i64 y)).setCell ⟨G, a.length + m'.length + 1, none⟩ (.int .i64 x)).drew = wz at hst hmd ⊢
      clear c1 c0 f1 f0 hown1 hmod
      have hx2 : xs.reverse = (a ++ [y]) ++ m'.reverse ++ (x :: b) := by rw [HX.out]; simp
      have HX2 := Lib.hid hx2
      have hab2 : (a ++ [y]).length = (x :: b).length := by simp [HAB.out]
      have HAB2 := Lib.hid hab2
      clear hx2 hab2
      go_wp2
      go_roundw
      case rel => exact ⟨_, _, a ++ [y], m', x :: b, rfl, rfl, by simp, by simp; omega, HAB2.out, HX2.out, hmd, hst⟩
      case measure => simp only [intOf]; omega
    · have hm : m.reverse = m := by
        match m, hj with
        | [], _ => rfl
        | [z], _ => rfl
        | z1 :: z2 :: zs, hj => simp at hj; omega
      have hx := HX.out
      rw [hm] at hx
      rw [← hx] at hown1
      clear hx hm
      go_wp2
      go_end0
      exact ⟨rfl, hmod, by simpa using hown1⟩

end Go.Proofs.Ytonnooenebfbeaa
