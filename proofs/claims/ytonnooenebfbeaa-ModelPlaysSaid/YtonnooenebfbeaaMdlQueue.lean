/- The contract of a model's Queue; slices.Clone over texts. -/
import Derived.Test.YtonnooenebfbeaaMdlOpen
import Derived.Test.YtonnooenebfbeaaSlices
namespace Go.Proofs.Ytonnooenebfbeaa
open Go.RowKit

set_option maxHeartbeats 800000 in
theorem run_CloneS (v : Value) (xs : List ByteArray) (w : World) (hs : SlV w v (xs.map (Value.string))) (hlen : xs.length ≤ 1000000) :
    Calls Try.prog 40 #[v] w fun e w' => ∃ r, e = .returned r ∧ Mod (fun _ => False) w w' ∧ w'.ownsRow w.heap.size 9 1 r xs.length (xs.map (Value.string)) := by
  obtain ⟨a, n, c, rfl, hn, hc, hm, h⟩ := hs
  rw [List.length_map] at hn
  have he := fun (W : World) => Lib.run_eql_slice_nil (P := Try.prog) W 48 9 a n c 0 0 Try.underlying48
  cases a with
  | none =>
    have hx : xs = [] := by
      rcases h with h | ⟨B, off, h, _⟩
      · simpa using h
      · simp at h
    subst hx
    obtain rfl : n = 0 := by simpa using hn.symm
    go_enter Try.func40, Try.ntmps40
    go_wp2
    go_ret
    exact ⟨_, rfl, Mod.refl _ _, World.ownsRow_nil _ _ _ _⟩
  | some ad =>
    obtain ⟨i0, hi, hz0, hz1, hz2⟩ := info_parts info_s
    have hown0 : (w.alloc (.cells #[] 9)).ownsRow w.heap.size 9 1 (.slice (some ⟨w.heap.size, 0, none⟩) 0 0) 0 [] :=
      World.ownsRow_lit w #[] 0 (Nat.le_refl _) (by decide) rfl
    have hcells : ∀ j u, (xs.map (Value.string))[j]? = some u → (w.alloc (.cells #[] 9)).cell? (ad.add j) = some u := by
      intro j u hj
      rcases h with h | ⟨B, off, h1, hB, h2⟩
      · rw [h] at hj; simp at hj
      · obtain rfl := Option.some.inj h1
        have hjl : j < (xs.map (Value.string)).length := by
          rcases Nat.lt_or_ge j (xs.map (Value.string)).length with h' | h'
          · exact h'
          · rw [List.getElem?_eq_none h'] at hj; simp at hj
        have := h2 j hjl
        rw [List.getD_eq_getElem?_getD, hj] at this
        have e : (⟨B, off, none⟩ : Addr).add j = ⟨B, off + j, none⟩ := by
          unfold Addr.add
          split <;> simp_all
        rw [e, World.cell?_alloc_past _ _ _ hB]
        exact this
    have HC := Lib.hid hcells
    clear h hcells
    go_enter Try.func40, Try.ntmps40
    go_wp2_with (at_builtin; refine wpList_append_own _ rfl _ _ 48 rfl w.heap.size 9 i0 (.string ⟨#[]⟩) 1 16 Try.underlying48 hi hz0 hz1 hz2 rfl (by decide) (.slice (some ⟨w.heap.size, 0, none⟩) 0 0) 0 [] rfl hown0 ad n c (xs.map (Value.string)) rfl (by simpa using hn) HC.out (by intro u hu; obtain ⟨x, _, rfl⟩ := List.mem_map.1 hu; rfl) (by unfold maxLen; omega) (by omega) (by simp) ?_; intro v' w1 hown1 hg1 _)
    have hm1 := (Mod.grown0 hg1)
    have hm2 : Mod (fun _ => False) w w1 := ((Mod.refl (fun _ => False) w).alloc (.cells #[] 9)).trans hm1 (fun i hi hs => by have : w.heap.size = i := by simpa [Value.ownBlock] using hs
                                                                                                                              omega)
    rw [Nat.zero_add, List.nil_append] at hown1
    have HO := Lib.hid (hn ▸ hown1)
    clear hown1 hg1 hm1
    go_wp2
    go_ret
    exact ⟨_, rfl, hm2, HO.out⟩


set_option maxRecDepth 100000 in
set_option maxHeartbeats 1600000 in
theorem run_Queue {b bq bu bc : Nat} {f : Int → Int → Value} {c : Cfg} {k : Nat} {Q : Int → Int → List ByteArray} {U : List Int} {C : List Bool} (src dst : Int) (w : World)
    (h : MdlIn w b bq bu bc f c k Q U C) (hk : k ≤ 100000) (hs : (Lit.int .i64 src).wf = true) (hd : (Lit.int .i64 dst).wf = true) :
    Calls Try.prog 21 #[.pointer (some ⟨b, 0, none⟩), .int .i64 src, .int .i64 dst] w fun e w' => ∃ r, e = .returned r ∧ Mod (fun _ => False) w w' ∧ SlV w' r ((Q src dst).map Value.string) := by
  obtain ⟨c0, c1, c2, c3, c4, c5, c6, c7, c8, c9, c10, c11⟩ := mdl_cells h
  have hlk := h.map.lookup hs hd
  have HQ := Lib.hid (h.qs src dst).slv
  have HK := Lib.hid (h.qk src dst)
  clear h
  generalize f src dst = q at hlk HQ
  go_enter Try.func21, Try.ntmps21
  go_wp2_with fail
  refine (run_CloneS q (Q src dst) _ HQ.out (by have := HK.out; omega)).mono ?_
  rintro e w1 ⟨r, rfl, m1, ho⟩
  have HO := Lib.hid (SlV.own ho)
  clear ho hlk
  go_wp2
  go_ret
  exact ⟨_, rfl, m1, HO.out⟩

end Go.Proofs.Ytonnooenebfbeaa
