/- A queue of texts as a slice that may begin in the midst of its block: appended to, its head taken. -/
import Derived.Test.YtonnooenebfbeaaMapV
import Derived.Test.YtonnooenebfbeaaGrow
import Derived.ArgAppend
namespace Go.Proofs.Ytonnooenebfbeaa
open Go.RowKit

theorem info_s : (Try.prog.info? 9).map (fun i => (i.zero, i.size, i.bytes)) = some (some (.string ⟨#[]⟩), 1, 16) := by kernel_rfl

def qblk : Value → Option Nat
  | .slice (some a) _ _ => some a.block
  | _ => none

/-- v is a queue of the texts xs. -/
def QS (w : World) (v : Value) (xs : List ByteArray) : Prop :=
  (v = .slice none 0 0 ∧ xs = []) ∨
  ∃ g o n cp cur, v = .slice (some ⟨g, o, none⟩) n cp ∧ w.heap[g]? = some (.cells cur 9 (0, 0)) ∧ xs.length = n ∧ n ≤ cp ∧ cp ≤ 9223372036854775807 ∧ o + cp ≤ cur.size ∧ ∀ j x, xs[j]? = some x → cur[o + j]? = some (.string x)

theorem QS.nil (w : World) : QS w (.slice none 0 0) [] := Or.inl ⟨rfl, rfl⟩
theorem QS.lt {w : World} {v : Value} {xs : List ByteArray} (h : QS w v xs) {g : Nat} (hg : qblk v = some g) : g < w.heap.size := by
  rcases h with ⟨rfl, -⟩ | ⟨g', o, n, cp, cur, rfl, hh, -⟩
  · simp [qblk] at hg
  · simp [qblk] at hg
    subst hg
    exact (Array.getElem?_eq_some_iff.1 hh).1
theorem QS.later {w w' : World} {v : Value} {xs : List ByteArray} (h : QS w v xs) {S : Nat → Prop} (m : Mod S w w') (hS : ∀ g, qblk v = some g → ¬ S g) : QS w' v xs := by
  rcases h with h | ⟨g, o, n, cp, cur, rfl, hh, r⟩
  · exact Or.inl h
  · exact Or.inr ⟨g, o, n, cp, cur, rfl, (m.block g (Array.getElem?_eq_some_iff.1 hh).1 (hS g rfl)).trans hh, r⟩
theorem QS.slv {w : World} {v : Value} {xs : List ByteArray} (h : QS w v xs) : SlV w v (xs.map Value.string) := by
  rcases h with ⟨rfl, rfl⟩ | ⟨g, o, n, cp, cur, rfl, hh, hn, hc, hm, hs, hx⟩
  · exact ⟨_, _, _, rfl, rfl, Nat.le_refl _, by decide, Or.inl rfl⟩
  · refine ⟨_, _, _, rfl, by simpa using hn, hc, by unfold maxLen; omega, Or.inr ⟨g, o, rfl, (Array.getElem?_eq_some_iff.1 hh).1, fun j hj => ?_⟩⟩
    simp only [List.length_map] at hj
    have := hx j xs[j] (List.getElem?_eq_getElem hj)
    simp only [World.cell?, hh, Option.isSome_none, Bool.false_eq_true, if_false]
    rw [this]
    simp [List.getD_eq_getElem?_getD, hj]

/-- 'append(v, x)'. -/
theorem QS.append {w : World} {v : Value} {xs : List ByteArray} (h : QS w v xs) {L : Nat} {data : ByteArray} (hL : w.cell? ⟨L, 0, none⟩ = some (.string data)) (hxl : xs.length ≤ 1000000) (ty : TypeId) :
    ∃ v' w', (Builtin.append_ #[48, 48] ty #[v, .slice (some ⟨L, 0, none⟩) 1 1]).run Try.prog w = .ok v' w' ∧ QS w' v' (xs ++ [data]) ∧ (∃ g', qblk v' = some g' ∧ (qblk v = some g' ∨ w.heap.size ≤ g')) ∧ Mod (fun k => qblk v = some k) w w' := by
  obtain ⟨i, hi, hz, hsize, hby⟩ := info_parts info_s
  have hnews : ∀ j u, [Value.string data][j]? = some u → w.cell? ((⟨L, 0, none⟩ : Addr).add j) = some u := by
    intro j u hj
    match j, hj with
    | 0, hj => simp at hj; subst hj; simpa [Addr.add] using hL
  have own_qs : ∀ {w' : World} {v' : Value} {ys : List ByteArray} {base : Nat}, w'.ownsRow base 9 1 v' ys.length (ys.map Value.string) → QS w' v' ys := by
    intro w' v' ys base ho
    rcases ho.2 with ⟨rfl, h0⟩ | ⟨g, cap, cur, rfl, hb, hh, hc, hm, hs, ht⟩
    · exact Or.inl ⟨rfl, List.eq_nil_of_length_eq_zero h0⟩
    · refine Or.inr ⟨g, 0, _, cap, cur, rfl, hh, rfl, hc, by unfold maxLen at hm; omega, by omega, fun j x hj => ?_⟩
      have hjl : j < ys.length := (List.getElem?_eq_some_iff.1 hj).1
      have h1 := congrArg (fun l => l[j]?) ht
      simp only [List.getElem?_take, List.getElem?_map, hj] at h1
      rw [if_pos (by omega)] at h1
      simpa using h1
  rcases h with ⟨rfl, rfl⟩ | ⟨g, o, n, cp, cur, rfl, hh, hn, hc, hm, hs, hx⟩
  · obtain ⟨v', w', hr, ho, hgr, hnn⟩ := run_append_own (P := Try.prog) w w.heap.size 48 ty 9 i (.string ⟨#[]⟩) 1 16 Try.underlying48 hi hz hsize hby rfl (by decide) (.slice none 0 0) 0 [] (World.ownsRow_nil _ _ _ _)
      ⟨L, 0, none⟩ 1 1 [.string data] rfl hnews (by simp [Value.oneCell']) (by decide) (by decide) (Nat.le_refl _)
    refine ⟨v', w', hr, own_qs (base := w.heap.size) (by simpa using ho), ?_, (Mod.refl _ w).grown hgr (fun k hk => by cases hk)⟩
    rcases ho.2 with ⟨rfl, h0⟩ | ⟨g', cap', cur', rfl, hb, -⟩
    · omega
    · exact ⟨g', rfl, Or.inr hb⟩
  · by_cases hroom : n + 1 ≤ cp
    · have hg := (Array.getElem?_eq_some_iff.1 hh).1
      have hr := run_append_room_cells (P := Try.prog) w 48 ty 9 i Try.underlying48 hi g o n cp ⟨L, 0, none⟩ 1 1 [.string data] (by rw [hsize]; rfl) hnews (by simp [Value.oneCell']) hroom
        (by intro j hj; simp at hj; subst hj; simp only [World.cell?, hh, hsize]; simp; omega) (by intro j hj; simp [World.frozen?, hh])
      refine ⟨_, _, hr, Or.inr ⟨g, o, n + 1, cp, cur.setIfInBounds (o + n) (.string data), rfl, ?_, by simp [hn], hroom, hm, by simpa using hs, ?_⟩, ⟨g, rfl, Or.inl rfl⟩, ?_⟩
      · rw [hsize, Nat.mul_one]
        simp only [World.setCells]
        simp [World.setCell, Array.getElem?_modify, hh]
      · intro j x hj
        rw [Array.getElem?_setIfInBounds]
        by_cases hjn : j = n
        · subst hjn
          rw [if_pos rfl, if_pos (by omega)]
          rw [List.getElem?_append_right (by omega), hn, Nat.sub_self] at hj
          simp at hj
          rw [hj]
        · rw [if_neg (by omega)]
          have hjl : j < n := by
            have := (List.getElem?_eq_some_iff.1 hj).1
            simp at this
            omega
          rw [List.getElem?_append_left (by omega)] at hj
          exact hx j x hj
      · rw [hsize, Nat.mul_one]
        exact (Mod.refl (fun k => qblk (.slice (some ⟨g, o, none⟩) n cp) = some k) w).setCell (p := ⟨g, o + n, none⟩) (Or.inl rfl) (.string data)
    · obtain ⟨v', w', hr, ho, hgr⟩ := run_append_arg_grows (P := Try.prog) w 48 ty 9 i (.string ⟨#[]⟩) 1 16 Try.underlying48 hi hz hsize hby rfl (by decide) ⟨g, o, none⟩ n cp (xs.map Value.string) (by simpa using hn)
        (by
          intro j u hj
          rw [List.getElem?_map] at hj
          cases hxj : xs[j]? with
          | none => rw [hxj] at hj; cases hj
          | some x =>
            rw [hxj] at hj
            simp at hj
            subst hj
            have e : (⟨g, o, none⟩ : Addr).add j = ⟨g, o + j, none⟩ := by
              unfold Addr.add
              split <;> simp_all
            rw [e]
            simp only [World.cell?, hh, Option.isSome_none, Bool.false_eq_true, if_false]
            exact hx j x hxj)
        ⟨L, 0, none⟩ 1 1 [.string data] rfl hnews (by omega) (by unfold maxLen; omega) (by omega)
      refine ⟨v', w', hr, ?_, ?_, (Mod.refl _ w).grown hgr (fun k hk => by cases hk)⟩
      · refine own_qs (base := w.heap.size) ?_
        rw [List.length_append, List.map_append, hn]
        exact ho
      · rcases ho.2 with ⟨rfl, h0⟩ | ⟨g', cap', cur', rfl, hb, -⟩
        · omega
        · exact ⟨g', rfl, Or.inr hb⟩

/-- 'v[1:]' of a queue that is not empty. -/
theorem QS.rest {w : World} {g o n cp : Nat} {x : ByteArray} {xs : List ByteArray} (h : QS w (.slice (some ⟨g, o, none⟩) n cp) (x :: xs)) (a : Option Addr) (ha : a = if cp = 1 then some ⟨g, o, none⟩ else some ⟨g, o + 1, none⟩) : QS w (.slice a (n - 1) (cp - 1)) xs ∧ qblk (.slice a (n - 1) (cp - 1)) = some g := by
  rcases h with ⟨h, -⟩ | ⟨g', o', n', cp', cur, hv, hh, hn, hc, hm, hs, hx⟩
  · cases h
  · simp only [Value.slice.injEq, Option.some.injEq, Addr.mk.injEq, and_true] at hv
    obtain ⟨⟨rfl, rfl⟩, rfl, rfl⟩ := hv
    simp only [List.length_cons] at hn
    subst ha
    by_cases h1 : cp = 1
    · rw [if_pos h1]
      refine ⟨Or.inr ⟨g, o, n - 1, cp - 1, cur, rfl, hh, by omega, by omega, by omega, by omega, fun j y hj => ?_⟩, rfl⟩
      have := (List.getElem?_eq_some_iff.1 hj).1
      omega
    · rw [if_neg h1]
      refine ⟨Or.inr ⟨g, o + 1, n - 1, cp - 1, cur, rfl, hh, by omega, by omega, by omega, by omega, fun j y hj => ?_⟩, rfl⟩
      rw [show o + 1 + j = o + (j + 1) by omega]
      exact hx (j + 1) y hj

end Go.Proofs.Ytonnooenebfbeaa
