/- The arguments of the statements, opened: what a walk is told of them. -/
import Derived.Test.YtonnooenebfbeaaBase
import Derived.ProofKit
import Derived.OpenShut
import Derived.Carry
import Derived.Deep.Grids
namespace Go.Proofs.Ytonnooenebfbeaa
open Go.ChangeShapes Go.WideShapes Go.ChangeAt Go.RowKit Go.Deep

theorem add_none (B off j : Nat) : (⟨B, off, none⟩ : Addr).add j = ⟨B, off + j, none⟩ := by
  unfold Addr.add
  split <;> simp_all

theorem SlV.of_cells {w : World} {a : Addr} {len : Nat} (cap : Nat) {xs : List Value} (hl : xs.length = len) (hc : len ≤ cap) (hm : cap ≤ maxLen) (h : ∀ i, i < len → w.cell? (a.add i) = some (xs.getD i undef)) : SlV w (.slice (some a) len cap) xs := by
  refine ⟨_, _, cap, rfl, hl, hc, hm, ?_⟩
  cases xs with
  | nil => exact Or.inl rfl
  | cons x xs =>
    right
    have h0 := h 0 (by rw [← hl]; simp)
    obtain ⟨B, off, sp⟩ := a
    cases sp with
    | some s => simp [Addr.add, World.cell?] at h0; split at h0 <;> simp at h0
    | none => exact ⟨B, off, rfl, World.block_lt_of_cell? _ _ h0, fun j hj => by have := h j (by rw [← hl]; exact hj); rwa [add_none] at this⟩

section
variable {H : Type} {enc : TypeId × Value → H} {P : Program} {W : World} {v : Value} {d : DataW H} {p : List MemPlace} {t e q : TypeId}

theorem open_boolsV (hv : ∃ a n c, v = .slice a n c) (ht : P.underlying t = some (.slice e)) (he : P.underlying e = some .bool) (hc : P.cellsOf e = 1) (h : DataW.Trod enc P W 0 (fun _ => true) true t v d p) :
    ∃ l : List Bool, SlV W v (l.map Value.bool) ∧ l.length ≤ maxLen := by
  obtain ⟨a, n, c, rfl⟩ := hv
  obtain ⟨fuel, hf⟩ := h
  rcases open_bools ht he hc hf with ⟨hcs, _⟩ | ⟨a', len, cap, B, hcs, _, hl, hm, _, hcell⟩
  · simp [Value.cells] at hcs
    obtain ⟨rfl, rfl, rfl⟩ := hcs
    exact ⟨[], ⟨_, _, _, rfl, rfl, by simp, by simp, Or.inl rfl⟩, Nat.zero_le _⟩
  · simp [Value.cells] at hcs
    obtain ⟨rfl, rfl, rfl⟩ := hcs
    refine ⟨(List.range n).map B, SlV.of_cells _ (by simp) hl hm (fun i hi => ?_), by simp; omega⟩
    rw [hcell i (by omega)]
    simp [List.getD_eq_getElem?_getD, hi]

theorem open_boolRowsV (hv : ∃ a n c, v = .slice a n c) (ht : P.underlying t = some (.slice e)) (he : P.underlying e = some (.slice q)) (hq : P.underlying q = some .bool) (hc : P.cellsOf e = 1) (hc' : P.cellsOf q = 1)
    (h : DataW.Trod enc P W 0 (fun _ => true) true t v d p) :
    ∃ (vs : List Value) (l : List (List Bool)), SlV W v vs ∧ vs.length ≤ maxLen ∧ l.length = vs.length ∧ ∀ i, i < vs.length → SlV W (vs.getD i undef) ((l.getD i []).map Value.bool) ∧ (l.getD i []).length ≤ maxLen := by
  obtain ⟨a, n, c, rfl⟩ := hv
  obtain ⟨fuel, hf⟩ := h
  rcases open_bool_rows ht he hq hc hc' hf with ⟨hcs, _⟩ | ⟨a', len, cap, A, L, C, B, hcs, _, hl, hm, _, hcell⟩
  · simp [Value.cells] at hcs
    obtain ⟨rfl, rfl, rfl⟩ := hcs
    exact ⟨[], [], ⟨_, _, _, rfl, rfl, by simp, by simp, Or.inl rfl⟩, Nat.zero_le _, rfl, fun i hi => by simp at hi⟩
  · simp [Value.cells] at hcs
    obtain ⟨rfl, rfl, rfl⟩ := hcs
    refine ⟨(List.range n).map fun r => .slice (A r) (L r) (C r), (List.range n).map fun r => (List.range (L r)).map (B r), SlV.of_cells _ (by simp) hl hm (fun i hi => ?_), by simp; omega, by simp, fun i hi => ?_⟩
    · rw [(hcell i (by omega)).1]
      simp [List.getD_eq_getElem?_getD, hi]
    · have hi : i < n := by simpa using hi
      obtain ⟨h1, h2, h3, h4, h5⟩ := hcell i (by omega)
      have e1 : ((List.range n).map fun r => (List.range (L r)).map (B r)).getD i [] = (List.range (L i)).map (B i) := by simp [List.getD_eq_getElem?_getD, hi]
      have e2 : ((List.range n).map fun r => Value.slice (A r) (L r) (C r)).getD i undef = .slice (A i) (L i) (C i) := by simp [List.getD_eq_getElem?_getD, hi]
      rw [e1, e2]
      refine ⟨?_, by simp; omega⟩
      cases hA : A i with
      | none =>
        have := h4 hA
        have h0 : L i = 0 := by omega
        rw [h0]
        exact ⟨_, _, _, rfl, rfl, by simp, h3, Or.inl rfl⟩
      | some a2 =>
        refine SlV.of_cells _ (by simp) h2 h3 (fun j hj => ?_)
        rw [(h5 a2 hA).2 j (by omega)]
        simp [List.getD_eq_getElem?_getD, hj]
end

end Go.Proofs.Ytonnooenebfbeaa
