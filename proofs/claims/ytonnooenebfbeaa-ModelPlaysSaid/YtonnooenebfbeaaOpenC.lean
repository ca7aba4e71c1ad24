/- Arguments opened: a config by value, a row of numbers. -/
import Derived.Test.YtonnooenebfbeaaOpen
import Derived.Test.YtonnooenebfbeaaCfg
namespace Go.Proofs.Ytonnooenebfbeaa
open Go.ChangeShapes Go.WideShapes Go.ChangeAt Go.RowKit Go.Deep

theorem take1_drop {α : Type} {l : List α} {i : Nat} {x : α} (h : (l.drop i).take 1 = [x]) : l[i]? = some x := by
  have h0 : ((l.drop i).take 1)[0]? = some x := by rw [h]; rfl
  simpa using h0

section
variable {H : Type} {enc : TypeId × Value → H} {P : Program} {W : World} {v : Value} {d : DataW H} {p : List MemPlace} {t e q : TypeId}

theorem open_intsV (hv : ∃ a n c, v = .slice a n c) (ht : P.underlying t = some (.slice e)) (he : P.underlying e = some (.int .i64)) (hc : P.cellsOf e = 1) (h : DataW.Trod enc P W 0 (fun _ => true) true t v d p) :
    ∃ l : List Int, SlV W v (l.map (Value.int .i64)) ∧ l.length ≤ maxLen ∧ ∀ n ∈ l, (Lit.int .i64 n).wf = true := by
  obtain ⟨a, n, c, rfl⟩ := hv
  obtain ⟨fuel, hf⟩ := h
  rcases open_ints ht he hc hf with ⟨hcs, _⟩ | ⟨a', len, cap, zs, hcs, _, hl, hm, hz, _, hcell, hw⟩
  · simp [Value.cells] at hcs
    obtain ⟨rfl, rfl, rfl⟩ := hcs
    exact ⟨[], ⟨_, _, _, rfl, rfl, by simp, by simp, Or.inl rfl⟩, Nat.zero_le _, by simp⟩
  · simp [Value.cells] at hcs
    obtain ⟨rfl, rfl, rfl⟩ := hcs
    simp only [if_true] at hz
    refine ⟨zs.take n, SlV.of_cells _ (by simp; omega) hl hm (fun i hi => ?_), by simp; omega, fun x hx => hw x (List.mem_of_mem_take hx)⟩
    rw [hcell i (by omega)]
    have : i < zs.length := by omega
    simp [List.getD_eq_getElem?_getD, List.getElem?_take, hi, this]

theorem open_cfg {fs : Array Field} {ti tb : TypeId} (ht : P.underlying t = some (.struct fs)) (hfs : fs.toList.map (fun f => (f.type, f.offset)) = [(ti, 0), (ti, 1), (ti, 2), (ti, 3), (ti, 4), (ti, 5), (ti, 6), (tb, 7), (tb, 8)])
    (hti : P.underlying ti = some (.int .i64)) (htb : P.underlying tb = some .bool) (hci : P.cellsOf ti = 1) (hcb : P.cellsOf tb = 1) (hct : P.cellsOf t = 9)
    {r : Reach} {b0 : Nat} (hval : Value.okWide P W r b0 t v) (h : DataW.Trod enc P W 0 (fun _ => true) true t v d p) : ∃ c : Cfg, v = .agg c.cells := by
  obtain ⟨cs, rfl, hsz⟩ := okWide_struct ht hval
  obtain ⟨fuel, hf⟩ := h
  obtain ⟨xs, n, -, -, -, hlen, hx⟩ := DataW.trod_struct ht hf
  have hfl : fs.size = 9 := by have := congrArg List.length hfs; simpa using this
  have field : ∀ (i : Nat) (u : TypeId) (o : Nat), ([(ti, 0), (ti, 1), (ti, 2), (ti, 3), (ti, 4), (ti, 5), (ti, 6), (tb, 7), (tb, 8)] : List (TypeId × Nat))[i]? = some (u, o) → ∃ y, DataW.trod enc P W 0 (fun _ => true) true n u ((cs.toList.drop o).take (P.cellsOf u)) = some y := by
    intro i u o hi
    rw [← hfs] at hi
    simp only [List.getElem?_map, Option.map_eq_some_iff, Prod.mk.injEq] at hi
    obtain ⟨f, hf1, rfl, rfl⟩ := hi
    have h1 := hx i f (by simpa using hf1)
    have hil : i < fs.size := by
      rcases Nat.lt_or_ge i fs.size with h | h
      · exact h
      · rw [List.getElem?_eq_none (by simpa using h)] at hf1
        cases hf1
    have : xs[i]? = some (xs[i]'(by omega)) := List.getElem?_eq_getElem (by omega)
    rw [this] at h1
    exact ⟨_, h1⟩
  have num : ∀ (i : Nat), i < 7 → ∃ a : Int, cs.toList[i]? = some (.int .i64 a) := by
    intro i hi
    obtain ⟨y, hy⟩ := field i ti i (by
      match i, hi with
      | 0, _ => rfl
      | 1, _ => rfl
      | 2, _ => rfl
      | 3, _ => rfl
      | 4, _ => rfl
      | 5, _ => rfl
      | 6, _ => rfl)
    rw [hci] at hy
    obtain ⟨a, ha, -⟩ := DataW.trod_int hti hy
    exact ⟨a, take1_drop ha⟩
  have boo : ∀ (i : Nat), 7 ≤ i → i < 9 → ∃ a : Bool, cs.toList[i]? = some (.bool a) := by
    intro i hi hi2
    obtain ⟨y, hy⟩ := field i tb i (by
      match i, hi, hi2 with
      | 7, _, _ => rfl
      | 8, _, _ => rfl)
    rw [hcb] at hy
    obtain ⟨a, ha, -⟩ := DataW.trod_bool htb hy
    exact ⟨a, take1_drop ha⟩
  obtain ⟨a0, h0⟩ := num 0 (by omega)
  obtain ⟨a1, h1⟩ := num 1 (by omega)
  obtain ⟨a2, h2⟩ := num 2 (by omega)
  obtain ⟨a3, h3⟩ := num 3 (by omega)
  obtain ⟨a4, h4⟩ := num 4 (by omega)
  obtain ⟨a5, h5⟩ := num 5 (by omega)
  obtain ⟨a6, h6⟩ := num 6 (by omega)
  obtain ⟨a7, h7⟩ := boo 7 (by omega) (by omega)
  obtain ⟨a8, h8⟩ := boo 8 (by omega) (by omega)
  refine ⟨⟨a0, a1, a2, a3, a4, a5, a6, a7, a8⟩, ?_⟩
  have hl : cs.toList.length = 9 := by rw [← hct, ← hsz]; simp
  have : cs.toList = [.int .i64 a0, .int .i64 a1, .int .i64 a2, .int .i64 a3, .int .i64 a4, .int .i64 a5, .int .i64 a6, .bool a7, .bool a8] := by
    apply List.ext_getElem?
    intro i
    match i with
    | 0 => exact h0
    | 1 => exact h1
    | 2 => exact h2
    | 3 => exact h3
    | 4 => exact h4
    | 5 => exact h5
    | 6 => exact h6
    | 7 => exact h7
    | 8 => exact h8
    | i + 9 => rw [List.getElem?_eq_none (by omega)]; rfl
  have e : cs = cs.toList.toArray := by simp
  rw [e, this]
end

end Go.Proofs.Ytonnooenebfbeaa
