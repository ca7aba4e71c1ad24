/- Arguments opened: a call of a model (four numbers, a row of numbers, a text). -/
import Derived.Test.YtonnooenebfbeaaOpenC
namespace Go.Proofs.Ytonnooenebfbeaa
open Go.ChangeShapes Go.WideShapes Go.ChangeAt Go.RowKit Go.Deep

section
variable {H : Type} {enc : TypeId × Value → H} {P : Program} {W : World} {v : Value} {d : DataW H} {p : List MemPlace} {t e q : TypeId}

theorem open_call {fs : Array Field} {ti tl ts : TypeId} (ht : P.underlying t = some (.struct fs)) (hfs : fs.toList.map (fun f => (f.type, f.offset)) = [(ti, 0), (ti, 1), (ti, 2), (ti, 3), (tl, 4), (ts, 5)])
    (hti : P.underlying ti = some (.int .i64)) (htl : P.underlying tl = some (.slice ti)) (hts : P.underlying ts = some .string) (hci : P.cellsOf ti = 1) (hcl : P.cellsOf tl = 1) (hcs : P.cellsOf ts = 1) (hct : P.cellsOf t = 6)
    {r : Reach} {b0 : Nat} (hval : Value.okWide P W r b0 t v) (h : DataW.Trod enc P W 0 (fun _ => true) true t v d p) :
    ∃ (k a b n : Int) (s : Value) (l : List Int) (data : ByteArray), v = .agg #[.int .i64 k, .int .i64 a, .int .i64 b, .int .i64 n, s, .string data] ∧ SlV W s (l.map (Value.int .i64)) ∧ (∀ x ∈ [k, a, b, n], (Lit.int .i64 x).wf = true) ∧ data.size ≤ maxLen := by
  obtain ⟨cs, rfl, hsz⟩ := okWide_struct ht hval
  obtain ⟨fuel, hf⟩ := h
  obtain ⟨xs, m, -, -, -, hlen, hx⟩ := DataW.trod_struct ht hf
  have hfl : fs.size = 6 := by have := congrArg List.length hfs; simpa using this
  have field : ∀ (i : Nat) (u : TypeId) (o : Nat), ([(ti, 0), (ti, 1), (ti, 2), (ti, 3), (tl, 4), (ts, 5)] : List (TypeId × Nat))[i]? = some (u, o) → ∃ y, DataW.trod enc P W 0 (fun _ => true) true m u ((cs.toList.drop o).take (P.cellsOf u)) = some y := by
    intro i u o hi
    rw [← hfs] at hi
    simp only [List.getElem?_map, Option.map_eq_some_iff, Prod.mk.injEq] at hi
    obtain ⟨f, hf1, rfl, rfl⟩ := hi
    have h1 := hx i f (by simpa using hf1)
    have hil : i < fs.size := by
      rcases Nat.lt_or_ge i fs.size with h | h
      · exact h
      · rw [List.getElem?_eq_none (by simpa using h)] at hf1
        cases hf1
    have : xs[i]? = some (xs[i]'(by omega)) := List.getElem?_eq_getElem (by omega)
    rw [this] at h1
    exact ⟨_, h1⟩
  have num : ∀ (i : Nat), i < 4 → ∃ a : Int, cs.toList[i]? = some (.int .i64 a) ∧ (Lit.int .i64 a).wf = true := by
    intro i hi
    obtain ⟨y, hy⟩ := field i ti i (by
      match i, hi with
      | 0, _ => rfl
      | 1, _ => rfl
      | 2, _ => rfl
      | 3, _ => rfl)
    rw [hci] at hy
    obtain ⟨a, ha, -, hw⟩ := DataW.trod_int hti hy
    exact ⟨a, take1_drop ha, hw⟩
  obtain ⟨a0, h0, w0⟩ := num 0 (by omega)
  obtain ⟨a1, h1, w1⟩ := num 1 (by omega)
  obtain ⟨a2, h2, w2⟩ := num 2 (by omega)
  obtain ⟨a3, h3, w3⟩ := num 3 (by omega)
  obtain ⟨y5, hy5⟩ := field 5 ts 5 rfl
  rw [hcs] at hy5
  obtain ⟨s5, e5, -, l5⟩ := DataW.trod_string hts hy5
  have h5 := take1_drop e5
  obtain ⟨y4, hy4⟩ := field 4 tl 4 rfl
  rw [hcl] at hy4
  have h4 : ∃ (s : Value) (l : List Int), cs.toList[4]? = some s ∧ SlV W s (l.map (Value.int .i64)) := by
    rcases open_ints htl hti hci hy4 with ⟨e4, -⟩ | ⟨a', len, cap, zs, e4, -, hl, hm, hz, -, hcell, -⟩
    · exact ⟨_, [], take1_drop e4, ⟨_, _, _, rfl, rfl, by simp, by simp, Or.inl rfl⟩⟩
    · simp only [if_true] at hz
      refine ⟨_, zs.take len, take1_drop e4, SlV.of_cells _ (by simp; omega) hl hm (fun i hi => ?_)⟩
      rw [hcell i (by omega)]
      have : i < zs.length := by omega
      simp [List.getD_eq_getElem?_getD, List.getElem?_take, hi, this]
  obtain ⟨sv, ls, h4, hs4⟩ := h4
  refine ⟨a0, a1, a2, a3, sv, ls, s5, ?_, hs4, ?_, l5⟩
  · have hl : cs.toList.length = 6 := by rw [← hct, ← hsz]; simp
    have : cs.toList = [.int .i64 a0, .int .i64 a1, .int .i64 a2, .int .i64 a3, sv, .string s5] := by
      apply List.ext_getElem?
      intro i
      match i with
      | 0 => exact h0
      | 1 => exact h1
      | 2 => exact h2
      | 3 => exact h3
      | 4 => exact h4
      | 5 => exact h5
      | i + 6 => rw [List.getElem?_eq_none (by omega)]; rfl
    have e : cs = cs.toList.toArray := by simp
    rw [e, this]
  · intro x hx
    simp at hx
    rcases hx with rfl | rfl | rfl | rfl <;> assumption
end

end Go.Proofs.Ytonnooenebfbeaa
