/- Plain data of any shape that came in: numbers, bools, texts, slices, arrays, structs; opened once for all shapes. -/
import Derived.Test.YtonnooenebfbeaaOpenC
namespace Go.Proofs.Ytonnooenebfbeaa
open Go.ChangeShapes Go.WideShapes Go.ChangeAt Go.RowKit Go.Deep

/-- The shape of plain data. A struct is a chain of pairs that ends in unit. -/
inductive Ty where
  | int | bool | str
  | slice (e : Ty)
  | arr (n : Nat) (e : Ty)
  | unit
  | pair (a b : Ty)

def Dat : Ty → Type
  | .int => Int
  | .bool => Bool
  | .str => ByteArray
  | .slice e => List (Dat e)
  | .arr _ e => List (Dat e)
  | .unit => Unit
  | .pair a b => Dat a × Dat b

def Dat.any : (t : Ty) → Dat t
  | .int => (0 : Int)
  | .bool => false
  | .str => ByteArray.empty
  | .slice e => ([] : List (Dat e))
  | .arr _ e => ([] : List (Dat e))
  | .unit => ()
  | .pair a b => (Dat.any a, Dat.any b)

def width : Ty → Nat
  | .int => 1
  | .bool => 1
  | .str => 1
  | .slice _ => 1
  | .arr n e => n * width e
  | .unit => 0
  | .pair a b => width a + width b

/-- The cells cs read as the data; all rows lie in blocks below B. -/
def Rd (w : World) (B : Nat) : (t : Ty) → Dat t → List Value → Prop
  | .int, n, cs => cs = [.int .i64 n] ∧ (Lit.int .i64 n).wf = true
  | .bool, b, cs => cs = [.bool b]
  | .str, s, cs => cs = [.string s] ∧ ByteArray.size s ≤ maxLen
  | .slice e, l, cs => ∃ a n c, cs = [.slice a n c] ∧ List.length l = n ∧ n ≤ c ∧ c ≤ maxLen ∧ (l = ([] : List (Dat e)) ∨ ∃ g off, a = some ⟨g, off, none⟩ ∧ g < B ∧
      ∀ (j : Nat) (x : Dat e), (show List (Dat e) from l)[j]? = some x → ∃ ccs : List Value, ccs.length = width e ∧ (∀ i, i < width e → w.cell? ⟨g, off + j * width e + i, none⟩ = ccs[i]?) ∧ Rd w B e x ccs)
  | .arr n e, l, cs => List.length l = n ∧ cs.length = n * width e ∧ ∀ (j : Nat) (x : Dat e), (show List (Dat e) from l)[j]? = some x → Rd w B e x ((cs.drop (j * width e)).take (width e))
  | .unit, _, cs => cs = []
  | .pair a b, (x, y), cs => ∃ c1 c2, cs = c1 ++ c2 ∧ c1.length = width a ∧ Rd w B a x c1 ∧ Rd w B b y c2

theorem Rd.later {w w' : World} {B : Nat} {S : Nat → Prop} (m : Mod S w w') (hB : B ≤ w.heap.size) (hS : ∀ g, g < B → ¬ S g) : (t : Ty) → (d : Dat t) → (cs : List Value) → Rd w B t d cs → Rd w' B t d cs
  | .int, _, _, h => h
  | .bool, _, _, h => h
  | .str, _, _, h => h
  | .slice e, l, cs, h => by
    obtain ⟨a, n, c, h1, h2, h3, h4, h5⟩ := h
    refine ⟨a, n, c, h1, h2, h3, h4, ?_⟩
    rcases h5 with h5 | ⟨g, off, h5, h6, h7⟩
    · exact Or.inl h5
    · refine Or.inr ⟨g, off, h5, h6, fun j x hx => ?_⟩
      obtain ⟨ccs, h8, h9, h10⟩ := h7 j x hx
      exact ⟨ccs, h8, fun i hi => (m.cell (p := ⟨g, off + j * width e + i, none⟩) (Nat.lt_of_lt_of_le h6 hB) (hS g h6)).trans (h9 i hi), Rd.later m hB hS e x ccs h10⟩
  | .arr n e, l, cs, h => by
    obtain ⟨h1, h2, h3⟩ := h
    exact ⟨h1, h2, fun j x hx => Rd.later m hB hS e x _ (h3 j x hx)⟩
  | .unit, _, _, h => h
  | .pair a b, (x, y), cs, h => by
    obtain ⟨c1, c2, h1, h2, h3, h4⟩ := h
    exact ⟨c1, c2, h1, h2, Rd.later m hB hS a x c1 h3, Rd.later m hB hS b y c2 h4⟩

theorem Rd.length {w : World} {B : Nat} : (t : Ty) → (d : Dat t) → (cs : List Value) → Rd w B t d cs → cs.length = width t
  | .int, _, _, h => by rw [h.1]; rfl
  | .bool, _, _, h => by rw [show _ = _ from h]; rfl
  | .str, _, _, h => by rw [h.1]; rfl
  | .slice e, l, cs, h => by
    obtain ⟨a, n, c, h1, -⟩ := h
    rw [h1]; rfl
  | .arr n e, l, cs, h => h.2.1
  | .unit, _, _, h => by rw [show _ = _ from h]; rfl
  | .pair a b, (x, y), cs, h => by
    obtain ⟨c1, c2, h1, h2, h3, h4⟩ := h
    rw [h1, List.length_append, h2, Rd.length b y c2 h4]; rfl

/-- Does a type of the program have this shape? (For a struct: do its fields, from an offset on?) -/
def fc (P : Program) : Ty → (TypeId → Bool) × (List (TypeId × Nat) → Nat → Bool)
  | .int => (fun t => (match P.underlying t with | some (.int .i64) => true | _ => false) && P.cellsOf t == 1, fun _ _ => false)
  | .bool => (fun t => (match P.underlying t with | some .bool => true | _ => false) && P.cellsOf t == 1, fun _ _ => false)
  | .str => (fun t => (match P.underlying t with | some .string => true | _ => false) && P.cellsOf t == 1, fun _ _ => false)
  | .slice e => (fun t => (match P.underlying t with | some (.slice u) => (fc P e).1 u && decide (0 < width e) | _ => false) && P.cellsOf t == 1, fun _ _ => false)
  | .arr n e => (fun t => (match P.underlying t with | some (.array m u) => m == n && (fc P e).1 u | _ => false) && P.cellsOf t == n * width e, fun _ _ => false)
  | .unit => (fun t => (match P.underlying t with | some (.struct fs) => fs.size == 0 | _ => false) && P.cellsOf t == 0, fun l _ => l.isEmpty)
  | .pair a b =>
    let ch : List (TypeId × Nat) → Nat → Bool := fun l off => match l with | (u, o) :: r => o == off && (fc P a).1 u && (fc P b).2 r (off + width a) | [] => false
    (fun t => (match P.underlying t with | some (.struct fs) => ch (fs.toList.map fun f => (f.type, f.offset)) 0 | _ => false) && P.cellsOf t == width a + width b, ch)

theorem fc_width (P : Program) (ty : Ty) (t : TypeId) (h : (fc P ty).1 t = true) : P.cellsOf t = width ty := by
  cases ty <;> (simp only [fc, Bool.and_eq_true, beq_iff_eq] at h; exact h.2)

section
variable {H : Type} {enc : TypeId × Value → H} {P : Program} {W : World}

theorem rd_open (ty : Ty) :
    (∀ (t : TypeId) (fuel : Nat) (cs : List Value) (x : DataW H × List MemPlace), (fc P ty).1 t = true → DataW.trod enc P W 0 (fun _ => true) true fuel t cs = some x → ∃ d : Dat ty, Rd W W.heap.size ty d cs) ∧
    (∀ (l : List (TypeId × Nat)) (off : Nat) (fuel : Nat) (cs : List Value), (fc P ty).2 l off = true → cs.length = off + width ty →
      (∀ (i : Nat) (u : TypeId) (o : Nat), l[i]? = some (u, o) → ∃ y, DataW.trod enc P W 0 (fun _ => true) true fuel u ((cs.drop o).take (P.cellsOf u)) = some y) → ∃ d : Dat ty, Rd W W.heap.size ty d (cs.drop off)) := by
  induction ty with
  | int =>
    refine ⟨fun t fuel cs x hf h => ?_, fun l off fuel cs hf => by simp [fc] at hf⟩
    simp only [fc, Bool.and_eq_true] at hf
    have hu : P.underlying t = some (.int .i64) := by
      have := hf.1
      split at this
      · assumption
      · cases this
    obtain ⟨n, hcs, -, hw⟩ := DataW.trod_int hu h
    exact ⟨(n : Int), hcs, hw⟩
  | bool =>
    refine ⟨fun t fuel cs x hf h => ?_, fun l off fuel cs hf => by simp [fc] at hf⟩
    simp only [fc, Bool.and_eq_true] at hf
    have hu : P.underlying t = some .bool := by
      have := hf.1
      split at this
      · assumption
      · cases this
    obtain ⟨n, hcs, -⟩ := DataW.trod_bool hu h
    exact ⟨(n : Bool), hcs⟩
  | str =>
    refine ⟨fun t fuel cs x hf h => ?_, fun l off fuel cs hf => by simp [fc] at hf⟩
    simp only [fc, Bool.and_eq_true] at hf
    have hu : P.underlying t = some .string := by
      have := hf.1
      split at this
      · assumption
      · cases this
    obtain ⟨n, hcs, -, hw⟩ := DataW.trod_string hu h
    exact ⟨(n : ByteArray), hcs, hw⟩
  | slice e ih =>
    refine ⟨fun t fuel cs x hf h => ?_, fun l off fuel cs hf => by simp [fc] at hf⟩
    simp only [fc, Bool.and_eq_true] at hf
    obtain ⟨u, hu, hfe, hw0⟩ : ∃ u, P.underlying t = some (.slice u) ∧ (fc P e).1 u = true ∧ 0 < width e := by
      have := hf.1
      split at this
      · simp only [Bool.and_eq_true, decide_eq_true_eq] at this
        exact ⟨_, ‹_›, this⟩
      · cases this
    have hwu := fc_width P e u hfe
    rcases Deep.open_slice hu h with ⟨hcs, -⟩ | ⟨a, len, cap, m, n, D, Pl, hcs, -, hl, hm, hmm, -, hi⟩
    · exact ⟨([] : List (Dat e)), _, _, _, hcs, rfl, Nat.le_refl _, Nat.zero_le _, Or.inl rfl⟩
    · simp only [if_true] at hmm
      have hel : ∀ i, ∃ d : Dat e, i < len → ∃ ccs, W.cells? 0 (a.add (i * P.cellsOf u)) (P.cellsOf u) = some ccs ∧ Rd W W.heap.size e d ccs := by
        intro i
        by_cases hil : i < len
        · obtain ⟨ccs, h1, h2⟩ := hi i (by omega)
          obtain ⟨d, hd⟩ := ih.1 u n ccs _ hfe h2
          exact ⟨d, fun _ => ⟨ccs, h1, hd⟩⟩
        · by_cases h0 : 0 < len
          · obtain ⟨ccs, h1, h2⟩ := hi 0 (by omega)
            obtain ⟨d, hd⟩ := ih.1 u n ccs _ hfe h2
            exact ⟨d, fun h => absurd h hil⟩
          · exact ⟨Dat.any e, fun h => absurd h hil⟩
      obtain ⟨F, hF⟩ := Classical.axiomOfChoice hel
      refine ⟨((List.range len).map F : List (Dat e)), _, len, cap, hcs, by simp, hl, hm, ?_⟩
      by_cases hlen : len = 0
      · exact Or.inl (by rw [hlen]; rfl)
      · right
        obtain ⟨ccs, h1, h2⟩ := hF 0 (by omega)
        obtain ⟨-, h3, h4⟩ := World.cells?_some h1
        have h5 := h4 0 (by omega)
        have h6 : ccs[0]? = some (ccs[0]'(by omega)) := List.getElem?_eq_getElem (by omega)
        rw [h6] at h5
        obtain ⟨B, off, sp⟩ := a
        cases sp with
        | some s => simp [Addr.add, World.cell?] at h5; split at h5 <;> simp at h5
        | none =>
          simp only [add_none] at h5
          refine ⟨B, off, rfl, World.block_lt_of_cell? _ _ h5, fun j x hx => ?_⟩
          have hx1 : ((List.range len).map F)[j]? = some x := hx
          obtain ⟨hj, hx2⟩ : j < len ∧ F j = x := by
            rw [List.getElem?_map] at hx1
            rcases Nat.lt_or_ge j len with h | h
            · rw [List.getElem?_range h] at hx1
              exact ⟨h, by simpa using hx1⟩
            · rw [List.getElem?_eq_none (by simpa using h)] at hx1
              simp at hx1
          obtain ⟨ccs, g1, g2⟩ := hF j hj
          obtain ⟨-, g3, g4⟩ := World.cells?_some g1
          rw [hwu] at g3 g4
          refine ⟨ccs, g3, fun i hi => ?_, hx2 ▸ g2⟩
          have := g4 i hi
          rwa [add_none, add_none] at this
  | arr n e ih =>
    refine ⟨fun t fuel cs x hf h => ?_, fun l off fuel cs hf => by simp [fc] at hf⟩
    simp only [fc, Bool.and_eq_true, beq_iff_eq] at hf
    obtain ⟨u, hu, hfe⟩ : ∃ u, P.underlying t = some (.array n u) ∧ (fc P e).1 u = true := by
      have := hf.1
      split at this
      · rename_i m u hu
        simp only [Bool.and_eq_true, beq_iff_eq] at this
        obtain ⟨rfl, h2⟩ := this
        exact ⟨_, hu, h2⟩
      · cases this
    have hwu := fc_width P e u hfe
    obtain ⟨xs, m, -, -, hlen, hxl, hi⟩ := DataW.trod_array hu h
    have hel : ∀ i : Fin n, ∃ d : Dat e, Rd W W.heap.size e d ((cs.drop (i.1 * width e)).take (width e)) := by
      intro i
      have h1 := hi i.1 i.2
      rw [hwu, List.getElem?_eq_getElem (by omega)] at h1
      exact ih.1 u m _ _ hfe h1
    obtain ⟨F, hF⟩ := Classical.axiomOfChoice hel
    refine ⟨(List.ofFn F : List (Dat e)), by simp, by rw [hlen]; exact hf.2, fun j x hx => ?_⟩
    have hx1 : (List.ofFn F)[j]? = some x := hx
    rw [List.getElem?_ofFn] at hx1
    split at hx1
    · simp only [Option.some.injEq] at hx1
      subst hx1
      exact hF ⟨j, by assumption⟩
    · cases hx1
  | unit =>
    refine ⟨fun t fuel cs x hf h => ?_, fun l off fuel cs hf hl hh => ⟨(), ?_⟩⟩
    · simp only [fc, Bool.and_eq_true, beq_iff_eq] at hf
      obtain ⟨fs, hu⟩ : ∃ fs, P.underlying t = some (.struct fs) := by
        have := hf.1
        split at this
        · exact ⟨_, ‹_›⟩
        · cases this
      obtain ⟨xs, n, -, -, hlen, -⟩ := DataW.trod_struct hu h
      refine ⟨(), ?_⟩
      show cs = []
      rw [hf.2] at hlen
      exact List.eq_nil_of_length_eq_zero hlen
    · show cs.drop off = []
      simp [width] at hl
      exact List.drop_eq_nil_of_le (by omega)
  | pair a b iha ihb =>
    have chain : ∀ (l : List (TypeId × Nat)) (off : Nat) (fuel : Nat) (cs : List Value), (fc P (.pair a b)).2 l off = true → cs.length = off + width (.pair a b) →
        (∀ (i : Nat) (u : TypeId) (o : Nat), l[i]? = some (u, o) → ∃ y, DataW.trod enc P W 0 (fun _ => true) true fuel u ((cs.drop o).take (P.cellsOf u)) = some y) → ∃ d : Dat (.pair a b), Rd W W.heap.size (.pair a b) d (cs.drop off) := by
      intro l off fuel cs hf hl hh
      match l, hf with
      | (u, o) :: r, hf =>
        simp only [fc, Bool.and_eq_true, beq_iff_eq] at hf
        obtain ⟨⟨rfl, h1⟩, h2⟩ := hf
        obtain ⟨y, hy⟩ := hh 0 u o rfl
        have hwu := fc_width P a u h1
        obtain ⟨d1, hd1⟩ := iha.1 u fuel _ y h1 hy
        simp only [width] at hl
        obtain ⟨d2, hd2⟩ := ihb.2 r (o + width a) fuel cs h2 (by omega) (fun i u' o' hi => hh (i + 1) u' o' (by simpa using hi))
        rw [hwu] at hd1
        refine ⟨(d1, d2), (cs.drop o).take (width a), cs.drop (o + width a), ?_, ?_, hd1, hd2⟩
        · rw [← List.drop_drop, List.take_append_drop]
        · simp; omega
    refine ⟨fun t fuel cs x hf h => ?_, chain⟩
    simp only [fc, Bool.and_eq_true, beq_iff_eq] at hf
    obtain ⟨fs, hu, hch⟩ : ∃ fs, P.underlying t = some (.struct fs) ∧ (fc P (.pair a b)).2 (fs.toList.map fun f => (f.type, f.offset)) 0 = true := by
      have := hf.1
      split at this
      · exact ⟨_, ‹_›, this⟩
      · cases this
    obtain ⟨xs, n, -, -, hlen, hxl, hx⟩ := DataW.trod_struct hu h
    have := chain _ 0 n cs hch (by rw [hlen, hf.2]; simp [width]) (fun i u o hi => by
      simp only [List.getElem?_map, Option.map_eq_some_iff, Prod.mk.injEq] at hi
      obtain ⟨f, hf1, rfl, rfl⟩ := hi
      have h1 := hx i f (by simpa using hf1)
      have hil : i < fs.size := by
        rcases Nat.lt_or_ge i fs.size with h | h
        · exact h
        · rw [List.getElem?_eq_none (by simpa using h)] at hf1
          cases hf1
      rw [List.getElem?_eq_getElem (by omega)] at h1
      exact ⟨_, h1⟩)
    simpa using this
end

section
variable {H : Type} {enc : TypeId × Value → H} {P : Program} {W : World} {v : Value} {d : DataW H} {p : List MemPlace} {t : TypeId}
theorem open_datS (e : Ty) (hf : (fc P (.slice e)).1 t = true) (hv : ∃ a n c, v = .slice a n c) (h : DataW.Trod enc P W 0 (fun _ => true) true t v d p) : ∃ D : List (Dat e), Rd W W.heap.size (.slice e) D [v] := by
  obtain ⟨a, n, c, rfl⟩ := hv
  obtain ⟨fuel, hx⟩ := h
  obtain ⟨D, hD⟩ := (rd_open (.slice e)).1 t fuel _ _ hf hx
  exact ⟨D, by simpa [Value.cells] using hD⟩
theorem open_datA (ty : Ty) (cs : Array Value) (hf : (fc P ty).1 t = true) (h : DataW.Trod enc P W 0 (fun _ => true) true t (.agg cs) d p) : ∃ D : Dat ty, Rd W W.heap.size ty D cs.toList := by
  obtain ⟨fuel, hx⟩ := h
  obtain ⟨D, hD⟩ := (rd_open ty).1 t fuel _ _ hf hx
  exact ⟨D, by simpa [Value.cells] using hD⟩
end

end Go.Proofs.Ytonnooenebfbeaa
