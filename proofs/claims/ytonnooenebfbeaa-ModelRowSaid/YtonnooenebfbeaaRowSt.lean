/- Where ModelRow stands, and what a sending and a taking make of it. -/
import Derived.Test.YtonnooenebfbeaaMdlLives
namespace Go.Proofs.Ytonnooenebfbeaa
open Go.RowKit

def rowC : Cfg := ⟨2, 1, 2, 1, 1, 1, 16, false, true⟩
def chr (i : Nat) : ByteArray := ByteArray.empty.push (UInt8.ofNat (97 + (i : Int)).toNat)

theorem chr_run {W : World} {g i : Nat} (hi : i ≤ 20) (h : W.cell? ⟨g, 0, none⟩ = some (.int .u8 (97 + (i : Int)))) : (convert 33 9 (.slice (some ⟨g, 0, none⟩) 1 1)).run Try.prog W = .ok (.string (chr i)) W := by
  rw [run_convert_bytes_string W _ _ 5 _ _ _ Try.underlying33 Try.underlying5 Try.underlying9]
  have := run_bytesToString (P := Try.prog) W ⟨g, 0, none⟩ 1 1 [97 + (i : Int)]
  exact this (run_loadCells_list (P := Try.prog) (w := W) ⟨g, 0, none⟩ [.int .u8 (97 + (i : Int))] (by
    intro j v hj
    match j, hj with
    | 0, hj => simp at hj; subst hj; simpa [Addr.add] using h))

/-- Where ModelRow stands: what was sent to each of two nodes, and what was taken. -/
structure RowSt (base : Nat) (W : World) (b bq bu bc : Nat) (f : Int → Int → Value) (KN KO k : Nat) (Q : Int → Int → List ByteArray) (n0 n1 o0 o1 : Nat) : Prop where
  mdl : MdlIn W b bq bu bc f rowC k Q [((n0 + n1 - o0 - o1 : Nat) : Int), 0] [false, false]
  kn : Blk W KN #[.int .i64 n0, .int .i64 n1] 31
  ko : Blk W KO #[.int .i64 o0, .int .i64 o1] 31
  q0 : Q 0 0 = ((List.range n0).map chr).drop o0
  q1 : Q 0 1 = ((List.range n1).map chr).drop o1
  le : o0 ≤ n0 ∧ o1 ≤ n1 ∧ n0 + n1 ≤ 8
  own : ∀ g, own4 b bq bu bc f g → base ≤ g ∧ g ≠ KN ∧ g ≠ KO
  kk : base ≤ KN ∧ base ≤ KO ∧ KN ≠ KO
theorem RowSt.later {base : Nat} {W W' : World} {b bq bu bc : Nat} {f : Int → Int → Value} {KN KO k : Nat} {Q : Int → Int → List ByteArray} {n0 n1 o0 o1 : Nat} (h : RowSt base W b bq bu bc f KN KO k Q n0 n1 o0 o1) (m : Mod (fun _ => False) W W') : RowSt base W' b bq bu bc f KN KO k Q n0 n1 o0 o1 :=
  ⟨h.mdl.later m (by simp), h.kn.later m (by simp), h.ko.later m (by simp), h.q0, h.q1, h.le, h.own, h.kk⟩


theorem RowSt.sent0 {base : Nat} {W W' : World} {b bq bu bc : Nat} {f f2 : Int → Int → Value} {KN KO k : Nat} {Q : Int → Int → List ByteArray} {n0 n1 o0 o1 : Nat} {x : Int} (h : RowSt base W b bq bu bc f KN KO k Q n0 n1 o0 o1)
    (hx : x = (n0 : Int) + 1) (hM : MdlIn W' b bq bu bc f2 rowC (k + 1) (updQ Q 0 0 (Q 0 0 ++ [chr n0])) [((n0 + n1 - o0 - o1 : Nat) : Int) + 1, 0] [false, false]) (m : Mod (own4 b bq bu bc f) W W') (ho : ∀ g, own4 b bq bu bc f2 g → own4 b bq bu bc f g ∨ W.heap.size ≤ g) (hb : base ≤ W.heap.size) (hn : n0 + n1 < 8) :
    RowSt base (W'.setCell ⟨KN, 0, none⟩ (.int .i64 x)) b bq bu bc f2 KN KO (k + 1) (updQ Q 0 0 (Q 0 0 ++ [chr n0])) (n0 + 1) n1 o0 o1 := by
  have hkl := h.kn.lt
  have hol := h.ko.lt
  have hown : ∀ g, own4 b bq bu bc f2 g → base ≤ g ∧ g ≠ KN ∧ g ≠ KO := by
    intro g hg
    rcases ho g hg with h1 | h1
    · exact h.own g h1
    · omega
  have hle := h.le
  have hkk := h.kk
  have hmk : Mod (· = KN) W' (W'.setCell ⟨KN, 0, none⟩ (.int .i64 x)) := (Mod.refl (· = KN) W').setCell (p := ⟨KN, 0, none⟩) (Or.inl rfl) _
  refine ⟨?_, ?_, ?_, ?_, ?_, by omega, hown, hkk⟩
  · have := hM.later hmk (fun g hg e => (hown g hg).2.1 e)
    have e : (((n0 + 1) + n1 - o0 - o1 : Nat) : Int) = ((n0 + n1 - o0 - o1 : Nat) : Int) + 1 := by omega
    rw [e]
    exact this
  · have := (h.kn.later m (fun e => (h.own _ e).2.1 rfl)).set 0 (.int .i64 x)
    subst hx
    simpa using this
  · exact (h.ko.later m (fun e => (h.own _ e).2.2 rfl)).setOther (a := ⟨KN, 0, none⟩) (by show KO ≠ KN; omega) _
  · show updQ Q 0 0 _ 0 0 = _
    unfold updQ
    rw [if_pos ⟨rfl, rfl⟩, h.q0, List.range_succ, List.map_append, List.drop_append_of_le_length (by simp; omega)]
    rfl
  · show updQ Q 0 0 _ 0 1 = _
    unfold updQ
    rw [if_neg (by decide)]
    exact h.q1

theorem RowSt.sent1 {base : Nat} {W W' : World} {b bq bu bc : Nat} {f f2 : Int → Int → Value} {KN KO k : Nat} {Q : Int → Int → List ByteArray} {n0 n1 o0 o1 : Nat} {x : Int} (h : RowSt base W b bq bu bc f KN KO k Q n0 n1 o0 o1)
    (hx : x = (n1 : Int) + 1) (hM : MdlIn W' b bq bu bc f2 rowC (k + 1) (updQ Q 0 1 (Q 0 1 ++ [chr n1])) [((n0 + n1 - o0 - o1 : Nat) : Int) + 1, 0] [false, false]) (m : Mod (own4 b bq bu bc f) W W') (ho : ∀ g, own4 b bq bu bc f2 g → own4 b bq bu bc f g ∨ W.heap.size ≤ g) (hb : base ≤ W.heap.size) (hn : n0 + n1 < 8) :
    RowSt base (W'.setCell ⟨KN, 1, none⟩ (.int .i64 x)) b bq bu bc f2 KN KO (k + 1) (updQ Q 0 1 (Q 0 1 ++ [chr n1])) n0 (n1 + 1) o0 o1 := by
  have hkl := h.kn.lt
  have hol := h.ko.lt
  have hown : ∀ g, own4 b bq bu bc f2 g → base ≤ g ∧ g ≠ KN ∧ g ≠ KO := by
    intro g hg
    rcases ho g hg with h1 | h1
    · exact h.own g h1
    · omega
  have hle := h.le
  have hkk := h.kk
  have hmk : Mod (· = KN) W' (W'.setCell ⟨KN, 1, none⟩ (.int .i64 x)) := (Mod.refl (· = KN) W').setCell (p := ⟨KN, 1, none⟩) (Or.inl rfl) _
  refine ⟨?_, ?_, ?_, ?_, ?_, by omega, hown, hkk⟩
  · have := hM.later hmk (fun g hg e => (hown g hg).2.1 e)
    have e : ((n0 + (n1 + 1) - o0 - o1 : Nat) : Int) = ((n0 + n1 - o0 - o1 : Nat) : Int) + 1 := by omega
    rw [e]
    exact this
  · have := (h.kn.later m (fun e => (h.own _ e).2.1 rfl)).set 1 (.int .i64 x)
    subst hx
    simpa using this
  · exact (h.ko.later m (fun e => (h.own _ e).2.2 rfl)).setOther (a := ⟨KN, 1, none⟩) (by show KO ≠ KN; omega) _
  · show updQ Q 0 1 _ 0 0 = _
    unfold updQ
    rw [if_neg (by decide)]
    exact h.q0
  · show updQ Q 0 1 _ 0 1 = _
    unfold updQ
    rw [if_pos ⟨rfl, rfl⟩, h.q1, List.range_succ, List.map_append, List.drop_append_of_le_length (by simp; omega)]
    rfl

theorem RowSt.took0 {base : Nat} {W W' : World} {b bq bu bc : Nat} {f f2 : Int → Int → Value} {KN KO k : Nat} {Q : Int → Int → List ByteArray} {n0 n1 o0 o1 : Nat} {x : Int} (h : RowSt base W b bq bu bc f KN KO k Q n0 n1 o0 o1)
    (hx : x = (o0 : Int) + 1) (hM : MdlIn W' b bq bu bc f2 rowC (k + 1) (updQ Q 0 0 (Q 0 0).tail) [((n0 + n1 - o0 - o1 : Nat) : Int) - 1, 0] [false, false]) (m : Mod (own4 b bq bu bc f) W W') (ho : ∀ g, own4 b bq bu bc f2 g → own4 b bq bu bc f g ∨ W.heap.size ≤ g) (hb : base ≤ W.heap.size) (hn : o0 < n0) :
    RowSt base (W'.setCell ⟨KO, 0, none⟩ (.int .i64 x)) b bq bu bc f2 KN KO (k + 1) (updQ Q 0 0 (Q 0 0).tail) n0 n1 (o0 + 1) o1 := by
  have hkl := h.kn.lt
  have hol := h.ko.lt
  have hown : ∀ g, own4 b bq bu bc f2 g → base ≤ g ∧ g ≠ KN ∧ g ≠ KO := by
    intro g hg
    rcases ho g hg with h1 | h1
    · exact h.own g h1
    · omega
  have hle := h.le
  have hkk := h.kk
  have hmk : Mod (· = KO) W' (W'.setCell ⟨KO, 0, none⟩ (.int .i64 x)) := (Mod.refl (· = KO) W').setCell (p := ⟨KO, 0, none⟩) (Or.inl rfl) _
  refine ⟨?_, ?_, ?_, ?_, ?_, by omega, hown, hkk⟩
  · have := hM.later hmk (fun g hg e => (hown g hg).2.2 e)
    have e : ((n0 + n1 - (o0 + 1) - o1 : Nat) : Int) = ((n0 + n1 - o0 - o1 : Nat) : Int) - 1 := by omega
    rw [e]
    exact this
  · exact (h.kn.later m (fun e => (h.own _ e).2.1 rfl)).setOther (a := ⟨KO, 0, none⟩) (by show KN ≠ KO; omega) _
  · have := (h.ko.later m (fun e => (h.own _ e).2.2 rfl)).set 0 (.int .i64 x)
    subst hx
    simpa using this
  · show updQ Q 0 0 _ 0 0 = _
    unfold updQ
    rw [if_pos ⟨rfl, rfl⟩, h.q0, List.tail_drop]
  · show updQ Q 0 0 _ 0 1 = _
    unfold updQ
    rw [if_neg (by decide)]
    exact h.q1

theorem RowSt.took1 {base : Nat} {W W' : World} {b bq bu bc : Nat} {f f2 : Int → Int → Value} {KN KO k : Nat} {Q : Int → Int → List ByteArray} {n0 n1 o0 o1 : Nat} {x : Int} (h : RowSt base W b bq bu bc f KN KO k Q n0 n1 o0 o1)
    (hx : x = (o1 : Int) + 1) (hM : MdlIn W' b bq bu bc f2 rowC (k + 1) (updQ Q 0 1 (Q 0 1).tail) [((n0 + n1 - o0 - o1 : Nat) : Int) - 1, 0] [false, false]) (m : Mod (own4 b bq bu bc f) W W') (ho : ∀ g, own4 b bq bu bc f2 g → own4 b bq bu bc f g ∨ W.heap.size ≤ g) (hb : base ≤ W.heap.size) (hn : o1 < n1) :
    RowSt base (W'.setCell ⟨KO, 1, none⟩ (.int .i64 x)) b bq bu bc f2 KN KO (k + 1) (updQ Q 0 1 (Q 0 1).tail) n0 n1 o0 (o1 + 1) := by
  have hkl := h.kn.lt
  have hol := h.ko.lt
  have hown : ∀ g, own4 b bq bu bc f2 g → base ≤ g ∧ g ≠ KN ∧ g ≠ KO := by
    intro g hg
    rcases ho g hg with h1 | h1
    · exact h.own g h1
    · omega
  have hle := h.le
  have hkk := h.kk
  have hmk : Mod (· = KO) W' (W'.setCell ⟨KO, 1, none⟩ (.int .i64 x)) := (Mod.refl (· = KO) W').setCell (p := ⟨KO, 1, none⟩) (Or.inl rfl) _
  refine ⟨?_, ?_, ?_, ?_, ?_, by omega, hown, hkk⟩
  · have := hM.later hmk (fun g hg e => (hown g hg).2.2 e)
    have e : ((n0 + n1 - o0 - (o1 + 1) : Nat) : Int) = ((n0 + n1 - o0 - o1 : Nat) : Int) - 1 := by omega
    rw [e]
    exact this
  · exact (h.kn.later m (fun e => (h.own _ e).2.1 rfl)).setOther (a := ⟨KO, 1, none⟩) (by show KN ≠ KO; omega) _
  · have := (h.ko.later m (fun e => (h.own _ e).2.2 rfl)).set 1 (.int .i64 x)
    subst hx
    simpa using this
  · show updQ Q 0 1 _ 0 0 = _
    unfold updQ
    rw [if_neg (by decide)]
    exact h.q0
  · show updQ Q 0 1 _ 0 1 = _
    unfold updQ
    rw [if_pos ⟨rfl, rfl⟩, h.q1, List.tail_drop]

theorem chr_inj {i j : Nat} (hi : i ≤ 20) (hj : j ≤ 20) (h : chr i = chr j) : i = j := by
  have h1 : UInt8.ofNat (97 + (i : Int)).toNat = UInt8.ofNat (97 + (j : Int)).toNat := by
    have := congrArg (fun b : ByteArray => b.data.toList) h
    simpa [chr] using this
  have h2 := congrArg UInt8.toNat h1
  simp at h2
  omega
theorem head_drop {n o : Nat} : (((List.range n).map chr).drop o).head? = if o < n then some (chr o) else none := by
  rw [List.head?_drop]
  by_cases h : o < n
  · simp [h]
  · rw [if_neg h, List.getElem?_eq_none (by simp; omega)]
theorem sendE_row (m : Nat) (hm : m ≤ 8) (k : Int) (hk : k = 0 ∨ k = 1) (i : Nat) : sendE rowC [(m : Int), 0] [false, false] 0 k (chr i).size = 0 := by
  unfold sendE
  rw [if_pos (by rcases hk with rfl | rfl <;> decide), if_pos (by decide), show (chr i).size = 1 from rfl, if_neg (by decide), if_neg]
  show ¬ (16 : Int) < (m : Int) + 1
  omega
theorem tookE_row {Q : Int → Int → List ByteArray} {k : Int} (hk : k = 0 ∨ k = 1) {n o : Nat} (hq : Q 0 k = ((List.range n).map chr).drop o) {i : Nat} (hi : i ≤ 20) (ho : o ≤ 20) : tookE rowC Q k 0 k (chr i) = if o < n ∧ i = o then 0 else 13 := by
  unfold tookE
  rw [if_pos (by rcases hk with rfl | rfl <;> decide), hq, head_drop]
  by_cases h : o < n
  · rw [if_pos h]
    by_cases hio : i = o
    · subst hio
      rw [if_pos ⟨rfl, rfl⟩, if_pos ⟨h, rfl⟩]
    · rw [if_neg, if_neg (fun e => hio e.2)]
      rintro ⟨-, e⟩
      simp only [Option.some.injEq] at e
      exact hio (chr_inj ho hi e).symm
  · rw [if_neg h, if_neg (by simp), if_neg (fun e => h e.1)]

end Go.Proofs.Ytonnooenebfbeaa
