/- The imports that all texts of this seat share, and small lemmas. -/
import Derived.Test.YtonnooenebfbeaaRows
import Derived.WalkKit
import Derived.WalkSpells
import Derived.WalkLawsBesides
import Derived.Deep.QuietTactic
import Derived.BigQuiet
import Derived.Deep.LoopGhost
import Derived.Deep.DeepCutAuto
import Derived.Deep.CutBlock
import Derived.Deep.RegionHeld3
import Derived.Lib.Hide
import Derived.IntWalk
import Derived.Deep.OwnRows
import Derived.StillTailTactics
import Derived.Handy
import Derived.Shelf.Abstract
import Derived.Deep.DeepFit
import Derived.Deep.DeepMust
import Derived.Deep.RegionWith
namespace Go.Proofs.Ytonnooenebfbeaa
open Go.RowKit

theorem ret_int {k : IntKind} {a b : Int} (h : a = b) : Ending.returned (.int k a) = .returned (.int k b) := by rw [h]
theorem ret_bool {a b : Bool} (h : a = b) : Ending.returned (.bool a) = .returned (.bool b) := by rw [h]

/-- A call that may turn the old blocks of S alone: all other blocks, and the streams, are as they were. -/
structure Mod (S : Nat → Prop) (w w' : World) : Prop where
  os : w'.os = w.os
  tape : w'.tape = w.tape
  output : w'.output = w.output
  size : w.heap.size ≤ w'.heap.size
  block : ∀ k, k < w.heap.size → ¬ S k → w'.heap[k]? = w.heap[k]?

namespace Mod
variable {S S' : Nat → Prop} {a w w' w'' : World}
theorem refl (S : Nat → Prop) (w : World) : Mod S w w := ⟨rfl, rfl, rfl, Nat.le_refl _, fun _ _ _ => rfl⟩
theorem mono (h : Mod S w w') (hS : ∀ k, k < w.heap.size → S k → S' k) : Mod S' w w' :=
  ⟨h.os, h.tape, h.output, h.size, fun k hk hn => h.block k hk (fun hs => hn (hS k hk hs))⟩
theorem trans (h : Mod S w w') (k : Mod S' w' w'') (hS : ∀ i, i < w.heap.size → S' i → S i) : Mod S w w'' :=
  ⟨k.os.trans h.os, k.tape.trans h.tape, k.output.trans h.output, Nat.le_trans h.size k.size,
    fun i hi hn => (k.block i (Nat.lt_of_lt_of_le hi h.size) (fun hs => hn (hS i hi hs))).trans (h.block i hi hn)⟩
theorem trans' {S1 S2 S : Nat → Prop} (h : Mod S1 w w') (k : Mod S2 w' w'') (h1 : ∀ i, i < w.heap.size → S1 i → S i) (h2 : ∀ i, i < w.heap.size → S2 i → S i) : Mod S w w'' :=
  (h.mono h1).trans k h2
theorem drew (h : Mod S a w) : Mod S a w.drew := ⟨h.os, h.tape, h.output, h.size, h.block⟩
theorem drewN (h : Mod S a w) (n : Nat) : Mod S a (w.drewN n) := ⟨h.os, h.tape, h.output, h.size, h.block⟩
theorem alloc (h : Mod S a w) (o : Obj) : Mod S a (w.alloc o) :=
  ⟨h.os, h.tape, h.output, by have := h.size; simp; omega, fun k hk hn => (Below.heap_alloc _ _ _ (Nat.lt_of_lt_of_le hk h.size)).trans (h.block k hk hn)⟩
theorem setCell (h : Mod S a w) {p : Addr} (hp : S p.block ∨ a.heap.size ≤ p.block) (u : Value) : Mod S a (w.setCell p u) :=
  ⟨h.os, h.tape, h.output, by have := h.size; simpa using this, fun k hk hn => (Below.heap_setCell _ _ _ _ (fun e => by
    rcases hp with hp | hp
    · exact hn (e ▸ hp)
    · omega)).trans (h.block k hk hn)⟩
theorem cell (h : Mod S w w') {p : Addr} (hp : p.block < w.heap.size) (hn : ¬ S p.block) : w'.cell? p = w.cell? p := World.cell?_of_block (w := w) (h.block p.block hp hn)
theorem frozen (h : Mod S w w') {p : Addr} (hp : p.block < w.heap.size) (hn : ¬ S p.block) : w'.frozen? p = w.frozen? p := World.frozen?_of_block (w := w) (h.block p.block hp hn)
theorem below (h : Mod (fun _ => False) w w') : Below w.heap.size w w' := ⟨h.os, h.tape, h.output, h.size, fun k hk => h.block k hk (fun x => x)⟩
theorem of_below {B : Nat} (h : Below B w w') (hB : B = w.heap.size) (S : Nat → Prop) : Mod S w w' := ⟨h.os, h.tape, h.output, h.size, fun k hk _ => h.block k (hB ▸ hk)⟩
end Mod

/-- A world that parts in draws alone. -/
def Drw (w w' : World) : Prop := ∃ n, w' = w.drewN n
theorem Drw.refl (w : World) : Drw w w := ⟨0, rfl⟩
theorem Drw.drewN (w : World) (n : Nat) : Drw w (w.drewN n) := ⟨n, rfl⟩
theorem Drw.drew (w : World) : Drw w w.drew := ⟨1, rfl⟩
theorem Drw.trans {a b c : World} (h : Drw a b) (k : Drw b c) : Drw a c := by
  obtain ⟨n, rfl⟩ := h
  obtain ⟨m, rfl⟩ := k
  exact ⟨n + m, by simp [World.drewN, Nat.add_assoc]⟩
theorem Drw.mod {w w' : World} (h : Drw w w') (S : Nat → Prop) : Mod S w w' := by
  obtain ⟨n, rfl⟩ := h
  exact (Mod.refl S w).drewN n
theorem Drw.heap {w w' : World} (h : Drw w w') : w'.heap = w.heap := by obtain ⟨n, rfl⟩ := h; rfl
theorem Drw.cell {w w' : World} (h : Drw w w') (a : Addr) : w'.cell? a = w.cell? a := by obtain ⟨n, rfl⟩ := h; rfl
theorem Drw.frozen {w w' : World} (h : Drw w w') (a : Addr) : w'.frozen? a = w.frozen? a := by obtain ⟨n, rfl⟩ := h; rfl

/-- The slice v has the values xs, a cell each. -/
def SlV (w : World) (v : Value) (xs : List Value) : Prop :=
  ∃ a n c, v = .slice a n c ∧ xs.length = n ∧ n ≤ c ∧ c ≤ maxLen ∧ (xs = [] ∨ ∃ B off, a = some ⟨B, off, none⟩ ∧ B < w.heap.size ∧ ∀ j, j < xs.length → w.cell? ⟨B, off + j, none⟩ = some (xs.getD j undef))

theorem SlV.new {w : World} {xs : List Value} (t : TypeId) (c : Nat) (cs : Array Value) (hcs : cs = xs.toArray) (n : Nat) (hn : xs.length = n) (hc : n ≤ c := by decide) (hm : c ≤ maxLen := by decide) : SlV (w.alloc (.cells cs t)) (.slice (some ⟨w.heap.size, 0, none⟩) n c) xs := by
  refine ⟨_, _, c, rfl, hn, hc, hm, Or.inr ⟨w.heap.size, 0, rfl, by simp, fun j hj => ?_⟩⟩
  subst hcs
  rw [Nat.zero_add, World.cell?_alloc_new]
  simp [List.getD_eq_getElem?_getD, hj]
theorem SlV.at {w : World} {a : Option Addr} {n c : Nat} {xs : List Value} (h : SlV w (.slice a n c) xs) (i : Nat) (hi : i < n) :
    ∃ B off, a = some ⟨B, off, none⟩ ∧ B < w.heap.size ∧ w.cell? ⟨B, off + i, none⟩ = some (xs.getD i undef) := by
  obtain ⟨a', n', c', hv, hn, _, _, h⟩ := h
  simp only [Value.slice.injEq] at hv
  obtain ⟨rfl, rfl, rfl⟩ := hv
  rcases h with rfl | ⟨B, off, ha, hB, h⟩
  · simp at hn; omega
  · exact ⟨B, off, ha, hB, h i (by omega)⟩
theorem SlV.later {w w' : World} {v : Value} {xs : List Value} (h : SlV w v xs) {S : Nat → Prop} (hm : Mod S w w') (hS : ∀ a n c, v = .slice (some a) n c → ¬ S a.block) : SlV w' v xs := by
  obtain ⟨a, n, c, hv, hn, hc, hm', h⟩ := h
  refine ⟨a, n, c, hv, hn, hc, hm', ?_⟩
  rcases h with h | ⟨B, off, ha, hB, h⟩
  · exact Or.inl h
  · refine Or.inr ⟨B, off, ha, Nat.lt_of_lt_of_le hB hm.size, fun j hj => ?_⟩
    rw [hm.cell (p := ⟨B, off + j, none⟩) hB (hS ⟨B, off, none⟩ _ _ (by rw [hv, ha]))]
    exact h j hj

theorem Mod.grown {a w w' : World} {S : Nat → Prop} {row : Option Nat} (h : Mod S a w) (hg : w.grownBy w' row) (hr : ∀ k, row = some k → S k ∨ a.heap.size ≤ k) : Mod S a w' :=
  ⟨hg.os.trans h.os, hg.tape.trans h.tape, hg.output.trans h.output, Nat.le_trans h.size hg.size, fun k hk hn =>
    (hg.block k (Nat.lt_of_lt_of_le hk h.size) (fun e => by
      rcases hr k e.symm with h1 | h1
      · exact hn h1
      · omega)).trans (h.block k hk hn)⟩

/-- A slice that the call owns, read. -/
theorem SlV.own {w : World} {base : Nat} {e : TypeId} {v : Value} {n : Nat} {xs : List Value} (h : w.ownsRow base e 1 v n xs) : SlV w v xs := by
  obtain ⟨hl, h⟩ := h
  rcases h with ⟨rfl, rfl⟩ | ⟨g, cap, cur, rfl, hb, hh, hc, hm, hs, ht⟩
  · exact ⟨_, _, _, rfl, by simpa using hl, Nat.le_refl _, by decide, Or.inl (by simpa using hl)⟩
  · have hg : g < w.heap.size := by
      obtain ⟨hlt, _⟩ := Array.getElem?_eq_some_iff.1 hh
      exact hlt
    refine ⟨_, _, _, rfl, by omega, hc, hm, Or.inr ⟨g, 0, rfl, hg, fun j hj => ?_⟩⟩
    have hj' : j < n := by omega
    simp only [World.cell?, hh, Nat.zero_add, Option.isSome_none, Bool.false_eq_true, if_false]
    rw [← ht, List.getD_eq_getElem?_getD, List.getElem?_take, if_pos (by omega), ← Array.getElem?_toList]
    rw [List.getElem?_eq_getElem (by simp; omega)]
    rfl

/-- 'append(out, x)' of one element of one cell: x lies in a new block. -/
theorem wpList_append1 {P : Program} {ops : Array Oper} {rest : List Oper} {o : Oper} {a : Act} {Q : Exit → Act → World → Prop} {w : World} (hgd : o.guard = none) (s x : Operand) (t : TypeId)
    (ho : o.op = .call { callee := .builtin .append, args := #[s, x], argTypes := #[t, t] })
    (base : Nat) (e : TypeId) (z : Value) (bytes : Nat) (ht : P.underlying t = some (.slice e)) (hinfo : (P.info? e).map (fun i => (i.zero, i.size, i.bytes)) = some (some z, 1, bytes)) (hzs : z.cells.size = 1)
    (v : Value) (n : Nat) (xs : List Value) (hs : a.eval s = v) (hown : w.ownsRow base e 1 v n xs) (xv : Value)
    (hx : a.eval x = .slice (some ⟨w.heap.size, 0, none⟩) 1 1) (h1 : xv.oneCell' = true)
    (h63 : n + 1 ≤ maxLen) (hbytes : (n + 1) * bytes ≤ 140737488355328) (hbase : base ≤ w.heap.size)
    (h : ∀ v' w', w'.ownsRow base e 1 v' (n + 1) (xs ++ [xv]) → Mod (fun k => v.ownBlock = some k) w w' → wpList P ops Q rest (a.put o.dst v') w') :
    wpList P ops Q (o :: rest) a (w.alloc (.cells #[xv] e)) := by
  obtain ⟨i, hi, hz, hsize, hby⟩ := info_parts hinfo
  refine wpList_append_own _ hgd s x t ho base e i z 1 bytes ht hi hz hsize hby hzs (by decide) v n xs hs (hown.alloc _) ⟨w.heap.size, 0, none⟩ 1 1 [xv] hx rfl ?_ ?_ h63 hbytes (by simp; omega) ?_
  · intro j u hj
    match j, hj with
    | 0, hj => simp at hj; subst hj; simp [Addr.add]
  · intro u hu
    simp at hu; subst hu; exact h1
  · intro v' w' hown' hg _
    exact h v' w' hown' (((Mod.refl _ w).alloc _).grown hg (fun k hk => Or.inl hk))

/-- 'int(uint(a) % n)'. -/
theorem umod (a n : Int) (h0 : 0 < n) (h : n ≤ 1000000) : ∃ m : Nat, (m : Int) < n ∧ wrap64 ((IntKind.u64.wrap a).tmod n) = (m : Int) := by
  have h1 : 0 ≤ IntKind.u64.wrap a := by simp only [IntKind.wrap_u64]; omega
  have h2 : (IntKind.u64.wrap a).tmod n = (IntKind.u64.wrap a) % n := Int.tmod_eq_emod_of_nonneg h1
  have h3 := Int.emod_nonneg (IntKind.u64.wrap a) (show n ≠ 0 by omega)
  have h4 := Int.emod_lt_of_pos (IntKind.u64.wrap a) h0
  refine ⟨((IntKind.u64.wrap a) % n).toNat, by omega, ?_⟩
  rw [h2]
  unfold wrap64
  omega
/-- '1 + int(uint(a) % n)'. -/
theorem umod1 (a n : Int) (h0 : 0 < n) (h : n ≤ 1000000) : ∃ m : Nat, 1 ≤ m ∧ (m : Int) ≤ n ∧ wrap64 (1 + wrap64 ((IntKind.u64.wrap a).tmod n)) = (m : Int) := by
  obtain ⟨m, hm, he⟩ := umod a n h0 h
  refine ⟨m + 1, by omega, by omega, ?_⟩
  rw [he]
  unfold wrap64
  omega

end Go.Proofs.Ytonnooenebfbeaa
