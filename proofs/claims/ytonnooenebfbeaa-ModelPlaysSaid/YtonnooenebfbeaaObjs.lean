/- Two things in memory that share no block, beside blocks P that none of them has: what a call makes of one leaves the other, and P, as they were. -/
import Derived.Test.YtonnooenebfbeaaBase
namespace Go.Proofs.Ytonnooenebfbeaa
open Go.RowKit

/-- A predicate of a world and of the blocks that it speaks of. -/
structure Stable (X : World → (Nat → Prop) → Prop) : Prop where
  later : ∀ {w w' : World} {o S : Nat → Prop}, X w o → Mod S w w' → (∀ g, o g → ¬ S g) → X w' o
  lt : ∀ {w : World} {o : Nat → Prop} {g : Nat}, X w o → o g → g < w.heap.size

def Pair (P : Nat → Prop) (A B : World → (Nat → Prop) → Prop) (w : World) : Prop :=
  ∃ oa ob, A w oa ∧ B w ob ∧ (∀ g, oa g → ¬ ob g) ∧ ∀ g, P g → g < w.heap.size ∧ ¬ oa g ∧ ¬ ob g

/-- What a call makes of the thing X of the blocks o. -/
def Turn (o : Nat → Prop) (X' : World → (Nat → Prop) → Prop) (w w' : World) : Prop :=
  ∃ o', X' w' o' ∧ Mod o w w' ∧ ∀ g, o' g → o g ∨ w.heap.size ≤ g

theorem Pair.left {P : Nat → Prop} {A B A' : World → (Nat → Prop) → Prop} {w w' : World} (hB : Stable B) {oa ob : Nat → Prop} (ha : A w oa) (hb : B w ob) (hd : ∀ g, oa g → ¬ ob g) (hp : ∀ g, P g → g < w.heap.size ∧ ¬ oa g ∧ ¬ ob g) (t : Turn oa A' w w') : Pair P A' B w' ∧ Mod (fun g => ¬ P g) w w' := by
  obtain ⟨o', hx, m, ho⟩ := t
  refine ⟨⟨o', ob, hx, hB.later hb m (fun g hg ha => hd g ha hg), fun g hg hbg => ?_, fun g hg => ?_⟩, m.mono (fun g _ ha hpg => (hp g hpg).2.1 ha)⟩
  · rcases ho g hg with h | h
    · exact hd g h hbg
    · have := hB.lt hb hbg
      omega
  · obtain ⟨h1, h2, h3⟩ := hp g hg
    refine ⟨Nat.lt_of_lt_of_le h1 m.size, fun h => ?_, h3⟩
    rcases ho g h with h | h
    · exact h2 h
    · omega

theorem Pair.swap {P : Nat → Prop} {A B : World → (Nat → Prop) → Prop} {w : World} (h : Pair P A B w) : Pair P B A w := by
  obtain ⟨oa, ob, ha, hb, hd, hp⟩ := h
  exact ⟨ob, oa, hb, ha, fun g hg hag => hd g hag hg, fun g hg => ⟨(hp g hg).1, (hp g hg).2.2, (hp g hg).2.1⟩⟩

theorem Pair.later {P : Nat → Prop} {A B : World → (Nat → Prop) → Prop} {w w' : World} (hA : Stable A) (hB : Stable B) (h : Pair P A B w) (m : Mod (fun _ => False) w w') : Pair P A B w' := by
  obtain ⟨oa, ob, ha, hb, hd, hp⟩ := h
  exact ⟨oa, ob, hA.later ha m (by simp), hB.later hb m (by simp), hd, fun g hg => ⟨Nat.lt_of_lt_of_le (hp g hg).1 m.size, (hp g hg).2⟩⟩

/-- Blocks of P alone, and new ones, turn: the two are as they were. -/
theorem Pair.other {P S : Nat → Prop} {A B : World → (Nat → Prop) → Prop} {w w' : World} (hA : Stable A) (hB : Stable B) (h : Pair P A B w) (m : Mod S w w') (hS : ∀ g, S g → P g) : Pair P A B w' := by
  obtain ⟨oa, ob, ha, hb, hd, hp⟩ := h
  exact ⟨oa, ob, hA.later ha m (fun g hg hs => (hp g (hS g hs)).2.1 hg), hB.later hb m (fun g hg hs => (hp g (hS g hs)).2.2 hg), hd, fun g hg => ⟨Nat.lt_of_lt_of_le (hp g hg).1 m.size, (hp g hg).2⟩⟩

/-- More blocks are beside: new ones. -/
theorem Pair.more {P P' S : Nat → Prop} {A B : World → (Nat → Prop) → Prop} {w w' : World} (hA : Stable A) (hB : Stable B) (h : Pair P A B w) (m : Mod S w w') (hS : ∀ g, S g → P g) (hP : ∀ g, P' g → P g ∨ (w.heap.size ≤ g ∧ g < w'.heap.size)) : Pair P' A B w' := by
  obtain ⟨oa, ob, ha, hb, hd, hp⟩ := h
  refine ⟨oa, ob, hA.later ha m (fun g hg hs => (hp g (hS g hs)).2.1 hg), hB.later hb m (fun g hg hs => (hp g (hS g hs)).2.2 hg), hd, fun g hg => ?_⟩
  rcases hP g hg with h | ⟨h1, h2⟩
  · exact ⟨Nat.lt_of_lt_of_le (hp g h).1 m.size, (hp g h).2⟩
  · exact ⟨h2, fun h => by have := hA.lt ha h; omega, fun h => by have := hB.lt hb h; omega⟩

theorem Pair.less {P P' : Nat → Prop} {A B : World → (Nat → Prop) → Prop} {w : World} (h : Pair P' A B w) (hP : ∀ g, P g → P' g) : Pair P A B w := by
  obtain ⟨oa, ob, ha, hb, hd, hp⟩ := h
  exact ⟨oa, ob, ha, hb, hd, fun g hg => hp g (hP g hg)⟩

end Go.Proofs.Ytonnooenebfbeaa
