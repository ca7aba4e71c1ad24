/- The contracts of snake.Way and snake.Steps. -/
import Derived.Test.YtonnooenebfbeaaSnakeL
import Derived.Laws.EntriesVeiled
namespace Go.Proofs.Ytonnooenebfbeaa
open Go.RowKit



theorem own_later {w w' : World} {base : Nat} {e : TypeId} {size : Nat} {v : Value} {n : Nat} {xs : List Value} (h : w.ownsRow base e size v n xs) (m : Mod (fun _ => False) w w') : w'.ownsRow base e size v n xs :=
  h.kept (row := none) ⟨m.os, m.tape, m.output, m.size, fun q hq _ => m.block q hq (by simp)⟩ (by cases hv : Value.ownBlock v <;> simp)

theorem Cfg.tail_len {c : Cfg} : ∀ (ts : List Int) (n : Int), c.is n = true → (∀ t ∈ ts, c.is t = true) → (c.tail n ts).length ≤ 4096 * ts.length := by
  intro ts
  induction ts with
  | nil => intro n _ _; simp [Cfg.tail]
  | cons t ts ih =>
    intro n hn h
    have ht := h t List.mem_cons_self
    have h1 := ih t ht (fun x hx => h x (List.mem_cons_of_mem _ hx))
    have h2 := Cfg.leg_len ht _ n (Nat.le_refl _) hn
    have h3 := c.gap_bd n t
    simp only [Cfg.tail, List.length_append, List.length_cons]
    omega


end Go.Proofs.Ytonnooenebfbeaa
