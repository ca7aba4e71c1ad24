/- Plain laws of ways: what two nodes of a leg, one behind the other, are like; where it ends. -/
import Derived.Test.YtdpfbgppaofgmaaSnakeI
namespace Go.Proofs.Ytdpfbgppaofgmaa

theorem Cfg.far_nxt {c : Cfg} {n t : Int} (hn : c.is n = true) (ht : c.is t = true) (h : n ≠ t) : c.far n (c.nxt n t) = 1 := by
  have hne : c.lab n ≠ c.lab t := fun e => h (Cfg.lab_inj hn ht e)
  rcases Int.lt_or_gt_of_ne hne with hlt | hlt
  · exact Cfg.far_bes (Cfg.step_up hn ht hlt).1
  · exact Cfg.far_bes (Cfg.step_down hn ht hlt).1

/-- Two nodes of a leg, one behind the other. -/
structure Cfg.Pair (c : Cfg) (n t x y : Int) : Prop where
  isx : c.is x = true
  isy : c.is y = true
  far : c.far x y = 1
  up : c.lab n < c.lab t → c.lab x < c.lab y ∧ c.lab y ≤ c.lab t
  down : c.lab t < c.lab n → c.lab y < c.lab x ∧ c.lab t ≤ c.lab y

theorem Cfg.leg_pairs {c : Cfg} {t : Int} (ht : c.is t = true) : ∀ (d : Nat) (n : Int), c.gap n t ≤ d → c.is n = true → ∀ (k : Nat) (x y : Int), (n :: c.leg n t)[k]? = some x → (n :: c.leg n t)[k + 1]? = some y → c.Pair n t x y := by
  intro d
  induction d with
  | zero =>
    intro n hd hn k x y h1 h2
    obtain rfl := Cfg.gap_zero hn ht (by omega)
    rw [Cfg.leg_self] at h2
    simp at h2
  | succ d ih =>
    intro n hd hn k x y h1 h2
    by_cases h : n = t
    · subst h
      rw [Cfg.leg_self] at h2
      simp at h2
    · obtain ⟨g1, -, g3, g4, g5⟩ := Cfg.nxt_is hn ht h
      rw [Cfg.leg_step hn ht h] at h1 h2
      cases k with
      | zero =>
        simp at h1 h2
        subst h1 h2
        exact ⟨hn, g1, Cfg.far_nxt hn ht h, g4, g5⟩
      | succ k =>
        have e1 : (c.nxt n t :: c.leg (c.nxt n t) t)[k]? = some x := by simpa using h1
        have e2 : (c.nxt n t :: c.leg (c.nxt n t) t)[k + 1]? = some y := by simpa using h2
        have P := ih (c.nxt n t) (by omega) g1 k x y e1 e2
        have hn2 : c.lab n < c.lab t → c.lab x < c.lab y ∧ c.lab y ≤ c.lab t := by
          intro hl
          obtain ⟨a, b⟩ := g4 hl
          rcases Int.lt_or_eq_of_le b with b | b
          · exact P.up b
          · have : c.nxt n t = t := Cfg.lab_inj g1 ht b
            rw [this, Cfg.leg_self] at e2
            simp at e2
        have hn3 : c.lab t < c.lab n → c.lab y < c.lab x ∧ c.lab t ≤ c.lab y := by
          intro hl
          obtain ⟨a, b⟩ := g5 hl
          rcases Int.lt_or_eq_of_le b with b | b
          · exact P.down b
          · have : c.nxt n t = t := Cfg.lab_inj g1 ht b.symm
            rw [this, Cfg.leg_self] at e2
            simp at e2
        exact ⟨P.isx, P.isy, P.far, hn2, hn3⟩

theorem Cfg.leg_last {c : Cfg} {t : Int} (ht : c.is t = true) : ∀ (d : Nat) (n : Int), c.gap n t ≤ d → c.is n = true → (n :: c.leg n t)[(c.leg n t).length]? = some t := by
  intro d
  induction d with
  | zero =>
    intro n hd hn
    obtain rfl := Cfg.gap_zero hn ht (by omega)
    rw [Cfg.leg_self]
    rfl
  | succ d ih =>
    intro n hd hn
    by_cases h : n = t
    · subst h
      rw [Cfg.leg_self]
      rfl
    · obtain ⟨g1, -, g3, -, -⟩ := Cfg.nxt_is hn ht h
      rw [Cfg.leg_step hn ht h]
      have := ih (c.nxt n t) (by omega) g1
      simpa using this

theorem Cfg.way_one {c : Cfg} {n t : Int} (hn : c.is n = true) (ht : c.is t = true) : c.way n [t] = n :: c.leg n t := by
  simp [Cfg.way, hn, ht, Cfg.tail]

end Go.Proofs.Ytdpfbgppaofgmaa
