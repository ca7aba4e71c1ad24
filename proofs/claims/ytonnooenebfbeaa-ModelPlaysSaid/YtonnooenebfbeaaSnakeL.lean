/- Plain laws of the snake: a step goes nearer; ways. -/
import Derived.Test.YtonnooenebfbeaaSnakeB
namespace Go.Proofs.Ytonnooenebfbeaa

theorem Cfg.at_is {c : Cfg} {x y : Int} (h : c.atB x y = true) : c.is (y * c.W + x) = true ∧ (y * c.W + x) % c.W = x ∧ (y * c.W + x) / c.W = y := by
  simp only [Cfg.atB, Bool.and_eq_true, decide_eq_true_eq] at h
  obtain ⟨⟨⟨⟨h0, x0⟩, y0⟩, x1⟩, y1⟩ := h
  have hok := c.ok_of h0
  have hW := hok.W1
  have hy : y * c.W ≤ (c.H - 1) * c.W := Int.mul_le_mul_of_nonneg_right (by omega) (by omega)
  have hyy : (c.H - 1) * c.W = c.W * c.H - c.W := by rw [Int.sub_mul, Int.one_mul, Int.mul_comm]
  have hy0 : 0 ≤ y * c.W := Int.mul_nonneg y0 (by omega)
  refine ⟨(Cfg.is_iff _ _).2 ⟨by omega, by rw [Cfg.nodes_ok hok]; omega⟩, ?_, ?_⟩
  · rw [Int.add_comm, Int.add_mul_emod_self_right, Int.emod_eq_of_lt x0 x1]
  · rw [Int.add_comm, Int.add_mul_ediv_right _ _ (by omega), Int.ediv_eq_zero_of_lt x0 x1, Int.zero_add]

/-- A node beside one: where it lies. -/
theorem Cfg.bes_is {c : Cfg} {n p : Int} (h : c.besB n p = true) :
    c.is n = true ∧ 0 ≤ p ∧ p < 5 ∧ c.is (c.besV n p) = true ∧ c.besV n p % c.W = n % c.W + dX p ∧ c.besV n p / c.W = n / c.W + dY p ∧ c.atB (n % c.W + dX p) (n / c.W + dY p) = true := by
  have hv : c.besV n p = (n / c.W + dY p) * c.W + (n % c.W + dX p) := by unfold Cfg.besV; rw [if_pos h]
  simp only [Cfg.besB, Bool.and_eq_true, decide_eq_true_eq] at h
  obtain ⟨⟨⟨h1, h2⟩, h3⟩, h4⟩ := h
  obtain ⟨a, b, d⟩ := Cfg.at_is h4
  rw [hv]
  exact ⟨h1, h2, h3, a, b, d, h4⟩

theorem Cfg.lab_eq {c : Cfg} {n : Int} (h : c.is n = true) : c.lab n = n / c.W * c.W + turnX c.W (n % c.W) (n / c.W) := by unfold Cfg.lab; rw [if_pos h]

theorem Cfg.lab_bes {c : Cfg} {n p : Int} (h : c.besB n p = true) : c.lab (c.besV n p) = (n / c.W + dY p) * c.W + turnX c.W (n % c.W + dX p) (n / c.W + dY p) := by
  obtain ⟨-, -, -, h1, h2, h3, -⟩ := Cfg.bes_is h
  rw [Cfg.lab_eq h1, h2, h3]

theorem Cfg.mem_ports {c : Cfg} {n p : Int} : p ∈ c.ports n ↔ (p = 1 ∨ p = 2 ∨ p = 3 ∨ p = 4) ∧ c.besB n p = true := by
  simp [Cfg.ports]

theorem Cfg.bes_mk {c : Cfg} {n p : Int} (h : c.is n = true) (h0 : 0 ≤ p) (h5 : p < 5) (x0 : 0 ≤ n % c.W + dX p) (x1 : n % c.W + dX p < c.W) (y0 : 0 ≤ n / c.W + dY p) (y1 : n / c.W + dY p < c.H) : c.besB n p = true := by
  obtain ⟨hok, -, -⟩ := Cfg.is_ok h
  simp [Cfg.besB, Cfg.atB, h, h0, h5, x0, x1, y0, y1, c.chk_of hok]

/-- The node of the next label lies beside. -/
theorem Cfg.next_up {c : Cfg} {n : Int} (h : c.is n = true) (hl : c.lab n + 1 < c.nodes) : ∃ p, p ∈ c.ports n ∧ c.lab (c.besV n p) = c.lab n + 1 := by
  obtain ⟨x0, x1, y0, y1, b1, b2, b3⟩ := Cfg.p_bd h
  obtain ⟨hok, -, -⟩ := Cfg.is_ok h
  have hle := Cfg.lab_eq h
  rw [Cfg.nodes_ok hok] at hl
  rw [hle] at hl ⊢
  by_cases hy : (n / c.W) % 2 = 1
  · have ht : turnX c.W (n % c.W) (n / c.W) = c.W - 1 - n % c.W := by unfold turnX; rw [if_pos hy]
    rw [ht] at hl ⊢
    by_cases hx : n % c.W = 0
    · have hy2 : n / c.W + 1 < c.H := by
        rcases Int.lt_or_le (n / c.W + 1) c.H with h' | h'
        · exact h'
        · exfalso
          have : c.H * c.W ≤ (n / c.W + 1) * c.W := Int.mul_le_mul_of_nonneg_right h' (by omega)
          rw [Int.add_mul, Int.one_mul, Int.mul_comm c.H] at this
          omega
      have hb : c.besB n 3 = true := Cfg.bes_mk h (by omega) (by omega) (by simp [dX]; omega) (by simp [dX]; omega) (by simp [dY]; omega) (by simp [dY]; omega)
      refine ⟨3, Cfg.mem_ports.2 ⟨by omega, hb⟩, ?_⟩
      rw [Cfg.lab_bes hb]
      have e1 : turnX c.W (n % c.W + dX 3) (n / c.W + dY 3) = 0 := by
        unfold turnX dX dY
        rw [if_neg (by simp; omega)]
        simp [hx]
      rw [e1]
      simp only [dY]
      simp only [if_true, Int.add_mul, Int.one_mul]
      omega
    · have hb : c.besB n 2 = true := Cfg.bes_mk h (by omega) (by omega) (by simp [dX]; omega) (by simp [dX]; omega) (by simp [dY]; omega) (by simp [dY]; omega)
      refine ⟨2, Cfg.mem_ports.2 ⟨by omega, hb⟩, ?_⟩
      rw [Cfg.lab_bes hb]
      have e1 : turnX c.W (n % c.W + dX 2) (n / c.W + dY 2) = c.W - n % c.W := by
        unfold turnX dX dY
        rw [if_pos (by simpa using hy)]
        simp
        omega
      rw [e1]
      simp only [dY]
      simp
      omega
  · have ht : turnX c.W (n % c.W) (n / c.W) = n % c.W := by unfold turnX; rw [if_neg hy]
    rw [ht] at hl ⊢
    by_cases hx : n % c.W = c.W - 1
    · have hy2 : n / c.W + 1 < c.H := by
        rcases Int.lt_or_le (n / c.W + 1) c.H with h' | h'
        · exact h'
        · exfalso
          have : c.H * c.W ≤ (n / c.W + 1) * c.W := Int.mul_le_mul_of_nonneg_right h' (by omega)
          rw [Int.add_mul, Int.one_mul, Int.mul_comm c.H] at this
          omega
      have hb : c.besB n 3 = true := Cfg.bes_mk h (by omega) (by omega) (by simp [dX]; omega) (by simp [dX]; omega) (by simp [dY]; omega) (by simp [dY]; omega)
      refine ⟨3, Cfg.mem_ports.2 ⟨by omega, hb⟩, ?_⟩
      rw [Cfg.lab_bes hb]
      have e1 : turnX c.W (n % c.W + dX 3) (n / c.W + dY 3) = 0 := by
        unfold turnX dX dY
        rw [if_pos (by simp; omega)]
        simp [hx]
      rw [e1]
      simp only [dY]
      simp only [if_true, Int.add_mul, Int.one_mul]
      omega
    · have hb : c.besB n 1 = true := Cfg.bes_mk h (by omega) (by omega) (by simp [dX]; omega) (by simp [dX]; omega) (by simp [dY]; omega) (by simp [dY]; omega)
      refine ⟨1, Cfg.mem_ports.2 ⟨by omega, hb⟩, ?_⟩
      rw [Cfg.lab_bes hb]
      have e1 : turnX c.W (n % c.W + dX 1) (n / c.W + dY 1) = n % c.W + 1 := by
        unfold turnX dX dY
        rw [if_neg (by simpa using hy)]
        simp
      rw [e1]
      simp only [dY]
      simp
      omega

/-- The node of the label ahead lies beside. -/
theorem Cfg.next_down {c : Cfg} {n : Int} (h : c.is n = true) (hl : 1 ≤ c.lab n) : ∃ p, p ∈ c.ports n ∧ c.lab (c.besV n p) = c.lab n - 1 := by
  obtain ⟨x0, x1, y0, y1, b1, b2, b3⟩ := Cfg.p_bd h
  obtain ⟨hok, -, -⟩ := Cfg.is_ok h
  have hle := Cfg.lab_eq h
  rw [hle] at hl ⊢
  by_cases hy : (n / c.W) % 2 = 1
  · have ht : turnX c.W (n % c.W) (n / c.W) = c.W - 1 - n % c.W := by unfold turnX; rw [if_pos hy]
    rw [ht] at hl ⊢
    by_cases hx : n % c.W = c.W - 1
    · have hb : c.besB n 4 = true := Cfg.bes_mk h (by omega) (by omega) (by simp [dX]; omega) (by simp [dX]; omega) (by simp [dY]; omega) (by simp [dY]; omega)
      refine ⟨4, Cfg.mem_ports.2 ⟨by omega, hb⟩, ?_⟩
      rw [Cfg.lab_bes hb]
      have e1 : turnX c.W (n % c.W + dX 4) (n / c.W + dY 4) = c.W - 1 := by
        unfold turnX dX dY
        rw [if_neg (by simp; omega)]
        simp [hx]
      rw [e1]
      simp only [dY]
      simp only [Int.reduceEq, if_false, if_true, Int.add_mul, Int.neg_mul, Int.one_mul]
      omega
    · have hb : c.besB n 1 = true := Cfg.bes_mk h (by omega) (by omega) (by simp [dX]; omega) (by simp [dX]; omega) (by simp [dY]; omega) (by simp [dY]; omega)
      refine ⟨1, Cfg.mem_ports.2 ⟨by omega, hb⟩, ?_⟩
      rw [Cfg.lab_bes hb]
      have e1 : turnX c.W (n % c.W + dX 1) (n / c.W + dY 1) = c.W - 1 - (n % c.W + 1) := by
        unfold turnX dX dY
        rw [if_pos (by simpa using hy)]
        simp
      rw [e1]
      simp only [dY]
      simp
      omega
  · have ht : turnX c.W (n % c.W) (n / c.W) = n % c.W := by unfold turnX; rw [if_neg hy]
    rw [ht] at hl ⊢
    by_cases hx : n % c.W = 0
    · have hy1' : 1 ≤ n / c.W := by
        rcases Int.lt_or_le 0 (n / c.W) with h' | h'
        · omega
        · exfalso
          have : n / c.W = 0 := by omega
          rw [this, hx] at hl
          simp at hl
      have hb : c.besB n 4 = true := Cfg.bes_mk h (by omega) (by omega) (by simp [dX]; omega) (by simp [dX]; omega) (by simp [dY]; omega) (by simp [dY]; omega)
      refine ⟨4, Cfg.mem_ports.2 ⟨by omega, hb⟩, ?_⟩
      rw [Cfg.lab_bes hb]
      have e1 : turnX c.W (n % c.W + dX 4) (n / c.W + dY 4) = c.W - 1 := by
        unfold turnX dX dY
        rw [if_pos (by simp; omega)]
        simp [hx]
      rw [e1]
      simp only [dY]
      simp only [Int.reduceEq, if_false, if_true, Int.add_mul, Int.neg_mul, Int.one_mul]
      omega
    · have hb : c.besB n 2 = true := Cfg.bes_mk h (by omega) (by omega) (by simp [dX]; omega) (by simp [dX]; omega) (by simp [dY]; omega) (by simp [dY]; omega)
      refine ⟨2, Cfg.mem_ports.2 ⟨by omega, hb⟩, ?_⟩
      rw [Cfg.lab_bes hb]
      have e1 : turnX c.W (n % c.W + dX 2) (n / c.W + dY 2) = n % c.W - 1 := by
        unfold turnX dX dY
        rw [if_neg (by simpa using hy)]
        simp
        omega
      rw [e1]
      simp only [dY]
      simp
      omega

/-- What the ports looked at come to: upward. -/
theorem fold_up (c : Cfg) (n a g : Int) (hag : a < g) (l : List Int) : ∀ s : Int × Int, (s = (a, 0) ∨ (a < s.1 ∧ s.1 ≤ g ∧ s.1 = c.lab (c.besV n s.2) ∧ s.2 ∈ c.ports n)) → (∀ p ∈ l, p ∈ c.ports n) →
    (l.foldl (updS c n a g) s = (a, 0) ∨ (a < (l.foldl (updS c n a g) s).1 ∧ (l.foldl (updS c n a g) s).1 ≤ g ∧ (l.foldl (updS c n a g) s).1 = c.lab (c.besV n (l.foldl (updS c n a g) s).2) ∧ (l.foldl (updS c n a g) s).2 ∈ c.ports n)) ∧
    s.1 ≤ (l.foldl (updS c n a g) s).1 ∧ ∀ p ∈ l, a < c.lab (c.besV n p) → c.lab (c.besV n p) ≤ g → c.lab (c.besV n p) ≤ (l.foldl (updS c n a g) s).1 := by
  induction l with
  | nil => intro s h _; exact ⟨h, Int.le_refl _, fun p hp => by simp at hp⟩
  | cons q qs ih =>
    intro s h hl
    rw [List.foldl_cons]
    have hsa : a ≤ s.1 := by
      rcases h with rfl | h
      · exact Int.le_refl _
      · omega
    have hupd : (updS c n a g s q = s ∧ (a < c.lab (c.besV n q) → c.lab (c.besV n q) ≤ g → c.lab (c.besV n q) ≤ s.1)) ∨ (updS c n a g s q = (c.lab (c.besV n q), q) ∧ s.1 < c.lab (c.besV n q) ∧ c.lab (c.besV n q) ≤ g) := by
      unfold updS
      split
      · rename_i hn
        right
        simp only [nearer, Bool.or_eq_true, Bool.and_eq_true, decide_eq_true_eq] at hn
        refine ⟨rfl, ?_⟩
        omega
      · rename_i hn
        left
        refine ⟨rfl, fun h1 h2 => ?_⟩
        simp only [nearer, Bool.or_eq_true, Bool.and_eq_true, decide_eq_true_eq] at hn
        omega
    have hl' : ∀ p ∈ qs, p ∈ c.ports n := fun p hp => hl p (List.mem_cons_of_mem _ hp)
    rcases hupd with ⟨e, hno⟩ | ⟨e, h1, h2⟩
    · rw [e]
      obtain ⟨i1, i2, i3⟩ := ih s h hl'
      refine ⟨i1, i2, fun p hp h1 h2 => ?_⟩
      rcases List.mem_cons.1 hp with rfl | hp
      · have := hno h1 h2; omega
      · exact i3 p hp h1 h2
    · rw [e]
      obtain ⟨i1, i2, i3⟩ := ih (c.lab (c.besV n q), q) (Or.inr ⟨by simp only; omega, h2, rfl, hl q List.mem_cons_self⟩) hl'
      simp only at i2
      refine ⟨i1, by omega, fun p hp h1 h2 => ?_⟩
      rcases List.mem_cons.1 hp with rfl | hp
      · exact i2
      · exact i3 p hp h1 h2

/-- Downward. -/
theorem fold_down (c : Cfg) (n a g : Int) (hag : g < a) (l : List Int) : ∀ s : Int × Int, (s = (a, 0) ∨ (s.1 < a ∧ g ≤ s.1 ∧ s.1 = c.lab (c.besV n s.2) ∧ s.2 ∈ c.ports n)) → (∀ p ∈ l, p ∈ c.ports n) →
    (l.foldl (updS c n a g) s = (a, 0) ∨ ((l.foldl (updS c n a g) s).1 < a ∧ g ≤ (l.foldl (updS c n a g) s).1 ∧ (l.foldl (updS c n a g) s).1 = c.lab (c.besV n (l.foldl (updS c n a g) s).2) ∧ (l.foldl (updS c n a g) s).2 ∈ c.ports n)) ∧
    (l.foldl (updS c n a g) s).1 ≤ s.1 ∧ ∀ p ∈ l, c.lab (c.besV n p) < a → g ≤ c.lab (c.besV n p) → (l.foldl (updS c n a g) s).1 ≤ c.lab (c.besV n p) := by
  induction l with
  | nil => intro s h _; exact ⟨h, Int.le_refl _, fun p hp => by simp at hp⟩
  | cons q qs ih =>
    intro s h hl
    rw [List.foldl_cons]
    have hsa : s.1 ≤ a := by
      rcases h with rfl | h
      · exact Int.le_refl _
      · omega
    have hupd : (updS c n a g s q = s ∧ (c.lab (c.besV n q) < a → g ≤ c.lab (c.besV n q) → s.1 ≤ c.lab (c.besV n q))) ∨ (updS c n a g s q = (c.lab (c.besV n q), q) ∧ c.lab (c.besV n q) < s.1 ∧ g ≤ c.lab (c.besV n q)) := by
      unfold updS
      split
      · rename_i hn
        right
        simp only [nearer, Bool.or_eq_true, Bool.and_eq_true, decide_eq_true_eq] at hn
        refine ⟨rfl, ?_⟩
        omega
      · rename_i hn
        left
        refine ⟨rfl, fun h1 h2 => ?_⟩
        simp only [nearer, Bool.or_eq_true, Bool.and_eq_true, decide_eq_true_eq] at hn
        omega
    have hl' : ∀ p ∈ qs, p ∈ c.ports n := fun p hp => hl p (List.mem_cons_of_mem _ hp)
    rcases hupd with ⟨e, hno⟩ | ⟨e, h1, h2⟩
    · rw [e]
      obtain ⟨i1, i2, i3⟩ := ih s h hl'
      refine ⟨i1, i2, fun p hp h1 h2 => ?_⟩
      rcases List.mem_cons.1 hp with rfl | hp
      · have := hno h1 h2; omega
      · exact i3 p hp h1 h2
    · rw [e]
      obtain ⟨i1, i2, i3⟩ := ih (c.lab (c.besV n q), q) (Or.inr ⟨by simp only; omega, h2, rfl, hl q List.mem_cons_self⟩) hl'
      simp only at i2
      refine ⟨i1, by omega, fun p hp h1 h2 => ?_⟩
      rcases List.mem_cons.1 hp with rfl | hp
      · exact i2
      · exact i3 p hp h1 h2

/-- A step goes nearer, and not past. -/
theorem Cfg.step_up {c : Cfg} {n t : Int} (hn : c.is n = true) (ht : c.is t = true) (h : c.lab n < c.lab t) :
    c.stepV n t ∈ c.ports n ∧ c.lab n < c.lab (c.besV n (c.stepV n t)) ∧ c.lab (c.besV n (c.stepV n t)) ≤ c.lab t := by
  have hb := (Cfg.lab_is ht).1
  rw [Cfg.is_iff] at hb
  obtain ⟨p, hp, hl⟩ := Cfg.next_up hn (by omega)
  obtain ⟨h1, h2, h3⟩ := fold_up c n (c.lab n) (c.lab t) h (c.ports n) (c.lab n, 0) (Or.inl rfl) (fun p hp => hp)
  have h4 := h3 p hp (by omega) (by omega)
  have hv : c.stepV n t = ((c.ports n).foldl (updS c n (c.lab n) (c.lab t)) (c.lab n, 0)).2 := by simp [Cfg.stepV, Cfg.stepS, hn, ht]
  rw [hv]
  rcases h1 with h1 | ⟨a1, a2, a3, a4⟩
  · rw [h1] at h4
    simp only at h4
    omega
  · rw [← a3]
    exact ⟨a4, a1, a2⟩
theorem Cfg.step_down {c : Cfg} {n t : Int} (hn : c.is n = true) (ht : c.is t = true) (h : c.lab t < c.lab n) :
    c.stepV n t ∈ c.ports n ∧ c.lab (c.besV n (c.stepV n t)) < c.lab n ∧ c.lab t ≤ c.lab (c.besV n (c.stepV n t)) := by
  have hb := Cfg.lab_bd (c := c) t
  obtain ⟨p, hp, hl⟩ := Cfg.next_down hn (by omega)
  obtain ⟨h1, h2, h3⟩ := fold_down c n (c.lab n) (c.lab t) h (c.ports n) (c.lab n, 0) (Or.inl rfl) (fun p hp => hp)
  have h4 := h3 p hp (by omega) (by omega)
  have hv : c.stepV n t = ((c.ports n).foldl (updS c n (c.lab n) (c.lab t)) (c.lab n, 0)).2 := by simp [Cfg.stepV, Cfg.stepS, hn, ht]
  rw [hv]
  rcases h1 with h1 | ⟨a1, a2, a3, a4⟩
  · rw [h1] at h4
    simp only at h4
    omega
  · rw [← a3]
    exact ⟨a4, a1, a2⟩
theorem Cfg.lab_inj {c : Cfg} {n t : Int} (hn : c.is n = true) (ht : c.is t = true) (h : c.lab n = c.lab t) : n = t := by
  rw [← Cfg.lab_lab hn, ← Cfg.lab_lab ht, h]

/-- The node of the step toward a node. -/
def Cfg.nxt (c : Cfg) (n t : Int) : Int := c.besV n (c.stepV n t)
/-- How far apart two labels are. -/
def Cfg.gap (c : Cfg) (n t : Int) : Nat := (c.lab n - c.lab t).natAbs
theorem Cfg.nxt_is {c : Cfg} {n t : Int} (hn : c.is n = true) (ht : c.is t = true) (h : n ≠ t) :
    c.is (c.nxt n t) = true ∧ c.besB n (c.stepV n t) = true ∧ c.gap (c.nxt n t) t < c.gap n t ∧ (c.lab n < c.lab t → c.lab n < c.lab (c.nxt n t) ∧ c.lab (c.nxt n t) ≤ c.lab t) ∧ (c.lab t < c.lab n → c.lab (c.nxt n t) < c.lab n ∧ c.lab t ≤ c.lab (c.nxt n t)) := by
  unfold Cfg.nxt Cfg.gap
  have hne : c.lab n ≠ c.lab t := fun e => h (Cfg.lab_inj hn ht e)
  rcases Int.lt_or_gt_of_ne hne with hlt | hlt
  · obtain ⟨h1, h2, h3⟩ := Cfg.step_up hn ht hlt
    have hb := (Cfg.mem_ports.1 h1).2
    exact ⟨(Cfg.bes_is hb).2.2.2.1, hb, by omega, fun _ => ⟨h2, h3⟩, fun h' => by omega⟩
  · obtain ⟨h1, h2, h3⟩ := Cfg.step_down hn ht hlt
    have hb := (Cfg.mem_ports.1 h1).2
    exact ⟨(Cfg.bes_is hb).2.2.2.1, hb, by omega, fun h' => by omega, fun _ => ⟨h2, h3⟩⟩

/-- The nodes behind one, on the way to another one. -/
def Cfg.legN (c : Cfg) (t : Int) : Nat → Int → List Int
  | 0, _ => []
  | f + 1, n => if n = t then [] else c.nxt n t :: c.legN t f (c.nxt n t)
def Cfg.leg (c : Cfg) (n t : Int) : List Int := c.legN t (c.gap n t) n
theorem Cfg.gap_zero {c : Cfg} {n t : Int} (hn : c.is n = true) (ht : c.is t = true) (h : c.gap n t = 0) : n = t := Cfg.lab_inj hn ht (by unfold Cfg.gap at h; omega)
theorem Cfg.legN_self (c : Cfg) (t : Int) (f : Nat) : c.legN t f t = [] := by
  cases f <;> simp [Cfg.legN]
theorem Cfg.legN_enough {c : Cfg} {t : Int} (ht : c.is t = true) : ∀ (d : Nat) (n : Int) (f : Nat), c.gap n t ≤ d → c.is n = true → c.gap n t ≤ f → c.legN t f n = c.legN t (c.gap n t) n := by
  intro d
  induction d with
  | zero =>
    intro n f hd hn hf
    obtain rfl := Cfg.gap_zero hn ht (by omega)
    rw [Cfg.legN_self, Cfg.legN_self]
  | succ d ih =>
    intro n f hd hn hf
    by_cases h : n = t
    · subst h
      rw [Cfg.legN_self, Cfg.legN_self]
    · obtain ⟨h1, -, h2, -, -⟩ := Cfg.nxt_is hn ht h
      obtain ⟨g, hg⟩ : ∃ g, c.gap n t = g + 1 := ⟨c.gap n t - 1, by omega⟩
      obtain ⟨f', rfl⟩ : ∃ f', f = f' + 1 := ⟨f - 1, by omega⟩
      rw [hg]
      simp only [Cfg.legN, if_neg h]
      rw [ih _ f' (by omega) h1 (by omega), ih _ g (by omega) h1 (by omega)]
theorem Cfg.leg_self (c : Cfg) (t : Int) : c.leg t t = [] := c.legN_self t _
theorem Cfg.leg_step {c : Cfg} {n t : Int} (hn : c.is n = true) (ht : c.is t = true) (h : n ≠ t) : c.leg n t = c.nxt n t :: c.leg (c.nxt n t) t := by
  obtain ⟨h1, -, h2, -, -⟩ := Cfg.nxt_is hn ht h
  obtain ⟨g, hg⟩ : ∃ g, c.gap n t = g + 1 := ⟨c.gap n t - 1, by omega⟩
  unfold Cfg.leg
  rw [hg]
  simp only [Cfg.legN, if_neg h]
  rw [Cfg.legN_enough ht _ _ g (Nat.le_refl _) h1 (by omega)]
theorem Cfg.leg_len {c : Cfg} {t : Int} (ht : c.is t = true) : ∀ (d : Nat) (n : Int), c.gap n t ≤ d → c.is n = true → (c.leg n t).length ≤ c.gap n t := by
  intro d
  induction d with
  | zero =>
    intro n hd hn
    obtain rfl := Cfg.gap_zero hn ht (by omega)
    rw [Cfg.leg_self]; simp
  | succ d ih =>
    intro n hd hn
    by_cases h : n = t
    · subst h; rw [Cfg.leg_self]; simp
    · obtain ⟨h1, -, h2, -, -⟩ := Cfg.nxt_is hn ht h
      rw [Cfg.leg_step hn ht h]
      have := ih _ (by omega) h1
      simp
      omega
theorem Cfg.gap_bd (c : Cfg) (n t : Int) : c.gap n t ≤ 4096 := by
  have h1 := Cfg.lab_bd (c := c) n
  have h2 := Cfg.lab_bd (c := c) t
  unfold Cfg.gap
  omega

/-- The nodes behind one, on the way to several, one behind the other. -/
def Cfg.tail (c : Cfg) : Int → List Int → List Int
  | _, [] => []
  | n, t :: ts => c.leg n t ++ c.tail t ts
/-- The way to several. -/
def Cfg.way (c : Cfg) (n : Int) (ts : List Int) : List Int := if c.is n && ts.all c.is then n :: c.tail n ts else []

end Go.Proofs.Ytonnooenebfbeaa
