/- Plain laws of plans: sorted rows of nodes are one; the way over nodes whose labels rise (or fall) has them in their row, and no node twice. -/
import Derived.Test.YtdpfbgppaofgmaaSnakeJ
import Derived.Test.YtdpfbgppaofgmaaPlanB
namespace Go.Proofs.Ytdpfbgppaofgmaa

theorem sorted_eq {c : Cfg} : ∀ (ys zs : List Int), ys.Perm zs → SortedBy c.lab ys → SortedBy c.lab zs → (∀ x ∈ ys, c.is x = true) → ys = zs := by
  intro ys
  induction ys with
  | nil => intro zs h _ _ _; exact (List.nil_perm.1 h).symm
  | cons y ys ih =>
    intro zs h h1 h2 his
    cases zs with
    | nil => exact absurd h (by simp)
    | cons z zs =>
      unfold SortedBy at h1 h2
      rw [List.pairwise_cons] at h1 h2
      have hz : z ∈ y :: ys := h.symm.subset List.mem_cons_self
      have hy : y ∈ z :: zs := h.subset List.mem_cons_self
      have e1 : c.lab y ≤ c.lab z := by
        rcases List.mem_cons.1 hz with rfl | hz
        · exact Int.le_refl _
        · exact h1.1 z hz
      have e2 : c.lab z ≤ c.lab y := by
        rcases List.mem_cons.1 hy with rfl | hy
        · exact Int.le_refl _
        · exact h2.1 y hy
      obtain rfl := Cfg.lab_inj (his y List.mem_cons_self) (his z hz) (by omega)
      rw [ih zs (List.Perm.cons_inv h) h1.2 h2.2 (fun x hx => his x (List.mem_cons_of_mem _ hx))]

theorem plan_one {c : Cfg} {n t : Int} {ys : List Int} (h : ys.Perm [t]) :
    ((c.ups n ys).length = if c.lab n < c.lab t then 1 else 0) ∧ (((c.dns n ys).reverse).length = if c.lab t < c.lab n then 1 else 0) ∧ ((c.eqs n ys).length = if c.lab t = c.lab n then 1 else 0) := by
  obtain rfl := List.perm_singleton.1 h
  unfold Cfg.ups Cfg.dns Cfg.eqs
  simp only [List.length_reverse, List.filter_cons, List.filter_nil, decide_eq_true_eq]
  refine ⟨?_, ?_, ?_⟩ <;> split <;> rfl

/-- How many of p the walk along w meets, in their row. -/
def meet : List Int → List Int → Nat
  | [], _ => 0
  | _ :: _, [] => 0
  | x :: w, y :: p => if x = y then meet w p + 1 else meet w (y :: p)
theorem meet_sub : ∀ (w p : List Int), List.Sublist p w → meet w p = p.length := by
  intro w
  induction w with
  | nil => intro p h; rw [List.sublist_nil.1 h]; rfl
  | cons x w ih =>
    intro p h
    cases p with
    | nil => rfl
    | cons y p =>
      unfold meet
      by_cases hxy : x = y
      · subst hxy
        rw [if_pos rfl, ih p (List.cons_sublist_cons.1 h)]
        rfl
      · rw [if_neg hxy]
        refine ih _ ?_
        cases h with
        | cons _ h => exact h
        | cons_cons _ h => exact absurd rfl hxy

theorem Cfg.mem_leg {c : Cfg} {n t : Int} (hn : c.is n = true) (ht : c.is t = true) (h : n ≠ t) : t ∈ c.leg n t := by
  have := Cfg.leg_last ht _ n (Nat.le_refl _) hn
  rw [Cfg.leg_step hn ht h] at this ⊢
  simp only [List.length_cons, List.getElem?_cons_succ] at this
  exact List.mem_of_getElem? this

theorem Cfg.tail_sub {c : Cfg} : ∀ (p : List Int) (n : Int), c.is n = true → (∀ x ∈ p, c.is x = true) → (n :: p).Pairwise (fun a b => a ≠ b) → List.Sublist p (c.tail n p) := by
  intro p
  induction p with
  | nil => intro n _ _ _; exact List.nil_sublist _
  | cons t p ih =>
    intro n hn his hd
    have ht := his t List.mem_cons_self
    rw [List.pairwise_cons] at hd
    have h1 := ih t ht (fun x hx => his x (List.mem_cons_of_mem _ hx)) hd.2
    have h2 : List.Sublist [t] (c.leg n t) := List.singleton_sublist.2 (Cfg.mem_leg hn ht (hd.1 t List.mem_cons_self))
    exact h2.append h1

/-- The labels along the way to nodes whose labels rise, rise. -/
theorem Cfg.leg_rise {c : Cfg} {t : Int} (ht : c.is t = true) : ∀ (d : Nat) (n : Int), c.gap n t ≤ d → c.is n = true → c.lab n < c.lab t → (n :: c.leg n t).Pairwise (fun a b => c.lab a < c.lab b) ∧ ∀ x ∈ c.leg n t, c.lab x ≤ c.lab t := by
  intro d
  induction d with
  | zero => intro n h hn hl; exfalso; unfold Cfg.gap at h; omega
  | succ d ih =>
    intro n h hn hl
    have hne : n ≠ t := by rintro rfl; omega
    obtain ⟨g1, -, g3, -, -⟩ := Cfg.nxt_is hn ht hne
    have P := Cfg.leg_pairs ht _ n (Nat.le_refl _) hn 0 n (c.nxt n t) rfl (by rw [Cfg.leg_step hn ht hne]; rfl)
    have hu := P.up hl
    rw [Cfg.leg_step hn ht hne]
    by_cases he : c.nxt n t = t
    · rw [he, Cfg.leg_self]
      rw [he] at hu
      simp
      omega
    · have hlt : c.lab (c.nxt n t) < c.lab t := by
        rcases Int.lt_or_eq_of_le hu.2 with h | h
        · exact h
        · exact absurd (Cfg.lab_inj g1 ht h) he
      obtain ⟨i1, i2⟩ := ih (c.nxt n t) (by omega) g1 hlt
      refine ⟨List.pairwise_cons.2 ⟨fun x hx => ?_, i1⟩, fun x hx => ?_⟩
      · rcases List.mem_cons.1 hx with rfl | hx
        · exact hu.1
        · have := (List.pairwise_cons.1 i1).1 x hx
          omega
      · rcases List.mem_cons.1 hx with rfl | hx
        · exact hu.2
        · exact i2 x hx
theorem Cfg.leg_fall {c : Cfg} {t : Int} (ht : c.is t = true) : ∀ (d : Nat) (n : Int), c.gap n t ≤ d → c.is n = true → c.lab t < c.lab n → (n :: c.leg n t).Pairwise (fun a b => c.lab b < c.lab a) ∧ ∀ x ∈ c.leg n t, c.lab t ≤ c.lab x := by
  intro d
  induction d with
  | zero => intro n h hn hl; exfalso; unfold Cfg.gap at h; omega
  | succ d ih =>
    intro n h hn hl
    have hne : n ≠ t := by rintro rfl; omega
    obtain ⟨g1, -, g3, -, -⟩ := Cfg.nxt_is hn ht hne
    have P := Cfg.leg_pairs ht _ n (Nat.le_refl _) hn 0 n (c.nxt n t) rfl (by rw [Cfg.leg_step hn ht hne]; rfl)
    have hu := P.down hl
    rw [Cfg.leg_step hn ht hne]
    by_cases he : c.nxt n t = t
    · rw [he, Cfg.leg_self]
      rw [he] at hu
      simp
      omega
    · have hlt : c.lab t < c.lab (c.nxt n t) := by
        rcases Int.lt_or_eq_of_le hu.2 with h | h
        · exact h
        · exact absurd (Cfg.lab_inj g1 ht h.symm) he
      obtain ⟨i1, i2⟩ := ih (c.nxt n t) (by omega) g1 hlt
      refine ⟨List.pairwise_cons.2 ⟨fun x hx => ?_, i1⟩, fun x hx => ?_⟩
      · rcases List.mem_cons.1 hx with rfl | hx
        · exact hu.1
        · have := (List.pairwise_cons.1 i1).1 x hx
          omega
      · rcases List.mem_cons.1 hx with rfl | hx
        · exact hu.2
        · exact i2 x hx

theorem Cfg.tail_rise {c : Cfg} : ∀ (p : List Int) (n : Int), c.is n = true → (∀ x ∈ p, c.is x = true) → (n :: p).Pairwise (fun a b => c.lab a < c.lab b) → (n :: c.tail n p).Pairwise (fun a b => c.lab a < c.lab b) := by
  intro p
  induction p with
  | nil => intro n _ _ _; simp [Cfg.tail]
  | cons t p ih =>
    intro n hn his hd
    have ht := his t List.mem_cons_self
    rw [List.pairwise_cons] at hd
    have h1 := ih t ht (fun x hx => his x (List.mem_cons_of_mem _ hx)) hd.2
    have hnt := hd.1 t List.mem_cons_self
    obtain ⟨h2, h3⟩ := Cfg.leg_rise ht _ n (Nat.le_refl _) hn hnt
    rw [List.pairwise_cons] at h1 h2
    simp only [Cfg.tail]
    refine List.pairwise_cons.2 ⟨fun x hx => ?_, List.pairwise_append.2 ⟨h2.2, h1.2, fun a ha b hb => ?_⟩⟩
    · rcases List.mem_append.1 hx with hx | hx
      · exact h2.1 x hx
      · have := h1.1 x hx
        omega
    · have q1 := h3 a ha
      have q2 := h1.1 b hb
      omega
theorem Cfg.tail_fall {c : Cfg} : ∀ (p : List Int) (n : Int), c.is n = true → (∀ x ∈ p, c.is x = true) → (n :: p).Pairwise (fun a b => c.lab b < c.lab a) → (n :: c.tail n p).Pairwise (fun a b => c.lab b < c.lab a) := by
  intro p
  induction p with
  | nil => intro n _ _ _; simp [Cfg.tail]
  | cons t p ih =>
    intro n hn his hd
    have ht := his t List.mem_cons_self
    rw [List.pairwise_cons] at hd
    have h1 := ih t ht (fun x hx => his x (List.mem_cons_of_mem _ hx)) hd.2
    have hnt := hd.1 t List.mem_cons_self
    obtain ⟨h2, h3⟩ := Cfg.leg_fall ht _ n (Nat.le_refl _) hn hnt
    rw [List.pairwise_cons] at h1 h2
    simp only [Cfg.tail]
    refine List.pairwise_cons.2 ⟨fun x hx => ?_, List.pairwise_append.2 ⟨h2.2, h1.2, fun a ha b hb => ?_⟩⟩
    · rcases List.mem_append.1 hx with hx | hx
      · exact h2.1 x hx
      · have := h1.1 x hx
        omega
    · have q1 := h3 a ha
      have q2 := h1.1 b hb
      omega

/-- What SnakeSets asks of one list of a plan. -/
structure Cfg.Good (c : Cfg) (n : Int) (p : List Int) : Prop where
  way : c.way n p = n :: c.tail n p
  nodup : (c.way n p).Nodup
  meet : meet (c.way n p) p = p.length
theorem Cfg.good_up {c : Cfg} {n : Int} {ys : List Int} (hn : c.is n = true) (his : ∀ x ∈ ys, c.is x = true) (hnd : ys.Nodup) (hs : SortedBy c.lab ys) : c.Good n (c.ups n ys) := by
  have hm : ∀ x ∈ c.ups n ys, c.is x = true ∧ c.lab n < c.lab x := by
    intro x hx
    unfold Cfg.ups at hx
    rw [List.mem_filter] at hx
    exact ⟨his x hx.1, by simpa using hx.2⟩
  have hp : (n :: c.ups n ys).Pairwise (fun a b => c.lab a < c.lab b) := by
    refine List.pairwise_cons.2 ⟨fun x hx => (hm x hx).2, ?_⟩
    unfold Cfg.ups
    refine List.Pairwise.filter _ ?_
    have h2 : ys.Pairwise (fun a b => c.lab a ≤ c.lab b ∧ a ≠ b) := List.Pairwise.and hs hnd
    refine h2.imp_of_mem ?_
    rintro a b ha hb ⟨h, hne⟩
    rcases Int.lt_or_eq_of_le h with h | h
    · exact h
    · exact absurd (Cfg.lab_inj (his a ha) (his b hb) h) hne
  generalize c.ups n ys = p at hm hp
  have hw : c.way n p = n :: c.tail n p := by
    unfold Cfg.way
    rw [hn, (List.all_eq_true.2 (fun x hx => (hm x hx).1) : p.all c.is = true)]
    rfl
  refine ⟨hw, ?_, ?_⟩
  · rw [hw]
    refine (Cfg.tail_rise p n hn (fun x hx => (hm x hx).1) hp).imp ?_
    rintro a b h rfl
    omega
  · refine meet_sub _ _ ?_
    rw [hw]
    refine List.Sublist.cons _ (Cfg.tail_sub p n hn (fun x hx => (hm x hx).1) (hp.imp ?_))
    rintro a b h rfl
    omega
theorem Cfg.good_dn {c : Cfg} {n : Int} {ys : List Int} (hn : c.is n = true) (his : ∀ x ∈ ys, c.is x = true) (hnd : ys.Nodup) (hs : SortedBy c.lab ys) : c.Good n (c.dns n ys).reverse := by
  have hm : ∀ x ∈ (c.dns n ys).reverse, c.is x = true ∧ c.lab x < c.lab n := by
    intro x hx
    unfold Cfg.dns at hx
    rw [List.mem_reverse, List.mem_filter] at hx
    exact ⟨his x hx.1, by simpa using hx.2⟩
  have hp : (n :: (c.dns n ys).reverse).Pairwise (fun a b => c.lab b < c.lab a) := by
    refine List.pairwise_cons.2 ⟨fun x hx => (hm x hx).2, ?_⟩
    rw [List.pairwise_reverse]
    unfold Cfg.dns
    refine List.Pairwise.filter _ ?_
    have h2 : ys.Pairwise (fun a b => c.lab a ≤ c.lab b ∧ a ≠ b) := List.Pairwise.and hs hnd
    refine h2.imp_of_mem ?_
    rintro a b ha hb ⟨h, hne⟩
    rcases Int.lt_or_eq_of_le h with h | h
    · exact h
    · exact absurd (Cfg.lab_inj (his a ha) (his b hb) h) hne
  generalize (c.dns n ys).reverse = p at hm hp
  have hw : c.way n p = n :: c.tail n p := by
    unfold Cfg.way
    rw [hn, (List.all_eq_true.2 (fun x hx => (hm x hx).1) : p.all c.is = true)]
    rfl
  refine ⟨hw, ?_, ?_⟩
  · rw [hw]
    refine (Cfg.tail_fall p n hn (fun x hx => (hm x hx).1) hp).imp ?_
    rintro a b h rfl
    omega
  · refine meet_sub _ _ ?_
    rw [hw]
    refine List.Sublist.cons _ (Cfg.tail_sub p n hn (fun x hx => (hm x hx).1) (hp.imp ?_))
    rintro a b h rfl
    omega

theorem count_one (x : Int) : ∀ l : List Int, l.Nodup → x ∈ l → l.count x = 1 := by
  intro l
  induction l with
  | nil => intro _ h; cases h
  | cons y l ih =>
    intro hd h
    rw [List.nodup_cons] at hd
    by_cases hxy : y = x
    · subst hxy
      rw [List.count_cons_self, List.count_eq_zero.2 hd.1]
    · rw [List.count_cons_of_ne hxy]
      refine ih hd.2 ?_
      rcases List.mem_cons.1 h with h | h
      · exact absurd h.symm hxy
      · exact h

/-- The three lists of a plan are the set. -/
theorem plan_count {c : Cfg} {n x : Int} {ys set : List Int} (hp : ys.Perm set) (hnd : set.Nodup) (hx : x ∈ set) : (c.ups n ys).count x + (c.dns n ys).reverse.count x + (c.eqs n ys).count x = 1 := by
  have h1 : ys.count x = 1 := by
    rw [hp.count_eq]
    exact count_one x set hnd hx
  rw [← h1, List.count_reverse]
  clear hp hnd hx h1
  induction ys with
  | nil => rfl
  | cons y ys ih =>
    unfold Cfg.ups Cfg.dns Cfg.eqs at *
    simp only [List.filter_cons, decide_eq_true_eq]
    rcases Int.lt_trichotomy (c.lab n) (c.lab y) with h | h | h
    · rw [if_pos h, if_neg (by omega), if_neg (by omega)]
      simp only [List.count_cons]
      omega
    · rw [if_neg (by omega), if_neg (by omega), if_pos h.symm]
      simp only [List.count_cons]
      omega
    · rw [if_neg (by omega), if_pos h, if_neg (by omega)]
      simp only [List.count_cons]
      omega
theorem plan_len {c : Cfg} {n : Int} {ys set : List Int} (hp : ys.Perm set) : (c.ups n ys).length + (c.dns n ys).reverse.length + (c.eqs n ys).length = set.length := by
  rw [← hp.length_eq, List.length_reverse]
  clear hp
  induction ys with
  | nil => rfl
  | cons y ys ih =>
    unfold Cfg.ups Cfg.dns Cfg.eqs at *
    simp only [List.filter_cons, decide_eq_true_eq]
    rcases Int.lt_trichotomy (c.lab n) (c.lab y) with h | h | h
    · rw [if_pos h, if_neg (by omega), if_neg (by omega)]
      simp only [List.length_cons]
      omega
    · rw [if_neg (by omega), if_neg (by omega), if_pos h.symm]
      simp only [List.length_cons]
      omega
    · rw [if_neg (by omega), if_pos h, if_neg (by omega)]
      simp only [List.length_cons]
      omega
theorem plan_eqs {c : Cfg} {n : Int} {ys : List Int} (his : ∀ x ∈ ys, c.is x = true) (hnd : ys.Nodup) : (c.eqs n ys).length ≤ 1 := by
  have hm : ∀ x ∈ c.eqs n ys, c.is x = true ∧ c.lab x = c.lab n := by
    intro x hx
    unfold Cfg.eqs at hx
    rw [List.mem_filter] at hx
    exact ⟨his x hx.1, by simpa using hx.2⟩
  have hd : (c.eqs n ys).Nodup := hnd.filter _
  generalize c.eqs n ys = p at hm hd
  match p with
  | [] => simp
  | [x] => simp
  | x :: y :: l =>
    exfalso
    have h1 := hm x (by simp)
    have h2 := hm y (by simp)
    have := Cfg.lab_inj h1.1 h2.1 (by omega)
    simp [this] at hd

end Go.Proofs.Ytdpfbgppaofgmaa
