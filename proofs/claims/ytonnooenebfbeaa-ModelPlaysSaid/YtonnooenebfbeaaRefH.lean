/- Plain laws for the reference's Plan: the nodes of a set, label by label; a list that grows at its head. -/
import Derived.Test.YtonnooenebfbeaaSnakeL
import Derived.Test.YtonnooenebfbeaaPlanN
namespace Go.Proofs.Ytonnooenebfbeaa
open Go.RowKit

/-- The nodes of a set whose labels are below l, in the labels' row. -/
def byl (c : Cfg) (set : List Int) : Nat → List Int
  | 0 => []
  | l + 1 => byl c set l ++ set.filter fun x => decide (c.lab x = (l : Int))
/-- The same, and those of label l among the first i. -/
def pst (c : Cfg) (set : List Int) (l i : Nat) : List Int := byl c set l ++ (set.take i).filter fun x => decide (c.lab x = (l : Int))
theorem pst_zero (c : Cfg) (set : List Int) (l : Nat) : pst c set l 0 = byl c set l := by simp [pst]
theorem pst_all (c : Cfg) (set : List Int) (l n : Nat) (h : set.length ≤ n) : pst c set l n = byl c set (l + 1) := by simp [pst, byl, List.take_of_length_le h]
theorem pst_step (c : Cfg) (set : List Int) (l i : Nat) (x : Int) (h : set[i]? = some x) : pst c set l (i + 1) = pst c set l i ++ if c.lab x = (l : Int) then [x] else [] := by
  have : set.take (i + 1) = set.take i ++ [x] := by rw [List.take_add_one, h]; rfl
  unfold pst
  rw [this, List.filter_append, List.append_assoc]
  congr 2
  simp only [List.filter_cons, List.filter_nil, decide_eq_true_eq]
theorem byl_len (c : Cfg) (set : List Int) (l : Nat) : (byl c set l).length ≤ l * set.length := by
  induction l with
  | zero => simp [byl]
  | succ l ih =>
    have : (set.filter fun x => decide (c.lab x = (l : Int))).length ≤ set.length := List.length_filter_le _ _
    simp only [byl, List.length_append, Nat.succ_mul]
    omega
theorem pst_len (c : Cfg) (set : List Int) (l i : Nat) : (pst c set l i).length ≤ (l + 1) * set.length := by
  have h1 := byl_len c set l
  have h2 : ((set.take i).filter fun x => decide (c.lab x = (l : Int))).length ≤ (set.take i).length := List.length_filter_le _ _
  have h3 : (set.take i).length ≤ set.length := by simp; omega
  unfold pst
  rw [List.length_append, Nat.succ_mul]
  omega

theorem filter_split (c : Cfg) (l : Int) : ∀ ys : List Int, SortedBy c.lab ys → (ys.filter fun x => decide (c.lab x < l + 1)) = (ys.filter fun x => decide (c.lab x < l)) ++ ys.filter fun x => decide (c.lab x = l) := by
  intro ys
  induction ys with
  | nil => intro _; rfl
  | cons y ys ih =>
    intro h
    unfold SortedBy at h
    rw [List.pairwise_cons] at h
    have hi := ih h.2
    simp only [List.filter_cons, decide_eq_true_eq]
    rcases Int.lt_trichotomy (c.lab y) l with h1 | h1 | h1
    · rw [if_pos (by omega), if_pos h1, if_neg (by omega), hi]
      rfl
    · rw [if_pos (by omega), if_neg (by omega), if_pos h1]
      have e : (ys.filter fun x => decide (c.lab x < l)) = [] := by
        rw [List.filter_eq_nil_iff]
        intro x hx
        have := h.1 x hx
        simp
        omega
      rw [hi, e]
      rfl
    · rw [if_neg (by omega), if_neg (by omega), if_neg (by omega), hi]
theorem byl_sorted (c : Cfg) (ys : List Int) (hs : SortedBy c.lab ys) (h0 : ∀ x ∈ ys, 0 ≤ c.lab x) : ∀ l : Nat, byl c ys l = ys.filter fun x => decide (c.lab x < (l : Int)) := by
  intro l
  induction l with
  | zero =>
    symm
    unfold byl
    rw [List.filter_eq_nil_iff]
    intro x hx
    have := h0 x hx
    simp
    omega
  | succ l ih =>
    have := filter_split c (l : Int) ys hs
    simp only [byl, ih]
    rw [← this]
    rfl
theorem byl_perm (c : Cfg) (ys set : List Int) (hp : ys.Perm set) (hall : ∀ n ∈ set, c.is n = true) (hnd : set.Nodup) : ∀ l : Nat, byl c set l = byl c ys l := by
  intro l
  induction l with
  | zero => rfl
  | succ l ih =>
    simp only [byl, ih]
    congr 1
    have h1 : (set.filter fun x => decide (c.lab x = (l : Int))).Perm (ys.filter fun x => decide (c.lab x = (l : Int))) := (hp.symm).filter _
    have h2 : (set.filter fun x => decide (c.lab x = (l : Int))).length ≤ 1 := by
      have hm : ∀ x ∈ (set.filter fun x => decide (c.lab x = (l : Int))), c.is x = true ∧ c.lab x = (l : Int) := by
        intro x hx
        rw [List.mem_filter] at hx
        exact ⟨hall x hx.1, by simpa using hx.2⟩
      have hd : (set.filter fun x => decide (c.lab x = (l : Int))).Nodup := hnd.filter _
      generalize (set.filter fun x => decide (c.lab x = (l : Int))) = p at hm hd
      match p with
      | [] => simp
      | [x] => simp
      | x :: y :: q =>
        exfalso
        have a1 := hm x (by simp)
        have a2 := hm y (by simp)
        have := Cfg.lab_inj a1.1 a2.1 (by omega)
        simp [this] at hd
    match hq : (set.filter fun x => decide (c.lab x = (l : Int))), h2 with
    | [], _ => rw [hq] at h1; exact (List.nil_perm.1 h1).symm
    | [x], _ => rw [hq] at h1; exact (List.perm_singleton.1 h1.symm).symm
theorem byl_plan (c : Cfg) (ys set : List Int) (hp : ys.Perm set) (hs : SortedBy c.lab ys) (hall : ∀ n ∈ set, c.is n = true) (hnd : set.Nodup) : byl c set c.nodes.toNat = ys := by
  have hb : ∀ x ∈ ys, 0 ≤ c.lab x ∧ c.lab x < c.nodes := fun x hx => (c.is_iff _).1 (Cfg.lab_is (hall x (hp.mem_iff.1 hx))).1
  rw [byl_perm c ys set hp hall hnd, byl_sorted c ys hs (fun x hx => (hb x hx).1)]
  rw [List.filter_eq_self]
  intro x hx
  have := hb x hx
  simp
  omega

theorem ups_step (c : Cfg) (f x : Int) (P : List Int) : c.ups f (P ++ [x]) = c.ups f P ++ if c.lab f < c.lab x then [x] else [] := by
  unfold Cfg.ups
  rw [List.filter_append]
  simp only [List.filter_cons, List.filter_nil, decide_eq_true_eq]
theorem dns_step (c : Cfg) (f x : Int) (P : List Int) : (c.dns f (P ++ [x])).reverse = (if c.lab x < c.lab f then [x] else []) ++ (c.dns f P).reverse := by
  unfold Cfg.dns
  rw [List.filter_append, List.reverse_append]
  simp only [List.filter_cons, List.filter_nil, decide_eq_true_eq]
  split <;> rfl
theorem eqs_step (c : Cfg) (f x : Int) (P : List Int) : c.eqs f (P ++ [x]) = c.eqs f P ++ if c.lab x = c.lab f then [x] else [] := by
  unfold Cfg.eqs
  rw [List.filter_append]
  simp only [List.filter_cons, List.filter_nil, decide_eq_true_eq]

theorem own_base {w : World} {base base' : Nat} {e : TypeId} {size : Nat} {v : Value} {n : Nat} {xs : List Value} (h : w.ownsRow base e size v n xs) (hb : base' ≤ base) : w.ownsRow base' e size v n xs := by
  obtain ⟨h1, h2⟩ := h
  refine ⟨h1, ?_⟩
  rcases h2 with h2 | ⟨g, cap, cur, hv, hg, r⟩
  · exact Or.inl h2
  · exact Or.inr ⟨g, cap, cur, hv, Nat.le_trans hb hg, r⟩

theorem PlanMem.pre1 {w w' : World} {base A : Nat} {v0 v1 v2 : Value} {l0 l1 l2 : List Int} (h : PlanMem w base A v0 v1 v2 l0 l1 l2) {x : Int} {g cap n : Nat} {ys : List Value} (hys : ys = (x :: l1).map (Value.int .i64)) (hn : n = (x :: l1).length) (hb : base ≤ w.heap.size)
    (hown : w'.ownsRow w.heap.size 3 1 (.slice (some ⟨g, 0, none⟩) n cap) n ys) (hm : Mod (fun _ => False) w w') :
    PlanMem (w'.setCell ⟨A, 1, none⟩ (.slice (some ⟨g, 0, none⟩) n cap)) base A v0 (.slice (some ⟨g, 0, none⟩) n cap) v2 l0 (x :: l1) l2 := by
  subst hys hn
  have hg : w.heap.size ≤ g := (hown.lt g rfl).1
  have d0 : Dj v0 (.slice (some ⟨g, 0, none⟩) (x :: l1).length cap) := by
    intro k hk hk'
    have := (h.o0.lt k hk).2
    simp [Value.ownBlock] at hk'
    omega
  have d2 : Dj (.slice (some ⟨g, 0, none⟩) (x :: l1).length cap) v2 := by
    intro k hk hk'
    have := (h.o2.lt k hk').2
    simp [Value.ownBlock] at hk
    omega
  refine ⟨?_, ownsRow_setCell_below (own_later h.o0 hm) h.lt _, ownsRow_setCell_below (own_base hown hb) h.lt _, ownsRow_setCell_below (own_later h.o2 hm) h.lt _, d0, h.d02, d2, h.lt⟩
  have := (h.blk.later hm (by simp)).set 1 (.slice (some ⟨g, 0, none⟩) (x :: l1).length cap)
  simpa using this

theorem PlanMem.pre1nil {w : World} {base A : Nat} {v0 v1 v2 : Value} {l0 l2 : List Int} (h : PlanMem w base A v0 v1 v2 l0 [] l2) {x : Int} (hb : base ≤ w.heap.size) :
    PlanMem (((w.setCell ⟨A, 1, none⟩ (.slice (some ⟨w.heap.size, 0, none⟩) 1 1)).alloc (.cells #[.int .i64 x] 3)).drew) base A v0 (.slice (some ⟨w.heap.size, 0, none⟩) 1 1) v2 l0 [x] l2 := by
  have d0 : Dj v0 (.slice (some ⟨w.heap.size, 0, none⟩) 1 1) := by
    intro k hk hk'
    have := (h.o0.lt k hk).2
    simp [Value.ownBlock] at hk'
    omega
  have d2 : Dj (.slice (some ⟨w.heap.size, 0, none⟩) 1 1) v2 := by
    intro k hk hk'
    have := (h.o2.lt k hk').2
    simp [Value.ownBlock] at hk
    omega
  have hlit : ((w.setCell ⟨A, 1, none⟩ (.slice (some ⟨w.heap.size, 0, none⟩) 1 1)).alloc (.cells #[.int .i64 x] 3)).ownsRow (w.setCell ⟨A, 1, none⟩ (.slice (some ⟨w.heap.size, 0, none⟩) 1 1)).heap.size 3 1 (.slice (some ⟨(w.setCell ⟨A, 1, none⟩ (.slice (some ⟨w.heap.size, 0, none⟩) 1 1)).heap.size, 0, none⟩) 1 1) 1 [.int .i64 x] := World.ownsRow_lit _ #[.int .i64 x] 1 (Nat.le_refl _) (by decide) rfl
  simp only [World.size_setCell] at hlit
  refine ⟨?_, ((ownsRow_setCell_below h.o0 h.lt _).alloc _).drew, (own_base hlit hb).drew, ((ownsRow_setCell_below h.o2 h.lt _).alloc _).drew, d0, h.d02, d2, h.lt⟩
  have := ((h.blk.set 1 (.slice (some ⟨w.heap.size, 0, none⟩) 1 1)).alloc (.cells #[.int .i64 x] 3)).drew
  simpa using this

section
variable {P : Program} {ops : Array Oper} {o : Oper} {a : Act} {Q : Exit → Act → World → Prop} {w : World}
/-- 'append([]T{x}, l...)' of a row that the call owns, as a step of a region that draws its order. -/
theorem step_prepend {K : Act → World → Prop} {E : Prop} (hgd : o.guard = none) (s x : Operand) (t : TypeId)
    (ho : o.op = .call { callee := .builtin .append, args := #[s, x], argTypes := #[t, t] })
    (base : Nat) (e : TypeId) (z : Value) (bytes : Nat) (ht : P.underlying t = some (.slice e)) (hinfo : (P.info? e).map (fun i => (i.zero, i.size, i.bytes)) = some (some z, 1, bytes)) (hzs : z.cells.size = 1)
    (hs : a.eval s = .slice (some ⟨w.heap.size, 0, none⟩) 1 1) (u : Value) (h1 : u.oneCell' = true)
    (B m c : Nat) (xs : List Value) (hx : a.eval x = .slice (some ⟨B, 0, none⟩) m c) (hown : w.ownsRow base e 1 (.slice (some ⟨B, 0, none⟩) m c) m xs) (h1s : ∀ u ∈ xs, u.oneCell' = true)
    (hm : 0 < m) (h63 : m + 1 ≤ maxLen) (hbytes : (1 + m) * bytes ≤ 140737488355328)
    (h : ∀ g cap w', w'.ownsRow w.heap.size e 1 (.slice (some ⟨g, 0, none⟩) (1 + m) cap) (1 + m) (u :: xs) → Mod (fun _ => False) w w' → K (a.put o.dst (.slice (some ⟨g, 0, none⟩) (1 + m) cap)) w') :
    if Region.wanted o (yielded ops a.tmps) = true then Oper.wp P o a (w.alloc (.cells #[u] e)).drew K Q else E := by
  obtain ⟨i, hi, hz, hsize, hby⟩ := info_parts hinfo
  have hl : xs.length = m := by have := hown.1; simpa using this
  have hB := (hown.lt B rfl).2
  have hlit : (w.alloc (.cells #[u] e)).ownsRow w.heap.size e 1 (.slice (some ⟨w.heap.size, 0, none⟩) 1 1) 1 [u] := World.ownsRow_lit _ #[u] 1 (Nat.le_refl _) (by decide) rfl
  refine step_append_lies _ hgd s x t ho w.heap.size e i z 1 bytes ht hi hz hsize hby hzs (by decide) _ 1 [u] hs hlit.drew ⟨B, 0, none⟩ m c xs hx (by omega) ?_ h1s hm (by omega) hbytes (by simp) (w.heap.size + 1) (by simp) ?_
  · intro j v hj
    have hj2 : j < xs.length := by
      rcases Nat.lt_or_ge j xs.length with h | h
      · exact h
      · rw [List.getElem?_eq_none h] at hj; cases hj
    have ee : (⟨B, 0, none⟩ : Addr).add j = ⟨B, j, none⟩ := by
      unfold Addr.add
      split <;> simp_all
    rw [ee]
    have := hown.cellAt j (by omega)
    rw [hj] at this
    show (w.alloc (.cells #[u] e)).cell? ⟨B, j, none⟩ = some v
    rw [World.cell?_alloc_past _ _ _ hB]
    exact this
  · intro g cap w' hown' hg _ _
    refine h g cap w' hown' ?_
    refine (((Mod.refl (fun _ => False) w).alloc (.cells #[u] e)).drew).grown hg (fun k hk => Or.inr ?_)
    have : w.heap.size = k := by simpa [Value.ownBlock] using hk
    omega
end

end Go.Proofs.Ytonnooenebfbeaa
