/- append of one element to a slice that the call owns, as one law for the walk and one for a region that draws its order. -/
import Derived.Test.YtonnooenebfbeaaBase
import Derived.Deep.AppendLies
namespace Go.Proofs.Ytonnooenebfbeaa
open Go.RowKit

/-- Block b, known whole, none of it frozen. -/
def Blk (w : World) (b : Nat) (cs : Array Value) (t : TypeId) : Prop := w.heap[b]? = some (.cells cs t (0, 0))
namespace Blk
variable {w w' : World} {b : Nat} {cs : Array Value} {t : TypeId}
theorem made (w : World) (cs : Array Value) (t : TypeId) : Blk (w.alloc (.cells cs t)) w.heap.size cs t := heap_alloc_new w _
theorem lt (h : Blk w b cs t) : b < w.heap.size := by
  obtain ⟨hlt, _⟩ := Array.getElem?_eq_some_iff.1 h
  exact hlt
theorem later (h : Blk w b cs t) {S : Nat → Prop} (m : Mod S w w') (hS : ¬ S b) : Blk w' b cs t := (m.block b h.lt hS).trans h
theorem alloc (h : Blk w b cs t) (o : Obj) : Blk (w.alloc o) b cs t := (Below.heap_alloc _ _ _ h.lt).trans h
theorem drew (h : Blk w b cs t) : Blk w.drew b cs t := h
theorem drewN (h : Blk w b cs t) (n : Nat) : Blk (w.drewN n) b cs t := h
theorem cell (h : Blk w b cs t) (i : Nat) : w.cell? ⟨b, i, none⟩ = cs[i]? := by
  simp only [Blk] at h
  simp [World.cell?, h]
theorem fz (h : Blk w b cs t) (i : Nat) : w.frozen? ⟨b, i, none⟩ = false := by
  simp only [Blk] at h
  simp [World.frozen?, h]
theorem set (h : Blk w b cs t) (i : Nat) (v : Value) : Blk (w.setCell ⟨b, i, none⟩ v) b (cs.setIfInBounds i v) t := by
  simp only [Blk] at h ⊢
  simp [World.setCell, Array.getElem?_modify, h]
theorem setOther (h : Blk w b cs t) {a : Addr} (ha : b ≠ a.block) (v : Value) : Blk (w.setCell a v) b cs t := (Below.heap_setCell _ _ _ _ ha).trans h
end Blk

section
variable {P : Program} {ops : Array Oper} {rest : List Oper} {o : Oper} {a : Act} {Q : Exit → Act → World → Prop} {w : World}

/-- The new element lies in a block of its own. -/
theorem wpList_appendE (hgd : o.guard = none) (s x : Operand) (t : TypeId)
    (ho : o.op = .call { callee := .builtin .append, args := #[s, x], argTypes := #[t, t] })
    (base : Nat) (e : TypeId) (z : Value) (size bytes : Nat) (ht : P.underlying t = some (.slice e)) (hinfo : (P.info? e).map (fun i => (i.zero, i.size, i.bytes)) = some (some z, size, bytes)) (hzs : z.cells.size = size) (hsz : 0 < size)
    (v : Value) (n : Nat) (xs : List Value) (hs : a.eval s = v) (hown : w.ownsRow base e size v n xs) (cs : Array Value) (hcs : cs.size = size)
    (hx : a.eval x = .slice (some ⟨w.heap.size, 0, none⟩) 1 1) (h1 : ∀ u ∈ cs.toList, u.oneCell' = true)
    (h63 : n + 1 ≤ maxLen) (hbytes : (n + 1) * bytes ≤ 140737488355328) (hbase : base ≤ w.heap.size)
    (h : ∀ g cap w', w'.ownsRow base e size (.slice (some ⟨g, 0, none⟩) (n + 1) cap) (n + 1) (xs ++ cs.toList) → Mod (fun k => v.ownBlock = some k) w w' → (v.ownBlock = some g ∨ w.heap.size < g) →
      wpList P ops Q rest (a.put o.dst (.slice (some ⟨g, 0, none⟩) (n + 1) cap)) w') :
    wpList P ops Q (o :: rest) a (w.alloc (.cells cs e)) := by
  obtain ⟨i, hi, hz, hsize, hby⟩ := info_parts hinfo
  refine wpList_append_lies (w.alloc (.cells cs e)) hgd s x t ho base e i z size bytes ht hi hz hsize hby hzs hsz v n xs hs (hown.alloc _) ⟨w.heap.size, 0, none⟩ 1 1 cs.toList hx (by simp [hcs]) ?_ h1 (by decide) h63 hbytes (by simp; omega) (w.heap.size + 1) (by simp) ?_
  · exact World.news_of_block (cs := cs) (t := e) (fr := (0, 0)) (heap_alloc_new w _)
  · intro g cap w' hown' hg hat _
    exact h g cap w' hown' (((Mod.refl _ w).alloc _).grown hg (fun k hk => Or.inl hk)) (hat.imp id (fun h => by omega))

/-- The same as a step of a region that draws its order. -/
theorem step_appendE {K : Act → World → Prop} {E : Prop} (hgd : o.guard = none) (s x : Operand) (t : TypeId)
    (ho : o.op = .call { callee := .builtin .append, args := #[s, x], argTypes := #[t, t] })
    (base : Nat) (e : TypeId) (z : Value) (size bytes : Nat) (ht : P.underlying t = some (.slice e)) (hinfo : (P.info? e).map (fun i => (i.zero, i.size, i.bytes)) = some (some z, size, bytes)) (hzs : z.cells.size = size) (hsz : 0 < size)
    (v : Value) (n : Nat) (xs : List Value) (hs : a.eval s = v) (hown : w.ownsRow base e size v n xs) (cs : Array Value) (hcs : cs.size = size)
    (hx : a.eval x = .slice (some ⟨w.heap.size, 0, none⟩) 1 1) (h1 : ∀ u ∈ cs.toList, u.oneCell' = true)
    (h63 : n + 1 ≤ maxLen) (hbytes : (n + 1) * bytes ≤ 140737488355328) (hbase : base ≤ w.heap.size)
    (h : ∀ g cap w', w'.ownsRow base e size (.slice (some ⟨g, 0, none⟩) (n + 1) cap) (n + 1) (xs ++ cs.toList) → Mod (fun k => v.ownBlock = some k) w w' → (v.ownBlock = some g ∨ w.heap.size < g) →
      K (a.put o.dst (.slice (some ⟨g, 0, none⟩) (n + 1) cap)) w') :
    if Region.wanted o (yielded ops a.tmps) = true then Oper.wp P o a (w.alloc (.cells cs e)).drew K Q else E := by
  obtain ⟨i, hi, hz, hsize, hby⟩ := info_parts hinfo
  refine step_append_lies _ hgd s x t ho base e i z size bytes ht hi hz hsize hby hzs hsz v n xs hs (hown.alloc _).drew ⟨w.heap.size, 0, none⟩ 1 1 cs.toList hx (by simp [hcs]) ?_ h1 (by decide) h63 hbytes (by simp; omega) (w.heap.size + 1) (by simp) ?_
  · exact World.news_of_block (cs := cs) (t := e) (fr := (0, 0)) (heap_alloc_new w _)
  · intro g cap w' hown' hg hat _
    exact h g cap w' hown' ((((Mod.refl _ w).alloc _).drew).grown hg (fun k hk => Or.inl hk)) (hat.imp id (fun h => by omega))
end

end Go.Proofs.Ytonnooenebfbeaa
