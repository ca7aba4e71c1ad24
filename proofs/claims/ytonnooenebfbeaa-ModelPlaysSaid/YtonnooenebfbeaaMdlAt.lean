/- A model as one thing: where it lies (own: its blocks), what it holds (a state of queues, numbers under way, closed nodes), and what each call makes of it. -/
import Derived.Test.YtonnooenebfbeaaMdlCast
import Derived.Test.YtonnooenebfbeaaMdlTook
import Derived.Test.YtonnooenebfbeaaMdlQueue
namespace Go.Proofs.Ytonnooenebfbeaa
open Go.RowKit

structure MS where
  Q : Int → Int → List ByteArray
  U : List Int
  C : List Bool

theorem MdlIn.mono {w : World} {b bq bu bc : Nat} {f : Int → Int → Value} {c : Cfg} {k m : Nat} {Q : Int → Int → List ByteArray} {U : List Int} {C : List Bool} (h : MdlIn w b bq bu bc f c k Q U C) (hk : k ≤ m) : MdlIn w b bq bu bc f c m Q U C :=
  ⟨h.blk, h.map.mono hk, h.ub, h.cb, h.ul, h.cl, h.qs, h.dis, h.sep, h.ne, fun i j => Nat.le_trans (h.qk i j) hk, fun u hu => by have := h.uk u hu; omega⟩

/-- A model of the config c at block b, of the blocks own; at most k entries. -/
def MdlAt (w : World) (b : Nat) (c : Cfg) (k : Nat) (s : MS) (own : Nat → Prop) : Prop :=
  ∃ bq bu bc f, MdlIn w b bq bu bc f c k s.Q s.U s.C ∧ own = own4 b bq bu bc f

theorem MdlAt.later {w w' : World} {b : Nat} {c : Cfg} {k : Nat} {s : MS} {own : Nat → Prop} (h : MdlAt w b c k s own) {S : Nat → Prop} (m : Mod S w w') (hS : ∀ g, own g → ¬ S g) : MdlAt w' b c k s own := by
  obtain ⟨bq, bu, bc, f, hm, rfl⟩ := h
  exact ⟨bq, bu, bc, f, hm.later m hS, rfl⟩
theorem MdlAt.mono {w : World} {b : Nat} {c : Cfg} {k m : Nat} {s : MS} {own : Nat → Prop} (h : MdlAt w b c k s own) (hk : k ≤ m) : MdlAt w b c m s own := by
  obtain ⟨bq, bu, bc, f, hm, rfl⟩ := h
  exact ⟨bq, bu, bc, f, hm.mono hk, rfl⟩
theorem MdlAt.own_lt {w : World} {b : Nat} {c : Cfg} {k : Nat} {s : MS} {own : Nat → Prop} (h : MdlAt w b c k s own) {g : Nat} (hg : own g) : g < w.heap.size := by
  obtain ⟨bq, bu, bc, f, hm, rfl⟩ := h
  exact hm.own_lt hg

def MS.may (c : Cfg) (s : MS) (n : Int) : Int := mayE c s.C n
def MS.sendE (c : Cfg) (s : MS) (src dst : Int) (d : ByteArray) : Int := Go.Proofs.Ytonnooenebfbeaa.sendE c s.U s.C src dst d.size
def MS.castE (c : Cfg) (s : MS) (src : Int) (set : List Int) (d : ByteArray) : Int := Go.Proofs.Ytonnooenebfbeaa.castE c s.U s.C src set d.size
def MS.tookE (c : Cfg) (s : MS) (node src dst : Int) (d : ByteArray) : Int := Go.Proofs.Ytonnooenebfbeaa.tookE c s.Q node src dst d
def MS.send (c : Cfg) (s : MS) (src dst : Int) (d : ByteArray) : MS := if s.sendE c src dst d = 0 then ⟨updQ s.Q src dst (s.Q src dst ++ [d]), s.U.set src.toNat (s.U.getD src.toNat 0 + 1), s.C⟩ else s
def MS.cast (c : Cfg) (s : MS) (src : Int) (set : List Int) (d : ByteArray) : MS := if s.castE c src set d = 0 then ⟨putQ s.Q src d set, s.U.set src.toNat (s.U.getD src.toNat 0 + set.length), s.C⟩ else s
def MS.took (c : Cfg) (s : MS) (node src dst : Int) (d : ByteArray) : MS := if s.tookE c node src dst d = 0 then ⟨updQ s.Q src node (s.Q src node).tail, s.U.set src.toNat (s.U.getD src.toNat 0 - 1), s.C⟩ else s
def MS.close (c : Cfg) (s : MS) (n : Int) : MS := if s.may c n = 0 then ⟨s.Q, s.U, s.C.set n.toNat true⟩ else s
def MS.under (c : Cfg) (s : MS) (n : Int) : Int := underV c s.U n
def MS.empty (s : MS) : Bool := !s.U.any fun n => decide (0 < n)

theorem at_Send {w : World} {b : Nat} {c : Cfg} {k : Nat} {s : MS} {own : Nat → Prop} (src dst : Int) (data : ByteArray) (h : MdlAt w b c k s own) (hk : k ≤ 100000) (hdata : data.size ≤ 4294967295) (hB : 0 ≤ c.Bound ∧ c.Bound ≤ 16) :
    Calls Try.prog 11 #[.pointer (some ⟨b, 0, none⟩), .int .i64 src, .int .i64 dst, .string data] w fun e w' =>
      ∃ own', e = .returned (.int .i64 (s.sendE c src dst data)) ∧ MdlAt w' b c (k + 12) (s.send c src dst data) own' ∧ Mod own w w' ∧ ∀ g, own' g → own g ∨ w.heap.size ≤ g := by
  obtain ⟨bq, bu, bc, f, hm, rfl⟩ := h
  refine (run_Send src dst data w hm hk hdata hB).mono ?_
  rintro e w' ⟨he, (⟨h0, m⟩ | ⟨h0, m, f', hm', ho⟩)⟩
  · refine ⟨own4 b bq bu bc f, he, ?_, m.mono (fun _ _ e => e.elim), fun g hg => Or.inl hg⟩
    unfold MS.send
    rw [if_neg (show ¬ s.sendE c src dst data = 0 from h0)]
    exact ⟨bq, bu, bc, f, (hm.later m (by simp)).mono (by omega), rfl⟩
  · refine ⟨own4 b bq bu bc f', he, ?_, m, ho⟩
    unfold MS.send
    rw [if_pos (show s.sendE c src dst data = 0 from h0)]
    exact ⟨bq, bu, bc, f', hm'.mono (by omega), rfl⟩

theorem at_Multicast {w : World} {b : Nat} {c : Cfg} {k : Nat} {s : MS} {own : Nat → Prop} (src : Int) (v : Value) (set : List Int) (data : ByteArray) (h : MdlAt w b c k s own) (hk : k ≤ 100000) (hs : SlV w v (set.map (Value.int .i64))) (hlen : set.length ≤ 12) (hdata : data.size ≤ 4294967295) (hB : 0 ≤ c.Bound ∧ c.Bound ≤ 16) (hsep : ∀ a n c, v = .slice (some a) n c → ¬ own a.block) :
    Calls Try.prog 18 #[.pointer (some ⟨b, 0, none⟩), .int .i64 src, v, .string data] w fun e w' =>
      ∃ own', e = .returned (.int .i64 (s.castE c src set data)) ∧ MdlAt w' b c (k + 12) (s.cast c src set data) own' ∧ Mod own w w' ∧ ∀ g, own' g → own g ∨ w.heap.size ≤ g := by
  obtain ⟨bq, bu, bc, f, hm, rfl⟩ := h
  refine (run_Multicast src v set data w hm hk hs hlen hdata hB hsep).mono ?_
  rintro e w' ⟨he, (⟨h0, m⟩ | ⟨h0, m, f', hm', ho⟩)⟩
  · refine ⟨own4 b bq bu bc f, he, ?_, m.mono (fun _ _ e => e.elim), fun g hg => Or.inl hg⟩
    unfold MS.cast
    rw [if_neg (show ¬ s.castE c src set data = 0 from h0)]
    exact ⟨bq, bu, bc, f, (hm.later m (by simp)).mono (by omega), rfl⟩
  · refine ⟨own4 b bq bu bc f', he, ?_, m, ho⟩
    unfold MS.cast
    rw [if_pos (show s.castE c src set data = 0 from h0)]
    exact ⟨bq, bu, bc, f', hm'.mono (by omega), rfl⟩

theorem at_Took {w : World} {b : Nat} {c : Cfg} {k : Nat} {s : MS} {own : Nat → Prop} (node src dst sq : Int) (data : ByteArray) (h : MdlAt w b c k s own) (hk : k ≤ 100000) :
    Calls Try.prog 12 #[.pointer (some ⟨b, 0, none⟩), .int .i64 node, .agg #[.int .i64 src, .int .i64 dst, .int .i64 sq, .string data]] w fun e w' =>
      ∃ own', e = .returned (.int .i64 (s.tookE c node src dst data)) ∧ MdlAt w' b c (k + 12) (s.took c node src dst data) own' ∧ Mod own w w' ∧ ∀ g, own' g → own g ∨ w.heap.size ≤ g := by
  obtain ⟨bq, bu, bc, f, hm, rfl⟩ := h
  refine (run_Took node src dst sq data w hm hk).mono ?_
  rintro e w' ⟨he, (⟨h0, m⟩ | ⟨h0, m, f', hm', ho⟩)⟩
  · refine ⟨own4 b bq bu bc f, he, ?_, m.mono (fun _ _ e => e.elim), fun g hg => Or.inl hg⟩
    unfold MS.took
    rw [if_neg (show ¬ s.tookE c node src dst data = 0 from h0)]
    exact ⟨bq, bu, bc, f, (hm.later m (by simp)).mono (by omega), rfl⟩
  · refine ⟨own4 b bq bu bc f', he, ?_, m, ho⟩
    unfold MS.took
    rw [if_pos (show s.tookE c node src dst data = 0 from h0)]
    exact ⟨bq, bu, bc, f', hm'.mono (by omega), rfl⟩

theorem at_Close {w : World} {b : Nat} {c : Cfg} {k : Nat} {s : MS} {own : Nat → Prop} (n : Int) (h : MdlAt w b c k s own) :
    Calls Try.prog 26 #[.pointer (some ⟨b, 0, none⟩), .int .i64 n] w fun e w' =>
      ∃ own', e = .returned (.int .i64 (s.may c n)) ∧ MdlAt w' b c (k + 12) (s.close c n) own' ∧ Mod own w w' ∧ ∀ g, own' g → own g ∨ w.heap.size ≤ g := by
  obtain ⟨bq, bu, bc, f, hm, rfl⟩ := h
  refine (run_Close n w hm).mono ?_
  rintro e w' ⟨he, (⟨h0, m⟩ | ⟨h0, m, hm'⟩)⟩
  · refine ⟨own4 b bq bu bc f, he, ?_, m.mono (fun _ _ e => e.elim), fun g hg => Or.inl hg⟩
    unfold MS.close
    rw [if_neg (show ¬ s.may c n = 0 from h0)]
    exact ⟨bq, bu, bc, f, (hm.later m (by simp)).mono (by omega), rfl⟩
  · refine ⟨own4 b bq bu bc f, he, ?_, m.mono (fun g _ e => by subst e; exact Or.inr (Or.inr (Or.inr (Or.inl rfl)))), fun g hg => Or.inl hg⟩
    unfold MS.close
    rw [if_pos (show s.may c n = 0 from h0)]
    exact ⟨bq, bu, bc, f, hm'.mono (by omega), rfl⟩

theorem at_Queue {w : World} {b : Nat} {c : Cfg} {k : Nat} {s : MS} {own : Nat → Prop} (src dst : Int) (h : MdlAt w b c k s own) (hk : k ≤ 100000) (hs : (Lit.int .i64 src).wf = true) (hd : (Lit.int .i64 dst).wf = true) :
    Calls Try.prog 21 #[.pointer (some ⟨b, 0, none⟩), .int .i64 src, .int .i64 dst] w fun e w' => ∃ r, e = .returned r ∧ Mod (fun _ => False) w w' ∧ SlV w' r ((s.Q src dst).map Value.string) := by
  obtain ⟨bq, bu, bc, f, hm, rfl⟩ := h
  exact run_Queue src dst w hm hk hs hd
theorem at_Under {w : World} {b : Nat} {c : Cfg} {k : Nat} {s : MS} {own : Nat → Prop} (n : Int) (h : MdlAt w b c k s own) :
    Calls Try.prog 13 #[.pointer (some ⟨b, 0, none⟩), .int .i64 n] w fun e w' => e = .returned (.int .i64 (s.under c n)) ∧ Mod (fun _ => False) w w' := by
  obtain ⟨bq, bu, bc, f, hm, rfl⟩ := h
  exact run_Under n w hm
theorem at_Empty {w : World} {b : Nat} {c : Cfg} {k : Nat} {s : MS} {own : Nat → Prop} (h : MdlAt w b c k s own) :
    Calls Try.prog 14 #[.pointer (some ⟨b, 0, none⟩)] w fun e w' => e = .returned (.bool s.empty) ∧ Mod (fun _ => False) w w' := by
  obtain ⟨bq, bu, bc, f, hm, rfl⟩ := h
  exact run_Empty w hm

def MS.new (c : Cfg) : MS := ⟨fun _ _ => [], List.replicate c.nodes.toNat 0, List.replicate c.nodes.toNat false⟩
theorem at_Open (c : Cfg) (w : World) (hc : c.Ok) :
    Calls Try.prog 10 #[.agg c.cells] w fun e w' => ∃ b own, e = .returned (.tuple #[.pointer (some ⟨b, 0, none⟩), .int .i64 0]) ∧ Mod (fun _ => False) w w' ∧ MdlAt w' b c 0 (MS.new c) own ∧ ∀ g, own g → w.heap.size ≤ g := by
  refine (run_MOpen c w).mono ?_
  have h0 : c.chk = 0 := c.chk_iff.2 hc
  rintro e w' ⟨p, rfl, m, (⟨h1, -⟩ | ⟨-, b, bq, bu, bc, rfl, hm, ho⟩)⟩
  · exact absurd h0 h1
  · rw [h0]
    exact ⟨b, own4 b bq bu bc _, rfl, m, ⟨bq, bu, bc, _, hm, rfl⟩, ho⟩

end Go.Proofs.Ytonnooenebfbeaa
