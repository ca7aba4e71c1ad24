/- A map from pairs of numbers to slices, as a function: looked up, stored. -/
import Derived.Test.YtonnooenebfbeaaBase
import Derived.Maps.Keyed
import Derived.WideKeyPair
import Derived.DeepKeys4
namespace Go.Proofs.Ytonnooenebfbeaa
open Go.RowKit Go.WideMaps Go.ChangeMaps

theorem laidOutM : laidOutB Try.prog = true := by kernel_rfl
theorem key2_arr : ArrKey Try.prog 31 3 2 := ⟨Try.underlying31, by kernel_rfl, by kernel_rfl, by kernel_rfl⟩
set_option maxRecDepth 100000 in
theorem key2 : Maps.Keyed Try.prog 31 := Maps.Keyed.of_law (deep_law_laid laidOutM (m := 2) (by omega) (of_decide_eq_true (by kernel_rfl)) (by kernel_rfl) key2_arr.wide)
theorem types_pos : 0 < Try.prog.types.size := of_decide_eq_true (by kernel_rfl)
theorem key2_of {i j : Int} (hi : (Lit.int .i64 i).wf = true) (hj : (Lit.int .i64 j).wf = true) : ∃ l, keyOf Try.prog 31 (.agg #[.int .i64 i, .int .i64 j]) = some l :=
  ⟨_, keyOf_pair key2_arr Try.underlying3 ⟨Try.prog.types.size - 1, by have := types_pos; omega⟩ hi hj⟩
theorem zeroQ (w : World) : (zeroValue 48).run Try.prog w = .ok (.slice none 0 0) w := by kernel_rfl

def pairK (i j : Int) : Value := .agg #[.int .i64 i, .int .i64 j]
theorem pairK_inj {i j i' j' : Int} (h : pairK i j = pairK i' j') : i = i' ∧ j = j' := by
  simp [pairK] at h
  exact h
def upd2 (f : Int → Int → Value) (i j : Int) (v : Value) : Int → Int → Value := fun a b => if a = i ∧ b = j then v else f a b

/-- Block b is a map of at most n entries that gives f. -/
def MapV (w : World) (b n : Nat) (f : Int → Int → Value) : Prop :=
  ∃ es clock, w.heap[b]? = some (.map es clock) ∧ es.size ≤ n ∧ (es.toList.map (·.key)).Nodup ∧ ((es.toList.map (·.born)).Nodup ∧ ∀ e ∈ es.toList, e.born < clock) ∧
    (∀ e ∈ es.toList, ∃ i j : Int, (Lit.int .i64 i).wf = true ∧ (Lit.int .i64 j).wf = true ∧ e.key = pairK i j ∧ e.val = f i j) ∧
    (∀ i j, (∀ e ∈ es.toList, e.key ≠ pairK i j) → f i j = .slice none 0 0)

theorem MapV.made (w : World) : MapV (w.alloc (.map #[] 0)) w.heap.size 0 (fun _ _ => .slice none 0 0) :=
  ⟨#[], 0, (MapKept.heap_alloc w _).1, Nat.le_refl _, by simp, ⟨by simp, by simp⟩, by simp, fun _ _ _ => rfl⟩
theorem MapV.lt {w : World} {b n : Nat} {f : Int → Int → Value} (h : MapV w b n f) : b < w.heap.size := by
  obtain ⟨es, clock, hb, _⟩ := h
  exact (Array.getElem?_eq_some_iff.1 hb).1
theorem MapV.later {w w' : World} {b n : Nat} {f : Int → Int → Value} (h : MapV w b n f) {S : Nat → Prop} (m : Mod S w w') (hS : ¬ S b) : MapV w' b n f := by
  have hl := h.lt
  obtain ⟨es, clock, hb, r⟩ := h
  exact ⟨es, clock, (m.block b hl hS).trans hb, r⟩
theorem MapV.mono {w : World} {b n m : Nat} {f : Int → Int → Value} (h : MapV w b n f) (hm : n ≤ m) : MapV w b m f := by
  obtain ⟨es, clock, hb, hn, r⟩ := h
  exact ⟨es, clock, hb, Nat.le_trans hn hm, r⟩

theorem MapV.lookup {w : World} {b n : Nat} {f : Int → Int → Value} (h : MapV w b n f) {i j : Int} (hi : (Lit.int .i64 i).wf = true) (hj : (Lit.int .i64 j).wf = true) :
    (Instr.lookup 64 (.map (some b)) (.agg #[.int .i64 i, .int .i64 j]) false).run Try.prog w = .ok (f i j) w := by
  obtain ⟨es, clock, hb, -, -, -, hv, hz⟩ := h
  obtain ⟨l, hl⟩ := key2_of hi hj
  have hks : ∀ e ∈ es.toList, ∃ l, keyOf Try.prog 31 e.key = some l := fun e he => by
    obtain ⟨a, b, ha, hb, hk, -⟩ := hv e he
    rw [hk]
    exact key2_of ha hb
  rcases key2.find w hl es.toList hks with ⟨h1, h2⟩ | ⟨q, e0, h1, h2, h3⟩
  · simp [Instr.lookup, run_underlying Try.underlying64, MapKept.run_getObj_map hb, key2.check w _ hl, h1, zeroQ, Result.andThen]
    exact (hz i j h2).symm
  · have hm : e0 ∈ es.toList := List.mem_of_getElem? h2
    obtain ⟨a, b', -, -, hk, hval⟩ := hv e0 hm
    rw [h3] at hk
    obtain ⟨rfl, rfl⟩ := pairK_inj (show pairK i j = pairK a b' from hk)
    simp [Instr.lookup, run_underlying Try.underlying64, MapKept.run_getObj_map hb, key2.check w _ hl, h1, Result.andThen]
    exact hval

theorem nodup_push {α : Type} {l : List α} {x : α} (h : l.Nodup) (hx : x ∉ l) : (l ++ [x]).Nodup := by
  rw [List.nodup_append]
  refine ⟨h, by simp, fun a ha b hb => ?_⟩
  simp at hb
  subst hb
  rintro rfl
  exact hx ha

theorem MapV.update {w : World} {b n : Nat} {f : Int → Int → Value} (h : MapV w b n f) {i j : Int} (hi : (Lit.int .i64 i).wf = true) (hj : (Lit.int .i64 j).wf = true) (v : Value) :
    ∃ w2, (Instr.mapUpdate 64 (.map (some b)) (.agg #[.int .i64 i, .int .i64 j]) v).run Try.prog w = .ok () w2 ∧ MapV w2 b (n + 1) (upd2 f i j v) ∧ Mod (· = b) w w2 := by
  obtain ⟨es, clock, hb, hn, hnd, ⟨hbd, hbc⟩, hv, hz⟩ := h
  obtain ⟨l, hl⟩ := key2_of hi hj
  have hks : ∀ e ∈ es.toList, ∃ l, keyOf Try.prog 31 e.key = some l := fun e he => by
    obtain ⟨a, b, ha, hb, hk, -⟩ := hv e he
    rw [hk]
    exact key2_of ha hb
  have hmod : ∀ o : Obj, Mod (· = b) w (setBlock w b o) := fun o => ⟨rfl, rfl, rfl, by simp [setBlock], fun k _ hk => heap_setBlock_other hb _ (fun e => hk e)⟩
  rcases key2.find w hl es.toList hks with ⟨h1, h2⟩ | ⟨q, e0, h1, h2, h3⟩
  · refine ⟨setBlock w b (.map (es.push ⟨.agg #[.int .i64 i, .int .i64 j], v, clock⟩) (clock + 1)), ?_, ⟨_, _, heap_setBlock_same hb _, by simp; omega, ?_, ⟨?_, ?_⟩, ?_, ?_⟩, hmod _⟩
    · simp [Instr.mapUpdate, run_underlying Try.underlying64, MapKept.run_getObj_map hb, key2.check w false hl, h1, MapKept.run_setObj_map _ hb, Result.andThen, setBlock]
    · rw [Array.toList_push, List.map_append, List.map_singleton]
      refine nodup_push hnd ?_
      intro hm
      obtain ⟨e, he, hk⟩ := List.mem_map.1 hm
      exact h2 e he hk
    · rw [Array.toList_push, List.map_append, List.map_singleton]
      refine nodup_push hbd ?_
      intro hm
      obtain ⟨e, he, hk⟩ := List.mem_map.1 hm
      have h4 := hbc e he
      have h5 : e.born = clock := hk
      omega
    · intro e he
      rw [Array.toList_push] at he
      rcases List.mem_append.1 he with he | he
      · have := hbc e he
        omega
      · simp at he
        subst he
        simp
    · intro e he
      rw [Array.toList_push] at he
      rcases List.mem_append.1 he with he1 | he
      · obtain ⟨a, b', ha, hb', hk, hval⟩ := hv e he1
        refine ⟨a, b', ha, hb', hk, ?_⟩
        unfold upd2
        rw [if_neg]
        · exact hval
        · rintro ⟨rfl, rfl⟩
          exact h2 e he1 hk
      · simp at he
        subst he
        exact ⟨i, j, hi, hj, rfl, by simp [upd2]⟩
    · intro a b' hne
      have hab : ¬ (a = i ∧ b' = j) := by
        rintro ⟨rfl, rfl⟩
        exact hne ⟨pairK a b', v, clock⟩ (by rw [Array.toList_push]; simp [pairK]) rfl
      unfold upd2
      rw [if_neg hab]
      exact hz a b' (fun e he => hne e (by rw [Array.toList_push]; exact List.mem_append_left _ he))
  · have hj0 : es[q]? = some e0 := by simpa using h2
    have hql : q < es.toList.length := (List.getElem?_eq_some_iff.1 h2).1
    have hqs : q < es.size := by simpa using hql
    have hlist : (es.modify q (fun e' => { e' with key := .agg #[.int .i64 i, .int .i64 j], val := v })).toList = es.toList.set q { e0 with key := .agg #[.int .i64 i, .int .i64 j], val := v } := by
      rw [Array.toList_modify]
      apply List.ext_getElem?
      intro m
      simp only [List.getElem?_modify, List.getElem?_set]
      by_cases hm : q = m
      · subst hm
        rw [h2]
        simp [hqs]
      · simp [hm]
    have he0 : es.toList[q] = e0 := by
      rw [List.getElem?_eq_getElem hql] at h2
      simpa using h2
    have hkeys : (es.toList.set q { e0 with key := .agg #[.int .i64 i, .int .i64 j], val := v }).map (·.key) = es.toList.map (·.key) := by
      have h4 : (.agg #[.int .i64 i, .int .i64 j] : Value) = (es.toList.map (·.key))[q]'(by simpa using hql) := by rw [List.getElem_map, he0, h3]
      rw [List.map_set]
      show (es.toList.map (·.key)).set q (.agg #[.int .i64 i, .int .i64 j]) = _
      rw [h4, List.set_getElem_self]
    have hborn : (es.toList.set q { e0 with key := .agg #[.int .i64 i, .int .i64 j], val := v }).map (·.born) = es.toList.map (·.born) := by
      have h4 : e0.born = (es.toList.map (·.born))[q]'(by simpa using hql) := by rw [List.getElem_map, he0]
      rw [List.map_set]
      show (es.toList.map (·.born)).set q e0.born = _
      rw [h4, List.set_getElem_self]
    refine ⟨setBlock w b (.map (es.modify q (fun e' => { e' with key := .agg #[.int .i64 i, .int .i64 j], val := v })) clock), ?_, ⟨_, _, heap_setBlock_same hb _, by simp; omega, ?_, ⟨by rw [hlist, hborn]; exact hbd, ?_⟩, ?_, ?_⟩, hmod _⟩
    · simp [Instr.mapUpdate, run_underlying Try.underlying64, MapKept.run_getObj_map hb, key2.check w false hl, h1, hj0, h3, key2.stays w hl, MapKept.run_setObj_map _ hb, Result.andThen, setBlock]
    · rw [hlist, hkeys]
      exact hnd
    · intro e he
      rw [hlist] at he
      have hm : e.born ∈ (es.toList.set q { e0 with key := .agg #[.int .i64 i, .int .i64 j], val := v }).map (·.born) := List.mem_map_of_mem he
      rw [hborn] at hm
      obtain ⟨e', he', hk'⟩ := List.mem_map.1 hm
      rw [← hk']
      exact hbc e' he'
    · intro e he
      rw [hlist] at he
      obtain ⟨m, hm, rfl⟩ := List.getElem_of_mem he
      rw [List.getElem_set]
      split
      · exact ⟨i, j, hi, hj, rfl, by simp [upd2]⟩
      · rename_i hne
        have hm' : m < es.toList.length := by simpa using hm
        obtain ⟨a, b', ha, hb', hk, hval⟩ := hv _ (List.getElem_mem hm')
        refine ⟨a, b', ha, hb', hk, ?_⟩
        unfold upd2
        rw [if_neg]
        · exact hval
        · rintro ⟨rfl, rfl⟩
          have h4 := List.pairwise_iff_getElem.1 hnd
          have e1 : es.toList[q].key = es.toList[m].key := by
            rw [List.getElem?_eq_getElem hql] at h2
            simp only [Option.some.injEq] at h2
            rw [h2, h3, hk]
            rfl
          rcases Nat.lt_or_gt_of_ne hne with h5 | h5
          · exact h4 q m (by simpa using hql) (by simpa using hm') h5 (by simpa using e1)
          · exact h4 m q (by simpa using hm') (by simpa using hql) h5 (by simpa using e1.symm)
    · intro a b' hne
      have hmem : { e0 with key := .agg #[.int .i64 i, .int .i64 j], val := v } ∈ es.toList.set q { e0 with key := .agg #[.int .i64 i, .int .i64 j], val := v } := List.mem_iff_getElem.2 ⟨q, by simpa using hql, by simp⟩
      have hab : ¬ (a = i ∧ b' = j) := by
        rintro ⟨rfl, rfl⟩
        exact hne _ (by rw [hlist]; exact hmem) rfl
      unfold upd2
      rw [if_neg hab]
      refine hz a b' (fun e he hk => ?_)
      have hk2 : pairK a b' ∈ es.toList.map (·.key) := List.mem_map.2 ⟨e, he, hk⟩
      rw [← hkeys] at hk2
      obtain ⟨e', he', hk'⟩ := List.mem_map.1 hk2
      exact hne e' (by rw [hlist]; exact he') hk'

/-- The entry that 'm[k] = ..m[k]..' holds on to between its look-up and its store. -/
def EntryAt (w : World) (b born : Nat) (i j : Int) : Prop :=
  ∃ (es : Array MapEntry) (clock q : Nat) (e : MapEntry), w.heap[b]? = some (.map es clock) ∧ es[q]? = some e ∧ e.key = pairK i j ∧ e.born = born
theorem EntryAt.later {w w' : World} {b born : Nat} {i j : Int} (h : EntryAt w b born i j) {S : Nat → Prop} (m : Mod S w w') (hS : ¬ S b) : EntryAt w' b born i j := by
  obtain ⟨es, clock, q, e, hb, r⟩ := h
  exact ⟨es, clock, q, e, (m.block b (Array.getElem?_eq_some_iff.1 hb).1 hS).trans hb, r⟩

theorem MapV.entry {w : World} {b n : Nat} {f : Int → Int → Value} (h : MapV w b n f) {i j : Int} (hi : (Lit.int .i64 i).wf = true) (hj : (Lit.int .i64 j).wf = true) :
    ∃ (w2 : World) (born : Nat), (Instr.mapEntry 64 (.map (some b)) (.agg #[.int .i64 i, .int .i64 j])).run Try.prog w = .ok (.tuple #[f i j, goInt born]) w2 ∧ MapV w2 b (n + 1) f ∧ EntryAt w2 b born i j ∧ Mod (· = b) w w2 := by
  obtain ⟨es, clock, hb, hn, hnd, ⟨hbd, hbc⟩, hv, hz⟩ := h
  obtain ⟨l, hl⟩ := key2_of hi hj
  have hks : ∀ e ∈ es.toList, ∃ l, keyOf Try.prog 31 e.key = some l := fun e he => by
    obtain ⟨a, b, ha, hb, hk, -⟩ := hv e he
    rw [hk]
    exact key2_of ha hb
  have hmod : ∀ o : Obj, Mod (· = b) w (setBlock w b o) := fun o => ⟨rfl, rfl, rfl, by simp [setBlock], fun k _ hk => heap_setBlock_other hb _ (fun e => hk e)⟩
  rcases key2.find w hl es.toList hks with ⟨h1, h2⟩ | ⟨q, e0, h1, h2, h3⟩
  · have hfz : f i j = .slice none 0 0 := hz i j h2
    refine ⟨setBlock w b (.map (es.push ⟨.agg #[.int .i64 i, .int .i64 j], .slice none 0 0, clock⟩) (clock + 1)), clock, ?_, ⟨_, _, heap_setBlock_same hb _, by simp; omega, ?_, ⟨?_, ?_⟩, ?_, ?_⟩, ⟨_, _, es.size, ⟨.agg #[.int .i64 i, .int .i64 j], .slice none 0 0, clock⟩, heap_setBlock_same hb _, by simp, rfl, rfl⟩, hmod _⟩
    · simp [Instr.mapEntry, run_underlying Try.underlying64, MapKept.run_getObj_map hb, key2.check w false hl, h1, zeroQ, MapKept.run_setObj_map _ hb, Result.andThen, setBlock, hfz]
    · rw [Array.toList_push, List.map_append, List.map_singleton]
      refine nodup_push hnd ?_
      intro hm
      obtain ⟨e, he, hk⟩ := List.mem_map.1 hm
      exact h2 e he hk
    · rw [Array.toList_push, List.map_append, List.map_singleton]
      refine nodup_push hbd ?_
      intro hm
      obtain ⟨e, he, hk⟩ := List.mem_map.1 hm
      have h4 := hbc e he
      have h5 : e.born = clock := hk
      omega
    · intro e he
      rw [Array.toList_push] at he
      rcases List.mem_append.1 he with he1 | he
      · have := hbc e he1
        omega
      · simp at he
        subst he
        simp
    · intro e he
      rw [Array.toList_push] at he
      rcases List.mem_append.1 he with he1 | he
      · exact hv e he1
      · simp at he
        subst he
        exact ⟨i, j, hi, hj, rfl, hfz.symm⟩
    · intro a b' hne
      exact hz a b' (fun e he => hne e (by rw [Array.toList_push]; exact List.mem_append_left _ he))
  · have hj0 : es[q]? = some e0 := by simpa using h2
    have hm0 : e0 ∈ es.toList := List.mem_of_getElem? h2
    have hval : e0.val = f i j := by
      obtain ⟨a, b', -, -, hk, hval⟩ := hv e0 hm0
      rw [h3] at hk
      obtain ⟨rfl, rfl⟩ := pairK_inj (show pairK i j = pairK a b' from hk)
      exact hval
    have hsame : es.modify q (fun e' => { e' with key := .agg #[.int .i64 i, .int .i64 j] }) = es := by
      apply Array.ext_getElem?
      intro m
      rw [Array.getElem?_modify]
      by_cases hm : q = m
      · subst hm
        rw [if_pos rfl, hj0]
        simp [← h3]
      · rw [if_neg hm]
    refine ⟨setBlock w b (.map es clock), e0.born, ?_, ⟨es, clock, heap_setBlock_same hb _, by omega, hnd, ⟨hbd, hbc⟩, hv, hz⟩, ⟨es, clock, q, e0, heap_setBlock_same hb _, hj0, h3, rfl⟩, hmod _⟩
    simp [Instr.mapEntry, run_underlying Try.underlying64, MapKept.run_getObj_map hb, key2.check w false hl, h1, hj0, h3, key2.stays w hl, MapKept.run_setObj_map _ hb, Result.andThen, setBlock, hval, hsame]

theorem MapV.store {w : World} {b n : Nat} {f : Int → Int → Value} (h : MapV w b n f) {born : Nat} {i j : Int} (he : EntryAt w b born i j) (v : Value) :
    ∃ w2, (Instr.entryStore 64 (.map (some b)) (goInt born) v).run Try.prog w = .ok () w2 ∧ MapV w2 b n (upd2 f i j v) ∧ Mod (· = b) w w2 := by
  obtain ⟨es, clock, hb, hn, hnd, ⟨hbd, hbc⟩, hv, hz⟩ := h
  obtain ⟨es', clock', q, e0, hb', hj0, h3, h4⟩ := he
  rw [hb] at hb'
  simp only [Option.some.injEq, Obj.map.injEq] at hb'
  obtain ⟨rfl, rfl⟩ := hb'
  have hmod : ∀ o : Obj, Mod (· = b) w (setBlock w b o) := fun o => ⟨rfl, rfl, rfl, by simp [setBlock], fun k _ hk => heap_setBlock_other hb _ (fun e => hk e)⟩
  have h2 : es.toList[q]? = some e0 := by simpa using hj0
  have hql : q < es.toList.length := (List.getElem?_eq_some_iff.1 h2).1
  have hqs : q < es.size := by simpa using hql
  have he0 : es.toList[q] = e0 := by
    rw [List.getElem?_eq_getElem hql] at h2
    simpa using h2
  have hfind : es.findIdx? (fun e => (e.born : Int) == (born : Int)) = some q := by
    rw [Array.findIdx?_eq_some_iff_getElem]
    refine ⟨hqs, ?_, ?_⟩
    · have : es[q] = e0 := by simpa using he0
      rw [this, h4]
      simp
    · intro m hm
      have hml : m < es.toList.length := by simp; omega
      have h5 := List.pairwise_iff_getElem.1 hbd m q (by simpa using hml) (by simpa using hql) hm
      simp at h5
      simp
      intro e
      apply h5
      have : es[q] = e0 := by simpa using he0
      rw [this, h4]
      omega
  have hlist : (es.modify q (fun e' => { e' with val := v })).toList = es.toList.set q { e0 with val := v } := by
    rw [Array.toList_modify]
    apply List.ext_getElem?
    intro m
    simp only [List.getElem?_modify, List.getElem?_set]
    by_cases hm : q = m
    · subst hm
      rw [h2]
      simp [hqs]
    · simp [hm]
  have hkeys : (es.toList.set q { e0 with val := v }).map (·.key) = es.toList.map (·.key) := by
    have h4 : e0.key = (es.toList.map (·.key))[q]'(by simpa using hql) := by rw [List.getElem_map, he0]
    rw [List.map_set]
    show (es.toList.map (·.key)).set q e0.key = _
    rw [h4, List.set_getElem_self]
  have hborn : (es.toList.set q { e0 with val := v }).map (·.born) = es.toList.map (·.born) := by
    have h4 : e0.born = (es.toList.map (·.born))[q]'(by simpa using hql) := by rw [List.getElem_map, he0]
    rw [List.map_set]
    show (es.toList.map (·.born)).set q e0.born = _
    rw [h4, List.set_getElem_self]
  have hwf : (Lit.int .i64 i).wf = true ∧ (Lit.int .i64 j).wf = true := by
    obtain ⟨a, b', ha, hb', hk, -⟩ := hv e0 (List.mem_of_getElem? h2)
    rw [h3] at hk
    obtain ⟨rfl, rfl⟩ := pairK_inj hk
    exact ⟨ha, hb'⟩
  refine ⟨setBlock w b (.map (es.modify q (fun e' => { e' with val := v })) clock), ?_, ⟨_, _, heap_setBlock_same hb _, by simp; omega, by rw [hlist, hkeys]; exact hnd, ⟨by rw [hlist, hborn]; exact hbd, ?_⟩, ?_, ?_⟩, hmod _⟩
  · simp [Instr.entryStore, goInt, asInt, asIntOf, MapKept.run_getObj_map hb, hfind, MapKept.run_setObj_map _ hb, Result.andThen, setBlock]
  · intro e he
    rw [hlist] at he
    have hm : e.born ∈ (es.toList.set q { e0 with val := v }).map (·.born) := List.mem_map_of_mem he
    rw [hborn] at hm
    obtain ⟨e', he', hk'⟩ := List.mem_map.1 hm
    rw [← hk']
    exact hbc e' he'
  · intro e he
    rw [hlist] at he
    obtain ⟨m, hm, rfl⟩ := List.getElem_of_mem he
    rw [List.getElem_set]
    split
    · exact ⟨i, j, hwf.1, hwf.2, h3, by simp [upd2]⟩
    · rename_i hne
      have hm' : m < es.toList.length := by simpa using hm
      obtain ⟨a, b', ha, hb', hk, hval⟩ := hv _ (List.getElem_mem hm')
      refine ⟨a, b', ha, hb', hk, ?_⟩
      unfold upd2
      rw [if_neg]
      · exact hval
      · rintro ⟨rfl, rfl⟩
        have h4 := List.pairwise_iff_getElem.1 hnd
        have e1 : es.toList[q].key = es.toList[m].key := by rw [he0, h3, hk]
        rcases Nat.lt_or_gt_of_ne hne with h5 | h5
        · exact h4 q m (by simpa using hql) (by simpa using hm') h5 (by simpa using e1)
        · exact h4 m q (by simpa using hm') (by simpa using hql) h5 (by simpa using e1.symm)
  · intro a b' hne
    have hmem : { e0 with val := v } ∈ es.toList.set q { e0 with val := v } := List.mem_iff_getElem.2 ⟨q, by simpa using hql, by simp⟩
    have hab : ¬ (a = i ∧ b' = j) := by
      rintro ⟨rfl, rfl⟩
      exact hne { e0 with val := v } (by rw [hlist]; exact hmem) h3
    unfold upd2
    rw [if_neg hab]
    refine hz a b' (fun e he hk => ?_)
    have hk2 : pairK a b' ∈ es.toList.map (·.key) := List.mem_map.2 ⟨e, he, hk⟩
    rw [← hkeys] at hk2
    obtain ⟨e', he', hk'⟩ := List.mem_map.1 hk2
    exact hne e' (by rw [hlist]; exact he') hk'

end Go.Proofs.Ytonnooenebfbeaa
