/- The reference's model in memory; what it answers without a change: is, Under, Queue. -/
import Derived.Test.YtonnooenebfbeaaMdlRef
namespace Go.Proofs.Ytonnooenebfbeaa
open Go.RowKit

/-- A packet under way: by whom, to whom, what. -/
abbrev RP := Int × Int × ByteArray
def rcells (p : RP) : List Value := [.int .i64 p.1, .int .i64 p.2.1, .int .i64 0, .string p.2.2]
def rowsP (L : List RP) : List Value := L.flatMap rcells
theorem rowsP_len (L : List RP) : (rowsP L).length = L.length * 4 := by
  induction L with
  | nil => rfl
  | cons x L ih => simp only [rowsP, List.flatMap_cons, List.length_append, List.length_cons] at ih ⊢; rw [ih]; simp [rcells]; omega
theorem rowsP_app (L M : List RP) : rowsP (L ++ M) = rowsP L ++ rowsP M := by simp [rowsP]
theorem rowsP_get {L : List RP} {j : Nat} {p : RP} (h : L[j]? = some p) {i : Nat} (hi : i < 4) : (rowsP L)[j * 4 + i]? = (rcells p)[i]? := by
  induction L generalizing j with
  | nil => simp at h
  | cons x L ih =>
    have e : rowsP (x :: L) = rcells x ++ rowsP L := rfl
    rw [e]
    cases j with
    | zero =>
      simp at h
      subst h
      rw [List.getElem?_append_left (by simp [rcells]; omega)]
      simp
    | succ j =>
      simp at h
      rw [List.getElem?_append_right (by simp [rcells]; omega), show (j + 1) * 4 + i - (rcells x).length = j * 4 + i by simp [rcells]; omega]
      exact ih h
theorem rowsP_take (L : List RP) (k : Nat) : rowsP (L.take k) = (rowsP L).take (k * 4) := by
  induction L generalizing k with
  | nil => simp [rowsP]
  | cons x L ih =>
    cases k with
    | zero => simp [rowsP]
    | succ k =>
      have e : ∀ M, rowsP (x :: M) = rcells x ++ rowsP M := fun _ => rfl
      rw [List.take_succ_cons, e, e, ih k, List.take_append, show (k + 1) * 4 - (rcells x).length = k * 4 by simp only [rcells, List.length_cons, List.length_nil]; omega, List.take_of_length_le (l := rcells x) (by simp only [rcells, List.length_cons, List.length_nil]; omega)]
theorem rowsP_drop (L : List RP) (k : Nat) : rowsP (L.drop k) = (rowsP L).drop (k * 4) := by
  induction L generalizing k with
  | nil => simp [rowsP]
  | cons x L ih =>
    cases k with
    | zero => simp
    | succ k =>
      have e : ∀ M, rowsP (x :: M) = rcells x ++ rowsP M := fun _ => rfl
      rw [List.drop_succ_cons, e, ih k, List.drop_append, show (k + 1) * 4 - (rcells x).length = k * 4 by simp only [rcells, List.length_cons, List.length_nil]; omega, List.drop_of_length_le (l := rcells x) (by simp only [rcells, List.length_cons, List.length_nil]; omega)]
      rfl
theorem rowsP_one {L : List RP} : ∀ u ∈ rowsP L, u.oneCell' = true := by
  intro u hu
  obtain ⟨p, -, hp⟩ := List.mem_flatMap.1 hu
  simp [rcells] at hp
  rcases hp with rfl | rfl | rfl | rfl <;> rfl

def qOf (L : List RP) (s d : Int) : List ByteArray := (L.filter fun p => decide (p.1 = s) && decide (p.2.1 = d)).map (·.2.2)
def uOf (L : List RP) (s : Int) : Nat := L.countP fun p => decide (p.1 = s)

structure RefIn (w : World) (b bc : Nat) (v : Value) (c : Cfg) (k : Nat) (L : List RP) (C : List Bool) : Prop where
  blk : Blk w b #[.int .i64 c.W, .int .i64 c.H, .int .i64 c.Lanes, .int .i64 c.Depth, .int .i64 c.Ring, .int .i64 c.Inbox, .int .i64 c.Bound, .bool c.West, .bool c.Cast, v, .slice (some ⟨bc, 0, none⟩) C.length C.length] 59
  row : w.ownsRow 0 36 4 v L.length (rowsP L)
  cb : Blk w bc (C.map Value.bool).toArray 4
  cl : (C.length : Int) = c.nodes
  ne : b ≠ bc
  sep : ∀ g, v.ownBlock = some g → g ≠ b ∧ g ≠ bc
  lk : L.length ≤ k

def own3 (b bc : Nat) (v : Value) : Nat → Prop := fun g => g = b ∨ g = bc ∨ v.ownBlock = some g

theorem own_laterR {w w' : World} {base : Nat} {e : TypeId} {size : Nat} {v : Value} {n : Nat} {xs : List Value} (h : w.ownsRow base e size v n xs) {S : Nat → Prop} (m : Mod S w w') (hS : ∀ g, v.ownBlock = some g → ¬ S g) : w'.ownsRow base e size v n xs := by
  refine ⟨h.1, ?_⟩
  rcases h.2 with h2 | ⟨g, cap, cur, hv, hb, hh, r⟩
  · exact Or.inl h2
  · refine Or.inr ⟨g, cap, cur, hv, hb, ?_, r⟩
    rw [m.block g (Array.getElem?_eq_some_iff.1 hh).1 (hS g (by rw [hv]; rfl))]
    exact hh
theorem own_lt' {w : World} {base : Nat} {e : TypeId} {size : Nat} {v : Value} {n : Nat} {xs : List Value} (h : w.ownsRow base e size v n xs) {g : Nat} (hg : v.ownBlock = some g) : g < w.heap.size := by
  rcases h.2 with ⟨rfl, -⟩ | ⟨g', cap, cur, rfl, hb, hh, r⟩
  · cases hg
  · obtain rfl : g' = g := by simpa [Value.ownBlock] using hg
    exact (Array.getElem?_eq_some_iff.1 hh).1
/-- What a slice that is owned looks like, at one of its cells. -/
theorem own_at {w : World} {base : Nat} {e : TypeId} {size : Nat} {v : Value} {n : Nat} {xs : List Value} (h : w.ownsRow base e size v n xs) {j : Nat} (hj : j < xs.length) :
    ∃ g cap, v = .slice (some ⟨g, 0, none⟩) n cap ∧ g < w.heap.size ∧ n ≤ cap ∧ cap ≤ maxLen ∧ ∀ i, i < xs.length → w.cell? ⟨g, i, none⟩ = xs[i]? := by
  rcases h.2 with ⟨rfl, h0⟩ | ⟨g, cap, cur, rfl, hb, hh, hc, hm, hs, ht⟩
  · have := h.1
    subst h0
    simp at this
    simp [this] at hj
  · refine ⟨g, cap, rfl, (Array.getElem?_eq_some_iff.1 hh).1, hc, hm, fun i hi => ?_⟩
    have hl := h.1
    have h1 : xs[i]? = cur[i]? := by
      rw [← ht, List.getElem?_take, if_pos (by omega)]
      simp
    rw [h1]
    simp [World.cell?, hh]
theorem own_nil' {w : World} {base : Nat} {e : TypeId} {size : Nat} {v : Value} {xs : List Value} (h : w.ownsRow base e size v 0 xs) : ∃ a cap, v = .slice a 0 cap ∧ cap ≤ maxLen := by
  rcases h.2 with ⟨rfl, h0⟩ | ⟨g, cap, cur, rfl, hb, hh, hc, hm, hs, ht⟩
  · exact ⟨_, _, rfl, by decide⟩
  · exact ⟨_, _, rfl, hm⟩
theorem own_formM {w : World} {base : Nat} {e : TypeId} {size : Nat} {v : Value} {n : Nat} {xs : List Value} (h : w.ownsRow base e size v n xs) : ∃ a cap, v = .slice a n cap ∧ n ≤ cap ∧ cap ≤ maxLen := by
  rcases h.2 with ⟨rfl, h0⟩ | ⟨g, cap, cur, rfl, hb, hh, hc, hm, hs, ht⟩
  · exact ⟨_, _, by rw [h0], by omega, by decide⟩
  · exact ⟨_, _, rfl, hc, hm⟩

section
variable {w : World} {b bc : Nat} {v : Value} {c : Cfg} {k : Nat} {L : List RP} {C : List Bool}

theorem RefIn.later {w' : World} (h : RefIn w b bc v c k L C) {S : Nat → Prop} (m : Mod S w w') (hS : ∀ g, own3 b bc v g → ¬ S g) : RefIn w' b bc v c k L C :=
  ⟨h.blk.later m (hS _ (Or.inl rfl)), own_laterR h.row m (fun g hg => hS _ (Or.inr (Or.inr hg))), h.cb.later m (hS _ (Or.inr (Or.inl rfl))), h.cl, h.ne, h.sep, h.lk⟩
theorem RefIn.own_lt (h : RefIn w b bc v c k L C) {g : Nat} (hg : own3 b bc v g) : g < w.heap.size := by
  rcases hg with rfl | rfl | hg
  · exact h.blk.lt
  · exact h.cb.lt
  · exact own_lt' h.row hg
theorem RefIn.mono {m : Nat} (h : RefIn w b bc v c k L C) (hk : k ≤ m) : RefIn w b bc v c m L C :=
  ⟨h.blk, h.row, h.cb, h.cl, h.ne, h.sep, Nat.le_trans h.lk hk⟩

theorem ref_cells (h : RefIn w b bc v c k L C) :
    w.cell? ⟨b, 0, none⟩ = some (.int .i64 c.W) ∧ w.cell? ⟨b, 1, none⟩ = some (.int .i64 c.H) ∧ w.cell? ⟨b, 2, none⟩ = some (.int .i64 c.Lanes) ∧ w.cell? ⟨b, 3, none⟩ = some (.int .i64 c.Depth) ∧ w.cell? ⟨b, 4, none⟩ = some (.int .i64 c.Ring) ∧ w.cell? ⟨b, 5, none⟩ = some (.int .i64 c.Inbox) ∧ w.cell? ⟨b, 6, none⟩ = some (.int .i64 c.Bound) ∧ w.cell? ⟨b, 7, none⟩ = some (.bool c.West) ∧ w.cell? ⟨b, 8, none⟩ = some (.bool c.Cast) ∧
    w.cell? ⟨b, 9, none⟩ = some v ∧ w.cell? ⟨b, 10, none⟩ = some (.slice (some ⟨bc, 0, none⟩) C.length C.length) := by
  have hb := h.blk
  refine ⟨?_, ?_, ?_, ?_, ?_, ?_, ?_, ?_, ?_, ?_, ?_⟩ <;> (rw [hb.cell]; rfl)

set_option maxHeartbeats 800000 in
theorem run_RIs (n : Int) (h : RefIn w b bc v c k L C) :
    Calls Try.prog 42 #[.pointer (some ⟨b, 0, none⟩), .int .i64 n] w fun e w' => e = .returned (.bool (c.is n)) ∧ w' = w := by
  obtain ⟨c0, c1, c2, c3, c4, c5, c6, c7, c8, c9, c10⟩ := ref_cells h
  have hcl := h.cl
  have hii := c.is_iff n
  clear h
  cases hn : c.is n with
  | true =>
    rw [hn] at hii
    obtain ⟨h0, h1⟩ := hii.1 rfl
    have h2 : n < (C.length : Int) := by omega
    clear hii
    go_enter Try.func42, Try.ntmps42
    go_wp2
    go_ret
    exact ⟨by simp, rfl⟩
  | false =>
    rw [hn] at hii
    have h0 : ¬ (0 ≤ n ∧ n < (C.length : Int)) := fun h => by
      have := hii.2 ⟨by omega, by omega⟩
      cases this
    clear hii
    by_cases h1 : 0 ≤ n
    · go_enter Try.func42, Try.ntmps42
      go_wp2
      go_ret
      exact ⟨by simp; omega, rfl⟩
    · go_enter Try.func42, Try.ntmps42
      go_wp2
      go_ret
      exact ⟨by simp, rfl⟩

theorem uOf_step {L : List RP} {k : Nat} {p : RP} (h : L[k]? = some p) (s : Int) : uOf (L.take (k + 1)) s = uOf (L.take k) s + if p.1 = s then 1 else 0 := by
  unfold uOf
  rw [List.take_add_one, h]
  simp [List.countP_append, List.countP_cons]
theorem uOf_le (L : List RP) (k : Nat) (s : Int) : uOf (L.take k) s ≤ k := by
  unfold uOf
  refine Nat.le_trans List.countP_le_length ?_
  simp
  omega

set_option maxHeartbeats 1600000 in
theorem run_RUnder (s : Int) (h : RefIn w b bc v c k L C) (hk : k ≤ 100000) :
    Calls Try.prog 30 #[.pointer (some ⟨b, 0, none⟩), .int .i64 s] w fun e w' => e = .returned (.int .i64 (uOf L s)) ∧ Drw w w' := by
  obtain ⟨c0, c1, c2, c3, c4, c5, c6, c7, c8, c9, c10⟩ := ref_cells h
  have hlk := h.lk
  obtain ⟨a, cap, rfl, hcap, hmax⟩ := own_formM h.row
  have H := Lib.hid h
  obtain ⟨n, hn⟩ : ∃ n, L.length = n := ⟨_, rfl⟩
  rw [hn] at c9 hlk hcap
  have HN := Lib.hid hn
  clear h hn
  unfold maxLen at hmax
  go_enter Try.func30, Try.ntmps30
  go_wp2
  go_loopw [5, 6] (fun q i wr => ∃ j : Nat, j ≤ n ∧ q = .int .i64 (uOf (L.take j) s) ∧ i = .int .i64 j ∧ Drw w wr) (fun _ i _ => n - (intOf i).toNat)
  case atStart => exact ⟨0, by omega, by simp [uOf], by simp, Drw.refl _⟩
  case round =>
    obtain ⟨j, hj, rfl, rfl, hd⟩ := hrel
    obtain ⟨wA, rfl⟩ : ∃ wo : World, wo = wr := ⟨_, rfl⟩
    have c9 := (hd.cell ⟨b, 9, none⟩).trans c9
    by_cases hlt : j < n
    · obtain ⟨p, hp⟩ : ∃ p, L[j]? = some p := ⟨_, List.getElem?_eq_getElem (by have := HN.out; omega)⟩
      obtain ⟨g, cap', e, hg, -, -, hcell⟩ := own_at H.out.row (j := 0) (by rw [rowsP_len, HN.out]; omega)
      have e : a = some ⟨g, 0, none⟩ := by simp at e; exact e.1
      subst e
      have d0 := (hd.cell ⟨g, j * 4 + 0, none⟩).trans ((hcell (j * 4 + 0) (by rw [rowsP_len, HN.out]; omega)).trans (rowsP_get hp (by decide)))
      simp [rcells] at d0
      have hst := uOf_step hp s
      have hle := uOf_le L j s
      generalize uOf (L.take j) s = q at hst hle ⊢
      have HST := Lib.hid hst
      clear hst hcell hp
      have b0 : (0 : Int) ≤ (j : Int) := by omega
      have b1 : (j : Int) < (n : Int) := by omega
      by_cases hps : p.1 = s
      · have hq : (p.1 == s) = true := beq_iff_eq.2 hps
        have HPS := Lib.hid hps
        clear hps
        go_wp2
        go_roundw
        case rel => exact ⟨j + 1, by omega, by rw [HST.out, if_pos HPS.out]; go_num, by go_num, hd⟩
        case measure => simp [intOf]; omega
      · have hq : (p.1 == s) = false := beq_eq_false_iff_ne.2 hps
        have HPS := Lib.hid hps
        clear hps
        go_wp2
        go_roundw
        case rel => exact ⟨j + 1, by omega, by rw [HST.out, if_neg HPS.out]; go_num, by go_num, hd⟩
        case measure => simp [intOf]; omega
    · obtain rfl : j = n := by omega
      have hall : uOf (L.take j) s = uOf L s := by rw [List.take_of_length_le (by rw [HN.out]; exact Nat.le_refl _)]
      have HA := Lib.hid hall
      clear hall
      go_wp2
      go_ret
      exact ⟨ret_int (by rw [HA.out]), hd⟩

theorem qOf_step {L : List RP} {k : Nat} {p : RP} (h : L[k]? = some p) (s d : Int) : qOf (L.take (k + 1)) s d = qOf (L.take k) s d ++ if p.1 = s ∧ p.2.1 = d then [p.2.2] else [] := by
  unfold qOf
  rw [List.take_add_one, h]
  simp only [Option.toList_some, List.filter_append, List.map_append]
  congr 1
  by_cases h1 : p.1 = s <;> by_cases h2 : p.2.1 = d <;> simp [h1, h2]
theorem qOf_len (L : List RP) (k : Nat) (s d : Int) : (qOf (L.take k) s d).length ≤ k := by
  unfold qOf
  rw [List.length_map]
  refine Nat.le_trans (List.length_filter_le _ _) ?_
  simp
  omega
theorem info_str : (Try.prog.info? 9).map (fun i => (i.zero, i.size, i.bytes)) = some (some (.string ⟨#[]⟩), 1, 16) := by kernel_rfl

set_option maxHeartbeats 3200000 in
theorem run_RQueue (s d : Int) (h : RefIn w b bc v c k L C) (hk : k ≤ 100000) :
    Calls Try.prog 28 #[.pointer (some ⟨b, 0, none⟩), .int .i64 s, .int .i64 d] w fun e w' => ∃ r, e = .returned r ∧ Mod (fun _ => False) w w' ∧ SlV w' r ((qOf L s d).map Value.string) := by
  obtain ⟨c0, c1, c2, c3, c4, c5, c6, c7, c8, c9, c10⟩ := ref_cells h
  have hlk := h.lk
  obtain ⟨a, cap, rfl, hcap, hmax⟩ := own_formM h.row
  have hbl := h.blk.lt
  have H := Lib.hid h
  obtain ⟨n, hn⟩ : ∃ n, L.length = n := ⟨_, rfl⟩
  rw [hn] at c9 hlk hcap
  have HN := Lib.hid hn
  clear h hn
  unfold maxLen at hmax
  go_enter Try.func28, Try.ntmps28
  go_wp2
  go_loopw [7, 8] (fun o i wr => ∃ j : Nat, j ≤ n ∧ i = .int .i64 j ∧ wr.ownsRow w.heap.size 9 1 o (qOf (L.take j) s d).length ((qOf (L.take j) s d).map Value.string) ∧ Mod (fun q => w.heap.size ≤ q) w wr) (fun _ i _ => n - (intOf i).toNat)
  case atStart => exact ⟨0, by omega, by simp, by simp [qOf]; exact World.ownsRow_nil _ _ _ _, Mod.refl _ _⟩
  case round =>
    obtain ⟨j, hj, rfl, hown, hm⟩ := hrel
    obtain ⟨wA, rfl⟩ : ∃ wo : World, wo = wr := ⟨_, rfl⟩
    have m0 : Mod (fun _ => False) w wA := ⟨hm.os, hm.tape, hm.output, hm.size, fun i hi _ => hm.block i hi (by omega)⟩
    have c9 := (m0.cell (p := ⟨b, 9, none⟩) hbl (by simp)).trans c9
    by_cases hlt : j < n
    · obtain ⟨p, hp⟩ : ∃ p, L[j]? = some p := ⟨_, List.getElem?_eq_getElem (by have := HN.out; omega)⟩
      obtain ⟨g, cap', e, hg, -, -, hcell⟩ := own_at H.out.row (j := 0) (by rw [rowsP_len, HN.out]; omega)
      have e : a = some ⟨g, 0, none⟩ := by simp at e; exact e.1
      subst e
      have d0 := (m0.cell (p := ⟨g, j * 4 + 0, none⟩) hg (by simp)).trans ((hcell (j * 4 + 0) (by rw [rowsP_len, HN.out]; omega)).trans (rowsP_get hp (by decide)))
      have d1 := (m0.cell (p := ⟨g, j * 4 + 1, none⟩) hg (by simp)).trans ((hcell (j * 4 + 1) (by rw [rowsP_len, HN.out]; omega)).trans (rowsP_get hp (by decide)))
      have d3 := (m0.cell (p := ⟨g, j * 4 + 3, none⟩) hg (by simp)).trans ((hcell (j * 4 + 3) (by rw [rowsP_len, HN.out]; omega)).trans (rowsP_get hp (by decide)))
      simp [rcells] at d0 d1 d3
      have hst := qOf_step hp s d
      have hle := qOf_len L j s d
      generalize qOf (L.take j) s d = q at hst hle hown ⊢
      have HST := Lib.hid hst
      clear hst hcell hp
      have b0 : (0 : Int) ≤ (j : Int) := by omega
      have b1 : (j : Int) < (n : Int) := by omega
      have hsz := hm.size
      by_cases hps : p.1 = s
      · have hq : (p.1 == s) = true := beq_iff_eq.2 hps
        have HPS := Lib.hid hps
        clear hps
        by_cases hpd : p.2.1 = d
        · have hq2 : (p.2.1 == d) = true := beq_iff_eq.2 hpd
          have HPD := Lib.hid hpd
          clear hpd
          go_wp2_with (at_builtin; refine wpList_append1 rfl _ _ 48 rfl w.heap.size 9 (.string ⟨#[]⟩) 16 Try.underlying48 info_str rfl _ _ _ rfl hown _ rfl rfl (by unfold maxLen; omega) (by omega) (by omega) ?_; intro v7 wz hown7 hm7)
          go_roundw
          case rel =>
            have hlo := fun i e => (hown.lt i e).1
            refine ⟨j + 1, by omega, by go_num, ?_, hm.trans hm7 (fun i hi e => hlo i e)⟩
            rw [HST.out, if_pos ⟨HPS.out, HPD.out⟩, List.map_append, List.length_append]
            exact hown7
          case measure => simp [intOf]; omega
        · have hq2 : (p.2.1 == d) = false := beq_eq_false_iff_ne.2 hpd
          have HPD := Lib.hid hpd
          clear hpd
          go_wp2
          go_roundw
          case rel =>
            refine ⟨j + 1, by omega, by go_num, ?_, hm⟩
            rw [HST.out, if_neg (fun h => HPD.out h.2), List.append_nil]
            exact hown
          case measure => simp [intOf]; omega
      · have hq : (p.1 == s) = false := beq_eq_false_iff_ne.2 hps
        have HPS := Lib.hid hps
        clear hps
        go_wp2
        go_roundw
        case rel =>
          refine ⟨j + 1, by omega, by go_num, ?_, hm⟩
          rw [HST.out, if_neg (fun h => HPS.out h.1), List.append_nil]
          exact hown
        case measure => simp [intOf]; omega
    · obtain rfl : j = n := by omega
      have hall : qOf (L.take j) s d = qOf L s d := by rw [List.take_of_length_le (by rw [HN.out]; exact Nat.le_refl _)]
      rw [hall] at hown
      have hs := SlV.own hown
      have HS := Lib.hid hs
      clear hall hs hown
      go_wp2
      go_ret
      exact ⟨_, rfl, m0, HS.out⟩
end

end Go.Proofs.Ytonnooenebfbeaa
