/- Contracts of the reference: Same of layer 5, Set of layer 8. -/
import Derived.Test.YtonnooenebfbeaaRefC
import Derived.Test.YtonnooenebfbeaaGrow
import Derived.Test.YtonnooenebfbeaaSnakeW
import Derived.Test.YtonnooenebfbeaaSlices
namespace Go.Proofs.Ytonnooenebfbeaa
open Go.RowKit

theorem ints_getR {xs : List Int} {k : Nat} {x : Int} (h : xs[k]? = some x) : (xs.map (Value.int .i64)).getD k undef = .int .i64 x := by
  simp only [List.getD_eq_getElem?_getD, List.getElem?_map, h]; rfl


/-- What Set makes of a row, behind what it has. -/
def Cfg.setF (c : Cfg) : List Int → List Int → List Int
  | out, [] => out
  | out, x :: l => if um x c.nodes ∈ out then c.setF out l else c.setF (out ++ [um x c.nodes]) l
def Cfg.setL (c : Cfg) (l : List Int) (m : Nat) : List Int := c.setF [] (l.take m)

theorem Cfg.setF_spec {c : Cfg} (hc : c.Ok) : ∀ (l out : List Int), out.Nodup → (∀ x ∈ out, c.is x = true) → (c.setF out l).Nodup ∧ (∀ x ∈ c.setF out l, c.is x = true) ∧ (c.setF out l).length ≤ out.length + l.length := by
  intro l
  induction l with
  | nil => intro out h1 h2; exact ⟨h1, h2, by simp [Cfg.setF]⟩
  | cons x l ih =>
    intro out h1 h2
    simp only [Cfg.setF]
    split
    · obtain ⟨a, b, d⟩ := ih out h1 h2
      exact ⟨a, b, by simp; omega⟩
    · rename_i h
      have h3 : (out ++ [um x c.nodes]).Nodup := by
        rw [List.nodup_append]
        refine ⟨h1, by simp, ?_⟩
        intro a ha b hb
        simp only [List.mem_singleton] at hb
        subst hb
        intro e
        exact h (e ▸ ha)
      have h4 : ∀ y ∈ out ++ [um x c.nodes], c.is y = true := by
        intro y hy
        rcases List.mem_append.1 hy with hy | hy
        · exact h2 y hy
        · simp only [List.mem_singleton] at hy
          subst hy
          exact Cfg.um_is hc x
      obtain ⟨a, b, d⟩ := ih _ h3 h4
      refine ⟨a, b, ?_⟩
      simp only [List.length_append, List.length_cons, List.length_nil] at d ⊢
      omega
theorem Cfg.setL_spec {c : Cfg} (hc : c.Ok) (l : List Int) (m : Nat) : (c.setL l m).Nodup ∧ (∀ x ∈ c.setL l m, c.is x = true) ∧ (c.setL l m).length ≤ m := by
  obtain ⟨a, b, d⟩ := Cfg.setF_spec hc (l.take m) [] (by simp) (by simp)
  refine ⟨a, b, Nat.le_trans d ?_⟩
  simp
  omega

set_option maxRecDepth 100000 in
set_option maxHeartbeats 3200000 in
theorem ref_SetN (c : Cfg) (v : Value) (l : List Int) (m : Nat) (w : World) (hc : c.Ok) (hs : SlV w v (l.map (Value.int .i64))) (hm : m ≤ 1000) :
    Calls Try.prog 17 #[.agg c.cells, v, .int .i64 m] w fun e w' => ∃ r, e = .returned r ∧ Mod (fun _ => False) w w' ∧ SlV w' r ((c.setL l m).map (Value.int .i64)) ∧ ∀ i, r.ownBlock = some i → w.heap.size ≤ i ∧ i < w'.heap.size := by
  have kb := Blk.made w c.cells 25
  have m0 : Mod (fun _ => False) w (w.alloc (.cells c.cells 25)) := (Mod.refl _ _).alloc _
  obtain ⟨a, len, cap, rfl, hl, hcap, hmax, -⟩ := id hs
  rw [List.length_map] at hl
  have HS := Lib.hid (hs.later m0 (by simp))
  have HL := Lib.hid hl
  unfold maxLen at hmax
  clear hs hl
  obtain ⟨L, hL⟩ : ∃ L, L = l.take m := ⟨_, rfl⟩
  have hLl : L.length = min m len := by rw [hL, ← HL.out]; simp
  have hset : c.setL l m = c.setF [] L := by rw [hL]; rfl
  have hLg : ∀ k, k < m → L[k]? = l[k]? := by intro k hk; rw [hL, List.getElem?_take, if_pos hk]
  have HLL := Lib.hid hLl
  have HSE := Lib.hid hset
  have HLG := Lib.hid hLg
  clear hL hLl hset hLg
  simp only [Cfg.cells] at kb m0 HS ⊢
  go_enter Try.func17, Try.ntmps17
  go_wp2
  generalize w.alloc (.cells #[.int .i64 c.W, .int .i64 c.H, .int .i64 c.Lanes, .int .i64 c.Depth, .int .i64 c.Ring, .int .i64 c.Inbox, .int .i64 c.Bound, .bool c.West, .bool c.Cast] 25) = w1 at kb m0 HS ⊢
  have lb := kb.lt
  go_loopw [7, 8] (fun o i wr => ∃ (k : Nat) (out : List Int), k ≤ len ∧ k ≤ m ∧ out.length ≤ k ∧ i = .int .i64 k ∧ wr.ownsRow w1.heap.size 3 1 o out.length (out.map (Value.int .i64)) ∧ Mod (fun q => w1.heap.size ≤ q) w1 wr ∧ c.setF out (L.drop k) = c.setL l m) (fun _ i _ => len - (intOf i).toNat)
  case atStart => exact ⟨0, [], by omega, by omega, by simp, by simp, World.ownsRow_nil _ _ _ _, Mod.refl _ _, by rw [HSE.out]; rfl⟩
  case round =>
    obtain ⟨k, out, hk, hkm, hol, rfl, hown, hmod, hxs⟩ := hrel
    obtain ⟨wA, rfl⟩ : ∃ wo : World, wo = wr := ⟨_, rfl⟩
    have HX := Lib.hid hxs
    have MA : Mod (fun _ => False) w wA := m0.trans hmod (fun i hi h => by omega)
    have kA := kb.later hmod (by omega)
    clear hxs
    by_cases hlt : k < len
    · by_cases hltm : k < m
      · obtain ⟨x, hx⟩ : ∃ x, l[k]? = some x := ⟨_, List.getElem?_eq_getElem (by have := HL.out; omega)⟩
        obtain ⟨B, off, rfl, hB, dx⟩ := HS.out.at k hlt
        rw [ints_getR hx] at dx
        have dx := (hmod.cell (p := ⟨B, off + k, none⟩) hB (Nat.not_le.2 hB)).trans dx
        have hBA : B < wA.heap.size := Nat.lt_of_lt_of_le hB hmod.size
        have hdr : L.drop k = x :: L.drop (k + 1) := by
          have h1 : L[k]? = some x := (HLG.out k hltm).trans hx
          obtain ⟨h2, h3⟩ := List.getElem?_eq_some_iff.1 h1
          rw [List.drop_eq_getElem_cons h2, h3]
        have hX2 : (if um x c.nodes ∈ out then c.setF out (L.drop (k + 1)) else c.setF (out ++ [um x c.nodes]) (L.drop (k + 1))) = c.setL l m := by rw [← HX.out, hdr]; rfl
        have HX2 := Lib.hid hX2
        clear hx hdr hX2 HX
        have b0 : (0 : Int) ≤ (k : Int) := by omega
        have b1 : (k : Int) < (len : Int) := by omega
        obtain ⟨c0, c1, c2, c3, c4, c5, c6, c7, c8⟩ := cfg_cells kA
        go_wp2
        go_upto_region 5 with fail
        go_cut [9] (fun v w' => v = .int .i64 (um x c.nodes) ∧ Mod (fun _ => False) wA w')
        case first =>
          go_region_held3 (fun w' => w'.cell? ⟨B, off + k, none⟩ = some (.int .i64 x) ∧ w'.cell? ⟨w.heap.size, 0, none⟩ = some (Value.int .i64 c.W) ∧ w'.cell? ⟨w.heap.size, 1, none⟩ = some (Value.int .i64 c.H) ∧ w'.cell? ⟨w.heap.size, 2, none⟩ = some (Value.int .i64 c.Lanes) ∧ w'.cell? ⟨w.heap.size, 3, none⟩ = some (Value.int .i64 c.Depth) ∧ w'.cell? ⟨w.heap.size, 4, none⟩ = some (Value.int .i64 c.Ring) ∧ w'.cell? ⟨w.heap.size, 5, none⟩ = some (Value.int .i64 c.Inbox) ∧ w'.cell? ⟨w.heap.size, 6, none⟩ = some (Value.int .i64 c.Bound) ∧ w'.cell? ⟨w.heap.size, 7, none⟩ = some (Value.bool c.West) ∧ w'.cell? ⟨w.heap.size, 8, none⟩ = some (Value.bool c.Cast))
            (first
              | go_keep
              | exact ⟨(m9.cell hBA (by simp)).trans dx, cfg_cells (kA.drew.later m9 (by simp))⟩)
            ((go_at_call_of 16 x; refine (ref_Node c x _ hc).mono ?_; rintro e w9 ⟨rfl, m9⟩))
          all_goals go_wp2_with fail
          all_goals go_meet
          all_goals exact ⟨rfl, (Mod.refl _ _).drew.trans m9 (by simp)⟩
        case rest =>
          obtain ⟨rfl, m10⟩ := hcut
          obtain ⟨wB, rfl⟩ : ∃ wo : World, wo = wc := ⟨_, rfl⟩
          have hmB := hmod.trans m10 (by simp)
          have hownB := own_later hown m10
          clear m10 dx hBA kA hown hmod MA c0 c1 c2 c3 c4 c5 c6 c7 c8 hB
          generalize um x c.nodes = n at HX2 ⊢
          go_wp2
          go_loopw [10, 11] (fun h i wr => ∃ j : Nat, j ≤ out.length ∧ i = .int .i64 j ∧ h = .bool (decide (n ∈ out.take j)) ∧ wr = wB) (fun _ i _ => out.length - (intOf i).toNat)
          case atStart => exact ⟨0, by omega, by simp, by simp, rfl⟩
          case round =>
            obtain ⟨j, hj, rfl, rfl, rfl⟩ := hrel
            have so := SlV.own hownB
            obtain ⟨ao, no, co, rfl, hno, -, -, -⟩ := id so
            obtain rfl : no = out.length := by simpa using hno.symm
            by_cases hjl : j < out.length
            · obtain ⟨y, hy⟩ : ∃ y, out[j]? = some y := ⟨_, List.getElem?_eq_getElem hjl⟩
              have htk : out.take (j + 1) = out.take j ++ [y] := by
                rw [List.take_add_one, hy]; rfl
              obtain ⟨Bo, oo, rfl, hBo, dy⟩ := so.at j hjl
              rw [ints_getR hy] at dy
              have hmem : (n ∈ out.take (j + 1)) ↔ (n ∈ out.take j ∨ n = y) := by rw [htk]; simp
              have HM := Lib.hid hmem
              have HY := Lib.hid hy
              clear hy htk hmem so hno
              have e0 : (0 : Int) ≤ (j : Int) := by omega
              have e1 : (j : Int) < (out.length : Int) := by omega
              by_cases hin : n ∈ out.take j
              · have hd : decide (n ∈ out.take j) = true := by simp [hin]
                have hd1 : decide (n ∈ out.take (j + 1)) = true := by simp [HM.out, hin]
                have HD1 := Lib.hid hd1
                rw [hd]
                clear hin hd hd1
                go_wp2
                go_roundw
                case rel => exact ⟨j + 1, by omega, by go_num, by rw [HD1.out], trivial⟩
                case measure => simp [intOf]; omega
              · have hd : decide (n ∈ out.take j) = false := by simp [hin]
                have hd1 : decide (n ∈ out.take (j + 1)) = (y == n) := by
                  by_cases h : n = y
                  · rw [decide_eq_true (HM.out.2 (Or.inr h)), h]; simp
                  · have h' : ¬ y = n := fun e => h e.symm
                    simp [HM.out, h, h', hin]
                have HD1 := Lib.hid hd1
                rw [hd]
                clear hin hd hd1
                go_wp2
                go_roundw
                case rel => exact ⟨j + 1, by omega, by go_num, by rw [HD1.out], trivial⟩
                case measure => simp [intOf]; omega
            · obtain rfl : j = out.length := by omega
              rw [List.take_length]
              clear so hno
              by_cases hin : n ∈ out
              · have hd : decide (n ∈ out) = true := by simp [hin]
                have hX3 : c.setF out (L.drop (k + 1)) = c.setL l m := by have := HX2.out; rw [if_pos hin] at this; exact this
                have HX3 := Lib.hid hX3
                rw [hd]
                clear hin hd hX3 HX2
                go_wp2
                go_roundw
                case rel => exact ⟨k + 1, out, by omega, by omega, by omega, by go_num, hownB, hmB, HX3.out⟩
                case measure => simp [intOf]; omega
              · have hd : decide (n ∈ out) = false := by simp [hin]
                have hX3 : c.setF (out ++ [n]) (L.drop (k + 1)) = c.setL l m := by have := HX2.out; rw [if_neg hin] at this; exact this
                have HX3 := Lib.hid hX3
                rw [hd]
                clear hin hd hX3 HX2
                have hs6 := hmB.size
                have hlow6 := fun i e => (hownB.lt i e).1
                go_wp2_with (at_builtin; refine wpList_appendE rfl _ _ 39 rfl w1.heap.size 3 (.int .i64 0) 1 8 Try.underlying39 info_int' rfl (by decide) _ _ _ rfl hownB #[_] rfl rfl (by simp [Value.oneCell']) (by unfold maxLen; omega) (by omega) (by omega) ?_; intro g cap wz hown7 hm7 hat7)
                have hmod7 := hmB.trans (S := fun q => w1.heap.size ≤ q) hm7 (fun i hi hs => hlow6 i hs)
                have hown8 : wz.ownsRow w1.heap.size 3 1 (.slice (some ⟨g, 0, none⟩) (out.length + 1) cap) (out ++ [n]).length ((out ++ [n]).map (Value.int .i64)) := by simpa using hown7
                clear hownB hown7 hm7 hmB hlow6
                go_wp2
                go_roundw
                case rel => exact ⟨k + 1, out ++ [n], by omega, by omega, by simp; omega, by go_num, hown8, hmod7, HX3.out⟩
                case measure => simp [intOf]; omega
      · have hfin : out = c.setL l m := by
          rw [← HX.out, List.drop_eq_nil_of_le (by have := HLL.out; omega)]
          rfl
        rw [hfin] at hown
        have HO := Lib.hid (SlV.own hown)
        have hlow := fun i e => And.intro (Nat.le_trans m0.size (hown.lt i e).1) (hown.lt i e).2
        clear hfin hown
        go_wp2
        go_ret
        exact ⟨_, rfl, MA, HO.out, hlow⟩
    · have hfin : out = c.setL l m := by
        rw [← HX.out, List.drop_eq_nil_of_le (by have := HLL.out; omega)]
        rfl
      rw [hfin] at hown
      have HO := Lib.hid (SlV.own hown)
      have hlow := fun i e => And.intro (Nat.le_trans m0.size (hown.lt i e).1) (hown.lt i e).2
      clear hfin hown
      go_wp2
      go_ret
      exact ⟨_, rfl, MA, HO.out, hlow⟩

theorem ref_Set (c : Cfg) (v : Value) (l : List Int) (m : Nat) (w : World) (hc : c.Ok) (hs : SlV w v (l.map (Value.int .i64))) (hm : m ≤ 1000) :
    Calls Try.prog 17 #[.agg c.cells, v, .int .i64 m] w fun e w' => ∃ r, e = .returned r ∧ Mod (fun _ => False) w w' ∧ SlV w' r ((c.setL l m).map (Value.int .i64)) :=
  (ref_SetN c v l m w hc hs hm).mono fun _ _ ⟨r, he, h, h', _⟩ => ⟨r, he, h, h'⟩

end Go.Proofs.Ytonnooenebfbeaa
