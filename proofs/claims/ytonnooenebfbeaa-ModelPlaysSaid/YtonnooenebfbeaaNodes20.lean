/- reticuleref20.Nodes: numbers of nodes, made of any. -/
import Derived.Test.YtonnooenebfbeaaRefD
import Derived.Test.YtonnooenebfbeaaGrowN
namespace Go.Proofs.Ytonnooenebfbeaa
open Go.RowKit

def Cfg.node20 (c : Cfg) (x : Int) : Int := if 999 < x ∨ x < 0 then x else um x c.nodes
def Cfg.nodes20 (c : Cfg) (l : List Int) : List Int := (l.take 6).map c.node20

theorem Cfg.nodes20_step {c : Cfg} {l : List Int} {k : Nat} {x : Int} (hx : l[k]? = some x) (hk : k < 6) : ((l.take (k + 1)).map c.node20) = ((l.take k).map c.node20) ++ [c.node20 x] := by
  rw [List.take_add_one, hx]
  simp

set_option maxRecDepth 100000 in
set_option maxHeartbeats 3200000 in
theorem ref_Nodes20 (c : Cfg) (v : Value) (l : List Int) (w : World) (hc : c.Ok) (hs : SlV w v (l.map (Value.int .i64))) :
    Calls Try.prog 41 #[.agg c.cells, v] w fun e w' => ∃ r, e = .returned r ∧ Mod (fun _ => False) w w' ∧ SlV w' r ((c.nodes20 l).map (Value.int .i64)) ∧ ∀ i, r.ownBlock = some i → w.heap.size ≤ i ∧ i < w'.heap.size := by
  have kb := Blk.made w c.cells 25
  have m0 : Mod (fun _ => False) w (w.alloc (.cells c.cells 25)) := (Mod.refl _ _).alloc _
  obtain ⟨a, len, cap, rfl, hl, hcap, hmax, -⟩ := id hs
  rw [List.length_map] at hl
  have HS := Lib.hid (hs.later m0 (by simp))
  have HL := Lib.hid hl
  unfold maxLen at hmax
  clear hs hl
  simp only [Cfg.cells] at kb m0 HS ⊢
  go_enter Try.func41, Try.ntmps41
  go_wp2
  generalize w.alloc (.cells #[.int .i64 c.W, .int .i64 c.H, .int .i64 c.Lanes, .int .i64 c.Depth, .int .i64 c.Ring, .int .i64 c.Inbox, .int .i64 c.Bound, .bool c.West, .bool c.Cast] 25) = w1 at kb m0 HS ⊢
  have lb := kb.lt
  go_loopw [5, 6] (fun o i wr => ∃ k : Nat, k ≤ len ∧ k ≤ 6 ∧ i = .int .i64 k ∧ wr.ownsRow w1.heap.size 3 1 o k (((l.take k).map c.node20).map (Value.int .i64)) ∧ Mod (fun q => w1.heap.size ≤ q) w1 wr) (fun _ i _ => len - (intOf i).toNat)
  case atStart => exact ⟨0, by omega, by omega, by simp, by simpa using World.ownsRow_nil _ _ _ _, Mod.refl _ _⟩
  case round =>
    obtain ⟨k, hk, hkm, rfl, hown, hmod⟩ := hrel
    obtain ⟨wA, rfl⟩ : ∃ wo : World, wo = wr := ⟨_, rfl⟩
    have MA : Mod (fun _ => False) w wA := m0.trans hmod (fun i hi h => by omega)
    have kA := kb.later hmod (by omega)
    by_cases hlt : k < len ∧ k < 6
    · obtain ⟨hlt, hltm⟩ := hlt
      obtain ⟨x, hx⟩ : ∃ x, l[k]? = some x := ⟨_, List.getElem?_eq_getElem (by have := HL.out; omega)⟩
      obtain ⟨B, off, rfl, hB, dx⟩ := HS.out.at k hlt
      rw [ints_getR hx] at dx
      have dx := (hmod.cell (p := ⟨B, off + k, none⟩) hB (Nat.not_le.2 hB)).trans dx
      have hBA : B < wA.heap.size := Nat.lt_of_lt_of_le hB hmod.size
      have hstep := Cfg.nodes20_step (c := c) hx hltm
      have HST := Lib.hid hstep
      clear hx hstep
      have b0 : (0 : Int) ≤ (k : Int) := by omega
      have b1 : (k : Int) < (len : Int) := by omega
      obtain ⟨c0, c1, c2, c3, c4, c5, c6, c7, c8⟩ := cfg_cells kA
      have hlow6 := fun i e => (hown.lt i e).1
      have hsz := hmod.size
      by_cases h9 : 999 < x ∨ x < 0
      · have hn : c.node20 x = x := by unfold Cfg.node20; rw [if_pos h9]
        rw [hn] at HST
        clear hn
        by_cases h8 : 999 < x
        all_goals
          first
          | (have h7 : x < 0 := by omega
             clear h9)
          | clear h9
          go_wp2_with (at_builtin; refine wpList_appendE rfl _ _ 39 rfl w1.heap.size 3 (.int .i64 0) 1 8 Try.underlying39 info_int' rfl (by decide) _ _ _ rfl hown #[_] rfl rfl (by simp [Value.oneCell']) (by unfold maxLen; omega) (by omega) (by omega) ?_; intro g cap wz hown7 hm7 hat7)
          have hmod7 := hmod.trans (S := fun q => w1.heap.size ≤ q) hm7 (fun i hi hs => hlow6 i hs)
          have hown8 : wz.ownsRow w1.heap.size 3 1 (.slice (some ⟨g, 0, none⟩) (k + 1) cap) (k + 1) (((l.take (k + 1)).map c.node20).map (Value.int .i64)) := by rw [HST.out]; simpa using hown7
          clear hown hown7 hm7 hmod hlow6
          go_wp2
          go_roundw
          case rel => exact ⟨k + 1, by omega, by omega, by go_num, hown8, hmod7⟩
          case measure => simp [intOf]; omega
      · have hn : c.node20 x = um x c.nodes := by unfold Cfg.node20; rw [if_neg h9]
        rw [hn] at HST
        have h8 : x ≤ 999 := by omega
        have h7 : 0 ≤ x := by omega
        clear hn h9
        go_wp2
        go_upto_region 7 with fail
        · go_region_held3 (fun w' => w'.cell? ⟨B, off + k, none⟩ = some (.int .i64 x) ∧ w'.cell? ⟨w.heap.size, 0, none⟩ = some (Value.int .i64 c.W) ∧ w'.cell? ⟨w.heap.size, 1, none⟩ = some (Value.int .i64 c.H) ∧ w'.cell? ⟨w.heap.size, 2, none⟩ = some (Value.int .i64 c.Lanes) ∧ w'.cell? ⟨w.heap.size, 3, none⟩ = some (Value.int .i64 c.Depth) ∧ w'.cell? ⟨w.heap.size, 4, none⟩ = some (Value.int .i64 c.Ring) ∧ w'.cell? ⟨w.heap.size, 5, none⟩ = some (Value.int .i64 c.Inbox) ∧ w'.cell? ⟨w.heap.size, 6, none⟩ = some (Value.int .i64 c.Bound) ∧ w'.cell? ⟨w.heap.size, 7, none⟩ = some (Value.bool c.West) ∧ w'.cell? ⟨w.heap.size, 8, none⟩ = some (Value.bool c.Cast))
            (first
              | exact ⟨B2, cfg_cells K2⟩
              | exact ⟨B9, cfg_cells K9⟩
              | go_keep)
            ((first
              | (go_at_call_of 16 x; refine (ref_Node c x _ hc).mono ?_; rintro e w9 ⟨rfl, m9⟩; have hown9 := own_later hown.drew m9; have hs9 := m9.size; simp at hs9; have B9 := (m9.cell (p := ⟨B, off + k, none⟩) hBA (by simp)).trans dx; have K9 := kA.drew.later m9 (by simp))
              | (refine step_appendN (by rfl) _ _ _ (by rfl) w1.heap.size 3 (.int .i64 0) 1 8 Try.underlying39 info_int' rfl (by decide) _ k _ (by rfl) hown9 #[_] rfl (by rfl) (by simp [Value.oneCell']) (by unfold maxLen; omega) (by omega) (by omega) ?_; intro g cap w2 hown2 hm2 hat2; have hne : ∀ q, q < w1.heap.size → ¬ u5.ownBlock = some q := fun q hq e => Nat.not_le_of_lt hq (hlow6 q e); have B2 := (hm2.cell (p := ⟨B, off + k, none⟩) (Nat.lt_of_lt_of_le hBA m9.size) (hne B hB)).trans B9; have K2 := K9.later hm2 (hne _ lb))))
          have hmod7 := (hmod.drew.trans m9 (fun i hi e => e.elim)).trans (S := fun q => w1.heap.size ≤ q) hm2 (fun i hi hs => hlow6 i hs)
          have hown8 : w2.ownsRow w1.heap.size 3 1 (.slice (some ⟨g, 0, none⟩) (k + 1) cap) (k + 1) (((l.take (k + 1)).map c.node20).map (Value.int .i64)) := by rw [HST.out]; simpa using hown2
          clear hown hown2 hm2 hmod hlow6 hown9 B9 K9 B2 K2 hne m9 
          go_wp2
          go_roundw
          case rel => exact ⟨k + 1, by omega, by omega, by go_num, hown8, hmod7⟩
          case measure => simp [intOf]; omega
    · have hfin : (l.take k).map c.node20 = c.nodes20 l := by
        unfold Cfg.nodes20
        rcases Nat.lt_or_ge k 6 with h | h
        · rw [List.take_of_length_le (by have := HL.out; omega), List.take_of_length_le (by have := HL.out; omega)]
        · rw [show k = 6 from by omega]
      rw [hfin] at hown
      have hlen : k = (c.nodes20 l).length := by rw [← hfin]; simp; have := HL.out; omega
      have HO := Lib.hid (SlV.own hown)
      have hlow := fun i e => And.intro (Nat.le_trans m0.size (hown.lt i e).1) (hown.lt i e).2
      clear hfin hown hlen
      by_cases h6 : k < len
      all_goals
        go_wp2
        all_goals first | (exfalso; omega) | go_ret
        all_goals exact ⟨_, rfl, MA, HO.out, hlow⟩

end Go.Proofs.Ytonnooenebfbeaa
