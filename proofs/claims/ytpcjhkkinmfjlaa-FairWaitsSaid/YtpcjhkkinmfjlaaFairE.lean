/- Contracts of the helpers of the statements over package fair: few, at. -/
import Derived.Test.YtpcjhkkinmfjlaaFairC
import Derived.Test.YtpcjhkkinmfjlaaGrow
namespace Go.Proofs.Ytpcjhkkinmfjlaa
open Go.RowKit

/-- A row, cut to twenty. -/
def shortS : Value → Value
  | .slice a n c => .slice a (min n 20) c
  | v => v

/-- A list of lists in memory. -/
def Rows2 (w : World) (v : Value) (vs : List Value) (l : List (List Bool)) : Prop :=
  SlV w v vs ∧ l.length = vs.length ∧ ∀ i, i < vs.length → SlV w (vs.getD i undef) ((l.getD i []).map Value.bool)

theorem SlV.short {w : World} {v : Value} {l : List Bool} (h : SlV w v (l.map Value.bool)) : SlV w (shortS v) ((l.take 20).map Value.bool) := by
  obtain ⟨a, n, c, rfl, hn, hc, hm, h⟩ := h
  rw [List.length_map] at hn
  refine ⟨_, _, _, rfl, by simp; omega, by omega, hm, ?_⟩
  rcases h with h | ⟨B, off, ha, hB, h⟩
  · left; simp at h; simp [h]
  · right
    refine ⟨B, off, ha, hB, fun j hj => ?_⟩
    have hj' : j < 20 ∧ j < l.length := by simpa [Nat.lt_min] using hj
    rw [h j (by simpa using hj'.2)]
    simp [List.getD_eq_getElem?_getD, List.getElem?_take, hj'.1]

theorem info_bools : (Try.prog.info? 34).map (fun i => (i.zero, i.size, i.bytes)) = some (some (.slice none 0 0), 1, 24) := by kernel_rfl

theorem Rows2.later {w w' : World} {v : Value} {vs : List Value} {l : List (List Bool)} (h : Rows2 w v vs l) (hm : Mod (fun _ => False) w w') : Rows2 w' v vs l :=
  ⟨h.1.later hm (by simp), h.2.1, fun i hi => (h.2.2 i hi).later hm (by simp)⟩

set_option maxHeartbeats 400000 in
theorem run_few (v : Value) (vs : List Value) (l : List (List Bool)) (w : World) (hs : Rows2 w v vs l) :
    Calls Try.prog 12 #[v] w fun e w' => ∃ v' vs', e = .returned v' ∧ Mod (fun _ => False) w w' ∧ Rows2 w' v' vs' ((l.take 40).map (·.take 20)) ∧ vs'.length ≤ 40 := by
  obtain ⟨h1, h2, h3⟩ := hs
  obtain ⟨a, n, c, rfl, hn, hnc, hm, -⟩ := id h1
  unfold maxLen at hm
  have H1 := Lib.hid h1
  have H2 := Lib.hid h2
  have H3 := Lib.hid h3
  have HN := Lib.hid hn
  clear h1 h2 h3 hn
  have hk0 : w.heap.size ≤ w.heap.size := Nat.le_refl _
  go_enter Try.func12, Try.ntmps12
  go_wp2
  go_loopw [3, 4] (fun o i wr => ∃ k : Nat, k ≤ n ∧ k ≤ 40 ∧ i = .int .i64 k ∧ wr.ownsRow w.heap.size 34 1 o k ((List.range k).map fun j => shortS (vs.getD j undef)) ∧ Mod (fun _ => False) w wr) (fun _ i _ => n - (intOf i).toNat)
  case atStart => exact ⟨0, by omega, by omega, rfl, World.ownsRow_nil _ _ _ _, Mod.refl _ _⟩
  case round =>
    rename_i u3
    obtain ⟨k, hk, hk4, rfl, hown, hmod⟩ := hrel
    by_cases hlt : k < n ∧ k < 40
    · obtain ⟨hlt, hlt4⟩ := hlt
      obtain ⟨B, off, rfl, hB, hcell⟩ := H1.out.at k hlt
      have hsl := H3.out k (by rw [HN.out]; exact hlt)
      obtain ⟨ar, nr, cr, hvr, hnr, hcr, hmr, -⟩ := hsl
      rw [hvr] at hcell
      have hcell := (hmod.cell (p := ⟨B, off + k, none⟩) hB (by simp)).trans hcell
      have hsz := hmod.size
      unfold maxLen at hmr
      have HV := Lib.hid hvr
      clear hvr hnr
      have hsh : ((List.range (k + 1)).map fun j => shortS (vs.getD j undef)) = ((List.range k).map fun j => shortS (vs.getD j undef)) ++ [.slice ar (min nr 20) cr] := by
        rw [List.range_succ, List.map_append]
        simp only [List.map_cons, List.map_nil, HV.out, shortS]
      have HS := Lib.hid hsh
      clear hsh
      have hne := fun e => Nat.not_le_of_lt hB (hown.lt B e).1
      have hlow : ∀ i, i < w.heap.size → u3.ownBlock = some i → False := fun i hi e => Nat.not_le_of_lt hi (hown.lt i e).1
      have hk0 : (0 : Int) ≤ (k : Int) := by omega
      have hk1 : (k : Int) < (n : Int) := by omega
      by_cases h20 : nr ≤ 20
      all_goals
        first
        | (have hmin : (if (20 : Int) < (nr : Int) then (20 : Int) else (nr : Int)) = (nr : Int) := by rw [if_neg (by omega)]
           have hmc : (nr : Int) ≤ (cr : Int) := by omega)
        | (have hmin : (20 : Int) < (nr : Int) := by omega
           have hmc : (20 : Int) ≤ (cr : Int) := by omega)
        go_wp2
        go_region_held3 (fun w' => w'.cell? ⟨B, off + k, none⟩ = some (.slice ar nr cr))
          (first
            | go_keep
            | (rw [hm2.cell (by simp; omega) hne]; assumption))
          ((refine step_appendE (by rfl) _ _ _ (by rfl) w.heap.size 34 (.slice none 0 0) 1 24 Try.underlying22 info_bools rfl (by decide) _ k _ (by rfl) hown #[_] rfl (by rfl) (by simp [Value.oneCell']) (by unfold maxLen; omega) (by omega) (by omega) ?_; intro g cap w2 hown2 hm2 hat2))
        clear hcell hown hne
        have hm3 := hmod.trans' (S := fun _ => False) hm2 (fun _ _ h => h) (fun i hi hs => hlow i hi hs)
        clear hm2 hmod
        first
        | (have hfin : min nr 20 = nr := by omega)
        | (have hfin : min nr 20 = 20 := by omega)
        have HS' := HS.out
        rw [hfin] at HS'
        have HS2 := Lib.hid HS'
        clear HS' hfin
        go_wp2
        go_roundw
        case rel => exact ⟨k + 1, by omega, by omega, by go_num, by rw [HS2.out]; exact hown2, hm3⟩
        case measure => simp [intOf]; omega
    · have hend : k = min n 40 := by omega
      have hrows : Rows2 wr u3 ((List.range k).map fun j => shortS (vs.getD j undef)) ((l.take 40).map (·.take 20)) := by
        refine ⟨SlV.own hown, by have := H2.out; have := HN.out; simp; omega, fun i hi => ?_⟩
        have hi : i < k := by simpa using hi
        have hv : ((List.range k).map fun j => shortS (vs.getD j undef)).getD i undef = shortS (vs.getD i undef) := by simp [List.getD_eq_getElem?_getD, hi]
        have hl2 : ((l.take 40).map (·.take 20)).getD i [] = (l.getD i []).take 20 := by
          have h40 : i < 40 := by omega
          cases hq : l[i]? <;> simp [List.getD_eq_getElem?_getD, List.getElem?_take, h40, hq]
        rw [hv, hl2]
        exact ((H3.out i (by have := HN.out; omega)).short).later hmod (by simp)
      have HR := Lib.hid hrows
      clear hrows hown hend
      by_cases h40 : k < n
      all_goals
        go_wp2
        all_goals first | (exfalso; omega) | go_ret
        all_goals exact ⟨_, _, rfl, hmod, HR.out, by simp; omega⟩

end Go.Proofs.Ytpcjhkkinmfjlaa
