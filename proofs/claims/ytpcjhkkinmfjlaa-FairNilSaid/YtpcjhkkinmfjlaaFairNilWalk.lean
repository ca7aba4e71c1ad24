/- The walk of FairNil. -/
import Derived.Test.YtpcjhkkinmfjlaaFairC
namespace Go.Proofs.Ytpcjhkkinmfjlaa
open Go.RowKit

set_option maxHeartbeats 400000 in
theorem walk_FairNil (v : Value) (l : List Bool) {w : World} (hs : SlV w v (l.map Value.bool)) (hl : l.length ≤ maxLen) :
    Calls Try.prog 6 #[v] w fun e w' => e = .returned (.bool true) ∧ Below w.heap.size w w' := by
  obtain ⟨a, n, c, rfl, hn, hc, hm, hs⟩ := hs
  rw [List.length_map] at hn
  unfold maxLen at hl hm
  rw [hn] at hl
  clear hs hn
  go_enter Try.func6, Try.ntmps6
  go_wp2_with fail
  refine (fair_lives w).mono ?_
  rintro e w1 ⟨rfl, b1⟩
  by_cases h20 : n ≤ 20
  all_goals
    go_wp2_with fail
    refine (fair_of_nil _ _ _ _).mono ?_
    rintro e w2 ⟨rfl, hw2⟩
    have b2 := hw2 ▸ b1.alloc b1.size _
    clear hw2 b1
    go_wp2_with fail
    refine (fair_see_nil _ _).mono ?_
    rintro e w3 ⟨rfl, rfl⟩
    go_wp2_with fail
    refine (fair_next_nil _ _).mono ?_
    rintro e w3 ⟨rfl, rfl⟩
    go_wp2_with fail
    refine (fair_places_nil _).mono ?_
    rintro e w3 ⟨rfl, rfl⟩
    go_wp2_with fail
    refine (fair_last_nil _).mono ?_
    rintro e w3 ⟨rfl, rfl⟩
    go_wp2
    go_ret
    exact ⟨rfl, b2⟩
end Go.Proofs.Ytpcjhkkinmfjlaa
