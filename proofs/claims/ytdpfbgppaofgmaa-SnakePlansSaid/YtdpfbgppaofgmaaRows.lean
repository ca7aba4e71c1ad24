/-
  No cell of these rows narrows 'for every input' (looked for: loops, veiled, ifaces, maps, wideKeys, modest, calm, conditions, laid).
  DERIVED. THE GIVEN ROWS OF THIS SEAT. 7 by the template 'for every input the law returns true; each argument reads behind the call as it read before'; 0 by the template 'total and deterministic' (their statements: YtdpfbgppaofgmaaTotals.lean).
  GIVEN WITH THE SEED: the statements are not yours to turn. If you find one false, say at which input.
  Laid BY PROGRAM, IN A SANDBOX (cutbox-rows.mjs): the forced cells as the released guide's own fill.sh prints them over the translation 751f401210fdf6be… (all of the seat's roots in one cut). By AI agents, Wed Nov 11 2026. No macro, syntax, notation, axiom, sorry.
-/
import Derived.Test.YtdpfbgppaofgmaaChecked
import GoSem.Claim
import GoSem.ClaimJoined
import GoSem.ClaimMapViews
import Derived.JoinedTies
import Derived.KernelRfl
namespace Go.Proofs.Ytdpfbgppaofgmaa
/- THE CELL 'sum', in the pinned program and in every row, IS THE sha256 OF THE DUMP (.gsa) THAT YtdpfbgppaofgmaaProg.lean LOADS. Nothing in Lean hashes anything: it is a label: what it is worth is what the hold of that sum in a sandbox is worth. -/
noncomputable def Try.pinned : Pinned := { name := "ytdpfbgppaofgmaa", sum := "751f401210fdf6be60352555a9bd1e25124359aa3e9a0ff36c58603e48dadec5", checked := Try.checked }
namespace Rows
def none {H : Type} : Left H := { results := [], args := [] }

/-- 'reticulelaw08.SnakeLabels': WHATEVER THE INPUT: true; the input reads as it did. -/
def snakeLabelsSpec : ChangeSpec := { name := "snakeLabels", fn := fun _ => fun
  | [d1, d2, d3] => { results := [.lit (.bool true)], args := [d1, d2, d3] }
  | _ => none }
def snakeLabelsRow : OpenClaim := { program := "ytdpfbgppaofgmaa", sum := "751f401210fdf6be60352555a9bd1e25124359aa3e9a0ff36c58603e48dadec5", func := "reticule/reticulelaw08.SnakeLabels", spec := "snakeLabels", unfollowed := true, recurses := true, apart := false }
def SnakeLabelsSaid : Prop := snakeLabelsRow.holds Try.pinned (OpenSpec.ofChange snakeLabelsSpec)

/-- ITS FALSE NEIGHBOUR: 'it returns false'. Refute it at one input. -/
def snakeLabelsWrong : ChangeSpec := { name := "snakeLabels", fn := fun _ => fun
  | [d1, d2, d3] => { results := [.lit (.bool false)], args := [d1, d2, d3] }
  | _ => none }
def SnakeLabelsWrongFalsely : Prop := snakeLabelsRow.holds Try.pinned (OpenSpec.ofChange snakeLabelsWrong)

/-- 'reticulelaw08.SnakePlans': WHATEVER THE INPUT: true; the input reads as it did. -/
def snakePlansSpec : ChangeSpec := { name := "snakePlans", fn := fun _ => fun
  | [d1, d2, d3] => { results := [.lit (.bool true)], args := [d1, d2, d3] }
  | _ => none }
def snakePlansRow : OpenClaim := { program := "ytdpfbgppaofgmaa", sum := "751f401210fdf6be60352555a9bd1e25124359aa3e9a0ff36c58603e48dadec5", func := "reticule/reticulelaw08.SnakePlans", spec := "snakePlans", unfollowed := true, recurses := true, apart := false }
def SnakePlansSaid : Prop := snakePlansRow.holds Try.pinned (OpenSpec.ofChange snakePlansSpec)

/-- ITS FALSE NEIGHBOUR: 'it returns false'. Refute it at one input. -/
def snakePlansWrong : ChangeSpec := { name := "snakePlans", fn := fun _ => fun
  | [d1, d2, d3] => { results := [.lit (.bool false)], args := [d1, d2, d3] }
  | _ => none }
def SnakePlansWrongFalsely : Prop := snakePlansRow.holds Try.pinned (OpenSpec.ofChange snakePlansWrong)

/-- 'reticulelaw08.SnakeSets': WHATEVER THE INPUT: true; the input reads as it did. -/
def snakeSetsSpec : ChangeSpec := { name := "snakeSets", fn := fun _ => fun
  | [d1, d2, d3] => { results := [.lit (.bool true)], args := [d1, d2, d3] }
  | _ => none }
def snakeSetsRow : OpenClaim := { program := "ytdpfbgppaofgmaa", sum := "751f401210fdf6be60352555a9bd1e25124359aa3e9a0ff36c58603e48dadec5", func := "reticule/reticulelaw08.SnakeSets", spec := "snakeSets", unfollowed := true, recurses := true, apart := false }
def SnakeSetsSaid : Prop := snakeSetsRow.holds Try.pinned (OpenSpec.ofChange snakeSetsSpec)

/-- ITS FALSE NEIGHBOUR: 'it returns false'. Refute it at one input. -/
def snakeSetsWrong : ChangeSpec := { name := "snakeSets", fn := fun _ => fun
  | [d1, d2, d3] => { results := [.lit (.bool false)], args := [d1, d2, d3] }
  | _ => none }
def SnakeSetsWrongFalsely : Prop := snakeSetsRow.holds Try.pinned (OpenSpec.ofChange snakeSetsWrong)

/-- 'reticulelaw08.SnakeJoins': WHATEVER THE INPUT: true; the input reads as it did. -/
def snakeJoinsSpec : ChangeSpec := { name := "snakeJoins", fn := fun _ => fun
  | [d1, d2, d3] => { results := [.lit (.bool true)], args := [d1, d2, d3] }
  | _ => none }
def snakeJoinsRow : OpenClaim := { program := "ytdpfbgppaofgmaa", sum := "751f401210fdf6be60352555a9bd1e25124359aa3e9a0ff36c58603e48dadec5", func := "reticule/reticulelaw08.SnakeJoins", spec := "snakeJoins", unfollowed := true, recurses := true, apart := false }
def SnakeJoinsSaid : Prop := snakeJoinsRow.holds Try.pinned (OpenSpec.ofChange snakeJoinsSpec)

/-- ITS FALSE NEIGHBOUR: 'it returns false'. Refute it at one input. -/
def snakeJoinsWrong : ChangeSpec := { name := "snakeJoins", fn := fun _ => fun
  | [d1, d2, d3] => { results := [.lit (.bool false)], args := [d1, d2, d3] }
  | _ => none }
def SnakeJoinsWrongFalsely : Prop := snakeJoinsRow.holds Try.pinned (OpenSpec.ofChange snakeJoinsWrong)

/-- 'reticulelaw08.SnakePairs': WHATEVER THE INPUT: true; the input reads as it did. -/
def snakePairsSpec : ChangeSpec := { name := "snakePairs", fn := fun _ => fun
  | [d1, d2, d3] => { results := [.lit (.bool true)], args := [d1, d2, d3] }
  | _ => none }
def snakePairsRow : OpenClaim := { program := "ytdpfbgppaofgmaa", sum := "751f401210fdf6be60352555a9bd1e25124359aa3e9a0ff36c58603e48dadec5", func := "reticule/reticulelaw08.SnakePairs", spec := "snakePairs", unfollowed := true, recurses := true, apart := false }
def SnakePairsSaid : Prop := snakePairsRow.holds Try.pinned (OpenSpec.ofChange snakePairsSpec)

/-- ITS FALSE NEIGHBOUR: 'it returns false'. Refute it at one input. -/
def snakePairsWrong : ChangeSpec := { name := "snakePairs", fn := fun _ => fun
  | [d1, d2, d3] => { results := [.lit (.bool false)], args := [d1, d2, d3] }
  | _ => none }
def SnakePairsWrongFalsely : Prop := snakePairsRow.holds Try.pinned (OpenSpec.ofChange snakePairsWrong)

/-- 'reticulelaw08.SnakeLine': WHATEVER THE INPUT: true; the input reads as it did. -/
def snakeLineSpec : ChangeSpec := { name := "snakeLine", fn := fun _ => fun
  | [d1, d2] => { results := [.lit (.bool true)], args := [d1, d2] }
  | _ => none }
def snakeLineRow : OpenClaim := { program := "ytdpfbgppaofgmaa", sum := "751f401210fdf6be60352555a9bd1e25124359aa3e9a0ff36c58603e48dadec5", func := "reticule/reticulelaw08.SnakeLine", spec := "snakeLine", unfollowed := true, recurses := true, apart := false }
def SnakeLineSaid : Prop := snakeLineRow.holds Try.pinned (OpenSpec.ofChange snakeLineSpec)

/-- ITS FALSE NEIGHBOUR: 'it returns false'. Refute it at one input. -/
def snakeLineWrong : ChangeSpec := { name := "snakeLine", fn := fun _ => fun
  | [d1, d2] => { results := [.lit (.bool false)], args := [d1, d2] }
  | _ => none }
def SnakeLineWrongFalsely : Prop := snakeLineRow.holds Try.pinned (OpenSpec.ofChange snakeLineWrong)

/-- 'reticulelaw08.SnakeRises': WHATEVER THE INPUT: true; the input reads as it did. -/
def snakeRisesSpec : ChangeSpec := { name := "snakeRises", fn := fun _ => fun
  | [d1, d2, d3] => { results := [.lit (.bool true)], args := [d1, d2, d3] }
  | _ => none }
def snakeRisesRow : OpenClaim := { program := "ytdpfbgppaofgmaa", sum := "751f401210fdf6be60352555a9bd1e25124359aa3e9a0ff36c58603e48dadec5", func := "reticule/reticulelaw08.SnakeRises", spec := "snakeRises", unfollowed := true, recurses := true, apart := false }
def SnakeRisesSaid : Prop := snakeRisesRow.holds Try.pinned (OpenSpec.ofChange snakeRisesSpec)

/-- ITS FALSE NEIGHBOUR: 'it returns false'. Refute it at one input. -/
def snakeRisesWrong : ChangeSpec := { name := "snakeRises", fn := fun _ => fun
  | [d1, d2, d3] => { results := [.lit (.bool false)], args := [d1, d2, d3] }
  | _ => none }
def SnakeRisesWrongFalsely : Prop := snakeRisesRow.holds Try.pinned (OpenSpec.ofChange snakeRisesWrong)

/- THE SECOND FORM. 'bulk': how many values and letters a reading holds, each counted each time it is reached (what is shared counts as often as it is met; a slice's spare places count too). A statement '..UptoSaid' is the law's where the arguments, and the package variables that the reading takes, are together of bulk at most 1048576: NARROWER than '..Said'. Prove '..Said' where nothing that the law and all that it calls make is longer than what came in: it says more and counts as full. Else prove '..UptoSaid'. A law counts once. -/
mutual
def uptoBulk {H : Type} : DataW H → Nat
  | .lit (.string bytes) => bytes.length + 1
  | .lit _ => 1
  | .nil => 1
  | .ptr d => uptoBulk d + 1
  | .slice elems spare => uptoBulkAll elems + uptoBulkAll spare + 1
  | .agg parts => uptoBulkAll parts + 1
  | .iface _ d => uptoBulk d + 1
  | .map entries => uptoBulkEntries entries + 1
  | .held _ => 1
def uptoBulkAll {H : Type} : List (DataW H) → Nat
  | [] => 0
  | d :: r => uptoBulk d + uptoBulkAll r
def uptoBulkEntries {H : Type} : List (Lit × DataW H) → Nat
  | [] => 0
  | x :: r => uptoBulkEntry x + uptoBulkEntries r
def uptoBulkEntry {H : Type} : Lit × DataW H → Nat
  | (.string bytes, d) => bytes.length + uptoBulk d + 1
  | (_, d) => uptoBulk d + 1
 end
def uptoSmall : (H : Type) → List (DataW H) → Bool := fun _ ds => decide (uptoBulkAll ds ≤ 1048576)
def OpenSpec.upto (s : _root_.Go.ChangeSpec) : _root_.Go.OpenSpec := { _root_.Go.OpenSpec.ofChange s with cond := some uptoSmall }

/-- 'reticulelaw08.SnakeLabels', WHERE WHAT IT READS IS OF BULK AT MOST 1048576: true; the input reads as it did. -/
def snakeLabelsUptoRow : OpenClaim := { program := "ytdpfbgppaofgmaa", sum := "751f401210fdf6be60352555a9bd1e25124359aa3e9a0ff36c58603e48dadec5", func := "reticule/reticulelaw08.SnakeLabels", spec := "snakeLabels", unfollowed := true, recurses := true, apart := false, narrowed := true }
def SnakeLabelsUptoSaid : Prop := snakeLabelsUptoRow.holds Try.pinned (OpenSpec.upto snakeLabelsSpec)

/-- 'reticulelaw08.SnakePlans', WHERE WHAT IT READS IS OF BULK AT MOST 1048576: true; the input reads as it did. -/
def snakePlansUptoRow : OpenClaim := { program := "ytdpfbgppaofgmaa", sum := "751f401210fdf6be60352555a9bd1e25124359aa3e9a0ff36c58603e48dadec5", func := "reticule/reticulelaw08.SnakePlans", spec := "snakePlans", unfollowed := true, recurses := true, apart := false, narrowed := true }
def SnakePlansUptoSaid : Prop := snakePlansUptoRow.holds Try.pinned (OpenSpec.upto snakePlansSpec)

/-- 'reticulelaw08.SnakeSets', WHERE WHAT IT READS IS OF BULK AT MOST 1048576: true; the input reads as it did. -/
def snakeSetsUptoRow : OpenClaim := { program := "ytdpfbgppaofgmaa", sum := "751f401210fdf6be60352555a9bd1e25124359aa3e9a0ff36c58603e48dadec5", func := "reticule/reticulelaw08.SnakeSets", spec := "snakeSets", unfollowed := true, recurses := true, apart := false, narrowed := true }
def SnakeSetsUptoSaid : Prop := snakeSetsUptoRow.holds Try.pinned (OpenSpec.upto snakeSetsSpec)

/-- 'reticulelaw08.SnakeJoins', WHERE WHAT IT READS IS OF BULK AT MOST 1048576: true; the input reads as it did. -/
def snakeJoinsUptoRow : OpenClaim := { program := "ytdpfbgppaofgmaa", sum := "751f401210fdf6be60352555a9bd1e25124359aa3e9a0ff36c58603e48dadec5", func := "reticule/reticulelaw08.SnakeJoins", spec := "snakeJoins", unfollowed := true, recurses := true, apart := false, narrowed := true }
def SnakeJoinsUptoSaid : Prop := snakeJoinsUptoRow.holds Try.pinned (OpenSpec.upto snakeJoinsSpec)

/-- 'reticulelaw08.SnakePairs', WHERE WHAT IT READS IS OF BULK AT MOST 1048576: true; the input reads as it did. -/
def snakePairsUptoRow : OpenClaim := { program := "ytdpfbgppaofgmaa", sum := "751f401210fdf6be60352555a9bd1e25124359aa3e9a0ff36c58603e48dadec5", func := "reticule/reticulelaw08.SnakePairs", spec := "snakePairs", unfollowed := true, recurses := true, apart := false, narrowed := true }
def SnakePairsUptoSaid : Prop := snakePairsUptoRow.holds Try.pinned (OpenSpec.upto snakePairsSpec)

/-- 'reticulelaw08.SnakeLine', WHERE WHAT IT READS IS OF BULK AT MOST 1048576: true; the input reads as it did. -/
def snakeLineUptoRow : OpenClaim := { program := "ytdpfbgppaofgmaa", sum := "751f401210fdf6be60352555a9bd1e25124359aa3e9a0ff36c58603e48dadec5", func := "reticule/reticulelaw08.SnakeLine", spec := "snakeLine", unfollowed := true, recurses := true, apart := false, narrowed := true }
def SnakeLineUptoSaid : Prop := snakeLineUptoRow.holds Try.pinned (OpenSpec.upto snakeLineSpec)

/-- 'reticulelaw08.SnakeRises', WHERE WHAT IT READS IS OF BULK AT MOST 1048576: true; the input reads as it did. -/
def snakeRisesUptoRow : OpenClaim := { program := "ytdpfbgppaofgmaa", sum := "751f401210fdf6be60352555a9bd1e25124359aa3e9a0ff36c58603e48dadec5", func := "reticule/reticulelaw08.SnakeRises", spec := "snakeRises", unfollowed := true, recurses := true, apart := false, narrowed := true }
def SnakeRisesUptoSaid : Prop := snakeRisesUptoRow.holds Try.pinned (OpenSpec.upto snakeRisesSpec)

end Rows
end Go.Proofs.Ytdpfbgppaofgmaa
