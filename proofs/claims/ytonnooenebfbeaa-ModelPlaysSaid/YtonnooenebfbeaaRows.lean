/-
  No cell of these rows narrows 'for every input' (looked for: loops, veiled, ifaces, maps, wideKeys, modest, calm, conditions, laid).
  DERIVED. THE GIVEN ROWS OF THIS SEAT. 5 by the template 'for every input the law returns true; each argument reads behind the call as it read before'; 0 by the template 'total and deterministic' (their statements: YtonnooenebfbeaaTotals.lean).
  GIVEN WITH THE SEED: the statements are not yours to turn. If you find one false, say at which input.
  Laid BY PROGRAM, IN A SANDBOX (cutbox-rows.mjs): the forced cells as the released guide's own fill.sh prints them over the translation 7c5ca82c7df03a05… (all of the seat's roots in one cut). By AI agents, Wed Nov 11 2026. No macro, syntax, notation, axiom, sorry.
-/
import Derived.Test.YtonnooenebfbeaaChecked
import GoSem.Claim
import GoSem.ClaimJoined
import GoSem.ClaimMapViews
import Derived.JoinedTies
import Derived.KernelRfl
namespace Go.Proofs.Ytonnooenebfbeaa
/- THE CELL 'sum', in the pinned program and in every row, IS THE sha256 OF THE DUMP (.gsa) THAT YtonnooenebfbeaaProg.lean LOADS. Nothing in Lean hashes anything: it is a label: what it is worth is what the hold of that sum in a sandbox is worth. -/
noncomputable def Try.pinned : Pinned := { name := "ytonnooenebfbeaa", sum := "7c5ca82c7df03a05386ff7128093b7b4556e21228922c109a1456e13326a15e4", checked := Try.checked }
namespace Rows
def none {H : Type} : Left H := { results := [], args := [] }

/-- 'reticulelaw21.ModelRow': WHATEVER THE INPUT: true; the input reads as it did. -/
def modelRowSpec : ChangeSpec := { name := "modelRow", fn := fun _ => fun
  | [d1, d2] => { results := [.lit (.bool true)], args := [d1, d2] }
  | _ => none }
def modelRowRow : OpenClaim := { program := "ytonnooenebfbeaa", sum := "7c5ca82c7df03a05386ff7128093b7b4556e21228922c109a1456e13326a15e4", func := "reticule/reticulelaw21.ModelRow", spec := "modelRow", unfollowed := true, recurses := true, plainKeys := false, apart := false }
def ModelRowSaid : Prop := modelRowRow.holds Try.pinned (OpenSpec.ofChange modelRowSpec)

/-- ITS FALSE NEIGHBOUR: 'it returns false'. Refute it at one input. -/
def modelRowWrong : ChangeSpec := { name := "modelRow", fn := fun _ => fun
  | [d1, d2] => { results := [.lit (.bool false)], args := [d1, d2] }
  | _ => none }
def ModelRowWrongFalsely : Prop := modelRowRow.holds Try.pinned (OpenSpec.ofChange modelRowWrong)

/-- 'reticulelaw21.ModelCasts': WHATEVER THE INPUT: true; the input reads as it did. -/
def modelCastsSpec : ChangeSpec := { name := "modelCasts", fn := fun _ => fun
  | [d1, d2] => { results := [.lit (.bool true)], args := [d1, d2] }
  | _ => none }
def modelCastsRow : OpenClaim := { program := "ytonnooenebfbeaa", sum := "7c5ca82c7df03a05386ff7128093b7b4556e21228922c109a1456e13326a15e4", func := "reticule/reticulelaw21.ModelCasts", spec := "modelCasts", unfollowed := true, recurses := true, plainKeys := false, apart := false }
def ModelCastsSaid : Prop := modelCastsRow.holds Try.pinned (OpenSpec.ofChange modelCastsSpec)

/-- ITS FALSE NEIGHBOUR: 'it returns false'. Refute it at one input. -/
def modelCastsWrong : ChangeSpec := { name := "modelCasts", fn := fun _ => fun
  | [d1, d2] => { results := [.lit (.bool false)], args := [d1, d2] }
  | _ => none }
def ModelCastsWrongFalsely : Prop := modelCastsRow.holds Try.pinned (OpenSpec.ofChange modelCastsWrong)

/-- 'reticulelaw21.ModelPlays': WHATEVER THE INPUT: true; the input reads as it did. -/
def modelPlaysSpec : ChangeSpec := { name := "modelPlays", fn := fun _ => fun
  | [d1, d2, d3] => { results := [.lit (.bool true)], args := [d1, d2, d3] }
  | _ => none }
def modelPlaysRow : OpenClaim := { program := "ytonnooenebfbeaa", sum := "7c5ca82c7df03a05386ff7128093b7b4556e21228922c109a1456e13326a15e4", func := "reticule/reticulelaw21.ModelPlays", spec := "modelPlays", unfollowed := true, recurses := true, plainKeys := false, apart := false }
def ModelPlaysSaid : Prop := modelPlaysRow.holds Try.pinned (OpenSpec.ofChange modelPlaysSpec)

/-- ITS FALSE NEIGHBOUR: 'it returns false'. Refute it at one input. -/
def modelPlaysWrong : ChangeSpec := { name := "modelPlays", fn := fun _ => fun
  | [d1, d2, d3] => { results := [.lit (.bool false)], args := [d1, d2, d3] }
  | _ => none }
def ModelPlaysWrongFalsely : Prop := modelPlaysRow.holds Try.pinned (OpenSpec.ofChange modelPlaysWrong)

/-- 'reticulelaw21.ModelNil': WHATEVER THE INPUT: true; the input reads as it did. -/
def modelNilSpec : ChangeSpec := { name := "modelNil", fn := fun _ => fun
  | [d] => { results := [.lit (.bool true)], args := [d] }
  | _ => none }
def modelNilRow : OpenClaim := { program := "ytonnooenebfbeaa", sum := "7c5ca82c7df03a05386ff7128093b7b4556e21228922c109a1456e13326a15e4", func := "reticule/reticulelaw21.ModelNil", spec := "modelNil", unfollowed := true, recurses := true, plainKeys := false, apart := false }
def ModelNilSaid : Prop := modelNilRow.holds Try.pinned (OpenSpec.ofChange modelNilSpec)

/-- ITS FALSE NEIGHBOUR: 'it returns false'. Refute it at one input. -/
def modelNilWrong : ChangeSpec := { name := "modelNil", fn := fun _ => fun
  | [d] => { results := [.lit (.bool false)], args := [d] }
  | _ => none }
def ModelNilWrongFalsely : Prop := modelNilRow.holds Try.pinned (OpenSpec.ofChange modelNilWrong)

/-- 'reticulelaw21.ModelRefuses': WHATEVER THE INPUT: true; the input reads as it did. -/
def modelRefusesSpec : ChangeSpec := { name := "modelRefuses", fn := fun _ => fun
  | [d1, d2, d3] => { results := [.lit (.bool true)], args := [d1, d2, d3] }
  | _ => none }
def modelRefusesRow : OpenClaim := { program := "ytonnooenebfbeaa", sum := "7c5ca82c7df03a05386ff7128093b7b4556e21228922c109a1456e13326a15e4", func := "reticule/reticulelaw21.ModelRefuses", spec := "modelRefuses", unfollowed := true, recurses := true, plainKeys := false, apart := false }
def ModelRefusesSaid : Prop := modelRefusesRow.holds Try.pinned (OpenSpec.ofChange modelRefusesSpec)

/-- ITS FALSE NEIGHBOUR: 'it returns false'. Refute it at one input. -/
def modelRefusesWrong : ChangeSpec := { name := "modelRefuses", fn := fun _ => fun
  | [d1, d2, d3] => { results := [.lit (.bool false)], args := [d1, d2, d3] }
  | _ => none }
def ModelRefusesWrongFalsely : Prop := modelRefusesRow.holds Try.pinned (OpenSpec.ofChange modelRefusesWrong)

/- THE SECOND FORM. 'bulk': how many values and letters a reading holds, each counted each time it is reached (what is shared counts as often as it is met; a slice's spare places count too). A statement '..UptoSaid' is the law's where the arguments, and the package variables that the reading takes, are together of bulk at most 1048576: NARROWER than '..Said'. Prove '..Said' where nothing that the law and all that it calls make is longer than what came in: it says more and counts as full. Else prove '..UptoSaid'. A law counts once. -/
mutual
def uptoBulk {H : Type} : DataW H → Nat
  | .lit (.string bytes) => bytes.length + 1
  | .lit _ => 1
  | .nil => 1
  | .ptr d => uptoBulk d + 1
  | .slice elems spare => uptoBulkAll elems + uptoBulkAll spare + 1
  | .agg parts => uptoBulkAll parts + 1
  | .iface _ d => uptoBulk d + 1
  | .map entries => uptoBulkEntries entries + 1
  | .held _ => 1
def uptoBulkAll {H : Type} : List (DataW H) → Nat
  | [] => 0
  | d :: r => uptoBulk d + uptoBulkAll r
def uptoBulkEntries {H : Type} : List (Lit × DataW H) → Nat
  | [] => 0
  | x :: r => uptoBulkEntry x + uptoBulkEntries r
def uptoBulkEntry {H : Type} : Lit × DataW H → Nat
  | (.string bytes, d) => bytes.length + uptoBulk d + 1
  | (_, d) => uptoBulk d + 1
 end
def uptoSmall : (H : Type) → List (DataW H) → Bool := fun _ ds => decide (uptoBulkAll ds ≤ 1048576)
def OpenSpec.upto (s : _root_.Go.ChangeSpec) : _root_.Go.OpenSpec := { _root_.Go.OpenSpec.ofChange s with cond := some uptoSmall }

/-- 'reticulelaw21.ModelRow', WHERE WHAT IT READS IS OF BULK AT MOST 1048576: true; the input reads as it did. -/
def modelRowUptoRow : OpenClaim := { program := "ytonnooenebfbeaa", sum := "7c5ca82c7df03a05386ff7128093b7b4556e21228922c109a1456e13326a15e4", func := "reticule/reticulelaw21.ModelRow", spec := "modelRow", unfollowed := true, recurses := true, plainKeys := false, apart := false, narrowed := true }
def ModelRowUptoSaid : Prop := modelRowUptoRow.holds Try.pinned (OpenSpec.upto modelRowSpec)

/-- 'reticulelaw21.ModelCasts', WHERE WHAT IT READS IS OF BULK AT MOST 1048576: true; the input reads as it did. -/
def modelCastsUptoRow : OpenClaim := { program := "ytonnooenebfbeaa", sum := "7c5ca82c7df03a05386ff7128093b7b4556e21228922c109a1456e13326a15e4", func := "reticule/reticulelaw21.ModelCasts", spec := "modelCasts", unfollowed := true, recurses := true, plainKeys := false, apart := false, narrowed := true }
def ModelCastsUptoSaid : Prop := modelCastsUptoRow.holds Try.pinned (OpenSpec.upto modelCastsSpec)

/-- 'reticulelaw21.ModelPlays', WHERE WHAT IT READS IS OF BULK AT MOST 1048576: true; the input reads as it did. -/
def modelPlaysUptoRow : OpenClaim := { program := "ytonnooenebfbeaa", sum := "7c5ca82c7df03a05386ff7128093b7b4556e21228922c109a1456e13326a15e4", func := "reticule/reticulelaw21.ModelPlays", spec := "modelPlays", unfollowed := true, recurses := true, plainKeys := false, apart := false, narrowed := true }
def ModelPlaysUptoSaid : Prop := modelPlaysUptoRow.holds Try.pinned (OpenSpec.upto modelPlaysSpec)

/-- 'reticulelaw21.ModelNil', WHERE WHAT IT READS IS OF BULK AT MOST 1048576: true; the input reads as it did. -/
def modelNilUptoRow : OpenClaim := { program := "ytonnooenebfbeaa", sum := "7c5ca82c7df03a05386ff7128093b7b4556e21228922c109a1456e13326a15e4", func := "reticule/reticulelaw21.ModelNil", spec := "modelNil", unfollowed := true, recurses := true, plainKeys := false, apart := false, narrowed := true }
def ModelNilUptoSaid : Prop := modelNilUptoRow.holds Try.pinned (OpenSpec.upto modelNilSpec)

/-- 'reticulelaw21.ModelRefuses', WHERE WHAT IT READS IS OF BULK AT MOST 1048576: true; the input reads as it did. -/
def modelRefusesUptoRow : OpenClaim := { program := "ytonnooenebfbeaa", sum := "7c5ca82c7df03a05386ff7128093b7b4556e21228922c109a1456e13326a15e4", func := "reticule/reticulelaw21.ModelRefuses", spec := "modelRefuses", unfollowed := true, recurses := true, plainKeys := false, apart := false, narrowed := true }
def ModelRefusesUptoSaid : Prop := modelRefusesUptoRow.holds Try.pinned (OpenSpec.upto modelRefusesSpec)

end Rows
end Go.Proofs.Ytonnooenebfbeaa
