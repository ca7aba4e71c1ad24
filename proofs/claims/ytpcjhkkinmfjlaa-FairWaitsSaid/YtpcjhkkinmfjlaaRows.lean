/-
  No cell of these rows narrows 'for every input' (looked for: loops, veiled, ifaces, maps, wideKeys, modest, calm, conditions, laid).
  DERIVED. THE GIVEN ROWS OF THIS SEAT. 6 by the template 'for every input the law returns true; each argument reads behind the call as it read before'; 0 by the template 'total and deterministic' (their statements: YtpcjhkkinmfjlaaTotals.lean).
  GIVEN WITH THE SEED: the statements are not yours to turn. If you find one false, say at which input.
  Laid BY PROGRAM, IN A SANDBOX (cutbox-rows.mjs): the forced cells as the released guide's own fill.sh prints them over the translation 3781cff2afddf004… (all of the seat's roots in one cut). By AI agents, Wed Nov 11 2026. No macro, syntax, notation, axiom, sorry.
-/
import Derived.Test.YtpcjhkkinmfjlaaChecked
import GoSem.Claim
import GoSem.ClaimJoined
import GoSem.ClaimMapViews
import Derived.JoinedTies
import Derived.KernelRfl
namespace Go.Proofs.Ytpcjhkkinmfjlaa
/- THE CELL 'sum', in the pinned program and in every row, IS THE sha256 OF THE DUMP (.gsa) THAT YtpcjhkkinmfjlaaProg.lean LOADS. Nothing in Lean hashes anything: it is a label: what it is worth is what the hold of that sum in a sandbox is worth. -/
noncomputable def Try.pinned : Pinned := { name := "ytpcjhkkinmfjlaa", sum := "3781cff2afddf00422b30242bd79980d734daa997ba3919f978e5bba3cfc3846", checked := Try.checked }
namespace Rows
def none {H : Type} : Left H := { results := [], args := [] }

/-- 'reticulelaw12.FairTurns': WHATEVER THE INPUT: true; the input reads as it did. -/
def fairTurnsSpec : ChangeSpec := { name := "fairTurns", fn := fun _ => fun
  | [d1, d2] => { results := [.lit (.bool true)], args := [d1, d2] }
  | _ => none }
def fairTurnsRow : OpenClaim := { program := "ytpcjhkkinmfjlaa", sum := "3781cff2afddf00422b30242bd79980d734daa997ba3919f978e5bba3cfc3846", func := "reticule/reticulelaw12.FairTurns", spec := "fairTurns", unfollowed := true, recurses := true, apart := false }
def FairTurnsSaid : Prop := fairTurnsRow.holds Try.pinned (OpenSpec.ofChange fairTurnsSpec)

/-- ITS FALSE NEIGHBOUR: 'it returns false'. Refute it at one input. -/
def fairTurnsWrong : ChangeSpec := { name := "fairTurns", fn := fun _ => fun
  | [d1, d2] => { results := [.lit (.bool false)], args := [d1, d2] }
  | _ => none }
def FairTurnsWrongFalsely : Prop := fairTurnsRow.holds Try.pinned (OpenSpec.ofChange fairTurnsWrong)

/-- 'reticulelaw12.FairWaits': WHATEVER THE INPUT: true; the input reads as it did. -/
def fairWaitsSpec : ChangeSpec := { name := "fairWaits", fn := fun _ => fun
  | [d1, d2, d3] => { results := [.lit (.bool true)], args := [d1, d2, d3] }
  | _ => none }
def fairWaitsRow : OpenClaim := { program := "ytpcjhkkinmfjlaa", sum := "3781cff2afddf00422b30242bd79980d734daa997ba3919f978e5bba3cfc3846", func := "reticule/reticulelaw12.FairWaits", spec := "fairWaits", unfollowed := true, recurses := true, apart := false }
def FairWaitsSaid : Prop := fairWaitsRow.holds Try.pinned (OpenSpec.ofChange fairWaitsSpec)

/-- ITS FALSE NEIGHBOUR: 'it returns false'. Refute it at one input. -/
def fairWaitsWrong : ChangeSpec := { name := "fairWaits", fn := fun _ => fun
  | [d1, d2, d3] => { results := [.lit (.bool false)], args := [d1, d2, d3] }
  | _ => none }
def FairWaitsWrongFalsely : Prop := fairWaitsRow.holds Try.pinned (OpenSpec.ofChange fairWaitsWrong)

/-- 'reticulelaw12.FairOnce': WHATEVER THE INPUT: true; the input reads as it did. -/
def fairOnceSpec : ChangeSpec := { name := "fairOnce", fn := fun _ => fun
  | [d1, d2, d3] => { results := [.lit (.bool true)], args := [d1, d2, d3] }
  | _ => none }
def fairOnceRow : OpenClaim := { program := "ytpcjhkkinmfjlaa", sum := "3781cff2afddf00422b30242bd79980d734daa997ba3919f978e5bba3cfc3846", func := "reticule/reticulelaw12.FairOnce", spec := "fairOnce", unfollowed := true, recurses := true, apart := false }
def FairOnceSaid : Prop := fairOnceRow.holds Try.pinned (OpenSpec.ofChange fairOnceSpec)

/-- ITS FALSE NEIGHBOUR: 'it returns false'. Refute it at one input. -/
def fairOnceWrong : ChangeSpec := { name := "fairOnce", fn := fun _ => fun
  | [d1, d2, d3] => { results := [.lit (.bool false)], args := [d1, d2, d3] }
  | _ => none }
def FairOnceWrongFalsely : Prop := fairOnceRow.holds Try.pinned (OpenSpec.ofChange fairOnceWrong)

/-- 'reticulelaw12.FairNil': WHATEVER THE INPUT: true; the input reads as it did. -/
def fairNilSpec : ChangeSpec := { name := "fairNil", fn := fun _ => fun
  | [d] => { results := [.lit (.bool true)], args := [d] }
  | _ => none }
def fairNilRow : OpenClaim := { program := "ytpcjhkkinmfjlaa", sum := "3781cff2afddf00422b30242bd79980d734daa997ba3919f978e5bba3cfc3846", func := "reticule/reticulelaw12.FairNil", spec := "fairNil", unfollowed := true, recurses := true, apart := false }
def FairNilSaid : Prop := fairNilRow.holds Try.pinned (OpenSpec.ofChange fairNilSpec)

/-- ITS FALSE NEIGHBOUR: 'it returns false'. Refute it at one input. -/
def fairNilWrong : ChangeSpec := { name := "fairNil", fn := fun _ => fun
  | [d] => { results := [.lit (.bool false)], args := [d] }
  | _ => none }
def FairNilWrongFalsely : Prop := fairNilRow.holds Try.pinned (OpenSpec.ofChange fairNilWrong)

/-- 'reticulelaw12.FairAll': WHATEVER THE INPUT: true; the input reads as it did. -/
def fairAllSpec : ChangeSpec := { name := "fairAll", fn := fun _ => fun
  | [d1, d2] => { results := [.lit (.bool true)], args := [d1, d2] }
  | _ => none }
def fairAllRow : OpenClaim := { program := "ytpcjhkkinmfjlaa", sum := "3781cff2afddf00422b30242bd79980d734daa997ba3919f978e5bba3cfc3846", func := "reticule/reticulelaw12.FairAll", spec := "fairAll", unfollowed := true, recurses := true, apart := false }
def FairAllSaid : Prop := fairAllRow.holds Try.pinned (OpenSpec.ofChange fairAllSpec)

/-- ITS FALSE NEIGHBOUR: 'it returns false'. Refute it at one input. -/
def fairAllWrong : ChangeSpec := { name := "fairAll", fn := fun _ => fun
  | [d1, d2] => { results := [.lit (.bool false)], args := [d1, d2] }
  | _ => none }
def FairAllWrongFalsely : Prop := fairAllRow.holds Try.pinned (OpenSpec.ofChange fairAllWrong)

/-- 'reticulelaw12.FairSees': WHATEVER THE INPUT: true; the input reads as it did. -/
def fairSeesSpec : ChangeSpec := { name := "fairSees", fn := fun _ => fun
  | [d1, d2] => { results := [.lit (.bool true)], args := [d1, d2] }
  | _ => none }
def fairSeesRow : OpenClaim := { program := "ytpcjhkkinmfjlaa", sum := "3781cff2afddf00422b30242bd79980d734daa997ba3919f978e5bba3cfc3846", func := "reticule/reticulelaw12.FairSees", spec := "fairSees", unfollowed := true, recurses := true, apart := false }
def FairSeesSaid : Prop := fairSeesRow.holds Try.pinned (OpenSpec.ofChange fairSeesSpec)

/-- ITS FALSE NEIGHBOUR: 'it returns false'. Refute it at one input. -/
def fairSeesWrong : ChangeSpec := { name := "fairSees", fn := fun _ => fun
  | [d1, d2] => { results := [.lit (.bool false)], args := [d1, d2] }
  | _ => none }
def FairSeesWrongFalsely : Prop := fairSeesRow.holds Try.pinned (OpenSpec.ofChange fairSeesWrong)

/- THE SECOND FORM. 'bulk': how many values and letters a reading holds, each counted each time it is reached (what is shared counts as often as it is met; a slice's spare places count too). A statement '..UptoSaid' is the law's where the arguments, and the package variables that the reading takes, are together of bulk at most 1048576: NARROWER than '..Said'. Prove '..Said' where nothing that the law and all that it calls make is longer than what came in: it says more and counts as full. Else prove '..UptoSaid'. A law counts once. -/
mutual
def uptoBulk {H : Type} : DataW H → Nat
  | .lit (.string bytes) => bytes.length + 1
  | .lit _ => 1
  | .nil => 1
  | .ptr d => uptoBulk d + 1
  | .slice elems spare => uptoBulkAll elems + uptoBulkAll spare + 1
  | .agg parts => uptoBulkAll parts + 1
  | .iface _ d => uptoBulk d + 1
  | .map entries => uptoBulkEntries entries + 1
  | .held _ => 1
def uptoBulkAll {H : Type} : List (DataW H) → Nat
  | [] => 0
  | d :: r => uptoBulk d + uptoBulkAll r
def uptoBulkEntries {H : Type} : List (Lit × DataW H) → Nat
  | [] => 0
  | x :: r => uptoBulkEntry x + uptoBulkEntries r
def uptoBulkEntry {H : Type} : Lit × DataW H → Nat
  | (.string bytes, d) => bytes.length + uptoBulk d + 1
  | (_, d) => uptoBulk d + 1
 end
def uptoSmall : (H : Type) → List (DataW H) → Bool := fun _ ds => decide (uptoBulkAll ds ≤ 1048576)
def OpenSpec.upto (s : _root_.Go.ChangeSpec) : _root_.Go.OpenSpec := { _root_.Go.OpenSpec.ofChange s with cond := some uptoSmall }

/-- 'reticulelaw12.FairTurns', WHERE WHAT IT READS IS OF BULK AT MOST 1048576: true; the input reads as it did. -/
def fairTurnsUptoRow : OpenClaim := { program := "ytpcjhkkinmfjlaa", sum := "3781cff2afddf00422b30242bd79980d734daa997ba3919f978e5bba3cfc3846", func := "reticule/reticulelaw12.FairTurns", spec := "fairTurns", unfollowed := true, recurses := true, apart := false, narrowed := true }
def FairTurnsUptoSaid : Prop := fairTurnsUptoRow.holds Try.pinned (OpenSpec.upto fairTurnsSpec)

/-- 'reticulelaw12.FairWaits', WHERE WHAT IT READS IS OF BULK AT MOST 1048576: true; the input reads as it did. -/
def fairWaitsUptoRow : OpenClaim := { program := "ytpcjhkkinmfjlaa", sum := "3781cff2afddf00422b30242bd79980d734daa997ba3919f978e5bba3cfc3846", func := "reticule/reticulelaw12.FairWaits", spec := "fairWaits", unfollowed := true, recurses := true, apart := false, narrowed := true }
def FairWaitsUptoSaid : Prop := fairWaitsUptoRow.holds Try.pinned (OpenSpec.upto fairWaitsSpec)

/-- 'reticulelaw12.FairOnce', WHERE WHAT IT READS IS OF BULK AT MOST 1048576: true; the input reads as it did. -/
def fairOnceUptoRow : OpenClaim := { program := "ytpcjhkkinmfjlaa", sum := "3781cff2afddf00422b30242bd79980d734daa997ba3919f978e5bba3cfc3846", func := "reticule/reticulelaw12.FairOnce", spec := "fairOnce", unfollowed := true, recurses := true, apart := false, narrowed := true }
def FairOnceUptoSaid : Prop := fairOnceUptoRow.holds Try.pinned (OpenSpec.upto fairOnceSpec)

/-- 'reticulelaw12.FairNil', WHERE WHAT IT READS IS OF BULK AT MOST 1048576: true; the input reads as it did. -/
def fairNilUptoRow : OpenClaim := { program := "ytpcjhkkinmfjlaa", sum := "3781cff2afddf00422b30242bd79980d734daa997ba3919f978e5bba3cfc3846", func := "reticule/reticulelaw12.FairNil", spec := "fairNil", unfollowed := true, recurses := true, apart := false, narrowed := true }
def FairNilUptoSaid : Prop := fairNilUptoRow.holds Try.pinned (OpenSpec.upto fairNilSpec)

/-- 'reticulelaw12.FairAll', WHERE WHAT IT READS IS OF BULK AT MOST 1048576: true; the input reads as it did. -/
def fairAllUptoRow : OpenClaim := { program := "ytpcjhkkinmfjlaa", sum := "3781cff2afddf00422b30242bd79980d734daa997ba3919f978e5bba3cfc3846", func := "reticule/reticulelaw12.FairAll", spec := "fairAll", unfollowed := true, recurses := true, apart := false, narrowed := true }
def FairAllUptoSaid : Prop := fairAllUptoRow.holds Try.pinned (OpenSpec.upto fairAllSpec)

/-- 'reticulelaw12.FairSees', WHERE WHAT IT READS IS OF BULK AT MOST 1048576: true; the input reads as it did. -/
def fairSeesUptoRow : OpenClaim := { program := "ytpcjhkkinmfjlaa", sum := "3781cff2afddf00422b30242bd79980d734daa997ba3919f978e5bba3cfc3846", func := "reticule/reticulelaw12.FairSees", spec := "fairSees", unfollowed := true, recurses := true, apart := false, narrowed := true }
def FairSeesUptoSaid : Prop := fairSeesUptoRow.holds Try.pinned (OpenSpec.upto fairSeesSpec)

end Rows
end Go.Proofs.Ytpcjhkkinmfjlaa
