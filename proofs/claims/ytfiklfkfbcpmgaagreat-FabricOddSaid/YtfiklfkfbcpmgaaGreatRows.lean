/-
  No cell of these rows narrows 'for every input' (looked for: loops, veiled, ifaces, maps, wideKeys, modest, calm, conditions, laid).
  DERIVED. THE GIVEN ROWS OF THIS SEAT. 7 by the template 'for every input the law returns true; each argument reads behind the call as it read before'; 0 by the template 'total and deterministic' (their statements: YtfiklfkfbcpmgaaGreatTotals.lean).
  GIVEN WITH THE SEED: the statements are not yours to turn. If you find one false, say at which input.
  Laid BY PROGRAM, IN A SANDBOX (cutbox-rows.mjs): the forced cells as the released guide's own fill.sh prints them over the translation a4d184e43ccbfd95… (all of the seat's roots in one cut). By AI agents, Wed Nov 11 2026. No macro, syntax, notation, axiom, sorry.
-/
import Derived.Test.YtfiklfkfbcpmgaaGreatChecked
import GoSem.Claim
import GoSem.ClaimJoined
import GoSem.ClaimMapViews
import Derived.JoinedTies
import Derived.KernelRfl
namespace Go.Proofs.YtfiklfkfbcpmgaaGreat
/- THE CELL 'sum', in the pinned program and in every row, IS THE sha256 OF THE DUMP (.gsa) THAT YtfiklfkfbcpmgaaGreatProg.lean LOADS. Nothing in Lean hashes anything: it is a label: what it is worth is what the hold of that sum in a sandbox is worth. -/
noncomputable def Tryz.pinned : Pinned := { name := "ytfiklfkfbcpmgaagreat", sum := "a4d184e43ccbfd9592ca19e0e09b892685004b27faa6bbcec52cc5c52c1ac7cc", checked := Tryz.checked }
namespace Rows
def none {H : Type} : Left H := { results := [], args := [] }

/-- 'reticulelaw19.FabricWork': WHATEVER THE INPUT: true; the input reads as it did. -/
def fabricWorkSpec : ChangeSpec := { name := "fabricWork", fn := fun _ => fun
  | [d1, d2, d3] => { results := [.lit (.bool true)], args := [d1, d2, d3] }
  | _ => none }
def fabricWorkRow : OpenClaim := { program := "ytfiklfkfbcpmgaagreat", sum := "a4d184e43ccbfd9592ca19e0e09b892685004b27faa6bbcec52cc5c52c1ac7cc", func := "reticule/reticulelaw19.FabricWork", spec := "fabricWork", unfollowed := true, recurses := true, plainKeys := false, apart := false }
def FabricWorkSaid : Prop := fabricWorkRow.holds Tryz.pinned (OpenSpec.ofChange fabricWorkSpec)

/-- ITS FALSE NEIGHBOUR: 'it returns false'. Refute it at one input. -/
def fabricWorkWrong : ChangeSpec := { name := "fabricWork", fn := fun _ => fun
  | [d1, d2, d3] => { results := [.lit (.bool false)], args := [d1, d2, d3] }
  | _ => none }
def FabricWorkWrongFalsely : Prop := fabricWorkRow.holds Tryz.pinned (OpenSpec.ofChange fabricWorkWrong)

/-- 'reticulelaw19.FabricOnce': WHATEVER THE INPUT: true; the input reads as it did. -/
def fabricOnceSpec : ChangeSpec := { name := "fabricOnce", fn := fun _ => fun
  | [d1, d2, d3] => { results := [.lit (.bool true)], args := [d1, d2, d3] }
  | _ => none }
def fabricOnceRow : OpenClaim := { program := "ytfiklfkfbcpmgaagreat", sum := "a4d184e43ccbfd9592ca19e0e09b892685004b27faa6bbcec52cc5c52c1ac7cc", func := "reticule/reticulelaw19.FabricOnce", spec := "fabricOnce", unfollowed := true, recurses := true, plainKeys := false, apart := false }
def FabricOnceSaid : Prop := fabricOnceRow.holds Tryz.pinned (OpenSpec.ofChange fabricOnceSpec)

/-- ITS FALSE NEIGHBOUR: 'it returns false'. Refute it at one input. -/
def fabricOnceWrong : ChangeSpec := { name := "fabricOnce", fn := fun _ => fun
  | [d1, d2, d3] => { results := [.lit (.bool false)], args := [d1, d2, d3] }
  | _ => none }
def FabricOnceWrongFalsely : Prop := fabricOnceRow.holds Tryz.pinned (OpenSpec.ofChange fabricOnceWrong)

/-- 'reticulelaw19.FabricAlone': WHATEVER THE INPUT: true; the input reads as it did. -/
def fabricAloneSpec : ChangeSpec := { name := "fabricAlone", fn := fun _ => fun
  | [d1, d2, d3] => { results := [.lit (.bool true)], args := [d1, d2, d3] }
  | _ => none }
def fabricAloneRow : OpenClaim := { program := "ytfiklfkfbcpmgaagreat", sum := "a4d184e43ccbfd9592ca19e0e09b892685004b27faa6bbcec52cc5c52c1ac7cc", func := "reticule/reticulelaw19.FabricAlone", spec := "fabricAlone", unfollowed := true, recurses := true, plainKeys := false, apart := false }
def FabricAloneSaid : Prop := fabricAloneRow.holds Tryz.pinned (OpenSpec.ofChange fabricAloneSpec)

/-- ITS FALSE NEIGHBOUR: 'it returns false'. Refute it at one input. -/
def fabricAloneWrong : ChangeSpec := { name := "fabricAlone", fn := fun _ => fun
  | [d1, d2, d3] => { results := [.lit (.bool false)], args := [d1, d2, d3] }
  | _ => none }
def FabricAloneWrongFalsely : Prop := fabricAloneRow.holds Tryz.pinned (OpenSpec.ofChange fabricAloneWrong)

/-- 'reticulelaw19.FabricSame': WHATEVER THE INPUT: true; the input reads as it did. -/
def fabricSameSpec : ChangeSpec := { name := "fabricSame", fn := fun _ => fun
  | [d1, d2] => { results := [.lit (.bool true)], args := [d1, d2] }
  | _ => none }
def fabricSameRow : OpenClaim := { program := "ytfiklfkfbcpmgaagreat", sum := "a4d184e43ccbfd9592ca19e0e09b892685004b27faa6bbcec52cc5c52c1ac7cc", func := "reticule/reticulelaw19.FabricSame", spec := "fabricSame", unfollowed := true, recurses := true, plainKeys := false, apart := false }
def FabricSameSaid : Prop := fabricSameRow.holds Tryz.pinned (OpenSpec.ofChange fabricSameSpec)

/-- ITS FALSE NEIGHBOUR: 'it returns false'. Refute it at one input. -/
def fabricSameWrong : ChangeSpec := { name := "fabricSame", fn := fun _ => fun
  | [d1, d2] => { results := [.lit (.bool false)], args := [d1, d2] }
  | _ => none }
def FabricSameWrongFalsely : Prop := fabricSameRow.holds Tryz.pinned (OpenSpec.ofChange fabricSameWrong)

/-- 'reticulelaw19.FabricGoes': WHATEVER THE INPUT: true; the input reads as it did. -/
def fabricGoesSpec : ChangeSpec := { name := "fabricGoes", fn := fun _ => fun
  | [d1, d2, d3] => { results := [.lit (.bool true)], args := [d1, d2, d3] }
  | _ => none }
def fabricGoesRow : OpenClaim := { program := "ytfiklfkfbcpmgaagreat", sum := "a4d184e43ccbfd9592ca19e0e09b892685004b27faa6bbcec52cc5c52c1ac7cc", func := "reticule/reticulelaw19.FabricGoes", spec := "fabricGoes", unfollowed := true, recurses := true, plainKeys := false, apart := false }
def FabricGoesSaid : Prop := fabricGoesRow.holds Tryz.pinned (OpenSpec.ofChange fabricGoesSpec)

/-- ITS FALSE NEIGHBOUR: 'it returns false'. Refute it at one input. -/
def fabricGoesWrong : ChangeSpec := { name := "fabricGoes", fn := fun _ => fun
  | [d1, d2, d3] => { results := [.lit (.bool false)], args := [d1, d2, d3] }
  | _ => none }
def FabricGoesWrongFalsely : Prop := fabricGoesRow.holds Tryz.pinned (OpenSpec.ofChange fabricGoesWrong)

/-- 'reticulelaw19.FabricOdd': WHATEVER THE INPUT: true; the input reads as it did. -/
def fabricOddSpec : ChangeSpec := { name := "fabricOdd", fn := fun _ => fun
  | [d1, d2, d3] => { results := [.lit (.bool true)], args := [d1, d2, d3] }
  | _ => none }
def fabricOddRow : OpenClaim := { program := "ytfiklfkfbcpmgaagreat", sum := "a4d184e43ccbfd9592ca19e0e09b892685004b27faa6bbcec52cc5c52c1ac7cc", func := "reticule/reticulelaw19.FabricOdd", spec := "fabricOdd", unfollowed := true, recurses := true, plainKeys := false, apart := false }
def FabricOddSaid : Prop := fabricOddRow.holds Tryz.pinned (OpenSpec.ofChange fabricOddSpec)

/-- ITS FALSE NEIGHBOUR: 'it returns false'. Refute it at one input. -/
def fabricOddWrong : ChangeSpec := { name := "fabricOdd", fn := fun _ => fun
  | [d1, d2, d3] => { results := [.lit (.bool false)], args := [d1, d2, d3] }
  | _ => none }
def FabricOddWrongFalsely : Prop := fabricOddRow.holds Tryz.pinned (OpenSpec.ofChange fabricOddWrong)

/-- 'reticulelaw19.FabricSums': WHATEVER THE INPUT: true; the input reads as it did. -/
def fabricSumsSpec : ChangeSpec := { name := "fabricSums", fn := fun _ => fun
  | [d1, d2] => { results := [.lit (.bool true)], args := [d1, d2] }
  | _ => none }
def fabricSumsRow : OpenClaim := { program := "ytfiklfkfbcpmgaagreat", sum := "a4d184e43ccbfd9592ca19e0e09b892685004b27faa6bbcec52cc5c52c1ac7cc", func := "reticule/reticulelaw19.FabricSums", spec := "fabricSums", unfollowed := true, recurses := true, plainKeys := false, apart := false }
def FabricSumsSaid : Prop := fabricSumsRow.holds Tryz.pinned (OpenSpec.ofChange fabricSumsSpec)

/-- ITS FALSE NEIGHBOUR: 'it returns false'. Refute it at one input. -/
def fabricSumsWrong : ChangeSpec := { name := "fabricSums", fn := fun _ => fun
  | [d1, d2] => { results := [.lit (.bool false)], args := [d1, d2] }
  | _ => none }
def FabricSumsWrongFalsely : Prop := fabricSumsRow.holds Tryz.pinned (OpenSpec.ofChange fabricSumsWrong)

/- THE SECOND FORM. 'bulk': how many values and letters a reading holds, each counted each time it is reached (what is shared counts as often as it is met; a slice's spare places count too). A statement '..UptoSaid' is the law's where the arguments, and the package variables that the reading takes, are together of bulk at most 1048576: NARROWER than '..Said'. Prove '..Said' where nothing that the law and all that it calls make is longer than what came in: it says more and counts as full. Else prove '..UptoSaid'. A law counts once. -/
mutual
def uptoBulk {H : Type} : DataW H → Nat
  | .lit (.string bytes) => bytes.length + 1
  | .lit _ => 1
  | .nil => 1
  | .ptr d => uptoBulk d + 1
  | .slice elems spare => uptoBulkAll elems + uptoBulkAll spare + 1
  | .agg parts => uptoBulkAll parts + 1
  | .iface _ d => uptoBulk d + 1
  | .map entries => uptoBulkEntries entries + 1
  | .held _ => 1
def uptoBulkAll {H : Type} : List (DataW H) → Nat
  | [] => 0
  | d :: r => uptoBulk d + uptoBulkAll r
def uptoBulkEntries {H : Type} : List (Lit × DataW H) → Nat
  | [] => 0
  | x :: r => uptoBulkEntry x + uptoBulkEntries r
def uptoBulkEntry {H : Type} : Lit × DataW H → Nat
  | (.string bytes, d) => bytes.length + uptoBulk d + 1
  | (_, d) => uptoBulk d + 1
 end
def uptoSmall : (H : Type) → List (DataW H) → Bool := fun _ ds => decide (uptoBulkAll ds ≤ 1048576)
def OpenSpec.upto (s : _root_.Go.ChangeSpec) : _root_.Go.OpenSpec := { _root_.Go.OpenSpec.ofChange s with cond := some uptoSmall }

/-- 'reticulelaw19.FabricWork', WHERE WHAT IT READS IS OF BULK AT MOST 1048576: true; the input reads as it did. -/
def fabricWorkUptoRow : OpenClaim := { program := "ytfiklfkfbcpmgaagreat", sum := "a4d184e43ccbfd9592ca19e0e09b892685004b27faa6bbcec52cc5c52c1ac7cc", func := "reticule/reticulelaw19.FabricWork", spec := "fabricWork", unfollowed := true, recurses := true, plainKeys := false, apart := false, narrowed := true }
def FabricWorkUptoSaid : Prop := fabricWorkUptoRow.holds Tryz.pinned (OpenSpec.upto fabricWorkSpec)

/-- 'reticulelaw19.FabricOnce', WHERE WHAT IT READS IS OF BULK AT MOST 1048576: true; the input reads as it did. -/
def fabricOnceUptoRow : OpenClaim := { program := "ytfiklfkfbcpmgaagreat", sum := "a4d184e43ccbfd9592ca19e0e09b892685004b27faa6bbcec52cc5c52c1ac7cc", func := "reticule/reticulelaw19.FabricOnce", spec := "fabricOnce", unfollowed := true, recurses := true, plainKeys := false, apart := false, narrowed := true }
def FabricOnceUptoSaid : Prop := fabricOnceUptoRow.holds Tryz.pinned (OpenSpec.upto fabricOnceSpec)

/-- 'reticulelaw19.FabricAlone', WHERE WHAT IT READS IS OF BULK AT MOST 1048576: true; the input reads as it did. -/
def fabricAloneUptoRow : OpenClaim := { program := "ytfiklfkfbcpmgaagreat", sum := "a4d184e43ccbfd9592ca19e0e09b892685004b27faa6bbcec52cc5c52c1ac7cc", func := "reticule/reticulelaw19.FabricAlone", spec := "fabricAlone", unfollowed := true, recurses := true, plainKeys := false, apart := false, narrowed := true }
def FabricAloneUptoSaid : Prop := fabricAloneUptoRow.holds Tryz.pinned (OpenSpec.upto fabricAloneSpec)

/-- 'reticulelaw19.FabricSame', WHERE WHAT IT READS IS OF BULK AT MOST 1048576: true; the input reads as it did. -/
def fabricSameUptoRow : OpenClaim := { program := "ytfiklfkfbcpmgaagreat", sum := "a4d184e43ccbfd9592ca19e0e09b892685004b27faa6bbcec52cc5c52c1ac7cc", func := "reticule/reticulelaw19.FabricSame", spec := "fabricSame", unfollowed := true, recurses := true, plainKeys := false, apart := false, narrowed := true }
def FabricSameUptoSaid : Prop := fabricSameUptoRow.holds Tryz.pinned (OpenSpec.upto fabricSameSpec)

/-- 'reticulelaw19.FabricGoes', WHERE WHAT IT READS IS OF BULK AT MOST 1048576: true; the input reads as it did. -/
def fabricGoesUptoRow : OpenClaim := { program := "ytfiklfkfbcpmgaagreat", sum := "a4d184e43ccbfd9592ca19e0e09b892685004b27faa6bbcec52cc5c52c1ac7cc", func := "reticule/reticulelaw19.FabricGoes", spec := "fabricGoes", unfollowed := true, recurses := true, plainKeys := false, apart := false, narrowed := true }
def FabricGoesUptoSaid : Prop := fabricGoesUptoRow.holds Tryz.pinned (OpenSpec.upto fabricGoesSpec)

/-- 'reticulelaw19.FabricOdd', WHERE WHAT IT READS IS OF BULK AT MOST 1048576: true; the input reads as it did. -/
def fabricOddUptoRow : OpenClaim := { program := "ytfiklfkfbcpmgaagreat", sum := "a4d184e43ccbfd9592ca19e0e09b892685004b27faa6bbcec52cc5c52c1ac7cc", func := "reticule/reticulelaw19.FabricOdd", spec := "fabricOdd", unfollowed := true, recurses := true, plainKeys := false, apart := false, narrowed := true }
def FabricOddUptoSaid : Prop := fabricOddUptoRow.holds Tryz.pinned (OpenSpec.upto fabricOddSpec)

/-- 'reticulelaw19.FabricSums', WHERE WHAT IT READS IS OF BULK AT MOST 1048576: true; the input reads as it did. -/
def fabricSumsUptoRow : OpenClaim := { program := "ytfiklfkfbcpmgaagreat", sum := "a4d184e43ccbfd9592ca19e0e09b892685004b27faa6bbcec52cc5c52c1ac7cc", func := "reticule/reticulelaw19.FabricSums", spec := "fabricSums", unfollowed := true, recurses := true, plainKeys := false, apart := false, narrowed := true }
def FabricSumsUptoSaid : Prop := fabricSumsUptoRow.holds Tryz.pinned (OpenSpec.upto fabricSumsSpec)

end Rows
end Go.Proofs.YtfiklfkfbcpmgaaGreat
