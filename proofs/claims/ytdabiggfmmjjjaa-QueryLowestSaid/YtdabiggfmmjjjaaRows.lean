/-
  No cell of these rows narrows 'for every input' (looked for: loops, veiled, ifaces, maps, wideKeys, modest, calm, conditions, laid).
  DERIVED. THE GIVEN ROWS OF THIS SEAT. 4 by the template 'for every input the law returns true; each argument reads behind the call as it read before'; 0 by the template 'total and deterministic' (their statements: YtdabiggfmmjjjaaTotals.lean).
  GIVEN WITH THE SEED: the statements are not yours to turn. If you find one false, say at which input.
  Laid BY PROGRAM, IN A SANDBOX (cutbox-rows.mjs): the forced cells as the released guide's own fill.sh prints them over the translation 19021ab588f78e9f… (all of the seat's roots in one cut). By AI agents, Wed Nov 11 2026. No macro, syntax, notation, axiom, sorry.
-/
import Derived.Test.YtdabiggfmmjjjaaChecked
import GoSem.Claim
import GoSem.ClaimJoined
import GoSem.ClaimMapViews
import Derived.JoinedTies
import Derived.KernelRfl
namespace Go.Proofs.Ytdabiggfmmjjjaa
/- THE CELL 'sum', in the pinned program and in every row, IS THE sha256 OF THE DUMP (.gsa) THAT YtdabiggfmmjjjaaProg.lean LOADS. Nothing in Lean hashes anything: it is a label: what it is worth is what the hold of that sum in a sandbox is worth. -/
noncomputable def Try.pinned : Pinned := { name := "ytdabiggfmmjjjaa", sum := "19021ab588f78e9fff648c52ad56417aa8f4956da6ece5faa7cc1839933743c4", checked := Try.checked }
namespace Rows
def none {H : Type} : Left H := { results := [], args := [] }

/-- 'plenumlaw20.QueryAlone': WHATEVER THE INPUT: true; the input reads as it did. -/
def queryAloneSpec : ChangeSpec := { name := "queryAlone", fn := fun _ => fun
  | [d1, d2] => { results := [.lit (.bool true)], args := [d1, d2] }
  | _ => none }
def queryAloneRow : OpenClaim := { program := "ytdabiggfmmjjjaa", sum := "19021ab588f78e9fff648c52ad56417aa8f4956da6ece5faa7cc1839933743c4", func := "plenum/plenumlaw20.QueryAlone", spec := "queryAlone", apart := false }
def QueryAloneSaid : Prop := queryAloneRow.holds Try.pinned (OpenSpec.ofChange queryAloneSpec)

/-- ITS FALSE NEIGHBOUR: 'it returns false'. Refute it at one input. -/
def queryAloneWrong : ChangeSpec := { name := "queryAlone", fn := fun _ => fun
  | [d1, d2] => { results := [.lit (.bool false)], args := [d1, d2] }
  | _ => none }
def QueryAloneWrongFalsely : Prop := queryAloneRow.holds Try.pinned (OpenSpec.ofChange queryAloneWrong)

/-- 'plenumlaw20.QueryRuns': WHATEVER THE INPUT: true; the input reads as it did. -/
def queryRunsSpec : ChangeSpec := { name := "queryRuns", fn := fun _ => fun
  | [d1, d2] => { results := [.lit (.bool true)], args := [d1, d2] }
  | _ => none }
def queryRunsRow : OpenClaim := { program := "ytdabiggfmmjjjaa", sum := "19021ab588f78e9fff648c52ad56417aa8f4956da6ece5faa7cc1839933743c4", func := "plenum/plenumlaw20.QueryRuns", spec := "queryRuns", apart := false }
def QueryRunsSaid : Prop := queryRunsRow.holds Try.pinned (OpenSpec.ofChange queryRunsSpec)

/-- ITS FALSE NEIGHBOUR: 'it returns false'. Refute it at one input. -/
def queryRunsWrong : ChangeSpec := { name := "queryRuns", fn := fun _ => fun
  | [d1, d2] => { results := [.lit (.bool false)], args := [d1, d2] }
  | _ => none }
def QueryRunsWrongFalsely : Prop := queryRunsRow.holds Try.pinned (OpenSpec.ofChange queryRunsWrong)

/-- 'plenumlaw20.QueryLowest': WHATEVER THE INPUT: true; the input reads as it did. -/
def queryLowestSpec : ChangeSpec := { name := "queryLowest", fn := fun _ => fun
  | [d1, d2, d3] => { results := [.lit (.bool true)], args := [d1, d2, d3] }
  | _ => none }
def queryLowestRow : OpenClaim := { program := "ytdabiggfmmjjjaa", sum := "19021ab588f78e9fff648c52ad56417aa8f4956da6ece5faa7cc1839933743c4", func := "plenum/plenumlaw20.QueryLowest", spec := "queryLowest", apart := false }
def QueryLowestSaid : Prop := queryLowestRow.holds Try.pinned (OpenSpec.ofChange queryLowestSpec)

/-- ITS FALSE NEIGHBOUR: 'it returns false'. Refute it at one input. -/
def queryLowestWrong : ChangeSpec := { name := "queryLowest", fn := fun _ => fun
  | [d1, d2, d3] => { results := [.lit (.bool false)], args := [d1, d2, d3] }
  | _ => none }
def QueryLowestWrongFalsely : Prop := queryLowestRow.holds Try.pinned (OpenSpec.ofChange queryLowestWrong)

/-- 'plenumlaw20.QueryNil': WHATEVER THE INPUT: true; the input reads as it did. -/
def queryNilSpec : ChangeSpec := { name := "queryNil", fn := fun _ => fun
  | [d] => { results := [.lit (.bool true)], args := [d] }
  | _ => none }
def queryNilRow : OpenClaim := { program := "ytdabiggfmmjjjaa", sum := "19021ab588f78e9fff648c52ad56417aa8f4956da6ece5faa7cc1839933743c4", func := "plenum/plenumlaw20.QueryNil", spec := "queryNil", apart := false }
def QueryNilSaid : Prop := queryNilRow.holds Try.pinned (OpenSpec.ofChange queryNilSpec)

/-- ITS FALSE NEIGHBOUR: 'it returns false'. Refute it at one input. -/
def queryNilWrong : ChangeSpec := { name := "queryNil", fn := fun _ => fun
  | [d] => { results := [.lit (.bool false)], args := [d] }
  | _ => none }
def QueryNilWrongFalsely : Prop := queryNilRow.holds Try.pinned (OpenSpec.ofChange queryNilWrong)

/- THE SECOND FORM. 'bulk': how many values and letters a reading holds, each counted each time it is reached (what is shared counts as often as it is met; a slice's spare places count too). A statement '..UptoSaid' is the law's where the arguments, and the package variables that the reading takes, are together of bulk at most 1048576: NARROWER than '..Said'. Prove '..Said' where nothing that the law and all that it calls make is longer than what came in: it says more and counts as full. Else prove '..UptoSaid'. A law counts once. -/
mutual
def uptoBulk {H : Type} : DataW H → Nat
  | .lit (.string bytes) => bytes.length + 1
  | .lit _ => 1
  | .nil => 1
  | .ptr d => uptoBulk d + 1
  | .slice elems spare => uptoBulkAll elems + uptoBulkAll spare + 1
  | .agg parts => uptoBulkAll parts + 1
  | .iface _ d => uptoBulk d + 1
  | .map entries => uptoBulkEntries entries + 1
  | .held _ => 1
def uptoBulkAll {H : Type} : List (DataW H) → Nat
  | [] => 0
  | d :: r => uptoBulk d + uptoBulkAll r
def uptoBulkEntries {H : Type} : List (Lit × DataW H) → Nat
  | [] => 0
  | x :: r => uptoBulkEntry x + uptoBulkEntries r
def uptoBulkEntry {H : Type} : Lit × DataW H → Nat
  | (.string bytes, d) => bytes.length + uptoBulk d + 1
  | (_, d) => uptoBulk d + 1
 end
def uptoSmall : (H : Type) → List (DataW H) → Bool := fun _ ds => decide (uptoBulkAll ds ≤ 1048576)
def OpenSpec.upto (s : _root_.Go.ChangeSpec) : _root_.Go.OpenSpec := { _root_.Go.OpenSpec.ofChange s with cond := some uptoSmall }

/-- 'plenumlaw20.QueryAlone', WHERE WHAT IT READS IS OF BULK AT MOST 1048576: true; the input reads as it did. -/
def queryAloneUptoRow : OpenClaim := { program := "ytdabiggfmmjjjaa", sum := "19021ab588f78e9fff648c52ad56417aa8f4956da6ece5faa7cc1839933743c4", func := "plenum/plenumlaw20.QueryAlone", spec := "queryAlone", apart := false, narrowed := true }
def QueryAloneUptoSaid : Prop := queryAloneUptoRow.holds Try.pinned (OpenSpec.upto queryAloneSpec)

/-- 'plenumlaw20.QueryRuns', WHERE WHAT IT READS IS OF BULK AT MOST 1048576: true; the input reads as it did. -/
def queryRunsUptoRow : OpenClaim := { program := "ytdabiggfmmjjjaa", sum := "19021ab588f78e9fff648c52ad56417aa8f4956da6ece5faa7cc1839933743c4", func := "plenum/plenumlaw20.QueryRuns", spec := "queryRuns", apart := false, narrowed := true }
def QueryRunsUptoSaid : Prop := queryRunsUptoRow.holds Try.pinned (OpenSpec.upto queryRunsSpec)

/-- 'plenumlaw20.QueryLowest', WHERE WHAT IT READS IS OF BULK AT MOST 1048576: true; the input reads as it did. -/
def queryLowestUptoRow : OpenClaim := { program := "ytdabiggfmmjjjaa", sum := "19021ab588f78e9fff648c52ad56417aa8f4956da6ece5faa7cc1839933743c4", func := "plenum/plenumlaw20.QueryLowest", spec := "queryLowest", apart := false, narrowed := true }
def QueryLowestUptoSaid : Prop := queryLowestUptoRow.holds Try.pinned (OpenSpec.upto queryLowestSpec)

/-- 'plenumlaw20.QueryNil', WHERE WHAT IT READS IS OF BULK AT MOST 1048576: true; the input reads as it did. -/
def queryNilUptoRow : OpenClaim := { program := "ytdabiggfmmjjjaa", sum := "19021ab588f78e9fff648c52ad56417aa8f4956da6ece5faa7cc1839933743c4", func := "plenum/plenumlaw20.QueryNil", spec := "queryNil", apart := false, narrowed := true }
def QueryNilUptoSaid : Prop := queryNilUptoRow.holds Try.pinned (OpenSpec.upto queryNilSpec)

end Rows
end Go.Proofs.Ytdabiggfmmjjjaa
