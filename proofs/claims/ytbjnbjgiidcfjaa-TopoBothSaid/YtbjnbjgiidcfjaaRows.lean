/-
  No cell of these rows narrows 'for every input' (looked for: loops, veiled, ifaces, maps, wideKeys, modest, calm, conditions, laid).
  DERIVED. THE GIVEN ROWS OF THIS SEAT. 5 by the template 'for every input the law returns true; each argument reads behind the call as it read before'; 0 by the template 'total and deterministic' (their statements: YtbjnbjgiidcfjaaTotals.lean).
  GIVEN WITH THE SEED: the statements are not yours to turn. If you find one false, say at which input.
  Laid BY PROGRAM, IN A SANDBOX (cutbox-rows.mjs): the forced cells as the released guide's own fill.sh prints them over the translation dd7692205e7652df… (all of the seat's roots in one cut). By AI agents, Wed Nov 11 2026. No macro, syntax, notation, axiom, sorry.
-/
import Derived.Test.YtbjnbjgiidcfjaaChecked
import GoSem.Claim
import GoSem.ClaimJoined
import GoSem.ClaimMapViews
import Derived.JoinedTies
import Derived.KernelRfl
namespace Go.Proofs.Ytbjnbjgiidcfjaa
/- THE CELL 'sum', in the pinned program and in every row, IS THE sha256 OF THE DUMP (.gsa) THAT YtbjnbjgiidcfjaaProg.lean LOADS. Nothing in Lean hashes anything: it is a label: what it is worth is what the hold of that sum in a sandbox is worth. -/
noncomputable def Try.pinned : Pinned := { name := "ytbjnbjgiidcfjaa", sum := "dd7692205e7652dfc1bfeaae0e137ac9b9520a1b798b24e86a2553619c1844bc", checked := Try.checked }
namespace Rows
def none {H : Type} : Left H := { results := [], args := [] }

/-- 'plenumlaw17.TopoBoth': WHATEVER THE INPUT: true; the input reads as it did. -/
def topoBothSpec : ChangeSpec := { name := "topoBoth", fn := fun _ => fun
  | [d1, d2, d3, d4] => { results := [.lit (.bool true)], args := [d1, d2, d3, d4] }
  | _ => none }
def topoBothRow : OpenClaim := { program := "ytbjnbjgiidcfjaa", sum := "dd7692205e7652dfc1bfeaae0e137ac9b9520a1b798b24e86a2553619c1844bc", func := "plenum/plenumlaw17.TopoBoth", spec := "topoBoth", unfollowed := true, recurses := true, apart := false }
def TopoBothSaid : Prop := topoBothRow.holds Try.pinned (OpenSpec.ofChange topoBothSpec)

/-- ITS FALSE NEIGHBOUR: 'it returns false'. Refute it at one input. -/
def topoBothWrong : ChangeSpec := { name := "topoBoth", fn := fun _ => fun
  | [d1, d2, d3, d4] => { results := [.lit (.bool false)], args := [d1, d2, d3, d4] }
  | _ => none }
def TopoBothWrongFalsely : Prop := topoBothRow.holds Try.pinned (OpenSpec.ofChange topoBothWrong)

/-- 'plenumlaw17.TopoWild': WHATEVER THE INPUT: true; the input reads as it did. -/
def topoWildSpec : ChangeSpec := { name := "topoWild", fn := fun _ => fun
  | [d] => { results := [.lit (.bool true)], args := [d] }
  | _ => none }
def topoWildRow : OpenClaim := { program := "ytbjnbjgiidcfjaa", sum := "dd7692205e7652dfc1bfeaae0e137ac9b9520a1b798b24e86a2553619c1844bc", func := "plenum/plenumlaw17.TopoWild", spec := "topoWild", unfollowed := true, recurses := true, apart := false }
def TopoWildSaid : Prop := topoWildRow.holds Try.pinned (OpenSpec.ofChange topoWildSpec)

/-- ITS FALSE NEIGHBOUR: 'it returns false'. Refute it at one input. -/
def topoWildWrong : ChangeSpec := { name := "topoWild", fn := fun _ => fun
  | [d] => { results := [.lit (.bool false)], args := [d] }
  | _ => none }
def TopoWildWrongFalsely : Prop := topoWildRow.holds Try.pinned (OpenSpec.ofChange topoWildWrong)

/-- 'plenumlaw17.TopoMaps': WHATEVER THE INPUT: true; the input reads as it did. -/
def topoMapsSpec : ChangeSpec := { name := "topoMaps", fn := fun _ => fun
  | [d1, d2] => { results := [.lit (.bool true)], args := [d1, d2] }
  | _ => none }
def topoMapsRow : OpenClaim := { program := "ytbjnbjgiidcfjaa", sum := "dd7692205e7652dfc1bfeaae0e137ac9b9520a1b798b24e86a2553619c1844bc", func := "plenum/plenumlaw17.TopoMaps", spec := "topoMaps", unfollowed := true, recurses := true, apart := false }
def TopoMapsSaid : Prop := topoMapsRow.holds Try.pinned (OpenSpec.ofChange topoMapsSpec)

/-- ITS FALSE NEIGHBOUR: 'it returns false'. Refute it at one input. -/
def topoMapsWrong : ChangeSpec := { name := "topoMaps", fn := fun _ => fun
  | [d1, d2] => { results := [.lit (.bool false)], args := [d1, d2] }
  | _ => none }
def TopoMapsWrongFalsely : Prop := topoMapsRow.holds Try.pinned (OpenSpec.ofChange topoMapsWrong)

/-- 'plenumlaw17.TopoOrder': WHATEVER THE INPUT: true; the input reads as it did. -/
def topoOrderSpec : ChangeSpec := { name := "topoOrder", fn := fun _ => fun
  | [d1, d2] => { results := [.lit (.bool true)], args := [d1, d2] }
  | _ => none }
def topoOrderRow : OpenClaim := { program := "ytbjnbjgiidcfjaa", sum := "dd7692205e7652dfc1bfeaae0e137ac9b9520a1b798b24e86a2553619c1844bc", func := "plenum/plenumlaw17.TopoOrder", spec := "topoOrder", unfollowed := true, recurses := true, apart := false }
def TopoOrderSaid : Prop := topoOrderRow.holds Try.pinned (OpenSpec.ofChange topoOrderSpec)

/-- ITS FALSE NEIGHBOUR: 'it returns false'. Refute it at one input. -/
def topoOrderWrong : ChangeSpec := { name := "topoOrder", fn := fun _ => fun
  | [d1, d2] => { results := [.lit (.bool false)], args := [d1, d2] }
  | _ => none }
def TopoOrderWrongFalsely : Prop := topoOrderRow.holds Try.pinned (OpenSpec.ofChange topoOrderWrong)

/-- 'plenumlaw17.TopoMembers': WHATEVER THE INPUT: true; the input reads as it did. -/
def topoMembersSpec : ChangeSpec := { name := "topoMembers", fn := fun _ => fun
  | [d1, d2, d3, d4] => { results := [.lit (.bool true)], args := [d1, d2, d3, d4] }
  | _ => none }
def topoMembersRow : OpenClaim := { program := "ytbjnbjgiidcfjaa", sum := "dd7692205e7652dfc1bfeaae0e137ac9b9520a1b798b24e86a2553619c1844bc", func := "plenum/plenumlaw17.TopoMembers", spec := "topoMembers", unfollowed := true, recurses := true, apart := false }
def TopoMembersSaid : Prop := topoMembersRow.holds Try.pinned (OpenSpec.ofChange topoMembersSpec)

/-- ITS FALSE NEIGHBOUR: 'it returns false'. Refute it at one input. -/
def topoMembersWrong : ChangeSpec := { name := "topoMembers", fn := fun _ => fun
  | [d1, d2, d3, d4] => { results := [.lit (.bool false)], args := [d1, d2, d3, d4] }
  | _ => none }
def TopoMembersWrongFalsely : Prop := topoMembersRow.holds Try.pinned (OpenSpec.ofChange topoMembersWrong)

/- THE SECOND FORM. 'bulk': how many values and letters a reading holds, each counted each time it is reached (what is shared counts as often as it is met; a slice's spare places count too). A statement '..UptoSaid' is the law's where the arguments, and the package variables that the reading takes, are together of bulk at most 1048576: NARROWER than '..Said'. Prove '..Said' where nothing that the law and all that it calls make is longer than what came in: it says more and counts as full. Else prove '..UptoSaid'. A law counts once. -/
mutual
def uptoBulk {H : Type} : DataW H → Nat
  | .lit (.string bytes) => bytes.length + 1
  | .lit _ => 1
  | .nil => 1
  | .ptr d => uptoBulk d + 1
  | .slice elems spare => uptoBulkAll elems + uptoBulkAll spare + 1
  | .agg parts => uptoBulkAll parts + 1
  | .iface _ d => uptoBulk d + 1
  | .map entries => uptoBulkEntries entries + 1
  | .held _ => 1
def uptoBulkAll {H : Type} : List (DataW H) → Nat
  | [] => 0
  | d :: r => uptoBulk d + uptoBulkAll r
def uptoBulkEntries {H : Type} : List (Lit × DataW H) → Nat
  | [] => 0
  | x :: r => uptoBulkEntry x + uptoBulkEntries r
def uptoBulkEntry {H : Type} : Lit × DataW H → Nat
  | (.string bytes, d) => bytes.length + uptoBulk d + 1
  | (_, d) => uptoBulk d + 1
 end
def uptoSmall : (H : Type) → List (DataW H) → Bool := fun _ ds => decide (uptoBulkAll ds ≤ 1048576)
def OpenSpec.upto (s : _root_.Go.ChangeSpec) : _root_.Go.OpenSpec := { _root_.Go.OpenSpec.ofChange s with cond := some uptoSmall }

/-- 'plenumlaw17.TopoBoth', WHERE WHAT IT READS IS OF BULK AT MOST 1048576: true; the input reads as it did. -/
def topoBothUptoRow : OpenClaim := { program := "ytbjnbjgiidcfjaa", sum := "dd7692205e7652dfc1bfeaae0e137ac9b9520a1b798b24e86a2553619c1844bc", func := "plenum/plenumlaw17.TopoBoth", spec := "topoBoth", unfollowed := true, recurses := true, apart := false, narrowed := true }
def TopoBothUptoSaid : Prop := topoBothUptoRow.holds Try.pinned (OpenSpec.upto topoBothSpec)

/-- 'plenumlaw17.TopoWild', WHERE WHAT IT READS IS OF BULK AT MOST 1048576: true; the input reads as it did. -/
def topoWildUptoRow : OpenClaim := { program := "ytbjnbjgiidcfjaa", sum := "dd7692205e7652dfc1bfeaae0e137ac9b9520a1b798b24e86a2553619c1844bc", func := "plenum/plenumlaw17.TopoWild", spec := "topoWild", unfollowed := true, recurses := true, apart := false, narrowed := true }
def TopoWildUptoSaid : Prop := topoWildUptoRow.holds Try.pinned (OpenSpec.upto topoWildSpec)

/-- 'plenumlaw17.TopoMaps', WHERE WHAT IT READS IS OF BULK AT MOST 1048576: true; the input reads as it did. -/
def topoMapsUptoRow : OpenClaim := { program := "ytbjnbjgiidcfjaa", sum := "dd7692205e7652dfc1bfeaae0e137ac9b9520a1b798b24e86a2553619c1844bc", func := "plenum/plenumlaw17.TopoMaps", spec := "topoMaps", unfollowed := true, recurses := true, apart := false, narrowed := true }
def TopoMapsUptoSaid : Prop := topoMapsUptoRow.holds Try.pinned (OpenSpec.upto topoMapsSpec)

/-- 'plenumlaw17.TopoOrder', WHERE WHAT IT READS IS OF BULK AT MOST 1048576: true; the input reads as it did. -/
def topoOrderUptoRow : OpenClaim := { program := "ytbjnbjgiidcfjaa", sum := "dd7692205e7652dfc1bfeaae0e137ac9b9520a1b798b24e86a2553619c1844bc", func := "plenum/plenumlaw17.TopoOrder", spec := "topoOrder", unfollowed := true, recurses := true, apart := false, narrowed := true }
def TopoOrderUptoSaid : Prop := topoOrderUptoRow.holds Try.pinned (OpenSpec.upto topoOrderSpec)

/-- 'plenumlaw17.TopoMembers', WHERE WHAT IT READS IS OF BULK AT MOST 1048576: true; the input reads as it did. -/
def topoMembersUptoRow : OpenClaim := { program := "ytbjnbjgiidcfjaa", sum := "dd7692205e7652dfc1bfeaae0e137ac9b9520a1b798b24e86a2553619c1844bc", func := "plenum/plenumlaw17.TopoMembers", spec := "topoMembers", unfollowed := true, recurses := true, apart := false, narrowed := true }
def TopoMembersUptoSaid : Prop := topoMembersUptoRow.holds Try.pinned (OpenSpec.upto topoMembersSpec)

end Rows
end Go.Proofs.Ytbjnbjgiidcfjaa
