/- The walk's own rules, part 19: short words, for great claims. -/
import Derived.Test.YtbjnbjgiidcfjaaSp18
set_option linter.unusedVariables false
namespace Go.Proofs.Ytbjnbjgiidcfjaa.Sp
open Go
theorem sR {l : Hp} : l.Sublist l := List.Sublist.refl l
theorem pR {l : Hp} : l.Perm l := List.Perm.refl l
/-- What is asked of a panic does not hang on the slots: found by the form. -/
class PkC (Q : Exit → Act → World → Prop) : Prop where
  ok : PanicOk Q
instance pkFn {P : Program} {fn : Func} {R : Ending → World → Prop} : PkC (bodyPost P fn R) := ⟨pFn⟩
instance pkThen {K : Act → World → Prop} {Q : Exit → Act → World → Prop} [h : PkC Q] : PkC (Exit.then K Q) := ⟨pThen h.ok⟩
instance pkBlock {id : Nat} {Q : Exit → Act → World → Prop} [h : PkC Q] : PkC (Exit.inBlock id Q) := ⟨pBlock h.ok⟩
section
variable {P : Program} {n : Nat} {dm : List (Nat × Nat)} {ops : Array Oper} {S : World → Prop} {fuel : Nat} {listed listed' : Array Bool} {E : List (Nat × Value)} {z w : World} {Q : Exit → Act → World → Prop} {op : Op} {ty : TypeId} {pos : String} {af : Array Edge} {v : Value} {d : Nat}
theorem lE (h : WK n E w (Q .normal)) : WL P n dm [] E w Q := lEnd (K := fun _ _ => True) h
theorem hT [hp : PkC Q] (i : Nat) (hi : ops[i]? = some ⟨some d, op, ty, pos, af, none⟩) (ht : takeB ops listed i = true) (hy : ∀ w, S w → Run P E w op v) (hS : S w) (hd : Nat.blt d n = true) (hl : listed.setIfInBounds i true = listed')
    (h : WH P n ops S fuel listed' ((d, v) :: E) w Q) : WH P n ops S (fuel + 1) listed E w Q := hTake i hi ht hp.ok hy hS hd hl h
theorem hTG [hp : PkC Q] (i : Nat) {j k : Nat} {b : Bool} (hi : ops[i]? = some ⟨some d, op, ty, pos, af, some (j, b)⟩) (hj : (ops[j]?).bind (·.dst) = some k) (hb : lk E k = some (.bool b)) (ht : takeB ops listed i = true) (hy : ∀ w, S w → Run P E w op v) (hS : S w) (hd : Nat.blt d n = true) (hl : listed.setIfInBounds i true = listed')
    (h : WH P n ops S fuel listed' ((d, v) :: E) w Q) : WH P n ops S (fuel + 1) listed E w Q := hTakeG i hi hj hb ht hp.ok hy hS hd hl h
theorem hTN [hp : PkC Q] (i : Nat) {j k : Nat} {b : Bool} (hi : ops[i]? = some ⟨some d, op, ty, pos, af, some (j, b)⟩) (hj : (ops[j]?).bind (·.dst) = some k) (hb : lk E k = some (.bool (!b))) (ht : takeB ops listed i = true) (hS : S w) (hd : Nat.blt d n = true) (hl : listed.setIfInBounds i true = listed')
    (h : WH P n ops S fuel listed' ((d, undef) :: E) w Q) : WH P n ops S (fuel + 1) listed E w Q := hTakeN i hi hj hb ht hp.ok hS hd hl h
theorem hTU [hp : PkC Q] (i : Nat) {j k : Nat} {b : Bool} (hi : ops[i]? = some ⟨some d, op, ty, pos, af, some (j, b)⟩) (hj : (ops[j]?).bind (·.dst) = some k) (hb : lk E k = some undef) (ht : takeB ops listed i = true) (hS : S w) (hd : Nat.blt d n = true) (hl : listed.setIfInBounds i true = listed')
    (h : WH P n ops S fuel listed' ((d, undef) :: E) w Q) : WH P n ops S (fuel + 1) listed E w Q := hTakeU i hi hj hb ht hp.ok hS hd hl h
end
end Go.Proofs.Ytbjnbjgiidcfjaa.Sp
