/- The walk's own rules, part 7: a region that draws its order. -/
import Derived.Test.YtbjnbjgiidcfjaaSp5
set_option linter.unusedVariables false
set_option linter.unusedSimpArgs false
namespace Go.Proofs.Ytbjnbjgiidcfjaa.Sp
open Go
/-- What is asked of a panic does not hang on the slots. -/
def PanicOk (Q : Exit → Act → World → Prop) : Prop := ∀ c (a : Act) (d : Option Tmp) v w, Q (.panic c) (a.put d v) w → Q (.panic c) a w
theorem pFn {P : Program} {fn : Func} {R : Ending → World → Prop} : PanicOk (bodyPost P fn R) := fun c a d v w h => by
  cases d <;> exact h
theorem pThen {K : Act → World → Prop} {Q : Exit → Act → World → Prop} (h : PanicOk Q) : PanicOk (Exit.then K Q) := fun c a d v w => h c a d v w
theorem pBlock {id : Nat} {Q : Exit → Act → World → Prop} (h : PanicOk Q) : PanicOk (Exit.inBlock id Q) := fun c a d v w => h c a d v w
def WH (P : Program) (n : Nat) (ops : Array Oper) (S : World → Prop) (fuel : Nat) (listed : Array Bool) (E : List (Nat × Value)) (w : World) (Q : Exit → Act → World → Prop) : Prop :=
  ∀ a, Env n E a → wpAnyH P .any ops Q S fuel listed a w
/-- May this operation be taken now, ahead of all others that may come? -/
def takeB (ops : Array Oper) (listed : Array Bool) (i : Nat) : Bool := Region.noSelect ops && Region.free .any ops listed i && (Region.ready .any ops listed).contains i
section
variable {P : Program} {n : Nat} {ops : Array Oper} {S : World → Prop} {fuel : Nat} {listed listed' : Array Bool} {E : List (Nat × Value)} {z w : World} {Q : Exit → Act → World → Prop} {op : Op} {ty : TypeId} {pos : String} {af : Array Edge} {v : Value} {d i : Nat} {L : Hp}
theorem cDraw {id : Nat} {l : List Oper} {m : Nat} (hm : P.follows .mixedOrders = true) (HF : Fits z w L) (hl : l.length = m) (S : World → Prop) (h : ∀ w', Fits z w' L → WH P n l.toArray S m (Array.replicate m false) E w' Q) : WC P n (.region id l.toArray true) E w Q := by
  subst hl
  intro a hE
  refine wp_region_held (S := S) hm ?_
  have := h _ HF.draw a hE
  simpa using this
theorem hTake (i : Nat) (hi : ops[i]? = some ⟨some d, op, ty, pos, af, none⟩) (ht : takeB ops listed i = true) (hp : PanicOk Q) (hy : ∀ w, S w → Run P E w op v) (hS : S w) (hd : Nat.blt d n = true) (hl : listed.setIfInBounds i true = listed')
    (h : WH P n ops S fuel listed' ((d, v) :: E) w Q) : WH P n ops S (fuel + 1) listed E w Q := by
  intro a hE
  simp only [takeB, Bool.and_eq_true] at ht
  refine wpAnyH_take (oi := ⟨some d, op, ty, pos, af, none⟩) (v := v) hi ht.1.1 ht.1.2 ht.2 (fun c a w h => hp c a _ v w h) ?_ hS ?_
  · exact .inl ⟨rfl, fun w hw => hy w hw n a _ _ _ _ _ hE⟩
  · rw [hl]; exact h _ (hE.put hd v)
theorem hTakeG (i : Nat) {j k : Nat} {b : Bool} (hi : ops[i]? = some ⟨some d, op, ty, pos, af, some (j, b)⟩) (hj : (ops[j]?).bind (·.dst) = some k) (hb : lk E k = some (.bool b)) (ht : takeB ops listed i = true) (hp : PanicOk Q) (hy : ∀ w, S w → Run P E w op v) (hS : S w) (hd : Nat.blt d n = true) (hl : listed.setIfInBounds i true = listed')
    (h : WH P n ops S fuel listed' ((d, v) :: E) w Q) : WH P n ops S (fuel + 1) listed E w Q := by
  intro a hE
  simp only [takeB, Bool.and_eq_true] at ht
  refine wpAnyH_take (oi := ⟨some d, op, ty, pos, af, some (j, b)⟩) (v := v) hi ht.1.1 ht.1.2 ht.2 (fun c a w h => hp c a _ v w h) ?_ hS ?_
  · refine .inl ⟨?_, fun w hw => hy w hw n a _ _ _ _ _ hE⟩
    have hy := yielded_of hE hj hb
    simp [Region.wanted, hy]
  · rw [hl]; exact h _ (hE.put hd v)
/-- A guard that says no. -/
theorem hTakeN (i : Nat) {j k : Nat} {b : Bool} (hi : ops[i]? = some ⟨some d, op, ty, pos, af, some (j, b)⟩) (hj : (ops[j]?).bind (·.dst) = some k) (hb : lk E k = some (.bool (!b))) (ht : takeB ops listed i = true) (hp : PanicOk Q) (hS : S w) (hd : Nat.blt d n = true) (hl : listed.setIfInBounds i true = listed')
    (h : WH P n ops S fuel listed' ((d, undef) :: E) w Q) : WH P n ops S (fuel + 1) listed E w Q := by
  intro a hE
  simp only [takeB, Bool.and_eq_true] at ht
  refine wpAnyH_take (oi := ⟨some d, op, ty, pos, af, some (j, b)⟩) (v := undef) hi ht.1.1 ht.1.2 ht.2 (fun c a w h => hp c a _ undef w h) ?_ hS ?_
  · refine .inr ⟨?_, rfl⟩
    have hy := yielded_of hE hj hb
    cases b <;> simp [Region.wanted, hy]
  · rw [hl]; exact h _ (hE.put hd undef)
theorem hTakeU (i : Nat) {j k : Nat} {b : Bool} (hi : ops[i]? = some ⟨some d, op, ty, pos, af, some (j, b)⟩) (hj : (ops[j]?).bind (·.dst) = some k) (hb : lk E k = some undef) (ht : takeB ops listed i = true) (hp : PanicOk Q) (hS : S w) (hd : Nat.blt d n = true) (hl : listed.setIfInBounds i true = listed')
    (h : WH P n ops S fuel listed' ((d, undef) :: E) w Q) : WH P n ops S (fuel + 1) listed E w Q := by
  intro a hE
  simp only [takeB, Bool.and_eq_true] at ht
  refine wpAnyH_take (oi := ⟨some d, op, ty, pos, af, some (j, b)⟩) (v := undef) hi ht.1.1 ht.1.2 ht.2 (fun c a w h => hp c a _ undef w h) ?_ hS ?_
  · refine .inr ⟨?_, rfl⟩
    have h1 := hE.get k _ hb
    have hy : yielded ops a.tmps j = none := by simp [yielded, hj, h1, undef]
    simp [Region.wanted, hy]
  · rw [hl]; exact h _ (hE.put hd undef)
/-- The one operation that may come up: it is carried out. -/
theorem hOne {oo : Oper} (i : Nat) (hi : ops[i]? = some oo) (hr : Region.ready .any ops listed = [i]) (hl : listed.setIfInBounds i true = listed')
    (h : ∀ a, Env n E a → wpOp P ops Q i (fun a' w' => S w' ∧ wpAnyH P .any ops Q S fuel listed' a' w') a w) : WH P n ops S (fuel + 1) listed E w Q := by
  intro a hE
  refine wpAnyH_all hr (by simp) ?_
  intro j hj
  simp only [List.mem_singleton] at hj
  subst hj
  rw [hl]
  exact h a hE
theorem hEnd (hr : Region.ready .any ops listed = []) (h : WK n E w (Q .normal)) : WH P n ops S fuel listed E w Q := fun a hE => wpAnyH_done hr (h a hE) fuel
theorem hKeep {E' : List (Nat × Value)} (k : Keep E E') (h : WH P n ops S fuel listed E' w Q) : WH P n ops S fuel listed E w Q := fun a hE => h a (hE.keep k)
theorem hSet {u : Value} {i : Nat} (h : lk E i = some u) (e : u = v) (k : WH P n ops S fuel listed ((i, v) :: E) w Q) : WH P n ops S fuel listed E w Q := fun a hE => k a ⟨hE.size, hE.defers, fun j' x hj => by
  by_cases hi : j' = i
  · subst hi; obtain rfl := lk_cons_eq hj; exact hE.get _ x (e ▸ h)
  · rw [lk_cons_ne hi] at hj; exact hE.get j' x hj⟩
/-- .. a call .. -/
theorem hCall (i : Nat) {k : FuncId} {first cap : List Value} {f : Operand} {args : Array Operand} {ts : Array TypeId} {vs : List Value} {Rr : Ending → World → Prop} (hi : ops[i]? = some ⟨some d, .call { callee := .value f, args := args, argTypes := ts }, ty, pos, af, none⟩) (hr : Region.ready .any ops listed = [i]) (hl : listed.setIfInBounds i true = listed')
    (hk : IsF P k) (hf : lv E f = some (.func (.func k) first.toArray cap.toArray)) (ha : lvs E args.toList = some vs) (hd : Nat.blt d n = true)
    (h : Calls P k (first ++ vs ++ cap).toArray w Rr) (K : ∀ e w', Rr e w' → ∃ v, e = .returned v ∧ S w' ∧ WH P n ops S fuel listed' ((d, v) :: E) w' Q) : WH P n ops S (fuel + 1) listed E w Q := by
  refine hOne i hi hr hl ?_
  intro a hE
  have he := hE.evs _ _ ha
  have hargs : args.map a.eval = vs.toArray := by rw [← he, ← Array.toList_map]
  have hr : (execOp a.eval ⟨some d, .call { callee := .value f, args := args, argTypes := ts }, ty, pos, af, none⟩).run P w = .ok (.enter k (first ++ vs ++ cap).toArray) w := by
    simp [execOp, resolve, hargs, hE.ev hf, Deferred.ofValue, invoke]
    exact hk _ w
  unfold wpOp
  simp only [hi, Region.wanted, if_true]
  refine .inl ?_
  simp only [Oper.wp, hr, Oper.upon]
  refine h.mono fun e w' hR => ?_
  obtain ⟨v, rfl, hS, hK⟩ := K e w' hR
  exact ⟨hS, hK _ (hE.put hd v)⟩
theorem hCallG (i : Nat) {j kk : Nat} {b : Bool} {k : FuncId} {first cap : List Value} {f : Operand} {args : Array Operand} {ts : Array TypeId} {vs : List Value} {Rr : Ending → World → Prop} (hi : ops[i]? = some ⟨some d, .call { callee := .value f, args := args, argTypes := ts }, ty, pos, af, some (j, b)⟩) (hj : (ops[j]?).bind (·.dst) = some kk) (hb : lk E kk = some (.bool b)) (hr : Region.ready .any ops listed = [i]) (hl : listed.setIfInBounds i true = listed')
    (hk : IsF P k) (hf : lv E f = some (.func (.func k) first.toArray cap.toArray)) (ha : lvs E args.toList = some vs) (hd : Nat.blt d n = true)
    (h : Calls P k (first ++ vs ++ cap).toArray w Rr) (K : ∀ e w', Rr e w' → ∃ v, e = .returned v ∧ S w' ∧ WH P n ops S fuel listed' ((d, v) :: E) w' Q) : WH P n ops S (fuel + 1) listed E w Q := by
  refine hOne i hi hr hl ?_
  intro a hE
  have he := hE.evs _ _ ha
  have hargs : args.map a.eval = vs.toArray := by rw [← he, ← Array.toList_map]
  have hr : (execOp a.eval ⟨some d, .call { callee := .value f, args := args, argTypes := ts }, ty, pos, af, some (j, b)⟩).run P w = .ok (.enter k (first ++ vs ++ cap).toArray) w := by
    simp [execOp, resolve, hargs, hE.ev hf, Deferred.ofValue, invoke]
    exact hk _ w
  have hy := yielded_of hE hj hb
  unfold wpOp
  simp only [hi, Region.wanted, hy, beq_self_eq_true, if_true]
  refine .inl ?_
  simp only [Oper.wp, hr, Oper.upon]
  refine h.mono fun e w' hR => ?_
  obtain ⟨v, rfl, hS, hK⟩ := K e w' hR
  exact ⟨hS, hK _ (hE.put hd v)⟩
end
end Go.Proofs.Ytbjnbjgiidcfjaa.Sp
