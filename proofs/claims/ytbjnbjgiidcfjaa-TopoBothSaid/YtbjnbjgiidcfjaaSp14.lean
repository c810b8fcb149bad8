/- The walk's own rules, part 14: a region that draws, where several operations may come next. -/
import Derived.Test.YtbjnbjgiidcfjaaSp13
set_option linter.unusedVariables false
set_option linter.unusedSimpArgs false
namespace Go.Proofs.Ytbjnbjgiidcfjaa.Sp
open Go
/-- Operation i is carried out now. -/
def WO (P : Program) (n : Nat) (ops : Array Oper) (S : World → Prop) (fuel : Nat) (listed' : Array Bool) (E : List (Nat × Value)) (w : World) (Q : Exit → Act → World → Prop) (i : Nat) : Prop :=
  ∀ a, Env n E a → wpOp P ops Q i (fun a' w' => S w' ∧ wpAnyH P .any ops Q S fuel listed' a' w') a w
section
variable {P : Program} {n : Nat} {ops : Array Oper} {S : World → Prop} {fuel : Nat} {listed l1 l2 l3 l4 : Array Bool} {E : List (Nat × Value)} {z w : World} {Q : Exit → Act → World → Prop} {op : Op} {ty : TypeId} {pos : String} {af : Array Edge} {v : Value} {d i i1 i2 i3 i4 : Nat}
theorem h1 (i1 : Nat) (hr : Region.ready .any ops listed = [i1]) (e1 : listed.setIfInBounds i1 true = l1) (h1 : WO P n ops S fuel l1 E w Q i1) : WH P n ops S (fuel + 1) listed E w Q := by
  intro a hE
  refine wpAnyH_all hr (by simp) ?_
  intro j hj
  simp only [List.mem_singleton] at hj
  subst hj
  rw [e1]; exact h1 a hE
theorem h2 (i1 i2 : Nat) (hr : Region.ready .any ops listed = [i1, i2]) (e1 : listed.setIfInBounds i1 true = l1) (e2 : listed.setIfInBounds i2 true = l2) (h1 : WO P n ops S fuel l1 E w Q i1) (h2 : WO P n ops S fuel l2 E w Q i2) : WH P n ops S (fuel + 1) listed E w Q := by
  intro a hE
  refine wpAnyH_all hr (by simp) ?_
  intro j hj
  simp only [List.mem_cons, List.not_mem_nil, or_false] at hj
  rcases hj with rfl | rfl
  · rw [e1]; exact h1 a hE
  · rw [e2]; exact h2 a hE
theorem h3 (i1 i2 i3 : Nat) (hr : Region.ready .any ops listed = [i1, i2, i3]) (e1 : listed.setIfInBounds i1 true = l1) (e2 : listed.setIfInBounds i2 true = l2) (e3 : listed.setIfInBounds i3 true = l3) (h1 : WO P n ops S fuel l1 E w Q i1) (h2 : WO P n ops S fuel l2 E w Q i2) (h3 : WO P n ops S fuel l3 E w Q i3) : WH P n ops S (fuel + 1) listed E w Q := by
  intro a hE
  refine wpAnyH_all hr (by simp) ?_
  intro j hj
  simp only [List.mem_cons, List.not_mem_nil, or_false] at hj
  rcases hj with rfl | rfl | rfl
  · rw [e1]; exact h1 a hE
  · rw [e2]; exact h2 a hE
  · rw [e3]; exact h3 a hE
theorem h4 (i1 i2 i3 i4 : Nat) (hr : Region.ready .any ops listed = [i1, i2, i3, i4]) (e1 : listed.setIfInBounds i1 true = l1) (e2 : listed.setIfInBounds i2 true = l2) (e3 : listed.setIfInBounds i3 true = l3) (e4 : listed.setIfInBounds i4 true = l4) (h1 : WO P n ops S fuel l1 E w Q i1) (h2 : WO P n ops S fuel l2 E w Q i2) (h3 : WO P n ops S fuel l3 E w Q i3) (h4 : WO P n ops S fuel l4 E w Q i4) : WH P n ops S (fuel + 1) listed E w Q := by
  intro a hE
  refine wpAnyH_all hr (by simp) ?_
  intro j hj
  simp only [List.mem_cons, List.not_mem_nil, or_false] at hj
  rcases hj with rfl | rfl | rfl | rfl
  · rw [e1]; exact h1 a hE
  · rw [e2]; exact h2 a hE
  · rw [e3]; exact h3 a hE
  · rw [e4]; exact h4 a hE
/-- What an operation's guard says: asked. -/
def GD (ops : Array Oper) (E : List (Nat × Value)) : Option (Nat × Bool) → Prop
  | none => True
  | some (j, b) => ∃ k, (ops[j]?).bind (·.dst) = some k ∧ lk E k = some (.bool b)
theorem gd0 : GD ops E none := trivial
theorem gd1 {j k : Nat} {b : Bool} (hj : (ops[j]?).bind (·.dst) = some k) (hb : lk E k = some (.bool b)) : GD ops E (some (j, b)) := ⟨k, hj, hb⟩
variable {g : Option (Nat × Bool)}
theorem GD.wanted {dst : Option Tmp} (hg : GD ops E g) {a : Act} (hE : Env n E a) : Region.wanted ⟨dst, op, ty, pos, af, g⟩ (yielded ops a.tmps) = true := by
  cases g with
  | none => simp [Region.wanted]
  | some p =>
    obtain ⟨j, b⟩ := p
    obtain ⟨k, hj, hb⟩ := hg
    have hy := yielded_of hE hj hb
    simp [Region.wanted, hy]
theorem qL (hi : ops[i]? = some ⟨some d, op, ty, pos, af, g⟩) (hg : GD ops E g) (h : Run P E w op v) (hd : Nat.blt d n = true) (hS : S w) (k : WH P n ops S fuel listed ((d, v) :: E) w Q) : WO P n ops S fuel listed E w Q i := by
  intro a hE
  unfold wpOp
  simp only [hi, hg.wanted hE, if_true]
  refine .inl ?_
  simp only [Oper.wp, h n a _ _ _ _ _ hE, Oper.upon]
  exact ⟨hS, k _ (hE.put hd v)⟩
theorem qW {Po : Value → World → Prop} (hi : ops[i]? = some ⟨some d, op, ty, pos, af, g⟩) (hg : GD ops E g) (h : ∃ v w', RunW P E w op v w' ∧ Po v w') (hd : Nat.blt d n = true) (k : ∀ v w', Po v w' → S w' ∧ WH P n ops S fuel listed ((d, v) :: E) w' Q) : WO P n ops S fuel listed E w Q i := by
  obtain ⟨v, w', h, hp⟩ := h
  intro a hE
  unfold wpOp
  simp only [hi, hg.wanted hE, if_true]
  refine .inl ?_
  simp only [Oper.wp, h n a _ _ _ _ _ hE, Oper.upon]
  exact ⟨(k v w' hp).1, (k v w' hp).2 _ (hE.put hd v)⟩
theorem qS {Po : World → Prop} (hi : ops[i]? = some ⟨none, op, ty, pos, af, g⟩) (hg : GD ops E g) (h : ∃ w', RunS P E w op w' ∧ Po w') (k : ∀ w', Po w' → S w' ∧ WH P n ops S fuel listed E w' Q) : WO P n ops S fuel listed E w Q i := by
  obtain ⟨w', h, hp⟩ := h
  intro a hE
  unfold wpOp
  simp only [hi, hg.wanted hE, if_true]
  refine .inl ?_
  simp only [Oper.wp, h n a _ _ _ _ _ hE, Oper.upon, Act.put]
  exact ⟨(k w' hp).1, (k w' hp).2 _ hE⟩
theorem qCall {k : FuncId} {first cap : List Value} {f : Operand} {args : Array Operand} {ts : Array TypeId} {vs : List Value} {Rr : Ending → World → Prop} (hi : ops[i]? = some ⟨some d, .call { callee := .value f, args := args, argTypes := ts }, ty, pos, af, g⟩) (hg : GD ops E g)
    (hk : IsF P k) (hf : lv E f = some (.func (.func k) first.toArray cap.toArray)) (ha : lvs E args.toList = some vs) (hd : Nat.blt d n = true)
    (h : Calls P k (first ++ vs ++ cap).toArray w Rr) (K : ∀ e w', Rr e w' → ∃ v, e = .returned v ∧ S w' ∧ WH P n ops S fuel listed ((d, v) :: E) w' Q) : WO P n ops S fuel listed E w Q i := by
  intro a hE
  have he := hE.evs _ _ ha
  have hargs : args.map a.eval = vs.toArray := by rw [← he, ← Array.toList_map]
  have hr : (execOp a.eval ⟨some d, .call { callee := .value f, args := args, argTypes := ts }, ty, pos, af, g⟩).run P w = .ok (.enter k (first ++ vs ++ cap).toArray) w := by
    simp [execOp, resolve, hargs, hE.ev hf, Deferred.ofValue, invoke]
    exact hk _ w
  unfold wpOp
  simp only [hi, hg.wanted hE, if_true]
  refine .inl ?_
  simp only [Oper.wp, hr, Oper.upon]
  refine h.mono fun e w' hR => ?_
  obtain ⟨v, rfl, hS, hK⟩ := K e w' hR
  exact ⟨hS, hK _ (hE.put hd v)⟩
/-- Not asked. -/
theorem qN {j k : Nat} {b : Bool} {dst : Option Tmp} (hi : ops[i]? = some ⟨dst, op, ty, pos, af, some (j, b)⟩) (hj : (ops[j]?).bind (·.dst) = some k) (hb : lk E k = some (.bool (!b))) (hdst : dst = none) (hS : S w) (h : WH P n ops S fuel listed E w Q) : WO P n ops S fuel listed E w Q i := by
  subst hdst
  intro a hE
  have hy := yielded_of hE hj hb
  have hw : ((some (!b) : Option Bool) == some b) = false := by cases b <;> rfl
  unfold wpOp
  simp only [hi, Region.wanted, hy, hw, if_false, Bool.false_eq_true, Act.put]
  exact ⟨hS, h _ hE⟩
end
end Go.Proofs.Ytbjnbjgiidcfjaa.Sp
