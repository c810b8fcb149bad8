/- The walk's own rules for a range over a function, part 1: what is walked plainly holds in a round's frame; code in a round. -/
import Derived.Test.YtjmkalkckpffiaaSp18
import Derived.RangeFuncSeq
import Derived.LoopNIn
import Derived.TacticsIn
set_option linter.unusedVariables false
set_option linter.unusedSimpArgs false
namespace Go.Proofs.Ytjmkalkckpffiaa.Sp
open Go
/-- No operation is a defer statement. -/
def noDefO : Op → Bool
  | .defer _ => false
  | _ => true
def noDefB (l : List Oper) : Bool := l.all (fun o => noDefO o.op)
theorem noDef_of {l : List Oper} (h : noDefB l = true) : ∀ o ∈ l, ∀ c, o.op ≠ .defer c := by
  intro o ho c hc
  have := List.all_eq_true.1 h o ho
  rw [hc] at this
  simp [noDefO] at this
section
variable {P : Program} {ops : Array Oper} {Q : Exit → Act → World → Prop} {lr m : Nat}
theorem lift_upon {o : Oper} {a : Act} {nx nx' : Act → World → Prop} (hn : ∀ a w, nx a w → nx' a w) : ∀ {r : Result Next}, o.upon P a nx Q r → o.uponIn (Fence.wide.inRound lr) m P a nx' Q r := by
  intro r h
  cases r with
  | halt e w' =>
    cases e <;> first | exact h | exact False.elim h
  | ok x w' =>
    cases x with
    | value v => exact hn _ _ h
    | skip => exact hn _ _ h
    | «defer» d => exact hn _ _ h
    | enter f args =>
      refine ⟨(fun hd => by simp [Fence.wide, Fence.inRound] at hd), ?_⟩
      have h1 : Calls P f args w' _ := h
      have h2 := (callsIn_wide (n := m - 1)).2 h1
      refine CallsIn.mono (F := Fence.wide.inRound lr) ⟨h2.1, h2.2⟩ ?_
      intro e w'' he
      cases e with
      | returned v => exact hn _ _ he
      | panicked ch => exact he
      | outgrown => exact he
    | row row args =>
      refine ⟨(fun hd => by simp [Fence.wide, Fence.inRound] at hd), ?_⟩
      intro c cs _
      obtain ⟨v, w'', h1, h2⟩ := (h : Rows P row args w' _) c cs
      exact ⟨v, w'', hn _ _ h1, stepsIn_wide.2 h2⟩
    | _ => exact False.elim h
theorem lift_ops (hno : ∀ a w, ¬ Q .outgrown a w) (hnd : ∀ o ∈ ops.toList, ∀ c, o.op ≠ .defer c) : ∀ (is : List Nat) (a : Act) (w : World), wpOps P ops Q is a w → wpOpsIn (Fence.wide.inRound lr) m P ops Q is a w
  | [], a, w, h => h
  | i :: is, a, w, h => by
    unfold wpOps at h
    unfold wpOpsIn
    cases ho : ops[i]? with
    | none => rw [ho] at h; exact lift_ops hno hnd is a w h
    | some o =>
      rw [ho] at h
      simp only at h ⊢
      by_cases hw : Region.wanted o (yielded ops a.tmps) = true
      · rw [if_pos hw] at h ⊢
        rcases h with h | ⟨_, a', w', hq⟩
        · refine ⟨fun _ _ => trivial, ?_⟩
          have hmem : o ∈ ops.toList := by
            have := Array.getElem?_eq_some_iff.1 ho
            obtain ⟨hlt, rfl⟩ := this
            simp
          have hs : o.semAt (Fence.wide.inRound lr).round a.eval = execOp a.eval o := Oper.semAt_some lr a.eval o (hnd o hmem)
          rw [hs]
          exact lift_upon (fun a w h => lift_ops hno hnd is a w h) h
        · exact absurd hq (hno a' w')
      · rw [if_neg hw] at h ⊢
        exact ⟨fun _ _ => trivial, lift_ops hno hnd is _ w h⟩
end
/-! ### Code in a round -/
def WR (P : Program) (lr : Nat) (n : Nat) (c : Code) (E : List (Nat × Value)) (w : World) (Q : Exit → Act → World → Prop) : Prop :=
  (∀ a w, ¬ Q .outgrown a w) → ∀ a, Env n E a → c.wpIn (Fence.wide.inRound lr) 0 P Q a w
section
variable {P : Program} {lr n : Nat} {dm : List (Nat × Nat)} {E : List (Nat × Value)} {z w : World} {Q : Exit → Act → World → Prop} {c x y : Code} {u v : Value} {i : Nat} {L : Hp}
theorem rRgn {id : Nat} {ops : List Oper} (dm : List (Nat × Nat)) (hd : DM ops.toArray dm) (hn : noDefB ops = true) (h : WL P n dm ops E w Q) : WR P lr n (.region id ops.toArray false) E w Q := by
  intro hno a hE
  refine wpIn_region ?_
  refine lift_ops hno (by simpa using noDef_of hn) _ _ _ ?_
  have h1 := h ops.toArray a hd hE
  have h2 := wpOps_eq_wpList (P := P) (ops := ops.toArray) (Q := Q) ops 0 (by simp)
  rw [List.range_eq_range', List.size_toArray, h2]
  exact h1
theorem rDraw {id : Nat} {l : List Oper} {m : Nat} (hm : P.follows .mixedOrders = true) (HF : Fits z w L) (hl : l.length = m) (hn : noDefB l = true) (S : World → Prop) (h : ∀ w', Fits z w' L → WH P n l.toArray S m (Array.replicate m false) E w' Q) : WR P lr n (.region id l.toArray true) E w Q := by
  subst hl
  intro hno a hE
  refine wpIn_region_draw fun t => ?_
  refine lift_ops hno (by simpa using noDef_of hn) _ _ _ ?_
  have h1 := h _ HF.draw a hE
  simp only [Region.schedule, hm, Bool.true_or, if_true, List.size_toArray]
  exact wpAny_sound l.length t _ a _ (wpAny_of_held _ _ _ _ h1)
theorem rSeq (h : ∀ K : Act → World → Prop, (∀ E w, WR P lr n y E w Q → WK n E w K) → WR P lr n x E w (Exit.then K Q)) : WR P lr n (.seq x y) E w Q :=
  fun hno a hE => wpIn_seq (h (fun a w => y.wpIn (Fence.wide.inRound lr) 0 P Q a w) (fun E w hy a hE => hy hno a hE) hno a hE)
theorem rSkip (h : WK n E w (Q .normal)) : WR P lr n .skip E w Q := fun _ a hE => wpIn_skip (h a hE)
theorem rRet (h : WK n E w (Q .ret)) : WR P lr n .ret E w Q := fun _ a hE => wpIn_ret (h a hE)
theorem rExit {id : Nat} (h : WK n E w (Q (.exit id))) : WR P lr n (.exit id) E w Q := fun _ a hE => wpIn_exit (h a hE)
theorem noOut_block {id : Nat} (h : ∀ a w, ¬ Q .outgrown a w) : ∀ a w, ¬ Exit.inBlock id Q .outgrown a w := h
theorem rBlock {id : Nat} (h : WR P lr n c E w (Exit.inBlock id Q)) : WR P lr n (.block id c) E w Q := fun hno a hE => wpIn_block (h (noOut_block hno) a hE)
theorem rT {c : Operand} {x y : Code} (hc : lv E c = some (.bool true)) (h : WR P lr n x E w Q) : WR P lr n (.cond c x y) E w Q := fun hno a hE => wpIn_cond_true (hE.ev hc) (h hno a hE)
theorem rF {c : Operand} {x y : Code} (hc : lv E c = some (.bool false)) (h : WR P lr n y E w Q) : WR P lr n (.cond c x y) E w Q := fun hno a hE => wpIn_cond_false (hE.ev hc) (h hno a hE)
theorem rCut (M : Act → World → Prop) (h1 : WR P lr n c E w (Exit.then M Q)) (h2 : ∀ a w, M a w → Q .normal a w) : WR P lr n c E w Q :=
  fun hno a hE => wpIn_mono (h1 hno a hE) (fun e a w h => by cases e <;> first | exact h2 a w h | exact h)
theorem rSet {c : Code} (h : lk E i = some u) (e : u = v) (k : WR P lr n c ((i, v) :: E) w Q) : WR P lr n c E w Q := fun hno a hE => k hno a ⟨hE.size, hE.defers, fun j x hj => by
  by_cases hi : j = i
  · subst hi; obtain rfl := lk_cons_eq hj; exact hE.get j x (e ▸ h)
  · rw [lk_cons_ne hi] at hj; exact hE.get j x hj⟩
theorem rJoin {S R : Type} {y : S ⊕ R} (I : S → Act → World → Prop) (h : WR P lr n c E w (Exit.then (fun a w => ∃ s, y = .inl s ∧ I s a w) Q)) (after : ∀ s a w, y = .inl s → I s a w → Q .normal a w) : WR P lr n c E w Q :=
  rCut _ h (fun a w ⟨s, hy, hI⟩ => after s a w hy hI)
/-- In a round, with no end by want of room. -/
def wpR (P : Program) (lr : Nat) (c : Code) (Q : Exit → Act → World → Prop) (a : Act) (w : World) : Prop := (∀ a w, ¬ Q .outgrown a w) → c.wpIn (Fence.wide.inRound lr) 0 P Q a w
theorem rgo_ {a : Act} (hE : Env n E a) (h : WR P lr n c E w Q) : wpR P lr c Q a w := fun hno => h hno a hE
theorem rLoopB {S R : Type} {B : Nat} {y : S ⊕ R} {s0 : S} (b : S → Option (S ⊕ (S ⊕ R))) (I : S → Act → World → Prop) (H : loopO b s0 = some y) (h0 : ∀ a, Env n E a → I s0 a w)
    (round : ∀ s a w t, I s a w → b s = some t → (∀ x, t = .inr x → x = y) → wpR P lr c (Exit.then (fun a w => ∃ s', t = .inl s' ∧ I s' a w) (Exit.inBlock B (Exit.then (fun a w => ∃ s', t = .inr (.inl s') ∧ I s' a w) Q))) a w)
    (after : ∀ s a w, y = .inl s → I s a w → Q .normal a w) : WR P lr n (.block B (.loop c)) E w Q := by
  refine rCut (fun a w => ∃ s, y = .inl s ∧ I s a w) ?_ (fun a w ⟨s, hy, hI⟩ => after s a w hy hI)
  refine rBlock ?_
  intro hno a hE
  obtain ⟨k, hk⟩ := iter_of_loopO H
  refine wpIn_loop_rounds k ?_
  have key : ∀ k s a w, iterO b k s = some y → I s a w → Code.roundsIn (Fence.wide.inRound lr) 0 P c (Exit.inBlock B (Exit.then (fun a w => ∃ s, y = .inl s ∧ I s a w) Q)) k a w := by
    intro k
    induction k with
    | zero => intro s a w h; simp [iterO] at h
    | succ k ih =>
      intro s a w h hI
      rw [iterO] at h
      cases hb : b s with
      | none => rw [hb] at h; cases h
      | some t =>
        rw [hb] at h
        rw [roundsIn_succ]
        have hx : ∀ x, t = .inr x → x = y := by
          intro r' hr'
          subst hr'
          simpa using h
        refine wpIn_mono (round s a w t hI hb hx hno) ?_
        intro e a' w' he
        cases e with
        | normal =>
          obtain ⟨s', rfl, hI'⟩ := he
          exact ih s' a' w' h hI'
        | exit id =>
          by_cases hid : id = B
          · subst hid
            simp only [Exit.then, Exit.inBlock, if_true] at he ⊢
            obtain ⟨s', ht, hI'⟩ := he
            exact ⟨s', (hx _ ht).symm, hI'⟩
          · simp only [Exit.then, Exit.inBlock, if_neg hid] at he ⊢
            exact he
        | goto l => exact he
        | ret => exact he
        | panic ch => exact he
        | outgrown => exact he
  exact key k s0 a w hk (h0 a hE)
end
end Go.Proofs.Ytjmkalkckpffiaa.Sp
