/- The walk's own rules, part 5: meetings and loops. -/
import Derived.Test.YtbjnbjgiidcfjaaSp4
set_option linter.unusedVariables false
namespace Go.Proofs.Ytbjnbjgiidcfjaa.Sp
open Go
section
variable {P : Program} {n : Nat} {E : List (Nat × Value)} {z w : World} {Q : Exit → Act → World → Prop} {c : Code} {S R : Type}
theorem cJoin {y : S ⊕ R} (I : S → Act → World → Prop) (h : WC P n c E w (Exit.then (fun a w => ∃ s, y = .inl s ∧ I s a w) Q)) (after : ∀ s a w, y = .inl s → I s a w → Q .normal a w) : WC P n c E w Q :=
  cCut _ h (fun a w ⟨s, hy, hI⟩ => after s a w hy hI)
theorem cLoopB {B : Nat} {y : S ⊕ R} {s0 : S} (b : S → Option (S ⊕ (S ⊕ R))) (I : S → Act → World → Prop) (H : loopO b s0 = some y) (h0 : ∀ a, Env n E a → I s0 a w)
    (round : ∀ s a w t, I s a w → b s = some t → (∀ x, t = .inr x → x = y) → c.wp P (Exit.then (fun a w => ∃ s', t = .inl s' ∧ I s' a w) (Exit.inBlock B (Exit.then (fun a w => ∃ s', t = .inr (.inl s') ∧ I s' a w) Q))) a w)
    (after : ∀ s a w, y = .inl s → I s a w → Q .normal a w) : WC P n (.block B (.loop c)) E w Q := by
  refine cCut (fun a w => ∃ s, y = .inl s ∧ I s a w) ?_ (fun a w ⟨s, hy, hI⟩ => after s a w hy hI)
  refine cBlock ?_
  refine cLoop b I H h0 ?_
  intro s a w t hI hb hx
  refine Code.wp_mono ?_ (round s a w t hI hb hx)
  intro e a' w' he
  cases e with
  | normal => exact he
  | exit id =>
    by_cases hid : id = B
    · subst hid
      simp only [Exit.then, Exit.inBlock, if_true] at he ⊢
      obtain ⟨s', ht, hI'⟩ := he
      exact ⟨s', (hx _ ht).symm, hI'⟩
    · simp only [Exit.then, Exit.inBlock, if_neg hid] at he ⊢
      exact he
  | goto l => exact he
  | ret => exact he
  | panic ch => exact he
  | outgrown => exact he
end
end Go.Proofs.Ytbjnbjgiidcfjaa.Sp
