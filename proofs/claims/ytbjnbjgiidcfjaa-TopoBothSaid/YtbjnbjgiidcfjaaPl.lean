/- Plain lemmas: whole numbers that fit, loops of rounds. -/
import Derived.Test.YtbjnbjgiidcfjaaSp6
set_option linter.unusedVariables false
namespace Go.Proofs.Ytbjnbjgiidcfjaa.Sp
open Go
theorem w64 {x : Int} (h0 : -9223372036854775808 ≤ x) (h1 : x ≤ 9223372036854775807) : IntKind.i64.wrap x = x := by
  have e1 : IntKind.i64.min = -9223372036854775808 := by decide
  have e2 : IntKind.i64.max = 9223372036854775807 := by decide
  simp only [IntKind.wrap, IntKind.signed, IntKind.bits]
  simp
  omega
theorem inI_u8 {x : Int} (h : inI .u8 x) : 0 ≤ x ∧ x ≤ 255 := by
  obtain ⟨h1, h2⟩ := h
  have e1 : IntKind.u8.min = 0 := by decide
  have e2 : IntKind.u8.max = 255 := by decide
  omega
theorem inI_u16 {x : Int} (h : inI .u16 x) : 0 ≤ x ∧ x ≤ 65535 := by
  obtain ⟨h1, h2⟩ := h
  have e1 : IntKind.u16.min = 0 := by decide
  have e2 : IntKind.u16.max = 65535 := by decide
  omega
theorem inI_u32 {x : Int} (h : inI .u32 x) : 0 ≤ x ∧ x ≤ 4294967295 := by
  obtain ⟨h1, h2⟩ := h
  have e1 : IntKind.u32.min = 0 := by decide
  have e2 : IntKind.u32.max = 4294967295 := by decide
  omega
theorem inI_i64 {x : Int} (h : inI .i64 x) : -9223372036854775808 ≤ x ∧ x ≤ 9223372036854775807 := by
  obtain ⟨h1, h2⟩ := h
  have e1 : IntKind.i64.min = -9223372036854775808 := by decide
  have e2 : IntKind.i64.max = 9223372036854775807 := by decide
  omega
/-- A loop with an invariant and a measure comes to an end that the invariant allows. -/
theorem loop_ends {S R : Type} (b : S → Option (S ⊕ R)) (Inv : S → Prop) (Post : R → Prop) (m : S → Nat)
    (h : ∀ s, Inv s → (∃ s', b s = some (.inl s') ∧ Inv s' ∧ m s' < m s) ∨ (∃ r, b s = some (.inr r) ∧ Post r)) : ∀ s, Inv s → ∃ r, loopO b s = some r ∧ Post r := by
  intro s
  generalize hn : m s = n
  induction n using Nat.strongRecOn generalizing s with
  | _ n ih =>
    intro hs
    rcases h s hs with ⟨s', h1, h2, h3⟩ | ⟨r, h1, h2⟩
    · obtain ⟨r, h4, h5⟩ := ih (m s') (hn ▸ h3) s' rfl h2
      exact ⟨r, by rw [loopO_inl h1, h4], h5⟩
    · exact ⟨r, loopO_inr h1, h2⟩
end Go.Proofs.Ytbjnbjgiidcfjaa.Sp
