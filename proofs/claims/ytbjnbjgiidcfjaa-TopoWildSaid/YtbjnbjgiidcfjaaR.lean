/- The laws' rows, each out of its plain part ('..Pure': for all plain values that the types allow, the law's function answers true). Conditions: the plain part. Written by gen.py. -/
import Derived.Test.YtbjnbjgiidcfjaaG
import Derived.Test.YtbjnbjgiidcfjaaSp6
import Derived.Test.YtbjnbjgiidcfjaaRows
import Derived.KernelRfl
set_option linter.unusedVariables false
set_option linter.unusedSimpArgs false
namespace Go.Proofs.Ytbjnbjgiidcfjaa
open Go Go.Proofs.Ytbjnbjgiidcfjaa.Sp Go.ChangeShapes Go.WideShapes Go.ChangeAt Go.RowKit

theorem own_ : ownKnob Try.prog.godebug = none := by kernel_rfl
theorem laidOut_ : laidOutB Try.prog = true := by kernel_rfl
/-- What is left of the law: plain values. -/
def TopoWild.Pure : Prop := ∀ (a0 : List Int), (a0.length ≤ maxLen ∧ ∀ x1 ∈ a0, inI .u8 x1) → f_plenumlaw17_TopoWild a0 = some true
set_option maxRecDepth 100000 in
theorem TopoWild_lifted (hp : TopoWild.Pure) (os : Os) (started : os.Started) (H : Type) (enc : TypeId × Value → H) :
    ReturnsInHanded {} Try.checked os 4 .any (Rows.topoWildSpec.pre6 enc Try.prog Try.f4 Rows.topoWildRow.domain false) (Rows.topoWildSpec.post enc Try.prog Try.f4 false true false false) := by
  refine returnsInHanded_of_change (C := Try.checked) own_ started (by kernel_rfl) Try.func4 (ChangeSpec.witness6 (enc := enc) (C := Try.checked) false ⟨#[], #[(.slice none 0 0)], []⟩ 8 (by kernel_rfl) (by kernel_rfl) (by kernel_rfl) (by kernel_rfl)) ?_
  intro W base args ds gs before hval0 hW0 hcnd _
  have hval : ∀ (j : Nat) t v, Try.f4.params[j]? = some t → args[j]? = some v → Value.okWide Try.prog W .any base t v := hval0
  have hW : DataW.Whole enc Try.prog Try.f4.params.toList Rows.topoWildSpec.vars false W args.toList ds gs before := hW0
  have hA : ∃ p, DataW.TrodAll enc Try.prog W 0 (fun _ => true) true [22] args.toList ds p := by obtain ⟨p, q, h, _⟩ := hW; exact ⟨p, h⟩
  obtain ⟨p, hA⟩ := hA
  obtain ⟨vs, hvs⟩ : ∃ vs, args.toList = vs := ⟨_, rfl⟩
  rw [hvs] at hA
  have hB0 := hA; clear hA
  obtain ⟨v0, vs0, d0, ds0, p0, q0, rfl, rfl, h0, hB1, rfl⟩ := Sp.trodAll_cons hB0
  obtain ⟨rfl, rfl⟩ := Sp.trodAll_nil hB1
  obtain rfl : args = [v0].toArray := by rw [← hvs]
  obtain ⟨f0_, h0⟩ := h0
  obtain ⟨A0, l0, c0, rfl⟩ := okWide_slice Try.underlying22 (hval 0 22 v0 rfl rfl)
  obtain ⟨a0, ⟨B0, b0, e0, r0⟩, w0⟩ := (opnSl Try.underlying22 (by kernel_rfl) (by decide) (opnInt Try.underlying5)) enc W 0 _ _ _ _ _ h0
  obtain ⟨rfl, rfl, rfl⟩ : B0 = A0 ∧ l0 = a0.length ∧ b0 = c0 := by have e_ : [Value.slice A0 l0 c0] = [.slice B0 a0.length b0] := e0; simp only [List.cons.injEq, Value.slice.injEq, and_true] at e_; exact ⟨e_.1.symm, e_.2.1, e_.2.2.symm⟩
  refine law_close laidOut_ rfl Try.underlying4 rfl (by intro t ht; simp [Try.params4] at ht; rcases ht with rfl <;> exact ⟨by kernel_rfl, of_decide_eq_true (by kernel_rfl)⟩) hW rfl ?_
  exact f_plenumlaw17_TopoWild.ok sub_r (hp a0 w0) (fits_all W) sub_r r0
theorem TopoWild_row (hp : TopoWild.Pure) : Rows.TopoWildSaid :=
  OpenClaim.holds_of_wide 4 Try.f4 rfl rfl rfl rfl rfl rfl rfl ⟨rfl, rfl, rfl, rfl, rfl⟩ rfl rfl rfl rfl rfl (by kernel_rfl) Try.func4 (by kernel_rfl)
    (of_decide_eq_true (by kernel_rfl)) (by unfold Func.isWrapper; first | (rw [if_pos (by decide +kernel)]; kernel_rfl) | (rw [if_neg (by decide +kernel)]; exact ⟨rfl, rfl⟩))
    (fun os started H enc _ => TopoWild_lifted hp os started H enc)
end Go.Proofs.Ytbjnbjgiidcfjaa
