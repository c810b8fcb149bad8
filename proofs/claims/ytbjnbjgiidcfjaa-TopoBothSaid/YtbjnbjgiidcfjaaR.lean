/- The laws' rows, each out of its plain part ('..Pure': for all plain values that the types allow, the law's function answers true). Conditions: the plain part. Written by gen.py. -/
import Derived.Test.YtbjnbjgiidcfjaaG
import Derived.Test.YtbjnbjgiidcfjaaSp6
import Derived.Test.YtbjnbjgiidcfjaaRows
import Derived.KernelRfl
set_option linter.unusedVariables false
set_option linter.unusedSimpArgs false
namespace Go.Proofs.Ytbjnbjgiidcfjaa
open Go Go.Proofs.Ytbjnbjgiidcfjaa.Sp Go.ChangeShapes Go.WideShapes Go.ChangeAt Go.RowKit

theorem own_ : ownKnob Try.prog.godebug = none := by kernel_rfl
theorem laidOut_ : laidOutB Try.prog = true := by kernel_rfl
/-- What is left of the law: plain values. -/
def TopoBoth.Pure : Prop := ∀ (a0 : Int) (a1 : List Int) (a2 : List Int) (a3 : List Bool), (inI .u8 a0) → (a1.length ≤ maxLen ∧ ∀ x1 ∈ a1, inI .u8 x1) → (a2.length ≤ maxLen ∧ ∀ x2 ∈ a2, inI .u8 x2) → (a3.length ≤ maxLen ∧ ∀ x3 ∈ a3, True) → f_plenumlaw17_TopoBoth a0 a1 a2 a3 = some true
set_option maxRecDepth 100000 in
theorem TopoBoth_lifted (hp : TopoBoth.Pure) (os : Os) (started : os.Started) (H : Type) (enc : TypeId × Value → H) :
    ReturnsInHanded {} Try.checked os 3 .any (Rows.topoBothSpec.pre6 enc Try.prog Try.f3 Rows.topoBothRow.domain false) (Rows.topoBothSpec.post enc Try.prog Try.f3 false true false false) := by
  refine returnsInHanded_of_change (C := Try.checked) own_ started (by kernel_rfl) Try.func3 (ChangeSpec.witness6 (enc := enc) (C := Try.checked) false ⟨#[], #[(.int .u8 0), (.slice none 0 0), (.slice none 0 0), (.slice none 0 0)], []⟩ 8 (by kernel_rfl) (by kernel_rfl) (by kernel_rfl) (by kernel_rfl)) ?_
  intro W base args ds gs before hval0 hW0 hcnd _
  have hval : ∀ (j : Nat) t v, Try.f3.params[j]? = some t → args[j]? = some v → Value.okWide Try.prog W .any base t v := hval0
  have hW : DataW.Whole enc Try.prog Try.f3.params.toList Rows.topoBothSpec.vars false W args.toList ds gs before := hW0
  have hA : ∃ p, DataW.TrodAll enc Try.prog W 0 (fun _ => true) true [5, 22, 22, 23] args.toList ds p := by obtain ⟨p, q, h, _⟩ := hW; exact ⟨p, h⟩
  obtain ⟨p, hA⟩ := hA
  obtain ⟨vs, hvs⟩ : ∃ vs, args.toList = vs := ⟨_, rfl⟩
  rw [hvs] at hA
  have hB0 := hA; clear hA
  obtain ⟨v0, vs0, d0, ds0, p0, q0, rfl, rfl, h0, hB1, rfl⟩ := Sp.trodAll_cons hB0
  obtain ⟨v1, vs1, d1, ds1, p1, q1, rfl, rfl, h1, hB2, rfl⟩ := Sp.trodAll_cons hB1
  obtain ⟨v2, vs2, d2, ds2, p2, q2, rfl, rfl, h2, hB3, rfl⟩ := Sp.trodAll_cons hB2
  obtain ⟨v3, vs3, d3, ds3, p3, q3, rfl, rfl, h3, hB4, rfl⟩ := Sp.trodAll_cons hB3
  obtain ⟨rfl, rfl⟩ := Sp.trodAll_nil hB4
  obtain rfl : args = [v0, v1, v2, v3].toArray := by rw [← hvs]
  obtain ⟨f0_, h0⟩ := h0
  obtain ⟨n0, rfl⟩ := okWide_int Try.underlying5 (hval 0 5 v0 rfl rfl)
  obtain ⟨a0, k0, w0⟩ := (opnInt Try.underlying5) enc W 0 _ _ _ _ _ h0
  obtain rfl : a0 = n0 := by have e_ : [(.int .u8 n0 : Value)] = [.int .u8 a0] := k0; simpa using e_.symm
  obtain ⟨f1_, h1⟩ := h1
  obtain ⟨A1, l1, c1, rfl⟩ := okWide_slice Try.underlying22 (hval 1 22 v1 rfl rfl)
  obtain ⟨a1, ⟨B1, b1, e1, r1⟩, w1⟩ := (opnSl Try.underlying22 (by kernel_rfl) (by decide) (opnInt Try.underlying5)) enc W 0 _ _ _ _ _ h1
  obtain ⟨rfl, rfl, rfl⟩ : B1 = A1 ∧ l1 = a1.length ∧ b1 = c1 := by have e_ : [Value.slice A1 l1 c1] = [.slice B1 a1.length b1] := e1; simp only [List.cons.injEq, Value.slice.injEq, and_true] at e_; exact ⟨e_.1.symm, e_.2.1, e_.2.2.symm⟩
  obtain ⟨f2_, h2⟩ := h2
  obtain ⟨A2, l2, c2, rfl⟩ := okWide_slice Try.underlying22 (hval 2 22 v2 rfl rfl)
  obtain ⟨a2, ⟨B2, b2, e2, r2⟩, w2⟩ := (opnSl Try.underlying22 (by kernel_rfl) (by decide) (opnInt Try.underlying5)) enc W 0 _ _ _ _ _ h2
  obtain ⟨rfl, rfl, rfl⟩ : B2 = A2 ∧ l2 = a2.length ∧ b2 = c2 := by have e_ : [Value.slice A2 l2 c2] = [.slice B2 a2.length b2] := e2; simp only [List.cons.injEq, Value.slice.injEq, and_true] at e_; exact ⟨e_.1.symm, e_.2.1, e_.2.2.symm⟩
  obtain ⟨f3_, h3⟩ := h3
  obtain ⟨A3, l3, c3, rfl⟩ := okWide_slice Try.underlying23 (hval 3 23 v3 rfl rfl)
  obtain ⟨a3, ⟨B3, b3, e3, r3⟩, w3⟩ := (opnSl Try.underlying23 (by kernel_rfl) (by decide) (opnBool Try.underlying4)) enc W 0 _ _ _ _ _ h3
  obtain ⟨rfl, rfl, rfl⟩ : B3 = A3 ∧ l3 = a3.length ∧ b3 = c3 := by have e_ : [Value.slice A3 l3 c3] = [.slice B3 a3.length b3] := e3; simp only [List.cons.injEq, Value.slice.injEq, and_true] at e_; exact ⟨e_.1.symm, e_.2.1, e_.2.2.symm⟩
  refine law_close laidOut_ rfl Try.underlying4 rfl (by intro t ht; simp [Try.params3] at ht; rcases ht with rfl | rfl | rfl <;> exact ⟨by kernel_rfl, of_decide_eq_true (by kernel_rfl)⟩) hW rfl ?_
  exact f_plenumlaw17_TopoBoth.ok sub_r (hp a0 a1 a2 a3 w0 w1 w2 w3) (fits_all W) sub_r r1 sub_r r2 sub_r r3
theorem TopoBoth_row (hp : TopoBoth.Pure) : Rows.TopoBothSaid :=
  OpenClaim.holds_of_wide 3 Try.f3 rfl rfl rfl rfl rfl rfl rfl ⟨rfl, rfl, rfl, rfl, rfl⟩ rfl rfl rfl rfl rfl (by kernel_rfl) Try.func3 (by kernel_rfl)
    (of_decide_eq_true (by kernel_rfl)) (by unfold Func.isWrapper; first | (rw [if_pos (by decide +kernel)]; kernel_rfl) | (rw [if_neg (by decide +kernel)]; exact ⟨rfl, rfl⟩))
    (fun os started H enc _ => TopoBoth_lifted hp os started H enc)
end Go.Proofs.Ytbjnbjgiidcfjaa
