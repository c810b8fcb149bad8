/- The laws' rows, each out of its plain part ('..Pure': for all plain values that the types allow, the law's function answers true). Conditions: the plain part. Written by gen.py. -/
import Derived.Test.YtdabiggfmmjjjaaG
import Derived.Test.YtdabiggfmmjjjaaSp6
import Derived.Test.YtdabiggfmmjjjaaRows
import Derived.KernelRfl
set_option linter.unusedVariables false
set_option linter.unusedSimpArgs false
namespace Go.Proofs.Ytdabiggfmmjjjaa
open Go Go.Proofs.Ytdabiggfmmjjjaa.Sp Go.ChangeShapes Go.WideShapes Go.ChangeAt Go.RowKit

theorem own_ : ownKnob Try.prog.godebug = none := by kernel_rfl
theorem laidOut_ : laidOutB Try.prog = true := by kernel_rfl
/-- What is left of the law: plain values. -/
def QueryLowest.Pure : Prop := ∀ (a0 : List Int) (a1 : Bool) (a2 : Int), (a0.length ≤ maxLen ∧ ∀ x1 ∈ a0, inI .u8 x1) → (True) → (inI .u8 a2) → f_plenumlaw20_QueryLowest a0 a1 a2 = some true
set_option maxRecDepth 100000 in
theorem QueryLowest_lifted (hp : QueryLowest.Pure) (os : Os) (started : os.Started) (H : Type) (enc : TypeId × Value → H) :
    ReturnsInHanded {} Try.checked os 5 .any (Rows.queryLowestSpec.pre6 enc Try.prog Try.f5 Rows.queryLowestRow.domain false) (Rows.queryLowestSpec.post enc Try.prog Try.f5 false true false false) := by
  refine returnsInHanded_of_change (C := Try.checked) own_ started (by kernel_rfl) Try.func5 (ChangeSpec.witness6 (enc := enc) (C := Try.checked) false ⟨#[], #[(.slice none 0 0), (.bool false), (.int .u8 0)], []⟩ 8 (by kernel_rfl) (by kernel_rfl) (by kernel_rfl) (by kernel_rfl)) ?_
  intro W base args ds gs before hval0 hW0 hcnd _
  have hval : ∀ (j : Nat) t v, Try.f5.params[j]? = some t → args[j]? = some v → Value.okWide Try.prog W .any base t v := hval0
  have hW : DataW.Whole enc Try.prog Try.f5.params.toList Rows.queryLowestSpec.vars false W args.toList ds gs before := hW0
  have hA : ∃ p, DataW.TrodAll enc Try.prog W 0 (fun _ => true) true [34, 4, 5] args.toList ds p := by obtain ⟨p, q, h, _⟩ := hW; exact ⟨p, h⟩
  obtain ⟨p, hA⟩ := hA
  obtain ⟨vs, hvs⟩ : ∃ vs, args.toList = vs := ⟨_, rfl⟩
  rw [hvs] at hA
  have hB0 := hA; clear hA
  obtain ⟨v0, vs0, d0, ds0, p0, q0, rfl, rfl, h0, hB1, rfl⟩ := Sp.trodAll_cons hB0
  obtain ⟨v1, vs1, d1, ds1, p1, q1, rfl, rfl, h1, hB2, rfl⟩ := Sp.trodAll_cons hB1
  obtain ⟨v2, vs2, d2, ds2, p2, q2, rfl, rfl, h2, hB3, rfl⟩ := Sp.trodAll_cons hB2
  obtain ⟨rfl, rfl⟩ := Sp.trodAll_nil hB3
  obtain rfl : args = [v0, v1, v2].toArray := by rw [← hvs]
  obtain ⟨f0_, h0⟩ := h0
  obtain ⟨A0, l0, c0, rfl⟩ := okWide_slice Try.underlying34 (hval 0 34 v0 rfl rfl)
  obtain ⟨a0, ⟨B0, b0, e0, r0⟩, w0⟩ := (opnSl Try.underlying34 (by kernel_rfl) (by decide) (opnInt Try.underlying5)) enc W 0 _ _ _ _ _ h0
  obtain ⟨rfl, rfl, rfl⟩ : B0 = A0 ∧ l0 = a0.length ∧ b0 = c0 := by have e_ : [Value.slice A0 l0 c0] = [.slice B0 a0.length b0] := e0; simp only [List.cons.injEq, Value.slice.injEq, and_true] at e_; exact ⟨e_.1.symm, e_.2.1, e_.2.2.symm⟩
  obtain ⟨f1_, h1⟩ := h1
  obtain ⟨n1, rfl⟩ := okWide_bool Try.underlying4 (hval 1 4 v1 rfl rfl)
  obtain ⟨a1, k1, w1⟩ := (opnBool Try.underlying4) enc W 0 _ _ _ _ _ h1
  obtain rfl : a1 = n1 := by have e_ : [(.bool n1 : Value)] = [.bool a1] := k1; simpa using e_.symm
  obtain ⟨f2_, h2⟩ := h2
  obtain ⟨n2, rfl⟩ := okWide_int Try.underlying5 (hval 2 5 v2 rfl rfl)
  obtain ⟨a2, k2, w2⟩ := (opnInt Try.underlying5) enc W 0 _ _ _ _ _ h2
  obtain rfl : a2 = n2 := by have e_ : [(.int .u8 n2 : Value)] = [.int .u8 a2] := k2; simpa using e_.symm
  refine law_close laidOut_ rfl Try.underlying4 rfl (by intro t ht; simp [Try.params5] at ht; rcases ht with rfl | rfl | rfl <;> exact ⟨by kernel_rfl, of_decide_eq_true (by kernel_rfl)⟩) hW rfl ?_
  exact f_plenumlaw20_QueryLowest.ok sub_r (hp a0 a1 a2 w0 w1 w2) (fits_all W) sub_r r0
theorem QueryLowest_row (hp : QueryLowest.Pure) : Rows.QueryLowestSaid :=
  OpenClaim.holds_of_wide 5 Try.f5 rfl rfl rfl rfl rfl rfl rfl ⟨rfl, rfl, rfl, rfl, rfl⟩ rfl rfl rfl rfl rfl (by kernel_rfl) Try.func5 (by kernel_rfl)
    (of_decide_eq_true (by kernel_rfl)) (by unfold Func.isWrapper; first | (rw [if_pos (by decide +kernel)]; kernel_rfl) | (rw [if_neg (by decide +kernel)]; exact ⟨rfl, rfl⟩))
    (fun os started H enc _ => QueryLowest_lifted hp os started H enc)
end Go.Proofs.Ytdabiggfmmjjjaa
