/- The laws' rows, each out of its plain part ('..Pure': for all plain values that the types allow, the law's function answers true). Conditions: the plain part. Written by gen.py. -/
import Derived.Test.YtdabiggfmmjjjaaG
import Derived.Test.YtdabiggfmmjjjaaSp6
import Derived.Test.YtdabiggfmmjjjaaRows
import Derived.KernelRfl
set_option linter.unusedVariables false
set_option linter.unusedSimpArgs false
namespace Go.Proofs.Ytdabiggfmmjjjaa
open Go Go.Proofs.Ytdabiggfmmjjjaa.Sp Go.ChangeShapes Go.WideShapes Go.ChangeAt Go.RowKit

theorem own_ : ownKnob Try.prog.godebug = none := by kernel_rfl
theorem laidOut_ : laidOutB Try.prog = true := by kernel_rfl
/-- What is left of the law: plain values. -/
def QueryAlone.Pure : Prop := ∀ (a0 : Int) (a1 : Int), (inI .u16 a0) → (inI .u8 a1) → f_plenumlaw20_QueryAlone a0 a1 = some true
set_option maxRecDepth 100000 in
theorem QueryAlone_lifted (hp : QueryAlone.Pure) (os : Os) (started : os.Started) (H : Type) (enc : TypeId × Value → H) :
    ReturnsInHanded {} Try.checked os 3 .any (Rows.queryAloneSpec.pre6 enc Try.prog Try.f3 Rows.queryAloneRow.domain false) (Rows.queryAloneSpec.post enc Try.prog Try.f3 false true false false) := by
  refine returnsInHanded_of_change (C := Try.checked) own_ started (by kernel_rfl) Try.func3 (ChangeSpec.witness6 (enc := enc) (C := Try.checked) false ⟨#[], #[(.int .u16 0), (.int .u8 0)], []⟩ 8 (by kernel_rfl) (by kernel_rfl) (by kernel_rfl) (by kernel_rfl)) ?_
  intro W base args ds gs before hval0 hW0 hcnd _
  have hval : ∀ (j : Nat) t v, Try.f3.params[j]? = some t → args[j]? = some v → Value.okWide Try.prog W .any base t v := hval0
  have hW : DataW.Whole enc Try.prog Try.f3.params.toList Rows.queryAloneSpec.vars false W args.toList ds gs before := hW0
  have hA : ∃ p, DataW.TrodAll enc Try.prog W 0 (fun _ => true) true [22, 5] args.toList ds p := by obtain ⟨p, q, h, _⟩ := hW; exact ⟨p, h⟩
  obtain ⟨p, hA⟩ := hA
  obtain ⟨vs, hvs⟩ : ∃ vs, args.toList = vs := ⟨_, rfl⟩
  rw [hvs] at hA
  have hB0 := hA; clear hA
  obtain ⟨v0, vs0, d0, ds0, p0, q0, rfl, rfl, h0, hB1, rfl⟩ := Sp.trodAll_cons hB0
  obtain ⟨v1, vs1, d1, ds1, p1, q1, rfl, rfl, h1, hB2, rfl⟩ := Sp.trodAll_cons hB1
  obtain ⟨rfl, rfl⟩ := Sp.trodAll_nil hB2
  obtain rfl : args = [v0, v1].toArray := by rw [← hvs]
  obtain ⟨f0_, h0⟩ := h0
  obtain ⟨n0, rfl⟩ := okWide_int Try.underlying22 (hval 0 22 v0 rfl rfl)
  obtain ⟨a0, k0, w0⟩ := (opnInt Try.underlying22) enc W 0 _ _ _ _ _ h0
  obtain rfl : a0 = n0 := by have e_ : [(.int .u16 n0 : Value)] = [.int .u16 a0] := k0; simpa using e_.symm
  obtain ⟨f1_, h1⟩ := h1
  obtain ⟨n1, rfl⟩ := okWide_int Try.underlying5 (hval 1 5 v1 rfl rfl)
  obtain ⟨a1, k1, w1⟩ := (opnInt Try.underlying5) enc W 0 _ _ _ _ _ h1
  obtain rfl : a1 = n1 := by have e_ : [(.int .u8 n1 : Value)] = [.int .u8 a1] := k1; simpa using e_.symm
  refine law_close laidOut_ rfl Try.underlying4 rfl (by intro t ht; simp [Try.params3] at ht; rcases ht with rfl | rfl <;> exact ⟨by kernel_rfl, of_decide_eq_true (by kernel_rfl)⟩) hW rfl ?_
  exact f_plenumlaw20_QueryAlone.ok (hp a0 a1 w0 w1) (fits_all W)
theorem QueryAlone_row (hp : QueryAlone.Pure) : Rows.QueryAloneSaid :=
  OpenClaim.holds_of_wide 3 Try.f3 rfl rfl rfl rfl rfl rfl rfl ⟨rfl, rfl, rfl, rfl, rfl⟩ rfl rfl rfl rfl rfl (by kernel_rfl) Try.func3 (by kernel_rfl)
    (of_decide_eq_true (by kernel_rfl)) (by unfold Func.isWrapper; first | (rw [if_pos (by decide +kernel)]; kernel_rfl) | (rw [if_neg (by decide +kernel)]; exact ⟨rfl, rfl⟩))
    (fun os started H enc _ => QueryAlone_lifted hp os started H enc)
/-- What is left of the law: plain values. -/
def QueryNil.Pure : Prop := ∀ (a0 : Int), (inI .i64 a0) → f_plenumlaw20_QueryNil a0 = some true
set_option maxRecDepth 100000 in
theorem QueryNil_lifted (hp : QueryNil.Pure) (os : Os) (started : os.Started) (H : Type) (enc : TypeId × Value → H) :
    ReturnsInHanded {} Try.checked os 6 .any (Rows.queryNilSpec.pre6 enc Try.prog Try.f6 Rows.queryNilRow.domain false) (Rows.queryNilSpec.post enc Try.prog Try.f6 false true false false) := by
  refine returnsInHanded_of_change (C := Try.checked) own_ started (by kernel_rfl) Try.func6 (ChangeSpec.witness6 (enc := enc) (C := Try.checked) false ⟨#[], #[(.int .i64 0)], []⟩ 8 (by kernel_rfl) (by kernel_rfl) (by kernel_rfl) (by kernel_rfl)) ?_
  intro W base args ds gs before hval0 hW0 hcnd _
  have hval : ∀ (j : Nat) t v, Try.f6.params[j]? = some t → args[j]? = some v → Value.okWide Try.prog W .any base t v := hval0
  have hW : DataW.Whole enc Try.prog Try.f6.params.toList Rows.queryNilSpec.vars false W args.toList ds gs before := hW0
  have hA : ∃ p, DataW.TrodAll enc Try.prog W 0 (fun _ => true) true [3] args.toList ds p := by obtain ⟨p, q, h, _⟩ := hW; exact ⟨p, h⟩
  obtain ⟨p, hA⟩ := hA
  obtain ⟨vs, hvs⟩ : ∃ vs, args.toList = vs := ⟨_, rfl⟩
  rw [hvs] at hA
  have hB0 := hA; clear hA
  obtain ⟨v0, vs0, d0, ds0, p0, q0, rfl, rfl, h0, hB1, rfl⟩ := Sp.trodAll_cons hB0
  obtain ⟨rfl, rfl⟩ := Sp.trodAll_nil hB1
  obtain rfl : args = [v0].toArray := by rw [← hvs]
  obtain ⟨f0_, h0⟩ := h0
  obtain ⟨n0, rfl⟩ := okWide_int Try.underlying3 (hval 0 3 v0 rfl rfl)
  obtain ⟨a0, k0, w0⟩ := (opnInt Try.underlying3) enc W 0 _ _ _ _ _ h0
  obtain rfl : a0 = n0 := by have e_ : [(.int .i64 n0 : Value)] = [.int .i64 a0] := k0; simpa using e_.symm
  refine law_close laidOut_ rfl Try.underlying4 rfl (by intro t ht; simp [Try.params6] at ht; rcases ht with rfl <;> exact ⟨by kernel_rfl, of_decide_eq_true (by kernel_rfl)⟩) hW rfl ?_
  exact f_plenumlaw20_QueryNil.ok (hp a0 w0) (fits_all W)
theorem QueryNil_row (hp : QueryNil.Pure) : Rows.QueryNilSaid :=
  OpenClaim.holds_of_wide 6 Try.f6 rfl rfl rfl rfl rfl rfl rfl ⟨rfl, rfl, rfl, rfl, rfl⟩ rfl rfl rfl rfl rfl (by kernel_rfl) Try.func6 (by kernel_rfl)
    (of_decide_eq_true (by kernel_rfl)) (by unfold Func.isWrapper; first | (rw [if_pos (by decide +kernel)]; kernel_rfl) | (rw [if_neg (by decide +kernel)]; exact ⟨rfl, rfl⟩))
    (fun os started H enc _ => QueryNil_lifted hp os started H enc)
/-- What is left of the law: plain values. -/
def QueryRuns.Pure : Prop := ∀ (a0 : Int) (a1 : List Int), (inI .i64 a0) → (a1.length ≤ maxLen ∧ ∀ x1 ∈ a1, inI .i64 x1) → f_plenumlaw20_QueryRuns a0 a1 = some true
set_option maxRecDepth 100000 in
theorem QueryRuns_lifted (hp : QueryRuns.Pure) (os : Os) (started : os.Started) (H : Type) (enc : TypeId × Value → H) :
    ReturnsInHanded {} Try.checked os 4 .any (Rows.queryRunsSpec.pre6 enc Try.prog Try.f4 Rows.queryRunsRow.domain false) (Rows.queryRunsSpec.post enc Try.prog Try.f4 false true false false) := by
  refine returnsInHanded_of_change (C := Try.checked) own_ started (by kernel_rfl) Try.func4 (ChangeSpec.witness6 (enc := enc) (C := Try.checked) false ⟨#[], #[(.int .i64 0), (.slice none 0 0)], []⟩ 8 (by kernel_rfl) (by kernel_rfl) (by kernel_rfl) (by kernel_rfl)) ?_
  intro W base args ds gs before hval0 hW0 hcnd _
  have hval : ∀ (j : Nat) t v, Try.f4.params[j]? = some t → args[j]? = some v → Value.okWide Try.prog W .any base t v := hval0
  have hW : DataW.Whole enc Try.prog Try.f4.params.toList Rows.queryRunsSpec.vars false W args.toList ds gs before := hW0
  have hA : ∃ p, DataW.TrodAll enc Try.prog W 0 (fun _ => true) true [3, 27] args.toList ds p := by obtain ⟨p, q, h, _⟩ := hW; exact ⟨p, h⟩
  obtain ⟨p, hA⟩ := hA
  obtain ⟨vs, hvs⟩ : ∃ vs, args.toList = vs := ⟨_, rfl⟩
  rw [hvs] at hA
  have hB0 := hA; clear hA
  obtain ⟨v0, vs0, d0, ds0, p0, q0, rfl, rfl, h0, hB1, rfl⟩ := Sp.trodAll_cons hB0
  obtain ⟨v1, vs1, d1, ds1, p1, q1, rfl, rfl, h1, hB2, rfl⟩ := Sp.trodAll_cons hB1
  obtain ⟨rfl, rfl⟩ := Sp.trodAll_nil hB2
  obtain rfl : args = [v0, v1].toArray := by rw [← hvs]
  obtain ⟨f0_, h0⟩ := h0
  obtain ⟨n0, rfl⟩ := okWide_int Try.underlying3 (hval 0 3 v0 rfl rfl)
  obtain ⟨a0, k0, w0⟩ := (opnInt Try.underlying3) enc W 0 _ _ _ _ _ h0
  obtain rfl : a0 = n0 := by have e_ : [(.int .i64 n0 : Value)] = [.int .i64 a0] := k0; simpa using e_.symm
  obtain ⟨f1_, h1⟩ := h1
  obtain ⟨A1, l1, c1, rfl⟩ := okWide_slice Try.underlying27 (hval 1 27 v1 rfl rfl)
  obtain ⟨a1, ⟨B1, b1, e1, r1⟩, w1⟩ := (opnSl Try.underlying27 (by kernel_rfl) (by decide) (opnInt Try.underlying3)) enc W 0 _ _ _ _ _ h1
  obtain ⟨rfl, rfl, rfl⟩ : B1 = A1 ∧ l1 = a1.length ∧ b1 = c1 := by have e_ : [Value.slice A1 l1 c1] = [.slice B1 a1.length b1] := e1; simp only [List.cons.injEq, Value.slice.injEq, and_true] at e_; exact ⟨e_.1.symm, e_.2.1, e_.2.2.symm⟩
  refine law_close laidOut_ rfl Try.underlying4 rfl (by intro t ht; simp [Try.params4] at ht; rcases ht with rfl | rfl <;> exact ⟨by kernel_rfl, of_decide_eq_true (by kernel_rfl)⟩) hW rfl ?_
  exact f_plenumlaw20_QueryRuns.ok sub_r (hp a0 a1 w0 w1) (fits_all W) r1
theorem QueryRuns_row (hp : QueryRuns.Pure) : Rows.QueryRunsSaid :=
  OpenClaim.holds_of_wide 4 Try.f4 rfl rfl rfl rfl rfl rfl rfl ⟨rfl, rfl, rfl, rfl, rfl⟩ rfl rfl rfl rfl rfl (by kernel_rfl) Try.func4 (by kernel_rfl)
    (of_decide_eq_true (by kernel_rfl)) (by unfold Func.isWrapper; first | (rw [if_pos (by decide +kernel)]; kernel_rfl) | (rw [if_neg (by decide +kernel)]; exact ⟨rfl, rfl⟩))
    (fun os started H enc _ => QueryRuns_lifted hp os started H enc)
end Go.Proofs.Ytdabiggfmmjjjaa
