/- The laws' rows, each out of its plain part ('..Pure': for all plain values that the types allow, the law's function answers true). Conditions: the plain part. Written by gen.py. -/
import Derived.Test.YtjmkalkckpffiaaG
import Derived.Test.YtjmkalkckpffiaaSp6
import Derived.Test.YtjmkalkckpffiaaRows
import Derived.KernelRfl
set_option linter.unusedVariables false
set_option linter.unusedSimpArgs false
namespace Go.Proofs.Ytjmkalkckpffiaa
open Go Go.Proofs.Ytjmkalkckpffiaa.Sp Go.ChangeShapes Go.WideShapes Go.ChangeAt Go.RowKit

theorem own_ : ownKnob Try.prog.godebug = none := by kernel_rfl
theorem laidOut_ : laidOutB Try.prog = true := by kernel_rfl
def wf_T_api_Head (x : T_api_Head) : Prop := ((inI .i64 x.f_Age) ∧ ((inI .i64 x.f_Kind) ∧ ((inI .i64 x.f_Id) ∧ ((inI .i64 x.f_Adv) ∧ ((inI .i64 x.f_Seq) ∧ ((inI .i64 x.f_Sum) ∧ (inI .i64 x.f_Len)))))))
theorem opn_T_api_Head : Opn Try.prog 27 k_T_api_Head wf_T_api_Head := opnFlat (opnS (fs := fs27) Try.underlying27 (by kernel_rfl) (opnC (opnInt Try.underlying3) rfl (by kernel_rfl) rfl (opnC (opnInt Try.underlying3) rfl (by kernel_rfl) rfl (opnC (opnInt Try.underlying3) rfl (by kernel_rfl) rfl (opnC (opnInt Try.underlying3) rfl (by kernel_rfl) rfl (opnC (opnInt Try.underlying3) rfl (by kernel_rfl) rfl (opnC (opnInt Try.underlying3) rfl (by kernel_rfl) rfl (opnC1 (opnInt Try.underlying3) rfl (by kernel_rfl))))))))) (f := fun (x : T_api_Head) => (x.f_Age, x.f_Kind, x.f_Id, x.f_Adv, x.f_Seq, x.f_Sum, x.f_Len)) (fun y => (⟨y.1, y.2.1, y.2.2.1, y.2.2.2.1, y.2.2.2.2.1, y.2.2.2.2.2.1, y.2.2.2.2.2.2⟩ : T_api_Head)) (fun a => rfl) (fun L cs b h => by obtain ⟨_, _, rfl, rfl, ⟨_, _, rfl, rfl, ⟨_, _, rfl, rfl, ⟨_, _, rfl, rfl, ⟨_, _, rfl, rfl, ⟨_, _, rfl, rfl, rfl⟩⟩⟩⟩⟩⟩ := h; rfl)
def wf_T_api_Key (x : T_api_Key) : Prop := ((inI .i64 x.f_Kind) ∧ ((inI .i64 x.f_Id) ∧ (inI .i64 x.f_Adv)))
theorem opn_T_api_Key : Opn Try.prog 43 k_T_api_Key wf_T_api_Key := opnFlat (opnS (fs := fs43) Try.underlying43 (by kernel_rfl) (opnC (opnInt Try.underlying3) rfl (by kernel_rfl) rfl (opnC (opnInt Try.underlying3) rfl (by kernel_rfl) rfl (opnC1 (opnInt Try.underlying3) rfl (by kernel_rfl))))) (f := fun (x : T_api_Key) => (x.f_Kind, x.f_Id, x.f_Adv)) (fun y => (⟨y.1, y.2.1, y.2.2⟩ : T_api_Key)) (fun a => rfl) (fun L cs b h => by obtain ⟨_, _, rfl, rfl, ⟨_, _, rfl, rfl, rfl⟩⟩ := h; rfl)
def wf_T_api_Link (x : T_api_Link) : Prop := ((inI .i64 x.f_Kind) ∧ ((inI .i64 x.f_Id) ∧ ((inI .i64 x.f_Data) ∧ (inI .i64 x.f_Cost))))
theorem opn_T_api_Link : Opn Try.prog 57 k_T_api_Link wf_T_api_Link := opnFlat (opnS (fs := fs57) Try.underlying57 (by kernel_rfl) (opnC (opnInt Try.underlying3) rfl (by kernel_rfl) rfl (opnC (opnInt Try.underlying3) rfl (by kernel_rfl) rfl (opnC (opnInt Try.underlying3) rfl (by kernel_rfl) rfl (opnC1 (opnInt Try.underlying3) rfl (by kernel_rfl)))))) (f := fun (x : T_api_Link) => (x.f_Kind, x.f_Id, x.f_Data, x.f_Cost)) (fun y => (⟨y.1, y.2.1, y.2.2.1, y.2.2.2⟩ : T_api_Link)) (fun a => rfl) (fun L cs b h => by obtain ⟨_, _, rfl, rfl, ⟨_, _, rfl, rfl, ⟨_, _, rfl, rfl, rfl⟩⟩⟩ := h; rfl)
def wf_T_api_Vert (x : T_api_Vert) : Prop := ((inI .i64 x.f_Kind) ∧ (inI .i64 x.f_Id))
theorem opn_T_api_Vert : Opn Try.prog 61 k_T_api_Vert wf_T_api_Vert := opnFlat (opnS (fs := fs61) Try.underlying61 (by kernel_rfl) (opnC (opnInt Try.underlying3) rfl (by kernel_rfl) rfl (opnC1 (opnInt Try.underlying3) rfl (by kernel_rfl)))) (f := fun (x : T_api_Vert) => (x.f_Kind, x.f_Id)) (fun y => (⟨y.1, y.2⟩ : T_api_Vert)) (fun a => rfl) (fun L cs b h => by obtain ⟨_, _, rfl, rfl, rfl⟩ := h; rfl)
def wf_T_api_Lsa (x : T_api_Lsa) : Prop := ((wf_T_api_Head x.f_Head) ∧ ((inI .i64 x.f_Flags) ∧ ((x.f_Links.length ≤ maxLen ∧ ∀ x5 ∈ x.f_Links, wf_T_api_Link x5) ∧ ((inI .i64 x.f_Bits) ∧ ((x.f_Routers.length ≤ maxLen ∧ ∀ x6 ∈ x.f_Routers, inI .i64 x6) ∧ (x.f_Verts.length ≤ maxLen ∧ ∀ x7 ∈ x.f_Verts, wf_T_api_Vert x7))))))
theorem opn_T_api_Lsa : Opn Try.prog 32 k_T_api_Lsa wf_T_api_Lsa := opnIso (opnS (fs := fs32) Try.underlying32 (by kernel_rfl) (opnC opn_T_api_Head rfl (by kernel_rfl) rfl (opnC (opnInt Try.underlying3) rfl (by kernel_rfl) rfl (opnC (opnSl Try.underlying28 (by kernel_rfl) (by decide) opn_T_api_Link) rfl (by kernel_rfl) rfl (opnC (opnInt Try.underlying3) rfl (by kernel_rfl) rfl (opnC (opnSl Try.underlying29 (by kernel_rfl) (by decide) (opnInt Try.underlying3)) rfl (by kernel_rfl) rfl (opnC1 (opnSl Try.underlying30 (by kernel_rfl) (by decide) opn_T_api_Vert) rfl (by kernel_rfl)))))))) (f := fun (x : T_api_Lsa) => (x.f_Head, x.f_Flags, x.f_Links, x.f_Bits, x.f_Routers, x.f_Verts)) (fun y => (⟨y.1, y.2.1, y.2.2.1, y.2.2.2.1, y.2.2.2.2.1, y.2.2.2.2.2⟩ : T_api_Lsa)) (fun a => rfl)
/-- What is left of the law: plain values. -/
def OwedNil.Pure : Prop := ∀ (a0 : T_api_Head) (a1 : T_api_Key), (wf_T_api_Head a0) → (wf_T_api_Key a1) → f_plenumlaw14_OwedNil a0 a1 = some true
set_option maxRecDepth 100000 in
theorem OwedNil_lifted (hp : OwedNil.Pure) (os : Os) (started : os.Started) (H : Type) (enc : TypeId × Value → H) :
    ReturnsInHanded {} Try.checked os 4 .any (Rows.owedNilSpec.pre6 enc Try.prog Try.f4 Rows.owedNilRow.domain false) (Rows.owedNilSpec.post enc Try.prog Try.f4 false true false false) := by
  refine returnsInHanded_of_change (C := Try.checked) own_ started (by kernel_rfl) Try.func4 (ChangeSpec.witness6 (enc := enc) (C := Try.checked) false ⟨#[], #[(.agg [(.int .i64 0), (.int .i64 0), (.int .i64 0), (.int .i64 0), (.int .i64 0), (.int .i64 0), (.int .i64 0)].toArray), (.agg [(.int .i64 0), (.int .i64 0), (.int .i64 0)].toArray)], []⟩ 8 (by kernel_rfl) (by kernel_rfl) (by kernel_rfl) (by kernel_rfl)) ?_
  intro W base args ds gs before hval0 hW0 hcnd _
  have hval : ∀ (j : Nat) t v, Try.f4.params[j]? = some t → args[j]? = some v → Value.okWide Try.prog W .any base t v := hval0
  have hW : DataW.Whole enc Try.prog Try.f4.params.toList Rows.owedNilSpec.vars false W args.toList ds gs before := hW0
  have hA : ∃ p, DataW.TrodAll enc Try.prog W 0 (fun _ => true) true [27, 43] args.toList ds p := by obtain ⟨p, q, h, _⟩ := hW; exact ⟨p, h⟩
  obtain ⟨p, hA⟩ := hA
  obtain ⟨vs, hvs⟩ : ∃ vs, args.toList = vs := ⟨_, rfl⟩
  rw [hvs] at hA
  have hB0 := hA; clear hA
  obtain ⟨v0, vs0, d0, ds0, p0, q0, rfl, rfl, h0, hB1, rfl⟩ := Sp.trodAll_cons hB0
  obtain ⟨v1, vs1, d1, ds1, p1, q1, rfl, rfl, h1, hB2, rfl⟩ := Sp.trodAll_cons hB1
  obtain ⟨rfl, rfl⟩ := Sp.trodAll_nil hB2
  obtain rfl : args = [v0, v1].toArray := by rw [← hvs]
  obtain ⟨f0_, h0⟩ := h0
  obtain ⟨cs0, rfl, _⟩ := okWide_struct (fs := fs27) Try.underlying27 (hval 0 27 v0 rfl rfl)
  obtain ⟨a0, k0, w0⟩ := opn_T_api_Head enc W 0 _ _ _ _ _ h0
  obtain rfl : cs0 = (enc_T_api_Head a0).toArray := by have e_ : cs0.toList = enc_T_api_Head a0 := k0; rw [← e_]
  obtain ⟨f1_, h1⟩ := h1
  obtain ⟨cs1, rfl, _⟩ := okWide_struct (fs := fs43) Try.underlying43 (hval 1 43 v1 rfl rfl)
  obtain ⟨a1, k1, w1⟩ := opn_T_api_Key enc W 0 _ _ _ _ _ h1
  obtain rfl : cs1 = (enc_T_api_Key a1).toArray := by have e_ : cs1.toList = enc_T_api_Key a1 := k1; rw [← e_]
  refine law_close laidOut_ rfl Try.underlying4 rfl (by intro t ht; simp [Try.params4] at ht; rcases ht with rfl | rfl <;> exact ⟨by kernel_rfl, of_decide_eq_true (by kernel_rfl)⟩) hW rfl ?_
  exact f_plenumlaw14_OwedNil.ok sub_r (hp a0 a1 w0 w1) (fits_all W)
theorem OwedNil_row (hp : OwedNil.Pure) : Rows.OwedNilSaid :=
  OpenClaim.holds_of_wide 4 Try.f4 rfl rfl rfl rfl rfl rfl rfl ⟨rfl, rfl, rfl, rfl, rfl⟩ rfl rfl rfl rfl rfl (by kernel_rfl) Try.func4 (by kernel_rfl)
    (of_decide_eq_true (by kernel_rfl)) (by unfold Func.isWrapper; first | (rw [if_pos (by decide +kernel)]; kernel_rfl) | (rw [if_neg (by decide +kernel)]; exact ⟨rfl, rfl⟩))
    (fun os started H enc _ => OwedNil_lifted hp os started H enc)
/-- What is left of the law: plain values. -/
def AnswerLots.Pure : Prop := ∀ (a0 : Int) (a1 : List T_api_Lsa) (a2 : List T_api_Head), (inI .i64 a0) → (a1.length ≤ maxLen ∧ ∀ x1 ∈ a1, wf_T_api_Lsa x1) → (a2.length ≤ maxLen ∧ ∀ x8 ∈ a2, wf_T_api_Head x8) → f_plenumlaw14_AnswerLots a0 a1 a2 = some true
set_option maxRecDepth 100000 in
theorem AnswerLots_lifted (hp : AnswerLots.Pure) (os : Os) (started : os.Started) (H : Type) (enc : TypeId × Value → H) :
    ReturnsInHanded {} Try.checked os 3 .any (Rows.answerLotsSpec.pre6 enc Try.prog Try.f3 Rows.answerLotsRow.domain false) (Rows.answerLotsSpec.post enc Try.prog Try.f3 false true false false) := by
  refine returnsInHanded_of_change (C := Try.checked) own_ started (by kernel_rfl) Try.func3 (ChangeSpec.witness6 (enc := enc) (C := Try.checked) false ⟨#[], #[(.int .i64 0), (.slice none 0 0), (.slice none 0 0)], []⟩ 8 (by kernel_rfl) (by kernel_rfl) (by kernel_rfl) (by kernel_rfl)) ?_
  intro W base args ds gs before hval0 hW0 hcnd _
  have hval : ∀ (j : Nat) t v, Try.f3.params[j]? = some t → args[j]? = some v → Value.okWide Try.prog W .any base t v := hval0
  have hW : DataW.Whole enc Try.prog Try.f3.params.toList Rows.answerLotsSpec.vars false W args.toList ds gs before := hW0
  have hA : ∃ p, DataW.TrodAll enc Try.prog W 0 (fun _ => true) true [3, 22, 23] args.toList ds p := by obtain ⟨p, q, h, _⟩ := hW; exact ⟨p, h⟩
  obtain ⟨p, hA⟩ := hA
  obtain ⟨vs, hvs⟩ : ∃ vs, args.toList = vs := ⟨_, rfl⟩
  rw [hvs] at hA
  have hB0 := hA; clear hA
  obtain ⟨v0, vs0, d0, ds0, p0, q0, rfl, rfl, h0, hB1, rfl⟩ := Sp.trodAll_cons hB0
  obtain ⟨v1, vs1, d1, ds1, p1, q1, rfl, rfl, h1, hB2, rfl⟩ := Sp.trodAll_cons hB1
  obtain ⟨v2, vs2, d2, ds2, p2, q2, rfl, rfl, h2, hB3, rfl⟩ := Sp.trodAll_cons hB2
  obtain ⟨rfl, rfl⟩ := Sp.trodAll_nil hB3
  obtain rfl : args = [v0, v1, v2].toArray := by rw [← hvs]
  obtain ⟨f0_, h0⟩ := h0
  obtain ⟨n0, rfl⟩ := okWide_int Try.underlying3 (hval 0 3 v0 rfl rfl)
  obtain ⟨a0, k0, w0⟩ := (opnInt Try.underlying3) enc W 0 _ _ _ _ _ h0
  obtain rfl : a0 = n0 := by have e_ : [(.int .i64 n0 : Value)] = [.int .i64 a0] := k0; simpa using e_.symm
  obtain ⟨f1_, h1⟩ := h1
  obtain ⟨A1, l1, c1, rfl⟩ := okWide_slice Try.underlying22 (hval 1 22 v1 rfl rfl)
  obtain ⟨a1, ⟨B1, b1, e1, r1⟩, w1⟩ := (opnSl Try.underlying22 (by kernel_rfl) (by decide) opn_T_api_Lsa) enc W 0 _ _ _ _ _ h1
  obtain ⟨rfl, rfl, rfl⟩ : B1 = A1 ∧ l1 = a1.length ∧ b1 = c1 := by have e_ : [Value.slice A1 l1 c1] = [.slice B1 a1.length b1] := e1; simp only [List.cons.injEq, Value.slice.injEq, and_true] at e_; exact ⟨e_.1.symm, e_.2.1, e_.2.2.symm⟩
  obtain ⟨f2_, h2⟩ := h2
  obtain ⟨A2, l2, c2, rfl⟩ := okWide_slice Try.underlying23 (hval 2 23 v2 rfl rfl)
  obtain ⟨a2, ⟨B2, b2, e2, r2⟩, w2⟩ := (opnSl Try.underlying23 (by kernel_rfl) (by decide) opn_T_api_Head) enc W 0 _ _ _ _ _ h2
  obtain ⟨rfl, rfl, rfl⟩ : B2 = A2 ∧ l2 = a2.length ∧ b2 = c2 := by have e_ : [Value.slice A2 l2 c2] = [.slice B2 a2.length b2] := e2; simp only [List.cons.injEq, Value.slice.injEq, and_true] at e_; exact ⟨e_.1.symm, e_.2.1, e_.2.2.symm⟩
  refine law_close laidOut_ rfl Try.underlying4 rfl (by intro t ht; simp [Try.params3] at ht; rcases ht with rfl | rfl | rfl <;> exact ⟨by kernel_rfl, of_decide_eq_true (by kernel_rfl)⟩) hW rfl ?_
  exact f_plenumlaw14_AnswerLots.ok sub_r (hp a0 a1 a2 w0 w1 w2) (fits_all W) sub_r r1 sub_r r2
theorem AnswerLots_row (hp : AnswerLots.Pure) : Rows.AnswerLotsSaid :=
  OpenClaim.holds_of_wide 3 Try.f3 rfl rfl rfl rfl rfl rfl rfl ⟨rfl, rfl, rfl, rfl, rfl⟩ rfl rfl rfl rfl rfl (by kernel_rfl) Try.func3 (by kernel_rfl)
    (of_decide_eq_true (by kernel_rfl)) (by unfold Func.isWrapper; first | (rw [if_pos (by decide +kernel)]; kernel_rfl) | (rw [if_neg (by decide +kernel)]; exact ⟨rfl, rfl⟩))
    (fun os started H enc _ => AnswerLots_lifted hp os started H enc)
end Go.Proofs.Ytjmkalkckpffiaa
