/- The laws' rows, each out of its plain part ('..Pure': for all plain values that the types allow, the law's function answers true). Conditions: the plain part. Written by gen.py. -/
import Derived.Test.YtbjnbjgiidcfjaaG
import Derived.Test.YtbjnbjgiidcfjaaSp6
import Derived.Test.YtbjnbjgiidcfjaaRows
import Derived.KernelRfl
set_option linter.unusedVariables false
set_option linter.unusedSimpArgs false
namespace Go.Proofs.Ytbjnbjgiidcfjaa
open Go Go.Proofs.Ytbjnbjgiidcfjaa.Sp Go.ChangeShapes Go.WideShapes Go.ChangeAt Go.RowKit

theorem own_ : ownKnob Try.prog.godebug = none := by kernel_rfl
theorem laidOut_ : laidOutB Try.prog = true := by kernel_rfl
/-- What is left of the law: plain values. -/
def TopoMembers.Pure : Prop := ∀ (a0 : Int) (a1 : Int) (a2 : Int) (a3 : Bool), (inI .u32 a0) → (inI .u8 a1) → (inI .u8 a2) → (True) → f_plenumlaw17_TopoMembers a0 a1 a2 a3 = some true
set_option maxRecDepth 100000 in
theorem TopoMembers_lifted (hp : TopoMembers.Pure) (os : Os) (started : os.Started) (H : Type) (enc : TypeId × Value → H) :
    ReturnsInHanded {} Try.checked os 7 .any (Rows.topoMembersSpec.pre6 enc Try.prog Try.f7 Rows.topoMembersRow.domain false) (Rows.topoMembersSpec.post enc Try.prog Try.f7 false true false false) := by
  refine returnsInHanded_of_change (C := Try.checked) own_ started (by kernel_rfl) Try.func7 (ChangeSpec.witness6 (enc := enc) (C := Try.checked) false ⟨#[], #[(.int .u32 0), (.int .u8 0), (.int .u8 0), (.bool false)], []⟩ 8 (by kernel_rfl) (by kernel_rfl) (by kernel_rfl) (by kernel_rfl)) ?_
  intro W base args ds gs before hval0 hW0 hcnd _
  have hval : ∀ (j : Nat) t v, Try.f7.params[j]? = some t → args[j]? = some v → Value.okWide Try.prog W .any base t v := hval0
  have hW : DataW.Whole enc Try.prog Try.f7.params.toList Rows.topoMembersSpec.vars false W args.toList ds gs before := hW0
  have hA : ∃ p, DataW.TrodAll enc Try.prog W 0 (fun _ => true) true [53, 5, 5, 4] args.toList ds p := by obtain ⟨p, q, h, _⟩ := hW; exact ⟨p, h⟩
  obtain ⟨p, hA⟩ := hA
  obtain ⟨vs, hvs⟩ : ∃ vs, args.toList = vs := ⟨_, rfl⟩
  rw [hvs] at hA
  have hB0 := hA; clear hA
  obtain ⟨v0, vs0, d0, ds0, p0, q0, rfl, rfl, h0, hB1, rfl⟩ := Sp.trodAll_cons hB0
  obtain ⟨v1, vs1, d1, ds1, p1, q1, rfl, rfl, h1, hB2, rfl⟩ := Sp.trodAll_cons hB1
  obtain ⟨v2, vs2, d2, ds2, p2, q2, rfl, rfl, h2, hB3, rfl⟩ := Sp.trodAll_cons hB2
  obtain ⟨v3, vs3, d3, ds3, p3, q3, rfl, rfl, h3, hB4, rfl⟩ := Sp.trodAll_cons hB3
  obtain ⟨rfl, rfl⟩ := Sp.trodAll_nil hB4
  obtain rfl : args = [v0, v1, v2, v3].toArray := by rw [← hvs]
  obtain ⟨f0_, h0⟩ := h0
  obtain ⟨n0, rfl⟩ := okWide_int Try.underlying53 (hval 0 53 v0 rfl rfl)
  obtain ⟨a0, k0, w0⟩ := (opnInt Try.underlying53) enc W 0 _ _ _ _ _ h0
  obtain rfl : a0 = n0 := by have e_ : [(.int .u32 n0 : Value)] = [.int .u32 a0] := k0; simpa using e_.symm
  obtain ⟨f1_, h1⟩ := h1
  obtain ⟨n1, rfl⟩ := okWide_int Try.underlying5 (hval 1 5 v1 rfl rfl)
  obtain ⟨a1, k1, w1⟩ := (opnInt Try.underlying5) enc W 0 _ _ _ _ _ h1
  obtain rfl : a1 = n1 := by have e_ : [(.int .u8 n1 : Value)] = [.int .u8 a1] := k1; simpa using e_.symm
  obtain ⟨f2_, h2⟩ := h2
  obtain ⟨n2, rfl⟩ := okWide_int Try.underlying5 (hval 2 5 v2 rfl rfl)
  obtain ⟨a2, k2, w2⟩ := (opnInt Try.underlying5) enc W 0 _ _ _ _ _ h2
  obtain rfl : a2 = n2 := by have e_ : [(.int .u8 n2 : Value)] = [.int .u8 a2] := k2; simpa using e_.symm
  obtain ⟨f3_, h3⟩ := h3
  obtain ⟨n3, rfl⟩ := okWide_bool Try.underlying4 (hval 3 4 v3 rfl rfl)
  obtain ⟨a3, k3, w3⟩ := (opnBool Try.underlying4) enc W 0 _ _ _ _ _ h3
  obtain rfl : a3 = n3 := by have e_ : [(.bool n3 : Value)] = [.bool a3] := k3; simpa using e_.symm
  refine law_close laidOut_ rfl Try.underlying4 rfl (by intro t ht; simp [Try.params7] at ht; rcases ht with rfl | rfl | rfl <;> exact ⟨by kernel_rfl, of_decide_eq_true (by kernel_rfl)⟩) hW rfl ?_
  exact f_plenumlaw17_TopoMembers.ok sub_r (hp a0 a1 a2 a3 w0 w1 w2 w3) (fits_all W)
theorem TopoMembers_row (hp : TopoMembers.Pure) : Rows.TopoMembersSaid :=
  OpenClaim.holds_of_wide 7 Try.f7 rfl rfl rfl rfl rfl rfl rfl ⟨rfl, rfl, rfl, rfl, rfl⟩ rfl rfl rfl rfl rfl (by kernel_rfl) Try.func7 (by kernel_rfl)
    (of_decide_eq_true (by kernel_rfl)) (by unfold Func.isWrapper; first | (rw [if_pos (by decide +kernel)]; kernel_rfl) | (rw [if_neg (by decide +kernel)]; exact ⟨rfl, rfl⟩))
    (fun os started H enc _ => TopoMembers_lifted hp os started H enc)
end Go.Proofs.Ytbjnbjgiidcfjaa
