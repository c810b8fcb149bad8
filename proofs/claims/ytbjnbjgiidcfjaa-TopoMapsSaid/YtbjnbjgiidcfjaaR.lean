/- The laws' rows, each out of its plain part ('..Pure': for all plain values that the types allow, the law's function answers true). Conditions: the plain part. Written by gen.py. -/
import Derived.Test.YtbjnbjgiidcfjaaG
import Derived.Test.YtbjnbjgiidcfjaaSp6
import Derived.Test.YtbjnbjgiidcfjaaRows
import Derived.KernelRfl
set_option linter.unusedVariables false
set_option linter.unusedSimpArgs false
namespace Go.Proofs.Ytbjnbjgiidcfjaa
open Go Go.Proofs.Ytbjnbjgiidcfjaa.Sp Go.ChangeShapes Go.WideShapes Go.ChangeAt Go.RowKit

theorem own_ : ownKnob Try.prog.godebug = none := by kernel_rfl
theorem laidOut_ : laidOutB Try.prog = true := by kernel_rfl
def wf_T_api_Head (x : T_api_Head) : Prop := ((inI .i64 x.f_Age) ∧ ((inI .i64 x.f_Kind) ∧ ((inI .i64 x.f_Id) ∧ ((inI .i64 x.f_Adv) ∧ ((inI .i64 x.f_Seq) ∧ ((inI .i64 x.f_Sum) ∧ (inI .i64 x.f_Len)))))))
theorem opn_T_api_Head : Opn Try.prog 41 k_T_api_Head wf_T_api_Head := opnFlat (opnS (fs := fs41) Try.underlying41 (by kernel_rfl) (opnC (opnInt Try.underlying3) rfl (by kernel_rfl) rfl (opnC (opnInt Try.underlying3) rfl (by kernel_rfl) rfl (opnC (opnInt Try.underlying3) rfl (by kernel_rfl) rfl (opnC (opnInt Try.underlying3) rfl (by kernel_rfl) rfl (opnC (opnInt Try.underlying3) rfl (by kernel_rfl) rfl (opnC (opnInt Try.underlying3) rfl (by kernel_rfl) rfl (opnC1 (opnInt Try.underlying3) rfl (by kernel_rfl))))))))) (f := fun (x : T_api_Head) => (x.f_Age, x.f_Kind, x.f_Id, x.f_Adv, x.f_Seq, x.f_Sum, x.f_Len)) (fun y => (⟨y.1, y.2.1, y.2.2.1, y.2.2.2.1, y.2.2.2.2.1, y.2.2.2.2.2.1, y.2.2.2.2.2.2⟩ : T_api_Head)) (fun a => rfl) (fun L cs b h => by obtain ⟨_, _, rfl, rfl, ⟨_, _, rfl, rfl, ⟨_, _, rfl, rfl, ⟨_, _, rfl, rfl, ⟨_, _, rfl, rfl, ⟨_, _, rfl, rfl, rfl⟩⟩⟩⟩⟩⟩ := h; rfl)
def wf_T_api_Link (x : T_api_Link) : Prop := ((inI .i64 x.f_Kind) ∧ ((inI .i64 x.f_Id) ∧ ((inI .i64 x.f_Data) ∧ (inI .i64 x.f_Cost))))
theorem opn_T_api_Link : Opn Try.prog 56 k_T_api_Link wf_T_api_Link := opnFlat (opnS (fs := fs56) Try.underlying56 (by kernel_rfl) (opnC (opnInt Try.underlying3) rfl (by kernel_rfl) rfl (opnC (opnInt Try.underlying3) rfl (by kernel_rfl) rfl (opnC (opnInt Try.underlying3) rfl (by kernel_rfl) rfl (opnC1 (opnInt Try.underlying3) rfl (by kernel_rfl)))))) (f := fun (x : T_api_Link) => (x.f_Kind, x.f_Id, x.f_Data, x.f_Cost)) (fun y => (⟨y.1, y.2.1, y.2.2.1, y.2.2.2⟩ : T_api_Link)) (fun a => rfl) (fun L cs b h => by obtain ⟨_, _, rfl, rfl, ⟨_, _, rfl, rfl, ⟨_, _, rfl, rfl, rfl⟩⟩⟩ := h; rfl)
def wf_T_api_Vert (x : T_api_Vert) : Prop := ((inI .i64 x.f_Kind) ∧ (inI .i64 x.f_Id))
theorem opn_T_api_Vert : Opn Try.prog 35 k_T_api_Vert wf_T_api_Vert := opnFlat (opnS (fs := fs35) Try.underlying35 (by kernel_rfl) (opnC (opnInt Try.underlying3) rfl (by kernel_rfl) rfl (opnC1 (opnInt Try.underlying3) rfl (by kernel_rfl)))) (f := fun (x : T_api_Vert) => (x.f_Kind, x.f_Id)) (fun y => (⟨y.1, y.2⟩ : T_api_Vert)) (fun a => rfl) (fun L cs b h => by obtain ⟨_, _, rfl, rfl, rfl⟩ := h; rfl)
def wf_T_api_Lsa (x : T_api_Lsa) : Prop := ((wf_T_api_Head x.f_Head) ∧ ((inI .i64 x.f_Flags) ∧ ((x.f_Links.length ≤ maxLen ∧ ∀ x5 ∈ x.f_Links, wf_T_api_Link x5) ∧ ((inI .i64 x.f_Bits) ∧ ((x.f_Routers.length ≤ maxLen ∧ ∀ x6 ∈ x.f_Routers, inI .i64 x6) ∧ (x.f_Verts.length ≤ maxLen ∧ ∀ x7 ∈ x.f_Verts, wf_T_api_Vert x7))))))
theorem opn_T_api_Lsa : Opn Try.prog 44 k_T_api_Lsa wf_T_api_Lsa := opnIso (opnS (fs := fs44) Try.underlying44 (by kernel_rfl) (opnC opn_T_api_Head rfl (by kernel_rfl) rfl (opnC (opnInt Try.underlying3) rfl (by kernel_rfl) rfl (opnC (opnSl Try.underlying42 (by kernel_rfl) (by decide) opn_T_api_Link) rfl (by kernel_rfl) rfl (opnC (opnInt Try.underlying3) rfl (by kernel_rfl) rfl (opnC (opnSl Try.underlying30 (by kernel_rfl) (by decide) (opnInt Try.underlying3)) rfl (by kernel_rfl) rfl (opnC1 (opnSl Try.underlying26 (by kernel_rfl) (by decide) opn_T_api_Vert) rfl (by kernel_rfl)))))))) (f := fun (x : T_api_Lsa) => (x.f_Head, x.f_Flags, x.f_Links, x.f_Bits, x.f_Routers, x.f_Verts)) (fun y => (⟨y.1, y.2.1, y.2.2.1, y.2.2.2.1, y.2.2.2.2.1, y.2.2.2.2.2⟩ : T_api_Lsa)) (fun a => rfl)
/-- What is left of the law: plain values. -/
def TopoMaps.Pure : Prop := ∀ (a0 : List T_api_Lsa) (a1 : Int), (a0.length ≤ maxLen ∧ ∀ x1 ∈ a0, wf_T_api_Lsa x1) → (inI .i64 a1) → f_plenumlaw17_TopoMaps a0 a1 = some true
set_option maxRecDepth 100000 in
theorem TopoMaps_lifted (hp : TopoMaps.Pure) (os : Os) (started : os.Started) (H : Type) (enc : TypeId × Value → H) :
    ReturnsInHanded {} Try.checked os 5 .any (Rows.topoMapsSpec.pre6 enc Try.prog Try.f5 Rows.topoMapsRow.domain false) (Rows.topoMapsSpec.post enc Try.prog Try.f5 false true false false) := by
  refine returnsInHanded_of_change (C := Try.checked) own_ started (by kernel_rfl) Try.func5 (ChangeSpec.witness6 (enc := enc) (C := Try.checked) false ⟨#[], #[(.slice none 0 0), (.int .i64 0)], []⟩ 8 (by kernel_rfl) (by kernel_rfl) (by kernel_rfl) (by kernel_rfl)) ?_
  intro W base args ds gs before hval0 hW0 hcnd _
  have hval : ∀ (j : Nat) t v, Try.f5.params[j]? = some t → args[j]? = some v → Value.okWide Try.prog W .any base t v := hval0
  have hW : DataW.Whole enc Try.prog Try.f5.params.toList Rows.topoMapsSpec.vars false W args.toList ds gs before := hW0
  have hA : ∃ p, DataW.TrodAll enc Try.prog W 0 (fun _ => true) true [24, 3] args.toList ds p := by obtain ⟨p, q, h, _⟩ := hW; exact ⟨p, h⟩
  obtain ⟨p, hA⟩ := hA
  obtain ⟨vs, hvs⟩ : ∃ vs, args.toList = vs := ⟨_, rfl⟩
  rw [hvs] at hA
  have hB0 := hA; clear hA
  obtain ⟨v0, vs0, d0, ds0, p0, q0, rfl, rfl, h0, hB1, rfl⟩ := Sp.trodAll_cons hB0
  obtain ⟨v1, vs1, d1, ds1, p1, q1, rfl, rfl, h1, hB2, rfl⟩ := Sp.trodAll_cons hB1
  obtain ⟨rfl, rfl⟩ := Sp.trodAll_nil hB2
  obtain rfl : args = [v0, v1].toArray := by rw [← hvs]
  obtain ⟨f0_, h0⟩ := h0
  obtain ⟨A0, l0, c0, rfl⟩ := okWide_slice Try.underlying24 (hval 0 24 v0 rfl rfl)
  obtain ⟨a0, ⟨B0, b0, e0, r0⟩, w0⟩ := (opnSl Try.underlying24 (by kernel_rfl) (by decide) opn_T_api_Lsa) enc W 0 _ _ _ _ _ h0
  obtain ⟨rfl, rfl, rfl⟩ : B0 = A0 ∧ l0 = a0.length ∧ b0 = c0 := by have e_ : [Value.slice A0 l0 c0] = [.slice B0 a0.length b0] := e0; simp only [List.cons.injEq, Value.slice.injEq, and_true] at e_; exact ⟨e_.1.symm, e_.2.1, e_.2.2.symm⟩
  obtain ⟨f1_, h1⟩ := h1
  obtain ⟨n1, rfl⟩ := okWide_int Try.underlying3 (hval 1 3 v1 rfl rfl)
  obtain ⟨a1, k1, w1⟩ := (opnInt Try.underlying3) enc W 0 _ _ _ _ _ h1
  obtain rfl : a1 = n1 := by have e_ : [(.int .i64 n1 : Value)] = [.int .i64 a1] := k1; simpa using e_.symm
  refine law_close laidOut_ rfl Try.underlying4 rfl (by intro t ht; simp [Try.params5] at ht; rcases ht with rfl | rfl <;> exact ⟨by kernel_rfl, of_decide_eq_true (by kernel_rfl)⟩) hW rfl ?_
  exact f_plenumlaw17_TopoMaps.ok sub_r (hp a0 a1 w0 w1) (fits_all W) sub_r r0
theorem TopoMaps_row (hp : TopoMaps.Pure) : Rows.TopoMapsSaid :=
  OpenClaim.holds_of_wide 5 Try.f5 rfl rfl rfl rfl rfl rfl rfl ⟨rfl, rfl, rfl, rfl, rfl⟩ rfl rfl rfl rfl rfl (by kernel_rfl) Try.func5 (by kernel_rfl)
    (of_decide_eq_true (by kernel_rfl)) (by unfold Func.isWrapper; first | (rw [if_pos (by decide +kernel)]; kernel_rfl) | (rw [if_neg (by decide +kernel)]; exact ⟨rfl, rfl⟩))
    (fun os started H enc _ => TopoMaps_lifted hp os started H enc)
end Go.Proofs.Ytbjnbjgiidcfjaa
