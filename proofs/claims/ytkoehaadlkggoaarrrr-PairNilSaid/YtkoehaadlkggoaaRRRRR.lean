/- The laws' rows, each out of its plain part ('..Pure': for all plain values that the types allow, the law's function answers true). Conditions: the plain part. Written by gen.py. -/
import Derived.Test.YtkoehaadlkggoaaRRRRG
import Derived.Test.YtkoehaadlkggoaaRRRRSp6
import Derived.Test.YtkoehaadlkggoaaRRRRRows
import Derived.KernelRfl
set_option linter.unusedVariables false
set_option linter.unusedSimpArgs false
namespace Go.Proofs.YtkoehaadlkggoaaRRRR
open Go Go.Proofs.YtkoehaadlkggoaaRRRR.Sp Go.ChangeShapes Go.WideShapes Go.ChangeAt Go.RowKit

theorem own_ : ownKnob Try.prog.godebug = none := by kernel_rfl
theorem laidOut_ : laidOutB Try.prog = true := by kernel_rfl
def wf_T_api_Head (x : T_api_Head) : Prop := ((inI .i64 x.f_Age) ∧ ((inI .i64 x.f_Kind) ∧ ((inI .i64 x.f_Id) ∧ ((inI .i64 x.f_Adv) ∧ ((inI .i64 x.f_Seq) ∧ ((inI .i64 x.f_Sum) ∧ (inI .i64 x.f_Len)))))))
theorem opn_T_api_Head : Opn Try.prog 29 k_T_api_Head wf_T_api_Head := opnFlat (opnS (fs := fs29) Try.underlying29 (by kernel_rfl) (opnC (opnInt Try.underlying3) rfl (by kernel_rfl) rfl (opnC (opnInt Try.underlying3) rfl (by kernel_rfl) rfl (opnC (opnInt Try.underlying3) rfl (by kernel_rfl) rfl (opnC (opnInt Try.underlying3) rfl (by kernel_rfl) rfl (opnC (opnInt Try.underlying3) rfl (by kernel_rfl) rfl (opnC (opnInt Try.underlying3) rfl (by kernel_rfl) rfl (opnC1 (opnInt Try.underlying3) rfl (by kernel_rfl))))))))) (f := fun (x : T_api_Head) => (x.f_Age, x.f_Kind, x.f_Id, x.f_Adv, x.f_Seq, x.f_Sum, x.f_Len)) (fun y => (⟨y.1, y.2.1, y.2.2.1, y.2.2.2.1, y.2.2.2.2.1, y.2.2.2.2.2.1, y.2.2.2.2.2.2⟩ : T_api_Head)) (fun a => rfl) (fun L cs b h => by obtain ⟨_, _, rfl, rfl, ⟨_, _, rfl, rfl, ⟨_, _, rfl, rfl, ⟨_, _, rfl, rfl, ⟨_, _, rfl, rfl, ⟨_, _, rfl, rfl, rfl⟩⟩⟩⟩⟩⟩ := h; rfl)
def wf_T_api_Key (x : T_api_Key) : Prop := ((inI .i64 x.f_Kind) ∧ ((inI .i64 x.f_Id) ∧ (inI .i64 x.f_Adv)))
theorem opn_T_api_Key : Opn Try.prog 51 k_T_api_Key wf_T_api_Key := opnFlat (opnS (fs := fs51) Try.underlying51 (by kernel_rfl) (opnC (opnInt Try.underlying3) rfl (by kernel_rfl) rfl (opnC (opnInt Try.underlying3) rfl (by kernel_rfl) rfl (opnC1 (opnInt Try.underlying3) rfl (by kernel_rfl))))) (f := fun (x : T_api_Key) => (x.f_Kind, x.f_Id, x.f_Adv)) (fun y => (⟨y.1, y.2.1, y.2.2⟩ : T_api_Key)) (fun a => rfl) (fun L cs b h => by obtain ⟨_, _, rfl, rfl, ⟨_, _, rfl, rfl, rfl⟩⟩ := h; rfl)
def wf_T_api_Link (x : T_api_Link) : Prop := ((inI .i64 x.f_Kind) ∧ ((inI .i64 x.f_Id) ∧ ((inI .i64 x.f_Data) ∧ (inI .i64 x.f_Cost))))
theorem opn_T_api_Link : Opn Try.prog 90 k_T_api_Link wf_T_api_Link := opnFlat (opnS (fs := fs90) Try.underlying90 (by kernel_rfl) (opnC (opnInt Try.underlying3) rfl (by kernel_rfl) rfl (opnC (opnInt Try.underlying3) rfl (by kernel_rfl) rfl (opnC (opnInt Try.underlying3) rfl (by kernel_rfl) rfl (opnC1 (opnInt Try.underlying3) rfl (by kernel_rfl)))))) (f := fun (x : T_api_Link) => (x.f_Kind, x.f_Id, x.f_Data, x.f_Cost)) (fun y => (⟨y.1, y.2.1, y.2.2.1, y.2.2.2⟩ : T_api_Link)) (fun a => rfl) (fun L cs b h => by obtain ⟨_, _, rfl, rfl, ⟨_, _, rfl, rfl, ⟨_, _, rfl, rfl, rfl⟩⟩⟩ := h; rfl)
def wf_T_api_Vert (x : T_api_Vert) : Prop := ((inI .i64 x.f_Kind) ∧ (inI .i64 x.f_Id))
theorem opn_T_api_Vert : Opn Try.prog 94 k_T_api_Vert wf_T_api_Vert := opnFlat (opnS (fs := fs94) Try.underlying94 (by kernel_rfl) (opnC (opnInt Try.underlying3) rfl (by kernel_rfl) rfl (opnC1 (opnInt Try.underlying3) rfl (by kernel_rfl)))) (f := fun (x : T_api_Vert) => (x.f_Kind, x.f_Id)) (fun y => (⟨y.1, y.2⟩ : T_api_Vert)) (fun a => rfl) (fun L cs b h => by obtain ⟨_, _, rfl, rfl, rfl⟩ := h; rfl)
def wf_T_api_Lsa (x : T_api_Lsa) : Prop := ((wf_T_api_Head x.f_Head) ∧ ((inI .i64 x.f_Flags) ∧ ((x.f_Links.length ≤ maxLen ∧ ∀ x8 ∈ x.f_Links, wf_T_api_Link x8) ∧ ((inI .i64 x.f_Bits) ∧ ((x.f_Routers.length ≤ maxLen ∧ ∀ x9 ∈ x.f_Routers, inI .i64 x9) ∧ (x.f_Verts.length ≤ maxLen ∧ ∀ x10 ∈ x.f_Verts, wf_T_api_Vert x10))))))
theorem opn_T_api_Lsa : Opn Try.prog 69 k_T_api_Lsa wf_T_api_Lsa := opnIso (opnS (fs := fs69) Try.underlying69 (by kernel_rfl) (opnC opn_T_api_Head rfl (by kernel_rfl) rfl (opnC (opnInt Try.underlying3) rfl (by kernel_rfl) rfl (opnC (opnSl Try.underlying66 (by kernel_rfl) (by decide) opn_T_api_Link) rfl (by kernel_rfl) rfl (opnC (opnInt Try.underlying3) rfl (by kernel_rfl) rfl (opnC (opnSl Try.underlying22 (by kernel_rfl) (by decide) (opnInt Try.underlying3)) rfl (by kernel_rfl) rfl (opnC1 (opnSl Try.underlying67 (by kernel_rfl) (by decide) opn_T_api_Vert) rfl (by kernel_rfl)))))))) (f := fun (x : T_api_Lsa) => (x.f_Head, x.f_Flags, x.f_Links, x.f_Bits, x.f_Routers, x.f_Verts)) (fun y => (⟨y.1, y.2.1, y.2.2.1, y.2.2.2.1, y.2.2.2.2.1, y.2.2.2.2.2⟩ : T_api_Lsa)) (fun a => rfl)
def wf_T_api_Packet (x : T_api_Packet) : Prop := ((inI .i64 x.f_Kind) ∧ ((inI .i64 x.f_Router) ∧ ((inI .i64 x.f_Bits) ∧ ((inI .i64 x.f_Prio) ∧ ((inI .i64 x.f_Dr) ∧ ((inI .i64 x.f_Bdr) ∧ ((x.f_Seen.length ≤ maxLen ∧ ∀ x11 ∈ x.f_Seen, inI .i64 x11) ∧ ((inI .i64 x.f_Flags) ∧ ((inI .i64 x.f_Seq) ∧ ((x.f_Heads.length ≤ maxLen ∧ ∀ x12 ∈ x.f_Heads, wf_T_api_Head x12) ∧ ((x.f_Keys.length ≤ maxLen ∧ ∀ x13 ∈ x.f_Keys, wf_T_api_Key x13) ∧ (x.f_Lsas.length ≤ maxLen ∧ ∀ x14 ∈ x.f_Lsas, wf_T_api_Lsa x14))))))))))))
theorem opn_T_api_Packet : Opn Try.prog 27 k_T_api_Packet wf_T_api_Packet := opnIso (opnS (fs := fs27) Try.underlying27 (by kernel_rfl) (opnC (opnInt Try.underlying3) rfl (by kernel_rfl) rfl (opnC (opnInt Try.underlying3) rfl (by kernel_rfl) rfl (opnC (opnInt Try.underlying3) rfl (by kernel_rfl) rfl (opnC (opnInt Try.underlying3) rfl (by kernel_rfl) rfl (opnC (opnInt Try.underlying3) rfl (by kernel_rfl) rfl (opnC (opnInt Try.underlying3) rfl (by kernel_rfl) rfl (opnC (opnSl Try.underlying22 (by kernel_rfl) (by decide) (opnInt Try.underlying3)) rfl (by kernel_rfl) rfl (opnC (opnInt Try.underlying3) rfl (by kernel_rfl) rfl (opnC (opnInt Try.underlying3) rfl (by kernel_rfl) rfl (opnC (opnSl Try.underlying23 (by kernel_rfl) (by decide) opn_T_api_Head) rfl (by kernel_rfl) rfl (opnC (opnSl Try.underlying24 (by kernel_rfl) (by decide) opn_T_api_Key) rfl (by kernel_rfl) rfl (opnC1 (opnSl Try.underlying25 (by kernel_rfl) (by decide) opn_T_api_Lsa) rfl (by kernel_rfl)))))))))))))) (f := fun (x : T_api_Packet) => (x.f_Kind, x.f_Router, x.f_Bits, x.f_Prio, x.f_Dr, x.f_Bdr, x.f_Seen, x.f_Flags, x.f_Seq, x.f_Heads, x.f_Keys, x.f_Lsas)) (fun y => (⟨y.1, y.2.1, y.2.2.1, y.2.2.2.1, y.2.2.2.2.1, y.2.2.2.2.2.1, y.2.2.2.2.2.2.1, y.2.2.2.2.2.2.2.1, y.2.2.2.2.2.2.2.2.1, y.2.2.2.2.2.2.2.2.2.1, y.2.2.2.2.2.2.2.2.2.2.1, y.2.2.2.2.2.2.2.2.2.2.2⟩ : T_api_Packet)) (fun a => rfl)
/-- What is left of the law: plain values. -/
def PairNil.Pure : Prop := ∀ (a0 : T_api_Packet) (a1 : T_api_Head), (wf_T_api_Packet a0) → (wf_T_api_Head a1) → f_plenumlaw13_PairNil a0 a1 = some true
set_option maxRecDepth 100000 in
theorem PairNil_lifted (hp : PairNil.Pure) (os : Os) (started : os.Started) (H : Type) (enc : TypeId × Value → H) :
    ReturnsInHanded {} Try.checked os 3 .any (Rows.pairNilSpec.pre6 enc Try.prog Try.f3 Rows.pairNilRow.domain false) (Rows.pairNilSpec.post enc Try.prog Try.f3 false true false false) := by
  refine returnsInHanded_of_change (C := Try.checked) own_ started (by kernel_rfl) Try.func3 (ChangeSpec.witness6 (enc := enc) (C := Try.checked) false ⟨#[], #[(.agg [(.int .i64 0), (.int .i64 0), (.int .i64 0), (.int .i64 0), (.int .i64 0), (.int .i64 0), (.slice none 0 0), (.int .i64 0), (.int .i64 0), (.slice none 0 0), (.slice none 0 0), (.slice none 0 0)].toArray), (.agg [(.int .i64 0), (.int .i64 0), (.int .i64 0), (.int .i64 0), (.int .i64 0), (.int .i64 0), (.int .i64 0)].toArray)], []⟩ 8 (by kernel_rfl) (by kernel_rfl) (by kernel_rfl) (by kernel_rfl)) ?_
  intro W base args ds gs before hval0 hW0 hcnd _
  have hval : ∀ (j : Nat) t v, Try.f3.params[j]? = some t → args[j]? = some v → Value.okWide Try.prog W .any base t v := hval0
  have hW : DataW.Whole enc Try.prog Try.f3.params.toList Rows.pairNilSpec.vars false W args.toList ds gs before := hW0
  have hA : ∃ p, DataW.TrodAll enc Try.prog W 0 (fun _ => true) true [27, 29] args.toList ds p := by obtain ⟨p, q, h, _⟩ := hW; exact ⟨p, h⟩
  obtain ⟨p, hA⟩ := hA
  obtain ⟨vs, hvs⟩ : ∃ vs, args.toList = vs := ⟨_, rfl⟩
  rw [hvs] at hA
  have hB0 := hA; clear hA
  obtain ⟨v0, vs0, d0, ds0, p0, q0, rfl, rfl, h0, hB1, rfl⟩ := Sp.trodAll_cons hB0
  obtain ⟨v1, vs1, d1, ds1, p1, q1, rfl, rfl, h1, hB2, rfl⟩ := Sp.trodAll_cons hB1
  obtain ⟨rfl, rfl⟩ := Sp.trodAll_nil hB2
  obtain rfl : args = [v0, v1].toArray := by rw [← hvs]
  obtain ⟨f0_, h0⟩ := h0
  obtain ⟨cs0, rfl, _⟩ := okWide_struct (fs := fs27) Try.underlying27 (hval 0 27 v0 rfl rfl)
  obtain ⟨a0, k0, w0⟩ := opn_T_api_Packet enc W 0 _ _ _ _ _ h0
  obtain ⟨A0_6, c0_6, A0_9, c0_9, A0_10, c0_10, A0_11, c0_11, e0_, r0_6, r0_9, r0_10, r0_11⟩ := rd_T_api_Packet k0
  obtain rfl : cs0 = [.int .i64 a0.f_Kind, .int .i64 a0.f_Router, .int .i64 a0.f_Bits, .int .i64 a0.f_Prio, .int .i64 a0.f_Dr, .int .i64 a0.f_Bdr, .slice A0_6 a0.f_Seen.length c0_6, .int .i64 a0.f_Flags, .int .i64 a0.f_Seq, .slice A0_9 a0.f_Heads.length c0_9, .slice A0_10 a0.f_Keys.length c0_10, .slice A0_11 a0.f_Lsas.length c0_11].toArray := by have f_ : cs0.toList = [.int .i64 a0.f_Kind, .int .i64 a0.f_Router, .int .i64 a0.f_Bits, .int .i64 a0.f_Prio, .int .i64 a0.f_Dr, .int .i64 a0.f_Bdr, .slice A0_6 a0.f_Seen.length c0_6, .int .i64 a0.f_Flags, .int .i64 a0.f_Seq, .slice A0_9 a0.f_Heads.length c0_9, .slice A0_10 a0.f_Keys.length c0_10, .slice A0_11 a0.f_Lsas.length c0_11] := e0_; rw [← f_]
  obtain ⟨f1_, h1⟩ := h1
  obtain ⟨cs1, rfl, _⟩ := okWide_struct (fs := fs29) Try.underlying29 (hval 1 29 v1 rfl rfl)
  obtain ⟨a1, k1, w1⟩ := opn_T_api_Head enc W 0 _ _ _ _ _ h1
  obtain rfl : cs1 = (enc_T_api_Head a1).toArray := by have e_ : cs1.toList = enc_T_api_Head a1 := k1; rw [← e_]
  refine law_close laidOut_ rfl Try.underlying4 rfl (by intro t ht; simp [Try.params3] at ht; rcases ht with rfl | rfl <;> exact ⟨by kernel_rfl, of_decide_eq_true (by kernel_rfl)⟩) hW rfl ?_
  exact f_plenumlaw13_PairNil.ok sub_r (hp a0 a1 w0 w1) (fits_all W) sub_r r0_6 sub_r r0_9 sub_r r0_10 sub_r r0_11
theorem PairNil_row (hp : PairNil.Pure) : Rows.PairNilSaid :=
  OpenClaim.holds_of_wide 3 Try.f3 rfl rfl rfl rfl rfl rfl rfl ⟨rfl, rfl, rfl, rfl, rfl⟩ rfl rfl rfl rfl rfl (by kernel_rfl) Try.func3 (by kernel_rfl)
    (of_decide_eq_true (by kernel_rfl)) (by unfold Func.isWrapper; first | (rw [if_pos (by decide +kernel)]; kernel_rfl) | (rw [if_neg (by decide +kernel)]; exact ⟨rfl, rfl⟩))
    (fun os started H enc _ => PairNil_lifted hp os started H enc)
end Go.Proofs.YtkoehaadlkggoaaRRRR
