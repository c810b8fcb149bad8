/- The walk, part 5. Conditions: none beside each theorem's own. Written by gen.py out of the print of the loaded program. -/
import Derived.Test.YtbjnbjgiidcfjaaFSort
import Derived.KernelRfl
set_option linter.unusedVariables false
set_option linter.unusedSimpArgs false
namespace Go.Proofs.Ytbjnbjgiidcfjaa
open Go Go.Proofs.Ytbjnbjgiidcfjaa.Sp

/-! ### slices.Compact[[]plenum/api.Vert,plenum/api.Vert] (function 42) -/
abbrev f_slices_Compact_api_Vert_api_Vert.R := List T_api_Vert
noncomputable def f_slices_Compact_api_Vert_api_Vert.b0 (s3 : Int) (s4 : Int × Int × (List T_api_Vert)) : Option (Sum (Int × Int × (List T_api_Vert)) (Sum (Int × Int × (List T_api_Vert)) f_slices_Compact_api_Vert_api_Vert.R)) := (if s4.2.1 < ((cutL s4.2.2 s3 (s4.2.2.length : Int)).length : Int) then (if 0 ≤ s3 then (if s3 ≤ (s4.2.2.length : Int) then (if 0 ≤ s4.2.1 then (if 0 ≤ (IntKind.i64.wrap (s4.2.1 - 1)) then (if (IntKind.i64.wrap (s4.2.1 - 1)) < ((cutL s4.2.2 s3 (s4.2.2.length : Int)).length : Int) then (if (rd (cutL s4.2.2 s3 (s4.2.2.length : Int)) s4.2.1) = (rd (cutL s4.2.2 s3 (s4.2.2.length : Int)) (IntKind.i64.wrap (s4.2.1 - 1))) then some (.inl (s4.1, IntKind.i64.wrap (s4.2.1 + 1), s4.2.2)) else (if 0 ≤ s4.1 then (if s4.1 < (s4.2.2.length : Int) then some (.inl (IntKind.i64.wrap (s4.1 + 1), IntKind.i64.wrap (s4.2.1 + 1), setI s4.2.2 s4.1 (rd (cutL s4.2.2 s3 (s4.2.2.length : Int)) s4.2.1))) else none) else none)) else none) else none) else none) else none) else none) else some (.inr (.inl (s4.1, s4.2.1, s4.2.2))))
noncomputable def f_slices_Compact_api_Vert_api_Vert.b1 (a0 : List T_api_Vert) (s3 : Int) : Option (Sum (Int) (Sum (Int) f_slices_Compact_api_Vert_api_Vert.R)) := (if s3 < (a0.length : Int) then (if 0 ≤ s3 then (if 0 ≤ (IntKind.i64.wrap (s3 - 1)) then (if (IntKind.i64.wrap (s3 - 1)) < (a0.length : Int) then (if (rd a0 s3) = (rd a0 (IntKind.i64.wrap (s3 - 1))) then (if s3 ≤ (a0.length : Int) then ((loopO (f_slices_Compact_api_Vert_api_Vert.b0 s3) (s3, 1, a0)).bind fun y7 => match y7 with | .inl s4 => (if 0 ≤ s4.1 then (if s4.1 ≤ (s4.2.2.length : Int) then (if s4.1 ≤ ((clrL s4.2.2 s4.1 (⟨0, 0⟩ : T_api_Vert)).length : Int) then some (.inr (.inr (cutL (clrL s4.2.2 s4.1 (⟨0, 0⟩ : T_api_Vert)) (0 : Int) s4.1))) else none) else none) else none) | .inr r_ => some (.inr (.inr r_))) else none) else some (.inl (IntKind.i64.wrap (s3 + 1)))) else none) else none) else none) else some (.inr (.inl s3)))
noncomputable def f_slices_Compact_api_Vert_api_Vert (a0 : List T_api_Vert) : Option f_slices_Compact_api_Vert_api_Vert.R := (if (a0.length : Int) < 2 then some a0 else ((loopO (f_slices_Compact_api_Vert_api_Vert.b1 a0) 1).bind fun y5 => match y5 with | .inl s3 => some a0 | .inr r_ => some r_))
set_option maxHeartbeats 1000000 in
theorem f_slices_Compact_api_Vert_api_Vert.ok {z w : World} {F G : Hp} (hG : G ⊆ F) {a0 : List T_api_Vert} {A_a0 : Option Addr} {c_a0 : Nat} {L_a0 : Hp} {r : f_slices_Compact_api_Vert_api_Vert.R} (H : f_slices_Compact_api_Vert_api_Vert a0 = some r) (HF : Fits z w (L_a0 ++ F)) (ho_a0 : OwnS k_T_api_Vert L_a0 A_a0 c_a0 a0) :
  Calls Try.prog 42 [.slice A_a0 a0.length c_a0].toArray w fun e w' => ∃ (A0 : Option Addr) (c0 : Nat) (L0 : Hp), e = .returned (.slice A0 r.length c0) ∧ Fits z w' (L0 ++ F) ∧ OwnS k_T_api_Vert L0 A0 c0 r := by
 unfold f_slices_Compact_api_Vert_api_Vert at H
 refine enter0 Try.func42 rfl Try.ntmps42 rfl (E := [(0, .slice A_a0 a0.length c_a0)]) rfl ?_
 refine cSeq (fun K1 hK1 => ?_)
 refine cRgn [] trivial ?_
 refine sL (asg rfl) rfl ?_
 refine lE ?_
 refine kN (?_)
 refine hK1 _ _ ?_
 refine cSeq (fun K2 hK2 => ?_)
 refine cSeq (fun K3 hK3 => ?_)
 refine cRgn [] trivial ?_
 refine sL (mv rfl) rfl ?_
 refine sL (lnS rfl Try.underlying26) rfl ?_
 refine sL (bLss rfl rfl) rfl ?_
 refine lE ?_
 refine kN (?_)
 refine hK3 _ _ ?_
 by_cases c1 : (a0.length : Int) < 2
 ·replace H := itT c1 H
  refine cSet (i := 8) rfl (dT c1) ?_
  refine cT rfl ?_
  refine cSeq (fun K4 hK4 => ?_)
  refine cRgn [] trivial ?_
  refine sL (mv rfl) rfl ?_
  refine sL (asg rfl) rfl ?_
  refine lE ?_
  refine kN (?_)
  refine hK4 _ _ ?_
  refine cRet ?_
  obtain rfl := Option.some.inj H
  refine kR (?_)
  refine ret1 rfl rfl ?_
  exact ⟨_, _, L_a0, rfl, HF, ho_a0⟩
 replace H := itF c1 H
 refine cSet (i := 8) rfl (dF c1) ?_
 refine cF rfl ?_
 refine cSkip ?_
 refine kN (?_)
 refine hK2 _ _ ?_
 refine cSeq (fun K5 hK5 => ?_)
 refine cSeq (fun K6 hK6 => ?_)
 refine cRgn [] trivial ?_
 refine sL (asg rfl) rfl ?_
 refine lE ?_
 refine kN (?_)
 refine hK6 _ _ ?_
 replace H := bnd H; obtain ⟨y5, J4, Ho3⟩ := H
 refine cLoopB (f_slices_Compact_api_Vert_api_Vert.b1 a0) (fun (s3 : Int) a w => Env 61 [(0, .slice A_a0 a0.length c_a0), (2, .slice none 0 0), (3, .int .i64 s3)] a ∧ Fits z w (L_a0 ++ F)) J4 (fun a hE => ⟨hE.keep (Keep.cons rfl (Keep.cons rfl (Keep.cons rfl (Keep.nil)))), HF⟩) ?_ ?_
 ·rintro s3 a w21 y6 ⟨hE, HF23⟩ H Hx3
  refine go_ hE ?_
  refine cSeq (fun K55 hK55 => ?_)
  refine cSeq (fun K56 hK56 => ?_)
  refine cRgn [] trivial ?_
  refine sL (mv rfl) rfl ?_
  refine sL (mv rfl) rfl ?_
  refine sL (lnS rfl Try.underlying26) rfl ?_
  refine sL (bLss rfl rfl) rfl ?_
  refine lE ?_
  refine kN (?_)
  refine hK56 _ _ ?_
  by_cases c96 : s3 < (a0.length : Int)
  ·replace H := itT c96 H
   refine cSet (i := 13) rfl (dT c96) ?_
   refine cT rfl ?_
   refine cSkip ?_
   refine kN (?_)
   refine hK55 _ _ ?_
   refine cSeq (fun K57 hK57 => ?_)
   refine cBlock ?_
   refine cSeq (fun K58 hK58 => ?_)
   refine cDraw mo_ HF23 rfl (fun w => Fits z w (L_a0 ++ F)) (fun w22 HF24 => ?_)
   refine hT 0 rfl (by kernel_rfl) (fun w_ hS_ => mv rfl) HF24 rfl rfl ?_
   refine hT 1 rfl (by kernel_rfl) (fun w_ hS_ => mv rfl) HF24 rfl rfl ?_
   replace H := chk H; obtain ⟨c100, H⟩ := H
   obtain ⟨g36, o36, _, rfl, rfl, q47⟩ := RdS.at_ ho_a0.rd c100 c96
   refine hT 2 rfl (by kernel_rfl) (fun w_ hS_ => ia rfl rfl Try.underlying26 ti35 c100 c96) HF24 rfl rfl ?_
   refine hT 3 rfl (by kernel_rfl) (fun w_ hS_ => ldA rfl ti35 rfl rfl (fun j v hj => hS_.cells (sub_h) (q47 j v hj))) HF24 rfl rfl ?_
   refine hT 4 rfl (by kernel_rfl) (fun w_ hS_ => mv rfl) HF24 rfl rfl ?_
   refine hT 5 rfl (by kernel_rfl) (fun w_ hS_ => mv rfl) HF24 rfl rfl ?_
   refine hT 6 rfl (by kernel_rfl) (fun w_ hS_ => bSub rfl rfl) HF24 rfl rfl ?_
   replace H := chk H; obtain ⟨c101, H⟩ := H
   replace H := chk H; obtain ⟨c102, H⟩ := H
   obtain ⟨_, rfl, q48⟩ := RdS.at' ho_a0.rd c101 c102
   refine hT 7 rfl (by kernel_rfl) (fun w_ hS_ => ia rfl rfl Try.underlying26 ti35 c101 c102) HF24 rfl rfl ?_
   refine hT 8 rfl (by kernel_rfl) (fun w_ hS_ => ldA rfl ti35 rfl rfl (fun j v hj => hS_.cells (sub_h) (q48 j v hj))) HF24 rfl rfl ?_
   refine hT 9 rfl (by kernel_rfl) (fun w_ hS_ => bAggEql (xs := [.int .i64 ((rd a0 s3).f_Kind), .int .i64 ((rd a0 s3).f_Id)]) (ys := [.int .i64 ((rd a0 (IntKind.i64.wrap (s3 - 1))).f_Kind), .int .i64 ((rd a0 (IntKind.i64.wrap (s3 - 1))).f_Id)]) (n := 2) rfl rfl eg35 (eqStruct Try.underlying35 sh35 (eqFcons (by decide) (pt1 Try.underlying3 rfl rfl) (pt1 Try.underlying3 rfl rfl) (eqInt Try.underlying3) (eqFcons (by decide) (pt1 Try.underlying3 rfl rfl) (pt1 Try.underlying3 rfl rfl) (eqInt Try.underlying3) eqFnil))) rfl (eq_T_api_Vert (rd a0 s3) (rd a0 (IntKind.i64.wrap (s3 - 1))))) HF24 rfl rfl ?_
   refine hEnd (by kernel_rfl) ?_
   refine kN (?_)
   refine hK58 _ _ ?_
   by_cases c103 : (rd a0 s3) = (rd a0 (IntKind.i64.wrap (s3 - 1)))
   ·replace H := itT c103 H
    refine cSet (i := 25) rfl (dT c103) ?_
    refine cT rfl ?_
    refine cSeq (fun K59 hK59 => ?_)
    refine cRgn [] trivial ?_
    refine sL (mv rfl) rfl ?_
    refine sL (mv rfl) rfl ?_
    replace H := chk H; obtain ⟨c104, H⟩ := H
    refine sL (slcN (xs := a0) rfl Try.underlying26 ti35 rfl rfl (ho_a0.rd).1 c100 c104 (Int.le_refl _)) rfl ?_
    refine sL (asg rfl) rfl ?_
    refine lE ?_
    refine kN (?_)
    refine hK59 _ _ ?_
    refine cSeq (fun K60 hK60 => ?_)
    refine cSeq (fun K61 hK61 => ?_)
    refine cRgn [] trivial ?_
    refine sL (asg rfl) rfl ?_
    refine lE ?_
    refine kN (?_)
    refine hK61 _ _ ?_
    replace H := bnd H; obtain ⟨y7, J3, Ho4⟩ := H
    refine cLoopB (f_slices_Compact_api_Vert_api_Vert.b0 s3) (fun (s4 : Int × Int × (List T_api_Vert)) a w => ∃ (L18 : Hp), Env 61 [(0, .slice (some ⟨g36, o36, none⟩) s4.2.2.length c_a0), (2, .slice none 0 0), (3, .int .i64 s4.1), (4, .slice (cutA (some ⟨g36, o36, none⟩) (c_a0 - s3.toNat) (s3.toNat * 2)) (cutL s4.2.2 s3 (s4.2.2.length : Int)).length (c_a0 - s3.toNat)), (5, .int .i64 s4.2.1)] a ∧ Fits z w (L18 ++ F) ∧ OwnS k_T_api_Vert L18 (some ⟨g36, o36, none⟩) c_a0 s4.2.2) J3 (fun a hE => ⟨L_a0, hE.keep (Keep.cons rfl (Keep.cons rfl (Keep.cons rfl (Keep.cons rfl (Keep.cons rfl (Keep.nil)))))), HF24, ho_a0⟩) ?_ ?_
    ·rintro s4 a w27 y8 ⟨L18, hE, HF29, ho18⟩ H Hx4
     refine go_ hE ?_
     refine cSeq (fun K72 hK72 => ?_)
     refine cSeq (fun K73 hK73 => ?_)
     refine cRgn [] trivial ?_
     refine sL (mv rfl) rfl ?_
     refine sL (mv rfl) rfl ?_
     refine sL (lnS rfl Try.underlying26) rfl ?_
     refine sL (bLss rfl rfl) rfl ?_
     refine lE ?_
     refine kN (?_)
     refine hK73 _ _ ?_
     by_cases c130 : s4.2.1 < ((cutL s4.2.2 s3 (s4.2.2.length : Int)).length : Int)
     ·replace H := itT c130 H
      refine cSet (i := 32) rfl (dT c130) ?_
      refine cT rfl ?_
      refine cSkip ?_
      refine kN (?_)
      refine hK72 _ _ ?_
      refine cSeq (fun K74 hK74 => ?_)
      refine cBlock ?_
      refine cSeq (fun K75 hK75 => ?_)
      refine cDraw mo_ HF29 rfl (fun w => Fits z w (L18 ++ F)) (fun w28 HF30 => ?_)
      refine hT 0 rfl (by kernel_rfl) (fun w_ hS_ => mv rfl) HF30 rfl rfl ?_
      refine hT 1 rfl (by kernel_rfl) (fun w_ hS_ => mv rfl) HF30 rfl rfl ?_
      replace H := chk H; obtain ⟨c136, H⟩ := H
      replace H := chk H; obtain ⟨c137, H⟩ := H
      replace H := chk H; obtain ⟨c138, H⟩ := H
      obtain ⟨g49, o49, _, hA43, rfl, q63⟩ := RdS.at_ (RdS.cutN ho18.rd c136 c137 (Int.le_refl _)) c138 c130
      refine hT 2 rfl (by kernel_rfl) (fun w_ hS_ => iaV hA43 rfl rfl Try.underlying26 ti35 c138 c130) HF30 rfl rfl ?_
      refine hT 3 rfl (by kernel_rfl) (fun w_ hS_ => ldA rfl ti35 rfl rfl (fun j v hj => hS_.cells (sub_h) (q63 j v hj))) HF30 rfl rfl ?_
      refine hT 4 rfl (by kernel_rfl) (fun w_ hS_ => mv rfl) HF30 rfl rfl ?_
      refine hT 5 rfl (by kernel_rfl) (fun w_ hS_ => mv rfl) HF30 rfl rfl ?_
      refine hT 6 rfl (by kernel_rfl) (fun w_ hS_ => bSub rfl rfl) HF30 rfl rfl ?_
      replace H := chk H; obtain ⟨c139, H⟩ := H
      replace H := chk H; obtain ⟨c140, H⟩ := H
      obtain ⟨g50, o50, _, hA44, rfl, q64⟩ := RdS.at_ (RdS.cutN ho18.rd c136 c137 (Int.le_refl _)) c139 c140
      refine hT 7 rfl (by kernel_rfl) (fun w_ hS_ => iaV hA44 rfl rfl Try.underlying26 ti35 c139 c140) HF30 rfl rfl ?_
      refine hT 8 rfl (by kernel_rfl) (fun w_ hS_ => ldA rfl ti35 rfl rfl (fun j v hj => hS_.cells (sub_h) (q64 j v hj))) HF30 rfl rfl ?_
      refine hT 9 rfl (by kernel_rfl) (fun w_ hS_ => bAggNeq (xs := [.int .i64 ((rd (cutL s4.2.2 s3 (s4.2.2.length : Int)) s4.2.1).f_Kind), .int .i64 ((rd (cutL s4.2.2 s3 (s4.2.2.length : Int)) s4.2.1).f_Id)]) (ys := [.int .i64 ((rd (cutL s4.2.2 s3 (s4.2.2.length : Int)) (IntKind.i64.wrap (s4.2.1 - 1))).f_Kind), .int .i64 ((rd (cutL s4.2.2 s3 (s4.2.2.length : Int)) (IntKind.i64.wrap (s4.2.1 - 1))).f_Id)]) (n := 2) rfl rfl eg35 (eqStruct Try.underlying35 sh35 (eqFcons (by decide) (pt1 Try.underlying3 rfl rfl) (pt1 Try.underlying3 rfl rfl) (eqInt Try.underlying3) (eqFcons (by decide) (pt1 Try.underlying3 rfl rfl) (pt1 Try.underlying3 rfl rfl) (eqInt Try.underlying3) eqFnil))) rfl (eq_T_api_Vert (rd (cutL s4.2.2 s3 (s4.2.2.length : Int)) s4.2.1) (rd (cutL s4.2.2 s3 (s4.2.2.length : Int)) (IntKind.i64.wrap (s4.2.1 - 1))))) HF30 rfl rfl ?_
      refine hEnd (by kernel_rfl) ?_
      refine kN (?_)
      refine hK75 _ _ ?_
      by_cases c141 : (rd (cutL s4.2.2 s3 (s4.2.2.length : Int)) s4.2.1) = (rd (cutL s4.2.2 s3 (s4.2.2.length : Int)) (IntKind.i64.wrap (s4.2.1 - 1)))
      ·replace H := itT c141 H
       refine cSet (i := 44) rfl (nF c141) ?_
       refine cF rfl ?_
       refine cSkip ?_
       refine jN (kN (?_))
       refine hK74 _ _ ?_
       refine cRgn [] trivial ?_
       refine sL (mv rfl) rfl ?_
       refine sL (bAdd rfl rfl) rfl ?_
       refine sL (asg rfl) rfl ?_
       refine lE ?_
       refine kN (?_)
       exact ofEnv (fun a hE => ⟨_, (Option.some.inj H).symm, ⟨L18, hE.keep (Keep.cons rfl (Keep.cons rfl (Keep.cons rfl (Keep.cons rfl (Keep.cons rfl (Keep.nil)))))), HF30, ho18⟩⟩)
      replace H := itF c141 H
      refine cSet (i := 44) rfl (nT c141) ?_
      refine cT rfl ?_
      refine cSeq (fun K76 hK76 => ?_)
      refine cRgn [] trivial ?_
      refine sL (mv rfl) rfl ?_
      refine sL (mv rfl) rfl ?_
      refine sL (mv rfl) rfl ?_
      refine sL (mv rfl) rfl ?_
      obtain ⟨g51, o51, _, hA45, rfl, q65⟩ := RdS.at_ (RdS.cutN ho18.rd c136 c137 (Int.le_refl _)) c138 c130
      refine sL (iaV hA45 rfl rfl Try.underlying26 ti35 c138 c130) rfl ?_
      refine sL (ldA rfl ti35 rfl rfl (fun j v hj => HF30.cells (sub_h) (q65 j v hj))) rfl ?_
      replace H := chk H; obtain ⟨c142, H⟩ := H
      replace H := chk H; obtain ⟨c143, H⟩ := H
      obtain ⟨_, rfl, q66⟩ := RdS.at' ho18.rd c142 c143
      refine sL (ia rfl rfl Try.underlying26 ti35 c142 c143) rfl ?_
      refine eS (oStE (K := k_T_api_Vert) (c := c_a0) (off := 0) (y' := (rd (cutL s4.2.2 s3 (s4.2.2.length : Int)) s4.2.1)) shrF HF30 ho18 c142 c143 rfl rfl ti35 rfl (ones rfl) (Nat.le_of_ble_eq_true rfl) (by rintro _ ⟨_, rfl⟩; exact ⟨rfl, rfl⟩)) ?_
      rintro w29 ⟨L19, HF31, ho19⟩
      refine lSet (i := 0) (v := .slice (some ⟨g36, o36, none⟩) (setI s4.2.2 s4.1 (rd (cutL s4.2.2 s3 (s4.2.2.length : Int)) s4.2.1)).length c_a0) rfl (by simp only [len_setI]) ?_
      refine lSet (i := 4) (v := .slice (cutA (some ⟨g36, o36, none⟩) (c_a0 - s3.toNat) (s3.toNat * 2)) (cutL (setI s4.2.2 s4.1 (rd (cutL s4.2.2 s3 (s4.2.2.length : Int)) s4.2.1)) s3 ((setI s4.2.2 s4.1 (rd (cutL s4.2.2 s3 (s4.2.2.length : Int)) s4.2.1)).length : Int)).length (c_a0 - s3.toNat)) rfl (by simp only [len_cutSet, len_setI]) ?_
      refine lSet (i := 30) (v := .slice (cutA (some ⟨g36, o36, none⟩) (c_a0 - s3.toNat) (s3.toNat * 2)) (cutL (setI s4.2.2 s4.1 (rd (cutL s4.2.2 s3 (s4.2.2.length : Int)) s4.2.1)) s3 ((setI s4.2.2 s4.1 (rd (cutL s4.2.2 s3 (s4.2.2.length : Int)) s4.2.1)).length : Int)).length (c_a0 - s3.toNat)) rfl (by simp only [len_cutSet, len_setI]) ?_
      refine lSet (i := 35) (v := .slice (cutA (some ⟨g36, o36, none⟩) (c_a0 - s3.toNat) (s3.toNat * 2)) (cutL (setI s4.2.2 s4.1 (rd (cutL s4.2.2 s3 (s4.2.2.length : Int)) s4.2.1)) s3 ((setI s4.2.2 s4.1 (rd (cutL s4.2.2 s3 (s4.2.2.length : Int)) s4.2.1)).length : Int)).length (c_a0 - s3.toNat)) rfl (by simp only [len_cutSet, len_setI]) ?_
      refine lSet (i := 39) (v := .slice (cutA (some ⟨g36, o36, none⟩) (c_a0 - s3.toNat) (s3.toNat * 2)) (cutL (setI s4.2.2 s4.1 (rd (cutL s4.2.2 s3 (s4.2.2.length : Int)) s4.2.1)) s3 ((setI s4.2.2 s4.1 (rd (cutL s4.2.2 s3 (s4.2.2.length : Int)) s4.2.1)).length : Int)).length (c_a0 - s3.toNat)) rfl (by simp only [len_cutSet, len_setI]) ?_
      refine lSet (i := 45) (v := .slice (some ⟨g36, o36, none⟩) (setI s4.2.2 s4.1 (rd (cutL s4.2.2 s3 (s4.2.2.length : Int)) s4.2.1)).length c_a0) rfl (by simp only [len_setI]) ?_
      refine lSet (i := 47) (v := .slice (cutA (some ⟨g36, o36, none⟩) (c_a0 - s3.toNat) (s3.toNat * 2)) (cutL (setI s4.2.2 s4.1 (rd (cutL s4.2.2 s3 (s4.2.2.length : Int)) s4.2.1)) s3 ((setI s4.2.2 s4.1 (rd (cutL s4.2.2 s3 (s4.2.2.length : Int)) s4.2.1)).length : Int)).length (c_a0 - s3.toNat)) rfl (by simp only [len_cutSet, len_setI]) ?_
      refine lE ?_
      refine kN (?_)
      refine hK76 _ _ ?_
      refine cRgn [] trivial ?_
      refine sL (mv rfl) rfl ?_
      refine sL (bAdd rfl rfl) rfl ?_
      refine sL (asg rfl) rfl ?_
      refine lE ?_
      refine jN (kN (?_))
      refine hK74 _ _ ?_
      refine cRgn [] trivial ?_
      refine sL (mv rfl) rfl ?_
      refine sL (bAdd rfl rfl) rfl ?_
      refine sL (asg rfl) rfl ?_
      refine lE ?_
      refine kN (?_)
      exact ofEnv (fun a hE => ⟨_, (Option.some.inj H).symm, ⟨L19, hE.keep (Keep.cons rfl (Keep.cons rfl (Keep.cons rfl (Keep.cons rfl (Keep.cons rfl (Keep.nil)))))), HF31, ho19⟩⟩)
     replace H := itF c130 H
     refine cSet (i := 32) rfl (dF c130) ?_
     refine cF rfl ?_
     refine cExit ?_
     refine kX (kX (jX (kN (?_))))
     exact ofEnv (fun a hE => ⟨_, (Option.some.inj H).symm, ⟨L18, hE.keep (Keep.cons rfl (Keep.cons rfl (Keep.cons rfl (Keep.cons rfl (Keep.cons rfl (Keep.nil)))))), HF29, ho18⟩⟩)
    rintro s4 a w30 rfl ⟨L18, hE, HF32, ho18⟩
    replace H := Ho4
    refine go_k hE ?_
    refine kN (?_)
    refine hK60 _ _ ?_
    refine cSeq (fun K77 hK77 => ?_)
    refine cRgn [] trivial ?_
    refine sL (mv rfl) rfl ?_
    refine sL (mv rfl) rfl ?_
    replace H := chk H; obtain ⟨c144, H⟩ := H
    replace H := chk H; obtain ⟨c145, H⟩ := H
    refine sL (slcN (xs := s4.2.2) rfl Try.underlying26 ti35 rfl rfl (ho18.rd).1 c144 c145 (Int.le_refl _)) rfl ?_
    refine eW0 (oClear (K := k_T_api_Vert) (lo := s4.1) shrF (⟨0, 0⟩ : T_api_Vert) HF32 ho18 rfl Try.underlying26 ti35 ⟨rfl, rfl⟩ c144 c145) ?_
    rintro _ w31 ⟨L20, rfl, HF33, ho20⟩
    refine lSet (i := 0) (v := .slice (some ⟨g36, o36, none⟩) (clrL s4.2.2 s4.1 (⟨0, 0⟩ : T_api_Vert)).length c_a0) rfl (by rw [len_clrL c145]) ?_
    refine lSet (i := 54) (v := .slice (some ⟨g36, o36, none⟩) (clrL s4.2.2 s4.1 (⟨0, 0⟩ : T_api_Vert)).length c_a0) rfl (by rw [len_clrL c145]) ?_
    refine lE ?_
    refine kN (?_)
    refine hK77 _ _ ?_
    refine cSeq (fun K78 hK78 => ?_)
    refine cRgn [] trivial ?_
    refine sL (mv rfl) rfl ?_
    refine sL (mv rfl) rfl ?_
    replace H := chk H; obtain ⟨c146, H⟩ := H
    refine sL (slcN (xs := (clrL s4.2.2 s4.1 (⟨0, 0⟩ : T_api_Vert))) rfl Try.underlying26 ti35 rfl rfl (ho20.rd).1 (by decide) c144 c146) rfl ?_
    refine sL (asg rfl) rfl ?_
    refine lE ?_
    refine kN (?_)
    refine hK78 _ _ ?_
    refine cRet ?_
    obtain ⟨L21, HF34, ho21⟩ := OwnS.cutV ho20 HF33 (by decide) c144 c146
    have e_ := Hx3 _ (Option.some.inj H).symm
    subst e_
    replace H := Ho3
    obtain rfl := Option.some.inj H
    refine jR (kR (kR (jR (kR (kR (?_))))))
    refine ret1 rfl rfl ?_
    exact ⟨_, _, L21, rfl, HF34, ho21⟩
   replace H := itF c103 H
   refine cSet (i := 25) rfl (dF c103) ?_
   refine cF rfl ?_
   refine cSkip ?_
   refine jN (kN (?_))
   refine hK57 _ _ ?_
   refine cRgn [] trivial ?_
   refine sL (mv rfl) rfl ?_
   refine sL (bAdd rfl rfl) rfl ?_
   refine sL (asg rfl) rfl ?_
   refine lE ?_
   refine kN (?_)
   exact ofEnv (fun a hE => ⟨_, (Option.some.inj H).symm, ⟨hE.keep (Keep.cons rfl (Keep.cons rfl (Keep.cons rfl (Keep.nil)))), HF24⟩⟩)
  replace H := itF c96 H
  refine cSet (i := 13) rfl (dF c96) ?_
  refine cF rfl ?_
  refine cExit ?_
  refine kX (kX (jX (kN (?_))))
  exact ofEnv (fun a hE => ⟨_, (Option.some.inj H).symm, ⟨hE.keep (Keep.cons rfl (Keep.cons rfl (Keep.cons rfl (Keep.nil)))), HF23⟩⟩)
 rintro s3 a w32 rfl ⟨hE, HF35⟩
 replace H := Ho3
 refine go_k hE ?_
 refine kN (?_)
 refine hK5 _ _ ?_
 refine cSeq (fun K79 hK79 => ?_)
 refine cRgn [] trivial ?_
 refine sL (mv rfl) rfl ?_
 refine sL (asg rfl) rfl ?_
 refine lE ?_
 refine kN (?_)
 refine hK79 _ _ ?_
 refine cRet ?_
 obtain rfl := Option.some.inj H
 refine ret1 rfl rfl ?_
 exact ⟨_, _, L_a0, rfl, HF35, ho_a0⟩
/-! ### plenum/topo.Members (function 17) -/
abbrev f_topo_Members.R := List T_api_Vert
noncomputable def f_topo_Members.b0 (a1 : Int) (t1 : List T_api_Lsa) (t2 : List T_api_Lsa) (s9 : (List T_api_Vert) × Int) (s12 : (List T_api_Vert) × Int) : Option (Sum ((List T_api_Vert) × Int) (Sum ((List T_api_Vert) × Int) f_topo_Members.R)) := (if s12.2 < (((rd t2 s9.2).f_Verts).length : Int) then (if 0 ≤ s12.2 then (if ((rd t2 s9.2).f_Head.f_Id) = a1 then ((((if ((rd ((rd t2 s9.2).f_Verts) s12.2).f_Kind) = 1 then some (.inl (decide (((rd ((rd t2 s9.2).f_Verts) s12.2).f_Id) = ((rd t2 s9.2).f_Head.f_Adv)))) else some (.inl false)) : Option (Sum (Bool) f_topo_Members.R))).bind fun y17 => match y17 with | .inl s13 => (if s13 = true then (if (s12.1.length + 1) * 16 ≤ 140737488355328 then some (.inl ((s12.1 ++ [(rd ((rd t2 s9.2).f_Verts) s12.2)]), IntKind.i64.wrap (s12.2 + 1))) else none) else (if ((rd ((rd t2 s9.2).f_Verts) s12.2).f_Kind) = 2 then ((f_slices_ContainsFunc_api_Lsa_api_Lsa_fn37_35_44 t1 (rd ((rd t2 s9.2).f_Verts) s12.2) (rd t2 s9.2)).bind fun t11 => (if t11 = true then (if (s12.1.length + 1) * 16 ≤ 140737488355328 then some (.inl ((s12.1 ++ [(rd ((rd t2 s9.2).f_Verts) s12.2)]), IntKind.i64.wrap (s12.2 + 1))) else none) else some (.inl (s12.1, IntKind.i64.wrap (s12.2 + 1))))) else some (.inl (s12.1, IntKind.i64.wrap (s12.2 + 1))))) | .inr r_ => some (.inr (.inr r_))) else some (.inl (s12.1, IntKind.i64.wrap (s12.2 + 1)))) else none) else some (.inr (.inl (s12.1, s12.2))))
noncomputable def f_topo_Members.b1 (a1 : Int) (t1 : List T_api_Lsa) (t2 : List T_api_Lsa) (s9 : (List T_api_Vert) × Int) : Option (Sum ((List T_api_Vert) × Int) (Sum ((List T_api_Vert) × Int) f_topo_Members.R)) := (if s9.2 < (t2.length : Int) then (if 0 ≤ s9.2 then ((loopO (f_topo_Members.b0 a1 t1 t2 s9) (s9.1, 0)).bind fun y15 => match y15 with | .inl s12 => some (.inl (s12.1, IntKind.i64.wrap (s9.2 + 1))) | .inr r_ => some (.inr (.inr r_))) else none) else some (.inr (.inl (s9.1, s9.2))))
noncomputable def f_topo_Members (a0 : List T_api_Lsa) (a1 : Int) : Option f_topo_Members.R := ((f_topo_live a0 2).bind fun t1 => ((f_topo_live a0 6).bind fun t2 => ((loopO (f_topo_Members.b1 a1 t1 t2) ([], 0)).bind fun y11 => match y11 with | .inl s9 => ((f_slices_SortFunc_api_Vert_api_Vert_fn39 s9.1).bind fun t12 => (if t12.length = s9.1.length then ((f_slices_Compact_api_Vert_api_Vert t12).bind fun t13 => (if 0 ≤ (t13.length : Int) then (if (t13.length : Int) ≤ (t13.length : Int) then some (cutL t13 0 (t13.length : Int)) else none) else none)) else none)) | .inr r_ => some r_)))
set_option maxHeartbeats 1000000 in
theorem f_topo_Members.ok {z w : World} {F G : Hp} (hG : G ⊆ F) {a0 : List T_api_Lsa} {A_a0 : Option Addr} {c_a0 : Nat} {X_a0 : Hp} {a1 : Int} {r : f_topo_Members.R} (H : f_topo_Members a0 a1 = some r) (HF : Fits z w F) (hX_a0 : X_a0 ⊆ F) (hr_a0 : RdS (kShr G k_T_api_Lsa) X_a0 A_a0 c_a0 a0) :
  Calls Try.prog 17 [.slice A_a0 a0.length c_a0, .int .i64 a1].toArray w fun e w' => ∃ (A0 : Option Addr) (c0 : Nat) (L0 : Hp), e = .returned (.slice A0 r.length c0) ∧ Fits z w' (L0 ++ F) ∧ OwnS k_T_api_Vert L0 A0 c0 r := by
 unfold f_topo_Members at H
 refine enter0 Try.func17 rfl Try.ntmps17 rfl (E := [(0, .slice A_a0 a0.length c_a0), (1, .int .i64 a1)]) rfl ?_
 refine cSeq (fun K1 hK1 => ?_)
 refine cRgn [] trivial ?_
 refine sL (asg rfl) rfl ?_
 refine lE ?_
 refine kN (?_)
 refine hK1 _ _ ?_
 refine cSeq (fun K2 hK2 => ?_)
 refine cRgn [] trivial ?_
 refine sL (mv rfl) rfl ?_
 replace H := bnd H; obtain ⟨t1, J1, H⟩ := H
 refine eCall isf21 rfl rfl rfl (f_topo_live.ok (a0 := a0) hG J1 HF hX_a0 hr_a0) ?_
 rintro _ w1 ⟨N1, A1, c1, L1, rfl, HF1, ho1⟩
 have hs1 : G ⊆ N1 ++ G := sub_a sub_r
 refine ⟨_, rfl, ?_⟩
 refine sL (asg rfl) rfl ?_
 refine lE ?_
 refine kN (?_)
 refine hK2 _ _ ?_
 refine cSeq (fun K3 hK3 => ?_)
 refine cRgn [] trivial ?_
 refine sL (asg rfl) rfl ?_
 refine lE ?_
 refine kN (?_)
 refine hK3 _ _ ?_
 refine cSeq (fun K4 hK4 => ?_)
 refine cSeq (fun K5 hK5 => ?_)
 refine cRgn [] trivial ?_
 refine sL (mv rfl) rfl ?_
 replace H := bnd H; obtain ⟨t2, J2, H⟩ := H
 refine eCall isf21 rfl rfl rfl (f_topo_live.ok (a0 := a0) (sub_a (sub_n hG)) J2 HF1 (sub_a (sub_a hX_a0)) (RdS.lift hr_a0 hs1 sub_r)) ?_
 rintro _ w2 ⟨N2, A2, c2, L2, rfl, HF2, ho2⟩
 have HF3 := HF2.perm (pm_a (perm_f pR).symm)
 obtain ⟨N3, hN1⟩ : ∃ N_, N_ = N2 ++ N1 := ⟨_, rfl⟩
 have HF4 := HF3; rw [← List.append_assoc N2 N1 F, ← hN1] at HF4
 have hs2 : N1 ++ G ⊆ N3 ++ G := frz_s hN1
 have hr1 := OwnS.lift (G' := (N3 ++ G)) ho2 (frz_c hN1)
 refine ⟨_, rfl, ?_⟩
 refine sL (lnS rfl Try.underlying24) rfl ?_
 refine sL (mv rfl) rfl ?_
 refine lE ?_
 refine kN (?_)
 refine hK5 _ _ ?_
 replace H := bnd H; obtain ⟨y11, J17, Ho9⟩ := H
 refine cLoopB (f_topo_Members.b1 a1 t1 t2) (fun (s9 : (List T_api_Vert) × Int) a w => ∃ (A38 : Option Addr) (c97 : Nat) (L32 : Hp), Env 74 [(1, .int .i64 a1), (4, .slice none 0 0), (5, .slice A1 t1.length c1), (6, .slice A38 s9.1.length c97), (14, .slice A2 t2.length c2), (15, .int .i64 (t2.length : Int)), (16, .int .i64 s9.2)] a ∧ Fits z w (L32 ++ (L2 ++ (L1 ++ (N3 ++ F)))) ∧ OwnS k_T_api_Vert L32 A38 c97 s9.1) J17 (fun a hE => ⟨none, 0, [], hE.keep (Keep.cons rfl (Keep.cons rfl (Keep.cons rfl (Keep.cons rfl (Keep.cons rfl (Keep.cons rfl (Keep.cons rfl (Keep.nil)))))))), HF4, OwnS.nil⟩) ?_ ?_
 ·rintro s9 a w59 y12 ⟨A38, c97, L32, hE, HF87, ho32⟩ H Hx3
  refine go_ hE ?_
  refine cSeq (fun K58 hK58 => ?_)
  refine cRgn [] trivial ?_
  refine sL (bLss rfl rfl) rfl ?_
  refine lE ?_
  refine kN (?_)
  refine hK58 _ _ ?_
  refine cSeq (fun K59 hK59 => ?_)
  by_cases c98 : s9.2 < (t2.length : Int)
  ·replace H := itT c98 H
   refine cSet (i := 17) rfl (dT c98) ?_
   refine cT rfl ?_
   refine cSkip ?_
   refine kN (?_)
   refine hK59 _ _ ?_
   refine cSeq (fun K60 hK60 => ?_)
   refine cBlock ?_
   refine cSeq (fun K61 hK61 => ?_)
   refine cRgn [] trivial ?_
   replace H := chk H; obtain ⟨c99, H⟩ := H
   obtain ⟨g17, o9, e12, rfl, hk3, q9⟩ := RdS.at_ hr1.rd c99 c98
   obtain ⟨A39, c100, A40, c101, A41, c102, rfl, hr8, hr9, hr10⟩ := rd_T_api_Lsa hk3
   refine sL (ia rfl rfl Try.underlying24 ti44 c99 c98) rfl ?_
   refine sL (ldA rfl ti44 rfl rfl (fun j v hj => HF87.cells ((sub_a sub_h)) (q9 j v hj))) rfl ?_
   refine eW (oAlloc HF87 ti44) rfl ?_
   rintro _ w60 ⟨g18, rfl, HF88⟩
   refine eS (oSt (l1 := [.int .i64 ((rd t2 s9.2).f_Head.f_Age), .int .i64 ((rd t2 s9.2).f_Head.f_Kind), .int .i64 ((rd t2 s9.2).f_Head.f_Id), .int .i64 ((rd t2 s9.2).f_Head.f_Adv), .int .i64 ((rd t2 s9.2).f_Head.f_Seq), .int .i64 ((rd t2 s9.2).f_Head.f_Sum), .int .i64 ((rd t2 s9.2).f_Head.f_Len), .int .i64 ((rd t2 s9.2).f_Flags), .slice A39 ((rd t2 s9.2).f_Links).length c100, .int .i64 ((rd t2 s9.2).f_Bits), .slice A40 ((rd t2 s9.2).f_Routers).length c101, .slice A41 ((rd t2 s9.2).f_Verts).length c102]) HF88 rfl rfl ti44 rfl (ones rfl) (Nat.le_of_ble_eq_true rfl) rfl) ?_
   rintro w61 HF89
   refine lE ?_
   refine kN (?_)
   refine hK61 _ _ ?_
   refine cSeq (fun K62 hK62 => ?_)
   refine cRgn [] trivial ?_
   refine sL (fa44_5 rfl) rfl ?_
   refine sL (ld rfl Try.underlying26 rfl (HF89.box (mem_h) rfl)) rfl ?_
   refine sL (lnS rfl Try.underlying26) rfl ?_
   refine sL (mv rfl) rfl ?_
   refine lE ?_
   refine kN (?_)
   refine hK62 _ _ ?_
   replace H := bnd H; obtain ⟨y15, J14, Ho12⟩ := H
   have HF136 := HF89.perm (perm_c (perm_f (perm_f pR)))
   have HF137 := HF136.perm (perm_f (perm_c (perm_f pR)))
   have HF138 := HF137.perm (perm_f1 (perm_f1 pR))
   have HF139 := HF138.perm (perm_c (perm_f (perm_f pR)))
   refine cLoopB (f_topo_Members.b0 a1 t1 t2 s9) (fun (s12 : (List T_api_Vert) × Int) a w => ∃ (A51 : Option Addr) (c131 : Nat) (L42 : Hp), Env 74 [(1, .int .i64 a1), (4, .slice none 0 0), (5, .slice A1 t1.length c1), (6, .slice A51 s12.1.length c131), (8, .pointer (some ⟨g18, 0, none⟩)), (14, .slice (some ⟨g17, o9, none⟩) t2.length c2), (15, .int .i64 (t2.length : Int)), (16, .int .i64 s9.2), (21, .slice A41 ((rd t2 s9.2).f_Verts).length c102), (22, .int .i64 (((rd t2 s9.2).f_Verts).length : Int)), (23, .int .i64 s12.2)] a ∧ Fits z w (L42 ++ (bk g18 44 [.int .i64 ((rd t2 s9.2).f_Head.f_Age), .int .i64 ((rd t2 s9.2).f_Head.f_Kind), .int .i64 ((rd t2 s9.2).f_Head.f_Id), .int .i64 ((rd t2 s9.2).f_Head.f_Adv), .int .i64 ((rd t2 s9.2).f_Head.f_Seq), .int .i64 ((rd t2 s9.2).f_Head.f_Sum), .int .i64 ((rd t2 s9.2).f_Head.f_Len), .int .i64 ((rd t2 s9.2).f_Flags), .slice A39 ((rd t2 s9.2).f_Links).length c100, .int .i64 ((rd t2 s9.2).f_Bits), .slice A40 ((rd t2 s9.2).f_Routers).length c101, .slice A41 ((rd t2 s9.2).f_Verts).length c102] :: (L2 ++ (L1 ++ (N3 ++ F))))) ∧ OwnS k_T_api_Vert L42 A51 c131 s12.1) J14 (fun a hE => ⟨_, _, L32, hE.keep (Keep.cons rfl (Keep.cons rfl (Keep.cons rfl (Keep.cons rfl (Keep.cons rfl (Keep.cons rfl (Keep.cons rfl (Keep.cons rfl (Keep.cons rfl (Keep.cons rfl (Keep.cons rfl (Keep.nil)))))))))))), HF139, ho32⟩) ?_ ?_
   ·rintro s12 a w78 y16 ⟨A51, c131, L42, hE, HF114, ho42⟩ H Hx4
    refine go_ hE ?_
    refine cSeq (fun K77 hK77 => ?_)
    refine cRgn [] trivial ?_
    refine sL (bLss rfl rfl) rfl ?_
    refine lE ?_
    refine kN (?_)
    refine hK77 _ _ ?_
    refine cSeq (fun K78 hK78 => ?_)
    by_cases c132 : s12.2 < (((rd t2 s9.2).f_Verts).length : Int)
    ·replace H := itT c132 H
     refine cSet (i := 24) rfl (dT c132) ?_
     refine cT rfl ?_
     refine cSkip ?_
     refine kN (?_)
     refine hK78 _ _ ?_
     refine cSeq (fun K79 hK79 => ?_)
     refine cBlock ?_
     refine cSeq (fun K80 hK80 => ?_)
     refine cRgn [] trivial ?_
     replace H := chk H; obtain ⟨c133, H⟩ := H
     obtain ⟨g23, o12, _, rfl, rfl, q12⟩ := RdS.at_ hr10 c133 c132
     refine sL (ia rfl rfl Try.underlying26 ti35 c133 c132) rfl ?_
     refine sL (ldA rfl ti35 rfl rfl (fun j v hj => HF114.cells ((sub_a (sub_c (sub_a (sub_a (sub_n hG)))))) (q12 j v hj))) rfl ?_
     refine eW (oAlloc HF114 ti35) rfl ?_
     rintro _ w79 ⟨g24, rfl, HF115⟩
     refine eS (oSt (l1 := [.int .i64 ((rd ((rd t2 s9.2).f_Verts) s12.2).f_Kind), .int .i64 ((rd ((rd t2 s9.2).f_Verts) s12.2).f_Id)]) HF115 rfl rfl ti35 rfl (ones rfl) (Nat.le_of_ble_eq_true rfl) rfl) ?_
     rintro w80 HF116
     refine lE ?_
     refine kN (?_)
     refine hK80 _ _ ?_
     refine cBlock ?_
     refine cSeq (fun K81 hK81 => ?_)
     refine cRgn [] trivial ?_
     refine sL (fa44_0 rfl) rfl ?_
     refine sL (fa41_2 rfl) rfl ?_
     refine sL (ld rfl Try.underlying3 rfl (HF116.box (mem_c (mem_a mem_h)) rfl)) rfl ?_
     refine sL (mv rfl) rfl ?_
     refine sL (bNeq rfl rfl) rfl ?_
     refine sL (asg rfl) rfl ?_
     refine lE ?_
     refine kN (?_)
     refine hK81 _ _ ?_
     by_cases c134 : ((rd t2 s9.2).f_Head.f_Id) = a1
     ·replace H := itT c134 H
      refine cSet (i := 27) rfl (nF c134) ?_
      refine cF rfl ?_
      refine cSeq (fun K82 hK82 => ?_)
      replace H := bnd H; obtain ⟨y17, H, Ho13⟩ := H
      refine cJoin (y := y17) (fun (s13 : Bool) a w => Env 74 [(1, .int .i64 a1), (4, .slice none 0 0), (5, .slice A1 t1.length c1), (6, .slice A51 s12.1.length c131), (8, .pointer (some ⟨g18, 0, none⟩)), (10, .pointer (some ⟨g24, 0, none⟩)), (14, .slice (some ⟨g17, o9, none⟩) t2.length c2), (15, .int .i64 (t2.length : Int)), (16, .int .i64 s9.2), (21, .slice (some ⟨g23, o12, none⟩) ((rd t2 s9.2).f_Verts).length c102), (22, .int .i64 (((rd t2 s9.2).f_Verts).length : Int)), (23, .int .i64 s12.2), (33, .bool s13)] a ∧ Fits z w (bk g24 35 [.int .i64 ((rd ((rd t2 s9.2).f_Verts) s12.2).f_Kind), .int .i64 ((rd ((rd t2 s9.2).f_Verts) s12.2).f_Id)] :: (L42 ++ (bk g18 44 [.int .i64 ((rd t2 s9.2).f_Head.f_Age), .int .i64 ((rd t2 s9.2).f_Head.f_Kind), .int .i64 ((rd t2 s9.2).f_Head.f_Id), .int .i64 ((rd t2 s9.2).f_Head.f_Adv), .int .i64 ((rd t2 s9.2).f_Head.f_Seq), .int .i64 ((rd t2 s9.2).f_Head.f_Sum), .int .i64 ((rd t2 s9.2).f_Head.f_Len), .int .i64 ((rd t2 s9.2).f_Flags), .slice A39 ((rd t2 s9.2).f_Links).length c100, .int .i64 ((rd t2 s9.2).f_Bits), .slice A40 ((rd t2 s9.2).f_Routers).length c101, .slice (some ⟨g23, o12, none⟩) ((rd t2 s9.2).f_Verts).length c102] :: (L2 ++ (L1 ++ (N3 ++ F))))))) ?_ ?_
      ·refine cRgn [(3, 37)] ⟨rfl, trivial⟩ ?_
       refine sL (fa35_0 rfl) rfl ?_
       refine sL (ld rfl Try.underlying3 rfl (HF116.box (mem_h) rfl)) rfl ?_
       refine sL (bEql rfl rfl) rfl ?_
       refine sL (mv rfl) rfl ?_
       by_cases c136 : ((rd ((rd t2 s9.2).f_Verts) s12.2).f_Kind) = 1
       ·replace H := itT c136 H
        refine lSet (i := 37) rfl (dT c136) ?_
        refine sG rfl rfl (fa35_1 rfl) rfl ?_
        refine sG rfl rfl (ld rfl Try.underlying3 rfl (HF116.box (mem_h) rfl)) rfl ?_
        refine sG rfl rfl (fa44_0 rfl) rfl ?_
        refine sG rfl rfl (fa41_3 rfl) rfl ?_
        refine sG rfl rfl (ld rfl Try.underlying3 rfl (HF116.box (mem_c (mem_a mem_h)) rfl)) rfl ?_
        refine sG rfl rfl (bEql rfl rfl) rfl ?_
        refine sL (pkT rfl rfl) rfl ?_
        refine sL (asg rfl) rfl ?_
        refine lE ?_
        refine kN (?_)
        exact ofEnv (fun a hE => ⟨_, (Option.some.inj H).symm, ⟨hE.keep (Keep.cons rfl (Keep.cons rfl (Keep.cons rfl (Keep.cons rfl (Keep.cons rfl (Keep.cons rfl (Keep.cons rfl (Keep.cons rfl (Keep.cons rfl (Keep.cons rfl (Keep.cons rfl (Keep.cons rfl (Keep.cons rfl (Keep.nil)))))))))))))), HF116⟩⟩)
       replace H := itF c136 H
       refine lSet (i := 37) rfl (dF c136) ?_
       refine sN rfl rfl rfl rfl ?_
       refine sN rfl rfl rfl rfl ?_
       refine sN rfl rfl rfl rfl ?_
       refine sN rfl rfl rfl rfl ?_
       refine sN rfl rfl rfl rfl ?_
       refine sN rfl rfl rfl rfl ?_
       refine sL (pkF rfl rfl) rfl ?_
       refine sL (asg rfl) rfl ?_
       refine lE ?_
       refine kN (?_)
       exact ofEnv (fun a hE => ⟨_, (Option.some.inj H).symm, ⟨hE.keep (Keep.cons rfl (Keep.cons rfl (Keep.cons rfl (Keep.cons rfl (Keep.cons rfl (Keep.cons rfl (Keep.cons rfl (Keep.cons rfl (Keep.cons rfl (Keep.cons rfl (Keep.cons rfl (Keep.cons rfl (Keep.cons rfl (Keep.nil)))))))))))))), HF116⟩⟩)
      rintro s13 a w81 rfl ⟨hE, HF117⟩
      replace H := Ho13
      refine go_k hE ?_
      refine kN (?_)
      refine hK82 _ _ ?_
      by_cases c137 : s13 = true
      ·replace H := itT c137 H
       refine cSet (i := 33) rfl (vT c137) ?_
       refine cT rfl ?_
       refine cRgn [] trivial ?_
       refine sL (mv rfl) rfl ?_
       refine sL (ldA (cs := [.int .i64 ((rd ((rd t2 s9.2).f_Verts) s12.2).f_Kind), .int .i64 ((rd ((rd t2 s9.2).f_Verts) s12.2).f_Id)]) rfl ti35 rfl rfl (HF117.boxes (o := 0) (n := 2) (mem_h) rfl)) rfl ?_
       refine eW (oLit (r := [.int .i64 ((rd ((rd t2 s9.2).f_Verts) s12.2).f_Kind), .int .i64 ((rd ((rd t2 s9.2).f_Verts) s12.2).f_Id)]) k_T_api_Vert [(rd ((rd t2 s9.2).f_Verts) s12.2)] HF117 Try.underlying26 ti35 rfl rfl rfl rfl ⟨[], [], [.int .i64 ((rd ((rd t2 s9.2).f_Verts) s12.2).f_Kind), .int .i64 ((rd ((rd t2 s9.2).f_Verts) s12.2).f_Id)], _, rfl, rfl, ⟨rfl, rfl⟩, ⟨rfl, rfl⟩⟩ rfl rfl) rfl ?_
       rintro _ w82 ⟨L43, A52, c138, rfl, HF118, ho43⟩
       replace H := chk H; obtain ⟨c139, H⟩ := H
       have HF119 := HF118.perm (perm_f (perm_c pR))
       refine eW (oApp (xs := s12.1) (ys := ([(rd ((rd t2 s9.2).f_Verts) s12.2)])) k_T_api_Vert HF119 rfl rfl Try.underlying26 Try.underlying26 ti35 rfl ho42 (srcR shrF ho43.rd HF119 (sub_a sub_h)) c139 rfl) rfl ?_
       rintro _ w83 ⟨L44, A53, c140, rfl, HF120, ho44⟩
       refine sL (asg rfl) rfl ?_
       refine lE ?_
       refine jN (jN (kN (?_)))
       refine hK79 _ _ ?_
       refine cRgn [] trivial ?_
       refine sL (bAdd rfl rfl) rfl ?_
       refine sL (mv rfl) rfl ?_
       refine lE ?_
       refine kN (?_)
       have HF121 := HF120.sublist (sl_a (sl_da (sl_dc (sl_c (sl_a (sl_a sR))))))
       exact ofEnv (fun a hE => ⟨_, (Option.some.inj H).symm, ⟨_, _, L44, hE.keep (Keep.cons rfl (Keep.cons rfl (Keep.cons rfl (Keep.cons rfl (Keep.cons rfl (Keep.cons rfl (Keep.cons rfl (Keep.cons rfl (Keep.cons rfl (Keep.cons rfl (Keep.cons rfl (Keep.nil)))))))))))), HF121, ho44⟩⟩)
      replace H := itF c137 H
      refine cSet (i := 33) rfl (vF c137) ?_
      refine cF rfl ?_
      refine cSeq (fun K83 hK83 => ?_)
      refine cRgn [(3, 53)] ⟨rfl, trivial⟩ ?_
      refine sL (fa35_0 rfl) rfl ?_
      refine sL (ld rfl Try.underlying3 rfl (HF117.box (mem_h) rfl)) rfl ?_
      refine sL (bEql rfl rfl) rfl ?_
      refine sL (mv rfl) rfl ?_
      by_cases c141 : ((rd ((rd t2 s9.2).f_Verts) s12.2).f_Kind) = 2
      ·replace H := itT c141 H
       refine lSet (i := 53) rfl (dT c141) ?_
       refine sG rfl rfl (mv rfl) rfl ?_
       refine sG rfl rfl (mfn (f' := []) (c' := [.pointer (some ⟨g24, 0, none⟩), .pointer (some ⟨g18, 0, none⟩)]) rfl rfl) rfl ?_
       have HF122 := HF117.perm (perm_c1 (perm_f1 pR))
       have HF123 := HF122.perm (perm_c1 pR)
       replace H := bnd H; obtain ⟨t11, J13, H⟩ := H
       refine eCallG rfl rfl isf36 rfl rfl rfl (f_slices_ContainsFunc_api_Lsa_api_Lsa_fn37_35_44.ok (a0 := t1) (a1_0 := (rd ((rd t2 s9.2).f_Verts) s12.2)) (a1_1 := (rd t2 s9.2)) (sub_a (sub_a (sub_a (sub_n hG)))) J13 HF123 (sub_a (sub_a sub_h)) (RdS.lift ho1.rd hs2 sub_r) hr8 hr9 hr10) ?_
       rintro _ w84 ⟨rfl, HF124⟩
       refine ⟨_, rfl, ?_⟩
       refine sL (pkT rfl rfl) rfl ?_
       refine sL (asg rfl) rfl ?_
       refine lE ?_
       refine kN (?_)
       refine hK83 _ _ ?_
       by_cases c142 : t11 = true
       ·replace H := itT c142 H
        refine cSet (i := 49) rfl (vT c142) ?_
        refine cT rfl ?_
        refine cRgn [] trivial ?_
        refine sL (mv rfl) rfl ?_
        refine sL (ldA (cs := [.int .i64 ((rd ((rd t2 s9.2).f_Verts) s12.2).f_Kind), .int .i64 ((rd ((rd t2 s9.2).f_Verts) s12.2).f_Id)]) rfl ti35 rfl rfl (HF124.boxes (o := 0) (n := 2) (mem_h) rfl)) rfl ?_
        refine eW (oLit (r := [.int .i64 ((rd ((rd t2 s9.2).f_Verts) s12.2).f_Kind), .int .i64 ((rd ((rd t2 s9.2).f_Verts) s12.2).f_Id)]) k_T_api_Vert [(rd ((rd t2 s9.2).f_Verts) s12.2)] HF124 Try.underlying26 ti35 rfl rfl rfl rfl ⟨[], [], [.int .i64 ((rd ((rd t2 s9.2).f_Verts) s12.2).f_Kind), .int .i64 ((rd ((rd t2 s9.2).f_Verts) s12.2).f_Id)], _, rfl, rfl, ⟨rfl, rfl⟩, ⟨rfl, rfl⟩⟩ rfl rfl) rfl ?_
        rintro _ w85 ⟨L45, A54, c143, rfl, HF125, ho45⟩
        replace H := chk H; obtain ⟨c144, H⟩ := H
        have HF126 := HF125.perm (perm_f (perm_c (perm_c pR)))
        refine eW (oApp (xs := s12.1) (ys := ([(rd ((rd t2 s9.2).f_Verts) s12.2)])) k_T_api_Vert HF126 rfl rfl Try.underlying26 Try.underlying26 ti35 rfl ho42 (srcR shrF ho45.rd HF126 (sub_a sub_h)) c144 rfl) rfl ?_
        rintro _ w86 ⟨L46, A55, c145, rfl, HF127, ho46⟩
        refine sL (asg rfl) rfl ?_
        refine lE ?_
        refine jN (jN (kN (?_)))
        refine hK79 _ _ ?_
        refine cRgn [] trivial ?_
        refine sL (bAdd rfl rfl) rfl ?_
        refine sL (mv rfl) rfl ?_
        refine lE ?_
        refine kN (?_)
        have HF128 := HF127.sublist (sl_a (sl_da (sl_dc (sl_c (sl_a (sl_a sR))))))
        exact ofEnv (fun a hE => ⟨_, (Option.some.inj H).symm, ⟨_, _, L46, hE.keep (Keep.cons rfl (Keep.cons rfl (Keep.cons rfl (Keep.cons rfl (Keep.cons rfl (Keep.cons rfl (Keep.cons rfl (Keep.cons rfl (Keep.cons rfl (Keep.cons rfl (Keep.cons rfl (Keep.nil)))))))))))), HF128, ho46⟩⟩)
       replace H := itF c142 H
       refine cSet (i := 49) rfl (vF c142) ?_
       refine cF rfl ?_
       refine cSkip ?_
       refine jN (jN (kN (?_)))
       refine hK79 _ _ ?_
       refine cRgn [] trivial ?_
       refine sL (bAdd rfl rfl) rfl ?_
       refine sL (mv rfl) rfl ?_
       refine lE ?_
       refine kN (?_)
       have HF129 := HF124.sublist (sl_dc (sl_c (sl_a (sl_a (sl_a sR)))))
       have HF130 := HF129.perm (perm_c (perm_f (perm_f pR)))
       have HF131 := HF130.perm (perm_f (perm_c (perm_f pR)))
       have HF132 := HF131.perm (perm_f1 (perm_f1 pR))
       have HF133 := HF132.perm (perm_c (perm_f (perm_f pR)))
       exact ofEnv (fun a hE => ⟨_, (Option.some.inj H).symm, ⟨_, _, L42, hE.keep (Keep.cons rfl (Keep.cons rfl (Keep.cons rfl (Keep.cons rfl (Keep.cons rfl (Keep.cons rfl (Keep.cons rfl (Keep.cons rfl (Keep.cons rfl (Keep.cons rfl (Keep.cons rfl (Keep.nil)))))))))))), HF133, ho42⟩⟩)
      replace H := itF c141 H
      refine lSet (i := 53) rfl (dF c141) ?_
      refine sN rfl rfl rfl rfl ?_
      refine sN rfl rfl rfl rfl ?_
      refine sN rfl rfl rfl rfl ?_
      refine sL (pkF rfl rfl) rfl ?_
      refine sL (asg rfl) rfl ?_
      refine lE ?_
      refine kN (?_)
      refine hK83 _ _ ?_
      refine cF rfl ?_
      refine cSkip ?_
      refine jN (jN (kN (?_)))
      refine hK79 _ _ ?_
      refine cRgn [] trivial ?_
      refine sL (bAdd rfl rfl) rfl ?_
      refine sL (mv rfl) rfl ?_
      refine lE ?_
      refine kN (?_)
      have HF134 := HF117.sublist (sl_dc (sl_a (sl_c (sl_a (sl_a sR)))))
      exact ofEnv (fun a hE => ⟨_, (Option.some.inj H).symm, ⟨_, _, L42, hE.keep (Keep.cons rfl (Keep.cons rfl (Keep.cons rfl (Keep.cons rfl (Keep.cons rfl (Keep.cons rfl (Keep.cons rfl (Keep.cons rfl (Keep.cons rfl (Keep.cons rfl (Keep.cons rfl (Keep.nil)))))))))))), HF134, ho42⟩⟩)
     replace H := itF c134 H
     refine cSet (i := 27) rfl (nT c134) ?_
     refine cT rfl ?_
     refine cSkip ?_
     refine jN (jN (kN (?_)))
     refine hK79 _ _ ?_
     refine cRgn [] trivial ?_
     refine sL (bAdd rfl rfl) rfl ?_
     refine sL (mv rfl) rfl ?_
     refine lE ?_
     refine kN (?_)
     have HF135 := HF116.sublist (sl_dc (sl_a (sl_c (sl_a (sl_a sR)))))
     exact ofEnv (fun a hE => ⟨_, (Option.some.inj H).symm, ⟨_, _, L42, hE.keep (Keep.cons rfl (Keep.cons rfl (Keep.cons rfl (Keep.cons rfl (Keep.cons rfl (Keep.cons rfl (Keep.cons rfl (Keep.cons rfl (Keep.cons rfl (Keep.cons rfl (Keep.cons rfl (Keep.nil)))))))))))), HF135, ho42⟩⟩)
    replace H := itF c132 H
    refine cSet (i := 24) rfl (dF c132) ?_
    refine cF rfl ?_
    refine cExit ?_
    refine kX (kX (jX (kN (?_))))
    exact ofEnv (fun a hE => ⟨_, (Option.some.inj H).symm, ⟨_, _, L42, hE.keep (Keep.cons rfl (Keep.cons rfl (Keep.cons rfl (Keep.cons rfl (Keep.cons rfl (Keep.cons rfl (Keep.cons rfl (Keep.cons rfl (Keep.cons rfl (Keep.cons rfl (Keep.cons rfl (Keep.nil)))))))))))), HF114, ho42⟩⟩)
   rintro s12 a w87 rfl ⟨A51, c131, L42, hE, HF140, ho42⟩
   replace H := Ho12
   refine go_k hE ?_
   refine jN (kN (?_))
   refine hK60 _ _ ?_
   refine cRgn [] trivial ?_
   refine sL (bAdd rfl rfl) rfl ?_
   refine sL (mv rfl) rfl ?_
   refine lE ?_
   refine kN (?_)
   have HF141 := HF140.sublist (sl_a (sl_dc (sl_a (sl_a sR))))
   exact ofEnv (fun a hE => ⟨_, (Option.some.inj H).symm, ⟨_, _, L42, hE.keep (Keep.cons rfl (Keep.cons rfl (Keep.cons rfl (Keep.cons rfl (Keep.cons rfl (Keep.cons rfl (Keep.cons rfl (Keep.nil)))))))), HF141, ho42⟩⟩)
  replace H := itF c98 H
  refine cSet (i := 17) rfl (dF c98) ?_
  refine cF rfl ?_
  refine cExit ?_
  refine kX (kX (jX (kN (?_))))
  exact ofEnv (fun a hE => ⟨_, (Option.some.inj H).symm, ⟨_, _, L32, hE.keep (Keep.cons rfl (Keep.cons rfl (Keep.cons rfl (Keep.cons rfl (Keep.cons rfl (Keep.cons rfl (Keep.cons rfl (Keep.nil)))))))), HF87, ho32⟩⟩)
 rintro s9 a w88 rfl ⟨A38, c97, L32, hE, HF142, ho32⟩
 replace H := Ho9
 refine go_k hE ?_
 refine kN (?_)
 refine hK4 _ _ ?_
 refine cSeq (fun K84 hK84 => ?_)
 refine cRgn [] trivial ?_
 refine sL (mv rfl) rfl ?_
 replace H := bnd H; obtain ⟨t12, J15, H⟩ := H
 refine eCall isf38 rfl rfl rfl (f_slices_SortFunc_api_Vert_api_Vert_fn39.ok (a0 := s9.1) J15 HF142 ho32) ?_
 rintro _ w89 ⟨L47, rfl, HF143, ho47⟩
 refine ⟨_, rfl, ?_⟩
 replace H := chk H; obtain ⟨c146, H⟩ := H
 refine lSet (i := 6) (v := .slice A38 t12.length c97) rfl (by rw [c146]) ?_
 refine lSet (i := 64) (v := .slice A38 t12.length c97) rfl (by rw [c146]) ?_
 refine lE ?_
 refine kN (?_)
 refine hK84 _ _ ?_
 refine cSeq (fun K85 hK85 => ?_)
 refine cRgn [] trivial ?_
 refine sL (mv rfl) rfl ?_
 replace H := bnd H; obtain ⟨t13, J16, H⟩ := H
 refine eCall isf42 rfl rfl rfl (f_slices_Compact_api_Vert_api_Vert.ok (a0 := t12) (sub_a (sub_a (sub_n hG))) J16 HF143 ho47) ?_
 rintro _ w90 ⟨A56, c147, L48, rfl, HF144, ho48⟩
 refine ⟨_, rfl, ?_⟩
 refine sL (asg rfl) rfl ?_
 refine lE ?_
 refine kN (?_)
 refine hK85 _ _ ?_
 refine cSeq (fun K86 hK86 => ?_)
 refine cRgn [] trivial ?_
 refine sL (mv rfl) rfl ?_
 refine sL (mv rfl) rfl ?_
 refine sL (lnS rfl Try.underlying26) rfl ?_
 refine sL (mv rfl) rfl ?_
 refine sL (lnS rfl Try.underlying26) rfl ?_
 replace H := chk H; obtain ⟨c148, H⟩ := H
 replace H := chk H; obtain ⟨c149, H⟩ := H
 refine eW (oCutOM (K := k_T_api_Vert) HF144 ho48 rfl Try.underlying26 ti35 rfl rfl rfl (by decide) c148 c149) rfl ?_
 rintro _ w91 ⟨L49, A57, c150, rfl, HF145, ho49⟩
 refine sL (asg rfl) rfl ?_
 refine lE ?_
 refine kN (?_)
 refine hK86 _ _ ?_
 refine cRet ?_
 obtain rfl := Option.some.inj H
 refine ret1 rfl rfl ?_
 have HF146 := HF145.sublist (sl_a (sl_da (sl_da sR)))
 have HF147 := Fits.conv (L' := (L49 ++ ((N2 ++ N1) ++ F))) HF146 (by rw [hN1] <;> rfl)
 have HF148 := HF147.sublist (sl_a (sl_da sR))
 exact ⟨_, _, L49, rfl, HF148, ho49⟩
/-! ### plenum/plenumref17.network (function 43) -/
abbrev f_plenumref17_network.R := Bool
noncomputable def f_plenumref17_network.b0 (a0 : List T_api_Lsa) (a1 : Int) (a2 : Int) (s1 : Int) : Option (Sum (Int) (Sum (Int) f_plenumref17_network.R)) := (if s1 < (a0.length : Int) then (if 0 ≤ s1 then (if ((rd a0 s1).f_Head.f_Age) < 3600 then (if ((rd a0 s1).f_Head.f_Kind) = 2 then (if ((rd a0 s1).f_Head.f_Id) = a1 then (if ((rd a0 s1).f_Head.f_Adv) = a2 then some (.inr (.inr true)) else some (.inl (IntKind.i64.wrap (s1 + 1)))) else some (.inl (IntKind.i64.wrap (s1 + 1)))) else some (.inl (IntKind.i64.wrap (s1 + 1)))) else some (.inl (IntKind.i64.wrap (s1 + 1)))) else none) else some (.inr (.inl s1)))
noncomputable def f_plenumref17_network (a0 : List T_api_Lsa) (a1 : Int) (a2 : Int) : Option f_plenumref17_network.R := ((loopO (f_plenumref17_network.b0 a0 a1 a2) 0).bind fun y1 => match y1 with | .inl s1 => some false | .inr r_ => some r_)
set_option maxHeartbeats 1000000 in
theorem f_plenumref17_network.ok {z w : World} {F G : Hp} (hG : G ⊆ F) {a0 : List T_api_Lsa} {A_a0 : Option Addr} {c_a0 : Nat} {X_a0 : Hp} {a1 : Int} {a2 : Int} {r : f_plenumref17_network.R} (H : f_plenumref17_network a0 a1 a2 = some r) (HF : Fits z w F) (hX_a0 : X_a0 ⊆ F) (hr_a0 : RdS (kShr G k_T_api_Lsa) X_a0 A_a0 c_a0 a0) :
  Calls Try.prog 43 [.slice A_a0 a0.length c_a0, .int .i64 a1, .int .i64 a2].toArray w fun e w' => e = .returned (.bool r) ∧ Fits z w' F := by
 unfold f_plenumref17_network at H
 refine enter0 Try.func43 rfl Try.ntmps43 rfl (E := [(0, .slice A_a0 a0.length c_a0), (1, .int .i64 a1), (2, .int .i64 a2)]) rfl ?_
 refine cSeq (fun K1 hK1 => ?_)
 refine cRgn [] trivial ?_
 refine sL (asg rfl) rfl ?_
 refine lE ?_
 refine kN (?_)
 refine hK1 _ _ ?_
 refine cSeq (fun K2 hK2 => ?_)
 refine cSeq (fun K3 hK3 => ?_)
 refine cRgn [] trivial ?_
 refine sL (asg rfl) rfl ?_
 refine lE ?_
 refine kN (?_)
 refine hK3 _ _ ?_
 replace H := bnd H; obtain ⟨y1, J1, Ho1⟩ := H
 refine cLoopB (f_plenumref17_network.b0 a0 a1 a2) (fun (s1 : Int) a w => Env 40 [(0, .slice A_a0 a0.length c_a0), (1, .int .i64 a1), (2, .int .i64 a2), (6, .bool false), (7, .int .i64 s1)] a ∧ Fits z w F) J1 (fun a hE => ⟨hE.keep (Keep.cons rfl (Keep.cons rfl (Keep.cons rfl (Keep.cons rfl (Keep.cons rfl (Keep.nil)))))), HF⟩) ?_ ?_
 ·rintro s1 a w5 y2 ⟨hE, HF5⟩ H Hx1
  refine go_ hE ?_
  refine cSeq (fun K16 hK16 => ?_)
  refine cSeq (fun K17 hK17 => ?_)
  refine cRgn [] trivial ?_
  refine sL (mv rfl) rfl ?_
  refine sL (mv rfl) rfl ?_
  refine sL (lnS rfl Try.underlying24) rfl ?_
  refine sL (bLss rfl rfl) rfl ?_
  refine lE ?_
  refine kN (?_)
  refine hK17 _ _ ?_
  by_cases c18 : s1 < (a0.length : Int)
  ·replace H := itT c18 H
   refine cSet (i := 12) rfl (dT c18) ?_
   refine cT rfl ?_
   refine cSkip ?_
   refine kN (?_)
   refine hK16 _ _ ?_
   refine cSeq (fun K18 hK18 => ?_)
   refine cBlock ?_
   refine cSeq (fun K19 hK19 => ?_)
   refine cRgn [] trivial ?_
   refine sL (mv rfl) rfl ?_
   refine sL (mv rfl) rfl ?_
   replace H := chk H; obtain ⟨c19, H⟩ := H
   obtain ⟨g5, o3, e6, rfl, hk3, q3⟩ := RdS.at_ hr_a0 c19 c18
   obtain ⟨A7, c20, A8, c21, A9, c22, rfl, hr7, hr8, hr9⟩ := rd_T_api_Lsa hk3
   refine sL (ia rfl rfl Try.underlying24 ti44 c19 c18) rfl ?_
   refine sL (fa44_0 rfl) rfl ?_
   refine sL (ldA (cs := [.int .i64 ((rd a0 s1).f_Head.f_Age), .int .i64 ((rd a0 s1).f_Head.f_Kind), .int .i64 ((rd a0 s1).f_Head.f_Id), .int .i64 ((rd a0 s1).f_Head.f_Adv), .int .i64 ((rd a0 s1).f_Head.f_Seq), .int .i64 ((rd a0 s1).f_Head.f_Sum), .int .i64 ((rd a0 s1).f_Head.f_Len)]) rfl ti41 rfl rfl (fun j v hj => HF5.cells (hX_a0) (el_part q3 (off := 0) (n := 7) rfl j v hj))) rfl ?_
   refine eW (oAlloc HF5 ti41) rfl ?_
   rintro _ w6 ⟨g6, rfl, HF6⟩
   refine eS (oSt (l1 := [.int .i64 ((rd a0 s1).f_Head.f_Age), .int .i64 ((rd a0 s1).f_Head.f_Kind), .int .i64 ((rd a0 s1).f_Head.f_Id), .int .i64 ((rd a0 s1).f_Head.f_Adv), .int .i64 ((rd a0 s1).f_Head.f_Seq), .int .i64 ((rd a0 s1).f_Head.f_Sum), .int .i64 ((rd a0 s1).f_Head.f_Len)]) HF6 rfl rfl ti41 rfl (ones rfl) (Nat.le_of_ble_eq_true rfl) rfl) ?_
   rintro w7 HF7
   refine lE ?_
   refine kN (?_)
   refine hK19 _ _ ?_
   refine cSeq (fun K20 hK20 => ?_)
   refine cRgn [(3, 23), (8, 28), (14, 34)] ⟨rfl, rfl, rfl, trivial⟩ ?_
   refine sL (fa41_0 rfl) rfl ?_
   refine sL (ld rfl Try.underlying3 rfl (HF7.box (mem_h) rfl)) rfl ?_
   refine sL (bLss rfl rfl) rfl ?_
   refine sL (mv rfl) rfl ?_
   by_cases c23 : ((rd a0 s1).f_Head.f_Age) < 3600
   ·replace H := itT c23 H
    refine lSet (i := 23) rfl (dT c23) ?_
    refine sG rfl rfl (fa41_1 rfl) rfl ?_
    refine sG rfl rfl (ld rfl Try.underlying3 rfl (HF7.box (mem_h) rfl)) rfl ?_
    refine sG rfl rfl (bEql rfl rfl) rfl ?_
    refine sL (pkT rfl rfl) rfl ?_
    refine sL (mv rfl) rfl ?_
    by_cases c24 : ((rd a0 s1).f_Head.f_Kind) = 2
    ·replace H := itT c24 H
     refine lSet (i := 28) rfl (dT c24) ?_
     refine sG rfl rfl (fa41_2 rfl) rfl ?_
     refine sG rfl rfl (ld rfl Try.underlying3 rfl (HF7.box (mem_h) rfl)) rfl ?_
     refine sG rfl rfl (mv rfl) rfl ?_
     refine sG rfl rfl (bEql rfl rfl) rfl ?_
     refine sL (pkT rfl rfl) rfl ?_
     refine sL (mv rfl) rfl ?_
     by_cases c25 : ((rd a0 s1).f_Head.f_Id) = a1
     ·replace H := itT c25 H
      refine lSet (i := 34) rfl (dT c25) ?_
      refine sG rfl rfl (fa41_3 rfl) rfl ?_
      refine sG rfl rfl (ld rfl Try.underlying3 rfl (HF7.box (mem_h) rfl)) rfl ?_
      refine sG rfl rfl (mv rfl) rfl ?_
      refine sG rfl rfl (bEql rfl rfl) rfl ?_
      refine sL (pkT rfl rfl) rfl ?_
      refine lE ?_
      refine kN (?_)
      refine hK20 _ _ ?_
      by_cases c26 : ((rd a0 s1).f_Head.f_Adv) = a2
      ·replace H := itT c26 H
       refine cSet (i := 39) rfl (dT c26) ?_
       refine cT rfl ?_
       refine cSeq (fun K21 hK21 => ?_)
       refine cRgn [] trivial ?_
       refine sL (asg rfl) rfl ?_
       refine lE ?_
       refine kN (?_)
       refine hK21 _ _ ?_
       refine cRet ?_
       have e_ := Hx1 _ (Option.some.inj H).symm
       subst e_
       replace H := Ho1
       obtain rfl := Option.some.inj H
       refine jR (kR (kR (jR (kR (kR (?_))))))
       refine ret1 rfl rfl ?_
       have HF8 := HF7.sublist (sl_dc sR)
       exact ⟨rfl, HF8⟩
      replace H := itF c26 H
      refine cSet (i := 39) rfl (dF c26) ?_
      refine cF rfl ?_
      refine cSkip ?_
      refine jN (kN (?_))
      refine hK18 _ _ ?_
      refine cRgn [] trivial ?_
      refine sL (mv rfl) rfl ?_
      refine sL (bAdd rfl rfl) rfl ?_
      refine sL (asg rfl) rfl ?_
      refine lE ?_
      refine kN (?_)
      have HF9 := HF7.sublist (sl_dc sR)
      exact ofEnv (fun a hE => ⟨_, (Option.some.inj H).symm, ⟨hE.keep (Keep.cons rfl (Keep.cons rfl (Keep.cons rfl (Keep.cons rfl (Keep.cons rfl (Keep.nil)))))), HF9⟩⟩)
     replace H := itF c25 H
     refine lSet (i := 34) rfl (dF c25) ?_
     refine sN rfl rfl rfl rfl ?_
     refine sN rfl rfl rfl rfl ?_
     refine sN rfl rfl rfl rfl ?_
     refine sN rfl rfl rfl rfl ?_
     refine sL (pkF rfl rfl) rfl ?_
     refine lE ?_
     refine kN (?_)
     refine hK20 _ _ ?_
     refine cF rfl ?_
     refine cSkip ?_
     refine jN (kN (?_))
     refine hK18 _ _ ?_
     refine cRgn [] trivial ?_
     refine sL (mv rfl) rfl ?_
     refine sL (bAdd rfl rfl) rfl ?_
     refine sL (asg rfl) rfl ?_
     refine lE ?_
     refine kN (?_)
     have HF10 := HF7.sublist (sl_dc sR)
     exact ofEnv (fun a hE => ⟨_, (Option.some.inj H).symm, ⟨hE.keep (Keep.cons rfl (Keep.cons rfl (Keep.cons rfl (Keep.cons rfl (Keep.cons rfl (Keep.nil)))))), HF10⟩⟩)
    replace H := itF c24 H
    refine lSet (i := 28) rfl (dF c24) ?_
    refine sN rfl rfl rfl rfl ?_
    refine sN rfl rfl rfl rfl ?_
    refine sN rfl rfl rfl rfl ?_
    refine sN rfl rfl rfl rfl ?_
    refine sL (pkF rfl rfl) rfl ?_
    refine sL (mv rfl) rfl ?_
    refine sN rfl rfl rfl rfl ?_
    refine sN rfl rfl rfl rfl ?_
    refine sN rfl rfl rfl rfl ?_
    refine sN rfl rfl rfl rfl ?_
    refine sL (pkF rfl rfl) rfl ?_
    refine lE ?_
    refine kN (?_)
    refine hK20 _ _ ?_
    refine cF rfl ?_
    refine cSkip ?_
    refine jN (kN (?_))
    refine hK18 _ _ ?_
    refine cRgn [] trivial ?_
    refine sL (mv rfl) rfl ?_
    refine sL (bAdd rfl rfl) rfl ?_
    refine sL (asg rfl) rfl ?_
    refine lE ?_
    refine kN (?_)
    have HF11 := HF7.sublist (sl_dc sR)
    exact ofEnv (fun a hE => ⟨_, (Option.some.inj H).symm, ⟨hE.keep (Keep.cons rfl (Keep.cons rfl (Keep.cons rfl (Keep.cons rfl (Keep.cons rfl (Keep.nil)))))), HF11⟩⟩)
   replace H := itF c23 H
   refine lSet (i := 23) rfl (dF c23) ?_
   refine sN rfl rfl rfl rfl ?_
   refine sN rfl rfl rfl rfl ?_
   refine sN rfl rfl rfl rfl ?_
   refine sL (pkF rfl rfl) rfl ?_
   refine sL (mv rfl) rfl ?_
   refine sN rfl rfl rfl rfl ?_
   refine sN rfl rfl rfl rfl ?_
   refine sN rfl rfl rfl rfl ?_
   refine sN rfl rfl rfl rfl ?_
   refine sL (pkF rfl rfl) rfl ?_
   refine sL (mv rfl) rfl ?_
   refine sN rfl rfl rfl rfl ?_
   refine sN rfl rfl rfl rfl ?_
   refine sN rfl rfl rfl rfl ?_
   refine sN rfl rfl rfl rfl ?_
   refine sL (pkF rfl rfl) rfl ?_
   refine lE ?_
   refine kN (?_)
   refine hK20 _ _ ?_
   refine cF rfl ?_
   refine cSkip ?_
   refine jN (kN (?_))
   refine hK18 _ _ ?_
   refine cRgn [] trivial ?_
   refine sL (mv rfl) rfl ?_
   refine sL (bAdd rfl rfl) rfl ?_
   refine sL (asg rfl) rfl ?_
   refine lE ?_
   refine kN (?_)
   have HF12 := HF7.sublist (sl_dc sR)
   exact ofEnv (fun a hE => ⟨_, (Option.some.inj H).symm, ⟨hE.keep (Keep.cons rfl (Keep.cons rfl (Keep.cons rfl (Keep.cons rfl (Keep.cons rfl (Keep.nil)))))), HF12⟩⟩)
  replace H := itF c18 H
  refine cSet (i := 12) rfl (dF c18) ?_
  refine cF rfl ?_
  refine cExit ?_
  refine kX (kX (jX (kN (?_))))
  exact ofEnv (fun a hE => ⟨_, (Option.some.inj H).symm, ⟨hE.keep (Keep.cons rfl (Keep.cons rfl (Keep.cons rfl (Keep.cons rfl (Keep.cons rfl (Keep.nil)))))), HF5⟩⟩)
 rintro s1 a w8 rfl ⟨hE, HF13⟩
 replace H := Ho1
 refine go_k hE ?_
 refine kN (?_)
 refine hK2 _ _ ?_
 refine cSeq (fun K22 hK22 => ?_)
 refine cRgn [] trivial ?_
 refine sL (asg rfl) rfl ?_
 refine lE ?_
 refine kN (?_)
 refine hK22 _ _ ?_
 refine cRet ?_
 obtain rfl := Option.some.inj H
 refine ret1 rfl rfl ?_
 exact ⟨rfl, HF13⟩
/-! ### plenum/plenumref17.Members (function 18) -/
abbrev f_plenumref17_Members.R := List T_api_Vert
noncomputable def f_plenumref17_Members.b0 (a0 : List T_api_Lsa) (s5 : (List T_api_Vert) × Int) (s7 : (List T_api_Vert) × Int) : Option (Sum ((List T_api_Vert) × Int) (Sum ((List T_api_Vert) × Int) f_plenumref17_Members.R)) := (if 0 ≤ s5.2 then (if s5.2 < (a0.length : Int) then (if s7.2 < (((rd a0 s5.2).f_Verts).length : Int) then (if 0 ≤ s7.2 then (if ((rd ((rd a0 s5.2).f_Verts) s7.2).f_Kind) = 1 then (if ((rd ((rd a0 s5.2).f_Verts) s7.2).f_Id) = ((rd a0 s5.2).f_Head.f_Adv) then ((f_plenumref8_Vert s7.1 (rd ((rd a0 s5.2).f_Verts) s7.2)).bind fun t41 => some (.inl (t41, IntKind.i64.wrap (s7.2 + 1)))) else (if ((rd ((rd a0 s5.2).f_Verts) s7.2).f_Kind) = 2 then ((f_plenumref17_network a0 ((rd ((rd a0 s5.2).f_Verts) s7.2).f_Id) ((rd a0 s5.2).f_Head.f_Adv)).bind fun t42 => (if t42 = true then ((f_plenumref8_Vert s7.1 (rd ((rd a0 s5.2).f_Verts) s7.2)).bind fun t43 => some (.inl (t43, IntKind.i64.wrap (s7.2 + 1)))) else some (.inl (s7.1, IntKind.i64.wrap (s7.2 + 1))))) else some (.inl (s7.1, IntKind.i64.wrap (s7.2 + 1))))) else (if ((rd ((rd a0 s5.2).f_Verts) s7.2).f_Kind) = 2 then ((f_plenumref17_network a0 ((rd ((rd a0 s5.2).f_Verts) s7.2).f_Id) ((rd a0 s5.2).f_Head.f_Adv)).bind fun t44 => (if t44 = true then ((f_plenumref8_Vert s7.1 (rd ((rd a0 s5.2).f_Verts) s7.2)).bind fun t45 => some (.inl (t45, IntKind.i64.wrap (s7.2 + 1)))) else some (.inl (s7.1, IntKind.i64.wrap (s7.2 + 1))))) else some (.inl (s7.1, IntKind.i64.wrap (s7.2 + 1))))) else none) else some (.inr (.inl (s7.1, s7.2)))) else none) else none)
noncomputable def f_plenumref17_Members.b1 (a0 : List T_api_Lsa) (a1 : Int) (s5 : (List T_api_Vert) × Int) : Option (Sum ((List T_api_Vert) × Int) (Sum ((List T_api_Vert) × Int) f_plenumref17_Members.R)) := (if s5.2 < (a0.length : Int) then (if 0 ≤ s5.2 then ((((if 3600 ≤ ((rd a0 s5.2).f_Head.f_Age) then some (.inl true) else (if ((rd a0 s5.2).f_Head.f_Kind) = 6 then some (.inl (!decide (((rd a0 s5.2).f_Head.f_Id) = a1))) else some (.inl true))) : Option (Sum (Bool) f_plenumref17_Members.R))).bind fun y9 => match y9 with | .inl s6 => (if s6 = true then some (.inl (s5.1, IntKind.i64.wrap (s5.2 + 1))) else ((loopO (f_plenumref17_Members.b0 a0 s5) (s5.1, 0)).bind fun y10 => match y10 with | .inl s7 => some (.inl (s7.1, IntKind.i64.wrap (s5.2 + 1))) | .inr r_ => some (.inr (.inr r_)))) | .inr r_ => some (.inr (.inr r_))) else none) else some (.inr (.inl (s5.1, s5.2))))
noncomputable def f_plenumref17_Members (a0 : List T_api_Lsa) (a1 : Int) : Option f_plenumref17_Members.R := ((loopO (f_plenumref17_Members.b1 a0 a1) ([], 0)).bind fun y7 => match y7 with | .inl s5 => some s5.1 | .inr r_ => some r_)
set_option maxHeartbeats 1000000 in
theorem f_plenumref17_Members.ok {z w : World} {F G : Hp} (hG : G ⊆ F) {a0 : List T_api_Lsa} {A_a0 : Option Addr} {c_a0 : Nat} {X_a0 : Hp} {a1 : Int} {r : f_plenumref17_Members.R} (H : f_plenumref17_Members a0 a1 = some r) (HF : Fits z w F) (hX_a0 : X_a0 ⊆ F) (hr_a0 : RdS (kShr G k_T_api_Lsa) X_a0 A_a0 c_a0 a0) :
  Calls Try.prog 18 [.slice A_a0 a0.length c_a0, .int .i64 a1].toArray w fun e w' => ∃ (A0 : Option Addr) (c0 : Nat) (L0 : Hp), e = .returned (.slice A0 r.length c0) ∧ Fits z w' (L0 ++ F) ∧ OwnS k_T_api_Vert L0 A0 c0 r := by
 unfold f_plenumref17_Members at H
 refine enter0 Try.func18 rfl Try.ntmps18 rfl (E := [(0, .slice A_a0 a0.length c_a0), (1, .int .i64 a1)]) rfl ?_
 refine cSeq (fun K1 hK1 => ?_)
 refine cRgn [] trivial ?_
 refine sL (asg rfl) rfl ?_
 refine lE ?_
 refine kN (?_)
 refine hK1 _ _ ?_
 refine cSeq (fun K2 hK2 => ?_)
 refine cRgn [] trivial ?_
 refine sL (asg rfl) rfl ?_
 refine lE ?_
 refine kN (?_)
 refine hK2 _ _ ?_
 refine cSeq (fun K3 hK3 => ?_)
 refine cSeq (fun K4 hK4 => ?_)
 refine cRgn [] trivial ?_
 refine sL (asg rfl) rfl ?_
 refine lE ?_
 refine kN (?_)
 refine hK4 _ _ ?_
 replace H := bnd H; obtain ⟨y7, J49, Ho5⟩ := H
 refine cLoopB (f_plenumref17_Members.b1 a0 a1) (fun (s5 : (List T_api_Vert) × Int) a w => ∃ (A66 : Option Addr) (c133 : Nat) (L24 : Hp), Env 80 [(0, .slice A_a0 a0.length c_a0), (1, .int .i64 a1), (4, .slice none 0 0), (5, .slice A66 s5.1.length c133), (6, .int .i64 s5.2)] a ∧ Fits z w (L24 ++ F) ∧ OwnS k_T_api_Vert L24 A66 c133 s5.1) J49 (fun a hE => ⟨none, 0, [], hE.keep (Keep.cons rfl (Keep.cons rfl (Keep.cons rfl (Keep.cons rfl (Keep.cons rfl (Keep.nil)))))), HF, OwnS.nil⟩) ?_ ?_
 ·rintro s5 a w53 y8 ⟨A66, c133, L24, hE, HF69, ho24⟩ H Hx3
  refine go_ hE ?_
  refine cSeq (fun K49 hK49 => ?_)
  refine cSeq (fun K50 hK50 => ?_)
  refine cRgn [] trivial ?_
  refine sL (mv rfl) rfl ?_
  refine sL (mv rfl) rfl ?_
  refine sL (lnS rfl Try.underlying24) rfl ?_
  refine sL (bLss rfl rfl) rfl ?_
  refine lE ?_
  refine kN (?_)
  refine hK50 _ _ ?_
  by_cases c134 : s5.2 < (a0.length : Int)
  ·replace H := itT c134 H
   refine cSet (i := 13) rfl (dT c134) ?_
   refine cT rfl ?_
   refine cSkip ?_
   refine kN (?_)
   refine hK49 _ _ ?_
   refine cSeq (fun K51 hK51 => ?_)
   refine cBlock ?_
   refine cSeq (fun K52 hK52 => ?_)
   refine cRgn [] trivial ?_
   refine sL (mv rfl) rfl ?_
   refine sL (mv rfl) rfl ?_
   replace H := chk H; obtain ⟨c135, H⟩ := H
   obtain ⟨g17, o9, e36, rfl, hk15, q21⟩ := RdS.at_ hr_a0 c135 c134
   obtain ⟨A67, c136, A68, c137, A69, c138, rfl, hr43, hr44, hr45⟩ := rd_T_api_Lsa hk15
   refine sL (ia rfl rfl Try.underlying24 ti44 c135 c134) rfl ?_
   refine sL (fa44_0 rfl) rfl ?_
   refine sL (ldA (cs := [.int .i64 ((rd a0 s5.2).f_Head.f_Age), .int .i64 ((rd a0 s5.2).f_Head.f_Kind), .int .i64 ((rd a0 s5.2).f_Head.f_Id), .int .i64 ((rd a0 s5.2).f_Head.f_Adv), .int .i64 ((rd a0 s5.2).f_Head.f_Seq), .int .i64 ((rd a0 s5.2).f_Head.f_Sum), .int .i64 ((rd a0 s5.2).f_Head.f_Len)]) rfl ti41 rfl rfl (fun j v hj => HF69.cells ((sub_a hX_a0)) (el_part q21 (off := 0) (n := 7) rfl j v hj))) rfl ?_
   refine eW (oAlloc HF69 ti41) rfl ?_
   rintro _ w54 ⟨g18, rfl, HF70⟩
   refine eS (oSt (l1 := [.int .i64 ((rd a0 s5.2).f_Head.f_Age), .int .i64 ((rd a0 s5.2).f_Head.f_Kind), .int .i64 ((rd a0 s5.2).f_Head.f_Id), .int .i64 ((rd a0 s5.2).f_Head.f_Adv), .int .i64 ((rd a0 s5.2).f_Head.f_Seq), .int .i64 ((rd a0 s5.2).f_Head.f_Sum), .int .i64 ((rd a0 s5.2).f_Head.f_Len)]) HF70 rfl rfl ti41 rfl (ones rfl) (Nat.le_of_ble_eq_true rfl) rfl) ?_
   rintro w55 HF71
   refine lE ?_
   refine kN (?_)
   refine hK52 _ _ ?_
   refine cSeq (fun K53 hK53 => ?_)
   refine cSeq (fun K54 hK54 => ?_)
   replace H := bnd H; obtain ⟨y9, H, Ho6⟩ := H
   refine cJoin (y := y9) (fun (s6 : Bool) a w => Env 80 [(0, .slice (some ⟨g17, o9, none⟩) a0.length c_a0), (1, .int .i64 a1), (4, .slice none 0 0), (5, .slice A66 s5.1.length c133), (6, .int .i64 s5.2), (7, .pointer (some ⟨g18, 0, none⟩)), (34, .bool s6)] a ∧ Fits z w (bk g18 41 [.int .i64 ((rd a0 s5.2).f_Head.f_Age), .int .i64 ((rd a0 s5.2).f_Head.f_Kind), .int .i64 ((rd a0 s5.2).f_Head.f_Id), .int .i64 ((rd a0 s5.2).f_Head.f_Adv), .int .i64 ((rd a0 s5.2).f_Head.f_Seq), .int .i64 ((rd a0 s5.2).f_Head.f_Sum), .int .i64 ((rd a0 s5.2).f_Head.f_Len)] :: (L24 ++ F))) ?_ ?_
   ·refine cRgn [(3, 24), (8, 29)] ⟨rfl, rfl, trivial⟩ ?_
    refine sL (fa41_0 rfl) rfl ?_
    refine sL (ld rfl Try.underlying3 rfl (HF71.box (mem_h) rfl)) rfl ?_
    refine sL (bGeq rfl rfl) rfl ?_
    refine sL (mv rfl) rfl ?_
    by_cases c141 : 3600 ≤ ((rd a0 s5.2).f_Head.f_Age)
    ·replace H := itT c141 H
     refine lSet (i := 24) rfl (dT c141) ?_
     refine sN rfl rfl rfl rfl ?_
     refine sN rfl rfl rfl rfl ?_
     refine sN rfl rfl rfl rfl ?_
     refine sL (pkT rfl rfl) rfl ?_
     refine sL (mv rfl) rfl ?_
     refine sN rfl rfl rfl rfl ?_
     refine sN rfl rfl rfl rfl ?_
     refine sN rfl rfl rfl rfl ?_
     refine sN rfl rfl rfl rfl ?_
     refine sL (pkT rfl rfl) rfl ?_
     refine lE ?_
     refine kN (?_)
     exact ofEnv (fun a hE => ⟨_, (Option.some.inj H).symm, ⟨hE.keep (Keep.cons rfl (Keep.cons rfl (Keep.cons rfl (Keep.cons rfl (Keep.cons rfl (Keep.cons rfl (Keep.cons rfl (Keep.nil)))))))), HF71⟩⟩)
    replace H := itF c141 H
    refine lSet (i := 24) rfl (dF c141) ?_
    refine sG rfl rfl (fa41_1 rfl) rfl ?_
    refine sG rfl rfl (ld rfl Try.underlying3 rfl (HF71.box (mem_h) rfl)) rfl ?_
    refine sG rfl rfl (bNeq rfl rfl) rfl ?_
    refine sL (pkF rfl rfl) rfl ?_
    refine sL (mv rfl) rfl ?_
    by_cases c142 : ((rd a0 s5.2).f_Head.f_Kind) = 6
    ·replace H := itT c142 H
     refine lSet (i := 29) rfl (nF c142) ?_
     refine sG rfl rfl (fa41_2 rfl) rfl ?_
     refine sG rfl rfl (ld rfl Try.underlying3 rfl (HF71.box (mem_h) rfl)) rfl ?_
     refine sG rfl rfl (mv rfl) rfl ?_
     refine sG rfl rfl (bNeq rfl rfl) rfl ?_
     refine sL (pkF rfl rfl) rfl ?_
     refine lE ?_
     refine kN (?_)
     exact ofEnv (fun a hE => ⟨_, (Option.some.inj H).symm, ⟨hE.keep (Keep.cons rfl (Keep.cons rfl (Keep.cons rfl (Keep.cons rfl (Keep.cons rfl (Keep.cons rfl (Keep.cons rfl (Keep.nil)))))))), HF71⟩⟩)
    replace H := itF c142 H
    refine lSet (i := 29) rfl (nT c142) ?_
    refine sN rfl rfl rfl rfl ?_
    refine sN rfl rfl rfl rfl ?_
    refine sN rfl rfl rfl rfl ?_
    refine sN rfl rfl rfl rfl ?_
    refine sL (pkT rfl rfl) rfl ?_
    refine lE ?_
    refine kN (?_)
    exact ofEnv (fun a hE => ⟨_, (Option.some.inj H).symm, ⟨hE.keep (Keep.cons rfl (Keep.cons rfl (Keep.cons rfl (Keep.cons rfl (Keep.cons rfl (Keep.cons rfl (Keep.cons rfl (Keep.nil)))))))), HF71⟩⟩)
   rintro s6 a w56 rfl ⟨hE, HF72⟩
   replace H := Ho6
   refine go_k hE ?_
   refine kN (?_)
   refine hK54 _ _ ?_
   by_cases c143 : s6 = true
   ·replace H := itT c143 H
    refine cSet (i := 34) rfl (vT c143) ?_
    refine cT rfl ?_
    refine cExit ?_
    refine kX (jX (kN (?_)))
    refine hK51 _ _ ?_
    refine cRgn [] trivial ?_
    refine sL (mv rfl) rfl ?_
    refine sL (bAdd rfl rfl) rfl ?_
    refine sL (asg rfl) rfl ?_
    refine lE ?_
    refine kN (?_)
    have HF73 := HF72.sublist (sl_dc (sl_a sR))
    exact ofEnv (fun a hE => ⟨_, (Option.some.inj H).symm, ⟨_, _, L24, hE.keep (Keep.cons rfl (Keep.cons rfl (Keep.cons rfl (Keep.cons rfl (Keep.cons rfl (Keep.nil)))))), HF73, ho24⟩⟩)
   replace H := itF c143 H
   refine cSet (i := 34) rfl (vF c143) ?_
   refine cF rfl ?_
   refine cSkip ?_
   refine kN (?_)
   refine hK53 _ _ ?_
   refine cSeq (fun K55 hK55 => ?_)
   refine cRgn [] trivial ?_
   refine sL (asg rfl) rfl ?_
   refine lE ?_
   refine kN (?_)
   refine hK55 _ _ ?_
   replace H := bnd H; obtain ⟨y10, J48, Ho7⟩ := H
   have HF112 := HF72.perm (perm_c pR)
   refine cLoopB (f_plenumref17_Members.b0 a0 s5) (fun (s7 : (List T_api_Vert) × Int) a w => ∃ (A89 : Option Addr) (c182 : Nat) (L32 : Hp), Env 80 [(0, .slice (some ⟨g17, o9, none⟩) a0.length c_a0), (1, .int .i64 a1), (4, .slice none 0 0), (5, .slice A89 s7.1.length c182), (6, .int .i64 s5.2), (7, .pointer (some ⟨g18, 0, none⟩)), (8, .int .i64 s7.2)] a ∧ Fits z w (L32 ++ (bk g18 41 [.int .i64 ((rd a0 s5.2).f_Head.f_Age), .int .i64 ((rd a0 s5.2).f_Head.f_Kind), .int .i64 ((rd a0 s5.2).f_Head.f_Id), .int .i64 ((rd a0 s5.2).f_Head.f_Adv), .int .i64 ((rd a0 s5.2).f_Head.f_Seq), .int .i64 ((rd a0 s5.2).f_Head.f_Sum), .int .i64 ((rd a0 s5.2).f_Head.f_Len)] :: F)) ∧ OwnS k_T_api_Vert L32 A89 c182 s7.1) J48 (fun a hE => ⟨_, _, L24, hE.keep (Keep.cons rfl (Keep.cons rfl (Keep.cons rfl (Keep.cons rfl (Keep.cons rfl (Keep.cons rfl (Keep.cons rfl (Keep.nil)))))))), HF112, ho24⟩) ?_ ?_
   ·rintro s7 a w71 y11 ⟨A89, c182, L32, hE, HF94, ho32⟩ H Hx4
    refine go_ hE ?_
    refine cSeq (fun K66 hK66 => ?_)
    refine cSeq (fun K67 hK67 => ?_)
    refine cRgn [] trivial ?_
    refine sL (mv rfl) rfl ?_
    refine sL (mv rfl) rfl ?_
    refine sL (mv rfl) rfl ?_
    replace H := chk H; obtain ⟨c183, H⟩ := H
    replace H := chk H; obtain ⟨c184, H⟩ := H
    obtain ⟨e48, hk20, q28⟩ := RdS.at' hr_a0 c183 c184
    obtain ⟨A90, c185, A91, c186, A92, c187, rfl, hr58, hr59, hr60⟩ := rd_T_api_Lsa hk20
    refine sL (ia rfl rfl Try.underlying24 ti44 c183 c184) rfl ?_
    refine sL (fa44_5 rfl) rfl ?_
    refine sL (ld rfl Try.underlying26 rfl (HF94.cells ((sub_a (sub_c hX_a0))) (q28 11 _ rfl))) rfl ?_
    refine sL (lnS rfl Try.underlying26) rfl ?_
    refine sL (bLss rfl rfl) rfl ?_
    refine lE ?_
    refine kN (?_)
    refine hK67 _ _ ?_
    by_cases c188 : s7.2 < (((rd a0 s5.2).f_Verts).length : Int)
    ·replace H := itT c188 H
     refine cSet (i := 42) rfl (dT c188) ?_
     refine cT rfl ?_
     refine cSkip ?_
     refine kN (?_)
     refine hK66 _ _ ?_
     refine cSeq (fun K68 hK68 => ?_)
     refine cBlock ?_
     refine cSeq (fun K69 hK69 => ?_)
     refine cRgn [] trivial ?_
     refine sL (mv rfl) rfl ?_
     refine sL (mv rfl) rfl ?_
     obtain ⟨e50, hk21, q29⟩ := RdS.at' hr_a0 c183 c184
     obtain ⟨A93, c189, A94, c190, A95, c191, rfl, hr61, hr62, hr63⟩ := rd_T_api_Lsa hk21
     refine sL (ia rfl rfl Try.underlying24 ti44 c183 c184) rfl ?_
     refine sL (fa44_5 rfl) rfl ?_
     refine sL (ld rfl Try.underlying26 rfl (HF94.cells ((sub_a (sub_c hX_a0))) (q29 11 _ rfl))) rfl ?_
     refine sL (mv rfl) rfl ?_
     replace H := chk H; obtain ⟨c192, H⟩ := H
     obtain ⟨g23, o12, _, rfl, rfl, q30⟩ := RdS.at_ hr63 c192 c188
     refine sL (ia rfl rfl Try.underlying26 ti35 c192 c188) rfl ?_
     refine sL (ldA rfl ti35 rfl rfl (fun j v hj => HF94.cells ((sub_a (sub_c hG))) (q30 j v hj))) rfl ?_
     refine eW (oAlloc HF94 ti35) rfl ?_
     rintro _ w72 ⟨g24, rfl, HF95⟩
     refine eS (oSt (l1 := [.int .i64 ((rd ((rd a0 s5.2).f_Verts) s7.2).f_Kind), .int .i64 ((rd ((rd a0 s5.2).f_Verts) s7.2).f_Id)]) HF95 rfl rfl ti35 rfl (ones rfl) (Nat.le_of_ble_eq_true rfl) rfl) ?_
     rintro w73 HF96
     refine lE ?_
     refine kN (?_)
     refine hK69 _ _ ?_
     refine cSeq (fun K70 hK70 => ?_)
     refine cRgn [(3, 56), (10, 63), (14, 67)] ⟨rfl, rfl, rfl, trivial⟩ ?_
     refine sL (fa35_0 rfl) rfl ?_
     refine sL (ld rfl Try.underlying3 rfl (HF96.box (mem_h) rfl)) rfl ?_
     refine sL (bEql rfl rfl) rfl ?_
     refine sL (mv rfl) rfl ?_
     by_cases c193 : ((rd ((rd a0 s5.2).f_Verts) s7.2).f_Kind) = 1
     ·replace H := itT c193 H
      refine lSet (i := 56) rfl (dT c193) ?_
      refine sG rfl rfl (fa35_1 rfl) rfl ?_
      refine sG rfl rfl (ld rfl Try.underlying3 rfl (HF96.box (mem_h) rfl)) rfl ?_
      refine sG rfl rfl (fa41_3 rfl) rfl ?_
      refine sG rfl rfl (ld rfl Try.underlying3 rfl (HF96.box (mem_c (mem_a mem_h)) rfl)) rfl ?_
      refine sG rfl rfl (bEql rfl rfl) rfl ?_
      refine sL (pkT rfl rfl) rfl ?_
      refine sL (mv rfl) rfl ?_
      by_cases c194 : ((rd ((rd a0 s5.2).f_Verts) s7.2).f_Id) = ((rd a0 s5.2).f_Head.f_Adv)
      ·replace H := itT c194 H
       refine lSet (i := 63) rfl (dT c194) ?_
       refine sN rfl rfl rfl rfl ?_
       refine sN rfl rfl rfl rfl ?_
       refine sN rfl rfl rfl rfl ?_
       refine sN rfl rfl rfl rfl ?_
       refine sU rfl rfl rfl rfl ?_
       refine sU rfl rfl rfl rfl ?_
       refine sU rfl rfl rfl rfl ?_
       refine sU rfl rfl rfl rfl ?_
       refine sU rfl rfl rfl rfl ?_
       refine sU rfl rfl rfl rfl ?_
       refine sN rfl rfl rfl rfl ?_
       refine sL (pkT rfl rfl) rfl ?_
       refine lE ?_
       refine kN (?_)
       refine hK70 _ _ ?_
       refine cT rfl ?_
       refine cRgn [] trivial ?_
       refine sL (mv rfl) rfl ?_
       refine sL (ldA (cs := [.int .i64 ((rd ((rd a0 s5.2).f_Verts) s7.2).f_Kind), .int .i64 ((rd ((rd a0 s5.2).f_Verts) s7.2).f_Id)]) rfl ti35 rfl rfl (HF96.boxes (o := 0) (n := 2) (mem_h) rfl)) rfl ?_
       have HF97 := HF96.perm (perm_c pR)
       replace H := bnd H; obtain ⟨t41, J43, H⟩ := H
       refine eCall isf44 rfl rfl rfl (f_plenumref8_Vert.ok (a0 := s7.1) (a1 := (rd ((rd a0 s5.2).f_Verts) s7.2)) (sub_c (sub_c hG)) J43 HF97 ho32) ?_
       rintro _ w74 ⟨A96, c195, L33, rfl, HF98, ho33⟩
       refine ⟨_, rfl, ?_⟩
       refine sL (asg rfl) rfl ?_
       refine lE ?_
       refine jN (kN (?_))
       refine hK68 _ _ ?_
       refine cRgn [] trivial ?_
       refine sL (mv rfl) rfl ?_
       refine sL (bAdd rfl rfl) rfl ?_
       refine sL (asg rfl) rfl ?_
       refine lE ?_
       refine kN (?_)
       have HF99 := HF98.sublist (sl_a (sl_dc (sl_c sR)))
       exact ofEnv (fun a hE => ⟨_, (Option.some.inj H).symm, ⟨_, _, L33, hE.keep (Keep.cons rfl (Keep.cons rfl (Keep.cons rfl (Keep.cons rfl (Keep.cons rfl (Keep.cons rfl (Keep.cons rfl (Keep.nil)))))))), HF99, ho33⟩⟩)
      replace H := itF c194 H
      refine lSet (i := 63) rfl (dF c194) ?_
      refine sG rfl rfl (fa35_0 rfl) rfl ?_
      refine sG rfl rfl (ld rfl Try.underlying3 rfl (HF96.box (mem_h) rfl)) rfl ?_
      refine sG rfl rfl (bEql rfl rfl) rfl ?_
      refine sG rfl rfl (mv rfl) rfl ?_
      by_cases c196 : ((rd ((rd a0 s5.2).f_Verts) s7.2).f_Kind) = 2
      ·replace H := itT c196 H
       refine lSet (i := 67) rfl (dT c196) ?_
       refine sG rfl rfl (mv rfl) rfl ?_
       refine sG rfl rfl (fa35_1 rfl) rfl ?_
       refine sG rfl rfl (ld rfl Try.underlying3 rfl (HF96.box (mem_h) rfl)) rfl ?_
       refine sG rfl rfl (fa41_3 rfl) rfl ?_
       refine sG rfl rfl (ld rfl Try.underlying3 rfl (HF96.box (mem_c (mem_a mem_h)) rfl)) rfl ?_
       replace H := bnd H; obtain ⟨t42, J44, H⟩ := H
       refine eCallG rfl rfl isf43 rfl rfl rfl (f_plenumref17_network.ok (a0 := a0) (sub_c (sub_a (sub_c hG))) J44 HF96 (sub_c (sub_a (sub_c hX_a0))) hr_a0) ?_
       rintro _ w75 ⟨rfl, HF100⟩
       refine ⟨_, rfl, ?_⟩
       refine sG rfl rfl (pkT rfl rfl) rfl ?_
       refine sL (pkF rfl rfl) rfl ?_
       refine lE ?_
       refine kN (?_)
       refine hK70 _ _ ?_
       by_cases c197 : t42 = true
       ·replace H := itT c197 H
        refine cSet (i := 75) rfl (vT c197) ?_
        refine cT rfl ?_
        refine cRgn [] trivial ?_
        refine sL (mv rfl) rfl ?_
        refine sL (ldA (cs := [.int .i64 ((rd ((rd a0 s5.2).f_Verts) s7.2).f_Kind), .int .i64 ((rd ((rd a0 s5.2).f_Verts) s7.2).f_Id)]) rfl ti35 rfl rfl (HF100.boxes (o := 0) (n := 2) (mem_h) rfl)) rfl ?_
        have HF101 := HF100.perm (perm_c pR)
        replace H := bnd H; obtain ⟨t43, J45, H⟩ := H
        refine eCall isf44 rfl rfl rfl (f_plenumref8_Vert.ok (a0 := s7.1) (a1 := (rd ((rd a0 s5.2).f_Verts) s7.2)) (sub_c (sub_c hG)) J45 HF101 ho32) ?_
        rintro _ w76 ⟨A97, c198, L34, rfl, HF102, ho34⟩
        refine ⟨_, rfl, ?_⟩
        refine sL (asg rfl) rfl ?_
        refine lE ?_
        refine jN (kN (?_))
        refine hK68 _ _ ?_
        refine cRgn [] trivial ?_
        refine sL (mv rfl) rfl ?_
        refine sL (bAdd rfl rfl) rfl ?_
        refine sL (asg rfl) rfl ?_
        refine lE ?_
        refine kN (?_)
        have HF103 := HF102.sublist (sl_a (sl_dc (sl_c sR)))
        exact ofEnv (fun a hE => ⟨_, (Option.some.inj H).symm, ⟨_, _, L34, hE.keep (Keep.cons rfl (Keep.cons rfl (Keep.cons rfl (Keep.cons rfl (Keep.cons rfl (Keep.cons rfl (Keep.cons rfl (Keep.nil)))))))), HF103, ho34⟩⟩)
       replace H := itF c197 H
       refine cSet (i := 75) rfl (vF c197) ?_
       refine cF rfl ?_
       refine cSkip ?_
       refine jN (kN (?_))
       refine hK68 _ _ ?_
       refine cRgn [] trivial ?_
       refine sL (mv rfl) rfl ?_
       refine sL (bAdd rfl rfl) rfl ?_
       refine sL (asg rfl) rfl ?_
       refine lE ?_
       refine kN (?_)
       have HF104 := HF100.sublist (sl_dc (sl_a (sl_c sR)))
       exact ofEnv (fun a hE => ⟨_, (Option.some.inj H).symm, ⟨_, _, L32, hE.keep (Keep.cons rfl (Keep.cons rfl (Keep.cons rfl (Keep.cons rfl (Keep.cons rfl (Keep.cons rfl (Keep.cons rfl (Keep.nil)))))))), HF104, ho32⟩⟩)
      replace H := itF c196 H
      refine lSet (i := 67) rfl (dF c196) ?_
      refine sN rfl rfl rfl rfl ?_
      refine sN rfl rfl rfl rfl ?_
      refine sN rfl rfl rfl rfl ?_
      refine sN rfl rfl rfl rfl ?_
      refine sN rfl rfl rfl rfl ?_
      refine sN rfl rfl rfl rfl ?_
      refine sG rfl rfl (pkF rfl rfl) rfl ?_
      refine sL (pkF rfl rfl) rfl ?_
      refine lE ?_
      refine kN (?_)
      refine hK70 _ _ ?_
      refine cF rfl ?_
      refine cSkip ?_
      refine jN (kN (?_))
      refine hK68 _ _ ?_
      refine cRgn [] trivial ?_
      refine sL (mv rfl) rfl ?_
      refine sL (bAdd rfl rfl) rfl ?_
      refine sL (asg rfl) rfl ?_
      refine lE ?_
      refine kN (?_)
      have HF105 := HF96.sublist (sl_dc (sl_a (sl_c sR)))
      exact ofEnv (fun a hE => ⟨_, (Option.some.inj H).symm, ⟨_, _, L32, hE.keep (Keep.cons rfl (Keep.cons rfl (Keep.cons rfl (Keep.cons rfl (Keep.cons rfl (Keep.cons rfl (Keep.cons rfl (Keep.nil)))))))), HF105, ho32⟩⟩)
     replace H := itF c193 H
     refine lSet (i := 56) rfl (dF c193) ?_
     refine sN rfl rfl rfl rfl ?_
     refine sN rfl rfl rfl rfl ?_
     refine sN rfl rfl rfl rfl ?_
     refine sN rfl rfl rfl rfl ?_
     refine sN rfl rfl rfl rfl ?_
     refine sL (pkF rfl rfl) rfl ?_
     refine sL (mv rfl) rfl ?_
     refine sG rfl rfl (fa35_0 rfl) rfl ?_
     refine sG rfl rfl (ld rfl Try.underlying3 rfl (HF96.box (mem_h) rfl)) rfl ?_
     refine sG rfl rfl (bEql rfl rfl) rfl ?_
     refine sG rfl rfl (mv rfl) rfl ?_
     by_cases c199 : ((rd ((rd a0 s5.2).f_Verts) s7.2).f_Kind) = 2
     ·replace H := itT c199 H
      refine lSet (i := 67) rfl (dT c199) ?_
      refine sG rfl rfl (mv rfl) rfl ?_
      refine sG rfl rfl (fa35_1 rfl) rfl ?_
      refine sG rfl rfl (ld rfl Try.underlying3 rfl (HF96.box (mem_h) rfl)) rfl ?_
      refine sG rfl rfl (fa41_3 rfl) rfl ?_
      refine sG rfl rfl (ld rfl Try.underlying3 rfl (HF96.box (mem_c (mem_a mem_h)) rfl)) rfl ?_
      replace H := bnd H; obtain ⟨t44, J46, H⟩ := H
      refine eCallG rfl rfl isf43 rfl rfl rfl (f_plenumref17_network.ok (a0 := a0) (sub_c (sub_a (sub_c hG))) J46 HF96 (sub_c (sub_a (sub_c hX_a0))) hr_a0) ?_
      rintro _ w77 ⟨rfl, HF106⟩
      refine ⟨_, rfl, ?_⟩
      refine sG rfl rfl (pkT rfl rfl) rfl ?_
      refine sL (pkF rfl rfl) rfl ?_
      refine lE ?_
      refine kN (?_)
      refine hK70 _ _ ?_
      by_cases c200 : t44 = true
      ·replace H := itT c200 H
       refine cSet (i := 75) rfl (vT c200) ?_
       refine cT rfl ?_
       refine cRgn [] trivial ?_
       refine sL (mv rfl) rfl ?_
       refine sL (ldA (cs := [.int .i64 ((rd ((rd a0 s5.2).f_Verts) s7.2).f_Kind), .int .i64 ((rd ((rd a0 s5.2).f_Verts) s7.2).f_Id)]) rfl ti35 rfl rfl (HF106.boxes (o := 0) (n := 2) (mem_h) rfl)) rfl ?_
       have HF107 := HF106.perm (perm_c pR)
       replace H := bnd H; obtain ⟨t45, J47, H⟩ := H
       refine eCall isf44 rfl rfl rfl (f_plenumref8_Vert.ok (a0 := s7.1) (a1 := (rd ((rd a0 s5.2).f_Verts) s7.2)) (sub_c (sub_c hG)) J47 HF107 ho32) ?_
       rintro _ w78 ⟨A98, c201, L35, rfl, HF108, ho35⟩
       refine ⟨_, rfl, ?_⟩
       refine sL (asg rfl) rfl ?_
       refine lE ?_
       refine jN (kN (?_))
       refine hK68 _ _ ?_
       refine cRgn [] trivial ?_
       refine sL (mv rfl) rfl ?_
       refine sL (bAdd rfl rfl) rfl ?_
       refine sL (asg rfl) rfl ?_
       refine lE ?_
       refine kN (?_)
       have HF109 := HF108.sublist (sl_a (sl_dc (sl_c sR)))
       exact ofEnv (fun a hE => ⟨_, (Option.some.inj H).symm, ⟨_, _, L35, hE.keep (Keep.cons rfl (Keep.cons rfl (Keep.cons rfl (Keep.cons rfl (Keep.cons rfl (Keep.cons rfl (Keep.cons rfl (Keep.nil)))))))), HF109, ho35⟩⟩)
      replace H := itF c200 H
      refine cSet (i := 75) rfl (vF c200) ?_
      refine cF rfl ?_
      refine cSkip ?_
      refine jN (kN (?_))
      refine hK68 _ _ ?_
      refine cRgn [] trivial ?_
      refine sL (mv rfl) rfl ?_
      refine sL (bAdd rfl rfl) rfl ?_
      refine sL (asg rfl) rfl ?_
      refine lE ?_
      refine kN (?_)
      have HF110 := HF106.sublist (sl_dc (sl_a (sl_c sR)))
      exact ofEnv (fun a hE => ⟨_, (Option.some.inj H).symm, ⟨_, _, L32, hE.keep (Keep.cons rfl (Keep.cons rfl (Keep.cons rfl (Keep.cons rfl (Keep.cons rfl (Keep.cons rfl (Keep.cons rfl (Keep.nil)))))))), HF110, ho32⟩⟩)
     replace H := itF c199 H
     refine lSet (i := 67) rfl (dF c199) ?_
     refine sN rfl rfl rfl rfl ?_
     refine sN rfl rfl rfl rfl ?_
     refine sN rfl rfl rfl rfl ?_
     refine sN rfl rfl rfl rfl ?_
     refine sN rfl rfl rfl rfl ?_
     refine sN rfl rfl rfl rfl ?_
     refine sG rfl rfl (pkF rfl rfl) rfl ?_
     refine sL (pkF rfl rfl) rfl ?_
     refine lE ?_
     refine kN (?_)
     refine hK70 _ _ ?_
     refine cF rfl ?_
     refine cSkip ?_
     refine jN (kN (?_))
     refine hK68 _ _ ?_
     refine cRgn [] trivial ?_
     refine sL (mv rfl) rfl ?_
     refine sL (bAdd rfl rfl) rfl ?_
     refine sL (asg rfl) rfl ?_
     refine lE ?_
     refine kN (?_)
     have HF111 := HF96.sublist (sl_dc (sl_a (sl_c sR)))
     exact ofEnv (fun a hE => ⟨_, (Option.some.inj H).symm, ⟨_, _, L32, hE.keep (Keep.cons rfl (Keep.cons rfl (Keep.cons rfl (Keep.cons rfl (Keep.cons rfl (Keep.cons rfl (Keep.cons rfl (Keep.nil)))))))), HF111, ho32⟩⟩)
    replace H := itF c188 H
    refine cSet (i := 42) rfl (dF c188) ?_
    refine cF rfl ?_
    refine cExit ?_
    refine kX (kX (jX (kN (?_))))
    exact ofEnv (fun a hE => ⟨_, (Option.some.inj H).symm, ⟨_, _, L32, hE.keep (Keep.cons rfl (Keep.cons rfl (Keep.cons rfl (Keep.cons rfl (Keep.cons rfl (Keep.cons rfl (Keep.cons rfl (Keep.nil)))))))), HF94, ho32⟩⟩)
   rintro s7 a w79 rfl ⟨A89, c182, L32, hE, HF113, ho32⟩
   replace H := Ho7
   refine go_k hE ?_
   refine jN (kN (?_))
   refine hK51 _ _ ?_
   refine cRgn [] trivial ?_
   refine sL (mv rfl) rfl ?_
   refine sL (bAdd rfl rfl) rfl ?_
   refine sL (asg rfl) rfl ?_
   refine lE ?_
   refine kN (?_)
   have HF114 := HF113.sublist (sl_a (sl_dc sR))
   exact ofEnv (fun a hE => ⟨_, (Option.some.inj H).symm, ⟨_, _, L32, hE.keep (Keep.cons rfl (Keep.cons rfl (Keep.cons rfl (Keep.cons rfl (Keep.cons rfl (Keep.nil)))))), HF114, ho32⟩⟩)
  replace H := itF c134 H
  refine cSet (i := 13) rfl (dF c134) ?_
  refine cF rfl ?_
  refine cExit ?_
  refine kX (kX (jX (kN (?_))))
  exact ofEnv (fun a hE => ⟨_, (Option.some.inj H).symm, ⟨_, _, L24, hE.keep (Keep.cons rfl (Keep.cons rfl (Keep.cons rfl (Keep.cons rfl (Keep.cons rfl (Keep.nil)))))), HF69, ho24⟩⟩)
 rintro s5 a w80 rfl ⟨A66, c133, L24, hE, HF115, ho24⟩
 replace H := Ho5
 refine go_k hE ?_
 refine kN (?_)
 refine hK3 _ _ ?_
 refine cSeq (fun K71 hK71 => ?_)
 refine cRgn [] trivial ?_
 refine sL (mv rfl) rfl ?_
 refine sL (asg rfl) rfl ?_
 refine lE ?_
 refine kN (?_)
 refine hK71 _ _ ?_
 refine cRet ?_
 obtain rfl := Option.some.inj H
 refine ret1 rfl rfl ?_
 exact ⟨_, _, L24, rfl, HF115, ho24⟩
/-! ### plenum/plenumlaw17.awake (function 10) -/
abbrev f_plenumlaw17_awake.R := Bool
noncomputable def f_plenumlaw17_awake : Option f_plenumlaw17_awake.R := ((f_topo_Map []).bind fun t1 => ((f_topo_Map ([(⟨(⟨0, 1, 3, 3, 0, 0, 0⟩ : T_api_Head), 0, [], 0, [], []⟩ : T_api_Lsa)])).bind fun t2 => (if (t1.f_Verts.length : Int) = 0 then (if (t2.f_Verts.length : Int) = 1 then (if 0 < (t2.f_Verts.length : Int) then some (decide ((rd t2.f_Verts 0) = (⟨1, 3⟩ : T_api_Vert))) else none) else some false) else some false)))
set_option maxHeartbeats 1000000 in
theorem f_plenumlaw17_awake.ok {z w : World} {F G : Hp} (hG : G ⊆ F) {r : f_plenumlaw17_awake.R} (H : f_plenumlaw17_awake = some r) (HF : Fits z w F) :
  Calls Try.prog 10 [].toArray w fun e w' => e = .returned (.bool r) ∧ Fits z w' F := by
 unfold f_plenumlaw17_awake at H
 refine enter0 Try.func10 rfl Try.ntmps10 rfl (E := []) rfl ?_
 refine cSeq (fun K1 hK1 => ?_)
 refine cRgn [] trivial ?_
 refine sL (asg rfl) rfl ?_
 refine lE ?_
 refine kN (?_)
 refine hK1 _ _ ?_
 refine cSeq (fun K2 hK2 => ?_)
 refine cRgn [] trivial ?_
 replace H := bnd H; obtain ⟨t1, J1, H⟩ := H
 refine eCall isf9 rfl rfl rfl (f_topo_Map.ok (a0 := []) hG J1 HF hG RdS.nil) ?_
 rintro _ w1 ⟨N1, A1, c1, A2, c2, A3, c3, A4, c4, A5, c5, rfl, HF1, hr1, hr2, hr3, hr4, hr5⟩
 have hs1 : G ⊆ N1 ++ G := sub_a sub_r
 refine ⟨_, rfl, ?_⟩
 refine eW (oAlloc HF1 ti32) rfl ?_
 rintro _ w2 ⟨g1, rfl, HF2⟩
 refine eS (oSt (l1 := [.slice A1 t1.f_Verts.length c1, .slice A2 t1.f_Edges.length c2, .slice A3 t1.f_Stubs.length c3, .slice A4 t1.f_Spans.length c4, .slice A5 t1.f_Wilds.length c5]) HF2 rfl rfl ti32 rfl (ones rfl) (Nat.le_of_ble_eq_true rfl) rfl) ?_
 rintro w3 HF3
 refine lE ?_
 refine kN (?_)
 refine hK2 _ _ ?_
 refine cSeq (fun K3 hK3 => ?_)
 refine cRgn [] trivial ?_
 refine sL (bd (r := [.int .i64 0, .int .i64 1, .int .i64 3, .int .i64 3, .int .i64 0, .int .i64 0, .int .i64 0]) pl41 ti41 rfl rfl) rfl ?_
 refine sL (bd (r := [.int .i64 0, .int .i64 1, .int .i64 3, .int .i64 3, .int .i64 0, .int .i64 0, .int .i64 0, .int .i64 0, .slice none 0 0, .int .i64 0, .slice none 0 0, .slice none 0 0]) pl44 ti44 rfl rfl) rfl ?_
 refine eW (oLit (r := [.int .i64 0, .int .i64 1, .int .i64 3, .int .i64 3, .int .i64 0, .int .i64 0, .int .i64 0, .int .i64 0, .slice none 0 0, .int .i64 0, .slice none 0 0, .slice none 0 0]) (kShr (N1 ++ G) k_T_api_Lsa) [(⟨(⟨0, 1, 3, 3, 0, 0, 0⟩ : T_api_Head), 0, [], 0, [], []⟩ : T_api_Lsa)] HF3 Try.underlying24 ti44 rfl rfl rfl rfl ⟨[], [], [.int .i64 0, .int .i64 1, .int .i64 3, .int .i64 3, .int .i64 0, .int .i64 0, .int .i64 0, .int .i64 0, .slice none 0 0, .int .i64 0, .slice none 0 0, .slice none 0 0], _, rfl, rfl, ⟨rfl, mk_T_api_Lsa (x := (⟨(⟨0, 1, 3, 3, 0, 0, 0⟩ : T_api_Head), 0, [], 0, [], []⟩ : T_api_Lsa)) (RdS.nil) (RdS.nil) (RdS.nil)⟩, ⟨rfl, rfl⟩⟩ rfl rfl) rfl ?_
 rintro _ w4 ⟨L1, A6, c6, rfl, HF4, ho1⟩
 replace H := bnd H; obtain ⟨t2, J2, H⟩ := H
 refine eCall isf9 rfl rfl rfl (f_topo_Map.ok (a0 := [(⟨(⟨0, 1, 3, 3, 0, 0, 0⟩ : T_api_Head), 0, [], 0, [], []⟩ : T_api_Lsa)]) (sub_a (sub_c (sub_n hG))) J2 HF4 sub_h ho1.rd) ?_
 rintro _ w5 ⟨N2, A7, c7, A8, c8, A9, c9, A10, c10, A11, c11, rfl, HF5, hr6, hr7, hr8, hr9, hr10⟩
 have HF6 := HF5.perm (perm_f (perm_c pR)).symm
 obtain ⟨N3, hN1⟩ : ∃ N_, N_ = N2 ++ N1 := ⟨_, rfl⟩
 have HF7 := HF6; rw [← List.append_assoc N2 N1 F, ← hN1] at HF7
 have hs2 : N1 ++ G ⊆ N3 ++ G := frz_s hN1
 have hr11 := RdS.mono (Y := (N3 ++ G)) hr6 (frz_c hN1)
 have hr12 := RdS.mono (Y := (N3 ++ G)) hr7 (frz_c hN1)
 have hr13 := RdS.mono (Y := (N3 ++ G)) hr8 (frz_c hN1)
 have hr14 := RdS.mono (Y := (N3 ++ G)) hr9 (frz_c hN1)
 have hr15 := RdS.mono (Y := (N3 ++ G)) hr10 (frz_c hN1)
 refine ⟨_, rfl, ?_⟩
 refine eW (oAlloc HF7 ti32) rfl ?_
 rintro _ w6 ⟨g2, rfl, HF8⟩
 refine eS (oSt (l1 := [.slice A7 t2.f_Verts.length c7, .slice A8 t2.f_Edges.length c8, .slice A9 t2.f_Stubs.length c9, .slice A10 t2.f_Spans.length c10, .slice A11 t2.f_Wilds.length c11]) HF8 rfl rfl ti32 rfl (ones rfl) (Nat.le_of_ble_eq_true rfl) rfl) ?_
 rintro w7 HF9
 refine lE ?_
 refine kN (?_)
 refine hK3 _ _ ?_
 refine cSeq (fun K4 hK4 => ?_)
 refine cRgn [(4, 12), (10, 18)] ⟨rfl, rfl, trivial⟩ ?_
 refine sL (fa32_0 rfl) rfl ?_
 refine sL (ld rfl Try.underlying26 rfl (HF9.box (mem_c (mem_a mem_h)) rfl)) rfl ?_
 refine sL (lnS rfl Try.underlying26) rfl ?_
 refine sL (bEql rfl rfl) rfl ?_
 refine sL (mv rfl) rfl ?_
 by_cases c12 : (t1.f_Verts.length : Int) = 0
 ·replace H := itT c12 H
  refine lSet (i := 12) rfl (dT c12) ?_
  refine sG rfl rfl (fa32_0 rfl) rfl ?_
  refine sG rfl rfl (ld rfl Try.underlying26 rfl (HF9.box (mem_h) rfl)) rfl ?_
  refine sG rfl rfl (lnS rfl Try.underlying26) rfl ?_
  refine sG rfl rfl (bEql rfl rfl) rfl ?_
  refine sL (pkT rfl rfl) rfl ?_
  refine sL (mv rfl) rfl ?_
  by_cases c13 : (t2.f_Verts.length : Int) = 1
  ·replace H := itT c13 H
   refine lSet (i := 18) rfl (dT c13) ?_
   refine sG rfl rfl (fa32_0 rfl) rfl ?_
   refine sG rfl rfl (ld rfl Try.underlying26 rfl (HF9.box (mem_h) rfl)) rfl ?_
   replace H := chk H; obtain ⟨c14, H⟩ := H
   obtain ⟨g3, o1, _, rfl, rfl, q1⟩ := RdS.at_ hr11 (by decide) c14
   refine sG rfl rfl (ia rfl rfl Try.underlying26 ti35 (by decide) c14) rfl ?_
   refine sG rfl rfl (ldA rfl ti35 rfl rfl (fun j v hj => HF9.cells ((sub_c (sub_a (sub_c (sub_n hG))))) (q1 j v hj))) rfl ?_
   refine sG rfl rfl (bd (r := [.int .i64 1, .int .i64 3]) pl35 ti35 rfl rfl) rfl ?_
   refine sG rfl rfl (bAggEql (xs := [.int .i64 ((rd t2.f_Verts 0).f_Kind), .int .i64 ((rd t2.f_Verts 0).f_Id)]) (ys := [.int .i64 1, .int .i64 3]) (n := 2) rfl rfl eg35 (eqStruct Try.underlying35 sh35 (eqFcons (by decide) (pt1 Try.underlying3 rfl rfl) (pt1 Try.underlying3 rfl rfl) (eqInt Try.underlying3) (eqFcons (by decide) (pt1 Try.underlying3 rfl rfl) (pt1 Try.underlying3 rfl rfl) (eqInt Try.underlying3) eqFnil))) rfl (eq_T_api_Vert (rd t2.f_Verts 0) (⟨1, 3⟩ : T_api_Vert))) rfl ?_
   refine sL (pkT rfl rfl) rfl ?_
   refine sL (asg rfl) rfl ?_
   refine lE ?_
   refine kN (?_)
   refine hK4 _ _ ?_
   refine cRet ?_
   obtain rfl := Option.some.inj H
   refine ret1 rfl rfl ?_
   have HF10 := HF9.sublist (sl_dc (sl_da (sl_dc sR)))
   have HF11 := Fits.conv (L' := ((N2 ++ N1) ++ F)) HF10 (by rw [hN1] <;> rfl)
   have HF12 := HF11.sublist (sl_da sR)
   exact ⟨rfl, HF12⟩
  replace H := itF c13 H
  refine lSet (i := 18) rfl (dF c13) ?_
  refine sN rfl rfl rfl rfl ?_
  refine sN rfl rfl rfl rfl ?_
  refine sN rfl rfl rfl rfl ?_
  refine sN rfl rfl rfl rfl ?_
  refine sN rfl rfl rfl rfl ?_
  refine sN rfl rfl rfl rfl ?_
  refine sL (pkF rfl rfl) rfl ?_
  refine sL (asg rfl) rfl ?_
  refine lE ?_
  refine kN (?_)
  refine hK4 _ _ ?_
  refine cRet ?_
  obtain rfl := Option.some.inj H
  refine ret1 rfl rfl ?_
  have HF13 := HF9.sublist (sl_dc (sl_da (sl_dc sR)))
  have HF14 := Fits.conv (L' := ((N2 ++ N1) ++ F)) HF13 (by rw [hN1] <;> rfl)
  have HF15 := HF14.sublist (sl_da sR)
  exact ⟨rfl, HF15⟩
 replace H := itF c12 H
 refine lSet (i := 12) rfl (dF c12) ?_
 refine sN rfl rfl rfl rfl ?_
 refine sN rfl rfl rfl rfl ?_
 refine sN rfl rfl rfl rfl ?_
 refine sN rfl rfl rfl rfl ?_
 refine sL (pkF rfl rfl) rfl ?_
 refine sL (mv rfl) rfl ?_
 refine sN rfl rfl rfl rfl ?_
 refine sN rfl rfl rfl rfl ?_
 refine sN rfl rfl rfl rfl ?_
 refine sN rfl rfl rfl rfl ?_
 refine sN rfl rfl rfl rfl ?_
 refine sN rfl rfl rfl rfl ?_
 refine sL (pkF rfl rfl) rfl ?_
 refine sL (asg rfl) rfl ?_
 refine lE ?_
 refine kN (?_)
 refine hK4 _ _ ?_
 refine cRet ?_
 obtain rfl := Option.some.inj H
 refine ret1 rfl rfl ?_
 have HF16 := HF9.sublist (sl_dc (sl_da (sl_dc sR)))
 have HF17 := Fits.conv (L' := ((N2 ++ N1) ++ F)) HF16 (by rw [hN1] <;> rfl)
 have HF18 := HF17.sublist (sl_da sR)
 exact ⟨rfl, HF18⟩
/-! ### plenum/plenumlaw17.TopoMaps (function 5) -/
abbrev f_plenumlaw17_TopoMaps.R := Bool
noncomputable def f_plenumlaw17_TopoMaps (a0 : List T_api_Lsa) (a1 : Int) : Option f_plenumlaw17_TopoMaps.R := ((f_plenumlaw17_Right a0).bind fun t1 => (if t1 = true then ((f_topo_Map a0).bind fun t2 => ((f_plenumref17_Map a0).bind fun t3 => ((f_plenumref17_SameMap t2 t3).bind fun t4 => (if t4 = true then ((f_topo_Members a0 a1).bind fun t5 => ((f_plenumref17_Members a0 a1).bind fun t6 => ((f_plenumref1_Verts t5 t6).bind fun t7 => (if t7 = true then ((f_plenumlaw17_awake).bind fun t8 => some t8) else some false)))) else some false)))) else ((f_plenumlaw17_awake).bind fun t9 => some t9)))
set_option maxHeartbeats 1000000 in
theorem f_plenumlaw17_TopoMaps.ok {z w : World} {F G : Hp} (hG : G ⊆ F) {a0 : List T_api_Lsa} {A_a0 : Option Addr} {c_a0 : Nat} {X_a0 : Hp} {a1 : Int} {r : f_plenumlaw17_TopoMaps.R} (H : f_plenumlaw17_TopoMaps a0 a1 = some r) (HF : Fits z w F) (hX_a0 : X_a0 ⊆ F) (hr_a0 : RdS (kShr G k_T_api_Lsa) X_a0 A_a0 c_a0 a0) :
  Calls Try.prog 5 [.slice A_a0 a0.length c_a0, .int .i64 a1].toArray w fun e w' => e = .returned (.bool r) ∧ Fits z w' F := by
 unfold f_plenumlaw17_TopoMaps at H
 refine enter0 Try.func5 rfl Try.ntmps5 rfl (E := [(0, .slice A_a0 a0.length c_a0), (1, .int .i64 a1)]) rfl ?_
 refine cSeq (fun K1 hK1 => ?_)
 refine cRgn [] trivial ?_
 refine sL (asg rfl) rfl ?_
 refine lE ?_
 refine kN (?_)
 refine hK1 _ _ ?_
 refine cSeq (fun K2 hK2 => ?_)
 refine cSeq (fun K3 hK3 => ?_)
 refine cRgn [] trivial ?_
 refine sL (mv rfl) rfl ?_
 replace H := bnd H; obtain ⟨t1, J1, H⟩ := H
 refine eCall isf13 rfl rfl rfl (f_plenumlaw17_Right.ok (a0 := a0) hG J1 HF hX_a0 hr_a0) ?_
 rintro _ w1 ⟨rfl, HF1⟩
 refine ⟨_, rfl, ?_⟩
 refine sL (uNot rfl) rfl ?_
 refine lE ?_
 refine kN (?_)
 refine hK3 _ _ ?_
 by_cases c1 : t1 = true
 ·replace H := itT c1 H
  refine cSet (i := 7) rfl (wF c1) ?_
  refine cF rfl ?_
  refine cSkip ?_
  refine kN (?_)
  refine hK2 _ _ ?_
  refine cSeq (fun K4 hK4 => ?_)
  refine cRgn [(5, 14), (14, 23)] ⟨rfl, rfl, trivial⟩ ?_
  refine sL (mv rfl) rfl ?_
  replace H := bnd H; obtain ⟨t2, J2, H⟩ := H
  refine eCall isf9 rfl rfl rfl (f_topo_Map.ok (a0 := a0) hG J2 HF1 hX_a0 hr_a0) ?_
  rintro _ w2 ⟨N1, A1, c2, A2, c3, A3, c4, A4, c5, A5, c6, rfl, HF2, hr1, hr2, hr3, hr4, hr5⟩
  have hs1 : G ⊆ N1 ++ G := sub_a sub_r
  refine ⟨_, rfl, ?_⟩
  refine sL (mv rfl) rfl ?_
  replace H := bnd H; obtain ⟨t3, J3, H⟩ := H
  refine eCall isf15 rfl rfl rfl (f_plenumref17_Map.ok (a0 := a0) (sub_n hG) J3 HF2 (sub_a hX_a0) (RdS.lift hr_a0 hs1 sub_r)) ?_
  rintro _ w3 ⟨N2, A6, c7, A7, c8, A8, c9, A9, c10, A10, c11, rfl, HF3, hr6, hr7, hr8, hr9, hr10⟩
  obtain ⟨N3, hN1⟩ : ∃ N_, N_ = N2 ++ N1 := ⟨_, rfl⟩
  have HF4 := HF3; rw [← List.append_assoc N2 N1 F, ← hN1] at HF4
  have hs2 : N1 ++ G ⊆ N3 ++ G := frz_s hN1
  have hr11 := RdS.mono (Y := (N3 ++ G)) hr6 (frz_c hN1)
  have hr12 := RdS.mono (Y := (N3 ++ G)) hr7 (frz_c hN1)
  have hr13 := RdS.mono (Y := (N3 ++ G)) hr8 (frz_c hN1)
  have hr14 := RdS.mono (Y := (N3 ++ G)) hr9 (frz_c hN1)
  have hr15 := RdS.mono (Y := (N3 ++ G)) hr10 (frz_c hN1)
  refine ⟨_, rfl, ?_⟩
  replace H := bnd H; obtain ⟨t4, J4, H⟩ := H
  refine eCall isf14 rfl rfl rfl (f_plenumref17_SameMap.ok (a0 := t2) (a1 := t3) (sub_n hG) J4 HF4 (sub_t hs2 (sub_n hG)) hr1 (sub_t hs2 (sub_n hG)) hr2 (sub_t hs2 (sub_n hG)) hr3 (sub_t hs2 (sub_n hG)) hr4 (sub_t hs2 (sub_n hG)) hr5 (sub_n hG) hr11 (sub_n hG) hr12 (sub_n hG) hr13 (sub_n hG) hr14 (sub_n hG) hr15) ?_
  rintro _ w4 ⟨rfl, HF5⟩
  refine ⟨_, rfl, ?_⟩
  refine sL (mv rfl) rfl ?_
  by_cases c12 : t4 = true
  ·replace H := itT c12 H
   refine lSet (i := 14) rfl (vT c12) ?_
   refine sG rfl rfl (mv rfl) rfl ?_
   refine sG rfl rfl (mv rfl) rfl ?_
   replace H := bnd H; obtain ⟨t5, J5, H⟩ := H
   refine eCallG rfl rfl isf17 rfl rfl rfl (f_topo_Members.ok (a0 := a0) (sub_n hG) J5 HF5 (sub_a hX_a0) (RdS.lift hr_a0 (sub_t hs1 hs2) sub_r)) ?_
   rintro _ w5 ⟨A11, c13, L1, rfl, HF6, ho1⟩
   refine ⟨_, rfl, ?_⟩
   refine sG rfl rfl (mv rfl) rfl ?_
   refine sG rfl rfl (mv rfl) rfl ?_
   replace H := bnd H; obtain ⟨t6, J6, H⟩ := H
   refine eCallG rfl rfl isf18 rfl rfl rfl (f_plenumref17_Members.ok (a0 := a0) (sub_a (sub_n hG)) J6 HF6 (sub_a (sub_a hX_a0)) (RdS.lift hr_a0 (sub_t hs1 hs2) sub_r)) ?_
   rintro _ w6 ⟨A12, c14, L2, rfl, HF7, ho2⟩
   refine ⟨_, rfl, ?_⟩
   replace H := bnd H; obtain ⟨t7, J7, H⟩ := H
   refine eCallG rfl rfl isf16 rfl rfl rfl (f_plenumref1_Verts.ok (a0 := t5) (a1 := t6) (sub_a (sub_a (sub_n hG))) J7 HF7 (sub_a sub_h) ho1.rd sub_h ho2.rd) ?_
   rintro _ w7 ⟨rfl, HF8⟩
   refine ⟨_, rfl, ?_⟩
   refine sL (pkT rfl rfl) rfl ?_
   refine sL (mv rfl) rfl ?_
   by_cases c15 : t7 = true
   ·replace H := itT c15 H
    refine lSet (i := 23) rfl (vT c15) ?_
    replace H := bnd H; obtain ⟨t8, J8, H⟩ := H
    refine eCallG rfl rfl isf10 rfl rfl rfl (f_plenumlaw17_awake.ok (sub_a (sub_a (sub_n hG))) J8 HF8) ?_
    rintro _ w8 ⟨rfl, HF9⟩
    refine ⟨_, rfl, ?_⟩
    refine sL (pkT rfl rfl) rfl ?_
    refine sL (asg rfl) rfl ?_
    refine lE ?_
    refine kN (?_)
    refine hK4 _ _ ?_
    refine cRet ?_
    obtain rfl := Option.some.inj H
    refine ret1 rfl rfl ?_
    have HF10 := HF9.sublist (sl_da (sl_da sR))
    have HF11 := Fits.conv (L' := ((N2 ++ N1) ++ F)) HF10 (by rw [hN1] <;> rfl)
    have HF12 := HF11.sublist (sl_da sR)
    exact ⟨rfl, HF12⟩
   replace H := itF c15 H
   refine lSet (i := 23) rfl (vF c15) ?_
   refine sN rfl rfl rfl rfl ?_
   refine sL (pkF rfl rfl) rfl ?_
   refine sL (asg rfl) rfl ?_
   refine lE ?_
   refine kN (?_)
   refine hK4 _ _ ?_
   refine cRet ?_
   obtain rfl := Option.some.inj H
   refine ret1 rfl rfl ?_
   have HF13 := HF8.sublist (sl_da (sl_da sR))
   have HF14 := Fits.conv (L' := ((N2 ++ N1) ++ F)) HF13 (by rw [hN1] <;> rfl)
   have HF15 := HF14.sublist (sl_da sR)
   exact ⟨rfl, HF15⟩
  replace H := itF c12 H
  refine lSet (i := 14) rfl (vF c12) ?_
  refine sN rfl rfl rfl rfl ?_
  refine sN rfl rfl rfl rfl ?_
  refine sN rfl rfl rfl rfl ?_
  refine sN rfl rfl rfl rfl ?_
  refine sN rfl rfl rfl rfl ?_
  refine sN rfl rfl rfl rfl ?_
  refine sN rfl rfl rfl rfl ?_
  refine sL (pkF rfl rfl) rfl ?_
  refine sL (mv rfl) rfl ?_
  refine sN rfl rfl rfl rfl ?_
  refine sL (pkF rfl rfl) rfl ?_
  refine sL (asg rfl) rfl ?_
  refine lE ?_
  refine kN (?_)
  refine hK4 _ _ ?_
  refine cRet ?_
  obtain rfl := Option.some.inj H
  refine ret1 rfl rfl ?_
  have HF16 := Fits.conv (L' := ((N2 ++ N1) ++ F)) HF5 (by rw [hN1] <;> rfl)
  have HF17 := HF16.sublist (sl_da sR)
  exact ⟨rfl, HF17⟩
 replace H := itF c1 H
 refine cSet (i := 7) rfl (wT c1) ?_
 refine cT rfl ?_
 refine cSeq (fun K5 hK5 => ?_)
 refine cRgn [] trivial ?_
 replace H := bnd H; obtain ⟨t9, J9, H⟩ := H
 refine eCall isf10 rfl rfl rfl (f_plenumlaw17_awake.ok hG J9 HF1) ?_
 rintro _ w9 ⟨rfl, HF18⟩
 refine ⟨_, rfl, ?_⟩
 refine sL (asg rfl) rfl ?_
 refine lE ?_
 refine kN (?_)
 refine hK5 _ _ ?_
 refine cRet ?_
 obtain rfl := Option.some.inj H
 refine kR (?_)
 refine ret1 rfl rfl ?_
 exact ⟨rfl, HF18⟩
end Go.Proofs.Ytbjnbjgiidcfjaa
