/- The walk, part 2. Conditions: none beside each theorem's own. Written by gen.py out of the print of the loaded program. -/
import Derived.Test.YtbjnbjgiidcfjaaFSort
import Derived.KernelRfl
set_option linter.unusedVariables false
set_option linter.unusedSimpArgs false
namespace Go.Proofs.Ytbjnbjgiidcfjaa
open Go Go.Proofs.Ytbjnbjgiidcfjaa.Sp

/-! ### slices.Compact[[]plenum/api.Vert,plenum/api.Vert] (function 42) -/
abbrev f_slices_Compact_api_Vert_api_Vert.R := List T_api_Vert
noncomputable def f_slices_Compact_api_Vert_api_Vert.b0 (s3 : Int) (s4 : Int × Int × (List T_api_Vert)) : Option (Sum (Int × Int × (List T_api_Vert)) (Sum (Int × Int × (List T_api_Vert)) f_slices_Compact_api_Vert_api_Vert.R)) := (if s4.2.1 < ((cutL s4.2.2 s3 (s4.2.2.length : Int)).length : Int) then (if 0 ≤ s3 then (if s3 ≤ (s4.2.2.length : Int) then (if 0 ≤ s4.2.1 then (if 0 ≤ (IntKind.i64.wrap (s4.2.1 - 1)) then (if (IntKind.i64.wrap (s4.2.1 - 1)) < ((cutL s4.2.2 s3 (s4.2.2.length : Int)).length : Int) then (if (rd (cutL s4.2.2 s3 (s4.2.2.length : Int)) s4.2.1) = (rd (cutL s4.2.2 s3 (s4.2.2.length : Int)) (IntKind.i64.wrap (s4.2.1 - 1))) then some (.inl (s4.1, IntKind.i64.wrap (s4.2.1 + 1), s4.2.2)) else (if 0 ≤ s4.1 then (if s4.1 < (s4.2.2.length : Int) then some (.inl (IntKind.i64.wrap (s4.1 + 1), IntKind.i64.wrap (s4.2.1 + 1), setI s4.2.2 s4.1 (rd (cutL s4.2.2 s3 (s4.2.2.length : Int)) s4.2.1))) else none) else none)) else none) else none) else none) else none) else none) else some (.inr (.inl (s4.1, s4.2.1, s4.2.2))))
noncomputable def f_slices_Compact_api_Vert_api_Vert.b1 (a0 : List T_api_Vert) (s3 : Int) : Option (Sum (Int) (Sum (Int) f_slices_Compact_api_Vert_api_Vert.R)) := (if s3 < (a0.length : Int) then (if 0 ≤ s3 then (if 0 ≤ (IntKind.i64.wrap (s3 - 1)) then (if (IntKind.i64.wrap (s3 - 1)) < (a0.length : Int) then (if (rd a0 s3) = (rd a0 (IntKind.i64.wrap (s3 - 1))) then (if s3 ≤ (a0.length : Int) then ((loopO (f_slices_Compact_api_Vert_api_Vert.b0 s3) (s3, 1, a0)).bind fun y7 => match y7 with | .inl s4 => (if 0 ≤ s4.1 then (if s4.1 ≤ (s4.2.2.length : Int) then (if s4.1 ≤ ((clrL s4.2.2 s4.1 (⟨0, 0⟩ : T_api_Vert)).length : Int) then some (.inr (.inr (cutL (clrL s4.2.2 s4.1 (⟨0, 0⟩ : T_api_Vert)) (0 : Int) s4.1))) else none) else none) else none) | .inr r_ => some (.inr (.inr r_))) else none) else some (.inl (IntKind.i64.wrap (s3 + 1)))) else none) else none) else none) else some (.inr (.inl s3)))
noncomputable def f_slices_Compact_api_Vert_api_Vert (a0 : List T_api_Vert) : Option f_slices_Compact_api_Vert_api_Vert.R := (if (a0.length : Int) < 2 then some a0 else ((loopO (f_slices_Compact_api_Vert_api_Vert.b1 a0) 1).bind fun y5 => match y5 with | .inl s3 => some a0 | .inr r_ => some r_))
set_option maxHeartbeats 1000000 in
theorem f_slices_Compact_api_Vert_api_Vert.ok {z w : World} {F G : Hp} (hG : G ⊆ F) {a0 : List T_api_Vert} {A_a0 : Option Addr} {c_a0 : Nat} {L_a0 : Hp} {r : f_slices_Compact_api_Vert_api_Vert.R} (H : f_slices_Compact_api_Vert_api_Vert a0 = some r) (HF : Fits z w (L_a0 ++ F)) (ho_a0 : OwnS k_T_api_Vert L_a0 A_a0 c_a0 a0) :
    Calls Try.prog 42 [.slice A_a0 a0.length c_a0].toArray w fun e w' => ∃ (A0 : Option Addr) (c0 : Nat) (L0 : Hp), e = .returned (.slice A0 r.length c0) ∧ Fits z w' (L0 ++ F) ∧ OwnS k_T_api_Vert L0 A0 c0 r := by
  unfold f_slices_Compact_api_Vert_api_Vert at H
  refine enter0 Try.func42 rfl Try.ntmps42 rfl (E := [(0, .slice A_a0 a0.length c_a0)]) rfl ?_
  refine cSeq (fun K1 hK1 => ?_)
  refine cRgn [] trivial ?_
  refine sL (asg rfl) rfl ?_
  refine lEnd (K := fun _ _ => True) ?_
  refine kN (?_)
  refine hK1 _ _ ?_
  refine cSeq (fun K2 hK2 => ?_)
  refine cSeq (fun K3 hK3 => ?_)
  refine cRgn [] trivial ?_
  refine sL (mv rfl) rfl ?_
  refine sL (lnS rfl Try.underlying26) rfl ?_
  refine sL (bLss rfl rfl) rfl ?_
  refine lEnd (K := fun _ _ => True) ?_
  refine kN (?_)
  refine hK3 _ _ ?_
  by_cases c1 : (a0.length : Int) < 2
  · replace H := itT c1 H
    refine cSet (i := 8) rfl (dT c1) ?_
    refine cT rfl ?_
    refine cSeq (fun K4 hK4 => ?_)
    refine cRgn [] trivial ?_
    refine sL (mv rfl) rfl ?_
    refine sL (asg rfl) rfl ?_
    refine lEnd (K := fun _ _ => True) ?_
    refine kN (?_)
    refine hK4 _ _ ?_
    refine cRet ?_
    obtain rfl := Option.some.inj H
    refine kR (?_)
    refine ret1 rfl rfl ?_
    exact ⟨_, _, L_a0, rfl, HF, ho_a0⟩
  · replace H := itF c1 H
    refine cSet (i := 8) rfl (dF c1) ?_
    refine cF rfl ?_
    refine cSkip ?_
    refine kN (?_)
    refine hK2 _ _ ?_
    refine cSeq (fun K5 hK5 => ?_)
    refine cSeq (fun K6 hK6 => ?_)
    refine cRgn [] trivial ?_
    refine sL (asg rfl) rfl ?_
    refine lEnd (K := fun _ _ => True) ?_
    refine kN (?_)
    refine hK6 _ _ ?_
    replace H := bnd H; obtain ⟨y5, J4, Ho3⟩ := H
    refine cLoopB (f_slices_Compact_api_Vert_api_Vert.b1 a0) (fun (s3 : Int) a w => Env 61 [(0, .slice A_a0 a0.length c_a0), (2, .slice none 0 0), (3, .int .i64 s3)] a ∧ Fits z w (L_a0 ++ F)) J4 (fun a hE => ⟨hE.keep (Keep.cons rfl (Keep.cons rfl (Keep.cons rfl (Keep.nil)))), HF⟩) ?_ ?_
    · rintro s3 a w21 y6 ⟨hE, HF23⟩ H Hx3
      refine go_ hE ?_
      refine cSeq (fun K55 hK55 => ?_)
      refine cSeq (fun K56 hK56 => ?_)
      refine cRgn [] trivial ?_
      refine sL (mv rfl) rfl ?_
      refine sL (mv rfl) rfl ?_
      refine sL (lnS rfl Try.underlying26) rfl ?_
      refine sL (bLss rfl rfl) rfl ?_
      refine lEnd (K := fun _ _ => True) ?_
      refine kN (?_)
      refine hK56 _ _ ?_
      by_cases c96 : s3 < (a0.length : Int)
      · replace H := itT c96 H
        refine cSet (i := 13) rfl (dT c96) ?_
        refine cT rfl ?_
        refine cSkip ?_
        refine kN (?_)
        refine hK55 _ _ ?_
        refine cSeq (fun K57 hK57 => ?_)
        refine cBlock ?_
        refine cSeq (fun K58 hK58 => ?_)
        refine cDraw mo_ HF23 rfl (fun w => Fits z w (L_a0 ++ F)) (fun w22 HF24 => ?_)
        refine hTake 0 rfl (by kernel_rfl) (pThen (pBlock (pThen (pThen (pBlock (pThen (pThen pFn))))))) (fun w_ hS_ => mv rfl) HF24 rfl rfl ?_
        refine hTake 1 rfl (by kernel_rfl) (pThen (pBlock (pThen (pThen (pBlock (pThen (pThen pFn))))))) (fun w_ hS_ => mv rfl) HF24 rfl rfl ?_
        replace H := chk H; obtain ⟨c100, H⟩ := H
        obtain ⟨g36, o36, _, rfl, rfl, q47⟩ := RdS.at_ ho_a0.rd c100 c96
        refine hTake 2 rfl (by kernel_rfl) (pThen (pBlock (pThen (pThen (pBlock (pThen (pThen pFn))))))) (fun w_ hS_ => ia rfl rfl Try.underlying26 ti35 c100 c96) HF24 rfl rfl ?_
        refine hTake 3 rfl (by kernel_rfl) (pThen (pBlock (pThen (pThen (pBlock (pThen (pThen pFn))))))) (fun w_ hS_ => ldA rfl ti35 rfl rfl (fun j v hj => hS_.cells (sub_h) (q47 j v hj))) HF24 rfl rfl ?_
        refine hTake 4 rfl (by kernel_rfl) (pThen (pBlock (pThen (pThen (pBlock (pThen (pThen pFn))))))) (fun w_ hS_ => mv rfl) HF24 rfl rfl ?_
        refine hTake 5 rfl (by kernel_rfl) (pThen (pBlock (pThen (pThen (pBlock (pThen (pThen pFn))))))) (fun w_ hS_ => mv rfl) HF24 rfl rfl ?_
        refine hTake 6 rfl (by kernel_rfl) (pThen (pBlock (pThen (pThen (pBlock (pThen (pThen pFn))))))) (fun w_ hS_ => bSub rfl rfl) HF24 rfl rfl ?_
        replace H := chk H; obtain ⟨c101, H⟩ := H
        replace H := chk H; obtain ⟨c102, H⟩ := H
        obtain ⟨_, rfl, q48⟩ := RdS.at' ho_a0.rd c101 c102
        refine hTake 7 rfl (by kernel_rfl) (pThen (pBlock (pThen (pThen (pBlock (pThen (pThen pFn))))))) (fun w_ hS_ => ia rfl rfl Try.underlying26 ti35 c101 c102) HF24 rfl rfl ?_
        refine hTake 8 rfl (by kernel_rfl) (pThen (pBlock (pThen (pThen (pBlock (pThen (pThen pFn))))))) (fun w_ hS_ => ldA rfl ti35 rfl rfl (fun j v hj => hS_.cells (sub_h) (q48 j v hj))) HF24 rfl rfl ?_
        refine hTake 9 rfl (by kernel_rfl) (pThen (pBlock (pThen (pThen (pBlock (pThen (pThen pFn))))))) (fun w_ hS_ => bAggEql (xs := [.int .i64 ((rd a0 s3).f_Kind), .int .i64 ((rd a0 s3).f_Id)]) (ys := [.int .i64 ((rd a0 (IntKind.i64.wrap (s3 - 1))).f_Kind), .int .i64 ((rd a0 (IntKind.i64.wrap (s3 - 1))).f_Id)]) (n := 2) rfl rfl eg35 (eqStruct Try.underlying35 sh35 (eqFcons (by decide) (pt1 Try.underlying3 rfl rfl) (pt1 Try.underlying3 rfl rfl) (eqInt Try.underlying3) (eqFcons (by decide) (pt1 Try.underlying3 rfl rfl) (pt1 Try.underlying3 rfl rfl) (eqInt Try.underlying3) eqFnil))) rfl (eq_T_api_Vert (rd a0 s3) (rd a0 (IntKind.i64.wrap (s3 - 1))))) HF24 rfl rfl ?_
        refine hEnd (by kernel_rfl) ?_
        refine kN (?_)
        refine hK58 _ _ ?_
        by_cases c103 : (rd a0 s3) = (rd a0 (IntKind.i64.wrap (s3 - 1)))
        · replace H := itT c103 H
          refine cSet (i := 25) rfl (dT c103) ?_
          refine cT rfl ?_
          refine cSeq (fun K59 hK59 => ?_)
          refine cRgn [] trivial ?_
          refine sL (mv rfl) rfl ?_
          refine sL (mv rfl) rfl ?_
          replace H := chk H; obtain ⟨c104, H⟩ := H
          refine sL (slcN (xs := a0) rfl Try.underlying26 ti35 rfl rfl (ho_a0.rd).1 c100 c104 (Int.le_refl _)) rfl ?_
          refine sL (asg rfl) rfl ?_
          refine lEnd (K := fun _ _ => True) ?_
          refine kN (?_)
          refine hK59 _ _ ?_
          refine cSeq (fun K60 hK60 => ?_)
          refine cSeq (fun K61 hK61 => ?_)
          refine cRgn [] trivial ?_
          refine sL (asg rfl) rfl ?_
          refine lEnd (K := fun _ _ => True) ?_
          refine kN (?_)
          refine hK61 _ _ ?_
          replace H := bnd H; obtain ⟨y7, J3, Ho4⟩ := H
          refine cLoopB (f_slices_Compact_api_Vert_api_Vert.b0 s3) (fun (s4 : Int × Int × (List T_api_Vert)) a w => ∃ (L18 : Hp), Env 61 [(0, .slice (some ⟨g36, o36, none⟩) s4.2.2.length c_a0), (2, .slice none 0 0), (3, .int .i64 s4.1), (4, .slice (cutA (some ⟨g36, o36, none⟩) (c_a0 - s3.toNat) (s3.toNat * 2)) (cutL s4.2.2 s3 (s4.2.2.length : Int)).length (c_a0 - s3.toNat)), (5, .int .i64 s4.2.1)] a ∧ Fits z w (L18 ++ F) ∧ OwnS k_T_api_Vert L18 (some ⟨g36, o36, none⟩) c_a0 s4.2.2) J3 (fun a hE => ⟨L_a0, hE.keep (Keep.cons rfl (Keep.cons rfl (Keep.cons rfl (Keep.cons rfl (Keep.cons rfl (Keep.nil)))))), HF24, ho_a0⟩) ?_ ?_
          · rintro s4 a w27 y8 ⟨L18, hE, HF29, ho18⟩ H Hx4
            refine go_ hE ?_
            refine cSeq (fun K72 hK72 => ?_)
            refine cSeq (fun K73 hK73 => ?_)
            refine cRgn [] trivial ?_
            refine sL (mv rfl) rfl ?_
            refine sL (mv rfl) rfl ?_
            refine sL (lnS rfl Try.underlying26) rfl ?_
            refine sL (bLss rfl rfl) rfl ?_
            refine lEnd (K := fun _ _ => True) ?_
            refine kN (?_)
            refine hK73 _ _ ?_
            by_cases c130 : s4.2.1 < ((cutL s4.2.2 s3 (s4.2.2.length : Int)).length : Int)
            · replace H := itT c130 H
              refine cSet (i := 32) rfl (dT c130) ?_
              refine cT rfl ?_
              refine cSkip ?_
              refine kN (?_)
              refine hK72 _ _ ?_
              refine cSeq (fun K74 hK74 => ?_)
              refine cBlock ?_
              refine cSeq (fun K75 hK75 => ?_)
              refine cDraw mo_ HF29 rfl (fun w => Fits z w (L18 ++ F)) (fun w28 HF30 => ?_)
              refine hTake 0 rfl (by kernel_rfl) (pThen (pBlock (pThen (pThen (pBlock (pThen (pThen (pBlock (pThen (pThen (pBlock (pThen (pThen pFn))))))))))))) (fun w_ hS_ => mv rfl) HF30 rfl rfl ?_
              refine hTake 1 rfl (by kernel_rfl) (pThen (pBlock (pThen (pThen (pBlock (pThen (pThen (pBlock (pThen (pThen (pBlock (pThen (pThen pFn))))))))))))) (fun w_ hS_ => mv rfl) HF30 rfl rfl ?_
              replace H := chk H; obtain ⟨c136, H⟩ := H
              replace H := chk H; obtain ⟨c137, H⟩ := H
              replace H := chk H; obtain ⟨c138, H⟩ := H
              obtain ⟨g49, o49, _, hA43, rfl, q63⟩ := RdS.at_ (RdS.cutN ho18.rd c136 c137 (Int.le_refl _)) c138 c130
              refine hTake 2 rfl (by kernel_rfl) (pThen (pBlock (pThen (pThen (pBlock (pThen (pThen (pBlock (pThen (pThen (pBlock (pThen (pThen pFn))))))))))))) (fun w_ hS_ => iaV hA43 rfl rfl Try.underlying26 ti35 c138 c130) HF30 rfl rfl ?_
              refine hTake 3 rfl (by kernel_rfl) (pThen (pBlock (pThen (pThen (pBlock (pThen (pThen (pBlock (pThen (pThen (pBlock (pThen (pThen pFn))))))))))))) (fun w_ hS_ => ldA rfl ti35 rfl rfl (fun j v hj => hS_.cells (sub_h) (q63 j v hj))) HF30 rfl rfl ?_
              refine hTake 4 rfl (by kernel_rfl) (pThen (pBlock (pThen (pThen (pBlock (pThen (pThen (pBlock (pThen (pThen (pBlock (pThen (pThen pFn))))))))))))) (fun w_ hS_ => mv rfl) HF30 rfl rfl ?_
              refine hTake 5 rfl (by kernel_rfl) (pThen (pBlock (pThen (pThen (pBlock (pThen (pThen (pBlock (pThen (pThen (pBlock (pThen (pThen pFn))))))))))))) (fun w_ hS_ => mv rfl) HF30 rfl rfl ?_
              refine hTake 6 rfl (by kernel_rfl) (pThen (pBlock (pThen (pThen (pBlock (pThen (pThen (pBlock (pThen (pThen (pBlock (pThen (pThen pFn))))))))))))) (fun w_ hS_ => bSub rfl rfl) HF30 rfl rfl ?_
              replace H := chk H; obtain ⟨c139, H⟩ := H
              replace H := chk H; obtain ⟨c140, H⟩ := H
              obtain ⟨g50, o50, _, hA44, rfl, q64⟩ := RdS.at_ (RdS.cutN ho18.rd c136 c137 (Int.le_refl _)) c139 c140
              refine hTake 7 rfl (by kernel_rfl) (pThen (pBlock (pThen (pThen (pBlock (pThen (pThen (pBlock (pThen (pThen (pBlock (pThen (pThen pFn))))))))))))) (fun w_ hS_ => iaV hA44 rfl rfl Try.underlying26 ti35 c139 c140) HF30 rfl rfl ?_
              refine hTake 8 rfl (by kernel_rfl) (pThen (pBlock (pThen (pThen (pBlock (pThen (pThen (pBlock (pThen (pThen (pBlock (pThen (pThen pFn))))))))))))) (fun w_ hS_ => ldA rfl ti35 rfl rfl (fun j v hj => hS_.cells (sub_h) (q64 j v hj))) HF30 rfl rfl ?_
              refine hTake 9 rfl (by kernel_rfl) (pThen (pBlock (pThen (pThen (pBlock (pThen (pThen (pBlock (pThen (pThen (pBlock (pThen (pThen pFn))))))))))))) (fun w_ hS_ => bAggNeq (xs := [.int .i64 ((rd (cutL s4.2.2 s3 (s4.2.2.length : Int)) s4.2.1).f_Kind), .int .i64 ((rd (cutL s4.2.2 s3 (s4.2.2.length : Int)) s4.2.1).f_Id)]) (ys := [.int .i64 ((rd (cutL s4.2.2 s3 (s4.2.2.length : Int)) (IntKind.i64.wrap (s4.2.1 - 1))).f_Kind), .int .i64 ((rd (cutL s4.2.2 s3 (s4.2.2.length : Int)) (IntKind.i64.wrap (s4.2.1 - 1))).f_Id)]) (n := 2) rfl rfl eg35 (eqStruct Try.underlying35 sh35 (eqFcons (by decide) (pt1 Try.underlying3 rfl rfl) (pt1 Try.underlying3 rfl rfl) (eqInt Try.underlying3) (eqFcons (by decide) (pt1 Try.underlying3 rfl rfl) (pt1 Try.underlying3 rfl rfl) (eqInt Try.underlying3) eqFnil))) rfl (eq_T_api_Vert (rd (cutL s4.2.2 s3 (s4.2.2.length : Int)) s4.2.1) (rd (cutL s4.2.2 s3 (s4.2.2.length : Int)) (IntKind.i64.wrap (s4.2.1 - 1))))) HF30 rfl rfl ?_
              refine hEnd (by kernel_rfl) ?_
              refine kN (?_)
              refine hK75 _ _ ?_
              by_cases c141 : (rd (cutL s4.2.2 s3 (s4.2.2.length : Int)) s4.2.1) = (rd (cutL s4.2.2 s3 (s4.2.2.length : Int)) (IntKind.i64.wrap (s4.2.1 - 1)))
              · replace H := itT c141 H
                refine cSet (i := 44) rfl (nF c141) ?_
                refine cF rfl ?_
                refine cSkip ?_
                refine jN (kN (?_))
                refine hK74 _ _ ?_
                refine cRgn [] trivial ?_
                refine sL (mv rfl) rfl ?_
                refine sL (bAdd rfl rfl) rfl ?_
                refine sL (asg rfl) rfl ?_
                refine lEnd (K := fun _ _ => True) ?_
                refine kN (?_)
                exact ofEnv (fun a hE => ⟨_, (Option.some.inj H).symm, ⟨L18, hE.keep (Keep.cons rfl (Keep.cons rfl (Keep.cons rfl (Keep.cons rfl (Keep.cons rfl (Keep.nil)))))), HF30, ho18⟩⟩)
              · replace H := itF c141 H
                refine cSet (i := 44) rfl (nT c141) ?_
                refine cT rfl ?_
                refine cSeq (fun K76 hK76 => ?_)
                refine cRgn [] trivial ?_
                refine sL (mv rfl) rfl ?_
                refine sL (mv rfl) rfl ?_
                refine sL (mv rfl) rfl ?_
                refine sL (mv rfl) rfl ?_
                obtain ⟨g51, o51, _, hA45, rfl, q65⟩ := RdS.at_ (RdS.cutN ho18.rd c136 c137 (Int.le_refl _)) c138 c130
                refine sL (iaV hA45 rfl rfl Try.underlying26 ti35 c138 c130) rfl ?_
                refine sL (ldA rfl ti35 rfl rfl (fun j v hj => HF30.cells (sub_h) (q65 j v hj))) rfl ?_
                replace H := chk H; obtain ⟨c142, H⟩ := H
                replace H := chk H; obtain ⟨c143, H⟩ := H
                obtain ⟨_, rfl, q66⟩ := RdS.at' ho18.rd c142 c143
                refine sL (ia rfl rfl Try.underlying26 ti35 c142 c143) rfl ?_
                refine eS (oStE (K := k_T_api_Vert) (c := c_a0) (off := 0) (y' := (rd (cutL s4.2.2 s3 (s4.2.2.length : Int)) s4.2.1)) shrF HF30 ho18 c142 c143 rfl rfl ti35 rfl (ones rfl) (Nat.le_of_ble_eq_true rfl) (by rintro _ ⟨_, rfl⟩; exact ⟨rfl, rfl⟩)) ?_
                rintro w29 ⟨L19, HF31, ho19⟩
                refine lSet (i := 0) (v := .slice (some ⟨g36, o36, none⟩) (setI s4.2.2 s4.1 (rd (cutL s4.2.2 s3 (s4.2.2.length : Int)) s4.2.1)).length c_a0) rfl (by simp only [len_setI]) ?_
                refine lSet (i := 4) (v := .slice (cutA (some ⟨g36, o36, none⟩) (c_a0 - s3.toNat) (s3.toNat * 2)) (cutL (setI s4.2.2 s4.1 (rd (cutL s4.2.2 s3 (s4.2.2.length : Int)) s4.2.1)) s3 ((setI s4.2.2 s4.1 (rd (cutL s4.2.2 s3 (s4.2.2.length : Int)) s4.2.1)).length : Int)).length (c_a0 - s3.toNat)) rfl (by simp only [len_cutSet, len_setI]) ?_
                refine lSet (i := 30) (v := .slice (cutA (some ⟨g36, o36, none⟩) (c_a0 - s3.toNat) (s3.toNat * 2)) (cutL (setI s4.2.2 s4.1 (rd (cutL s4.2.2 s3 (s4.2.2.length : Int)) s4.2.1)) s3 ((setI s4.2.2 s4.1 (rd (cutL s4.2.2 s3 (s4.2.2.length : Int)) s4.2.1)).length : Int)).length (c_a0 - s3.toNat)) rfl (by simp only [len_cutSet, len_setI]) ?_
                refine lSet (i := 35) (v := .slice (cutA (some ⟨g36, o36, none⟩) (c_a0 - s3.toNat) (s3.toNat * 2)) (cutL (setI s4.2.2 s4.1 (rd (cutL s4.2.2 s3 (s4.2.2.length : Int)) s4.2.1)) s3 ((setI s4.2.2 s4.1 (rd (cutL s4.2.2 s3 (s4.2.2.length : Int)) s4.2.1)).length : Int)).length (c_a0 - s3.toNat)) rfl (by simp only [len_cutSet, len_setI]) ?_
                refine lSet (i := 39) (v := .slice (cutA (some ⟨g36, o36, none⟩) (c_a0 - s3.toNat) (s3.toNat * 2)) (cutL (setI s4.2.2 s4.1 (rd (cutL s4.2.2 s3 (s4.2.2.length : Int)) s4.2.1)) s3 ((setI s4.2.2 s4.1 (rd (cutL s4.2.2 s3 (s4.2.2.length : Int)) s4.2.1)).length : Int)).length (c_a0 - s3.toNat)) rfl (by simp only [len_cutSet, len_setI]) ?_
                refine lSet (i := 45) (v := .slice (some ⟨g36, o36, none⟩) (setI s4.2.2 s4.1 (rd (cutL s4.2.2 s3 (s4.2.2.length : Int)) s4.2.1)).length c_a0) rfl (by simp only [len_setI]) ?_
                refine lSet (i := 47) (v := .slice (cutA (some ⟨g36, o36, none⟩) (c_a0 - s3.toNat) (s3.toNat * 2)) (cutL (setI s4.2.2 s4.1 (rd (cutL s4.2.2 s3 (s4.2.2.length : Int)) s4.2.1)) s3 ((setI s4.2.2 s4.1 (rd (cutL s4.2.2 s3 (s4.2.2.length : Int)) s4.2.1)).length : Int)).length (c_a0 - s3.toNat)) rfl (by simp only [len_cutSet, len_setI]) ?_
                refine lEnd (K := fun _ _ => True) ?_
                refine kN (?_)
                refine hK76 _ _ ?_
                refine cRgn [] trivial ?_
                refine sL (mv rfl) rfl ?_
                refine sL (bAdd rfl rfl) rfl ?_
                refine sL (asg rfl) rfl ?_
                refine lEnd (K := fun _ _ => True) ?_
                refine jN (kN (?_))
                refine hK74 _ _ ?_
                refine cRgn [] trivial ?_
                refine sL (mv rfl) rfl ?_
                refine sL (bAdd rfl rfl) rfl ?_
                refine sL (asg rfl) rfl ?_
                refine lEnd (K := fun _ _ => True) ?_
                refine kN (?_)
                exact ofEnv (fun a hE => ⟨_, (Option.some.inj H).symm, ⟨L19, hE.keep (Keep.cons rfl (Keep.cons rfl (Keep.cons rfl (Keep.cons rfl (Keep.cons rfl (Keep.nil)))))), HF31, ho19⟩⟩)
            · replace H := itF c130 H
              refine cSet (i := 32) rfl (dF c130) ?_
              refine cF rfl ?_
              refine cExit ?_
              refine kX (kX (jX (kN (?_))))
              exact ofEnv (fun a hE => ⟨_, (Option.some.inj H).symm, ⟨L18, hE.keep (Keep.cons rfl (Keep.cons rfl (Keep.cons rfl (Keep.cons rfl (Keep.cons rfl (Keep.nil)))))), HF29, ho18⟩⟩)
          · rintro s4 a w30 rfl ⟨L18, hE, HF32, ho18⟩
            replace H := Ho4
            refine go_k hE ?_
            refine kN (?_)
            refine hK60 _ _ ?_
            refine cSeq (fun K77 hK77 => ?_)
            refine cRgn [] trivial ?_
            refine sL (mv rfl) rfl ?_
            refine sL (mv rfl) rfl ?_
            replace H := chk H; obtain ⟨c144, H⟩ := H
            replace H := chk H; obtain ⟨c145, H⟩ := H
            refine sL (slcN (xs := s4.2.2) rfl Try.underlying26 ti35 rfl rfl (ho18.rd).1 c144 c145 (Int.le_refl _)) rfl ?_
            refine eW0 (oClear (K := k_T_api_Vert) (lo := s4.1) shrF (⟨0, 0⟩ : T_api_Vert) HF32 ho18 rfl Try.underlying26 ti35 ⟨rfl, rfl⟩ c144 c145) ?_
            rintro _ w31 ⟨L20, rfl, HF33, ho20⟩
            refine lSet (i := 0) (v := .slice (some ⟨g36, o36, none⟩) (clrL s4.2.2 s4.1 (⟨0, 0⟩ : T_api_Vert)).length c_a0) rfl (by rw [len_clrL c145]) ?_
            refine lSet (i := 54) (v := .slice (some ⟨g36, o36, none⟩) (clrL s4.2.2 s4.1 (⟨0, 0⟩ : T_api_Vert)).length c_a0) rfl (by rw [len_clrL c145]) ?_
            refine lEnd (K := fun _ _ => True) ?_
            refine kN (?_)
            refine hK77 _ _ ?_
            refine cSeq (fun K78 hK78 => ?_)
            refine cRgn [] trivial ?_
            refine sL (mv rfl) rfl ?_
            refine sL (mv rfl) rfl ?_
            replace H := chk H; obtain ⟨c146, H⟩ := H
            refine sL (slcN (xs := (clrL s4.2.2 s4.1 (⟨0, 0⟩ : T_api_Vert))) rfl Try.underlying26 ti35 rfl rfl (ho20.rd).1 (by decide) c144 c146) rfl ?_
            refine sL (asg rfl) rfl ?_
            refine lEnd (K := fun _ _ => True) ?_
            refine kN (?_)
            refine hK78 _ _ ?_
            refine cRet ?_
            obtain ⟨L21, HF34, ho21⟩ := OwnS.cutV ho20 HF33 (by decide) c144 c146
            have e_ := Hx3 _ (Option.some.inj H).symm
            subst e_
            replace H := Ho3
            obtain rfl := Option.some.inj H
            refine jR (kR (kR (jR (kR (kR (?_))))))
            refine ret1 rfl rfl ?_
            exact ⟨_, _, L21, rfl, HF34, ho21⟩
        · replace H := itF c103 H
          refine cSet (i := 25) rfl (dF c103) ?_
          refine cF rfl ?_
          refine cSkip ?_
          refine jN (kN (?_))
          refine hK57 _ _ ?_
          refine cRgn [] trivial ?_
          refine sL (mv rfl) rfl ?_
          refine sL (bAdd rfl rfl) rfl ?_
          refine sL (asg rfl) rfl ?_
          refine lEnd (K := fun _ _ => True) ?_
          refine kN (?_)
          exact ofEnv (fun a hE => ⟨_, (Option.some.inj H).symm, ⟨hE.keep (Keep.cons rfl (Keep.cons rfl (Keep.cons rfl (Keep.nil)))), HF24⟩⟩)
      · replace H := itF c96 H
        refine cSet (i := 13) rfl (dF c96) ?_
        refine cF rfl ?_
        refine cExit ?_
        refine kX (kX (jX (kN (?_))))
        exact ofEnv (fun a hE => ⟨_, (Option.some.inj H).symm, ⟨hE.keep (Keep.cons rfl (Keep.cons rfl (Keep.cons rfl (Keep.nil)))), HF23⟩⟩)
    · rintro s3 a w32 rfl ⟨hE, HF35⟩
      replace H := Ho3
      refine go_k hE ?_
      refine kN (?_)
      refine hK5 _ _ ?_
      refine cSeq (fun K79 hK79 => ?_)
      refine cRgn [] trivial ?_
      refine sL (mv rfl) rfl ?_
      refine sL (asg rfl) rfl ?_
      refine lEnd (K := fun _ _ => True) ?_
      refine kN (?_)
      refine hK79 _ _ ?_
      refine cRet ?_
      obtain rfl := Option.some.inj H
      refine ret1 rfl rfl ?_
      exact ⟨_, _, L_a0, rfl, HF35, ho_a0⟩
/-! ### plenum/topo.Members (function 17) -/
abbrev f_topo_Members.R := List T_api_Vert
noncomputable def f_topo_Members.b0 (a1 : Int) (t1 : List T_api_Lsa) (t2 : List T_api_Lsa) (s9 : (List T_api_Vert) × Int) (s12 : (List T_api_Vert) × Int) : Option (Sum ((List T_api_Vert) × Int) (Sum ((List T_api_Vert) × Int) f_topo_Members.R)) := (if s12.2 < (((rd t2 s9.2).f_Verts).length : Int) then (if 0 ≤ s12.2 then (if ((rd t2 s9.2).f_Head.f_Id) = a1 then ((((if ((rd ((rd t2 s9.2).f_Verts) s12.2).f_Kind) = 1 then some (.inl (decide (((rd ((rd t2 s9.2).f_Verts) s12.2).f_Id) = ((rd t2 s9.2).f_Head.f_Adv)))) else some (.inl false)) : Option (Sum (Bool) f_topo_Members.R))).bind fun y17 => match y17 with | .inl s13 => (if s13 = true then (if (s12.1.length + 1) * 16 ≤ 140737488355328 then some (.inl ((s12.1 ++ [(rd ((rd t2 s9.2).f_Verts) s12.2)]), IntKind.i64.wrap (s12.2 + 1))) else none) else (if ((rd ((rd t2 s9.2).f_Verts) s12.2).f_Kind) = 2 then ((f_slices_ContainsFunc_api_Lsa_api_Lsa_fn37_35_44 t1 (rd ((rd t2 s9.2).f_Verts) s12.2) (rd t2 s9.2)).bind fun t11 => (if t11 = true then (if (s12.1.length + 1) * 16 ≤ 140737488355328 then some (.inl ((s12.1 ++ [(rd ((rd t2 s9.2).f_Verts) s12.2)]), IntKind.i64.wrap (s12.2 + 1))) else none) else some (.inl (s12.1, IntKind.i64.wrap (s12.2 + 1))))) else some (.inl (s12.1, IntKind.i64.wrap (s12.2 + 1))))) | .inr r_ => some (.inr (.inr r_))) else some (.inl (s12.1, IntKind.i64.wrap (s12.2 + 1)))) else none) else some (.inr (.inl (s12.1, s12.2))))
noncomputable def f_topo_Members.b1 (a1 : Int) (t1 : List T_api_Lsa) (t2 : List T_api_Lsa) (s9 : (List T_api_Vert) × Int) : Option (Sum ((List T_api_Vert) × Int) (Sum ((List T_api_Vert) × Int) f_topo_Members.R)) := (if s9.2 < (t2.length : Int) then (if 0 ≤ s9.2 then ((loopO (f_topo_Members.b0 a1 t1 t2 s9) (s9.1, 0)).bind fun y15 => match y15 with | .inl s12 => some (.inl (s12.1, IntKind.i64.wrap (s9.2 + 1))) | .inr r_ => some (.inr (.inr r_))) else none) else some (.inr (.inl (s9.1, s9.2))))
noncomputable def f_topo_Members (a0 : List T_api_Lsa) (a1 : Int) : Option f_topo_Members.R := ((f_topo_live a0 2).bind fun t1 => ((f_topo_live a0 6).bind fun t2 => ((loopO (f_topo_Members.b1 a1 t1 t2) ([], 0)).bind fun y11 => match y11 with | .inl s9 => ((f_slices_SortFunc_api_Vert_api_Vert_fn39 s9.1).bind fun t12 => (if t12.length = s9.1.length then ((f_slices_Compact_api_Vert_api_Vert t12).bind fun t13 => (if 0 ≤ (t13.length : Int) then (if (t13.length : Int) ≤ (t13.length : Int) then some (cutL t13 0 (t13.length : Int)) else none) else none)) else none)) | .inr r_ => some r_)))
set_option maxHeartbeats 1000000 in
theorem f_topo_Members.ok {z w : World} {F G : Hp} (hG : G ⊆ F) {a0 : List T_api_Lsa} {A_a0 : Option Addr} {c_a0 : Nat} {X_a0 : Hp} {a1 : Int} {r : f_topo_Members.R} (H : f_topo_Members a0 a1 = some r) (HF : Fits z w F) (hX_a0 : X_a0 ⊆ F) (hr_a0 : RdS (kShr G k_T_api_Lsa) X_a0 A_a0 c_a0 a0) :
    Calls Try.prog 17 [.slice A_a0 a0.length c_a0, .int .i64 a1].toArray w fun e w' => ∃ (A0 : Option Addr) (c0 : Nat) (L0 : Hp), e = .returned (.slice A0 r.length c0) ∧ Fits z w' (L0 ++ F) ∧ OwnS k_T_api_Vert L0 A0 c0 r := by
  unfold f_topo_Members at H
  refine enter0 Try.func17 rfl Try.ntmps17 rfl (E := [(0, .slice A_a0 a0.length c_a0), (1, .int .i64 a1)]) rfl ?_
  refine cSeq (fun K1 hK1 => ?_)
  refine cRgn [] trivial ?_
  refine sL (asg rfl) rfl ?_
  refine lEnd (K := fun _ _ => True) ?_
  refine kN (?_)
  refine hK1 _ _ ?_
  refine cSeq (fun K2 hK2 => ?_)
  refine cRgn [] trivial ?_
  refine sL (mv rfl) rfl ?_
  replace H := bnd H; obtain ⟨t1, J1, H⟩ := H
  refine eCall isf21 rfl rfl rfl (f_topo_live.ok (a0 := a0) hG J1 HF hX_a0 hr_a0) ?_
  rintro _ w1 ⟨N1, A1, c1, L1, rfl, HF1, ho1⟩
  have hs1 : G ⊆ N1 ++ G := sub_a sub_r
  refine ⟨_, rfl, ?_⟩
  refine sL (asg rfl) rfl ?_
  refine lEnd (K := fun _ _ => True) ?_
  refine kN (?_)
  refine hK2 _ _ ?_
  refine cSeq (fun K3 hK3 => ?_)
  refine cRgn [] trivial ?_
  refine sL (asg rfl) rfl ?_
  refine lEnd (K := fun _ _ => True) ?_
  refine kN (?_)
  refine hK3 _ _ ?_
  refine cSeq (fun K4 hK4 => ?_)
  refine cSeq (fun K5 hK5 => ?_)
  refine cRgn [] trivial ?_
  refine sL (mv rfl) rfl ?_
  replace H := bnd H; obtain ⟨t2, J2, H⟩ := H
  refine eCall isf21 rfl rfl rfl (f_topo_live.ok (a0 := a0) (sub_a (sub_n hG)) J2 HF1 (sub_a (sub_a hX_a0)) (RdS.lift hr_a0 hs1 sub_r)) ?_
  rintro _ w2 ⟨N2, A2, c2, L2, rfl, HF2, ho2⟩
  have HF3 := HF2.perm (pm_a (perm_f (List.Perm.refl _)).symm)
  obtain ⟨N3, hN1⟩ : ∃ N_, N_ = N2 ++ N1 := ⟨_, rfl⟩
  have HF4 := HF3; rw [← List.append_assoc N2 N1 F, ← hN1] at HF4
  have hs2 : N1 ++ G ⊆ N3 ++ G := frz_s hN1
  have hr1 := OwnS.lift (G' := (N3 ++ G)) ho2 (frz_c hN1)
  refine ⟨_, rfl, ?_⟩
  refine sL (lnS rfl Try.underlying24) rfl ?_
  refine sL (mv rfl) rfl ?_
  refine lEnd (K := fun _ _ => True) ?_
  refine kN (?_)
  refine hK5 _ _ ?_
  replace H := bnd H; obtain ⟨y11, J17, Ho9⟩ := H
  refine cLoopB (f_topo_Members.b1 a1 t1 t2) (fun (s9 : (List T_api_Vert) × Int) a w => ∃ (A38 : Option Addr) (c97 : Nat) (L32 : Hp), Env 74 [(1, .int .i64 a1), (4, .slice none 0 0), (5, .slice A1 t1.length c1), (6, .slice A38 s9.1.length c97), (14, .slice A2 t2.length c2), (15, .int .i64 (t2.length : Int)), (16, .int .i64 s9.2)] a ∧ Fits z w (L32 ++ (L2 ++ (L1 ++ (N3 ++ F)))) ∧ OwnS k_T_api_Vert L32 A38 c97 s9.1) J17 (fun a hE => ⟨none, 0, [], hE.keep (Keep.cons rfl (Keep.cons rfl (Keep.cons rfl (Keep.cons rfl (Keep.cons rfl (Keep.cons rfl (Keep.cons rfl (Keep.nil)))))))), HF4, OwnS.nil⟩) ?_ ?_
  · rintro s9 a w59 y12 ⟨A38, c97, L32, hE, HF87, ho32⟩ H Hx3
    refine go_ hE ?_
    refine cSeq (fun K58 hK58 => ?_)
    refine cRgn [] trivial ?_
    refine sL (bLss rfl rfl) rfl ?_
    refine lEnd (K := fun _ _ => True) ?_
    refine kN (?_)
    refine hK58 _ _ ?_
    refine cSeq (fun K59 hK59 => ?_)
    by_cases c98 : s9.2 < (t2.length : Int)
    · replace H := itT c98 H
      refine cSet (i := 17) rfl (dT c98) ?_
      refine cT rfl ?_
      refine cSkip ?_
      refine kN (?_)
      refine hK59 _ _ ?_
      refine cSeq (fun K60 hK60 => ?_)
      refine cBlock ?_
      refine cSeq (fun K61 hK61 => ?_)
      refine cRgn [] trivial ?_
      replace H := chk H; obtain ⟨c99, H⟩ := H
      obtain ⟨g17, o9, e12, rfl, hk3, q9⟩ := RdS.at_ hr1.rd c99 c98
      obtain ⟨A39, c100, A40, c101, A41, c102, rfl, hr8, hr9, hr10⟩ := rd_T_api_Lsa hk3
      refine sL (ia rfl rfl Try.underlying24 ti44 c99 c98) rfl ?_
      refine sL (ldA rfl ti44 rfl rfl (fun j v hj => HF87.cells ((sub_a sub_h)) (q9 j v hj))) rfl ?_
      refine eW (oAlloc HF87 ti44) rfl ?_
      rintro _ w60 ⟨g18, rfl, HF88⟩
      refine eS (oSt (l1 := [.int .i64 ((rd t2 s9.2).f_Head.f_Age), .int .i64 ((rd t2 s9.2).f_Head.f_Kind), .int .i64 ((rd t2 s9.2).f_Head.f_Id), .int .i64 ((rd t2 s9.2).f_Head.f_Adv), .int .i64 ((rd t2 s9.2).f_Head.f_Seq), .int .i64 ((rd t2 s9.2).f_Head.f_Sum), .int .i64 ((rd t2 s9.2).f_Head.f_Len), .int .i64 ((rd t2 s9.2).f_Flags), .slice A39 ((rd t2 s9.2).f_Links).length c100, .int .i64 ((rd t2 s9.2).f_Bits), .slice A40 ((rd t2 s9.2).f_Routers).length c101, .slice A41 ((rd t2 s9.2).f_Verts).length c102]) HF88 rfl rfl ti44 rfl (ones rfl) (Nat.le_of_ble_eq_true rfl) rfl) ?_
      rintro w61 HF89
      refine lEnd (K := fun _ _ => True) ?_
      refine kN (?_)
      refine hK61 _ _ ?_
      refine cSeq (fun K62 hK62 => ?_)
      refine cRgn [] trivial ?_
      refine sL (fa44_5 rfl) rfl ?_
      refine sL (ld rfl Try.underlying26 rfl (HF89.box (mem_h) rfl)) rfl ?_
      refine sL (lnS rfl Try.underlying26) rfl ?_
      refine sL (mv rfl) rfl ?_
      refine lEnd (K := fun _ _ => True) ?_
      refine kN (?_)
      refine hK62 _ _ ?_
      replace H := bnd H; obtain ⟨y15, J14, Ho12⟩ := H
      have HF136 := HF89.perm (perm_c (perm_f (perm_f (List.Perm.refl _))))
      have HF137 := HF136.perm (perm_f (perm_c (perm_f (List.Perm.refl _))))
      have HF138 := HF137.perm (perm_f1 (perm_f1 (List.Perm.refl _)))
      have HF139 := HF138.perm (perm_c (perm_f (perm_f (List.Perm.refl _))))
      refine cLoopB (f_topo_Members.b0 a1 t1 t2 s9) (fun (s12 : (List T_api_Vert) × Int) a w => ∃ (A51 : Option Addr) (c131 : Nat) (L42 : Hp), Env 74 [(1, .int .i64 a1), (4, .slice none 0 0), (5, .slice A1 t1.length c1), (6, .slice A51 s12.1.length c131), (8, .pointer (some ⟨g18, 0, none⟩)), (14, .slice (some ⟨g17, o9, none⟩) t2.length c2), (15, .int .i64 (t2.length : Int)), (16, .int .i64 s9.2), (21, .slice A41 ((rd t2 s9.2).f_Verts).length c102), (22, .int .i64 (((rd t2 s9.2).f_Verts).length : Int)), (23, .int .i64 s12.2)] a ∧ Fits z w (L42 ++ (bk g18 44 [.int .i64 ((rd t2 s9.2).f_Head.f_Age), .int .i64 ((rd t2 s9.2).f_Head.f_Kind), .int .i64 ((rd t2 s9.2).f_Head.f_Id), .int .i64 ((rd t2 s9.2).f_Head.f_Adv), .int .i64 ((rd t2 s9.2).f_Head.f_Seq), .int .i64 ((rd t2 s9.2).f_Head.f_Sum), .int .i64 ((rd t2 s9.2).f_Head.f_Len), .int .i64 ((rd t2 s9.2).f_Flags), .slice A39 ((rd t2 s9.2).f_Links).length c100, .int .i64 ((rd t2 s9.2).f_Bits), .slice A40 ((rd t2 s9.2).f_Routers).length c101, .slice A41 ((rd t2 s9.2).f_Verts).length c102] :: (L2 ++ (L1 ++ (N3 ++ F))))) ∧ OwnS k_T_api_Vert L42 A51 c131 s12.1) J14 (fun a hE => ⟨_, _, L32, hE.keep (Keep.cons rfl (Keep.cons rfl (Keep.cons rfl (Keep.cons rfl (Keep.cons rfl (Keep.cons rfl (Keep.cons rfl (Keep.cons rfl (Keep.cons rfl (Keep.cons rfl (Keep.cons rfl (Keep.nil)))))))))))), HF139, ho32⟩) ?_ ?_
      · rintro s12 a w78 y16 ⟨A51, c131, L42, hE, HF114, ho42⟩ H Hx4
        refine go_ hE ?_
        refine cSeq (fun K77 hK77 => ?_)
        refine cRgn [] trivial ?_
        refine sL (bLss rfl rfl) rfl ?_
        refine lEnd (K := fun _ _ => True) ?_
        refine kN (?_)
        refine hK77 _ _ ?_
        refine cSeq (fun K78 hK78 => ?_)
        by_cases c132 : s12.2 < (((rd t2 s9.2).f_Verts).length : Int)
        · replace H := itT c132 H
          refine cSet (i := 24) rfl (dT c132) ?_
          refine cT rfl ?_
          refine cSkip ?_
          refine kN (?_)
          refine hK78 _ _ ?_
          refine cSeq (fun K79 hK79 => ?_)
          refine cBlock ?_
          refine cSeq (fun K80 hK80 => ?_)
          refine cRgn [] trivial ?_
          replace H := chk H; obtain ⟨c133, H⟩ := H
          obtain ⟨g23, o12, _, rfl, rfl, q12⟩ := RdS.at_ hr10 c133 c132
          refine sL (ia rfl rfl Try.underlying26 ti35 c133 c132) rfl ?_
          refine sL (ldA rfl ti35 rfl rfl (fun j v hj => HF114.cells ((sub_a (sub_c (sub_a (sub_a (sub_n hG)))))) (q12 j v hj))) rfl ?_
          refine eW (oAlloc HF114 ti35) rfl ?_
          rintro _ w79 ⟨g24, rfl, HF115⟩
          refine eS (oSt (l1 := [.int .i64 ((rd ((rd t2 s9.2).f_Verts) s12.2).f_Kind), .int .i64 ((rd ((rd t2 s9.2).f_Verts) s12.2).f_Id)]) HF115 rfl rfl ti35 rfl (ones rfl) (Nat.le_of_ble_eq_true rfl) rfl) ?_
          rintro w80 HF116
          refine lEnd (K := fun _ _ => True) ?_
          refine kN (?_)
          refine hK80 _ _ ?_
          refine cBlock ?_
          refine cSeq (fun K81 hK81 => ?_)
          refine cRgn [] trivial ?_
          refine sL (fa44_0 rfl) rfl ?_
          refine sL (fa41_2 rfl) rfl ?_
          refine sL (ld rfl Try.underlying3 rfl (HF116.box (mem_c (mem_a mem_h)) rfl)) rfl ?_
          refine sL (mv rfl) rfl ?_
          refine sL (bNeq rfl rfl) rfl ?_
          refine sL (asg rfl) rfl ?_
          refine lEnd (K := fun _ _ => True) ?_
          refine kN (?_)
          refine hK81 _ _ ?_
          by_cases c134 : ((rd t2 s9.2).f_Head.f_Id) = a1
          · replace H := itT c134 H
            refine cSet (i := 27) rfl (nF c134) ?_
            refine cF rfl ?_
            refine cSeq (fun K82 hK82 => ?_)
            replace H := bnd H; obtain ⟨y17, H, Ho13⟩ := H
            refine cJoin (y := y17) (fun (s13 : Bool) a w => Env 74 [(1, .int .i64 a1), (4, .slice none 0 0), (5, .slice A1 t1.length c1), (6, .slice A51 s12.1.length c131), (8, .pointer (some ⟨g18, 0, none⟩)), (10, .pointer (some ⟨g24, 0, none⟩)), (14, .slice (some ⟨g17, o9, none⟩) t2.length c2), (15, .int .i64 (t2.length : Int)), (16, .int .i64 s9.2), (21, .slice (some ⟨g23, o12, none⟩) ((rd t2 s9.2).f_Verts).length c102), (22, .int .i64 (((rd t2 s9.2).f_Verts).length : Int)), (23, .int .i64 s12.2), (33, .bool s13)] a ∧ Fits z w (bk g24 35 [.int .i64 ((rd ((rd t2 s9.2).f_Verts) s12.2).f_Kind), .int .i64 ((rd ((rd t2 s9.2).f_Verts) s12.2).f_Id)] :: (L42 ++ (bk g18 44 [.int .i64 ((rd t2 s9.2).f_Head.f_Age), .int .i64 ((rd t2 s9.2).f_Head.f_Kind), .int .i64 ((rd t2 s9.2).f_Head.f_Id), .int .i64 ((rd t2 s9.2).f_Head.f_Adv), .int .i64 ((rd t2 s9.2).f_Head.f_Seq), .int .i64 ((rd t2 s9.2).f_Head.f_Sum), .int .i64 ((rd t2 s9.2).f_Head.f_Len), .int .i64 ((rd t2 s9.2).f_Flags), .slice A39 ((rd t2 s9.2).f_Links).length c100, .int .i64 ((rd t2 s9.2).f_Bits), .slice A40 ((rd t2 s9.2).f_Routers).length c101, .slice (some ⟨g23, o12, none⟩) ((rd t2 s9.2).f_Verts).length c102] :: (L2 ++ (L1 ++ (N3 ++ F))))))) ?_ ?_
            · refine cRgn [(3, 37)] ⟨rfl, trivial⟩ ?_
              refine sL (fa35_0 rfl) rfl ?_
              refine sL (ld rfl Try.underlying3 rfl (HF116.box (mem_h) rfl)) rfl ?_
              refine sL (bEql rfl rfl) rfl ?_
              refine sL (mv rfl) rfl ?_
              by_cases c136 : ((rd ((rd t2 s9.2).f_Verts) s12.2).f_Kind) = 1
              · replace H := itT c136 H
                refine lSet (i := 37) rfl (dT c136) ?_
                refine sG rfl rfl (fa35_1 rfl) rfl ?_
                refine sG rfl rfl (ld rfl Try.underlying3 rfl (HF116.box (mem_h) rfl)) rfl ?_
                refine sG rfl rfl (fa44_0 rfl) rfl ?_
                refine sG rfl rfl (fa41_3 rfl) rfl ?_
                refine sG rfl rfl (ld rfl Try.underlying3 rfl (HF116.box (mem_c (mem_a mem_h)) rfl)) rfl ?_
                refine sG rfl rfl (bEql rfl rfl) rfl ?_
                refine sL (pkT rfl rfl) rfl ?_
                refine sL (asg rfl) rfl ?_
                refine lEnd (K := fun _ _ => True) ?_
                refine kN (?_)
                exact ofEnv (fun a hE => ⟨_, (Option.some.inj H).symm, ⟨hE.keep (Keep.cons rfl (Keep.cons rfl (Keep.cons rfl (Keep.cons rfl (Keep.cons rfl (Keep.cons rfl (Keep.cons rfl (Keep.cons rfl (Keep.cons rfl (Keep.cons rfl (Keep.cons rfl (Keep.cons rfl (Keep.cons rfl (Keep.nil)))))))))))))), HF116⟩⟩)
              · replace H := itF c136 H
                refine lSet (i := 37) rfl (dF c136) ?_
                refine sN rfl rfl rfl rfl ?_
                refine sN rfl rfl rfl rfl ?_
                refine sN rfl rfl rfl rfl ?_
                refine sN rfl rfl rfl rfl ?_
                refine sN rfl rfl rfl rfl ?_
                refine sN rfl rfl rfl rfl ?_
                refine sL (pkF rfl rfl) rfl ?_
                refine sL (asg rfl) rfl ?_
                refine lEnd (K := fun _ _ => True) ?_
                refine kN (?_)
                exact ofEnv (fun a hE => ⟨_, (Option.some.inj H).symm, ⟨hE.keep (Keep.cons rfl (Keep.cons rfl (Keep.cons rfl (Keep.cons rfl (Keep.cons rfl (Keep.cons rfl (Keep.cons rfl (Keep.cons rfl (Keep.cons rfl (Keep.cons rfl (Keep.cons rfl (Keep.cons rfl (Keep.cons rfl (Keep.nil)))))))))))))), HF116⟩⟩)
            · rintro s13 a w81 rfl ⟨hE, HF117⟩
              replace H := Ho13
              refine go_k hE ?_
              refine kN (?_)
              refine hK82 _ _ ?_
              by_cases c137 : s13 = true
              · replace H := itT c137 H
                refine cSet (i := 33) rfl (vT c137) ?_
                refine cT rfl ?_
                refine cRgn [] trivial ?_
                refine sL (mv rfl) rfl ?_
                refine sL (ldA (cs := [.int .i64 ((rd ((rd t2 s9.2).f_Verts) s12.2).f_Kind), .int .i64 ((rd ((rd t2 s9.2).f_Verts) s12.2).f_Id)]) rfl ti35 rfl rfl (HF117.boxes (o := 0) (n := 2) (mem_h) rfl)) rfl ?_
                refine eW (oLit (r := [.int .i64 ((rd ((rd t2 s9.2).f_Verts) s12.2).f_Kind), .int .i64 ((rd ((rd t2 s9.2).f_Verts) s12.2).f_Id)]) k_T_api_Vert [(rd ((rd t2 s9.2).f_Verts) s12.2)] HF117 Try.underlying26 ti35 rfl rfl rfl rfl ⟨[], [], [.int .i64 ((rd ((rd t2 s9.2).f_Verts) s12.2).f_Kind), .int .i64 ((rd ((rd t2 s9.2).f_Verts) s12.2).f_Id)], _, rfl, rfl, ⟨rfl, rfl⟩, ⟨rfl, rfl⟩⟩ rfl rfl) rfl ?_
                rintro _ w82 ⟨L43, A52, c138, rfl, HF118, ho43⟩
                replace H := chk H; obtain ⟨c139, H⟩ := H
                have HF119 := HF118.perm (perm_f (perm_c (List.Perm.refl _)))
                refine eW (oApp (xs := s12.1) (ys := ([(rd ((rd t2 s9.2).f_Verts) s12.2)])) k_T_api_Vert HF119 rfl rfl Try.underlying26 Try.underlying26 ti35 rfl ho42 (srcR shrF ho43.rd HF119 (sub_a sub_h)) c139 rfl) rfl ?_
                rintro _ w83 ⟨L44, A53, c140, rfl, HF120, ho44⟩
                refine sL (asg rfl) rfl ?_
                refine lEnd (K := fun _ _ => True) ?_
                refine jN (jN (kN (?_)))
                refine hK79 _ _ ?_
                refine cRgn [] trivial ?_
                refine sL (bAdd rfl rfl) rfl ?_
                refine sL (mv rfl) rfl ?_
                refine lEnd (K := fun _ _ => True) ?_
                refine kN (?_)
                have HF121 := HF120.sublist (sl_a (sl_da (sl_dc (sl_c (sl_a (sl_a (List.Sublist.refl _)))))))
                exact ofEnv (fun a hE => ⟨_, (Option.some.inj H).symm, ⟨_, _, L44, hE.keep (Keep.cons rfl (Keep.cons rfl (Keep.cons rfl (Keep.cons rfl (Keep.cons rfl (Keep.cons rfl (Keep.cons rfl (Keep.cons rfl (Keep.cons rfl (Keep.cons rfl (Keep.cons rfl (Keep.nil)))))))))))), HF121, ho44⟩⟩)
              · replace H := itF c137 H
                refine cSet (i := 33) rfl (vF c137) ?_
                refine cF rfl ?_
                refine cSeq (fun K83 hK83 => ?_)
                refine cRgn [(3, 53)] ⟨rfl, trivial⟩ ?_
                refine sL (fa35_0 rfl) rfl ?_
                refine sL (ld rfl Try.underlying3 rfl (HF117.box (mem_h) rfl)) rfl ?_
                refine sL (bEql rfl rfl) rfl ?_
                refine sL (mv rfl) rfl ?_
                by_cases c141 : ((rd ((rd t2 s9.2).f_Verts) s12.2).f_Kind) = 2
                · replace H := itT c141 H
                  refine lSet (i := 53) rfl (dT c141) ?_
                  refine sG rfl rfl (mv rfl) rfl ?_
                  refine sG rfl rfl (mfn (f' := []) (c' := [.pointer (some ⟨g24, 0, none⟩), .pointer (some ⟨g18, 0, none⟩)]) rfl rfl) rfl ?_
                  have HF122 := HF117.perm (perm_c1 (perm_f1 (List.Perm.refl _)))
                  have HF123 := HF122.perm (perm_c1 (List.Perm.refl _))
                  replace H := bnd H; obtain ⟨t11, J13, H⟩ := H
                  refine eCallG rfl rfl isf36 rfl rfl rfl (f_slices_ContainsFunc_api_Lsa_api_Lsa_fn37_35_44.ok (a0 := t1) (a1_0 := (rd ((rd t2 s9.2).f_Verts) s12.2)) (a1_1 := (rd t2 s9.2)) (sub_a (sub_a (sub_a (sub_n hG)))) J13 HF123 (sub_a (sub_a sub_h)) (RdS.lift ho1.rd hs2 sub_r) hr8 hr9 hr10) ?_
                  rintro _ w84 ⟨rfl, HF124⟩
                  refine ⟨_, rfl, ?_⟩
                  refine sL (pkT rfl rfl) rfl ?_
                  refine sL (asg rfl) rfl ?_
                  refine lEnd (K := fun _ _ => True) ?_
                  refine kN (?_)
                  refine hK83 _ _ ?_
                  by_cases c142 : t11 = true
                  · replace H := itT c142 H
                    refine cSet (i := 49) rfl (vT c142) ?_
                    refine cT rfl ?_
                    refine cRgn [] trivial ?_
                    refine sL (mv rfl) rfl ?_
                    refine sL (ldA (cs := [.int .i64 ((rd ((rd t2 s9.2).f_Verts) s12.2).f_Kind), .int .i64 ((rd ((rd t2 s9.2).f_Verts) s12.2).f_Id)]) rfl ti35 rfl rfl (HF124.boxes (o := 0) (n := 2) (mem_h) rfl)) rfl ?_
                    refine eW (oLit (r := [.int .i64 ((rd ((rd t2 s9.2).f_Verts) s12.2).f_Kind), .int .i64 ((rd ((rd t2 s9.2).f_Verts) s12.2).f_Id)]) k_T_api_Vert [(rd ((rd t2 s9.2).f_Verts) s12.2)] HF124 Try.underlying26 ti35 rfl rfl rfl rfl ⟨[], [], [.int .i64 ((rd ((rd t2 s9.2).f_Verts) s12.2).f_Kind), .int .i64 ((rd ((rd t2 s9.2).f_Verts) s12.2).f_Id)], _, rfl, rfl, ⟨rfl, rfl⟩, ⟨rfl, rfl⟩⟩ rfl rfl) rfl ?_
                    rintro _ w85 ⟨L45, A54, c143, rfl, HF125, ho45⟩
                    replace H := chk H; obtain ⟨c144, H⟩ := H
                    have HF126 := HF125.perm (perm_f (perm_c (perm_c (List.Perm.refl _))))
                    refine eW (oApp (xs := s12.1) (ys := ([(rd ((rd t2 s9.2).f_Verts) s12.2)])) k_T_api_Vert HF126 rfl rfl Try.underlying26 Try.underlying26 ti35 rfl ho42 (srcR shrF ho45.rd HF126 (sub_a sub_h)) c144 rfl) rfl ?_
                    rintro _ w86 ⟨L46, A55, c145, rfl, HF127, ho46⟩
                    refine sL (asg rfl) rfl ?_
                    refine lEnd (K := fun _ _ => True) ?_
                    refine jN (jN (kN (?_)))
                    refine hK79 _ _ ?_
                    refine cRgn [] trivial ?_
                    refine sL (bAdd rfl rfl) rfl ?_
                    refine sL (mv rfl) rfl ?_
                    refine lEnd (K := fun _ _ => True) ?_
                    refine kN (?_)
                    have HF128 := HF127.sublist (sl_a (sl_da (sl_dc (sl_c (sl_a (sl_a (List.Sublist.refl _)))))))
                    exact ofEnv (fun a hE => ⟨_, (Option.some.inj H).symm, ⟨_, _, L46, hE.keep (Keep.cons rfl (Keep.cons rfl (Keep.cons rfl (Keep.cons rfl (Keep.cons rfl (Keep.cons rfl (Keep.cons rfl (Keep.cons rfl (Keep.cons rfl (Keep.cons rfl (Keep.cons rfl (Keep.nil)))))))))))), HF128, ho46⟩⟩)
                  · replace H := itF c142 H
                    refine cSet (i := 49) rfl (vF c142) ?_
                    refine cF rfl ?_
                    refine cSkip ?_
                    refine jN (jN (kN (?_)))
                    refine hK79 _ _ ?_
                    refine cRgn [] trivial ?_
                    refine sL (bAdd rfl rfl) rfl ?_
                    refine sL (mv rfl) rfl ?_
                    refine lEnd (K := fun _ _ => True) ?_
                    refine kN (?_)
                    have HF129 := HF124.sublist (sl_dc (sl_c (sl_a (sl_a (sl_a (List.Sublist.refl _))))))
                    have HF130 := HF129.perm (perm_c (perm_f (perm_f (List.Perm.refl _))))
                    have HF131 := HF130.perm (perm_f (perm_c (perm_f (List.Perm.refl _))))
                    have HF132 := HF131.perm (perm_f1 (perm_f1 (List.Perm.refl _)))
                    have HF133 := HF132.perm (perm_c (perm_f (perm_f (List.Perm.refl _))))
                    exact ofEnv (fun a hE => ⟨_, (Option.some.inj H).symm, ⟨_, _, L42, hE.keep (Keep.cons rfl (Keep.cons rfl (Keep.cons rfl (Keep.cons rfl (Keep.cons rfl (Keep.cons rfl (Keep.cons rfl (Keep.cons rfl (Keep.cons rfl (Keep.cons rfl (Keep.cons rfl (Keep.nil)))))))))))), HF133, ho42⟩⟩)
                · replace H := itF c141 H
                  refine lSet (i := 53) rfl (dF c141) ?_
                  refine sN rfl rfl rfl rfl ?_
                  refine sN rfl rfl rfl rfl ?_
                  refine sN rfl rfl rfl rfl ?_
                  refine sL (pkF rfl rfl) rfl ?_
                  refine sL (asg rfl) rfl ?_
                  refine lEnd (K := fun _ _ => True) ?_
                  refine kN (?_)
                  refine hK83 _ _ ?_
                  refine cF rfl ?_
                  refine cSkip ?_
                  refine jN (jN (kN (?_)))
                  refine hK79 _ _ ?_
                  refine cRgn [] trivial ?_
                  refine sL (bAdd rfl rfl) rfl ?_
                  refine sL (mv rfl) rfl ?_
                  refine lEnd (K := fun _ _ => True) ?_
                  refine kN (?_)
                  have HF134 := HF117.sublist (sl_dc (sl_a (sl_c (sl_a (sl_a (List.Sublist.refl _))))))
                  exact ofEnv (fun a hE => ⟨_, (Option.some.inj H).symm, ⟨_, _, L42, hE.keep (Keep.cons rfl (Keep.cons rfl (Keep.cons rfl (Keep.cons rfl (Keep.cons rfl (Keep.cons rfl (Keep.cons rfl (Keep.cons rfl (Keep.cons rfl (Keep.cons rfl (Keep.cons rfl (Keep.nil)))))))))))), HF134, ho42⟩⟩)
          · replace H := itF c134 H
            refine cSet (i := 27) rfl (nT c134) ?_
            refine cT rfl ?_
            refine cSkip ?_
            refine jN (jN (kN (?_)))
            refine hK79 _ _ ?_
            refine cRgn [] trivial ?_
            refine sL (bAdd rfl rfl) rfl ?_
            refine sL (mv rfl) rfl ?_
            refine lEnd (K := fun _ _ => True) ?_
            refine kN (?_)
            have HF135 := HF116.sublist (sl_dc (sl_a (sl_c (sl_a (sl_a (List.Sublist.refl _))))))
            exact ofEnv (fun a hE => ⟨_, (Option.some.inj H).symm, ⟨_, _, L42, hE.keep (Keep.cons rfl (Keep.cons rfl (Keep.cons rfl (Keep.cons rfl (Keep.cons rfl (Keep.cons rfl (Keep.cons rfl (Keep.cons rfl (Keep.cons rfl (Keep.cons rfl (Keep.cons rfl (Keep.nil)))))))))))), HF135, ho42⟩⟩)
        · replace H := itF c132 H
          refine cSet (i := 24) rfl (dF c132) ?_
          refine cF rfl ?_
          refine cExit ?_
          refine kX (kX (jX (kN (?_))))
          exact ofEnv (fun a hE => ⟨_, (Option.some.inj H).symm, ⟨_, _, L42, hE.keep (Keep.cons rfl (Keep.cons rfl (Keep.cons rfl (Keep.cons rfl (Keep.cons rfl (Keep.cons rfl (Keep.cons rfl (Keep.cons rfl (Keep.cons rfl (Keep.cons rfl (Keep.cons rfl (Keep.nil)))))))))))), HF114, ho42⟩⟩)
      · rintro s12 a w87 rfl ⟨A51, c131, L42, hE, HF140, ho42⟩
        replace H := Ho12
        refine go_k hE ?_
        refine jN (kN (?_))
        refine hK60 _ _ ?_
        refine cRgn [] trivial ?_
        refine sL (bAdd rfl rfl) rfl ?_
        refine sL (mv rfl) rfl ?_
        refine lEnd (K := fun _ _ => True) ?_
        refine kN (?_)
        have HF141 := HF140.sublist (sl_a (sl_dc (sl_a (sl_a (List.Sublist.refl _)))))
        exact ofEnv (fun a hE => ⟨_, (Option.some.inj H).symm, ⟨_, _, L42, hE.keep (Keep.cons rfl (Keep.cons rfl (Keep.cons rfl (Keep.cons rfl (Keep.cons rfl (Keep.cons rfl (Keep.cons rfl (Keep.nil)))))))), HF141, ho42⟩⟩)
    · replace H := itF c98 H
      refine cSet (i := 17) rfl (dF c98) ?_
      refine cF rfl ?_
      refine cExit ?_
      refine kX (kX (jX (kN (?_))))
      exact ofEnv (fun a hE => ⟨_, (Option.some.inj H).symm, ⟨_, _, L32, hE.keep (Keep.cons rfl (Keep.cons rfl (Keep.cons rfl (Keep.cons rfl (Keep.cons rfl (Keep.cons rfl (Keep.cons rfl (Keep.nil)))))))), HF87, ho32⟩⟩)
  · rintro s9 a w88 rfl ⟨A38, c97, L32, hE, HF142, ho32⟩
    replace H := Ho9
    refine go_k hE ?_
    refine kN (?_)
    refine hK4 _ _ ?_
    refine cSeq (fun K84 hK84 => ?_)
    refine cRgn [] trivial ?_
    refine sL (mv rfl) rfl ?_
    replace H := bnd H; obtain ⟨t12, J15, H⟩ := H
    refine eCall isf38 rfl rfl rfl (f_slices_SortFunc_api_Vert_api_Vert_fn39.ok (a0 := s9.1) J15 HF142 ho32) ?_
    rintro _ w89 ⟨L47, rfl, HF143, ho47⟩
    refine ⟨_, rfl, ?_⟩
    replace H := chk H; obtain ⟨c146, H⟩ := H
    refine lSet (i := 6) (v := .slice A38 t12.length c97) rfl (by rw [c146]) ?_
    refine lSet (i := 64) (v := .slice A38 t12.length c97) rfl (by rw [c146]) ?_
    refine lEnd (K := fun _ _ => True) ?_
    refine kN (?_)
    refine hK84 _ _ ?_
    refine cSeq (fun K85 hK85 => ?_)
    refine cRgn [] trivial ?_
    refine sL (mv rfl) rfl ?_
    replace H := bnd H; obtain ⟨t13, J16, H⟩ := H
    refine eCall isf42 rfl rfl rfl (f_slices_Compact_api_Vert_api_Vert.ok (a0 := t12) (sub_a (sub_a (sub_n hG))) J16 HF143 ho47) ?_
    rintro _ w90 ⟨A56, c147, L48, rfl, HF144, ho48⟩
    refine ⟨_, rfl, ?_⟩
    refine sL (asg rfl) rfl ?_
    refine lEnd (K := fun _ _ => True) ?_
    refine kN (?_)
    refine hK85 _ _ ?_
    refine cSeq (fun K86 hK86 => ?_)
    refine cRgn [] trivial ?_
    refine sL (mv rfl) rfl ?_
    refine sL (mv rfl) rfl ?_
    refine sL (lnS rfl Try.underlying26) rfl ?_
    refine sL (mv rfl) rfl ?_
    refine sL (lnS rfl Try.underlying26) rfl ?_
    replace H := chk H; obtain ⟨c148, H⟩ := H
    replace H := chk H; obtain ⟨c149, H⟩ := H
    refine eW (oCutOM (K := k_T_api_Vert) HF144 ho48 rfl Try.underlying26 ti35 rfl rfl rfl (by decide) c148 c149) rfl ?_
    rintro _ w91 ⟨L49, A57, c150, rfl, HF145, ho49⟩
    refine sL (asg rfl) rfl ?_
    refine lEnd (K := fun _ _ => True) ?_
    refine kN (?_)
    refine hK86 _ _ ?_
    refine cRet ?_
    obtain rfl := Option.some.inj H
    refine ret1 rfl rfl ?_
    have HF146 := HF145.sublist (sl_a (sl_da (sl_da (List.Sublist.refl _))))
    have HF147 := Fits.conv (L' := (L49 ++ ((N2 ++ N1) ++ F))) HF146 (by rw [hN1] <;> rfl)
    have HF148 := HF147.sublist (sl_a (sl_da (List.Sublist.refl _)))
    exact ⟨_, _, L49, rfl, HF148, ho49⟩
/-! ### plenum/topo.Map$1 (function 22) -/
abbrev f_topo_Map_1.R := Bool
noncomputable def f_topo_Map_1 (a0 : T_api_Lsa) : Option f_topo_Map_1.R := some (!decide (a0.f_Head.f_Id = a0.f_Head.f_Adv))
set_option maxHeartbeats 1000000 in
theorem f_topo_Map_1.ok {z w : World} {F G : Hp} (hG : G ⊆ F) {a0 : T_api_Lsa} {A_a0_8 : Option Addr} {c_a0_8 : Nat} {X_a0_8 : Hp} {A_a0_10 : Option Addr} {c_a0_10 : Nat} {X_a0_10 : Hp} {A_a0_11 : Option Addr} {c_a0_11 : Nat} {X_a0_11 : Hp} {r : f_topo_Map_1.R} (H : f_topo_Map_1 a0 = some r) (HF : Fits z w F) (hX_a0_8 : X_a0_8 ⊆ F) (hr_a0_8 : RdS k_T_api_Link X_a0_8 A_a0_8 c_a0_8 a0.f_Links) (hX_a0_10 : X_a0_10 ⊆ F) (hr_a0_10 : RdS (kInt .i64) X_a0_10 A_a0_10 c_a0_10 a0.f_Routers) (hX_a0_11 : X_a0_11 ⊆ F) (hr_a0_11 : RdS k_T_api_Vert X_a0_11 A_a0_11 c_a0_11 a0.f_Verts) :
    Calls Try.prog 22 [.agg [.int .i64 a0.f_Head.f_Age, .int .i64 a0.f_Head.f_Kind, .int .i64 a0.f_Head.f_Id, .int .i64 a0.f_Head.f_Adv, .int .i64 a0.f_Head.f_Seq, .int .i64 a0.f_Head.f_Sum, .int .i64 a0.f_Head.f_Len, .int .i64 a0.f_Flags, .slice A_a0_8 a0.f_Links.length c_a0_8, .int .i64 a0.f_Bits, .slice A_a0_10 a0.f_Routers.length c_a0_10, .slice A_a0_11 a0.f_Verts.length c_a0_11].toArray].toArray w fun e w' => e = .returned (.bool r) ∧ Fits z w' F := by
  unfold f_topo_Map_1 at H
  refine enter0 Try.func22 rfl Try.ntmps22 rfl (E := [(0, .agg [.int .i64 a0.f_Head.f_Age, .int .i64 a0.f_Head.f_Kind, .int .i64 a0.f_Head.f_Id, .int .i64 a0.f_Head.f_Adv, .int .i64 a0.f_Head.f_Seq, .int .i64 a0.f_Head.f_Sum, .int .i64 a0.f_Head.f_Len, .int .i64 a0.f_Flags, .slice A_a0_8 a0.f_Links.length c_a0_8, .int .i64 a0.f_Bits, .slice A_a0_10 a0.f_Routers.length c_a0_10, .slice A_a0_11 a0.f_Verts.length c_a0_11].toArray)]) rfl ?_
  refine cSeq (fun K1 hK1 => ?_)
  refine cRgn [] trivial ?_
  refine eW (oBox HF rfl) rfl ?_
  rintro _ w1 ⟨g1, rfl, HF1⟩
  refine sL (asg rfl) rfl ?_
  refine lEnd (K := fun _ _ => True) ?_
  refine kN (?_)
  refine hK1 _ _ ?_
  refine cSeq (fun K2 hK2 => ?_)
  refine cRgn [] trivial ?_
  refine sL (fa44_0 rfl) rfl ?_
  refine sL (fa41_2 rfl) rfl ?_
  refine sL (ld rfl Try.underlying3 rfl (HF1.box (mem_h) rfl)) rfl ?_
  refine sL (fa44_0 rfl) rfl ?_
  refine sL (fa41_3 rfl) rfl ?_
  refine sL (ld rfl Try.underlying3 rfl (HF1.box (mem_h) rfl)) rfl ?_
  refine sL (bNeq rfl rfl) rfl ?_
  refine sL (asg rfl) rfl ?_
  refine lEnd (K := fun _ _ => True) ?_
  refine kN (?_)
  refine hK2 _ _ ?_
  refine cRet ?_
  obtain rfl := Option.some.inj H
  refine ret1 rfl rfl ?_
  have HF2 := HF1.sublist (sl_dc (List.Sublist.refl _))
  exact ⟨rfl, HF2⟩
/-! ### slices.IndexFunc[[]plenum/api.Lsa,plenum/api.Lsa] (function 47) -/
abbrev f_slices_IndexFunc_api_Lsa_api_Lsa_fn22.R := Int
noncomputable def f_slices_IndexFunc_api_Lsa_api_Lsa_fn22.b0 (a0 : List T_api_Lsa) (s1 : Int) : Option (Sum (Int) (Sum (Int) f_slices_IndexFunc_api_Lsa_api_Lsa_fn22.R)) := (if s1 < (a0.length : Int) then (if 0 ≤ s1 then ((f_topo_Map_1 (rd a0 s1)).bind fun t3 => (if t3 = true then some (.inr (.inr s1)) else some (.inl (IntKind.i64.wrap (s1 + 1))))) else none) else some (.inr (.inl s1)))
noncomputable def f_slices_IndexFunc_api_Lsa_api_Lsa_fn22 (a0 : List T_api_Lsa) : Option f_slices_IndexFunc_api_Lsa_api_Lsa_fn22.R := ((loopO (f_slices_IndexFunc_api_Lsa_api_Lsa_fn22.b0 a0) 0).bind fun y1 => match y1 with | .inl s1 => some (-1) | .inr r_ => some r_)
set_option maxHeartbeats 1000000 in
theorem f_slices_IndexFunc_api_Lsa_api_Lsa_fn22.ok {z w : World} {F G : Hp} (hG : G ⊆ F) {a0 : List T_api_Lsa} {A_a0 : Option Addr} {c_a0 : Nat} {X_a0 : Hp} {r : f_slices_IndexFunc_api_Lsa_api_Lsa_fn22.R} (H : f_slices_IndexFunc_api_Lsa_api_Lsa_fn22 a0 = some r) (HF : Fits z w F) (hX_a0 : X_a0 ⊆ F) (hr_a0 : RdS (kShr G k_T_api_Lsa) X_a0 A_a0 c_a0 a0) :
    Calls Try.prog 47 [.slice A_a0 a0.length c_a0, .func (.func 22) [].toArray [].toArray].toArray w fun e w' => e = .returned (.int .i64 r) ∧ Fits z w' F := by
  unfold f_slices_IndexFunc_api_Lsa_api_Lsa_fn22 at H
  refine enter0 Try.func47 rfl Try.ntmps47 rfl (E := [(0, .slice A_a0 a0.length c_a0), (1, .func (.func 22) [].toArray [].toArray)]) rfl ?_
  refine cSeq (fun K1 hK1 => ?_)
  refine cRgn [] trivial ?_
  refine sL (asg rfl) rfl ?_
  refine lEnd (K := fun _ _ => True) ?_
  refine kN (?_)
  refine hK1 _ _ ?_
  refine cSeq (fun K2 hK2 => ?_)
  refine cSeq (fun K3 hK3 => ?_)
  refine cRgn [] trivial ?_
  refine sL (mv rfl) rfl ?_
  refine sL (lnS rfl Try.underlying24) rfl ?_
  refine sL (mv rfl) rfl ?_
  refine lEnd (K := fun _ _ => True) ?_
  refine kN (?_)
  refine hK3 _ _ ?_
  replace H := bnd H; obtain ⟨y1, J4, Ho1⟩ := H
  refine cLoopB (f_slices_IndexFunc_api_Lsa_api_Lsa_fn22.b0 a0) (fun (s1 : Int) a w => Env 19 [(0, .slice A_a0 a0.length c_a0), (1, .func (.func 22) [].toArray [].toArray), (4, .int .i64 0), (7, .int .i64 (a0.length : Int)), (8, .int .i64 s1)] a ∧ Fits z w F) J4 (fun a hE => ⟨hE.keep (Keep.cons rfl (Keep.cons rfl (Keep.cons rfl (Keep.cons rfl (Keep.cons rfl (Keep.nil)))))), HF⟩) ?_ ?_
  · rintro s1 a w3 y2 ⟨hE, HF3⟩ H Hx1
    refine go_ hE ?_
    refine cSeq (fun K16 hK16 => ?_)
    refine cRgn [] trivial ?_
    refine sL (bLss rfl rfl) rfl ?_
    refine lEnd (K := fun _ _ => True) ?_
    refine kN (?_)
    refine hK16 _ _ ?_
    refine cSeq (fun K17 hK17 => ?_)
    by_cases c12 : s1 < (a0.length : Int)
    · replace H := itT c12 H
      refine cSet (i := 9) rfl (dT c12) ?_
      refine cT rfl ?_
      refine cSkip ?_
      refine kN (?_)
      refine hK17 _ _ ?_
      refine cSeq (fun K18 hK18 => ?_)
      refine cBlock ?_
      refine cSeq (fun K19 hK19 => ?_)
      refine cRgn [] trivial ?_
      refine sL (mv rfl) rfl ?_
      refine sL (asg rfl) rfl ?_
      refine lEnd (K := fun _ _ => True) ?_
      refine kN (?_)
      refine hK19 _ _ ?_
      refine cSeq (fun K20 hK20 => ?_)
      refine cRgn [] trivial ?_
      refine sL (mv rfl) rfl ?_
      refine sL (mv rfl) rfl ?_
      refine sL (mv rfl) rfl ?_
      replace H := chk H; obtain ⟨c13, H⟩ := H
      obtain ⟨g3, o3, e6, rfl, hk3, q3⟩ := RdS.at_ hr_a0 c13 c12
      obtain ⟨A7, c14, A8, c15, A9, c16, rfl, hr7, hr8, hr9⟩ := rd_T_api_Lsa hk3
      refine sL (ia rfl rfl Try.underlying24 ti44 c13 c12) rfl ?_
      refine sL (ldA rfl ti44 rfl rfl (fun j v hj => HF3.cells (hX_a0) (q3 j v hj))) rfl ?_
      replace H := bnd H; obtain ⟨t3, J3, H⟩ := H
      refine eCall isf22 rfl rfl rfl (f_topo_Map_1.ok (a0 := (rd a0 s1)) hG J3 HF3 hG hr7 hG hr8 hG hr9) ?_
      rintro _ w4 ⟨rfl, HF4⟩
      refine ⟨_, rfl, ?_⟩
      refine lEnd (K := fun _ _ => True) ?_
      refine kN (?_)
      refine hK20 _ _ ?_
      by_cases c17 : t3 = true
      · replace H := itT c17 H
        refine cSet (i := 16) rfl (vT c17) ?_
        refine cT rfl ?_
        refine cSeq (fun K21 hK21 => ?_)
        refine cRgn [] trivial ?_
        refine sL (mv rfl) rfl ?_
        refine sL (asg rfl) rfl ?_
        refine lEnd (K := fun _ _ => True) ?_
        refine kN (?_)
        refine hK21 _ _ ?_
        refine cRet ?_
        have e_ := Hx1 _ (Option.some.inj H).symm
        subst e_
        replace H := Ho1
        obtain rfl := Option.some.inj H
        refine jR (kR (kR (jR (kR (kR (?_))))))
        refine ret1 rfl rfl ?_
        exact ⟨rfl, HF4⟩
      · replace H := itF c17 H
        refine cSet (i := 16) rfl (vF c17) ?_
        refine cF rfl ?_
        refine cSkip ?_
        refine jN (kN (?_))
        refine hK18 _ _ ?_
        refine cRgn [] trivial ?_
        refine sL (bAdd rfl rfl) rfl ?_
        refine sL (mv rfl) rfl ?_
        refine lEnd (K := fun _ _ => True) ?_
        refine kN (?_)
        exact ofEnv (fun a hE => ⟨_, (Option.some.inj H).symm, ⟨hE.keep (Keep.cons rfl (Keep.cons rfl (Keep.cons rfl (Keep.cons rfl (Keep.cons rfl (Keep.nil)))))), HF4⟩⟩)
    · replace H := itF c12 H
      refine cSet (i := 9) rfl (dF c12) ?_
      refine cF rfl ?_
      refine cExit ?_
      refine kX (kX (jX (kN (?_))))
      exact ofEnv (fun a hE => ⟨_, (Option.some.inj H).symm, ⟨hE.keep (Keep.cons rfl (Keep.cons rfl (Keep.cons rfl (Keep.cons rfl (Keep.cons rfl (Keep.nil)))))), HF3⟩⟩)
  · rintro s1 a w5 rfl ⟨hE, HF5⟩
    replace H := Ho1
    refine go_k hE ?_
    refine kN (?_)
    refine hK2 _ _ ?_
    refine cSeq (fun K22 hK22 => ?_)
    refine cRgn [] trivial ?_
    refine sL (asg rfl) rfl ?_
    refine lEnd (K := fun _ _ => True) ?_
    refine kN (?_)
    refine hK22 _ _ ?_
    refine cRet ?_
    obtain rfl := Option.some.inj H
    refine ret1 rfl rfl ?_
    exact ⟨rfl, HF5⟩
/-! ### slices.DeleteFunc[[]plenum/api.Lsa,plenum/api.Lsa] (function 20) -/
abbrev f_slices_DeleteFunc_api_Lsa_api_Lsa_fn22.R := List T_api_Lsa
noncomputable def f_slices_DeleteFunc_api_Lsa_api_Lsa_fn22.b0 (s1 : Int × Int × (List T_api_Lsa)) : Option (Sum (Int × Int × (List T_api_Lsa)) (Sum (Int × Int × (List T_api_Lsa)) f_slices_DeleteFunc_api_Lsa_api_Lsa_fn22.R)) := (if s1.2.1 < (s1.2.2.length : Int) then (if 0 ≤ s1.2.1 then ((f_topo_Map_1 (rd s1.2.2 s1.2.1)).bind fun t4 => (if t4 = true then some (.inl (s1.1, IntKind.i64.wrap (s1.2.1 + 1), s1.2.2)) else (if 0 ≤ s1.1 then (if s1.1 < (s1.2.2.length : Int) then some (.inl (IntKind.i64.wrap (s1.1 + 1), IntKind.i64.wrap (s1.2.1 + 1), setI s1.2.2 s1.1 (rd s1.2.2 s1.2.1))) else none) else none))) else none) else some (.inr (.inl (s1.1, s1.2.1, s1.2.2))))
noncomputable def f_slices_DeleteFunc_api_Lsa_api_Lsa_fn22 (a0 : List T_api_Lsa) : Option f_slices_DeleteFunc_api_Lsa_api_Lsa_fn22.R := ((f_slices_IndexFunc_api_Lsa_api_Lsa_fn22 a0).bind fun t1 => (if t1 = (-1) then some a0 else ((loopO f_slices_DeleteFunc_api_Lsa_api_Lsa_fn22.b0 (t1, IntKind.i64.wrap (t1 + 1), a0)).bind fun y1 => match y1 with | .inl s1 => (if 0 ≤ s1.1 then (if s1.1 ≤ (s1.2.2.length : Int) then (if s1.1 ≤ ((clrL s1.2.2 s1.1 (⟨(⟨0, 0, 0, 0, 0, 0, 0⟩ : T_api_Head), 0, [], 0, [], []⟩ : T_api_Lsa)).length : Int) then some (cutL (clrL s1.2.2 s1.1 (⟨(⟨0, 0, 0, 0, 0, 0, 0⟩ : T_api_Head), 0, [], 0, [], []⟩ : T_api_Lsa)) (0 : Int) s1.1) else none) else none) else none) | .inr r_ => some r_)))
set_option maxHeartbeats 1000000 in
theorem f_slices_DeleteFunc_api_Lsa_api_Lsa_fn22.ok {z w : World} {F G : Hp} (hG : G ⊆ F) {a0 : List T_api_Lsa} {A_a0 : Option Addr} {c_a0 : Nat} {L_a0 : Hp} {r : f_slices_DeleteFunc_api_Lsa_api_Lsa_fn22.R} (H : f_slices_DeleteFunc_api_Lsa_api_Lsa_fn22 a0 = some r) (HF : Fits z w (L_a0 ++ F)) (ho_a0 : OwnS (kShr G k_T_api_Lsa) L_a0 A_a0 c_a0 a0) :
    Calls Try.prog 20 [.slice A_a0 a0.length c_a0, .func (.func 22) [].toArray [].toArray].toArray w fun e w' => ∃ (N : Hp) (A0 : Option Addr) (c0 : Nat) (L0 : Hp), e = .returned (.slice A0 r.length c0) ∧ Fits z w' (L0 ++ (N ++ F)) ∧ OwnS (kShr (N ++ G) k_T_api_Lsa) L0 A0 c0 r := by
  unfold f_slices_DeleteFunc_api_Lsa_api_Lsa_fn22 at H
  refine enter0 Try.func20 rfl Try.ntmps20 rfl (E := [(0, .slice A_a0 a0.length c_a0), (1, .func (.func 22) [].toArray [].toArray)]) rfl ?_
  refine cSeq (fun K1 hK1 => ?_)
  refine cRgn [] trivial ?_
  refine sL (asg rfl) rfl ?_
  refine lEnd (K := fun _ _ => True) ?_
  refine kN (?_)
  refine hK1 _ _ ?_
  refine cSeq (fun K2 hK2 => ?_)
  refine cRgn [] trivial ?_
  refine sL (mv rfl) rfl ?_
  refine sL (mv rfl) rfl ?_
  replace H := bnd H; obtain ⟨t1, J1, H⟩ := H
  refine eCall isf47 rfl rfl rfl (f_slices_IndexFunc_api_Lsa_api_Lsa_fn22.ok (a0 := a0) (sub_a hG) J1 HF sub_h ho_a0.rd) ?_
  rintro _ w1 ⟨rfl, HF1⟩
  refine ⟨_, rfl, ?_⟩
  refine sL (asg rfl) rfl ?_
  refine lEnd (K := fun _ _ => True) ?_
  refine kN (?_)
  refine hK2 _ _ ?_
  refine cSeq (fun K3 hK3 => ?_)
  refine cSeq (fun K4 hK4 => ?_)
  refine cRgn [] trivial ?_
  refine sL (mv rfl) rfl ?_
  refine sL (bEql rfl rfl) rfl ?_
  refine lEnd (K := fun _ _ => True) ?_
  refine kN (?_)
  refine hK4 _ _ ?_
  by_cases c1 : t1 = (-1)
  · replace H := itT c1 H
    refine cSet (i := 12) rfl (dT c1) ?_
    refine cT rfl ?_
    refine cSeq (fun K5 hK5 => ?_)
    refine cRgn [] trivial ?_
    refine sL (mv rfl) rfl ?_
    refine sL (asg rfl) rfl ?_
    refine lEnd (K := fun _ _ => True) ?_
    refine kN (?_)
    refine hK5 _ _ ?_
    refine cRet ?_
    obtain rfl := Option.some.inj H
    refine kR (?_)
    refine ret1 rfl rfl ?_
    exact ⟨[], _, _, L_a0, rfl, HF1, ho_a0⟩
  · replace H := itF c1 H
    refine cSet (i := 12) rfl (dF c1) ?_
    refine cF rfl ?_
    refine cSkip ?_
    refine kN (?_)
    refine hK3 _ _ ?_
    refine cSeq (fun K6 hK6 => ?_)
    refine cSeq (fun K7 hK7 => ?_)
    refine cRgn [] trivial ?_
    refine sL (mv rfl) rfl ?_
    refine sL (bAdd rfl rfl) rfl ?_
    refine sL (asg rfl) rfl ?_
    refine lEnd (K := fun _ _ => True) ?_
    refine kN (?_)
    refine hK7 _ _ ?_
    replace H := bnd H; obtain ⟨y1, J5, Ho1⟩ := H
    refine cLoopB f_slices_DeleteFunc_api_Lsa_api_Lsa_fn22.b0 (fun (s1 : Int × Int × (List T_api_Lsa)) a w => ∃ (L4 : Hp), Env 42 [(0, .slice A_a0 s1.2.2.length c_a0), (1, .func (.func 22) [].toArray [].toArray), (4, .slice none 0 0), (5, .int .i64 s1.1), (6, .int .i64 s1.2.1)] a ∧ Fits z w (L4 ++ F) ∧ OwnS (kShr G k_T_api_Lsa) L4 A_a0 c_a0 s1.2.2) J5 (fun a hE => ⟨L_a0, hE.keep (Keep.cons rfl (Keep.cons rfl (Keep.cons rfl (Keep.cons rfl (Keep.cons rfl (Keep.nil)))))), HF1, ho_a0⟩) ?_ ?_
    · rintro s1 a w10 y2 ⟨L4, hE, HF12, ho4⟩ H Hx1
      refine go_ hE ?_
      refine cSeq (fun K20 hK20 => ?_)
      refine cSeq (fun K21 hK21 => ?_)
      refine cRgn [] trivial ?_
      refine sL (mv rfl) rfl ?_
      refine sL (mv rfl) rfl ?_
      refine sL (lnS rfl Try.underlying24) rfl ?_
      refine sL (bLss rfl rfl) rfl ?_
      refine lEnd (K := fun _ _ => True) ?_
      refine kN (?_)
      refine hK21 _ _ ?_
      by_cases c24 : s1.2.1 < (s1.2.2.length : Int)
      · replace H := itT c24 H
        refine cSet (i := 19) rfl (dT c24) ?_
        refine cT rfl ?_
        refine cSkip ?_
        refine kN (?_)
        refine hK20 _ _ ?_
        refine cSeq (fun K22 hK22 => ?_)
        refine cBlock ?_
        refine cSeq (fun K23 hK23 => ?_)
        refine cRgn [] trivial ?_
        refine sL (mv rfl) rfl ?_
        refine sL (mv rfl) rfl ?_
        replace H := chk H; obtain ⟨c25, H⟩ := H
        obtain ⟨g5, o3, e10, rfl, hk5, q5⟩ := RdS.at_ ho4.rd c25 c24
        obtain ⟨A13, c26, A14, c27, A15, c28, rfl, hr13, hr14, hr15⟩ := rd_T_api_Lsa hk5
        refine sL (ia rfl rfl Try.underlying24 ti44 c25 c24) rfl ?_
        refine sL (ldA rfl ti44 rfl rfl (fun j v hj => HF12.cells (sub_h) (q5 j v hj))) rfl ?_
        refine eW (oAlloc HF12 ti44) rfl ?_
        rintro _ w11 ⟨g6, rfl, HF13⟩
        refine eS (oSt (l1 := [.int .i64 ((rd s1.2.2 s1.2.1).f_Head.f_Age), .int .i64 ((rd s1.2.2 s1.2.1).f_Head.f_Kind), .int .i64 ((rd s1.2.2 s1.2.1).f_Head.f_Id), .int .i64 ((rd s1.2.2 s1.2.1).f_Head.f_Adv), .int .i64 ((rd s1.2.2 s1.2.1).f_Head.f_Seq), .int .i64 ((rd s1.2.2 s1.2.1).f_Head.f_Sum), .int .i64 ((rd s1.2.2 s1.2.1).f_Head.f_Len), .int .i64 ((rd s1.2.2 s1.2.1).f_Flags), .slice A13 ((rd s1.2.2 s1.2.1).f_Links).length c26, .int .i64 ((rd s1.2.2 s1.2.1).f_Bits), .slice A14 ((rd s1.2.2 s1.2.1).f_Routers).length c27, .slice A15 ((rd s1.2.2 s1.2.1).f_Verts).length c28]) HF13 rfl rfl ti44 rfl (ones rfl) (Nat.le_of_ble_eq_true rfl) rfl) ?_
        rintro w12 HF14
        refine lEnd (K := fun _ _ => True) ?_
        refine kN (?_)
        refine hK23 _ _ ?_
        refine cSeq (fun K24 hK24 => ?_)
        refine cRgn [] trivial ?_
        refine sL (mv rfl) rfl ?_
        refine sL (ldA (cs := [.int .i64 ((rd s1.2.2 s1.2.1).f_Head.f_Age), .int .i64 ((rd s1.2.2 s1.2.1).f_Head.f_Kind), .int .i64 ((rd s1.2.2 s1.2.1).f_Head.f_Id), .int .i64 ((rd s1.2.2 s1.2.1).f_Head.f_Adv), .int .i64 ((rd s1.2.2 s1.2.1).f_Head.f_Seq), .int .i64 ((rd s1.2.2 s1.2.1).f_Head.f_Sum), .int .i64 ((rd s1.2.2 s1.2.1).f_Head.f_Len), .int .i64 ((rd s1.2.2 s1.2.1).f_Flags), .slice A13 ((rd s1.2.2 s1.2.1).f_Links).length c26, .int .i64 ((rd s1.2.2 s1.2.1).f_Bits), .slice A14 ((rd s1.2.2 s1.2.1).f_Routers).length c27, .slice A15 ((rd s1.2.2 s1.2.1).f_Verts).length c28]) rfl ti44 rfl rfl (HF14.boxes (o := 0) (n := 12) (mem_h) rfl)) rfl ?_
        replace H := bnd H; obtain ⟨t4, J4, H⟩ := H
        refine eCall isf22 rfl rfl rfl (f_topo_Map_1.ok (a0 := (rd s1.2.2 s1.2.1)) (sub_c (sub_a hG)) J4 HF14 (sub_c (sub_a hG)) hr13 (sub_c (sub_a hG)) hr14 (sub_c (sub_a hG)) hr15) ?_
        rintro _ w13 ⟨rfl, HF15⟩
        refine ⟨_, rfl, ?_⟩
        refine sL (uNot rfl) rfl ?_
        refine lEnd (K := fun _ _ => True) ?_
        refine kN (?_)
        refine hK24 _ _ ?_
        by_cases c29 : t4 = true
        · replace H := itT c29 H
          refine cSet (i := 29) rfl (wF c29) ?_
          refine cF rfl ?_
          refine cSkip ?_
          refine jN (kN (?_))
          refine hK22 _ _ ?_
          refine cRgn [] trivial ?_
          refine sL (mv rfl) rfl ?_
          refine sL (bAdd rfl rfl) rfl ?_
          refine sL (asg rfl) rfl ?_
          refine lEnd (K := fun _ _ => True) ?_
          refine kN (?_)
          have HF16 := HF15.sublist (sl_dc (sl_a (List.Sublist.refl _)))
          exact ofEnv (fun a hE => ⟨_, (Option.some.inj H).symm, ⟨L4, hE.keep (Keep.cons rfl (Keep.cons rfl (Keep.cons rfl (Keep.cons rfl (Keep.cons rfl (Keep.nil)))))), HF16, ho4⟩⟩)
        · replace H := itF c29 H
          refine cSet (i := 29) rfl (wT c29) ?_
          refine cT rfl ?_
          refine cSeq (fun K25 hK25 => ?_)
          refine cRgn [] trivial ?_
          refine sL (mv rfl) rfl ?_
          refine sL (mv rfl) rfl ?_
          refine sL (ldA (cs := [.int .i64 ((rd s1.2.2 s1.2.1).f_Head.f_Age), .int .i64 ((rd s1.2.2 s1.2.1).f_Head.f_Kind), .int .i64 ((rd s1.2.2 s1.2.1).f_Head.f_Id), .int .i64 ((rd s1.2.2 s1.2.1).f_Head.f_Adv), .int .i64 ((rd s1.2.2 s1.2.1).f_Head.f_Seq), .int .i64 ((rd s1.2.2 s1.2.1).f_Head.f_Sum), .int .i64 ((rd s1.2.2 s1.2.1).f_Head.f_Len), .int .i64 ((rd s1.2.2 s1.2.1).f_Flags), .slice A13 ((rd s1.2.2 s1.2.1).f_Links).length c26, .int .i64 ((rd s1.2.2 s1.2.1).f_Bits), .slice A14 ((rd s1.2.2 s1.2.1).f_Routers).length c27, .slice A15 ((rd s1.2.2 s1.2.1).f_Verts).length c28]) rfl ti44 rfl rfl (HF15.boxes (o := 0) (n := 12) (mem_h) rfl)) rfl ?_
          replace H := chk H; obtain ⟨c30, H⟩ := H
          replace H := chk H; obtain ⟨c31, H⟩ := H
          obtain ⟨e12, hk6, q6⟩ := RdS.at' ho4.rd c30 c31
          obtain ⟨A16, c32, A17, c33, A18, c34, rfl, hr16, hr17, hr18⟩ := rd_T_api_Lsa hk6
          refine sL (ia rfl rfl Try.underlying24 ti44 c30 c31) rfl ?_
          have HF17 := HF15.perm (perm_c (List.Perm.refl _))
          refine eS (oStE (K := (kShr G k_T_api_Lsa)) (c := c_a0) (off := 0) (y' := (rd s1.2.2 s1.2.1)) shrS HF17 ho4 c30 c31 rfl rfl ti44 rfl (ones rfl) (Nat.le_of_ble_eq_true rfl) (fun ci hci => shrAll hci rfl (mk_T_api_Lsa (x := (rd s1.2.2 s1.2.1)) (hr13) (hr14) (hr15)))) ?_
          rintro w14 ⟨L5, HF18, ho5⟩
          refine lSet (i := 0) (v := .slice (some ⟨g5, o3, none⟩) (setI s1.2.2 s1.1 (rd s1.2.2 s1.2.1)).length c_a0) rfl (by simp only [len_setI]) ?_
          refine lSet (i := 17) (v := .slice (some ⟨g5, o3, none⟩) (setI s1.2.2 s1.1 (rd s1.2.2 s1.2.1)).length c_a0) rfl (by simp only [len_setI]) ?_
          refine lSet (i := 22) (v := .slice (some ⟨g5, o3, none⟩) (setI s1.2.2 s1.1 (rd s1.2.2 s1.2.1)).length c_a0) rfl (by simp only [len_setI]) ?_
          refine lSet (i := 30) (v := .slice (some ⟨g5, o3, none⟩) (setI s1.2.2 s1.1 (rd s1.2.2 s1.2.1)).length c_a0) rfl (by simp only [len_setI]) ?_
          refine lEnd (K := fun _ _ => True) ?_
          refine kN (?_)
          refine hK25 _ _ ?_
          refine cRgn [] trivial ?_
          refine sL (mv rfl) rfl ?_
          refine sL (bAdd rfl rfl) rfl ?_
          refine sL (asg rfl) rfl ?_
          refine lEnd (K := fun _ _ => True) ?_
          refine jN (kN (?_))
          refine hK22 _ _ ?_
          refine cRgn [] trivial ?_
          refine sL (mv rfl) rfl ?_
          refine sL (bAdd rfl rfl) rfl ?_
          refine sL (asg rfl) rfl ?_
          refine lEnd (K := fun _ _ => True) ?_
          refine kN (?_)
          have HF19 := HF18.sublist (sl_a (sl_dc (List.Sublist.refl _)))
          exact ofEnv (fun a hE => ⟨_, (Option.some.inj H).symm, ⟨L5, hE.keep (Keep.cons rfl (Keep.cons rfl (Keep.cons rfl (Keep.cons rfl (Keep.cons rfl (Keep.nil)))))), HF19, ho5⟩⟩)
      · replace H := itF c24 H
        refine cSet (i := 19) rfl (dF c24) ?_
        refine cF rfl ?_
        refine cExit ?_
        refine kX (kX (jX (kN (?_))))
        exact ofEnv (fun a hE => ⟨_, (Option.some.inj H).symm, ⟨L4, hE.keep (Keep.cons rfl (Keep.cons rfl (Keep.cons rfl (Keep.cons rfl (Keep.cons rfl (Keep.nil)))))), HF12, ho4⟩⟩)
    · rintro s1 a w15 rfl ⟨L4, hE, HF20, ho4⟩
      replace H := Ho1
      refine go_k hE ?_
      refine kN (?_)
      refine hK6 _ _ ?_
      refine cSeq (fun K26 hK26 => ?_)
      refine cRgn [] trivial ?_
      refine sL (mv rfl) rfl ?_
      refine sL (mv rfl) rfl ?_
      replace H := chk H; obtain ⟨c35, H⟩ := H
      replace H := chk H; obtain ⟨c36, H⟩ := H
      refine sL (slcN (xs := s1.2.2) rfl Try.underlying24 ti44 rfl rfl (ho4.rd).1 c35 c36 (Int.le_refl _)) rfl ?_
      refine eW0 (oClear (K := (kShr G k_T_api_Lsa)) (lo := s1.1) shrS (⟨(⟨0, 0, 0, 0, 0, 0, 0⟩ : T_api_Head), 0, [], 0, [], []⟩ : T_api_Lsa) HF20 ho4 rfl Try.underlying24 ti44 ⟨rfl, mk_T_api_Lsa (x := (⟨(⟨0, 0, 0, 0, 0, 0, 0⟩ : T_api_Head), 0, [], 0, [], []⟩ : T_api_Lsa)) RdS.nil RdS.nil RdS.nil⟩ c35 c36) ?_
      rintro _ w16 ⟨L6, rfl, HF21, ho6⟩
      refine lSet (i := 0) (v := .slice A_a0 (clrL s1.2.2 s1.1 (⟨(⟨0, 0, 0, 0, 0, 0, 0⟩ : T_api_Head), 0, [], 0, [], []⟩ : T_api_Lsa)).length c_a0) rfl (by rw [len_clrL c36]) ?_
      refine lSet (i := 36) (v := .slice A_a0 (clrL s1.2.2 s1.1 (⟨(⟨0, 0, 0, 0, 0, 0, 0⟩ : T_api_Head), 0, [], 0, [], []⟩ : T_api_Lsa)).length c_a0) rfl (by rw [len_clrL c36]) ?_
      refine lEnd (K := fun _ _ => True) ?_
      refine kN (?_)
      refine hK26 _ _ ?_
      refine cSeq (fun K27 hK27 => ?_)
      refine cRgn [] trivial ?_
      refine sL (mv rfl) rfl ?_
      refine sL (mv rfl) rfl ?_
      replace H := chk H; obtain ⟨c37, H⟩ := H
      refine sL (slcN (xs := (clrL s1.2.2 s1.1 (⟨(⟨0, 0, 0, 0, 0, 0, 0⟩ : T_api_Head), 0, [], 0, [], []⟩ : T_api_Lsa))) rfl Try.underlying24 ti44 rfl rfl (ho6.rd).1 (by decide) c35 c37) rfl ?_
      refine sL (asg rfl) rfl ?_
      refine lEnd (K := fun _ _ => True) ?_
      refine kN (?_)
      refine hK27 _ _ ?_
      refine cRet ?_
      obtain ⟨L7, HF22, ho7⟩ := OwnS.cutV ho6 HF21 (by decide) c35 c37
      obtain rfl := Option.some.inj H
      refine ret1 rfl rfl ?_
      exact ⟨[], _, _, L7, rfl, HF22, ho7⟩
/-! ### plenum/topo.once$1 (function 46) -/
abbrev f_topo_once_1.R := Bool
noncomputable def f_topo_once_1 (a0 : T_api_Lsa) (a1 : T_api_Lsa) : Option f_topo_once_1.R := some (decide (a0.f_Head.f_Id = a1.f_Head.f_Id))
set_option maxHeartbeats 1000000 in
theorem f_topo_once_1.ok {z w : World} {F G : Hp} (hG : G ⊆ F) {a0 : T_api_Lsa} {A_a0_8 : Option Addr} {c_a0_8 : Nat} {X_a0_8 : Hp} {A_a0_10 : Option Addr} {c_a0_10 : Nat} {X_a0_10 : Hp} {A_a0_11 : Option Addr} {c_a0_11 : Nat} {X_a0_11 : Hp} {a1 : T_api_Lsa} {A_a1_8 : Option Addr} {c_a1_8 : Nat} {X_a1_8 : Hp} {A_a1_10 : Option Addr} {c_a1_10 : Nat} {X_a1_10 : Hp} {A_a1_11 : Option Addr} {c_a1_11 : Nat} {X_a1_11 : Hp} {r : f_topo_once_1.R} (H : f_topo_once_1 a0 a1 = some r) (HF : Fits z w F) (hX_a0_8 : X_a0_8 ⊆ F) (hr_a0_8 : RdS k_T_api_Link X_a0_8 A_a0_8 c_a0_8 a0.f_Links) (hX_a0_10 : X_a0_10 ⊆ F) (hr_a0_10 : RdS (kInt .i64) X_a0_10 A_a0_10 c_a0_10 a0.f_Routers) (hX_a0_11 : X_a0_11 ⊆ F) (hr_a0_11 : RdS k_T_api_Vert X_a0_11 A_a0_11 c_a0_11 a0.f_Verts) (hX_a1_8 : X_a1_8 ⊆ F) (hr_a1_8 : RdS k_T_api_Link X_a1_8 A_a1_8 c_a1_8 a1.f_Links) (hX_a1_10 : X_a1_10 ⊆ F) (hr_a1_10 : RdS (kInt .i64) X_a1_10 A_a1_10 c_a1_10 a1.f_Routers) (hX_a1_11 : X_a1_11 ⊆ F) (hr_a1_11 : RdS k_T_api_Vert X_a1_11 A_a1_11 c_a1_11 a1.f_Verts) :
    Calls Try.prog 46 [.agg [.int .i64 a0.f_Head.f_Age, .int .i64 a0.f_Head.f_Kind, .int .i64 a0.f_Head.f_Id, .int .i64 a0.f_Head.f_Adv, .int .i64 a0.f_Head.f_Seq, .int .i64 a0.f_Head.f_Sum, .int .i64 a0.f_Head.f_Len, .int .i64 a0.f_Flags, .slice A_a0_8 a0.f_Links.length c_a0_8, .int .i64 a0.f_Bits, .slice A_a0_10 a0.f_Routers.length c_a0_10, .slice A_a0_11 a0.f_Verts.length c_a0_11].toArray, .agg [.int .i64 a1.f_Head.f_Age, .int .i64 a1.f_Head.f_Kind, .int .i64 a1.f_Head.f_Id, .int .i64 a1.f_Head.f_Adv, .int .i64 a1.f_Head.f_Seq, .int .i64 a1.f_Head.f_Sum, .int .i64 a1.f_Head.f_Len, .int .i64 a1.f_Flags, .slice A_a1_8 a1.f_Links.length c_a1_8, .int .i64 a1.f_Bits, .slice A_a1_10 a1.f_Routers.length c_a1_10, .slice A_a1_11 a1.f_Verts.length c_a1_11].toArray].toArray w fun e w' => e = .returned (.bool r) ∧ Fits z w' F := by
  unfold f_topo_once_1 at H
  refine enter0 Try.func46 rfl Try.ntmps46 rfl (E := [(0, .agg [.int .i64 a0.f_Head.f_Age, .int .i64 a0.f_Head.f_Kind, .int .i64 a0.f_Head.f_Id, .int .i64 a0.f_Head.f_Adv, .int .i64 a0.f_Head.f_Seq, .int .i64 a0.f_Head.f_Sum, .int .i64 a0.f_Head.f_Len, .int .i64 a0.f_Flags, .slice A_a0_8 a0.f_Links.length c_a0_8, .int .i64 a0.f_Bits, .slice A_a0_10 a0.f_Routers.length c_a0_10, .slice A_a0_11 a0.f_Verts.length c_a0_11].toArray), (1, .agg [.int .i64 a1.f_Head.f_Age, .int .i64 a1.f_Head.f_Kind, .int .i64 a1.f_Head.f_Id, .int .i64 a1.f_Head.f_Adv, .int .i64 a1.f_Head.f_Seq, .int .i64 a1.f_Head.f_Sum, .int .i64 a1.f_Head.f_Len, .int .i64 a1.f_Flags, .slice A_a1_8 a1.f_Links.length c_a1_8, .int .i64 a1.f_Bits, .slice A_a1_10 a1.f_Routers.length c_a1_10, .slice A_a1_11 a1.f_Verts.length c_a1_11].toArray)]) rfl ?_
  refine cSeq (fun K1 hK1 => ?_)
  refine cRgn [] trivial ?_
  refine eW (oBox HF rfl) rfl ?_
  rintro _ w1 ⟨g1, rfl, HF1⟩
  refine eW (oBox HF1 rfl) rfl ?_
  rintro _ w2 ⟨g2, rfl, HF2⟩
  refine sL (asg rfl) rfl ?_
  refine lEnd (K := fun _ _ => True) ?_
  refine kN (?_)
  refine hK1 _ _ ?_
  refine cSeq (fun K2 hK2 => ?_)
  refine cRgn [] trivial ?_
  refine sL (fa44_0 rfl) rfl ?_
  refine sL (fa41_2 rfl) rfl ?_
  refine sL (ld rfl Try.underlying3 rfl (HF2.box (mem_c mem_h) rfl)) rfl ?_
  refine sL (fa44_0 rfl) rfl ?_
  refine sL (fa41_2 rfl) rfl ?_
  refine sL (ld rfl Try.underlying3 rfl (HF2.box (mem_h) rfl)) rfl ?_
  refine sL (bEql rfl rfl) rfl ?_
  refine sL (asg rfl) rfl ?_
  refine lEnd (K := fun _ _ => True) ?_
  refine kN (?_)
  refine hK2 _ _ ?_
  refine cRet ?_
  obtain rfl := Option.some.inj H
  refine ret1 rfl rfl ?_
  have HF3 := HF2.sublist (sl_dc (sl_dc (List.Sublist.refl _)))
  exact ⟨rfl, HF3⟩
/-! ### slices.CompactFunc[[]plenum/api.Lsa,plenum/api.Lsa] (function 45) -/
abbrev f_slices_CompactFunc_api_Lsa_api_Lsa_fn46.R := List T_api_Lsa
noncomputable def f_slices_CompactFunc_api_Lsa_api_Lsa_fn46.b0 (s3 : Int) (s4 : Int × Int × (List T_api_Lsa)) : Option (Sum (Int × Int × (List T_api_Lsa)) (Sum (Int × Int × (List T_api_Lsa)) f_slices_CompactFunc_api_Lsa_api_Lsa_fn46.R)) := (if s4.2.1 < ((cutL s4.2.2 s3 (s4.2.2.length : Int)).length : Int) then (if 0 ≤ s3 then (if s3 ≤ (s4.2.2.length : Int) then (if 0 ≤ s4.2.1 then (if 0 ≤ (IntKind.i64.wrap (s4.2.1 - 1)) then (if (IntKind.i64.wrap (s4.2.1 - 1)) < ((cutL s4.2.2 s3 (s4.2.2.length : Int)).length : Int) then ((f_topo_once_1 (rd (cutL s4.2.2 s3 (s4.2.2.length : Int)) s4.2.1) (rd (cutL s4.2.2 s3 (s4.2.2.length : Int)) (IntKind.i64.wrap (s4.2.1 - 1)))).bind fun t24 => (if t24 = true then some (.inl (s4.1, IntKind.i64.wrap (s4.2.1 + 1), s4.2.2)) else (if 0 ≤ s4.1 then (if s4.1 < (s4.2.2.length : Int) then some (.inl (IntKind.i64.wrap (s4.1 + 1), IntKind.i64.wrap (s4.2.1 + 1), setI s4.2.2 s4.1 (rd (cutL s4.2.2 s3 (s4.2.2.length : Int)) s4.2.1))) else none) else none))) else none) else none) else none) else none) else none) else some (.inr (.inl (s4.1, s4.2.1, s4.2.2))))
noncomputable def f_slices_CompactFunc_api_Lsa_api_Lsa_fn46.b1 (a0 : List T_api_Lsa) (s3 : Int) : Option (Sum (Int) (Sum (Int) f_slices_CompactFunc_api_Lsa_api_Lsa_fn46.R)) := (if s3 < (a0.length : Int) then (if 0 ≤ s3 then (if 0 ≤ (IntKind.i64.wrap (s3 - 1)) then (if (IntKind.i64.wrap (s3 - 1)) < (a0.length : Int) then ((f_topo_once_1 (rd a0 s3) (rd a0 (IntKind.i64.wrap (s3 - 1)))).bind fun t18 => (if t18 = true then (if s3 ≤ (a0.length : Int) then ((loopO (f_slices_CompactFunc_api_Lsa_api_Lsa_fn46.b0 s3) (s3, 1, a0)).bind fun y7 => match y7 with | .inl s4 => (if 0 ≤ s4.1 then (if s4.1 ≤ (s4.2.2.length : Int) then (if s4.1 ≤ ((clrL s4.2.2 s4.1 (⟨(⟨0, 0, 0, 0, 0, 0, 0⟩ : T_api_Head), 0, [], 0, [], []⟩ : T_api_Lsa)).length : Int) then some (.inr (.inr (cutL (clrL s4.2.2 s4.1 (⟨(⟨0, 0, 0, 0, 0, 0, 0⟩ : T_api_Head), 0, [], 0, [], []⟩ : T_api_Lsa)) (0 : Int) s4.1))) else none) else none) else none) | .inr r_ => some (.inr (.inr r_))) else none) else some (.inl (IntKind.i64.wrap (s3 + 1))))) else none) else none) else none) else some (.inr (.inl s3)))
noncomputable def f_slices_CompactFunc_api_Lsa_api_Lsa_fn46 (a0 : List T_api_Lsa) : Option f_slices_CompactFunc_api_Lsa_api_Lsa_fn46.R := (if (a0.length : Int) < 2 then some a0 else ((loopO (f_slices_CompactFunc_api_Lsa_api_Lsa_fn46.b1 a0) 1).bind fun y5 => match y5 with | .inl s3 => some a0 | .inr r_ => some r_))
set_option maxHeartbeats 1000000 in
theorem f_slices_CompactFunc_api_Lsa_api_Lsa_fn46.ok {z w : World} {F G : Hp} (hG : G ⊆ F) {a0 : List T_api_Lsa} {A_a0 : Option Addr} {c_a0 : Nat} {L_a0 : Hp} {r : f_slices_CompactFunc_api_Lsa_api_Lsa_fn46.R} (H : f_slices_CompactFunc_api_Lsa_api_Lsa_fn46 a0 = some r) (HF : Fits z w (L_a0 ++ F)) (ho_a0 : OwnS (kShr G k_T_api_Lsa) L_a0 A_a0 c_a0 a0) :
    Calls Try.prog 45 [.slice A_a0 a0.length c_a0, .func (.func 46) [].toArray [].toArray].toArray w fun e w' => ∃ (N : Hp) (A0 : Option Addr) (c0 : Nat) (L0 : Hp), e = .returned (.slice A0 r.length c0) ∧ Fits z w' (L0 ++ (N ++ F)) ∧ OwnS (kShr (N ++ G) k_T_api_Lsa) L0 A0 c0 r := by
  unfold f_slices_CompactFunc_api_Lsa_api_Lsa_fn46 at H
  refine enter0 Try.func45 rfl Try.ntmps45 rfl (E := [(0, .slice A_a0 a0.length c_a0), (1, .func (.func 46) [].toArray [].toArray)]) rfl ?_
  refine cSeq (fun K1 hK1 => ?_)
  refine cRgn [] trivial ?_
  refine sL (asg rfl) rfl ?_
  refine lEnd (K := fun _ _ => True) ?_
  refine kN (?_)
  refine hK1 _ _ ?_
  refine cSeq (fun K2 hK2 => ?_)
  refine cSeq (fun K3 hK3 => ?_)
  refine cRgn [] trivial ?_
  refine sL (mv rfl) rfl ?_
  refine sL (lnS rfl Try.underlying24) rfl ?_
  refine sL (bLss rfl rfl) rfl ?_
  refine lEnd (K := fun _ _ => True) ?_
  refine kN (?_)
  refine hK3 _ _ ?_
  by_cases c1 : (a0.length : Int) < 2
  · replace H := itT c1 H
    refine cSet (i := 10) rfl (dT c1) ?_
    refine cT rfl ?_
    refine cSeq (fun K4 hK4 => ?_)
    refine cRgn [] trivial ?_
    refine sL (mv rfl) rfl ?_
    refine sL (asg rfl) rfl ?_
    refine lEnd (K := fun _ _ => True) ?_
    refine kN (?_)
    refine hK4 _ _ ?_
    refine cRet ?_
    obtain rfl := Option.some.inj H
    refine kR (?_)
    refine ret1 rfl rfl ?_
    exact ⟨[], _, _, L_a0, rfl, HF, ho_a0⟩
  · replace H := itF c1 H
    refine cSet (i := 10) rfl (dF c1) ?_
    refine cF rfl ?_
    refine cSkip ?_
    refine kN (?_)
    refine hK2 _ _ ?_
    refine cSeq (fun K5 hK5 => ?_)
    refine cSeq (fun K6 hK6 => ?_)
    refine cRgn [] trivial ?_
    refine sL (asg rfl) rfl ?_
    refine lEnd (K := fun _ _ => True) ?_
    refine kN (?_)
    refine hK6 _ _ ?_
    replace H := bnd H; obtain ⟨y5, J28, Ho3⟩ := H
    refine cLoopB (f_slices_CompactFunc_api_Lsa_api_Lsa_fn46.b1 a0) (fun (s3 : Int) a w => Env 66 [(0, .slice A_a0 a0.length c_a0), (1, .func (.func 46) [].toArray [].toArray), (4, .slice none 0 0), (5, .int .i64 s3)] a ∧ Fits z w (L_a0 ++ F)) J28 (fun a hE => ⟨hE.keep (Keep.cons rfl (Keep.cons rfl (Keep.cons rfl (Keep.cons rfl (Keep.nil))))), HF⟩) ?_ ?_
    · rintro s3 a w37 y6 ⟨hE, HF39⟩ H Hx3
      refine go_ hE ?_
      refine cSeq (fun K55 hK55 => ?_)
      refine cSeq (fun K56 hK56 => ?_)
      refine cRgn [] trivial ?_
      refine sL (mv rfl) rfl ?_
      refine sL (mv rfl) rfl ?_
      refine sL (lnS rfl Try.underlying24) rfl ?_
      refine sL (bLss rfl rfl) rfl ?_
      refine lEnd (K := fun _ _ => True) ?_
      refine kN (?_)
      refine hK56 _ _ ?_
      by_cases c228 : s3 < (a0.length : Int)
      · replace H := itT c228 H
        refine cSet (i := 15) rfl (dT c228) ?_
        refine cT rfl ?_
        refine cSkip ?_
        refine kN (?_)
        refine hK55 _ _ ?_
        refine cSeq (fun K57 hK57 => ?_)
        refine cBlock ?_
        refine cSeq (fun K58 hK58 => ?_)
        refine cDraw mo_ HF39 rfl (fun w => Fits z w (L_a0 ++ F)) (fun w39 HF41 => ?_)
        refine hTake 0 rfl (by kernel_rfl) (pThen (pBlock (pThen (pThen (pBlock (pThen (pThen pFn))))))) (fun w_ hS_ => mv rfl) HF41 rfl rfl ?_
        refine hTake 1 rfl (by kernel_rfl) (pThen (pBlock (pThen (pThen (pBlock (pThen (pThen pFn))))))) (fun w_ hS_ => mv rfl) HF41 rfl rfl ?_
        refine hTake 2 rfl (by kernel_rfl) (pThen (pBlock (pThen (pThen (pBlock (pThen (pThen pFn))))))) (fun w_ hS_ => mv rfl) HF41 rfl rfl ?_
        replace H := chk H; obtain ⟨c238, H⟩ := H
        obtain ⟨g36, o36, e94, rfl, hk47, q47⟩ := RdS.at_ ho_a0.rd c238 c228
        obtain ⟨A139, c239, A140, c240, A141, c241, rfl, hr139, hr140, hr141⟩ := rd_T_api_Lsa hk47
        refine hTake 3 rfl (by kernel_rfl) (pThen (pBlock (pThen (pThen (pBlock (pThen (pThen pFn))))))) (fun w_ hS_ => ia rfl rfl Try.underlying24 ti44 c238 c228) HF41 rfl rfl ?_
        refine hTake 4 rfl (by kernel_rfl) (pThen (pBlock (pThen (pThen (pBlock (pThen (pThen pFn))))))) (fun w_ hS_ => ldA rfl ti44 rfl rfl (fun j v hj => hS_.cells (sub_h) (q47 j v hj))) HF41 rfl rfl ?_
        refine hTake 5 rfl (by kernel_rfl) (pThen (pBlock (pThen (pThen (pBlock (pThen (pThen pFn))))))) (fun w_ hS_ => mv rfl) HF41 rfl rfl ?_
        refine hTake 6 rfl (by kernel_rfl) (pThen (pBlock (pThen (pThen (pBlock (pThen (pThen pFn))))))) (fun w_ hS_ => mv rfl) HF41 rfl rfl ?_
        refine hTake 7 rfl (by kernel_rfl) (pThen (pBlock (pThen (pThen (pBlock (pThen (pThen pFn))))))) (fun w_ hS_ => bSub rfl rfl) HF41 rfl rfl ?_
        replace H := chk H; obtain ⟨c242, H⟩ := H
        replace H := chk H; obtain ⟨c243, H⟩ := H
        obtain ⟨e96, hk48, q48⟩ := RdS.at' ho_a0.rd c242 c243
        obtain ⟨A142, c244, A143, c245, A144, c246, rfl, hr142, hr143, hr144⟩ := rd_T_api_Lsa hk48
        refine hTake 8 rfl (by kernel_rfl) (pThen (pBlock (pThen (pThen (pBlock (pThen (pThen pFn))))))) (fun w_ hS_ => ia rfl rfl Try.underlying24 ti44 c242 c243) HF41 rfl rfl ?_
        refine hTake 9 rfl (by kernel_rfl) (pThen (pBlock (pThen (pThen (pBlock (pThen (pThen pFn))))))) (fun w_ hS_ => ldA rfl ti44 rfl rfl (fun j v hj => hS_.cells (sub_h) (q48 j v hj))) HF41 rfl rfl ?_
        refine h1 10 (by kernel_rfl) rfl ?_
        replace H := bnd H; obtain ⟨t18, J20, H⟩ := H
        refine qCall rfl gd0 isf46 rfl rfl rfl (f_topo_once_1.ok (a0 := (rd a0 s3)) (a1 := (rd a0 (IntKind.i64.wrap (s3 - 1)))) (sub_a hG) J20 HF41 (sub_a hG) hr139 (sub_a hG) hr140 (sub_a hG) hr141 (sub_a hG) hr142 (sub_a hG) hr143 (sub_a hG) hr144) ?_
        rintro _ w40 ⟨rfl, HF42⟩
        refine ⟨_, rfl, HF42, ?_⟩
        refine hEnd (by kernel_rfl) ?_
        refine kN (?_)
        refine hK58 _ _ ?_
        by_cases c247 : t18 = true
        · replace H := itT c247 H
          refine cSet (i := 28) rfl (vT c247) ?_
          refine cT rfl ?_
          refine cSeq (fun K59 hK59 => ?_)
          refine cRgn [] trivial ?_
          refine sL (mv rfl) rfl ?_
          refine sL (mv rfl) rfl ?_
          replace H := chk H; obtain ⟨c248, H⟩ := H
          refine sL (slcN (xs := a0) rfl Try.underlying24 ti44 rfl rfl (ho_a0.rd).1 c238 c248 (Int.le_refl _)) rfl ?_
          refine sL (asg rfl) rfl ?_
          refine lEnd (K := fun _ _ => True) ?_
          refine kN (?_)
          refine hK59 _ _ ?_
          refine cSeq (fun K60 hK60 => ?_)
          refine cSeq (fun K61 hK61 => ?_)
          refine cRgn [] trivial ?_
          refine sL (asg rfl) rfl ?_
          refine lEnd (K := fun _ _ => True) ?_
          refine kN (?_)
          refine hK61 _ _ ?_
          replace H := bnd H; obtain ⟨y7, J27, Ho4⟩ := H
          refine cLoopB (f_slices_CompactFunc_api_Lsa_api_Lsa_fn46.b0 s3) (fun (s4 : Int × Int × (List T_api_Lsa)) a w => ∃ (L18 : Hp), Env 66 [(0, .slice (some ⟨g36, o36, none⟩) s4.2.2.length c_a0), (1, .func (.func 46) [].toArray [].toArray), (4, .slice none 0 0), (5, .int .i64 s4.1), (6, .slice (cutA (some ⟨g36, o36, none⟩) (c_a0 - s3.toNat) (s3.toNat * 12)) (cutL s4.2.2 s3 (s4.2.2.length : Int)).length (c_a0 - s3.toNat)), (7, .int .i64 s4.2.1)] a ∧ Fits z w (L18 ++ F) ∧ OwnS (kShr G k_T_api_Lsa) L18 (some ⟨g36, o36, none⟩) c_a0 s4.2.2) J27 (fun a hE => ⟨L_a0, hE.keep (Keep.cons rfl (Keep.cons rfl (Keep.cons rfl (Keep.cons rfl (Keep.cons rfl (Keep.cons rfl (Keep.nil))))))), HF42, ho_a0⟩) ?_ ?_
          · rintro s4 a w49 y8 ⟨L18, hE, HF51, ho18⟩ H Hx4
            refine go_ hE ?_
            refine cSeq (fun K72 hK72 => ?_)
            refine cSeq (fun K73 hK73 => ?_)
            refine cRgn [] trivial ?_
            refine sL (mv rfl) rfl ?_
            refine sL (mv rfl) rfl ?_
            refine sL (lnS rfl Try.underlying24) rfl ?_
            refine sL (bLss rfl rfl) rfl ?_
            refine lEnd (K := fun _ _ => True) ?_
            refine kN (?_)
            refine hK73 _ _ ?_
            by_cases c310 : s4.2.1 < ((cutL s4.2.2 s3 (s4.2.2.length : Int)).length : Int)
            · replace H := itT c310 H
              refine cSet (i := 35) rfl (dT c310) ?_
              refine cT rfl ?_
              refine cSkip ?_
              refine kN (?_)
              refine hK72 _ _ ?_
              refine cSeq (fun K74 hK74 => ?_)
              refine cBlock ?_
              refine cSeq (fun K75 hK75 => ?_)
              refine cDraw mo_ HF51 rfl (fun w => Fits z w (L18 ++ F)) (fun w51 HF53 => ?_)
              refine hTake 0 rfl (by kernel_rfl) (pThen (pBlock (pThen (pThen (pBlock (pThen (pThen (pBlock (pThen (pThen (pBlock (pThen (pThen pFn))))))))))))) (fun w_ hS_ => mv rfl) HF53 rfl rfl ?_
              refine hTake 1 rfl (by kernel_rfl) (pThen (pBlock (pThen (pThen (pBlock (pThen (pThen (pBlock (pThen (pThen (pBlock (pThen (pThen pFn))))))))))))) (fun w_ hS_ => mv rfl) HF53 rfl rfl ?_
              refine hTake 2 rfl (by kernel_rfl) (pThen (pBlock (pThen (pThen (pBlock (pThen (pThen (pBlock (pThen (pThen (pBlock (pThen (pThen pFn))))))))))))) (fun w_ hS_ => mv rfl) HF53 rfl rfl ?_
              replace H := chk H; obtain ⟨c322, H⟩ := H
              replace H := chk H; obtain ⟨c323, H⟩ := H
              replace H := chk H; obtain ⟨c324, H⟩ := H
              obtain ⟨g49, o49, e126, hA43, hk63, q63⟩ := RdS.at_ (RdS.cutN ho18.rd c322 c323 (Int.le_refl _)) c324 c310
              obtain ⟨A187, c325, A188, c326, A189, c327, rfl, hr187, hr188, hr189⟩ := rd_T_api_Lsa hk63
              refine hTake 3 rfl (by kernel_rfl) (pThen (pBlock (pThen (pThen (pBlock (pThen (pThen (pBlock (pThen (pThen (pBlock (pThen (pThen pFn))))))))))))) (fun w_ hS_ => iaV hA43 rfl rfl Try.underlying24 ti44 c324 c310) HF53 rfl rfl ?_
              refine hTake 4 rfl (by kernel_rfl) (pThen (pBlock (pThen (pThen (pBlock (pThen (pThen (pBlock (pThen (pThen (pBlock (pThen (pThen pFn))))))))))))) (fun w_ hS_ => ldA rfl ti44 rfl rfl (fun j v hj => hS_.cells (sub_h) (q63 j v hj))) HF53 rfl rfl ?_
              refine hTake 5 rfl (by kernel_rfl) (pThen (pBlock (pThen (pThen (pBlock (pThen (pThen (pBlock (pThen (pThen (pBlock (pThen (pThen pFn))))))))))))) (fun w_ hS_ => mv rfl) HF53 rfl rfl ?_
              refine hTake 6 rfl (by kernel_rfl) (pThen (pBlock (pThen (pThen (pBlock (pThen (pThen (pBlock (pThen (pThen (pBlock (pThen (pThen pFn))))))))))))) (fun w_ hS_ => mv rfl) HF53 rfl rfl ?_
              refine hTake 7 rfl (by kernel_rfl) (pThen (pBlock (pThen (pThen (pBlock (pThen (pThen (pBlock (pThen (pThen (pBlock (pThen (pThen pFn))))))))))))) (fun w_ hS_ => bSub rfl rfl) HF53 rfl rfl ?_
              replace H := chk H; obtain ⟨c328, H⟩ := H
              replace H := chk H; obtain ⟨c329, H⟩ := H
              obtain ⟨g50, o50, e128, hA44, hk64, q64⟩ := RdS.at_ (RdS.cutN ho18.rd c322 c323 (Int.le_refl _)) c328 c329
              obtain ⟨A190, c330, A191, c331, A192, c332, rfl, hr190, hr191, hr192⟩ := rd_T_api_Lsa hk64
              refine hTake 8 rfl (by kernel_rfl) (pThen (pBlock (pThen (pThen (pBlock (pThen (pThen (pBlock (pThen (pThen (pBlock (pThen (pThen pFn))))))))))))) (fun w_ hS_ => iaV hA44 rfl rfl Try.underlying24 ti44 c328 c329) HF53 rfl rfl ?_
              refine hTake 9 rfl (by kernel_rfl) (pThen (pBlock (pThen (pThen (pBlock (pThen (pThen (pBlock (pThen (pThen (pBlock (pThen (pThen pFn))))))))))))) (fun w_ hS_ => ldA rfl ti44 rfl rfl (fun j v hj => hS_.cells (sub_h) (q64 j v hj))) HF53 rfl rfl ?_
              refine h1 10 (by kernel_rfl) rfl ?_
              replace H := bnd H; obtain ⟨t24, J26, H⟩ := H
              refine qCall rfl gd0 isf46 rfl rfl rfl (f_topo_once_1.ok (a0 := (rd (cutL s4.2.2 s3 (s4.2.2.length : Int)) s4.2.1)) (a1 := (rd (cutL s4.2.2 s3 (s4.2.2.length : Int)) (IntKind.i64.wrap (s4.2.1 - 1)))) (sub_a hG) J26 HF53 (sub_a hG) hr187 (sub_a hG) hr188 (sub_a hG) hr189 (sub_a hG) hr190 (sub_a hG) hr191 (sub_a hG) hr192) ?_
              rintro _ w52 ⟨rfl, HF54⟩
              refine ⟨_, rfl, HF54, ?_⟩
              refine hTake 11 rfl (by kernel_rfl) (pThen (pBlock (pThen (pThen (pBlock (pThen (pThen (pBlock (pThen (pThen (pBlock (pThen (pThen pFn))))))))))))) (fun w_ hS_ => uNot rfl) HF54 rfl rfl ?_
              refine hEnd (by kernel_rfl) ?_
              refine kN (?_)
              refine hK75 _ _ ?_
              by_cases c333 : t24 = true
              · replace H := itT c333 H
                refine cSet (i := 49) rfl (wF c333) ?_
                refine cF rfl ?_
                refine cSkip ?_
                refine jN (kN (?_))
                refine hK74 _ _ ?_
                refine cRgn [] trivial ?_
                refine sL (mv rfl) rfl ?_
                refine sL (bAdd rfl rfl) rfl ?_
                refine sL (asg rfl) rfl ?_
                refine lEnd (K := fun _ _ => True) ?_
                refine kN (?_)
                exact ofEnv (fun a hE => ⟨_, (Option.some.inj H).symm, ⟨L18, hE.keep (Keep.cons rfl (Keep.cons rfl (Keep.cons rfl (Keep.cons rfl (Keep.cons rfl (Keep.cons rfl (Keep.nil))))))), HF54, ho18⟩⟩)
              · replace H := itF c333 H
                refine cSet (i := 49) rfl (wT c333) ?_
                refine cT rfl ?_
                refine cSeq (fun K76 hK76 => ?_)
                refine cRgn [] trivial ?_
                refine sL (mv rfl) rfl ?_
                refine sL (mv rfl) rfl ?_
                refine sL (mv rfl) rfl ?_
                refine sL (mv rfl) rfl ?_
                obtain ⟨g51, o51, e130, hA45, hk65, q65⟩ := RdS.at_ (RdS.cutN ho18.rd c322 c323 (Int.le_refl _)) c324 c310
                obtain ⟨A193, c334, A194, c335, A195, c336, rfl, hr193, hr194, hr195⟩ := rd_T_api_Lsa hk65
                refine sL (iaV hA45 rfl rfl Try.underlying24 ti44 c324 c310) rfl ?_
                refine sL (ldA rfl ti44 rfl rfl (fun j v hj => HF54.cells (sub_h) (q65 j v hj))) rfl ?_
                replace H := chk H; obtain ⟨c337, H⟩ := H
                replace H := chk H; obtain ⟨c338, H⟩ := H
                obtain ⟨e132, hk66, q66⟩ := RdS.at' ho18.rd c337 c338
                obtain ⟨A196, c339, A197, c340, A198, c341, rfl, hr196, hr197, hr198⟩ := rd_T_api_Lsa hk66
                refine sL (ia rfl rfl Try.underlying24 ti44 c337 c338) rfl ?_
                refine eS (oStE (K := (kShr G k_T_api_Lsa)) (c := c_a0) (off := 0) (y' := (rd (cutL s4.2.2 s3 (s4.2.2.length : Int)) s4.2.1)) shrS HF54 ho18 c337 c338 rfl rfl ti44 rfl (ones rfl) (Nat.le_of_ble_eq_true rfl) (fun ci hci => shrAll hci rfl (mk_T_api_Lsa (x := (rd (cutL s4.2.2 s3 (s4.2.2.length : Int)) s4.2.1)) (hr193) (hr194) (hr195)))) ?_
                rintro w53 ⟨L19, HF55, ho19⟩
                refine lSet (i := 0) (v := .slice (some ⟨g36, o36, none⟩) (setI s4.2.2 s4.1 (rd (cutL s4.2.2 s3 (s4.2.2.length : Int)) s4.2.1)).length c_a0) rfl (by simp only [len_setI]) ?_
                refine lSet (i := 6) (v := .slice (cutA (some ⟨g36, o36, none⟩) (c_a0 - s3.toNat) (s3.toNat * 12)) (cutL (setI s4.2.2 s4.1 (rd (cutL s4.2.2 s3 (s4.2.2.length : Int)) s4.2.1)) s3 ((setI s4.2.2 s4.1 (rd (cutL s4.2.2 s3 (s4.2.2.length : Int)) s4.2.1)).length : Int)).length (c_a0 - s3.toNat)) rfl (by simp only [len_cutSet, len_setI]) ?_
                refine lSet (i := 33) (v := .slice (cutA (some ⟨g36, o36, none⟩) (c_a0 - s3.toNat) (s3.toNat * 12)) (cutL (setI s4.2.2 s4.1 (rd (cutL s4.2.2 s3 (s4.2.2.length : Int)) s4.2.1)) s3 ((setI s4.2.2 s4.1 (rd (cutL s4.2.2 s3 (s4.2.2.length : Int)) s4.2.1)).length : Int)).length (c_a0 - s3.toNat)) rfl (by simp only [len_cutSet, len_setI]) ?_
                refine lSet (i := 39) (v := .slice (cutA (some ⟨g36, o36, none⟩) (c_a0 - s3.toNat) (s3.toNat * 12)) (cutL (setI s4.2.2 s4.1 (rd (cutL s4.2.2 s3 (s4.2.2.length : Int)) s4.2.1)) s3 ((setI s4.2.2 s4.1 (rd (cutL s4.2.2 s3 (s4.2.2.length : Int)) s4.2.1)).length : Int)).length (c_a0 - s3.toNat)) rfl (by simp only [len_cutSet, len_setI]) ?_
                refine lSet (i := 43) (v := .slice (cutA (some ⟨g36, o36, none⟩) (c_a0 - s3.toNat) (s3.toNat * 12)) (cutL (setI s4.2.2 s4.1 (rd (cutL s4.2.2 s3 (s4.2.2.length : Int)) s4.2.1)) s3 ((setI s4.2.2 s4.1 (rd (cutL s4.2.2 s3 (s4.2.2.length : Int)) s4.2.1)).length : Int)).length (c_a0 - s3.toNat)) rfl (by simp only [len_cutSet, len_setI]) ?_
                refine lSet (i := 50) (v := .slice (some ⟨g36, o36, none⟩) (setI s4.2.2 s4.1 (rd (cutL s4.2.2 s3 (s4.2.2.length : Int)) s4.2.1)).length c_a0) rfl (by simp only [len_setI]) ?_
                refine lSet (i := 52) (v := .slice (cutA (some ⟨g36, o36, none⟩) (c_a0 - s3.toNat) (s3.toNat * 12)) (cutL (setI s4.2.2 s4.1 (rd (cutL s4.2.2 s3 (s4.2.2.length : Int)) s4.2.1)) s3 ((setI s4.2.2 s4.1 (rd (cutL s4.2.2 s3 (s4.2.2.length : Int)) s4.2.1)).length : Int)).length (c_a0 - s3.toNat)) rfl (by simp only [len_cutSet, len_setI]) ?_
                refine lEnd (K := fun _ _ => True) ?_
                refine kN (?_)
                refine hK76 _ _ ?_
                refine cRgn [] trivial ?_
                refine sL (mv rfl) rfl ?_
                refine sL (bAdd rfl rfl) rfl ?_
                refine sL (asg rfl) rfl ?_
                refine lEnd (K := fun _ _ => True) ?_
                refine jN (kN (?_))
                refine hK74 _ _ ?_
                refine cRgn [] trivial ?_
                refine sL (mv rfl) rfl ?_
                refine sL (bAdd rfl rfl) rfl ?_
                refine sL (asg rfl) rfl ?_
                refine lEnd (K := fun _ _ => True) ?_
                refine kN (?_)
                exact ofEnv (fun a hE => ⟨_, (Option.some.inj H).symm, ⟨L19, hE.keep (Keep.cons rfl (Keep.cons rfl (Keep.cons rfl (Keep.cons rfl (Keep.cons rfl (Keep.cons rfl (Keep.nil))))))), HF55, ho19⟩⟩)
            · replace H := itF c310 H
              refine cSet (i := 35) rfl (dF c310) ?_
              refine cF rfl ?_
              refine cExit ?_
              refine kX (kX (jX (kN (?_))))
              exact ofEnv (fun a hE => ⟨_, (Option.some.inj H).symm, ⟨L18, hE.keep (Keep.cons rfl (Keep.cons rfl (Keep.cons rfl (Keep.cons rfl (Keep.cons rfl (Keep.cons rfl (Keep.nil))))))), HF51, ho18⟩⟩)
          · rintro s4 a w54 rfl ⟨L18, hE, HF56, ho18⟩
            replace H := Ho4
            refine go_k hE ?_
            refine kN (?_)
            refine hK60 _ _ ?_
            refine cSeq (fun K77 hK77 => ?_)
            refine cRgn [] trivial ?_
            refine sL (mv rfl) rfl ?_
            refine sL (mv rfl) rfl ?_
            replace H := chk H; obtain ⟨c342, H⟩ := H
            replace H := chk H; obtain ⟨c343, H⟩ := H
            refine sL (slcN (xs := s4.2.2) rfl Try.underlying24 ti44 rfl rfl (ho18.rd).1 c342 c343 (Int.le_refl _)) rfl ?_
            refine eW0 (oClear (K := (kShr G k_T_api_Lsa)) (lo := s4.1) shrS (⟨(⟨0, 0, 0, 0, 0, 0, 0⟩ : T_api_Head), 0, [], 0, [], []⟩ : T_api_Lsa) HF56 ho18 rfl Try.underlying24 ti44 ⟨rfl, mk_T_api_Lsa (x := (⟨(⟨0, 0, 0, 0, 0, 0, 0⟩ : T_api_Head), 0, [], 0, [], []⟩ : T_api_Lsa)) RdS.nil RdS.nil RdS.nil⟩ c342 c343) ?_
            rintro _ w55 ⟨L20, rfl, HF57, ho20⟩
            refine lSet (i := 0) (v := .slice (some ⟨g36, o36, none⟩) (clrL s4.2.2 s4.1 (⟨(⟨0, 0, 0, 0, 0, 0, 0⟩ : T_api_Head), 0, [], 0, [], []⟩ : T_api_Lsa)).length c_a0) rfl (by rw [len_clrL c343]) ?_
            refine lSet (i := 59) (v := .slice (some ⟨g36, o36, none⟩) (clrL s4.2.2 s4.1 (⟨(⟨0, 0, 0, 0, 0, 0, 0⟩ : T_api_Head), 0, [], 0, [], []⟩ : T_api_Lsa)).length c_a0) rfl (by rw [len_clrL c343]) ?_
            refine lEnd (K := fun _ _ => True) ?_
            refine kN (?_)
            refine hK77 _ _ ?_
            refine cSeq (fun K78 hK78 => ?_)
            refine cRgn [] trivial ?_
            refine sL (mv rfl) rfl ?_
            refine sL (mv rfl) rfl ?_
            replace H := chk H; obtain ⟨c344, H⟩ := H
            refine sL (slcN (xs := (clrL s4.2.2 s4.1 (⟨(⟨0, 0, 0, 0, 0, 0, 0⟩ : T_api_Head), 0, [], 0, [], []⟩ : T_api_Lsa))) rfl Try.underlying24 ti44 rfl rfl (ho20.rd).1 (by decide) c342 c344) rfl ?_
            refine sL (asg rfl) rfl ?_
            refine lEnd (K := fun _ _ => True) ?_
            refine kN (?_)
            refine hK78 _ _ ?_
            refine cRet ?_
            obtain ⟨L21, HF58, ho21⟩ := OwnS.cutV ho20 HF57 (by decide) c342 c344
            have e_ := Hx3 _ (Option.some.inj H).symm
            subst e_
            replace H := Ho3
            obtain rfl := Option.some.inj H
            refine jR (kR (kR (jR (kR (kR (?_))))))
            refine ret1 rfl rfl ?_
            exact ⟨[], _, _, L21, rfl, HF58, ho21⟩
        · replace H := itF c247 H
          refine cSet (i := 28) rfl (vF c247) ?_
          refine cF rfl ?_
          refine cSkip ?_
          refine jN (kN (?_))
          refine hK57 _ _ ?_
          refine cRgn [] trivial ?_
          refine sL (mv rfl) rfl ?_
          refine sL (bAdd rfl rfl) rfl ?_
          refine sL (asg rfl) rfl ?_
          refine lEnd (K := fun _ _ => True) ?_
          refine kN (?_)
          exact ofEnv (fun a hE => ⟨_, (Option.some.inj H).symm, ⟨hE.keep (Keep.cons rfl (Keep.cons rfl (Keep.cons rfl (Keep.cons rfl (Keep.nil))))), HF42⟩⟩)
      · replace H := itF c228 H
        refine cSet (i := 15) rfl (dF c228) ?_
        refine cF rfl ?_
        refine cExit ?_
        refine kX (kX (jX (kN (?_))))
        exact ofEnv (fun a hE => ⟨_, (Option.some.inj H).symm, ⟨hE.keep (Keep.cons rfl (Keep.cons rfl (Keep.cons rfl (Keep.cons rfl (Keep.nil))))), HF39⟩⟩)
    · rintro s3 a w56 rfl ⟨hE, HF59⟩
      replace H := Ho3
      refine go_k hE ?_
      refine kN (?_)
      refine hK5 _ _ ?_
      refine cSeq (fun K79 hK79 => ?_)
      refine cRgn [] trivial ?_
      refine sL (mv rfl) rfl ?_
      refine sL (asg rfl) rfl ?_
      refine lEnd (K := fun _ _ => True) ?_
      refine kN (?_)
      refine hK79 _ _ ?_
      refine cRet ?_
      obtain rfl := Option.some.inj H
      refine ret1 rfl rfl ?_
      exact ⟨[], _, _, L_a0, rfl, HF59, ho_a0⟩
/-! ### plenum/topo.once (function 19) -/
abbrev f_topo_once.R := (List T_api_Lsa) × (List (Int × T_api_Lsa))
noncomputable def f_topo_once.b0 (t1 : List T_api_Lsa) (s1 : Int × (List (Int × T_api_Lsa))) : Option (Sum (Int × (List (Int × T_api_Lsa))) (Sum (Int × (List (Int × T_api_Lsa))) f_topo_once.R)) := (if s1.1 < (t1.length : Int) then (if 0 ≤ s1.1 then some (.inl (IntKind.i64.wrap (s1.1 + 1), (mPut s1.2 ((rd t1 s1.1).f_Head.f_Id) (rd t1 s1.1)))) else none) else some (.inr (.inl (s1.1, s1.2))))
noncomputable def f_topo_once (a0 : List T_api_Lsa) : Option f_topo_once.R := ((f_slices_CompactFunc_api_Lsa_api_Lsa_fn46 a0).bind fun t1 => ((loopO (f_topo_once.b0 t1) (0, [])).bind fun y1 => match y1 with | .inl s1 => some (t1, s1.2) | .inr r_ => some r_))
set_option maxHeartbeats 1000000 in
theorem f_topo_once.ok {z w : World} {F G : Hp} (hG : G ⊆ F) {a0 : List T_api_Lsa} {A_a0 : Option Addr} {c_a0 : Nat} {L_a0 : Hp} {r : f_topo_once.R} (H : f_topo_once a0 = some r) (HF : Fits z w (L_a0 ++ F)) (ho_a0 : OwnS (kShr G k_T_api_Lsa) L_a0 A_a0 c_a0 a0) :
    Calls Try.prog 19 [.slice A_a0 a0.length c_a0].toArray w fun e w' => ∃ (N : Hp) (A0 : Option Addr) (c0 : Nat) (L0 : Hp) (A3 : Option Addr) (c3 : Nat) (L3 : Hp), e = .returned (.tuple #[.slice A0 r.1.length c0, mapV A3]) ∧ Fits z w' (L0 ++ (L3 ++ (N ++ F))) ∧ OwnS (kShr (N ++ G) k_T_api_Lsa) L0 A0 c0 r.1 ∧ OwnM (kShr (N ++ G) k_T_api_Lsa) L3 A3 c3 r.2 := by
  unfold f_topo_once at H
  refine enter0 Try.func19 rfl Try.ntmps19 rfl (E := [(0, .slice A_a0 a0.length c_a0)]) rfl ?_
  refine cSeq (fun K1 hK1 => ?_)
  refine cRgn [] trivial ?_
  refine sL (asg rfl) rfl ?_
  refine sL (asg rfl) rfl ?_
  refine lEnd (K := fun _ _ => True) ?_
  refine kN (?_)
  refine hK1 _ _ ?_
  refine cSeq (fun K2 hK2 => ?_)
  refine cRgn [] trivial ?_
  refine sL (mv rfl) rfl ?_
  replace H := bnd H; obtain ⟨t1, J1, H⟩ := H
  refine eCall isf45 rfl rfl rfl (f_slices_CompactFunc_api_Lsa_api_Lsa_fn46.ok (a0 := a0) hG J1 HF ho_a0) ?_
  rintro _ w1 ⟨N1, A1, c1, L1, rfl, HF1, ho1⟩
  have hs1 : G ⊆ N1 ++ G := sub_a sub_r
  refine ⟨_, rfl, ?_⟩
  refine sL (asg rfl) rfl ?_
  refine lEnd (K := fun _ _ => True) ?_
  refine kN (?_)
  refine hK2 _ _ ?_
  refine cSeq (fun K3 hK3 => ?_)
  refine cRgn [] trivial ?_
  refine eW (oMkMap (K := (kShr (N1 ++ G) k_T_api_Lsa)) HF1) rfl ?_
  rintro _ w2 ⟨L2, A2, c2, rfl, HF2, ho2⟩
  refine sL (asg rfl) rfl ?_
  refine lEnd (K := fun _ _ => True) ?_
  refine kN (?_)
  refine hK3 _ _ ?_
  refine cSeq (fun K4 hK4 => ?_)
  refine cSeq (fun K5 hK5 => ?_)
  refine cRgn [] trivial ?_
  refine sL (mv rfl) rfl ?_
  refine sL (lnS rfl Try.underlying24) rfl ?_
  refine sL (mv rfl) rfl ?_
  refine lEnd (K := fun _ _ => True) ?_
  refine kN (?_)
  refine hK5 _ _ ?_
  replace H := bnd H; obtain ⟨y1, J2, Ho1⟩ := H
  refine cLoopB (f_topo_once.b0 t1) (fun (s1 : Int × (List (Int × T_api_Lsa))) a w => ∃ (L6 : Hp), Env 24 [(0, .slice A1 t1.length c1), (2, .slice none 0 0), (3, .map none), (4, mapV A2), (10, .slice A1 t1.length c1), (11, .int .i64 (t1.length : Int)), (12, .int .i64 s1.1)] a ∧ Fits z w (L6 ++ (L1 ++ (N1 ++ F))) ∧ OwnM (kShr (N1 ++ G) k_T_api_Lsa) L6 A2 c2 s1.2) J2 (fun a hE => ⟨L2, hE.keep (Keep.cons rfl (Keep.cons rfl (Keep.cons rfl (Keep.cons rfl (Keep.cons rfl (Keep.cons rfl (Keep.cons rfl (Keep.nil)))))))), HF2, ho2⟩) ?_ ?_
  · rintro s1 a w9 y2 ⟨L6, hE, HF11, ho6⟩ H Hx1
    refine go_ hE ?_
    refine cSeq (fun K14 hK14 => ?_)
    refine cRgn [] trivial ?_
    refine sL (bLss rfl rfl) rfl ?_
    refine lEnd (K := fun _ _ => True) ?_
    refine kN (?_)
    refine hK14 _ _ ?_
    refine cSeq (fun K15 hK15 => ?_)
    by_cases c12 : s1.1 < (t1.length : Int)
    · replace H := itT c12 H
      refine cSet (i := 13) rfl (dT c12) ?_
      refine cT rfl ?_
      refine cSkip ?_
      refine kN (?_)
      refine hK15 _ _ ?_
      refine cSeq (fun K16 hK16 => ?_)
      refine cBlock ?_
      refine cSeq (fun K17 hK17 => ?_)
      refine cRgn [] trivial ?_
      replace H := chk H; obtain ⟨c13, H⟩ := H
      obtain ⟨g5, o3, e6, rfl, hk3, q3⟩ := RdS.at_ ho1.rd c13 c12
      obtain ⟨A9, c14, A10, c15, A11, c16, rfl, hr7, hr8, hr9⟩ := rd_T_api_Lsa hk3
      refine sL (ia rfl rfl Try.underlying24 ti44 c13 c12) rfl ?_
      refine sL (ldA rfl ti44 rfl rfl (fun j v hj => HF11.cells ((sub_a sub_h)) (q3 j v hj))) rfl ?_
      refine eW (oAlloc HF11 ti44) rfl ?_
      rintro _ w10 ⟨g6, rfl, HF12⟩
      refine eS (oSt (l1 := [.int .i64 ((rd t1 s1.1).f_Head.f_Age), .int .i64 ((rd t1 s1.1).f_Head.f_Kind), .int .i64 ((rd t1 s1.1).f_Head.f_Id), .int .i64 ((rd t1 s1.1).f_Head.f_Adv), .int .i64 ((rd t1 s1.1).f_Head.f_Seq), .int .i64 ((rd t1 s1.1).f_Head.f_Sum), .int .i64 ((rd t1 s1.1).f_Head.f_Len), .int .i64 ((rd t1 s1.1).f_Flags), .slice A9 ((rd t1 s1.1).f_Links).length c14, .int .i64 ((rd t1 s1.1).f_Bits), .slice A10 ((rd t1 s1.1).f_Routers).length c15, .slice A11 ((rd t1 s1.1).f_Verts).length c16]) HF12 rfl rfl ti44 rfl (ones rfl) (Nat.le_of_ble_eq_true rfl) rfl) ?_
      rintro w11 HF13
      refine lEnd (K := fun _ _ => True) ?_
      refine kN (?_)
      refine hK17 _ _ ?_
      refine cRgn [] trivial ?_
      refine sL (mv rfl) rfl ?_
      refine sL (fa44_0 rfl) rfl ?_
      refine sL (fa41_2 rfl) rfl ?_
      refine sL (ld rfl Try.underlying3 rfl (HF13.box (mem_h) rfl)) rfl ?_
      refine sL (ldA (cs := [.int .i64 ((rd t1 s1.1).f_Head.f_Age), .int .i64 ((rd t1 s1.1).f_Head.f_Kind), .int .i64 ((rd t1 s1.1).f_Head.f_Id), .int .i64 ((rd t1 s1.1).f_Head.f_Adv), .int .i64 ((rd t1 s1.1).f_Head.f_Seq), .int .i64 ((rd t1 s1.1).f_Head.f_Sum), .int .i64 ((rd t1 s1.1).f_Head.f_Len), .int .i64 ((rd t1 s1.1).f_Flags), .slice A9 ((rd t1 s1.1).f_Links).length c14, .int .i64 ((rd t1 s1.1).f_Bits), .slice A10 ((rd t1 s1.1).f_Routers).length c15, .slice A11 ((rd t1 s1.1).f_Verts).length c16]) rfl ti44 rfl rfl (HF13.boxes (o := 0) (n := 12) (mem_h) rfl)) rfl ?_
      have HF14 := HF13.perm (perm_c (List.Perm.refl _))
      refine eS (oMUpd (K := (kShr (N1 ++ G) k_T_api_Lsa)) (a := (rd t1 s1.1)) (cs := [.int .i64 ((rd t1 s1.1).f_Head.f_Age), .int .i64 ((rd t1 s1.1).f_Head.f_Kind), .int .i64 ((rd t1 s1.1).f_Head.f_Id), .int .i64 ((rd t1 s1.1).f_Head.f_Adv), .int .i64 ((rd t1 s1.1).f_Head.f_Seq), .int .i64 ((rd t1 s1.1).f_Head.f_Sum), .int .i64 ((rd t1 s1.1).f_Head.f_Len), .int .i64 ((rd t1 s1.1).f_Flags), .slice A9 ((rd t1 s1.1).f_Links).length c14, .int .i64 ((rd t1 s1.1).f_Bits), .slice A10 ((rd t1 s1.1).f_Routers).length c15, .slice A11 ((rd t1 s1.1).f_Verts).length c16]) HF14 ho6 rfl rfl rfl Try.underlying59 Try.underlying3 ⟨rfl, mk_T_api_Lsa (x := (rd t1 s1.1)) (hr7) (hr8) (hr9)⟩) ?_
      rintro w12 ⟨L7, HF15, ho7⟩
      refine lEnd (K := fun _ _ => True) ?_
      refine jN (kN (?_))
      refine hK16 _ _ ?_
      refine cRgn [] trivial ?_
      refine sL (bAdd rfl rfl) rfl ?_
      refine sL (mv rfl) rfl ?_
      refine lEnd (K := fun _ _ => True) ?_
      refine kN (?_)
      have HF16 := HF15.sublist (sl_a (sl_dc (sl_a (List.Sublist.refl _))))
      exact ofEnv (fun a hE => ⟨_, (Option.some.inj H).symm, ⟨L7, hE.keep (Keep.cons rfl (Keep.cons rfl (Keep.cons rfl (Keep.cons rfl (Keep.cons rfl (Keep.cons rfl (Keep.cons rfl (Keep.nil)))))))), HF16, ho7⟩⟩)
    · replace H := itF c12 H
      refine cSet (i := 13) rfl (dF c12) ?_
      refine cF rfl ?_
      refine cExit ?_
      refine kX (kX (jX (kN (?_))))
      exact ofEnv (fun a hE => ⟨_, (Option.some.inj H).symm, ⟨L6, hE.keep (Keep.cons rfl (Keep.cons rfl (Keep.cons rfl (Keep.cons rfl (Keep.cons rfl (Keep.cons rfl (Keep.cons rfl (Keep.nil)))))))), HF11, ho6⟩⟩)
  · rintro s1 a w13 rfl ⟨L6, hE, HF17, ho6⟩
    replace H := Ho1
    refine go_k hE ?_
    refine kN (?_)
    refine hK4 _ _ ?_
    refine cSeq (fun K18 hK18 => ?_)
    refine cRgn [] trivial ?_
    refine sL (mv rfl) rfl ?_
    refine sL (mv rfl) rfl ?_
    refine sL (asg rfl) rfl ?_
    refine sL (asg rfl) rfl ?_
    refine lEnd (K := fun _ _ => True) ?_
    refine kN (?_)
    refine hK18 _ _ ?_
    refine cRet ?_
    obtain rfl := Option.some.inj H
    refine ret2 rfl rfl rfl ?_
    have HF18 := HF17.perm (perm_f (List.Perm.refl _))
    exact ⟨N1, _, _, L1, _, _, L6, rfl, HF18, ho1, ho6⟩
/-! ### plenum/topo.back$1 (function 52) -/
abbrev f_topo_back_1_cap3_cap3.R := Bool
noncomputable def f_topo_back_1_cap3_cap3 (a0 : T_api_Link) (a1 : Int) (a2 : Int) : Option f_topo_back_1_cap3_cap3.R := (if a0.f_Kind = a1 then some (decide (a0.f_Id = a2)) else some false)
set_option maxHeartbeats 1000000 in
theorem f_topo_back_1_cap3_cap3.ok {z w : World} {F : Hp} {a0 : T_api_Link} {a1 : Int} {g_a1 : Nat} {a2 : Int} {g_a2 : Nat} {r : f_topo_back_1_cap3_cap3.R} (H : f_topo_back_1_cap3_cap3 a0 a1 a2 = some r) (HF : Fits z w (bk g_a1 3 [.int .i64 a1] :: (bk g_a2 3 [.int .i64 a2] :: F))) :
    Calls Try.prog 52 [.agg [.int .i64 a0.f_Kind, .int .i64 a0.f_Id, .int .i64 a0.f_Data, .int .i64 a0.f_Cost].toArray, .pointer (some ⟨g_a1, 0, none⟩), .pointer (some ⟨g_a2, 0, none⟩)].toArray w fun e w' => e = .returned (.bool r) ∧ Fits z w' (bk g_a1 3 [.int .i64 a1] :: (bk g_a2 3 [.int .i64 a2] :: F)) := by
  unfold f_topo_back_1_cap3_cap3 at H
  refine enter0 Try.func52 rfl Try.ntmps52 rfl (E := [(0, .agg [.int .i64 a0.f_Kind, .int .i64 a0.f_Id, .int .i64 a0.f_Data, .int .i64 a0.f_Cost].toArray), (1, .pointer (some ⟨g_a1, 0, none⟩)), (2, .pointer (some ⟨g_a2, 0, none⟩))]) rfl ?_
  refine cSeq (fun K1 hK1 => ?_)
  refine cRgn [] trivial ?_
  refine eW (oBox HF rfl) rfl ?_
  rintro _ w1 ⟨g1, rfl, HF1⟩
  refine sL (asg rfl) rfl ?_
  refine lEnd (K := fun _ _ => True) ?_
  refine kN (?_)
  refine hK1 _ _ ?_
  refine cSeq (fun K2 hK2 => ?_)
  refine cRgn [(4, 9)] ⟨rfl, trivial⟩ ?_
  refine sL (fa56_0 rfl) rfl ?_
  refine sL (ld rfl Try.underlying3 rfl (HF1.box (mem_h) rfl)) rfl ?_
  refine sL (ld rfl Try.underlying3 rfl (HF1.box (mem_c mem_h) rfl)) rfl ?_
  refine sL (bEql rfl rfl) rfl ?_
  refine sL (mv rfl) rfl ?_
  by_cases c1 : a0.f_Kind = a1
  · replace H := itT c1 H
    refine lSet (i := 9) rfl (dT c1) ?_
    refine sG rfl rfl (fa56_1 rfl) rfl ?_
    refine sG rfl rfl (ld rfl Try.underlying3 rfl (HF1.box (mem_h) rfl)) rfl ?_
    refine sG rfl rfl (ld rfl Try.underlying3 rfl (HF1.box (mem_c (mem_c mem_h)) rfl)) rfl ?_
    refine sG rfl rfl (bEql rfl rfl) rfl ?_
    refine sL (pkT rfl rfl) rfl ?_
    refine sL (asg rfl) rfl ?_
    refine lEnd (K := fun _ _ => True) ?_
    refine kN (?_)
    refine hK2 _ _ ?_
    refine cRet ?_
    obtain rfl := Option.some.inj H
    refine ret1 rfl rfl ?_
    have HF2 := HF1.sublist (sl_dc (sl_c (sl_c (List.Sublist.refl _))))
    exact ⟨rfl, HF2⟩
  · replace H := itF c1 H
    refine lSet (i := 9) rfl (dF c1) ?_
    refine sN rfl rfl rfl rfl ?_
    refine sN rfl rfl rfl rfl ?_
    refine sN rfl rfl rfl rfl ?_
    refine sN rfl rfl rfl rfl ?_
    refine sL (pkF rfl rfl) rfl ?_
    refine sL (asg rfl) rfl ?_
    refine lEnd (K := fun _ _ => True) ?_
    refine kN (?_)
    refine hK2 _ _ ?_
    refine cRet ?_
    obtain rfl := Option.some.inj H
    refine ret1 rfl rfl ?_
    have HF3 := HF1.sublist (sl_dc (sl_c (sl_c (List.Sublist.refl _))))
    exact ⟨rfl, HF3⟩
/-! ### slices.IndexFunc[[]plenum/api.Link,plenum/api.Link] (function 51) -/
abbrev f_slices_IndexFunc_api_Link_api_Link_fn52_3_3.R := Int
noncomputable def f_slices_IndexFunc_api_Link_api_Link_fn52_3_3.b0 (a0 : List T_api_Link) (a1_0 : Int) (a1_1 : Int) (s1 : Int) : Option (Sum (Int) (Sum (Int) f_slices_IndexFunc_api_Link_api_Link_fn52_3_3.R)) := (if s1 < (a0.length : Int) then (if 0 ≤ s1 then ((f_topo_back_1_cap3_cap3 (rd a0 s1) a1_0 a1_1).bind fun t3 => (if t3 = true then some (.inr (.inr s1)) else some (.inl (IntKind.i64.wrap (s1 + 1))))) else none) else some (.inr (.inl s1)))
noncomputable def f_slices_IndexFunc_api_Link_api_Link_fn52_3_3 (a0 : List T_api_Link) (a1_0 : Int) (a1_1 : Int) : Option f_slices_IndexFunc_api_Link_api_Link_fn52_3_3.R := ((loopO (f_slices_IndexFunc_api_Link_api_Link_fn52_3_3.b0 a0 a1_0 a1_1) 0).bind fun y1 => match y1 with | .inl s1 => some (-1) | .inr r_ => some r_)
set_option maxHeartbeats 1000000 in
theorem f_slices_IndexFunc_api_Link_api_Link_fn52_3_3.ok {z w : World} {F G : Hp} (hG : G ⊆ F) {a0 : List T_api_Link} {A_a0 : Option Addr} {c_a0 : Nat} {X_a0 : Hp} {a1_0 : Int} {g_a1_0 : Nat} {a1_1 : Int} {g_a1_1 : Nat} {r : f_slices_IndexFunc_api_Link_api_Link_fn52_3_3.R} (H : f_slices_IndexFunc_api_Link_api_Link_fn52_3_3 a0 a1_0 a1_1 = some r) (HF : Fits z w (bk g_a1_0 3 [.int .i64 a1_0] :: (bk g_a1_1 3 [.int .i64 a1_1] :: F))) (hX_a0 : X_a0 ⊆ F) (hr_a0 : RdS k_T_api_Link X_a0 A_a0 c_a0 a0) :
    Calls Try.prog 51 [.slice A_a0 a0.length c_a0, .func (.func 52) [].toArray [.pointer (some ⟨g_a1_0, 0, none⟩), .pointer (some ⟨g_a1_1, 0, none⟩)].toArray].toArray w fun e w' => e = .returned (.int .i64 r) ∧ Fits z w' (bk g_a1_0 3 [.int .i64 a1_0] :: (bk g_a1_1 3 [.int .i64 a1_1] :: F)) := by
  unfold f_slices_IndexFunc_api_Link_api_Link_fn52_3_3 at H
  refine enter0 Try.func51 rfl Try.ntmps51 rfl (E := [(0, .slice A_a0 a0.length c_a0), (1, .func (.func 52) [].toArray [.pointer (some ⟨g_a1_0, 0, none⟩), .pointer (some ⟨g_a1_1, 0, none⟩)].toArray)]) rfl ?_
  refine cSeq (fun K1 hK1 => ?_)
  refine cRgn [] trivial ?_
  refine sL (asg rfl) rfl ?_
  refine lEnd (K := fun _ _ => True) ?_
  refine kN (?_)
  refine hK1 _ _ ?_
  refine cSeq (fun K2 hK2 => ?_)
  refine cSeq (fun K3 hK3 => ?_)
  refine cRgn [] trivial ?_
  refine sL (mv rfl) rfl ?_
  refine sL (lnS rfl Try.underlying42) rfl ?_
  refine sL (mv rfl) rfl ?_
  refine lEnd (K := fun _ _ => True) ?_
  refine kN (?_)
  refine hK3 _ _ ?_
  replace H := bnd H; obtain ⟨y1, J4, Ho1⟩ := H
  refine cLoopB (f_slices_IndexFunc_api_Link_api_Link_fn52_3_3.b0 a0 a1_0 a1_1) (fun (s1 : Int) a w => Env 19 [(0, .slice A_a0 a0.length c_a0), (1, .func (.func 52) [].toArray [.pointer (some ⟨g_a1_0, 0, none⟩), .pointer (some ⟨g_a1_1, 0, none⟩)].toArray), (4, .int .i64 0), (7, .int .i64 (a0.length : Int)), (8, .int .i64 s1)] a ∧ Fits z w (bk g_a1_0 3 [.int .i64 a1_0] :: (bk g_a1_1 3 [.int .i64 a1_1] :: F))) J4 (fun a hE => ⟨hE.keep (Keep.cons rfl (Keep.cons rfl (Keep.cons rfl (Keep.cons rfl (Keep.cons rfl (Keep.nil)))))), HF⟩) ?_ ?_
  · rintro s1 a w3 y2 ⟨hE, HF7⟩ H Hx1
    refine go_ hE ?_
    refine cSeq (fun K16 hK16 => ?_)
    refine cRgn [] trivial ?_
    refine sL (bLss rfl rfl) rfl ?_
    refine lEnd (K := fun _ _ => True) ?_
    refine kN (?_)
    refine hK16 _ _ ?_
    refine cSeq (fun K17 hK17 => ?_)
    by_cases c6 : s1 < (a0.length : Int)
    · replace H := itT c6 H
      refine cSet (i := 9) rfl (dT c6) ?_
      refine cT rfl ?_
      refine cSkip ?_
      refine kN (?_)
      refine hK17 _ _ ?_
      refine cSeq (fun K18 hK18 => ?_)
      refine cBlock ?_
      refine cSeq (fun K19 hK19 => ?_)
      refine cRgn [] trivial ?_
      refine sL (mv rfl) rfl ?_
      refine sL (asg rfl) rfl ?_
      refine lEnd (K := fun _ _ => True) ?_
      refine kN (?_)
      refine hK19 _ _ ?_
      refine cSeq (fun K20 hK20 => ?_)
      refine cRgn [] trivial ?_
      refine sL (mv rfl) rfl ?_
      refine sL (mv rfl) rfl ?_
      refine sL (mv rfl) rfl ?_
      replace H := chk H; obtain ⟨c7, H⟩ := H
      obtain ⟨g3, o3, _, rfl, rfl, q3⟩ := RdS.at_ hr_a0 c7 c6
      refine sL (ia rfl rfl Try.underlying42 ti56 c7 c6) rfl ?_
      refine sL (ldA rfl ti56 rfl rfl (fun j v hj => HF7.cells ((sub_c (sub_c hX_a0))) (q3 j v hj))) rfl ?_
      have HF8 := HF7.perm (perm_c1 (List.Perm.refl _))
      have HF9 := HF8.perm (perm_c1 (List.Perm.refl _))
      replace H := bnd H; obtain ⟨t3, J3, H⟩ := H
      refine eCall isf52 rfl rfl rfl (f_topo_back_1_cap3_cap3.ok (a0 := (rd a0 s1)) J3 HF9) ?_
      rintro _ w4 ⟨rfl, HF10⟩
      refine ⟨_, rfl, ?_⟩
      refine lEnd (K := fun _ _ => True) ?_
      refine kN (?_)
      refine hK20 _ _ ?_
      by_cases c8 : t3 = true
      · replace H := itT c8 H
        refine cSet (i := 16) rfl (vT c8) ?_
        refine cT rfl ?_
        refine cSeq (fun K21 hK21 => ?_)
        refine cRgn [] trivial ?_
        refine sL (mv rfl) rfl ?_
        refine sL (asg rfl) rfl ?_
        refine lEnd (K := fun _ _ => True) ?_
        refine kN (?_)
        refine hK21 _ _ ?_
        refine cRet ?_
        have e_ := Hx1 _ (Option.some.inj H).symm
        subst e_
        replace H := Ho1
        obtain rfl := Option.some.inj H
        refine jR (kR (kR (jR (kR (kR (?_))))))
        refine ret1 rfl rfl ?_
        exact ⟨rfl, HF10⟩
      · replace H := itF c8 H
        refine cSet (i := 16) rfl (vF c8) ?_
        refine cF rfl ?_
        refine cSkip ?_
        refine jN (kN (?_))
        refine hK18 _ _ ?_
        refine cRgn [] trivial ?_
        refine sL (bAdd rfl rfl) rfl ?_
        refine sL (mv rfl) rfl ?_
        refine lEnd (K := fun _ _ => True) ?_
        refine kN (?_)
        exact ofEnv (fun a hE => ⟨_, (Option.some.inj H).symm, ⟨hE.keep (Keep.cons rfl (Keep.cons rfl (Keep.cons rfl (Keep.cons rfl (Keep.cons rfl (Keep.nil)))))), HF10⟩⟩)
    · replace H := itF c6 H
      refine cSet (i := 9) rfl (dF c6) ?_
      refine cF rfl ?_
      refine cExit ?_
      refine kX (kX (jX (kN (?_))))
      exact ofEnv (fun a hE => ⟨_, (Option.some.inj H).symm, ⟨hE.keep (Keep.cons rfl (Keep.cons rfl (Keep.cons rfl (Keep.cons rfl (Keep.cons rfl (Keep.nil)))))), HF7⟩⟩)
  · rintro s1 a w5 rfl ⟨hE, HF11⟩
    replace H := Ho1
    refine go_k hE ?_
    refine kN (?_)
    refine hK2 _ _ ?_
    refine cSeq (fun K22 hK22 => ?_)
    refine cRgn [] trivial ?_
    refine sL (asg rfl) rfl ?_
    refine lEnd (K := fun _ _ => True) ?_
    refine kN (?_)
    refine hK22 _ _ ?_
    refine cRet ?_
    obtain rfl := Option.some.inj H
    refine ret1 rfl rfl ?_
    exact ⟨rfl, HF11⟩
/-! ### plenum/topo.back (function 26) -/
abbrev f_topo_back.R := T_api_Link × Bool
noncomputable def f_topo_back (a0 : T_api_Lsa) (a1 : Int) (a2 : Int) : Option f_topo_back.R := ((f_slices_IndexFunc_api_Link_api_Link_fn52_3_3 a0.f_Links a1 a2).bind fun t1 => (if t1 < 0 then some ((⟨0, 0, 0, 0⟩ : T_api_Link), false) else (if 0 ≤ t1 then (if t1 < (a0.f_Links.length : Int) then some ((rd a0.f_Links t1), true) else none) else none)))
set_option maxHeartbeats 1000000 in
theorem f_topo_back.ok {z w : World} {F G : Hp} (hG : G ⊆ F) {a0 : T_api_Lsa} {A_a0_8 : Option Addr} {c_a0_8 : Nat} {X_a0_8 : Hp} {A_a0_10 : Option Addr} {c_a0_10 : Nat} {X_a0_10 : Hp} {A_a0_11 : Option Addr} {c_a0_11 : Nat} {X_a0_11 : Hp} {a1 : Int} {a2 : Int} {r : f_topo_back.R} (H : f_topo_back a0 a1 a2 = some r) (HF : Fits z w F) (hX_a0_8 : X_a0_8 ⊆ F) (hr_a0_8 : RdS k_T_api_Link X_a0_8 A_a0_8 c_a0_8 a0.f_Links) (hX_a0_10 : X_a0_10 ⊆ F) (hr_a0_10 : RdS (kInt .i64) X_a0_10 A_a0_10 c_a0_10 a0.f_Routers) (hX_a0_11 : X_a0_11 ⊆ F) (hr_a0_11 : RdS k_T_api_Vert X_a0_11 A_a0_11 c_a0_11 a0.f_Verts) :
    Calls Try.prog 26 [.agg [.int .i64 a0.f_Head.f_Age, .int .i64 a0.f_Head.f_Kind, .int .i64 a0.f_Head.f_Id, .int .i64 a0.f_Head.f_Adv, .int .i64 a0.f_Head.f_Seq, .int .i64 a0.f_Head.f_Sum, .int .i64 a0.f_Head.f_Len, .int .i64 a0.f_Flags, .slice A_a0_8 a0.f_Links.length c_a0_8, .int .i64 a0.f_Bits, .slice A_a0_10 a0.f_Routers.length c_a0_10, .slice A_a0_11 a0.f_Verts.length c_a0_11].toArray, .int .i64 a1, .int .i64 a2].toArray w fun e w' => e = .returned (.tuple #[.agg [.int .i64 r.1.f_Kind, .int .i64 r.1.f_Id, .int .i64 r.1.f_Data, .int .i64 r.1.f_Cost].toArray, .bool r.2]) ∧ Fits z w' F := by
  unfold f_topo_back at H
  refine enter0 Try.func26 rfl Try.ntmps26 rfl (E := [(0, .agg [.int .i64 a0.f_Head.f_Age, .int .i64 a0.f_Head.f_Kind, .int .i64 a0.f_Head.f_Id, .int .i64 a0.f_Head.f_Adv, .int .i64 a0.f_Head.f_Seq, .int .i64 a0.f_Head.f_Sum, .int .i64 a0.f_Head.f_Len, .int .i64 a0.f_Flags, .slice A_a0_8 a0.f_Links.length c_a0_8, .int .i64 a0.f_Bits, .slice A_a0_10 a0.f_Routers.length c_a0_10, .slice A_a0_11 a0.f_Verts.length c_a0_11].toArray), (1, .int .i64 a1), (2, .int .i64 a2)]) rfl ?_
  refine cSeq (fun K1 hK1 => ?_)
  refine cRgn [] trivial ?_
  refine eW (oBox HF rfl) rfl ?_
  rintro _ w1 ⟨g1, rfl, HF1⟩
  refine eW (oBox HF1 rfl) rfl ?_
  rintro _ w2 ⟨g2, rfl, HF2⟩
  refine eW (oBox HF2 rfl) rfl ?_
  rintro _ w3 ⟨g3, rfl, HF3⟩
  refine eW (oAlloc HF3 ti56) rfl ?_
  rintro _ w4 ⟨g4, rfl, HF4⟩
  refine sL (asg rfl) rfl ?_
  refine lEnd (K := fun _ _ => True) ?_
  refine kN (?_)
  refine hK1 _ _ ?_
  refine cSeq (fun K2 hK2 => ?_)
  refine cRgn [] trivial ?_
  refine sL (fa44_2 rfl) rfl ?_
  refine sL (ld rfl Try.underlying42 rfl (HF4.box (mem_c (mem_c (mem_c mem_h))) rfl)) rfl ?_
  refine sL (mfn (f' := []) (c' := [.pointer (some ⟨g2, 0, none⟩), .pointer (some ⟨g3, 0, none⟩)]) rfl rfl) rfl ?_
  have HF5 := HF4.perm (perm_c1 (List.Perm.refl _))
  have HF6 := HF5.perm (perm_c1 (perm_c1 (List.Perm.refl _)))
  replace H := bnd H; obtain ⟨t1, J1, H⟩ := H
  refine eCall isf51 rfl rfl rfl (f_slices_IndexFunc_api_Link_api_Link_fn52_3_3.ok (a0 := a0.f_Links) (sub_c (sub_c hG)) J1 HF6 (sub_c (sub_c hX_a0_8)) hr_a0_8) ?_
  rintro _ w5 ⟨rfl, HF7⟩
  refine ⟨_, rfl, ?_⟩
  refine sL (asg rfl) rfl ?_
  refine lEnd (K := fun _ _ => True) ?_
  refine kN (?_)
  refine hK2 _ _ ?_
  refine cSeq (fun K3 hK3 => ?_)
  refine cSeq (fun K4 hK4 => ?_)
  refine cRgn [] trivial ?_
  refine sL (mv rfl) rfl ?_
  refine sL (bLss rfl rfl) rfl ?_
  refine lEnd (K := fun _ _ => True) ?_
  refine kN (?_)
  refine hK4 _ _ ?_
  by_cases c1 : t1 < 0
  · replace H := itT c1 H
    refine cSet (i := 14) rfl (dT c1) ?_
    refine cT rfl ?_
    refine cSeq (fun K5 hK5 => ?_)
    refine cRgn [] trivial ?_
    refine sL (bd (r := [.int .i64 0, .int .i64 0, .int .i64 0, .int .i64 0]) pl56 ti56 rfl rfl) rfl ?_
    have HF8 := HF7.perm (perm_c1 (perm_c1 (List.Perm.refl _)))
    refine eS (oSt (l1 := [.int .i64 0, .int .i64 0, .int .i64 0, .int .i64 0]) HF8 rfl rfl ti56 rfl (ones rfl) (Nat.le_of_ble_eq_true rfl) rfl) ?_
    rintro w6 HF9
    refine sL (asg rfl) rfl ?_
    refine lEnd (K := fun _ _ => True) ?_
    refine kN (?_)
    refine hK5 _ _ ?_
    refine cRet ?_
    obtain rfl := Option.some.inj H
    refine kR (?_)
    refine retB rfl (rvC rfl (lvA (cs := [.int .i64 0, .int .i64 0, .int .i64 0, .int .i64 0]) ti56 rfl rfl (HF9.boxes (o := 0) (n := 4) (mem_h) rfl))) rfl ?_
    have HF10 := HF9.sublist (sl_dc (sl_dc (sl_dc (sl_dc (List.Sublist.refl _)))))
    exact ⟨rfl, HF10⟩
  · replace H := itF c1 H
    refine cSet (i := 14) rfl (dF c1) ?_
    refine cF rfl ?_
    refine cSkip ?_
    refine kN (?_)
    refine hK3 _ _ ?_
    refine cSeq (fun K6 hK6 => ?_)
    refine cRgn [] trivial ?_
    refine sL (fa44_2 rfl) rfl ?_
    refine sL (ld rfl Try.underlying42 rfl (HF7.box (mem_c (mem_c (mem_c mem_h))) rfl)) rfl ?_
    refine sL (mv rfl) rfl ?_
    replace H := chk H; obtain ⟨c2, H⟩ := H
    replace H := chk H; obtain ⟨c3, H⟩ := H
    obtain ⟨g5, o1, _, rfl, rfl, q1⟩ := RdS.at_ hr_a0_8 c2 c3
    refine sL (ia rfl rfl Try.underlying42 ti56 c2 c3) rfl ?_
    refine sL (ldA rfl ti56 rfl rfl (fun j v hj => HF7.cells ((sub_c (sub_c (sub_c (sub_c hX_a0_8))))) (q1 j v hj))) rfl ?_
    have HF11 := HF7.perm (perm_c1 (perm_c1 (List.Perm.refl _)))
    refine eS (oSt (l1 := [.int .i64 ((rd a0.f_Links t1).f_Kind), .int .i64 ((rd a0.f_Links t1).f_Id), .int .i64 ((rd a0.f_Links t1).f_Data), .int .i64 ((rd a0.f_Links t1).f_Cost)]) HF11 rfl rfl ti56 rfl (ones rfl) (Nat.le_of_ble_eq_true rfl) rfl) ?_
    rintro w7 HF12
    refine sL (asg rfl) rfl ?_
    refine lEnd (K := fun _ _ => True) ?_
    refine kN (?_)
    refine hK6 _ _ ?_
    refine cRet ?_
    obtain rfl := Option.some.inj H
    refine retB rfl (rvC rfl (lvA (cs := [.int .i64 ((rd a0.f_Links t1).f_Kind), .int .i64 ((rd a0.f_Links t1).f_Id), .int .i64 ((rd a0.f_Links t1).f_Data), .int .i64 ((rd a0.f_Links t1).f_Cost)]) ti56 rfl rfl (HF12.boxes (o := 0) (n := 4) (mem_h) rfl))) rfl ?_
    have HF13 := HF12.sublist (sl_dc (sl_dc (sl_dc (sl_dc (List.Sublist.refl _)))))
    exact ⟨rfl, HF13⟩
/-! ### slices.Index[[]int,int] (function 53) -/
abbrev f_slices_Index_int_int.R := Int
noncomputable def f_slices_Index_int_int.b0 (a0 : List Int) (a1 : Int) (s1 : Int) : Option (Sum (Int) (Sum (Int) f_slices_Index_int_int.R)) := (if s1 < (a0.length : Int) then (if 0 ≤ s1 then (if a1 = (rd a0 s1) then some (.inr (.inr s1)) else some (.inl (IntKind.i64.wrap (s1 + 1)))) else none) else some (.inr (.inl s1)))
noncomputable def f_slices_Index_int_int (a0 : List Int) (a1 : Int) : Option f_slices_Index_int_int.R := ((loopO (f_slices_Index_int_int.b0 a0 a1) 0).bind fun y1 => match y1 with | .inl s1 => some (-1) | .inr r_ => some r_)
set_option maxHeartbeats 1000000 in
theorem f_slices_Index_int_int.ok {z w : World} {F G : Hp} (hG : G ⊆ F) {a0 : List Int} {A_a0 : Option Addr} {c_a0 : Nat} {X_a0 : Hp} {a1 : Int} {r : f_slices_Index_int_int.R} (H : f_slices_Index_int_int a0 a1 = some r) (HF : Fits z w F) (hX_a0 : X_a0 ⊆ F) (hr_a0 : RdS (kInt .i64) X_a0 A_a0 c_a0 a0) :
    Calls Try.prog 53 [.slice A_a0 a0.length c_a0, .int .i64 a1].toArray w fun e w' => e = .returned (.int .i64 r) ∧ Fits z w' F := by
  unfold f_slices_Index_int_int at H
  refine enter0 Try.func53 rfl Try.ntmps53 rfl (E := [(0, .slice A_a0 a0.length c_a0), (1, .int .i64 a1)]) rfl ?_
  refine cSeq (fun K1 hK1 => ?_)
  refine cRgn [] trivial ?_
  refine sL (asg rfl) rfl ?_
  refine lEnd (K := fun _ _ => True) ?_
  refine kN (?_)
  refine hK1 _ _ ?_
  refine cSeq (fun K2 hK2 => ?_)
  refine cSeq (fun K3 hK3 => ?_)
  refine cRgn [] trivial ?_
  refine sL (mv rfl) rfl ?_
  refine sL (lnS rfl Try.underlying30) rfl ?_
  refine sL (mv rfl) rfl ?_
  refine lEnd (K := fun _ _ => True) ?_
  refine kN (?_)
  refine hK3 _ _ ?_
  replace H := bnd H; obtain ⟨y1, J1, Ho1⟩ := H
  refine cLoopB (f_slices_Index_int_int.b0 a0 a1) (fun (s1 : Int) a w => Env 19 [(0, .slice A_a0 a0.length c_a0), (1, .int .i64 a1), (4, .int .i64 0), (7, .int .i64 (a0.length : Int)), (8, .int .i64 s1)] a ∧ Fits z w F) J1 (fun a hE => ⟨hE.keep (Keep.cons rfl (Keep.cons rfl (Keep.cons rfl (Keep.cons rfl (Keep.cons rfl (Keep.nil)))))), HF⟩) ?_ ?_
  · rintro s1 a w1 y2 ⟨hE, HF1⟩ H Hx1
    refine go_ hE ?_
    refine cSeq (fun K16 hK16 => ?_)
    refine cRgn [] trivial ?_
    refine sL (bLss rfl rfl) rfl ?_
    refine lEnd (K := fun _ _ => True) ?_
    refine kN (?_)
    refine hK16 _ _ ?_
    refine cSeq (fun K17 hK17 => ?_)
    by_cases c6 : s1 < (a0.length : Int)
    · replace H := itT c6 H
      refine cSet (i := 9) rfl (dT c6) ?_
      refine cT rfl ?_
      refine cSkip ?_
      refine kN (?_)
      refine hK17 _ _ ?_
      refine cSeq (fun K18 hK18 => ?_)
      refine cBlock ?_
      refine cSeq (fun K19 hK19 => ?_)
      refine cRgn [] trivial ?_
      refine sL (mv rfl) rfl ?_
      refine sL (asg rfl) rfl ?_
      refine lEnd (K := fun _ _ => True) ?_
      refine kN (?_)
      refine hK19 _ _ ?_
      refine cSeq (fun K20 hK20 => ?_)
      refine cRgn [] trivial ?_
      refine sL (mv rfl) rfl ?_
      refine sL (mv rfl) rfl ?_
      refine sL (mv rfl) rfl ?_
      replace H := chk H; obtain ⟨c7, H⟩ := H
      obtain ⟨g3, o3, _, rfl, rfl, q3⟩ := RdS.at_ hr_a0 c7 c6
      refine sL (ia rfl rfl Try.underlying30 ti3 c7 c6) rfl ?_
      refine sL (ld rfl Try.underlying3 rfl (HF1.cells (hX_a0) (q3 0 _ rfl))) rfl ?_
      refine sL (bEql rfl rfl) rfl ?_
      refine lEnd (K := fun _ _ => True) ?_
      refine kN (?_)
      refine hK20 _ _ ?_
      by_cases c8 : a1 = (rd a0 s1)
      · replace H := itT c8 H
        refine cSet (i := 16) rfl (dT c8) ?_
        refine cT rfl ?_
        refine cSeq (fun K21 hK21 => ?_)
        refine cRgn [] trivial ?_
        refine sL (mv rfl) rfl ?_
        refine sL (asg rfl) rfl ?_
        refine lEnd (K := fun _ _ => True) ?_
        refine kN (?_)
        refine hK21 _ _ ?_
        refine cRet ?_
        have e_ := Hx1 _ (Option.some.inj H).symm
        subst e_
        replace H := Ho1
        obtain rfl := Option.some.inj H
        refine jR (kR (kR (jR (kR (kR (?_))))))
        refine ret1 rfl rfl ?_
        exact ⟨rfl, HF1⟩
      · replace H := itF c8 H
        refine cSet (i := 16) rfl (dF c8) ?_
        refine cF rfl ?_
        refine cSkip ?_
        refine jN (kN (?_))
        refine hK18 _ _ ?_
        refine cRgn [] trivial ?_
        refine sL (bAdd rfl rfl) rfl ?_
        refine sL (mv rfl) rfl ?_
        refine lEnd (K := fun _ _ => True) ?_
        refine kN (?_)
        exact ofEnv (fun a hE => ⟨_, (Option.some.inj H).symm, ⟨hE.keep (Keep.cons rfl (Keep.cons rfl (Keep.cons rfl (Keep.cons rfl (Keep.cons rfl (Keep.nil)))))), HF1⟩⟩)
    · replace H := itF c6 H
      refine cSet (i := 9) rfl (dF c6) ?_
      refine cF rfl ?_
      refine cExit ?_
      refine kX (kX (jX (kN (?_))))
      exact ofEnv (fun a hE => ⟨_, (Option.some.inj H).symm, ⟨hE.keep (Keep.cons rfl (Keep.cons rfl (Keep.cons rfl (Keep.cons rfl (Keep.cons rfl (Keep.nil)))))), HF1⟩⟩)
  · rintro s1 a w2 rfl ⟨hE, HF2⟩
    replace H := Ho1
    refine go_k hE ?_
    refine kN (?_)
    refine hK2 _ _ ?_
    refine cSeq (fun K22 hK22 => ?_)
    refine cRgn [] trivial ?_
    refine sL (asg rfl) rfl ?_
    refine lEnd (K := fun _ _ => True) ?_
    refine kN (?_)
    refine hK22 _ _ ?_
    refine cRet ?_
    obtain rfl := Option.some.inj H
    refine ret1 rfl rfl ?_
    exact ⟨rfl, HF2⟩
/-! ### slices.Contains[[]int,int] (function 27) -/
abbrev f_slices_Contains_int_int.R := Bool
noncomputable def f_slices_Contains_int_int (a0 : List Int) (a1 : Int) : Option f_slices_Contains_int_int.R := ((f_slices_Index_int_int a0 a1).bind fun t1 => some (decide (0 ≤ t1)))
set_option maxHeartbeats 1000000 in
theorem f_slices_Contains_int_int.ok {z w : World} {F G : Hp} (hG : G ⊆ F) {a0 : List Int} {A_a0 : Option Addr} {c_a0 : Nat} {X_a0 : Hp} {a1 : Int} {r : f_slices_Contains_int_int.R} (H : f_slices_Contains_int_int a0 a1 = some r) (HF : Fits z w F) (hX_a0 : X_a0 ⊆ F) (hr_a0 : RdS (kInt .i64) X_a0 A_a0 c_a0 a0) :
    Calls Try.prog 27 [.slice A_a0 a0.length c_a0, .int .i64 a1].toArray w fun e w' => e = .returned (.bool r) ∧ Fits z w' F := by
  unfold f_slices_Contains_int_int at H
  refine enter0 Try.func27 rfl Try.ntmps27 rfl (E := [(0, .slice A_a0 a0.length c_a0), (1, .int .i64 a1)]) rfl ?_
  refine cSeq (fun K1 hK1 => ?_)
  refine cRgn [] trivial ?_
  refine sL (asg rfl) rfl ?_
  refine lEnd (K := fun _ _ => True) ?_
  refine kN (?_)
  refine hK1 _ _ ?_
  refine cSeq (fun K2 hK2 => ?_)
  refine cRgn [] trivial ?_
  refine sL (mv rfl) rfl ?_
  refine sL (mv rfl) rfl ?_
  replace H := bnd H; obtain ⟨t1, J1, H⟩ := H
  refine eCall isf53 rfl rfl rfl (f_slices_Index_int_int.ok (a0 := a0) hG J1 HF hX_a0 hr_a0) ?_
  rintro _ w1 ⟨rfl, HF1⟩
  refine ⟨_, rfl, ?_⟩
  refine sL (bGeq rfl rfl) rfl ?_
  refine sL (asg rfl) rfl ?_
  refine lEnd (K := fun _ _ => True) ?_
  refine kN (?_)
  refine hK2 _ _ ?_
  refine cRet ?_
  obtain rfl := Option.some.inj H
  refine ret1 rfl rfl ?_
  exact ⟨rfl, HF1⟩
/-! ### (*plenum/topo.area).edge (function 23) -/
abbrev f_topo_area_edge_obj.R := T_api_Edge × Bool
noncomputable def f_topo_area_edge_obj (a0 : T_topo_area) (a1 : T_api_Lsa) (a2 : T_api_Link) : Option f_topo_area_edge_obj.R := (if a2.f_Kind = 1 then (((((f_topo_back (mGetD (⟨(⟨0, 0, 0, 0, 0, 0, 0⟩ : T_api_Head), 0, [], 0, [], []⟩ : T_api_Lsa) a0.f_router a2.f_Id) 1 a1.f_Head.f_Id).bind fun (t9, t10) => some (.inl t10)) : Option (Sum (Bool) f_topo_area_edge_obj.R))).bind fun y1 => match y1 with | .inl s1 => some ((⟨(⟨1, a1.f_Head.f_Id⟩ : T_api_Vert), (⟨1, a2.f_Id⟩ : T_api_Vert), a2.f_Cost, a2.f_Data⟩ : T_api_Edge), s1) | .inr r_ => some r_) else (if a2.f_Kind = 2 then (if (mHas a0.f_network a2.f_Id) = true then ((f_slices_Contains_int_int ((mGetD (⟨(⟨0, 0, 0, 0, 0, 0, 0⟩ : T_api_Head), 0, [], 0, [], []⟩ : T_api_Lsa) a0.f_network a2.f_Id).f_Routers) a1.f_Head.f_Id).bind fun t12 => some ((⟨(⟨1, a1.f_Head.f_Id⟩ : T_api_Vert), (⟨2, a2.f_Id⟩ : T_api_Vert), a2.f_Cost, a2.f_Data⟩ : T_api_Edge), t12)) else some ((⟨(⟨1, a1.f_Head.f_Id⟩ : T_api_Vert), (⟨2, a2.f_Id⟩ : T_api_Vert), a2.f_Cost, a2.f_Data⟩ : T_api_Edge), false)) else some ((⟨(⟨1, a1.f_Head.f_Id⟩ : T_api_Vert), (⟨0, 0⟩ : T_api_Vert), a2.f_Cost, a2.f_Data⟩ : T_api_Edge), false)))
set_option maxHeartbeats 1000000 in
theorem f_topo_area_edge_obj.ok {z w : World} {F G : Hp} (hG : G ⊆ F) {a0 : T_topo_area} {g_a0 : Nat} {A_a0_0 : Option Addr} {c_a0_0 : Nat} {L_a0_0 : Hp} {A_a0_1 : Option Addr} {c_a0_1 : Nat} {L_a0_1 : Hp} {A_a0_2 : Option Addr} {c_a0_2 : Nat} {L_a0_2 : Hp} {A_a0_3 : Option Addr} {c_a0_3 : Nat} {L_a0_3 : Hp} {a1 : T_api_Lsa} {A_a1_8 : Option Addr} {c_a1_8 : Nat} {X_a1_8 : Hp} {A_a1_10 : Option Addr} {c_a1_10 : Nat} {X_a1_10 : Hp} {A_a1_11 : Option Addr} {c_a1_11 : Nat} {X_a1_11 : Hp} {a2 : T_api_Link} {r : f_topo_area_edge_obj.R} (H : f_topo_area_edge_obj a0 a1 a2 = some r) (HF : Fits z w (bk g_a0 61 [.slice A_a0_0 a0.f_routers.length c_a0_0, .slice A_a0_1 a0.f_networks.length c_a0_1, mapV A_a0_2, mapV A_a0_3] :: (L_a0_0 ++ (L_a0_1 ++ (L_a0_2 ++ (L_a0_3 ++ F)))))) (ho_a0_0 : OwnS (kShr G k_T_api_Lsa) L_a0_0 A_a0_0 c_a0_0 a0.f_routers) (ho_a0_1 : OwnS (kShr G k_T_api_Lsa) L_a0_1 A_a0_1 c_a0_1 a0.f_networks) (ho_a0_2 : OwnM (kShr G k_T_api_Lsa) L_a0_2 A_a0_2 c_a0_2 a0.f_router) (ho_a0_3 : OwnM (kShr G k_T_api_Lsa) L_a0_3 A_a0_3 c_a0_3 a0.f_network) (hX_a1_8 : X_a1_8 ⊆ F) (hr_a1_8 : RdS k_T_api_Link X_a1_8 A_a1_8 c_a1_8 a1.f_Links) (hX_a1_10 : X_a1_10 ⊆ F) (hr_a1_10 : RdS (kInt .i64) X_a1_10 A_a1_10 c_a1_10 a1.f_Routers) (hX_a1_11 : X_a1_11 ⊆ F) (hr_a1_11 : RdS k_T_api_Vert X_a1_11 A_a1_11 c_a1_11 a1.f_Verts) :
    Calls Try.prog 23 [.pointer (some ⟨g_a0, 0, none⟩), .agg [.int .i64 a1.f_Head.f_Age, .int .i64 a1.f_Head.f_Kind, .int .i64 a1.f_Head.f_Id, .int .i64 a1.f_Head.f_Adv, .int .i64 a1.f_Head.f_Seq, .int .i64 a1.f_Head.f_Sum, .int .i64 a1.f_Head.f_Len, .int .i64 a1.f_Flags, .slice A_a1_8 a1.f_Links.length c_a1_8, .int .i64 a1.f_Bits, .slice A_a1_10 a1.f_Routers.length c_a1_10, .slice A_a1_11 a1.f_Verts.length c_a1_11].toArray, .agg [.int .i64 a2.f_Kind, .int .i64 a2.f_Id, .int .i64 a2.f_Data, .int .i64 a2.f_Cost].toArray].toArray w fun e w' => e = .returned (.tuple #[.agg [.int .i64 r.1.f_From.f_Kind, .int .i64 r.1.f_From.f_Id, .int .i64 r.1.f_To.f_Kind, .int .i64 r.1.f_To.f_Id, .int .i64 r.1.f_Cost, .int .i64 r.1.f_Data].toArray, .bool r.2]) ∧ Fits z w' (bk g_a0 61 [.slice A_a0_0 a0.f_routers.length c_a0_0, .slice A_a0_1 a0.f_networks.length c_a0_1, mapV A_a0_2, mapV A_a0_3] :: (L_a0_0 ++ (L_a0_1 ++ (L_a0_2 ++ (L_a0_3 ++ F))))) := by
  unfold f_topo_area_edge_obj at H
  refine enter0 Try.func23 rfl Try.ntmps23 rfl (E := [(0, .pointer (some ⟨g_a0, 0, none⟩)), (1, .agg [.int .i64 a1.f_Head.f_Age, .int .i64 a1.f_Head.f_Kind, .int .i64 a1.f_Head.f_Id, .int .i64 a1.f_Head.f_Adv, .int .i64 a1.f_Head.f_Seq, .int .i64 a1.f_Head.f_Sum, .int .i64 a1.f_Head.f_Len, .int .i64 a1.f_Flags, .slice A_a1_8 a1.f_Links.length c_a1_8, .int .i64 a1.f_Bits, .slice A_a1_10 a1.f_Routers.length c_a1_10, .slice A_a1_11 a1.f_Verts.length c_a1_11].toArray), (2, .agg [.int .i64 a2.f_Kind, .int .i64 a2.f_Id, .int .i64 a2.f_Data, .int .i64 a2.f_Cost].toArray)]) rfl ?_
  refine cSeq (fun K1 hK1 => ?_)
  refine cRgn [] trivial ?_
  refine eW (oBox HF rfl) rfl ?_
  rintro _ w1 ⟨g1, rfl, HF1⟩
  refine eW (oBox HF1 rfl) rfl ?_
  rintro _ w2 ⟨g2, rfl, HF2⟩
  refine eW (oAlloc HF2 ti37) rfl ?_
  rintro _ w3 ⟨g3, rfl, HF3⟩
  refine sL (asg rfl) rfl ?_
  refine lEnd (K := fun _ _ => True) ?_
  refine kN (?_)
  refine hK1 _ _ ?_
  refine cSeq (fun K2 hK2 => ?_)
  refine cRgn [] trivial ?_
  refine sL (fa44_0 rfl) rfl ?_
  refine sL (fa41_2 rfl) rfl ?_
  refine sL (ld rfl Try.underlying3 rfl (HF3.box (mem_c (mem_c mem_h)) rfl)) rfl ?_
  refine sL (bd (r := [.int .i64 1, .int .i64 a1.f_Head.f_Id]) pl35 ti35 rfl rfl) rfl ?_
  refine sL (fa56_3 rfl) rfl ?_
  refine sL (ld rfl Try.underlying3 rfl (HF3.box (mem_c mem_h) rfl)) rfl ?_
  refine sL (fa56_2 rfl) rfl ?_
  refine sL (ld rfl Try.underlying3 rfl (HF3.box (mem_c mem_h) rfl)) rfl ?_
  refine sL (bd (r := [.int .i64 1, .int .i64 a1.f_Head.f_Id, .int .i64 0, .int .i64 0, .int .i64 a2.f_Cost, .int .i64 a2.f_Data]) pl37 ti37 rfl rfl) rfl ?_
  refine eW (oAlloc HF3 ti37) rfl ?_
  rintro _ w4 ⟨g4, rfl, HF4⟩
  refine eS (oSt (l1 := [.int .i64 1, .int .i64 a1.f_Head.f_Id, .int .i64 0, .int .i64 0, .int .i64 a2.f_Cost, .int .i64 a2.f_Data]) HF4 rfl rfl ti37 rfl (ones rfl) (Nat.le_of_ble_eq_true rfl) rfl) ?_
  rintro w5 HF5
  refine lEnd (K := fun _ _ => True) ?_
  refine kN (?_)
  refine hK2 _ _ ?_
  refine cSeq (fun K3 hK3 => ?_)
  refine cSeq (fun K4 hK4 => ?_)
  refine cRgn [] trivial ?_
  refine sL (fa56_0 rfl) rfl ?_
  refine sL (ld rfl Try.underlying3 rfl (HF5.box (mem_c (mem_c mem_h)) rfl)) rfl ?_
  refine lEnd (K := fun _ _ => True) ?_
  refine kN (?_)
  refine hK4 _ _ ?_
  refine cBlock ?_
  refine cSeq (fun K5 hK5 => ?_)
  refine cRgn [] trivial ?_
  refine sL (bEql rfl rfl) rfl ?_
  refine sL (asg rfl) rfl ?_
  refine lEnd (K := fun _ _ => True) ?_
  refine kN (?_)
  refine hK5 _ _ ?_
  by_cases c1 : a2.f_Kind = 1
  · replace H := itT c1 H
    refine cSet (i := 24) rfl (dT c1) ?_
    refine cT rfl ?_
    refine cSeq (fun K6 hK6 => ?_)
    replace H := bnd H; obtain ⟨y1, H, Ho1⟩ := H
    refine cJoin (y := y1) (fun (s1 : Bool) a w => Env 73 [(5, .pointer (some ⟨g2, 0, none⟩)), (6, .pointer (some ⟨g3, 0, none⟩)), (7, .bool false), (8, .pointer (some ⟨g4, 0, none⟩)), (10, .bool s1)] a ∧ Fits z w (bk g4 37 [.int .i64 1, .int .i64 a1.f_Head.f_Id, .int .i64 0, .int .i64 0, .int .i64 a2.f_Cost, .int .i64 a2.f_Data] :: (bk g3 37 [.int .i64 0, .int .i64 0, .int .i64 0, .int .i64 0, .int .i64 0, .int .i64 0] :: (bk g2 56 [.int .i64 a2.f_Kind, .int .i64 a2.f_Id, .int .i64 a2.f_Data, .int .i64 a2.f_Cost] :: (bk g_a0 61 [.slice A_a0_0 a0.f_routers.length c_a0_0, .slice A_a0_1 a0.f_networks.length c_a0_1, mapV A_a0_2, mapV A_a0_3] :: (L_a0_0 ++ (L_a0_1 ++ (L_a0_2 ++ (L_a0_3 ++ F))))))))) ?_ ?_
    · refine cDraw mo_ HF5 rfl (fun w => Fits z w (bk g4 37 [.int .i64 1, .int .i64 a1.f_Head.f_Id, .int .i64 0, .int .i64 0, .int .i64 a2.f_Cost, .int .i64 a2.f_Data] :: (bk g3 37 [.int .i64 0, .int .i64 0, .int .i64 0, .int .i64 0, .int .i64 0, .int .i64 0] :: (bk g2 56 [.int .i64 a2.f_Kind, .int .i64 a2.f_Id, .int .i64 a2.f_Data, .int .i64 a2.f_Cost] :: (bk g1 44 [.int .i64 a1.f_Head.f_Age, .int .i64 a1.f_Head.f_Kind, .int .i64 a1.f_Head.f_Id, .int .i64 a1.f_Head.f_Adv, .int .i64 a1.f_Head.f_Seq, .int .i64 a1.f_Head.f_Sum, .int .i64 a1.f_Head.f_Len, .int .i64 a1.f_Flags, .slice A_a1_8 a1.f_Links.length c_a1_8, .int .i64 a1.f_Bits, .slice A_a1_10 a1.f_Routers.length c_a1_10, .slice A_a1_11 a1.f_Verts.length c_a1_11] :: (bk g_a0 61 [.slice A_a0_0 a0.f_routers.length c_a0_0, .slice A_a0_1 a0.f_networks.length c_a0_1, mapV A_a0_2, mapV A_a0_3] :: (L_a0_0 ++ (L_a0_1 ++ (L_a0_2 ++ (L_a0_3 ++ F)))))))))) (fun w19 HF31 => ?_)
      refine hTake 0 rfl (by kernel_rfl) (pThen (pThen (pBlock (pThen pFn)))) (fun w_ hS_ => mv rfl) HF31 rfl rfl ?_
      refine hTake 1 rfl (by kernel_rfl) (pThen (pThen (pBlock (pThen pFn)))) (fun w_ hS_ => nc rfl) HF31 rfl rfl ?_
      refine hTake 2 rfl (by kernel_rfl) (pThen (pThen (pBlock (pThen pFn)))) (fun w_ hS_ => fa61_2 rfl) HF31 rfl rfl ?_
      refine hTake 3 rfl (by kernel_rfl) (pThen (pThen (pBlock (pThen pFn)))) (fun w_ hS_ => ld rfl Try.underlying59 rfl (hS_.box (mem_c (mem_c (mem_c (mem_c mem_h)))) rfl)) HF31 rfl rfl ?_
      refine hTake 4 rfl (by kernel_rfl) (pThen (pThen (pBlock (pThen pFn)))) (fun w_ hS_ => fa56_1 rfl) HF31 rfl rfl ?_
      refine hTake 5 rfl (by kernel_rfl) (pThen (pThen (pBlock (pThen pFn)))) (fun w_ hS_ => ld rfl Try.underlying3 rfl (hS_.box (mem_c (mem_c mem_h)) rfl)) HF31 rfl rfl ?_
      obtain ⟨e10, q9, q10, _, hk5⟩ := lookB (z := z) (⟨(⟨0, 0, 0, 0, 0, 0, 0⟩ : T_api_Head), 0, [], 0, [], []⟩ : T_api_Lsa) a2.f_Id ho_a0_2 Try.underlying59 Try.underlying3 ti44 ⟨rfl, mk_T_api_Lsa (x := (⟨(⟨0, 0, 0, 0, 0, 0, 0⟩ : T_api_Head), 0, [], 0, [], []⟩ : T_api_Lsa)) RdS.nil RdS.nil RdS.nil⟩
      obtain ⟨A13, c14, A14, c15, A15, c16, rfl, hr13, hr14, hr15⟩ := rd_T_api_Lsa hk5
      refine hTake 6 rfl (by kernel_rfl) (pThen (pThen (pBlock (pThen pFn)))) (fun w_ hS_ => lookR (q10 hS_ (sub_c (sub_c (sub_c (sub_c (sub_c (sub_a (sub_a sub_h)))))))) rfl rfl) HF31 rfl rfl ?_
      refine hTake 7 rfl (by kernel_rfl) (pThen (pThen (pBlock (pThen pFn)))) (fun w_ hS_ => fa44_0 rfl) HF31 rfl rfl ?_
      refine hTake 8 rfl (by kernel_rfl) (pThen (pThen (pBlock (pThen pFn)))) (fun w_ hS_ => fa41_2 rfl) HF31 rfl rfl ?_
      refine hTake 9 rfl (by kernel_rfl) (pThen (pThen (pBlock (pThen pFn)))) (fun w_ hS_ => ld rfl Try.underlying3 rfl (hS_.box (mem_c (mem_c (mem_c mem_h))) rfl)) HF31 rfl rfl ?_
      refine h2 10 14 (by kernel_rfl) rfl rfl ?_ ?_
      · replace H := bnd H; obtain ⟨⟨t9, t10⟩, J5, H⟩ := H
        refine qCall rfl gd0 isf26 rfl rfl rfl (f_topo_back.ok (a0 := (mGetD (⟨(⟨0, 0, 0, 0, 0, 0, 0⟩ : T_api_Head), 0, [], 0, [], []⟩ : T_api_Lsa) a0.f_router a2.f_Id)) (sub_c (sub_c (sub_c (sub_c (sub_c (sub_a (sub_a (sub_a (sub_a hG))))))))) J5 HF31 (sub_c (sub_c (sub_c (sub_c (sub_c (sub_a (sub_a (sub_a (sub_a hG))))))))) hr13 (sub_c (sub_c (sub_c (sub_c (sub_c (sub_a (sub_a (sub_a (sub_a hG))))))))) hr14 (sub_c (sub_c (sub_c (sub_c (sub_c (sub_a (sub_a (sub_a (sub_a hG))))))))) hr15) ?_
        rintro _ w20 ⟨rfl, HF32⟩
        refine ⟨_, rfl, HF32, ?_⟩
        refine hTake 11 rfl (by kernel_rfl) (pThen (pThen (pBlock (pThen pFn)))) (fun w_ hS_ => mv rfl) HF32 rfl rfl ?_
        refine hTake 12 rfl (by kernel_rfl) (pThen (pThen (pBlock (pThen pFn)))) (fun w_ hS_ => ex rfl rfl) HF32 rfl rfl ?_
        refine hTake 13 rfl (by kernel_rfl) (pThen (pThen (pBlock (pThen pFn)))) (fun w_ hS_ => ex rfl rfl) HF32 rfl rfl ?_
        refine h1 14 (by kernel_rfl) rfl ?_
        refine qW rfl gd0 (oAlloc HF32 ti56) rfl ?_
        rintro _ w21 ⟨g9, rfl, HF33⟩
        have HF34 := HF33.sublist (sl_dc (sl_c (sl_c (sl_c (sl_c (sl_c (sl_a (sl_a (sl_a (sl_a (List.Sublist.refl _)))))))))))
        refine ⟨HF34, ?_⟩
        refine h1 15 (by kernel_rfl) rfl ?_
        refine qS rfl gd0 (oSt (l1 := [.int .i64 t9.f_Kind, .int .i64 t9.f_Id, .int .i64 t9.f_Data, .int .i64 t9.f_Cost]) HF33 rfl rfl ti56 rfl (ones rfl) (Nat.le_of_ble_eq_true rfl) rfl) ?_
        rintro w22 HF35
        have HF36 := HF35.sublist (sl_dc (sl_c (sl_c (sl_c (sl_c (sl_c (sl_a (sl_a (sl_a (sl_a (List.Sublist.refl _)))))))))))
        refine ⟨HF36, ?_⟩
        refine hTake 16 rfl (by kernel_rfl) (pThen (pThen (pBlock (pThen pFn)))) (fun w_ hS_ => asg rfl) HF36 rfl rfl ?_
        refine hEnd (by kernel_rfl) ?_
        refine kN (?_)
        have HF37 := HF35.sublist (sl_dc (sl_c (sl_c (sl_c (sl_dc (sl_c (sl_a (sl_a (sl_a (sl_a (List.Sublist.refl _)))))))))))
        exact ofEnv (fun a hE => ⟨_, (Option.some.inj H).symm, ⟨hE.keep (Keep.cons rfl (Keep.cons rfl (Keep.cons rfl (Keep.cons rfl (Keep.cons rfl (Keep.nil)))))), HF37⟩⟩)
      · refine qW rfl gd0 (oAlloc HF31 ti56) rfl ?_
        rintro _ w20 ⟨g9, rfl, HF32⟩
        have HF33 := HF32.sublist (sl_dc (sl_c (sl_c (sl_c (sl_c (sl_c (sl_a (sl_a (sl_a (sl_a (List.Sublist.refl _)))))))))))
        refine ⟨HF33, ?_⟩
        refine h1 10 (by kernel_rfl) rfl ?_
        replace H := bnd H; obtain ⟨⟨t9, t10⟩, J5, H⟩ := H
        refine qCall rfl gd0 isf26 rfl rfl rfl (f_topo_back.ok (a0 := (mGetD (⟨(⟨0, 0, 0, 0, 0, 0, 0⟩ : T_api_Head), 0, [], 0, [], []⟩ : T_api_Lsa) a0.f_router a2.f_Id)) (sub_c (sub_c (sub_c (sub_c (sub_c (sub_c (sub_a (sub_a (sub_a (sub_a hG)))))))))) J5 HF32 (sub_c (sub_c (sub_c (sub_c (sub_c (sub_c (sub_a (sub_a (sub_a (sub_a hG)))))))))) hr13 (sub_c (sub_c (sub_c (sub_c (sub_c (sub_c (sub_a (sub_a (sub_a (sub_a hG)))))))))) hr14 (sub_c (sub_c (sub_c (sub_c (sub_c (sub_c (sub_a (sub_a (sub_a (sub_a hG)))))))))) hr15) ?_
        rintro _ w21 ⟨rfl, HF34⟩
        have HF35 := HF34.sublist (sl_dc (sl_c (sl_c (sl_c (sl_c (sl_c (sl_a (sl_a (sl_a (sl_a (List.Sublist.refl _)))))))))))
        refine ⟨_, rfl, HF35, ?_⟩
        refine hTake 11 rfl (by kernel_rfl) (pThen (pThen (pBlock (pThen pFn)))) (fun w_ hS_ => mv rfl) HF35 rfl rfl ?_
        refine hTake 12 rfl (by kernel_rfl) (pThen (pThen (pBlock (pThen pFn)))) (fun w_ hS_ => ex rfl rfl) HF35 rfl rfl ?_
        refine hTake 13 rfl (by kernel_rfl) (pThen (pThen (pBlock (pThen pFn)))) (fun w_ hS_ => ex rfl rfl) HF35 rfl rfl ?_
        refine h1 15 (by kernel_rfl) rfl ?_
        refine qS rfl gd0 (oSt (l1 := [.int .i64 t9.f_Kind, .int .i64 t9.f_Id, .int .i64 t9.f_Data, .int .i64 t9.f_Cost]) HF34 rfl rfl ti56 rfl (ones rfl) (Nat.le_of_ble_eq_true rfl) rfl) ?_
        rintro w22 HF36
        have HF37 := HF36.sublist (sl_dc (sl_c (sl_c (sl_c (sl_c (sl_c (sl_a (sl_a (sl_a (sl_a (List.Sublist.refl _)))))))))))
        refine ⟨HF37, ?_⟩
        refine hTake 16 rfl (by kernel_rfl) (pThen (pThen (pBlock (pThen pFn)))) (fun w_ hS_ => asg rfl) HF37 rfl rfl ?_
        refine hEnd (by kernel_rfl) ?_
        refine kN (?_)
        have HF38 := HF36.sublist (sl_dc (sl_c (sl_c (sl_c (sl_dc (sl_c (sl_a (sl_a (sl_a (sl_a (List.Sublist.refl _)))))))))))
        exact ofEnv (fun a hE => ⟨_, (Option.some.inj H).symm, ⟨hE.keep (Keep.cons rfl (Keep.cons rfl (Keep.cons rfl (Keep.cons rfl (Keep.cons rfl (Keep.nil)))))), HF38⟩⟩)
    · rintro s1 a w23 rfl ⟨hE, HF39⟩
      replace H := Ho1
      refine go_k hE ?_
      refine kN (?_)
      refine hK6 _ _ ?_
      refine cSeq (fun K7 hK7 => ?_)
      refine cRgn [] trivial ?_
      refine sL (fa56_1 rfl) rfl ?_
      refine sL (ld rfl Try.underlying3 rfl (HF39.box (mem_c (mem_c mem_h)) rfl)) rfl ?_
      refine sL (bd (r := [.int .i64 1, .int .i64 a2.f_Id]) pl35 ti35 rfl rfl) rfl ?_
      refine sL (fa37_1 rfl) rfl ?_
      refine eS (oSt (l1 := [.int .i64 1, .int .i64 a1.f_Head.f_Id, .int .i64 1, .int .i64 a2.f_Id, .int .i64 a2.f_Cost, .int .i64 a2.f_Data]) HF39 rfl rfl ti35 rfl (ones rfl) (Nat.le_of_ble_eq_true rfl) rfl) ?_
      rintro w24 HF40
      refine lEnd (K := fun _ _ => True) ?_
      refine kN (?_)
      refine hK7 _ _ ?_
      refine cSeq (fun K8 hK8 => ?_)
      refine cRgn [] trivial ?_
      refine sL (ldA (cs := [.int .i64 1, .int .i64 a1.f_Head.f_Id, .int .i64 1, .int .i64 a2.f_Id, .int .i64 a2.f_Cost, .int .i64 a2.f_Data]) rfl ti37 rfl rfl (HF40.boxes (o := 0) (n := 6) (mem_h) rfl)) rfl ?_
      refine sL (mv rfl) rfl ?_
      have HF41 := HF40.perm (perm_c1 (List.Perm.refl _))
      refine eS (oSt (l1 := [.int .i64 1, .int .i64 a1.f_Head.f_Id, .int .i64 1, .int .i64 a2.f_Id, .int .i64 a2.f_Cost, .int .i64 a2.f_Data]) HF41 rfl rfl ti37 rfl (ones rfl) (Nat.le_of_ble_eq_true rfl) rfl) ?_
      rintro w25 HF42
      refine sL (asg rfl) rfl ?_
      refine lEnd (K := fun _ _ => True) ?_
      refine kN (?_)
      refine hK8 _ _ ?_
      refine cRet ?_
      obtain rfl := Option.some.inj H
      refine jR (kR (?_))
      refine retB rfl (rvC rfl (lvA (cs := [.int .i64 1, .int .i64 a1.f_Head.f_Id, .int .i64 1, .int .i64 a2.f_Id, .int .i64 a2.f_Cost, .int .i64 a2.f_Data]) ti37 rfl rfl (HF42.boxes (o := 0) (n := 6) (mem_h) rfl))) rfl ?_
      have HF43 := HF42.sublist (sl_dc (sl_dc (sl_dc (sl_c (sl_a (sl_a (sl_a (sl_a (List.Sublist.refl _)))))))))
      exact ⟨rfl, HF43⟩
  · replace H := itF c1 H
    refine cSet (i := 24) rfl (dF c1) ?_
    refine cF rfl ?_
    refine cSeq (fun K9 hK9 => ?_)
    refine cRgn [] trivial ?_
    refine sL (bEql rfl rfl) rfl ?_
    refine sL (asg rfl) rfl ?_
    refine lEnd (K := fun _ _ => True) ?_
    refine kN (?_)
    refine hK9 _ _ ?_
    by_cases c17 : a2.f_Kind = 2
    · replace H := itT c17 H
      refine cSet (i := 46) rfl (dT c17) ?_
      refine cT rfl ?_
      refine cSeq (fun K10 hK10 => ?_)
      refine cDraw mo_ HF5 rfl (fun w => Fits z w (bk g4 37 [.int .i64 1, .int .i64 a1.f_Head.f_Id, .int .i64 0, .int .i64 0, .int .i64 a2.f_Cost, .int .i64 a2.f_Data] :: (bk g3 37 [.int .i64 0, .int .i64 0, .int .i64 0, .int .i64 0, .int .i64 0, .int .i64 0] :: (bk g2 56 [.int .i64 a2.f_Kind, .int .i64 a2.f_Id, .int .i64 a2.f_Data, .int .i64 a2.f_Cost] :: (bk g1 44 [.int .i64 a1.f_Head.f_Age, .int .i64 a1.f_Head.f_Kind, .int .i64 a1.f_Head.f_Id, .int .i64 a1.f_Head.f_Adv, .int .i64 a1.f_Head.f_Seq, .int .i64 a1.f_Head.f_Sum, .int .i64 a1.f_Head.f_Len, .int .i64 a1.f_Flags, .slice A_a1_8 a1.f_Links.length c_a1_8, .int .i64 a1.f_Bits, .slice A_a1_10 a1.f_Routers.length c_a1_10, .slice A_a1_11 a1.f_Verts.length c_a1_11] :: (bk g_a0 61 [.slice A_a0_0 a0.f_routers.length c_a0_0, .slice A_a0_1 a0.f_networks.length c_a0_1, mapV A_a0_2, mapV A_a0_3] :: (L_a0_0 ++ (L_a0_1 ++ (L_a0_2 ++ (L_a0_3 ++ F)))))))))) (fun w28 HF48 => ?_)
      refine hTake 0 rfl (by kernel_rfl) (pThen (pBlock (pThen pFn))) (fun w_ hS_ => mv rfl) HF48 rfl rfl ?_
      refine hTake 1 rfl (by kernel_rfl) (pThen (pBlock (pThen pFn))) (fun w_ hS_ => nc rfl) HF48 rfl rfl ?_
      refine hTake 2 rfl (by kernel_rfl) (pThen (pBlock (pThen pFn))) (fun w_ hS_ => fa61_3 rfl) HF48 rfl rfl ?_
      refine hTake 3 rfl (by kernel_rfl) (pThen (pBlock (pThen pFn))) (fun w_ hS_ => ld rfl Try.underlying59 rfl (hS_.box (mem_c (mem_c (mem_c (mem_c mem_h)))) rfl)) HF48 rfl rfl ?_
      refine hTake 4 rfl (by kernel_rfl) (pThen (pBlock (pThen pFn))) (fun w_ hS_ => fa56_1 rfl) HF48 rfl rfl ?_
      refine hTake 5 rfl (by kernel_rfl) (pThen (pBlock (pThen pFn))) (fun w_ hS_ => ld rfl Try.underlying3 rfl (hS_.box (mem_c (mem_c mem_h)) rfl)) HF48 rfl rfl ?_
      obtain ⟨e14, q13, q14, _, hk7⟩ := lookB (z := z) (⟨(⟨0, 0, 0, 0, 0, 0, 0⟩ : T_api_Head), 0, [], 0, [], []⟩ : T_api_Lsa) a2.f_Id ho_a0_3 Try.underlying59 Try.underlying3 ti44 ⟨rfl, mk_T_api_Lsa (x := (⟨(⟨0, 0, 0, 0, 0, 0, 0⟩ : T_api_Head), 0, [], 0, [], []⟩ : T_api_Lsa)) RdS.nil RdS.nil RdS.nil⟩
      obtain ⟨A19, c21, A20, c22, A21, c23, rfl, hr19, hr20, hr21⟩ := rd_T_api_Lsa hk7
      refine hTake 6 rfl (by kernel_rfl) (pThen (pBlock (pThen pFn))) (fun w_ hS_ => lookR (q13 hS_ (sub_c (sub_c (sub_c (sub_c (sub_c (sub_a (sub_a (sub_a sub_h))))))))) rfl rfl) HF48 rfl rfl ?_
      refine hTake 7 rfl (by kernel_rfl) (pThen (pBlock (pThen pFn))) (fun w_ hS_ => mv rfl) HF48 rfl rfl ?_
      refine hTake 8 rfl (by kernel_rfl) (pThen (pBlock (pThen pFn))) (fun w_ hS_ => ex rfl rfl) HF48 rfl rfl ?_
      refine hTake 9 rfl (by kernel_rfl) (pThen (pBlock (pThen pFn))) (fun w_ hS_ => ex rfl rfl) HF48 rfl rfl ?_
      refine h1 10 (by kernel_rfl) rfl ?_
      refine qW rfl gd0 (oAlloc HF48 ti44) rfl ?_
      rintro _ w29 ⟨g11, rfl, HF49⟩
      have HF50 := HF49.sublist (sl_dc (sl_c (sl_c (sl_c (sl_c (sl_c (sl_a (sl_a (sl_a (sl_a (List.Sublist.refl _)))))))))))
      refine ⟨HF50, ?_⟩
      refine h1 11 (by kernel_rfl) rfl ?_
      refine qS rfl gd0 (oSt (l1 := [.int .i64 ((mGetD (⟨(⟨0, 0, 0, 0, 0, 0, 0⟩ : T_api_Head), 0, [], 0, [], []⟩ : T_api_Lsa) a0.f_network a2.f_Id).f_Head.f_Age), .int .i64 ((mGetD (⟨(⟨0, 0, 0, 0, 0, 0, 0⟩ : T_api_Head), 0, [], 0, [], []⟩ : T_api_Lsa) a0.f_network a2.f_Id).f_Head.f_Kind), .int .i64 ((mGetD (⟨(⟨0, 0, 0, 0, 0, 0, 0⟩ : T_api_Head), 0, [], 0, [], []⟩ : T_api_Lsa) a0.f_network a2.f_Id).f_Head.f_Id), .int .i64 ((mGetD (⟨(⟨0, 0, 0, 0, 0, 0, 0⟩ : T_api_Head), 0, [], 0, [], []⟩ : T_api_Lsa) a0.f_network a2.f_Id).f_Head.f_Adv), .int .i64 ((mGetD (⟨(⟨0, 0, 0, 0, 0, 0, 0⟩ : T_api_Head), 0, [], 0, [], []⟩ : T_api_Lsa) a0.f_network a2.f_Id).f_Head.f_Seq), .int .i64 ((mGetD (⟨(⟨0, 0, 0, 0, 0, 0, 0⟩ : T_api_Head), 0, [], 0, [], []⟩ : T_api_Lsa) a0.f_network a2.f_Id).f_Head.f_Sum), .int .i64 ((mGetD (⟨(⟨0, 0, 0, 0, 0, 0, 0⟩ : T_api_Head), 0, [], 0, [], []⟩ : T_api_Lsa) a0.f_network a2.f_Id).f_Head.f_Len), .int .i64 ((mGetD (⟨(⟨0, 0, 0, 0, 0, 0, 0⟩ : T_api_Head), 0, [], 0, [], []⟩ : T_api_Lsa) a0.f_network a2.f_Id).f_Flags), .slice A19 ((mGetD (⟨(⟨0, 0, 0, 0, 0, 0, 0⟩ : T_api_Head), 0, [], 0, [], []⟩ : T_api_Lsa) a0.f_network a2.f_Id).f_Links).length c21, .int .i64 ((mGetD (⟨(⟨0, 0, 0, 0, 0, 0, 0⟩ : T_api_Head), 0, [], 0, [], []⟩ : T_api_Lsa) a0.f_network a2.f_Id).f_Bits), .slice A20 ((mGetD (⟨(⟨0, 0, 0, 0, 0, 0, 0⟩ : T_api_Head), 0, [], 0, [], []⟩ : T_api_Lsa) a0.f_network a2.f_Id).f_Routers).length c22, .slice A21 ((mGetD (⟨(⟨0, 0, 0, 0, 0, 0, 0⟩ : T_api_Head), 0, [], 0, [], []⟩ : T_api_Lsa) a0.f_network a2.f_Id).f_Verts).length c23]) HF49 rfl rfl ti44 rfl (ones rfl) (Nat.le_of_ble_eq_true rfl) rfl) ?_
      rintro w30 HF51
      have HF52 := HF51.sublist (sl_dc (sl_c (sl_c (sl_c (sl_c (sl_c (sl_a (sl_a (sl_a (sl_a (List.Sublist.refl _)))))))))))
      refine ⟨HF52, ?_⟩
      refine hTake 12 rfl (by kernel_rfl) (pThen (pBlock (pThen pFn))) (fun w_ hS_ => asg rfl) HF52 rfl rfl ?_
      refine hEnd (by kernel_rfl) ?_
      refine kN (?_)
      refine hK10 _ _ ?_
      refine cSeq (fun K11 hK11 => ?_)
      refine cRgn [] trivial ?_
      refine sL (fa56_1 rfl) rfl ?_
      refine sL (ld rfl Try.underlying3 rfl (HF51.box (mem_c (mem_c (mem_c mem_h))) rfl)) rfl ?_
      refine sL (bd (r := [.int .i64 2, .int .i64 a2.f_Id]) pl35 ti35 rfl rfl) rfl ?_
      refine sL (fa37_1 rfl) rfl ?_
      have HF53 := HF51.perm (perm_c1 (List.Perm.refl _))
      refine eS (oSt (l1 := [.int .i64 1, .int .i64 a1.f_Head.f_Id, .int .i64 2, .int .i64 a2.f_Id, .int .i64 a2.f_Cost, .int .i64 a2.f_Data]) HF53 rfl rfl ti35 rfl (ones rfl) (Nat.le_of_ble_eq_true rfl) rfl) ?_
      rintro w31 HF54
      refine lEnd (K := fun _ _ => True) ?_
      refine kN (?_)
      refine hK11 _ _ ?_
      refine cSeq (fun K12 hK12 => ?_)
      refine cDraw mo_ HF54 rfl (fun w => Fits z w (bk g4 37 [.int .i64 1, .int .i64 a1.f_Head.f_Id, .int .i64 2, .int .i64 a2.f_Id, .int .i64 a2.f_Cost, .int .i64 a2.f_Data] :: (bk g11 44 [.int .i64 ((mGetD (⟨(⟨0, 0, 0, 0, 0, 0, 0⟩ : T_api_Head), 0, [], 0, [], []⟩ : T_api_Lsa) a0.f_network a2.f_Id).f_Head.f_Age), .int .i64 ((mGetD (⟨(⟨0, 0, 0, 0, 0, 0, 0⟩ : T_api_Head), 0, [], 0, [], []⟩ : T_api_Lsa) a0.f_network a2.f_Id).f_Head.f_Kind), .int .i64 ((mGetD (⟨(⟨0, 0, 0, 0, 0, 0, 0⟩ : T_api_Head), 0, [], 0, [], []⟩ : T_api_Lsa) a0.f_network a2.f_Id).f_Head.f_Id), .int .i64 ((mGetD (⟨(⟨0, 0, 0, 0, 0, 0, 0⟩ : T_api_Head), 0, [], 0, [], []⟩ : T_api_Lsa) a0.f_network a2.f_Id).f_Head.f_Adv), .int .i64 ((mGetD (⟨(⟨0, 0, 0, 0, 0, 0, 0⟩ : T_api_Head), 0, [], 0, [], []⟩ : T_api_Lsa) a0.f_network a2.f_Id).f_Head.f_Seq), .int .i64 ((mGetD (⟨(⟨0, 0, 0, 0, 0, 0, 0⟩ : T_api_Head), 0, [], 0, [], []⟩ : T_api_Lsa) a0.f_network a2.f_Id).f_Head.f_Sum), .int .i64 ((mGetD (⟨(⟨0, 0, 0, 0, 0, 0, 0⟩ : T_api_Head), 0, [], 0, [], []⟩ : T_api_Lsa) a0.f_network a2.f_Id).f_Head.f_Len), .int .i64 ((mGetD (⟨(⟨0, 0, 0, 0, 0, 0, 0⟩ : T_api_Head), 0, [], 0, [], []⟩ : T_api_Lsa) a0.f_network a2.f_Id).f_Flags), .slice A19 ((mGetD (⟨(⟨0, 0, 0, 0, 0, 0, 0⟩ : T_api_Head), 0, [], 0, [], []⟩ : T_api_Lsa) a0.f_network a2.f_Id).f_Links).length c21, .int .i64 ((mGetD (⟨(⟨0, 0, 0, 0, 0, 0, 0⟩ : T_api_Head), 0, [], 0, [], []⟩ : T_api_Lsa) a0.f_network a2.f_Id).f_Bits), .slice A20 ((mGetD (⟨(⟨0, 0, 0, 0, 0, 0, 0⟩ : T_api_Head), 0, [], 0, [], []⟩ : T_api_Lsa) a0.f_network a2.f_Id).f_Routers).length c22, .slice A21 ((mGetD (⟨(⟨0, 0, 0, 0, 0, 0, 0⟩ : T_api_Head), 0, [], 0, [], []⟩ : T_api_Lsa) a0.f_network a2.f_Id).f_Verts).length c23] :: (bk g2 56 [.int .i64 a2.f_Kind, .int .i64 a2.f_Id, .int .i64 a2.f_Data, .int .i64 a2.f_Cost] :: (bk g1 44 [.int .i64 a1.f_Head.f_Age, .int .i64 a1.f_Head.f_Kind, .int .i64 a1.f_Head.f_Id, .int .i64 a1.f_Head.f_Adv, .int .i64 a1.f_Head.f_Seq, .int .i64 a1.f_Head.f_Sum, .int .i64 a1.f_Head.f_Len, .int .i64 a1.f_Flags, .slice A_a1_8 a1.f_Links.length c_a1_8, .int .i64 a1.f_Bits, .slice A_a1_10 a1.f_Routers.length c_a1_10, .slice A_a1_11 a1.f_Verts.length c_a1_11] :: (bk g_a0 61 [.slice A_a0_0 a0.f_routers.length c_a0_0, .slice A_a0_1 a0.f_networks.length c_a0_1, mapV A_a0_2, mapV A_a0_3] :: (L_a0_0 ++ (L_a0_1 ++ (L_a0_2 ++ (L_a0_3 ++ F)))))))))) (fun w35 HF80 => ?_)
      have HF81 := HF80.sublist (sl_c (sl_c (sl_dc (sl_c (sl_c (sl_c (sl_a (sl_a (sl_a (sl_a (List.Sublist.refl _)))))))))))
      refine hTake 0 rfl (by kernel_rfl) (pThen (pBlock (pThen pFn))) (fun w_ hS_ => ldA (cs := [.int .i64 1, .int .i64 a1.f_Head.f_Id, .int .i64 2, .int .i64 a2.f_Id, .int .i64 a2.f_Cost, .int .i64 a2.f_Data]) rfl ti37 rfl rfl (hS_.boxes (o := 0) (n := 6) (mem_h) rfl)) HF81 rfl rfl ?_
      refine hTake 1 rfl (by kernel_rfl) (pThen (pBlock (pThen pFn))) (fun w_ hS_ => mv rfl) HF81 rfl rfl ?_
      refine hTake 2 rfl (by kernel_rfl) (pThen (pBlock (pThen pFn))) (fun w_ hS_ => mv rfl) HF81 rfl rfl ?_
      by_cases c25 : (mHas a0.f_network a2.f_Id) = true
      · replace H := itT c25 H
        refine hSet (i := 64) rfl (vT c25) ?_
        refine hTakeG 3 rfl rfl rfl (by kernel_rfl) (pThen (pBlock (pThen pFn))) (fun w_ hS_ => fa44_4 rfl) HF81 rfl rfl ?_
        refine hTakeG 4 rfl rfl rfl (by kernel_rfl) (pThen (pBlock (pThen pFn))) (fun w_ hS_ => ld rfl Try.underlying30 rfl (hS_.box (mem_c mem_h) rfl)) HF81 rfl rfl ?_
        refine hTakeG 5 rfl rfl rfl (by kernel_rfl) (pThen (pBlock (pThen pFn))) (fun w_ hS_ => fa44_0 rfl) HF81 rfl rfl ?_
        refine hTakeG 6 rfl rfl rfl (by kernel_rfl) (pThen (pBlock (pThen pFn))) (fun w_ hS_ => fa41_2 rfl) HF81 rfl rfl ?_
        refine hTakeG 7 rfl rfl rfl (by kernel_rfl) (pThen (pBlock (pThen pFn))) (fun w_ hS_ => ld rfl Try.underlying3 rfl (hS_.box (mem_c (mem_c (mem_c mem_h))) rfl)) HF81 rfl rfl ?_
        refine h1 8 (by kernel_rfl) rfl ?_
        replace H := bnd H; obtain ⟨t12, J7, H⟩ := H
        refine qCall rfl (gd1 rfl rfl) isf27 rfl rfl rfl (f_slices_Contains_int_int.ok (a0 := (mGetD (⟨(⟨0, 0, 0, 0, 0, 0, 0⟩ : T_api_Head), 0, [], 0, [], []⟩ : T_api_Lsa) a0.f_network a2.f_Id).f_Routers) (sub_c (sub_c (sub_c (sub_c (sub_c (sub_c (sub_a (sub_a (sub_a (sub_a hG)))))))))) J7 HF80 (sub_c (sub_c (sub_c (sub_c (sub_c (sub_c (sub_a (sub_a (sub_a (sub_a hG)))))))))) hr20) ?_
        rintro _ w36 ⟨rfl, HF82⟩
        have HF83 := HF82.sublist (sl_c (sl_c (sl_dc (sl_c (sl_c (sl_c (sl_a (sl_a (sl_a (sl_a (List.Sublist.refl _)))))))))))
        refine ⟨_, rfl, HF83, ?_⟩
        refine hTake 9 rfl (by kernel_rfl) (pThen (pBlock (pThen pFn))) (fun w_ hS_ => pkT rfl rfl) HF83 rfl rfl ?_
        refine h1 10 (by kernel_rfl) rfl ?_
        have HF84 := HF82.perm (perm_c1 (perm_c1 (List.Perm.refl _)))
        refine qS rfl gd0 (oSt (l1 := [.int .i64 1, .int .i64 a1.f_Head.f_Id, .int .i64 2, .int .i64 a2.f_Id, .int .i64 a2.f_Cost, .int .i64 a2.f_Data]) HF84 rfl rfl ti37 rfl (ones rfl) (Nat.le_of_ble_eq_true rfl) rfl) ?_
        rintro w37 HF85
        have HF86 := HF85.sublist (sl_dc (sl_c (sl_c (sl_c (sl_c (sl_c (sl_a (sl_a (sl_a (sl_a (List.Sublist.refl _)))))))))))
        refine ⟨HF86, ?_⟩
        refine hTake 11 rfl (by kernel_rfl) (pThen (pBlock (pThen pFn))) (fun w_ hS_ => asg rfl) HF86 rfl rfl ?_
        refine hEnd (by kernel_rfl) ?_
        refine kN (?_)
        refine hK12 _ _ ?_
        refine cRet ?_
        obtain rfl := Option.some.inj H
        refine jR (kR (?_))
        refine retB rfl (rvC rfl (lvA (cs := [.int .i64 1, .int .i64 a1.f_Head.f_Id, .int .i64 2, .int .i64 a2.f_Id, .int .i64 a2.f_Cost, .int .i64 a2.f_Data]) ti37 rfl rfl (HF85.boxes (o := 0) (n := 6) (mem_h) rfl))) rfl ?_
        have HF87 := HF85.sublist (sl_dc (sl_dc (sl_dc (sl_dc (sl_dc (sl_c (sl_a (sl_a (sl_a (sl_a (List.Sublist.refl _)))))))))))
        exact ⟨rfl, HF87⟩
      · replace H := itF c25 H
        refine hSet (i := 64) rfl (vF c25) ?_
        refine hTakeN 3 rfl rfl rfl (by kernel_rfl) (pThen (pBlock (pThen pFn))) HF81 rfl rfl ?_
        refine hTakeN 4 rfl rfl rfl (by kernel_rfl) (pThen (pBlock (pThen pFn))) HF81 rfl rfl ?_
        refine hTakeN 5 rfl rfl rfl (by kernel_rfl) (pThen (pBlock (pThen pFn))) HF81 rfl rfl ?_
        refine hTakeN 6 rfl rfl rfl (by kernel_rfl) (pThen (pBlock (pThen pFn))) HF81 rfl rfl ?_
        refine hTakeN 7 rfl rfl rfl (by kernel_rfl) (pThen (pBlock (pThen pFn))) HF81 rfl rfl ?_
        refine hTakeN 8 rfl rfl rfl (by kernel_rfl) (pThen (pBlock (pThen pFn))) HF81 rfl rfl ?_
        refine hTake 9 rfl (by kernel_rfl) (pThen (pBlock (pThen pFn))) (fun w_ hS_ => pkF rfl rfl) HF81 rfl rfl ?_
        refine h1 10 (by kernel_rfl) rfl ?_
        have HF88 := HF80.perm (perm_c1 (perm_c1 (List.Perm.refl _)))
        refine qS rfl gd0 (oSt (l1 := [.int .i64 1, .int .i64 a1.f_Head.f_Id, .int .i64 2, .int .i64 a2.f_Id, .int .i64 a2.f_Cost, .int .i64 a2.f_Data]) HF88 rfl rfl ti37 rfl (ones rfl) (Nat.le_of_ble_eq_true rfl) rfl) ?_
        rintro w38 HF89
        have HF90 := HF89.sublist (sl_dc (sl_c (sl_c (sl_c (sl_c (sl_c (sl_a (sl_a (sl_a (sl_a (List.Sublist.refl _)))))))))))
        refine ⟨HF90, ?_⟩
        refine hTake 11 rfl (by kernel_rfl) (pThen (pBlock (pThen pFn))) (fun w_ hS_ => asg rfl) HF90 rfl rfl ?_
        refine hEnd (by kernel_rfl) ?_
        refine kN (?_)
        refine hK12 _ _ ?_
        refine cRet ?_
        obtain rfl := Option.some.inj H
        refine jR (kR (?_))
        refine retB rfl (rvC rfl (lvA (cs := [.int .i64 1, .int .i64 a1.f_Head.f_Id, .int .i64 2, .int .i64 a2.f_Id, .int .i64 a2.f_Cost, .int .i64 a2.f_Data]) ti37 rfl rfl (HF89.boxes (o := 0) (n := 6) (mem_h) rfl))) rfl ?_
        have HF91 := HF89.sublist (sl_dc (sl_dc (sl_dc (sl_dc (sl_dc (sl_c (sl_a (sl_a (sl_a (sl_a (List.Sublist.refl _)))))))))))
        exact ⟨rfl, HF91⟩
    · replace H := itF c17 H
      refine cSet (i := 46) rfl (dF c17) ?_
      refine cF rfl ?_
      refine cSkip ?_
      refine jN (kN (?_))
      refine hK3 _ _ ?_
      refine cSeq (fun K13 hK13 => ?_)
      refine cRgn [] trivial ?_
      refine sL (ldA (cs := [.int .i64 1, .int .i64 a1.f_Head.f_Id, .int .i64 0, .int .i64 0, .int .i64 a2.f_Cost, .int .i64 a2.f_Data]) rfl ti37 rfl rfl (HF5.boxes (o := 0) (n := 6) (mem_h) rfl)) rfl ?_
      have HF92 := HF5.perm (perm_c1 (List.Perm.refl _))
      refine eS (oSt (l1 := [.int .i64 1, .int .i64 a1.f_Head.f_Id, .int .i64 0, .int .i64 0, .int .i64 a2.f_Cost, .int .i64 a2.f_Data]) HF92 rfl rfl ti37 rfl (ones rfl) (Nat.le_of_ble_eq_true rfl) rfl) ?_
      rintro w39 HF93
      refine sL (asg rfl) rfl ?_
      refine lEnd (K := fun _ _ => True) ?_
      refine kN (?_)
      refine hK13 _ _ ?_
      refine cRet ?_
      obtain rfl := Option.some.inj H
      refine retB rfl (rvC rfl (lvA (cs := [.int .i64 1, .int .i64 a1.f_Head.f_Id, .int .i64 0, .int .i64 0, .int .i64 a2.f_Cost, .int .i64 a2.f_Data]) ti37 rfl rfl (HF93.boxes (o := 0) (n := 6) (mem_h) rfl))) rfl ?_
      have HF94 := HF93.sublist (sl_dc (sl_dc (sl_dc (sl_dc (sl_c (sl_a (sl_a (sl_a (sl_a (List.Sublist.refl _))))))))))
      exact ⟨rfl, HF94⟩
/-! ### plenum/addr.Mask (function 50) -/
abbrev f_addr_Mask.R := Int
noncomputable def f_addr_Mask (a0 : Int) : Option f_addr_Mask.R := (if 0 ≤ (IntKind.i64.wrap (32 - (if (if 32 < a0 then 32 else a0) > 0 then (if 32 < a0 then 32 else a0) else 0))) then some (bits .and .i64 (shlI .i64 4294967295 (IntKind.i64.wrap (32 - (if (if 32 < a0 then 32 else a0) > 0 then (if 32 < a0 then 32 else a0) else 0)))) 4294967295) else none)
set_option maxHeartbeats 1000000 in
theorem f_addr_Mask.ok {z w : World} {F : Hp} {a0 : Int} {r : f_addr_Mask.R} (H : f_addr_Mask a0 = some r) (HF : Fits z w F) :
    Calls Try.prog 50 [.int .i64 a0].toArray w fun e w' => e = .returned (.int .i64 r) ∧ Fits z w' F := by
  unfold f_addr_Mask at H
  refine enter0 Try.func50 rfl Try.ntmps50 rfl (E := [(0, .int .i64 a0)]) rfl ?_
  refine cSeq (fun K1 hK1 => ?_)
  refine cRgn [] trivial ?_
  refine sL (asg rfl) rfl ?_
  refine lEnd (K := fun _ _ => True) ?_
  refine kN (?_)
  refine hK1 _ _ ?_
  refine cSeq (fun K2 hK2 => ?_)
  refine cRgn [] trivial ?_
  refine sL (mv rfl) rfl ?_
  refine sL (mn2 rfl rfl) rfl ?_
  refine sL (mx2 rfl rfl) rfl ?_
  refine sL (bSub rfl rfl) rfl ?_
  replace H := chk H; obtain ⟨c1, H⟩ := H
  refine sL (bShl rfl rfl c1) rfl ?_
  refine sL (bAnd rfl rfl) rfl ?_
  refine sL (asg rfl) rfl ?_
  refine lEnd (K := fun _ _ => True) ?_
  refine kN (?_)
  refine hK2 _ _ ?_
  refine cRet ?_
  obtain rfl := Option.some.inj H
  refine ret1 rfl rfl ?_
  exact ⟨rfl, HF⟩
/-! ### plenum/addr.Bits (function 24) -/
abbrev f_addr_Bits.R := Int
noncomputable def f_addr_Bits.b0 (a0 : Int) (s1 : Int) : Option (Sum (Int) (Sum (Int) f_addr_Bits.R)) := (if s1 < 33 then ((f_addr_Mask s1).bind fun t3 => (if t3 = a0 then some (.inr (.inr s1)) else some (.inl (IntKind.i64.wrap (s1 + 1))))) else some (.inr (.inl s1)))
noncomputable def f_addr_Bits (a0 : Int) : Option f_addr_Bits.R := ((loopO (f_addr_Bits.b0 a0) 0).bind fun y1 => match y1 with | .inl s1 => some (-1) | .inr r_ => some r_)
set_option maxHeartbeats 1000000 in
theorem f_addr_Bits.ok {z w : World} {F : Hp} {a0 : Int} {r : f_addr_Bits.R} (H : f_addr_Bits a0 = some r) (HF : Fits z w F) :
    Calls Try.prog 24 [.int .i64 a0].toArray w fun e w' => e = .returned (.int .i64 r) ∧ Fits z w' F := by
  unfold f_addr_Bits at H
  refine enter0 Try.func24 rfl Try.ntmps24 rfl (E := [(0, .int .i64 a0)]) rfl ?_
  refine cSeq (fun K1 hK1 => ?_)
  refine cRgn [] trivial ?_
  refine sL (asg rfl) rfl ?_
  refine lEnd (K := fun _ _ => True) ?_
  refine kN (?_)
  refine hK1 _ _ ?_
  refine cSeq (fun K2 hK2 => ?_)
  refine cSeq (fun K3 hK3 => ?_)
  refine cRgn [] trivial ?_
  refine sL (mv rfl) rfl ?_
  refine lEnd (K := fun _ _ => True) ?_
  refine kN (?_)
  refine hK3 _ _ ?_
  replace H := bnd H; obtain ⟨y1, J4, Ho1⟩ := H
  refine cLoopB (f_addr_Bits.b0 a0) (fun (s1 : Int) a w => Env 13 [(0, .int .i64 a0), (2, .int .i64 0), (4, .int .i64 s1)] a ∧ Fits z w F) J4 (fun a hE => ⟨hE.keep (Keep.cons rfl (Keep.cons rfl (Keep.cons rfl (Keep.nil)))), HF⟩) ?_ ?_
  · rintro s1 a w3 y2 ⟨hE, HF3⟩ H Hx1
    refine go_ hE ?_
    refine cSeq (fun K16 hK16 => ?_)
    refine cRgn [] trivial ?_
    refine sL (bLss rfl rfl) rfl ?_
    refine lEnd (K := fun _ _ => True) ?_
    refine kN (?_)
    refine hK16 _ _ ?_
    refine cSeq (fun K17 hK17 => ?_)
    by_cases c4 : s1 < 33
    · replace H := itT c4 H
      refine cSet (i := 5) rfl (dT c4) ?_
      refine cT rfl ?_
      refine cSkip ?_
      refine kN (?_)
      refine hK17 _ _ ?_
      refine cSeq (fun K18 hK18 => ?_)
      refine cBlock ?_
      refine cSeq (fun K19 hK19 => ?_)
      refine cRgn [] trivial ?_
      refine sL (mv rfl) rfl ?_
      refine sL (asg rfl) rfl ?_
      refine lEnd (K := fun _ _ => True) ?_
      refine kN (?_)
      refine hK19 _ _ ?_
      refine cSeq (fun K20 hK20 => ?_)
      refine cRgn [] trivial ?_
      refine sL (mv rfl) rfl ?_
      replace H := bnd H; obtain ⟨t3, J3, H⟩ := H
      refine eCall isf50 rfl rfl rfl (f_addr_Mask.ok J3 HF3) ?_
      rintro _ w4 ⟨rfl, HF4⟩
      refine ⟨_, rfl, ?_⟩
      refine sL (mv rfl) rfl ?_
      refine sL (bEql rfl rfl) rfl ?_
      refine lEnd (K := fun _ _ => True) ?_
      refine kN (?_)
      refine hK20 _ _ ?_
      by_cases c5 : t3 = a0
      · replace H := itT c5 H
        refine cSet (i := 10) rfl (dT c5) ?_
        refine cT rfl ?_
        refine cSeq (fun K21 hK21 => ?_)
        refine cRgn [] trivial ?_
        refine sL (mv rfl) rfl ?_
        refine sL (asg rfl) rfl ?_
        refine lEnd (K := fun _ _ => True) ?_
        refine kN (?_)
        refine hK21 _ _ ?_
        refine cRet ?_
        have e_ := Hx1 _ (Option.some.inj H).symm
        subst e_
        replace H := Ho1
        obtain rfl := Option.some.inj H
        refine jR (kR (kR (jR (kR (kR (?_))))))
        refine ret1 rfl rfl ?_
        exact ⟨rfl, HF4⟩
      · replace H := itF c5 H
        refine cSet (i := 10) rfl (dF c5) ?_
        refine cF rfl ?_
        refine cSkip ?_
        refine jN (kN (?_))
        refine hK18 _ _ ?_
        refine cRgn [] trivial ?_
        refine sL (bAdd rfl rfl) rfl ?_
        refine sL (mv rfl) rfl ?_
        refine lEnd (K := fun _ _ => True) ?_
        refine kN (?_)
        exact ofEnv (fun a hE => ⟨_, (Option.some.inj H).symm, ⟨hE.keep (Keep.cons rfl (Keep.cons rfl (Keep.cons rfl (Keep.nil)))), HF4⟩⟩)
    · replace H := itF c4 H
      refine cSet (i := 5) rfl (dF c4) ?_
      refine cF rfl ?_
      refine cExit ?_
      refine kX (kX (jX (kN (?_))))
      exact ofEnv (fun a hE => ⟨_, (Option.some.inj H).symm, ⟨hE.keep (Keep.cons rfl (Keep.cons rfl (Keep.cons rfl (Keep.nil)))), HF3⟩⟩)
  · rintro s1 a w5 rfl ⟨hE, HF5⟩
    replace H := Ho1
    refine go_k hE ?_
    refine kN (?_)
    refine hK2 _ _ ?_
    refine cSeq (fun K22 hK22 => ?_)
    refine cRgn [] trivial ?_
    refine sL (asg rfl) rfl ?_
    refine lEnd (K := fun _ _ => True) ?_
    refine kN (?_)
    refine hK22 _ _ ?_
    refine cRet ?_
    obtain rfl := Option.some.inj H
    refine ret1 rfl rfl ?_
    exact ⟨rfl, HF5⟩
/-! ### plenum/addr.Net (function 25) -/
abbrev f_addr_Net.R := Int
noncomputable def f_addr_Net (a0 : Int) (a1 : Int) : Option f_addr_Net.R := ((f_addr_Mask a1).bind fun t1 => some (bits .and .i64 a0 t1))
set_option maxHeartbeats 1000000 in
theorem f_addr_Net.ok {z w : World} {F : Hp} {a0 : Int} {a1 : Int} {r : f_addr_Net.R} (H : f_addr_Net a0 a1 = some r) (HF : Fits z w F) :
    Calls Try.prog 25 [.int .i64 a0, .int .i64 a1].toArray w fun e w' => e = .returned (.int .i64 r) ∧ Fits z w' F := by
  unfold f_addr_Net at H
  refine enter0 Try.func25 rfl Try.ntmps25 rfl (E := [(0, .int .i64 a0), (1, .int .i64 a1)]) rfl ?_
  refine cSeq (fun K1 hK1 => ?_)
  refine cRgn [] trivial ?_
  refine sL (asg rfl) rfl ?_
  refine lEnd (K := fun _ _ => True) ?_
  refine kN (?_)
  refine hK1 _ _ ?_
  refine cSeq (fun K2 hK2 => ?_)
  refine cRgn [] trivial ?_
  refine sL (mv rfl) rfl ?_
  refine sL (mv rfl) rfl ?_
  replace H := bnd H; obtain ⟨t1, J1, H⟩ := H
  refine eCall isf50 rfl rfl rfl (f_addr_Mask.ok J1 HF) ?_
  rintro _ w1 ⟨rfl, HF1⟩
  refine ⟨_, rfl, ?_⟩
  refine sL (bAnd rfl rfl) rfl ?_
  refine sL (asg rfl) rfl ?_
  refine lEnd (K := fun _ _ => True) ?_
  refine kN (?_)
  refine hK2 _ _ ?_
  refine cRet ?_
  obtain rfl := Option.some.inj H
  refine ret1 rfl rfl ?_
  exact ⟨rfl, HF1⟩
end Go.Proofs.Ytbjnbjgiidcfjaa
