/- The walk, part 3. Conditions: none beside each theorem's own. Written by gen.py out of the print of the loaded program. -/
import Derived.Test.YtbjnbjgiidcfjaaG2
import Derived.KernelRfl
set_option linter.unusedVariables false
set_option linter.unusedSimpArgs false
namespace Go.Proofs.Ytbjnbjgiidcfjaa
open Go Go.Proofs.Ytbjnbjgiidcfjaa.Sp

/-! ### plenum/plenumref8.Vert (function 44) -/
abbrev f_plenumref8_Vert.R := List T_api_Vert
noncomputable def f_plenumref8_Vert.b0 (a0 : List T_api_Vert) (a1 : T_api_Vert) (s1 : Int) : Option (Sum (Int) (Sum (Int) f_plenumref8_Vert.R)) := (if s1 < (a0.length : Int) then (if 0 ≤ s1 then (if ((rd a0 s1).f_Kind) < a1.f_Kind then some (.inl (IntKind.i64.wrap (s1 + 1))) else (if ((rd a0 s1).f_Kind) = a1.f_Kind then (if ((rd a0 s1).f_Id) < a1.f_Id then some (.inl (IntKind.i64.wrap (s1 + 1))) else some (.inr (.inl s1))) else some (.inr (.inl s1)))) else none) else some (.inr (.inl s1)))
noncomputable def f_plenumref8_Vert.b1 (s1 : Int) (s3 : Int × (List T_api_Vert)) : Option (Sum (Int × (List T_api_Vert)) (Sum (Int × (List T_api_Vert)) f_plenumref8_Vert.R)) := (if s1 < s3.1 then (if 0 ≤ (IntKind.i64.wrap (s3.1 - 1)) then (if (IntKind.i64.wrap (s3.1 - 1)) < (s3.2.length : Int) then (if 0 ≤ s3.1 then (if s3.1 < (s3.2.length : Int) then some (.inl (IntKind.i64.wrap (s3.1 - 1), setI s3.2 s3.1 (rd s3.2 (IntKind.i64.wrap (s3.1 - 1))))) else none) else none) else none) else none) else some (.inr (.inl (s3.1, s3.2))))
noncomputable def f_plenumref8_Vert (a0 : List T_api_Vert) (a1 : T_api_Vert) : Option f_plenumref8_Vert.R := ((loopO (f_plenumref8_Vert.b0 a0 a1) 0).bind fun y1 => match y1 with | .inl s1 => ((((if s1 < (a0.length : Int) then (if 0 ≤ s1 then some (.inl (decide ((rd a0 s1) = a1))) else none) else some (.inl false)) : Option (Sum (Bool) f_plenumref8_Vert.R))).bind fun y3 => match y3 with | .inl s2 => (if s2 = true then some a0 else (if (a0.length + 1) * 16 ≤ 140737488355328 then ((loopO (f_plenumref8_Vert.b1 s1) (IntKind.i64.wrap (((a0 ++ [(⟨0, 0⟩ : T_api_Vert)]).length : Int) - 1), (a0 ++ [(⟨0, 0⟩ : T_api_Vert)]))).bind fun y4 => match y4 with | .inl s3 => (if 0 ≤ s1 then (if s1 < (s3.2.length : Int) then some (setI s3.2 s1 a1) else none) else none) | .inr r_ => some r_) else none)) | .inr r_ => some r_) | .inr r_ => some r_)
set_option maxHeartbeats 1000000 in
theorem f_plenumref8_Vert.ok {z w : World} {F G : Hp} (hG : G ⊆ F) {a0 : List T_api_Vert} {A_a0 : Option Addr} {c_a0 : Nat} {L_a0 : Hp} {a1 : T_api_Vert} {r : f_plenumref8_Vert.R} (H : f_plenumref8_Vert a0 a1 = some r) (HF : Fits z w (L_a0 ++ F)) (ho_a0 : OwnS k_T_api_Vert L_a0 A_a0 c_a0 a0) :
  Calls Try.prog 44 [.slice A_a0 a0.length c_a0, .agg [.int .i64 a1.f_Kind, .int .i64 a1.f_Id].toArray].toArray w fun e w' => ∃ (A0 : Option Addr) (c0 : Nat) (L0 : Hp), e = .returned (.slice A0 r.length c0) ∧ Fits z w' (L0 ++ F) ∧ OwnS k_T_api_Vert L0 A0 c0 r := by
 unfold f_plenumref8_Vert at H
 refine enter0 Try.func44 rfl Try.ntmps44 rfl (E := [(0, .slice A_a0 a0.length c_a0), (1, .agg [.int .i64 a1.f_Kind, .int .i64 a1.f_Id].toArray)]) rfl ?_
 refine cSeq (fun K1 hK1 => ?_)
 refine cRgn [] trivial ?_
 refine eW (oBox HF rfl) rfl ?_
 rintro _ w1 ⟨g1, rfl, HF1⟩
 refine sL (asg rfl) rfl ?_
 refine lE ?_
 refine kN (?_)
 refine hK1 _ _ ?_
 refine cSeq (fun K2 hK2 => ?_)
 refine cRgn [] trivial ?_
 refine sL (asg rfl) rfl ?_
 refine lE ?_
 refine kN (?_)
 refine hK2 _ _ ?_
 refine cSeq (fun K3 hK3 => ?_)
 replace H := bnd H; obtain ⟨y1, J2, Ho1⟩ := H
 refine cLoopB (f_plenumref8_Vert.b0 a0 a1) (fun (s1 : Int) a w => Env 81 [(0, .slice A_a0 a0.length c_a0), (3, .pointer (some ⟨g1, 0, none⟩)), (4, .slice none 0 0), (5, .int .i64 s1)] a ∧ Fits z w (bk g1 35 [.int .i64 a1.f_Kind, .int .i64 a1.f_Id] :: (L_a0 ++ F))) J2 (fun a hE => ⟨hE.keep (Keep.cons rfl (Keep.cons rfl (Keep.cons rfl (Keep.cons rfl (Keep.nil))))), HF1⟩) ?_ ?_
 ·rintro s1 a w4 y2 ⟨hE, HF4⟩ H Hx1
  refine go_ hE ?_
  refine cSeq (fun K8 hK8 => ?_)
  refine cSeq (fun K9 hK9 => ?_)
  refine cDraw mo_ HF4 rfl (fun w => Fits z w (bk g1 35 [.int .i64 a1.f_Kind, .int .i64 a1.f_Id] :: (L_a0 ++ F))) (fun w5 HF5 => ?_)
  refine hT 0 rfl (by kernel_rfl) (fun w_ hS_ => mv rfl) HF5 rfl rfl ?_
  refine hT 1 rfl (by kernel_rfl) (fun w_ hS_ => mv rfl) HF5 rfl rfl ?_
  refine hT 2 rfl (by kernel_rfl) (fun w_ hS_ => lnS rfl Try.underlying26) HF5 rfl rfl ?_
  refine hT 3 rfl (by kernel_rfl) (fun w_ hS_ => bLss rfl rfl) HF5 rfl rfl ?_
  refine hT 4 rfl (by kernel_rfl) (fun w_ hS_ => mv rfl) HF5 rfl rfl ?_
  by_cases c21 : s1 < (a0.length : Int)
  ·replace H := itT c21 H
   refine hSet (i := 11) rfl (dT c21) ?_
   refine hTG 5 rfl rfl rfl (by kernel_rfl) (fun w_ hS_ => mv rfl) HF5 rfl rfl ?_
   refine hTG 6 rfl rfl rfl (by kernel_rfl) (fun w_ hS_ => mv rfl) HF5 rfl rfl ?_
   replace H := chk H; obtain ⟨c22, H⟩ := H
   obtain ⟨g7, o6, _, rfl, rfl, q16⟩ := RdS.at_ ho_a0.rd c22 c21
   refine hTG 7 rfl rfl rfl (by kernel_rfl) (fun w_ hS_ => ia rfl rfl Try.underlying26 ti35 c22 c21) HF5 rfl rfl ?_
   refine hTG 8 rfl rfl rfl (by kernel_rfl) (fun w_ hS_ => fa35_0 rfl) HF5 rfl rfl ?_
   refine hTG 9 rfl rfl rfl (by kernel_rfl) (fun w_ hS_ => ld rfl Try.underlying3 rfl (hS_.cells ((sub_c sub_h)) (q16 0 _ rfl))) HF5 rfl rfl ?_
   refine hTG 10 rfl rfl rfl (by kernel_rfl) (fun w_ hS_ => fa35_0 rfl) HF5 rfl rfl ?_
   refine hTG 11 rfl rfl rfl (by kernel_rfl) (fun w_ hS_ => ld rfl Try.underlying3 rfl (hS_.box (mem_h) rfl)) HF5 rfl rfl ?_
   refine hTG 12 rfl rfl rfl (by kernel_rfl) (fun w_ hS_ => bLss rfl rfl) HF5 rfl rfl ?_
   refine hTG 13 rfl rfl rfl (by kernel_rfl) (fun w_ hS_ => mv rfl) HF5 rfl rfl ?_
   by_cases c23 : ((rd a0 s1).f_Kind) < a1.f_Kind
   ·replace H := itT c23 H
    refine hSet (i := 20) rfl (dT c23) ?_
    refine hTN 14 rfl rfl rfl (by kernel_rfl) HF5 rfl rfl ?_
    refine hTN 15 rfl rfl rfl (by kernel_rfl) HF5 rfl rfl ?_
    refine hTN 16 rfl rfl rfl (by kernel_rfl) HF5 rfl rfl ?_
    refine hTN 17 rfl rfl rfl (by kernel_rfl) HF5 rfl rfl ?_
    refine hTN 18 rfl rfl rfl (by kernel_rfl) HF5 rfl rfl ?_
    refine hTN 19 rfl rfl rfl (by kernel_rfl) HF5 rfl rfl ?_
    refine hTN 20 rfl rfl rfl (by kernel_rfl) HF5 rfl rfl ?_
    refine hTN 21 rfl rfl rfl (by kernel_rfl) HF5 rfl rfl ?_
    refine hTN 22 rfl rfl rfl (by kernel_rfl) HF5 rfl rfl ?_
    refine hTU 23 rfl rfl rfl (by kernel_rfl) HF5 rfl rfl ?_
    refine hTU 24 rfl rfl rfl (by kernel_rfl) HF5 rfl rfl ?_
    refine hTU 25 rfl rfl rfl (by kernel_rfl) HF5 rfl rfl ?_
    refine hTU 26 rfl rfl rfl (by kernel_rfl) HF5 rfl rfl ?_
    refine hTU 27 rfl rfl rfl (by kernel_rfl) HF5 rfl rfl ?_
    refine hTU 28 rfl rfl rfl (by kernel_rfl) HF5 rfl rfl ?_
    refine hTU 29 rfl rfl rfl (by kernel_rfl) HF5 rfl rfl ?_
    refine hTU 30 rfl rfl rfl (by kernel_rfl) HF5 rfl rfl ?_
    refine hTN 31 rfl rfl rfl (by kernel_rfl) HF5 rfl rfl ?_
    refine hTG 32 rfl rfl rfl (by kernel_rfl) (fun w_ hS_ => pkT rfl rfl) HF5 rfl rfl ?_
    refine hT 33 rfl (by kernel_rfl) (fun w_ hS_ => pkT rfl rfl) HF5 rfl rfl ?_
    refine hEnd (by kernel_rfl) ?_
    refine kN (?_)
    refine hK9 _ _ ?_
    refine cT rfl ?_
    refine cSkip ?_
    refine kN (?_)
    refine hK8 _ _ ?_
    refine cBlock ?_
    refine cRgn [] trivial ?_
    refine sL (mv rfl) rfl ?_
    refine sL (bAdd rfl rfl) rfl ?_
    refine sL (asg rfl) rfl ?_
    refine lE ?_
    refine jN (kN (?_))
    exact ofEnv (fun a hE => ⟨_, (Option.some.inj H).symm, ⟨hE.keep (Keep.cons rfl (Keep.cons rfl (Keep.cons rfl (Keep.cons rfl (Keep.nil))))), HF5⟩⟩)
   replace H := itF c23 H
   refine hSet (i := 20) rfl (dF c23) ?_
   refine hTG 14 rfl rfl rfl (by kernel_rfl) (fun w_ hS_ => mv rfl) HF5 rfl rfl ?_
   refine hTG 15 rfl rfl rfl (by kernel_rfl) (fun w_ hS_ => mv rfl) HF5 rfl rfl ?_
   obtain ⟨_, rfl, q17⟩ := RdS.at' ho_a0.rd c22 c21
   refine hTG 16 rfl rfl rfl (by kernel_rfl) (fun w_ hS_ => ia rfl rfl Try.underlying26 ti35 c22 c21) HF5 rfl rfl ?_
   refine hTG 17 rfl rfl rfl (by kernel_rfl) (fun w_ hS_ => fa35_0 rfl) HF5 rfl rfl ?_
   refine hTG 18 rfl rfl rfl (by kernel_rfl) (fun w_ hS_ => ld rfl Try.underlying3 rfl (hS_.cells ((sub_c sub_h)) (q17 0 _ rfl))) HF5 rfl rfl ?_
   refine hTG 19 rfl rfl rfl (by kernel_rfl) (fun w_ hS_ => fa35_0 rfl) HF5 rfl rfl ?_
   refine hTG 20 rfl rfl rfl (by kernel_rfl) (fun w_ hS_ => ld rfl Try.underlying3 rfl (hS_.box (mem_h) rfl)) HF5 rfl rfl ?_
   refine hTG 21 rfl rfl rfl (by kernel_rfl) (fun w_ hS_ => bEql rfl rfl) HF5 rfl rfl ?_
   refine hTG 22 rfl rfl rfl (by kernel_rfl) (fun w_ hS_ => mv rfl) HF5 rfl rfl ?_
   by_cases c24 : ((rd a0 s1).f_Kind) = a1.f_Kind
   ·replace H := itT c24 H
    refine hSet (i := 29) rfl (dT c24) ?_
    refine hTG 23 rfl rfl rfl (by kernel_rfl) (fun w_ hS_ => mv rfl) HF5 rfl rfl ?_
    refine hTG 24 rfl rfl rfl (by kernel_rfl) (fun w_ hS_ => mv rfl) HF5 rfl rfl ?_
    obtain ⟨_, rfl, q18⟩ := RdS.at' ho_a0.rd c22 c21
    refine hTG 25 rfl rfl rfl (by kernel_rfl) (fun w_ hS_ => ia rfl rfl Try.underlying26 ti35 c22 c21) HF5 rfl rfl ?_
    refine hTG 26 rfl rfl rfl (by kernel_rfl) (fun w_ hS_ => fa35_1 rfl) HF5 rfl rfl ?_
    refine hTG 27 rfl rfl rfl (by kernel_rfl) (fun w_ hS_ => ld rfl Try.underlying3 rfl (hS_.cells ((sub_c sub_h)) (q18 1 _ rfl))) HF5 rfl rfl ?_
    refine hTG 28 rfl rfl rfl (by kernel_rfl) (fun w_ hS_ => fa35_1 rfl) HF5 rfl rfl ?_
    refine hTG 29 rfl rfl rfl (by kernel_rfl) (fun w_ hS_ => ld rfl Try.underlying3 rfl (hS_.box (mem_h) rfl)) HF5 rfl rfl ?_
    refine hTG 30 rfl rfl rfl (by kernel_rfl) (fun w_ hS_ => bLss rfl rfl) HF5 rfl rfl ?_
    refine hTG 31 rfl rfl rfl (by kernel_rfl) (fun w_ hS_ => pkT rfl rfl) HF5 rfl rfl ?_
    refine hTG 32 rfl rfl rfl (by kernel_rfl) (fun w_ hS_ => pkF rfl rfl) HF5 rfl rfl ?_
    refine hT 33 rfl (by kernel_rfl) (fun w_ hS_ => pkT rfl rfl) HF5 rfl rfl ?_
    refine hEnd (by kernel_rfl) ?_
    refine kN (?_)
    refine hK9 _ _ ?_
    by_cases c25 : ((rd a0 s1).f_Id) < a1.f_Id
    ·replace H := itT c25 H
     refine cSet (i := 40) rfl (dT c25) ?_
     refine cT rfl ?_
     refine cSkip ?_
     refine kN (?_)
     refine hK8 _ _ ?_
     refine cBlock ?_
     refine cRgn [] trivial ?_
     refine sL (mv rfl) rfl ?_
     refine sL (bAdd rfl rfl) rfl ?_
     refine sL (asg rfl) rfl ?_
     refine lE ?_
     refine jN (kN (?_))
     exact ofEnv (fun a hE => ⟨_, (Option.some.inj H).symm, ⟨hE.keep (Keep.cons rfl (Keep.cons rfl (Keep.cons rfl (Keep.cons rfl (Keep.nil))))), HF5⟩⟩)
    replace H := itF c25 H
    refine cSet (i := 40) rfl (dF c25) ?_
    refine cF rfl ?_
    refine cExit ?_
    refine kX (kX (jX (kN (?_))))
    exact ofEnv (fun a hE => ⟨_, (Option.some.inj H).symm, ⟨hE.keep (Keep.cons rfl (Keep.cons rfl (Keep.cons rfl (Keep.cons rfl (Keep.nil))))), HF5⟩⟩)
   replace H := itF c24 H
   refine hSet (i := 29) rfl (dF c24) ?_
   refine hTN 23 rfl rfl rfl (by kernel_rfl) HF5 rfl rfl ?_
   refine hTN 24 rfl rfl rfl (by kernel_rfl) HF5 rfl rfl ?_
   refine hTN 25 rfl rfl rfl (by kernel_rfl) HF5 rfl rfl ?_
   refine hTN 26 rfl rfl rfl (by kernel_rfl) HF5 rfl rfl ?_
   refine hTN 27 rfl rfl rfl (by kernel_rfl) HF5 rfl rfl ?_
   refine hTN 28 rfl rfl rfl (by kernel_rfl) HF5 rfl rfl ?_
   refine hTN 29 rfl rfl rfl (by kernel_rfl) HF5 rfl rfl ?_
   refine hTN 30 rfl rfl rfl (by kernel_rfl) HF5 rfl rfl ?_
   refine hTG 31 rfl rfl rfl (by kernel_rfl) (fun w_ hS_ => pkF rfl rfl) HF5 rfl rfl ?_
   refine hTG 32 rfl rfl rfl (by kernel_rfl) (fun w_ hS_ => pkF rfl rfl) HF5 rfl rfl ?_
   refine hT 33 rfl (by kernel_rfl) (fun w_ hS_ => pkT rfl rfl) HF5 rfl rfl ?_
   refine hEnd (by kernel_rfl) ?_
   refine kN (?_)
   refine hK9 _ _ ?_
   refine cF rfl ?_
   refine cExit ?_
   refine kX (kX (jX (kN (?_))))
   exact ofEnv (fun a hE => ⟨_, (Option.some.inj H).symm, ⟨hE.keep (Keep.cons rfl (Keep.cons rfl (Keep.cons rfl (Keep.cons rfl (Keep.nil))))), HF5⟩⟩)
  replace H := itF c21 H
  refine hSet (i := 11) rfl (dF c21) ?_
  refine hTN 5 rfl rfl rfl (by kernel_rfl) HF5 rfl rfl ?_
  refine hTN 6 rfl rfl rfl (by kernel_rfl) HF5 rfl rfl ?_
  refine hTN 7 rfl rfl rfl (by kernel_rfl) HF5 rfl rfl ?_
  refine hTN 8 rfl rfl rfl (by kernel_rfl) HF5 rfl rfl ?_
  refine hTN 9 rfl rfl rfl (by kernel_rfl) HF5 rfl rfl ?_
  refine hTN 10 rfl rfl rfl (by kernel_rfl) HF5 rfl rfl ?_
  refine hTN 11 rfl rfl rfl (by kernel_rfl) HF5 rfl rfl ?_
  refine hTN 12 rfl rfl rfl (by kernel_rfl) HF5 rfl rfl ?_
  refine hTN 13 rfl rfl rfl (by kernel_rfl) HF5 rfl rfl ?_
  refine hTU 14 rfl rfl rfl (by kernel_rfl) HF5 rfl rfl ?_
  refine hTU 15 rfl rfl rfl (by kernel_rfl) HF5 rfl rfl ?_
  refine hTU 16 rfl rfl rfl (by kernel_rfl) HF5 rfl rfl ?_
  refine hTU 17 rfl rfl rfl (by kernel_rfl) HF5 rfl rfl ?_
  refine hTU 18 rfl rfl rfl (by kernel_rfl) HF5 rfl rfl ?_
  refine hTU 19 rfl rfl rfl (by kernel_rfl) HF5 rfl rfl ?_
  refine hTU 20 rfl rfl rfl (by kernel_rfl) HF5 rfl rfl ?_
  refine hTU 21 rfl rfl rfl (by kernel_rfl) HF5 rfl rfl ?_
  refine hTU 22 rfl rfl rfl (by kernel_rfl) HF5 rfl rfl ?_
  refine hTU 23 rfl rfl rfl (by kernel_rfl) HF5 rfl rfl ?_
  refine hTU 24 rfl rfl rfl (by kernel_rfl) HF5 rfl rfl ?_
  refine hTU 25 rfl rfl rfl (by kernel_rfl) HF5 rfl rfl ?_
  refine hTU 26 rfl rfl rfl (by kernel_rfl) HF5 rfl rfl ?_
  refine hTU 27 rfl rfl rfl (by kernel_rfl) HF5 rfl rfl ?_
  refine hTU 28 rfl rfl rfl (by kernel_rfl) HF5 rfl rfl ?_
  refine hTU 29 rfl rfl rfl (by kernel_rfl) HF5 rfl rfl ?_
  refine hTU 30 rfl rfl rfl (by kernel_rfl) HF5 rfl rfl ?_
  refine hTU 31 rfl rfl rfl (by kernel_rfl) HF5 rfl rfl ?_
  refine hTN 32 rfl rfl rfl (by kernel_rfl) HF5 rfl rfl ?_
  refine hT 33 rfl (by kernel_rfl) (fun w_ hS_ => pkF rfl rfl) HF5 rfl rfl ?_
  refine hEnd (by kernel_rfl) ?_
  refine kN (?_)
  refine hK9 _ _ ?_
  refine cF rfl ?_
  refine cExit ?_
  refine kX (kX (jX (kN (?_))))
  exact ofEnv (fun a hE => ⟨_, (Option.some.inj H).symm, ⟨hE.keep (Keep.cons rfl (Keep.cons rfl (Keep.cons rfl (Keep.cons rfl (Keep.nil))))), HF5⟩⟩)
 rintro s1 a w6 rfl ⟨hE, HF6⟩
 replace H := Ho1
 refine go_k hE ?_
 refine kN (?_)
 refine hK3 _ _ ?_
 refine cSeq (fun K10 hK10 => ?_)
 refine cSeq (fun K11 hK11 => ?_)
 replace H := bnd H; obtain ⟨y3, H, Ho2⟩ := H
 refine cJoin (y := y3) (fun (s2 : Bool) a w => Env 81 [(0, .slice A_a0 a0.length c_a0), (3, .pointer (some ⟨g1, 0, none⟩)), (4, .slice none 0 0), (5, .int .i64 s1), (54, .bool s2)] a ∧ Fits z w (bk g1 35 [.int .i64 a1.f_Kind, .int .i64 a1.f_Id] :: (L_a0 ++ F))) ?_ ?_
 ·refine cDraw mo_ HF6 rfl (fun w => Fits z w (bk g1 35 [.int .i64 a1.f_Kind, .int .i64 a1.f_Id] :: (L_a0 ++ F))) (fun w8 HF8 => ?_)
  refine hT 0 rfl (by kernel_rfl) (fun w_ hS_ => mv rfl) HF8 rfl rfl ?_
  refine hT 1 rfl (by kernel_rfl) (fun w_ hS_ => mv rfl) HF8 rfl rfl ?_
  refine hT 2 rfl (by kernel_rfl) (fun w_ hS_ => lnS rfl Try.underlying26) HF8 rfl rfl ?_
  refine hT 3 rfl (by kernel_rfl) (fun w_ hS_ => bLss rfl rfl) HF8 rfl rfl ?_
  refine hT 4 rfl (by kernel_rfl) (fun w_ hS_ => mv rfl) HF8 rfl rfl ?_
  by_cases c32 : s1 < (a0.length : Int)
  ·replace H := itT c32 H
   refine hSet (i := 47) rfl (dT c32) ?_
   refine hTG 5 rfl rfl rfl (by kernel_rfl) (fun w_ hS_ => mv rfl) HF8 rfl rfl ?_
   refine hTG 6 rfl rfl rfl (by kernel_rfl) (fun w_ hS_ => mv rfl) HF8 rfl rfl ?_
   replace H := chk H; obtain ⟨c33, H⟩ := H
   obtain ⟨g11, o10, _, rfl, rfl, q22⟩ := RdS.at_ ho_a0.rd c33 c32
   refine hTG 7 rfl rfl rfl (by kernel_rfl) (fun w_ hS_ => ia rfl rfl Try.underlying26 ti35 c33 c32) HF8 rfl rfl ?_
   refine hTG 8 rfl rfl rfl (by kernel_rfl) (fun w_ hS_ => ldA rfl ti35 rfl rfl (fun j v hj => hS_.cells ((sub_c sub_h)) (q22 j v hj))) HF8 rfl rfl ?_
   refine hTG 9 rfl rfl rfl (by kernel_rfl) (fun w_ hS_ => ldA (cs := [.int .i64 a1.f_Kind, .int .i64 a1.f_Id]) rfl ti35 rfl rfl (hS_.boxes (o := 0) (n := 2) (mem_h) rfl)) HF8 rfl rfl ?_
   refine hTG 10 rfl rfl rfl (by kernel_rfl) (fun w_ hS_ => bAggEql (xs := [.int .i64 ((rd a0 s1).f_Kind), .int .i64 ((rd a0 s1).f_Id)]) (ys := [.int .i64 a1.f_Kind, .int .i64 a1.f_Id]) (n := 2) rfl rfl eg35 (eqStruct Try.underlying35 sh35 (eqFcons (by decide) (pt1 Try.underlying3 rfl rfl) (pt1 Try.underlying3 rfl rfl) (eqInt Try.underlying3) (eqFcons (by decide) (pt1 Try.underlying3 rfl rfl) (pt1 Try.underlying3 rfl rfl) (eqInt Try.underlying3) eqFnil))) rfl (eq_T_api_Vert (rd a0 s1) a1)) HF8 rfl rfl ?_
   refine hT 11 rfl (by kernel_rfl) (fun w_ hS_ => pkT rfl rfl) HF8 rfl rfl ?_
   refine hEnd (by kernel_rfl) ?_
   refine kN (?_)
   exact ofEnv (fun a hE => ⟨_, (Option.some.inj H).symm, ⟨hE.keep (Keep.cons rfl (Keep.cons rfl (Keep.cons rfl (Keep.cons rfl (Keep.cons rfl (Keep.nil)))))), HF8⟩⟩)
  replace H := itF c32 H
  refine hSet (i := 47) rfl (dF c32) ?_
  refine hTN 5 rfl rfl rfl (by kernel_rfl) HF8 rfl rfl ?_
  refine hTN 6 rfl rfl rfl (by kernel_rfl) HF8 rfl rfl ?_
  refine hTN 7 rfl rfl rfl (by kernel_rfl) HF8 rfl rfl ?_
  refine hTN 8 rfl rfl rfl (by kernel_rfl) HF8 rfl rfl ?_
  refine hTN 9 rfl rfl rfl (by kernel_rfl) HF8 rfl rfl ?_
  refine hTN 10 rfl rfl rfl (by kernel_rfl) HF8 rfl rfl ?_
  refine hT 11 rfl (by kernel_rfl) (fun w_ hS_ => pkF rfl rfl) HF8 rfl rfl ?_
  refine hEnd (by kernel_rfl) ?_
  refine kN (?_)
  exact ofEnv (fun a hE => ⟨_, (Option.some.inj H).symm, ⟨hE.keep (Keep.cons rfl (Keep.cons rfl (Keep.cons rfl (Keep.cons rfl (Keep.cons rfl (Keep.nil)))))), HF8⟩⟩)
 rintro s2 a w9 rfl ⟨hE, HF9⟩
 replace H := Ho2
 refine go_k hE ?_
 refine kN (?_)
 refine hK11 _ _ ?_
 by_cases c34 : s2 = true
 ·replace H := itT c34 H
  refine cSet (i := 54) rfl (vT c34) ?_
  refine cT rfl ?_
  refine cSeq (fun K12 hK12 => ?_)
  refine cRgn [] trivial ?_
  refine sL (mv rfl) rfl ?_
  refine sL (asg rfl) rfl ?_
  refine lE ?_
  refine kN (?_)
  refine hK12 _ _ ?_
  refine cRet ?_
  obtain rfl := Option.some.inj H
  refine kR (?_)
  refine ret1 rfl rfl ?_
  have HF10 := HF9.sublist (sl_dc (sl_a sR))
  exact ⟨_, _, L_a0, rfl, HF10, ho_a0⟩
 replace H := itF c34 H
 refine cSet (i := 54) rfl (vF c34) ?_
 refine cF rfl ?_
 refine cSkip ?_
 refine kN (?_)
 refine hK10 _ _ ?_
 refine cSeq (fun K13 hK13 => ?_)
 refine cRgn [] trivial ?_
 refine sL (mv rfl) rfl ?_
 refine sL (bd (r := [.int .i64 0, .int .i64 0]) pl35 ti35 rfl rfl) rfl ?_
 refine eW (oLit (r := [.int .i64 0, .int .i64 0]) k_T_api_Vert [(⟨0, 0⟩ : T_api_Vert)] HF9 Try.underlying26 ti35 rfl rfl rfl rfl ⟨[], [], [.int .i64 0, .int .i64 0], _, rfl, rfl, ⟨rfl, rfl⟩, ⟨rfl, rfl⟩⟩ rfl rfl) rfl ?_
 rintro _ w10 ⟨L1, A1, c35, rfl, HF11, ho1⟩
 replace H := chk H; obtain ⟨c36, H⟩ := H
 have HF12 := HF11.perm (perm_f (perm_c pR))
 refine eW (oApp (xs := a0) (ys := ([(⟨0, 0⟩ : T_api_Vert)])) k_T_api_Vert HF12 rfl rfl Try.underlying26 Try.underlying26 ti35 rfl ho_a0 (srcR shrF ho1.rd HF12 (sub_a sub_h)) c36 rfl) rfl ?_
 rintro _ w11 ⟨L2, A2, c37, rfl, HF13, ho2⟩
 refine sL (asg rfl) rfl ?_
 refine lE ?_
 refine kN (?_)
 refine hK13 _ _ ?_
 refine cSeq (fun K14 hK14 => ?_)
 refine cSeq (fun K15 hK15 => ?_)
 refine cRgn [] trivial ?_
 refine sL (mv rfl) rfl ?_
 refine sL (lnS rfl Try.underlying26) rfl ?_
 refine sL (bSub rfl rfl) rfl ?_
 refine sL (asg rfl) rfl ?_
 refine lE ?_
 refine kN (?_)
 refine hK15 _ _ ?_
 replace H := bnd H; obtain ⟨y4, J1, Ho3⟩ := H
 have HF18 := HF13.sublist (sl_a (sl_da (sl_c sR)))
 refine cLoopB (f_plenumref8_Vert.b1 s1) (fun (s3 : Int × (List T_api_Vert)) a w => ∃ (L6 : Hp), Env 81 [(0, .slice A2 s3.2.length c37), (3, .pointer (some ⟨g1, 0, none⟩)), (4, .slice none 0 0), (5, .int .i64 s1), (6, .int .i64 s3.1)] a ∧ Fits z w (L6 ++ (bk g1 35 [.int .i64 a1.f_Kind, .int .i64 a1.f_Id] :: F)) ∧ OwnS k_T_api_Vert L6 A2 c37 s3.2) J1 (fun a hE => ⟨L2, hE.keep (Keep.cons rfl (Keep.cons rfl (Keep.cons rfl (Keep.cons rfl (Keep.cons rfl (Keep.nil)))))), HF18, ho2⟩) ?_ ?_
 ·rintro s3 a w14 y5 ⟨L6, hE, HF16, ho6⟩ H Hx2
  refine go_ hE ?_
  refine cSeq (fun K22 hK22 => ?_)
  refine cSeq (fun K23 hK23 => ?_)
  refine cRgn [] trivial ?_
  refine sL (mv rfl) rfl ?_
  refine sL (mv rfl) rfl ?_
  refine sL (bGtr rfl rfl) rfl ?_
  refine lE ?_
  refine kN (?_)
  refine hK23 _ _ ?_
  by_cases c48 : s1 < s3.1
  ·replace H := itT c48 H
   refine cSet (i := 65) rfl (dT c48) ?_
   refine cT rfl ?_
   refine cSkip ?_
   refine kN (?_)
   refine hK22 _ _ ?_
   refine cSeq (fun K24 hK24 => ?_)
   refine cBlock ?_
   refine cRgn [] trivial ?_
   refine sL (mv rfl) rfl ?_
   refine sL (mv rfl) rfl ?_
   refine sL (mv rfl) rfl ?_
   refine sL (mv rfl) rfl ?_
   refine sL (bSub rfl rfl) rfl ?_
   replace H := chk H; obtain ⟨c49, H⟩ := H
   replace H := chk H; obtain ⟨c50, H⟩ := H
   obtain ⟨g14, o13, _, rfl, rfl, q27⟩ := RdS.at_ ho6.rd c49 c50
   refine sL (ia rfl rfl Try.underlying26 ti35 c49 c50) rfl ?_
   refine sL (ldA rfl ti35 rfl rfl (fun j v hj => HF16.cells (sub_h) (q27 j v hj))) rfl ?_
   replace H := chk H; obtain ⟨c51, H⟩ := H
   replace H := chk H; obtain ⟨c52, H⟩ := H
   obtain ⟨_, rfl, q28⟩ := RdS.at' ho6.rd c51 c52
   refine sL (ia rfl rfl Try.underlying26 ti35 c51 c52) rfl ?_
   refine eS (oStE (K := k_T_api_Vert) (c := c37) (off := 0) (y' := (rd s3.2 (IntKind.i64.wrap (s3.1 - 1)))) shrF HF16 ho6 c51 c52 rfl rfl ti35 rfl (ones rfl) (Nat.le_of_ble_eq_true rfl) (by rintro _ ⟨_, rfl⟩; exact ⟨rfl, rfl⟩)) ?_
   rintro w15 ⟨L7, HF17, ho7⟩
   refine lSet (i := 0) (v := .slice (some ⟨g14, o13, none⟩) (setI s3.2 s3.1 (rd s3.2 (IntKind.i64.wrap (s3.1 - 1)))).length c37) rfl (by simp only [len_setI]) ?_
   refine lSet (i := 68) (v := .slice (some ⟨g14, o13, none⟩) (setI s3.2 s3.1 (rd s3.2 (IntKind.i64.wrap (s3.1 - 1)))).length c37) rfl (by simp only [len_setI]) ?_
   refine lSet (i := 70) (v := .slice (some ⟨g14, o13, none⟩) (setI s3.2 s3.1 (rd s3.2 (IntKind.i64.wrap (s3.1 - 1)))).length c37) rfl (by simp only [len_setI]) ?_
   refine lE ?_
   refine jN (kN (?_))
   refine hK24 _ _ ?_
   refine cRgn [] trivial ?_
   refine sL (mv rfl) rfl ?_
   refine sL (bSub rfl rfl) rfl ?_
   refine sL (asg rfl) rfl ?_
   refine lE ?_
   refine kN (?_)
   exact ofEnv (fun a hE => ⟨_, (Option.some.inj H).symm, ⟨L7, hE.keep (Keep.cons rfl (Keep.cons rfl (Keep.cons rfl (Keep.cons rfl (Keep.cons rfl (Keep.nil)))))), HF17, ho7⟩⟩)
  replace H := itF c48 H
  refine cSet (i := 65) rfl (dF c48) ?_
  refine cF rfl ?_
  refine cExit ?_
  refine kX (kX (jX (kN (?_))))
  exact ofEnv (fun a hE => ⟨_, (Option.some.inj H).symm, ⟨L6, hE.keep (Keep.cons rfl (Keep.cons rfl (Keep.cons rfl (Keep.cons rfl (Keep.cons rfl (Keep.nil)))))), HF16, ho6⟩⟩)
 rintro s3 a w16 rfl ⟨L6, hE, HF19, ho6⟩
 replace H := Ho3
 refine go_k hE ?_
 refine kN (?_)
 refine hK14 _ _ ?_
 refine cSeq (fun K25 hK25 => ?_)
 refine cRgn [] trivial ?_
 refine sL (mv rfl) rfl ?_
 refine sL (mv rfl) rfl ?_
 refine sL (ldA (cs := [.int .i64 a1.f_Kind, .int .i64 a1.f_Id]) rfl ti35 rfl rfl (HF19.boxes (o := 0) (n := 2) (mem_a mem_h) rfl)) rfl ?_
 replace H := chk H; obtain ⟨c53, H⟩ := H
 replace H := chk H; obtain ⟨c54, H⟩ := H
 obtain ⟨g15, o14, _, rfl, rfl, q29⟩ := RdS.at_ ho6.rd c53 c54
 refine sL (ia rfl rfl Try.underlying26 ti35 c53 c54) rfl ?_
 refine eS (oStE (K := k_T_api_Vert) (c := c37) (off := 0) (y' := a1) shrF HF19 ho6 c53 c54 rfl rfl ti35 rfl (ones rfl) (Nat.le_of_ble_eq_true rfl) (by rintro _ ⟨_, rfl⟩; exact ⟨rfl, rfl⟩)) ?_
 rintro w17 ⟨L8, HF20, ho8⟩
 refine lSet (i := 0) (v := .slice (some ⟨g15, o14, none⟩) (setI s3.2 s1 a1).length c37) rfl (by simp only [len_setI]) ?_
 refine lSet (i := 76) (v := .slice (some ⟨g15, o14, none⟩) (setI s3.2 s1 a1).length c37) rfl (by simp only [len_setI]) ?_
 refine lE ?_
 refine kN (?_)
 refine hK25 _ _ ?_
 refine cSeq (fun K26 hK26 => ?_)
 refine cRgn [] trivial ?_
 refine sL (mv rfl) rfl ?_
 refine sL (asg rfl) rfl ?_
 refine lE ?_
 refine kN (?_)
 refine hK26 _ _ ?_
 refine cRet ?_
 obtain rfl := Option.some.inj H
 refine ret1 rfl rfl ?_
 have HF21 := HF20.sublist (sl_a (sl_dc sR))
 exact ⟨_, _, L8, rfl, HF21, ho8⟩
/-! ### plenum/plenumref17.verts (function 31) -/
abbrev f_plenumref17_verts.R := List T_api_Vert
noncomputable def f_plenumref17_verts.b0 (a0 : List T_api_Lsa) (s3 : (List T_api_Vert) × Int) : Option (Sum ((List T_api_Vert) × Int) (Sum ((List T_api_Vert) × Int) f_plenumref17_verts.R)) := (if s3.2 < (a0.length : Int) then (if 0 ≤ s3.2 then (if 3600 ≤ ((rd a0 s3.2).f_Head.f_Age) then some (.inl (s3.1, IntKind.i64.wrap (s3.2 + 1))) else ((((if ((rd a0 s3.2).f_Head.f_Kind) = 1 then some (.inl (decide (((rd a0 s3.2).f_Head.f_Id) = ((rd a0 s3.2).f_Head.f_Adv)))) else some (.inl false)) : Option (Sum (Bool) f_plenumref17_verts.R))).bind fun y5 => match y5 with | .inl s4 => (if s4 = true then ((f_plenumref8_Vert s3.1 (⟨1, (rd a0 s3.2).f_Head.f_Id⟩ : T_api_Vert)).bind fun t7 => (if ((rd a0 s3.2).f_Head.f_Kind) = 2 then ((f_plenumref8_Vert t7 (⟨2, (rd a0 s3.2).f_Head.f_Id⟩ : T_api_Vert)).bind fun t8 => some (.inl (t8, IntKind.i64.wrap (s3.2 + 1)))) else some (.inl (t7, IntKind.i64.wrap (s3.2 + 1))))) else (if ((rd a0 s3.2).f_Head.f_Kind) = 2 then ((f_plenumref8_Vert s3.1 (⟨2, (rd a0 s3.2).f_Head.f_Id⟩ : T_api_Vert)).bind fun t9 => some (.inl (t9, IntKind.i64.wrap (s3.2 + 1)))) else some (.inl (s3.1, IntKind.i64.wrap (s3.2 + 1))))) | .inr r_ => some (.inr (.inr r_)))) else none) else some (.inr (.inl (s3.1, s3.2))))
noncomputable def f_plenumref17_verts (a0 : List T_api_Lsa) : Option f_plenumref17_verts.R := ((loopO (f_plenumref17_verts.b0 a0) ([], 0)).bind fun y3 => match y3 with | .inl s3 => some s3.1 | .inr r_ => some r_)
set_option maxHeartbeats 1000000 in
theorem f_plenumref17_verts.ok {z w : World} {F G : Hp} (hG : G ⊆ F) {a0 : List T_api_Lsa} {A_a0 : Option Addr} {c_a0 : Nat} {X_a0 : Hp} {r : f_plenumref17_verts.R} (H : f_plenumref17_verts a0 = some r) (HF : Fits z w F) (hX_a0 : X_a0 ⊆ F) (hr_a0 : RdS (kShr G k_T_api_Lsa) X_a0 A_a0 c_a0 a0) :
  Calls Try.prog 31 [.slice A_a0 a0.length c_a0].toArray w fun e w' => ∃ (A0 : Option Addr) (c0 : Nat) (L0 : Hp), e = .returned (.slice A0 r.length c0) ∧ Fits z w' (L0 ++ F) ∧ OwnS k_T_api_Vert L0 A0 c0 r := by
 unfold f_plenumref17_verts at H
 refine enter0 Try.func31 rfl Try.ntmps31 rfl (E := [(0, .slice A_a0 a0.length c_a0)]) rfl ?_
 refine cSeq (fun K1 hK1 => ?_)
 refine cRgn [] trivial ?_
 refine sL (asg rfl) rfl ?_
 refine lE ?_
 refine kN (?_)
 refine hK1 _ _ ?_
 refine cSeq (fun K2 hK2 => ?_)
 refine cRgn [] trivial ?_
 refine sL (asg rfl) rfl ?_
 refine lE ?_
 refine kN (?_)
 refine hK2 _ _ ?_
 refine cSeq (fun K3 hK3 => ?_)
 refine cSeq (fun K4 hK4 => ?_)
 refine cRgn [] trivial ?_
 refine sL (asg rfl) rfl ?_
 refine lE ?_
 refine kN (?_)
 refine hK4 _ _ ?_
 replace H := bnd H; obtain ⟨y3, J10, Ho3⟩ := H
 refine cLoopB (f_plenumref17_verts.b0 a0) (fun (s3 : (List T_api_Vert) × Int) a w => ∃ (A14 : Option Addr) (c29 : Nat) (L8 : Hp), Env 44 [(0, .slice A_a0 a0.length c_a0), (2, .slice none 0 0), (3, .slice A14 s3.1.length c29), (4, .int .i64 s3.2)] a ∧ Fits z w (L8 ++ F) ∧ OwnS k_T_api_Vert L8 A14 c29 s3.1) J10 (fun a hE => ⟨none, 0, [], hE.keep (Keep.cons rfl (Keep.cons rfl (Keep.cons rfl (Keep.cons rfl (Keep.nil))))), HF, OwnS.nil⟩) ?_ ?_
 ·rintro s3 a w13 y4 ⟨A14, c29, L8, hE, HF15, ho8⟩ H Hx1
  refine go_ hE ?_
  refine cSeq (fun K25 hK25 => ?_)
  refine cSeq (fun K26 hK26 => ?_)
  refine cRgn [] trivial ?_
  refine sL (mv rfl) rfl ?_
  refine sL (mv rfl) rfl ?_
  refine sL (lnS rfl Try.underlying24) rfl ?_
  refine sL (bLss rfl rfl) rfl ?_
  refine lE ?_
  refine kN (?_)
  refine hK26 _ _ ?_
  by_cases c30 : s3.2 < (a0.length : Int)
  ·replace H := itT c30 H
   refine cSet (i := 9) rfl (dT c30) ?_
   refine cT rfl ?_
   refine cSkip ?_
   refine kN (?_)
   refine hK25 _ _ ?_
   refine cSeq (fun K27 hK27 => ?_)
   refine cBlock ?_
   refine cSeq (fun K28 hK28 => ?_)
   refine cRgn [] trivial ?_
   refine sL (mv rfl) rfl ?_
   refine sL (mv rfl) rfl ?_
   replace H := chk H; obtain ⟨c31, H⟩ := H
   obtain ⟨g5, o3, e6, rfl, hk3, q3⟩ := RdS.at_ hr_a0 c31 c30
   obtain ⟨A15, c32, A16, c33, A17, c34, rfl, hr7, hr8, hr9⟩ := rd_T_api_Lsa hk3
   refine sL (ia rfl rfl Try.underlying24 ti44 c31 c30) rfl ?_
   refine sL (fa44_0 rfl) rfl ?_
   refine sL (ldA (cs := [.int .i64 ((rd a0 s3.2).f_Head.f_Age), .int .i64 ((rd a0 s3.2).f_Head.f_Kind), .int .i64 ((rd a0 s3.2).f_Head.f_Id), .int .i64 ((rd a0 s3.2).f_Head.f_Adv), .int .i64 ((rd a0 s3.2).f_Head.f_Seq), .int .i64 ((rd a0 s3.2).f_Head.f_Sum), .int .i64 ((rd a0 s3.2).f_Head.f_Len)]) rfl ti41 rfl rfl (fun j v hj => HF15.cells ((sub_a hX_a0)) (el_part q3 (off := 0) (n := 7) rfl j v hj))) rfl ?_
   refine eW (oAlloc HF15 ti41) rfl ?_
   rintro _ w14 ⟨g6, rfl, HF16⟩
   refine eS (oSt (l1 := [.int .i64 ((rd a0 s3.2).f_Head.f_Age), .int .i64 ((rd a0 s3.2).f_Head.f_Kind), .int .i64 ((rd a0 s3.2).f_Head.f_Id), .int .i64 ((rd a0 s3.2).f_Head.f_Adv), .int .i64 ((rd a0 s3.2).f_Head.f_Seq), .int .i64 ((rd a0 s3.2).f_Head.f_Sum), .int .i64 ((rd a0 s3.2).f_Head.f_Len)]) HF16 rfl rfl ti41 rfl (ones rfl) (Nat.le_of_ble_eq_true rfl) rfl) ?_
   rintro w15 HF17
   refine lE ?_
   refine kN (?_)
   refine hK28 _ _ ?_
   refine cSeq (fun K29 hK29 => ?_)
   refine cSeq (fun K30 hK30 => ?_)
   refine cRgn [] trivial ?_
   refine sL (fa41_0 rfl) rfl ?_
   refine sL (ld rfl Try.underlying3 rfl (HF17.box (mem_h) rfl)) rfl ?_
   refine sL (bGeq rfl rfl) rfl ?_
   refine lE ?_
   refine kN (?_)
   refine hK30 _ _ ?_
   by_cases c35 : 3600 ≤ ((rd a0 s3.2).f_Head.f_Age)
   ·replace H := itT c35 H
    refine cSet (i := 19) rfl (dT c35) ?_
    refine cT rfl ?_
    refine cExit ?_
    refine kX (jX (kN (?_)))
    refine hK27 _ _ ?_
    refine cRgn [] trivial ?_
    refine sL (mv rfl) rfl ?_
    refine sL (bAdd rfl rfl) rfl ?_
    refine sL (asg rfl) rfl ?_
    refine lE ?_
    refine kN (?_)
    have HF18 := HF17.sublist (sl_dc (sl_a sR))
    exact ofEnv (fun a hE => ⟨_, (Option.some.inj H).symm, ⟨_, _, L8, hE.keep (Keep.cons rfl (Keep.cons rfl (Keep.cons rfl (Keep.cons rfl (Keep.nil))))), HF18, ho8⟩⟩)
   replace H := itF c35 H
   refine cSet (i := 19) rfl (dF c35) ?_
   refine cF rfl ?_
   refine cSkip ?_
   refine kN (?_)
   refine hK29 _ _ ?_
   refine cSeq (fun K31 hK31 => ?_)
   refine cSeq (fun K32 hK32 => ?_)
   replace H := bnd H; obtain ⟨y5, H, Ho4⟩ := H
   refine cJoin (y := y5) (fun (s4 : Bool) a w => Env 44 [(0, .slice (some ⟨g5, o3, none⟩) a0.length c_a0), (2, .slice none 0 0), (3, .slice A14 s3.1.length c29), (4, .int .i64 s3.2), (5, .pointer (some ⟨g6, 0, none⟩)), (29, .bool s4)] a ∧ Fits z w (bk g6 41 [.int .i64 ((rd a0 s3.2).f_Head.f_Age), .int .i64 ((rd a0 s3.2).f_Head.f_Kind), .int .i64 ((rd a0 s3.2).f_Head.f_Id), .int .i64 ((rd a0 s3.2).f_Head.f_Adv), .int .i64 ((rd a0 s3.2).f_Head.f_Seq), .int .i64 ((rd a0 s3.2).f_Head.f_Sum), .int .i64 ((rd a0 s3.2).f_Head.f_Len)] :: (L8 ++ F))) ?_ ?_
   ·refine cRgn [(3, 23)] ⟨rfl, trivial⟩ ?_
    refine sL (fa41_1 rfl) rfl ?_
    refine sL (ld rfl Try.underlying3 rfl (HF17.box (mem_h) rfl)) rfl ?_
    refine sL (bEql rfl rfl) rfl ?_
    refine sL (mv rfl) rfl ?_
    by_cases c37 : ((rd a0 s3.2).f_Head.f_Kind) = 1
    ·replace H := itT c37 H
     refine lSet (i := 23) rfl (dT c37) ?_
     refine sG rfl rfl (fa41_2 rfl) rfl ?_
     refine sG rfl rfl (ld rfl Try.underlying3 rfl (HF17.box (mem_h) rfl)) rfl ?_
     refine sG rfl rfl (fa41_3 rfl) rfl ?_
     refine sG rfl rfl (ld rfl Try.underlying3 rfl (HF17.box (mem_h) rfl)) rfl ?_
     refine sG rfl rfl (bEql rfl rfl) rfl ?_
     refine sL (pkT rfl rfl) rfl ?_
     refine lE ?_
     refine kN (?_)
     exact ofEnv (fun a hE => ⟨_, (Option.some.inj H).symm, ⟨hE.keep (Keep.cons rfl (Keep.cons rfl (Keep.cons rfl (Keep.cons rfl (Keep.cons rfl (Keep.cons rfl (Keep.nil))))))), HF17⟩⟩)
    replace H := itF c37 H
    refine lSet (i := 23) rfl (dF c37) ?_
    refine sN rfl rfl rfl rfl ?_
    refine sN rfl rfl rfl rfl ?_
    refine sN rfl rfl rfl rfl ?_
    refine sN rfl rfl rfl rfl ?_
    refine sN rfl rfl rfl rfl ?_
    refine sL (pkF rfl rfl) rfl ?_
    refine lE ?_
    refine kN (?_)
    exact ofEnv (fun a hE => ⟨_, (Option.some.inj H).symm, ⟨hE.keep (Keep.cons rfl (Keep.cons rfl (Keep.cons rfl (Keep.cons rfl (Keep.cons rfl (Keep.cons rfl (Keep.nil))))))), HF17⟩⟩)
   rintro s4 a w16 rfl ⟨hE, HF19⟩
   replace H := Ho4
   refine go_k hE ?_
   refine kN (?_)
   refine hK32 _ _ ?_
   by_cases c38 : s4 = true
   ·replace H := itT c38 H
    refine cSet (i := 29) rfl (vT c38) ?_
    refine cT rfl ?_
    refine cRgn [] trivial ?_
    refine sL (mv rfl) rfl ?_
    refine sL (fa41_2 rfl) rfl ?_
    refine sL (ld rfl Try.underlying3 rfl (HF19.box (mem_h) rfl)) rfl ?_
    refine sL (bd (r := [.int .i64 1, .int .i64 ((rd a0 s3.2).f_Head.f_Id)]) pl35 ti35 rfl rfl) rfl ?_
    have HF20 := HF19.perm (perm_c pR)
    replace H := bnd H; obtain ⟨t7, J7, H⟩ := H
    refine eCall isf44 rfl rfl rfl (f_plenumref8_Vert.ok (a0 := s3.1) (a1 := (⟨1, (rd a0 s3.2).f_Head.f_Id⟩ : T_api_Vert)) (sub_c hG) J7 HF20 ho8) ?_
    rintro _ w17 ⟨A18, c39, L9, rfl, HF21, ho9⟩
    refine ⟨_, rfl, ?_⟩
    refine sL (asg rfl) rfl ?_
    refine lE ?_
    refine kN (?_)
    refine hK31 _ _ ?_
    refine cSeq (fun K33 hK33 => ?_)
    refine cRgn [] trivial ?_
    refine sL (fa41_1 rfl) rfl ?_
    refine sL (ld rfl Try.underlying3 rfl (HF21.box (mem_a mem_h) rfl)) rfl ?_
    refine sL (bEql rfl rfl) rfl ?_
    refine lE ?_
    refine kN (?_)
    refine hK33 _ _ ?_
    by_cases c40 : ((rd a0 s3.2).f_Head.f_Kind) = 2
    ·replace H := itT c40 H
     refine cSet (i := 37) rfl (dT c40) ?_
     refine cT rfl ?_
     refine cRgn [] trivial ?_
     refine sL (mv rfl) rfl ?_
     refine sL (fa41_2 rfl) rfl ?_
     refine sL (ld rfl Try.underlying3 rfl (HF21.box (mem_a mem_h) rfl)) rfl ?_
     refine sL (bd (r := [.int .i64 2, .int .i64 ((rd a0 s3.2).f_Head.f_Id)]) pl35 ti35 rfl rfl) rfl ?_
     replace H := bnd H; obtain ⟨t8, J8, H⟩ := H
     refine eCall isf44 rfl rfl rfl (f_plenumref8_Vert.ok (a0 := t7) (a1 := (⟨2, (rd a0 s3.2).f_Head.f_Id⟩ : T_api_Vert)) (sub_c hG) J8 HF21 ho9) ?_
     rintro _ w18 ⟨A19, c41, L10, rfl, HF22, ho10⟩
     refine ⟨_, rfl, ?_⟩
     refine sL (asg rfl) rfl ?_
     refine lE ?_
     refine jN (kN (?_))
     refine hK27 _ _ ?_
     refine cRgn [] trivial ?_
     refine sL (mv rfl) rfl ?_
     refine sL (bAdd rfl rfl) rfl ?_
     refine sL (asg rfl) rfl ?_
     refine lE ?_
     refine kN (?_)
     have HF23 := HF22.sublist (sl_a (sl_dc sR))
     exact ofEnv (fun a hE => ⟨_, (Option.some.inj H).symm, ⟨_, _, L10, hE.keep (Keep.cons rfl (Keep.cons rfl (Keep.cons rfl (Keep.cons rfl (Keep.nil))))), HF23, ho10⟩⟩)
    replace H := itF c40 H
    refine cSet (i := 37) rfl (dF c40) ?_
    refine cF rfl ?_
    refine cSkip ?_
    refine jN (kN (?_))
    refine hK27 _ _ ?_
    refine cRgn [] trivial ?_
    refine sL (mv rfl) rfl ?_
    refine sL (bAdd rfl rfl) rfl ?_
    refine sL (asg rfl) rfl ?_
    refine lE ?_
    refine kN (?_)
    have HF24 := HF21.sublist (sl_a (sl_dc sR))
    exact ofEnv (fun a hE => ⟨_, (Option.some.inj H).symm, ⟨_, _, L9, hE.keep (Keep.cons rfl (Keep.cons rfl (Keep.cons rfl (Keep.cons rfl (Keep.nil))))), HF24, ho9⟩⟩)
   replace H := itF c38 H
   refine cSet (i := 29) rfl (vF c38) ?_
   refine cF rfl ?_
   refine cSkip ?_
   refine kN (?_)
   refine hK31 _ _ ?_
   refine cSeq (fun K34 hK34 => ?_)
   refine cRgn [] trivial ?_
   refine sL (fa41_1 rfl) rfl ?_
   refine sL (ld rfl Try.underlying3 rfl (HF19.box (mem_h) rfl)) rfl ?_
   refine sL (bEql rfl rfl) rfl ?_
   refine lE ?_
   refine kN (?_)
   refine hK34 _ _ ?_
   by_cases c42 : ((rd a0 s3.2).f_Head.f_Kind) = 2
   ·replace H := itT c42 H
    refine cSet (i := 37) rfl (dT c42) ?_
    refine cT rfl ?_
    refine cRgn [] trivial ?_
    refine sL (mv rfl) rfl ?_
    refine sL (fa41_2 rfl) rfl ?_
    refine sL (ld rfl Try.underlying3 rfl (HF19.box (mem_h) rfl)) rfl ?_
    refine sL (bd (r := [.int .i64 2, .int .i64 ((rd a0 s3.2).f_Head.f_Id)]) pl35 ti35 rfl rfl) rfl ?_
    have HF25 := HF19.perm (perm_c pR)
    replace H := bnd H; obtain ⟨t9, J9, H⟩ := H
    refine eCall isf44 rfl rfl rfl (f_plenumref8_Vert.ok (a0 := s3.1) (a1 := (⟨2, (rd a0 s3.2).f_Head.f_Id⟩ : T_api_Vert)) (sub_c hG) J9 HF25 ho8) ?_
    rintro _ w19 ⟨A20, c43, L11, rfl, HF26, ho11⟩
    refine ⟨_, rfl, ?_⟩
    refine sL (asg rfl) rfl ?_
    refine lE ?_
    refine jN (kN (?_))
    refine hK27 _ _ ?_
    refine cRgn [] trivial ?_
    refine sL (mv rfl) rfl ?_
    refine sL (bAdd rfl rfl) rfl ?_
    refine sL (asg rfl) rfl ?_
    refine lE ?_
    refine kN (?_)
    have HF27 := HF26.sublist (sl_a (sl_dc sR))
    exact ofEnv (fun a hE => ⟨_, (Option.some.inj H).symm, ⟨_, _, L11, hE.keep (Keep.cons rfl (Keep.cons rfl (Keep.cons rfl (Keep.cons rfl (Keep.nil))))), HF27, ho11⟩⟩)
   replace H := itF c42 H
   refine cSet (i := 37) rfl (dF c42) ?_
   refine cF rfl ?_
   refine cSkip ?_
   refine jN (kN (?_))
   refine hK27 _ _ ?_
   refine cRgn [] trivial ?_
   refine sL (mv rfl) rfl ?_
   refine sL (bAdd rfl rfl) rfl ?_
   refine sL (asg rfl) rfl ?_
   refine lE ?_
   refine kN (?_)
   have HF28 := HF19.sublist (sl_dc (sl_a sR))
   exact ofEnv (fun a hE => ⟨_, (Option.some.inj H).symm, ⟨_, _, L8, hE.keep (Keep.cons rfl (Keep.cons rfl (Keep.cons rfl (Keep.cons rfl (Keep.nil))))), HF28, ho8⟩⟩)
  replace H := itF c30 H
  refine cSet (i := 9) rfl (dF c30) ?_
  refine cF rfl ?_
  refine cExit ?_
  refine kX (kX (jX (kN (?_))))
  exact ofEnv (fun a hE => ⟨_, (Option.some.inj H).symm, ⟨_, _, L8, hE.keep (Keep.cons rfl (Keep.cons rfl (Keep.cons rfl (Keep.cons rfl (Keep.nil))))), HF15, ho8⟩⟩)
 rintro s3 a w20 rfl ⟨A14, c29, L8, hE, HF29, ho8⟩
 replace H := Ho3
 refine go_k hE ?_
 refine kN (?_)
 refine hK3 _ _ ?_
 refine cSeq (fun K35 hK35 => ?_)
 refine cRgn [] trivial ?_
 refine sL (mv rfl) rfl ?_
 refine sL (asg rfl) rfl ?_
 refine lE ?_
 refine kN (?_)
 refine hK35 _ _ ?_
 refine cRet ?_
 obtain rfl := Option.some.inj H
 refine ret1 rfl rfl ?_
 exact ⟨_, _, L8, rfl, HF29, ho8⟩
/-! ### plenum/plenumref17.find (function 32) -/
abbrev f_plenumref17_find.R := T_api_Lsa × Bool
noncomputable def f_plenumref17_find.b0 (a0 : List T_api_Lsa) (a1 : T_api_Vert) (s3 : Bool × Int × Int × Int × Int × Int × Int × Int × Int × Int × (List T_api_Link) × Int × (List Int) × (List T_api_Vert)) : Option (Sum (Bool × Int × Int × Int × Int × Int × Int × Int × Int × Int × (List T_api_Link) × Int × (List Int) × (List T_api_Vert)) (Sum (Bool × Int × Int × Int × Int × Int × Int × Int × Int × Int × (List T_api_Link) × Int × (List Int) × (List T_api_Vert)) f_plenumref17_find.R)) := (if s3.2.1 < (a0.length : Int) then (if 0 ≤ s3.2.1 then ((((if a1.f_Kind = 1 then (if ((rd a0 s3.2.1).f_Head.f_Kind) = 1 then (if ((rd a0 s3.2.1).f_Head.f_Id) = ((rd a0 s3.2.1).f_Head.f_Adv) then some (.inl true) else (if a1.f_Kind = 2 then some (.inl (decide (((rd a0 s3.2.1).f_Head.f_Kind) = 2))) else some (.inl false))) else (if a1.f_Kind = 2 then some (.inl (decide (((rd a0 s3.2.1).f_Head.f_Kind) = 2))) else some (.inl false))) else (if a1.f_Kind = 2 then some (.inl (decide (((rd a0 s3.2.1).f_Head.f_Kind) = 2))) else some (.inl false))) : Option (Sum (Bool) f_plenumref17_find.R))).bind fun y5 => match y5 with | .inl s4 => (if ((rd a0 s3.2.1).f_Head.f_Age) < 3600 then (if s4 = true then (if ((rd a0 s3.2.1).f_Head.f_Id) = a1.f_Id then (if s3.1 = true then (if ((rd a0 s3.2.1).f_Head.f_Adv) < s3.2.2.2.2.2.1 then some (.inl (true, IntKind.i64.wrap (s3.2.1 + 1), (rd a0 s3.2.1).f_Head.f_Age, (rd a0 s3.2.1).f_Head.f_Kind, (rd a0 s3.2.1).f_Head.f_Id, (rd a0 s3.2.1).f_Head.f_Adv, (rd a0 s3.2.1).f_Head.f_Seq, (rd a0 s3.2.1).f_Head.f_Sum, (rd a0 s3.2.1).f_Head.f_Len, (rd a0 s3.2.1).f_Flags, (rd a0 s3.2.1).f_Links, (rd a0 s3.2.1).f_Bits, (rd a0 s3.2.1).f_Routers, (rd a0 s3.2.1).f_Verts)) else some (.inl (s3.1, IntKind.i64.wrap (s3.2.1 + 1), s3.2.2.1, s3.2.2.2.1, s3.2.2.2.2.1, s3.2.2.2.2.2.1, s3.2.2.2.2.2.2.1, s3.2.2.2.2.2.2.2.1, s3.2.2.2.2.2.2.2.2.1, s3.2.2.2.2.2.2.2.2.2.1, s3.2.2.2.2.2.2.2.2.2.2.1, s3.2.2.2.2.2.2.2.2.2.2.2.1, s3.2.2.2.2.2.2.2.2.2.2.2.2.1, s3.2.2.2.2.2.2.2.2.2.2.2.2.2))) else some (.inl (true, IntKind.i64.wrap (s3.2.1 + 1), (rd a0 s3.2.1).f_Head.f_Age, (rd a0 s3.2.1).f_Head.f_Kind, (rd a0 s3.2.1).f_Head.f_Id, (rd a0 s3.2.1).f_Head.f_Adv, (rd a0 s3.2.1).f_Head.f_Seq, (rd a0 s3.2.1).f_Head.f_Sum, (rd a0 s3.2.1).f_Head.f_Len, (rd a0 s3.2.1).f_Flags, (rd a0 s3.2.1).f_Links, (rd a0 s3.2.1).f_Bits, (rd a0 s3.2.1).f_Routers, (rd a0 s3.2.1).f_Verts))) else some (.inl (s3.1, IntKind.i64.wrap (s3.2.1 + 1), s3.2.2.1, s3.2.2.2.1, s3.2.2.2.2.1, s3.2.2.2.2.2.1, s3.2.2.2.2.2.2.1, s3.2.2.2.2.2.2.2.1, s3.2.2.2.2.2.2.2.2.1, s3.2.2.2.2.2.2.2.2.2.1, s3.2.2.2.2.2.2.2.2.2.2.1, s3.2.2.2.2.2.2.2.2.2.2.2.1, s3.2.2.2.2.2.2.2.2.2.2.2.2.1, s3.2.2.2.2.2.2.2.2.2.2.2.2.2))) else some (.inl (s3.1, IntKind.i64.wrap (s3.2.1 + 1), s3.2.2.1, s3.2.2.2.1, s3.2.2.2.2.1, s3.2.2.2.2.2.1, s3.2.2.2.2.2.2.1, s3.2.2.2.2.2.2.2.1, s3.2.2.2.2.2.2.2.2.1, s3.2.2.2.2.2.2.2.2.2.1, s3.2.2.2.2.2.2.2.2.2.2.1, s3.2.2.2.2.2.2.2.2.2.2.2.1, s3.2.2.2.2.2.2.2.2.2.2.2.2.1, s3.2.2.2.2.2.2.2.2.2.2.2.2.2))) else some (.inl (s3.1, IntKind.i64.wrap (s3.2.1 + 1), s3.2.2.1, s3.2.2.2.1, s3.2.2.2.2.1, s3.2.2.2.2.2.1, s3.2.2.2.2.2.2.1, s3.2.2.2.2.2.2.2.1, s3.2.2.2.2.2.2.2.2.1, s3.2.2.2.2.2.2.2.2.2.1, s3.2.2.2.2.2.2.2.2.2.2.1, s3.2.2.2.2.2.2.2.2.2.2.2.1, s3.2.2.2.2.2.2.2.2.2.2.2.2.1, s3.2.2.2.2.2.2.2.2.2.2.2.2.2))) | .inr r_ => some (.inr (.inr r_))) else none) else some (.inr (.inl (s3.1, s3.2.1, s3.2.2.1, s3.2.2.2.1, s3.2.2.2.2.1, s3.2.2.2.2.2.1, s3.2.2.2.2.2.2.1, s3.2.2.2.2.2.2.2.1, s3.2.2.2.2.2.2.2.2.1, s3.2.2.2.2.2.2.2.2.2.1, s3.2.2.2.2.2.2.2.2.2.2.1, s3.2.2.2.2.2.2.2.2.2.2.2.1, s3.2.2.2.2.2.2.2.2.2.2.2.2.1, s3.2.2.2.2.2.2.2.2.2.2.2.2.2))))
noncomputable def f_plenumref17_find (a0 : List T_api_Lsa) (a1 : T_api_Vert) : Option f_plenumref17_find.R := ((loopO (f_plenumref17_find.b0 a0 a1) (false, 0, 0, 0, 0, 0, 0, 0, 0, 0, [], 0, [], [])).bind fun y3 => match y3 with | .inl s3 => some ((⟨(⟨s3.2.2.1, s3.2.2.2.1, s3.2.2.2.2.1, s3.2.2.2.2.2.1, s3.2.2.2.2.2.2.1, s3.2.2.2.2.2.2.2.1, s3.2.2.2.2.2.2.2.2.1⟩ : T_api_Head), s3.2.2.2.2.2.2.2.2.2.1, s3.2.2.2.2.2.2.2.2.2.2.1, s3.2.2.2.2.2.2.2.2.2.2.2.1, s3.2.2.2.2.2.2.2.2.2.2.2.2.1, s3.2.2.2.2.2.2.2.2.2.2.2.2.2⟩ : T_api_Lsa), s3.1) | .inr r_ => some r_)
set_option maxHeartbeats 1000000 in
theorem f_plenumref17_find.ok {z w : World} {F G : Hp} (hG : G ⊆ F) {a0 : List T_api_Lsa} {A_a0 : Option Addr} {c_a0 : Nat} {X_a0 : Hp} {a1 : T_api_Vert} {r : f_plenumref17_find.R} (H : f_plenumref17_find a0 a1 = some r) (HF : Fits z w F) (hX_a0 : X_a0 ⊆ F) (hr_a0 : RdS (kShr G k_T_api_Lsa) X_a0 A_a0 c_a0 a0) :
  Calls Try.prog 32 [.slice A_a0 a0.length c_a0, .agg [.int .i64 a1.f_Kind, .int .i64 a1.f_Id].toArray].toArray w fun e w' => ∃ (N : Hp) (A0 : Option Addr) (c0 : Nat) (A2 : Option Addr) (c2 : Nat) (A4 : Option Addr) (c4 : Nat), e = .returned (.tuple #[.agg [.int .i64 r.1.f_Head.f_Age, .int .i64 r.1.f_Head.f_Kind, .int .i64 r.1.f_Head.f_Id, .int .i64 r.1.f_Head.f_Adv, .int .i64 r.1.f_Head.f_Seq, .int .i64 r.1.f_Head.f_Sum, .int .i64 r.1.f_Head.f_Len, .int .i64 r.1.f_Flags, .slice A0 r.1.f_Links.length c0, .int .i64 r.1.f_Bits, .slice A2 r.1.f_Routers.length c2, .slice A4 r.1.f_Verts.length c4].toArray, .bool r.2]) ∧ Fits z w' (N ++ F) ∧ RdS k_T_api_Link (N ++ G) A0 c0 r.1.f_Links ∧ RdS (kInt .i64) (N ++ G) A2 c2 r.1.f_Routers ∧ RdS k_T_api_Vert (N ++ G) A4 c4 r.1.f_Verts := by
 unfold f_plenumref17_find at H
 refine enter0 Try.func32 rfl Try.ntmps32 rfl (E := [(0, .slice A_a0 a0.length c_a0), (1, .agg [.int .i64 a1.f_Kind, .int .i64 a1.f_Id].toArray)]) rfl ?_
 refine cSeq (fun K1 hK1 => ?_)
 refine cRgn [] trivial ?_
 refine eW (oBox HF rfl) rfl ?_
 rintro _ w1 ⟨g1, rfl, HF1⟩
 refine eW (oAlloc HF1 ti44) rfl ?_
 rintro _ w2 ⟨g2, rfl, HF2⟩
 refine sL (asg rfl) rfl ?_
 refine lE ?_
 refine kN (?_)
 refine hK1 _ _ ?_
 refine cSeq (fun K2 hK2 => ?_)
 refine cRgn [] trivial ?_
 refine sL (bd (r := [.int .i64 0, .int .i64 0, .int .i64 0, .int .i64 0, .int .i64 0, .int .i64 0, .int .i64 0, .int .i64 0, .slice none 0 0, .int .i64 0, .slice none 0 0, .slice none 0 0]) pl44 ti44 rfl rfl) rfl ?_
 refine eW (oAlloc HF2 ti44) rfl ?_
 rintro _ w3 ⟨g3, rfl, HF3⟩
 refine eS (oSt (l1 := [.int .i64 0, .int .i64 0, .int .i64 0, .int .i64 0, .int .i64 0, .int .i64 0, .int .i64 0, .int .i64 0, .slice none 0 0, .int .i64 0, .slice none 0 0, .slice none 0 0]) HF3 rfl rfl ti44 rfl (ones rfl) (Nat.le_of_ble_eq_true rfl) rfl) ?_
 rintro w4 HF4
 refine sL (asg rfl) rfl ?_
 refine lE ?_
 refine kN (?_)
 refine hK2 _ _ ?_
 refine cSeq (fun K3 hK3 => ?_)
 refine cSeq (fun K4 hK4 => ?_)
 refine cRgn [] trivial ?_
 refine sL (asg rfl) rfl ?_
 refine lE ?_
 refine kN (?_)
 refine hK4 _ _ ?_
 replace H := bnd H; obtain ⟨y3, J1, Ho3⟩ := H
 refine cLoopB (f_plenumref17_find.b0 a0 a1) (fun (s3 : Bool × Int × Int × Int × Int × Int × Int × Int × Int × Int × (List T_api_Link) × Int × (List Int) × (List T_api_Vert)) a w => ∃ (A19 : Option Addr) (c54 : Nat) (A20 : Option Addr) (c55 : Nat) (A21 : Option Addr) (c56 : Nat), Env 79 [(0, .slice A_a0 a0.length c_a0), (3, .pointer (some ⟨g1, 0, none⟩)), (4, .pointer (some ⟨g2, 0, none⟩)), (5, .bool false), (6, .pointer (some ⟨g3, 0, none⟩)), (7, .bool s3.1), (8, .int .i64 s3.2.1)] a ∧ Fits z w (bk g3 44 [.int .i64 s3.2.2.1, .int .i64 s3.2.2.2.1, .int .i64 s3.2.2.2.2.1, .int .i64 s3.2.2.2.2.2.1, .int .i64 s3.2.2.2.2.2.2.1, .int .i64 s3.2.2.2.2.2.2.2.1, .int .i64 s3.2.2.2.2.2.2.2.2.1, .int .i64 s3.2.2.2.2.2.2.2.2.2.1, .slice A19 s3.2.2.2.2.2.2.2.2.2.2.1.length c54, .int .i64 s3.2.2.2.2.2.2.2.2.2.2.2.1, .slice A20 s3.2.2.2.2.2.2.2.2.2.2.2.2.1.length c55, .slice A21 s3.2.2.2.2.2.2.2.2.2.2.2.2.2.length c56] :: (bk g2 44 [.int .i64 0, .int .i64 0, .int .i64 0, .int .i64 0, .int .i64 0, .int .i64 0, .int .i64 0, .int .i64 0, .slice none 0 0, .int .i64 0, .slice none 0 0, .slice none 0 0] :: (bk g1 35 [.int .i64 a1.f_Kind, .int .i64 a1.f_Id] :: F))) ∧ RdS k_T_api_Link G A19 c54 s3.2.2.2.2.2.2.2.2.2.2.1 ∧ RdS (kInt .i64) G A20 c55 s3.2.2.2.2.2.2.2.2.2.2.2.2.1 ∧ RdS k_T_api_Vert G A21 c56 s3.2.2.2.2.2.2.2.2.2.2.2.2.2) J1 (fun a hE => ⟨_, _, _, _, _, _, hE.keep (Keep.cons rfl (Keep.cons rfl (Keep.cons rfl (Keep.cons rfl (Keep.cons rfl (Keep.cons rfl (Keep.cons rfl (Keep.nil)))))))), HF4, RdS.nil, RdS.nil, RdS.nil⟩) ?_ ?_
 ·rintro s3 a w14 y4 ⟨A19, c54, A20, c55, A21, c56, hE, HF17, hr19, hr20, hr21⟩ H Hx1
  refine go_ hE ?_
  refine cSeq (fun K20 hK20 => ?_)
  refine cSeq (fun K21 hK21 => ?_)
  refine cRgn [] trivial ?_
  refine sL (mv rfl) rfl ?_
  refine sL (mv rfl) rfl ?_
  refine sL (lnS rfl Try.underlying24) rfl ?_
  refine sL (bLss rfl rfl) rfl ?_
  refine lE ?_
  refine kN (?_)
  refine hK21 _ _ ?_
  by_cases c57 : s3.2.1 < (a0.length : Int)
  ·replace H := itT c57 H
   refine cSet (i := 15) rfl (dT c57) ?_
   refine cT rfl ?_
   refine cSkip ?_
   refine kN (?_)
   refine hK20 _ _ ?_
   refine cSeq (fun K22 hK22 => ?_)
   refine cBlock ?_
   refine cSeq (fun K23 hK23 => ?_)
   refine cRgn [] trivial ?_
   refine sL (mv rfl) rfl ?_
   refine sL (mv rfl) rfl ?_
   replace H := chk H; obtain ⟨c58, H⟩ := H
   obtain ⟨g8, o3, e12, rfl, hk6, q6⟩ := RdS.at_ hr_a0 c58 c57
   obtain ⟨A22, c59, A23, c60, A24, c61, rfl, hr22, hr23, hr24⟩ := rd_T_api_Lsa hk6
   refine sL (ia rfl rfl Try.underlying24 ti44 c58 c57) rfl ?_
   refine sL (fa44_0 rfl) rfl ?_
   refine sL (ldA (cs := [.int .i64 ((rd a0 s3.2.1).f_Head.f_Age), .int .i64 ((rd a0 s3.2.1).f_Head.f_Kind), .int .i64 ((rd a0 s3.2.1).f_Head.f_Id), .int .i64 ((rd a0 s3.2.1).f_Head.f_Adv), .int .i64 ((rd a0 s3.2.1).f_Head.f_Seq), .int .i64 ((rd a0 s3.2.1).f_Head.f_Sum), .int .i64 ((rd a0 s3.2.1).f_Head.f_Len)]) rfl ti41 rfl rfl (fun j v hj => HF17.cells ((sub_c (sub_c (sub_c hX_a0)))) (el_part q6 (off := 0) (n := 7) rfl j v hj))) rfl ?_
   refine eW (oAlloc HF17 ti41) rfl ?_
   rintro _ w15 ⟨g9, rfl, HF18⟩
   refine eS (oSt (l1 := [.int .i64 ((rd a0 s3.2.1).f_Head.f_Age), .int .i64 ((rd a0 s3.2.1).f_Head.f_Kind), .int .i64 ((rd a0 s3.2.1).f_Head.f_Id), .int .i64 ((rd a0 s3.2.1).f_Head.f_Adv), .int .i64 ((rd a0 s3.2.1).f_Head.f_Seq), .int .i64 ((rd a0 s3.2.1).f_Head.f_Sum), .int .i64 ((rd a0 s3.2.1).f_Head.f_Len)]) HF18 rfl rfl ti41 rfl (ones rfl) (Nat.le_of_ble_eq_true rfl) rfl) ?_
   rintro w16 HF19
   refine lE ?_
   refine kN (?_)
   refine hK23 _ _ ?_
   refine cSeq (fun K24 hK24 => ?_)
   replace H := bnd H; obtain ⟨y5, H, Ho4⟩ := H
   refine cJoin (y := y5) (fun (s4 : Bool) a w => Env 79 [(0, .slice (some ⟨g8, o3, none⟩) a0.length c_a0), (3, .pointer (some ⟨g1, 0, none⟩)), (4, .pointer (some ⟨g2, 0, none⟩)), (5, .bool false), (6, .pointer (some ⟨g3, 0, none⟩)), (7, .bool s3.1), (8, .int .i64 s3.2.1), (9, .pointer (some ⟨g9, 0, none⟩)), (10, .bool s4)] a ∧ Fits z w (bk g9 41 [.int .i64 ((rd a0 s3.2.1).f_Head.f_Age), .int .i64 ((rd a0 s3.2.1).f_Head.f_Kind), .int .i64 ((rd a0 s3.2.1).f_Head.f_Id), .int .i64 ((rd a0 s3.2.1).f_Head.f_Adv), .int .i64 ((rd a0 s3.2.1).f_Head.f_Seq), .int .i64 ((rd a0 s3.2.1).f_Head.f_Sum), .int .i64 ((rd a0 s3.2.1).f_Head.f_Len)] :: (bk g3 44 [.int .i64 s3.2.2.1, .int .i64 s3.2.2.2.1, .int .i64 s3.2.2.2.2.1, .int .i64 s3.2.2.2.2.2.1, .int .i64 s3.2.2.2.2.2.2.1, .int .i64 s3.2.2.2.2.2.2.2.1, .int .i64 s3.2.2.2.2.2.2.2.2.1, .int .i64 s3.2.2.2.2.2.2.2.2.2.1, .slice A19 s3.2.2.2.2.2.2.2.2.2.2.1.length c54, .int .i64 s3.2.2.2.2.2.2.2.2.2.2.2.1, .slice A20 s3.2.2.2.2.2.2.2.2.2.2.2.2.1.length c55, .slice A21 s3.2.2.2.2.2.2.2.2.2.2.2.2.2.length c56] :: (bk g2 44 [.int .i64 0, .int .i64 0, .int .i64 0, .int .i64 0, .int .i64 0, .int .i64 0, .int .i64 0, .int .i64 0, .slice none 0 0, .int .i64 0, .slice none 0 0, .slice none 0 0] :: (bk g1 35 [.int .i64 a1.f_Kind, .int .i64 a1.f_Id] :: F))))) ?_ ?_
   ·refine cRgn [(3, 26), (8, 31), (15, 38), (19, 42)] ⟨rfl, rfl, rfl, rfl, trivial⟩ ?_
    refine sL (fa35_0 rfl) rfl ?_
    refine sL (ld rfl Try.underlying3 rfl (HF19.box (mem_c (mem_c (mem_c mem_h))) rfl)) rfl ?_
    refine sL (bEql rfl rfl) rfl ?_
    refine sL (mv rfl) rfl ?_
    by_cases c68 : a1.f_Kind = 1
    ·replace H := itT c68 H
     refine lSet (i := 26) rfl (dT c68) ?_
     refine sG rfl rfl (fa41_1 rfl) rfl ?_
     refine sG rfl rfl (ld rfl Try.underlying3 rfl (HF19.box (mem_h) rfl)) rfl ?_
     refine sG rfl rfl (bEql rfl rfl) rfl ?_
     refine sL (pkT rfl rfl) rfl ?_
     refine sL (mv rfl) rfl ?_
     by_cases c69 : ((rd a0 s3.2.1).f_Head.f_Kind) = 1
     ·replace H := itT c69 H
      refine lSet (i := 31) rfl (dT c69) ?_
      refine sG rfl rfl (fa41_2 rfl) rfl ?_
      refine sG rfl rfl (ld rfl Try.underlying3 rfl (HF19.box (mem_h) rfl)) rfl ?_
      refine sG rfl rfl (fa41_3 rfl) rfl ?_
      refine sG rfl rfl (ld rfl Try.underlying3 rfl (HF19.box (mem_h) rfl)) rfl ?_
      refine sG rfl rfl (bEql rfl rfl) rfl ?_
      refine sL (pkT rfl rfl) rfl ?_
      refine sL (mv rfl) rfl ?_
      by_cases c70 : ((rd a0 s3.2.1).f_Head.f_Id) = ((rd a0 s3.2.1).f_Head.f_Adv)
      ·replace H := itT c70 H
       refine lSet (i := 38) rfl (dT c70) ?_
       refine sN rfl rfl rfl rfl ?_
       refine sN rfl rfl rfl rfl ?_
       refine sN rfl rfl rfl rfl ?_
       refine sN rfl rfl rfl rfl ?_
       refine sU rfl rfl rfl rfl ?_
       refine sU rfl rfl rfl rfl ?_
       refine sU rfl rfl rfl rfl ?_
       refine sN rfl rfl rfl rfl ?_
       refine sL (pkT rfl rfl) rfl ?_
       refine sL (asg rfl) rfl ?_
       refine lE ?_
       refine kN (?_)
       exact ofEnv (fun a hE => ⟨_, (Option.some.inj H).symm, ⟨hE.keep (Keep.cons rfl (Keep.cons rfl (Keep.cons rfl (Keep.cons rfl (Keep.cons rfl (Keep.cons rfl (Keep.cons rfl (Keep.cons rfl (Keep.cons rfl (Keep.nil)))))))))), HF19⟩⟩)
      replace H := itF c70 H
      refine lSet (i := 38) rfl (dF c70) ?_
      refine sG rfl rfl (fa35_0 rfl) rfl ?_
      refine sG rfl rfl (ld rfl Try.underlying3 rfl (HF19.box (mem_c (mem_c (mem_c mem_h))) rfl)) rfl ?_
      refine sG rfl rfl (bEql rfl rfl) rfl ?_
      refine sG rfl rfl (mv rfl) rfl ?_
      by_cases c71 : a1.f_Kind = 2
      ·replace H := itT c71 H
       refine lSet (i := 42) rfl (dT c71) ?_
       refine sG rfl rfl (fa41_1 rfl) rfl ?_
       refine sG rfl rfl (ld rfl Try.underlying3 rfl (HF19.box (mem_h) rfl)) rfl ?_
       refine sG rfl rfl (bEql rfl rfl) rfl ?_
       refine sG rfl rfl (pkT rfl rfl) rfl ?_
       refine sL (pkF rfl rfl) rfl ?_
       refine sL (asg rfl) rfl ?_
       refine lE ?_
       refine kN (?_)
       exact ofEnv (fun a hE => ⟨_, (Option.some.inj H).symm, ⟨hE.keep (Keep.cons rfl (Keep.cons rfl (Keep.cons rfl (Keep.cons rfl (Keep.cons rfl (Keep.cons rfl (Keep.cons rfl (Keep.cons rfl (Keep.cons rfl (Keep.nil)))))))))), HF19⟩⟩)
      replace H := itF c71 H
      refine lSet (i := 42) rfl (dF c71) ?_
      refine sN rfl rfl rfl rfl ?_
      refine sN rfl rfl rfl rfl ?_
      refine sN rfl rfl rfl rfl ?_
      refine sG rfl rfl (pkF rfl rfl) rfl ?_
      refine sL (pkF rfl rfl) rfl ?_
      refine sL (asg rfl) rfl ?_
      refine lE ?_
      refine kN (?_)
      exact ofEnv (fun a hE => ⟨_, (Option.some.inj H).symm, ⟨hE.keep (Keep.cons rfl (Keep.cons rfl (Keep.cons rfl (Keep.cons rfl (Keep.cons rfl (Keep.cons rfl (Keep.cons rfl (Keep.cons rfl (Keep.cons rfl (Keep.nil)))))))))), HF19⟩⟩)
     replace H := itF c69 H
     refine lSet (i := 31) rfl (dF c69) ?_
     refine sN rfl rfl rfl rfl ?_
     refine sN rfl rfl rfl rfl ?_
     refine sN rfl rfl rfl rfl ?_
     refine sN rfl rfl rfl rfl ?_
     refine sN rfl rfl rfl rfl ?_
     refine sL (pkF rfl rfl) rfl ?_
     refine sL (mv rfl) rfl ?_
     refine sG rfl rfl (fa35_0 rfl) rfl ?_
     refine sG rfl rfl (ld rfl Try.underlying3 rfl (HF19.box (mem_c (mem_c (mem_c mem_h))) rfl)) rfl ?_
     refine sG rfl rfl (bEql rfl rfl) rfl ?_
     refine sG rfl rfl (mv rfl) rfl ?_
     by_cases c72 : a1.f_Kind = 2
     ·replace H := itT c72 H
      refine lSet (i := 42) rfl (dT c72) ?_
      refine sG rfl rfl (fa41_1 rfl) rfl ?_
      refine sG rfl rfl (ld rfl Try.underlying3 rfl (HF19.box (mem_h) rfl)) rfl ?_
      refine sG rfl rfl (bEql rfl rfl) rfl ?_
      refine sG rfl rfl (pkT rfl rfl) rfl ?_
      refine sL (pkF rfl rfl) rfl ?_
      refine sL (asg rfl) rfl ?_
      refine lE ?_
      refine kN (?_)
      exact ofEnv (fun a hE => ⟨_, (Option.some.inj H).symm, ⟨hE.keep (Keep.cons rfl (Keep.cons rfl (Keep.cons rfl (Keep.cons rfl (Keep.cons rfl (Keep.cons rfl (Keep.cons rfl (Keep.cons rfl (Keep.cons rfl (Keep.nil)))))))))), HF19⟩⟩)
     replace H := itF c72 H
     refine lSet (i := 42) rfl (dF c72) ?_
     refine sN rfl rfl rfl rfl ?_
     refine sN rfl rfl rfl rfl ?_
     refine sN rfl rfl rfl rfl ?_
     refine sG rfl rfl (pkF rfl rfl) rfl ?_
     refine sL (pkF rfl rfl) rfl ?_
     refine sL (asg rfl) rfl ?_
     refine lE ?_
     refine kN (?_)
     exact ofEnv (fun a hE => ⟨_, (Option.some.inj H).symm, ⟨hE.keep (Keep.cons rfl (Keep.cons rfl (Keep.cons rfl (Keep.cons rfl (Keep.cons rfl (Keep.cons rfl (Keep.cons rfl (Keep.cons rfl (Keep.cons rfl (Keep.nil)))))))))), HF19⟩⟩)
    replace H := itF c68 H
    refine lSet (i := 26) rfl (dF c68) ?_
    refine sN rfl rfl rfl rfl ?_
    refine sN rfl rfl rfl rfl ?_
    refine sN rfl rfl rfl rfl ?_
    refine sL (pkF rfl rfl) rfl ?_
    refine sL (mv rfl) rfl ?_
    refine sN rfl rfl rfl rfl ?_
    refine sN rfl rfl rfl rfl ?_
    refine sN rfl rfl rfl rfl ?_
    refine sN rfl rfl rfl rfl ?_
    refine sN rfl rfl rfl rfl ?_
    refine sL (pkF rfl rfl) rfl ?_
    refine sL (mv rfl) rfl ?_
    refine sG rfl rfl (fa35_0 rfl) rfl ?_
    refine sG rfl rfl (ld rfl Try.underlying3 rfl (HF19.box (mem_c (mem_c (mem_c mem_h))) rfl)) rfl ?_
    refine sG rfl rfl (bEql rfl rfl) rfl ?_
    refine sG rfl rfl (mv rfl) rfl ?_
    by_cases c73 : a1.f_Kind = 2
    ·replace H := itT c73 H
     refine lSet (i := 42) rfl (dT c73) ?_
     refine sG rfl rfl (fa41_1 rfl) rfl ?_
     refine sG rfl rfl (ld rfl Try.underlying3 rfl (HF19.box (mem_h) rfl)) rfl ?_
     refine sG rfl rfl (bEql rfl rfl) rfl ?_
     refine sG rfl rfl (pkT rfl rfl) rfl ?_
     refine sL (pkF rfl rfl) rfl ?_
     refine sL (asg rfl) rfl ?_
     refine lE ?_
     refine kN (?_)
     exact ofEnv (fun a hE => ⟨_, (Option.some.inj H).symm, ⟨hE.keep (Keep.cons rfl (Keep.cons rfl (Keep.cons rfl (Keep.cons rfl (Keep.cons rfl (Keep.cons rfl (Keep.cons rfl (Keep.cons rfl (Keep.cons rfl (Keep.nil)))))))))), HF19⟩⟩)
    replace H := itF c73 H
    refine lSet (i := 42) rfl (dF c73) ?_
    refine sN rfl rfl rfl rfl ?_
    refine sN rfl rfl rfl rfl ?_
    refine sN rfl rfl rfl rfl ?_
    refine sG rfl rfl (pkF rfl rfl) rfl ?_
    refine sL (pkF rfl rfl) rfl ?_
    refine sL (asg rfl) rfl ?_
    refine lE ?_
    refine kN (?_)
    exact ofEnv (fun a hE => ⟨_, (Option.some.inj H).symm, ⟨hE.keep (Keep.cons rfl (Keep.cons rfl (Keep.cons rfl (Keep.cons rfl (Keep.cons rfl (Keep.cons rfl (Keep.cons rfl (Keep.cons rfl (Keep.cons rfl (Keep.nil)))))))))), HF19⟩⟩)
   rintro s4 a w17 rfl ⟨hE, HF20⟩
   replace H := Ho4
   refine go_k hE ?_
   refine kN (?_)
   refine hK24 _ _ ?_
   refine cSeq (fun K25 hK25 => ?_)
   refine cRgn [(3, 51), (6, 54), (13, 61), (16, 64)] ⟨rfl, rfl, rfl, rfl, trivial⟩ ?_
   refine sL (fa41_0 rfl) rfl ?_
   refine sL (ld rfl Try.underlying3 rfl (HF20.box (mem_h) rfl)) rfl ?_
   refine sL (bLss rfl rfl) rfl ?_
   refine sL (mv rfl) rfl ?_
   by_cases c74 : ((rd a0 s3.2.1).f_Head.f_Age) < 3600
   ·replace H := itT c74 H
    refine lSet (i := 51) rfl (dT c74) ?_
    refine sG rfl rfl (mv rfl) rfl ?_
    refine sL (pkT rfl rfl) rfl ?_
    refine sL (mv rfl) rfl ?_
    by_cases c75 : s4 = true
    ·replace H := itT c75 H
     refine lSet (i := 54) rfl (vT c75) ?_
     refine sG rfl rfl (fa41_2 rfl) rfl ?_
     refine sG rfl rfl (ld rfl Try.underlying3 rfl (HF20.box (mem_h) rfl)) rfl ?_
     refine sG rfl rfl (fa35_1 rfl) rfl ?_
     refine sG rfl rfl (ld rfl Try.underlying3 rfl (HF20.box (mem_c (mem_c (mem_c mem_h))) rfl)) rfl ?_
     refine sG rfl rfl (bEql rfl rfl) rfl ?_
     refine sL (pkT rfl rfl) rfl ?_
     refine sL (mv rfl) rfl ?_
     by_cases c76 : ((rd a0 s3.2.1).f_Head.f_Id) = a1.f_Id
     ·replace H := itT c76 H
      refine lSet (i := 61) rfl (dT c76) ?_
      refine sG rfl rfl (mv rfl) rfl ?_
      refine sG rfl rfl (uNot rfl) rfl ?_
      refine sG rfl rfl (mv rfl) rfl ?_
      by_cases c77 : s3.1 = true
      ·replace H := itT c77 H
       refine lSet (i := 64) rfl (wF c77) ?_
       refine sG rfl rfl (fa41_3 rfl) rfl ?_
       refine sG rfl rfl (ld rfl Try.underlying3 rfl (HF20.box (mem_h) rfl)) rfl ?_
       refine sG rfl rfl (fa44_0 rfl) rfl ?_
       refine sG rfl rfl (fa41_3 rfl) rfl ?_
       refine sG rfl rfl (ld rfl Try.underlying3 rfl (HF20.box (mem_c mem_h) rfl)) rfl ?_
       refine sG rfl rfl (bLss rfl rfl) rfl ?_
       refine sG rfl rfl (pkF rfl rfl) rfl ?_
       refine sL (pkT rfl rfl) rfl ?_
       refine lE ?_
       refine kN (?_)
       refine hK25 _ _ ?_
       by_cases c78 : ((rd a0 s3.2.1).f_Head.f_Adv) < s3.2.2.2.2.2.1
       ·replace H := itT c78 H
        refine cSet (i := 72) rfl (dT c78) ?_
        refine cT rfl ?_
        refine cSeq (fun K26 hK26 => ?_)
        refine cRgn [] trivial ?_
        refine sL (mv rfl) rfl ?_
        refine sL (mv rfl) rfl ?_
        obtain ⟨e14, hk7, q7⟩ := RdS.at' hr_a0 c58 c57
        obtain ⟨A25, c79, A26, c80, A27, c81, rfl, hr25, hr26, hr27⟩ := rd_T_api_Lsa hk7
        refine sL (ia rfl rfl Try.underlying24 ti44 c58 c57) rfl ?_
        refine sL (ldA rfl ti44 rfl rfl (fun j v hj => HF20.cells ((sub_c (sub_c (sub_c (sub_c hX_a0))))) (q7 j v hj))) rfl ?_
        have HF21 := HF20.perm (perm_c1 pR)
        refine eS (oSt (l1 := [.int .i64 ((rd a0 s3.2.1).f_Head.f_Age), .int .i64 ((rd a0 s3.2.1).f_Head.f_Kind), .int .i64 ((rd a0 s3.2.1).f_Head.f_Id), .int .i64 ((rd a0 s3.2.1).f_Head.f_Adv), .int .i64 ((rd a0 s3.2.1).f_Head.f_Seq), .int .i64 ((rd a0 s3.2.1).f_Head.f_Sum), .int .i64 ((rd a0 s3.2.1).f_Head.f_Len), .int .i64 ((rd a0 s3.2.1).f_Flags), .slice A25 ((rd a0 s3.2.1).f_Links).length c79, .int .i64 ((rd a0 s3.2.1).f_Bits), .slice A26 ((rd a0 s3.2.1).f_Routers).length c80, .slice A27 ((rd a0 s3.2.1).f_Verts).length c81]) HF21 rfl rfl ti44 rfl (ones rfl) (Nat.le_of_ble_eq_true rfl) rfl) ?_
        rintro w18 HF22
        refine lE ?_
        refine kN (?_)
        refine hK26 _ _ ?_
        refine cRgn [] trivial ?_
        refine sL (asg rfl) rfl ?_
        refine lE ?_
        refine jN (kN (?_))
        refine hK22 _ _ ?_
        refine cRgn [] trivial ?_
        refine sL (mv rfl) rfl ?_
        refine sL (bAdd rfl rfl) rfl ?_
        refine sL (asg rfl) rfl ?_
        refine lE ?_
        refine kN (?_)
        have HF23 := HF22.sublist (sl_c (sl_dc (sl_c (sl_c sR))))
        exact ofEnv (fun a hE => ⟨_, (Option.some.inj H).symm, ⟨_, _, _, _, _, _, hE.keep (Keep.cons rfl (Keep.cons rfl (Keep.cons rfl (Keep.cons rfl (Keep.cons rfl (Keep.cons rfl (Keep.cons rfl (Keep.nil)))))))), HF23, hr25, hr26, hr27⟩⟩)
       replace H := itF c78 H
       refine cSet (i := 72) rfl (dF c78) ?_
       refine cF rfl ?_
       refine cSkip ?_
       refine jN (kN (?_))
       refine hK22 _ _ ?_
       refine cRgn [] trivial ?_
       refine sL (mv rfl) rfl ?_
       refine sL (bAdd rfl rfl) rfl ?_
       refine sL (asg rfl) rfl ?_
       refine lE ?_
       refine kN (?_)
       have HF24 := HF20.sublist (sl_dc (sl_c (sl_c (sl_c sR))))
       exact ofEnv (fun a hE => ⟨_, (Option.some.inj H).symm, ⟨_, _, _, _, _, _, hE.keep (Keep.cons rfl (Keep.cons rfl (Keep.cons rfl (Keep.cons rfl (Keep.cons rfl (Keep.cons rfl (Keep.cons rfl (Keep.nil)))))))), HF24, hr19, hr20, hr21⟩⟩)
      replace H := itF c77 H
      refine lSet (i := 64) rfl (wT c77) ?_
      refine sN rfl rfl rfl rfl ?_
      refine sN rfl rfl rfl rfl ?_
      refine sN rfl rfl rfl rfl ?_
      refine sN rfl rfl rfl rfl ?_
      refine sN rfl rfl rfl rfl ?_
      refine sN rfl rfl rfl rfl ?_
      refine sG rfl rfl (pkT rfl rfl) rfl ?_
      refine sL (pkT rfl rfl) rfl ?_
      refine lE ?_
      refine kN (?_)
      refine hK25 _ _ ?_
      refine cT rfl ?_
      refine cSeq (fun K27 hK27 => ?_)
      refine cRgn [] trivial ?_
      refine sL (mv rfl) rfl ?_
      refine sL (mv rfl) rfl ?_
      obtain ⟨e16, hk8, q8⟩ := RdS.at' hr_a0 c58 c57
      obtain ⟨A28, c82, A29, c83, A30, c84, rfl, hr28, hr29, hr30⟩ := rd_T_api_Lsa hk8
      refine sL (ia rfl rfl Try.underlying24 ti44 c58 c57) rfl ?_
      refine sL (ldA rfl ti44 rfl rfl (fun j v hj => HF20.cells ((sub_c (sub_c (sub_c (sub_c hX_a0))))) (q8 j v hj))) rfl ?_
      have HF25 := HF20.perm (perm_c1 pR)
      refine eS (oSt (l1 := [.int .i64 ((rd a0 s3.2.1).f_Head.f_Age), .int .i64 ((rd a0 s3.2.1).f_Head.f_Kind), .int .i64 ((rd a0 s3.2.1).f_Head.f_Id), .int .i64 ((rd a0 s3.2.1).f_Head.f_Adv), .int .i64 ((rd a0 s3.2.1).f_Head.f_Seq), .int .i64 ((rd a0 s3.2.1).f_Head.f_Sum), .int .i64 ((rd a0 s3.2.1).f_Head.f_Len), .int .i64 ((rd a0 s3.2.1).f_Flags), .slice A28 ((rd a0 s3.2.1).f_Links).length c82, .int .i64 ((rd a0 s3.2.1).f_Bits), .slice A29 ((rd a0 s3.2.1).f_Routers).length c83, .slice A30 ((rd a0 s3.2.1).f_Verts).length c84]) HF25 rfl rfl ti44 rfl (ones rfl) (Nat.le_of_ble_eq_true rfl) rfl) ?_
      rintro w19 HF26
      refine lE ?_
      refine kN (?_)
      refine hK27 _ _ ?_
      refine cRgn [] trivial ?_
      refine sL (asg rfl) rfl ?_
      refine lE ?_
      refine jN (kN (?_))
      refine hK22 _ _ ?_
      refine cRgn [] trivial ?_
      refine sL (mv rfl) rfl ?_
      refine sL (bAdd rfl rfl) rfl ?_
      refine sL (asg rfl) rfl ?_
      refine lE ?_
      refine kN (?_)
      have HF27 := HF26.sublist (sl_c (sl_dc (sl_c (sl_c sR))))
      exact ofEnv (fun a hE => ⟨_, (Option.some.inj H).symm, ⟨_, _, _, _, _, _, hE.keep (Keep.cons rfl (Keep.cons rfl (Keep.cons rfl (Keep.cons rfl (Keep.cons rfl (Keep.cons rfl (Keep.cons rfl (Keep.nil)))))))), HF27, hr28, hr29, hr30⟩⟩)
     replace H := itF c76 H
     refine lSet (i := 61) rfl (dF c76) ?_
     refine sN rfl rfl rfl rfl ?_
     refine sN rfl rfl rfl rfl ?_
     refine sN rfl rfl rfl rfl ?_
     refine sU rfl rfl rfl rfl ?_
     refine sU rfl rfl rfl rfl ?_
     refine sU rfl rfl rfl rfl ?_
     refine sU rfl rfl rfl rfl ?_
     refine sU rfl rfl rfl rfl ?_
     refine sU rfl rfl rfl rfl ?_
     refine sN rfl rfl rfl rfl ?_
     refine sL (pkF rfl rfl) rfl ?_
     refine lE ?_
     refine kN (?_)
     refine hK25 _ _ ?_
     refine cF rfl ?_
     refine cSkip ?_
     refine jN (kN (?_))
     refine hK22 _ _ ?_
     refine cRgn [] trivial ?_
     refine sL (mv rfl) rfl ?_
     refine sL (bAdd rfl rfl) rfl ?_
     refine sL (asg rfl) rfl ?_
     refine lE ?_
     refine kN (?_)
     have HF28 := HF20.sublist (sl_dc (sl_c (sl_c (sl_c sR))))
     exact ofEnv (fun a hE => ⟨_, (Option.some.inj H).symm, ⟨_, _, _, _, _, _, hE.keep (Keep.cons rfl (Keep.cons rfl (Keep.cons rfl (Keep.cons rfl (Keep.cons rfl (Keep.cons rfl (Keep.cons rfl (Keep.nil)))))))), HF28, hr19, hr20, hr21⟩⟩)
    replace H := itF c75 H
    refine lSet (i := 54) rfl (vF c75) ?_
    refine sN rfl rfl rfl rfl ?_
    refine sN rfl rfl rfl rfl ?_
    refine sN rfl rfl rfl rfl ?_
    refine sN rfl rfl rfl rfl ?_
    refine sN rfl rfl rfl rfl ?_
    refine sL (pkF rfl rfl) rfl ?_
    refine sL (mv rfl) rfl ?_
    refine sN rfl rfl rfl rfl ?_
    refine sN rfl rfl rfl rfl ?_
    refine sN rfl rfl rfl rfl ?_
    refine sU rfl rfl rfl rfl ?_
    refine sU rfl rfl rfl rfl ?_
    refine sU rfl rfl rfl rfl ?_
    refine sU rfl rfl rfl rfl ?_
    refine sU rfl rfl rfl rfl ?_
    refine sU rfl rfl rfl rfl ?_
    refine sN rfl rfl rfl rfl ?_
    refine sL (pkF rfl rfl) rfl ?_
    refine lE ?_
    refine kN (?_)
    refine hK25 _ _ ?_
    refine cF rfl ?_
    refine cSkip ?_
    refine jN (kN (?_))
    refine hK22 _ _ ?_
    refine cRgn [] trivial ?_
    refine sL (mv rfl) rfl ?_
    refine sL (bAdd rfl rfl) rfl ?_
    refine sL (asg rfl) rfl ?_
    refine lE ?_
    refine kN (?_)
    have HF29 := HF20.sublist (sl_dc (sl_c (sl_c (sl_c sR))))
    exact ofEnv (fun a hE => ⟨_, (Option.some.inj H).symm, ⟨_, _, _, _, _, _, hE.keep (Keep.cons rfl (Keep.cons rfl (Keep.cons rfl (Keep.cons rfl (Keep.cons rfl (Keep.cons rfl (Keep.cons rfl (Keep.nil)))))))), HF29, hr19, hr20, hr21⟩⟩)
   replace H := itF c74 H
   refine lSet (i := 51) rfl (dF c74) ?_
   refine sN rfl rfl rfl rfl ?_
   refine sL (pkF rfl rfl) rfl ?_
   refine sL (mv rfl) rfl ?_
   refine sN rfl rfl rfl rfl ?_
   refine sN rfl rfl rfl rfl ?_
   refine sN rfl rfl rfl rfl ?_
   refine sN rfl rfl rfl rfl ?_
   refine sN rfl rfl rfl rfl ?_
   refine sL (pkF rfl rfl) rfl ?_
   refine sL (mv rfl) rfl ?_
   refine sN rfl rfl rfl rfl ?_
   refine sN rfl rfl rfl rfl ?_
   refine sN rfl rfl rfl rfl ?_
   refine sU rfl rfl rfl rfl ?_
   refine sU rfl rfl rfl rfl ?_
   refine sU rfl rfl rfl rfl ?_
   refine sU rfl rfl rfl rfl ?_
   refine sU rfl rfl rfl rfl ?_
   refine sU rfl rfl rfl rfl ?_
   refine sN rfl rfl rfl rfl ?_
   refine sL (pkF rfl rfl) rfl ?_
   refine lE ?_
   refine kN (?_)
   refine hK25 _ _ ?_
   refine cF rfl ?_
   refine cSkip ?_
   refine jN (kN (?_))
   refine hK22 _ _ ?_
   refine cRgn [] trivial ?_
   refine sL (mv rfl) rfl ?_
   refine sL (bAdd rfl rfl) rfl ?_
   refine sL (asg rfl) rfl ?_
   refine lE ?_
   refine kN (?_)
   have HF30 := HF20.sublist (sl_dc (sl_c (sl_c (sl_c sR))))
   exact ofEnv (fun a hE => ⟨_, (Option.some.inj H).symm, ⟨_, _, _, _, _, _, hE.keep (Keep.cons rfl (Keep.cons rfl (Keep.cons rfl (Keep.cons rfl (Keep.cons rfl (Keep.cons rfl (Keep.cons rfl (Keep.nil)))))))), HF30, hr19, hr20, hr21⟩⟩)
  replace H := itF c57 H
  refine cSet (i := 15) rfl (dF c57) ?_
  refine cF rfl ?_
  refine cExit ?_
  refine kX (kX (jX (kN (?_))))
  exact ofEnv (fun a hE => ⟨_, (Option.some.inj H).symm, ⟨_, _, _, _, _, _, hE.keep (Keep.cons rfl (Keep.cons rfl (Keep.cons rfl (Keep.cons rfl (Keep.cons rfl (Keep.cons rfl (Keep.cons rfl (Keep.nil)))))))), HF17, hr19, hr20, hr21⟩⟩)
 rintro s3 a w20 rfl ⟨A19, c54, A20, c55, A21, c56, hE, HF31, hr19, hr20, hr21⟩
 replace H := Ho3
 refine go_k hE ?_
 refine kN (?_)
 refine hK3 _ _ ?_
 refine cSeq (fun K28 hK28 => ?_)
 refine cRgn [] trivial ?_
 refine sL (ldA (cs := [.int .i64 s3.2.2.1, .int .i64 s3.2.2.2.1, .int .i64 s3.2.2.2.2.1, .int .i64 s3.2.2.2.2.2.1, .int .i64 s3.2.2.2.2.2.2.1, .int .i64 s3.2.2.2.2.2.2.2.1, .int .i64 s3.2.2.2.2.2.2.2.2.1, .int .i64 s3.2.2.2.2.2.2.2.2.2.1, .slice A19 s3.2.2.2.2.2.2.2.2.2.2.1.length c54, .int .i64 s3.2.2.2.2.2.2.2.2.2.2.2.1, .slice A20 s3.2.2.2.2.2.2.2.2.2.2.2.2.1.length c55, .slice A21 s3.2.2.2.2.2.2.2.2.2.2.2.2.2.length c56]) rfl ti44 rfl rfl (HF31.boxes (o := 0) (n := 12) (mem_h) rfl)) rfl ?_
 refine sL (mv rfl) rfl ?_
 have HF32 := HF31.perm (perm_c1 pR)
 refine eS (oSt (l1 := [.int .i64 s3.2.2.1, .int .i64 s3.2.2.2.1, .int .i64 s3.2.2.2.2.1, .int .i64 s3.2.2.2.2.2.1, .int .i64 s3.2.2.2.2.2.2.1, .int .i64 s3.2.2.2.2.2.2.2.1, .int .i64 s3.2.2.2.2.2.2.2.2.1, .int .i64 s3.2.2.2.2.2.2.2.2.2.1, .slice A19 s3.2.2.2.2.2.2.2.2.2.2.1.length c54, .int .i64 s3.2.2.2.2.2.2.2.2.2.2.2.1, .slice A20 s3.2.2.2.2.2.2.2.2.2.2.2.2.1.length c55, .slice A21 s3.2.2.2.2.2.2.2.2.2.2.2.2.2.length c56]) HF32 rfl rfl ti44 rfl (ones rfl) (Nat.le_of_ble_eq_true rfl) rfl) ?_
 rintro w21 HF33
 refine sL (asg rfl) rfl ?_
 refine lE ?_
 refine kN (?_)
 refine hK28 _ _ ?_
 refine cRet ?_
 obtain rfl := Option.some.inj H
 refine retB rfl (rvC rfl (lvA (cs := [.int .i64 s3.2.2.1, .int .i64 s3.2.2.2.1, .int .i64 s3.2.2.2.2.1, .int .i64 s3.2.2.2.2.2.1, .int .i64 s3.2.2.2.2.2.2.1, .int .i64 s3.2.2.2.2.2.2.2.1, .int .i64 s3.2.2.2.2.2.2.2.2.1, .int .i64 s3.2.2.2.2.2.2.2.2.2.1, .slice A19 s3.2.2.2.2.2.2.2.2.2.2.1.length c54, .int .i64 s3.2.2.2.2.2.2.2.2.2.2.2.1, .slice A20 s3.2.2.2.2.2.2.2.2.2.2.2.2.1.length c55, .slice A21 s3.2.2.2.2.2.2.2.2.2.2.2.2.2.length c56]) ti44 rfl rfl (HF33.boxes (o := 0) (n := 12) (mem_h) rfl))) rfl ?_
 have HF34 := HF33.sublist (sl_dc (sl_dc (sl_dc sR)))
 exact ⟨[], _, _, _, _, _, _, rfl, HF34, hr19, hr20, hr21⟩
/-! ### plenum/plenumref17.back (function 56) -/
abbrev f_plenumref17_back.R := T_api_Link × Bool
noncomputable def f_plenumref17_back.b0 (a0 : T_api_Lsa) (a1 : Int) (a2 : Int) (s1 : Int) : Option (Sum (Int) (Sum (Int) f_plenumref17_back.R)) := (if s1 < (a0.f_Links.length : Int) then (if 0 ≤ s1 then (if ((rd a0.f_Links s1).f_Kind) = a1 then (if ((rd a0.f_Links s1).f_Id) = a2 then some (.inr (.inr ((rd a0.f_Links s1), true))) else some (.inl (IntKind.i64.wrap (s1 + 1)))) else some (.inl (IntKind.i64.wrap (s1 + 1)))) else none) else some (.inr (.inl s1)))
noncomputable def f_plenumref17_back (a0 : T_api_Lsa) (a1 : Int) (a2 : Int) : Option f_plenumref17_back.R := ((loopO (f_plenumref17_back.b0 a0 a1 a2) 0).bind fun y1 => match y1 with | .inl s1 => some ((⟨0, 0, 0, 0⟩ : T_api_Link), false) | .inr r_ => some r_)
set_option maxHeartbeats 1000000 in
theorem f_plenumref17_back.ok {z w : World} {F G : Hp} (hG : G ⊆ F) {a0 : T_api_Lsa} {A_a0_8 : Option Addr} {c_a0_8 : Nat} {X_a0_8 : Hp} {A_a0_10 : Option Addr} {c_a0_10 : Nat} {X_a0_10 : Hp} {A_a0_11 : Option Addr} {c_a0_11 : Nat} {X_a0_11 : Hp} {a1 : Int} {a2 : Int} {r : f_plenumref17_back.R} (H : f_plenumref17_back a0 a1 a2 = some r) (HF : Fits z w F) (hX_a0_8 : X_a0_8 ⊆ F) (hr_a0_8 : RdS k_T_api_Link X_a0_8 A_a0_8 c_a0_8 a0.f_Links) (hX_a0_10 : X_a0_10 ⊆ F) (hr_a0_10 : RdS (kInt .i64) X_a0_10 A_a0_10 c_a0_10 a0.f_Routers) (hX_a0_11 : X_a0_11 ⊆ F) (hr_a0_11 : RdS k_T_api_Vert X_a0_11 A_a0_11 c_a0_11 a0.f_Verts) :
  Calls Try.prog 56 [.agg [.int .i64 a0.f_Head.f_Age, .int .i64 a0.f_Head.f_Kind, .int .i64 a0.f_Head.f_Id, .int .i64 a0.f_Head.f_Adv, .int .i64 a0.f_Head.f_Seq, .int .i64 a0.f_Head.f_Sum, .int .i64 a0.f_Head.f_Len, .int .i64 a0.f_Flags, .slice A_a0_8 a0.f_Links.length c_a0_8, .int .i64 a0.f_Bits, .slice A_a0_10 a0.f_Routers.length c_a0_10, .slice A_a0_11 a0.f_Verts.length c_a0_11].toArray, .int .i64 a1, .int .i64 a2].toArray w fun e w' => e = .returned (.tuple #[.agg [.int .i64 r.1.f_Kind, .int .i64 r.1.f_Id, .int .i64 r.1.f_Data, .int .i64 r.1.f_Cost].toArray, .bool r.2]) ∧ Fits z w' F := by
 unfold f_plenumref17_back at H
 refine enter0 Try.func56 rfl Try.ntmps56 rfl (E := [(0, .agg [.int .i64 a0.f_Head.f_Age, .int .i64 a0.f_Head.f_Kind, .int .i64 a0.f_Head.f_Id, .int .i64 a0.f_Head.f_Adv, .int .i64 a0.f_Head.f_Seq, .int .i64 a0.f_Head.f_Sum, .int .i64 a0.f_Head.f_Len, .int .i64 a0.f_Flags, .slice A_a0_8 a0.f_Links.length c_a0_8, .int .i64 a0.f_Bits, .slice A_a0_10 a0.f_Routers.length c_a0_10, .slice A_a0_11 a0.f_Verts.length c_a0_11].toArray), (1, .int .i64 a1), (2, .int .i64 a2)]) rfl ?_
 refine cSeq (fun K1 hK1 => ?_)
 refine cRgn [] trivial ?_
 refine eW (oBox HF rfl) rfl ?_
 rintro _ w1 ⟨g1, rfl, HF1⟩
 refine eW (oAlloc HF1 ti56) rfl ?_
 rintro _ w2 ⟨g2, rfl, HF2⟩
 refine sL (asg rfl) rfl ?_
 refine lE ?_
 refine kN (?_)
 refine hK1 _ _ ?_
 refine cSeq (fun K2 hK2 => ?_)
 refine cSeq (fun K3 hK3 => ?_)
 refine cRgn [] trivial ?_
 refine sL (asg rfl) rfl ?_
 refine lE ?_
 refine kN (?_)
 refine hK3 _ _ ?_
 replace H := bnd H; obtain ⟨y1, J1, Ho1⟩ := H
 refine cLoopB (f_plenumref17_back.b0 a0 a1 a2) (fun (s1 : Int) a w => Env 40 [(1, .int .i64 a1), (2, .int .i64 a2), (3, .pointer (some ⟨g1, 0, none⟩)), (6, .pointer (some ⟨g2, 0, none⟩)), (7, .bool false), (8, .int .i64 s1)] a ∧ Fits z w (bk g2 56 [.int .i64 0, .int .i64 0, .int .i64 0, .int .i64 0] :: (bk g1 44 [.int .i64 a0.f_Head.f_Age, .int .i64 a0.f_Head.f_Kind, .int .i64 a0.f_Head.f_Id, .int .i64 a0.f_Head.f_Adv, .int .i64 a0.f_Head.f_Seq, .int .i64 a0.f_Head.f_Sum, .int .i64 a0.f_Head.f_Len, .int .i64 a0.f_Flags, .slice A_a0_8 a0.f_Links.length c_a0_8, .int .i64 a0.f_Bits, .slice A_a0_10 a0.f_Routers.length c_a0_10, .slice A_a0_11 a0.f_Verts.length c_a0_11] :: F))) J1 (fun a hE => ⟨hE.keep (Keep.cons rfl (Keep.cons rfl (Keep.cons rfl (Keep.cons rfl (Keep.cons rfl (Keep.cons rfl (Keep.nil))))))), HF2⟩) ?_ ?_
 ·rintro s1 a w5 y2 ⟨hE, HF5⟩ H Hx1
  refine go_ hE ?_
  refine cSeq (fun K14 hK14 => ?_)
  refine cSeq (fun K15 hK15 => ?_)
  refine cRgn [] trivial ?_
  refine sL (mv rfl) rfl ?_
  refine sL (fa44_2 rfl) rfl ?_
  refine sL (ld rfl Try.underlying42 rfl (HF5.box (mem_c mem_h) rfl)) rfl ?_
  refine sL (lnS rfl Try.underlying42) rfl ?_
  refine sL (bLss rfl rfl) rfl ?_
  refine lE ?_
  refine kN (?_)
  refine hK15 _ _ ?_
  by_cases c8 : s1 < (a0.f_Links.length : Int)
  ·replace H := itT c8 H
   refine cSet (i := 13) rfl (dT c8) ?_
   refine cT rfl ?_
   refine cSkip ?_
   refine kN (?_)
   refine hK14 _ _ ?_
   refine cSeq (fun K16 hK16 => ?_)
   refine cBlock ?_
   refine cSeq (fun K17 hK17 => ?_)
   refine cRgn [(8, 24)] ⟨rfl, trivial⟩ ?_
   refine sL (fa44_2 rfl) rfl ?_
   refine sL (ld rfl Try.underlying42 rfl (HF5.box (mem_c mem_h) rfl)) rfl ?_
   refine sL (mv rfl) rfl ?_
   replace H := chk H; obtain ⟨c9, H⟩ := H
   obtain ⟨g5, o3, _, rfl, rfl, q7⟩ := RdS.at_ hr_a0_8 c9 c8
   refine sL (ia rfl rfl Try.underlying42 ti56 c9 c8) rfl ?_
   refine sL (fa56_0 rfl) rfl ?_
   refine sL (ld rfl Try.underlying3 rfl (HF5.cells ((sub_c (sub_c hX_a0_8))) (q7 0 _ rfl))) rfl ?_
   refine sL (mv rfl) rfl ?_
   refine sL (bEql rfl rfl) rfl ?_
   refine sL (mv rfl) rfl ?_
   by_cases c10 : ((rd a0.f_Links s1).f_Kind) = a1
   ·replace H := itT c10 H
    refine lSet (i := 24) rfl (dT c10) ?_
    refine sG rfl rfl (fa44_2 rfl) rfl ?_
    refine sG rfl rfl (ld rfl Try.underlying42 rfl (HF5.box (mem_c mem_h) rfl)) rfl ?_
    refine sG rfl rfl (mv rfl) rfl ?_
    obtain ⟨_, rfl, q8⟩ := RdS.at' hr_a0_8 c9 c8
    refine sG rfl rfl (ia rfl rfl Try.underlying42 ti56 c9 c8) rfl ?_
    refine sG rfl rfl (fa56_1 rfl) rfl ?_
    refine sG rfl rfl (ld rfl Try.underlying3 rfl (HF5.cells ((sub_c (sub_c hX_a0_8))) (q8 1 _ rfl))) rfl ?_
    refine sG rfl rfl (mv rfl) rfl ?_
    refine sG rfl rfl (bEql rfl rfl) rfl ?_
    refine sL (pkT rfl rfl) rfl ?_
    refine lE ?_
    refine kN (?_)
    refine hK17 _ _ ?_
    by_cases c11 : ((rd a0.f_Links s1).f_Id) = a2
    ·replace H := itT c11 H
     refine cSet (i := 33) rfl (dT c11) ?_
     refine cT rfl ?_
     refine cSeq (fun K18 hK18 => ?_)
     refine cRgn [] trivial ?_
     refine sL (fa44_2 rfl) rfl ?_
     refine sL (ld rfl Try.underlying42 rfl (HF5.box (mem_c mem_h) rfl)) rfl ?_
     refine sL (mv rfl) rfl ?_
     obtain ⟨_, rfl, q9⟩ := RdS.at' hr_a0_8 c9 c8
     refine sL (ia rfl rfl Try.underlying42 ti56 c9 c8) rfl ?_
     refine sL (ldA rfl ti56 rfl rfl (fun j v hj => HF5.cells ((sub_c (sub_c hX_a0_8))) (q9 j v hj))) rfl ?_
     refine eS (oSt (l1 := [.int .i64 ((rd a0.f_Links s1).f_Kind), .int .i64 ((rd a0.f_Links s1).f_Id), .int .i64 ((rd a0.f_Links s1).f_Data), .int .i64 ((rd a0.f_Links s1).f_Cost)]) HF5 rfl rfl ti56 rfl (ones rfl) (Nat.le_of_ble_eq_true rfl) rfl) ?_
     rintro w6 HF6
     refine sL (asg rfl) rfl ?_
     refine lE ?_
     refine kN (?_)
     refine hK18 _ _ ?_
     refine cRet ?_
     have e_ := Hx1 _ (Option.some.inj H).symm
     subst e_
     replace H := Ho1
     obtain rfl := Option.some.inj H
     refine jR (kR (kR (jR (kR (kR (?_))))))
     refine retB rfl (rvC rfl (lvA (cs := [.int .i64 ((rd a0.f_Links s1).f_Kind), .int .i64 ((rd a0.f_Links s1).f_Id), .int .i64 ((rd a0.f_Links s1).f_Data), .int .i64 ((rd a0.f_Links s1).f_Cost)]) ti56 rfl rfl (HF6.boxes (o := 0) (n := 4) (mem_h) rfl))) rfl ?_
     have HF7 := HF6.sublist (sl_dc (sl_dc sR))
     exact ⟨rfl, HF7⟩
    replace H := itF c11 H
    refine cSet (i := 33) rfl (dF c11) ?_
    refine cF rfl ?_
    refine cSkip ?_
    refine jN (kN (?_))
    refine hK16 _ _ ?_
    refine cRgn [] trivial ?_
    refine sL (mv rfl) rfl ?_
    refine sL (bAdd rfl rfl) rfl ?_
    refine sL (asg rfl) rfl ?_
    refine lE ?_
    refine kN (?_)
    exact ofEnv (fun a hE => ⟨_, (Option.some.inj H).symm, ⟨hE.keep (Keep.cons rfl (Keep.cons rfl (Keep.cons rfl (Keep.cons rfl (Keep.cons rfl (Keep.cons rfl (Keep.nil))))))), HF5⟩⟩)
   replace H := itF c10 H
   refine lSet (i := 24) rfl (dF c10) ?_
   refine sN rfl rfl rfl rfl ?_
   refine sN rfl rfl rfl rfl ?_
   refine sN rfl rfl rfl rfl ?_
   refine sN rfl rfl rfl rfl ?_
   refine sN rfl rfl rfl rfl ?_
   refine sN rfl rfl rfl rfl ?_
   refine sN rfl rfl rfl rfl ?_
   refine sN rfl rfl rfl rfl ?_
   refine sL (pkF rfl rfl) rfl ?_
   refine lE ?_
   refine kN (?_)
   refine hK17 _ _ ?_
   refine cF rfl ?_
   refine cSkip ?_
   refine jN (kN (?_))
   refine hK16 _ _ ?_
   refine cRgn [] trivial ?_
   refine sL (mv rfl) rfl ?_
   refine sL (bAdd rfl rfl) rfl ?_
   refine sL (asg rfl) rfl ?_
   refine lE ?_
   refine kN (?_)
   exact ofEnv (fun a hE => ⟨_, (Option.some.inj H).symm, ⟨hE.keep (Keep.cons rfl (Keep.cons rfl (Keep.cons rfl (Keep.cons rfl (Keep.cons rfl (Keep.cons rfl (Keep.nil))))))), HF5⟩⟩)
  replace H := itF c8 H
  refine cSet (i := 13) rfl (dF c8) ?_
  refine cF rfl ?_
  refine cExit ?_
  refine kX (kX (jX (kN (?_))))
  exact ofEnv (fun a hE => ⟨_, (Option.some.inj H).symm, ⟨hE.keep (Keep.cons rfl (Keep.cons rfl (Keep.cons rfl (Keep.cons rfl (Keep.cons rfl (Keep.cons rfl (Keep.nil))))))), HF5⟩⟩)
 rintro s1 a w7 rfl ⟨hE, HF8⟩
 replace H := Ho1
 refine go_k hE ?_
 refine kN (?_)
 refine hK2 _ _ ?_
 refine cSeq (fun K19 hK19 => ?_)
 refine cRgn [] trivial ?_
 refine sL (bd (r := [.int .i64 0, .int .i64 0, .int .i64 0, .int .i64 0]) pl56 ti56 rfl rfl) rfl ?_
 refine eS (oSt (l1 := [.int .i64 0, .int .i64 0, .int .i64 0, .int .i64 0]) HF8 rfl rfl ti56 rfl (ones rfl) (Nat.le_of_ble_eq_true rfl) rfl) ?_
 rintro w8 HF9
 refine sL (asg rfl) rfl ?_
 refine lE ?_
 refine kN (?_)
 refine hK19 _ _ ?_
 refine cRet ?_
 obtain rfl := Option.some.inj H
 refine retB rfl (rvC rfl (lvA (cs := [.int .i64 0, .int .i64 0, .int .i64 0, .int .i64 0]) ti56 rfl rfl (HF9.boxes (o := 0) (n := 4) (mem_h) rfl))) rfl ?_
 have HF10 := HF9.sublist (sl_dc (sl_dc sR))
 exact ⟨rfl, HF10⟩
/-! ### plenum/plenumref8.Has (function 12) -/
abbrev f_plenumref8_Has.R := Bool
noncomputable def f_plenumref8_Has.b0 (a0 : List Int) (a1 : Int) (s1 : Int) : Option (Sum (Int) (Sum (Int) f_plenumref8_Has.R)) := (if s1 < (a0.length : Int) then (if 0 ≤ s1 then (if (rd a0 s1) = a1 then some (.inr (.inr true)) else some (.inl (IntKind.i64.wrap (s1 + 1)))) else none) else some (.inr (.inl s1)))
noncomputable def f_plenumref8_Has (a0 : List Int) (a1 : Int) : Option f_plenumref8_Has.R := ((loopO (f_plenumref8_Has.b0 a0 a1) 0).bind fun y1 => match y1 with | .inl s1 => some false | .inr r_ => some r_)
set_option maxHeartbeats 1000000 in
theorem f_plenumref8_Has.ok {z w : World} {F G : Hp} (hG : G ⊆ F) {a0 : List Int} {A_a0 : Option Addr} {c_a0 : Nat} {X_a0 : Hp} {a1 : Int} {r : f_plenumref8_Has.R} (H : f_plenumref8_Has a0 a1 = some r) (HF : Fits z w F) (hX_a0 : X_a0 ⊆ F) (hr_a0 : RdS (kInt .i64) X_a0 A_a0 c_a0 a0) :
  Calls Try.prog 12 [.slice A_a0 a0.length c_a0, .int .i64 a1].toArray w fun e w' => e = .returned (.bool r) ∧ Fits z w' F := by
 unfold f_plenumref8_Has at H
 refine enter0 Try.func12 rfl Try.ntmps12 rfl (E := [(0, .slice A_a0 a0.length c_a0), (1, .int .i64 a1)]) rfl ?_
 refine cSeq (fun K1 hK1 => ?_)
 refine cRgn [] trivial ?_
 refine sL (asg rfl) rfl ?_
 refine lE ?_
 refine kN (?_)
 refine hK1 _ _ ?_
 refine cSeq (fun K2 hK2 => ?_)
 refine cSeq (fun K3 hK3 => ?_)
 refine cRgn [] trivial ?_
 refine sL (asg rfl) rfl ?_
 refine lE ?_
 refine kN (?_)
 refine hK3 _ _ ?_
 replace H := bnd H; obtain ⟨y1, J1, Ho1⟩ := H
 refine cLoopB (f_plenumref8_Has.b0 a0 a1) (fun (s1 : Int) a w => Env 18 [(0, .slice A_a0 a0.length c_a0), (1, .int .i64 a1), (4, .bool false), (5, .int .i64 s1)] a ∧ Fits z w F) J1 (fun a hE => ⟨hE.keep (Keep.cons rfl (Keep.cons rfl (Keep.cons rfl (Keep.cons rfl (Keep.nil))))), HF⟩) ?_ ?_
 ·rintro s1 a w1 y2 ⟨hE, HF1⟩ H Hx1
  refine go_ hE ?_
  refine cSeq (fun K14 hK14 => ?_)
  refine cSeq (fun K15 hK15 => ?_)
  refine cRgn [] trivial ?_
  refine sL (mv rfl) rfl ?_
  refine sL (mv rfl) rfl ?_
  refine sL (lnS rfl Try.underlying30) rfl ?_
  refine sL (bLss rfl rfl) rfl ?_
  refine lE ?_
  refine kN (?_)
  refine hK15 _ _ ?_
  by_cases c6 : s1 < (a0.length : Int)
  ·replace H := itT c6 H
   refine cSet (i := 9) rfl (dT c6) ?_
   refine cT rfl ?_
   refine cSkip ?_
   refine kN (?_)
   refine hK14 _ _ ?_
   refine cSeq (fun K16 hK16 => ?_)
   refine cBlock ?_
   refine cSeq (fun K17 hK17 => ?_)
   refine cRgn [] trivial ?_
   refine sL (mv rfl) rfl ?_
   refine sL (mv rfl) rfl ?_
   replace H := chk H; obtain ⟨c7, H⟩ := H
   obtain ⟨g3, o3, _, rfl, rfl, q3⟩ := RdS.at_ hr_a0 c7 c6
   refine sL (ia rfl rfl Try.underlying30 ti3 c7 c6) rfl ?_
   refine sL (ld rfl Try.underlying3 rfl (HF1.cells (hX_a0) (q3 0 _ rfl))) rfl ?_
   refine sL (mv rfl) rfl ?_
   refine sL (bEql rfl rfl) rfl ?_
   refine lE ?_
   refine kN (?_)
   refine hK17 _ _ ?_
   by_cases c8 : (rd a0 s1) = a1
   ·replace H := itT c8 H
    refine cSet (i := 17) rfl (dT c8) ?_
    refine cT rfl ?_
    refine cSeq (fun K18 hK18 => ?_)
    refine cRgn [] trivial ?_
    refine sL (asg rfl) rfl ?_
    refine lE ?_
    refine kN (?_)
    refine hK18 _ _ ?_
    refine cRet ?_
    have e_ := Hx1 _ (Option.some.inj H).symm
    subst e_
    replace H := Ho1
    obtain rfl := Option.some.inj H
    refine jR (kR (kR (jR (kR (kR (?_))))))
    refine ret1 rfl rfl ?_
    exact ⟨rfl, HF1⟩
   replace H := itF c8 H
   refine cSet (i := 17) rfl (dF c8) ?_
   refine cF rfl ?_
   refine cSkip ?_
   refine jN (kN (?_))
   refine hK16 _ _ ?_
   refine cRgn [] trivial ?_
   refine sL (mv rfl) rfl ?_
   refine sL (bAdd rfl rfl) rfl ?_
   refine sL (asg rfl) rfl ?_
   refine lE ?_
   refine kN (?_)
   exact ofEnv (fun a hE => ⟨_, (Option.some.inj H).symm, ⟨hE.keep (Keep.cons rfl (Keep.cons rfl (Keep.cons rfl (Keep.cons rfl (Keep.nil))))), HF1⟩⟩)
  replace H := itF c6 H
  refine cSet (i := 9) rfl (dF c6) ?_
  refine cF rfl ?_
  refine cExit ?_
  refine kX (kX (jX (kN (?_))))
  exact ofEnv (fun a hE => ⟨_, (Option.some.inj H).symm, ⟨hE.keep (Keep.cons rfl (Keep.cons rfl (Keep.cons rfl (Keep.cons rfl (Keep.nil))))), HF1⟩⟩)
 rintro s1 a w2 rfl ⟨hE, HF2⟩
 replace H := Ho1
 refine go_k hE ?_
 refine kN (?_)
 refine hK2 _ _ ?_
 refine cSeq (fun K19 hK19 => ?_)
 refine cRgn [] trivial ?_
 refine sL (asg rfl) rfl ?_
 refine lE ?_
 refine kN (?_)
 refine hK19 _ _ ?_
 refine cRet ?_
 obtain rfl := Option.some.inj H
 refine ret1 rfl rfl ?_
 exact ⟨rfl, HF2⟩
/-! ### plenum/plenumref17.from (function 33) -/
abbrev f_plenumref17_from.R := List T_api_Edge
noncomputable def f_plenumref17_from.b0 (a0 : List T_api_Lsa) (a1 : T_api_Vert) (t1 : T_api_Lsa) (s3 : (List T_api_Edge) × Int) : Option (Sum ((List T_api_Edge) × Int) (Sum ((List T_api_Edge) × Int) f_plenumref17_from.R)) := (if s3.2 < (t1.f_Links.length : Int) then (if 0 ≤ s3.2 then ((((if ((rd t1.f_Links s3.2).f_Kind) = 1 then ((f_plenumref17_find a0 (⟨1, (rd t1.f_Links s3.2).f_Id⟩ : T_api_Vert)).bind fun (t29, t30) => ((f_plenumref17_back t29 1 a1.f_Id).bind fun (t31, t32) => (if t30 = true then (if t32 = true then (if (s3.1.length + 1) * 48 ≤ 140737488355328 then some (.inl (s3.1 ++ [(⟨(⟨a1.f_Kind, a1.f_Id⟩ : T_api_Vert), (⟨1, (rd t1.f_Links s3.2).f_Id⟩ : T_api_Vert), (rd t1.f_Links s3.2).f_Cost, (rd t1.f_Links s3.2).f_Data⟩ : T_api_Edge)])) else none) else some (.inl s3.1)) else some (.inl s3.1)))) else some (.inl s3.1)) : Option (Sum ((List T_api_Edge)) f_plenumref17_from.R))).bind fun y5 => match y5 with | .inl s4 => (if ((rd t1.f_Links s3.2).f_Kind) = 2 then ((f_plenumref17_find a0 (⟨2, (rd t1.f_Links s3.2).f_Id⟩ : T_api_Vert)).bind fun (t33, t34) => (if t34 = true then ((f_plenumref8_Has t33.f_Routers a1.f_Id).bind fun t35 => (if t35 = true then (if (s4.length + 1) * 48 ≤ 140737488355328 then some (.inl ((s4 ++ [(⟨(⟨a1.f_Kind, a1.f_Id⟩ : T_api_Vert), (⟨2, (rd t1.f_Links s3.2).f_Id⟩ : T_api_Vert), (rd t1.f_Links s3.2).f_Cost, (rd t1.f_Links s3.2).f_Data⟩ : T_api_Edge)]), IntKind.i64.wrap (s3.2 + 1))) else none) else some (.inl (s4, IntKind.i64.wrap (s3.2 + 1))))) else some (.inl (s4, IntKind.i64.wrap (s3.2 + 1))))) else some (.inl (s4, IntKind.i64.wrap (s3.2 + 1)))) | .inr r_ => some (.inr (.inr r_))) else none) else some (.inr (.inl (s3.1, s3.2))))
noncomputable def f_plenumref17_from.b1 (a0 : List T_api_Lsa) (a1 : T_api_Vert) (t1 : T_api_Lsa) (s5 : (List T_api_Edge) × Int) : Option (Sum ((List T_api_Edge) × Int) (Sum ((List T_api_Edge) × Int) f_plenumref17_from.R)) := (if s5.2 < (t1.f_Routers.length : Int) then (if 0 ≤ s5.2 then (if s5.2 ≤ (t1.f_Routers.length : Int) then ((f_plenumref8_Has (cutL t1.f_Routers 0 s5.2) (rd t1.f_Routers s5.2)).bind fun t49 => (if t49 = true then some (.inl (s5.1, IntKind.i64.wrap (s5.2 + 1))) else ((f_plenumref17_find a0 (⟨1, (rd t1.f_Routers s5.2)⟩ : T_api_Vert)).bind fun (t50, t51) => ((f_plenumref17_back t50 2 a1.f_Id).bind fun (t52, t53) => (if t51 = true then (if t53 = true then (if (s5.1.length + 1) * 48 ≤ 140737488355328 then some (.inl ((s5.1 ++ [(⟨(⟨a1.f_Kind, a1.f_Id⟩ : T_api_Vert), (⟨1, (rd t1.f_Routers s5.2)⟩ : T_api_Vert), 0, t52.f_Data⟩ : T_api_Edge)]), IntKind.i64.wrap (s5.2 + 1))) else none) else some (.inl (s5.1, IntKind.i64.wrap (s5.2 + 1)))) else some (.inl (s5.1, IntKind.i64.wrap (s5.2 + 1)))))))) else none) else none) else some (.inr (.inl (s5.1, s5.2))))
noncomputable def f_plenumref17_from (a0 : List T_api_Lsa) (a1 : T_api_Vert) : Option f_plenumref17_from.R := ((f_plenumref17_find a0 a1).bind fun (t1, t2) => ((loopO (f_plenumref17_from.b0 a0 a1 t1) ([], 0)).bind fun y3 => match y3 with | .inl s3 => ((loopO (f_plenumref17_from.b1 a0 a1 t1) (s3.1, 0)).bind fun y6 => match y6 with | .inl s5 => some s5.1 | .inr r_ => some r_) | .inr r_ => some r_))
set_option maxHeartbeats 1000000 in
theorem f_plenumref17_from.ok {z w : World} {F G : Hp} (hG : G ⊆ F) {a0 : List T_api_Lsa} {A_a0 : Option Addr} {c_a0 : Nat} {X_a0 : Hp} {a1 : T_api_Vert} {r : f_plenumref17_from.R} (H : f_plenumref17_from a0 a1 = some r) (HF : Fits z w F) (hX_a0 : X_a0 ⊆ F) (hr_a0 : RdS (kShr G k_T_api_Lsa) X_a0 A_a0 c_a0 a0) :
  Calls Try.prog 33 [.slice A_a0 a0.length c_a0, .agg [.int .i64 a1.f_Kind, .int .i64 a1.f_Id].toArray].toArray w fun e w' => ∃ (A0 : Option Addr) (c0 : Nat) (L0 : Hp), e = .returned (.slice A0 r.length c0) ∧ Fits z w' (L0 ++ F) ∧ OwnS k_T_api_Edge L0 A0 c0 r := by
 unfold f_plenumref17_from at H
 refine enter0 Try.func33 rfl Try.ntmps33 rfl (E := [(0, .slice A_a0 a0.length c_a0), (1, .agg [.int .i64 a1.f_Kind, .int .i64 a1.f_Id].toArray)]) rfl ?_
 refine cSeq (fun K1 hK1 => ?_)
 refine cRgn [] trivial ?_
 refine eW (oBox HF rfl) rfl ?_
 rintro _ w1 ⟨g1, rfl, HF1⟩
 refine sL (asg rfl) rfl ?_
 refine lE ?_
 refine kN (?_)
 refine hK1 _ _ ?_
 refine cSeq (fun K2 hK2 => ?_)
 refine cRgn [] trivial ?_
 refine sL (asg rfl) rfl ?_
 refine lE ?_
 refine kN (?_)
 refine hK2 _ _ ?_
 refine cSeq (fun K3 hK3 => ?_)
 refine cRgn [] trivial ?_
 refine sL (mv rfl) rfl ?_
 refine sL (ldA (cs := [.int .i64 a1.f_Kind, .int .i64 a1.f_Id]) rfl ti35 rfl rfl (HF1.boxes (o := 0) (n := 2) (mem_h) rfl)) rfl ?_
 replace H := bnd H; obtain ⟨⟨t1, t2⟩, J1, H⟩ := H
 refine eCall isf32 rfl rfl rfl (f_plenumref17_find.ok (a0 := a0) (a1 := a1) (sub_c hG) J1 HF1 (sub_c hX_a0) hr_a0) ?_
 rintro _ w2 ⟨N1, A1, c1, A2, c2, A3, c3, rfl, HF2, hr1, hr2, hr3⟩
 have HF3 := HF2.perm (perm_c pR).symm
 have hs1 : G ⊆ N1 ++ G := sub_a sub_r
 refine ⟨_, rfl, ?_⟩
 refine sL (mv rfl) rfl ?_
 refine sL (ex rfl rfl) rfl ?_
 refine sL (ex rfl rfl) rfl ?_
 refine eW (oAlloc HF3 ti44) rfl ?_
 rintro _ w3 ⟨g2, rfl, HF4⟩
 refine eS (oSt (l1 := [.int .i64 t1.f_Head.f_Age, .int .i64 t1.f_Head.f_Kind, .int .i64 t1.f_Head.f_Id, .int .i64 t1.f_Head.f_Adv, .int .i64 t1.f_Head.f_Seq, .int .i64 t1.f_Head.f_Sum, .int .i64 t1.f_Head.f_Len, .int .i64 t1.f_Flags, .slice A1 t1.f_Links.length c1, .int .i64 t1.f_Bits, .slice A2 t1.f_Routers.length c2, .slice A3 t1.f_Verts.length c3]) HF4 rfl rfl ti44 rfl (ones rfl) (Nat.le_of_ble_eq_true rfl) rfl) ?_
 rintro w4 HF5
 refine sL (asg rfl) rfl ?_
 refine lE ?_
 refine kN (?_)
 refine hK3 _ _ ?_
 refine cSeq (fun K4 hK4 => ?_)
 refine cSeq (fun K5 hK5 => ?_)
 refine cRgn [] trivial ?_
 refine sL (asg rfl) rfl ?_
 refine lE ?_
 refine kN (?_)
 refine hK5 _ _ ?_
 replace H := bnd H; obtain ⟨y3, J33, Ho3⟩ := H
 refine cLoopB (f_plenumref17_from.b0 a0 a1 t1) (fun (s3 : (List T_api_Edge) × Int) a w => ∃ (D4 : Hp) (A37 : Option Addr) (c62 : Nat) (L16 : Hp), Env 154 [(0, .slice A_a0 a0.length c_a0), (3, .pointer (some ⟨g1, 0, none⟩)), (4, .slice none 0 0), (5, .slice A37 s3.1.length c62), (6, .pointer (some ⟨g2, 0, none⟩)), (8, .int .i64 s3.2)] a ∧ Fits z w (L16 ++ (bk g2 44 [.int .i64 t1.f_Head.f_Age, .int .i64 t1.f_Head.f_Kind, .int .i64 t1.f_Head.f_Id, .int .i64 t1.f_Head.f_Adv, .int .i64 t1.f_Head.f_Seq, .int .i64 t1.f_Head.f_Sum, .int .i64 t1.f_Head.f_Len, .int .i64 t1.f_Flags, .slice A1 t1.f_Links.length c1, .int .i64 t1.f_Bits, .slice A2 t1.f_Routers.length c2, .slice A3 t1.f_Verts.length c3] :: (bk g1 35 [.int .i64 a1.f_Kind, .int .i64 a1.f_Id] :: (D4 ++ (N1 ++ F))))) ∧ OwnS k_T_api_Edge L16 A37 c62 s3.1) J33 (fun a hE => ⟨[], none, 0, [], hE.keep (Keep.cons rfl (Keep.cons rfl (Keep.cons rfl (Keep.cons rfl (Keep.cons rfl (Keep.cons rfl (Keep.nil))))))), HF5, OwnS.nil⟩) ?_ ?_
 ·rintro s3 a w67 y4 ⟨D4, A37, c62, L16, hE, HF87, ho16⟩ H Hx1
  refine go_ hE ?_
  obtain ⟨N17, hN10⟩ : ∃ N_, N_ = D4 ++ N1 := ⟨_, rfl⟩
  have HF88 := HF87; rw [← List.append_assoc D4 N1 F, ← hN10] at HF88
  have hs11 : N1 ++ G ⊆ N17 ++ G := frz_s hN10
  refine cSeq (fun K42 hK42 => ?_)
  refine cSeq (fun K43 hK43 => ?_)
  refine cRgn [] trivial ?_
  refine sL (mv rfl) rfl ?_
  refine sL (fa44_2 rfl) rfl ?_
  refine sL (ld rfl Try.underlying42 rfl (HF88.box (mem_a mem_h) rfl)) rfl ?_
  refine sL (lnS rfl Try.underlying42) rfl ?_
  refine sL (bLss rfl rfl) rfl ?_
  refine lE ?_
  refine kN (?_)
  refine hK43 _ _ ?_
  by_cases c63 : s3.2 < (t1.f_Links.length : Int)
  ·replace H := itT c63 H
   refine cSet (i := 34) rfl (dT c63) ?_
   refine cT rfl ?_
   refine cSkip ?_
   refine kN (?_)
   refine hK42 _ _ ?_
   refine cSeq (fun K44 hK44 => ?_)
   refine cBlock ?_
   refine cSeq (fun K45 hK45 => ?_)
   refine cRgn [] trivial ?_
   refine sL (fa44_2 rfl) rfl ?_
   refine sL (ld rfl Try.underlying42 rfl (HF88.box (mem_a mem_h) rfl)) rfl ?_
   refine sL (mv rfl) rfl ?_
   replace H := chk H; obtain ⟨c64, H⟩ := H
   obtain ⟨g23, o3, _, rfl, rfl, q3⟩ := RdS.at_ hr1 c64 c63
   refine sL (ia rfl rfl Try.underlying42 ti56 c64 c63) rfl ?_
   refine sL (ldA rfl ti56 rfl rfl (fun j v hj => HF88.cells ((sub_a (sub_c (sub_c (sub_t hs11 (sub_n hG)))))) (q3 j v hj))) rfl ?_
   refine eW (oAlloc HF88 ti56) rfl ?_
   rintro _ w68 ⟨g24, rfl, HF89⟩
   refine eS (oSt (l1 := [.int .i64 ((rd t1.f_Links s3.2).f_Kind), .int .i64 ((rd t1.f_Links s3.2).f_Id), .int .i64 ((rd t1.f_Links s3.2).f_Data), .int .i64 ((rd t1.f_Links s3.2).f_Cost)]) HF89 rfl rfl ti56 rfl (ones rfl) (Nat.le_of_ble_eq_true rfl) rfl) ?_
   rintro w69 HF90
   refine lE ?_
   refine kN (?_)
   refine hK45 _ _ ?_
   refine cSeq (fun K46 hK46 => ?_)
   refine cSeq (fun K47 hK47 => ?_)
   refine cRgn [] trivial ?_
   refine sL (fa56_0 rfl) rfl ?_
   refine sL (ld rfl Try.underlying3 rfl (HF90.box (mem_h) rfl)) rfl ?_
   refine sL (bEql rfl rfl) rfl ?_
   refine lE ?_
   refine kN (?_)
   refine hK47 _ _ ?_
   replace H := bnd H; obtain ⟨y5, H, Ho4⟩ := H
   refine cJoin (y := y5) (fun (s4 : (List T_api_Edge)) a w => ∃ (D5 : Hp) (A43 : Option Addr) (c74 : Nat) (L19 : Hp), Env 154 [(0, .slice A_a0 a0.length c_a0), (3, .pointer (some ⟨g1, 0, none⟩)), (4, .slice none 0 0), (5, .slice A43 s4.length c74), (6, .pointer (some ⟨g2, 0, none⟩)), (8, .int .i64 s3.2), (9, .pointer (some ⟨g24, 0, none⟩))] a ∧ Fits z w (L19 ++ (bk g24 56 [.int .i64 ((rd t1.f_Links s3.2).f_Kind), .int .i64 ((rd t1.f_Links s3.2).f_Id), .int .i64 ((rd t1.f_Links s3.2).f_Data), .int .i64 ((rd t1.f_Links s3.2).f_Cost)] :: (bk g2 44 [.int .i64 t1.f_Head.f_Age, .int .i64 t1.f_Head.f_Kind, .int .i64 t1.f_Head.f_Id, .int .i64 t1.f_Head.f_Adv, .int .i64 t1.f_Head.f_Seq, .int .i64 t1.f_Head.f_Sum, .int .i64 t1.f_Head.f_Len, .int .i64 t1.f_Flags, .slice (some ⟨g23, o3, none⟩) t1.f_Links.length c1, .int .i64 t1.f_Bits, .slice A2 t1.f_Routers.length c2, .slice A3 t1.f_Verts.length c3] :: (bk g1 35 [.int .i64 a1.f_Kind, .int .i64 a1.f_Id] :: (D5 ++ (N17 ++ F)))))) ∧ OwnS k_T_api_Edge L19 A43 c74 s4) ?_ ?_
   ·by_cases c75 : ((rd t1.f_Links s3.2).f_Kind) = 1
    ·replace H := itT c75 H
     refine cSet (i := 44) rfl (dT c75) ?_
     refine cT rfl ?_
     refine cSeq (fun K52 hK52 => ?_)
     refine cRgn [] trivial ?_
     refine sL (fa56_1 rfl) rfl ?_
     refine sL (ld rfl Try.underlying3 rfl (HF90.box (mem_h) rfl)) rfl ?_
     refine sL (bd (r := [.int .i64 1, .int .i64 ((rd t1.f_Links s3.2).f_Id)]) pl35 ti35 rfl rfl) rfl ?_
     refine eW (oAlloc HF90 ti35) rfl ?_
     rintro _ w80 ⟨g28, rfl, HF104⟩
     refine eS (oSt (l1 := [.int .i64 1, .int .i64 ((rd t1.f_Links s3.2).f_Id)]) HF104 rfl rfl ti35 rfl (ones rfl) (Nat.le_of_ble_eq_true rfl) rfl) ?_
     rintro w81 HF105
     refine lE ?_
     refine kN (?_)
     refine hK52 _ _ ?_
     refine cSeq (fun K53 hK53 => ?_)
     refine cRgn [] trivial ?_
     refine sL (mv rfl) rfl ?_
     refine sL (ldA (cs := [.int .i64 1, .int .i64 ((rd t1.f_Links s3.2).f_Id)]) rfl ti35 rfl rfl (HF105.boxes (o := 0) (n := 2) (mem_h) rfl)) rfl ?_
     replace H := bnd H; obtain ⟨⟨t29, t30⟩, J16, H⟩ := H
     refine eCall isf32 rfl rfl rfl (f_plenumref17_find.ok (a0 := a0) (a1 := (⟨1, (rd t1.f_Links s3.2).f_Id⟩ : T_api_Vert)) (sub_c (sub_c (sub_a (sub_c (sub_c (sub_n hG)))))) J16 HF105 (sub_c (sub_c (sub_a (sub_c (sub_c (sub_a hX_a0)))))) (RdS.lift hr_a0 (sub_t hs1 hs11) sub_r)) ?_
     rintro _ w82 ⟨N20, A44, c76, A45, c77, A46, c78, rfl, HF106, hr50, hr51, hr52⟩
     have HF107 := HF106.perm (perm_c (perm_c (perm_f (perm_c (perm_c pR))))).symm
     obtain ⟨N21, hN12⟩ : ∃ N_, N_ = N20 ++ N17 := ⟨_, rfl⟩
     have HF108 := HF107; rw [← List.append_assoc N20 N17 F, ← hN12] at HF108
     have hs13 : N17 ++ G ⊆ N21 ++ G := frz_s hN12
     have hr53 := RdS.mono (Y := (N21 ++ G)) hr50 (frz_c hN12)
     have hr54 := RdS.mono (Y := (N21 ++ G)) hr51 (frz_c hN12)
     have hr55 := RdS.mono (Y := (N21 ++ G)) hr52 (frz_c hN12)
     refine ⟨_, rfl, ?_⟩
     refine sL (mv rfl) rfl ?_
     refine sL (ex rfl rfl) rfl ?_
     refine sL (ex rfl rfl) rfl ?_
     refine eW (oAlloc HF108 ti44) rfl ?_
     rintro _ w83 ⟨g29, rfl, HF109⟩
     refine eS (oSt (l1 := [.int .i64 t29.f_Head.f_Age, .int .i64 t29.f_Head.f_Kind, .int .i64 t29.f_Head.f_Id, .int .i64 t29.f_Head.f_Adv, .int .i64 t29.f_Head.f_Seq, .int .i64 t29.f_Head.f_Sum, .int .i64 t29.f_Head.f_Len, .int .i64 t29.f_Flags, .slice A44 t29.f_Links.length c76, .int .i64 t29.f_Bits, .slice A45 t29.f_Routers.length c77, .slice A46 t29.f_Verts.length c78]) HF109 rfl rfl ti44 rfl (ones rfl) (Nat.le_of_ble_eq_true rfl) rfl) ?_
     rintro w84 HF110
     refine sL (asg rfl) rfl ?_
     refine lE ?_
     refine kN (?_)
     refine hK53 _ _ ?_
     refine cSeq (fun K54 hK54 => ?_)
     refine cRgn [] trivial ?_
     refine sL (ldA (cs := [.int .i64 t29.f_Head.f_Age, .int .i64 t29.f_Head.f_Kind, .int .i64 t29.f_Head.f_Id, .int .i64 t29.f_Head.f_Adv, .int .i64 t29.f_Head.f_Seq, .int .i64 t29.f_Head.f_Sum, .int .i64 t29.f_Head.f_Len, .int .i64 t29.f_Flags, .slice A44 t29.f_Links.length c76, .int .i64 t29.f_Bits, .slice A45 t29.f_Routers.length c77, .slice A46 t29.f_Verts.length c78]) rfl ti44 rfl rfl (HF110.boxes (o := 0) (n := 12) (mem_h) rfl)) rfl ?_
     refine sL (fa35_1 rfl) rfl ?_
     refine sL (ld rfl Try.underlying3 rfl (HF110.box (mem_c (mem_c (mem_c (mem_a (mem_c mem_h))))) rfl)) rfl ?_
     replace H := bnd H; obtain ⟨⟨t31, t32⟩, J17, H⟩ := H
     refine eCall isf56 rfl rfl rfl (f_plenumref17_back.ok (a0 := t29) (sub_c (sub_c (sub_c (sub_a (sub_c (sub_c (sub_n hG))))))) J17 HF110 (sub_c (sub_c (sub_c (sub_a (sub_c (sub_c (sub_n hG))))))) hr53 (sub_c (sub_c (sub_c (sub_a (sub_c (sub_c (sub_n hG))))))) hr54 (sub_c (sub_c (sub_c (sub_a (sub_c (sub_c (sub_n hG))))))) hr55) ?_
     rintro _ w85 ⟨rfl, HF111⟩
     refine ⟨_, rfl, ?_⟩
     refine sL (mv rfl) rfl ?_
     refine sL (ex rfl rfl) rfl ?_
     refine sL (ex rfl rfl) rfl ?_
     refine eW (oAlloc HF111 ti56) rfl ?_
     rintro _ w86 ⟨g30, rfl, HF112⟩
     refine eS (oSt (l1 := [.int .i64 t31.f_Kind, .int .i64 t31.f_Id, .int .i64 t31.f_Data, .int .i64 t31.f_Cost]) HF112 rfl rfl ti56 rfl (ones rfl) (Nat.le_of_ble_eq_true rfl) rfl) ?_
     rintro w87 HF113
     refine sL (asg rfl) rfl ?_
     refine lE ?_
     refine kN (?_)
     refine hK54 _ _ ?_
     refine cSeq (fun K55 hK55 => ?_)
     refine cRgn [(1, 62)] ⟨rfl, trivial⟩ ?_
     refine sL (mv rfl) rfl ?_
     refine sL (mv rfl) rfl ?_
     by_cases c79 : t30 = true
     ·replace H := itT c79 H
      refine lSet (i := 62) rfl (vT c79) ?_
      refine sG rfl rfl (mv rfl) rfl ?_
      refine sL (pkT rfl rfl) rfl ?_
      refine lE ?_
      refine kN (?_)
      refine hK55 _ _ ?_
      by_cases c80 : t32 = true
      ·replace H := itT c80 H
       refine cSet (i := 64) rfl (vT c80) ?_
       refine cT rfl ?_
       refine cRgn [] trivial ?_
       refine sL (mv rfl) rfl ?_
       refine sL (ldA (cs := [.int .i64 a1.f_Kind, .int .i64 a1.f_Id]) rfl ti35 rfl rfl (HF113.boxes (o := 0) (n := 2) (mem_c (mem_c (mem_c (mem_c (mem_a (mem_c mem_h)))))) rfl)) rfl ?_
       refine sL (ldA (cs := [.int .i64 1, .int .i64 ((rd t1.f_Links s3.2).f_Id)]) rfl ti35 rfl rfl (HF113.boxes (o := 0) (n := 2) (mem_c (mem_c mem_h)) rfl)) rfl ?_
       refine sL (fa56_3 rfl) rfl ?_
       refine sL (ld rfl Try.underlying3 rfl (HF113.box (mem_c (mem_c (mem_c mem_h))) rfl)) rfl ?_
       refine sL (fa56_2 rfl) rfl ?_
       refine sL (ld rfl Try.underlying3 rfl (HF113.box (mem_c (mem_c (mem_c mem_h))) rfl)) rfl ?_
       refine sL (bd (r := [.int .i64 a1.f_Kind, .int .i64 a1.f_Id, .int .i64 1, .int .i64 ((rd t1.f_Links s3.2).f_Id), .int .i64 ((rd t1.f_Links s3.2).f_Cost), .int .i64 ((rd t1.f_Links s3.2).f_Data)]) pl37 ti37 rfl rfl) rfl ?_
       refine eW (oLit (r := [.int .i64 a1.f_Kind, .int .i64 a1.f_Id, .int .i64 1, .int .i64 ((rd t1.f_Links s3.2).f_Id), .int .i64 ((rd t1.f_Links s3.2).f_Cost), .int .i64 ((rd t1.f_Links s3.2).f_Data)]) k_T_api_Edge [(⟨(⟨a1.f_Kind, a1.f_Id⟩ : T_api_Vert), (⟨1, (rd t1.f_Links s3.2).f_Id⟩ : T_api_Vert), (rd t1.f_Links s3.2).f_Cost, (rd t1.f_Links s3.2).f_Data⟩ : T_api_Edge)] HF113 Try.underlying27 ti37 rfl rfl rfl rfl ⟨[], [], [.int .i64 a1.f_Kind, .int .i64 a1.f_Id, .int .i64 1, .int .i64 ((rd t1.f_Links s3.2).f_Id), .int .i64 ((rd t1.f_Links s3.2).f_Cost), .int .i64 ((rd t1.f_Links s3.2).f_Data)], _, rfl, rfl, ⟨rfl, rfl⟩, ⟨rfl, rfl⟩⟩ rfl rfl) rfl ?_
       rintro _ w88 ⟨L20, A47, c81, rfl, HF114, ho20⟩
       replace H := chk H; obtain ⟨c82, H⟩ := H
       have HF115 := HF114.perm (perm_f (perm_c (perm_c (perm_c (perm_c pR)))))
       refine eW (oApp (xs := s3.1) (ys := ([(⟨(⟨a1.f_Kind, a1.f_Id⟩ : T_api_Vert), (⟨1, (rd t1.f_Links s3.2).f_Id⟩ : T_api_Vert), (rd t1.f_Links s3.2).f_Cost, (rd t1.f_Links s3.2).f_Data⟩ : T_api_Edge)])) k_T_api_Edge HF115 rfl rfl Try.underlying27 Try.underlying27 ti37 rfl ho16 (srcR shrF ho20.rd HF115 (sub_a sub_h)) c82 rfl) rfl ?_
       rintro _ w89 ⟨L21, A48, c83, rfl, HF116, ho21⟩
       refine sL (asg rfl) rfl ?_
       refine lE ?_
       refine kN (?_)
       have hs14 : (N21 ++ G) ⊆ ((N20) ++ (N17 ++ G)) := by rw [hN12]; simp only [List.append_assoc]; exact sub_r
       have HF117 := HF116.sublist (sl_a (sl_da (sl_dc (sl_dc (sl_dc (sl_c (sl_c (sl_c sR))))))))
       have HF118 := Fits.conv (L' := (L21 ++ (bk g24 56 [.int .i64 ((rd t1.f_Links s3.2).f_Kind), .int .i64 ((rd t1.f_Links s3.2).f_Id), .int .i64 ((rd t1.f_Links s3.2).f_Data), .int .i64 ((rd t1.f_Links s3.2).f_Cost)] :: (bk g2 44 [.int .i64 t1.f_Head.f_Age, .int .i64 t1.f_Head.f_Kind, .int .i64 t1.f_Head.f_Id, .int .i64 t1.f_Head.f_Adv, .int .i64 t1.f_Head.f_Seq, .int .i64 t1.f_Head.f_Sum, .int .i64 t1.f_Head.f_Len, .int .i64 t1.f_Flags, .slice (some ⟨g23, o3, none⟩) t1.f_Links.length c1, .int .i64 t1.f_Bits, .slice A2 t1.f_Routers.length c2, .slice A3 t1.f_Verts.length c3] :: (bk g1 35 [.int .i64 a1.f_Kind, .int .i64 a1.f_Id] :: ((N20) ++ (N17 ++ F))))))) HF117 (by rw [hN12]; simp only [List.append_assoc])
       exact ofEnv (fun a hE => ⟨_, (Option.some.inj H).symm, ⟨(N20), _, _, L21, hE.keep (Keep.cons rfl (Keep.cons rfl (Keep.cons rfl (Keep.cons rfl (Keep.cons rfl (Keep.cons rfl (Keep.cons rfl (Keep.nil)))))))), HF118, ho21⟩⟩)
      replace H := itF c80 H
      refine cSet (i := 64) rfl (vF c80) ?_
      refine cF rfl ?_
      refine cSkip ?_
      refine kN (?_)
      have hs15 : (N21 ++ G) ⊆ ((N20) ++ (N17 ++ G)) := by rw [hN12]; simp only [List.append_assoc]; exact sub_r
      have HF119 := HF113.sublist (sl_dc (sl_dc (sl_dc (sl_c (sl_a (sl_c (sl_c sR)))))))
      have HF120 := HF119.perm (perm_c1 (perm_f1 (perm_c1 pR)))
      have HF121 := HF120.perm (perm_c1 (perm_c1 (perm_f1 pR)))
      have HF122 := HF121.perm (perm_c1 (perm_c1 pR))
      have HF123 := HF122.perm (perm_c (perm_c (perm_c pR)))
      have HF124 := Fits.conv (L' := (L16 ++ (bk g24 56 [.int .i64 ((rd t1.f_Links s3.2).f_Kind), .int .i64 ((rd t1.f_Links s3.2).f_Id), .int .i64 ((rd t1.f_Links s3.2).f_Data), .int .i64 ((rd t1.f_Links s3.2).f_Cost)] :: (bk g2 44 [.int .i64 t1.f_Head.f_Age, .int .i64 t1.f_Head.f_Kind, .int .i64 t1.f_Head.f_Id, .int .i64 t1.f_Head.f_Adv, .int .i64 t1.f_Head.f_Seq, .int .i64 t1.f_Head.f_Sum, .int .i64 t1.f_Head.f_Len, .int .i64 t1.f_Flags, .slice (some ⟨g23, o3, none⟩) t1.f_Links.length c1, .int .i64 t1.f_Bits, .slice A2 t1.f_Routers.length c2, .slice A3 t1.f_Verts.length c3] :: (bk g1 35 [.int .i64 a1.f_Kind, .int .i64 a1.f_Id] :: ((N20) ++ (N17 ++ F))))))) HF123 (by rw [hN12]; simp only [List.append_assoc])
      exact ofEnv (fun a hE => ⟨_, (Option.some.inj H).symm, ⟨(N20), _, _, L16, hE.keep (Keep.cons rfl (Keep.cons rfl (Keep.cons rfl (Keep.cons rfl (Keep.cons rfl (Keep.cons rfl (Keep.cons rfl (Keep.nil)))))))), HF124, ho16⟩⟩)
     replace H := itF c79 H
     refine lSet (i := 62) rfl (vF c79) ?_
     refine sN rfl rfl rfl rfl ?_
     refine sL (pkF rfl rfl) rfl ?_
     refine lE ?_
     refine kN (?_)
     refine hK55 _ _ ?_
     refine cF rfl ?_
     refine cSkip ?_
     refine kN (?_)
     have hs16 : (N21 ++ G) ⊆ ((N20) ++ (N17 ++ G)) := by rw [hN12]; simp only [List.append_assoc]; exact sub_r
     have HF125 := HF113.sublist (sl_dc (sl_dc (sl_dc (sl_c (sl_a (sl_c (sl_c sR)))))))
     have HF126 := HF125.perm (perm_c1 (perm_f1 (perm_c1 pR)))
     have HF127 := HF126.perm (perm_c1 (perm_c1 (perm_f1 pR)))
     have HF128 := HF127.perm (perm_c1 (perm_c1 pR))
     have HF129 := HF128.perm (perm_c (perm_c (perm_c pR)))
     have HF130 := Fits.conv (L' := (L16 ++ (bk g24 56 [.int .i64 ((rd t1.f_Links s3.2).f_Kind), .int .i64 ((rd t1.f_Links s3.2).f_Id), .int .i64 ((rd t1.f_Links s3.2).f_Data), .int .i64 ((rd t1.f_Links s3.2).f_Cost)] :: (bk g2 44 [.int .i64 t1.f_Head.f_Age, .int .i64 t1.f_Head.f_Kind, .int .i64 t1.f_Head.f_Id, .int .i64 t1.f_Head.f_Adv, .int .i64 t1.f_Head.f_Seq, .int .i64 t1.f_Head.f_Sum, .int .i64 t1.f_Head.f_Len, .int .i64 t1.f_Flags, .slice (some ⟨g23, o3, none⟩) t1.f_Links.length c1, .int .i64 t1.f_Bits, .slice A2 t1.f_Routers.length c2, .slice A3 t1.f_Verts.length c3] :: (bk g1 35 [.int .i64 a1.f_Kind, .int .i64 a1.f_Id] :: ((N20) ++ (N17 ++ F))))))) HF129 (by rw [hN12]; simp only [List.append_assoc])
     exact ofEnv (fun a hE => ⟨_, (Option.some.inj H).symm, ⟨(N20), _, _, L16, hE.keep (Keep.cons rfl (Keep.cons rfl (Keep.cons rfl (Keep.cons rfl (Keep.cons rfl (Keep.cons rfl (Keep.cons rfl (Keep.nil)))))))), HF130, ho16⟩⟩)
    replace H := itF c75 H
    refine cSet (i := 44) rfl (dF c75) ?_
    refine cF rfl ?_
    refine cSkip ?_
    refine kN (?_)
    have HF131 := HF90.perm (perm_c1 (perm_f1 (perm_c1 pR)))
    have HF132 := HF131.perm (perm_c1 (perm_c1 (perm_f1 pR)))
    have HF133 := HF132.perm (perm_c1 (perm_c1 pR))
    have HF134 := HF133.perm (perm_c (perm_c (perm_c pR)))
    exact ofEnv (fun a hE => ⟨_, (Option.some.inj H).symm, ⟨[], _, _, L16, hE.keep (Keep.cons rfl (Keep.cons rfl (Keep.cons rfl (Keep.cons rfl (Keep.cons rfl (Keep.cons rfl (Keep.cons rfl (Keep.nil)))))))), HF134, ho16⟩⟩)
   rintro s4 a w90 rfl ⟨D5, A43, c74, L19, hE, HF135, ho19⟩
   replace H := Ho4
   refine go_k hE ?_
   obtain ⟨N22, hN13⟩ : ∃ N_, N_ = D5 ++ N17 := ⟨_, rfl⟩
   have HF136 := HF135; rw [← List.append_assoc D5 N17 F, ← hN13] at HF136
   have hs17 : N17 ++ G ⊆ N22 ++ G := frz_s hN13
   refine kN (?_)
   refine hK46 _ _ ?_
   refine cSeq (fun K56 hK56 => ?_)
   refine cRgn [] trivial ?_
   refine sL (fa56_0 rfl) rfl ?_
   refine sL (ld rfl Try.underlying3 rfl (HF136.box (mem_a mem_h) rfl)) rfl ?_
   refine sL (bEql rfl rfl) rfl ?_
   refine lE ?_
   refine kN (?_)
   refine hK56 _ _ ?_
   by_cases c84 : ((rd t1.f_Links s3.2).f_Kind) = 2
   ·replace H := itT c84 H
    refine cSet (i := 77) rfl (dT c84) ?_
    refine cT rfl ?_
    refine cSeq (fun K57 hK57 => ?_)
    refine cRgn [] trivial ?_
    refine sL (fa56_1 rfl) rfl ?_
    refine sL (ld rfl Try.underlying3 rfl (HF136.box (mem_a mem_h) rfl)) rfl ?_
    refine sL (bd (r := [.int .i64 2, .int .i64 ((rd t1.f_Links s3.2).f_Id)]) pl35 ti35 rfl rfl) rfl ?_
    refine eW (oAlloc HF136 ti35) rfl ?_
    rintro _ w91 ⟨g31, rfl, HF137⟩
    refine eS (oSt (l1 := [.int .i64 2, .int .i64 ((rd t1.f_Links s3.2).f_Id)]) HF137 rfl rfl ti35 rfl (ones rfl) (Nat.le_of_ble_eq_true rfl) rfl) ?_
    rintro w92 HF138
    refine lE ?_
    refine kN (?_)
    refine hK57 _ _ ?_
    refine cSeq (fun K58 hK58 => ?_)
    refine cRgn [] trivial ?_
    refine sL (mv rfl) rfl ?_
    refine sL (ldA (cs := [.int .i64 2, .int .i64 ((rd t1.f_Links s3.2).f_Id)]) rfl ti35 rfl rfl (HF138.boxes (o := 0) (n := 2) (mem_h) rfl)) rfl ?_
    replace H := bnd H; obtain ⟨⟨t33, t34⟩, J18, H⟩ := H
    refine eCall isf32 rfl rfl rfl (f_plenumref17_find.ok (a0 := a0) (a1 := (⟨2, (rd t1.f_Links s3.2).f_Id⟩ : T_api_Vert)) (sub_c (sub_a (sub_c (sub_c (sub_c (sub_n hG)))))) J18 HF138 (sub_c (sub_a (sub_c (sub_c (sub_c (sub_a hX_a0)))))) (RdS.lift hr_a0 (sub_t hs1 (sub_t hs11 hs17)) sub_r)) ?_
    rintro _ w93 ⟨N23, A49, c85, A50, c86, A51, c87, rfl, HF139, hr57, hr58, hr59⟩
    have HF140 := HF139.perm (perm_c (perm_f (perm_c (perm_c (perm_c pR))))).symm
    obtain ⟨N24, hN14⟩ : ∃ N_, N_ = N23 ++ N22 := ⟨_, rfl⟩
    have HF141 := HF140; rw [← List.append_assoc N23 N22 F, ← hN14] at HF141
    have hs18 : N22 ++ G ⊆ N24 ++ G := frz_s hN14
    have hr60 := RdS.mono (Y := (N24 ++ G)) hr57 (frz_c hN14)
    have hr61 := RdS.mono (Y := (N24 ++ G)) hr58 (frz_c hN14)
    have hr62 := RdS.mono (Y := (N24 ++ G)) hr59 (frz_c hN14)
    refine ⟨_, rfl, ?_⟩
    refine sL (mv rfl) rfl ?_
    refine sL (ex rfl rfl) rfl ?_
    refine sL (ex rfl rfl) rfl ?_
    refine eW (oAlloc HF141 ti44) rfl ?_
    rintro _ w94 ⟨g32, rfl, HF142⟩
    refine eS (oSt (l1 := [.int .i64 t33.f_Head.f_Age, .int .i64 t33.f_Head.f_Kind, .int .i64 t33.f_Head.f_Id, .int .i64 t33.f_Head.f_Adv, .int .i64 t33.f_Head.f_Seq, .int .i64 t33.f_Head.f_Sum, .int .i64 t33.f_Head.f_Len, .int .i64 t33.f_Flags, .slice A49 t33.f_Links.length c85, .int .i64 t33.f_Bits, .slice A50 t33.f_Routers.length c86, .slice A51 t33.f_Verts.length c87]) HF142 rfl rfl ti44 rfl (ones rfl) (Nat.le_of_ble_eq_true rfl) rfl) ?_
    rintro w95 HF143
    refine sL (asg rfl) rfl ?_
    refine lE ?_
    refine kN (?_)
    refine hK58 _ _ ?_
    refine cSeq (fun K59 hK59 => ?_)
    refine cRgn [(1, 88)] ⟨rfl, trivial⟩ ?_
    refine sL (mv rfl) rfl ?_
    refine sL (mv rfl) rfl ?_
    by_cases c88 : t34 = true
    ·replace H := itT c88 H
     refine lSet (i := 88) rfl (vT c88) ?_
     refine sG rfl rfl (fa44_4 rfl) rfl ?_
     refine sG rfl rfl (ld rfl Try.underlying30 rfl (HF143.box (mem_h) rfl)) rfl ?_
     refine sG rfl rfl (fa35_1 rfl) rfl ?_
     refine sG rfl rfl (ld rfl Try.underlying3 rfl (HF143.box (mem_c (mem_c (mem_a (mem_c (mem_c mem_h))))) rfl)) rfl ?_
     replace H := bnd H; obtain ⟨t35, J19, H⟩ := H
     refine eCallG rfl rfl isf12 rfl rfl rfl (f_plenumref8_Has.ok (a0 := t33.f_Routers) (sub_c (sub_c (sub_a (sub_c (sub_c (sub_c (sub_n hG))))))) J19 HF143 (sub_c (sub_c (sub_a (sub_c (sub_c (sub_c (sub_n hG))))))) hr61) ?_
     rintro _ w96 ⟨rfl, HF144⟩
     refine ⟨_, rfl, ?_⟩
     refine sL (pkT rfl rfl) rfl ?_
     refine lE ?_
     refine kN (?_)
     refine hK59 _ _ ?_
     by_cases c89 : t35 = true
     ·replace H := itT c89 H
      refine cSet (i := 94) rfl (vT c89) ?_
      refine cT rfl ?_
      refine cRgn [] trivial ?_
      refine sL (mv rfl) rfl ?_
      refine sL (ldA (cs := [.int .i64 a1.f_Kind, .int .i64 a1.f_Id]) rfl ti35 rfl rfl (HF144.boxes (o := 0) (n := 2) (mem_c (mem_c (mem_a (mem_c (mem_c mem_h))))) rfl)) rfl ?_
      refine sL (ldA (cs := [.int .i64 2, .int .i64 ((rd t1.f_Links s3.2).f_Id)]) rfl ti35 rfl rfl (HF144.boxes (o := 0) (n := 2) (mem_c mem_h) rfl)) rfl ?_
      refine sL (fa56_3 rfl) rfl ?_
      refine sL (ld rfl Try.underlying3 rfl (HF144.box (mem_c (mem_c (mem_a mem_h))) rfl)) rfl ?_
      refine sL (fa56_2 rfl) rfl ?_
      refine sL (ld rfl Try.underlying3 rfl (HF144.box (mem_c (mem_c (mem_a mem_h))) rfl)) rfl ?_
      refine sL (bd (r := [.int .i64 a1.f_Kind, .int .i64 a1.f_Id, .int .i64 2, .int .i64 ((rd t1.f_Links s3.2).f_Id), .int .i64 ((rd t1.f_Links s3.2).f_Cost), .int .i64 ((rd t1.f_Links s3.2).f_Data)]) pl37 ti37 rfl rfl) rfl ?_
      refine eW (oLit (r := [.int .i64 a1.f_Kind, .int .i64 a1.f_Id, .int .i64 2, .int .i64 ((rd t1.f_Links s3.2).f_Id), .int .i64 ((rd t1.f_Links s3.2).f_Cost), .int .i64 ((rd t1.f_Links s3.2).f_Data)]) k_T_api_Edge [(⟨(⟨a1.f_Kind, a1.f_Id⟩ : T_api_Vert), (⟨2, (rd t1.f_Links s3.2).f_Id⟩ : T_api_Vert), (rd t1.f_Links s3.2).f_Cost, (rd t1.f_Links s3.2).f_Data⟩ : T_api_Edge)] HF144 Try.underlying27 ti37 rfl rfl rfl rfl ⟨[], [], [.int .i64 a1.f_Kind, .int .i64 a1.f_Id, .int .i64 2, .int .i64 ((rd t1.f_Links s3.2).f_Id), .int .i64 ((rd t1.f_Links s3.2).f_Cost), .int .i64 ((rd t1.f_Links s3.2).f_Data)], _, rfl, rfl, ⟨rfl, rfl⟩, ⟨rfl, rfl⟩⟩ rfl rfl) rfl ?_
      rintro _ w97 ⟨L22, A52, c90, rfl, HF145, ho22⟩
      replace H := chk H; obtain ⟨c91, H⟩ := H
      have HF146 := HF145.perm (perm_f (perm_c (perm_c pR)))
      refine eW (oApp (xs := s4) (ys := ([(⟨(⟨a1.f_Kind, a1.f_Id⟩ : T_api_Vert), (⟨2, (rd t1.f_Links s3.2).f_Id⟩ : T_api_Vert), (rd t1.f_Links s3.2).f_Cost, (rd t1.f_Links s3.2).f_Data⟩ : T_api_Edge)])) k_T_api_Edge HF146 rfl rfl Try.underlying27 Try.underlying27 ti37 rfl ho19 (srcR shrF ho22.rd HF146 (sub_a sub_h)) c91 rfl) rfl ?_
      rintro _ w98 ⟨L23, A53, c92, rfl, HF147, ho23⟩
      refine sL (asg rfl) rfl ?_
      refine lE ?_
      refine jN (kN (?_))
      refine hK44 _ _ ?_
      refine cRgn [] trivial ?_
      refine sL (mv rfl) rfl ?_
      refine sL (bAdd rfl rfl) rfl ?_
      refine sL (asg rfl) rfl ?_
      refine lE ?_
      refine kN (?_)
      have hs19 : (N24 ++ G) ⊆ ((N23 ++ (D5 ++ D4)) ++ (N1 ++ G)) := by rw [hN14, hN13, hN10]; simp only [List.append_assoc]; exact sub_r
      have HF148 := HF147.sublist (sl_a (sl_da (sl_dc (sl_dc (sl_dc (sl_c (sl_c sR)))))))
      have HF149 := Fits.conv (L' := (L23 ++ (bk g2 44 [.int .i64 t1.f_Head.f_Age, .int .i64 t1.f_Head.f_Kind, .int .i64 t1.f_Head.f_Id, .int .i64 t1.f_Head.f_Adv, .int .i64 t1.f_Head.f_Seq, .int .i64 t1.f_Head.f_Sum, .int .i64 t1.f_Head.f_Len, .int .i64 t1.f_Flags, .slice (some ⟨g23, o3, none⟩) t1.f_Links.length c1, .int .i64 t1.f_Bits, .slice A2 t1.f_Routers.length c2, .slice A3 t1.f_Verts.length c3] :: (bk g1 35 [.int .i64 a1.f_Kind, .int .i64 a1.f_Id] :: ((N23 ++ (D5 ++ D4)) ++ (N1 ++ F)))))) HF148 (by rw [hN14, hN13, hN10]; simp only [List.append_assoc])
      exact ofEnv (fun a hE => ⟨_, (Option.some.inj H).symm, ⟨(N23 ++ (D5 ++ D4)), _, _, L23, hE.keep (Keep.cons rfl (Keep.cons rfl (Keep.cons rfl (Keep.cons rfl (Keep.cons rfl (Keep.cons rfl (Keep.nil))))))), HF149, ho23⟩⟩)
     replace H := itF c89 H
     refine cSet (i := 94) rfl (vF c89) ?_
     refine cF rfl ?_
     refine cSkip ?_
     refine jN (kN (?_))
     refine hK44 _ _ ?_
     refine cRgn [] trivial ?_
     refine sL (mv rfl) rfl ?_
     refine sL (bAdd rfl rfl) rfl ?_
     refine sL (asg rfl) rfl ?_
     refine lE ?_
     refine kN (?_)
     have hs20 : (N24 ++ G) ⊆ ((N23 ++ (D5 ++ D4)) ++ (N1 ++ G)) := by rw [hN14, hN13, hN10]; simp only [List.append_assoc]; exact sub_r
     have HF150 := HF144.sublist (sl_dc (sl_dc (sl_a (sl_dc (sl_c (sl_c sR))))))
     have HF151 := Fits.conv (L' := (L19 ++ (bk g2 44 [.int .i64 t1.f_Head.f_Age, .int .i64 t1.f_Head.f_Kind, .int .i64 t1.f_Head.f_Id, .int .i64 t1.f_Head.f_Adv, .int .i64 t1.f_Head.f_Seq, .int .i64 t1.f_Head.f_Sum, .int .i64 t1.f_Head.f_Len, .int .i64 t1.f_Flags, .slice (some ⟨g23, o3, none⟩) t1.f_Links.length c1, .int .i64 t1.f_Bits, .slice A2 t1.f_Routers.length c2, .slice A3 t1.f_Verts.length c3] :: (bk g1 35 [.int .i64 a1.f_Kind, .int .i64 a1.f_Id] :: ((N23 ++ (D5 ++ D4)) ++ (N1 ++ F)))))) HF150 (by rw [hN14, hN13, hN10]; simp only [List.append_assoc])
     exact ofEnv (fun a hE => ⟨_, (Option.some.inj H).symm, ⟨(N23 ++ (D5 ++ D4)), _, _, L19, hE.keep (Keep.cons rfl (Keep.cons rfl (Keep.cons rfl (Keep.cons rfl (Keep.cons rfl (Keep.cons rfl (Keep.nil))))))), HF151, ho19⟩⟩)
    replace H := itF c88 H
    refine lSet (i := 88) rfl (vF c88) ?_
    refine sN rfl rfl rfl rfl ?_
    refine sN rfl rfl rfl rfl ?_
    refine sN rfl rfl rfl rfl ?_
    refine sN rfl rfl rfl rfl ?_
    refine sN rfl rfl rfl rfl ?_
    refine sL (pkF rfl rfl) rfl ?_
    refine lE ?_
    refine kN (?_)
    refine hK59 _ _ ?_
    refine cF rfl ?_
    refine cSkip ?_
    refine jN (kN (?_))
    refine hK44 _ _ ?_
    refine cRgn [] trivial ?_
    refine sL (mv rfl) rfl ?_
    refine sL (bAdd rfl rfl) rfl ?_
    refine sL (asg rfl) rfl ?_
    refine lE ?_
    refine kN (?_)
    have hs21 : (N24 ++ G) ⊆ ((N23 ++ (D5 ++ D4)) ++ (N1 ++ G)) := by rw [hN14, hN13, hN10]; simp only [List.append_assoc]; exact sub_r
    have HF152 := HF143.sublist (sl_dc (sl_dc (sl_a (sl_dc (sl_c (sl_c sR))))))
    have HF153 := Fits.conv (L' := (L19 ++ (bk g2 44 [.int .i64 t1.f_Head.f_Age, .int .i64 t1.f_Head.f_Kind, .int .i64 t1.f_Head.f_Id, .int .i64 t1.f_Head.f_Adv, .int .i64 t1.f_Head.f_Seq, .int .i64 t1.f_Head.f_Sum, .int .i64 t1.f_Head.f_Len, .int .i64 t1.f_Flags, .slice (some ⟨g23, o3, none⟩) t1.f_Links.length c1, .int .i64 t1.f_Bits, .slice A2 t1.f_Routers.length c2, .slice A3 t1.f_Verts.length c3] :: (bk g1 35 [.int .i64 a1.f_Kind, .int .i64 a1.f_Id] :: ((N23 ++ (D5 ++ D4)) ++ (N1 ++ F)))))) HF152 (by rw [hN14, hN13, hN10]; simp only [List.append_assoc])
    exact ofEnv (fun a hE => ⟨_, (Option.some.inj H).symm, ⟨(N23 ++ (D5 ++ D4)), _, _, L19, hE.keep (Keep.cons rfl (Keep.cons rfl (Keep.cons rfl (Keep.cons rfl (Keep.cons rfl (Keep.cons rfl (Keep.nil))))))), HF153, ho19⟩⟩)
   replace H := itF c84 H
   refine cSet (i := 77) rfl (dF c84) ?_
   refine cF rfl ?_
   refine cSkip ?_
   refine jN (kN (?_))
   refine hK44 _ _ ?_
   refine cRgn [] trivial ?_
   refine sL (mv rfl) rfl ?_
   refine sL (bAdd rfl rfl) rfl ?_
   refine sL (asg rfl) rfl ?_
   refine lE ?_
   refine kN (?_)
   have hs22 : (N22 ++ G) ⊆ ((D5 ++ D4) ++ (N1 ++ G)) := by rw [hN13, hN10]; simp only [List.append_assoc]; exact sub_r
   have HF154 := HF136.sublist (sl_a (sl_dc (sl_c (sl_c sR))))
   have HF155 := Fits.conv (L' := (L19 ++ (bk g2 44 [.int .i64 t1.f_Head.f_Age, .int .i64 t1.f_Head.f_Kind, .int .i64 t1.f_Head.f_Id, .int .i64 t1.f_Head.f_Adv, .int .i64 t1.f_Head.f_Seq, .int .i64 t1.f_Head.f_Sum, .int .i64 t1.f_Head.f_Len, .int .i64 t1.f_Flags, .slice (some ⟨g23, o3, none⟩) t1.f_Links.length c1, .int .i64 t1.f_Bits, .slice A2 t1.f_Routers.length c2, .slice A3 t1.f_Verts.length c3] :: (bk g1 35 [.int .i64 a1.f_Kind, .int .i64 a1.f_Id] :: ((D5 ++ D4) ++ (N1 ++ F)))))) HF154 (by rw [hN13, hN10]; simp only [List.append_assoc])
   exact ofEnv (fun a hE => ⟨_, (Option.some.inj H).symm, ⟨(D5 ++ D4), _, _, L19, hE.keep (Keep.cons rfl (Keep.cons rfl (Keep.cons rfl (Keep.cons rfl (Keep.cons rfl (Keep.cons rfl (Keep.nil))))))), HF155, ho19⟩⟩)
  replace H := itF c63 H
  refine cSet (i := 34) rfl (dF c63) ?_
  refine cF rfl ?_
  refine cExit ?_
  refine kX (kX (jX (kN (?_))))
  have hs23 : (N17 ++ G) ⊆ ((D4) ++ (N1 ++ G)) := by rw [hN10]; simp only [List.append_assoc]; exact sub_r
  have HF156 := Fits.conv (L' := (L16 ++ (bk g2 44 [.int .i64 t1.f_Head.f_Age, .int .i64 t1.f_Head.f_Kind, .int .i64 t1.f_Head.f_Id, .int .i64 t1.f_Head.f_Adv, .int .i64 t1.f_Head.f_Seq, .int .i64 t1.f_Head.f_Sum, .int .i64 t1.f_Head.f_Len, .int .i64 t1.f_Flags, .slice A1 t1.f_Links.length c1, .int .i64 t1.f_Bits, .slice A2 t1.f_Routers.length c2, .slice A3 t1.f_Verts.length c3] :: (bk g1 35 [.int .i64 a1.f_Kind, .int .i64 a1.f_Id] :: ((D4) ++ (N1 ++ F)))))) HF88 (by rw [hN10]; simp only [List.append_assoc])
  exact ofEnv (fun a hE => ⟨_, (Option.some.inj H).symm, ⟨(D4), _, _, L16, hE.keep (Keep.cons rfl (Keep.cons rfl (Keep.cons rfl (Keep.cons rfl (Keep.cons rfl (Keep.cons rfl (Keep.nil))))))), HF156, ho16⟩⟩)
 rintro s3 a w99 rfl ⟨D4, A37, c62, L16, hE, HF157, ho16⟩
 replace H := Ho3
 refine go_k hE ?_
 obtain ⟨N25, hN15⟩ : ∃ N_, N_ = D4 ++ N1 := ⟨_, rfl⟩
 have HF158 := HF157; rw [← List.append_assoc D4 N1 F, ← hN15] at HF158
 have hs24 : N1 ++ G ⊆ N25 ++ G := frz_s hN15
 refine kN (?_)
 refine hK4 _ _ ?_
 refine cSeq (fun K60 hK60 => ?_)
 refine cSeq (fun K61 hK61 => ?_)
 refine cRgn [] trivial ?_
 refine sL (asg rfl) rfl ?_
 refine lE ?_
 refine kN (?_)
 refine hK61 _ _ ?_
 replace H := bnd H; obtain ⟨y6, J32, Ho5⟩ := H
 refine cLoopB (f_plenumref17_from.b1 a0 a1 t1) (fun (s5 : (List T_api_Edge) × Int) a w => ∃ (D7 : Hp) (A65 : Option Addr) (c120 : Nat) (L29 : Hp), Env 154 [(0, .slice A_a0 a0.length c_a0), (3, .pointer (some ⟨g1, 0, none⟩)), (4, .slice none 0 0), (5, .slice A65 s5.1.length c120), (6, .pointer (some ⟨g2, 0, none⟩)), (18, .int .i64 s5.2)] a ∧ Fits z w (L29 ++ (bk g2 44 [.int .i64 t1.f_Head.f_Age, .int .i64 t1.f_Head.f_Kind, .int .i64 t1.f_Head.f_Id, .int .i64 t1.f_Head.f_Adv, .int .i64 t1.f_Head.f_Seq, .int .i64 t1.f_Head.f_Sum, .int .i64 t1.f_Head.f_Len, .int .i64 t1.f_Flags, .slice A1 t1.f_Links.length c1, .int .i64 t1.f_Bits, .slice A2 t1.f_Routers.length c2, .slice A3 t1.f_Verts.length c3] :: (bk g1 35 [.int .i64 a1.f_Kind, .int .i64 a1.f_Id] :: (D7 ++ (N25 ++ F))))) ∧ OwnS k_T_api_Edge L29 A65 c120 s5.1) J32 (fun a hE => ⟨[], _, _, L16, hE.keep (Keep.cons rfl (Keep.cons rfl (Keep.cons rfl (Keep.cons rfl (Keep.cons rfl (Keep.cons rfl (Keep.nil))))))), HF158, ho16⟩) ?_ ?_
 ·rintro s5 a w126 y7 ⟨D7, A65, c120, L29, hE, HF192, ho29⟩ H Hx2
  refine go_ hE ?_
  obtain ⟨N31, hN19⟩ : ∃ N_, N_ = D7 ++ N25 := ⟨_, rfl⟩
  have HF193 := HF192; rw [← List.append_assoc D7 N25 F, ← hN19] at HF193
  have hs28 : N25 ++ G ⊆ N31 ++ G := frz_s hN19
  refine cSeq (fun K80 hK80 => ?_)
  refine cSeq (fun K81 hK81 => ?_)
  refine cRgn [] trivial ?_
  refine sL (mv rfl) rfl ?_
  refine sL (fa44_4 rfl) rfl ?_
  refine sL (ld rfl Try.underlying30 rfl (HF193.box (mem_a mem_h) rfl)) rfl ?_
  refine sL (lnS rfl Try.underlying30) rfl ?_
  refine sL (bLss rfl rfl) rfl ?_
  refine lE ?_
  refine kN (?_)
  refine hK81 _ _ ?_
  by_cases c121 : s5.2 < (t1.f_Routers.length : Int)
  ·replace H := itT c121 H
   refine cSet (i := 109) rfl (dT c121) ?_
   refine cT rfl ?_
   refine cSkip ?_
   refine kN (?_)
   refine hK80 _ _ ?_
   refine cSeq (fun K82 hK82 => ?_)
   refine cBlock ?_
   refine cSeq (fun K83 hK83 => ?_)
   refine cSeq (fun K84 hK84 => ?_)
   refine cDraw mo_ HF193 rfl (fun w => Fits z w (L29 ++ (bk g2 44 [.int .i64 t1.f_Head.f_Age, .int .i64 t1.f_Head.f_Kind, .int .i64 t1.f_Head.f_Id, .int .i64 t1.f_Head.f_Adv, .int .i64 t1.f_Head.f_Seq, .int .i64 t1.f_Head.f_Sum, .int .i64 t1.f_Head.f_Len, .int .i64 t1.f_Flags, .slice A1 t1.f_Links.length c1, .int .i64 t1.f_Bits, .slice A2 t1.f_Routers.length c2, .slice A3 t1.f_Verts.length c3] :: (bk g1 35 [.int .i64 a1.f_Kind, .int .i64 a1.f_Id] :: (N31 ++ F))))) (fun w128 HF195 => ?_)
   refine hT 0 rfl (by kernel_rfl) (fun w_ hS_ => fa44_4 rfl) HF195 rfl rfl ?_
   refine hT 1 rfl (by kernel_rfl) (fun w_ hS_ => ld rfl Try.underlying30 rfl (hS_.box (mem_a mem_h) rfl)) HF195 rfl rfl ?_
   refine hT 2 rfl (by kernel_rfl) (fun w_ hS_ => mv rfl) HF195 rfl rfl ?_
   replace H := chk H; obtain ⟨c124, H⟩ := H
   replace H := chk H; obtain ⟨c125, H⟩ := H
   have hr83 := RdS.cutN (K := (kInt .i64)) hr2 (by decide) c124 c125
   refine hT 3 rfl (by kernel_rfl) (fun w_ hS_ => slcN (xs := t1.f_Routers) rfl Try.underlying30 ti3 rfl rfl (hr2).1 (by decide) c124 c125) HF195 rfl rfl ?_
   refine hT 4 rfl (by kernel_rfl) (fun w_ hS_ => fa44_4 rfl) HF195 rfl rfl ?_
   refine hT 5 rfl (by kernel_rfl) (fun w_ hS_ => ld rfl Try.underlying30 rfl (hS_.box (mem_a mem_h) rfl)) HF195 rfl rfl ?_
   refine hT 6 rfl (by kernel_rfl) (fun w_ hS_ => mv rfl) HF195 rfl rfl ?_
   obtain ⟨g44, o9, _, rfl, rfl, q11⟩ := RdS.at_ hr2 c124 c121
   refine hT 7 rfl (by kernel_rfl) (fun w_ hS_ => ia rfl rfl Try.underlying30 ti3 c124 c121) HF195 rfl rfl ?_
   refine hT 8 rfl (by kernel_rfl) (fun w_ hS_ => ld rfl Try.underlying3 rfl (hS_.cells ((sub_a (sub_c (sub_c (sub_t (sub_t hs24 hs28) (sub_n hG)))))) (q11 0 _ rfl))) HF195 rfl rfl ?_
   refine h1 9 (by kernel_rfl) rfl ?_
   replace H := bnd H; obtain ⟨t49, J29, H⟩ := H
   refine qCall rfl gd0 isf12 rfl rfl rfl (f_plenumref8_Has.ok (a0 := (cutL t1.f_Routers 0 s5.2)) (sub_a (sub_c (sub_c (sub_n hG)))) J29 HF195 (sub_a (sub_c (sub_c (sub_t (sub_t hs24 hs28) (sub_n hG))))) hr83) ?_
   rintro _ w129 ⟨rfl, HF196⟩
   refine ⟨_, rfl, HF196, ?_⟩
   refine hEnd (by kernel_rfl) ?_
   refine kN (?_)
   refine hK84 _ _ ?_
   by_cases c126 : t49 = true
   ·replace H := itT c126 H
    refine cSet (i := 121) rfl (vT c126) ?_
    refine cT rfl ?_
    refine cExit ?_
    refine kX (jX (kN (?_)))
    refine hK82 _ _ ?_
    refine cRgn [] trivial ?_
    refine sL (mv rfl) rfl ?_
    refine sL (bAdd rfl rfl) rfl ?_
    refine sL (asg rfl) rfl ?_
    refine lE ?_
    refine kN (?_)
    have hs29 : (N31 ++ G) ⊆ ((D7) ++ (N25 ++ G)) := by rw [hN19]; simp only [List.append_assoc]; exact sub_r
    have HF197 := Fits.conv (L' := (L29 ++ (bk g2 44 [.int .i64 t1.f_Head.f_Age, .int .i64 t1.f_Head.f_Kind, .int .i64 t1.f_Head.f_Id, .int .i64 t1.f_Head.f_Adv, .int .i64 t1.f_Head.f_Seq, .int .i64 t1.f_Head.f_Sum, .int .i64 t1.f_Head.f_Len, .int .i64 t1.f_Flags, .slice A1 t1.f_Links.length c1, .int .i64 t1.f_Bits, .slice (some ⟨g44, o9, none⟩) t1.f_Routers.length c2, .slice A3 t1.f_Verts.length c3] :: (bk g1 35 [.int .i64 a1.f_Kind, .int .i64 a1.f_Id] :: ((D7) ++ (N25 ++ F)))))) HF196 (by rw [hN19]; simp only [List.append_assoc])
    exact ofEnv (fun a hE => ⟨_, (Option.some.inj H).symm, ⟨(D7), _, _, L29, hE.keep (Keep.cons rfl (Keep.cons rfl (Keep.cons rfl (Keep.cons rfl (Keep.cons rfl (Keep.cons rfl (Keep.nil))))))), HF197, ho29⟩⟩)
   replace H := itF c126 H
   refine cSet (i := 121) rfl (vF c126) ?_
   refine cF rfl ?_
   refine cSkip ?_
   refine kN (?_)
   refine hK83 _ _ ?_
   refine cSeq (fun K85 hK85 => ?_)
   refine cRgn [] trivial ?_
   refine sL (fa44_4 rfl) rfl ?_
   refine sL (ld rfl Try.underlying30 rfl (HF196.box (mem_a mem_h) rfl)) rfl ?_
   refine sL (mv rfl) rfl ?_
   obtain ⟨_, rfl, q12⟩ := RdS.at' hr2 c124 c121
   refine sL (ia rfl rfl Try.underlying30 ti3 c124 c121) rfl ?_
   refine sL (ld rfl Try.underlying3 rfl (HF196.cells ((sub_a (sub_c (sub_c (sub_t (sub_t hs24 hs28) (sub_n hG)))))) (q12 0 _ rfl))) rfl ?_
   refine sL (bd (r := [.int .i64 1, .int .i64 (rd t1.f_Routers s5.2)]) pl35 ti35 rfl rfl) rfl ?_
   refine eW (oAlloc HF196 ti35) rfl ?_
   rintro _ w130 ⟨g45, rfl, HF198⟩
   refine eS (oSt (l1 := [.int .i64 1, .int .i64 (rd t1.f_Routers s5.2)]) HF198 rfl rfl ti35 rfl (ones rfl) (Nat.le_of_ble_eq_true rfl) rfl) ?_
   rintro w131 HF199
   refine lE ?_
   refine kN (?_)
   refine hK85 _ _ ?_
   refine cSeq (fun K86 hK86 => ?_)
   refine cRgn [] trivial ?_
   refine sL (mv rfl) rfl ?_
   refine sL (ldA (cs := [.int .i64 1, .int .i64 (rd t1.f_Routers s5.2)]) rfl ti35 rfl rfl (HF199.boxes (o := 0) (n := 2) (mem_h) rfl)) rfl ?_
   replace H := bnd H; obtain ⟨⟨t50, t51⟩, J30, H⟩ := H
   refine eCall isf32 rfl rfl rfl (f_plenumref17_find.ok (a0 := a0) (a1 := (⟨1, (rd t1.f_Routers s5.2)⟩ : T_api_Vert)) (sub_c (sub_a (sub_c (sub_c (sub_n hG))))) J30 HF199 (sub_c (sub_a (sub_c (sub_c (sub_a hX_a0))))) (RdS.lift hr_a0 (sub_t hs1 (sub_t hs24 hs28)) sub_r)) ?_
   rintro _ w132 ⟨N32, A66, c127, A67, c128, A68, c129, rfl, HF200, hr84, hr85, hr86⟩
   have HF201 := HF200.perm (perm_c (perm_f (perm_c (perm_c pR)))).symm
   obtain ⟨N33, hN20⟩ : ∃ N_, N_ = N32 ++ N31 := ⟨_, rfl⟩
   have HF202 := HF201; rw [← List.append_assoc N32 N31 F, ← hN20] at HF202
   have hs30 : N31 ++ G ⊆ N33 ++ G := frz_s hN20
   have hr87 := RdS.mono (Y := (N33 ++ G)) hr84 (frz_c hN20)
   have hr88 := RdS.mono (Y := (N33 ++ G)) hr85 (frz_c hN20)
   have hr89 := RdS.mono (Y := (N33 ++ G)) hr86 (frz_c hN20)
   refine ⟨_, rfl, ?_⟩
   refine sL (mv rfl) rfl ?_
   refine sL (ex rfl rfl) rfl ?_
   refine sL (ex rfl rfl) rfl ?_
   refine eW (oAlloc HF202 ti44) rfl ?_
   rintro _ w133 ⟨g46, rfl, HF203⟩
   refine eS (oSt (l1 := [.int .i64 t50.f_Head.f_Age, .int .i64 t50.f_Head.f_Kind, .int .i64 t50.f_Head.f_Id, .int .i64 t50.f_Head.f_Adv, .int .i64 t50.f_Head.f_Seq, .int .i64 t50.f_Head.f_Sum, .int .i64 t50.f_Head.f_Len, .int .i64 t50.f_Flags, .slice A66 t50.f_Links.length c127, .int .i64 t50.f_Bits, .slice A67 t50.f_Routers.length c128, .slice A68 t50.f_Verts.length c129]) HF203 rfl rfl ti44 rfl (ones rfl) (Nat.le_of_ble_eq_true rfl) rfl) ?_
   rintro w134 HF204
   refine sL (asg rfl) rfl ?_
   refine lE ?_
   refine kN (?_)
   refine hK86 _ _ ?_
   refine cSeq (fun K87 hK87 => ?_)
   refine cRgn [] trivial ?_
   refine sL (ldA (cs := [.int .i64 t50.f_Head.f_Age, .int .i64 t50.f_Head.f_Kind, .int .i64 t50.f_Head.f_Id, .int .i64 t50.f_Head.f_Adv, .int .i64 t50.f_Head.f_Seq, .int .i64 t50.f_Head.f_Sum, .int .i64 t50.f_Head.f_Len, .int .i64 t50.f_Flags, .slice A66 t50.f_Links.length c127, .int .i64 t50.f_Bits, .slice A67 t50.f_Routers.length c128, .slice A68 t50.f_Verts.length c129]) rfl ti44 rfl rfl (HF204.boxes (o := 0) (n := 12) (mem_h) rfl)) rfl ?_
   refine sL (fa35_1 rfl) rfl ?_
   refine sL (ld rfl Try.underlying3 rfl (HF204.box (mem_c (mem_c (mem_a (mem_c mem_h)))) rfl)) rfl ?_
   replace H := bnd H; obtain ⟨⟨t52, t53⟩, J31, H⟩ := H
   refine eCall isf56 rfl rfl rfl (f_plenumref17_back.ok (a0 := t50) (sub_c (sub_c (sub_a (sub_c (sub_c (sub_n hG)))))) J31 HF204 (sub_c (sub_c (sub_a (sub_c (sub_c (sub_n hG)))))) hr87 (sub_c (sub_c (sub_a (sub_c (sub_c (sub_n hG)))))) hr88 (sub_c (sub_c (sub_a (sub_c (sub_c (sub_n hG)))))) hr89) ?_
   rintro _ w135 ⟨rfl, HF205⟩
   refine ⟨_, rfl, ?_⟩
   refine sL (mv rfl) rfl ?_
   refine sL (ex rfl rfl) rfl ?_
   refine sL (ex rfl rfl) rfl ?_
   refine eW (oAlloc HF205 ti56) rfl ?_
   rintro _ w136 ⟨g47, rfl, HF206⟩
   refine eS (oSt (l1 := [.int .i64 t52.f_Kind, .int .i64 t52.f_Id, .int .i64 t52.f_Data, .int .i64 t52.f_Cost]) HF206 rfl rfl ti56 rfl (ones rfl) (Nat.le_of_ble_eq_true rfl) rfl) ?_
   rintro w137 HF207
   refine sL (asg rfl) rfl ?_
   refine lE ?_
   refine kN (?_)
   refine hK87 _ _ ?_
   refine cSeq (fun K88 hK88 => ?_)
   refine cRgn [(1, 142)] ⟨rfl, trivial⟩ ?_
   refine sL (mv rfl) rfl ?_
   refine sL (mv rfl) rfl ?_
   by_cases c130 : t51 = true
   ·replace H := itT c130 H
    refine lSet (i := 142) rfl (vT c130) ?_
    refine sG rfl rfl (mv rfl) rfl ?_
    refine sL (pkT rfl rfl) rfl ?_
    refine lE ?_
    refine kN (?_)
    refine hK88 _ _ ?_
    by_cases c131 : t53 = true
    ·replace H := itT c131 H
     refine cSet (i := 144) rfl (vT c131) ?_
     refine cT rfl ?_
     refine cRgn [] trivial ?_
     refine sL (mv rfl) rfl ?_
     refine sL (ldA (cs := [.int .i64 a1.f_Kind, .int .i64 a1.f_Id]) rfl ti35 rfl rfl (HF207.boxes (o := 0) (n := 2) (mem_c (mem_c (mem_c (mem_a (mem_c mem_h))))) rfl)) rfl ?_
     refine sL (ldA (cs := [.int .i64 1, .int .i64 (rd t1.f_Routers s5.2)]) rfl ti35 rfl rfl (HF207.boxes (o := 0) (n := 2) (mem_c (mem_c mem_h)) rfl)) rfl ?_
     refine sL (fa56_2 rfl) rfl ?_
     refine sL (ld rfl Try.underlying3 rfl (HF207.box (mem_h) rfl)) rfl ?_
     refine sL (bd (r := [.int .i64 a1.f_Kind, .int .i64 a1.f_Id, .int .i64 1, .int .i64 (rd t1.f_Routers s5.2), .int .i64 0, .int .i64 t52.f_Data]) pl37 ti37 rfl rfl) rfl ?_
     refine eW (oLit (r := [.int .i64 a1.f_Kind, .int .i64 a1.f_Id, .int .i64 1, .int .i64 (rd t1.f_Routers s5.2), .int .i64 0, .int .i64 t52.f_Data]) k_T_api_Edge [(⟨(⟨a1.f_Kind, a1.f_Id⟩ : T_api_Vert), (⟨1, (rd t1.f_Routers s5.2)⟩ : T_api_Vert), 0, t52.f_Data⟩ : T_api_Edge)] HF207 Try.underlying27 ti37 rfl rfl rfl rfl ⟨[], [], [.int .i64 a1.f_Kind, .int .i64 a1.f_Id, .int .i64 1, .int .i64 (rd t1.f_Routers s5.2), .int .i64 0, .int .i64 t52.f_Data], _, rfl, rfl, ⟨rfl, rfl⟩, ⟨rfl, rfl⟩⟩ rfl rfl) rfl ?_
     rintro _ w138 ⟨L30, A69, c132, rfl, HF208, ho30⟩
     replace H := chk H; obtain ⟨c133, H⟩ := H
     have HF209 := HF208.perm (perm_f (perm_c (perm_c (perm_c pR))))
     refine eW (oApp (xs := s5.1) (ys := ([(⟨(⟨a1.f_Kind, a1.f_Id⟩ : T_api_Vert), (⟨1, (rd t1.f_Routers s5.2)⟩ : T_api_Vert), 0, t52.f_Data⟩ : T_api_Edge)])) k_T_api_Edge HF209 rfl rfl Try.underlying27 Try.underlying27 ti37 rfl ho29 (srcR shrF ho30.rd HF209 (sub_a sub_h)) c133 rfl) rfl ?_
     rintro _ w139 ⟨L31, A70, c134, rfl, HF210, ho31⟩
     refine sL (asg rfl) rfl ?_
     refine lE ?_
     refine jN (kN (?_))
     refine hK82 _ _ ?_
     refine cRgn [] trivial ?_
     refine sL (mv rfl) rfl ?_
     refine sL (bAdd rfl rfl) rfl ?_
     refine sL (asg rfl) rfl ?_
     refine lE ?_
     refine kN (?_)
     have hs31 : (N33 ++ G) ⊆ ((N32 ++ D7) ++ (N25 ++ G)) := by rw [hN20, hN19]; simp only [List.append_assoc]; exact sub_r
     have HF211 := HF210.sublist (sl_a (sl_da (sl_dc (sl_dc (sl_dc (sl_c (sl_c sR)))))))
     have HF212 := Fits.conv (L' := (L31 ++ (bk g2 44 [.int .i64 t1.f_Head.f_Age, .int .i64 t1.f_Head.f_Kind, .int .i64 t1.f_Head.f_Id, .int .i64 t1.f_Head.f_Adv, .int .i64 t1.f_Head.f_Seq, .int .i64 t1.f_Head.f_Sum, .int .i64 t1.f_Head.f_Len, .int .i64 t1.f_Flags, .slice A1 t1.f_Links.length c1, .int .i64 t1.f_Bits, .slice (some ⟨g44, o9, none⟩) t1.f_Routers.length c2, .slice A3 t1.f_Verts.length c3] :: (bk g1 35 [.int .i64 a1.f_Kind, .int .i64 a1.f_Id] :: ((N32 ++ D7) ++ (N25 ++ F)))))) HF211 (by rw [hN20, hN19]; simp only [List.append_assoc])
     exact ofEnv (fun a hE => ⟨_, (Option.some.inj H).symm, ⟨(N32 ++ D7), _, _, L31, hE.keep (Keep.cons rfl (Keep.cons rfl (Keep.cons rfl (Keep.cons rfl (Keep.cons rfl (Keep.cons rfl (Keep.nil))))))), HF212, ho31⟩⟩)
    replace H := itF c131 H
    refine cSet (i := 144) rfl (vF c131) ?_
    refine cF rfl ?_
    refine cSkip ?_
    refine jN (kN (?_))
    refine hK82 _ _ ?_
    refine cRgn [] trivial ?_
    refine sL (mv rfl) rfl ?_
    refine sL (bAdd rfl rfl) rfl ?_
    refine sL (asg rfl) rfl ?_
    refine lE ?_
    refine kN (?_)
    have hs32 : (N33 ++ G) ⊆ ((N32 ++ D7) ++ (N25 ++ G)) := by rw [hN20, hN19]; simp only [List.append_assoc]; exact sub_r
    have HF213 := HF207.sublist (sl_dc (sl_dc (sl_dc (sl_a (sl_c (sl_c sR))))))
    have HF214 := Fits.conv (L' := (L29 ++ (bk g2 44 [.int .i64 t1.f_Head.f_Age, .int .i64 t1.f_Head.f_Kind, .int .i64 t1.f_Head.f_Id, .int .i64 t1.f_Head.f_Adv, .int .i64 t1.f_Head.f_Seq, .int .i64 t1.f_Head.f_Sum, .int .i64 t1.f_Head.f_Len, .int .i64 t1.f_Flags, .slice A1 t1.f_Links.length c1, .int .i64 t1.f_Bits, .slice (some ⟨g44, o9, none⟩) t1.f_Routers.length c2, .slice A3 t1.f_Verts.length c3] :: (bk g1 35 [.int .i64 a1.f_Kind, .int .i64 a1.f_Id] :: ((N32 ++ D7) ++ (N25 ++ F)))))) HF213 (by rw [hN20, hN19]; simp only [List.append_assoc])
    exact ofEnv (fun a hE => ⟨_, (Option.some.inj H).symm, ⟨(N32 ++ D7), _, _, L29, hE.keep (Keep.cons rfl (Keep.cons rfl (Keep.cons rfl (Keep.cons rfl (Keep.cons rfl (Keep.cons rfl (Keep.nil))))))), HF214, ho29⟩⟩)
   replace H := itF c130 H
   refine lSet (i := 142) rfl (vF c130) ?_
   refine sN rfl rfl rfl rfl ?_
   refine sL (pkF rfl rfl) rfl ?_
   refine lE ?_
   refine kN (?_)
   refine hK88 _ _ ?_
   refine cF rfl ?_
   refine cSkip ?_
   refine jN (kN (?_))
   refine hK82 _ _ ?_
   refine cRgn [] trivial ?_
   refine sL (mv rfl) rfl ?_
   refine sL (bAdd rfl rfl) rfl ?_
   refine sL (asg rfl) rfl ?_
   refine lE ?_
   refine kN (?_)
   have hs33 : (N33 ++ G) ⊆ ((N32 ++ D7) ++ (N25 ++ G)) := by rw [hN20, hN19]; simp only [List.append_assoc]; exact sub_r
   have HF215 := HF207.sublist (sl_dc (sl_dc (sl_dc (sl_a (sl_c (sl_c sR))))))
   have HF216 := Fits.conv (L' := (L29 ++ (bk g2 44 [.int .i64 t1.f_Head.f_Age, .int .i64 t1.f_Head.f_Kind, .int .i64 t1.f_Head.f_Id, .int .i64 t1.f_Head.f_Adv, .int .i64 t1.f_Head.f_Seq, .int .i64 t1.f_Head.f_Sum, .int .i64 t1.f_Head.f_Len, .int .i64 t1.f_Flags, .slice A1 t1.f_Links.length c1, .int .i64 t1.f_Bits, .slice (some ⟨g44, o9, none⟩) t1.f_Routers.length c2, .slice A3 t1.f_Verts.length c3] :: (bk g1 35 [.int .i64 a1.f_Kind, .int .i64 a1.f_Id] :: ((N32 ++ D7) ++ (N25 ++ F)))))) HF215 (by rw [hN20, hN19]; simp only [List.append_assoc])
   exact ofEnv (fun a hE => ⟨_, (Option.some.inj H).symm, ⟨(N32 ++ D7), _, _, L29, hE.keep (Keep.cons rfl (Keep.cons rfl (Keep.cons rfl (Keep.cons rfl (Keep.cons rfl (Keep.cons rfl (Keep.nil))))))), HF216, ho29⟩⟩)
  replace H := itF c121 H
  refine cSet (i := 109) rfl (dF c121) ?_
  refine cF rfl ?_
  refine cExit ?_
  refine kX (kX (jX (kN (?_))))
  have hs34 : (N31 ++ G) ⊆ ((D7) ++ (N25 ++ G)) := by rw [hN19]; simp only [List.append_assoc]; exact sub_r
  have HF217 := Fits.conv (L' := (L29 ++ (bk g2 44 [.int .i64 t1.f_Head.f_Age, .int .i64 t1.f_Head.f_Kind, .int .i64 t1.f_Head.f_Id, .int .i64 t1.f_Head.f_Adv, .int .i64 t1.f_Head.f_Seq, .int .i64 t1.f_Head.f_Sum, .int .i64 t1.f_Head.f_Len, .int .i64 t1.f_Flags, .slice A1 t1.f_Links.length c1, .int .i64 t1.f_Bits, .slice A2 t1.f_Routers.length c2, .slice A3 t1.f_Verts.length c3] :: (bk g1 35 [.int .i64 a1.f_Kind, .int .i64 a1.f_Id] :: ((D7) ++ (N25 ++ F)))))) HF193 (by rw [hN19]; simp only [List.append_assoc])
  exact ofEnv (fun a hE => ⟨_, (Option.some.inj H).symm, ⟨(D7), _, _, L29, hE.keep (Keep.cons rfl (Keep.cons rfl (Keep.cons rfl (Keep.cons rfl (Keep.cons rfl (Keep.cons rfl (Keep.nil))))))), HF217, ho29⟩⟩)
 rintro s5 a w140 rfl ⟨D7, A65, c120, L29, hE, HF218, ho29⟩
 replace H := Ho5
 refine go_k hE ?_
 obtain ⟨N34, hN21⟩ : ∃ N_, N_ = D7 ++ N25 := ⟨_, rfl⟩
 have HF219 := HF218; rw [← List.append_assoc D7 N25 F, ← hN21] at HF219
 have hs35 : N25 ++ G ⊆ N34 ++ G := frz_s hN21
 refine kN (?_)
 refine hK60 _ _ ?_
 refine cSeq (fun K89 hK89 => ?_)
 refine cRgn [] trivial ?_
 refine sL (mv rfl) rfl ?_
 refine sL (asg rfl) rfl ?_
 refine lE ?_
 refine kN (?_)
 refine hK89 _ _ ?_
 refine cRet ?_
 obtain rfl := Option.some.inj H
 refine ret1 rfl rfl ?_
 have HF220 := HF219.sublist (sl_a (sl_dc (sl_dc sR)))
 have HF221 := Fits.conv (L' := (L29 ++ ((D7 ++ (D4 ++ N1)) ++ F))) HF220 (by rw [hN21, hN15] <;> rfl)
 have HF222 := HF221.sublist (sl_a (sl_da sR))
 exact ⟨_, _, L29, rfl, HF222, ho29⟩
/-! ### plenum/plenumref1.Mask (function 57) -/
abbrev f_plenumref1_Mask.R := Int
noncomputable def f_plenumref1_Mask (a0 : Int) : Option f_plenumref1_Mask.R := (if 0 ≤ (IntKind.u64.wrap (IntKind.i64.wrap (32 - (if (if 32 < a0 then 32 else a0) > 0 then (if 32 < a0 then 32 else a0) else 0)))) then some (bits .and .i64 (shlI .i64 4294967295 (IntKind.u64.wrap (IntKind.i64.wrap (32 - (if (if 32 < a0 then 32 else a0) > 0 then (if 32 < a0 then 32 else a0) else 0))))) 4294967295) else none)
set_option maxHeartbeats 1000000 in
theorem f_plenumref1_Mask.ok {z w : World} {F : Hp} {a0 : Int} {r : f_plenumref1_Mask.R} (H : f_plenumref1_Mask a0 = some r) (HF : Fits z w F) :
  Calls Try.prog 57 [.int .i64 a0].toArray w fun e w' => e = .returned (.int .i64 r) ∧ Fits z w' F := by
 unfold f_plenumref1_Mask at H
 refine enter0 Try.func57 rfl Try.ntmps57 rfl (E := [(0, .int .i64 a0)]) rfl ?_
 refine cSeq (fun K1 hK1 => ?_)
 refine cRgn [] trivial ?_
 refine sL (asg rfl) rfl ?_
 refine lE ?_
 refine kN (?_)
 refine hK1 _ _ ?_
 refine cSeq (fun K2 hK2 => ?_)
 refine cRgn [] trivial ?_
 refine sL (mv rfl) rfl ?_
 refine sL (mn2 rfl rfl) rfl ?_
 refine sL (mx2 rfl rfl) rfl ?_
 refine sL (asg rfl) rfl ?_
 refine lE ?_
 refine kN (?_)
 refine hK2 _ _ ?_
 refine cSeq (fun K3 hK3 => ?_)
 refine cRgn [] trivial ?_
 refine sL (mv rfl) rfl ?_
 refine sL (bSub rfl rfl) rfl ?_
 refine sL (cvI rfl Try.underlying3 Try.underlying57) rfl ?_
 replace H := chk H; obtain ⟨c1, H⟩ := H
 refine sL (bShl rfl rfl c1) rfl ?_
 refine sL (bAnd rfl rfl) rfl ?_
 refine sL (asg rfl) rfl ?_
 refine lE ?_
 refine kN (?_)
 refine hK3 _ _ ?_
 refine cRet ?_
 obtain rfl := Option.some.inj H
 refine ret1 rfl rfl ?_
 exact ⟨rfl, HF⟩
/-! ### plenum/plenumref1.Net (function 34) -/
abbrev f_plenumref1_Net.R := Int
noncomputable def f_plenumref1_Net (a0 : Int) (a1 : Int) : Option f_plenumref1_Net.R := ((f_plenumref1_Mask a1).bind fun t1 => some (bits .and .i64 (bits .and .i64 a0 4294967295) t1))
set_option maxHeartbeats 1000000 in
theorem f_plenumref1_Net.ok {z w : World} {F : Hp} {a0 : Int} {a1 : Int} {r : f_plenumref1_Net.R} (H : f_plenumref1_Net a0 a1 = some r) (HF : Fits z w F) :
  Calls Try.prog 34 [.int .i64 a0, .int .i64 a1].toArray w fun e w' => e = .returned (.int .i64 r) ∧ Fits z w' F := by
 unfold f_plenumref1_Net at H
 refine enter0 Try.func34 rfl Try.ntmps34 rfl (E := [(0, .int .i64 a0), (1, .int .i64 a1)]) rfl ?_
 refine cSeq (fun K1 hK1 => ?_)
 refine cRgn [] trivial ?_
 refine sL (asg rfl) rfl ?_
 refine lE ?_
 refine kN (?_)
 refine hK1 _ _ ?_
 refine cSeq (fun K2 hK2 => ?_)
 refine cRgn [] trivial ?_
 refine sL (mv rfl) rfl ?_
 refine sL (bAnd rfl rfl) rfl ?_
 refine sL (mv rfl) rfl ?_
 replace H := bnd H; obtain ⟨t1, J1, H⟩ := H
 refine eCall isf57 rfl rfl rfl (f_plenumref1_Mask.ok J1 HF) ?_
 rintro _ w1 ⟨rfl, HF1⟩
 refine ⟨_, rfl, ?_⟩
 refine sL (bAnd rfl rfl) rfl ?_
 refine sL (asg rfl) rfl ?_
 refine lE ?_
 refine kN (?_)
 refine hK2 _ _ ?_
 refine cRet ?_
 obtain rfl := Option.some.inj H
 refine ret1 rfl rfl ?_
 exact ⟨rfl, HF1⟩
/-! ### plenum/plenumref1.Bits (function 35) -/
abbrev f_plenumref1_Bits.R := Int
noncomputable def f_plenumref1_Bits.b0 (a0 : Int) (s1 : Int) : Option (Sum (Int) (Sum (Int) f_plenumref1_Bits.R)) := (if s1 ≤ 32 then ((f_plenumref1_Mask s1).bind fun t3 => (if t3 = a0 then some (.inr (.inr s1)) else some (.inl (IntKind.i64.wrap (s1 + 1))))) else some (.inr (.inl s1)))
noncomputable def f_plenumref1_Bits (a0 : Int) : Option f_plenumref1_Bits.R := ((loopO (f_plenumref1_Bits.b0 a0) 0).bind fun y1 => match y1 with | .inl s1 => some (-1) | .inr r_ => some r_)
set_option maxHeartbeats 1000000 in
theorem f_plenumref1_Bits.ok {z w : World} {F : Hp} {a0 : Int} {r : f_plenumref1_Bits.R} (H : f_plenumref1_Bits a0 = some r) (HF : Fits z w F) :
  Calls Try.prog 35 [.int .i64 a0].toArray w fun e w' => e = .returned (.int .i64 r) ∧ Fits z w' F := by
 unfold f_plenumref1_Bits at H
 refine enter0 Try.func35 rfl Try.ntmps35 rfl (E := [(0, .int .i64 a0)]) rfl ?_
 refine cSeq (fun K1 hK1 => ?_)
 refine cRgn [] trivial ?_
 refine sL (asg rfl) rfl ?_
 refine lE ?_
 refine kN (?_)
 refine hK1 _ _ ?_
 refine cSeq (fun K2 hK2 => ?_)
 refine cSeq (fun K3 hK3 => ?_)
 refine cRgn [] trivial ?_
 refine sL (asg rfl) rfl ?_
 refine lE ?_
 refine kN (?_)
 refine hK3 _ _ ?_
 replace H := bnd H; obtain ⟨y1, J4, Ho1⟩ := H
 refine cLoopB (f_plenumref1_Bits.b0 a0) (fun (s1 : Int) a w => Env 13 [(0, .int .i64 a0), (2, .int .i64 0), (3, .int .i64 s1)] a ∧ Fits z w F) J4 (fun a hE => ⟨hE.keep (Keep.cons rfl (Keep.cons rfl (Keep.cons rfl (Keep.nil)))), HF⟩) ?_ ?_
 ·rintro s1 a w3 y2 ⟨hE, HF3⟩ H Hx1
  refine go_ hE ?_
  refine cSeq (fun K14 hK14 => ?_)
  refine cSeq (fun K15 hK15 => ?_)
  refine cRgn [] trivial ?_
  refine sL (mv rfl) rfl ?_
  refine sL (bLeq rfl rfl) rfl ?_
  refine lE ?_
  refine kN (?_)
  refine hK15 _ _ ?_
  by_cases c4 : s1 ≤ 32
  ·replace H := itT c4 H
   refine cSet (i := 5) rfl (dT c4) ?_
   refine cT rfl ?_
   refine cSkip ?_
   refine kN (?_)
   refine hK14 _ _ ?_
   refine cSeq (fun K16 hK16 => ?_)
   refine cBlock ?_
   refine cSeq (fun K17 hK17 => ?_)
   refine cRgn [] trivial ?_
   refine sL (mv rfl) rfl ?_
   replace H := bnd H; obtain ⟨t3, J3, H⟩ := H
   refine eCall isf57 rfl rfl rfl (f_plenumref1_Mask.ok J3 HF3) ?_
   rintro _ w4 ⟨rfl, HF4⟩
   refine ⟨_, rfl, ?_⟩
   refine sL (mv rfl) rfl ?_
   refine sL (bEql rfl rfl) rfl ?_
   refine lE ?_
   refine kN (?_)
   refine hK17 _ _ ?_
   by_cases c5 : t3 = a0
   ·replace H := itT c5 H
    refine cSet (i := 11) rfl (dT c5) ?_
    refine cT rfl ?_
    refine cSeq (fun K18 hK18 => ?_)
    refine cRgn [] trivial ?_
    refine sL (mv rfl) rfl ?_
    refine sL (asg rfl) rfl ?_
    refine lE ?_
    refine kN (?_)
    refine hK18 _ _ ?_
    refine cRet ?_
    have e_ := Hx1 _ (Option.some.inj H).symm
    subst e_
    replace H := Ho1
    obtain rfl := Option.some.inj H
    refine jR (kR (kR (jR (kR (kR (?_))))))
    refine ret1 rfl rfl ?_
    exact ⟨rfl, HF4⟩
   replace H := itF c5 H
   refine cSet (i := 11) rfl (dF c5) ?_
   refine cF rfl ?_
   refine cSkip ?_
   refine jN (kN (?_))
   refine hK16 _ _ ?_
   refine cRgn [] trivial ?_
   refine sL (mv rfl) rfl ?_
   refine sL (bAdd rfl rfl) rfl ?_
   refine sL (asg rfl) rfl ?_
   refine lE ?_
   refine kN (?_)
   exact ofEnv (fun a hE => ⟨_, (Option.some.inj H).symm, ⟨hE.keep (Keep.cons rfl (Keep.cons rfl (Keep.cons rfl (Keep.nil)))), HF4⟩⟩)
  replace H := itF c4 H
  refine cSet (i := 5) rfl (dF c4) ?_
  refine cF rfl ?_
  refine cExit ?_
  refine kX (kX (jX (kN (?_))))
  exact ofEnv (fun a hE => ⟨_, (Option.some.inj H).symm, ⟨hE.keep (Keep.cons rfl (Keep.cons rfl (Keep.cons rfl (Keep.nil)))), HF3⟩⟩)
 rintro s1 a w5 rfl ⟨hE, HF5⟩
 replace H := Ho1
 refine go_k hE ?_
 refine kN (?_)
 refine hK2 _ _ ?_
 refine cSeq (fun K19 hK19 => ?_)
 refine cRgn [] trivial ?_
 refine sL (asg rfl) rfl ?_
 refine lE ?_
 refine kN (?_)
 refine hK19 _ _ ?_
 refine cRet ?_
 obtain rfl := Option.some.inj H
 refine ret1 rfl rfl ?_
 exact ⟨rfl, HF5⟩
/-! ### plenum/plenumref17.Map (function 15) -/
abbrev f_plenumref17_Map.R := T_api_Map
noncomputable def f_plenumref17_Map.b0 (t1 : List T_api_Vert) (s11 : Int × (List T_api_Edge) × (List T_api_Stub) × (List T_api_Span) × (List Int)) (t32 : T_api_Lsa) (s15 : Int × (List T_api_Stub)) : Option (Sum (Int × (List T_api_Stub)) (Sum (Int × (List T_api_Stub)) f_plenumref17_Map.R)) := (if s15.1 < (t32.f_Links.length : Int) then (if 0 ≤ s15.1 then ((f_plenumref1_Bits ((rd t32.f_Links s15.1).f_Data)).bind fun t44 => ((((if ((rd t32.f_Links s15.1).f_Kind) = 3 then some (.inl (decide (0 ≤ t44))) else some (.inl false)) : Option (Sum (Bool) f_plenumref17_Map.R))).bind fun y20 => match y20 with | .inl s16 => (if s16 = true then ((f_plenumref1_Net ((rd t32.f_Links s15.1).f_Id) t44).bind fun t46 => (if (s15.2.length + 1) * 32 ≤ 140737488355328 then some (.inl (IntKind.i64.wrap (s15.1 + 1), (s15.2 ++ [(⟨(rd t1 s11.1).f_Id, t46, t44, (rd t32.f_Links s15.1).f_Cost⟩ : T_api_Stub)]))) else none)) else some (.inl (IntKind.i64.wrap (s15.1 + 1), s15.2))) | .inr r_ => some (.inr (.inr r_)))) else none) else some (.inr (.inl (s15.1, s15.2))))
noncomputable def f_plenumref17_Map.b1 (a0 : List T_api_Lsa) (t1 : List T_api_Vert) (s11 : Int × (List T_api_Edge) × (List T_api_Stub) × (List T_api_Span) × (List Int)) : Option (Sum (Int × (List T_api_Edge) × (List T_api_Stub) × (List T_api_Span) × (List Int)) (Sum (Int × (List T_api_Edge) × (List T_api_Stub) × (List T_api_Span) × (List Int)) f_plenumref17_Map.R)) := (if s11.1 < (t1.length : Int) then (if 0 ≤ s11.1 then ((f_plenumref17_find a0 (rd t1 s11.1)).bind fun (t32, t33) => ((f_plenumref17_from a0 (rd t1 s11.1)).bind fun t35 => (if (s11.2.1.length + t35.length) * 48 ≤ 140737488355328 then (if ((rd t1 s11.1).f_Kind) = 2 then ((f_plenumref1_Net ((rd t1 s11.1).f_Id) t32.f_Bits).bind fun t37 => (if (s11.2.2.2.1.length + 1) * 32 ≤ 140737488355328 then some (.inl (IntKind.i64.wrap (s11.1 + 1), (s11.2.1 ++ t35), s11.2.2.1, (s11.2.2.2.1 ++ [(⟨(⟨(rd t1 s11.1).f_Kind, (rd t1 s11.1).f_Id⟩ : T_api_Vert), t37, t32.f_Bits⟩ : T_api_Span)]), s11.2.2.2.2)) else none)) else ((((if (bits .and .i64 t32.f_Flags 8) = 0 then some (.inl s11.2.2.2.2) else (if (s11.2.2.2.2.length + 1) * 8 ≤ 140737488355328 then some (.inl (s11.2.2.2.2 ++ [(rd t1 s11.1).f_Id])) else none)) : Option (Sum ((List Int)) f_plenumref17_Map.R))).bind fun y15 => match y15 with | .inl s12 => ((loopO (f_plenumref17_Map.b0 t1 s11 t32) (0, s11.2.2.1)).bind fun y18 => match y18 with | .inl s15 => some (.inl (IntKind.i64.wrap (s11.1 + 1), (s11.2.1 ++ t35), s15.2, s11.2.2.2.1, s12)) | .inr r_ => some (.inr (.inr r_))) | .inr r_ => some (.inr (.inr r_)))) else none))) else none) else some (.inr (.inl (s11.1, s11.2.1, s11.2.2.1, s11.2.2.2.1, s11.2.2.2.2))))
noncomputable def f_plenumref17_Map (a0 : List T_api_Lsa) : Option f_plenumref17_Map.R := ((f_plenumref17_verts a0).bind fun t1 => ((loopO (f_plenumref17_Map.b1 a0 t1) (0, [], [], [], [])).bind fun y13 => match y13 with | .inl s11 => some (⟨t1, s11.2.1, s11.2.2.1, s11.2.2.2.1, s11.2.2.2.2⟩ : T_api_Map) | .inr r_ => some r_))
set_option maxHeartbeats 1000000 in
theorem f_plenumref17_Map.ok {z w : World} {F G : Hp} (hG : G ⊆ F) {a0 : List T_api_Lsa} {A_a0 : Option Addr} {c_a0 : Nat} {X_a0 : Hp} {r : f_plenumref17_Map.R} (H : f_plenumref17_Map a0 = some r) (HF : Fits z w F) (hX_a0 : X_a0 ⊆ F) (hr_a0 : RdS (kShr G k_T_api_Lsa) X_a0 A_a0 c_a0 a0) :
  Calls Try.prog 15 [.slice A_a0 a0.length c_a0].toArray w fun e w' => ∃ (N : Hp) (A0 : Option Addr) (c0 : Nat) (A2 : Option Addr) (c2 : Nat) (A4 : Option Addr) (c4 : Nat) (A6 : Option Addr) (c6 : Nat) (A8 : Option Addr) (c8 : Nat), e = .returned (.agg [.slice A0 r.f_Verts.length c0, .slice A2 r.f_Edges.length c2, .slice A4 r.f_Stubs.length c4, .slice A6 r.f_Spans.length c6, .slice A8 r.f_Wilds.length c8].toArray) ∧ Fits z w' (N ++ F) ∧ RdS k_T_api_Vert (N ++ G) A0 c0 r.f_Verts ∧ RdS k_T_api_Edge (N ++ G) A2 c2 r.f_Edges ∧ RdS k_T_api_Stub (N ++ G) A4 c4 r.f_Stubs ∧ RdS k_T_api_Span (N ++ G) A6 c6 r.f_Spans ∧ RdS (kInt .i64) (N ++ G) A8 c8 r.f_Wilds := by
 unfold f_plenumref17_Map at H
 refine enter0 Try.func15 rfl Try.ntmps15 rfl (E := [(0, .slice A_a0 a0.length c_a0)]) rfl ?_
 refine cSeq (fun K1 hK1 => ?_)
 refine cRgn [] trivial ?_
 refine eW (oAlloc HF ti32) rfl ?_
 rintro _ w1 ⟨g1, rfl, HF1⟩
 refine lE ?_
 refine kN (?_)
 refine hK1 _ _ ?_
 refine cSeq (fun K2 hK2 => ?_)
 refine cRgn [] trivial ?_
 refine sL (mv rfl) rfl ?_
 replace H := bnd H; obtain ⟨t1, J1, H⟩ := H
 refine eCall isf31 rfl rfl rfl (f_plenumref17_verts.ok (a0 := a0) (sub_c hG) J1 HF1 (sub_c hX_a0) hr_a0) ?_
 rintro _ w2 ⟨A1, c1, L1, rfl, HF2, ho1⟩
 refine ⟨_, rfl, ?_⟩
 refine sL (bd (r := [.slice A1 t1.length c1, .slice none 0 0, .slice none 0 0, .slice none 0 0, .slice none 0 0]) pl32 ti32 rfl rfl) rfl ?_
 refine eW (oAlloc HF2 ti32) rfl ?_
 rintro _ w3 ⟨g2, rfl, HF3⟩
 refine eS (oSt (l1 := [.slice A1 t1.length c1, .slice none 0 0, .slice none 0 0, .slice none 0 0, .slice none 0 0]) HF3 rfl rfl ti32 rfl (ones rfl) (Nat.le_of_ble_eq_true rfl) rfl) ?_
 rintro w4 HF4
 refine lE ?_
 refine kN (?_)
 refine hK2 _ _ ?_
 refine cSeq (fun K3 hK3 => ?_)
 refine cSeq (fun K4 hK4 => ?_)
 refine cRgn [] trivial ?_
 refine sL (asg rfl) rfl ?_
 refine lE ?_
 refine kN (?_)
 refine hK4 _ _ ?_
 replace H := bnd H; obtain ⟨y13, J47, Ho11⟩ := H
 refine cLoopB (f_plenumref17_Map.b1 a0 t1) (fun (s11 : Int × (List T_api_Edge) × (List T_api_Stub) × (List T_api_Span) × (List Int)) a w => ∃ (D2 : Hp) (A66 : Option Addr) (c121 : Nat) (L60 : Hp) (A67 : Option Addr) (c122 : Nat) (L61 : Hp) (A68 : Option Addr) (c123 : Nat) (L62 : Hp) (A69 : Option Addr) (c124 : Nat) (L63 : Hp), Env 115 [(0, .slice A_a0 a0.length c_a0), (2, .pointer (some ⟨g1, 0, none⟩)), (3, .pointer (some ⟨g2, 0, none⟩)), (4, .int .i64 s11.1)] a ∧ Fits z w (L60 ++ (L61 ++ (L62 ++ (L63 ++ (bk g2 32 [.slice A1 t1.length c1, .slice A66 s11.2.1.length c121, .slice A67 s11.2.2.1.length c122, .slice A68 s11.2.2.2.1.length c123, .slice A69 s11.2.2.2.2.length c124] :: (L1 ++ (bk g1 32 [.slice none 0 0, .slice none 0 0, .slice none 0 0, .slice none 0 0, .slice none 0 0] :: (D2 ++ F)))))))) ∧ OwnS k_T_api_Edge L60 A66 c121 s11.2.1 ∧ OwnS k_T_api_Stub L61 A67 c122 s11.2.2.1 ∧ OwnS k_T_api_Span L62 A68 c123 s11.2.2.2.1 ∧ OwnS (kInt .i64) L63 A69 c124 s11.2.2.2.2) J47 (fun a hE => ⟨[], none, 0, [], none, 0, [], none, 0, [], none, 0, [], hE.keep (Keep.cons rfl (Keep.cons rfl (Keep.cons rfl (Keep.cons rfl (Keep.nil))))), HF4, OwnS.nil, OwnS.nil, OwnS.nil, OwnS.nil⟩) ?_ ?_
 ·rintro s11 a w131 y14 ⟨D2, A66, c121, L60, A67, c122, L61, A68, c123, L62, A69, c124, L63, hE, HF259, ho60, ho61, ho62, ho63⟩ H Hx3
  refine go_ hE ?_
  have hs4 : G ⊆ D2 ++ G := sub_a sub_r
  refine cSeq (fun K59 hK59 => ?_)
  refine cSeq (fun K60 hK60 => ?_)
  refine cRgn [] trivial ?_
  refine sL (mv rfl) rfl ?_
  refine sL (fa32_0 rfl) rfl ?_
  refine sL (ld rfl Try.underlying26 rfl (HF259.box (mem_a (mem_a (mem_a (mem_a mem_h)))) rfl)) rfl ?_
  refine sL (lnS rfl Try.underlying26) rfl ?_
  refine sL (bLss rfl rfl) rfl ?_
  refine lE ?_
  refine kN (?_)
  refine hK60 _ _ ?_
  by_cases c125 : s11.1 < (t1.length : Int)
  ·replace H := itT c125 H
   refine cSet (i := 17) rfl (dT c125) ?_
   refine cT rfl ?_
   refine cSkip ?_
   refine kN (?_)
   refine hK59 _ _ ?_
   refine cSeq (fun K61 hK61 => ?_)
   refine cBlock ?_
   refine cSeq (fun K62 hK62 => ?_)
   refine cRgn [] trivial ?_
   refine sL (fa32_0 rfl) rfl ?_
   refine sL (ld rfl Try.underlying26 rfl (HF259.box (mem_a (mem_a (mem_a (mem_a mem_h)))) rfl)) rfl ?_
   refine sL (mv rfl) rfl ?_
   replace H := chk H; obtain ⟨c126, H⟩ := H
   obtain ⟨g15, o9, _, rfl, rfl, q45⟩ := RdS.at_ ho1.rd c126 c125
   refine sL (ia rfl rfl Try.underlying26 ti35 c126 c125) rfl ?_
   refine sL (ldA rfl ti35 rfl rfl (fun j v hj => HF259.cells ((sub_a (sub_a (sub_a (sub_a (sub_c sub_h)))))) (q45 j v hj))) rfl ?_
   refine eW (oAlloc HF259 ti35) rfl ?_
   rintro _ w132 ⟨g16, rfl, HF260⟩
   refine eS (oSt (l1 := [.int .i64 ((rd t1 s11.1).f_Kind), .int .i64 ((rd t1 s11.1).f_Id)]) HF260 rfl rfl ti35 rfl (ones rfl) (Nat.le_of_ble_eq_true rfl) rfl) ?_
   rintro w133 HF261
   refine lE ?_
   refine kN (?_)
   refine hK62 _ _ ?_
   refine cSeq (fun K63 hK63 => ?_)
   refine cRgn [] trivial ?_
   refine sL (mv rfl) rfl ?_
   refine sL (ldA (cs := [.int .i64 ((rd t1 s11.1).f_Kind), .int .i64 ((rd t1 s11.1).f_Id)]) rfl ti35 rfl rfl (HF261.boxes (o := 0) (n := 2) (mem_h) rfl)) rfl ?_
   replace H := bnd H; obtain ⟨⟨t32, t33⟩, J32, H⟩ := H
   refine eCall isf32 rfl rfl rfl (f_plenumref17_find.ok (a0 := a0) (a1 := (rd t1 s11.1)) (sub_c (sub_a (sub_a (sub_a (sub_a (sub_c (sub_a (sub_c (sub_n hG))))))))) J32 HF261 (sub_c (sub_a (sub_a (sub_a (sub_a (sub_c (sub_a (sub_c (sub_a hX_a0))))))))) (RdS.lift hr_a0 hs4 sub_r)) ?_
   rintro _ w134 ⟨N4, A70, c127, A71, c128, A72, c129, rfl, HF262, hr10, hr11, hr12⟩
   have HF263 := HF262.perm (perm_c (perm_f (perm_f (perm_f (perm_f (perm_c (perm_f (perm_c pR)))))))).symm
   obtain ⟨N5, hN2⟩ : ∃ N_, N_ = N4 ++ D2 := ⟨_, rfl⟩
   have HF264 := HF263; rw [← List.append_assoc N4 D2 F, ← hN2] at HF264
   have hs5 : D2 ++ G ⊆ N5 ++ G := frz_s hN2
   have hr13 := RdS.mono (Y := (N5 ++ G)) hr10 (frz_c hN2)
   have hr14 := RdS.mono (Y := (N5 ++ G)) hr11 (frz_c hN2)
   have hr15 := RdS.mono (Y := (N5 ++ G)) hr12 (frz_c hN2)
   refine ⟨_, rfl, ?_⟩
   refine sL (mv rfl) rfl ?_
   refine sL (ex rfl rfl) rfl ?_
   refine sL (ex rfl rfl) rfl ?_
   refine eW (oAlloc HF264 ti44) rfl ?_
   rintro _ w135 ⟨g17, rfl, HF265⟩
   refine eS (oSt (l1 := [.int .i64 t32.f_Head.f_Age, .int .i64 t32.f_Head.f_Kind, .int .i64 t32.f_Head.f_Id, .int .i64 t32.f_Head.f_Adv, .int .i64 t32.f_Head.f_Seq, .int .i64 t32.f_Head.f_Sum, .int .i64 t32.f_Head.f_Len, .int .i64 t32.f_Flags, .slice A70 t32.f_Links.length c127, .int .i64 t32.f_Bits, .slice A71 t32.f_Routers.length c128, .slice A72 t32.f_Verts.length c129]) HF265 rfl rfl ti44 rfl (ones rfl) (Nat.le_of_ble_eq_true rfl) rfl) ?_
   rintro w136 HF266
   refine sL (asg rfl) rfl ?_
   refine lE ?_
   refine kN (?_)
   refine hK63 _ _ ?_
   refine cSeq (fun K64 hK64 => ?_)
   refine cDraw mo_ HF266 rfl (fun w => Fits z w (bk g17 44 [.int .i64 t32.f_Head.f_Age, .int .i64 t32.f_Head.f_Kind, .int .i64 t32.f_Head.f_Id, .int .i64 t32.f_Head.f_Adv, .int .i64 t32.f_Head.f_Seq, .int .i64 t32.f_Head.f_Sum, .int .i64 t32.f_Head.f_Len, .int .i64 t32.f_Flags, .slice A70 t32.f_Links.length c127, .int .i64 t32.f_Bits, .slice A71 t32.f_Routers.length c128, .slice A72 t32.f_Verts.length c129] :: (bk g16 35 [.int .i64 ((rd t1 s11.1).f_Kind), .int .i64 ((rd t1 s11.1).f_Id)] :: (L61 ++ (L62 ++ (L63 ++ (L1 ++ (bk g1 32 [.slice none 0 0, .slice none 0 0, .slice none 0 0, .slice none 0 0, .slice none 0 0] :: (N5 ++ F))))))))) (fun w140 HF273 => ?_)
   have HF274 := HF273.sublist (sl_c (sl_c (sl_da (sl_a (sl_a (sl_a (sl_dc (sl_a (sl_c sR)))))))))
   refine hT 0 rfl (by kernel_rfl) (fun w_ hS_ => fa32_1 rfl) HF274 rfl rfl ?_
   refine hT 2 rfl (by kernel_rfl) (fun w_ hS_ => mv rfl) HF274 rfl rfl ?_
   refine hT 3 rfl (by kernel_rfl) (fun w_ hS_ => ldA (cs := [.int .i64 ((rd t1 s11.1).f_Kind), .int .i64 ((rd t1 s11.1).f_Id)]) rfl ti35 rfl rfl (hS_.boxes (o := 0) (n := 2) (mem_c mem_h) rfl)) HF274 rfl rfl ?_
   refine h2 1 4 (by kernel_rfl) rfl rfl ?_ ?_
   ·refine qL rfl gd0 (ld rfl Try.underlying27 rfl (HF273.box (mem_c (mem_c (mem_a (mem_a (mem_a (mem_a mem_h)))))) rfl)) rfl HF274 ?_
    refine h1 4 (by kernel_rfl) rfl ?_
    replace H := bnd H; obtain ⟨t35, J34, H⟩ := H
    refine qCall rfl gd0 isf33 rfl rfl rfl (f_plenumref17_from.ok (a0 := a0) (a1 := (rd t1 s11.1)) (sub_c (sub_c (sub_a (sub_a (sub_a (sub_a (sub_c (sub_a (sub_c (sub_n hG)))))))))) J34 HF273 (sub_c (sub_c (sub_a (sub_a (sub_a (sub_a (sub_c (sub_a (sub_c (sub_a hX_a0)))))))))) (RdS.lift hr_a0 (sub_t hs4 hs5) sub_r)) ?_
    rintro _ w141 ⟨A75, c133, L66, rfl, HF275, ho66⟩
    have HF276 := HF275.sublist (sl_da (sl_c (sl_c (sl_da (sl_a (sl_a (sl_a (sl_dc (sl_a (sl_c sR))))))))))
    refine ⟨_, rfl, HF276, ?_⟩
    refine h1 5 (by kernel_rfl) rfl ?_
    replace H := chk H; obtain ⟨c134, H⟩ := H
    have HF277 := HF275.perm (perm_f (perm_c (perm_c pR)))
    refine qW rfl gd0 (oApp (xs := s11.2.1) (ys := t35) k_T_api_Edge HF277 rfl rfl Try.underlying27 Try.underlying27 ti37 rfl ho60 (srcR shrF ho66.rd HF277 (sub_a sub_h)) c134 rfl) rfl ?_
    rintro _ w142 ⟨L67, A76, c135, rfl, HF278, ho67⟩
    have HF279 := HF278.sublist (sl_da (sl_da (sl_c (sl_c (sl_a (sl_a (sl_a (sl_dc (sl_a (sl_c sR))))))))))
    refine ⟨HF279, ?_⟩
    refine hT 6 rfl (by kernel_rfl) (fun w_ hS_ => fa32_1 rfl) HF279 rfl rfl ?_
    refine h1 7 (by kernel_rfl) rfl ?_
    have HF280 := HF278.perm (perm_f1 (perm_f1 (perm_c1 (perm_c1 (perm_f1 (perm_f1 (perm_f1 pR)))))))
    refine qS rfl gd0 (oSt1 (l1 := [.slice (some ⟨g15, o9, none⟩) t1.length c1, .slice A76 (s11.2.1 ++ t35).length c135, .slice A67 s11.2.2.1.length c122, .slice A68 s11.2.2.2.1.length c123, .slice A69 s11.2.2.2.2.length c124]) HF280 rfl rfl ti27 rfl rfl rfl) ?_
    rintro w143 HF281
    have HF282 := HF281.sublist (sl_dc (sl_da (sl_da (sl_c (sl_c (sl_a (sl_a (sl_a (sl_a (sl_c sR))))))))))
    refine ⟨HF282, ?_⟩
    refine hEnd (by kernel_rfl) ?_
    refine kN (?_)
    refine hK64 _ _ ?_
    refine cSeq (fun K65 hK65 => ?_)
    refine cSeq (fun K66 hK66 => ?_)
    refine cRgn [] trivial ?_
    refine sL (fa35_0 rfl) rfl ?_
    refine sL (ld rfl Try.underlying3 rfl (HF281.box (mem_c (mem_a (mem_a (mem_c mem_h)))) rfl)) rfl ?_
    refine sL (bEql rfl rfl) rfl ?_
    refine lE ?_
    refine kN (?_)
    refine hK66 _ _ ?_
    by_cases c136 : ((rd t1 s11.1).f_Kind) = 2
    ·replace H := itT c136 H
     refine cSet (i := 40) rfl (dT c136) ?_
     refine cT rfl ?_
     refine cSeq (fun K67 hK67 => ?_)
     refine cDraw mo_ HF281 rfl (fun w => Fits z w (L67 ++ (L66 ++ (bk g17 44 [.int .i64 t32.f_Head.f_Age, .int .i64 t32.f_Head.f_Kind, .int .i64 t32.f_Head.f_Id, .int .i64 t32.f_Head.f_Adv, .int .i64 t32.f_Head.f_Seq, .int .i64 t32.f_Head.f_Sum, .int .i64 t32.f_Head.f_Len, .int .i64 t32.f_Flags, .slice A70 t32.f_Links.length c127, .int .i64 t32.f_Bits, .slice A71 t32.f_Routers.length c128, .slice A72 t32.f_Verts.length c129] :: (bk g16 35 [.int .i64 ((rd t1 s11.1).f_Kind), .int .i64 ((rd t1 s11.1).f_Id)] :: (L61 ++ (L63 ++ (L1 ++ (bk g1 32 [.slice none 0 0, .slice none 0 0, .slice none 0 0, .slice none 0 0, .slice none 0 0] :: (N5 ++ F)))))))))) (fun w148 HF290 => ?_)
     have HF291 := HF290.sublist (sl_dc (sl_a (sl_a (sl_c (sl_c (sl_a (sl_da (sl_a (sl_a (sl_c sR))))))))))
     refine hT 0 rfl (by kernel_rfl) (fun w_ hS_ => fa32_3 rfl) HF291 rfl rfl ?_
     refine hT 2 rfl (by kernel_rfl) (fun w_ hS_ => ldA (cs := [.int .i64 ((rd t1 s11.1).f_Kind), .int .i64 ((rd t1 s11.1).f_Id)]) rfl ti35 rfl rfl (hS_.boxes (o := 0) (n := 2) (mem_a (mem_a (mem_c mem_h))) rfl)) HF291 rfl rfl ?_
     refine hT 3 rfl (by kernel_rfl) (fun w_ hS_ => fa35_1 rfl) HF291 rfl rfl ?_
     refine hT 4 rfl (by kernel_rfl) (fun w_ hS_ => ld rfl Try.underlying3 rfl (hS_.box (mem_a (mem_a (mem_c mem_h))) rfl)) HF291 rfl rfl ?_
     refine hT 5 rfl (by kernel_rfl) (fun w_ hS_ => fa44_3 rfl) HF291 rfl rfl ?_
     refine hT 6 rfl (by kernel_rfl) (fun w_ hS_ => ld rfl Try.underlying3 rfl (hS_.box (mem_a (mem_a mem_h)) rfl)) HF291 rfl rfl ?_
     refine hT 8 rfl (by kernel_rfl) (fun w_ hS_ => fa44_3 rfl) HF291 rfl rfl ?_
     refine hT 9 rfl (by kernel_rfl) (fun w_ hS_ => ld rfl Try.underlying3 rfl (hS_.box (mem_a (mem_a mem_h)) rfl)) HF291 rfl rfl ?_
     refine h2 1 7 (by kernel_rfl) rfl rfl ?_ ?_
     ·refine qL rfl gd0 (ld rfl Try.underlying29 rfl (HF290.box (mem_h) rfl)) rfl HF291 ?_
      refine h1 7 (by kernel_rfl) rfl ?_
      replace H := bnd H; obtain ⟨t37, J36, H⟩ := H
      refine qCall rfl gd0 isf34 rfl rfl rfl (f_plenumref1_Net.ok J36 HF290) ?_
      rintro _ w149 ⟨rfl, HF292⟩
      have HF293 := HF292.sublist (sl_dc (sl_a (sl_a (sl_c (sl_c (sl_a (sl_da (sl_a (sl_a (sl_c sR))))))))))
      refine ⟨_, rfl, HF293, ?_⟩
      refine hT 10 rfl (by kernel_rfl) (fun w_ hS_ => bd (r := [.int .i64 ((rd t1 s11.1).f_Kind), .int .i64 ((rd t1 s11.1).f_Id), .int .i64 t37, .int .i64 t32.f_Bits]) pl74 ti74 rfl rfl) HF293 rfl rfl ?_
      refine h1 11 (by kernel_rfl) rfl ?_
      refine qW rfl gd0 (oLit (r := [.int .i64 ((rd t1 s11.1).f_Kind), .int .i64 ((rd t1 s11.1).f_Id), .int .i64 t37, .int .i64 t32.f_Bits]) k_T_api_Span [(⟨(⟨(rd t1 s11.1).f_Kind, (rd t1 s11.1).f_Id⟩ : T_api_Vert), t37, t32.f_Bits⟩ : T_api_Span)] HF292 Try.underlying29 ti74 rfl rfl rfl rfl ⟨[], [], [.int .i64 ((rd t1 s11.1).f_Kind), .int .i64 ((rd t1 s11.1).f_Id), .int .i64 t37, .int .i64 t32.f_Bits], _, rfl, rfl, ⟨rfl, rfl⟩, ⟨rfl, rfl⟩⟩ rfl rfl) rfl ?_
      rintro _ w150 ⟨L70, A79, c140, rfl, HF294, ho70⟩
      have HF295 := HF294.sublist (sl_da (sl_dc (sl_a (sl_a (sl_c (sl_c (sl_a (sl_da (sl_a (sl_a (sl_c sR)))))))))))
      refine ⟨HF295, ?_⟩
      refine h1 12 (by kernel_rfl) rfl ?_
      replace H := chk H; obtain ⟨c141, H⟩ := H
      have HF296 := HF294.perm (perm_f (perm_c (perm_f (perm_f (perm_c (perm_c (perm_f pR)))))))
      refine qW rfl gd0 (oApp (xs := s11.2.2.2.1) (ys := ([(⟨(⟨(rd t1 s11.1).f_Kind, (rd t1 s11.1).f_Id⟩ : T_api_Vert), t37, t32.f_Bits⟩ : T_api_Span)])) k_T_api_Span HF296 rfl rfl Try.underlying29 Try.underlying29 ti74 rfl ho62 (srcR shrF ho70.rd HF296 (sub_a sub_h)) c141 rfl) rfl ?_
      rintro _ w151 ⟨L71, A80, c142, rfl, HF297, ho71⟩
      have HF298 := HF297.sublist (sl_da (sl_da (sl_dc (sl_a (sl_a (sl_c (sl_c (sl_a (sl_a (sl_a (sl_c sR)))))))))))
      refine ⟨HF298, ?_⟩
      refine hT 13 rfl (by kernel_rfl) (fun w_ hS_ => fa32_3 rfl) HF298 rfl rfl ?_
      refine h1 14 (by kernel_rfl) rfl ?_
      have HF299 := HF297.perm (perm_f1 (perm_f1 pR))
      refine qS rfl gd0 (oSt1 (l1 := [.slice (some ⟨g15, o9, none⟩) t1.length c1, .slice A76 (s11.2.1 ++ t35).length c135, .slice A67 s11.2.2.1.length c122, .slice A80 (s11.2.2.2.1 ++ [(⟨(⟨(rd t1 s11.1).f_Kind, (rd t1 s11.1).f_Id⟩ : T_api_Vert), t37, t32.f_Bits⟩ : T_api_Span)]).length c142, .slice A69 s11.2.2.2.2.length c124]) HF299 rfl rfl ti29 rfl rfl rfl) ?_
      rintro w152 HF300
      have HF301 := HF300.sublist (sl_dc (sl_da (sl_da (sl_a (sl_a (sl_c (sl_c (sl_a (sl_a (sl_a (sl_c sR)))))))))))
      refine ⟨HF301, ?_⟩
      refine hEnd (by kernel_rfl) ?_
      refine kN (?_)
      refine hK67 _ _ ?_
      refine cExit ?_
      refine kX (jX (kN (?_)))
      refine hK61 _ _ ?_
      refine cRgn [] trivial ?_
      refine sL (mv rfl) rfl ?_
      refine sL (bAdd rfl rfl) rfl ?_
      refine sL (asg rfl) rfl ?_
      refine lE ?_
      refine kN (?_)
      have HF302 := HF300.sublist (sl_c (sl_a (sl_da (sl_a (sl_da (sl_dc (sl_dc (sl_a (sl_a (sl_a (sl_c sR)))))))))))
      have HF303 := HF302.perm (perm_c1 (perm_f1 (perm_f1 (perm_f1 (perm_f1 (perm_f1 pR))))))
      have HF304 := HF303.perm (perm_c (perm_c (perm_f (perm_f (perm_f (perm_f pR))))))
      have HF305 := HF304.perm (perm_f1 (perm_c1 pR))
      have HF306 := HF305.perm (perm_c (perm_f (perm_c (perm_f (perm_f (perm_f pR))))))
      have HF307 := HF306.perm (perm_f (perm_c (perm_f (perm_c pR))))
      have HF308 := HF307.perm (perm_f (perm_f (perm_c (perm_f (perm_c (perm_f pR))))))
      have HF309 := HF308.perm (perm_f (perm_f (perm_f (perm_c (perm_f (perm_c pR))))))
      exact ofEnv (fun a hE => ⟨_, (Option.some.inj H).symm, ⟨N5, _, _, L67, _, _, L61, _, _, L71, _, _, L63, hE.keep (Keep.cons rfl (Keep.cons rfl (Keep.cons rfl (Keep.cons rfl (Keep.nil))))), HF309, ho67, ho61, ho71, ho63⟩⟩)
     replace H := bnd H; obtain ⟨t37, J36, H⟩ := H
     refine qCall rfl gd0 isf34 rfl rfl rfl (f_plenumref1_Net.ok J36 HF290) ?_
     rintro _ w149 ⟨rfl, HF292⟩
     have HF293 := HF292.sublist (sl_dc (sl_a (sl_a (sl_c (sl_c (sl_a (sl_da (sl_a (sl_a (sl_c sR))))))))))
     refine ⟨_, rfl, HF293, ?_⟩
     refine hT 10 rfl (by kernel_rfl) (fun w_ hS_ => bd (r := [.int .i64 ((rd t1 s11.1).f_Kind), .int .i64 ((rd t1 s11.1).f_Id), .int .i64 t37, .int .i64 t32.f_Bits]) pl74 ti74 rfl rfl) HF293 rfl rfl ?_
     refine h2 1 11 (by kernel_rfl) rfl rfl ?_ ?_
     ·refine qL rfl gd0 (ld rfl Try.underlying29 rfl (HF292.box (mem_h) rfl)) rfl HF293 ?_
      refine h1 11 (by kernel_rfl) rfl ?_
      refine qW rfl gd0 (oLit (r := [.int .i64 ((rd t1 s11.1).f_Kind), .int .i64 ((rd t1 s11.1).f_Id), .int .i64 t37, .int .i64 t32.f_Bits]) k_T_api_Span [(⟨(⟨(rd t1 s11.1).f_Kind, (rd t1 s11.1).f_Id⟩ : T_api_Vert), t37, t32.f_Bits⟩ : T_api_Span)] HF292 Try.underlying29 ti74 rfl rfl rfl rfl ⟨[], [], [.int .i64 ((rd t1 s11.1).f_Kind), .int .i64 ((rd t1 s11.1).f_Id), .int .i64 t37, .int .i64 t32.f_Bits], _, rfl, rfl, ⟨rfl, rfl⟩, ⟨rfl, rfl⟩⟩ rfl rfl) rfl ?_
      rintro _ w150 ⟨L70, A79, c140, rfl, HF294, ho70⟩
      have HF295 := HF294.sublist (sl_da (sl_dc (sl_a (sl_a (sl_c (sl_c (sl_a (sl_da (sl_a (sl_a (sl_c sR)))))))))))
      refine ⟨HF295, ?_⟩
      refine h1 12 (by kernel_rfl) rfl ?_
      replace H := chk H; obtain ⟨c141, H⟩ := H
      have HF296 := HF294.perm (perm_f (perm_c (perm_f (perm_f (perm_c (perm_c (perm_f pR)))))))
      refine qW rfl gd0 (oApp (xs := s11.2.2.2.1) (ys := ([(⟨(⟨(rd t1 s11.1).f_Kind, (rd t1 s11.1).f_Id⟩ : T_api_Vert), t37, t32.f_Bits⟩ : T_api_Span)])) k_T_api_Span HF296 rfl rfl Try.underlying29 Try.underlying29 ti74 rfl ho62 (srcR shrF ho70.rd HF296 (sub_a sub_h)) c141 rfl) rfl ?_
      rintro _ w151 ⟨L71, A80, c142, rfl, HF297, ho71⟩
      have HF298 := HF297.sublist (sl_da (sl_da (sl_dc (sl_a (sl_a (sl_c (sl_c (sl_a (sl_a (sl_a (sl_c sR)))))))))))
      refine ⟨HF298, ?_⟩
      refine hT 13 rfl (by kernel_rfl) (fun w_ hS_ => fa32_3 rfl) HF298 rfl rfl ?_
      refine h1 14 (by kernel_rfl) rfl ?_
      have HF299 := HF297.perm (perm_f1 (perm_f1 pR))
      refine qS rfl gd0 (oSt1 (l1 := [.slice (some ⟨g15, o9, none⟩) t1.length c1, .slice A76 (s11.2.1 ++ t35).length c135, .slice A67 s11.2.2.1.length c122, .slice A80 (s11.2.2.2.1 ++ [(⟨(⟨(rd t1 s11.1).f_Kind, (rd t1 s11.1).f_Id⟩ : T_api_Vert), t37, t32.f_Bits⟩ : T_api_Span)]).length c142, .slice A69 s11.2.2.2.2.length c124]) HF299 rfl rfl ti29 rfl rfl rfl) ?_
      rintro w152 HF300
      have HF301 := HF300.sublist (sl_dc (sl_da (sl_da (sl_a (sl_a (sl_c (sl_c (sl_a (sl_a (sl_a (sl_c sR)))))))))))
      refine ⟨HF301, ?_⟩
      refine hEnd (by kernel_rfl) ?_
      refine kN (?_)
      refine hK67 _ _ ?_
      refine cExit ?_
      refine kX (jX (kN (?_)))
      refine hK61 _ _ ?_
      refine cRgn [] trivial ?_
      refine sL (mv rfl) rfl ?_
      refine sL (bAdd rfl rfl) rfl ?_
      refine sL (asg rfl) rfl ?_
      refine lE ?_
      refine kN (?_)
      have HF302 := HF300.sublist (sl_c (sl_a (sl_da (sl_a (sl_da (sl_dc (sl_dc (sl_a (sl_a (sl_a (sl_c sR)))))))))))
      have HF303 := HF302.perm (perm_c1 (perm_f1 (perm_f1 (perm_f1 (perm_f1 (perm_f1 pR))))))
      have HF304 := HF303.perm (perm_c (perm_c (perm_f (perm_f (perm_f (perm_f pR))))))
      have HF305 := HF304.perm (perm_f1 (perm_c1 pR))
      have HF306 := HF305.perm (perm_c (perm_f (perm_c (perm_f (perm_f (perm_f pR))))))
      have HF307 := HF306.perm (perm_f (perm_c (perm_f (perm_c pR))))
      have HF308 := HF307.perm (perm_f (perm_f (perm_c (perm_f (perm_c (perm_f pR))))))
      have HF309 := HF308.perm (perm_f (perm_f (perm_f (perm_c (perm_f (perm_c pR))))))
      exact ofEnv (fun a hE => ⟨_, (Option.some.inj H).symm, ⟨N5, _, _, L67, _, _, L61, _, _, L71, _, _, L63, hE.keep (Keep.cons rfl (Keep.cons rfl (Keep.cons rfl (Keep.cons rfl (Keep.nil))))), HF309, ho67, ho61, ho71, ho63⟩⟩)
     refine qW rfl gd0 (oLit (r := [.int .i64 ((rd t1 s11.1).f_Kind), .int .i64 ((rd t1 s11.1).f_Id), .int .i64 t37, .int .i64 t32.f_Bits]) k_T_api_Span [(⟨(⟨(rd t1 s11.1).f_Kind, (rd t1 s11.1).f_Id⟩ : T_api_Vert), t37, t32.f_Bits⟩ : T_api_Span)] HF292 Try.underlying29 ti74 rfl rfl rfl rfl ⟨[], [], [.int .i64 ((rd t1 s11.1).f_Kind), .int .i64 ((rd t1 s11.1).f_Id), .int .i64 t37, .int .i64 t32.f_Bits], _, rfl, rfl, ⟨rfl, rfl⟩, ⟨rfl, rfl⟩⟩ rfl rfl) rfl ?_
     rintro _ w150 ⟨L70, A79, c140, rfl, HF294, ho70⟩
     have HF295 := HF294.sublist (sl_da (sl_dc (sl_a (sl_a (sl_c (sl_c (sl_a (sl_da (sl_a (sl_a (sl_c sR)))))))))))
     refine ⟨HF295, ?_⟩
     refine h1 1 (by kernel_rfl) rfl ?_
     refine qL rfl gd0 (ld rfl Try.underlying29 rfl (HF294.box (mem_a mem_h) rfl)) rfl HF295 ?_
     refine h1 12 (by kernel_rfl) rfl ?_
     replace H := chk H; obtain ⟨c141, H⟩ := H
     have HF296 := HF294.perm (perm_f (perm_c (perm_f (perm_f (perm_c (perm_c (perm_f pR)))))))
     refine qW rfl gd0 (oApp (xs := s11.2.2.2.1) (ys := ([(⟨(⟨(rd t1 s11.1).f_Kind, (rd t1 s11.1).f_Id⟩ : T_api_Vert), t37, t32.f_Bits⟩ : T_api_Span)])) k_T_api_Span HF296 rfl rfl Try.underlying29 Try.underlying29 ti74 rfl ho62 (srcR shrF ho70.rd HF296 (sub_a sub_h)) c141 rfl) rfl ?_
     rintro _ w151 ⟨L71, A80, c142, rfl, HF297, ho71⟩
     have HF298 := HF297.sublist (sl_da (sl_da (sl_dc (sl_a (sl_a (sl_c (sl_c (sl_a (sl_a (sl_a (sl_c sR)))))))))))
     refine ⟨HF298, ?_⟩
     refine hT 13 rfl (by kernel_rfl) (fun w_ hS_ => fa32_3 rfl) HF298 rfl rfl ?_
     refine h1 14 (by kernel_rfl) rfl ?_
     have HF299 := HF297.perm (perm_f1 (perm_f1 pR))
     refine qS rfl gd0 (oSt1 (l1 := [.slice (some ⟨g15, o9, none⟩) t1.length c1, .slice A76 (s11.2.1 ++ t35).length c135, .slice A67 s11.2.2.1.length c122, .slice A80 (s11.2.2.2.1 ++ [(⟨(⟨(rd t1 s11.1).f_Kind, (rd t1 s11.1).f_Id⟩ : T_api_Vert), t37, t32.f_Bits⟩ : T_api_Span)]).length c142, .slice A69 s11.2.2.2.2.length c124]) HF299 rfl rfl ti29 rfl rfl rfl) ?_
     rintro w152 HF300
     have HF301 := HF300.sublist (sl_dc (sl_da (sl_da (sl_a (sl_a (sl_c (sl_c (sl_a (sl_a (sl_a (sl_c sR)))))))))))
     refine ⟨HF301, ?_⟩
     refine hEnd (by kernel_rfl) ?_
     refine kN (?_)
     refine hK67 _ _ ?_
     refine cExit ?_
     refine kX (jX (kN (?_)))
     refine hK61 _ _ ?_
     refine cRgn [] trivial ?_
     refine sL (mv rfl) rfl ?_
     refine sL (bAdd rfl rfl) rfl ?_
     refine sL (asg rfl) rfl ?_
     refine lE ?_
     refine kN (?_)
     have HF302 := HF300.sublist (sl_c (sl_a (sl_da (sl_a (sl_da (sl_dc (sl_dc (sl_a (sl_a (sl_a (sl_c sR)))))))))))
     have HF303 := HF302.perm (perm_c1 (perm_f1 (perm_f1 (perm_f1 (perm_f1 (perm_f1 pR))))))
     have HF304 := HF303.perm (perm_c (perm_c (perm_f (perm_f (perm_f (perm_f pR))))))
     have HF305 := HF304.perm (perm_f1 (perm_c1 pR))
     have HF306 := HF305.perm (perm_c (perm_f (perm_c (perm_f (perm_f (perm_f pR))))))
     have HF307 := HF306.perm (perm_f (perm_c (perm_f (perm_c pR))))
     have HF308 := HF307.perm (perm_f (perm_f (perm_c (perm_f (perm_c (perm_f pR))))))
     have HF309 := HF308.perm (perm_f (perm_f (perm_f (perm_c (perm_f (perm_c pR))))))
     exact ofEnv (fun a hE => ⟨_, (Option.some.inj H).symm, ⟨N5, _, _, L67, _, _, L61, _, _, L71, _, _, L63, hE.keep (Keep.cons rfl (Keep.cons rfl (Keep.cons rfl (Keep.cons rfl (Keep.nil))))), HF309, ho67, ho61, ho71, ho63⟩⟩)
    replace H := itF c136 H
    refine cSet (i := 40) rfl (dF c136) ?_
    refine cF rfl ?_
    refine cSkip ?_
    refine kN (?_)
    refine hK65 _ _ ?_
    refine cSeq (fun K68 hK68 => ?_)
    refine cSeq (fun K69 hK69 => ?_)
    refine cRgn [] trivial ?_
    refine sL (fa44_1 rfl) rfl ?_
    refine sL (ld rfl Try.underlying3 rfl (HF281.box (mem_c (mem_a (mem_a mem_h))) rfl)) rfl ?_
    refine sL (bAnd rfl rfl) rfl ?_
    refine sL (bNeq rfl rfl) rfl ?_
    refine lE ?_
    refine kN (?_)
    refine hK69 _ _ ?_
    replace H := bnd H; obtain ⟨y15, H, Ho12⟩ := H
    refine cJoin (y := y15) (fun (s12 : (List Int)) a w => ∃ (A83 : Option Addr) (c147 : Nat) (L74 : Hp), Env 115 [(0, .slice A_a0 a0.length c_a0), (2, .pointer (some ⟨g1, 0, none⟩)), (3, .pointer (some ⟨g2, 0, none⟩)), (4, .int .i64 s11.1), (5, .pointer (some ⟨g16, 0, none⟩)), (6, .pointer (some ⟨g17, 0, none⟩))] a ∧ Fits z w (L74 ++ (bk g2 32 [.slice (some ⟨g15, o9, none⟩) t1.length c1, .slice A76 (s11.2.1 ++ t35).length c135, .slice A67 s11.2.2.1.length c122, .slice A68 s11.2.2.2.1.length c123, .slice A83 s12.length c147] :: (L67 ++ (bk g17 44 [.int .i64 t32.f_Head.f_Age, .int .i64 t32.f_Head.f_Kind, .int .i64 t32.f_Head.f_Id, .int .i64 t32.f_Head.f_Adv, .int .i64 t32.f_Head.f_Seq, .int .i64 t32.f_Head.f_Sum, .int .i64 t32.f_Head.f_Len, .int .i64 t32.f_Flags, .slice A70 t32.f_Links.length c127, .int .i64 t32.f_Bits, .slice A71 t32.f_Routers.length c128, .slice A72 t32.f_Verts.length c129] :: (bk g16 35 [.int .i64 ((rd t1 s11.1).f_Kind), .int .i64 ((rd t1 s11.1).f_Id)] :: (L61 ++ (L62 ++ (L1 ++ (bk g1 32 [.slice none 0 0, .slice none 0 0, .slice none 0 0, .slice none 0 0, .slice none 0 0] :: (N5 ++ F)))))))))) ∧ OwnS (kInt .i64) L74 A83 c147 s12) ?_ ?_
    ·by_cases c148 : (bits .and .i64 t32.f_Flags 8) = 0
     ·replace H := itT c148 H
      refine cSet (i := 58) rfl (nF c148) ?_
      refine cF rfl ?_
      refine cSkip ?_
      refine kN (?_)
      have HF315 := HF281.sublist (sl_c (sl_a (sl_da (sl_c (sl_c (sl_a (sl_a (sl_a (sl_a (sl_c sR))))))))))
      have HF316 := HF315.perm (perm_c1 (perm_f1 (perm_c1 (perm_c1 (perm_f1 (perm_f1 (perm_f1 (perm_f1 pR))))))))
      have HF317 := HF316.perm (perm_c (perm_c (perm_f (perm_c (perm_c (perm_f (perm_f (perm_f pR))))))))
      have HF318 := HF317.perm (perm_f (perm_c (perm_c (perm_f (perm_c (perm_c (perm_f pR)))))))
      have HF319 := HF318.perm (perm_f (perm_f (perm_c (perm_c (perm_f (perm_c (perm_c pR)))))))
      have HF320 := HF319.perm (perm_f1 (perm_f1 (perm_f1 (perm_c1 (perm_c1 (perm_f1 (perm_c1 pR)))))))
      have HF321 := HF320.perm (perm_c1 (perm_f1 (perm_f1 (perm_f1 (perm_c1 (perm_c1 (perm_f1 pR)))))))
      have HF322 := HF321.perm (perm_c (perm_c (perm_f (perm_f (perm_f (perm_c (perm_c pR)))))))
      have HF323 := HF322.perm (perm_f1 (perm_c1 (perm_c1 (perm_f1 (perm_f1 (perm_f1 (perm_c1 pR)))))))
      have HF324 := HF323.perm (perm_c (perm_f (perm_c (perm_c (perm_f (perm_f (perm_f (perm_c pR))))))))
      exact ofEnv (fun a hE => ⟨_, (Option.some.inj H).symm, ⟨_, _, L63, hE.keep (Keep.cons rfl (Keep.cons rfl (Keep.cons rfl (Keep.cons rfl (Keep.cons rfl (Keep.cons rfl (Keep.nil))))))), HF324, ho63⟩⟩)
     replace H := itF c148 H
     refine cSet (i := 58) rfl (nT c148) ?_
     refine cT rfl ?_
     refine cRgn [] trivial ?_
     refine sL (fa32_4 rfl) rfl ?_
     refine sL (ld rfl Try.underlying30 rfl (HF281.box (mem_h) rfl)) rfl ?_
     refine sL (fa35_1 rfl) rfl ?_
     refine sL (ld rfl Try.underlying3 rfl (HF281.box (mem_c (mem_a (mem_a (mem_c mem_h)))) rfl)) rfl ?_
     refine eW (oLit (r := [.int .i64 ((rd t1 s11.1).f_Id)]) (kInt .i64) [(rd t1 s11.1).f_Id] HF281 Try.underlying30 ti3 rfl rfl rfl rfl ⟨[], [], [.int .i64 ((rd t1 s11.1).f_Id)], _, rfl, rfl, ⟨rfl, rfl⟩, ⟨rfl, rfl⟩⟩ rfl rfl) rfl ?_
     rintro _ w156 ⟨L75, A84, c149, rfl, HF325, ho75⟩
     replace H := chk H; obtain ⟨c150, H⟩ := H
     have HF326 := HF325.perm (perm_f (perm_c (perm_f (perm_f (perm_c (perm_c (perm_f (perm_f pR))))))))
     refine eW (oApp (xs := s11.2.2.2.2) (ys := ([(rd t1 s11.1).f_Id])) (kInt .i64) HF326 rfl rfl Try.underlying30 Try.underlying30 ti3 rfl ho63 (srcR shrF ho75.rd HF326 (sub_a sub_h)) c150 rfl) rfl ?_
     rintro _ w157 ⟨L76, A85, c151, rfl, HF327, ho76⟩
     refine sL (fa32_4 rfl) rfl ?_
     have HF328 := HF327.perm (perm_f1 (perm_f1 pR))
     refine eS (oSt1 (l1 := [.slice (some ⟨g15, o9, none⟩) t1.length c1, .slice A76 (s11.2.1 ++ t35).length c135, .slice A67 s11.2.2.1.length c122, .slice A68 s11.2.2.2.1.length c123, .slice A85 (s11.2.2.2.2 ++ [(rd t1 s11.1).f_Id]).length c151]) HF328 rfl rfl ti30 rfl rfl rfl) ?_
     rintro w158 HF329
     refine lE ?_
     refine kN (?_)
     have HF330 := HF329.sublist (sl_c (sl_a (sl_da (sl_a (sl_da (sl_c (sl_c (sl_a (sl_a (sl_a (sl_c sR)))))))))))
     have HF331 := HF330.perm (perm_c1 (perm_f1 (perm_f1 (perm_c1 (perm_c1 (perm_f1 (perm_f1 (perm_f1 pR))))))))
     have HF332 := HF331.perm (perm_c (perm_c (perm_f (perm_f (perm_c (perm_c (perm_f (perm_f pR))))))))
     have HF333 := HF332.perm (perm_f (perm_c (perm_c (perm_f (perm_f (perm_c (perm_c (perm_f pR))))))))
     have HF334 := HF333.perm (perm_f (perm_f (perm_c (perm_c (perm_f (perm_f (perm_c (perm_c pR))))))))
     have HF335 := HF334.perm (perm_f1 (perm_f1 (perm_f1 (perm_c1 (perm_c1 (perm_f1 (perm_f1 (perm_c1 pR))))))))
     have HF336 := HF335.perm (perm_c1 (perm_f1 (perm_f1 (perm_f1 (perm_c1 (perm_c1 (perm_f1 (perm_f1 pR))))))))
     have HF337 := HF336.perm (perm_c (perm_c (perm_f (perm_f (perm_f (perm_c (perm_c (perm_f pR))))))))
     have HF338 := HF337.perm (perm_f1 (perm_c1 (perm_c1 (perm_f1 (perm_f1 (perm_f1 (perm_c1 pR)))))))
     have HF339 := HF338.perm (perm_c (perm_f (perm_c (perm_c (perm_f (perm_f (perm_f (perm_c pR))))))))
     exact ofEnv (fun a hE => ⟨_, (Option.some.inj H).symm, ⟨_, _, L76, hE.keep (Keep.cons rfl (Keep.cons rfl (Keep.cons rfl (Keep.cons rfl (Keep.cons rfl (Keep.cons rfl (Keep.nil))))))), HF339, ho76⟩⟩)
    rintro s12 a w159 rfl ⟨A83, c147, L74, hE, HF340, ho74⟩
    replace H := Ho12
    refine go_k hE ?_
    refine kN (?_)
    refine hK68 _ _ ?_
    refine cSeq (fun K70 hK70 => ?_)
    refine cRgn [] trivial ?_
    refine sL (asg rfl) rfl ?_
    refine lE ?_
    refine kN (?_)
    refine hK70 _ _ ?_
    replace H := bnd H; obtain ⟨y18, J46, Ho15⟩ := H
    have HF415 := HF340.perm (perm_f1 (perm_c1 (perm_f1 (perm_c1 (perm_c1 (perm_f1 (perm_f1 (perm_f1 pR))))))))
    have HF416 := HF415.perm (perm_c (perm_f (perm_c (perm_f (perm_c (perm_c (perm_f (perm_f pR))))))))
    have HF417 := HF416.perm (perm_f (perm_c (perm_f (perm_c (perm_f (perm_c (perm_c (perm_f pR))))))))
    have HF418 := HF417.perm (perm_f1 (perm_f1 (perm_c1 (perm_f1 (perm_c1 (perm_f1 (perm_c1 pR)))))))
    have HF419 := HF418.perm (perm_c1 (perm_f1 (perm_f1 (perm_c1 (perm_f1 (perm_c1 (perm_f1 pR)))))))
    have HF420 := HF419.perm (perm_c (perm_c (perm_f (perm_f (perm_c (perm_f (perm_c pR)))))))
    have HF421 := HF420.perm (perm_f1 (perm_c1 (perm_c1 (perm_f1 (perm_f1 (perm_c1 (perm_f1 pR)))))))
    have HF422 := HF421.perm (perm_c (perm_f (perm_c (perm_c (perm_f (perm_f (perm_c pR)))))))
    have HF423 := HF422.perm (perm_f (perm_c (perm_f (perm_c (perm_c (perm_f (perm_f (perm_c pR))))))))
    refine cLoopB (f_plenumref17_Map.b0 t1 s11 t32) (fun (s15 : Int × (List T_api_Stub)) a w => ∃ (A95 : Option Addr) (c174 : Nat) (L86 : Hp), Env 115 [(0, .slice A_a0 a0.length c_a0), (2, .pointer (some ⟨g1, 0, none⟩)), (3, .pointer (some ⟨g2, 0, none⟩)), (4, .int .i64 s11.1), (5, .pointer (some ⟨g16, 0, none⟩)), (6, .pointer (some ⟨g17, 0, none⟩)), (8, .int .i64 s15.1)] a ∧ Fits z w (L86 ++ (L74 ++ (bk g2 32 [.slice (some ⟨g15, o9, none⟩) t1.length c1, .slice A76 (s11.2.1 ++ t35).length c135, .slice A95 s15.2.length c174, .slice A68 s11.2.2.2.1.length c123, .slice A83 s12.length c147] :: (L67 ++ (bk g17 44 [.int .i64 t32.f_Head.f_Age, .int .i64 t32.f_Head.f_Kind, .int .i64 t32.f_Head.f_Id, .int .i64 t32.f_Head.f_Adv, .int .i64 t32.f_Head.f_Seq, .int .i64 t32.f_Head.f_Sum, .int .i64 t32.f_Head.f_Len, .int .i64 t32.f_Flags, .slice A70 t32.f_Links.length c127, .int .i64 t32.f_Bits, .slice A71 t32.f_Routers.length c128, .slice A72 t32.f_Verts.length c129] :: (bk g16 35 [.int .i64 ((rd t1 s11.1).f_Kind), .int .i64 ((rd t1 s11.1).f_Id)] :: (L62 ++ (L1 ++ (bk g1 32 [.slice none 0 0, .slice none 0 0, .slice none 0 0, .slice none 0 0, .slice none 0 0] :: (N5 ++ F)))))))))) ∧ OwnS k_T_api_Stub L86 A95 c174 s15.2) J46 (fun a hE => ⟨_, _, L61, hE.keep (Keep.cons rfl (Keep.cons rfl (Keep.cons rfl (Keep.cons rfl (Keep.cons rfl (Keep.cons rfl (Keep.cons rfl (Keep.nil)))))))), HF423, ho61⟩) ?_ ?_
    ·rintro s15 a w182 y19 ⟨A95, c174, L86, hE, HF383, ho86⟩ H Hx4
     refine go_ hE ?_
     refine cSeq (fun K81 hK81 => ?_)
     refine cSeq (fun K82 hK82 => ?_)
     refine cRgn [] trivial ?_
     refine sL (mv rfl) rfl ?_
     refine sL (fa44_2 rfl) rfl ?_
     refine sL (ld rfl Try.underlying42 rfl (HF383.box (mem_a (mem_a (mem_c (mem_a mem_h)))) rfl)) rfl ?_
     refine sL (lnS rfl Try.underlying42) rfl ?_
     refine sL (bLss rfl rfl) rfl ?_
     refine lE ?_
     refine kN (?_)
     refine hK82 _ _ ?_
     by_cases c175 : s15.1 < (t32.f_Links.length : Int)
     ·replace H := itT c175 H
      refine cSet (i := 70) rfl (dT c175) ?_
      refine cT rfl ?_
      refine cSkip ?_
      refine kN (?_)
      refine hK81 _ _ ?_
      refine cSeq (fun K83 hK83 => ?_)
      refine cBlock ?_
      refine cSeq (fun K84 hK84 => ?_)
      refine cRgn [] trivial ?_
      refine sL (fa44_2 rfl) rfl ?_
      refine sL (ld rfl Try.underlying42 rfl (HF383.box (mem_a (mem_a (mem_c (mem_a mem_h)))) rfl)) rfl ?_
      refine sL (mv rfl) rfl ?_
      replace H := chk H; obtain ⟨c176, H⟩ := H
      obtain ⟨g20, o12, _, rfl, rfl, q60⟩ := RdS.at_ hr13 c176 c175
      refine sL (ia rfl rfl Try.underlying42 ti56 c176 c175) rfl ?_
      refine sL (fa56_2 rfl) rfl ?_
      refine sL (ld rfl Try.underlying3 rfl (HF383.cells ((sub_a (sub_a (sub_c (sub_a (sub_c (sub_c (sub_a (sub_a (sub_c (sub_n hG))))))))))) (q60 2 _ rfl))) rfl ?_
      replace H := bnd H; obtain ⟨t44, J43, H⟩ := H
      refine eCall isf35 rfl rfl rfl (f_plenumref1_Bits.ok J43 HF383) ?_
      rintro _ w183 ⟨rfl, HF384⟩
      refine ⟨_, rfl, ?_⟩
      refine sL (asg rfl) rfl ?_
      refine lE ?_
      refine kN (?_)
      refine hK84 _ _ ?_
      refine cSeq (fun K85 hK85 => ?_)
      replace H := bnd H; obtain ⟨y20, H, Ho16⟩ := H
      refine cJoin (y := y20) (fun (s16 : Bool) a w => Env 115 [(0, .slice A_a0 a0.length c_a0), (2, .pointer (some ⟨g1, 0, none⟩)), (3, .pointer (some ⟨g2, 0, none⟩)), (4, .int .i64 s11.1), (5, .pointer (some ⟨g16, 0, none⟩)), (6, .pointer (some ⟨g17, 0, none⟩)), (8, .int .i64 s15.1), (9, .int .i64 t44), (90, .bool s16)] a ∧ Fits z w (L86 ++ (L74 ++ (bk g2 32 [.slice (some ⟨g15, o9, none⟩) t1.length c1, .slice A76 (s11.2.1 ++ t35).length c135, .slice A95 s15.2.length c174, .slice A68 s11.2.2.2.1.length c123, .slice A83 s12.length c147] :: (L67 ++ (bk g17 44 [.int .i64 t32.f_Head.f_Age, .int .i64 t32.f_Head.f_Kind, .int .i64 t32.f_Head.f_Id, .int .i64 t32.f_Head.f_Adv, .int .i64 t32.f_Head.f_Seq, .int .i64 t32.f_Head.f_Sum, .int .i64 t32.f_Head.f_Len, .int .i64 t32.f_Flags, .slice (some ⟨g20, o12, none⟩) t32.f_Links.length c127, .int .i64 t32.f_Bits, .slice A71 t32.f_Routers.length c128, .slice A72 t32.f_Verts.length c129] :: (bk g16 35 [.int .i64 ((rd t1 s11.1).f_Kind), .int .i64 ((rd t1 s11.1).f_Id)] :: (L62 ++ (L1 ++ (bk g1 32 [.slice none 0 0, .slice none 0 0, .slice none 0 0, .slice none 0 0, .slice none 0 0] :: (N5 ++ F))))))))))) ?_ ?_
      ·refine cRgn [(7, 87)] ⟨rfl, trivial⟩ ?_
       refine sL (fa44_2 rfl) rfl ?_
       refine sL (ld rfl Try.underlying42 rfl (HF384.box (mem_a (mem_a (mem_c (mem_a mem_h)))) rfl)) rfl ?_
       refine sL (mv rfl) rfl ?_
       obtain ⟨_, rfl, q62⟩ := RdS.at' hr13 c176 c175
       refine sL (ia rfl rfl Try.underlying42 ti56 c176 c175) rfl ?_
       refine sL (fa56_0 rfl) rfl ?_
       refine sL (ld rfl Try.underlying3 rfl (HF384.cells ((sub_a (sub_a (sub_c (sub_a (sub_c (sub_c (sub_a (sub_a (sub_c (sub_n hG))))))))))) (q62 0 _ rfl))) rfl ?_
       refine sL (bEql rfl rfl) rfl ?_
       refine sL (mv rfl) rfl ?_
       by_cases c178 : ((rd t32.f_Links s15.1).f_Kind) = 3
       ·replace H := itT c178 H
        refine lSet (i := 87) rfl (dT c178) ?_
        refine sG rfl rfl (mv rfl) rfl ?_
        refine sG rfl rfl (bGeq rfl rfl) rfl ?_
        refine sL (pkT rfl rfl) rfl ?_
        refine lE ?_
        refine kN (?_)
        exact ofEnv (fun a hE => ⟨_, (Option.some.inj H).symm, ⟨hE.keep (Keep.cons rfl (Keep.cons rfl (Keep.cons rfl (Keep.cons rfl (Keep.cons rfl (Keep.cons rfl (Keep.cons rfl (Keep.cons rfl (Keep.cons rfl (Keep.nil)))))))))), HF384⟩⟩)
       replace H := itF c178 H
       refine lSet (i := 87) rfl (dF c178) ?_
       refine sN rfl rfl rfl rfl ?_
       refine sN rfl rfl rfl rfl ?_
       refine sL (pkF rfl rfl) rfl ?_
       refine lE ?_
       refine kN (?_)
       exact ofEnv (fun a hE => ⟨_, (Option.some.inj H).symm, ⟨hE.keep (Keep.cons rfl (Keep.cons rfl (Keep.cons rfl (Keep.cons rfl (Keep.cons rfl (Keep.cons rfl (Keep.cons rfl (Keep.cons rfl (Keep.cons rfl (Keep.nil)))))))))), HF384⟩⟩)
      rintro s16 a w184 rfl ⟨hE, HF385⟩
      replace H := Ho16
      refine go_k hE ?_
      refine kN (?_)
      refine hK85 _ _ ?_
      by_cases c179 : s16 = true
      ·replace H := itT c179 H
       refine cSet (i := 90) rfl (vT c179) ?_
       refine cT rfl ?_
       refine cDraw mo_ HF385 rfl (fun w => Fits z w (L74 ++ (L67 ++ (bk g17 44 [.int .i64 t32.f_Head.f_Age, .int .i64 t32.f_Head.f_Kind, .int .i64 t32.f_Head.f_Id, .int .i64 t32.f_Head.f_Adv, .int .i64 t32.f_Head.f_Seq, .int .i64 t32.f_Head.f_Sum, .int .i64 t32.f_Head.f_Len, .int .i64 t32.f_Flags, .slice (some ⟨g20, o12, none⟩) t32.f_Links.length c127, .int .i64 t32.f_Bits, .slice A71 t32.f_Routers.length c128, .slice A72 t32.f_Verts.length c129] :: (bk g16 35 [.int .i64 ((rd t1 s11.1).f_Kind), .int .i64 ((rd t1 s11.1).f_Id)] :: (L62 ++ (L1 ++ (bk g1 32 [.slice none 0 0, .slice none 0 0, .slice none 0 0, .slice none 0 0, .slice none 0 0] :: (N5 ++ F))))))))) (fun w189 HF393 => ?_)
       have HF394 := HF393.sublist (sl_da (sl_a (sl_dc (sl_a (sl_c (sl_c (sl_a (sl_a (sl_c sR)))))))))
       refine hT 0 rfl (by kernel_rfl) (fun w_ hS_ => fa32_2 rfl) HF394 rfl rfl ?_
       refine hT 2 rfl (by kernel_rfl) (fun w_ hS_ => fa35_1 rfl) HF394 rfl rfl ?_
       refine hT 3 rfl (by kernel_rfl) (fun w_ hS_ => ld rfl Try.underlying3 rfl (hS_.box (mem_a (mem_a (mem_c mem_h))) rfl)) HF394 rfl rfl ?_
       refine hT 4 rfl (by kernel_rfl) (fun w_ hS_ => fa44_2 rfl) HF394 rfl rfl ?_
       refine hT 5 rfl (by kernel_rfl) (fun w_ hS_ => ld rfl Try.underlying42 rfl (hS_.box (mem_a (mem_a mem_h)) rfl)) HF394 rfl rfl ?_
       refine hT 6 rfl (by kernel_rfl) (fun w_ hS_ => mv rfl) HF394 rfl rfl ?_
       obtain ⟨_, rfl, q65⟩ := RdS.at' hr13 c176 c175
       refine hT 7 rfl (by kernel_rfl) (fun w_ hS_ => ia rfl rfl Try.underlying42 ti56 c176 c175) HF394 rfl rfl ?_
       refine hT 8 rfl (by kernel_rfl) (fun w_ hS_ => fa56_1 rfl) HF394 rfl rfl ?_
       refine hT 9 rfl (by kernel_rfl) (fun w_ hS_ => ld rfl Try.underlying3 rfl (hS_.cells ((sub_a (sub_a (sub_c (sub_c (sub_a (sub_a (sub_c (sub_n hG))))))))) (q65 1 _ rfl))) HF394 rfl rfl ?_
       refine hT 10 rfl (by kernel_rfl) (fun w_ hS_ => mv rfl) HF394 rfl rfl ?_
       refine hT 12 rfl (by kernel_rfl) (fun w_ hS_ => mv rfl) HF394 rfl rfl ?_
       refine hT 13 rfl (by kernel_rfl) (fun w_ hS_ => fa44_2 rfl) HF394 rfl rfl ?_
       refine hT 14 rfl (by kernel_rfl) (fun w_ hS_ => ld rfl Try.underlying42 rfl (hS_.box (mem_a (mem_a mem_h)) rfl)) HF394 rfl rfl ?_
       refine hT 15 rfl (by kernel_rfl) (fun w_ hS_ => mv rfl) HF394 rfl rfl ?_
       obtain ⟨_, rfl, q66⟩ := RdS.at' hr13 c176 c175
       refine hT 16 rfl (by kernel_rfl) (fun w_ hS_ => ia rfl rfl Try.underlying42 ti56 c176 c175) HF394 rfl rfl ?_
       refine hT 17 rfl (by kernel_rfl) (fun w_ hS_ => fa56_3 rfl) HF394 rfl rfl ?_
       refine hT 18 rfl (by kernel_rfl) (fun w_ hS_ => ld rfl Try.underlying3 rfl (hS_.cells ((sub_a (sub_a (sub_c (sub_c (sub_a (sub_a (sub_c (sub_n hG))))))))) (q66 3 _ rfl))) HF394 rfl rfl ?_
       refine h2 1 11 (by kernel_rfl) rfl rfl ?_ ?_
       ·refine qL rfl gd0 (ld rfl Try.underlying28 rfl (HF393.box (mem_a (mem_a mem_h)) rfl)) rfl HF394 ?_
        refine h1 11 (by kernel_rfl) rfl ?_
        replace H := bnd H; obtain ⟨t46, J45, H⟩ := H
        refine qCall rfl gd0 isf34 rfl rfl rfl (f_plenumref1_Net.ok J45 HF393) ?_
        rintro _ w190 ⟨rfl, HF395⟩
        have HF396 := HF395.sublist (sl_da (sl_a (sl_dc (sl_a (sl_c (sl_c (sl_a (sl_a (sl_c sR)))))))))
        refine ⟨_, rfl, HF396, ?_⟩
        refine hT 19 rfl (by kernel_rfl) (fun w_ hS_ => bd (r := [.int .i64 ((rd t1 s11.1).f_Id), .int .i64 t46, .int .i64 t44, .int .i64 ((rd t32.f_Links s15.1).f_Cost)]) pl72 ti72 rfl rfl) HF396 rfl rfl ?_
        refine h1 20 (by kernel_rfl) rfl ?_
        refine qW rfl gd0 (oLit (r := [.int .i64 ((rd t1 s11.1).f_Id), .int .i64 t46, .int .i64 t44, .int .i64 ((rd t32.f_Links s15.1).f_Cost)]) k_T_api_Stub [(⟨(rd t1 s11.1).f_Id, t46, t44, (rd t32.f_Links s15.1).f_Cost⟩ : T_api_Stub)] HF395 Try.underlying28 ti72 rfl rfl rfl rfl ⟨[], [], [.int .i64 ((rd t1 s11.1).f_Id), .int .i64 t46, .int .i64 t44, .int .i64 ((rd t32.f_Links s15.1).f_Cost)], _, rfl, rfl, ⟨rfl, rfl⟩, ⟨rfl, rfl⟩⟩ rfl rfl) rfl ?_
        rintro _ w191 ⟨L89, A98, c183, rfl, HF397, ho89⟩
        have HF398 := HF397.sublist (sl_da (sl_da (sl_a (sl_dc (sl_a (sl_c (sl_c (sl_a (sl_a (sl_c sR))))))))))
        refine ⟨HF398, ?_⟩
        refine h1 21 (by kernel_rfl) rfl ?_
        replace H := chk H; obtain ⟨c184, H⟩ := H
        have HF399 := HF397.perm (perm_f pR)
        refine qW rfl gd0 (oApp (xs := s15.2) (ys := ([(⟨(rd t1 s11.1).f_Id, t46, t44, (rd t32.f_Links s15.1).f_Cost⟩ : T_api_Stub)])) k_T_api_Stub HF399 rfl rfl Try.underlying28 Try.underlying28 ti72 rfl ho86 (srcR shrF ho89.rd HF399 (sub_a sub_h)) c184 rfl) rfl ?_
        rintro _ w192 ⟨L90, A99, c185, rfl, HF400, ho90⟩
        have HF401 := HF400.sublist (sl_da (sl_da (sl_a (sl_dc (sl_a (sl_c (sl_c (sl_a (sl_a (sl_c sR))))))))))
        refine ⟨HF401, ?_⟩
        refine hT 22 rfl (by kernel_rfl) (fun w_ hS_ => fa32_2 rfl) HF401 rfl rfl ?_
        refine h1 23 (by kernel_rfl) rfl ?_
        have HF402 := HF400.perm (perm_f1 (perm_f1 (perm_f1 pR)))
        refine qS rfl gd0 (oSt1 (l1 := [.slice (some ⟨g15, o9, none⟩) t1.length c1, .slice A76 (s11.2.1 ++ t35).length c135, .slice A99 (s15.2 ++ [(⟨(rd t1 s11.1).f_Id, t46, t44, (rd t32.f_Links s15.1).f_Cost⟩ : T_api_Stub)]).length c185, .slice A68 s11.2.2.2.1.length c123, .slice A83 s12.length c147]) HF402 rfl rfl ti28 rfl rfl rfl) ?_
        rintro w193 HF403
        have HF404 := HF403.sublist (sl_dc (sl_da (sl_da (sl_a (sl_a (sl_c (sl_c (sl_a (sl_a (sl_c sR))))))))))
        refine ⟨HF404, ?_⟩
        refine hEnd (by kernel_rfl) ?_
        refine jN (kN (?_))
        refine hK83 _ _ ?_
        refine cRgn [] trivial ?_
        refine sL (mv rfl) rfl ?_
        refine sL (bAdd rfl rfl) rfl ?_
        refine sL (asg rfl) rfl ?_
        refine lE ?_
        refine kN (?_)
        have HF405 := HF403.sublist (sl_c (sl_a (sl_da (sl_a (sl_a (sl_c (sl_c (sl_a (sl_a (sl_c sR))))))))))
        have HF406 := HF405.perm (perm_c1 (perm_f1 (perm_f1 (perm_f1 (perm_c1 (perm_c1 (perm_f1 (perm_f1 pR))))))))
        have HF407 := HF406.perm (perm_c (perm_c (perm_f (perm_f (perm_f (perm_c (perm_c (perm_f pR))))))))
        have HF408 := HF407.perm (perm_f (perm_c (perm_c (perm_f (perm_f (perm_f (perm_c (perm_c pR))))))))
        have HF409 := HF408.perm (perm_f1 (perm_f1 (perm_c1 (perm_c1 (perm_f1 (perm_f1 (perm_f1 (perm_c1 pR))))))))
        have HF410 := HF409.perm (perm_c1 (perm_f1 (perm_f1 (perm_c1 (perm_c1 (perm_f1 (perm_f1 (perm_f1 pR))))))))
        have HF411 := HF410.perm (perm_c (perm_c (perm_f (perm_f (perm_c (perm_c (perm_f (perm_f pR))))))))
        have HF412 := HF411.perm (perm_f1 (perm_c1 (perm_c1 (perm_f1 (perm_f1 (perm_c1 pR))))))
        have HF413 := HF412.perm (perm_c (perm_f (perm_c (perm_c (perm_f (perm_f (perm_c (perm_f pR))))))))
        have HF414 := HF413.perm (perm_f (perm_c (perm_f (perm_c (perm_c (perm_f (perm_f (perm_c pR))))))))
        exact ofEnv (fun a hE => ⟨_, (Option.some.inj H).symm, ⟨_, _, L90, hE.keep (Keep.cons rfl (Keep.cons rfl (Keep.cons rfl (Keep.cons rfl (Keep.cons rfl (Keep.cons rfl (Keep.cons rfl (Keep.nil)))))))), HF414, ho90⟩⟩)
       replace H := bnd H; obtain ⟨t46, J45, H⟩ := H
       refine qCall rfl gd0 isf34 rfl rfl rfl (f_plenumref1_Net.ok J45 HF393) ?_
       rintro _ w190 ⟨rfl, HF395⟩
       have HF396 := HF395.sublist (sl_da (sl_a (sl_dc (sl_a (sl_c (sl_c (sl_a (sl_a (sl_c sR)))))))))
       refine ⟨_, rfl, HF396, ?_⟩
       refine hT 19 rfl (by kernel_rfl) (fun w_ hS_ => bd (r := [.int .i64 ((rd t1 s11.1).f_Id), .int .i64 t46, .int .i64 t44, .int .i64 ((rd t32.f_Links s15.1).f_Cost)]) pl72 ti72 rfl rfl) HF396 rfl rfl ?_
       refine h2 1 20 (by kernel_rfl) rfl rfl ?_ ?_
       ·refine qL rfl gd0 (ld rfl Try.underlying28 rfl (HF395.box (mem_a (mem_a mem_h)) rfl)) rfl HF396 ?_
        refine h1 20 (by kernel_rfl) rfl ?_
        refine qW rfl gd0 (oLit (r := [.int .i64 ((rd t1 s11.1).f_Id), .int .i64 t46, .int .i64 t44, .int .i64 ((rd t32.f_Links s15.1).f_Cost)]) k_T_api_Stub [(⟨(rd t1 s11.1).f_Id, t46, t44, (rd t32.f_Links s15.1).f_Cost⟩ : T_api_Stub)] HF395 Try.underlying28 ti72 rfl rfl rfl rfl ⟨[], [], [.int .i64 ((rd t1 s11.1).f_Id), .int .i64 t46, .int .i64 t44, .int .i64 ((rd t32.f_Links s15.1).f_Cost)], _, rfl, rfl, ⟨rfl, rfl⟩, ⟨rfl, rfl⟩⟩ rfl rfl) rfl ?_
        rintro _ w191 ⟨L89, A98, c183, rfl, HF397, ho89⟩
        have HF398 := HF397.sublist (sl_da (sl_da (sl_a (sl_dc (sl_a (sl_c (sl_c (sl_a (sl_a (sl_c sR))))))))))
        refine ⟨HF398, ?_⟩
        refine h1 21 (by kernel_rfl) rfl ?_
        replace H := chk H; obtain ⟨c184, H⟩ := H
        have HF399 := HF397.perm (perm_f pR)
        refine qW rfl gd0 (oApp (xs := s15.2) (ys := ([(⟨(rd t1 s11.1).f_Id, t46, t44, (rd t32.f_Links s15.1).f_Cost⟩ : T_api_Stub)])) k_T_api_Stub HF399 rfl rfl Try.underlying28 Try.underlying28 ti72 rfl ho86 (srcR shrF ho89.rd HF399 (sub_a sub_h)) c184 rfl) rfl ?_
        rintro _ w192 ⟨L90, A99, c185, rfl, HF400, ho90⟩
        have HF401 := HF400.sublist (sl_da (sl_da (sl_a (sl_dc (sl_a (sl_c (sl_c (sl_a (sl_a (sl_c sR))))))))))
        refine ⟨HF401, ?_⟩
        refine hT 22 rfl (by kernel_rfl) (fun w_ hS_ => fa32_2 rfl) HF401 rfl rfl ?_
        refine h1 23 (by kernel_rfl) rfl ?_
        have HF402 := HF400.perm (perm_f1 (perm_f1 (perm_f1 pR)))
        refine qS rfl gd0 (oSt1 (l1 := [.slice (some ⟨g15, o9, none⟩) t1.length c1, .slice A76 (s11.2.1 ++ t35).length c135, .slice A99 (s15.2 ++ [(⟨(rd t1 s11.1).f_Id, t46, t44, (rd t32.f_Links s15.1).f_Cost⟩ : T_api_Stub)]).length c185, .slice A68 s11.2.2.2.1.length c123, .slice A83 s12.length c147]) HF402 rfl rfl ti28 rfl rfl rfl) ?_
        rintro w193 HF403
        have HF404 := HF403.sublist (sl_dc (sl_da (sl_da (sl_a (sl_a (sl_c (sl_c (sl_a (sl_a (sl_c sR))))))))))
        refine ⟨HF404, ?_⟩
        refine hEnd (by kernel_rfl) ?_
        refine jN (kN (?_))
        refine hK83 _ _ ?_
        refine cRgn [] trivial ?_
        refine sL (mv rfl) rfl ?_
        refine sL (bAdd rfl rfl) rfl ?_
        refine sL (asg rfl) rfl ?_
        refine lE ?_
        refine kN (?_)
        have HF405 := HF403.sublist (sl_c (sl_a (sl_da (sl_a (sl_a (sl_c (sl_c (sl_a (sl_a (sl_c sR))))))))))
        have HF406 := HF405.perm (perm_c1 (perm_f1 (perm_f1 (perm_f1 (perm_c1 (perm_c1 (perm_f1 (perm_f1 pR))))))))
        have HF407 := HF406.perm (perm_c (perm_c (perm_f (perm_f (perm_f (perm_c (perm_c (perm_f pR))))))))
        have HF408 := HF407.perm (perm_f (perm_c (perm_c (perm_f (perm_f (perm_f (perm_c (perm_c pR))))))))
        have HF409 := HF408.perm (perm_f1 (perm_f1 (perm_c1 (perm_c1 (perm_f1 (perm_f1 (perm_f1 (perm_c1 pR))))))))
        have HF410 := HF409.perm (perm_c1 (perm_f1 (perm_f1 (perm_c1 (perm_c1 (perm_f1 (perm_f1 (perm_f1 pR))))))))
        have HF411 := HF410.perm (perm_c (perm_c (perm_f (perm_f (perm_c (perm_c (perm_f (perm_f pR))))))))
        have HF412 := HF411.perm (perm_f1 (perm_c1 (perm_c1 (perm_f1 (perm_f1 (perm_c1 pR))))))
        have HF413 := HF412.perm (perm_c (perm_f (perm_c (perm_c (perm_f (perm_f (perm_c (perm_f pR))))))))
        have HF414 := HF413.perm (perm_f (perm_c (perm_f (perm_c (perm_c (perm_f (perm_f (perm_c pR))))))))
        exact ofEnv (fun a hE => ⟨_, (Option.some.inj H).symm, ⟨_, _, L90, hE.keep (Keep.cons rfl (Keep.cons rfl (Keep.cons rfl (Keep.cons rfl (Keep.cons rfl (Keep.cons rfl (Keep.cons rfl (Keep.nil)))))))), HF414, ho90⟩⟩)
       refine qW rfl gd0 (oLit (r := [.int .i64 ((rd t1 s11.1).f_Id), .int .i64 t46, .int .i64 t44, .int .i64 ((rd t32.f_Links s15.1).f_Cost)]) k_T_api_Stub [(⟨(rd t1 s11.1).f_Id, t46, t44, (rd t32.f_Links s15.1).f_Cost⟩ : T_api_Stub)] HF395 Try.underlying28 ti72 rfl rfl rfl rfl ⟨[], [], [.int .i64 ((rd t1 s11.1).f_Id), .int .i64 t46, .int .i64 t44, .int .i64 ((rd t32.f_Links s15.1).f_Cost)], _, rfl, rfl, ⟨rfl, rfl⟩, ⟨rfl, rfl⟩⟩ rfl rfl) rfl ?_
       rintro _ w191 ⟨L89, A98, c183, rfl, HF397, ho89⟩
       have HF398 := HF397.sublist (sl_da (sl_da (sl_a (sl_dc (sl_a (sl_c (sl_c (sl_a (sl_a (sl_c sR))))))))))
       refine ⟨HF398, ?_⟩
       refine h1 1 (by kernel_rfl) rfl ?_
       refine qL rfl gd0 (ld rfl Try.underlying28 rfl (HF397.box (mem_a (mem_a (mem_a mem_h))) rfl)) rfl HF398 ?_
       refine h1 21 (by kernel_rfl) rfl ?_
       replace H := chk H; obtain ⟨c184, H⟩ := H
       have HF399 := HF397.perm (perm_f pR)
       refine qW rfl gd0 (oApp (xs := s15.2) (ys := ([(⟨(rd t1 s11.1).f_Id, t46, t44, (rd t32.f_Links s15.1).f_Cost⟩ : T_api_Stub)])) k_T_api_Stub HF399 rfl rfl Try.underlying28 Try.underlying28 ti72 rfl ho86 (srcR shrF ho89.rd HF399 (sub_a sub_h)) c184 rfl) rfl ?_
       rintro _ w192 ⟨L90, A99, c185, rfl, HF400, ho90⟩
       have HF401 := HF400.sublist (sl_da (sl_da (sl_a (sl_dc (sl_a (sl_c (sl_c (sl_a (sl_a (sl_c sR))))))))))
       refine ⟨HF401, ?_⟩
       refine hT 22 rfl (by kernel_rfl) (fun w_ hS_ => fa32_2 rfl) HF401 rfl rfl ?_
       refine h1 23 (by kernel_rfl) rfl ?_
       have HF402 := HF400.perm (perm_f1 (perm_f1 (perm_f1 pR)))
       refine qS rfl gd0 (oSt1 (l1 := [.slice (some ⟨g15, o9, none⟩) t1.length c1, .slice A76 (s11.2.1 ++ t35).length c135, .slice A99 (s15.2 ++ [(⟨(rd t1 s11.1).f_Id, t46, t44, (rd t32.f_Links s15.1).f_Cost⟩ : T_api_Stub)]).length c185, .slice A68 s11.2.2.2.1.length c123, .slice A83 s12.length c147]) HF402 rfl rfl ti28 rfl rfl rfl) ?_
       rintro w193 HF403
       have HF404 := HF403.sublist (sl_dc (sl_da (sl_da (sl_a (sl_a (sl_c (sl_c (sl_a (sl_a (sl_c sR))))))))))
       refine ⟨HF404, ?_⟩
       refine hEnd (by kernel_rfl) ?_
       refine jN (kN (?_))
       refine hK83 _ _ ?_
       refine cRgn [] trivial ?_
       refine sL (mv rfl) rfl ?_
       refine sL (bAdd rfl rfl) rfl ?_
       refine sL (asg rfl) rfl ?_
       refine lE ?_
       refine kN (?_)
       have HF405 := HF403.sublist (sl_c (sl_a (sl_da (sl_a (sl_a (sl_c (sl_c (sl_a (sl_a (sl_c sR))))))))))
       have HF406 := HF405.perm (perm_c1 (perm_f1 (perm_f1 (perm_f1 (perm_c1 (perm_c1 (perm_f1 (perm_f1 pR))))))))
       have HF407 := HF406.perm (perm_c (perm_c (perm_f (perm_f (perm_f (perm_c (perm_c (perm_f pR))))))))
       have HF408 := HF407.perm (perm_f (perm_c (perm_c (perm_f (perm_f (perm_f (perm_c (perm_c pR))))))))
       have HF409 := HF408.perm (perm_f1 (perm_f1 (perm_c1 (perm_c1 (perm_f1 (perm_f1 (perm_f1 (perm_c1 pR))))))))
       have HF410 := HF409.perm (perm_c1 (perm_f1 (perm_f1 (perm_c1 (perm_c1 (perm_f1 (perm_f1 (perm_f1 pR))))))))
       have HF411 := HF410.perm (perm_c (perm_c (perm_f (perm_f (perm_c (perm_c (perm_f (perm_f pR))))))))
       have HF412 := HF411.perm (perm_f1 (perm_c1 (perm_c1 (perm_f1 (perm_f1 (perm_c1 pR))))))
       have HF413 := HF412.perm (perm_c (perm_f (perm_c (perm_c (perm_f (perm_f (perm_c (perm_f pR))))))))
       have HF414 := HF413.perm (perm_f (perm_c (perm_f (perm_c (perm_c (perm_f (perm_f (perm_c pR))))))))
       exact ofEnv (fun a hE => ⟨_, (Option.some.inj H).symm, ⟨_, _, L90, hE.keep (Keep.cons rfl (Keep.cons rfl (Keep.cons rfl (Keep.cons rfl (Keep.cons rfl (Keep.cons rfl (Keep.cons rfl (Keep.nil)))))))), HF414, ho90⟩⟩)
      replace H := itF c179 H
      refine cSet (i := 90) rfl (vF c179) ?_
      refine cF rfl ?_
      refine cSkip ?_
      refine jN (kN (?_))
      refine hK83 _ _ ?_
      refine cRgn [] trivial ?_
      refine sL (mv rfl) rfl ?_
      refine sL (bAdd rfl rfl) rfl ?_
      refine sL (asg rfl) rfl ?_
      refine lE ?_
      refine kN (?_)
      exact ofEnv (fun a hE => ⟨_, (Option.some.inj H).symm, ⟨_, _, L86, hE.keep (Keep.cons rfl (Keep.cons rfl (Keep.cons rfl (Keep.cons rfl (Keep.cons rfl (Keep.cons rfl (Keep.cons rfl (Keep.nil)))))))), HF385, ho86⟩⟩)
     replace H := itF c175 H
     refine cSet (i := 70) rfl (dF c175) ?_
     refine cF rfl ?_
     refine cExit ?_
     refine kX (kX (jX (kN (?_))))
     exact ofEnv (fun a hE => ⟨_, (Option.some.inj H).symm, ⟨_, _, L86, hE.keep (Keep.cons rfl (Keep.cons rfl (Keep.cons rfl (Keep.cons rfl (Keep.cons rfl (Keep.cons rfl (Keep.cons rfl (Keep.nil)))))))), HF383, ho86⟩⟩)
    rintro s15 a w194 rfl ⟨A95, c174, L86, hE, HF424, ho86⟩
    replace H := Ho15
    refine go_k hE ?_
    refine jN (kN (?_))
    refine hK61 _ _ ?_
    refine cRgn [] trivial ?_
    refine sL (mv rfl) rfl ?_
    refine sL (bAdd rfl rfl) rfl ?_
    refine sL (asg rfl) rfl ?_
    refine lE ?_
    refine kN (?_)
    have HF425 := HF424.sublist (sl_a (sl_a (sl_c (sl_a (sl_dc (sl_dc (sl_a (sl_a (sl_c sR)))))))))
    have HF426 := HF425.perm (perm_f1 (perm_f1 (perm_c1 (perm_f1 (perm_f1 (perm_f1 pR))))))
    have HF427 := HF426.perm (perm_c (perm_f (perm_f (perm_c (perm_f (perm_f pR))))))
    have HF428 := HF427.perm (perm_f1 (perm_c1 (perm_f1 (perm_f1 pR))))
    have HF429 := HF428.perm (perm_c (perm_f (perm_c (perm_f pR))))
    have HF430 := HF429.perm (perm_f (perm_c (perm_f (perm_c (perm_f (perm_f pR))))))
    have HF431 := HF430.perm (perm_f (perm_f (perm_c (perm_f (perm_c pR)))))
    have HF432 := HF431.perm (perm_f (perm_f (perm_f (perm_c (perm_f (perm_c pR))))))
    exact ofEnv (fun a hE => ⟨_, (Option.some.inj H).symm, ⟨N5, _, _, L67, _, _, L86, _, _, L62, _, _, L74, hE.keep (Keep.cons rfl (Keep.cons rfl (Keep.cons rfl (Keep.cons rfl (Keep.nil))))), HF432, ho67, ho86, ho62, ho74⟩⟩)
   replace H := bnd H; obtain ⟨t35, J34, H⟩ := H
   refine qCall rfl gd0 isf33 rfl rfl rfl (f_plenumref17_from.ok (a0 := a0) (a1 := (rd t1 s11.1)) (sub_c (sub_c (sub_a (sub_a (sub_a (sub_a (sub_c (sub_a (sub_c (sub_n hG)))))))))) J34 HF273 (sub_c (sub_c (sub_a (sub_a (sub_a (sub_a (sub_c (sub_a (sub_c (sub_a hX_a0)))))))))) (RdS.lift hr_a0 (sub_t hs4 hs5) sub_r)) ?_
   rintro _ w141 ⟨A75, c133, L66, rfl, HF275, ho66⟩
   have HF276 := HF275.sublist (sl_da (sl_c (sl_c (sl_da (sl_a (sl_a (sl_a (sl_dc (sl_a (sl_c sR))))))))))
   refine ⟨_, rfl, HF276, ?_⟩
   refine h1 1 (by kernel_rfl) rfl ?_
   refine qL rfl gd0 (ld rfl Try.underlying27 rfl (HF275.box (mem_a (mem_c (mem_c (mem_a (mem_a (mem_a (mem_a mem_h))))))) rfl)) rfl HF276 ?_
   refine h1 5 (by kernel_rfl) rfl ?_
   replace H := chk H; obtain ⟨c134, H⟩ := H
   have HF277 := HF275.perm (perm_f (perm_c (perm_c pR)))
   refine qW rfl gd0 (oApp (xs := s11.2.1) (ys := t35) k_T_api_Edge HF277 rfl rfl Try.underlying27 Try.underlying27 ti37 rfl ho60 (srcR shrF ho66.rd HF277 (sub_a sub_h)) c134 rfl) rfl ?_
   rintro _ w142 ⟨L67, A76, c135, rfl, HF278, ho67⟩
   have HF279 := HF278.sublist (sl_da (sl_da (sl_c (sl_c (sl_a (sl_a (sl_a (sl_dc (sl_a (sl_c sR))))))))))
   refine ⟨HF279, ?_⟩
   refine hT 6 rfl (by kernel_rfl) (fun w_ hS_ => fa32_1 rfl) HF279 rfl rfl ?_
   refine h1 7 (by kernel_rfl) rfl ?_
   have HF280 := HF278.perm (perm_f1 (perm_f1 (perm_c1 (perm_c1 (perm_f1 (perm_f1 (perm_f1 pR)))))))
   refine qS rfl gd0 (oSt1 (l1 := [.slice (some ⟨g15, o9, none⟩) t1.length c1, .slice A76 (s11.2.1 ++ t35).length c135, .slice A67 s11.2.2.1.length c122, .slice A68 s11.2.2.2.1.length c123, .slice A69 s11.2.2.2.2.length c124]) HF280 rfl rfl ti27 rfl rfl rfl) ?_
   rintro w143 HF281
   have HF282 := HF281.sublist (sl_dc (sl_da (sl_da (sl_c (sl_c (sl_a (sl_a (sl_a (sl_a (sl_c sR))))))))))
   refine ⟨HF282, ?_⟩
   refine hEnd (by kernel_rfl) ?_
   refine kN (?_)
   refine hK64 _ _ ?_
   refine cSeq (fun K65 hK65 => ?_)
   refine cSeq (fun K66 hK66 => ?_)
   refine cRgn [] trivial ?_
   refine sL (fa35_0 rfl) rfl ?_
   refine sL (ld rfl Try.underlying3 rfl (HF281.box (mem_c (mem_a (mem_a (mem_c mem_h)))) rfl)) rfl ?_
   refine sL (bEql rfl rfl) rfl ?_
   refine lE ?_
   refine kN (?_)
   refine hK66 _ _ ?_
   by_cases c136 : ((rd t1 s11.1).f_Kind) = 2
   ·replace H := itT c136 H
    refine cSet (i := 40) rfl (dT c136) ?_
    refine cT rfl ?_
    refine cSeq (fun K67 hK67 => ?_)
    refine cDraw mo_ HF281 rfl (fun w => Fits z w (L67 ++ (L66 ++ (bk g17 44 [.int .i64 t32.f_Head.f_Age, .int .i64 t32.f_Head.f_Kind, .int .i64 t32.f_Head.f_Id, .int .i64 t32.f_Head.f_Adv, .int .i64 t32.f_Head.f_Seq, .int .i64 t32.f_Head.f_Sum, .int .i64 t32.f_Head.f_Len, .int .i64 t32.f_Flags, .slice A70 t32.f_Links.length c127, .int .i64 t32.f_Bits, .slice A71 t32.f_Routers.length c128, .slice A72 t32.f_Verts.length c129] :: (bk g16 35 [.int .i64 ((rd t1 s11.1).f_Kind), .int .i64 ((rd t1 s11.1).f_Id)] :: (L61 ++ (L63 ++ (L1 ++ (bk g1 32 [.slice none 0 0, .slice none 0 0, .slice none 0 0, .slice none 0 0, .slice none 0 0] :: (N5 ++ F)))))))))) (fun w148 HF290 => ?_)
    have HF291 := HF290.sublist (sl_dc (sl_a (sl_a (sl_c (sl_c (sl_a (sl_da (sl_a (sl_a (sl_c sR))))))))))
    refine hT 0 rfl (by kernel_rfl) (fun w_ hS_ => fa32_3 rfl) HF291 rfl rfl ?_
    refine hT 2 rfl (by kernel_rfl) (fun w_ hS_ => ldA (cs := [.int .i64 ((rd t1 s11.1).f_Kind), .int .i64 ((rd t1 s11.1).f_Id)]) rfl ti35 rfl rfl (hS_.boxes (o := 0) (n := 2) (mem_a (mem_a (mem_c mem_h))) rfl)) HF291 rfl rfl ?_
    refine hT 3 rfl (by kernel_rfl) (fun w_ hS_ => fa35_1 rfl) HF291 rfl rfl ?_
    refine hT 4 rfl (by kernel_rfl) (fun w_ hS_ => ld rfl Try.underlying3 rfl (hS_.box (mem_a (mem_a (mem_c mem_h))) rfl)) HF291 rfl rfl ?_
    refine hT 5 rfl (by kernel_rfl) (fun w_ hS_ => fa44_3 rfl) HF291 rfl rfl ?_
    refine hT 6 rfl (by kernel_rfl) (fun w_ hS_ => ld rfl Try.underlying3 rfl (hS_.box (mem_a (mem_a mem_h)) rfl)) HF291 rfl rfl ?_
    refine hT 8 rfl (by kernel_rfl) (fun w_ hS_ => fa44_3 rfl) HF291 rfl rfl ?_
    refine hT 9 rfl (by kernel_rfl) (fun w_ hS_ => ld rfl Try.underlying3 rfl (hS_.box (mem_a (mem_a mem_h)) rfl)) HF291 rfl rfl ?_
    refine h2 1 7 (by kernel_rfl) rfl rfl ?_ ?_
    ·refine qL rfl gd0 (ld rfl Try.underlying29 rfl (HF290.box (mem_h) rfl)) rfl HF291 ?_
     refine h1 7 (by kernel_rfl) rfl ?_
     replace H := bnd H; obtain ⟨t37, J36, H⟩ := H
     refine qCall rfl gd0 isf34 rfl rfl rfl (f_plenumref1_Net.ok J36 HF290) ?_
     rintro _ w149 ⟨rfl, HF292⟩
     have HF293 := HF292.sublist (sl_dc (sl_a (sl_a (sl_c (sl_c (sl_a (sl_da (sl_a (sl_a (sl_c sR))))))))))
     refine ⟨_, rfl, HF293, ?_⟩
     refine hT 10 rfl (by kernel_rfl) (fun w_ hS_ => bd (r := [.int .i64 ((rd t1 s11.1).f_Kind), .int .i64 ((rd t1 s11.1).f_Id), .int .i64 t37, .int .i64 t32.f_Bits]) pl74 ti74 rfl rfl) HF293 rfl rfl ?_
     refine h1 11 (by kernel_rfl) rfl ?_
     refine qW rfl gd0 (oLit (r := [.int .i64 ((rd t1 s11.1).f_Kind), .int .i64 ((rd t1 s11.1).f_Id), .int .i64 t37, .int .i64 t32.f_Bits]) k_T_api_Span [(⟨(⟨(rd t1 s11.1).f_Kind, (rd t1 s11.1).f_Id⟩ : T_api_Vert), t37, t32.f_Bits⟩ : T_api_Span)] HF292 Try.underlying29 ti74 rfl rfl rfl rfl ⟨[], [], [.int .i64 ((rd t1 s11.1).f_Kind), .int .i64 ((rd t1 s11.1).f_Id), .int .i64 t37, .int .i64 t32.f_Bits], _, rfl, rfl, ⟨rfl, rfl⟩, ⟨rfl, rfl⟩⟩ rfl rfl) rfl ?_
     rintro _ w150 ⟨L70, A79, c140, rfl, HF294, ho70⟩
     have HF295 := HF294.sublist (sl_da (sl_dc (sl_a (sl_a (sl_c (sl_c (sl_a (sl_da (sl_a (sl_a (sl_c sR)))))))))))
     refine ⟨HF295, ?_⟩
     refine h1 12 (by kernel_rfl) rfl ?_
     replace H := chk H; obtain ⟨c141, H⟩ := H
     have HF296 := HF294.perm (perm_f (perm_c (perm_f (perm_f (perm_c (perm_c (perm_f pR)))))))
     refine qW rfl gd0 (oApp (xs := s11.2.2.2.1) (ys := ([(⟨(⟨(rd t1 s11.1).f_Kind, (rd t1 s11.1).f_Id⟩ : T_api_Vert), t37, t32.f_Bits⟩ : T_api_Span)])) k_T_api_Span HF296 rfl rfl Try.underlying29 Try.underlying29 ti74 rfl ho62 (srcR shrF ho70.rd HF296 (sub_a sub_h)) c141 rfl) rfl ?_
     rintro _ w151 ⟨L71, A80, c142, rfl, HF297, ho71⟩
     have HF298 := HF297.sublist (sl_da (sl_da (sl_dc (sl_a (sl_a (sl_c (sl_c (sl_a (sl_a (sl_a (sl_c sR)))))))))))
     refine ⟨HF298, ?_⟩
     refine hT 13 rfl (by kernel_rfl) (fun w_ hS_ => fa32_3 rfl) HF298 rfl rfl ?_
     refine h1 14 (by kernel_rfl) rfl ?_
     have HF299 := HF297.perm (perm_f1 (perm_f1 pR))
     refine qS rfl gd0 (oSt1 (l1 := [.slice (some ⟨g15, o9, none⟩) t1.length c1, .slice A76 (s11.2.1 ++ t35).length c135, .slice A67 s11.2.2.1.length c122, .slice A80 (s11.2.2.2.1 ++ [(⟨(⟨(rd t1 s11.1).f_Kind, (rd t1 s11.1).f_Id⟩ : T_api_Vert), t37, t32.f_Bits⟩ : T_api_Span)]).length c142, .slice A69 s11.2.2.2.2.length c124]) HF299 rfl rfl ti29 rfl rfl rfl) ?_
     rintro w152 HF300
     have HF301 := HF300.sublist (sl_dc (sl_da (sl_da (sl_a (sl_a (sl_c (sl_c (sl_a (sl_a (sl_a (sl_c sR)))))))))))
     refine ⟨HF301, ?_⟩
     refine hEnd (by kernel_rfl) ?_
     refine kN (?_)
     refine hK67 _ _ ?_
     refine cExit ?_
     refine kX (jX (kN (?_)))
     refine hK61 _ _ ?_
     refine cRgn [] trivial ?_
     refine sL (mv rfl) rfl ?_
     refine sL (bAdd rfl rfl) rfl ?_
     refine sL (asg rfl) rfl ?_
     refine lE ?_
     refine kN (?_)
     have HF302 := HF300.sublist (sl_c (sl_a (sl_da (sl_a (sl_da (sl_dc (sl_dc (sl_a (sl_a (sl_a (sl_c sR)))))))))))
     have HF303 := HF302.perm (perm_c1 (perm_f1 (perm_f1 (perm_f1 (perm_f1 (perm_f1 pR))))))
     have HF304 := HF303.perm (perm_c (perm_c (perm_f (perm_f (perm_f (perm_f pR))))))
     have HF305 := HF304.perm (perm_f1 (perm_c1 pR))
     have HF306 := HF305.perm (perm_c (perm_f (perm_c (perm_f (perm_f (perm_f pR))))))
     have HF307 := HF306.perm (perm_f (perm_c (perm_f (perm_c pR))))
     have HF308 := HF307.perm (perm_f (perm_f (perm_c (perm_f (perm_c (perm_f pR))))))
     have HF309 := HF308.perm (perm_f (perm_f (perm_f (perm_c (perm_f (perm_c pR))))))
     exact ofEnv (fun a hE => ⟨_, (Option.some.inj H).symm, ⟨N5, _, _, L67, _, _, L61, _, _, L71, _, _, L63, hE.keep (Keep.cons rfl (Keep.cons rfl (Keep.cons rfl (Keep.cons rfl (Keep.nil))))), HF309, ho67, ho61, ho71, ho63⟩⟩)
    replace H := bnd H; obtain ⟨t37, J36, H⟩ := H
    refine qCall rfl gd0 isf34 rfl rfl rfl (f_plenumref1_Net.ok J36 HF290) ?_
    rintro _ w149 ⟨rfl, HF292⟩
    have HF293 := HF292.sublist (sl_dc (sl_a (sl_a (sl_c (sl_c (sl_a (sl_da (sl_a (sl_a (sl_c sR))))))))))
    refine ⟨_, rfl, HF293, ?_⟩
    refine hT 10 rfl (by kernel_rfl) (fun w_ hS_ => bd (r := [.int .i64 ((rd t1 s11.1).f_Kind), .int .i64 ((rd t1 s11.1).f_Id), .int .i64 t37, .int .i64 t32.f_Bits]) pl74 ti74 rfl rfl) HF293 rfl rfl ?_
    refine h2 1 11 (by kernel_rfl) rfl rfl ?_ ?_
    ·refine qL rfl gd0 (ld rfl Try.underlying29 rfl (HF292.box (mem_h) rfl)) rfl HF293 ?_
     refine h1 11 (by kernel_rfl) rfl ?_
     refine qW rfl gd0 (oLit (r := [.int .i64 ((rd t1 s11.1).f_Kind), .int .i64 ((rd t1 s11.1).f_Id), .int .i64 t37, .int .i64 t32.f_Bits]) k_T_api_Span [(⟨(⟨(rd t1 s11.1).f_Kind, (rd t1 s11.1).f_Id⟩ : T_api_Vert), t37, t32.f_Bits⟩ : T_api_Span)] HF292 Try.underlying29 ti74 rfl rfl rfl rfl ⟨[], [], [.int .i64 ((rd t1 s11.1).f_Kind), .int .i64 ((rd t1 s11.1).f_Id), .int .i64 t37, .int .i64 t32.f_Bits], _, rfl, rfl, ⟨rfl, rfl⟩, ⟨rfl, rfl⟩⟩ rfl rfl) rfl ?_
     rintro _ w150 ⟨L70, A79, c140, rfl, HF294, ho70⟩
     have HF295 := HF294.sublist (sl_da (sl_dc (sl_a (sl_a (sl_c (sl_c (sl_a (sl_da (sl_a (sl_a (sl_c sR)))))))))))
     refine ⟨HF295, ?_⟩
     refine h1 12 (by kernel_rfl) rfl ?_
     replace H := chk H; obtain ⟨c141, H⟩ := H
     have HF296 := HF294.perm (perm_f (perm_c (perm_f (perm_f (perm_c (perm_c (perm_f pR)))))))
     refine qW rfl gd0 (oApp (xs := s11.2.2.2.1) (ys := ([(⟨(⟨(rd t1 s11.1).f_Kind, (rd t1 s11.1).f_Id⟩ : T_api_Vert), t37, t32.f_Bits⟩ : T_api_Span)])) k_T_api_Span HF296 rfl rfl Try.underlying29 Try.underlying29 ti74 rfl ho62 (srcR shrF ho70.rd HF296 (sub_a sub_h)) c141 rfl) rfl ?_
     rintro _ w151 ⟨L71, A80, c142, rfl, HF297, ho71⟩
     have HF298 := HF297.sublist (sl_da (sl_da (sl_dc (sl_a (sl_a (sl_c (sl_c (sl_a (sl_a (sl_a (sl_c sR)))))))))))
     refine ⟨HF298, ?_⟩
     refine hT 13 rfl (by kernel_rfl) (fun w_ hS_ => fa32_3 rfl) HF298 rfl rfl ?_
     refine h1 14 (by kernel_rfl) rfl ?_
     have HF299 := HF297.perm (perm_f1 (perm_f1 pR))
     refine qS rfl gd0 (oSt1 (l1 := [.slice (some ⟨g15, o9, none⟩) t1.length c1, .slice A76 (s11.2.1 ++ t35).length c135, .slice A67 s11.2.2.1.length c122, .slice A80 (s11.2.2.2.1 ++ [(⟨(⟨(rd t1 s11.1).f_Kind, (rd t1 s11.1).f_Id⟩ : T_api_Vert), t37, t32.f_Bits⟩ : T_api_Span)]).length c142, .slice A69 s11.2.2.2.2.length c124]) HF299 rfl rfl ti29 rfl rfl rfl) ?_
     rintro w152 HF300
     have HF301 := HF300.sublist (sl_dc (sl_da (sl_da (sl_a (sl_a (sl_c (sl_c (sl_a (sl_a (sl_a (sl_c sR)))))))))))
     refine ⟨HF301, ?_⟩
     refine hEnd (by kernel_rfl) ?_
     refine kN (?_)
     refine hK67 _ _ ?_
     refine cExit ?_
     refine kX (jX (kN (?_)))
     refine hK61 _ _ ?_
     refine cRgn [] trivial ?_
     refine sL (mv rfl) rfl ?_
     refine sL (bAdd rfl rfl) rfl ?_
     refine sL (asg rfl) rfl ?_
     refine lE ?_
     refine kN (?_)
     have HF302 := HF300.sublist (sl_c (sl_a (sl_da (sl_a (sl_da (sl_dc (sl_dc (sl_a (sl_a (sl_a (sl_c sR)))))))))))
     have HF303 := HF302.perm (perm_c1 (perm_f1 (perm_f1 (perm_f1 (perm_f1 (perm_f1 pR))))))
     have HF304 := HF303.perm (perm_c (perm_c (perm_f (perm_f (perm_f (perm_f pR))))))
     have HF305 := HF304.perm (perm_f1 (perm_c1 pR))
     have HF306 := HF305.perm (perm_c (perm_f (perm_c (perm_f (perm_f (perm_f pR))))))
     have HF307 := HF306.perm (perm_f (perm_c (perm_f (perm_c pR))))
     have HF308 := HF307.perm (perm_f (perm_f (perm_c (perm_f (perm_c (perm_f pR))))))
     have HF309 := HF308.perm (perm_f (perm_f (perm_f (perm_c (perm_f (perm_c pR))))))
     exact ofEnv (fun a hE => ⟨_, (Option.some.inj H).symm, ⟨N5, _, _, L67, _, _, L61, _, _, L71, _, _, L63, hE.keep (Keep.cons rfl (Keep.cons rfl (Keep.cons rfl (Keep.cons rfl (Keep.nil))))), HF309, ho67, ho61, ho71, ho63⟩⟩)
    refine qW rfl gd0 (oLit (r := [.int .i64 ((rd t1 s11.1).f_Kind), .int .i64 ((rd t1 s11.1).f_Id), .int .i64 t37, .int .i64 t32.f_Bits]) k_T_api_Span [(⟨(⟨(rd t1 s11.1).f_Kind, (rd t1 s11.1).f_Id⟩ : T_api_Vert), t37, t32.f_Bits⟩ : T_api_Span)] HF292 Try.underlying29 ti74 rfl rfl rfl rfl ⟨[], [], [.int .i64 ((rd t1 s11.1).f_Kind), .int .i64 ((rd t1 s11.1).f_Id), .int .i64 t37, .int .i64 t32.f_Bits], _, rfl, rfl, ⟨rfl, rfl⟩, ⟨rfl, rfl⟩⟩ rfl rfl) rfl ?_
    rintro _ w150 ⟨L70, A79, c140, rfl, HF294, ho70⟩
    have HF295 := HF294.sublist (sl_da (sl_dc (sl_a (sl_a (sl_c (sl_c (sl_a (sl_da (sl_a (sl_a (sl_c sR)))))))))))
    refine ⟨HF295, ?_⟩
    refine h1 1 (by kernel_rfl) rfl ?_
    refine qL rfl gd0 (ld rfl Try.underlying29 rfl (HF294.box (mem_a mem_h) rfl)) rfl HF295 ?_
    refine h1 12 (by kernel_rfl) rfl ?_
    replace H := chk H; obtain ⟨c141, H⟩ := H
    have HF296 := HF294.perm (perm_f (perm_c (perm_f (perm_f (perm_c (perm_c (perm_f pR)))))))
    refine qW rfl gd0 (oApp (xs := s11.2.2.2.1) (ys := ([(⟨(⟨(rd t1 s11.1).f_Kind, (rd t1 s11.1).f_Id⟩ : T_api_Vert), t37, t32.f_Bits⟩ : T_api_Span)])) k_T_api_Span HF296 rfl rfl Try.underlying29 Try.underlying29 ti74 rfl ho62 (srcR shrF ho70.rd HF296 (sub_a sub_h)) c141 rfl) rfl ?_
    rintro _ w151 ⟨L71, A80, c142, rfl, HF297, ho71⟩
    have HF298 := HF297.sublist (sl_da (sl_da (sl_dc (sl_a (sl_a (sl_c (sl_c (sl_a (sl_a (sl_a (sl_c sR)))))))))))
    refine ⟨HF298, ?_⟩
    refine hT 13 rfl (by kernel_rfl) (fun w_ hS_ => fa32_3 rfl) HF298 rfl rfl ?_
    refine h1 14 (by kernel_rfl) rfl ?_
    have HF299 := HF297.perm (perm_f1 (perm_f1 pR))
    refine qS rfl gd0 (oSt1 (l1 := [.slice (some ⟨g15, o9, none⟩) t1.length c1, .slice A76 (s11.2.1 ++ t35).length c135, .slice A67 s11.2.2.1.length c122, .slice A80 (s11.2.2.2.1 ++ [(⟨(⟨(rd t1 s11.1).f_Kind, (rd t1 s11.1).f_Id⟩ : T_api_Vert), t37, t32.f_Bits⟩ : T_api_Span)]).length c142, .slice A69 s11.2.2.2.2.length c124]) HF299 rfl rfl ti29 rfl rfl rfl) ?_
    rintro w152 HF300
    have HF301 := HF300.sublist (sl_dc (sl_da (sl_da (sl_a (sl_a (sl_c (sl_c (sl_a (sl_a (sl_a (sl_c sR)))))))))))
    refine ⟨HF301, ?_⟩
    refine hEnd (by kernel_rfl) ?_
    refine kN (?_)
    refine hK67 _ _ ?_
    refine cExit ?_
    refine kX (jX (kN (?_)))
    refine hK61 _ _ ?_
    refine cRgn [] trivial ?_
    refine sL (mv rfl) rfl ?_
    refine sL (bAdd rfl rfl) rfl ?_
    refine sL (asg rfl) rfl ?_
    refine lE ?_
    refine kN (?_)
    have HF302 := HF300.sublist (sl_c (sl_a (sl_da (sl_a (sl_da (sl_dc (sl_dc (sl_a (sl_a (sl_a (sl_c sR)))))))))))
    have HF303 := HF302.perm (perm_c1 (perm_f1 (perm_f1 (perm_f1 (perm_f1 (perm_f1 pR))))))
    have HF304 := HF303.perm (perm_c (perm_c (perm_f (perm_f (perm_f (perm_f pR))))))
    have HF305 := HF304.perm (perm_f1 (perm_c1 pR))
    have HF306 := HF305.perm (perm_c (perm_f (perm_c (perm_f (perm_f (perm_f pR))))))
    have HF307 := HF306.perm (perm_f (perm_c (perm_f (perm_c pR))))
    have HF308 := HF307.perm (perm_f (perm_f (perm_c (perm_f (perm_c (perm_f pR))))))
    have HF309 := HF308.perm (perm_f (perm_f (perm_f (perm_c (perm_f (perm_c pR))))))
    exact ofEnv (fun a hE => ⟨_, (Option.some.inj H).symm, ⟨N5, _, _, L67, _, _, L61, _, _, L71, _, _, L63, hE.keep (Keep.cons rfl (Keep.cons rfl (Keep.cons rfl (Keep.cons rfl (Keep.nil))))), HF309, ho67, ho61, ho71, ho63⟩⟩)
   replace H := itF c136 H
   refine cSet (i := 40) rfl (dF c136) ?_
   refine cF rfl ?_
   refine cSkip ?_
   refine kN (?_)
   refine hK65 _ _ ?_
   refine cSeq (fun K68 hK68 => ?_)
   refine cSeq (fun K69 hK69 => ?_)
   refine cRgn [] trivial ?_
   refine sL (fa44_1 rfl) rfl ?_
   refine sL (ld rfl Try.underlying3 rfl (HF281.box (mem_c (mem_a (mem_a mem_h))) rfl)) rfl ?_
   refine sL (bAnd rfl rfl) rfl ?_
   refine sL (bNeq rfl rfl) rfl ?_
   refine lE ?_
   refine kN (?_)
   refine hK69 _ _ ?_
   replace H := bnd H; obtain ⟨y15, H, Ho12⟩ := H
   refine cJoin (y := y15) (fun (s12 : (List Int)) a w => ∃ (A83 : Option Addr) (c147 : Nat) (L74 : Hp), Env 115 [(0, .slice A_a0 a0.length c_a0), (2, .pointer (some ⟨g1, 0, none⟩)), (3, .pointer (some ⟨g2, 0, none⟩)), (4, .int .i64 s11.1), (5, .pointer (some ⟨g16, 0, none⟩)), (6, .pointer (some ⟨g17, 0, none⟩))] a ∧ Fits z w (L74 ++ (bk g2 32 [.slice (some ⟨g15, o9, none⟩) t1.length c1, .slice A76 (s11.2.1 ++ t35).length c135, .slice A67 s11.2.2.1.length c122, .slice A68 s11.2.2.2.1.length c123, .slice A83 s12.length c147] :: (L67 ++ (bk g17 44 [.int .i64 t32.f_Head.f_Age, .int .i64 t32.f_Head.f_Kind, .int .i64 t32.f_Head.f_Id, .int .i64 t32.f_Head.f_Adv, .int .i64 t32.f_Head.f_Seq, .int .i64 t32.f_Head.f_Sum, .int .i64 t32.f_Head.f_Len, .int .i64 t32.f_Flags, .slice A70 t32.f_Links.length c127, .int .i64 t32.f_Bits, .slice A71 t32.f_Routers.length c128, .slice A72 t32.f_Verts.length c129] :: (bk g16 35 [.int .i64 ((rd t1 s11.1).f_Kind), .int .i64 ((rd t1 s11.1).f_Id)] :: (L61 ++ (L62 ++ (L1 ++ (bk g1 32 [.slice none 0 0, .slice none 0 0, .slice none 0 0, .slice none 0 0, .slice none 0 0] :: (N5 ++ F)))))))))) ∧ OwnS (kInt .i64) L74 A83 c147 s12) ?_ ?_
   ·by_cases c148 : (bits .and .i64 t32.f_Flags 8) = 0
    ·replace H := itT c148 H
     refine cSet (i := 58) rfl (nF c148) ?_
     refine cF rfl ?_
     refine cSkip ?_
     refine kN (?_)
     have HF315 := HF281.sublist (sl_c (sl_a (sl_da (sl_c (sl_c (sl_a (sl_a (sl_a (sl_a (sl_c sR))))))))))
     have HF316 := HF315.perm (perm_c1 (perm_f1 (perm_c1 (perm_c1 (perm_f1 (perm_f1 (perm_f1 (perm_f1 pR))))))))
     have HF317 := HF316.perm (perm_c (perm_c (perm_f (perm_c (perm_c (perm_f (perm_f (perm_f pR))))))))
     have HF318 := HF317.perm (perm_f (perm_c (perm_c (perm_f (perm_c (perm_c (perm_f pR)))))))
     have HF319 := HF318.perm (perm_f (perm_f (perm_c (perm_c (perm_f (perm_c (perm_c pR)))))))
     have HF320 := HF319.perm (perm_f1 (perm_f1 (perm_f1 (perm_c1 (perm_c1 (perm_f1 (perm_c1 pR)))))))
     have HF321 := HF320.perm (perm_c1 (perm_f1 (perm_f1 (perm_f1 (perm_c1 (perm_c1 (perm_f1 pR)))))))
     have HF322 := HF321.perm (perm_c (perm_c (perm_f (perm_f (perm_f (perm_c (perm_c pR)))))))
     have HF323 := HF322.perm (perm_f1 (perm_c1 (perm_c1 (perm_f1 (perm_f1 (perm_f1 (perm_c1 pR)))))))
     have HF324 := HF323.perm (perm_c (perm_f (perm_c (perm_c (perm_f (perm_f (perm_f (perm_c pR))))))))
     exact ofEnv (fun a hE => ⟨_, (Option.some.inj H).symm, ⟨_, _, L63, hE.keep (Keep.cons rfl (Keep.cons rfl (Keep.cons rfl (Keep.cons rfl (Keep.cons rfl (Keep.cons rfl (Keep.nil))))))), HF324, ho63⟩⟩)
    replace H := itF c148 H
    refine cSet (i := 58) rfl (nT c148) ?_
    refine cT rfl ?_
    refine cRgn [] trivial ?_
    refine sL (fa32_4 rfl) rfl ?_
    refine sL (ld rfl Try.underlying30 rfl (HF281.box (mem_h) rfl)) rfl ?_
    refine sL (fa35_1 rfl) rfl ?_
    refine sL (ld rfl Try.underlying3 rfl (HF281.box (mem_c (mem_a (mem_a (mem_c mem_h)))) rfl)) rfl ?_
    refine eW (oLit (r := [.int .i64 ((rd t1 s11.1).f_Id)]) (kInt .i64) [(rd t1 s11.1).f_Id] HF281 Try.underlying30 ti3 rfl rfl rfl rfl ⟨[], [], [.int .i64 ((rd t1 s11.1).f_Id)], _, rfl, rfl, ⟨rfl, rfl⟩, ⟨rfl, rfl⟩⟩ rfl rfl) rfl ?_
    rintro _ w156 ⟨L75, A84, c149, rfl, HF325, ho75⟩
    replace H := chk H; obtain ⟨c150, H⟩ := H
    have HF326 := HF325.perm (perm_f (perm_c (perm_f (perm_f (perm_c (perm_c (perm_f (perm_f pR))))))))
    refine eW (oApp (xs := s11.2.2.2.2) (ys := ([(rd t1 s11.1).f_Id])) (kInt .i64) HF326 rfl rfl Try.underlying30 Try.underlying30 ti3 rfl ho63 (srcR shrF ho75.rd HF326 (sub_a sub_h)) c150 rfl) rfl ?_
    rintro _ w157 ⟨L76, A85, c151, rfl, HF327, ho76⟩
    refine sL (fa32_4 rfl) rfl ?_
    have HF328 := HF327.perm (perm_f1 (perm_f1 pR))
    refine eS (oSt1 (l1 := [.slice (some ⟨g15, o9, none⟩) t1.length c1, .slice A76 (s11.2.1 ++ t35).length c135, .slice A67 s11.2.2.1.length c122, .slice A68 s11.2.2.2.1.length c123, .slice A85 (s11.2.2.2.2 ++ [(rd t1 s11.1).f_Id]).length c151]) HF328 rfl rfl ti30 rfl rfl rfl) ?_
    rintro w158 HF329
    refine lE ?_
    refine kN (?_)
    have HF330 := HF329.sublist (sl_c (sl_a (sl_da (sl_a (sl_da (sl_c (sl_c (sl_a (sl_a (sl_a (sl_c sR)))))))))))
    have HF331 := HF330.perm (perm_c1 (perm_f1 (perm_f1 (perm_c1 (perm_c1 (perm_f1 (perm_f1 (perm_f1 pR))))))))
    have HF332 := HF331.perm (perm_c (perm_c (perm_f (perm_f (perm_c (perm_c (perm_f (perm_f pR))))))))
    have HF333 := HF332.perm (perm_f (perm_c (perm_c (perm_f (perm_f (perm_c (perm_c (perm_f pR))))))))
    have HF334 := HF333.perm (perm_f (perm_f (perm_c (perm_c (perm_f (perm_f (perm_c (perm_c pR))))))))
    have HF335 := HF334.perm (perm_f1 (perm_f1 (perm_f1 (perm_c1 (perm_c1 (perm_f1 (perm_f1 (perm_c1 pR))))))))
    have HF336 := HF335.perm (perm_c1 (perm_f1 (perm_f1 (perm_f1 (perm_c1 (perm_c1 (perm_f1 (perm_f1 pR))))))))
    have HF337 := HF336.perm (perm_c (perm_c (perm_f (perm_f (perm_f (perm_c (perm_c (perm_f pR))))))))
    have HF338 := HF337.perm (perm_f1 (perm_c1 (perm_c1 (perm_f1 (perm_f1 (perm_f1 (perm_c1 pR)))))))
    have HF339 := HF338.perm (perm_c (perm_f (perm_c (perm_c (perm_f (perm_f (perm_f (perm_c pR))))))))
    exact ofEnv (fun a hE => ⟨_, (Option.some.inj H).symm, ⟨_, _, L76, hE.keep (Keep.cons rfl (Keep.cons rfl (Keep.cons rfl (Keep.cons rfl (Keep.cons rfl (Keep.cons rfl (Keep.nil))))))), HF339, ho76⟩⟩)
   rintro s12 a w159 rfl ⟨A83, c147, L74, hE, HF340, ho74⟩
   replace H := Ho12
   refine go_k hE ?_
   refine kN (?_)
   refine hK68 _ _ ?_
   refine cSeq (fun K70 hK70 => ?_)
   refine cRgn [] trivial ?_
   refine sL (asg rfl) rfl ?_
   refine lE ?_
   refine kN (?_)
   refine hK70 _ _ ?_
   replace H := bnd H; obtain ⟨y18, J46, Ho15⟩ := H
   have HF415 := HF340.perm (perm_f1 (perm_c1 (perm_f1 (perm_c1 (perm_c1 (perm_f1 (perm_f1 (perm_f1 pR))))))))
   have HF416 := HF415.perm (perm_c (perm_f (perm_c (perm_f (perm_c (perm_c (perm_f (perm_f pR))))))))
   have HF417 := HF416.perm (perm_f (perm_c (perm_f (perm_c (perm_f (perm_c (perm_c (perm_f pR))))))))
   have HF418 := HF417.perm (perm_f1 (perm_f1 (perm_c1 (perm_f1 (perm_c1 (perm_f1 (perm_c1 pR)))))))
   have HF419 := HF418.perm (perm_c1 (perm_f1 (perm_f1 (perm_c1 (perm_f1 (perm_c1 (perm_f1 pR)))))))
   have HF420 := HF419.perm (perm_c (perm_c (perm_f (perm_f (perm_c (perm_f (perm_c pR)))))))
   have HF421 := HF420.perm (perm_f1 (perm_c1 (perm_c1 (perm_f1 (perm_f1 (perm_c1 (perm_f1 pR)))))))
   have HF422 := HF421.perm (perm_c (perm_f (perm_c (perm_c (perm_f (perm_f (perm_c pR)))))))
   have HF423 := HF422.perm (perm_f (perm_c (perm_f (perm_c (perm_c (perm_f (perm_f (perm_c pR))))))))
   refine cLoopB (f_plenumref17_Map.b0 t1 s11 t32) (fun (s15 : Int × (List T_api_Stub)) a w => ∃ (A95 : Option Addr) (c174 : Nat) (L86 : Hp), Env 115 [(0, .slice A_a0 a0.length c_a0), (2, .pointer (some ⟨g1, 0, none⟩)), (3, .pointer (some ⟨g2, 0, none⟩)), (4, .int .i64 s11.1), (5, .pointer (some ⟨g16, 0, none⟩)), (6, .pointer (some ⟨g17, 0, none⟩)), (8, .int .i64 s15.1)] a ∧ Fits z w (L86 ++ (L74 ++ (bk g2 32 [.slice (some ⟨g15, o9, none⟩) t1.length c1, .slice A76 (s11.2.1 ++ t35).length c135, .slice A95 s15.2.length c174, .slice A68 s11.2.2.2.1.length c123, .slice A83 s12.length c147] :: (L67 ++ (bk g17 44 [.int .i64 t32.f_Head.f_Age, .int .i64 t32.f_Head.f_Kind, .int .i64 t32.f_Head.f_Id, .int .i64 t32.f_Head.f_Adv, .int .i64 t32.f_Head.f_Seq, .int .i64 t32.f_Head.f_Sum, .int .i64 t32.f_Head.f_Len, .int .i64 t32.f_Flags, .slice A70 t32.f_Links.length c127, .int .i64 t32.f_Bits, .slice A71 t32.f_Routers.length c128, .slice A72 t32.f_Verts.length c129] :: (bk g16 35 [.int .i64 ((rd t1 s11.1).f_Kind), .int .i64 ((rd t1 s11.1).f_Id)] :: (L62 ++ (L1 ++ (bk g1 32 [.slice none 0 0, .slice none 0 0, .slice none 0 0, .slice none 0 0, .slice none 0 0] :: (N5 ++ F)))))))))) ∧ OwnS k_T_api_Stub L86 A95 c174 s15.2) J46 (fun a hE => ⟨_, _, L61, hE.keep (Keep.cons rfl (Keep.cons rfl (Keep.cons rfl (Keep.cons rfl (Keep.cons rfl (Keep.cons rfl (Keep.cons rfl (Keep.nil)))))))), HF423, ho61⟩) ?_ ?_
   ·rintro s15 a w182 y19 ⟨A95, c174, L86, hE, HF383, ho86⟩ H Hx4
    refine go_ hE ?_
    refine cSeq (fun K81 hK81 => ?_)
    refine cSeq (fun K82 hK82 => ?_)
    refine cRgn [] trivial ?_
    refine sL (mv rfl) rfl ?_
    refine sL (fa44_2 rfl) rfl ?_
    refine sL (ld rfl Try.underlying42 rfl (HF383.box (mem_a (mem_a (mem_c (mem_a mem_h)))) rfl)) rfl ?_
    refine sL (lnS rfl Try.underlying42) rfl ?_
    refine sL (bLss rfl rfl) rfl ?_
    refine lE ?_
    refine kN (?_)
    refine hK82 _ _ ?_
    by_cases c175 : s15.1 < (t32.f_Links.length : Int)
    ·replace H := itT c175 H
     refine cSet (i := 70) rfl (dT c175) ?_
     refine cT rfl ?_
     refine cSkip ?_
     refine kN (?_)
     refine hK81 _ _ ?_
     refine cSeq (fun K83 hK83 => ?_)
     refine cBlock ?_
     refine cSeq (fun K84 hK84 => ?_)
     refine cRgn [] trivial ?_
     refine sL (fa44_2 rfl) rfl ?_
     refine sL (ld rfl Try.underlying42 rfl (HF383.box (mem_a (mem_a (mem_c (mem_a mem_h)))) rfl)) rfl ?_
     refine sL (mv rfl) rfl ?_
     replace H := chk H; obtain ⟨c176, H⟩ := H
     obtain ⟨g20, o12, _, rfl, rfl, q60⟩ := RdS.at_ hr13 c176 c175
     refine sL (ia rfl rfl Try.underlying42 ti56 c176 c175) rfl ?_
     refine sL (fa56_2 rfl) rfl ?_
     refine sL (ld rfl Try.underlying3 rfl (HF383.cells ((sub_a (sub_a (sub_c (sub_a (sub_c (sub_c (sub_a (sub_a (sub_c (sub_n hG))))))))))) (q60 2 _ rfl))) rfl ?_
     replace H := bnd H; obtain ⟨t44, J43, H⟩ := H
     refine eCall isf35 rfl rfl rfl (f_plenumref1_Bits.ok J43 HF383) ?_
     rintro _ w183 ⟨rfl, HF384⟩
     refine ⟨_, rfl, ?_⟩
     refine sL (asg rfl) rfl ?_
     refine lE ?_
     refine kN (?_)
     refine hK84 _ _ ?_
     refine cSeq (fun K85 hK85 => ?_)
     replace H := bnd H; obtain ⟨y20, H, Ho16⟩ := H
     refine cJoin (y := y20) (fun (s16 : Bool) a w => Env 115 [(0, .slice A_a0 a0.length c_a0), (2, .pointer (some ⟨g1, 0, none⟩)), (3, .pointer (some ⟨g2, 0, none⟩)), (4, .int .i64 s11.1), (5, .pointer (some ⟨g16, 0, none⟩)), (6, .pointer (some ⟨g17, 0, none⟩)), (8, .int .i64 s15.1), (9, .int .i64 t44), (90, .bool s16)] a ∧ Fits z w (L86 ++ (L74 ++ (bk g2 32 [.slice (some ⟨g15, o9, none⟩) t1.length c1, .slice A76 (s11.2.1 ++ t35).length c135, .slice A95 s15.2.length c174, .slice A68 s11.2.2.2.1.length c123, .slice A83 s12.length c147] :: (L67 ++ (bk g17 44 [.int .i64 t32.f_Head.f_Age, .int .i64 t32.f_Head.f_Kind, .int .i64 t32.f_Head.f_Id, .int .i64 t32.f_Head.f_Adv, .int .i64 t32.f_Head.f_Seq, .int .i64 t32.f_Head.f_Sum, .int .i64 t32.f_Head.f_Len, .int .i64 t32.f_Flags, .slice (some ⟨g20, o12, none⟩) t32.f_Links.length c127, .int .i64 t32.f_Bits, .slice A71 t32.f_Routers.length c128, .slice A72 t32.f_Verts.length c129] :: (bk g16 35 [.int .i64 ((rd t1 s11.1).f_Kind), .int .i64 ((rd t1 s11.1).f_Id)] :: (L62 ++ (L1 ++ (bk g1 32 [.slice none 0 0, .slice none 0 0, .slice none 0 0, .slice none 0 0, .slice none 0 0] :: (N5 ++ F))))))))))) ?_ ?_
     ·refine cRgn [(7, 87)] ⟨rfl, trivial⟩ ?_
      refine sL (fa44_2 rfl) rfl ?_
      refine sL (ld rfl Try.underlying42 rfl (HF384.box (mem_a (mem_a (mem_c (mem_a mem_h)))) rfl)) rfl ?_
      refine sL (mv rfl) rfl ?_
      obtain ⟨_, rfl, q62⟩ := RdS.at' hr13 c176 c175
      refine sL (ia rfl rfl Try.underlying42 ti56 c176 c175) rfl ?_
      refine sL (fa56_0 rfl) rfl ?_
      refine sL (ld rfl Try.underlying3 rfl (HF384.cells ((sub_a (sub_a (sub_c (sub_a (sub_c (sub_c (sub_a (sub_a (sub_c (sub_n hG))))))))))) (q62 0 _ rfl))) rfl ?_
      refine sL (bEql rfl rfl) rfl ?_
      refine sL (mv rfl) rfl ?_
      by_cases c178 : ((rd t32.f_Links s15.1).f_Kind) = 3
      ·replace H := itT c178 H
       refine lSet (i := 87) rfl (dT c178) ?_
       refine sG rfl rfl (mv rfl) rfl ?_
       refine sG rfl rfl (bGeq rfl rfl) rfl ?_
       refine sL (pkT rfl rfl) rfl ?_
       refine lE ?_
       refine kN (?_)
       exact ofEnv (fun a hE => ⟨_, (Option.some.inj H).symm, ⟨hE.keep (Keep.cons rfl (Keep.cons rfl (Keep.cons rfl (Keep.cons rfl (Keep.cons rfl (Keep.cons rfl (Keep.cons rfl (Keep.cons rfl (Keep.cons rfl (Keep.nil)))))))))), HF384⟩⟩)
      replace H := itF c178 H
      refine lSet (i := 87) rfl (dF c178) ?_
      refine sN rfl rfl rfl rfl ?_
      refine sN rfl rfl rfl rfl ?_
      refine sL (pkF rfl rfl) rfl ?_
      refine lE ?_
      refine kN (?_)
      exact ofEnv (fun a hE => ⟨_, (Option.some.inj H).symm, ⟨hE.keep (Keep.cons rfl (Keep.cons rfl (Keep.cons rfl (Keep.cons rfl (Keep.cons rfl (Keep.cons rfl (Keep.cons rfl (Keep.cons rfl (Keep.cons rfl (Keep.nil)))))))))), HF384⟩⟩)
     rintro s16 a w184 rfl ⟨hE, HF385⟩
     replace H := Ho16
     refine go_k hE ?_
     refine kN (?_)
     refine hK85 _ _ ?_
     by_cases c179 : s16 = true
     ·replace H := itT c179 H
      refine cSet (i := 90) rfl (vT c179) ?_
      refine cT rfl ?_
      refine cDraw mo_ HF385 rfl (fun w => Fits z w (L74 ++ (L67 ++ (bk g17 44 [.int .i64 t32.f_Head.f_Age, .int .i64 t32.f_Head.f_Kind, .int .i64 t32.f_Head.f_Id, .int .i64 t32.f_Head.f_Adv, .int .i64 t32.f_Head.f_Seq, .int .i64 t32.f_Head.f_Sum, .int .i64 t32.f_Head.f_Len, .int .i64 t32.f_Flags, .slice (some ⟨g20, o12, none⟩) t32.f_Links.length c127, .int .i64 t32.f_Bits, .slice A71 t32.f_Routers.length c128, .slice A72 t32.f_Verts.length c129] :: (bk g16 35 [.int .i64 ((rd t1 s11.1).f_Kind), .int .i64 ((rd t1 s11.1).f_Id)] :: (L62 ++ (L1 ++ (bk g1 32 [.slice none 0 0, .slice none 0 0, .slice none 0 0, .slice none 0 0, .slice none 0 0] :: (N5 ++ F))))))))) (fun w189 HF393 => ?_)
      have HF394 := HF393.sublist (sl_da (sl_a (sl_dc (sl_a (sl_c (sl_c (sl_a (sl_a (sl_c sR)))))))))
      refine hT 0 rfl (by kernel_rfl) (fun w_ hS_ => fa32_2 rfl) HF394 rfl rfl ?_
      refine hT 2 rfl (by kernel_rfl) (fun w_ hS_ => fa35_1 rfl) HF394 rfl rfl ?_
      refine hT 3 rfl (by kernel_rfl) (fun w_ hS_ => ld rfl Try.underlying3 rfl (hS_.box (mem_a (mem_a (mem_c mem_h))) rfl)) HF394 rfl rfl ?_
      refine hT 4 rfl (by kernel_rfl) (fun w_ hS_ => fa44_2 rfl) HF394 rfl rfl ?_
      refine hT 5 rfl (by kernel_rfl) (fun w_ hS_ => ld rfl Try.underlying42 rfl (hS_.box (mem_a (mem_a mem_h)) rfl)) HF394 rfl rfl ?_
      refine hT 6 rfl (by kernel_rfl) (fun w_ hS_ => mv rfl) HF394 rfl rfl ?_
      obtain ⟨_, rfl, q65⟩ := RdS.at' hr13 c176 c175
      refine hT 7 rfl (by kernel_rfl) (fun w_ hS_ => ia rfl rfl Try.underlying42 ti56 c176 c175) HF394 rfl rfl ?_
      refine hT 8 rfl (by kernel_rfl) (fun w_ hS_ => fa56_1 rfl) HF394 rfl rfl ?_
      refine hT 9 rfl (by kernel_rfl) (fun w_ hS_ => ld rfl Try.underlying3 rfl (hS_.cells ((sub_a (sub_a (sub_c (sub_c (sub_a (sub_a (sub_c (sub_n hG))))))))) (q65 1 _ rfl))) HF394 rfl rfl ?_
      refine hT 10 rfl (by kernel_rfl) (fun w_ hS_ => mv rfl) HF394 rfl rfl ?_
      refine hT 12 rfl (by kernel_rfl) (fun w_ hS_ => mv rfl) HF394 rfl rfl ?_
      refine hT 13 rfl (by kernel_rfl) (fun w_ hS_ => fa44_2 rfl) HF394 rfl rfl ?_
      refine hT 14 rfl (by kernel_rfl) (fun w_ hS_ => ld rfl Try.underlying42 rfl (hS_.box (mem_a (mem_a mem_h)) rfl)) HF394 rfl rfl ?_
      refine hT 15 rfl (by kernel_rfl) (fun w_ hS_ => mv rfl) HF394 rfl rfl ?_
      obtain ⟨_, rfl, q66⟩ := RdS.at' hr13 c176 c175
      refine hT 16 rfl (by kernel_rfl) (fun w_ hS_ => ia rfl rfl Try.underlying42 ti56 c176 c175) HF394 rfl rfl ?_
      refine hT 17 rfl (by kernel_rfl) (fun w_ hS_ => fa56_3 rfl) HF394 rfl rfl ?_
      refine hT 18 rfl (by kernel_rfl) (fun w_ hS_ => ld rfl Try.underlying3 rfl (hS_.cells ((sub_a (sub_a (sub_c (sub_c (sub_a (sub_a (sub_c (sub_n hG))))))))) (q66 3 _ rfl))) HF394 rfl rfl ?_
      refine h2 1 11 (by kernel_rfl) rfl rfl ?_ ?_
      ·refine qL rfl gd0 (ld rfl Try.underlying28 rfl (HF393.box (mem_a (mem_a mem_h)) rfl)) rfl HF394 ?_
       refine h1 11 (by kernel_rfl) rfl ?_
       replace H := bnd H; obtain ⟨t46, J45, H⟩ := H
       refine qCall rfl gd0 isf34 rfl rfl rfl (f_plenumref1_Net.ok J45 HF393) ?_
       rintro _ w190 ⟨rfl, HF395⟩
       have HF396 := HF395.sublist (sl_da (sl_a (sl_dc (sl_a (sl_c (sl_c (sl_a (sl_a (sl_c sR)))))))))
       refine ⟨_, rfl, HF396, ?_⟩
       refine hT 19 rfl (by kernel_rfl) (fun w_ hS_ => bd (r := [.int .i64 ((rd t1 s11.1).f_Id), .int .i64 t46, .int .i64 t44, .int .i64 ((rd t32.f_Links s15.1).f_Cost)]) pl72 ti72 rfl rfl) HF396 rfl rfl ?_
       refine h1 20 (by kernel_rfl) rfl ?_
       refine qW rfl gd0 (oLit (r := [.int .i64 ((rd t1 s11.1).f_Id), .int .i64 t46, .int .i64 t44, .int .i64 ((rd t32.f_Links s15.1).f_Cost)]) k_T_api_Stub [(⟨(rd t1 s11.1).f_Id, t46, t44, (rd t32.f_Links s15.1).f_Cost⟩ : T_api_Stub)] HF395 Try.underlying28 ti72 rfl rfl rfl rfl ⟨[], [], [.int .i64 ((rd t1 s11.1).f_Id), .int .i64 t46, .int .i64 t44, .int .i64 ((rd t32.f_Links s15.1).f_Cost)], _, rfl, rfl, ⟨rfl, rfl⟩, ⟨rfl, rfl⟩⟩ rfl rfl) rfl ?_
       rintro _ w191 ⟨L89, A98, c183, rfl, HF397, ho89⟩
       have HF398 := HF397.sublist (sl_da (sl_da (sl_a (sl_dc (sl_a (sl_c (sl_c (sl_a (sl_a (sl_c sR))))))))))
       refine ⟨HF398, ?_⟩
       refine h1 21 (by kernel_rfl) rfl ?_
       replace H := chk H; obtain ⟨c184, H⟩ := H
       have HF399 := HF397.perm (perm_f pR)
       refine qW rfl gd0 (oApp (xs := s15.2) (ys := ([(⟨(rd t1 s11.1).f_Id, t46, t44, (rd t32.f_Links s15.1).f_Cost⟩ : T_api_Stub)])) k_T_api_Stub HF399 rfl rfl Try.underlying28 Try.underlying28 ti72 rfl ho86 (srcR shrF ho89.rd HF399 (sub_a sub_h)) c184 rfl) rfl ?_
       rintro _ w192 ⟨L90, A99, c185, rfl, HF400, ho90⟩
       have HF401 := HF400.sublist (sl_da (sl_da (sl_a (sl_dc (sl_a (sl_c (sl_c (sl_a (sl_a (sl_c sR))))))))))
       refine ⟨HF401, ?_⟩
       refine hT 22 rfl (by kernel_rfl) (fun w_ hS_ => fa32_2 rfl) HF401 rfl rfl ?_
       refine h1 23 (by kernel_rfl) rfl ?_
       have HF402 := HF400.perm (perm_f1 (perm_f1 (perm_f1 pR)))
       refine qS rfl gd0 (oSt1 (l1 := [.slice (some ⟨g15, o9, none⟩) t1.length c1, .slice A76 (s11.2.1 ++ t35).length c135, .slice A99 (s15.2 ++ [(⟨(rd t1 s11.1).f_Id, t46, t44, (rd t32.f_Links s15.1).f_Cost⟩ : T_api_Stub)]).length c185, .slice A68 s11.2.2.2.1.length c123, .slice A83 s12.length c147]) HF402 rfl rfl ti28 rfl rfl rfl) ?_
       rintro w193 HF403
       have HF404 := HF403.sublist (sl_dc (sl_da (sl_da (sl_a (sl_a (sl_c (sl_c (sl_a (sl_a (sl_c sR))))))))))
       refine ⟨HF404, ?_⟩
       refine hEnd (by kernel_rfl) ?_
       refine jN (kN (?_))
       refine hK83 _ _ ?_
       refine cRgn [] trivial ?_
       refine sL (mv rfl) rfl ?_
       refine sL (bAdd rfl rfl) rfl ?_
       refine sL (asg rfl) rfl ?_
       refine lE ?_
       refine kN (?_)
       have HF405 := HF403.sublist (sl_c (sl_a (sl_da (sl_a (sl_a (sl_c (sl_c (sl_a (sl_a (sl_c sR))))))))))
       have HF406 := HF405.perm (perm_c1 (perm_f1 (perm_f1 (perm_f1 (perm_c1 (perm_c1 (perm_f1 (perm_f1 pR))))))))
       have HF407 := HF406.perm (perm_c (perm_c (perm_f (perm_f (perm_f (perm_c (perm_c (perm_f pR))))))))
       have HF408 := HF407.perm (perm_f (perm_c (perm_c (perm_f (perm_f (perm_f (perm_c (perm_c pR))))))))
       have HF409 := HF408.perm (perm_f1 (perm_f1 (perm_c1 (perm_c1 (perm_f1 (perm_f1 (perm_f1 (perm_c1 pR))))))))
       have HF410 := HF409.perm (perm_c1 (perm_f1 (perm_f1 (perm_c1 (perm_c1 (perm_f1 (perm_f1 (perm_f1 pR))))))))
       have HF411 := HF410.perm (perm_c (perm_c (perm_f (perm_f (perm_c (perm_c (perm_f (perm_f pR))))))))
       have HF412 := HF411.perm (perm_f1 (perm_c1 (perm_c1 (perm_f1 (perm_f1 (perm_c1 pR))))))
       have HF413 := HF412.perm (perm_c (perm_f (perm_c (perm_c (perm_f (perm_f (perm_c (perm_f pR))))))))
       have HF414 := HF413.perm (perm_f (perm_c (perm_f (perm_c (perm_c (perm_f (perm_f (perm_c pR))))))))
       exact ofEnv (fun a hE => ⟨_, (Option.some.inj H).symm, ⟨_, _, L90, hE.keep (Keep.cons rfl (Keep.cons rfl (Keep.cons rfl (Keep.cons rfl (Keep.cons rfl (Keep.cons rfl (Keep.cons rfl (Keep.nil)))))))), HF414, ho90⟩⟩)
      replace H := bnd H; obtain ⟨t46, J45, H⟩ := H
      refine qCall rfl gd0 isf34 rfl rfl rfl (f_plenumref1_Net.ok J45 HF393) ?_
      rintro _ w190 ⟨rfl, HF395⟩
      have HF396 := HF395.sublist (sl_da (sl_a (sl_dc (sl_a (sl_c (sl_c (sl_a (sl_a (sl_c sR)))))))))
      refine ⟨_, rfl, HF396, ?_⟩
      refine hT 19 rfl (by kernel_rfl) (fun w_ hS_ => bd (r := [.int .i64 ((rd t1 s11.1).f_Id), .int .i64 t46, .int .i64 t44, .int .i64 ((rd t32.f_Links s15.1).f_Cost)]) pl72 ti72 rfl rfl) HF396 rfl rfl ?_
      refine h2 1 20 (by kernel_rfl) rfl rfl ?_ ?_
      ·refine qL rfl gd0 (ld rfl Try.underlying28 rfl (HF395.box (mem_a (mem_a mem_h)) rfl)) rfl HF396 ?_
       refine h1 20 (by kernel_rfl) rfl ?_
       refine qW rfl gd0 (oLit (r := [.int .i64 ((rd t1 s11.1).f_Id), .int .i64 t46, .int .i64 t44, .int .i64 ((rd t32.f_Links s15.1).f_Cost)]) k_T_api_Stub [(⟨(rd t1 s11.1).f_Id, t46, t44, (rd t32.f_Links s15.1).f_Cost⟩ : T_api_Stub)] HF395 Try.underlying28 ti72 rfl rfl rfl rfl ⟨[], [], [.int .i64 ((rd t1 s11.1).f_Id), .int .i64 t46, .int .i64 t44, .int .i64 ((rd t32.f_Links s15.1).f_Cost)], _, rfl, rfl, ⟨rfl, rfl⟩, ⟨rfl, rfl⟩⟩ rfl rfl) rfl ?_
       rintro _ w191 ⟨L89, A98, c183, rfl, HF397, ho89⟩
       have HF398 := HF397.sublist (sl_da (sl_da (sl_a (sl_dc (sl_a (sl_c (sl_c (sl_a (sl_a (sl_c sR))))))))))
       refine ⟨HF398, ?_⟩
       refine h1 21 (by kernel_rfl) rfl ?_
       replace H := chk H; obtain ⟨c184, H⟩ := H
       have HF399 := HF397.perm (perm_f pR)
       refine qW rfl gd0 (oApp (xs := s15.2) (ys := ([(⟨(rd t1 s11.1).f_Id, t46, t44, (rd t32.f_Links s15.1).f_Cost⟩ : T_api_Stub)])) k_T_api_Stub HF399 rfl rfl Try.underlying28 Try.underlying28 ti72 rfl ho86 (srcR shrF ho89.rd HF399 (sub_a sub_h)) c184 rfl) rfl ?_
       rintro _ w192 ⟨L90, A99, c185, rfl, HF400, ho90⟩
       have HF401 := HF400.sublist (sl_da (sl_da (sl_a (sl_dc (sl_a (sl_c (sl_c (sl_a (sl_a (sl_c sR))))))))))
       refine ⟨HF401, ?_⟩
       refine hT 22 rfl (by kernel_rfl) (fun w_ hS_ => fa32_2 rfl) HF401 rfl rfl ?_
       refine h1 23 (by kernel_rfl) rfl ?_
       have HF402 := HF400.perm (perm_f1 (perm_f1 (perm_f1 pR)))
       refine qS rfl gd0 (oSt1 (l1 := [.slice (some ⟨g15, o9, none⟩) t1.length c1, .slice A76 (s11.2.1 ++ t35).length c135, .slice A99 (s15.2 ++ [(⟨(rd t1 s11.1).f_Id, t46, t44, (rd t32.f_Links s15.1).f_Cost⟩ : T_api_Stub)]).length c185, .slice A68 s11.2.2.2.1.length c123, .slice A83 s12.length c147]) HF402 rfl rfl ti28 rfl rfl rfl) ?_
       rintro w193 HF403
       have HF404 := HF403.sublist (sl_dc (sl_da (sl_da (sl_a (sl_a (sl_c (sl_c (sl_a (sl_a (sl_c sR))))))))))
       refine ⟨HF404, ?_⟩
       refine hEnd (by kernel_rfl) ?_
       refine jN (kN (?_))
       refine hK83 _ _ ?_
       refine cRgn [] trivial ?_
       refine sL (mv rfl) rfl ?_
       refine sL (bAdd rfl rfl) rfl ?_
       refine sL (asg rfl) rfl ?_
       refine lE ?_
       refine kN (?_)
       have HF405 := HF403.sublist (sl_c (sl_a (sl_da (sl_a (sl_a (sl_c (sl_c (sl_a (sl_a (sl_c sR))))))))))
       have HF406 := HF405.perm (perm_c1 (perm_f1 (perm_f1 (perm_f1 (perm_c1 (perm_c1 (perm_f1 (perm_f1 pR))))))))
       have HF407 := HF406.perm (perm_c (perm_c (perm_f (perm_f (perm_f (perm_c (perm_c (perm_f pR))))))))
       have HF408 := HF407.perm (perm_f (perm_c (perm_c (perm_f (perm_f (perm_f (perm_c (perm_c pR))))))))
       have HF409 := HF408.perm (perm_f1 (perm_f1 (perm_c1 (perm_c1 (perm_f1 (perm_f1 (perm_f1 (perm_c1 pR))))))))
       have HF410 := HF409.perm (perm_c1 (perm_f1 (perm_f1 (perm_c1 (perm_c1 (perm_f1 (perm_f1 (perm_f1 pR))))))))
       have HF411 := HF410.perm (perm_c (perm_c (perm_f (perm_f (perm_c (perm_c (perm_f (perm_f pR))))))))
       have HF412 := HF411.perm (perm_f1 (perm_c1 (perm_c1 (perm_f1 (perm_f1 (perm_c1 pR))))))
       have HF413 := HF412.perm (perm_c (perm_f (perm_c (perm_c (perm_f (perm_f (perm_c (perm_f pR))))))))
       have HF414 := HF413.perm (perm_f (perm_c (perm_f (perm_c (perm_c (perm_f (perm_f (perm_c pR))))))))
       exact ofEnv (fun a hE => ⟨_, (Option.some.inj H).symm, ⟨_, _, L90, hE.keep (Keep.cons rfl (Keep.cons rfl (Keep.cons rfl (Keep.cons rfl (Keep.cons rfl (Keep.cons rfl (Keep.cons rfl (Keep.nil)))))))), HF414, ho90⟩⟩)
      refine qW rfl gd0 (oLit (r := [.int .i64 ((rd t1 s11.1).f_Id), .int .i64 t46, .int .i64 t44, .int .i64 ((rd t32.f_Links s15.1).f_Cost)]) k_T_api_Stub [(⟨(rd t1 s11.1).f_Id, t46, t44, (rd t32.f_Links s15.1).f_Cost⟩ : T_api_Stub)] HF395 Try.underlying28 ti72 rfl rfl rfl rfl ⟨[], [], [.int .i64 ((rd t1 s11.1).f_Id), .int .i64 t46, .int .i64 t44, .int .i64 ((rd t32.f_Links s15.1).f_Cost)], _, rfl, rfl, ⟨rfl, rfl⟩, ⟨rfl, rfl⟩⟩ rfl rfl) rfl ?_
      rintro _ w191 ⟨L89, A98, c183, rfl, HF397, ho89⟩
      have HF398 := HF397.sublist (sl_da (sl_da (sl_a (sl_dc (sl_a (sl_c (sl_c (sl_a (sl_a (sl_c sR))))))))))
      refine ⟨HF398, ?_⟩
      refine h1 1 (by kernel_rfl) rfl ?_
      refine qL rfl gd0 (ld rfl Try.underlying28 rfl (HF397.box (mem_a (mem_a (mem_a mem_h))) rfl)) rfl HF398 ?_
      refine h1 21 (by kernel_rfl) rfl ?_
      replace H := chk H; obtain ⟨c184, H⟩ := H
      have HF399 := HF397.perm (perm_f pR)
      refine qW rfl gd0 (oApp (xs := s15.2) (ys := ([(⟨(rd t1 s11.1).f_Id, t46, t44, (rd t32.f_Links s15.1).f_Cost⟩ : T_api_Stub)])) k_T_api_Stub HF399 rfl rfl Try.underlying28 Try.underlying28 ti72 rfl ho86 (srcR shrF ho89.rd HF399 (sub_a sub_h)) c184 rfl) rfl ?_
      rintro _ w192 ⟨L90, A99, c185, rfl, HF400, ho90⟩
      have HF401 := HF400.sublist (sl_da (sl_da (sl_a (sl_dc (sl_a (sl_c (sl_c (sl_a (sl_a (sl_c sR))))))))))
      refine ⟨HF401, ?_⟩
      refine hT 22 rfl (by kernel_rfl) (fun w_ hS_ => fa32_2 rfl) HF401 rfl rfl ?_
      refine h1 23 (by kernel_rfl) rfl ?_
      have HF402 := HF400.perm (perm_f1 (perm_f1 (perm_f1 pR)))
      refine qS rfl gd0 (oSt1 (l1 := [.slice (some ⟨g15, o9, none⟩) t1.length c1, .slice A76 (s11.2.1 ++ t35).length c135, .slice A99 (s15.2 ++ [(⟨(rd t1 s11.1).f_Id, t46, t44, (rd t32.f_Links s15.1).f_Cost⟩ : T_api_Stub)]).length c185, .slice A68 s11.2.2.2.1.length c123, .slice A83 s12.length c147]) HF402 rfl rfl ti28 rfl rfl rfl) ?_
      rintro w193 HF403
      have HF404 := HF403.sublist (sl_dc (sl_da (sl_da (sl_a (sl_a (sl_c (sl_c (sl_a (sl_a (sl_c sR))))))))))
      refine ⟨HF404, ?_⟩
      refine hEnd (by kernel_rfl) ?_
      refine jN (kN (?_))
      refine hK83 _ _ ?_
      refine cRgn [] trivial ?_
      refine sL (mv rfl) rfl ?_
      refine sL (bAdd rfl rfl) rfl ?_
      refine sL (asg rfl) rfl ?_
      refine lE ?_
      refine kN (?_)
      have HF405 := HF403.sublist (sl_c (sl_a (sl_da (sl_a (sl_a (sl_c (sl_c (sl_a (sl_a (sl_c sR))))))))))
      have HF406 := HF405.perm (perm_c1 (perm_f1 (perm_f1 (perm_f1 (perm_c1 (perm_c1 (perm_f1 (perm_f1 pR))))))))
      have HF407 := HF406.perm (perm_c (perm_c (perm_f (perm_f (perm_f (perm_c (perm_c (perm_f pR))))))))
      have HF408 := HF407.perm (perm_f (perm_c (perm_c (perm_f (perm_f (perm_f (perm_c (perm_c pR))))))))
      have HF409 := HF408.perm (perm_f1 (perm_f1 (perm_c1 (perm_c1 (perm_f1 (perm_f1 (perm_f1 (perm_c1 pR))))))))
      have HF410 := HF409.perm (perm_c1 (perm_f1 (perm_f1 (perm_c1 (perm_c1 (perm_f1 (perm_f1 (perm_f1 pR))))))))
      have HF411 := HF410.perm (perm_c (perm_c (perm_f (perm_f (perm_c (perm_c (perm_f (perm_f pR))))))))
      have HF412 := HF411.perm (perm_f1 (perm_c1 (perm_c1 (perm_f1 (perm_f1 (perm_c1 pR))))))
      have HF413 := HF412.perm (perm_c (perm_f (perm_c (perm_c (perm_f (perm_f (perm_c (perm_f pR))))))))
      have HF414 := HF413.perm (perm_f (perm_c (perm_f (perm_c (perm_c (perm_f (perm_f (perm_c pR))))))))
      exact ofEnv (fun a hE => ⟨_, (Option.some.inj H).symm, ⟨_, _, L90, hE.keep (Keep.cons rfl (Keep.cons rfl (Keep.cons rfl (Keep.cons rfl (Keep.cons rfl (Keep.cons rfl (Keep.cons rfl (Keep.nil)))))))), HF414, ho90⟩⟩)
     replace H := itF c179 H
     refine cSet (i := 90) rfl (vF c179) ?_
     refine cF rfl ?_
     refine cSkip ?_
     refine jN (kN (?_))
     refine hK83 _ _ ?_
     refine cRgn [] trivial ?_
     refine sL (mv rfl) rfl ?_
     refine sL (bAdd rfl rfl) rfl ?_
     refine sL (asg rfl) rfl ?_
     refine lE ?_
     refine kN (?_)
     exact ofEnv (fun a hE => ⟨_, (Option.some.inj H).symm, ⟨_, _, L86, hE.keep (Keep.cons rfl (Keep.cons rfl (Keep.cons rfl (Keep.cons rfl (Keep.cons rfl (Keep.cons rfl (Keep.cons rfl (Keep.nil)))))))), HF385, ho86⟩⟩)
    replace H := itF c175 H
    refine cSet (i := 70) rfl (dF c175) ?_
    refine cF rfl ?_
    refine cExit ?_
    refine kX (kX (jX (kN (?_))))
    exact ofEnv (fun a hE => ⟨_, (Option.some.inj H).symm, ⟨_, _, L86, hE.keep (Keep.cons rfl (Keep.cons rfl (Keep.cons rfl (Keep.cons rfl (Keep.cons rfl (Keep.cons rfl (Keep.cons rfl (Keep.nil)))))))), HF383, ho86⟩⟩)
   rintro s15 a w194 rfl ⟨A95, c174, L86, hE, HF424, ho86⟩
   replace H := Ho15
   refine go_k hE ?_
   refine jN (kN (?_))
   refine hK61 _ _ ?_
   refine cRgn [] trivial ?_
   refine sL (mv rfl) rfl ?_
   refine sL (bAdd rfl rfl) rfl ?_
   refine sL (asg rfl) rfl ?_
   refine lE ?_
   refine kN (?_)
   have HF425 := HF424.sublist (sl_a (sl_a (sl_c (sl_a (sl_dc (sl_dc (sl_a (sl_a (sl_c sR)))))))))
   have HF426 := HF425.perm (perm_f1 (perm_f1 (perm_c1 (perm_f1 (perm_f1 (perm_f1 pR))))))
   have HF427 := HF426.perm (perm_c (perm_f (perm_f (perm_c (perm_f (perm_f pR))))))
   have HF428 := HF427.perm (perm_f1 (perm_c1 (perm_f1 (perm_f1 pR))))
   have HF429 := HF428.perm (perm_c (perm_f (perm_c (perm_f pR))))
   have HF430 := HF429.perm (perm_f (perm_c (perm_f (perm_c (perm_f (perm_f pR))))))
   have HF431 := HF430.perm (perm_f (perm_f (perm_c (perm_f (perm_c pR)))))
   have HF432 := HF431.perm (perm_f (perm_f (perm_f (perm_c (perm_f (perm_c pR))))))
   exact ofEnv (fun a hE => ⟨_, (Option.some.inj H).symm, ⟨N5, _, _, L67, _, _, L86, _, _, L62, _, _, L74, hE.keep (Keep.cons rfl (Keep.cons rfl (Keep.cons rfl (Keep.cons rfl (Keep.nil))))), HF432, ho67, ho86, ho62, ho74⟩⟩)
  replace H := itF c125 H
  refine cSet (i := 17) rfl (dF c125) ?_
  refine cF rfl ?_
  refine cExit ?_
  refine kX (kX (jX (kN (?_))))
  exact ofEnv (fun a hE => ⟨_, (Option.some.inj H).symm, ⟨D2, _, _, L60, _, _, L61, _, _, L62, _, _, L63, hE.keep (Keep.cons rfl (Keep.cons rfl (Keep.cons rfl (Keep.cons rfl (Keep.nil))))), HF259, ho60, ho61, ho62, ho63⟩⟩)
 rintro s11 a w195 rfl ⟨D2, A66, c121, L60, A67, c122, L61, A68, c123, L62, A69, c124, L63, hE, HF433, ho60, ho61, ho62, ho63⟩
 replace H := Ho11
 refine go_k hE ?_
 have hs6 : G ⊆ D2 ++ G := sub_a sub_r
 refine kN (?_)
 refine hK3 _ _ ?_
 refine cSeq (fun K86 hK86 => ?_)
 refine cRgn [] trivial ?_
 refine sL (ldA (cs := [.slice A1 t1.length c1, .slice A66 s11.2.1.length c121, .slice A67 s11.2.2.1.length c122, .slice A68 s11.2.2.2.1.length c123, .slice A69 s11.2.2.2.2.length c124]) rfl ti32 rfl rfl (HF433.boxes (o := 0) (n := 5) (mem_a (mem_a (mem_a (mem_a mem_h)))) rfl)) rfl ?_
 have HF434 := HF433.perm (perm_f1 (perm_f1 (perm_f1 (perm_f1 (perm_c1 (perm_f1 pR))))))
 refine eS (oSt (l1 := [.slice A1 t1.length c1, .slice A66 s11.2.1.length c121, .slice A67 s11.2.2.1.length c122, .slice A68 s11.2.2.2.1.length c123, .slice A69 s11.2.2.2.2.length c124]) HF434 rfl rfl ti32 rfl (ones rfl) (Nat.le_of_ble_eq_true rfl) rfl) ?_
 rintro w196 HF435
 refine lE ?_
 refine kN (?_)
 refine hK86 _ _ ?_
 refine cRet ?_
 obtain ⟨N6, hN3⟩ : ∃ N_, N_ = L1 ++ D2 := ⟨_, rfl⟩
 have HF436 := HF435; rw [← List.append_assoc L1 D2 F, ← hN3] at HF436
 have hs7 : D2 ++ G ⊆ N6 ++ G := frz_s hN3
 have hz1 : RdS k_T_api_Vert (N6 ++ G) A1 c1 t1 := RdS.mono ho1.rd (frz_l hN3)
 have HF437 := HF436.perm (pm_c (perm_f (perm_f (perm_f (perm_c pR)))).symm)
 obtain ⟨N7, hN4⟩ : ∃ N_, N_ = L60 ++ N6 := ⟨_, rfl⟩
 have HF438 := HF437; rw [← List.append_assoc L60 N6 F, ← hN4] at HF438
 have hs8 : N6 ++ G ⊆ N7 ++ G := frz_s hN4
 have hz2 : RdS k_T_api_Edge (N7 ++ G) A66 c121 s11.2.1 := RdS.mono ho60.rd (frz_l hN4)
 have HF439 := HF438.perm (pm_c (perm_f (perm_f (perm_c pR))).symm)
 obtain ⟨N8, hN5⟩ : ∃ N_, N_ = L61 ++ N7 := ⟨_, rfl⟩
 have HF440 := HF439; rw [← List.append_assoc L61 N7 F, ← hN5] at HF440
 have hs9 : N7 ++ G ⊆ N8 ++ G := frz_s hN5
 have hz3 : RdS k_T_api_Stub (N8 ++ G) A67 c122 s11.2.2.1 := RdS.mono ho61.rd (frz_l hN5)
 have HF441 := HF440.perm (pm_c (perm_f (perm_c pR)).symm)
 obtain ⟨N9, hN6⟩ : ∃ N_, N_ = L62 ++ N8 := ⟨_, rfl⟩
 have HF442 := HF441; rw [← List.append_assoc L62 N8 F, ← hN6] at HF442
 have hs10 : N8 ++ G ⊆ N9 ++ G := frz_s hN6
 have hz4 : RdS k_T_api_Span (N9 ++ G) A68 c123 s11.2.2.2.1 := RdS.mono ho62.rd (frz_l hN6)
 have HF443 := HF442.perm (pm_c (perm_c pR).symm)
 obtain ⟨N10, hN7⟩ : ∃ N_, N_ = L63 ++ N9 := ⟨_, rfl⟩
 have HF444 := HF443; rw [← List.append_assoc L63 N9 F, ← hN7] at HF444
 have hs11 : N9 ++ G ⊆ N10 ++ G := frz_s hN7
 have hz5 : RdS (kInt .i64) (N10 ++ G) A69 c124 s11.2.2.2.2 := RdS.mono ho63.rd (frz_l hN7)
 obtain rfl := Option.some.inj H
 refine retA rfl (rvC rfl (lvA (cs := [.slice A1 t1.length c1, .slice A66 s11.2.1.length c121, .slice A67 s11.2.2.1.length c122, .slice A68 s11.2.2.2.1.length c123, .slice A69 s11.2.2.2.2.length c124]) ti32 rfl rfl (HF444.boxes (o := 0) (n := 5) (mem_h) rfl))) ?_
 have HF445 := HF444.sublist (sl_dc (sl_dc sR))
 exact ⟨N10, _, _, _, _, _, _, _, _, _, _, rfl, HF445, (RdS.mono hz1 (sub_t hs8 (sub_t hs9 (sub_t hs10 hs11)))), (RdS.mono hz2 (sub_t hs9 (sub_t hs10 hs11))), (RdS.mono hz3 (sub_t hs10 hs11)), (RdS.mono hz4 hs11), hz5⟩
/-! ### plenum/plenumref1.Verts (function 16) -/
abbrev f_plenumref1_Verts.R := Bool
noncomputable def f_plenumref1_Verts.b0 (a0 : List T_api_Vert) (a1 : List T_api_Vert) (s1 : Int) : Option (Sum (Int) (Sum (Int) f_plenumref1_Verts.R)) := (if s1 < (a0.length : Int) then (if 0 ≤ s1 then (if s1 < (a1.length : Int) then (if (rd a0 s1) = (rd a1 s1) then some (.inl (IntKind.i64.wrap (s1 + 1))) else some (.inr (.inr false))) else none) else none) else some (.inr (.inl s1)))
noncomputable def f_plenumref1_Verts (a0 : List T_api_Vert) (a1 : List T_api_Vert) : Option f_plenumref1_Verts.R := (if (a0.length : Int) = (a1.length : Int) then ((loopO (f_plenumref1_Verts.b0 a0 a1) 0).bind fun y1 => match y1 with | .inl s1 => some true | .inr r_ => some r_) else some false)
set_option maxHeartbeats 1000000 in
theorem f_plenumref1_Verts.ok {z w : World} {F G : Hp} (hG : G ⊆ F) {a0 : List T_api_Vert} {A_a0 : Option Addr} {c_a0 : Nat} {X_a0 : Hp} {a1 : List T_api_Vert} {A_a1 : Option Addr} {c_a1 : Nat} {X_a1 : Hp} {r : f_plenumref1_Verts.R} (H : f_plenumref1_Verts a0 a1 = some r) (HF : Fits z w F) (hX_a0 : X_a0 ⊆ F) (hr_a0 : RdS k_T_api_Vert X_a0 A_a0 c_a0 a0) (hX_a1 : X_a1 ⊆ F) (hr_a1 : RdS k_T_api_Vert X_a1 A_a1 c_a1 a1) :
  Calls Try.prog 16 [.slice A_a0 a0.length c_a0, .slice A_a1 a1.length c_a1].toArray w fun e w' => e = .returned (.bool r) ∧ Fits z w' F := by
 unfold f_plenumref1_Verts at H
 refine enter0 Try.func16 rfl Try.ntmps16 rfl (E := [(0, .slice A_a0 a0.length c_a0), (1, .slice A_a1 a1.length c_a1)]) rfl ?_
 refine cSeq (fun K1 hK1 => ?_)
 refine cRgn [] trivial ?_
 refine sL (asg rfl) rfl ?_
 refine lE ?_
 refine kN (?_)
 refine hK1 _ _ ?_
 refine cSeq (fun K2 hK2 => ?_)
 refine cSeq (fun K3 hK3 => ?_)
 refine cRgn [] trivial ?_
 refine sL (mv rfl) rfl ?_
 refine sL (lnS rfl Try.underlying26) rfl ?_
 refine sL (mv rfl) rfl ?_
 refine sL (lnS rfl Try.underlying26) rfl ?_
 refine sL (bNeq rfl rfl) rfl ?_
 refine lE ?_
 refine kN (?_)
 refine hK3 _ _ ?_
 by_cases c1 : (a0.length : Int) = (a1.length : Int)
 ·replace H := itT c1 H
  refine cSet (i := 10) rfl (nF c1) ?_
  refine cF rfl ?_
  refine cSkip ?_
  refine kN (?_)
  refine hK2 _ _ ?_
  refine cSeq (fun K4 hK4 => ?_)
  refine cSeq (fun K5 hK5 => ?_)
  refine cRgn [] trivial ?_
  refine sL (asg rfl) rfl ?_
  refine lE ?_
  refine kN (?_)
  refine hK5 _ _ ?_
  replace H := bnd H; obtain ⟨y1, J1, Ho1⟩ := H
  refine cLoopB (f_plenumref1_Verts.b0 a0 a1) (fun (s1 : Int) a w => Env 26 [(0, .slice A_a0 a0.length c_a0), (1, .slice A_a1 a1.length c_a1), (4, .bool false), (5, .int .i64 s1)] a ∧ Fits z w F) J1 (fun a hE => ⟨hE.keep (Keep.cons rfl (Keep.cons rfl (Keep.cons rfl (Keep.cons rfl (Keep.nil))))), HF⟩) ?_ ?_
  ·rintro s1 a w3 y2 ⟨hE, HF3⟩ H Hx1
   refine go_ hE ?_
   refine cSeq (fun K16 hK16 => ?_)
   refine cSeq (fun K17 hK17 => ?_)
   refine cRgn [] trivial ?_
   refine sL (mv rfl) rfl ?_
   refine sL (mv rfl) rfl ?_
   refine sL (lnS rfl Try.underlying26) rfl ?_
   refine sL (bLss rfl rfl) rfl ?_
   refine lE ?_
   refine kN (?_)
   refine hK17 _ _ ?_
   by_cases c12 : s1 < (a0.length : Int)
   ·replace H := itT c12 H
    refine cSet (i := 14) rfl (dT c12) ?_
    refine cT rfl ?_
    refine cSkip ?_
    refine kN (?_)
    refine hK16 _ _ ?_
    refine cSeq (fun K18 hK18 => ?_)
    refine cBlock ?_
    refine cSeq (fun K19 hK19 => ?_)
    refine cDraw mo_ HF3 rfl (fun w => Fits z w F) (fun w4 HF4 => ?_)
    refine hT 0 rfl (by kernel_rfl) (fun w_ hS_ => mv rfl) HF4 rfl rfl ?_
    refine hT 1 rfl (by kernel_rfl) (fun w_ hS_ => mv rfl) HF4 rfl rfl ?_
    replace H := chk H; obtain ⟨c15, H⟩ := H
    obtain ⟨g11, o11, _, rfl, rfl, q11⟩ := RdS.at_ hr_a0 c15 c12
    refine hT 2 rfl (by kernel_rfl) (fun w_ hS_ => ia rfl rfl Try.underlying26 ti35 c15 c12) HF4 rfl rfl ?_
    refine hT 3 rfl (by kernel_rfl) (fun w_ hS_ => ldA rfl ti35 rfl rfl (fun j v hj => hS_.cells (hX_a0) (q11 j v hj))) HF4 rfl rfl ?_
    refine hT 4 rfl (by kernel_rfl) (fun w_ hS_ => mv rfl) HF4 rfl rfl ?_
    refine hT 5 rfl (by kernel_rfl) (fun w_ hS_ => mv rfl) HF4 rfl rfl ?_
    replace H := chk H; obtain ⟨c16, H⟩ := H
    obtain ⟨g12, o12, _, rfl, rfl, q12⟩ := RdS.at_ hr_a1 c15 c16
    refine hT 6 rfl (by kernel_rfl) (fun w_ hS_ => ia rfl rfl Try.underlying26 ti35 c15 c16) HF4 rfl rfl ?_
    refine hT 7 rfl (by kernel_rfl) (fun w_ hS_ => ldA rfl ti35 rfl rfl (fun j v hj => hS_.cells (hX_a1) (q12 j v hj))) HF4 rfl rfl ?_
    refine hT 8 rfl (by kernel_rfl) (fun w_ hS_ => bAggNeq (xs := [.int .i64 ((rd a0 s1).f_Kind), .int .i64 ((rd a0 s1).f_Id)]) (ys := [.int .i64 ((rd a1 s1).f_Kind), .int .i64 ((rd a1 s1).f_Id)]) (n := 2) rfl rfl eg35 (eqStruct Try.underlying35 sh35 (eqFcons (by decide) (pt1 Try.underlying3 rfl rfl) (pt1 Try.underlying3 rfl rfl) (eqInt Try.underlying3) (eqFcons (by decide) (pt1 Try.underlying3 rfl rfl) (pt1 Try.underlying3 rfl rfl) (eqInt Try.underlying3) eqFnil))) rfl (eq_T_api_Vert (rd a0 s1) (rd a1 s1))) HF4 rfl rfl ?_
    refine hEnd (by kernel_rfl) ?_
    refine kN (?_)
    refine hK19 _ _ ?_
    by_cases c17 : (rd a0 s1) = (rd a1 s1)
    ·replace H := itT c17 H
     refine cSet (i := 25) rfl (nF c17) ?_
     refine cF rfl ?_
     refine cSkip ?_
     refine jN (kN (?_))
     refine hK18 _ _ ?_
     refine cRgn [] trivial ?_
     refine sL (mv rfl) rfl ?_
     refine sL (bAdd rfl rfl) rfl ?_
     refine sL (asg rfl) rfl ?_
     refine lE ?_
     refine kN (?_)
     exact ofEnv (fun a hE => ⟨_, (Option.some.inj H).symm, ⟨hE.keep (Keep.cons rfl (Keep.cons rfl (Keep.cons rfl (Keep.cons rfl (Keep.nil))))), HF4⟩⟩)
    replace H := itF c17 H
    refine cSet (i := 25) rfl (nT c17) ?_
    refine cT rfl ?_
    refine cSeq (fun K20 hK20 => ?_)
    refine cRgn [] trivial ?_
    refine sL (asg rfl) rfl ?_
    refine lE ?_
    refine kN (?_)
    refine hK20 _ _ ?_
    refine cRet ?_
    have e_ := Hx1 _ (Option.some.inj H).symm
    subst e_
    replace H := Ho1
    obtain rfl := Option.some.inj H
    refine jR (kR (kR (jR (kR (kR (?_))))))
    refine ret1 rfl rfl ?_
    exact ⟨rfl, HF4⟩
   replace H := itF c12 H
   refine cSet (i := 14) rfl (dF c12) ?_
   refine cF rfl ?_
   refine cExit ?_
   refine kX (kX (jX (kN (?_))))
   exact ofEnv (fun a hE => ⟨_, (Option.some.inj H).symm, ⟨hE.keep (Keep.cons rfl (Keep.cons rfl (Keep.cons rfl (Keep.cons rfl (Keep.nil))))), HF3⟩⟩)
  rintro s1 a w5 rfl ⟨hE, HF5⟩
  replace H := Ho1
  refine go_k hE ?_
  refine kN (?_)
  refine hK4 _ _ ?_
  refine cSeq (fun K21 hK21 => ?_)
  refine cRgn [] trivial ?_
  refine sL (asg rfl) rfl ?_
  refine lE ?_
  refine kN (?_)
  refine hK21 _ _ ?_
  refine cRet ?_
  obtain rfl := Option.some.inj H
  refine ret1 rfl rfl ?_
  exact ⟨rfl, HF5⟩
 replace H := itF c1 H
 refine cSet (i := 10) rfl (nT c1) ?_
 refine cT rfl ?_
 refine cSeq (fun K22 hK22 => ?_)
 refine cRgn [] trivial ?_
 refine sL (asg rfl) rfl ?_
 refine lE ?_
 refine kN (?_)
 refine hK22 _ _ ?_
 refine cRet ?_
 obtain rfl := Option.some.inj H
 refine kR (?_)
 refine ret1 rfl rfl ?_
 exact ⟨rfl, HF⟩
/-! ### plenum/plenumref1.Ints (function 11) -/
abbrev f_plenumref1_Ints.R := Bool
noncomputable def f_plenumref1_Ints.b0 (a0 : List Int) (a1 : List Int) (s1 : Int) : Option (Sum (Int) (Sum (Int) f_plenumref1_Ints.R)) := (if s1 < (a0.length : Int) then (if 0 ≤ s1 then (if s1 < (a1.length : Int) then (if (rd a0 s1) = (rd a1 s1) then some (.inl (IntKind.i64.wrap (s1 + 1))) else some (.inr (.inr false))) else none) else none) else some (.inr (.inl s1)))
noncomputable def f_plenumref1_Ints (a0 : List Int) (a1 : List Int) : Option f_plenumref1_Ints.R := (if (a0.length : Int) = (a1.length : Int) then ((loopO (f_plenumref1_Ints.b0 a0 a1) 0).bind fun y1 => match y1 with | .inl s1 => some true | .inr r_ => some r_) else some false)
set_option maxHeartbeats 1000000 in
theorem f_plenumref1_Ints.ok {z w : World} {F G : Hp} (hG : G ⊆ F) {a0 : List Int} {A_a0 : Option Addr} {c_a0 : Nat} {X_a0 : Hp} {a1 : List Int} {A_a1 : Option Addr} {c_a1 : Nat} {X_a1 : Hp} {r : f_plenumref1_Ints.R} (H : f_plenumref1_Ints a0 a1 = some r) (HF : Fits z w F) (hX_a0 : X_a0 ⊆ F) (hr_a0 : RdS (kInt .i64) X_a0 A_a0 c_a0 a0) (hX_a1 : X_a1 ⊆ F) (hr_a1 : RdS (kInt .i64) X_a1 A_a1 c_a1 a1) :
  Calls Try.prog 11 [.slice A_a0 a0.length c_a0, .slice A_a1 a1.length c_a1].toArray w fun e w' => e = .returned (.bool r) ∧ Fits z w' F := by
 unfold f_plenumref1_Ints at H
 refine enter0 Try.func11 rfl Try.ntmps11 rfl (E := [(0, .slice A_a0 a0.length c_a0), (1, .slice A_a1 a1.length c_a1)]) rfl ?_
 refine cSeq (fun K1 hK1 => ?_)
 refine cRgn [] trivial ?_
 refine sL (asg rfl) rfl ?_
 refine lE ?_
 refine kN (?_)
 refine hK1 _ _ ?_
 refine cSeq (fun K2 hK2 => ?_)
 refine cSeq (fun K3 hK3 => ?_)
 refine cRgn [] trivial ?_
 refine sL (mv rfl) rfl ?_
 refine sL (lnS rfl Try.underlying30) rfl ?_
 refine sL (mv rfl) rfl ?_
 refine sL (lnS rfl Try.underlying30) rfl ?_
 refine sL (bNeq rfl rfl) rfl ?_
 refine lE ?_
 refine kN (?_)
 refine hK3 _ _ ?_
 by_cases c1 : (a0.length : Int) = (a1.length : Int)
 ·replace H := itT c1 H
  refine cSet (i := 10) rfl (nF c1) ?_
  refine cF rfl ?_
  refine cSkip ?_
  refine kN (?_)
  refine hK2 _ _ ?_
  refine cSeq (fun K4 hK4 => ?_)
  refine cSeq (fun K5 hK5 => ?_)
  refine cRgn [] trivial ?_
  refine sL (asg rfl) rfl ?_
  refine lE ?_
  refine kN (?_)
  refine hK5 _ _ ?_
  replace H := bnd H; obtain ⟨y1, J1, Ho1⟩ := H
  refine cLoopB (f_plenumref1_Ints.b0 a0 a1) (fun (s1 : Int) a w => Env 26 [(0, .slice A_a0 a0.length c_a0), (1, .slice A_a1 a1.length c_a1), (4, .bool false), (5, .int .i64 s1)] a ∧ Fits z w F) J1 (fun a hE => ⟨hE.keep (Keep.cons rfl (Keep.cons rfl (Keep.cons rfl (Keep.cons rfl (Keep.nil))))), HF⟩) ?_ ?_
  ·rintro s1 a w3 y2 ⟨hE, HF3⟩ H Hx1
   refine go_ hE ?_
   refine cSeq (fun K16 hK16 => ?_)
   refine cSeq (fun K17 hK17 => ?_)
   refine cRgn [] trivial ?_
   refine sL (mv rfl) rfl ?_
   refine sL (mv rfl) rfl ?_
   refine sL (lnS rfl Try.underlying30) rfl ?_
   refine sL (bLss rfl rfl) rfl ?_
   refine lE ?_
   refine kN (?_)
   refine hK17 _ _ ?_
   by_cases c12 : s1 < (a0.length : Int)
   ·replace H := itT c12 H
    refine cSet (i := 14) rfl (dT c12) ?_
    refine cT rfl ?_
    refine cSkip ?_
    refine kN (?_)
    refine hK16 _ _ ?_
    refine cSeq (fun K18 hK18 => ?_)
    refine cBlock ?_
    refine cSeq (fun K19 hK19 => ?_)
    refine cDraw mo_ HF3 rfl (fun w => Fits z w F) (fun w4 HF4 => ?_)
    refine hT 0 rfl (by kernel_rfl) (fun w_ hS_ => mv rfl) HF4 rfl rfl ?_
    refine hT 1 rfl (by kernel_rfl) (fun w_ hS_ => mv rfl) HF4 rfl rfl ?_
    replace H := chk H; obtain ⟨c15, H⟩ := H
    obtain ⟨g11, o11, _, rfl, rfl, q11⟩ := RdS.at_ hr_a0 c15 c12
    refine hT 2 rfl (by kernel_rfl) (fun w_ hS_ => ia rfl rfl Try.underlying30 ti3 c15 c12) HF4 rfl rfl ?_
    refine hT 3 rfl (by kernel_rfl) (fun w_ hS_ => ld rfl Try.underlying3 rfl (hS_.cells (hX_a0) (q11 0 _ rfl))) HF4 rfl rfl ?_
    refine hT 4 rfl (by kernel_rfl) (fun w_ hS_ => mv rfl) HF4 rfl rfl ?_
    refine hT 5 rfl (by kernel_rfl) (fun w_ hS_ => mv rfl) HF4 rfl rfl ?_
    replace H := chk H; obtain ⟨c16, H⟩ := H
    obtain ⟨g12, o12, _, rfl, rfl, q12⟩ := RdS.at_ hr_a1 c15 c16
    refine hT 6 rfl (by kernel_rfl) (fun w_ hS_ => ia rfl rfl Try.underlying30 ti3 c15 c16) HF4 rfl rfl ?_
    refine hT 7 rfl (by kernel_rfl) (fun w_ hS_ => ld rfl Try.underlying3 rfl (hS_.cells (hX_a1) (q12 0 _ rfl))) HF4 rfl rfl ?_
    refine hT 8 rfl (by kernel_rfl) (fun w_ hS_ => bNeq rfl rfl) HF4 rfl rfl ?_
    refine hEnd (by kernel_rfl) ?_
    refine kN (?_)
    refine hK19 _ _ ?_
    by_cases c17 : (rd a0 s1) = (rd a1 s1)
    ·replace H := itT c17 H
     refine cSet (i := 25) rfl (nF c17) ?_
     refine cF rfl ?_
     refine cSkip ?_
     refine jN (kN (?_))
     refine hK18 _ _ ?_
     refine cRgn [] trivial ?_
     refine sL (mv rfl) rfl ?_
     refine sL (bAdd rfl rfl) rfl ?_
     refine sL (asg rfl) rfl ?_
     refine lE ?_
     refine kN (?_)
     exact ofEnv (fun a hE => ⟨_, (Option.some.inj H).symm, ⟨hE.keep (Keep.cons rfl (Keep.cons rfl (Keep.cons rfl (Keep.cons rfl (Keep.nil))))), HF4⟩⟩)
    replace H := itF c17 H
    refine cSet (i := 25) rfl (nT c17) ?_
    refine cT rfl ?_
    refine cSeq (fun K20 hK20 => ?_)
    refine cRgn [] trivial ?_
    refine sL (asg rfl) rfl ?_
    refine lE ?_
    refine kN (?_)
    refine hK20 _ _ ?_
    refine cRet ?_
    have e_ := Hx1 _ (Option.some.inj H).symm
    subst e_
    replace H := Ho1
    obtain rfl := Option.some.inj H
    refine jR (kR (kR (jR (kR (kR (?_))))))
    refine ret1 rfl rfl ?_
    exact ⟨rfl, HF4⟩
   replace H := itF c12 H
   refine cSet (i := 14) rfl (dF c12) ?_
   refine cF rfl ?_
   refine cExit ?_
   refine kX (kX (jX (kN (?_))))
   exact ofEnv (fun a hE => ⟨_, (Option.some.inj H).symm, ⟨hE.keep (Keep.cons rfl (Keep.cons rfl (Keep.cons rfl (Keep.cons rfl (Keep.nil))))), HF3⟩⟩)
  rintro s1 a w5 rfl ⟨hE, HF5⟩
  replace H := Ho1
  refine go_k hE ?_
  refine kN (?_)
  refine hK4 _ _ ?_
  refine cSeq (fun K21 hK21 => ?_)
  refine cRgn [] trivial ?_
  refine sL (asg rfl) rfl ?_
  refine lE ?_
  refine kN (?_)
  refine hK21 _ _ ?_
  refine cRet ?_
  obtain rfl := Option.some.inj H
  refine ret1 rfl rfl ?_
  exact ⟨rfl, HF5⟩
 replace H := itF c1 H
 refine cSet (i := 10) rfl (nT c1) ?_
 refine cT rfl ?_
 refine cSeq (fun K22 hK22 => ?_)
 refine cRgn [] trivial ?_
 refine sL (asg rfl) rfl ?_
 refine lE ?_
 refine kN (?_)
 refine hK22 _ _ ?_
 refine cRet ?_
 obtain rfl := Option.some.inj H
 refine kR (?_)
 refine ret1 rfl rfl ?_
 exact ⟨rfl, HF⟩
end Go.Proofs.Ytbjnbjgiidcfjaa
