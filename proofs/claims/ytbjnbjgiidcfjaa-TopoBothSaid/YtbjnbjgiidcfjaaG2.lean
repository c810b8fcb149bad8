/- The walk, part 2. Conditions: none beside each theorem's own. Written by gen.py out of the print of the loaded program. -/
import Derived.Test.YtbjnbjgiidcfjaaG1
import Derived.KernelRfl
set_option linter.unusedVariables false
set_option linter.unusedSimpArgs false
namespace Go.Proofs.Ytbjnbjgiidcfjaa
open Go Go.Proofs.Ytbjnbjgiidcfjaa.Sp

/-! ### slices.stableCmpFunc[plenum/api.Lsa] (function 61) -/
abbrev f_slices_stableCmpFunc_api_Lsa_fn49.R := List T_api_Lsa
noncomputable def f_slices_stableCmpFunc_api_Lsa_fn49.b0 (a1 : Int) (s1 : Int × Int × (List T_api_Lsa)) : Option (Sum (Int × Int × (List T_api_Lsa)) (Sum (Int × Int × (List T_api_Lsa)) f_slices_stableCmpFunc_api_Lsa_fn49.R)) := (if s1.2.1 ≤ a1 then ((f_slices_insertionSortCmpFunc_api_Lsa_fn49 s1.2.2 s1.1 s1.2.1).bind fun t3 => (if t3.length = s1.2.2.length then some (.inl (s1.2.1, IntKind.i64.wrap (s1.2.1 + 20), t3)) else none)) else some (.inr (.inl (s1.1, s1.2.1, s1.2.2))))
noncomputable def f_slices_stableCmpFunc_api_Lsa_fn49.b1 (a1 : Int) (s4 : Int × (List T_api_Lsa)) (s5 : Int × Int × (List T_api_Lsa)) : Option (Sum (Int × Int × (List T_api_Lsa)) (Sum (Int × Int × (List T_api_Lsa)) f_slices_stableCmpFunc_api_Lsa_fn49.R)) := (if s5.2.1 ≤ a1 then ((f_slices_symMergeCmpFunc_api_Lsa_fn49 64 s5.2.2 s5.1 (IntKind.i64.wrap (s5.1 + s4.1)) s5.2.1).bind fun t15 => (if t15.length = s5.2.2.length then some (.inl (s5.2.1, IntKind.i64.wrap (s5.2.1 + (IntKind.i64.wrap (2 * s4.1))), t15)) else none)) else some (.inr (.inl (s5.1, s5.2.1, s5.2.2))))
noncomputable def f_slices_stableCmpFunc_api_Lsa_fn49.b2 (a1 : Int) (s4 : Int × (List T_api_Lsa)) : Option (Sum (Int × (List T_api_Lsa)) (Sum (Int × (List T_api_Lsa)) f_slices_stableCmpFunc_api_Lsa_fn49.R)) := (if s4.1 < a1 then ((loopO (f_slices_stableCmpFunc_api_Lsa_fn49.b1 a1 s4) (0, IntKind.i64.wrap (2 * s4.1), s4.2)).bind fun y9 => match y9 with | .inl s5 => (if (IntKind.i64.wrap (s5.1 + s4.1)) < a1 then ((f_slices_symMergeCmpFunc_api_Lsa_fn49 64 s5.2.2 s5.1 (IntKind.i64.wrap (s5.1 + s4.1)) a1).bind fun t16 => (if t16.length = s5.2.2.length then some (.inl (IntKind.i64.wrap (s4.1 * 2), t16)) else none)) else some (.inl (IntKind.i64.wrap (s4.1 * 2), s5.2.2))) | .inr r_ => some (.inr (.inr r_))) else some (.inr (.inl (s4.1, s4.2))))
noncomputable def f_slices_stableCmpFunc_api_Lsa_fn49 (a0 : List T_api_Lsa) (a1 : Int) : Option f_slices_stableCmpFunc_api_Lsa_fn49.R := ((loopO (f_slices_stableCmpFunc_api_Lsa_fn49.b0 a1) (0, 20, a0)).bind fun y1 => match y1 with | .inl s1 => ((f_slices_insertionSortCmpFunc_api_Lsa_fn49 s1.2.2 s1.1 a1).bind fun t4 => (if t4.length = s1.2.2.length then ((loopO (f_slices_stableCmpFunc_api_Lsa_fn49.b2 a1) (20, t4)).bind fun y7 => match y7 with | .inl s4 => some s4.2 | .inr r_ => some r_) else none)) | .inr r_ => some r_)
set_option maxHeartbeats 1000000 in
theorem f_slices_stableCmpFunc_api_Lsa_fn49.ok {z w : World} {F G : Hp} (hG : G ⊆ F) {a0 : List T_api_Lsa} {A_a0 : Option Addr} {c_a0 : Nat} {L_a0 : Hp} {a1 : Int} {r : f_slices_stableCmpFunc_api_Lsa_fn49.R} (H : f_slices_stableCmpFunc_api_Lsa_fn49 a0 a1 = some r) (HF : Fits z w (L_a0 ++ F)) (ho_a0 : OwnS (kShr G k_T_api_Lsa) L_a0 A_a0 c_a0 a0) :
  Calls Try.prog 61 [.slice A_a0 a0.length c_a0, .int .i64 a1, .func (.func 49) [].toArray [].toArray].toArray w fun e w' => ∃ (N : Hp) (M0 : Hp), e = .returned (.tuple #[]) ∧ Fits z w' (M0 ++ (N ++ F)) ∧ OwnS (kShr (N ++ G) k_T_api_Lsa) M0 A_a0 c_a0 r := by
 unfold f_slices_stableCmpFunc_api_Lsa_fn49 at H
 refine enter0 Try.func61 rfl Try.ntmps61 rfl (E := [(0, .slice A_a0 a0.length c_a0), (1, .int .i64 a1), (2, .func (.func 49) [].toArray [].toArray)]) rfl ?_
 refine cSeq (fun K1 hK1 => ?_)
 refine cRgn [] trivial ?_
 refine sL (asg rfl) rfl ?_
 refine lE ?_
 refine kN (?_)
 refine hK1 _ _ ?_
 refine cSeq (fun K2 hK2 => ?_)
 refine cRgn [] trivial ?_
 refine sL (mv rfl) rfl ?_
 refine sL (asg rfl) rfl ?_
 refine sL (asg rfl) rfl ?_
 refine lE ?_
 refine kN (?_)
 refine hK2 _ _ ?_
 refine cSeq (fun K3 hK3 => ?_)
 replace H := bnd H; obtain ⟨y1, J21, Ho1⟩ := H
 refine cLoopB (f_slices_stableCmpFunc_api_Lsa_fn49.b0 a1) (fun (s1 : Int × Int × (List T_api_Lsa)) a w => ∃ (D2 : Hp) (L4 : Hp), Env 63 [(0, .slice A_a0 s1.2.2.length c_a0), (1, .int .i64 a1), (2, .func (.func 49) [].toArray [].toArray), (6, .int .i64 20), (7, .int .i64 s1.1), (8, .int .i64 s1.2.1)] a ∧ Fits z w (L4 ++ (D2 ++ F)) ∧ OwnS (kShr (D2 ++ G) k_T_api_Lsa) L4 A_a0 c_a0 s1.2.2) J21 (fun a hE => ⟨[], L_a0, hE.keep (Keep.cons rfl (Keep.cons rfl (Keep.cons rfl (Keep.cons rfl (Keep.cons rfl (Keep.cons rfl (Keep.nil))))))), HF, ho_a0⟩) ?_ ?_
 ·rintro s1 a w3 y2 ⟨D2, L4, hE, HF4, ho4⟩ H Hx1
  refine go_ hE ?_
  have hs4 : G ⊆ D2 ++ G := sub_a sub_r
  refine cSeq (fun K12 hK12 => ?_)
  refine cSeq (fun K13 hK13 => ?_)
  refine cRgn [] trivial ?_
  refine sL (mv rfl) rfl ?_
  refine sL (mv rfl) rfl ?_
  refine sL (bLeq rfl rfl) rfl ?_
  refine lE ?_
  refine kN (?_)
  refine hK13 _ _ ?_
  by_cases c5 : s1.2.1 ≤ a1
  ·replace H := itT c5 H
   refine cSet (i := 13) rfl (dT c5) ?_
   refine cT rfl ?_
   refine cSkip ?_
   refine kN (?_)
   refine hK12 _ _ ?_
   refine cBlock ?_
   refine cSeq (fun K14 hK14 => ?_)
   refine cRgn [] trivial ?_
   refine sL (mv rfl) rfl ?_
   refine sL (mv rfl) rfl ?_
   refine sL (mv rfl) rfl ?_
   refine sL (mv rfl) rfl ?_
   replace H := bnd H; obtain ⟨t3, J3, H⟩ := H
   refine eCall isf73 rfl rfl rfl (f_slices_insertionSortCmpFunc_api_Lsa_fn49.ok (a0 := s1.2.2) (sub_n hG) J3 HF4 ho4) ?_
   rintro _ w4 ⟨N4, L5, rfl, HF5, ho5⟩
   obtain ⟨N5, hN2⟩ : ∃ N_, N_ = N4 ++ D2 := ⟨_, rfl⟩
   have HF6 := HF5; rw [← List.append_assoc N4 D2 F, ← hN2] at HF6
   have hs5 : D2 ++ G ⊆ N5 ++ G := frz_s hN2
   have hr2 := OwnS.lift (G' := (N5 ++ G)) ho5 (frz_c hN2)
   refine ⟨_, rfl, ?_⟩
   replace H := chk H; obtain ⟨c6, H⟩ := H
   refine lSet (i := 0) (v := .slice A_a0 t3.length c_a0) rfl (by rw [c6]) ?_
   refine lSet (i := 14) (v := .slice A_a0 t3.length c_a0) rfl (by rw [c6]) ?_
   refine lE ?_
   refine kN (?_)
   refine hK14 _ _ ?_
   refine cSeq (fun K15 hK15 => ?_)
   refine cRgn [] trivial ?_
   refine sL (mv rfl) rfl ?_
   refine sL (asg rfl) rfl ?_
   refine lE ?_
   refine kN (?_)
   refine hK15 _ _ ?_
   refine cRgn [] trivial ?_
   refine sL (mv rfl) rfl ?_
   refine sL (mv rfl) rfl ?_
   refine sL (bAdd rfl rfl) rfl ?_
   refine sL (asg rfl) rfl ?_
   refine lE ?_
   refine jN (kN (?_))
   exact ofEnv (fun a hE => ⟨_, (Option.some.inj H).symm, ⟨N5, L5, hE.keep (Keep.cons rfl (Keep.cons rfl (Keep.cons rfl (Keep.cons rfl (Keep.cons rfl (Keep.cons rfl (Keep.nil))))))), HF6, hr2⟩⟩)
  replace H := itF c5 H
  refine cSet (i := 13) rfl (dF c5) ?_
  refine cF rfl ?_
  refine cExit ?_
  refine kX (kX (jX (kN (?_))))
  exact ofEnv (fun a hE => ⟨_, (Option.some.inj H).symm, ⟨D2, L4, hE.keep (Keep.cons rfl (Keep.cons rfl (Keep.cons rfl (Keep.cons rfl (Keep.cons rfl (Keep.cons rfl (Keep.nil))))))), HF4, ho4⟩⟩)
 rintro s1 a w5 rfl ⟨D2, L4, hE, HF7, ho4⟩
 replace H := Ho1
 refine go_k hE ?_
 have hs6 : G ⊆ D2 ++ G := sub_a sub_r
 refine kN (?_)
 refine hK3 _ _ ?_
 refine cSeq (fun K16 hK16 => ?_)
 refine cRgn [] trivial ?_
 refine sL (mv rfl) rfl ?_
 refine sL (mv rfl) rfl ?_
 refine sL (mv rfl) rfl ?_
 refine sL (mv rfl) rfl ?_
 replace H := bnd H; obtain ⟨t4, J4, H⟩ := H
 refine eCall isf73 rfl rfl rfl (f_slices_insertionSortCmpFunc_api_Lsa_fn49.ok (a0 := s1.2.2) (sub_n hG) J4 HF7 ho4) ?_
 rintro _ w6 ⟨N6, L6, rfl, HF8, ho6⟩
 obtain ⟨N7, hN3⟩ : ∃ N_, N_ = N6 ++ D2 := ⟨_, rfl⟩
 have HF9 := HF8; rw [← List.append_assoc N6 D2 F, ← hN3] at HF9
 have hs7 : D2 ++ G ⊆ N7 ++ G := frz_s hN3
 have hr3 := OwnS.lift (G' := (N7 ++ G)) ho6 (frz_c hN3)
 refine ⟨_, rfl, ?_⟩
 replace H := chk H; obtain ⟨c7, H⟩ := H
 refine lSet (i := 0) (v := .slice A_a0 t4.length c_a0) rfl (by rw [c7]) ?_
 refine lSet (i := 23) (v := .slice A_a0 t4.length c_a0) rfl (by rw [c7]) ?_
 refine lE ?_
 refine kN (?_)
 refine hK16 _ _ ?_
 replace H := bnd H; obtain ⟨y7, J20, Ho4⟩ := H
 refine cLoopB (f_slices_stableCmpFunc_api_Lsa_fn49.b2 a1) (fun (s4 : Int × (List T_api_Lsa)) a w => ∃ (D8 : Hp) (L20 : Hp), Env 63 [(0, .slice A_a0 s4.2.length c_a0), (1, .int .i64 a1), (2, .func (.func 49) [].toArray [].toArray), (6, .int .i64 s4.1)] a ∧ Fits z w (L20 ++ (D8 ++ (N7 ++ F))) ∧ OwnS (kShr (D8 ++ (N7 ++ G)) k_T_api_Lsa) L20 A_a0 c_a0 s4.2) J20 (fun a hE => ⟨[], L6, hE.keep (Keep.cons rfl (Keep.cons rfl (Keep.cons rfl (Keep.cons rfl (Keep.nil))))), HF9, hr3⟩) ?_ ?_
 ·rintro s4 a w19 y8 ⟨D8, L20, hE, HF37, ho20⟩ H Hx4
  refine go_ hE ?_
  obtain ⟨N31, hN19⟩ : ∃ N_, N_ = D8 ++ N7 := ⟨_, rfl⟩
  have HF38 := HF37; rw [← List.append_assoc D8 N7 F, ← hN19] at HF38
  have hs23 : N7 ++ G ⊆ N31 ++ G := frz_s hN19
  have hr19 := OwnS.lift (G' := (N31 ++ G)) ho20 (frz_c hN19)
  refine cSeq (fun K55 hK55 => ?_)
  refine cSeq (fun K56 hK56 => ?_)
  refine cRgn [] trivial ?_
  refine sL (mv rfl) rfl ?_
  refine sL (mv rfl) rfl ?_
  refine sL (bLss rfl rfl) rfl ?_
  refine lE ?_
  refine kN (?_)
  refine hK56 _ _ ?_
  by_cases c26 : s4.1 < a1
  ·replace H := itT c26 H
   refine cSet (i := 30) rfl (dT c26) ?_
   refine cT rfl ?_
   refine cSkip ?_
   refine kN (?_)
   refine hK55 _ _ ?_
   refine cBlock ?_
   refine cSeq (fun K57 hK57 => ?_)
   refine cRgn [] trivial ?_
   refine sL (mv rfl) rfl ?_
   refine sL (bMul rfl rfl) rfl ?_
   refine sL (asg rfl) rfl ?_
   refine sL (asg rfl) rfl ?_
   refine lE ?_
   refine kN (?_)
   refine hK57 _ _ ?_
   refine cSeq (fun K58 hK58 => ?_)
   replace H := bnd H; obtain ⟨y9, J19, Ho5⟩ := H
   refine cLoopB (f_slices_stableCmpFunc_api_Lsa_fn49.b1 a1 s4) (fun (s5 : Int × Int × (List T_api_Lsa)) a w => ∃ (D10 : Hp) (L24 : Hp), Env 63 [(0, .slice A_a0 s5.2.2.length c_a0), (1, .int .i64 a1), (2, .func (.func 49) [].toArray [].toArray), (6, .int .i64 s4.1), (7, .int .i64 s5.1), (8, .int .i64 s5.2.1)] a ∧ Fits z w (L24 ++ (D10 ++ (N31 ++ F))) ∧ OwnS (kShr (D10 ++ (N31 ++ G)) k_T_api_Lsa) L24 A_a0 c_a0 s5.2.2) J19 (fun a hE => ⟨[], L20, hE.keep (Keep.cons rfl (Keep.cons rfl (Keep.cons rfl (Keep.cons rfl (Keep.cons rfl (Keep.cons rfl (Keep.nil))))))), HF38, hr19⟩) ?_ ?_
   ·rintro s5 a w22 y10 ⟨D10, L24, hE, HF44, ho24⟩ H Hx5
    refine go_ hE ?_
    obtain ⟨N37, hN23⟩ : ∃ N_, N_ = D10 ++ N31 := ⟨_, rfl⟩
    have HF45 := HF44; rw [← List.append_assoc D10 N31 F, ← hN23] at HF45
    have hs27 : N31 ++ G ⊆ N37 ++ G := frz_s hN23
    have hr23 := OwnS.lift (G' := (N37 ++ G)) ho24 (frz_c hN23)
    refine cSeq (fun K67 hK67 => ?_)
    refine cSeq (fun K68 hK68 => ?_)
    refine cRgn [] trivial ?_
    refine sL (mv rfl) rfl ?_
    refine sL (mv rfl) rfl ?_
    refine sL (bLeq rfl rfl) rfl ?_
    refine lE ?_
    refine kN (?_)
    refine hK68 _ _ ?_
    by_cases c31 : s5.2.1 ≤ a1
    ·replace H := itT c31 H
     refine cSet (i := 35) rfl (dT c31) ?_
     refine cT rfl ?_
     refine cSkip ?_
     refine kN (?_)
     refine hK67 _ _ ?_
     refine cBlock ?_
     refine cSeq (fun K69 hK69 => ?_)
     refine cRgn [] trivial ?_
     refine sL (mv rfl) rfl ?_
     refine sL (mv rfl) rfl ?_
     refine sL (mv rfl) rfl ?_
     refine sL (mv rfl) rfl ?_
     refine sL (bAdd rfl rfl) rfl ?_
     refine sL (mv rfl) rfl ?_
     refine sL (mv rfl) rfl ?_
     replace H := bnd H; obtain ⟨t15, J17, H⟩ := H
     refine eCall isf74 rfl rfl rfl (f_slices_symMergeCmpFunc_api_Lsa_fn49.ok 64 (a0 := s5.2.2) (sub_n hG) J17 HF45 hr23) ?_
     rintro _ w23 ⟨N38, L25, rfl, HF46, ho25⟩
     obtain ⟨N39, hN24⟩ : ∃ N_, N_ = N38 ++ N37 := ⟨_, rfl⟩
     have HF47 := HF46; rw [← List.append_assoc N38 N37 F, ← hN24] at HF47
     have hs28 : N37 ++ G ⊆ N39 ++ G := frz_s hN24
     have hr24 := OwnS.lift (G' := (N39 ++ G)) ho25 (frz_c hN24)
     refine ⟨_, rfl, ?_⟩
     replace H := chk H; obtain ⟨c32, H⟩ := H
     refine lSet (i := 0) (v := .slice A_a0 t15.length c_a0) rfl (by rw [c32]) ?_
     refine lSet (i := 36) (v := .slice A_a0 t15.length c_a0) rfl (by rw [c32]) ?_
     refine lE ?_
     refine kN (?_)
     refine hK69 _ _ ?_
     refine cSeq (fun K70 hK70 => ?_)
     refine cRgn [] trivial ?_
     refine sL (mv rfl) rfl ?_
     refine sL (asg rfl) rfl ?_
     refine lE ?_
     refine kN (?_)
     refine hK70 _ _ ?_
     refine cRgn [] trivial ?_
     refine sL (mv rfl) rfl ?_
     refine sL (mv rfl) rfl ?_
     refine sL (bMul rfl rfl) rfl ?_
     refine sL (bAdd rfl rfl) rfl ?_
     refine sL (asg rfl) rfl ?_
     refine lE ?_
     refine jN (kN (?_))
     have hs29 : (N39 ++ G) ⊆ ((N38 ++ D10) ++ (N31 ++ G)) := by rw [hN24, hN23]; simp only [List.append_assoc]; exact sub_r
     have HF48 := Fits.conv (L' := (L25 ++ ((N38 ++ D10) ++ (N31 ++ F)))) HF47 (by rw [hN24, hN23]; simp only [List.append_assoc])
     exact ofEnv (fun a hE => ⟨_, (Option.some.inj H).symm, ⟨(N38 ++ D10), L25, hE.keep (Keep.cons rfl (Keep.cons rfl (Keep.cons rfl (Keep.cons rfl (Keep.cons rfl (Keep.cons rfl (Keep.nil))))))), HF48, (OwnS.lift hr24 hs29)⟩⟩)
    replace H := itF c31 H
    refine cSet (i := 35) rfl (dF c31) ?_
    refine cF rfl ?_
    refine cExit ?_
    refine kX (kX (jX (kN (?_))))
    have hs30 : (N37 ++ G) ⊆ ((D10) ++ (N31 ++ G)) := by rw [hN23]; simp only [List.append_assoc]; exact sub_r
    have HF49 := Fits.conv (L' := (L24 ++ ((D10) ++ (N31 ++ F)))) HF45 (by rw [hN23]; simp only [List.append_assoc])
    exact ofEnv (fun a hE => ⟨_, (Option.some.inj H).symm, ⟨(D10), L24, hE.keep (Keep.cons rfl (Keep.cons rfl (Keep.cons rfl (Keep.cons rfl (Keep.cons rfl (Keep.cons rfl (Keep.nil))))))), HF49, (OwnS.lift hr23 hs30)⟩⟩)
   rintro s5 a w24 rfl ⟨D10, L24, hE, HF50, ho24⟩
   replace H := Ho5
   refine go_k hE ?_
   obtain ⟨N40, hN25⟩ : ∃ N_, N_ = D10 ++ N31 := ⟨_, rfl⟩
   have HF51 := HF50; rw [← List.append_assoc D10 N31 F, ← hN25] at HF51
   have hs31 : N31 ++ G ⊆ N40 ++ G := frz_s hN25
   have hr25 := OwnS.lift (G' := (N40 ++ G)) ho24 (frz_c hN25)
   refine kN (?_)
   refine hK58 _ _ ?_
   refine cSeq (fun K71 hK71 => ?_)
   refine cSeq (fun K72 hK72 => ?_)
   refine cRgn [] trivial ?_
   refine sL (mv rfl) rfl ?_
   refine sL (mv rfl) rfl ?_
   refine sL (bAdd rfl rfl) rfl ?_
   refine sL (asg rfl) rfl ?_
   refine lE ?_
   refine kN (?_)
   refine hK72 _ _ ?_
   refine cSeq (fun K73 hK73 => ?_)
   refine cRgn [] trivial ?_
   refine sL (mv rfl) rfl ?_
   refine sL (mv rfl) rfl ?_
   refine sL (bLss rfl rfl) rfl ?_
   refine lE ?_
   refine kN (?_)
   refine hK73 _ _ ?_
   by_cases c33 : (IntKind.i64.wrap (s5.1 + s4.1)) < a1
   ·replace H := itT c33 H
    refine cSet (i := 54) rfl (dT c33) ?_
    refine cT rfl ?_
    refine cRgn [] trivial ?_
    refine sL (mv rfl) rfl ?_
    refine sL (mv rfl) rfl ?_
    refine sL (mv rfl) rfl ?_
    refine sL (mv rfl) rfl ?_
    refine sL (mv rfl) rfl ?_
    replace H := bnd H; obtain ⟨t16, J18, H⟩ := H
    refine eCall isf74 rfl rfl rfl (f_slices_symMergeCmpFunc_api_Lsa_fn49.ok 64 (a0 := s5.2.2) (sub_n hG) J18 HF51 hr25) ?_
    rintro _ w25 ⟨N41, L26, rfl, HF52, ho26⟩
    obtain ⟨N42, hN26⟩ : ∃ N_, N_ = N41 ++ N40 := ⟨_, rfl⟩
    have HF53 := HF52; rw [← List.append_assoc N41 N40 F, ← hN26] at HF53
    have hs32 : N40 ++ G ⊆ N42 ++ G := frz_s hN26
    have hr26 := OwnS.lift (G' := (N42 ++ G)) ho26 (frz_c hN26)
    refine ⟨_, rfl, ?_⟩
    replace H := chk H; obtain ⟨c34, H⟩ := H
    refine lSet (i := 0) (v := .slice A_a0 t16.length c_a0) rfl (by rw [c34]) ?_
    refine lSet (i := 55) (v := .slice A_a0 t16.length c_a0) rfl (by rw [c34]) ?_
    refine lE ?_
    refine kN (?_)
    refine hK71 _ _ ?_
    refine cRgn [] trivial ?_
    refine sL (mv rfl) rfl ?_
    refine sL (bMul rfl rfl) rfl ?_
    refine sL (asg rfl) rfl ?_
    refine lE ?_
    refine jN (kN (?_))
    have hs33 : (N42 ++ G) ⊆ ((N41 ++ (D10 ++ D8)) ++ (N7 ++ G)) := by rw [hN26, hN25, hN19]; simp only [List.append_assoc]; exact sub_r
    have HF54 := Fits.conv (L' := (L26 ++ ((N41 ++ (D10 ++ D8)) ++ (N7 ++ F)))) HF53 (by rw [hN26, hN25, hN19]; simp only [List.append_assoc])
    exact ofEnv (fun a hE => ⟨_, (Option.some.inj H).symm, ⟨(N41 ++ (D10 ++ D8)), L26, hE.keep (Keep.cons rfl (Keep.cons rfl (Keep.cons rfl (Keep.cons rfl (Keep.nil))))), HF54, (OwnS.lift hr26 hs33)⟩⟩)
   replace H := itF c33 H
   refine cSet (i := 54) rfl (dF c33) ?_
   refine cF rfl ?_
   refine cSkip ?_
   refine kN (?_)
   refine hK71 _ _ ?_
   refine cRgn [] trivial ?_
   refine sL (mv rfl) rfl ?_
   refine sL (bMul rfl rfl) rfl ?_
   refine sL (asg rfl) rfl ?_
   refine lE ?_
   refine jN (kN (?_))
   have hs34 : (N40 ++ G) ⊆ ((D10 ++ D8) ++ (N7 ++ G)) := by rw [hN25, hN19]; simp only [List.append_assoc]; exact sub_r
   have HF55 := Fits.conv (L' := (L24 ++ ((D10 ++ D8) ++ (N7 ++ F)))) HF51 (by rw [hN25, hN19]; simp only [List.append_assoc])
   exact ofEnv (fun a hE => ⟨_, (Option.some.inj H).symm, ⟨(D10 ++ D8), L24, hE.keep (Keep.cons rfl (Keep.cons rfl (Keep.cons rfl (Keep.cons rfl (Keep.nil))))), HF55, (OwnS.lift hr25 hs34)⟩⟩)
  replace H := itF c26 H
  refine cSet (i := 30) rfl (dF c26) ?_
  refine cF rfl ?_
  refine cExit ?_
  refine kX (kX (jX (kN (?_))))
  have hs35 : (N31 ++ G) ⊆ ((D8) ++ (N7 ++ G)) := by rw [hN19]; simp only [List.append_assoc]; exact sub_r
  have HF56 := Fits.conv (L' := (L20 ++ ((D8) ++ (N7 ++ F)))) HF38 (by rw [hN19]; simp only [List.append_assoc])
  exact ofEnv (fun a hE => ⟨_, (Option.some.inj H).symm, ⟨(D8), L20, hE.keep (Keep.cons rfl (Keep.cons rfl (Keep.cons rfl (Keep.cons rfl (Keep.nil))))), HF56, (OwnS.lift hr19 hs35)⟩⟩)
 rintro s4 a w26 rfl ⟨D8, L20, hE, HF57, ho20⟩
 replace H := Ho4
 refine go_k hE ?_
 obtain ⟨N43, hN27⟩ : ∃ N_, N_ = D8 ++ N7 := ⟨_, rfl⟩
 have HF58 := HF57; rw [← List.append_assoc D8 N7 F, ← hN27] at HF58
 have hs36 : N7 ++ G ⊆ N43 ++ G := frz_s hN27
 have hr27 := OwnS.lift (G' := (N43 ++ G)) ho20 (frz_c hN27)
 obtain rfl := Option.some.inj H
 refine end0 rfl ?_
 exact ⟨N43, L20, rfl, HF58, hr27⟩
/-! ### slices.SortStableFunc[[]plenum/api.Lsa,plenum/api.Lsa] (function 48) -/
abbrev f_slices_SortStableFunc_api_Lsa_api_Lsa_fn49.R := List T_api_Lsa
noncomputable def f_slices_SortStableFunc_api_Lsa_api_Lsa_fn49 (a0 : List T_api_Lsa) : Option f_slices_SortStableFunc_api_Lsa_api_Lsa_fn49.R := ((f_slices_stableCmpFunc_api_Lsa_fn49 a0 (a0.length : Int)).bind fun t1 => (if t1.length = a0.length then some t1 else none))
set_option maxHeartbeats 1000000 in
theorem f_slices_SortStableFunc_api_Lsa_api_Lsa_fn49.ok {z w : World} {F G : Hp} (hG : G ⊆ F) {a0 : List T_api_Lsa} {A_a0 : Option Addr} {c_a0 : Nat} {L_a0 : Hp} {r : f_slices_SortStableFunc_api_Lsa_api_Lsa_fn49.R} (H : f_slices_SortStableFunc_api_Lsa_api_Lsa_fn49 a0 = some r) (HF : Fits z w (L_a0 ++ F)) (ho_a0 : OwnS (kShr G k_T_api_Lsa) L_a0 A_a0 c_a0 a0) :
  Calls Try.prog 48 [.slice A_a0 a0.length c_a0, .func (.func 49) [].toArray [].toArray].toArray w fun e w' => ∃ (N : Hp) (M0 : Hp), e = .returned (.tuple #[]) ∧ Fits z w' (M0 ++ (N ++ F)) ∧ OwnS (kShr (N ++ G) k_T_api_Lsa) M0 A_a0 c_a0 r := by
 unfold f_slices_SortStableFunc_api_Lsa_api_Lsa_fn49 at H
 refine enter0 Try.func48 rfl Try.ntmps48 rfl (E := [(0, .slice A_a0 a0.length c_a0), (1, .func (.func 49) [].toArray [].toArray)]) rfl ?_
 refine cRgn [] trivial ?_
 refine sL (mv rfl) rfl ?_
 refine sL (mv rfl) rfl ?_
 refine sL (lnS rfl Try.underlying24) rfl ?_
 refine sL (mv rfl) rfl ?_
 replace H := bnd H; obtain ⟨t1, J1, H⟩ := H
 refine eCall isf61 rfl rfl rfl (f_slices_stableCmpFunc_api_Lsa_fn49.ok (a0 := a0) hG J1 HF ho_a0) ?_
 rintro _ w1 ⟨N1, L1, rfl, HF1, ho1⟩
 have hs1 : G ⊆ N1 ++ G := sub_a sub_r
 refine ⟨_, rfl, ?_⟩
 replace H := chk H; obtain ⟨c1, H⟩ := H
 refine lSet (i := 0) (v := .slice A_a0 t1.length c_a0) rfl (by rw [c1]) ?_
 refine lSet (i := 4) (v := .slice A_a0 t1.length c_a0) rfl (by rw [c1]) ?_
 refine lSet (i := 5) (v := .slice A_a0 t1.length c_a0) rfl (by rw [c1]) ?_
 refine lE ?_
 obtain rfl := Option.some.inj H
 refine end0 rfl ?_
 exact ⟨N1, L1, rfl, HF1, ho1⟩
/-! ### plenum/topo.live (function 21) -/
abbrev f_topo_live.R := List T_api_Lsa
noncomputable def f_topo_live.b0 (a0 : List T_api_Lsa) (a1 : Int) (s1 : (List T_api_Lsa) × Int) : Option (Sum ((List T_api_Lsa) × Int) (Sum ((List T_api_Lsa) × Int) f_topo_live.R)) := (if s1.2 < (a0.length : Int) then (if 0 ≤ s1.2 then (if ((rd a0 s1.2).f_Head.f_Kind) = a1 then (if ((rd a0 s1.2).f_Head.f_Age) < 3600 then (if (s1.1.length + 1) * 144 ≤ 140737488355328 then some (.inl ((s1.1 ++ [(rd a0 s1.2)]), IntKind.i64.wrap (s1.2 + 1))) else none) else some (.inl (s1.1, IntKind.i64.wrap (s1.2 + 1)))) else some (.inl (s1.1, IntKind.i64.wrap (s1.2 + 1)))) else none) else some (.inr (.inl (s1.1, s1.2))))
noncomputable def f_topo_live (a0 : List T_api_Lsa) (a1 : Int) : Option f_topo_live.R := ((loopO (f_topo_live.b0 a0 a1) ([], 0)).bind fun y1 => match y1 with | .inl s1 => ((f_slices_SortStableFunc_api_Lsa_api_Lsa_fn49 s1.1).bind fun t1 => (if t1.length = s1.1.length then some t1 else none)) | .inr r_ => some r_)
set_option maxHeartbeats 1000000 in
theorem f_topo_live.ok {z w : World} {F G : Hp} (hG : G ⊆ F) {a0 : List T_api_Lsa} {A_a0 : Option Addr} {c_a0 : Nat} {X_a0 : Hp} {a1 : Int} {r : f_topo_live.R} (H : f_topo_live a0 a1 = some r) (HF : Fits z w F) (hX_a0 : X_a0 ⊆ F) (hr_a0 : RdS (kShr G k_T_api_Lsa) X_a0 A_a0 c_a0 a0) :
  Calls Try.prog 21 [.slice A_a0 a0.length c_a0, .int .i64 a1].toArray w fun e w' => ∃ (N : Hp) (A0 : Option Addr) (c0 : Nat) (L0 : Hp), e = .returned (.slice A0 r.length c0) ∧ Fits z w' (L0 ++ (N ++ F)) ∧ OwnS (kShr (N ++ G) k_T_api_Lsa) L0 A0 c0 r := by
 unfold f_topo_live at H
 refine enter0 Try.func21 rfl Try.ntmps21 rfl (E := [(0, .slice A_a0 a0.length c_a0), (1, .int .i64 a1)]) rfl ?_
 refine cSeq (fun K1 hK1 => ?_)
 refine cRgn [] trivial ?_
 refine sL (asg rfl) rfl ?_
 refine lE ?_
 refine kN (?_)
 refine hK1 _ _ ?_
 refine cSeq (fun K2 hK2 => ?_)
 refine cRgn [] trivial ?_
 refine sL (asg rfl) rfl ?_
 refine lE ?_
 refine kN (?_)
 refine hK2 _ _ ?_
 refine cSeq (fun K3 hK3 => ?_)
 refine cSeq (fun K4 hK4 => ?_)
 refine cRgn [] trivial ?_
 refine sL (mv rfl) rfl ?_
 refine sL (lnS rfl Try.underlying24) rfl ?_
 refine sL (mv rfl) rfl ?_
 refine lE ?_
 refine kN (?_)
 refine hK4 _ _ ?_
 replace H := bnd H; obtain ⟨y1, J2, Ho1⟩ := H
 refine cLoopB (f_topo_live.b0 a0 a1) (fun (s1 : (List T_api_Lsa) × Int) a w => ∃ (A12 : Option Addr) (c20 : Nat) (L6 : Hp), Env 33 [(1, .int .i64 a1), (4, .slice none 0 0), (5, .slice A12 s1.1.length c20), (8, .slice A_a0 a0.length c_a0), (9, .int .i64 (a0.length : Int)), (10, .int .i64 s1.2)] a ∧ Fits z w (L6 ++ F) ∧ OwnS (kShr G k_T_api_Lsa) L6 A12 c20 s1.1) J2 (fun a hE => ⟨none, 0, [], hE.keep (Keep.cons rfl (Keep.cons rfl (Keep.cons rfl (Keep.cons rfl (Keep.cons rfl (Keep.cons rfl (Keep.nil))))))), HF, OwnS.nil⟩) ?_ ?_
 ·rintro s1 a w9 y2 ⟨A12, c20, L6, hE, HF10, ho6⟩ H Hx1
  refine go_ hE ?_
  refine cSeq (fun K15 hK15 => ?_)
  refine cRgn [] trivial ?_
  refine sL (bLss rfl rfl) rfl ?_
  refine lE ?_
  refine kN (?_)
  refine hK15 _ _ ?_
  refine cSeq (fun K16 hK16 => ?_)
  by_cases c21 : s1.2 < (a0.length : Int)
  ·replace H := itT c21 H
   refine cSet (i := 11) rfl (dT c21) ?_
   refine cT rfl ?_
   refine cSkip ?_
   refine kN (?_)
   refine hK16 _ _ ?_
   refine cSeq (fun K17 hK17 => ?_)
   refine cBlock ?_
   refine cSeq (fun K18 hK18 => ?_)
   refine cRgn [] trivial ?_
   replace H := chk H; obtain ⟨c22, H⟩ := H
   obtain ⟨g5, o3, e6, rfl, hk3, q3⟩ := RdS.at_ hr_a0 c22 c21
   obtain ⟨A13, c23, A14, c24, A15, c25, rfl, hr7, hr8, hr9⟩ := rd_T_api_Lsa hk3
   refine sL (ia rfl rfl Try.underlying24 ti44 c22 c21) rfl ?_
   refine sL (ldA rfl ti44 rfl rfl (fun j v hj => HF10.cells ((sub_a hX_a0)) (q3 j v hj))) rfl ?_
   refine eW (oAlloc HF10 ti44) rfl ?_
   rintro _ w10 ⟨g6, rfl, HF11⟩
   refine eS (oSt (l1 := [.int .i64 ((rd a0 s1.2).f_Head.f_Age), .int .i64 ((rd a0 s1.2).f_Head.f_Kind), .int .i64 ((rd a0 s1.2).f_Head.f_Id), .int .i64 ((rd a0 s1.2).f_Head.f_Adv), .int .i64 ((rd a0 s1.2).f_Head.f_Seq), .int .i64 ((rd a0 s1.2).f_Head.f_Sum), .int .i64 ((rd a0 s1.2).f_Head.f_Len), .int .i64 ((rd a0 s1.2).f_Flags), .slice A13 ((rd a0 s1.2).f_Links).length c23, .int .i64 ((rd a0 s1.2).f_Bits), .slice A14 ((rd a0 s1.2).f_Routers).length c24, .slice A15 ((rd a0 s1.2).f_Verts).length c25]) HF11 rfl rfl ti44 rfl (ones rfl) (Nat.le_of_ble_eq_true rfl) rfl) ?_
   rintro w11 HF12
   refine lE ?_
   refine kN (?_)
   refine hK18 _ _ ?_
   refine cSeq (fun K19 hK19 => ?_)
   refine cRgn [(5, 19)] ⟨rfl, trivial⟩ ?_
   refine sL (fa44_0 rfl) rfl ?_
   refine sL (fa41_1 rfl) rfl ?_
   refine sL (ld rfl Try.underlying3 rfl (HF12.box (mem_h) rfl)) rfl ?_
   refine sL (mv rfl) rfl ?_
   refine sL (bEql rfl rfl) rfl ?_
   refine sL (mv rfl) rfl ?_
   by_cases c26 : ((rd a0 s1.2).f_Head.f_Kind) = a1
   ·replace H := itT c26 H
    refine lSet (i := 19) rfl (dT c26) ?_
    refine sG rfl rfl (fa44_0 rfl) rfl ?_
    refine sG rfl rfl (fa41_0 rfl) rfl ?_
    refine sG rfl rfl (ld rfl Try.underlying3 rfl (HF12.box (mem_h) rfl)) rfl ?_
    refine sG rfl rfl (bLss rfl rfl) rfl ?_
    refine sL (pkT rfl rfl) rfl ?_
    refine lE ?_
    refine kN (?_)
    refine hK19 _ _ ?_
    by_cases c27 : ((rd a0 s1.2).f_Head.f_Age) < 3600
    ·replace H := itT c27 H
     refine cSet (i := 24) rfl (dT c27) ?_
     refine cT rfl ?_
     refine cRgn [] trivial ?_
     refine sL (mv rfl) rfl ?_
     refine sL (ldA (cs := [.int .i64 ((rd a0 s1.2).f_Head.f_Age), .int .i64 ((rd a0 s1.2).f_Head.f_Kind), .int .i64 ((rd a0 s1.2).f_Head.f_Id), .int .i64 ((rd a0 s1.2).f_Head.f_Adv), .int .i64 ((rd a0 s1.2).f_Head.f_Seq), .int .i64 ((rd a0 s1.2).f_Head.f_Sum), .int .i64 ((rd a0 s1.2).f_Head.f_Len), .int .i64 ((rd a0 s1.2).f_Flags), .slice A13 ((rd a0 s1.2).f_Links).length c23, .int .i64 ((rd a0 s1.2).f_Bits), .slice A14 ((rd a0 s1.2).f_Routers).length c24, .slice A15 ((rd a0 s1.2).f_Verts).length c25]) rfl ti44 rfl rfl (HF12.boxes (o := 0) (n := 12) (mem_h) rfl)) rfl ?_
     refine eW (oLit (r := [.int .i64 ((rd a0 s1.2).f_Head.f_Age), .int .i64 ((rd a0 s1.2).f_Head.f_Kind), .int .i64 ((rd a0 s1.2).f_Head.f_Id), .int .i64 ((rd a0 s1.2).f_Head.f_Adv), .int .i64 ((rd a0 s1.2).f_Head.f_Seq), .int .i64 ((rd a0 s1.2).f_Head.f_Sum), .int .i64 ((rd a0 s1.2).f_Head.f_Len), .int .i64 ((rd a0 s1.2).f_Flags), .slice A13 ((rd a0 s1.2).f_Links).length c23, .int .i64 ((rd a0 s1.2).f_Bits), .slice A14 ((rd a0 s1.2).f_Routers).length c24, .slice A15 ((rd a0 s1.2).f_Verts).length c25]) (kShr G k_T_api_Lsa) [(rd a0 s1.2)] HF12 Try.underlying24 ti44 rfl rfl rfl rfl ⟨[], [], [.int .i64 ((rd a0 s1.2).f_Head.f_Age), .int .i64 ((rd a0 s1.2).f_Head.f_Kind), .int .i64 ((rd a0 s1.2).f_Head.f_Id), .int .i64 ((rd a0 s1.2).f_Head.f_Adv), .int .i64 ((rd a0 s1.2).f_Head.f_Seq), .int .i64 ((rd a0 s1.2).f_Head.f_Sum), .int .i64 ((rd a0 s1.2).f_Head.f_Len), .int .i64 ((rd a0 s1.2).f_Flags), .slice A13 ((rd a0 s1.2).f_Links).length c23, .int .i64 ((rd a0 s1.2).f_Bits), .slice A14 ((rd a0 s1.2).f_Routers).length c24, .slice A15 ((rd a0 s1.2).f_Verts).length c25], _, rfl, rfl, ⟨rfl, mk_T_api_Lsa (x := (rd a0 s1.2)) (hr7) (hr8) (hr9)⟩, ⟨rfl, rfl⟩⟩ rfl rfl) rfl ?_
     rintro _ w12 ⟨L7, A16, c28, rfl, HF13, ho7⟩
     replace H := chk H; obtain ⟨c29, H⟩ := H
     have HF14 := HF13.perm (perm_f (perm_c pR))
     refine eW (oApp (xs := s1.1) (ys := ([(rd a0 s1.2)])) (kShr G k_T_api_Lsa) HF14 rfl rfl Try.underlying24 Try.underlying24 ti44 rfl ho6 (srcR shrS ho7.rd HF14 (sub_a sub_h)) c29 rfl) rfl ?_
     rintro _ w13 ⟨L8, A17, c30, rfl, HF15, ho8⟩
     refine sL (asg rfl) rfl ?_
     refine lE ?_
     refine jN (kN (?_))
     refine hK17 _ _ ?_
     refine cRgn [] trivial ?_
     refine sL (bAdd rfl rfl) rfl ?_
     refine sL (mv rfl) rfl ?_
     refine lE ?_
     refine kN (?_)
     have HF16 := HF15.sublist (sl_a (sl_da (sl_dc sR)))
     exact ofEnv (fun a hE => ⟨_, (Option.some.inj H).symm, ⟨_, _, L8, hE.keep (Keep.cons rfl (Keep.cons rfl (Keep.cons rfl (Keep.cons rfl (Keep.cons rfl (Keep.cons rfl (Keep.nil))))))), HF16, ho8⟩⟩)
    replace H := itF c27 H
    refine cSet (i := 24) rfl (dF c27) ?_
    refine cF rfl ?_
    refine cSkip ?_
    refine jN (kN (?_))
    refine hK17 _ _ ?_
    refine cRgn [] trivial ?_
    refine sL (bAdd rfl rfl) rfl ?_
    refine sL (mv rfl) rfl ?_
    refine lE ?_
    refine kN (?_)
    have HF17 := HF12.sublist (sl_dc (sl_a sR))
    exact ofEnv (fun a hE => ⟨_, (Option.some.inj H).symm, ⟨_, _, L6, hE.keep (Keep.cons rfl (Keep.cons rfl (Keep.cons rfl (Keep.cons rfl (Keep.cons rfl (Keep.cons rfl (Keep.nil))))))), HF17, ho6⟩⟩)
   replace H := itF c26 H
   refine lSet (i := 19) rfl (dF c26) ?_
   refine sN rfl rfl rfl rfl ?_
   refine sN rfl rfl rfl rfl ?_
   refine sN rfl rfl rfl rfl ?_
   refine sN rfl rfl rfl rfl ?_
   refine sL (pkF rfl rfl) rfl ?_
   refine lE ?_
   refine kN (?_)
   refine hK19 _ _ ?_
   refine cF rfl ?_
   refine cSkip ?_
   refine jN (kN (?_))
   refine hK17 _ _ ?_
   refine cRgn [] trivial ?_
   refine sL (bAdd rfl rfl) rfl ?_
   refine sL (mv rfl) rfl ?_
   refine lE ?_
   refine kN (?_)
   have HF18 := HF12.sublist (sl_dc (sl_a sR))
   exact ofEnv (fun a hE => ⟨_, (Option.some.inj H).symm, ⟨_, _, L6, hE.keep (Keep.cons rfl (Keep.cons rfl (Keep.cons rfl (Keep.cons rfl (Keep.cons rfl (Keep.cons rfl (Keep.nil))))))), HF18, ho6⟩⟩)
  replace H := itF c21 H
  refine cSet (i := 11) rfl (dF c21) ?_
  refine cF rfl ?_
  refine cExit ?_
  refine kX (kX (jX (kN (?_))))
  exact ofEnv (fun a hE => ⟨_, (Option.some.inj H).symm, ⟨_, _, L6, hE.keep (Keep.cons rfl (Keep.cons rfl (Keep.cons rfl (Keep.cons rfl (Keep.cons rfl (Keep.cons rfl (Keep.nil))))))), HF10, ho6⟩⟩)
 rintro s1 a w14 rfl ⟨A12, c20, L6, hE, HF19, ho6⟩
 replace H := Ho1
 refine go_k hE ?_
 refine kN (?_)
 refine hK3 _ _ ?_
 refine cSeq (fun K20 hK20 => ?_)
 refine cRgn [] trivial ?_
 refine sL (mv rfl) rfl ?_
 replace H := bnd H; obtain ⟨t1, J1, H⟩ := H
 refine eCall isf48 rfl rfl rfl (f_slices_SortStableFunc_api_Lsa_api_Lsa_fn49.ok (a0 := s1.1) hG J1 HF19 ho6) ?_
 rintro _ w15 ⟨N1, L9, rfl, HF20, ho9⟩
 have hs1 : G ⊆ N1 ++ G := sub_a sub_r
 refine ⟨_, rfl, ?_⟩
 replace H := chk H; obtain ⟨c31, H⟩ := H
 refine lSet (i := 5) (v := .slice A12 t1.length c20) rfl (by rw [c31]) ?_
 refine lSet (i := 30) (v := .slice A12 t1.length c20) rfl (by rw [c31]) ?_
 refine lE ?_
 refine kN (?_)
 refine hK20 _ _ ?_
 refine cSeq (fun K21 hK21 => ?_)
 refine cRgn [] trivial ?_
 refine sL (mv rfl) rfl ?_
 refine sL (asg rfl) rfl ?_
 refine lE ?_
 refine kN (?_)
 refine hK21 _ _ ?_
 refine cRet ?_
 obtain rfl := Option.some.inj H
 refine ret1 rfl rfl ?_
 exact ⟨N1, _, _, L9, rfl, HF20, ho9⟩
/-! ### plenum/topo.Map$1 (function 22) -/
abbrev f_topo_Map_1.R := Bool
noncomputable def f_topo_Map_1 (a0 : T_api_Lsa) : Option f_topo_Map_1.R := some (!decide (a0.f_Head.f_Id = a0.f_Head.f_Adv))
set_option maxHeartbeats 1000000 in
theorem f_topo_Map_1.ok {z w : World} {F G : Hp} (hG : G ⊆ F) {a0 : T_api_Lsa} {A_a0_8 : Option Addr} {c_a0_8 : Nat} {X_a0_8 : Hp} {A_a0_10 : Option Addr} {c_a0_10 : Nat} {X_a0_10 : Hp} {A_a0_11 : Option Addr} {c_a0_11 : Nat} {X_a0_11 : Hp} {r : f_topo_Map_1.R} (H : f_topo_Map_1 a0 = some r) (HF : Fits z w F) (hX_a0_8 : X_a0_8 ⊆ F) (hr_a0_8 : RdS k_T_api_Link X_a0_8 A_a0_8 c_a0_8 a0.f_Links) (hX_a0_10 : X_a0_10 ⊆ F) (hr_a0_10 : RdS (kInt .i64) X_a0_10 A_a0_10 c_a0_10 a0.f_Routers) (hX_a0_11 : X_a0_11 ⊆ F) (hr_a0_11 : RdS k_T_api_Vert X_a0_11 A_a0_11 c_a0_11 a0.f_Verts) :
  Calls Try.prog 22 [.agg [.int .i64 a0.f_Head.f_Age, .int .i64 a0.f_Head.f_Kind, .int .i64 a0.f_Head.f_Id, .int .i64 a0.f_Head.f_Adv, .int .i64 a0.f_Head.f_Seq, .int .i64 a0.f_Head.f_Sum, .int .i64 a0.f_Head.f_Len, .int .i64 a0.f_Flags, .slice A_a0_8 a0.f_Links.length c_a0_8, .int .i64 a0.f_Bits, .slice A_a0_10 a0.f_Routers.length c_a0_10, .slice A_a0_11 a0.f_Verts.length c_a0_11].toArray].toArray w fun e w' => e = .returned (.bool r) ∧ Fits z w' F := by
 unfold f_topo_Map_1 at H
 refine enter0 Try.func22 rfl Try.ntmps22 rfl (E := [(0, .agg [.int .i64 a0.f_Head.f_Age, .int .i64 a0.f_Head.f_Kind, .int .i64 a0.f_Head.f_Id, .int .i64 a0.f_Head.f_Adv, .int .i64 a0.f_Head.f_Seq, .int .i64 a0.f_Head.f_Sum, .int .i64 a0.f_Head.f_Len, .int .i64 a0.f_Flags, .slice A_a0_8 a0.f_Links.length c_a0_8, .int .i64 a0.f_Bits, .slice A_a0_10 a0.f_Routers.length c_a0_10, .slice A_a0_11 a0.f_Verts.length c_a0_11].toArray)]) rfl ?_
 refine cSeq (fun K1 hK1 => ?_)
 refine cRgn [] trivial ?_
 refine eW (oBox HF rfl) rfl ?_
 rintro _ w1 ⟨g1, rfl, HF1⟩
 refine sL (asg rfl) rfl ?_
 refine lE ?_
 refine kN (?_)
 refine hK1 _ _ ?_
 refine cSeq (fun K2 hK2 => ?_)
 refine cRgn [] trivial ?_
 refine sL (fa44_0 rfl) rfl ?_
 refine sL (fa41_2 rfl) rfl ?_
 refine sL (ld rfl Try.underlying3 rfl (HF1.box (mem_h) rfl)) rfl ?_
 refine sL (fa44_0 rfl) rfl ?_
 refine sL (fa41_3 rfl) rfl ?_
 refine sL (ld rfl Try.underlying3 rfl (HF1.box (mem_h) rfl)) rfl ?_
 refine sL (bNeq rfl rfl) rfl ?_
 refine sL (asg rfl) rfl ?_
 refine lE ?_
 refine kN (?_)
 refine hK2 _ _ ?_
 refine cRet ?_
 obtain rfl := Option.some.inj H
 refine ret1 rfl rfl ?_
 have HF2 := HF1.sublist (sl_dc sR)
 exact ⟨rfl, HF2⟩
/-! ### slices.IndexFunc[[]plenum/api.Lsa,plenum/api.Lsa] (function 47) -/
abbrev f_slices_IndexFunc_api_Lsa_api_Lsa_fn22.R := Int
noncomputable def f_slices_IndexFunc_api_Lsa_api_Lsa_fn22.b0 (a0 : List T_api_Lsa) (s1 : Int) : Option (Sum (Int) (Sum (Int) f_slices_IndexFunc_api_Lsa_api_Lsa_fn22.R)) := (if s1 < (a0.length : Int) then (if 0 ≤ s1 then ((f_topo_Map_1 (rd a0 s1)).bind fun t3 => (if t3 = true then some (.inr (.inr s1)) else some (.inl (IntKind.i64.wrap (s1 + 1))))) else none) else some (.inr (.inl s1)))
noncomputable def f_slices_IndexFunc_api_Lsa_api_Lsa_fn22 (a0 : List T_api_Lsa) : Option f_slices_IndexFunc_api_Lsa_api_Lsa_fn22.R := ((loopO (f_slices_IndexFunc_api_Lsa_api_Lsa_fn22.b0 a0) 0).bind fun y1 => match y1 with | .inl s1 => some (-1) | .inr r_ => some r_)
set_option maxHeartbeats 1000000 in
theorem f_slices_IndexFunc_api_Lsa_api_Lsa_fn22.ok {z w : World} {F G : Hp} (hG : G ⊆ F) {a0 : List T_api_Lsa} {A_a0 : Option Addr} {c_a0 : Nat} {X_a0 : Hp} {r : f_slices_IndexFunc_api_Lsa_api_Lsa_fn22.R} (H : f_slices_IndexFunc_api_Lsa_api_Lsa_fn22 a0 = some r) (HF : Fits z w F) (hX_a0 : X_a0 ⊆ F) (hr_a0 : RdS (kShr G k_T_api_Lsa) X_a0 A_a0 c_a0 a0) :
  Calls Try.prog 47 [.slice A_a0 a0.length c_a0, .func (.func 22) [].toArray [].toArray].toArray w fun e w' => e = .returned (.int .i64 r) ∧ Fits z w' F := by
 unfold f_slices_IndexFunc_api_Lsa_api_Lsa_fn22 at H
 refine enter0 Try.func47 rfl Try.ntmps47 rfl (E := [(0, .slice A_a0 a0.length c_a0), (1, .func (.func 22) [].toArray [].toArray)]) rfl ?_
 refine cSeq (fun K1 hK1 => ?_)
 refine cRgn [] trivial ?_
 refine sL (asg rfl) rfl ?_
 refine lE ?_
 refine kN (?_)
 refine hK1 _ _ ?_
 refine cSeq (fun K2 hK2 => ?_)
 refine cSeq (fun K3 hK3 => ?_)
 refine cRgn [] trivial ?_
 refine sL (mv rfl) rfl ?_
 refine sL (lnS rfl Try.underlying24) rfl ?_
 refine sL (mv rfl) rfl ?_
 refine lE ?_
 refine kN (?_)
 refine hK3 _ _ ?_
 replace H := bnd H; obtain ⟨y1, J4, Ho1⟩ := H
 refine cLoopB (f_slices_IndexFunc_api_Lsa_api_Lsa_fn22.b0 a0) (fun (s1 : Int) a w => Env 19 [(0, .slice A_a0 a0.length c_a0), (1, .func (.func 22) [].toArray [].toArray), (4, .int .i64 0), (7, .int .i64 (a0.length : Int)), (8, .int .i64 s1)] a ∧ Fits z w F) J4 (fun a hE => ⟨hE.keep (Keep.cons rfl (Keep.cons rfl (Keep.cons rfl (Keep.cons rfl (Keep.cons rfl (Keep.nil)))))), HF⟩) ?_ ?_
 ·rintro s1 a w3 y2 ⟨hE, HF3⟩ H Hx1
  refine go_ hE ?_
  refine cSeq (fun K16 hK16 => ?_)
  refine cRgn [] trivial ?_
  refine sL (bLss rfl rfl) rfl ?_
  refine lE ?_
  refine kN (?_)
  refine hK16 _ _ ?_
  refine cSeq (fun K17 hK17 => ?_)
  by_cases c12 : s1 < (a0.length : Int)
  ·replace H := itT c12 H
   refine cSet (i := 9) rfl (dT c12) ?_
   refine cT rfl ?_
   refine cSkip ?_
   refine kN (?_)
   refine hK17 _ _ ?_
   refine cSeq (fun K18 hK18 => ?_)
   refine cBlock ?_
   refine cSeq (fun K19 hK19 => ?_)
   refine cRgn [] trivial ?_
   refine sL (mv rfl) rfl ?_
   refine sL (asg rfl) rfl ?_
   refine lE ?_
   refine kN (?_)
   refine hK19 _ _ ?_
   refine cSeq (fun K20 hK20 => ?_)
   refine cRgn [] trivial ?_
   refine sL (mv rfl) rfl ?_
   refine sL (mv rfl) rfl ?_
   refine sL (mv rfl) rfl ?_
   replace H := chk H; obtain ⟨c13, H⟩ := H
   obtain ⟨g3, o3, e6, rfl, hk3, q3⟩ := RdS.at_ hr_a0 c13 c12
   obtain ⟨A7, c14, A8, c15, A9, c16, rfl, hr7, hr8, hr9⟩ := rd_T_api_Lsa hk3
   refine sL (ia rfl rfl Try.underlying24 ti44 c13 c12) rfl ?_
   refine sL (ldA rfl ti44 rfl rfl (fun j v hj => HF3.cells (hX_a0) (q3 j v hj))) rfl ?_
   replace H := bnd H; obtain ⟨t3, J3, H⟩ := H
   refine eCall isf22 rfl rfl rfl (f_topo_Map_1.ok (a0 := (rd a0 s1)) hG J3 HF3 hG hr7 hG hr8 hG hr9) ?_
   rintro _ w4 ⟨rfl, HF4⟩
   refine ⟨_, rfl, ?_⟩
   refine lE ?_
   refine kN (?_)
   refine hK20 _ _ ?_
   by_cases c17 : t3 = true
   ·replace H := itT c17 H
    refine cSet (i := 16) rfl (vT c17) ?_
    refine cT rfl ?_
    refine cSeq (fun K21 hK21 => ?_)
    refine cRgn [] trivial ?_
    refine sL (mv rfl) rfl ?_
    refine sL (asg rfl) rfl ?_
    refine lE ?_
    refine kN (?_)
    refine hK21 _ _ ?_
    refine cRet ?_
    have e_ := Hx1 _ (Option.some.inj H).symm
    subst e_
    replace H := Ho1
    obtain rfl := Option.some.inj H
    refine jR (kR (kR (jR (kR (kR (?_))))))
    refine ret1 rfl rfl ?_
    exact ⟨rfl, HF4⟩
   replace H := itF c17 H
   refine cSet (i := 16) rfl (vF c17) ?_
   refine cF rfl ?_
   refine cSkip ?_
   refine jN (kN (?_))
   refine hK18 _ _ ?_
   refine cRgn [] trivial ?_
   refine sL (bAdd rfl rfl) rfl ?_
   refine sL (mv rfl) rfl ?_
   refine lE ?_
   refine kN (?_)
   exact ofEnv (fun a hE => ⟨_, (Option.some.inj H).symm, ⟨hE.keep (Keep.cons rfl (Keep.cons rfl (Keep.cons rfl (Keep.cons rfl (Keep.cons rfl (Keep.nil)))))), HF4⟩⟩)
  replace H := itF c12 H
  refine cSet (i := 9) rfl (dF c12) ?_
  refine cF rfl ?_
  refine cExit ?_
  refine kX (kX (jX (kN (?_))))
  exact ofEnv (fun a hE => ⟨_, (Option.some.inj H).symm, ⟨hE.keep (Keep.cons rfl (Keep.cons rfl (Keep.cons rfl (Keep.cons rfl (Keep.cons rfl (Keep.nil)))))), HF3⟩⟩)
 rintro s1 a w5 rfl ⟨hE, HF5⟩
 replace H := Ho1
 refine go_k hE ?_
 refine kN (?_)
 refine hK2 _ _ ?_
 refine cSeq (fun K22 hK22 => ?_)
 refine cRgn [] trivial ?_
 refine sL (asg rfl) rfl ?_
 refine lE ?_
 refine kN (?_)
 refine hK22 _ _ ?_
 refine cRet ?_
 obtain rfl := Option.some.inj H
 refine ret1 rfl rfl ?_
 exact ⟨rfl, HF5⟩
/-! ### slices.DeleteFunc[[]plenum/api.Lsa,plenum/api.Lsa] (function 20) -/
abbrev f_slices_DeleteFunc_api_Lsa_api_Lsa_fn22.R := List T_api_Lsa
noncomputable def f_slices_DeleteFunc_api_Lsa_api_Lsa_fn22.b0 (s1 : Int × Int × (List T_api_Lsa)) : Option (Sum (Int × Int × (List T_api_Lsa)) (Sum (Int × Int × (List T_api_Lsa)) f_slices_DeleteFunc_api_Lsa_api_Lsa_fn22.R)) := (if s1.2.1 < (s1.2.2.length : Int) then (if 0 ≤ s1.2.1 then ((f_topo_Map_1 (rd s1.2.2 s1.2.1)).bind fun t4 => (if t4 = true then some (.inl (s1.1, IntKind.i64.wrap (s1.2.1 + 1), s1.2.2)) else (if 0 ≤ s1.1 then (if s1.1 < (s1.2.2.length : Int) then some (.inl (IntKind.i64.wrap (s1.1 + 1), IntKind.i64.wrap (s1.2.1 + 1), setI s1.2.2 s1.1 (rd s1.2.2 s1.2.1))) else none) else none))) else none) else some (.inr (.inl (s1.1, s1.2.1, s1.2.2))))
noncomputable def f_slices_DeleteFunc_api_Lsa_api_Lsa_fn22 (a0 : List T_api_Lsa) : Option f_slices_DeleteFunc_api_Lsa_api_Lsa_fn22.R := ((f_slices_IndexFunc_api_Lsa_api_Lsa_fn22 a0).bind fun t1 => (if t1 = (-1) then some a0 else ((loopO f_slices_DeleteFunc_api_Lsa_api_Lsa_fn22.b0 (t1, IntKind.i64.wrap (t1 + 1), a0)).bind fun y1 => match y1 with | .inl s1 => (if 0 ≤ s1.1 then (if s1.1 ≤ (s1.2.2.length : Int) then (if s1.1 ≤ ((clrL s1.2.2 s1.1 (⟨(⟨0, 0, 0, 0, 0, 0, 0⟩ : T_api_Head), 0, [], 0, [], []⟩ : T_api_Lsa)).length : Int) then some (cutL (clrL s1.2.2 s1.1 (⟨(⟨0, 0, 0, 0, 0, 0, 0⟩ : T_api_Head), 0, [], 0, [], []⟩ : T_api_Lsa)) (0 : Int) s1.1) else none) else none) else none) | .inr r_ => some r_)))
set_option maxHeartbeats 1000000 in
theorem f_slices_DeleteFunc_api_Lsa_api_Lsa_fn22.ok {z w : World} {F G : Hp} (hG : G ⊆ F) {a0 : List T_api_Lsa} {A_a0 : Option Addr} {c_a0 : Nat} {L_a0 : Hp} {r : f_slices_DeleteFunc_api_Lsa_api_Lsa_fn22.R} (H : f_slices_DeleteFunc_api_Lsa_api_Lsa_fn22 a0 = some r) (HF : Fits z w (L_a0 ++ F)) (ho_a0 : OwnS (kShr G k_T_api_Lsa) L_a0 A_a0 c_a0 a0) :
  Calls Try.prog 20 [.slice A_a0 a0.length c_a0, .func (.func 22) [].toArray [].toArray].toArray w fun e w' => ∃ (N : Hp) (A0 : Option Addr) (c0 : Nat) (L0 : Hp), e = .returned (.slice A0 r.length c0) ∧ Fits z w' (L0 ++ (N ++ F)) ∧ OwnS (kShr (N ++ G) k_T_api_Lsa) L0 A0 c0 r := by
 unfold f_slices_DeleteFunc_api_Lsa_api_Lsa_fn22 at H
 refine enter0 Try.func20 rfl Try.ntmps20 rfl (E := [(0, .slice A_a0 a0.length c_a0), (1, .func (.func 22) [].toArray [].toArray)]) rfl ?_
 refine cSeq (fun K1 hK1 => ?_)
 refine cRgn [] trivial ?_
 refine sL (asg rfl) rfl ?_
 refine lE ?_
 refine kN (?_)
 refine hK1 _ _ ?_
 refine cSeq (fun K2 hK2 => ?_)
 refine cRgn [] trivial ?_
 refine sL (mv rfl) rfl ?_
 refine sL (mv rfl) rfl ?_
 replace H := bnd H; obtain ⟨t1, J1, H⟩ := H
 refine eCall isf47 rfl rfl rfl (f_slices_IndexFunc_api_Lsa_api_Lsa_fn22.ok (a0 := a0) (sub_a hG) J1 HF sub_h ho_a0.rd) ?_
 rintro _ w1 ⟨rfl, HF1⟩
 refine ⟨_, rfl, ?_⟩
 refine sL (asg rfl) rfl ?_
 refine lE ?_
 refine kN (?_)
 refine hK2 _ _ ?_
 refine cSeq (fun K3 hK3 => ?_)
 refine cSeq (fun K4 hK4 => ?_)
 refine cRgn [] trivial ?_
 refine sL (mv rfl) rfl ?_
 refine sL (bEql rfl rfl) rfl ?_
 refine lE ?_
 refine kN (?_)
 refine hK4 _ _ ?_
 by_cases c1 : t1 = (-1)
 ·replace H := itT c1 H
  refine cSet (i := 12) rfl (dT c1) ?_
  refine cT rfl ?_
  refine cSeq (fun K5 hK5 => ?_)
  refine cRgn [] trivial ?_
  refine sL (mv rfl) rfl ?_
  refine sL (asg rfl) rfl ?_
  refine lE ?_
  refine kN (?_)
  refine hK5 _ _ ?_
  refine cRet ?_
  obtain rfl := Option.some.inj H
  refine kR (?_)
  refine ret1 rfl rfl ?_
  exact ⟨[], _, _, L_a0, rfl, HF1, ho_a0⟩
 replace H := itF c1 H
 refine cSet (i := 12) rfl (dF c1) ?_
 refine cF rfl ?_
 refine cSkip ?_
 refine kN (?_)
 refine hK3 _ _ ?_
 refine cSeq (fun K6 hK6 => ?_)
 refine cSeq (fun K7 hK7 => ?_)
 refine cRgn [] trivial ?_
 refine sL (mv rfl) rfl ?_
 refine sL (bAdd rfl rfl) rfl ?_
 refine sL (asg rfl) rfl ?_
 refine lE ?_
 refine kN (?_)
 refine hK7 _ _ ?_
 replace H := bnd H; obtain ⟨y1, J5, Ho1⟩ := H
 refine cLoopB f_slices_DeleteFunc_api_Lsa_api_Lsa_fn22.b0 (fun (s1 : Int × Int × (List T_api_Lsa)) a w => ∃ (L4 : Hp), Env 42 [(0, .slice A_a0 s1.2.2.length c_a0), (1, .func (.func 22) [].toArray [].toArray), (4, .slice none 0 0), (5, .int .i64 s1.1), (6, .int .i64 s1.2.1)] a ∧ Fits z w (L4 ++ F) ∧ OwnS (kShr G k_T_api_Lsa) L4 A_a0 c_a0 s1.2.2) J5 (fun a hE => ⟨L_a0, hE.keep (Keep.cons rfl (Keep.cons rfl (Keep.cons rfl (Keep.cons rfl (Keep.cons rfl (Keep.nil)))))), HF1, ho_a0⟩) ?_ ?_
 ·rintro s1 a w10 y2 ⟨L4, hE, HF12, ho4⟩ H Hx1
  refine go_ hE ?_
  refine cSeq (fun K20 hK20 => ?_)
  refine cSeq (fun K21 hK21 => ?_)
  refine cRgn [] trivial ?_
  refine sL (mv rfl) rfl ?_
  refine sL (mv rfl) rfl ?_
  refine sL (lnS rfl Try.underlying24) rfl ?_
  refine sL (bLss rfl rfl) rfl ?_
  refine lE ?_
  refine kN (?_)
  refine hK21 _ _ ?_
  by_cases c24 : s1.2.1 < (s1.2.2.length : Int)
  ·replace H := itT c24 H
   refine cSet (i := 19) rfl (dT c24) ?_
   refine cT rfl ?_
   refine cSkip ?_
   refine kN (?_)
   refine hK20 _ _ ?_
   refine cSeq (fun K22 hK22 => ?_)
   refine cBlock ?_
   refine cSeq (fun K23 hK23 => ?_)
   refine cRgn [] trivial ?_
   refine sL (mv rfl) rfl ?_
   refine sL (mv rfl) rfl ?_
   replace H := chk H; obtain ⟨c25, H⟩ := H
   obtain ⟨g5, o3, e10, rfl, hk5, q5⟩ := RdS.at_ ho4.rd c25 c24
   obtain ⟨A13, c26, A14, c27, A15, c28, rfl, hr13, hr14, hr15⟩ := rd_T_api_Lsa hk5
   refine sL (ia rfl rfl Try.underlying24 ti44 c25 c24) rfl ?_
   refine sL (ldA rfl ti44 rfl rfl (fun j v hj => HF12.cells (sub_h) (q5 j v hj))) rfl ?_
   refine eW (oAlloc HF12 ti44) rfl ?_
   rintro _ w11 ⟨g6, rfl, HF13⟩
   refine eS (oSt (l1 := [.int .i64 ((rd s1.2.2 s1.2.1).f_Head.f_Age), .int .i64 ((rd s1.2.2 s1.2.1).f_Head.f_Kind), .int .i64 ((rd s1.2.2 s1.2.1).f_Head.f_Id), .int .i64 ((rd s1.2.2 s1.2.1).f_Head.f_Adv), .int .i64 ((rd s1.2.2 s1.2.1).f_Head.f_Seq), .int .i64 ((rd s1.2.2 s1.2.1).f_Head.f_Sum), .int .i64 ((rd s1.2.2 s1.2.1).f_Head.f_Len), .int .i64 ((rd s1.2.2 s1.2.1).f_Flags), .slice A13 ((rd s1.2.2 s1.2.1).f_Links).length c26, .int .i64 ((rd s1.2.2 s1.2.1).f_Bits), .slice A14 ((rd s1.2.2 s1.2.1).f_Routers).length c27, .slice A15 ((rd s1.2.2 s1.2.1).f_Verts).length c28]) HF13 rfl rfl ti44 rfl (ones rfl) (Nat.le_of_ble_eq_true rfl) rfl) ?_
   rintro w12 HF14
   refine lE ?_
   refine kN (?_)
   refine hK23 _ _ ?_
   refine cSeq (fun K24 hK24 => ?_)
   refine cRgn [] trivial ?_
   refine sL (mv rfl) rfl ?_
   refine sL (ldA (cs := [.int .i64 ((rd s1.2.2 s1.2.1).f_Head.f_Age), .int .i64 ((rd s1.2.2 s1.2.1).f_Head.f_Kind), .int .i64 ((rd s1.2.2 s1.2.1).f_Head.f_Id), .int .i64 ((rd s1.2.2 s1.2.1).f_Head.f_Adv), .int .i64 ((rd s1.2.2 s1.2.1).f_Head.f_Seq), .int .i64 ((rd s1.2.2 s1.2.1).f_Head.f_Sum), .int .i64 ((rd s1.2.2 s1.2.1).f_Head.f_Len), .int .i64 ((rd s1.2.2 s1.2.1).f_Flags), .slice A13 ((rd s1.2.2 s1.2.1).f_Links).length c26, .int .i64 ((rd s1.2.2 s1.2.1).f_Bits), .slice A14 ((rd s1.2.2 s1.2.1).f_Routers).length c27, .slice A15 ((rd s1.2.2 s1.2.1).f_Verts).length c28]) rfl ti44 rfl rfl (HF14.boxes (o := 0) (n := 12) (mem_h) rfl)) rfl ?_
   replace H := bnd H; obtain ⟨t4, J4, H⟩ := H
   refine eCall isf22 rfl rfl rfl (f_topo_Map_1.ok (a0 := (rd s1.2.2 s1.2.1)) (sub_c (sub_a hG)) J4 HF14 (sub_c (sub_a hG)) hr13 (sub_c (sub_a hG)) hr14 (sub_c (sub_a hG)) hr15) ?_
   rintro _ w13 ⟨rfl, HF15⟩
   refine ⟨_, rfl, ?_⟩
   refine sL (uNot rfl) rfl ?_
   refine lE ?_
   refine kN (?_)
   refine hK24 _ _ ?_
   by_cases c29 : t4 = true
   ·replace H := itT c29 H
    refine cSet (i := 29) rfl (wF c29) ?_
    refine cF rfl ?_
    refine cSkip ?_
    refine jN (kN (?_))
    refine hK22 _ _ ?_
    refine cRgn [] trivial ?_
    refine sL (mv rfl) rfl ?_
    refine sL (bAdd rfl rfl) rfl ?_
    refine sL (asg rfl) rfl ?_
    refine lE ?_
    refine kN (?_)
    have HF16 := HF15.sublist (sl_dc (sl_a sR))
    exact ofEnv (fun a hE => ⟨_, (Option.some.inj H).symm, ⟨L4, hE.keep (Keep.cons rfl (Keep.cons rfl (Keep.cons rfl (Keep.cons rfl (Keep.cons rfl (Keep.nil)))))), HF16, ho4⟩⟩)
   replace H := itF c29 H
   refine cSet (i := 29) rfl (wT c29) ?_
   refine cT rfl ?_
   refine cSeq (fun K25 hK25 => ?_)
   refine cRgn [] trivial ?_
   refine sL (mv rfl) rfl ?_
   refine sL (mv rfl) rfl ?_
   refine sL (ldA (cs := [.int .i64 ((rd s1.2.2 s1.2.1).f_Head.f_Age), .int .i64 ((rd s1.2.2 s1.2.1).f_Head.f_Kind), .int .i64 ((rd s1.2.2 s1.2.1).f_Head.f_Id), .int .i64 ((rd s1.2.2 s1.2.1).f_Head.f_Adv), .int .i64 ((rd s1.2.2 s1.2.1).f_Head.f_Seq), .int .i64 ((rd s1.2.2 s1.2.1).f_Head.f_Sum), .int .i64 ((rd s1.2.2 s1.2.1).f_Head.f_Len), .int .i64 ((rd s1.2.2 s1.2.1).f_Flags), .slice A13 ((rd s1.2.2 s1.2.1).f_Links).length c26, .int .i64 ((rd s1.2.2 s1.2.1).f_Bits), .slice A14 ((rd s1.2.2 s1.2.1).f_Routers).length c27, .slice A15 ((rd s1.2.2 s1.2.1).f_Verts).length c28]) rfl ti44 rfl rfl (HF15.boxes (o := 0) (n := 12) (mem_h) rfl)) rfl ?_
   replace H := chk H; obtain ⟨c30, H⟩ := H
   replace H := chk H; obtain ⟨c31, H⟩ := H
   obtain ⟨e12, hk6, q6⟩ := RdS.at' ho4.rd c30 c31
   obtain ⟨A16, c32, A17, c33, A18, c34, rfl, hr16, hr17, hr18⟩ := rd_T_api_Lsa hk6
   refine sL (ia rfl rfl Try.underlying24 ti44 c30 c31) rfl ?_
   have HF17 := HF15.perm (perm_c pR)
   refine eS (oStE (K := (kShr G k_T_api_Lsa)) (c := c_a0) (off := 0) (y' := (rd s1.2.2 s1.2.1)) shrS HF17 ho4 c30 c31 rfl rfl ti44 rfl (ones rfl) (Nat.le_of_ble_eq_true rfl) (fun ci hci => shrAll hci rfl (mk_T_api_Lsa (x := (rd s1.2.2 s1.2.1)) (hr13) (hr14) (hr15)))) ?_
   rintro w14 ⟨L5, HF18, ho5⟩
   refine lSet (i := 0) (v := .slice (some ⟨g5, o3, none⟩) (setI s1.2.2 s1.1 (rd s1.2.2 s1.2.1)).length c_a0) rfl (by simp only [len_setI]) ?_
   refine lSet (i := 17) (v := .slice (some ⟨g5, o3, none⟩) (setI s1.2.2 s1.1 (rd s1.2.2 s1.2.1)).length c_a0) rfl (by simp only [len_setI]) ?_
   refine lSet (i := 22) (v := .slice (some ⟨g5, o3, none⟩) (setI s1.2.2 s1.1 (rd s1.2.2 s1.2.1)).length c_a0) rfl (by simp only [len_setI]) ?_
   refine lSet (i := 30) (v := .slice (some ⟨g5, o3, none⟩) (setI s1.2.2 s1.1 (rd s1.2.2 s1.2.1)).length c_a0) rfl (by simp only [len_setI]) ?_
   refine lE ?_
   refine kN (?_)
   refine hK25 _ _ ?_
   refine cRgn [] trivial ?_
   refine sL (mv rfl) rfl ?_
   refine sL (bAdd rfl rfl) rfl ?_
   refine sL (asg rfl) rfl ?_
   refine lE ?_
   refine jN (kN (?_))
   refine hK22 _ _ ?_
   refine cRgn [] trivial ?_
   refine sL (mv rfl) rfl ?_
   refine sL (bAdd rfl rfl) rfl ?_
   refine sL (asg rfl) rfl ?_
   refine lE ?_
   refine kN (?_)
   have HF19 := HF18.sublist (sl_a (sl_dc sR))
   exact ofEnv (fun a hE => ⟨_, (Option.some.inj H).symm, ⟨L5, hE.keep (Keep.cons rfl (Keep.cons rfl (Keep.cons rfl (Keep.cons rfl (Keep.cons rfl (Keep.nil)))))), HF19, ho5⟩⟩)
  replace H := itF c24 H
  refine cSet (i := 19) rfl (dF c24) ?_
  refine cF rfl ?_
  refine cExit ?_
  refine kX (kX (jX (kN (?_))))
  exact ofEnv (fun a hE => ⟨_, (Option.some.inj H).symm, ⟨L4, hE.keep (Keep.cons rfl (Keep.cons rfl (Keep.cons rfl (Keep.cons rfl (Keep.cons rfl (Keep.nil)))))), HF12, ho4⟩⟩)
 rintro s1 a w15 rfl ⟨L4, hE, HF20, ho4⟩
 replace H := Ho1
 refine go_k hE ?_
 refine kN (?_)
 refine hK6 _ _ ?_
 refine cSeq (fun K26 hK26 => ?_)
 refine cRgn [] trivial ?_
 refine sL (mv rfl) rfl ?_
 refine sL (mv rfl) rfl ?_
 replace H := chk H; obtain ⟨c35, H⟩ := H
 replace H := chk H; obtain ⟨c36, H⟩ := H
 refine sL (slcN (xs := s1.2.2) rfl Try.underlying24 ti44 rfl rfl (ho4.rd).1 c35 c36 (Int.le_refl _)) rfl ?_
 refine eW0 (oClear (K := (kShr G k_T_api_Lsa)) (lo := s1.1) shrS (⟨(⟨0, 0, 0, 0, 0, 0, 0⟩ : T_api_Head), 0, [], 0, [], []⟩ : T_api_Lsa) HF20 ho4 rfl Try.underlying24 ti44 ⟨rfl, mk_T_api_Lsa (x := (⟨(⟨0, 0, 0, 0, 0, 0, 0⟩ : T_api_Head), 0, [], 0, [], []⟩ : T_api_Lsa)) RdS.nil RdS.nil RdS.nil⟩ c35 c36) ?_
 rintro _ w16 ⟨L6, rfl, HF21, ho6⟩
 refine lSet (i := 0) (v := .slice A_a0 (clrL s1.2.2 s1.1 (⟨(⟨0, 0, 0, 0, 0, 0, 0⟩ : T_api_Head), 0, [], 0, [], []⟩ : T_api_Lsa)).length c_a0) rfl (by rw [len_clrL c36]) ?_
 refine lSet (i := 36) (v := .slice A_a0 (clrL s1.2.2 s1.1 (⟨(⟨0, 0, 0, 0, 0, 0, 0⟩ : T_api_Head), 0, [], 0, [], []⟩ : T_api_Lsa)).length c_a0) rfl (by rw [len_clrL c36]) ?_
 refine lE ?_
 refine kN (?_)
 refine hK26 _ _ ?_
 refine cSeq (fun K27 hK27 => ?_)
 refine cRgn [] trivial ?_
 refine sL (mv rfl) rfl ?_
 refine sL (mv rfl) rfl ?_
 replace H := chk H; obtain ⟨c37, H⟩ := H
 refine sL (slcN (xs := (clrL s1.2.2 s1.1 (⟨(⟨0, 0, 0, 0, 0, 0, 0⟩ : T_api_Head), 0, [], 0, [], []⟩ : T_api_Lsa))) rfl Try.underlying24 ti44 rfl rfl (ho6.rd).1 (by decide) c35 c37) rfl ?_
 refine sL (asg rfl) rfl ?_
 refine lE ?_
 refine kN (?_)
 refine hK27 _ _ ?_
 refine cRet ?_
 obtain ⟨L7, HF22, ho7⟩ := OwnS.cutV ho6 HF21 (by decide) c35 c37
 obtain rfl := Option.some.inj H
 refine ret1 rfl rfl ?_
 exact ⟨[], _, _, L7, rfl, HF22, ho7⟩
/-! ### plenum/topo.once$1 (function 46) -/
abbrev f_topo_once_1.R := Bool
noncomputable def f_topo_once_1 (a0 : T_api_Lsa) (a1 : T_api_Lsa) : Option f_topo_once_1.R := some (decide (a0.f_Head.f_Id = a1.f_Head.f_Id))
set_option maxHeartbeats 1000000 in
theorem f_topo_once_1.ok {z w : World} {F G : Hp} (hG : G ⊆ F) {a0 : T_api_Lsa} {A_a0_8 : Option Addr} {c_a0_8 : Nat} {X_a0_8 : Hp} {A_a0_10 : Option Addr} {c_a0_10 : Nat} {X_a0_10 : Hp} {A_a0_11 : Option Addr} {c_a0_11 : Nat} {X_a0_11 : Hp} {a1 : T_api_Lsa} {A_a1_8 : Option Addr} {c_a1_8 : Nat} {X_a1_8 : Hp} {A_a1_10 : Option Addr} {c_a1_10 : Nat} {X_a1_10 : Hp} {A_a1_11 : Option Addr} {c_a1_11 : Nat} {X_a1_11 : Hp} {r : f_topo_once_1.R} (H : f_topo_once_1 a0 a1 = some r) (HF : Fits z w F) (hX_a0_8 : X_a0_8 ⊆ F) (hr_a0_8 : RdS k_T_api_Link X_a0_8 A_a0_8 c_a0_8 a0.f_Links) (hX_a0_10 : X_a0_10 ⊆ F) (hr_a0_10 : RdS (kInt .i64) X_a0_10 A_a0_10 c_a0_10 a0.f_Routers) (hX_a0_11 : X_a0_11 ⊆ F) (hr_a0_11 : RdS k_T_api_Vert X_a0_11 A_a0_11 c_a0_11 a0.f_Verts) (hX_a1_8 : X_a1_8 ⊆ F) (hr_a1_8 : RdS k_T_api_Link X_a1_8 A_a1_8 c_a1_8 a1.f_Links) (hX_a1_10 : X_a1_10 ⊆ F) (hr_a1_10 : RdS (kInt .i64) X_a1_10 A_a1_10 c_a1_10 a1.f_Routers) (hX_a1_11 : X_a1_11 ⊆ F) (hr_a1_11 : RdS k_T_api_Vert X_a1_11 A_a1_11 c_a1_11 a1.f_Verts) :
  Calls Try.prog 46 [.agg [.int .i64 a0.f_Head.f_Age, .int .i64 a0.f_Head.f_Kind, .int .i64 a0.f_Head.f_Id, .int .i64 a0.f_Head.f_Adv, .int .i64 a0.f_Head.f_Seq, .int .i64 a0.f_Head.f_Sum, .int .i64 a0.f_Head.f_Len, .int .i64 a0.f_Flags, .slice A_a0_8 a0.f_Links.length c_a0_8, .int .i64 a0.f_Bits, .slice A_a0_10 a0.f_Routers.length c_a0_10, .slice A_a0_11 a0.f_Verts.length c_a0_11].toArray, .agg [.int .i64 a1.f_Head.f_Age, .int .i64 a1.f_Head.f_Kind, .int .i64 a1.f_Head.f_Id, .int .i64 a1.f_Head.f_Adv, .int .i64 a1.f_Head.f_Seq, .int .i64 a1.f_Head.f_Sum, .int .i64 a1.f_Head.f_Len, .int .i64 a1.f_Flags, .slice A_a1_8 a1.f_Links.length c_a1_8, .int .i64 a1.f_Bits, .slice A_a1_10 a1.f_Routers.length c_a1_10, .slice A_a1_11 a1.f_Verts.length c_a1_11].toArray].toArray w fun e w' => e = .returned (.bool r) ∧ Fits z w' F := by
 unfold f_topo_once_1 at H
 refine enter0 Try.func46 rfl Try.ntmps46 rfl (E := [(0, .agg [.int .i64 a0.f_Head.f_Age, .int .i64 a0.f_Head.f_Kind, .int .i64 a0.f_Head.f_Id, .int .i64 a0.f_Head.f_Adv, .int .i64 a0.f_Head.f_Seq, .int .i64 a0.f_Head.f_Sum, .int .i64 a0.f_Head.f_Len, .int .i64 a0.f_Flags, .slice A_a0_8 a0.f_Links.length c_a0_8, .int .i64 a0.f_Bits, .slice A_a0_10 a0.f_Routers.length c_a0_10, .slice A_a0_11 a0.f_Verts.length c_a0_11].toArray), (1, .agg [.int .i64 a1.f_Head.f_Age, .int .i64 a1.f_Head.f_Kind, .int .i64 a1.f_Head.f_Id, .int .i64 a1.f_Head.f_Adv, .int .i64 a1.f_Head.f_Seq, .int .i64 a1.f_Head.f_Sum, .int .i64 a1.f_Head.f_Len, .int .i64 a1.f_Flags, .slice A_a1_8 a1.f_Links.length c_a1_8, .int .i64 a1.f_Bits, .slice A_a1_10 a1.f_Routers.length c_a1_10, .slice A_a1_11 a1.f_Verts.length c_a1_11].toArray)]) rfl ?_
 refine cSeq (fun K1 hK1 => ?_)
 refine cRgn [] trivial ?_
 refine eW (oBox HF rfl) rfl ?_
 rintro _ w1 ⟨g1, rfl, HF1⟩
 refine eW (oBox HF1 rfl) rfl ?_
 rintro _ w2 ⟨g2, rfl, HF2⟩
 refine sL (asg rfl) rfl ?_
 refine lE ?_
 refine kN (?_)
 refine hK1 _ _ ?_
 refine cSeq (fun K2 hK2 => ?_)
 refine cRgn [] trivial ?_
 refine sL (fa44_0 rfl) rfl ?_
 refine sL (fa41_2 rfl) rfl ?_
 refine sL (ld rfl Try.underlying3 rfl (HF2.box (mem_c mem_h) rfl)) rfl ?_
 refine sL (fa44_0 rfl) rfl ?_
 refine sL (fa41_2 rfl) rfl ?_
 refine sL (ld rfl Try.underlying3 rfl (HF2.box (mem_h) rfl)) rfl ?_
 refine sL (bEql rfl rfl) rfl ?_
 refine sL (asg rfl) rfl ?_
 refine lE ?_
 refine kN (?_)
 refine hK2 _ _ ?_
 refine cRet ?_
 obtain rfl := Option.some.inj H
 refine ret1 rfl rfl ?_
 have HF3 := HF2.sublist (sl_dc (sl_dc sR))
 exact ⟨rfl, HF3⟩
/-! ### slices.CompactFunc[[]plenum/api.Lsa,plenum/api.Lsa] (function 45) -/
abbrev f_slices_CompactFunc_api_Lsa_api_Lsa_fn46.R := List T_api_Lsa
noncomputable def f_slices_CompactFunc_api_Lsa_api_Lsa_fn46.b0 (s3 : Int) (s4 : Int × Int × (List T_api_Lsa)) : Option (Sum (Int × Int × (List T_api_Lsa)) (Sum (Int × Int × (List T_api_Lsa)) f_slices_CompactFunc_api_Lsa_api_Lsa_fn46.R)) := (if s4.2.1 < ((cutL s4.2.2 s3 (s4.2.2.length : Int)).length : Int) then (if 0 ≤ s3 then (if s3 ≤ (s4.2.2.length : Int) then (if 0 ≤ s4.2.1 then (if 0 ≤ (IntKind.i64.wrap (s4.2.1 - 1)) then (if (IntKind.i64.wrap (s4.2.1 - 1)) < ((cutL s4.2.2 s3 (s4.2.2.length : Int)).length : Int) then ((f_topo_once_1 (rd (cutL s4.2.2 s3 (s4.2.2.length : Int)) s4.2.1) (rd (cutL s4.2.2 s3 (s4.2.2.length : Int)) (IntKind.i64.wrap (s4.2.1 - 1)))).bind fun t24 => (if t24 = true then some (.inl (s4.1, IntKind.i64.wrap (s4.2.1 + 1), s4.2.2)) else (if 0 ≤ s4.1 then (if s4.1 < (s4.2.2.length : Int) then some (.inl (IntKind.i64.wrap (s4.1 + 1), IntKind.i64.wrap (s4.2.1 + 1), setI s4.2.2 s4.1 (rd (cutL s4.2.2 s3 (s4.2.2.length : Int)) s4.2.1))) else none) else none))) else none) else none) else none) else none) else none) else some (.inr (.inl (s4.1, s4.2.1, s4.2.2))))
noncomputable def f_slices_CompactFunc_api_Lsa_api_Lsa_fn46.b1 (a0 : List T_api_Lsa) (s3 : Int) : Option (Sum (Int) (Sum (Int) f_slices_CompactFunc_api_Lsa_api_Lsa_fn46.R)) := (if s3 < (a0.length : Int) then (if 0 ≤ s3 then (if 0 ≤ (IntKind.i64.wrap (s3 - 1)) then (if (IntKind.i64.wrap (s3 - 1)) < (a0.length : Int) then ((f_topo_once_1 (rd a0 s3) (rd a0 (IntKind.i64.wrap (s3 - 1)))).bind fun t18 => (if t18 = true then (if s3 ≤ (a0.length : Int) then ((loopO (f_slices_CompactFunc_api_Lsa_api_Lsa_fn46.b0 s3) (s3, 1, a0)).bind fun y7 => match y7 with | .inl s4 => (if 0 ≤ s4.1 then (if s4.1 ≤ (s4.2.2.length : Int) then (if s4.1 ≤ ((clrL s4.2.2 s4.1 (⟨(⟨0, 0, 0, 0, 0, 0, 0⟩ : T_api_Head), 0, [], 0, [], []⟩ : T_api_Lsa)).length : Int) then some (.inr (.inr (cutL (clrL s4.2.2 s4.1 (⟨(⟨0, 0, 0, 0, 0, 0, 0⟩ : T_api_Head), 0, [], 0, [], []⟩ : T_api_Lsa)) (0 : Int) s4.1))) else none) else none) else none) | .inr r_ => some (.inr (.inr r_))) else none) else some (.inl (IntKind.i64.wrap (s3 + 1))))) else none) else none) else none) else some (.inr (.inl s3)))
noncomputable def f_slices_CompactFunc_api_Lsa_api_Lsa_fn46 (a0 : List T_api_Lsa) : Option f_slices_CompactFunc_api_Lsa_api_Lsa_fn46.R := (if (a0.length : Int) < 2 then some a0 else ((loopO (f_slices_CompactFunc_api_Lsa_api_Lsa_fn46.b1 a0) 1).bind fun y5 => match y5 with | .inl s3 => some a0 | .inr r_ => some r_))
set_option maxHeartbeats 1000000 in
theorem f_slices_CompactFunc_api_Lsa_api_Lsa_fn46.ok {z w : World} {F G : Hp} (hG : G ⊆ F) {a0 : List T_api_Lsa} {A_a0 : Option Addr} {c_a0 : Nat} {L_a0 : Hp} {r : f_slices_CompactFunc_api_Lsa_api_Lsa_fn46.R} (H : f_slices_CompactFunc_api_Lsa_api_Lsa_fn46 a0 = some r) (HF : Fits z w (L_a0 ++ F)) (ho_a0 : OwnS (kShr G k_T_api_Lsa) L_a0 A_a0 c_a0 a0) :
  Calls Try.prog 45 [.slice A_a0 a0.length c_a0, .func (.func 46) [].toArray [].toArray].toArray w fun e w' => ∃ (N : Hp) (A0 : Option Addr) (c0 : Nat) (L0 : Hp), e = .returned (.slice A0 r.length c0) ∧ Fits z w' (L0 ++ (N ++ F)) ∧ OwnS (kShr (N ++ G) k_T_api_Lsa) L0 A0 c0 r := by
 unfold f_slices_CompactFunc_api_Lsa_api_Lsa_fn46 at H
 refine enter0 Try.func45 rfl Try.ntmps45 rfl (E := [(0, .slice A_a0 a0.length c_a0), (1, .func (.func 46) [].toArray [].toArray)]) rfl ?_
 refine cSeq (fun K1 hK1 => ?_)
 refine cRgn [] trivial ?_
 refine sL (asg rfl) rfl ?_
 refine lE ?_
 refine kN (?_)
 refine hK1 _ _ ?_
 refine cSeq (fun K2 hK2 => ?_)
 refine cSeq (fun K3 hK3 => ?_)
 refine cRgn [] trivial ?_
 refine sL (mv rfl) rfl ?_
 refine sL (lnS rfl Try.underlying24) rfl ?_
 refine sL (bLss rfl rfl) rfl ?_
 refine lE ?_
 refine kN (?_)
 refine hK3 _ _ ?_
 by_cases c1 : (a0.length : Int) < 2
 ·replace H := itT c1 H
  refine cSet (i := 10) rfl (dT c1) ?_
  refine cT rfl ?_
  refine cSeq (fun K4 hK4 => ?_)
  refine cRgn [] trivial ?_
  refine sL (mv rfl) rfl ?_
  refine sL (asg rfl) rfl ?_
  refine lE ?_
  refine kN (?_)
  refine hK4 _ _ ?_
  refine cRet ?_
  obtain rfl := Option.some.inj H
  refine kR (?_)
  refine ret1 rfl rfl ?_
  exact ⟨[], _, _, L_a0, rfl, HF, ho_a0⟩
 replace H := itF c1 H
 refine cSet (i := 10) rfl (dF c1) ?_
 refine cF rfl ?_
 refine cSkip ?_
 refine kN (?_)
 refine hK2 _ _ ?_
 refine cSeq (fun K5 hK5 => ?_)
 refine cSeq (fun K6 hK6 => ?_)
 refine cRgn [] trivial ?_
 refine sL (asg rfl) rfl ?_
 refine lE ?_
 refine kN (?_)
 refine hK6 _ _ ?_
 replace H := bnd H; obtain ⟨y5, J28, Ho3⟩ := H
 refine cLoopB (f_slices_CompactFunc_api_Lsa_api_Lsa_fn46.b1 a0) (fun (s3 : Int) a w => Env 66 [(0, .slice A_a0 a0.length c_a0), (1, .func (.func 46) [].toArray [].toArray), (4, .slice none 0 0), (5, .int .i64 s3)] a ∧ Fits z w (L_a0 ++ F)) J28 (fun a hE => ⟨hE.keep (Keep.cons rfl (Keep.cons rfl (Keep.cons rfl (Keep.cons rfl (Keep.nil))))), HF⟩) ?_ ?_
 ·rintro s3 a w37 y6 ⟨hE, HF39⟩ H Hx3
  refine go_ hE ?_
  refine cSeq (fun K55 hK55 => ?_)
  refine cSeq (fun K56 hK56 => ?_)
  refine cRgn [] trivial ?_
  refine sL (mv rfl) rfl ?_
  refine sL (mv rfl) rfl ?_
  refine sL (lnS rfl Try.underlying24) rfl ?_
  refine sL (bLss rfl rfl) rfl ?_
  refine lE ?_
  refine kN (?_)
  refine hK56 _ _ ?_
  by_cases c228 : s3 < (a0.length : Int)
  ·replace H := itT c228 H
   refine cSet (i := 15) rfl (dT c228) ?_
   refine cT rfl ?_
   refine cSkip ?_
   refine kN (?_)
   refine hK55 _ _ ?_
   refine cSeq (fun K57 hK57 => ?_)
   refine cBlock ?_
   refine cSeq (fun K58 hK58 => ?_)
   refine cDraw mo_ HF39 rfl (fun w => Fits z w (L_a0 ++ F)) (fun w39 HF41 => ?_)
   refine hT 0 rfl (by kernel_rfl) (fun w_ hS_ => mv rfl) HF41 rfl rfl ?_
   refine hT 1 rfl (by kernel_rfl) (fun w_ hS_ => mv rfl) HF41 rfl rfl ?_
   refine hT 2 rfl (by kernel_rfl) (fun w_ hS_ => mv rfl) HF41 rfl rfl ?_
   replace H := chk H; obtain ⟨c238, H⟩ := H
   obtain ⟨g36, o36, e94, rfl, hk47, q47⟩ := RdS.at_ ho_a0.rd c238 c228
   obtain ⟨A139, c239, A140, c240, A141, c241, rfl, hr139, hr140, hr141⟩ := rd_T_api_Lsa hk47
   refine hT 3 rfl (by kernel_rfl) (fun w_ hS_ => ia rfl rfl Try.underlying24 ti44 c238 c228) HF41 rfl rfl ?_
   refine hT 4 rfl (by kernel_rfl) (fun w_ hS_ => ldA rfl ti44 rfl rfl (fun j v hj => hS_.cells (sub_h) (q47 j v hj))) HF41 rfl rfl ?_
   refine hT 5 rfl (by kernel_rfl) (fun w_ hS_ => mv rfl) HF41 rfl rfl ?_
   refine hT 6 rfl (by kernel_rfl) (fun w_ hS_ => mv rfl) HF41 rfl rfl ?_
   refine hT 7 rfl (by kernel_rfl) (fun w_ hS_ => bSub rfl rfl) HF41 rfl rfl ?_
   replace H := chk H; obtain ⟨c242, H⟩ := H
   replace H := chk H; obtain ⟨c243, H⟩ := H
   obtain ⟨e96, hk48, q48⟩ := RdS.at' ho_a0.rd c242 c243
   obtain ⟨A142, c244, A143, c245, A144, c246, rfl, hr142, hr143, hr144⟩ := rd_T_api_Lsa hk48
   refine hT 8 rfl (by kernel_rfl) (fun w_ hS_ => ia rfl rfl Try.underlying24 ti44 c242 c243) HF41 rfl rfl ?_
   refine hT 9 rfl (by kernel_rfl) (fun w_ hS_ => ldA rfl ti44 rfl rfl (fun j v hj => hS_.cells (sub_h) (q48 j v hj))) HF41 rfl rfl ?_
   refine h1 10 (by kernel_rfl) rfl ?_
   replace H := bnd H; obtain ⟨t18, J20, H⟩ := H
   refine qCall rfl gd0 isf46 rfl rfl rfl (f_topo_once_1.ok (a0 := (rd a0 s3)) (a1 := (rd a0 (IntKind.i64.wrap (s3 - 1)))) (sub_a hG) J20 HF41 (sub_a hG) hr139 (sub_a hG) hr140 (sub_a hG) hr141 (sub_a hG) hr142 (sub_a hG) hr143 (sub_a hG) hr144) ?_
   rintro _ w40 ⟨rfl, HF42⟩
   refine ⟨_, rfl, HF42, ?_⟩
   refine hEnd (by kernel_rfl) ?_
   refine kN (?_)
   refine hK58 _ _ ?_
   by_cases c247 : t18 = true
   ·replace H := itT c247 H
    refine cSet (i := 28) rfl (vT c247) ?_
    refine cT rfl ?_
    refine cSeq (fun K59 hK59 => ?_)
    refine cRgn [] trivial ?_
    refine sL (mv rfl) rfl ?_
    refine sL (mv rfl) rfl ?_
    replace H := chk H; obtain ⟨c248, H⟩ := H
    refine sL (slcN (xs := a0) rfl Try.underlying24 ti44 rfl rfl (ho_a0.rd).1 c238 c248 (Int.le_refl _)) rfl ?_
    refine sL (asg rfl) rfl ?_
    refine lE ?_
    refine kN (?_)
    refine hK59 _ _ ?_
    refine cSeq (fun K60 hK60 => ?_)
    refine cSeq (fun K61 hK61 => ?_)
    refine cRgn [] trivial ?_
    refine sL (asg rfl) rfl ?_
    refine lE ?_
    refine kN (?_)
    refine hK61 _ _ ?_
    replace H := bnd H; obtain ⟨y7, J27, Ho4⟩ := H
    refine cLoopB (f_slices_CompactFunc_api_Lsa_api_Lsa_fn46.b0 s3) (fun (s4 : Int × Int × (List T_api_Lsa)) a w => ∃ (L18 : Hp), Env 66 [(0, .slice (some ⟨g36, o36, none⟩) s4.2.2.length c_a0), (1, .func (.func 46) [].toArray [].toArray), (4, .slice none 0 0), (5, .int .i64 s4.1), (6, .slice (cutA (some ⟨g36, o36, none⟩) (c_a0 - s3.toNat) (s3.toNat * 12)) (cutL s4.2.2 s3 (s4.2.2.length : Int)).length (c_a0 - s3.toNat)), (7, .int .i64 s4.2.1)] a ∧ Fits z w (L18 ++ F) ∧ OwnS (kShr G k_T_api_Lsa) L18 (some ⟨g36, o36, none⟩) c_a0 s4.2.2) J27 (fun a hE => ⟨L_a0, hE.keep (Keep.cons rfl (Keep.cons rfl (Keep.cons rfl (Keep.cons rfl (Keep.cons rfl (Keep.cons rfl (Keep.nil))))))), HF42, ho_a0⟩) ?_ ?_
    ·rintro s4 a w49 y8 ⟨L18, hE, HF51, ho18⟩ H Hx4
     refine go_ hE ?_
     refine cSeq (fun K72 hK72 => ?_)
     refine cSeq (fun K73 hK73 => ?_)
     refine cRgn [] trivial ?_
     refine sL (mv rfl) rfl ?_
     refine sL (mv rfl) rfl ?_
     refine sL (lnS rfl Try.underlying24) rfl ?_
     refine sL (bLss rfl rfl) rfl ?_
     refine lE ?_
     refine kN (?_)
     refine hK73 _ _ ?_
     by_cases c310 : s4.2.1 < ((cutL s4.2.2 s3 (s4.2.2.length : Int)).length : Int)
     ·replace H := itT c310 H
      refine cSet (i := 35) rfl (dT c310) ?_
      refine cT rfl ?_
      refine cSkip ?_
      refine kN (?_)
      refine hK72 _ _ ?_
      refine cSeq (fun K74 hK74 => ?_)
      refine cBlock ?_
      refine cSeq (fun K75 hK75 => ?_)
      refine cDraw mo_ HF51 rfl (fun w => Fits z w (L18 ++ F)) (fun w51 HF53 => ?_)
      refine hT 0 rfl (by kernel_rfl) (fun w_ hS_ => mv rfl) HF53 rfl rfl ?_
      refine hT 1 rfl (by kernel_rfl) (fun w_ hS_ => mv rfl) HF53 rfl rfl ?_
      refine hT 2 rfl (by kernel_rfl) (fun w_ hS_ => mv rfl) HF53 rfl rfl ?_
      replace H := chk H; obtain ⟨c322, H⟩ := H
      replace H := chk H; obtain ⟨c323, H⟩ := H
      replace H := chk H; obtain ⟨c324, H⟩ := H
      obtain ⟨g49, o49, e126, hA43, hk63, q63⟩ := RdS.at_ (RdS.cutN ho18.rd c322 c323 (Int.le_refl _)) c324 c310
      obtain ⟨A187, c325, A188, c326, A189, c327, rfl, hr187, hr188, hr189⟩ := rd_T_api_Lsa hk63
      refine hT 3 rfl (by kernel_rfl) (fun w_ hS_ => iaV hA43 rfl rfl Try.underlying24 ti44 c324 c310) HF53 rfl rfl ?_
      refine hT 4 rfl (by kernel_rfl) (fun w_ hS_ => ldA rfl ti44 rfl rfl (fun j v hj => hS_.cells (sub_h) (q63 j v hj))) HF53 rfl rfl ?_
      refine hT 5 rfl (by kernel_rfl) (fun w_ hS_ => mv rfl) HF53 rfl rfl ?_
      refine hT 6 rfl (by kernel_rfl) (fun w_ hS_ => mv rfl) HF53 rfl rfl ?_
      refine hT 7 rfl (by kernel_rfl) (fun w_ hS_ => bSub rfl rfl) HF53 rfl rfl ?_
      replace H := chk H; obtain ⟨c328, H⟩ := H
      replace H := chk H; obtain ⟨c329, H⟩ := H
      obtain ⟨g50, o50, e128, hA44, hk64, q64⟩ := RdS.at_ (RdS.cutN ho18.rd c322 c323 (Int.le_refl _)) c328 c329
      obtain ⟨A190, c330, A191, c331, A192, c332, rfl, hr190, hr191, hr192⟩ := rd_T_api_Lsa hk64
      refine hT 8 rfl (by kernel_rfl) (fun w_ hS_ => iaV hA44 rfl rfl Try.underlying24 ti44 c328 c329) HF53 rfl rfl ?_
      refine hT 9 rfl (by kernel_rfl) (fun w_ hS_ => ldA rfl ti44 rfl rfl (fun j v hj => hS_.cells (sub_h) (q64 j v hj))) HF53 rfl rfl ?_
      refine h1 10 (by kernel_rfl) rfl ?_
      replace H := bnd H; obtain ⟨t24, J26, H⟩ := H
      refine qCall rfl gd0 isf46 rfl rfl rfl (f_topo_once_1.ok (a0 := (rd (cutL s4.2.2 s3 (s4.2.2.length : Int)) s4.2.1)) (a1 := (rd (cutL s4.2.2 s3 (s4.2.2.length : Int)) (IntKind.i64.wrap (s4.2.1 - 1)))) (sub_a hG) J26 HF53 (sub_a hG) hr187 (sub_a hG) hr188 (sub_a hG) hr189 (sub_a hG) hr190 (sub_a hG) hr191 (sub_a hG) hr192) ?_
      rintro _ w52 ⟨rfl, HF54⟩
      refine ⟨_, rfl, HF54, ?_⟩
      refine hT 11 rfl (by kernel_rfl) (fun w_ hS_ => uNot rfl) HF54 rfl rfl ?_
      refine hEnd (by kernel_rfl) ?_
      refine kN (?_)
      refine hK75 _ _ ?_
      by_cases c333 : t24 = true
      ·replace H := itT c333 H
       refine cSet (i := 49) rfl (wF c333) ?_
       refine cF rfl ?_
       refine cSkip ?_
       refine jN (kN (?_))
       refine hK74 _ _ ?_
       refine cRgn [] trivial ?_
       refine sL (mv rfl) rfl ?_
       refine sL (bAdd rfl rfl) rfl ?_
       refine sL (asg rfl) rfl ?_
       refine lE ?_
       refine kN (?_)
       exact ofEnv (fun a hE => ⟨_, (Option.some.inj H).symm, ⟨L18, hE.keep (Keep.cons rfl (Keep.cons rfl (Keep.cons rfl (Keep.cons rfl (Keep.cons rfl (Keep.cons rfl (Keep.nil))))))), HF54, ho18⟩⟩)
      replace H := itF c333 H
      refine cSet (i := 49) rfl (wT c333) ?_
      refine cT rfl ?_
      refine cSeq (fun K76 hK76 => ?_)
      refine cRgn [] trivial ?_
      refine sL (mv rfl) rfl ?_
      refine sL (mv rfl) rfl ?_
      refine sL (mv rfl) rfl ?_
      refine sL (mv rfl) rfl ?_
      obtain ⟨g51, o51, e130, hA45, hk65, q65⟩ := RdS.at_ (RdS.cutN ho18.rd c322 c323 (Int.le_refl _)) c324 c310
      obtain ⟨A193, c334, A194, c335, A195, c336, rfl, hr193, hr194, hr195⟩ := rd_T_api_Lsa hk65
      refine sL (iaV hA45 rfl rfl Try.underlying24 ti44 c324 c310) rfl ?_
      refine sL (ldA rfl ti44 rfl rfl (fun j v hj => HF54.cells (sub_h) (q65 j v hj))) rfl ?_
      replace H := chk H; obtain ⟨c337, H⟩ := H
      replace H := chk H; obtain ⟨c338, H⟩ := H
      obtain ⟨e132, hk66, q66⟩ := RdS.at' ho18.rd c337 c338
      obtain ⟨A196, c339, A197, c340, A198, c341, rfl, hr196, hr197, hr198⟩ := rd_T_api_Lsa hk66
      refine sL (ia rfl rfl Try.underlying24 ti44 c337 c338) rfl ?_
      refine eS (oStE (K := (kShr G k_T_api_Lsa)) (c := c_a0) (off := 0) (y' := (rd (cutL s4.2.2 s3 (s4.2.2.length : Int)) s4.2.1)) shrS HF54 ho18 c337 c338 rfl rfl ti44 rfl (ones rfl) (Nat.le_of_ble_eq_true rfl) (fun ci hci => shrAll hci rfl (mk_T_api_Lsa (x := (rd (cutL s4.2.2 s3 (s4.2.2.length : Int)) s4.2.1)) (hr193) (hr194) (hr195)))) ?_
      rintro w53 ⟨L19, HF55, ho19⟩
      refine lSet (i := 0) (v := .slice (some ⟨g36, o36, none⟩) (setI s4.2.2 s4.1 (rd (cutL s4.2.2 s3 (s4.2.2.length : Int)) s4.2.1)).length c_a0) rfl (by simp only [len_setI]) ?_
      refine lSet (i := 6) (v := .slice (cutA (some ⟨g36, o36, none⟩) (c_a0 - s3.toNat) (s3.toNat * 12)) (cutL (setI s4.2.2 s4.1 (rd (cutL s4.2.2 s3 (s4.2.2.length : Int)) s4.2.1)) s3 ((setI s4.2.2 s4.1 (rd (cutL s4.2.2 s3 (s4.2.2.length : Int)) s4.2.1)).length : Int)).length (c_a0 - s3.toNat)) rfl (by simp only [len_cutSet, len_setI]) ?_
      refine lSet (i := 33) (v := .slice (cutA (some ⟨g36, o36, none⟩) (c_a0 - s3.toNat) (s3.toNat * 12)) (cutL (setI s4.2.2 s4.1 (rd (cutL s4.2.2 s3 (s4.2.2.length : Int)) s4.2.1)) s3 ((setI s4.2.2 s4.1 (rd (cutL s4.2.2 s3 (s4.2.2.length : Int)) s4.2.1)).length : Int)).length (c_a0 - s3.toNat)) rfl (by simp only [len_cutSet, len_setI]) ?_
      refine lSet (i := 39) (v := .slice (cutA (some ⟨g36, o36, none⟩) (c_a0 - s3.toNat) (s3.toNat * 12)) (cutL (setI s4.2.2 s4.1 (rd (cutL s4.2.2 s3 (s4.2.2.length : Int)) s4.2.1)) s3 ((setI s4.2.2 s4.1 (rd (cutL s4.2.2 s3 (s4.2.2.length : Int)) s4.2.1)).length : Int)).length (c_a0 - s3.toNat)) rfl (by simp only [len_cutSet, len_setI]) ?_
      refine lSet (i := 43) (v := .slice (cutA (some ⟨g36, o36, none⟩) (c_a0 - s3.toNat) (s3.toNat * 12)) (cutL (setI s4.2.2 s4.1 (rd (cutL s4.2.2 s3 (s4.2.2.length : Int)) s4.2.1)) s3 ((setI s4.2.2 s4.1 (rd (cutL s4.2.2 s3 (s4.2.2.length : Int)) s4.2.1)).length : Int)).length (c_a0 - s3.toNat)) rfl (by simp only [len_cutSet, len_setI]) ?_
      refine lSet (i := 50) (v := .slice (some ⟨g36, o36, none⟩) (setI s4.2.2 s4.1 (rd (cutL s4.2.2 s3 (s4.2.2.length : Int)) s4.2.1)).length c_a0) rfl (by simp only [len_setI]) ?_
      refine lSet (i := 52) (v := .slice (cutA (some ⟨g36, o36, none⟩) (c_a0 - s3.toNat) (s3.toNat * 12)) (cutL (setI s4.2.2 s4.1 (rd (cutL s4.2.2 s3 (s4.2.2.length : Int)) s4.2.1)) s3 ((setI s4.2.2 s4.1 (rd (cutL s4.2.2 s3 (s4.2.2.length : Int)) s4.2.1)).length : Int)).length (c_a0 - s3.toNat)) rfl (by simp only [len_cutSet, len_setI]) ?_
      refine lE ?_
      refine kN (?_)
      refine hK76 _ _ ?_
      refine cRgn [] trivial ?_
      refine sL (mv rfl) rfl ?_
      refine sL (bAdd rfl rfl) rfl ?_
      refine sL (asg rfl) rfl ?_
      refine lE ?_
      refine jN (kN (?_))
      refine hK74 _ _ ?_
      refine cRgn [] trivial ?_
      refine sL (mv rfl) rfl ?_
      refine sL (bAdd rfl rfl) rfl ?_
      refine sL (asg rfl) rfl ?_
      refine lE ?_
      refine kN (?_)
      exact ofEnv (fun a hE => ⟨_, (Option.some.inj H).symm, ⟨L19, hE.keep (Keep.cons rfl (Keep.cons rfl (Keep.cons rfl (Keep.cons rfl (Keep.cons rfl (Keep.cons rfl (Keep.nil))))))), HF55, ho19⟩⟩)
     replace H := itF c310 H
     refine cSet (i := 35) rfl (dF c310) ?_
     refine cF rfl ?_
     refine cExit ?_
     refine kX (kX (jX (kN (?_))))
     exact ofEnv (fun a hE => ⟨_, (Option.some.inj H).symm, ⟨L18, hE.keep (Keep.cons rfl (Keep.cons rfl (Keep.cons rfl (Keep.cons rfl (Keep.cons rfl (Keep.cons rfl (Keep.nil))))))), HF51, ho18⟩⟩)
    rintro s4 a w54 rfl ⟨L18, hE, HF56, ho18⟩
    replace H := Ho4
    refine go_k hE ?_
    refine kN (?_)
    refine hK60 _ _ ?_
    refine cSeq (fun K77 hK77 => ?_)
    refine cRgn [] trivial ?_
    refine sL (mv rfl) rfl ?_
    refine sL (mv rfl) rfl ?_
    replace H := chk H; obtain ⟨c342, H⟩ := H
    replace H := chk H; obtain ⟨c343, H⟩ := H
    refine sL (slcN (xs := s4.2.2) rfl Try.underlying24 ti44 rfl rfl (ho18.rd).1 c342 c343 (Int.le_refl _)) rfl ?_
    refine eW0 (oClear (K := (kShr G k_T_api_Lsa)) (lo := s4.1) shrS (⟨(⟨0, 0, 0, 0, 0, 0, 0⟩ : T_api_Head), 0, [], 0, [], []⟩ : T_api_Lsa) HF56 ho18 rfl Try.underlying24 ti44 ⟨rfl, mk_T_api_Lsa (x := (⟨(⟨0, 0, 0, 0, 0, 0, 0⟩ : T_api_Head), 0, [], 0, [], []⟩ : T_api_Lsa)) RdS.nil RdS.nil RdS.nil⟩ c342 c343) ?_
    rintro _ w55 ⟨L20, rfl, HF57, ho20⟩
    refine lSet (i := 0) (v := .slice (some ⟨g36, o36, none⟩) (clrL s4.2.2 s4.1 (⟨(⟨0, 0, 0, 0, 0, 0, 0⟩ : T_api_Head), 0, [], 0, [], []⟩ : T_api_Lsa)).length c_a0) rfl (by rw [len_clrL c343]) ?_
    refine lSet (i := 59) (v := .slice (some ⟨g36, o36, none⟩) (clrL s4.2.2 s4.1 (⟨(⟨0, 0, 0, 0, 0, 0, 0⟩ : T_api_Head), 0, [], 0, [], []⟩ : T_api_Lsa)).length c_a0) rfl (by rw [len_clrL c343]) ?_
    refine lE ?_
    refine kN (?_)
    refine hK77 _ _ ?_
    refine cSeq (fun K78 hK78 => ?_)
    refine cRgn [] trivial ?_
    refine sL (mv rfl) rfl ?_
    refine sL (mv rfl) rfl ?_
    replace H := chk H; obtain ⟨c344, H⟩ := H
    refine sL (slcN (xs := (clrL s4.2.2 s4.1 (⟨(⟨0, 0, 0, 0, 0, 0, 0⟩ : T_api_Head), 0, [], 0, [], []⟩ : T_api_Lsa))) rfl Try.underlying24 ti44 rfl rfl (ho20.rd).1 (by decide) c342 c344) rfl ?_
    refine sL (asg rfl) rfl ?_
    refine lE ?_
    refine kN (?_)
    refine hK78 _ _ ?_
    refine cRet ?_
    obtain ⟨L21, HF58, ho21⟩ := OwnS.cutV ho20 HF57 (by decide) c342 c344
    have e_ := Hx3 _ (Option.some.inj H).symm
    subst e_
    replace H := Ho3
    obtain rfl := Option.some.inj H
    refine jR (kR (kR (jR (kR (kR (?_))))))
    refine ret1 rfl rfl ?_
    exact ⟨[], _, _, L21, rfl, HF58, ho21⟩
   replace H := itF c247 H
   refine cSet (i := 28) rfl (vF c247) ?_
   refine cF rfl ?_
   refine cSkip ?_
   refine jN (kN (?_))
   refine hK57 _ _ ?_
   refine cRgn [] trivial ?_
   refine sL (mv rfl) rfl ?_
   refine sL (bAdd rfl rfl) rfl ?_
   refine sL (asg rfl) rfl ?_
   refine lE ?_
   refine kN (?_)
   exact ofEnv (fun a hE => ⟨_, (Option.some.inj H).symm, ⟨hE.keep (Keep.cons rfl (Keep.cons rfl (Keep.cons rfl (Keep.cons rfl (Keep.nil))))), HF42⟩⟩)
  replace H := itF c228 H
  refine cSet (i := 15) rfl (dF c228) ?_
  refine cF rfl ?_
  refine cExit ?_
  refine kX (kX (jX (kN (?_))))
  exact ofEnv (fun a hE => ⟨_, (Option.some.inj H).symm, ⟨hE.keep (Keep.cons rfl (Keep.cons rfl (Keep.cons rfl (Keep.cons rfl (Keep.nil))))), HF39⟩⟩)
 rintro s3 a w56 rfl ⟨hE, HF59⟩
 replace H := Ho3
 refine go_k hE ?_
 refine kN (?_)
 refine hK5 _ _ ?_
 refine cSeq (fun K79 hK79 => ?_)
 refine cRgn [] trivial ?_
 refine sL (mv rfl) rfl ?_
 refine sL (asg rfl) rfl ?_
 refine lE ?_
 refine kN (?_)
 refine hK79 _ _ ?_
 refine cRet ?_
 obtain rfl := Option.some.inj H
 refine ret1 rfl rfl ?_
 exact ⟨[], _, _, L_a0, rfl, HF59, ho_a0⟩
/-! ### plenum/topo.once (function 19) -/
abbrev f_topo_once.R := (List T_api_Lsa) × (List (Int × T_api_Lsa))
noncomputable def f_topo_once.b0 (t1 : List T_api_Lsa) (s1 : Int × (List (Int × T_api_Lsa))) : Option (Sum (Int × (List (Int × T_api_Lsa))) (Sum (Int × (List (Int × T_api_Lsa))) f_topo_once.R)) := (if s1.1 < (t1.length : Int) then (if 0 ≤ s1.1 then some (.inl (IntKind.i64.wrap (s1.1 + 1), (mPut s1.2 ((rd t1 s1.1).f_Head.f_Id) (rd t1 s1.1)))) else none) else some (.inr (.inl (s1.1, s1.2))))
noncomputable def f_topo_once (a0 : List T_api_Lsa) : Option f_topo_once.R := ((f_slices_CompactFunc_api_Lsa_api_Lsa_fn46 a0).bind fun t1 => ((loopO (f_topo_once.b0 t1) (0, [])).bind fun y1 => match y1 with | .inl s1 => some (t1, s1.2) | .inr r_ => some r_))
set_option maxHeartbeats 1000000 in
theorem f_topo_once.ok {z w : World} {F G : Hp} (hG : G ⊆ F) {a0 : List T_api_Lsa} {A_a0 : Option Addr} {c_a0 : Nat} {L_a0 : Hp} {r : f_topo_once.R} (H : f_topo_once a0 = some r) (HF : Fits z w (L_a0 ++ F)) (ho_a0 : OwnS (kShr G k_T_api_Lsa) L_a0 A_a0 c_a0 a0) :
  Calls Try.prog 19 [.slice A_a0 a0.length c_a0].toArray w fun e w' => ∃ (N : Hp) (A0 : Option Addr) (c0 : Nat) (L0 : Hp) (A3 : Option Addr) (c3 : Nat) (L3 : Hp), e = .returned (.tuple #[.slice A0 r.1.length c0, mapV A3]) ∧ Fits z w' (L0 ++ (L3 ++ (N ++ F))) ∧ OwnS (kShr (N ++ G) k_T_api_Lsa) L0 A0 c0 r.1 ∧ OwnM (kShr (N ++ G) k_T_api_Lsa) L3 A3 c3 r.2 := by
 unfold f_topo_once at H
 refine enter0 Try.func19 rfl Try.ntmps19 rfl (E := [(0, .slice A_a0 a0.length c_a0)]) rfl ?_
 refine cSeq (fun K1 hK1 => ?_)
 refine cRgn [] trivial ?_
 refine sL (asg rfl) rfl ?_
 refine sL (asg rfl) rfl ?_
 refine lE ?_
 refine kN (?_)
 refine hK1 _ _ ?_
 refine cSeq (fun K2 hK2 => ?_)
 refine cRgn [] trivial ?_
 refine sL (mv rfl) rfl ?_
 replace H := bnd H; obtain ⟨t1, J1, H⟩ := H
 refine eCall isf45 rfl rfl rfl (f_slices_CompactFunc_api_Lsa_api_Lsa_fn46.ok (a0 := a0) hG J1 HF ho_a0) ?_
 rintro _ w1 ⟨N1, A1, c1, L1, rfl, HF1, ho1⟩
 have hs1 : G ⊆ N1 ++ G := sub_a sub_r
 refine ⟨_, rfl, ?_⟩
 refine sL (asg rfl) rfl ?_
 refine lE ?_
 refine kN (?_)
 refine hK2 _ _ ?_
 refine cSeq (fun K3 hK3 => ?_)
 refine cRgn [] trivial ?_
 refine eW (oMkMap (K := (kShr (N1 ++ G) k_T_api_Lsa)) HF1) rfl ?_
 rintro _ w2 ⟨L2, A2, c2, rfl, HF2, ho2⟩
 refine sL (asg rfl) rfl ?_
 refine lE ?_
 refine kN (?_)
 refine hK3 _ _ ?_
 refine cSeq (fun K4 hK4 => ?_)
 refine cSeq (fun K5 hK5 => ?_)
 refine cRgn [] trivial ?_
 refine sL (mv rfl) rfl ?_
 refine sL (lnS rfl Try.underlying24) rfl ?_
 refine sL (mv rfl) rfl ?_
 refine lE ?_
 refine kN (?_)
 refine hK5 _ _ ?_
 replace H := bnd H; obtain ⟨y1, J2, Ho1⟩ := H
 refine cLoopB (f_topo_once.b0 t1) (fun (s1 : Int × (List (Int × T_api_Lsa))) a w => ∃ (L6 : Hp), Env 24 [(0, .slice A1 t1.length c1), (2, .slice none 0 0), (3, .map none), (4, mapV A2), (10, .slice A1 t1.length c1), (11, .int .i64 (t1.length : Int)), (12, .int .i64 s1.1)] a ∧ Fits z w (L6 ++ (L1 ++ (N1 ++ F))) ∧ OwnM (kShr (N1 ++ G) k_T_api_Lsa) L6 A2 c2 s1.2) J2 (fun a hE => ⟨L2, hE.keep (Keep.cons rfl (Keep.cons rfl (Keep.cons rfl (Keep.cons rfl (Keep.cons rfl (Keep.cons rfl (Keep.cons rfl (Keep.nil)))))))), HF2, ho2⟩) ?_ ?_
 ·rintro s1 a w9 y2 ⟨L6, hE, HF11, ho6⟩ H Hx1
  refine go_ hE ?_
  refine cSeq (fun K14 hK14 => ?_)
  refine cRgn [] trivial ?_
  refine sL (bLss rfl rfl) rfl ?_
  refine lE ?_
  refine kN (?_)
  refine hK14 _ _ ?_
  refine cSeq (fun K15 hK15 => ?_)
  by_cases c12 : s1.1 < (t1.length : Int)
  ·replace H := itT c12 H
   refine cSet (i := 13) rfl (dT c12) ?_
   refine cT rfl ?_
   refine cSkip ?_
   refine kN (?_)
   refine hK15 _ _ ?_
   refine cSeq (fun K16 hK16 => ?_)
   refine cBlock ?_
   refine cSeq (fun K17 hK17 => ?_)
   refine cRgn [] trivial ?_
   replace H := chk H; obtain ⟨c13, H⟩ := H
   obtain ⟨g5, o3, e6, rfl, hk3, q3⟩ := RdS.at_ ho1.rd c13 c12
   obtain ⟨A9, c14, A10, c15, A11, c16, rfl, hr7, hr8, hr9⟩ := rd_T_api_Lsa hk3
   refine sL (ia rfl rfl Try.underlying24 ti44 c13 c12) rfl ?_
   refine sL (ldA rfl ti44 rfl rfl (fun j v hj => HF11.cells ((sub_a sub_h)) (q3 j v hj))) rfl ?_
   refine eW (oAlloc HF11 ti44) rfl ?_
   rintro _ w10 ⟨g6, rfl, HF12⟩
   refine eS (oSt (l1 := [.int .i64 ((rd t1 s1.1).f_Head.f_Age), .int .i64 ((rd t1 s1.1).f_Head.f_Kind), .int .i64 ((rd t1 s1.1).f_Head.f_Id), .int .i64 ((rd t1 s1.1).f_Head.f_Adv), .int .i64 ((rd t1 s1.1).f_Head.f_Seq), .int .i64 ((rd t1 s1.1).f_Head.f_Sum), .int .i64 ((rd t1 s1.1).f_Head.f_Len), .int .i64 ((rd t1 s1.1).f_Flags), .slice A9 ((rd t1 s1.1).f_Links).length c14, .int .i64 ((rd t1 s1.1).f_Bits), .slice A10 ((rd t1 s1.1).f_Routers).length c15, .slice A11 ((rd t1 s1.1).f_Verts).length c16]) HF12 rfl rfl ti44 rfl (ones rfl) (Nat.le_of_ble_eq_true rfl) rfl) ?_
   rintro w11 HF13
   refine lE ?_
   refine kN (?_)
   refine hK17 _ _ ?_
   refine cRgn [] trivial ?_
   refine sL (mv rfl) rfl ?_
   refine sL (fa44_0 rfl) rfl ?_
   refine sL (fa41_2 rfl) rfl ?_
   refine sL (ld rfl Try.underlying3 rfl (HF13.box (mem_h) rfl)) rfl ?_
   refine sL (ldA (cs := [.int .i64 ((rd t1 s1.1).f_Head.f_Age), .int .i64 ((rd t1 s1.1).f_Head.f_Kind), .int .i64 ((rd t1 s1.1).f_Head.f_Id), .int .i64 ((rd t1 s1.1).f_Head.f_Adv), .int .i64 ((rd t1 s1.1).f_Head.f_Seq), .int .i64 ((rd t1 s1.1).f_Head.f_Sum), .int .i64 ((rd t1 s1.1).f_Head.f_Len), .int .i64 ((rd t1 s1.1).f_Flags), .slice A9 ((rd t1 s1.1).f_Links).length c14, .int .i64 ((rd t1 s1.1).f_Bits), .slice A10 ((rd t1 s1.1).f_Routers).length c15, .slice A11 ((rd t1 s1.1).f_Verts).length c16]) rfl ti44 rfl rfl (HF13.boxes (o := 0) (n := 12) (mem_h) rfl)) rfl ?_
   have HF14 := HF13.perm (perm_c pR)
   refine eS (oMUpd (K := (kShr (N1 ++ G) k_T_api_Lsa)) (a := (rd t1 s1.1)) (cs := [.int .i64 ((rd t1 s1.1).f_Head.f_Age), .int .i64 ((rd t1 s1.1).f_Head.f_Kind), .int .i64 ((rd t1 s1.1).f_Head.f_Id), .int .i64 ((rd t1 s1.1).f_Head.f_Adv), .int .i64 ((rd t1 s1.1).f_Head.f_Seq), .int .i64 ((rd t1 s1.1).f_Head.f_Sum), .int .i64 ((rd t1 s1.1).f_Head.f_Len), .int .i64 ((rd t1 s1.1).f_Flags), .slice A9 ((rd t1 s1.1).f_Links).length c14, .int .i64 ((rd t1 s1.1).f_Bits), .slice A10 ((rd t1 s1.1).f_Routers).length c15, .slice A11 ((rd t1 s1.1).f_Verts).length c16]) HF14 ho6 rfl rfl rfl Try.underlying59 Try.underlying3 ⟨rfl, mk_T_api_Lsa (x := (rd t1 s1.1)) (hr7) (hr8) (hr9)⟩) ?_
   rintro w12 ⟨L7, HF15, ho7⟩
   refine lE ?_
   refine jN (kN (?_))
   refine hK16 _ _ ?_
   refine cRgn [] trivial ?_
   refine sL (bAdd rfl rfl) rfl ?_
   refine sL (mv rfl) rfl ?_
   refine lE ?_
   refine kN (?_)
   have HF16 := HF15.sublist (sl_a (sl_dc (sl_a sR)))
   exact ofEnv (fun a hE => ⟨_, (Option.some.inj H).symm, ⟨L7, hE.keep (Keep.cons rfl (Keep.cons rfl (Keep.cons rfl (Keep.cons rfl (Keep.cons rfl (Keep.cons rfl (Keep.cons rfl (Keep.nil)))))))), HF16, ho7⟩⟩)
  replace H := itF c12 H
  refine cSet (i := 13) rfl (dF c12) ?_
  refine cF rfl ?_
  refine cExit ?_
  refine kX (kX (jX (kN (?_))))
  exact ofEnv (fun a hE => ⟨_, (Option.some.inj H).symm, ⟨L6, hE.keep (Keep.cons rfl (Keep.cons rfl (Keep.cons rfl (Keep.cons rfl (Keep.cons rfl (Keep.cons rfl (Keep.cons rfl (Keep.nil)))))))), HF11, ho6⟩⟩)
 rintro s1 a w13 rfl ⟨L6, hE, HF17, ho6⟩
 replace H := Ho1
 refine go_k hE ?_
 refine kN (?_)
 refine hK4 _ _ ?_
 refine cSeq (fun K18 hK18 => ?_)
 refine cRgn [] trivial ?_
 refine sL (mv rfl) rfl ?_
 refine sL (mv rfl) rfl ?_
 refine sL (asg rfl) rfl ?_
 refine sL (asg rfl) rfl ?_
 refine lE ?_
 refine kN (?_)
 refine hK18 _ _ ?_
 refine cRet ?_
 obtain rfl := Option.some.inj H
 refine ret2 rfl rfl rfl ?_
 have HF18 := HF17.perm (perm_f pR)
 exact ⟨N1, _, _, L1, _, _, L6, rfl, HF18, ho1, ho6⟩
/-! ### plenum/topo.back$1 (function 52) -/
abbrev f_topo_back_1_cap3_cap3.R := Bool
noncomputable def f_topo_back_1_cap3_cap3 (a0 : T_api_Link) (a1 : Int) (a2 : Int) : Option f_topo_back_1_cap3_cap3.R := (if a0.f_Kind = a1 then some (decide (a0.f_Id = a2)) else some false)
set_option maxHeartbeats 1000000 in
theorem f_topo_back_1_cap3_cap3.ok {z w : World} {F : Hp} {a0 : T_api_Link} {a1 : Int} {g_a1 : Nat} {a2 : Int} {g_a2 : Nat} {r : f_topo_back_1_cap3_cap3.R} (H : f_topo_back_1_cap3_cap3 a0 a1 a2 = some r) (HF : Fits z w (bk g_a1 3 [.int .i64 a1] :: (bk g_a2 3 [.int .i64 a2] :: F))) :
  Calls Try.prog 52 [.agg [.int .i64 a0.f_Kind, .int .i64 a0.f_Id, .int .i64 a0.f_Data, .int .i64 a0.f_Cost].toArray, .pointer (some ⟨g_a1, 0, none⟩), .pointer (some ⟨g_a2, 0, none⟩)].toArray w fun e w' => e = .returned (.bool r) ∧ Fits z w' (bk g_a1 3 [.int .i64 a1] :: (bk g_a2 3 [.int .i64 a2] :: F)) := by
 unfold f_topo_back_1_cap3_cap3 at H
 refine enter0 Try.func52 rfl Try.ntmps52 rfl (E := [(0, .agg [.int .i64 a0.f_Kind, .int .i64 a0.f_Id, .int .i64 a0.f_Data, .int .i64 a0.f_Cost].toArray), (1, .pointer (some ⟨g_a1, 0, none⟩)), (2, .pointer (some ⟨g_a2, 0, none⟩))]) rfl ?_
 refine cSeq (fun K1 hK1 => ?_)
 refine cRgn [] trivial ?_
 refine eW (oBox HF rfl) rfl ?_
 rintro _ w1 ⟨g1, rfl, HF1⟩
 refine sL (asg rfl) rfl ?_
 refine lE ?_
 refine kN (?_)
 refine hK1 _ _ ?_
 refine cSeq (fun K2 hK2 => ?_)
 refine cRgn [(4, 9)] ⟨rfl, trivial⟩ ?_
 refine sL (fa56_0 rfl) rfl ?_
 refine sL (ld rfl Try.underlying3 rfl (HF1.box (mem_h) rfl)) rfl ?_
 refine sL (ld rfl Try.underlying3 rfl (HF1.box (mem_c mem_h) rfl)) rfl ?_
 refine sL (bEql rfl rfl) rfl ?_
 refine sL (mv rfl) rfl ?_
 by_cases c1 : a0.f_Kind = a1
 ·replace H := itT c1 H
  refine lSet (i := 9) rfl (dT c1) ?_
  refine sG rfl rfl (fa56_1 rfl) rfl ?_
  refine sG rfl rfl (ld rfl Try.underlying3 rfl (HF1.box (mem_h) rfl)) rfl ?_
  refine sG rfl rfl (ld rfl Try.underlying3 rfl (HF1.box (mem_c (mem_c mem_h)) rfl)) rfl ?_
  refine sG rfl rfl (bEql rfl rfl) rfl ?_
  refine sL (pkT rfl rfl) rfl ?_
  refine sL (asg rfl) rfl ?_
  refine lE ?_
  refine kN (?_)
  refine hK2 _ _ ?_
  refine cRet ?_
  obtain rfl := Option.some.inj H
  refine ret1 rfl rfl ?_
  have HF2 := HF1.sublist (sl_dc (sl_c (sl_c sR)))
  exact ⟨rfl, HF2⟩
 replace H := itF c1 H
 refine lSet (i := 9) rfl (dF c1) ?_
 refine sN rfl rfl rfl rfl ?_
 refine sN rfl rfl rfl rfl ?_
 refine sN rfl rfl rfl rfl ?_
 refine sN rfl rfl rfl rfl ?_
 refine sL (pkF rfl rfl) rfl ?_
 refine sL (asg rfl) rfl ?_
 refine lE ?_
 refine kN (?_)
 refine hK2 _ _ ?_
 refine cRet ?_
 obtain rfl := Option.some.inj H
 refine ret1 rfl rfl ?_
 have HF3 := HF1.sublist (sl_dc (sl_c (sl_c sR)))
 exact ⟨rfl, HF3⟩
/-! ### slices.IndexFunc[[]plenum/api.Link,plenum/api.Link] (function 51) -/
abbrev f_slices_IndexFunc_api_Link_api_Link_fn52_3_3.R := Int
noncomputable def f_slices_IndexFunc_api_Link_api_Link_fn52_3_3.b0 (a0 : List T_api_Link) (a1_0 : Int) (a1_1 : Int) (s1 : Int) : Option (Sum (Int) (Sum (Int) f_slices_IndexFunc_api_Link_api_Link_fn52_3_3.R)) := (if s1 < (a0.length : Int) then (if 0 ≤ s1 then ((f_topo_back_1_cap3_cap3 (rd a0 s1) a1_0 a1_1).bind fun t3 => (if t3 = true then some (.inr (.inr s1)) else some (.inl (IntKind.i64.wrap (s1 + 1))))) else none) else some (.inr (.inl s1)))
noncomputable def f_slices_IndexFunc_api_Link_api_Link_fn52_3_3 (a0 : List T_api_Link) (a1_0 : Int) (a1_1 : Int) : Option f_slices_IndexFunc_api_Link_api_Link_fn52_3_3.R := ((loopO (f_slices_IndexFunc_api_Link_api_Link_fn52_3_3.b0 a0 a1_0 a1_1) 0).bind fun y1 => match y1 with | .inl s1 => some (-1) | .inr r_ => some r_)
set_option maxHeartbeats 1000000 in
theorem f_slices_IndexFunc_api_Link_api_Link_fn52_3_3.ok {z w : World} {F G : Hp} (hG : G ⊆ F) {a0 : List T_api_Link} {A_a0 : Option Addr} {c_a0 : Nat} {X_a0 : Hp} {a1_0 : Int} {g_a1_0 : Nat} {a1_1 : Int} {g_a1_1 : Nat} {r : f_slices_IndexFunc_api_Link_api_Link_fn52_3_3.R} (H : f_slices_IndexFunc_api_Link_api_Link_fn52_3_3 a0 a1_0 a1_1 = some r) (HF : Fits z w (bk g_a1_0 3 [.int .i64 a1_0] :: (bk g_a1_1 3 [.int .i64 a1_1] :: F))) (hX_a0 : X_a0 ⊆ F) (hr_a0 : RdS k_T_api_Link X_a0 A_a0 c_a0 a0) :
  Calls Try.prog 51 [.slice A_a0 a0.length c_a0, .func (.func 52) [].toArray [.pointer (some ⟨g_a1_0, 0, none⟩), .pointer (some ⟨g_a1_1, 0, none⟩)].toArray].toArray w fun e w' => e = .returned (.int .i64 r) ∧ Fits z w' (bk g_a1_0 3 [.int .i64 a1_0] :: (bk g_a1_1 3 [.int .i64 a1_1] :: F)) := by
 unfold f_slices_IndexFunc_api_Link_api_Link_fn52_3_3 at H
 refine enter0 Try.func51 rfl Try.ntmps51 rfl (E := [(0, .slice A_a0 a0.length c_a0), (1, .func (.func 52) [].toArray [.pointer (some ⟨g_a1_0, 0, none⟩), .pointer (some ⟨g_a1_1, 0, none⟩)].toArray)]) rfl ?_
 refine cSeq (fun K1 hK1 => ?_)
 refine cRgn [] trivial ?_
 refine sL (asg rfl) rfl ?_
 refine lE ?_
 refine kN (?_)
 refine hK1 _ _ ?_
 refine cSeq (fun K2 hK2 => ?_)
 refine cSeq (fun K3 hK3 => ?_)
 refine cRgn [] trivial ?_
 refine sL (mv rfl) rfl ?_
 refine sL (lnS rfl Try.underlying42) rfl ?_
 refine sL (mv rfl) rfl ?_
 refine lE ?_
 refine kN (?_)
 refine hK3 _ _ ?_
 replace H := bnd H; obtain ⟨y1, J4, Ho1⟩ := H
 refine cLoopB (f_slices_IndexFunc_api_Link_api_Link_fn52_3_3.b0 a0 a1_0 a1_1) (fun (s1 : Int) a w => Env 19 [(0, .slice A_a0 a0.length c_a0), (1, .func (.func 52) [].toArray [.pointer (some ⟨g_a1_0, 0, none⟩), .pointer (some ⟨g_a1_1, 0, none⟩)].toArray), (4, .int .i64 0), (7, .int .i64 (a0.length : Int)), (8, .int .i64 s1)] a ∧ Fits z w (bk g_a1_0 3 [.int .i64 a1_0] :: (bk g_a1_1 3 [.int .i64 a1_1] :: F))) J4 (fun a hE => ⟨hE.keep (Keep.cons rfl (Keep.cons rfl (Keep.cons rfl (Keep.cons rfl (Keep.cons rfl (Keep.nil)))))), HF⟩) ?_ ?_
 ·rintro s1 a w3 y2 ⟨hE, HF7⟩ H Hx1
  refine go_ hE ?_
  refine cSeq (fun K16 hK16 => ?_)
  refine cRgn [] trivial ?_
  refine sL (bLss rfl rfl) rfl ?_
  refine lE ?_
  refine kN (?_)
  refine hK16 _ _ ?_
  refine cSeq (fun K17 hK17 => ?_)
  by_cases c6 : s1 < (a0.length : Int)
  ·replace H := itT c6 H
   refine cSet (i := 9) rfl (dT c6) ?_
   refine cT rfl ?_
   refine cSkip ?_
   refine kN (?_)
   refine hK17 _ _ ?_
   refine cSeq (fun K18 hK18 => ?_)
   refine cBlock ?_
   refine cSeq (fun K19 hK19 => ?_)
   refine cRgn [] trivial ?_
   refine sL (mv rfl) rfl ?_
   refine sL (asg rfl) rfl ?_
   refine lE ?_
   refine kN (?_)
   refine hK19 _ _ ?_
   refine cSeq (fun K20 hK20 => ?_)
   refine cRgn [] trivial ?_
   refine sL (mv rfl) rfl ?_
   refine sL (mv rfl) rfl ?_
   refine sL (mv rfl) rfl ?_
   replace H := chk H; obtain ⟨c7, H⟩ := H
   obtain ⟨g3, o3, _, rfl, rfl, q3⟩ := RdS.at_ hr_a0 c7 c6
   refine sL (ia rfl rfl Try.underlying42 ti56 c7 c6) rfl ?_
   refine sL (ldA rfl ti56 rfl rfl (fun j v hj => HF7.cells ((sub_c (sub_c hX_a0))) (q3 j v hj))) rfl ?_
   have HF8 := HF7.perm (perm_c1 pR)
   have HF9 := HF8.perm (perm_c1 pR)
   replace H := bnd H; obtain ⟨t3, J3, H⟩ := H
   refine eCall isf52 rfl rfl rfl (f_topo_back_1_cap3_cap3.ok (a0 := (rd a0 s1)) J3 HF9) ?_
   rintro _ w4 ⟨rfl, HF10⟩
   refine ⟨_, rfl, ?_⟩
   refine lE ?_
   refine kN (?_)
   refine hK20 _ _ ?_
   by_cases c8 : t3 = true
   ·replace H := itT c8 H
    refine cSet (i := 16) rfl (vT c8) ?_
    refine cT rfl ?_
    refine cSeq (fun K21 hK21 => ?_)
    refine cRgn [] trivial ?_
    refine sL (mv rfl) rfl ?_
    refine sL (asg rfl) rfl ?_
    refine lE ?_
    refine kN (?_)
    refine hK21 _ _ ?_
    refine cRet ?_
    have e_ := Hx1 _ (Option.some.inj H).symm
    subst e_
    replace H := Ho1
    obtain rfl := Option.some.inj H
    refine jR (kR (kR (jR (kR (kR (?_))))))
    refine ret1 rfl rfl ?_
    exact ⟨rfl, HF10⟩
   replace H := itF c8 H
   refine cSet (i := 16) rfl (vF c8) ?_
   refine cF rfl ?_
   refine cSkip ?_
   refine jN (kN (?_))
   refine hK18 _ _ ?_
   refine cRgn [] trivial ?_
   refine sL (bAdd rfl rfl) rfl ?_
   refine sL (mv rfl) rfl ?_
   refine lE ?_
   refine kN (?_)
   exact ofEnv (fun a hE => ⟨_, (Option.some.inj H).symm, ⟨hE.keep (Keep.cons rfl (Keep.cons rfl (Keep.cons rfl (Keep.cons rfl (Keep.cons rfl (Keep.nil)))))), HF10⟩⟩)
  replace H := itF c6 H
  refine cSet (i := 9) rfl (dF c6) ?_
  refine cF rfl ?_
  refine cExit ?_
  refine kX (kX (jX (kN (?_))))
  exact ofEnv (fun a hE => ⟨_, (Option.some.inj H).symm, ⟨hE.keep (Keep.cons rfl (Keep.cons rfl (Keep.cons rfl (Keep.cons rfl (Keep.cons rfl (Keep.nil)))))), HF7⟩⟩)
 rintro s1 a w5 rfl ⟨hE, HF11⟩
 replace H := Ho1
 refine go_k hE ?_
 refine kN (?_)
 refine hK2 _ _ ?_
 refine cSeq (fun K22 hK22 => ?_)
 refine cRgn [] trivial ?_
 refine sL (asg rfl) rfl ?_
 refine lE ?_
 refine kN (?_)
 refine hK22 _ _ ?_
 refine cRet ?_
 obtain rfl := Option.some.inj H
 refine ret1 rfl rfl ?_
 exact ⟨rfl, HF11⟩
/-! ### plenum/topo.back (function 26) -/
abbrev f_topo_back.R := T_api_Link × Bool
noncomputable def f_topo_back (a0 : T_api_Lsa) (a1 : Int) (a2 : Int) : Option f_topo_back.R := ((f_slices_IndexFunc_api_Link_api_Link_fn52_3_3 a0.f_Links a1 a2).bind fun t1 => (if t1 < 0 then some ((⟨0, 0, 0, 0⟩ : T_api_Link), false) else (if 0 ≤ t1 then (if t1 < (a0.f_Links.length : Int) then some ((rd a0.f_Links t1), true) else none) else none)))
set_option maxHeartbeats 1000000 in
theorem f_topo_back.ok {z w : World} {F G : Hp} (hG : G ⊆ F) {a0 : T_api_Lsa} {A_a0_8 : Option Addr} {c_a0_8 : Nat} {X_a0_8 : Hp} {A_a0_10 : Option Addr} {c_a0_10 : Nat} {X_a0_10 : Hp} {A_a0_11 : Option Addr} {c_a0_11 : Nat} {X_a0_11 : Hp} {a1 : Int} {a2 : Int} {r : f_topo_back.R} (H : f_topo_back a0 a1 a2 = some r) (HF : Fits z w F) (hX_a0_8 : X_a0_8 ⊆ F) (hr_a0_8 : RdS k_T_api_Link X_a0_8 A_a0_8 c_a0_8 a0.f_Links) (hX_a0_10 : X_a0_10 ⊆ F) (hr_a0_10 : RdS (kInt .i64) X_a0_10 A_a0_10 c_a0_10 a0.f_Routers) (hX_a0_11 : X_a0_11 ⊆ F) (hr_a0_11 : RdS k_T_api_Vert X_a0_11 A_a0_11 c_a0_11 a0.f_Verts) :
  Calls Try.prog 26 [.agg [.int .i64 a0.f_Head.f_Age, .int .i64 a0.f_Head.f_Kind, .int .i64 a0.f_Head.f_Id, .int .i64 a0.f_Head.f_Adv, .int .i64 a0.f_Head.f_Seq, .int .i64 a0.f_Head.f_Sum, .int .i64 a0.f_Head.f_Len, .int .i64 a0.f_Flags, .slice A_a0_8 a0.f_Links.length c_a0_8, .int .i64 a0.f_Bits, .slice A_a0_10 a0.f_Routers.length c_a0_10, .slice A_a0_11 a0.f_Verts.length c_a0_11].toArray, .int .i64 a1, .int .i64 a2].toArray w fun e w' => e = .returned (.tuple #[.agg [.int .i64 r.1.f_Kind, .int .i64 r.1.f_Id, .int .i64 r.1.f_Data, .int .i64 r.1.f_Cost].toArray, .bool r.2]) ∧ Fits z w' F := by
 unfold f_topo_back at H
 refine enter0 Try.func26 rfl Try.ntmps26 rfl (E := [(0, .agg [.int .i64 a0.f_Head.f_Age, .int .i64 a0.f_Head.f_Kind, .int .i64 a0.f_Head.f_Id, .int .i64 a0.f_Head.f_Adv, .int .i64 a0.f_Head.f_Seq, .int .i64 a0.f_Head.f_Sum, .int .i64 a0.f_Head.f_Len, .int .i64 a0.f_Flags, .slice A_a0_8 a0.f_Links.length c_a0_8, .int .i64 a0.f_Bits, .slice A_a0_10 a0.f_Routers.length c_a0_10, .slice A_a0_11 a0.f_Verts.length c_a0_11].toArray), (1, .int .i64 a1), (2, .int .i64 a2)]) rfl ?_
 refine cSeq (fun K1 hK1 => ?_)
 refine cRgn [] trivial ?_
 refine eW (oBox HF rfl) rfl ?_
 rintro _ w1 ⟨g1, rfl, HF1⟩
 refine eW (oBox HF1 rfl) rfl ?_
 rintro _ w2 ⟨g2, rfl, HF2⟩
 refine eW (oBox HF2 rfl) rfl ?_
 rintro _ w3 ⟨g3, rfl, HF3⟩
 refine eW (oAlloc HF3 ti56) rfl ?_
 rintro _ w4 ⟨g4, rfl, HF4⟩
 refine sL (asg rfl) rfl ?_
 refine lE ?_
 refine kN (?_)
 refine hK1 _ _ ?_
 refine cSeq (fun K2 hK2 => ?_)
 refine cRgn [] trivial ?_
 refine sL (fa44_2 rfl) rfl ?_
 refine sL (ld rfl Try.underlying42 rfl (HF4.box (mem_c (mem_c (mem_c mem_h))) rfl)) rfl ?_
 refine sL (mfn (f' := []) (c' := [.pointer (some ⟨g2, 0, none⟩), .pointer (some ⟨g3, 0, none⟩)]) rfl rfl) rfl ?_
 have HF5 := HF4.perm (perm_c1 pR)
 have HF6 := HF5.perm (perm_c1 (perm_c1 pR))
 replace H := bnd H; obtain ⟨t1, J1, H⟩ := H
 refine eCall isf51 rfl rfl rfl (f_slices_IndexFunc_api_Link_api_Link_fn52_3_3.ok (a0 := a0.f_Links) (sub_c (sub_c hG)) J1 HF6 (sub_c (sub_c hX_a0_8)) hr_a0_8) ?_
 rintro _ w5 ⟨rfl, HF7⟩
 refine ⟨_, rfl, ?_⟩
 refine sL (asg rfl) rfl ?_
 refine lE ?_
 refine kN (?_)
 refine hK2 _ _ ?_
 refine cSeq (fun K3 hK3 => ?_)
 refine cSeq (fun K4 hK4 => ?_)
 refine cRgn [] trivial ?_
 refine sL (mv rfl) rfl ?_
 refine sL (bLss rfl rfl) rfl ?_
 refine lE ?_
 refine kN (?_)
 refine hK4 _ _ ?_
 by_cases c1 : t1 < 0
 ·replace H := itT c1 H
  refine cSet (i := 14) rfl (dT c1) ?_
  refine cT rfl ?_
  refine cSeq (fun K5 hK5 => ?_)
  refine cRgn [] trivial ?_
  refine sL (bd (r := [.int .i64 0, .int .i64 0, .int .i64 0, .int .i64 0]) pl56 ti56 rfl rfl) rfl ?_
  have HF8 := HF7.perm (perm_c1 (perm_c1 pR))
  refine eS (oSt (l1 := [.int .i64 0, .int .i64 0, .int .i64 0, .int .i64 0]) HF8 rfl rfl ti56 rfl (ones rfl) (Nat.le_of_ble_eq_true rfl) rfl) ?_
  rintro w6 HF9
  refine sL (asg rfl) rfl ?_
  refine lE ?_
  refine kN (?_)
  refine hK5 _ _ ?_
  refine cRet ?_
  obtain rfl := Option.some.inj H
  refine kR (?_)
  refine retB rfl (rvC rfl (lvA (cs := [.int .i64 0, .int .i64 0, .int .i64 0, .int .i64 0]) ti56 rfl rfl (HF9.boxes (o := 0) (n := 4) (mem_h) rfl))) rfl ?_
  have HF10 := HF9.sublist (sl_dc (sl_dc (sl_dc (sl_dc sR))))
  exact ⟨rfl, HF10⟩
 replace H := itF c1 H
 refine cSet (i := 14) rfl (dF c1) ?_
 refine cF rfl ?_
 refine cSkip ?_
 refine kN (?_)
 refine hK3 _ _ ?_
 refine cSeq (fun K6 hK6 => ?_)
 refine cRgn [] trivial ?_
 refine sL (fa44_2 rfl) rfl ?_
 refine sL (ld rfl Try.underlying42 rfl (HF7.box (mem_c (mem_c (mem_c mem_h))) rfl)) rfl ?_
 refine sL (mv rfl) rfl ?_
 replace H := chk H; obtain ⟨c2, H⟩ := H
 replace H := chk H; obtain ⟨c3, H⟩ := H
 obtain ⟨g5, o1, _, rfl, rfl, q1⟩ := RdS.at_ hr_a0_8 c2 c3
 refine sL (ia rfl rfl Try.underlying42 ti56 c2 c3) rfl ?_
 refine sL (ldA rfl ti56 rfl rfl (fun j v hj => HF7.cells ((sub_c (sub_c (sub_c (sub_c hX_a0_8))))) (q1 j v hj))) rfl ?_
 have HF11 := HF7.perm (perm_c1 (perm_c1 pR))
 refine eS (oSt (l1 := [.int .i64 ((rd a0.f_Links t1).f_Kind), .int .i64 ((rd a0.f_Links t1).f_Id), .int .i64 ((rd a0.f_Links t1).f_Data), .int .i64 ((rd a0.f_Links t1).f_Cost)]) HF11 rfl rfl ti56 rfl (ones rfl) (Nat.le_of_ble_eq_true rfl) rfl) ?_
 rintro w7 HF12
 refine sL (asg rfl) rfl ?_
 refine lE ?_
 refine kN (?_)
 refine hK6 _ _ ?_
 refine cRet ?_
 obtain rfl := Option.some.inj H
 refine retB rfl (rvC rfl (lvA (cs := [.int .i64 ((rd a0.f_Links t1).f_Kind), .int .i64 ((rd a0.f_Links t1).f_Id), .int .i64 ((rd a0.f_Links t1).f_Data), .int .i64 ((rd a0.f_Links t1).f_Cost)]) ti56 rfl rfl (HF12.boxes (o := 0) (n := 4) (mem_h) rfl))) rfl ?_
 have HF13 := HF12.sublist (sl_dc (sl_dc (sl_dc (sl_dc sR))))
 exact ⟨rfl, HF13⟩
/-! ### slices.Index[[]int,int] (function 53) -/
abbrev f_slices_Index_int_int.R := Int
noncomputable def f_slices_Index_int_int.b0 (a0 : List Int) (a1 : Int) (s1 : Int) : Option (Sum (Int) (Sum (Int) f_slices_Index_int_int.R)) := (if s1 < (a0.length : Int) then (if 0 ≤ s1 then (if a1 = (rd a0 s1) then some (.inr (.inr s1)) else some (.inl (IntKind.i64.wrap (s1 + 1)))) else none) else some (.inr (.inl s1)))
noncomputable def f_slices_Index_int_int (a0 : List Int) (a1 : Int) : Option f_slices_Index_int_int.R := ((loopO (f_slices_Index_int_int.b0 a0 a1) 0).bind fun y1 => match y1 with | .inl s1 => some (-1) | .inr r_ => some r_)
set_option maxHeartbeats 1000000 in
theorem f_slices_Index_int_int.ok {z w : World} {F G : Hp} (hG : G ⊆ F) {a0 : List Int} {A_a0 : Option Addr} {c_a0 : Nat} {X_a0 : Hp} {a1 : Int} {r : f_slices_Index_int_int.R} (H : f_slices_Index_int_int a0 a1 = some r) (HF : Fits z w F) (hX_a0 : X_a0 ⊆ F) (hr_a0 : RdS (kInt .i64) X_a0 A_a0 c_a0 a0) :
  Calls Try.prog 53 [.slice A_a0 a0.length c_a0, .int .i64 a1].toArray w fun e w' => e = .returned (.int .i64 r) ∧ Fits z w' F := by
 unfold f_slices_Index_int_int at H
 refine enter0 Try.func53 rfl Try.ntmps53 rfl (E := [(0, .slice A_a0 a0.length c_a0), (1, .int .i64 a1)]) rfl ?_
 refine cSeq (fun K1 hK1 => ?_)
 refine cRgn [] trivial ?_
 refine sL (asg rfl) rfl ?_
 refine lE ?_
 refine kN (?_)
 refine hK1 _ _ ?_
 refine cSeq (fun K2 hK2 => ?_)
 refine cSeq (fun K3 hK3 => ?_)
 refine cRgn [] trivial ?_
 refine sL (mv rfl) rfl ?_
 refine sL (lnS rfl Try.underlying30) rfl ?_
 refine sL (mv rfl) rfl ?_
 refine lE ?_
 refine kN (?_)
 refine hK3 _ _ ?_
 replace H := bnd H; obtain ⟨y1, J1, Ho1⟩ := H
 refine cLoopB (f_slices_Index_int_int.b0 a0 a1) (fun (s1 : Int) a w => Env 19 [(0, .slice A_a0 a0.length c_a0), (1, .int .i64 a1), (4, .int .i64 0), (7, .int .i64 (a0.length : Int)), (8, .int .i64 s1)] a ∧ Fits z w F) J1 (fun a hE => ⟨hE.keep (Keep.cons rfl (Keep.cons rfl (Keep.cons rfl (Keep.cons rfl (Keep.cons rfl (Keep.nil)))))), HF⟩) ?_ ?_
 ·rintro s1 a w1 y2 ⟨hE, HF1⟩ H Hx1
  refine go_ hE ?_
  refine cSeq (fun K16 hK16 => ?_)
  refine cRgn [] trivial ?_
  refine sL (bLss rfl rfl) rfl ?_
  refine lE ?_
  refine kN (?_)
  refine hK16 _ _ ?_
  refine cSeq (fun K17 hK17 => ?_)
  by_cases c6 : s1 < (a0.length : Int)
  ·replace H := itT c6 H
   refine cSet (i := 9) rfl (dT c6) ?_
   refine cT rfl ?_
   refine cSkip ?_
   refine kN (?_)
   refine hK17 _ _ ?_
   refine cSeq (fun K18 hK18 => ?_)
   refine cBlock ?_
   refine cSeq (fun K19 hK19 => ?_)
   refine cRgn [] trivial ?_
   refine sL (mv rfl) rfl ?_
   refine sL (asg rfl) rfl ?_
   refine lE ?_
   refine kN (?_)
   refine hK19 _ _ ?_
   refine cSeq (fun K20 hK20 => ?_)
   refine cRgn [] trivial ?_
   refine sL (mv rfl) rfl ?_
   refine sL (mv rfl) rfl ?_
   refine sL (mv rfl) rfl ?_
   replace H := chk H; obtain ⟨c7, H⟩ := H
   obtain ⟨g3, o3, _, rfl, rfl, q3⟩ := RdS.at_ hr_a0 c7 c6
   refine sL (ia rfl rfl Try.underlying30 ti3 c7 c6) rfl ?_
   refine sL (ld rfl Try.underlying3 rfl (HF1.cells (hX_a0) (q3 0 _ rfl))) rfl ?_
   refine sL (bEql rfl rfl) rfl ?_
   refine lE ?_
   refine kN (?_)
   refine hK20 _ _ ?_
   by_cases c8 : a1 = (rd a0 s1)
   ·replace H := itT c8 H
    refine cSet (i := 16) rfl (dT c8) ?_
    refine cT rfl ?_
    refine cSeq (fun K21 hK21 => ?_)
    refine cRgn [] trivial ?_
    refine sL (mv rfl) rfl ?_
    refine sL (asg rfl) rfl ?_
    refine lE ?_
    refine kN (?_)
    refine hK21 _ _ ?_
    refine cRet ?_
    have e_ := Hx1 _ (Option.some.inj H).symm
    subst e_
    replace H := Ho1
    obtain rfl := Option.some.inj H
    refine jR (kR (kR (jR (kR (kR (?_))))))
    refine ret1 rfl rfl ?_
    exact ⟨rfl, HF1⟩
   replace H := itF c8 H
   refine cSet (i := 16) rfl (dF c8) ?_
   refine cF rfl ?_
   refine cSkip ?_
   refine jN (kN (?_))
   refine hK18 _ _ ?_
   refine cRgn [] trivial ?_
   refine sL (bAdd rfl rfl) rfl ?_
   refine sL (mv rfl) rfl ?_
   refine lE ?_
   refine kN (?_)
   exact ofEnv (fun a hE => ⟨_, (Option.some.inj H).symm, ⟨hE.keep (Keep.cons rfl (Keep.cons rfl (Keep.cons rfl (Keep.cons rfl (Keep.cons rfl (Keep.nil)))))), HF1⟩⟩)
  replace H := itF c6 H
  refine cSet (i := 9) rfl (dF c6) ?_
  refine cF rfl ?_
  refine cExit ?_
  refine kX (kX (jX (kN (?_))))
  exact ofEnv (fun a hE => ⟨_, (Option.some.inj H).symm, ⟨hE.keep (Keep.cons rfl (Keep.cons rfl (Keep.cons rfl (Keep.cons rfl (Keep.cons rfl (Keep.nil)))))), HF1⟩⟩)
 rintro s1 a w2 rfl ⟨hE, HF2⟩
 replace H := Ho1
 refine go_k hE ?_
 refine kN (?_)
 refine hK2 _ _ ?_
 refine cSeq (fun K22 hK22 => ?_)
 refine cRgn [] trivial ?_
 refine sL (asg rfl) rfl ?_
 refine lE ?_
 refine kN (?_)
 refine hK22 _ _ ?_
 refine cRet ?_
 obtain rfl := Option.some.inj H
 refine ret1 rfl rfl ?_
 exact ⟨rfl, HF2⟩
/-! ### slices.Contains[[]int,int] (function 27) -/
abbrev f_slices_Contains_int_int.R := Bool
noncomputable def f_slices_Contains_int_int (a0 : List Int) (a1 : Int) : Option f_slices_Contains_int_int.R := ((f_slices_Index_int_int a0 a1).bind fun t1 => some (decide (0 ≤ t1)))
set_option maxHeartbeats 1000000 in
theorem f_slices_Contains_int_int.ok {z w : World} {F G : Hp} (hG : G ⊆ F) {a0 : List Int} {A_a0 : Option Addr} {c_a0 : Nat} {X_a0 : Hp} {a1 : Int} {r : f_slices_Contains_int_int.R} (H : f_slices_Contains_int_int a0 a1 = some r) (HF : Fits z w F) (hX_a0 : X_a0 ⊆ F) (hr_a0 : RdS (kInt .i64) X_a0 A_a0 c_a0 a0) :
  Calls Try.prog 27 [.slice A_a0 a0.length c_a0, .int .i64 a1].toArray w fun e w' => e = .returned (.bool r) ∧ Fits z w' F := by
 unfold f_slices_Contains_int_int at H
 refine enter0 Try.func27 rfl Try.ntmps27 rfl (E := [(0, .slice A_a0 a0.length c_a0), (1, .int .i64 a1)]) rfl ?_
 refine cSeq (fun K1 hK1 => ?_)
 refine cRgn [] trivial ?_
 refine sL (asg rfl) rfl ?_
 refine lE ?_
 refine kN (?_)
 refine hK1 _ _ ?_
 refine cSeq (fun K2 hK2 => ?_)
 refine cRgn [] trivial ?_
 refine sL (mv rfl) rfl ?_
 refine sL (mv rfl) rfl ?_
 replace H := bnd H; obtain ⟨t1, J1, H⟩ := H
 refine eCall isf53 rfl rfl rfl (f_slices_Index_int_int.ok (a0 := a0) hG J1 HF hX_a0 hr_a0) ?_
 rintro _ w1 ⟨rfl, HF1⟩
 refine ⟨_, rfl, ?_⟩
 refine sL (bGeq rfl rfl) rfl ?_
 refine sL (asg rfl) rfl ?_
 refine lE ?_
 refine kN (?_)
 refine hK2 _ _ ?_
 refine cRet ?_
 obtain rfl := Option.some.inj H
 refine ret1 rfl rfl ?_
 exact ⟨rfl, HF1⟩
/-! ### (*plenum/topo.area).edge (function 23) -/
abbrev f_topo_area_edge_obj.R := T_api_Edge × Bool
noncomputable def f_topo_area_edge_obj (a0 : T_topo_area) (a1 : T_api_Lsa) (a2 : T_api_Link) : Option f_topo_area_edge_obj.R := (if a2.f_Kind = 1 then (((((f_topo_back (mGetD (⟨(⟨0, 0, 0, 0, 0, 0, 0⟩ : T_api_Head), 0, [], 0, [], []⟩ : T_api_Lsa) a0.f_router a2.f_Id) 1 a1.f_Head.f_Id).bind fun (t9, t10) => some (.inl t10)) : Option (Sum (Bool) f_topo_area_edge_obj.R))).bind fun y1 => match y1 with | .inl s1 => some ((⟨(⟨1, a1.f_Head.f_Id⟩ : T_api_Vert), (⟨1, a2.f_Id⟩ : T_api_Vert), a2.f_Cost, a2.f_Data⟩ : T_api_Edge), s1) | .inr r_ => some r_) else (if a2.f_Kind = 2 then (if (mHas a0.f_network a2.f_Id) = true then ((f_slices_Contains_int_int ((mGetD (⟨(⟨0, 0, 0, 0, 0, 0, 0⟩ : T_api_Head), 0, [], 0, [], []⟩ : T_api_Lsa) a0.f_network a2.f_Id).f_Routers) a1.f_Head.f_Id).bind fun t12 => some ((⟨(⟨1, a1.f_Head.f_Id⟩ : T_api_Vert), (⟨2, a2.f_Id⟩ : T_api_Vert), a2.f_Cost, a2.f_Data⟩ : T_api_Edge), t12)) else some ((⟨(⟨1, a1.f_Head.f_Id⟩ : T_api_Vert), (⟨2, a2.f_Id⟩ : T_api_Vert), a2.f_Cost, a2.f_Data⟩ : T_api_Edge), false)) else some ((⟨(⟨1, a1.f_Head.f_Id⟩ : T_api_Vert), (⟨0, 0⟩ : T_api_Vert), a2.f_Cost, a2.f_Data⟩ : T_api_Edge), false)))
set_option maxHeartbeats 1000000 in
theorem f_topo_area_edge_obj.ok {z w : World} {F G : Hp} (hG : G ⊆ F) {a0 : T_topo_area} {g_a0 : Nat} {A_a0_0 : Option Addr} {c_a0_0 : Nat} {L_a0_0 : Hp} {A_a0_1 : Option Addr} {c_a0_1 : Nat} {L_a0_1 : Hp} {A_a0_2 : Option Addr} {c_a0_2 : Nat} {L_a0_2 : Hp} {A_a0_3 : Option Addr} {c_a0_3 : Nat} {L_a0_3 : Hp} {a1 : T_api_Lsa} {A_a1_8 : Option Addr} {c_a1_8 : Nat} {X_a1_8 : Hp} {A_a1_10 : Option Addr} {c_a1_10 : Nat} {X_a1_10 : Hp} {A_a1_11 : Option Addr} {c_a1_11 : Nat} {X_a1_11 : Hp} {a2 : T_api_Link} {r : f_topo_area_edge_obj.R} (H : f_topo_area_edge_obj a0 a1 a2 = some r) (HF : Fits z w (bk g_a0 61 [.slice A_a0_0 a0.f_routers.length c_a0_0, .slice A_a0_1 a0.f_networks.length c_a0_1, mapV A_a0_2, mapV A_a0_3] :: (L_a0_0 ++ (L_a0_1 ++ (L_a0_2 ++ (L_a0_3 ++ F)))))) (ho_a0_0 : OwnS (kShr G k_T_api_Lsa) L_a0_0 A_a0_0 c_a0_0 a0.f_routers) (ho_a0_1 : OwnS (kShr G k_T_api_Lsa) L_a0_1 A_a0_1 c_a0_1 a0.f_networks) (ho_a0_2 : OwnM (kShr G k_T_api_Lsa) L_a0_2 A_a0_2 c_a0_2 a0.f_router) (ho_a0_3 : OwnM (kShr G k_T_api_Lsa) L_a0_3 A_a0_3 c_a0_3 a0.f_network) (hX_a1_8 : X_a1_8 ⊆ F) (hr_a1_8 : RdS k_T_api_Link X_a1_8 A_a1_8 c_a1_8 a1.f_Links) (hX_a1_10 : X_a1_10 ⊆ F) (hr_a1_10 : RdS (kInt .i64) X_a1_10 A_a1_10 c_a1_10 a1.f_Routers) (hX_a1_11 : X_a1_11 ⊆ F) (hr_a1_11 : RdS k_T_api_Vert X_a1_11 A_a1_11 c_a1_11 a1.f_Verts) :
  Calls Try.prog 23 [.pointer (some ⟨g_a0, 0, none⟩), .agg [.int .i64 a1.f_Head.f_Age, .int .i64 a1.f_Head.f_Kind, .int .i64 a1.f_Head.f_Id, .int .i64 a1.f_Head.f_Adv, .int .i64 a1.f_Head.f_Seq, .int .i64 a1.f_Head.f_Sum, .int .i64 a1.f_Head.f_Len, .int .i64 a1.f_Flags, .slice A_a1_8 a1.f_Links.length c_a1_8, .int .i64 a1.f_Bits, .slice A_a1_10 a1.f_Routers.length c_a1_10, .slice A_a1_11 a1.f_Verts.length c_a1_11].toArray, .agg [.int .i64 a2.f_Kind, .int .i64 a2.f_Id, .int .i64 a2.f_Data, .int .i64 a2.f_Cost].toArray].toArray w fun e w' => e = .returned (.tuple #[.agg [.int .i64 r.1.f_From.f_Kind, .int .i64 r.1.f_From.f_Id, .int .i64 r.1.f_To.f_Kind, .int .i64 r.1.f_To.f_Id, .int .i64 r.1.f_Cost, .int .i64 r.1.f_Data].toArray, .bool r.2]) ∧ Fits z w' (bk g_a0 61 [.slice A_a0_0 a0.f_routers.length c_a0_0, .slice A_a0_1 a0.f_networks.length c_a0_1, mapV A_a0_2, mapV A_a0_3] :: (L_a0_0 ++ (L_a0_1 ++ (L_a0_2 ++ (L_a0_3 ++ F))))) := by
 unfold f_topo_area_edge_obj at H
 refine enter0 Try.func23 rfl Try.ntmps23 rfl (E := [(0, .pointer (some ⟨g_a0, 0, none⟩)), (1, .agg [.int .i64 a1.f_Head.f_Age, .int .i64 a1.f_Head.f_Kind, .int .i64 a1.f_Head.f_Id, .int .i64 a1.f_Head.f_Adv, .int .i64 a1.f_Head.f_Seq, .int .i64 a1.f_Head.f_Sum, .int .i64 a1.f_Head.f_Len, .int .i64 a1.f_Flags, .slice A_a1_8 a1.f_Links.length c_a1_8, .int .i64 a1.f_Bits, .slice A_a1_10 a1.f_Routers.length c_a1_10, .slice A_a1_11 a1.f_Verts.length c_a1_11].toArray), (2, .agg [.int .i64 a2.f_Kind, .int .i64 a2.f_Id, .int .i64 a2.f_Data, .int .i64 a2.f_Cost].toArray)]) rfl ?_
 refine cSeq (fun K1 hK1 => ?_)
 refine cRgn [] trivial ?_
 refine eW (oBox HF rfl) rfl ?_
 rintro _ w1 ⟨g1, rfl, HF1⟩
 refine eW (oBox HF1 rfl) rfl ?_
 rintro _ w2 ⟨g2, rfl, HF2⟩
 refine eW (oAlloc HF2 ti37) rfl ?_
 rintro _ w3 ⟨g3, rfl, HF3⟩
 refine sL (asg rfl) rfl ?_
 refine lE ?_
 refine kN (?_)
 refine hK1 _ _ ?_
 refine cSeq (fun K2 hK2 => ?_)
 refine cRgn [] trivial ?_
 refine sL (fa44_0 rfl) rfl ?_
 refine sL (fa41_2 rfl) rfl ?_
 refine sL (ld rfl Try.underlying3 rfl (HF3.box (mem_c (mem_c mem_h)) rfl)) rfl ?_
 refine sL (bd (r := [.int .i64 1, .int .i64 a1.f_Head.f_Id]) pl35 ti35 rfl rfl) rfl ?_
 refine sL (fa56_3 rfl) rfl ?_
 refine sL (ld rfl Try.underlying3 rfl (HF3.box (mem_c mem_h) rfl)) rfl ?_
 refine sL (fa56_2 rfl) rfl ?_
 refine sL (ld rfl Try.underlying3 rfl (HF3.box (mem_c mem_h) rfl)) rfl ?_
 refine sL (bd (r := [.int .i64 1, .int .i64 a1.f_Head.f_Id, .int .i64 0, .int .i64 0, .int .i64 a2.f_Cost, .int .i64 a2.f_Data]) pl37 ti37 rfl rfl) rfl ?_
 refine eW (oAlloc HF3 ti37) rfl ?_
 rintro _ w4 ⟨g4, rfl, HF4⟩
 refine eS (oSt (l1 := [.int .i64 1, .int .i64 a1.f_Head.f_Id, .int .i64 0, .int .i64 0, .int .i64 a2.f_Cost, .int .i64 a2.f_Data]) HF4 rfl rfl ti37 rfl (ones rfl) (Nat.le_of_ble_eq_true rfl) rfl) ?_
 rintro w5 HF5
 refine lE ?_
 refine kN (?_)
 refine hK2 _ _ ?_
 refine cSeq (fun K3 hK3 => ?_)
 refine cSeq (fun K4 hK4 => ?_)
 refine cRgn [] trivial ?_
 refine sL (fa56_0 rfl) rfl ?_
 refine sL (ld rfl Try.underlying3 rfl (HF5.box (mem_c (mem_c mem_h)) rfl)) rfl ?_
 refine lE ?_
 refine kN (?_)
 refine hK4 _ _ ?_
 refine cBlock ?_
 refine cSeq (fun K5 hK5 => ?_)
 refine cRgn [] trivial ?_
 refine sL (bEql rfl rfl) rfl ?_
 refine sL (asg rfl) rfl ?_
 refine lE ?_
 refine kN (?_)
 refine hK5 _ _ ?_
 by_cases c1 : a2.f_Kind = 1
 ·replace H := itT c1 H
  refine cSet (i := 24) rfl (dT c1) ?_
  refine cT rfl ?_
  refine cSeq (fun K6 hK6 => ?_)
  replace H := bnd H; obtain ⟨y1, H, Ho1⟩ := H
  refine cJoin (y := y1) (fun (s1 : Bool) a w => Env 73 [(5, .pointer (some ⟨g2, 0, none⟩)), (6, .pointer (some ⟨g3, 0, none⟩)), (7, .bool false), (8, .pointer (some ⟨g4, 0, none⟩)), (10, .bool s1)] a ∧ Fits z w (bk g4 37 [.int .i64 1, .int .i64 a1.f_Head.f_Id, .int .i64 0, .int .i64 0, .int .i64 a2.f_Cost, .int .i64 a2.f_Data] :: (bk g3 37 [.int .i64 0, .int .i64 0, .int .i64 0, .int .i64 0, .int .i64 0, .int .i64 0] :: (bk g2 56 [.int .i64 a2.f_Kind, .int .i64 a2.f_Id, .int .i64 a2.f_Data, .int .i64 a2.f_Cost] :: (bk g_a0 61 [.slice A_a0_0 a0.f_routers.length c_a0_0, .slice A_a0_1 a0.f_networks.length c_a0_1, mapV A_a0_2, mapV A_a0_3] :: (L_a0_0 ++ (L_a0_1 ++ (L_a0_2 ++ (L_a0_3 ++ F))))))))) ?_ ?_
  ·refine cDraw mo_ HF5 rfl (fun w => Fits z w (bk g4 37 [.int .i64 1, .int .i64 a1.f_Head.f_Id, .int .i64 0, .int .i64 0, .int .i64 a2.f_Cost, .int .i64 a2.f_Data] :: (bk g3 37 [.int .i64 0, .int .i64 0, .int .i64 0, .int .i64 0, .int .i64 0, .int .i64 0] :: (bk g2 56 [.int .i64 a2.f_Kind, .int .i64 a2.f_Id, .int .i64 a2.f_Data, .int .i64 a2.f_Cost] :: (bk g1 44 [.int .i64 a1.f_Head.f_Age, .int .i64 a1.f_Head.f_Kind, .int .i64 a1.f_Head.f_Id, .int .i64 a1.f_Head.f_Adv, .int .i64 a1.f_Head.f_Seq, .int .i64 a1.f_Head.f_Sum, .int .i64 a1.f_Head.f_Len, .int .i64 a1.f_Flags, .slice A_a1_8 a1.f_Links.length c_a1_8, .int .i64 a1.f_Bits, .slice A_a1_10 a1.f_Routers.length c_a1_10, .slice A_a1_11 a1.f_Verts.length c_a1_11] :: (bk g_a0 61 [.slice A_a0_0 a0.f_routers.length c_a0_0, .slice A_a0_1 a0.f_networks.length c_a0_1, mapV A_a0_2, mapV A_a0_3] :: (L_a0_0 ++ (L_a0_1 ++ (L_a0_2 ++ (L_a0_3 ++ F)))))))))) (fun w19 HF31 => ?_)
   refine hT 0 rfl (by kernel_rfl) (fun w_ hS_ => mv rfl) HF31 rfl rfl ?_
   refine hT 1 rfl (by kernel_rfl) (fun w_ hS_ => nc rfl) HF31 rfl rfl ?_
   refine hT 2 rfl (by kernel_rfl) (fun w_ hS_ => fa61_2 rfl) HF31 rfl rfl ?_
   refine hT 3 rfl (by kernel_rfl) (fun w_ hS_ => ld rfl Try.underlying59 rfl (hS_.box (mem_c (mem_c (mem_c (mem_c mem_h)))) rfl)) HF31 rfl rfl ?_
   refine hT 4 rfl (by kernel_rfl) (fun w_ hS_ => fa56_1 rfl) HF31 rfl rfl ?_
   refine hT 5 rfl (by kernel_rfl) (fun w_ hS_ => ld rfl Try.underlying3 rfl (hS_.box (mem_c (mem_c mem_h)) rfl)) HF31 rfl rfl ?_
   obtain ⟨e10, q9, q10, _, hk5⟩ := lookB (z := z) (⟨(⟨0, 0, 0, 0, 0, 0, 0⟩ : T_api_Head), 0, [], 0, [], []⟩ : T_api_Lsa) a2.f_Id ho_a0_2 Try.underlying59 Try.underlying3 ti44 ⟨rfl, mk_T_api_Lsa (x := (⟨(⟨0, 0, 0, 0, 0, 0, 0⟩ : T_api_Head), 0, [], 0, [], []⟩ : T_api_Lsa)) RdS.nil RdS.nil RdS.nil⟩
   obtain ⟨A13, c14, A14, c15, A15, c16, rfl, hr13, hr14, hr15⟩ := rd_T_api_Lsa hk5
   refine hT 6 rfl (by kernel_rfl) (fun w_ hS_ => lookR (q10 hS_ (sub_c (sub_c (sub_c (sub_c (sub_c (sub_a (sub_a sub_h)))))))) rfl rfl) HF31 rfl rfl ?_
   refine hT 7 rfl (by kernel_rfl) (fun w_ hS_ => fa44_0 rfl) HF31 rfl rfl ?_
   refine hT 8 rfl (by kernel_rfl) (fun w_ hS_ => fa41_2 rfl) HF31 rfl rfl ?_
   refine hT 9 rfl (by kernel_rfl) (fun w_ hS_ => ld rfl Try.underlying3 rfl (hS_.box (mem_c (mem_c (mem_c mem_h))) rfl)) HF31 rfl rfl ?_
   refine h2 10 14 (by kernel_rfl) rfl rfl ?_ ?_
   ·replace H := bnd H; obtain ⟨⟨t9, t10⟩, J5, H⟩ := H
    refine qCall rfl gd0 isf26 rfl rfl rfl (f_topo_back.ok (a0 := (mGetD (⟨(⟨0, 0, 0, 0, 0, 0, 0⟩ : T_api_Head), 0, [], 0, [], []⟩ : T_api_Lsa) a0.f_router a2.f_Id)) (sub_c (sub_c (sub_c (sub_c (sub_c (sub_a (sub_a (sub_a (sub_a hG))))))))) J5 HF31 (sub_c (sub_c (sub_c (sub_c (sub_c (sub_a (sub_a (sub_a (sub_a hG))))))))) hr13 (sub_c (sub_c (sub_c (sub_c (sub_c (sub_a (sub_a (sub_a (sub_a hG))))))))) hr14 (sub_c (sub_c (sub_c (sub_c (sub_c (sub_a (sub_a (sub_a (sub_a hG))))))))) hr15) ?_
    rintro _ w20 ⟨rfl, HF32⟩
    refine ⟨_, rfl, HF32, ?_⟩
    refine hT 11 rfl (by kernel_rfl) (fun w_ hS_ => mv rfl) HF32 rfl rfl ?_
    refine hT 12 rfl (by kernel_rfl) (fun w_ hS_ => ex rfl rfl) HF32 rfl rfl ?_
    refine hT 13 rfl (by kernel_rfl) (fun w_ hS_ => ex rfl rfl) HF32 rfl rfl ?_
    refine h1 14 (by kernel_rfl) rfl ?_
    refine qW rfl gd0 (oAlloc HF32 ti56) rfl ?_
    rintro _ w21 ⟨g9, rfl, HF33⟩
    have HF34 := HF33.sublist (sl_dc (sl_c (sl_c (sl_c (sl_c (sl_c (sl_a (sl_a (sl_a (sl_a sR))))))))))
    refine ⟨HF34, ?_⟩
    refine h1 15 (by kernel_rfl) rfl ?_
    refine qS rfl gd0 (oSt (l1 := [.int .i64 t9.f_Kind, .int .i64 t9.f_Id, .int .i64 t9.f_Data, .int .i64 t9.f_Cost]) HF33 rfl rfl ti56 rfl (ones rfl) (Nat.le_of_ble_eq_true rfl) rfl) ?_
    rintro w22 HF35
    have HF36 := HF35.sublist (sl_dc (sl_c (sl_c (sl_c (sl_c (sl_c (sl_a (sl_a (sl_a (sl_a sR))))))))))
    refine ⟨HF36, ?_⟩
    refine hT 16 rfl (by kernel_rfl) (fun w_ hS_ => asg rfl) HF36 rfl rfl ?_
    refine hEnd (by kernel_rfl) ?_
    refine kN (?_)
    have HF37 := HF35.sublist (sl_dc (sl_c (sl_c (sl_c (sl_dc (sl_c (sl_a (sl_a (sl_a (sl_a sR))))))))))
    exact ofEnv (fun a hE => ⟨_, (Option.some.inj H).symm, ⟨hE.keep (Keep.cons rfl (Keep.cons rfl (Keep.cons rfl (Keep.cons rfl (Keep.cons rfl (Keep.nil)))))), HF37⟩⟩)
   refine qW rfl gd0 (oAlloc HF31 ti56) rfl ?_
   rintro _ w20 ⟨g9, rfl, HF32⟩
   have HF33 := HF32.sublist (sl_dc (sl_c (sl_c (sl_c (sl_c (sl_c (sl_a (sl_a (sl_a (sl_a sR))))))))))
   refine ⟨HF33, ?_⟩
   refine h1 10 (by kernel_rfl) rfl ?_
   replace H := bnd H; obtain ⟨⟨t9, t10⟩, J5, H⟩ := H
   refine qCall rfl gd0 isf26 rfl rfl rfl (f_topo_back.ok (a0 := (mGetD (⟨(⟨0, 0, 0, 0, 0, 0, 0⟩ : T_api_Head), 0, [], 0, [], []⟩ : T_api_Lsa) a0.f_router a2.f_Id)) (sub_c (sub_c (sub_c (sub_c (sub_c (sub_c (sub_a (sub_a (sub_a (sub_a hG)))))))))) J5 HF32 (sub_c (sub_c (sub_c (sub_c (sub_c (sub_c (sub_a (sub_a (sub_a (sub_a hG)))))))))) hr13 (sub_c (sub_c (sub_c (sub_c (sub_c (sub_c (sub_a (sub_a (sub_a (sub_a hG)))))))))) hr14 (sub_c (sub_c (sub_c (sub_c (sub_c (sub_c (sub_a (sub_a (sub_a (sub_a hG)))))))))) hr15) ?_
   rintro _ w21 ⟨rfl, HF34⟩
   have HF35 := HF34.sublist (sl_dc (sl_c (sl_c (sl_c (sl_c (sl_c (sl_a (sl_a (sl_a (sl_a sR))))))))))
   refine ⟨_, rfl, HF35, ?_⟩
   refine hT 11 rfl (by kernel_rfl) (fun w_ hS_ => mv rfl) HF35 rfl rfl ?_
   refine hT 12 rfl (by kernel_rfl) (fun w_ hS_ => ex rfl rfl) HF35 rfl rfl ?_
   refine hT 13 rfl (by kernel_rfl) (fun w_ hS_ => ex rfl rfl) HF35 rfl rfl ?_
   refine h1 15 (by kernel_rfl) rfl ?_
   refine qS rfl gd0 (oSt (l1 := [.int .i64 t9.f_Kind, .int .i64 t9.f_Id, .int .i64 t9.f_Data, .int .i64 t9.f_Cost]) HF34 rfl rfl ti56 rfl (ones rfl) (Nat.le_of_ble_eq_true rfl) rfl) ?_
   rintro w22 HF36
   have HF37 := HF36.sublist (sl_dc (sl_c (sl_c (sl_c (sl_c (sl_c (sl_a (sl_a (sl_a (sl_a sR))))))))))
   refine ⟨HF37, ?_⟩
   refine hT 16 rfl (by kernel_rfl) (fun w_ hS_ => asg rfl) HF37 rfl rfl ?_
   refine hEnd (by kernel_rfl) ?_
   refine kN (?_)
   have HF38 := HF36.sublist (sl_dc (sl_c (sl_c (sl_c (sl_dc (sl_c (sl_a (sl_a (sl_a (sl_a sR))))))))))
   exact ofEnv (fun a hE => ⟨_, (Option.some.inj H).symm, ⟨hE.keep (Keep.cons rfl (Keep.cons rfl (Keep.cons rfl (Keep.cons rfl (Keep.cons rfl (Keep.nil)))))), HF38⟩⟩)
  rintro s1 a w23 rfl ⟨hE, HF39⟩
  replace H := Ho1
  refine go_k hE ?_
  refine kN (?_)
  refine hK6 _ _ ?_
  refine cSeq (fun K7 hK7 => ?_)
  refine cRgn [] trivial ?_
  refine sL (fa56_1 rfl) rfl ?_
  refine sL (ld rfl Try.underlying3 rfl (HF39.box (mem_c (mem_c mem_h)) rfl)) rfl ?_
  refine sL (bd (r := [.int .i64 1, .int .i64 a2.f_Id]) pl35 ti35 rfl rfl) rfl ?_
  refine sL (fa37_1 rfl) rfl ?_
  refine eS (oSt (l1 := [.int .i64 1, .int .i64 a1.f_Head.f_Id, .int .i64 1, .int .i64 a2.f_Id, .int .i64 a2.f_Cost, .int .i64 a2.f_Data]) HF39 rfl rfl ti35 rfl (ones rfl) (Nat.le_of_ble_eq_true rfl) rfl) ?_
  rintro w24 HF40
  refine lE ?_
  refine kN (?_)
  refine hK7 _ _ ?_
  refine cSeq (fun K8 hK8 => ?_)
  refine cRgn [] trivial ?_
  refine sL (ldA (cs := [.int .i64 1, .int .i64 a1.f_Head.f_Id, .int .i64 1, .int .i64 a2.f_Id, .int .i64 a2.f_Cost, .int .i64 a2.f_Data]) rfl ti37 rfl rfl (HF40.boxes (o := 0) (n := 6) (mem_h) rfl)) rfl ?_
  refine sL (mv rfl) rfl ?_
  have HF41 := HF40.perm (perm_c1 pR)
  refine eS (oSt (l1 := [.int .i64 1, .int .i64 a1.f_Head.f_Id, .int .i64 1, .int .i64 a2.f_Id, .int .i64 a2.f_Cost, .int .i64 a2.f_Data]) HF41 rfl rfl ti37 rfl (ones rfl) (Nat.le_of_ble_eq_true rfl) rfl) ?_
  rintro w25 HF42
  refine sL (asg rfl) rfl ?_
  refine lE ?_
  refine kN (?_)
  refine hK8 _ _ ?_
  refine cRet ?_
  obtain rfl := Option.some.inj H
  refine jR (kR (?_))
  refine retB rfl (rvC rfl (lvA (cs := [.int .i64 1, .int .i64 a1.f_Head.f_Id, .int .i64 1, .int .i64 a2.f_Id, .int .i64 a2.f_Cost, .int .i64 a2.f_Data]) ti37 rfl rfl (HF42.boxes (o := 0) (n := 6) (mem_h) rfl))) rfl ?_
  have HF43 := HF42.sublist (sl_dc (sl_dc (sl_dc (sl_c (sl_a (sl_a (sl_a (sl_a sR))))))))
  exact ⟨rfl, HF43⟩
 replace H := itF c1 H
 refine cSet (i := 24) rfl (dF c1) ?_
 refine cF rfl ?_
 refine cSeq (fun K9 hK9 => ?_)
 refine cRgn [] trivial ?_
 refine sL (bEql rfl rfl) rfl ?_
 refine sL (asg rfl) rfl ?_
 refine lE ?_
 refine kN (?_)
 refine hK9 _ _ ?_
 by_cases c17 : a2.f_Kind = 2
 ·replace H := itT c17 H
  refine cSet (i := 46) rfl (dT c17) ?_
  refine cT rfl ?_
  refine cSeq (fun K10 hK10 => ?_)
  refine cDraw mo_ HF5 rfl (fun w => Fits z w (bk g4 37 [.int .i64 1, .int .i64 a1.f_Head.f_Id, .int .i64 0, .int .i64 0, .int .i64 a2.f_Cost, .int .i64 a2.f_Data] :: (bk g3 37 [.int .i64 0, .int .i64 0, .int .i64 0, .int .i64 0, .int .i64 0, .int .i64 0] :: (bk g2 56 [.int .i64 a2.f_Kind, .int .i64 a2.f_Id, .int .i64 a2.f_Data, .int .i64 a2.f_Cost] :: (bk g1 44 [.int .i64 a1.f_Head.f_Age, .int .i64 a1.f_Head.f_Kind, .int .i64 a1.f_Head.f_Id, .int .i64 a1.f_Head.f_Adv, .int .i64 a1.f_Head.f_Seq, .int .i64 a1.f_Head.f_Sum, .int .i64 a1.f_Head.f_Len, .int .i64 a1.f_Flags, .slice A_a1_8 a1.f_Links.length c_a1_8, .int .i64 a1.f_Bits, .slice A_a1_10 a1.f_Routers.length c_a1_10, .slice A_a1_11 a1.f_Verts.length c_a1_11] :: (bk g_a0 61 [.slice A_a0_0 a0.f_routers.length c_a0_0, .slice A_a0_1 a0.f_networks.length c_a0_1, mapV A_a0_2, mapV A_a0_3] :: (L_a0_0 ++ (L_a0_1 ++ (L_a0_2 ++ (L_a0_3 ++ F)))))))))) (fun w28 HF48 => ?_)
  refine hT 0 rfl (by kernel_rfl) (fun w_ hS_ => mv rfl) HF48 rfl rfl ?_
  refine hT 1 rfl (by kernel_rfl) (fun w_ hS_ => nc rfl) HF48 rfl rfl ?_
  refine hT 2 rfl (by kernel_rfl) (fun w_ hS_ => fa61_3 rfl) HF48 rfl rfl ?_
  refine hT 3 rfl (by kernel_rfl) (fun w_ hS_ => ld rfl Try.underlying59 rfl (hS_.box (mem_c (mem_c (mem_c (mem_c mem_h)))) rfl)) HF48 rfl rfl ?_
  refine hT 4 rfl (by kernel_rfl) (fun w_ hS_ => fa56_1 rfl) HF48 rfl rfl ?_
  refine hT 5 rfl (by kernel_rfl) (fun w_ hS_ => ld rfl Try.underlying3 rfl (hS_.box (mem_c (mem_c mem_h)) rfl)) HF48 rfl rfl ?_
  obtain ⟨e14, q13, q14, _, hk7⟩ := lookB (z := z) (⟨(⟨0, 0, 0, 0, 0, 0, 0⟩ : T_api_Head), 0, [], 0, [], []⟩ : T_api_Lsa) a2.f_Id ho_a0_3 Try.underlying59 Try.underlying3 ti44 ⟨rfl, mk_T_api_Lsa (x := (⟨(⟨0, 0, 0, 0, 0, 0, 0⟩ : T_api_Head), 0, [], 0, [], []⟩ : T_api_Lsa)) RdS.nil RdS.nil RdS.nil⟩
  obtain ⟨A19, c21, A20, c22, A21, c23, rfl, hr19, hr20, hr21⟩ := rd_T_api_Lsa hk7
  refine hT 6 rfl (by kernel_rfl) (fun w_ hS_ => lookR (q13 hS_ (sub_c (sub_c (sub_c (sub_c (sub_c (sub_a (sub_a (sub_a sub_h))))))))) rfl rfl) HF48 rfl rfl ?_
  refine hT 7 rfl (by kernel_rfl) (fun w_ hS_ => mv rfl) HF48 rfl rfl ?_
  refine hT 8 rfl (by kernel_rfl) (fun w_ hS_ => ex rfl rfl) HF48 rfl rfl ?_
  refine hT 9 rfl (by kernel_rfl) (fun w_ hS_ => ex rfl rfl) HF48 rfl rfl ?_
  refine h1 10 (by kernel_rfl) rfl ?_
  refine qW rfl gd0 (oAlloc HF48 ti44) rfl ?_
  rintro _ w29 ⟨g11, rfl, HF49⟩
  have HF50 := HF49.sublist (sl_dc (sl_c (sl_c (sl_c (sl_c (sl_c (sl_a (sl_a (sl_a (sl_a sR))))))))))
  refine ⟨HF50, ?_⟩
  refine h1 11 (by kernel_rfl) rfl ?_
  refine qS rfl gd0 (oSt (l1 := [.int .i64 ((mGetD (⟨(⟨0, 0, 0, 0, 0, 0, 0⟩ : T_api_Head), 0, [], 0, [], []⟩ : T_api_Lsa) a0.f_network a2.f_Id).f_Head.f_Age), .int .i64 ((mGetD (⟨(⟨0, 0, 0, 0, 0, 0, 0⟩ : T_api_Head), 0, [], 0, [], []⟩ : T_api_Lsa) a0.f_network a2.f_Id).f_Head.f_Kind), .int .i64 ((mGetD (⟨(⟨0, 0, 0, 0, 0, 0, 0⟩ : T_api_Head), 0, [], 0, [], []⟩ : T_api_Lsa) a0.f_network a2.f_Id).f_Head.f_Id), .int .i64 ((mGetD (⟨(⟨0, 0, 0, 0, 0, 0, 0⟩ : T_api_Head), 0, [], 0, [], []⟩ : T_api_Lsa) a0.f_network a2.f_Id).f_Head.f_Adv), .int .i64 ((mGetD (⟨(⟨0, 0, 0, 0, 0, 0, 0⟩ : T_api_Head), 0, [], 0, [], []⟩ : T_api_Lsa) a0.f_network a2.f_Id).f_Head.f_Seq), .int .i64 ((mGetD (⟨(⟨0, 0, 0, 0, 0, 0, 0⟩ : T_api_Head), 0, [], 0, [], []⟩ : T_api_Lsa) a0.f_network a2.f_Id).f_Head.f_Sum), .int .i64 ((mGetD (⟨(⟨0, 0, 0, 0, 0, 0, 0⟩ : T_api_Head), 0, [], 0, [], []⟩ : T_api_Lsa) a0.f_network a2.f_Id).f_Head.f_Len), .int .i64 ((mGetD (⟨(⟨0, 0, 0, 0, 0, 0, 0⟩ : T_api_Head), 0, [], 0, [], []⟩ : T_api_Lsa) a0.f_network a2.f_Id).f_Flags), .slice A19 ((mGetD (⟨(⟨0, 0, 0, 0, 0, 0, 0⟩ : T_api_Head), 0, [], 0, [], []⟩ : T_api_Lsa) a0.f_network a2.f_Id).f_Links).length c21, .int .i64 ((mGetD (⟨(⟨0, 0, 0, 0, 0, 0, 0⟩ : T_api_Head), 0, [], 0, [], []⟩ : T_api_Lsa) a0.f_network a2.f_Id).f_Bits), .slice A20 ((mGetD (⟨(⟨0, 0, 0, 0, 0, 0, 0⟩ : T_api_Head), 0, [], 0, [], []⟩ : T_api_Lsa) a0.f_network a2.f_Id).f_Routers).length c22, .slice A21 ((mGetD (⟨(⟨0, 0, 0, 0, 0, 0, 0⟩ : T_api_Head), 0, [], 0, [], []⟩ : T_api_Lsa) a0.f_network a2.f_Id).f_Verts).length c23]) HF49 rfl rfl ti44 rfl (ones rfl) (Nat.le_of_ble_eq_true rfl) rfl) ?_
  rintro w30 HF51
  have HF52 := HF51.sublist (sl_dc (sl_c (sl_c (sl_c (sl_c (sl_c (sl_a (sl_a (sl_a (sl_a sR))))))))))
  refine ⟨HF52, ?_⟩
  refine hT 12 rfl (by kernel_rfl) (fun w_ hS_ => asg rfl) HF52 rfl rfl ?_
  refine hEnd (by kernel_rfl) ?_
  refine kN (?_)
  refine hK10 _ _ ?_
  refine cSeq (fun K11 hK11 => ?_)
  refine cRgn [] trivial ?_
  refine sL (fa56_1 rfl) rfl ?_
  refine sL (ld rfl Try.underlying3 rfl (HF51.box (mem_c (mem_c (mem_c mem_h))) rfl)) rfl ?_
  refine sL (bd (r := [.int .i64 2, .int .i64 a2.f_Id]) pl35 ti35 rfl rfl) rfl ?_
  refine sL (fa37_1 rfl) rfl ?_
  have HF53 := HF51.perm (perm_c1 pR)
  refine eS (oSt (l1 := [.int .i64 1, .int .i64 a1.f_Head.f_Id, .int .i64 2, .int .i64 a2.f_Id, .int .i64 a2.f_Cost, .int .i64 a2.f_Data]) HF53 rfl rfl ti35 rfl (ones rfl) (Nat.le_of_ble_eq_true rfl) rfl) ?_
  rintro w31 HF54
  refine lE ?_
  refine kN (?_)
  refine hK11 _ _ ?_
  refine cSeq (fun K12 hK12 => ?_)
  refine cDraw mo_ HF54 rfl (fun w => Fits z w (bk g4 37 [.int .i64 1, .int .i64 a1.f_Head.f_Id, .int .i64 2, .int .i64 a2.f_Id, .int .i64 a2.f_Cost, .int .i64 a2.f_Data] :: (bk g11 44 [.int .i64 ((mGetD (⟨(⟨0, 0, 0, 0, 0, 0, 0⟩ : T_api_Head), 0, [], 0, [], []⟩ : T_api_Lsa) a0.f_network a2.f_Id).f_Head.f_Age), .int .i64 ((mGetD (⟨(⟨0, 0, 0, 0, 0, 0, 0⟩ : T_api_Head), 0, [], 0, [], []⟩ : T_api_Lsa) a0.f_network a2.f_Id).f_Head.f_Kind), .int .i64 ((mGetD (⟨(⟨0, 0, 0, 0, 0, 0, 0⟩ : T_api_Head), 0, [], 0, [], []⟩ : T_api_Lsa) a0.f_network a2.f_Id).f_Head.f_Id), .int .i64 ((mGetD (⟨(⟨0, 0, 0, 0, 0, 0, 0⟩ : T_api_Head), 0, [], 0, [], []⟩ : T_api_Lsa) a0.f_network a2.f_Id).f_Head.f_Adv), .int .i64 ((mGetD (⟨(⟨0, 0, 0, 0, 0, 0, 0⟩ : T_api_Head), 0, [], 0, [], []⟩ : T_api_Lsa) a0.f_network a2.f_Id).f_Head.f_Seq), .int .i64 ((mGetD (⟨(⟨0, 0, 0, 0, 0, 0, 0⟩ : T_api_Head), 0, [], 0, [], []⟩ : T_api_Lsa) a0.f_network a2.f_Id).f_Head.f_Sum), .int .i64 ((mGetD (⟨(⟨0, 0, 0, 0, 0, 0, 0⟩ : T_api_Head), 0, [], 0, [], []⟩ : T_api_Lsa) a0.f_network a2.f_Id).f_Head.f_Len), .int .i64 ((mGetD (⟨(⟨0, 0, 0, 0, 0, 0, 0⟩ : T_api_Head), 0, [], 0, [], []⟩ : T_api_Lsa) a0.f_network a2.f_Id).f_Flags), .slice A19 ((mGetD (⟨(⟨0, 0, 0, 0, 0, 0, 0⟩ : T_api_Head), 0, [], 0, [], []⟩ : T_api_Lsa) a0.f_network a2.f_Id).f_Links).length c21, .int .i64 ((mGetD (⟨(⟨0, 0, 0, 0, 0, 0, 0⟩ : T_api_Head), 0, [], 0, [], []⟩ : T_api_Lsa) a0.f_network a2.f_Id).f_Bits), .slice A20 ((mGetD (⟨(⟨0, 0, 0, 0, 0, 0, 0⟩ : T_api_Head), 0, [], 0, [], []⟩ : T_api_Lsa) a0.f_network a2.f_Id).f_Routers).length c22, .slice A21 ((mGetD (⟨(⟨0, 0, 0, 0, 0, 0, 0⟩ : T_api_Head), 0, [], 0, [], []⟩ : T_api_Lsa) a0.f_network a2.f_Id).f_Verts).length c23] :: (bk g2 56 [.int .i64 a2.f_Kind, .int .i64 a2.f_Id, .int .i64 a2.f_Data, .int .i64 a2.f_Cost] :: (bk g1 44 [.int .i64 a1.f_Head.f_Age, .int .i64 a1.f_Head.f_Kind, .int .i64 a1.f_Head.f_Id, .int .i64 a1.f_Head.f_Adv, .int .i64 a1.f_Head.f_Seq, .int .i64 a1.f_Head.f_Sum, .int .i64 a1.f_Head.f_Len, .int .i64 a1.f_Flags, .slice A_a1_8 a1.f_Links.length c_a1_8, .int .i64 a1.f_Bits, .slice A_a1_10 a1.f_Routers.length c_a1_10, .slice A_a1_11 a1.f_Verts.length c_a1_11] :: (bk g_a0 61 [.slice A_a0_0 a0.f_routers.length c_a0_0, .slice A_a0_1 a0.f_networks.length c_a0_1, mapV A_a0_2, mapV A_a0_3] :: (L_a0_0 ++ (L_a0_1 ++ (L_a0_2 ++ (L_a0_3 ++ F)))))))))) (fun w35 HF80 => ?_)
  have HF81 := HF80.sublist (sl_c (sl_c (sl_dc (sl_c (sl_c (sl_c (sl_a (sl_a (sl_a (sl_a sR))))))))))
  refine hT 0 rfl (by kernel_rfl) (fun w_ hS_ => ldA (cs := [.int .i64 1, .int .i64 a1.f_Head.f_Id, .int .i64 2, .int .i64 a2.f_Id, .int .i64 a2.f_Cost, .int .i64 a2.f_Data]) rfl ti37 rfl rfl (hS_.boxes (o := 0) (n := 6) (mem_h) rfl)) HF81 rfl rfl ?_
  refine hT 1 rfl (by kernel_rfl) (fun w_ hS_ => mv rfl) HF81 rfl rfl ?_
  refine hT 2 rfl (by kernel_rfl) (fun w_ hS_ => mv rfl) HF81 rfl rfl ?_
  by_cases c25 : (mHas a0.f_network a2.f_Id) = true
  ·replace H := itT c25 H
   refine hSet (i := 64) rfl (vT c25) ?_
   refine hTG 3 rfl rfl rfl (by kernel_rfl) (fun w_ hS_ => fa44_4 rfl) HF81 rfl rfl ?_
   refine hTG 4 rfl rfl rfl (by kernel_rfl) (fun w_ hS_ => ld rfl Try.underlying30 rfl (hS_.box (mem_c mem_h) rfl)) HF81 rfl rfl ?_
   refine hTG 5 rfl rfl rfl (by kernel_rfl) (fun w_ hS_ => fa44_0 rfl) HF81 rfl rfl ?_
   refine hTG 6 rfl rfl rfl (by kernel_rfl) (fun w_ hS_ => fa41_2 rfl) HF81 rfl rfl ?_
   refine hTG 7 rfl rfl rfl (by kernel_rfl) (fun w_ hS_ => ld rfl Try.underlying3 rfl (hS_.box (mem_c (mem_c (mem_c mem_h))) rfl)) HF81 rfl rfl ?_
   refine h1 8 (by kernel_rfl) rfl ?_
   replace H := bnd H; obtain ⟨t12, J7, H⟩ := H
   refine qCall rfl (gd1 rfl rfl) isf27 rfl rfl rfl (f_slices_Contains_int_int.ok (a0 := (mGetD (⟨(⟨0, 0, 0, 0, 0, 0, 0⟩ : T_api_Head), 0, [], 0, [], []⟩ : T_api_Lsa) a0.f_network a2.f_Id).f_Routers) (sub_c (sub_c (sub_c (sub_c (sub_c (sub_c (sub_a (sub_a (sub_a (sub_a hG)))))))))) J7 HF80 (sub_c (sub_c (sub_c (sub_c (sub_c (sub_c (sub_a (sub_a (sub_a (sub_a hG)))))))))) hr20) ?_
   rintro _ w36 ⟨rfl, HF82⟩
   have HF83 := HF82.sublist (sl_c (sl_c (sl_dc (sl_c (sl_c (sl_c (sl_a (sl_a (sl_a (sl_a sR))))))))))
   refine ⟨_, rfl, HF83, ?_⟩
   refine hT 9 rfl (by kernel_rfl) (fun w_ hS_ => pkT rfl rfl) HF83 rfl rfl ?_
   refine h1 10 (by kernel_rfl) rfl ?_
   have HF84 := HF82.perm (perm_c1 (perm_c1 pR))
   refine qS rfl gd0 (oSt (l1 := [.int .i64 1, .int .i64 a1.f_Head.f_Id, .int .i64 2, .int .i64 a2.f_Id, .int .i64 a2.f_Cost, .int .i64 a2.f_Data]) HF84 rfl rfl ti37 rfl (ones rfl) (Nat.le_of_ble_eq_true rfl) rfl) ?_
   rintro w37 HF85
   have HF86 := HF85.sublist (sl_dc (sl_c (sl_c (sl_c (sl_c (sl_c (sl_a (sl_a (sl_a (sl_a sR))))))))))
   refine ⟨HF86, ?_⟩
   refine hT 11 rfl (by kernel_rfl) (fun w_ hS_ => asg rfl) HF86 rfl rfl ?_
   refine hEnd (by kernel_rfl) ?_
   refine kN (?_)
   refine hK12 _ _ ?_
   refine cRet ?_
   obtain rfl := Option.some.inj H
   refine jR (kR (?_))
   refine retB rfl (rvC rfl (lvA (cs := [.int .i64 1, .int .i64 a1.f_Head.f_Id, .int .i64 2, .int .i64 a2.f_Id, .int .i64 a2.f_Cost, .int .i64 a2.f_Data]) ti37 rfl rfl (HF85.boxes (o := 0) (n := 6) (mem_h) rfl))) rfl ?_
   have HF87 := HF85.sublist (sl_dc (sl_dc (sl_dc (sl_dc (sl_dc (sl_c (sl_a (sl_a (sl_a (sl_a sR))))))))))
   exact ⟨rfl, HF87⟩
  replace H := itF c25 H
  refine hSet (i := 64) rfl (vF c25) ?_
  refine hTN 3 rfl rfl rfl (by kernel_rfl) HF81 rfl rfl ?_
  refine hTN 4 rfl rfl rfl (by kernel_rfl) HF81 rfl rfl ?_
  refine hTN 5 rfl rfl rfl (by kernel_rfl) HF81 rfl rfl ?_
  refine hTN 6 rfl rfl rfl (by kernel_rfl) HF81 rfl rfl ?_
  refine hTN 7 rfl rfl rfl (by kernel_rfl) HF81 rfl rfl ?_
  refine hTN 8 rfl rfl rfl (by kernel_rfl) HF81 rfl rfl ?_
  refine hT 9 rfl (by kernel_rfl) (fun w_ hS_ => pkF rfl rfl) HF81 rfl rfl ?_
  refine h1 10 (by kernel_rfl) rfl ?_
  have HF88 := HF80.perm (perm_c1 (perm_c1 pR))
  refine qS rfl gd0 (oSt (l1 := [.int .i64 1, .int .i64 a1.f_Head.f_Id, .int .i64 2, .int .i64 a2.f_Id, .int .i64 a2.f_Cost, .int .i64 a2.f_Data]) HF88 rfl rfl ti37 rfl (ones rfl) (Nat.le_of_ble_eq_true rfl) rfl) ?_
  rintro w38 HF89
  have HF90 := HF89.sublist (sl_dc (sl_c (sl_c (sl_c (sl_c (sl_c (sl_a (sl_a (sl_a (sl_a sR))))))))))
  refine ⟨HF90, ?_⟩
  refine hT 11 rfl (by kernel_rfl) (fun w_ hS_ => asg rfl) HF90 rfl rfl ?_
  refine hEnd (by kernel_rfl) ?_
  refine kN (?_)
  refine hK12 _ _ ?_
  refine cRet ?_
  obtain rfl := Option.some.inj H
  refine jR (kR (?_))
  refine retB rfl (rvC rfl (lvA (cs := [.int .i64 1, .int .i64 a1.f_Head.f_Id, .int .i64 2, .int .i64 a2.f_Id, .int .i64 a2.f_Cost, .int .i64 a2.f_Data]) ti37 rfl rfl (HF89.boxes (o := 0) (n := 6) (mem_h) rfl))) rfl ?_
  have HF91 := HF89.sublist (sl_dc (sl_dc (sl_dc (sl_dc (sl_dc (sl_c (sl_a (sl_a (sl_a (sl_a sR))))))))))
  exact ⟨rfl, HF91⟩
 replace H := itF c17 H
 refine cSet (i := 46) rfl (dF c17) ?_
 refine cF rfl ?_
 refine cSkip ?_
 refine jN (kN (?_))
 refine hK3 _ _ ?_
 refine cSeq (fun K13 hK13 => ?_)
 refine cRgn [] trivial ?_
 refine sL (ldA (cs := [.int .i64 1, .int .i64 a1.f_Head.f_Id, .int .i64 0, .int .i64 0, .int .i64 a2.f_Cost, .int .i64 a2.f_Data]) rfl ti37 rfl rfl (HF5.boxes (o := 0) (n := 6) (mem_h) rfl)) rfl ?_
 have HF92 := HF5.perm (perm_c1 pR)
 refine eS (oSt (l1 := [.int .i64 1, .int .i64 a1.f_Head.f_Id, .int .i64 0, .int .i64 0, .int .i64 a2.f_Cost, .int .i64 a2.f_Data]) HF92 rfl rfl ti37 rfl (ones rfl) (Nat.le_of_ble_eq_true rfl) rfl) ?_
 rintro w39 HF93
 refine sL (asg rfl) rfl ?_
 refine lE ?_
 refine kN (?_)
 refine hK13 _ _ ?_
 refine cRet ?_
 obtain rfl := Option.some.inj H
 refine retB rfl (rvC rfl (lvA (cs := [.int .i64 1, .int .i64 a1.f_Head.f_Id, .int .i64 0, .int .i64 0, .int .i64 a2.f_Cost, .int .i64 a2.f_Data]) ti37 rfl rfl (HF93.boxes (o := 0) (n := 6) (mem_h) rfl))) rfl ?_
 have HF94 := HF93.sublist (sl_dc (sl_dc (sl_dc (sl_dc (sl_c (sl_a (sl_a (sl_a (sl_a sR)))))))))
 exact ⟨rfl, HF94⟩
/-! ### plenum/addr.Mask (function 50) -/
abbrev f_addr_Mask.R := Int
noncomputable def f_addr_Mask (a0 : Int) : Option f_addr_Mask.R := (if 0 ≤ (IntKind.i64.wrap (32 - (if (if 32 < a0 then 32 else a0) > 0 then (if 32 < a0 then 32 else a0) else 0))) then some (bits .and .i64 (shlI .i64 4294967295 (IntKind.i64.wrap (32 - (if (if 32 < a0 then 32 else a0) > 0 then (if 32 < a0 then 32 else a0) else 0)))) 4294967295) else none)
set_option maxHeartbeats 1000000 in
theorem f_addr_Mask.ok {z w : World} {F : Hp} {a0 : Int} {r : f_addr_Mask.R} (H : f_addr_Mask a0 = some r) (HF : Fits z w F) :
  Calls Try.prog 50 [.int .i64 a0].toArray w fun e w' => e = .returned (.int .i64 r) ∧ Fits z w' F := by
 unfold f_addr_Mask at H
 refine enter0 Try.func50 rfl Try.ntmps50 rfl (E := [(0, .int .i64 a0)]) rfl ?_
 refine cSeq (fun K1 hK1 => ?_)
 refine cRgn [] trivial ?_
 refine sL (asg rfl) rfl ?_
 refine lE ?_
 refine kN (?_)
 refine hK1 _ _ ?_
 refine cSeq (fun K2 hK2 => ?_)
 refine cRgn [] trivial ?_
 refine sL (mv rfl) rfl ?_
 refine sL (mn2 rfl rfl) rfl ?_
 refine sL (mx2 rfl rfl) rfl ?_
 refine sL (bSub rfl rfl) rfl ?_
 replace H := chk H; obtain ⟨c1, H⟩ := H
 refine sL (bShl rfl rfl c1) rfl ?_
 refine sL (bAnd rfl rfl) rfl ?_
 refine sL (asg rfl) rfl ?_
 refine lE ?_
 refine kN (?_)
 refine hK2 _ _ ?_
 refine cRet ?_
 obtain rfl := Option.some.inj H
 refine ret1 rfl rfl ?_
 exact ⟨rfl, HF⟩
/-! ### plenum/addr.Bits (function 24) -/
abbrev f_addr_Bits.R := Int
noncomputable def f_addr_Bits.b0 (a0 : Int) (s1 : Int) : Option (Sum (Int) (Sum (Int) f_addr_Bits.R)) := (if s1 < 33 then ((f_addr_Mask s1).bind fun t3 => (if t3 = a0 then some (.inr (.inr s1)) else some (.inl (IntKind.i64.wrap (s1 + 1))))) else some (.inr (.inl s1)))
noncomputable def f_addr_Bits (a0 : Int) : Option f_addr_Bits.R := ((loopO (f_addr_Bits.b0 a0) 0).bind fun y1 => match y1 with | .inl s1 => some (-1) | .inr r_ => some r_)
set_option maxHeartbeats 1000000 in
theorem f_addr_Bits.ok {z w : World} {F : Hp} {a0 : Int} {r : f_addr_Bits.R} (H : f_addr_Bits a0 = some r) (HF : Fits z w F) :
  Calls Try.prog 24 [.int .i64 a0].toArray w fun e w' => e = .returned (.int .i64 r) ∧ Fits z w' F := by
 unfold f_addr_Bits at H
 refine enter0 Try.func24 rfl Try.ntmps24 rfl (E := [(0, .int .i64 a0)]) rfl ?_
 refine cSeq (fun K1 hK1 => ?_)
 refine cRgn [] trivial ?_
 refine sL (asg rfl) rfl ?_
 refine lE ?_
 refine kN (?_)
 refine hK1 _ _ ?_
 refine cSeq (fun K2 hK2 => ?_)
 refine cSeq (fun K3 hK3 => ?_)
 refine cRgn [] trivial ?_
 refine sL (mv rfl) rfl ?_
 refine lE ?_
 refine kN (?_)
 refine hK3 _ _ ?_
 replace H := bnd H; obtain ⟨y1, J4, Ho1⟩ := H
 refine cLoopB (f_addr_Bits.b0 a0) (fun (s1 : Int) a w => Env 13 [(0, .int .i64 a0), (2, .int .i64 0), (4, .int .i64 s1)] a ∧ Fits z w F) J4 (fun a hE => ⟨hE.keep (Keep.cons rfl (Keep.cons rfl (Keep.cons rfl (Keep.nil)))), HF⟩) ?_ ?_
 ·rintro s1 a w3 y2 ⟨hE, HF3⟩ H Hx1
  refine go_ hE ?_
  refine cSeq (fun K16 hK16 => ?_)
  refine cRgn [] trivial ?_
  refine sL (bLss rfl rfl) rfl ?_
  refine lE ?_
  refine kN (?_)
  refine hK16 _ _ ?_
  refine cSeq (fun K17 hK17 => ?_)
  by_cases c4 : s1 < 33
  ·replace H := itT c4 H
   refine cSet (i := 5) rfl (dT c4) ?_
   refine cT rfl ?_
   refine cSkip ?_
   refine kN (?_)
   refine hK17 _ _ ?_
   refine cSeq (fun K18 hK18 => ?_)
   refine cBlock ?_
   refine cSeq (fun K19 hK19 => ?_)
   refine cRgn [] trivial ?_
   refine sL (mv rfl) rfl ?_
   refine sL (asg rfl) rfl ?_
   refine lE ?_
   refine kN (?_)
   refine hK19 _ _ ?_
   refine cSeq (fun K20 hK20 => ?_)
   refine cRgn [] trivial ?_
   refine sL (mv rfl) rfl ?_
   replace H := bnd H; obtain ⟨t3, J3, H⟩ := H
   refine eCall isf50 rfl rfl rfl (f_addr_Mask.ok J3 HF3) ?_
   rintro _ w4 ⟨rfl, HF4⟩
   refine ⟨_, rfl, ?_⟩
   refine sL (mv rfl) rfl ?_
   refine sL (bEql rfl rfl) rfl ?_
   refine lE ?_
   refine kN (?_)
   refine hK20 _ _ ?_
   by_cases c5 : t3 = a0
   ·replace H := itT c5 H
    refine cSet (i := 10) rfl (dT c5) ?_
    refine cT rfl ?_
    refine cSeq (fun K21 hK21 => ?_)
    refine cRgn [] trivial ?_
    refine sL (mv rfl) rfl ?_
    refine sL (asg rfl) rfl ?_
    refine lE ?_
    refine kN (?_)
    refine hK21 _ _ ?_
    refine cRet ?_
    have e_ := Hx1 _ (Option.some.inj H).symm
    subst e_
    replace H := Ho1
    obtain rfl := Option.some.inj H
    refine jR (kR (kR (jR (kR (kR (?_))))))
    refine ret1 rfl rfl ?_
    exact ⟨rfl, HF4⟩
   replace H := itF c5 H
   refine cSet (i := 10) rfl (dF c5) ?_
   refine cF rfl ?_
   refine cSkip ?_
   refine jN (kN (?_))
   refine hK18 _ _ ?_
   refine cRgn [] trivial ?_
   refine sL (bAdd rfl rfl) rfl ?_
   refine sL (mv rfl) rfl ?_
   refine lE ?_
   refine kN (?_)
   exact ofEnv (fun a hE => ⟨_, (Option.some.inj H).symm, ⟨hE.keep (Keep.cons rfl (Keep.cons rfl (Keep.cons rfl (Keep.nil)))), HF4⟩⟩)
  replace H := itF c4 H
  refine cSet (i := 5) rfl (dF c4) ?_
  refine cF rfl ?_
  refine cExit ?_
  refine kX (kX (jX (kN (?_))))
  exact ofEnv (fun a hE => ⟨_, (Option.some.inj H).symm, ⟨hE.keep (Keep.cons rfl (Keep.cons rfl (Keep.cons rfl (Keep.nil)))), HF3⟩⟩)
 rintro s1 a w5 rfl ⟨hE, HF5⟩
 replace H := Ho1
 refine go_k hE ?_
 refine kN (?_)
 refine hK2 _ _ ?_
 refine cSeq (fun K22 hK22 => ?_)
 refine cRgn [] trivial ?_
 refine sL (asg rfl) rfl ?_
 refine lE ?_
 refine kN (?_)
 refine hK22 _ _ ?_
 refine cRet ?_
 obtain rfl := Option.some.inj H
 refine ret1 rfl rfl ?_
 exact ⟨rfl, HF5⟩
/-! ### plenum/addr.Net (function 25) -/
abbrev f_addr_Net.R := Int
noncomputable def f_addr_Net (a0 : Int) (a1 : Int) : Option f_addr_Net.R := ((f_addr_Mask a1).bind fun t1 => some (bits .and .i64 a0 t1))
set_option maxHeartbeats 1000000 in
theorem f_addr_Net.ok {z w : World} {F : Hp} {a0 : Int} {a1 : Int} {r : f_addr_Net.R} (H : f_addr_Net a0 a1 = some r) (HF : Fits z w F) :
  Calls Try.prog 25 [.int .i64 a0, .int .i64 a1].toArray w fun e w' => e = .returned (.int .i64 r) ∧ Fits z w' F := by
 unfold f_addr_Net at H
 refine enter0 Try.func25 rfl Try.ntmps25 rfl (E := [(0, .int .i64 a0), (1, .int .i64 a1)]) rfl ?_
 refine cSeq (fun K1 hK1 => ?_)
 refine cRgn [] trivial ?_
 refine sL (asg rfl) rfl ?_
 refine lE ?_
 refine kN (?_)
 refine hK1 _ _ ?_
 refine cSeq (fun K2 hK2 => ?_)
 refine cRgn [] trivial ?_
 refine sL (mv rfl) rfl ?_
 refine sL (mv rfl) rfl ?_
 replace H := bnd H; obtain ⟨t1, J1, H⟩ := H
 refine eCall isf50 rfl rfl rfl (f_addr_Mask.ok J1 HF) ?_
 rintro _ w1 ⟨rfl, HF1⟩
 refine ⟨_, rfl, ?_⟩
 refine sL (bAnd rfl rfl) rfl ?_
 refine sL (asg rfl) rfl ?_
 refine lE ?_
 refine kN (?_)
 refine hK2 _ _ ?_
 refine cRet ?_
 obtain rfl := Option.some.inj H
 refine ret1 rfl rfl ?_
 exact ⟨rfl, HF1⟩
end Go.Proofs.Ytbjnbjgiidcfjaa
