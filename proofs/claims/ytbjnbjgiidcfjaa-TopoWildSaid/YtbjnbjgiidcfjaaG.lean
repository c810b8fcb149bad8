/- The walk, part 3. Conditions: none beside each theorem's own. Written by gen.py out of the print of the loaded program. -/
import Derived.Test.YtbjnbjgiidcfjaaG2
import Derived.KernelRfl
set_option linter.unusedVariables false
set_option linter.unusedSimpArgs false
namespace Go.Proofs.Ytbjnbjgiidcfjaa
open Go Go.Proofs.Ytbjnbjgiidcfjaa.Sp

/-! ### plenum/plenumlaw17.TopoWild (function 4) -/
abbrev f_plenumlaw17_TopoWild.R := Bool
noncomputable def f_plenumlaw17_TopoWild.b0 (a0 : List Int) (s1 : (List T_api_Lsa) × Int) : Option (Sum ((List T_api_Lsa) × Int) (Sum ((List T_api_Lsa) × Int) f_plenumlaw17_TopoWild.R)) := (if 0 ≤ s1.2 then (if s1.2 < (a0.length : Int) then (if (s1.1.length + 1) * 144 ≤ 140737488355328 then some (.inl ((s1.1 ++ [(⟨(⟨0, 1, IntKind.i64.wrap (1 + s1.2), IntKind.i64.wrap (1 + s1.2), 0, 0, 0⟩ : T_api_Head), IntKind.i64.wrap (rd a0 s1.2), [], 0, [], []⟩ : T_api_Lsa)]), IntKind.i64.wrap (s1.2 - 1))) else none) else none) else some (.inr (.inl (s1.1, s1.2))))
noncomputable def f_plenumlaw17_TopoWild.b1 (a0 : List Int) (s2 : (List Int) × Int) : Option (Sum ((List Int) × Int) (Sum ((List Int) × Int) f_plenumlaw17_TopoWild.R)) := (if s2.2 < (a0.length : Int) then (if 0 ≤ s2.2 then (if (bits .and .u8 (rd a0 s2.2) 8) = 0 then some (.inl (s2.1, IntKind.i64.wrap (s2.2 + 1))) else (if (s2.1.length + 1) * 8 ≤ 140737488355328 then some (.inl ((s2.1 ++ [IntKind.i64.wrap (1 + s2.2)]), IntKind.i64.wrap (s2.2 + 1))) else none)) else none) else some (.inr (.inl (s2.1, s2.2))))
noncomputable def f_plenumlaw17_TopoWild (a0 : List Int) : Option f_plenumlaw17_TopoWild.R := (if 20 < (a0.length : Int) then ((f_plenumlaw17_awake).bind fun t1 => some t1) else ((loopO (f_plenumlaw17_TopoWild.b0 a0) ([], IntKind.i64.wrap ((a0.length : Int) - 1))).bind fun y1 => match y1 with | .inl s1 => ((loopO (f_plenumlaw17_TopoWild.b1 a0) ([], 0)).bind fun y3 => match y3 with | .inl s2 => ((f_topo_Map s1.1).bind fun t2 => ((f_plenumref1_Ints t2.f_Wilds s2.1).bind fun t3 => (if t3 = true then (if (t2.f_Verts.length : Int) = (a0.length : Int) then ((f_plenumref8_Has t2.f_Wilds 0).bind fun t4 => (if t4 = true then some false else ((f_plenumlaw17_awake).bind fun t5 => some t5))) else some false) else some false))) | .inr r_ => some r_) | .inr r_ => some r_))
set_option maxHeartbeats 1000000 in
theorem f_plenumlaw17_TopoWild.ok {z w : World} {F G : Hp} (hG : G ⊆ F) {a0 : List Int} {A_a0 : Option Addr} {c_a0 : Nat} {X_a0 : Hp} {r : f_plenumlaw17_TopoWild.R} (H : f_plenumlaw17_TopoWild a0 = some r) (HF : Fits z w F) (hX_a0 : X_a0 ⊆ F) (hr_a0 : RdS (kInt .u8) X_a0 A_a0 c_a0 a0) :
    Calls Try.prog 4 [.slice A_a0 a0.length c_a0].toArray w fun e w' => e = .returned (.bool r) ∧ Fits z w' F := by
  unfold f_plenumlaw17_TopoWild at H
  refine enter0 Try.func4 rfl Try.ntmps4 rfl (E := [(0, .slice A_a0 a0.length c_a0)]) rfl ?_
  refine cSeq (fun K1 hK1 => ?_)
  refine cRgn [] trivial ?_
  refine sL (asg rfl) rfl ?_
  refine lEnd (K := fun _ _ => True) ?_
  refine kN (?_)
  refine hK1 _ _ ?_
  refine cSeq (fun K2 hK2 => ?_)
  refine cSeq (fun K3 hK3 => ?_)
  refine cRgn [] trivial ?_
  refine sL (mv rfl) rfl ?_
  refine sL (lnS rfl Try.underlying22) rfl ?_
  refine sL (bGtr rfl rfl) rfl ?_
  refine lEnd (K := fun _ _ => True) ?_
  refine kN (?_)
  refine hK3 _ _ ?_
  by_cases c1 : 20 < (a0.length : Int)
  · replace H := itT c1 H
    refine cSet (i := 10) rfl (dT c1) ?_
    refine cT rfl ?_
    refine cSeq (fun K4 hK4 => ?_)
    refine cRgn [] trivial ?_
    replace H := bnd H; obtain ⟨t1, J1, H⟩ := H
    refine eCall isf10 rfl rfl rfl (f_plenumlaw17_awake.ok hG J1 HF) ?_
    rintro _ w1 ⟨rfl, HF1⟩
    refine ⟨_, rfl, ?_⟩
    refine sL (asg rfl) rfl ?_
    refine lEnd (K := fun _ _ => True) ?_
    refine kN (?_)
    refine hK4 _ _ ?_
    refine cRet ?_
    obtain rfl := Option.some.inj H
    refine kR (?_)
    refine ret1 rfl rfl ?_
    exact ⟨rfl, HF1⟩
  · replace H := itF c1 H
    refine cSet (i := 10) rfl (dF c1) ?_
    refine cF rfl ?_
    refine cSkip ?_
    refine kN (?_)
    refine hK2 _ _ ?_
    refine cSeq (fun K5 hK5 => ?_)
    refine cRgn [] trivial ?_
    refine sL (asg rfl) rfl ?_
    refine lEnd (K := fun _ _ => True) ?_
    refine kN (?_)
    refine hK5 _ _ ?_
    refine cSeq (fun K6 hK6 => ?_)
    refine cRgn [] trivial ?_
    refine sL (asg rfl) rfl ?_
    refine lEnd (K := fun _ _ => True) ?_
    refine kN (?_)
    refine hK6 _ _ ?_
    refine cSeq (fun K7 hK7 => ?_)
    refine cSeq (fun K8 hK8 => ?_)
    refine cRgn [] trivial ?_
    refine sL (mv rfl) rfl ?_
    refine sL (lnS rfl Try.underlying22) rfl ?_
    refine sL (bSub rfl rfl) rfl ?_
    refine sL (asg rfl) rfl ?_
    refine lEnd (K := fun _ _ => True) ?_
    refine kN (?_)
    refine hK8 _ _ ?_
    replace H := bnd H; obtain ⟨y1, J7, Ho1⟩ := H
    refine cLoopB (f_plenumlaw17_TopoWild.b0 a0) (fun (s1 : (List T_api_Lsa) × Int) a w => ∃ (A6 : Option Addr) (c12 : Nat) (L6 : Hp), Env 73 [(0, .slice A_a0 a0.length c_a0), (2, .bool false), (3, .slice A6 s1.1.length c12), (4, .slice none 0 0), (5, .int .i64 s1.2)] a ∧ Fits z w (L6 ++ F) ∧ OwnS (kShr G k_T_api_Lsa) L6 A6 c12 s1.1) J7 (fun a hE => ⟨none, 0, [], hE.keep (Keep.cons rfl (Keep.cons rfl (Keep.cons rfl (Keep.cons rfl (Keep.cons rfl (Keep.nil)))))), HF, OwnS.nil⟩) ?_ ?_
    · rintro s1 a w6 y2 ⟨A6, c12, L6, hE, HF7, ho6⟩ H Hx1
      refine go_ hE ?_
      refine cSeq (fun K15 hK15 => ?_)
      refine cSeq (fun K16 hK16 => ?_)
      refine cRgn [] trivial ?_
      refine sL (mv rfl) rfl ?_
      refine sL (bGeq rfl rfl) rfl ?_
      refine lEnd (K := fun _ _ => True) ?_
      refine kN (?_)
      refine hK16 _ _ ?_
      by_cases c13 : 0 ≤ s1.2
      · replace H := itT c13 H
        refine cSet (i := 16) rfl (dT c13) ?_
        refine cT rfl ?_
        refine cSkip ?_
        refine kN (?_)
        refine hK15 _ _ ?_
        refine cSeq (fun K17 hK17 => ?_)
        refine cBlock ?_
        refine cRgn [] trivial ?_
        refine sL (mv rfl) rfl ?_
        refine sL (mv rfl) rfl ?_
        refine sL (bAdd rfl rfl) rfl ?_
        refine sL (mv rfl) rfl ?_
        refine sL (bAdd rfl rfl) rfl ?_
        refine sL (bd (r := [.int .i64 0, .int .i64 1, .int .i64 (IntKind.i64.wrap (1 + s1.2)), .int .i64 (IntKind.i64.wrap (1 + s1.2)), .int .i64 0, .int .i64 0, .int .i64 0]) pl41 ti41 rfl rfl) rfl ?_
        refine sL (mv rfl) rfl ?_
        refine sL (mv rfl) rfl ?_
        replace H := chk H; obtain ⟨c14, H⟩ := H
        obtain ⟨g3, o3, _, rfl, rfl, q3⟩ := RdS.at_ hr_a0 c13 c14
        refine sL (ia rfl rfl Try.underlying22 ti5 c13 c14) rfl ?_
        refine sL (ld rfl Try.underlying5 rfl (HF7.cells ((sub_a hX_a0)) (q3 0 _ rfl))) rfl ?_
        refine sL (cvI rfl Try.underlying5 Try.underlying3) rfl ?_
        refine sL (bd (r := [.int .i64 0, .int .i64 1, .int .i64 (IntKind.i64.wrap (1 + s1.2)), .int .i64 (IntKind.i64.wrap (1 + s1.2)), .int .i64 0, .int .i64 0, .int .i64 0, .int .i64 (IntKind.i64.wrap (rd a0 s1.2)), .slice none 0 0, .int .i64 0, .slice none 0 0, .slice none 0 0]) pl44 ti44 rfl rfl) rfl ?_
        refine eW (oLit (r := [.int .i64 0, .int .i64 1, .int .i64 (IntKind.i64.wrap (1 + s1.2)), .int .i64 (IntKind.i64.wrap (1 + s1.2)), .int .i64 0, .int .i64 0, .int .i64 0, .int .i64 (IntKind.i64.wrap (rd a0 s1.2)), .slice none 0 0, .int .i64 0, .slice none 0 0, .slice none 0 0]) (kShr G k_T_api_Lsa) [(⟨(⟨0, 1, IntKind.i64.wrap (1 + s1.2), IntKind.i64.wrap (1 + s1.2), 0, 0, 0⟩ : T_api_Head), IntKind.i64.wrap (rd a0 s1.2), [], 0, [], []⟩ : T_api_Lsa)] HF7 Try.underlying24 ti44 rfl rfl rfl rfl ⟨[], [], [.int .i64 0, .int .i64 1, .int .i64 (IntKind.i64.wrap (1 + s1.2)), .int .i64 (IntKind.i64.wrap (1 + s1.2)), .int .i64 0, .int .i64 0, .int .i64 0, .int .i64 (IntKind.i64.wrap (rd a0 s1.2)), .slice none 0 0, .int .i64 0, .slice none 0 0, .slice none 0 0], _, rfl, rfl, ⟨rfl, mk_T_api_Lsa (x := (⟨(⟨0, 1, IntKind.i64.wrap (1 + s1.2), IntKind.i64.wrap (1 + s1.2), 0, 0, 0⟩ : T_api_Head), IntKind.i64.wrap (rd a0 s1.2), [], 0, [], []⟩ : T_api_Lsa)) (RdS.nil) (RdS.nil) (RdS.nil)⟩, ⟨rfl, rfl⟩⟩ rfl rfl) rfl ?_
        rintro _ w7 ⟨L7, A7, c15, rfl, HF8, ho7⟩
        replace H := chk H; obtain ⟨c16, H⟩ := H
        have HF9 := HF8.perm (perm_f (List.Perm.refl _))
        refine eW (oApp (xs := s1.1) (ys := ([(⟨(⟨0, 1, IntKind.i64.wrap (1 + s1.2), IntKind.i64.wrap (1 + s1.2), 0, 0, 0⟩ : T_api_Head), IntKind.i64.wrap (rd a0 s1.2), [], 0, [], []⟩ : T_api_Lsa)])) (kShr G k_T_api_Lsa) HF9 rfl rfl Try.underlying24 Try.underlying24 ti44 rfl ho6 (srcR shrS ho7.rd HF9 (sub_a sub_h)) c16 rfl) rfl ?_
        rintro _ w8 ⟨L8, A8, c17, rfl, HF10, ho8⟩
        refine sL (asg rfl) rfl ?_
        refine lEnd (K := fun _ _ => True) ?_
        refine jN (kN (?_))
        refine hK17 _ _ ?_
        refine cRgn [] trivial ?_
        refine sL (mv rfl) rfl ?_
        refine sL (bSub rfl rfl) rfl ?_
        refine sL (asg rfl) rfl ?_
        refine lEnd (K := fun _ _ => True) ?_
        refine kN (?_)
        have HF11 := HF10.sublist (sl_a (sl_da (List.Sublist.refl _)))
        exact ofEnv (fun a hE => ⟨_, (Option.some.inj H).symm, ⟨_, _, L8, hE.keep (Keep.cons rfl (Keep.cons rfl (Keep.cons rfl (Keep.cons rfl (Keep.cons rfl (Keep.nil)))))), HF11, ho8⟩⟩)
      · replace H := itF c13 H
        refine cSet (i := 16) rfl (dF c13) ?_
        refine cF rfl ?_
        refine cExit ?_
        refine kX (kX (jX (kN (?_))))
        exact ofEnv (fun a hE => ⟨_, (Option.some.inj H).symm, ⟨_, _, L6, hE.keep (Keep.cons rfl (Keep.cons rfl (Keep.cons rfl (Keep.cons rfl (Keep.cons rfl (Keep.nil)))))), HF7, ho6⟩⟩)
    · rintro s1 a w9 rfl ⟨A6, c12, L6, hE, HF12, ho6⟩
      replace H := Ho1
      refine go_k hE ?_
      refine kN (?_)
      refine hK7 _ _ ?_
      refine cSeq (fun K18 hK18 => ?_)
      refine cSeq (fun K19 hK19 => ?_)
      refine cRgn [] trivial ?_
      refine sL (asg rfl) rfl ?_
      refine lEnd (K := fun _ _ => True) ?_
      refine kN (?_)
      refine hK19 _ _ ?_
      replace H := bnd H; obtain ⟨y3, J6, Ho2⟩ := H
      refine cLoopB (f_plenumlaw17_TopoWild.b1 a0) (fun (s2 : (List Int) × Int) a w => ∃ (A14 : Option Addr) (c29 : Nat) (L14 : Hp), Env 73 [(0, .slice A_a0 a0.length c_a0), (2, .bool false), (3, .slice A6 s1.1.length c12), (4, .slice A14 s2.1.length c29), (6, .int .i64 s2.2)] a ∧ Fits z w (L14 ++ (L6 ++ F)) ∧ OwnS (kInt .i64) L14 A14 c29 s2.1) J6 (fun a hE => ⟨none, 0, [], hE.keep (Keep.cons rfl (Keep.cons rfl (Keep.cons rfl (Keep.cons rfl (Keep.cons rfl (Keep.nil)))))), HF12, OwnS.nil⟩) ?_ ?_
      · rintro s2 a w14 y4 ⟨A14, c29, L14, hE, HF18, ho14⟩ H Hx2
        refine go_ hE ?_
        refine cSeq (fun K28 hK28 => ?_)
        refine cSeq (fun K29 hK29 => ?_)
        refine cRgn [] trivial ?_
        refine sL (mv rfl) rfl ?_
        refine sL (mv rfl) rfl ?_
        refine sL (lnS rfl Try.underlying22) rfl ?_
        refine sL (bLss rfl rfl) rfl ?_
        refine lEnd (K := fun _ _ => True) ?_
        refine kN (?_)
        refine hK29 _ _ ?_
        by_cases c30 : s2.2 < (a0.length : Int)
        · replace H := itT c30 H
          refine cSet (i := 36) rfl (dT c30) ?_
          refine cT rfl ?_
          refine cSkip ?_
          refine kN (?_)
          refine hK28 _ _ ?_
          refine cSeq (fun K30 hK30 => ?_)
          refine cBlock ?_
          refine cSeq (fun K31 hK31 => ?_)
          refine cRgn [] trivial ?_
          refine sL (mv rfl) rfl ?_
          refine sL (mv rfl) rfl ?_
          replace H := chk H; obtain ⟨c31, H⟩ := H
          obtain ⟨g6, o6, _, rfl, rfl, q6⟩ := RdS.at_ hr_a0 c31 c30
          refine sL (ia rfl rfl Try.underlying22 ti5 c31 c30) rfl ?_
          refine sL (ld rfl Try.underlying5 rfl (HF18.cells ((sub_a (sub_a hX_a0))) (q6 0 _ rfl))) rfl ?_
          refine sL (bAnd rfl rfl) rfl ?_
          refine sL (bNeq rfl rfl) rfl ?_
          refine lEnd (K := fun _ _ => True) ?_
          refine kN (?_)
          refine hK31 _ _ ?_
          by_cases c32 : (bits .and .u8 (rd a0 s2.2) 8) = 0
          · replace H := itT c32 H
            refine cSet (i := 44) rfl (nF c32) ?_
            refine cF rfl ?_
            refine cSkip ?_
            refine jN (kN (?_))
            refine hK30 _ _ ?_
            refine cRgn [] trivial ?_
            refine sL (mv rfl) rfl ?_
            refine sL (bAdd rfl rfl) rfl ?_
            refine sL (asg rfl) rfl ?_
            refine lEnd (K := fun _ _ => True) ?_
            refine kN (?_)
            exact ofEnv (fun a hE => ⟨_, (Option.some.inj H).symm, ⟨_, _, L14, hE.keep (Keep.cons rfl (Keep.cons rfl (Keep.cons rfl (Keep.cons rfl (Keep.cons rfl (Keep.nil)))))), HF18, ho14⟩⟩)
          · replace H := itF c32 H
            refine cSet (i := 44) rfl (nT c32) ?_
            refine cT rfl ?_
            refine cRgn [] trivial ?_
            refine sL (mv rfl) rfl ?_
            refine sL (mv rfl) rfl ?_
            refine sL (bAdd rfl rfl) rfl ?_
            refine eW (oLit (r := [.int .i64 (IntKind.i64.wrap (1 + s2.2))]) (kInt .i64) [IntKind.i64.wrap (1 + s2.2)] HF18 Try.underlying30 ti3 rfl rfl rfl rfl ⟨[], [], [.int .i64 (IntKind.i64.wrap (1 + s2.2))], _, rfl, rfl, ⟨rfl, rfl⟩, ⟨rfl, rfl⟩⟩ rfl rfl) rfl ?_
            rintro _ w15 ⟨L15, A15, c33, rfl, HF19, ho15⟩
            replace H := chk H; obtain ⟨c34, H⟩ := H
            have HF20 := HF19.perm (perm_f (List.Perm.refl _))
            refine eW (oApp (xs := s2.1) (ys := ([IntKind.i64.wrap (1 + s2.2)])) (kInt .i64) HF20 rfl rfl Try.underlying30 Try.underlying30 ti3 rfl ho14 (srcR shrF ho15.rd HF20 (sub_a sub_h)) c34 rfl) rfl ?_
            rintro _ w16 ⟨L16, A16, c35, rfl, HF21, ho16⟩
            refine sL (asg rfl) rfl ?_
            refine lEnd (K := fun _ _ => True) ?_
            refine jN (kN (?_))
            refine hK30 _ _ ?_
            refine cRgn [] trivial ?_
            refine sL (mv rfl) rfl ?_
            refine sL (bAdd rfl rfl) rfl ?_
            refine sL (asg rfl) rfl ?_
            refine lEnd (K := fun _ _ => True) ?_
            refine kN (?_)
            have HF22 := HF21.sublist (sl_a (sl_da (sl_a (List.Sublist.refl _))))
            exact ofEnv (fun a hE => ⟨_, (Option.some.inj H).symm, ⟨_, _, L16, hE.keep (Keep.cons rfl (Keep.cons rfl (Keep.cons rfl (Keep.cons rfl (Keep.cons rfl (Keep.nil)))))), HF22, ho16⟩⟩)
        · replace H := itF c30 H
          refine cSet (i := 36) rfl (dF c30) ?_
          refine cF rfl ?_
          refine cExit ?_
          refine kX (kX (jX (kN (?_))))
          exact ofEnv (fun a hE => ⟨_, (Option.some.inj H).symm, ⟨_, _, L14, hE.keep (Keep.cons rfl (Keep.cons rfl (Keep.cons rfl (Keep.cons rfl (Keep.cons rfl (Keep.nil)))))), HF18, ho14⟩⟩)
      · rintro s2 a w17 rfl ⟨A14, c29, L14, hE, HF23, ho14⟩
        replace H := Ho2
        refine go_k hE ?_
        refine kN (?_)
        refine hK18 _ _ ?_
        refine cSeq (fun K32 hK32 => ?_)
        refine cRgn [] trivial ?_
        refine sL (mv rfl) rfl ?_
        replace H := bnd H; obtain ⟨t2, J2, H⟩ := H
        refine eCall isf9 rfl rfl rfl (f_topo_Map.ok (a0 := s1.1) (sub_a (sub_a hG)) J2 HF23 (sub_a sub_h) ho6.rd) ?_
        rintro _ w18 ⟨N1, A17, c36, A18, c37, A19, c38, A20, c39, A21, c40, rfl, HF24, hr1, hr2, hr3, hr4, hr5⟩
        have HF25 := HF24.perm (perm_f (perm_f (List.Perm.refl _))).symm
        have hs1 : G ⊆ N1 ++ G := sub_a sub_r
        refine ⟨_, rfl, ?_⟩
        refine eW (oAlloc HF25 ti32) rfl ?_
        rintro _ w19 ⟨g7, rfl, HF26⟩
        refine eS (oSt (l1 := [.slice A17 t2.f_Verts.length c36, .slice A18 t2.f_Edges.length c37, .slice A19 t2.f_Stubs.length c38, .slice A20 t2.f_Spans.length c39, .slice A21 t2.f_Wilds.length c40]) HF26 rfl rfl ti32 rfl (ones rfl) (Nat.le_of_ble_eq_true rfl) rfl) ?_
        rintro w20 HF27
        refine lEnd (K := fun _ _ => True) ?_
        refine kN (?_)
        refine hK32 _ _ ?_
        refine cSeq (fun K33 hK33 => ?_)
        refine cRgn [(4, 56), (12, 64), (18, 70)] ⟨rfl, rfl, rfl, trivial⟩ ?_
        refine sL (fa32_4 rfl) rfl ?_
        refine sL (ld rfl Try.underlying30 rfl (HF27.box (mem_h) rfl)) rfl ?_
        refine sL (mv rfl) rfl ?_
        replace H := bnd H; obtain ⟨t3, J3, H⟩ := H
        refine eCall isf11 rfl rfl rfl (f_plenumref1_Ints.ok (a0 := t2.f_Wilds) (a1 := s2.1) (sub_c (sub_a (sub_a (sub_n hG)))) J3 HF27 (sub_c (sub_a (sub_a (sub_n hG)))) hr5 (sub_c sub_h) ho14.rd) ?_
        rintro _ w21 ⟨rfl, HF28⟩
        refine ⟨_, rfl, ?_⟩
        refine sL (mv rfl) rfl ?_
        by_cases c41 : t3 = true
        · replace H := itT c41 H
          refine lSet (i := 56) rfl (vT c41) ?_
          refine sG rfl rfl (fa32_0 rfl) rfl ?_
          refine sG rfl rfl (ld rfl Try.underlying26 rfl (HF28.box (mem_h) rfl)) rfl ?_
          refine sG rfl rfl (lnS rfl Try.underlying26) rfl ?_
          refine sG rfl rfl (mv rfl) rfl ?_
          refine sG rfl rfl (lnS rfl Try.underlying22) rfl ?_
          refine sG rfl rfl (bEql rfl rfl) rfl ?_
          refine sL (pkT rfl rfl) rfl ?_
          refine sL (mv rfl) rfl ?_
          by_cases c42 : (t2.f_Verts.length : Int) = (a0.length : Int)
          · replace H := itT c42 H
            refine lSet (i := 64) rfl (dT c42) ?_
            refine sG rfl rfl (fa32_4 rfl) rfl ?_
            refine sG rfl rfl (ld rfl Try.underlying30 rfl (HF28.box (mem_h) rfl)) rfl ?_
            replace H := bnd H; obtain ⟨t4, J4, H⟩ := H
            refine eCallG rfl rfl isf12 rfl rfl rfl (f_plenumref8_Has.ok (a0 := t2.f_Wilds) (sub_c (sub_a (sub_a (sub_n hG)))) J4 HF28 (sub_c (sub_a (sub_a (sub_n hG)))) hr5) ?_
            rintro _ w22 ⟨rfl, HF29⟩
            refine ⟨_, rfl, ?_⟩
            refine sG rfl rfl (uNot rfl) rfl ?_
            refine sL (pkT rfl rfl) rfl ?_
            refine sL (mv rfl) rfl ?_
            by_cases c43 : t4 = true
            · replace H := itT c43 H
              refine lSet (i := 70) rfl (wF c43) ?_
              refine sN rfl rfl rfl rfl ?_
              refine sL (pkF rfl rfl) rfl ?_
              refine sL (asg rfl) rfl ?_
              refine lEnd (K := fun _ _ => True) ?_
              refine kN (?_)
              refine hK33 _ _ ?_
              refine cRet ?_
              obtain rfl := Option.some.inj H
              refine ret1 rfl rfl ?_
              have HF30 := HF29.sublist (sl_dc (sl_da (sl_da (List.Sublist.refl _))))
              have HF32 := HF30.sublist (sl_da (List.Sublist.refl _))
              exact ⟨rfl, HF32⟩
            · replace H := itF c43 H
              refine lSet (i := 70) rfl (wT c43) ?_
              replace H := bnd H; obtain ⟨t5, J5, H⟩ := H
              refine eCallG rfl rfl isf10 rfl rfl rfl (f_plenumlaw17_awake.ok (sub_c (sub_a (sub_a (sub_n hG)))) J5 HF29) ?_
              rintro _ w23 ⟨rfl, HF33⟩
              refine ⟨_, rfl, ?_⟩
              refine sL (pkT rfl rfl) rfl ?_
              refine sL (asg rfl) rfl ?_
              refine lEnd (K := fun _ _ => True) ?_
              refine kN (?_)
              refine hK33 _ _ ?_
              refine cRet ?_
              obtain rfl := Option.some.inj H
              refine ret1 rfl rfl ?_
              have HF34 := HF33.sublist (sl_dc (sl_da (sl_da (List.Sublist.refl _))))
              have HF36 := HF34.sublist (sl_da (List.Sublist.refl _))
              exact ⟨rfl, HF36⟩
          · replace H := itF c42 H
            refine lSet (i := 64) rfl (dF c42) ?_
            refine sN rfl rfl rfl rfl ?_
            refine sN rfl rfl rfl rfl ?_
            refine sN rfl rfl rfl rfl ?_
            refine sN rfl rfl rfl rfl ?_
            refine sL (pkF rfl rfl) rfl ?_
            refine sL (mv rfl) rfl ?_
            refine sN rfl rfl rfl rfl ?_
            refine sL (pkF rfl rfl) rfl ?_
            refine sL (asg rfl) rfl ?_
            refine lEnd (K := fun _ _ => True) ?_
            refine kN (?_)
            refine hK33 _ _ ?_
            refine cRet ?_
            obtain rfl := Option.some.inj H
            refine ret1 rfl rfl ?_
            have HF37 := HF28.sublist (sl_dc (sl_da (sl_da (List.Sublist.refl _))))
            have HF39 := HF37.sublist (sl_da (List.Sublist.refl _))
            exact ⟨rfl, HF39⟩
        · replace H := itF c41 H
          refine lSet (i := 56) rfl (vF c41) ?_
          refine sN rfl rfl rfl rfl ?_
          refine sN rfl rfl rfl rfl ?_
          refine sN rfl rfl rfl rfl ?_
          refine sN rfl rfl rfl rfl ?_
          refine sN rfl rfl rfl rfl ?_
          refine sN rfl rfl rfl rfl ?_
          refine sL (pkF rfl rfl) rfl ?_
          refine sL (mv rfl) rfl ?_
          refine sN rfl rfl rfl rfl ?_
          refine sN rfl rfl rfl rfl ?_
          refine sN rfl rfl rfl rfl ?_
          refine sN rfl rfl rfl rfl ?_
          refine sL (pkF rfl rfl) rfl ?_
          refine sL (mv rfl) rfl ?_
          refine sN rfl rfl rfl rfl ?_
          refine sL (pkF rfl rfl) rfl ?_
          refine sL (asg rfl) rfl ?_
          refine lEnd (K := fun _ _ => True) ?_
          refine kN (?_)
          refine hK33 _ _ ?_
          refine cRet ?_
          obtain rfl := Option.some.inj H
          refine ret1 rfl rfl ?_
          have HF40 := HF28.sublist (sl_dc (sl_da (sl_da (List.Sublist.refl _))))
          have HF42 := HF40.sublist (sl_da (List.Sublist.refl _))
          exact ⟨rfl, HF42⟩
end Go.Proofs.Ytbjnbjgiidcfjaa
