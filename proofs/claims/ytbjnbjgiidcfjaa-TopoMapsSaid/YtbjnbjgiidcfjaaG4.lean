/- The walk, part 4. Conditions: none beside each theorem's own. Written by gen.py out of the print of the loaded program. -/
import Derived.Test.YtbjnbjgiidcfjaaG3
import Derived.KernelRfl
set_option linter.unusedVariables false
set_option linter.unusedSimpArgs false
namespace Go.Proofs.Ytbjnbjgiidcfjaa
open Go Go.Proofs.Ytbjnbjgiidcfjaa.Sp

/-! ### plenum/plenumref17.SameMap (function 14) -/
abbrev f_plenumref17_SameMap.R := Bool
noncomputable def f_plenumref17_SameMap.b0 (a0 : T_api_Map) (a1 : T_api_Map) (s2 : Int) : Option (Sum (Int) (Sum (Int) f_plenumref17_SameMap.R)) := (if s2 < (a0.f_Edges.length : Int) then (if 0 ≤ s2 then (if s2 < (a1.f_Edges.length : Int) then (if (rd a0.f_Edges s2) = (rd a1.f_Edges s2) then some (.inl (IntKind.i64.wrap (s2 + 1))) else some (.inr (.inr false))) else none) else none) else some (.inr (.inl s2)))
noncomputable def f_plenumref17_SameMap.b1 (a0 : T_api_Map) (a1 : T_api_Map) (s3 : Int) : Option (Sum (Int) (Sum (Int) f_plenumref17_SameMap.R)) := (if s3 < (a0.f_Stubs.length : Int) then (if 0 ≤ s3 then (if s3 < (a1.f_Stubs.length : Int) then (if (rd a0.f_Stubs s3) = (rd a1.f_Stubs s3) then some (.inl (IntKind.i64.wrap (s3 + 1))) else some (.inr (.inr false))) else none) else none) else some (.inr (.inl s3)))
noncomputable def f_plenumref17_SameMap.b2 (a0 : T_api_Map) (a1 : T_api_Map) (s4 : Int) : Option (Sum (Int) (Sum (Int) f_plenumref17_SameMap.R)) := (if s4 < (a0.f_Spans.length : Int) then (if 0 ≤ s4 then (if s4 < (a1.f_Spans.length : Int) then (if (rd a0.f_Spans s4) = (rd a1.f_Spans s4) then some (.inl (IntKind.i64.wrap (s4 + 1))) else some (.inr (.inr false))) else none) else none) else some (.inr (.inl s4)))
noncomputable def f_plenumref17_SameMap (a0 : T_api_Map) (a1 : T_api_Map) : Option f_plenumref17_SameMap.R := (((((f_plenumref1_Verts a0.f_Verts a1.f_Verts).bind fun t3 => (if t3 = true then (if (a0.f_Edges.length : Int) = (a1.f_Edges.length : Int) then (if (a0.f_Stubs.length : Int) = (a1.f_Stubs.length : Int) then (if (a0.f_Spans.length : Int) = (a1.f_Spans.length : Int) then ((f_plenumref1_Ints a0.f_Wilds a1.f_Wilds).bind fun t4 => some (.inl (!t4))) else some (.inl true)) else some (.inl true)) else some (.inl true)) else some (.inl true))) : Option (Sum (Bool) f_plenumref17_SameMap.R))).bind fun y1 => match y1 with | .inl s1 => (if s1 = true then some false else ((loopO (f_plenumref17_SameMap.b0 a0 a1) 0).bind fun y2 => match y2 with | .inl s2 => ((loopO (f_plenumref17_SameMap.b1 a0 a1) 0).bind fun y4 => match y4 with | .inl s3 => ((loopO (f_plenumref17_SameMap.b2 a0 a1) 0).bind fun y6 => match y6 with | .inl s4 => some true | .inr r_ => some r_) | .inr r_ => some r_) | .inr r_ => some r_)) | .inr r_ => some r_)
set_option maxHeartbeats 1000000 in
theorem f_plenumref17_SameMap.ok {z w : World} {F G : Hp} (hG : G ⊆ F) {a0 : T_api_Map} {A_a0_0 : Option Addr} {c_a0_0 : Nat} {X_a0_0 : Hp} {A_a0_1 : Option Addr} {c_a0_1 : Nat} {X_a0_1 : Hp} {A_a0_2 : Option Addr} {c_a0_2 : Nat} {X_a0_2 : Hp} {A_a0_3 : Option Addr} {c_a0_3 : Nat} {X_a0_3 : Hp} {A_a0_4 : Option Addr} {c_a0_4 : Nat} {X_a0_4 : Hp} {a1 : T_api_Map} {A_a1_0 : Option Addr} {c_a1_0 : Nat} {X_a1_0 : Hp} {A_a1_1 : Option Addr} {c_a1_1 : Nat} {X_a1_1 : Hp} {A_a1_2 : Option Addr} {c_a1_2 : Nat} {X_a1_2 : Hp} {A_a1_3 : Option Addr} {c_a1_3 : Nat} {X_a1_3 : Hp} {A_a1_4 : Option Addr} {c_a1_4 : Nat} {X_a1_4 : Hp} {r : f_plenumref17_SameMap.R} (H : f_plenumref17_SameMap a0 a1 = some r) (HF : Fits z w F) (hX_a0_0 : X_a0_0 ⊆ F) (hr_a0_0 : RdS k_T_api_Vert X_a0_0 A_a0_0 c_a0_0 a0.f_Verts) (hX_a0_1 : X_a0_1 ⊆ F) (hr_a0_1 : RdS k_T_api_Edge X_a0_1 A_a0_1 c_a0_1 a0.f_Edges) (hX_a0_2 : X_a0_2 ⊆ F) (hr_a0_2 : RdS k_T_api_Stub X_a0_2 A_a0_2 c_a0_2 a0.f_Stubs) (hX_a0_3 : X_a0_3 ⊆ F) (hr_a0_3 : RdS k_T_api_Span X_a0_3 A_a0_3 c_a0_3 a0.f_Spans) (hX_a0_4 : X_a0_4 ⊆ F) (hr_a0_4 : RdS (kInt .i64) X_a0_4 A_a0_4 c_a0_4 a0.f_Wilds) (hX_a1_0 : X_a1_0 ⊆ F) (hr_a1_0 : RdS k_T_api_Vert X_a1_0 A_a1_0 c_a1_0 a1.f_Verts) (hX_a1_1 : X_a1_1 ⊆ F) (hr_a1_1 : RdS k_T_api_Edge X_a1_1 A_a1_1 c_a1_1 a1.f_Edges) (hX_a1_2 : X_a1_2 ⊆ F) (hr_a1_2 : RdS k_T_api_Stub X_a1_2 A_a1_2 c_a1_2 a1.f_Stubs) (hX_a1_3 : X_a1_3 ⊆ F) (hr_a1_3 : RdS k_T_api_Span X_a1_3 A_a1_3 c_a1_3 a1.f_Spans) (hX_a1_4 : X_a1_4 ⊆ F) (hr_a1_4 : RdS (kInt .i64) X_a1_4 A_a1_4 c_a1_4 a1.f_Wilds) :
  Calls Try.prog 14 [.agg [.slice A_a0_0 a0.f_Verts.length c_a0_0, .slice A_a0_1 a0.f_Edges.length c_a0_1, .slice A_a0_2 a0.f_Stubs.length c_a0_2, .slice A_a0_3 a0.f_Spans.length c_a0_3, .slice A_a0_4 a0.f_Wilds.length c_a0_4].toArray, .agg [.slice A_a1_0 a1.f_Verts.length c_a1_0, .slice A_a1_1 a1.f_Edges.length c_a1_1, .slice A_a1_2 a1.f_Stubs.length c_a1_2, .slice A_a1_3 a1.f_Spans.length c_a1_3, .slice A_a1_4 a1.f_Wilds.length c_a1_4].toArray].toArray w fun e w' => e = .returned (.bool r) ∧ Fits z w' F := by
 unfold f_plenumref17_SameMap at H
 refine enter0 Try.func14 rfl Try.ntmps14 rfl (E := [(0, .agg [.slice A_a0_0 a0.f_Verts.length c_a0_0, .slice A_a0_1 a0.f_Edges.length c_a0_1, .slice A_a0_2 a0.f_Stubs.length c_a0_2, .slice A_a0_3 a0.f_Spans.length c_a0_3, .slice A_a0_4 a0.f_Wilds.length c_a0_4].toArray), (1, .agg [.slice A_a1_0 a1.f_Verts.length c_a1_0, .slice A_a1_1 a1.f_Edges.length c_a1_1, .slice A_a1_2 a1.f_Stubs.length c_a1_2, .slice A_a1_3 a1.f_Spans.length c_a1_3, .slice A_a1_4 a1.f_Wilds.length c_a1_4].toArray)]) rfl ?_
 refine cSeq (fun K1 hK1 => ?_)
 refine cRgn [] trivial ?_
 refine eW (oBox HF rfl) rfl ?_
 rintro _ w1 ⟨g1, rfl, HF1⟩
 refine eW (oBox HF1 rfl) rfl ?_
 rintro _ w2 ⟨g2, rfl, HF2⟩
 refine sL (asg rfl) rfl ?_
 refine lE ?_
 refine kN (?_)
 refine hK1 _ _ ?_
 refine cSeq (fun K2 hK2 => ?_)
 refine cSeq (fun K3 hK3 => ?_)
 replace H := bnd H; obtain ⟨y1, H, Ho1⟩ := H
 refine cJoin (y := y1) (fun (s1 : Bool) a w => Env 103 [(2, .pointer (some ⟨g1, 0, none⟩)), (3, .pointer (some ⟨g2, 0, none⟩)), (4, .bool false), (48, .bool s1)] a ∧ Fits z w (bk g2 32 [.slice A_a1_0 a1.f_Verts.length c_a1_0, .slice A_a1_1 a1.f_Edges.length c_a1_1, .slice A_a1_2 a1.f_Stubs.length c_a1_2, .slice A_a1_3 a1.f_Spans.length c_a1_3, .slice A_a1_4 a1.f_Wilds.length c_a1_4] :: (bk g1 32 [.slice A_a0_0 a0.f_Verts.length c_a0_0, .slice A_a0_1 a0.f_Edges.length c_a0_1, .slice A_a0_2 a0.f_Stubs.length c_a0_2, .slice A_a0_3 a0.f_Spans.length c_a0_3, .slice A_a0_4 a0.f_Wilds.length c_a0_4] :: F))) ?_ ?_
 ·refine cRgn [(6, 14), (15, 23), (24, 32), (33, 41)] ⟨rfl, rfl, rfl, rfl, trivial⟩ ?_
  refine sL (fa32_0 rfl) rfl ?_
  refine sL (ld rfl Try.underlying26 rfl (HF2.box (mem_c mem_h) rfl)) rfl ?_
  refine sL (fa32_0 rfl) rfl ?_
  refine sL (ld rfl Try.underlying26 rfl (HF2.box (mem_h) rfl)) rfl ?_
  replace H := bnd H; obtain ⟨t3, J3, H⟩ := H
  refine eCall isf16 rfl rfl rfl (f_plenumref1_Verts.ok (a0 := a0.f_Verts) (a1 := a1.f_Verts) (sub_c (sub_c hG)) J3 HF2 (sub_c (sub_c hX_a0_0)) hr_a0_0 (sub_c (sub_c hX_a1_0)) hr_a1_0) ?_
  rintro _ w5 ⟨rfl, HF5⟩
  refine ⟨_, rfl, ?_⟩
  refine sL (uNot rfl) rfl ?_
  refine sL (mv rfl) rfl ?_
  by_cases c5 : t3 = true
  ·replace H := itT c5 H
   refine lSet (i := 14) rfl (wF c5) ?_
   refine sG rfl rfl (fa32_1 rfl) rfl ?_
   refine sG rfl rfl (ld rfl Try.underlying27 rfl (HF5.box (mem_c mem_h) rfl)) rfl ?_
   refine sG rfl rfl (lnS rfl Try.underlying27) rfl ?_
   refine sG rfl rfl (fa32_1 rfl) rfl ?_
   refine sG rfl rfl (ld rfl Try.underlying27 rfl (HF5.box (mem_h) rfl)) rfl ?_
   refine sG rfl rfl (lnS rfl Try.underlying27) rfl ?_
   refine sG rfl rfl (bNeq rfl rfl) rfl ?_
   refine sL (pkF rfl rfl) rfl ?_
   refine sL (mv rfl) rfl ?_
   by_cases c6 : (a0.f_Edges.length : Int) = (a1.f_Edges.length : Int)
   ·replace H := itT c6 H
    refine lSet (i := 23) rfl (nF c6) ?_
    refine sG rfl rfl (fa32_2 rfl) rfl ?_
    refine sG rfl rfl (ld rfl Try.underlying28 rfl (HF5.box (mem_c mem_h) rfl)) rfl ?_
    refine sG rfl rfl (lnS rfl Try.underlying28) rfl ?_
    refine sG rfl rfl (fa32_2 rfl) rfl ?_
    refine sG rfl rfl (ld rfl Try.underlying28 rfl (HF5.box (mem_h) rfl)) rfl ?_
    refine sG rfl rfl (lnS rfl Try.underlying28) rfl ?_
    refine sG rfl rfl (bNeq rfl rfl) rfl ?_
    refine sL (pkF rfl rfl) rfl ?_
    refine sL (mv rfl) rfl ?_
    by_cases c7 : (a0.f_Stubs.length : Int) = (a1.f_Stubs.length : Int)
    ·replace H := itT c7 H
     refine lSet (i := 32) rfl (nF c7) ?_
     refine sG rfl rfl (fa32_3 rfl) rfl ?_
     refine sG rfl rfl (ld rfl Try.underlying29 rfl (HF5.box (mem_c mem_h) rfl)) rfl ?_
     refine sG rfl rfl (lnS rfl Try.underlying29) rfl ?_
     refine sG rfl rfl (fa32_3 rfl) rfl ?_
     refine sG rfl rfl (ld rfl Try.underlying29 rfl (HF5.box (mem_h) rfl)) rfl ?_
     refine sG rfl rfl (lnS rfl Try.underlying29) rfl ?_
     refine sG rfl rfl (bNeq rfl rfl) rfl ?_
     refine sL (pkF rfl rfl) rfl ?_
     refine sL (mv rfl) rfl ?_
     by_cases c8 : (a0.f_Spans.length : Int) = (a1.f_Spans.length : Int)
     ·replace H := itT c8 H
      refine lSet (i := 41) rfl (nF c8) ?_
      refine sG rfl rfl (fa32_4 rfl) rfl ?_
      refine sG rfl rfl (ld rfl Try.underlying30 rfl (HF5.box (mem_c mem_h) rfl)) rfl ?_
      refine sG rfl rfl (fa32_4 rfl) rfl ?_
      refine sG rfl rfl (ld rfl Try.underlying30 rfl (HF5.box (mem_h) rfl)) rfl ?_
      replace H := bnd H; obtain ⟨t4, J4, H⟩ := H
      refine eCallG rfl rfl isf11 rfl rfl rfl (f_plenumref1_Ints.ok (a0 := a0.f_Wilds) (a1 := a1.f_Wilds) (sub_c (sub_c hG)) J4 HF5 (sub_c (sub_c hX_a0_4)) hr_a0_4 (sub_c (sub_c hX_a1_4)) hr_a1_4) ?_
      rintro _ w6 ⟨rfl, HF6⟩
      refine ⟨_, rfl, ?_⟩
      refine sG rfl rfl (uNot rfl) rfl ?_
      refine sL (pkF rfl rfl) rfl ?_
      refine lE ?_
      refine kN (?_)
      exact ofEnv (fun a hE => ⟨_, (Option.some.inj H).symm, ⟨hE.keep (Keep.cons rfl (Keep.cons rfl (Keep.cons rfl (Keep.cons rfl (Keep.nil))))), HF6⟩⟩)
     replace H := itF c8 H
     refine lSet (i := 41) rfl (nT c8) ?_
     refine sN rfl rfl rfl rfl ?_
     refine sN rfl rfl rfl rfl ?_
     refine sN rfl rfl rfl rfl ?_
     refine sN rfl rfl rfl rfl ?_
     refine sN rfl rfl rfl rfl ?_
     refine sN rfl rfl rfl rfl ?_
     refine sL (pkT rfl rfl) rfl ?_
     refine lE ?_
     refine kN (?_)
     exact ofEnv (fun a hE => ⟨_, (Option.some.inj H).symm, ⟨hE.keep (Keep.cons rfl (Keep.cons rfl (Keep.cons rfl (Keep.cons rfl (Keep.nil))))), HF5⟩⟩)
    replace H := itF c7 H
    refine lSet (i := 32) rfl (nT c7) ?_
    refine sN rfl rfl rfl rfl ?_
    refine sN rfl rfl rfl rfl ?_
    refine sN rfl rfl rfl rfl ?_
    refine sN rfl rfl rfl rfl ?_
    refine sN rfl rfl rfl rfl ?_
    refine sN rfl rfl rfl rfl ?_
    refine sN rfl rfl rfl rfl ?_
    refine sL (pkT rfl rfl) rfl ?_
    refine sL (mv rfl) rfl ?_
    refine sN rfl rfl rfl rfl ?_
    refine sN rfl rfl rfl rfl ?_
    refine sN rfl rfl rfl rfl ?_
    refine sN rfl rfl rfl rfl ?_
    refine sN rfl rfl rfl rfl ?_
    refine sN rfl rfl rfl rfl ?_
    refine sL (pkT rfl rfl) rfl ?_
    refine lE ?_
    refine kN (?_)
    exact ofEnv (fun a hE => ⟨_, (Option.some.inj H).symm, ⟨hE.keep (Keep.cons rfl (Keep.cons rfl (Keep.cons rfl (Keep.cons rfl (Keep.nil))))), HF5⟩⟩)
   replace H := itF c6 H
   refine lSet (i := 23) rfl (nT c6) ?_
   refine sN rfl rfl rfl rfl ?_
   refine sN rfl rfl rfl rfl ?_
   refine sN rfl rfl rfl rfl ?_
   refine sN rfl rfl rfl rfl ?_
   refine sN rfl rfl rfl rfl ?_
   refine sN rfl rfl rfl rfl ?_
   refine sN rfl rfl rfl rfl ?_
   refine sL (pkT rfl rfl) rfl ?_
   refine sL (mv rfl) rfl ?_
   refine sN rfl rfl rfl rfl ?_
   refine sN rfl rfl rfl rfl ?_
   refine sN rfl rfl rfl rfl ?_
   refine sN rfl rfl rfl rfl ?_
   refine sN rfl rfl rfl rfl ?_
   refine sN rfl rfl rfl rfl ?_
   refine sN rfl rfl rfl rfl ?_
   refine sL (pkT rfl rfl) rfl ?_
   refine sL (mv rfl) rfl ?_
   refine sN rfl rfl rfl rfl ?_
   refine sN rfl rfl rfl rfl ?_
   refine sN rfl rfl rfl rfl ?_
   refine sN rfl rfl rfl rfl ?_
   refine sN rfl rfl rfl rfl ?_
   refine sN rfl rfl rfl rfl ?_
   refine sL (pkT rfl rfl) rfl ?_
   refine lE ?_
   refine kN (?_)
   exact ofEnv (fun a hE => ⟨_, (Option.some.inj H).symm, ⟨hE.keep (Keep.cons rfl (Keep.cons rfl (Keep.cons rfl (Keep.cons rfl (Keep.nil))))), HF5⟩⟩)
  replace H := itF c5 H
  refine lSet (i := 14) rfl (wT c5) ?_
  refine sN rfl rfl rfl rfl ?_
  refine sN rfl rfl rfl rfl ?_
  refine sN rfl rfl rfl rfl ?_
  refine sN rfl rfl rfl rfl ?_
  refine sN rfl rfl rfl rfl ?_
  refine sN rfl rfl rfl rfl ?_
  refine sN rfl rfl rfl rfl ?_
  refine sL (pkT rfl rfl) rfl ?_
  refine sL (mv rfl) rfl ?_
  refine sN rfl rfl rfl rfl ?_
  refine sN rfl rfl rfl rfl ?_
  refine sN rfl rfl rfl rfl ?_
  refine sN rfl rfl rfl rfl ?_
  refine sN rfl rfl rfl rfl ?_
  refine sN rfl rfl rfl rfl ?_
  refine sN rfl rfl rfl rfl ?_
  refine sL (pkT rfl rfl) rfl ?_
  refine sL (mv rfl) rfl ?_
  refine sN rfl rfl rfl rfl ?_
  refine sN rfl rfl rfl rfl ?_
  refine sN rfl rfl rfl rfl ?_
  refine sN rfl rfl rfl rfl ?_
  refine sN rfl rfl rfl rfl ?_
  refine sN rfl rfl rfl rfl ?_
  refine sN rfl rfl rfl rfl ?_
  refine sL (pkT rfl rfl) rfl ?_
  refine sL (mv rfl) rfl ?_
  refine sN rfl rfl rfl rfl ?_
  refine sN rfl rfl rfl rfl ?_
  refine sN rfl rfl rfl rfl ?_
  refine sN rfl rfl rfl rfl ?_
  refine sN rfl rfl rfl rfl ?_
  refine sN rfl rfl rfl rfl ?_
  refine sL (pkT rfl rfl) rfl ?_
  refine lE ?_
  refine kN (?_)
  exact ofEnv (fun a hE => ⟨_, (Option.some.inj H).symm, ⟨hE.keep (Keep.cons rfl (Keep.cons rfl (Keep.cons rfl (Keep.cons rfl (Keep.nil))))), HF5⟩⟩)
 rintro s1 a w7 rfl ⟨hE, HF7⟩
 replace H := Ho1
 refine go_k hE ?_
 refine kN (?_)
 refine hK3 _ _ ?_
 by_cases c9 : s1 = true
 ·replace H := itT c9 H
  refine cSet (i := 48) rfl (vT c9) ?_
  refine cT rfl ?_
  refine cSeq (fun K4 hK4 => ?_)
  refine cRgn [] trivial ?_
  refine sL (asg rfl) rfl ?_
  refine lE ?_
  refine kN (?_)
  refine hK4 _ _ ?_
  refine cRet ?_
  obtain rfl := Option.some.inj H
  refine kR (?_)
  refine ret1 rfl rfl ?_
  have HF8 := HF7.sublist (sl_dc (sl_dc sR))
  exact ⟨rfl, HF8⟩
 replace H := itF c9 H
 refine cSet (i := 48) rfl (vF c9) ?_
 refine cF rfl ?_
 refine cSkip ?_
 refine kN (?_)
 refine hK2 _ _ ?_
 refine cSeq (fun K5 hK5 => ?_)
 refine cSeq (fun K6 hK6 => ?_)
 refine cRgn [] trivial ?_
 refine sL (asg rfl) rfl ?_
 refine lE ?_
 refine kN (?_)
 refine hK6 _ _ ?_
 replace H := bnd H; obtain ⟨y2, J7, Ho2⟩ := H
 refine cLoopB (f_plenumref17_SameMap.b0 a0 a1) (fun (s2 : Int) a w => Env 103 [(2, .pointer (some ⟨g1, 0, none⟩)), (3, .pointer (some ⟨g2, 0, none⟩)), (4, .bool false), (5, .int .i64 s2)] a ∧ Fits z w (bk g2 32 [.slice A_a1_0 a1.f_Verts.length c_a1_0, .slice A_a1_1 a1.f_Edges.length c_a1_1, .slice A_a1_2 a1.f_Stubs.length c_a1_2, .slice A_a1_3 a1.f_Spans.length c_a1_3, .slice A_a1_4 a1.f_Wilds.length c_a1_4] :: (bk g1 32 [.slice A_a0_0 a0.f_Verts.length c_a0_0, .slice A_a0_1 a0.f_Edges.length c_a0_1, .slice A_a0_2 a0.f_Stubs.length c_a0_2, .slice A_a0_3 a0.f_Spans.length c_a0_3, .slice A_a0_4 a0.f_Wilds.length c_a0_4] :: F))) J7 (fun a hE => ⟨hE.keep (Keep.cons rfl (Keep.cons rfl (Keep.cons rfl (Keep.cons rfl (Keep.nil))))), HF7⟩) ?_ ?_
 ·rintro s2 a w10 y3 ⟨hE, HF11⟩ H Hx1
  refine go_ hE ?_
  refine cSeq (fun K17 hK17 => ?_)
  refine cSeq (fun K18 hK18 => ?_)
  refine cRgn [] trivial ?_
  refine sL (mv rfl) rfl ?_
  refine sL (fa32_1 rfl) rfl ?_
  refine sL (ld rfl Try.underlying27 rfl (HF11.box (mem_c mem_h) rfl)) rfl ?_
  refine sL (lnS rfl Try.underlying27) rfl ?_
  refine sL (bLss rfl rfl) rfl ?_
  refine lE ?_
  refine kN (?_)
  refine hK18 _ _ ?_
  by_cases c20 : s2 < (a0.f_Edges.length : Int)
  ·replace H := itT c20 H
   refine cSet (i := 53) rfl (dT c20) ?_
   refine cT rfl ?_
   refine cSkip ?_
   refine kN (?_)
   refine hK17 _ _ ?_
   refine cSeq (fun K19 hK19 => ?_)
   refine cBlock ?_
   refine cSeq (fun K20 hK20 => ?_)
   refine cDraw mo_ HF11 rfl (fun w => Fits z w (bk g2 32 [.slice A_a1_0 a1.f_Verts.length c_a1_0, .slice A_a1_1 a1.f_Edges.length c_a1_1, .slice A_a1_2 a1.f_Stubs.length c_a1_2, .slice A_a1_3 a1.f_Spans.length c_a1_3, .slice A_a1_4 a1.f_Wilds.length c_a1_4] :: (bk g1 32 [.slice A_a0_0 a0.f_Verts.length c_a0_0, .slice A_a0_1 a0.f_Edges.length c_a0_1, .slice A_a0_2 a0.f_Stubs.length c_a0_2, .slice A_a0_3 a0.f_Spans.length c_a0_3, .slice A_a0_4 a0.f_Wilds.length c_a0_4] :: F))) (fun w11 HF12 => ?_)
   refine hT 0 rfl (by kernel_rfl) (fun w_ hS_ => fa32_1 rfl) HF12 rfl rfl ?_
   refine hT 1 rfl (by kernel_rfl) (fun w_ hS_ => ld rfl Try.underlying27 rfl (hS_.box (mem_c mem_h) rfl)) HF12 rfl rfl ?_
   refine hT 2 rfl (by kernel_rfl) (fun w_ hS_ => mv rfl) HF12 rfl rfl ?_
   replace H := chk H; obtain ⟨c23, H⟩ := H
   obtain ⟨g13, o11, _, rfl, rfl, q11⟩ := RdS.at_ hr_a0_1 c23 c20
   refine hT 3 rfl (by kernel_rfl) (fun w_ hS_ => ia rfl rfl Try.underlying27 ti37 c23 c20) HF12 rfl rfl ?_
   refine hT 4 rfl (by kernel_rfl) (fun w_ hS_ => ldA rfl ti37 rfl rfl (fun j v hj => hS_.cells ((sub_c (sub_c hX_a0_1))) (q11 j v hj))) HF12 rfl rfl ?_
   refine hT 5 rfl (by kernel_rfl) (fun w_ hS_ => fa32_1 rfl) HF12 rfl rfl ?_
   refine hT 6 rfl (by kernel_rfl) (fun w_ hS_ => ld rfl Try.underlying27 rfl (hS_.box (mem_h) rfl)) HF12 rfl rfl ?_
   refine hT 7 rfl (by kernel_rfl) (fun w_ hS_ => mv rfl) HF12 rfl rfl ?_
   replace H := chk H; obtain ⟨c24, H⟩ := H
   obtain ⟨g14, o12, _, rfl, rfl, q12⟩ := RdS.at_ hr_a1_1 c23 c24
   refine hT 8 rfl (by kernel_rfl) (fun w_ hS_ => ia rfl rfl Try.underlying27 ti37 c23 c24) HF12 rfl rfl ?_
   refine hT 9 rfl (by kernel_rfl) (fun w_ hS_ => ldA rfl ti37 rfl rfl (fun j v hj => hS_.cells ((sub_c (sub_c hX_a1_1))) (q12 j v hj))) HF12 rfl rfl ?_
   refine hT 10 rfl (by kernel_rfl) (fun w_ hS_ => bAggNeq (xs := [.int .i64 ((rd a0.f_Edges s2).f_From.f_Kind), .int .i64 ((rd a0.f_Edges s2).f_From.f_Id), .int .i64 ((rd a0.f_Edges s2).f_To.f_Kind), .int .i64 ((rd a0.f_Edges s2).f_To.f_Id), .int .i64 ((rd a0.f_Edges s2).f_Cost), .int .i64 ((rd a0.f_Edges s2).f_Data)]) (ys := [.int .i64 ((rd a1.f_Edges s2).f_From.f_Kind), .int .i64 ((rd a1.f_Edges s2).f_From.f_Id), .int .i64 ((rd a1.f_Edges s2).f_To.f_Kind), .int .i64 ((rd a1.f_Edges s2).f_To.f_Id), .int .i64 ((rd a1.f_Edges s2).f_Cost), .int .i64 ((rd a1.f_Edges s2).f_Data)]) (n := 3) rfl rfl eg37 (eqStruct Try.underlying37 sh37 (eqFcons (by decide) (ptA (cs := [.int .i64 ((rd a0.f_Edges s2).f_From.f_Kind), .int .i64 ((rd a0.f_Edges s2).f_From.f_Id)]) ti35 rfl rfl rfl) (ptA (cs := [.int .i64 ((rd a1.f_Edges s2).f_From.f_Kind), .int .i64 ((rd a1.f_Edges s2).f_From.f_Id)]) ti35 rfl rfl rfl) (eqStruct Try.underlying35 sh35 (eqFcons (by decide) (pt1 Try.underlying3 rfl rfl) (pt1 Try.underlying3 rfl rfl) (eqInt Try.underlying3) (eqFcons (by decide) (pt1 Try.underlying3 rfl rfl) (pt1 Try.underlying3 rfl rfl) (eqInt Try.underlying3) eqFnil))) (eqFcons (by decide) (ptA (cs := [.int .i64 ((rd a0.f_Edges s2).f_To.f_Kind), .int .i64 ((rd a0.f_Edges s2).f_To.f_Id)]) ti35 rfl rfl rfl) (ptA (cs := [.int .i64 ((rd a1.f_Edges s2).f_To.f_Kind), .int .i64 ((rd a1.f_Edges s2).f_To.f_Id)]) ti35 rfl rfl rfl) (eqStruct Try.underlying35 sh35 (eqFcons (by decide) (pt1 Try.underlying3 rfl rfl) (pt1 Try.underlying3 rfl rfl) (eqInt Try.underlying3) (eqFcons (by decide) (pt1 Try.underlying3 rfl rfl) (pt1 Try.underlying3 rfl rfl) (eqInt Try.underlying3) eqFnil))) (eqFcons (by decide) (pt1 Try.underlying3 rfl rfl) (pt1 Try.underlying3 rfl rfl) (EQ.up (eqInt Try.underlying3)) (eqFcons (by decide) (pt1 Try.underlying3 rfl rfl) (pt1 Try.underlying3 rfl rfl) (EQ.up (eqInt Try.underlying3)) eqFnil))))) rfl (eq_T_api_Edge (rd a0.f_Edges s2) (rd a1.f_Edges s2))) HF12 rfl rfl ?_
   refine hEnd (by kernel_rfl) ?_
   refine kN (?_)
   refine hK20 _ _ ?_
   by_cases c25 : (rd a0.f_Edges s2) = (rd a1.f_Edges s2)
   ·replace H := itT c25 H
    refine cSet (i := 66) rfl (nF c25) ?_
    refine cF rfl ?_
    refine cSkip ?_
    refine jN (kN (?_))
    refine hK19 _ _ ?_
    refine cRgn [] trivial ?_
    refine sL (mv rfl) rfl ?_
    refine sL (bAdd rfl rfl) rfl ?_
    refine sL (asg rfl) rfl ?_
    refine lE ?_
    refine kN (?_)
    exact ofEnv (fun a hE => ⟨_, (Option.some.inj H).symm, ⟨hE.keep (Keep.cons rfl (Keep.cons rfl (Keep.cons rfl (Keep.cons rfl (Keep.nil))))), HF12⟩⟩)
   replace H := itF c25 H
   refine cSet (i := 66) rfl (nT c25) ?_
   refine cT rfl ?_
   refine cSeq (fun K21 hK21 => ?_)
   refine cRgn [] trivial ?_
   refine sL (asg rfl) rfl ?_
   refine lE ?_
   refine kN (?_)
   refine hK21 _ _ ?_
   refine cRet ?_
   have e_ := Hx1 _ (Option.some.inj H).symm
   subst e_
   replace H := Ho2
   obtain rfl := Option.some.inj H
   refine jR (kR (kR (jR (kR (kR (?_))))))
   refine ret1 rfl rfl ?_
   have HF13 := HF12.sublist (sl_dc (sl_dc sR))
   exact ⟨rfl, HF13⟩
  replace H := itF c20 H
  refine cSet (i := 53) rfl (dF c20) ?_
  refine cF rfl ?_
  refine cExit ?_
  refine kX (kX (jX (kN (?_))))
  exact ofEnv (fun a hE => ⟨_, (Option.some.inj H).symm, ⟨hE.keep (Keep.cons rfl (Keep.cons rfl (Keep.cons rfl (Keep.cons rfl (Keep.nil))))), HF11⟩⟩)
 rintro s2 a w12 rfl ⟨hE, HF14⟩
 replace H := Ho2
 refine go_k hE ?_
 refine kN (?_)
 refine hK5 _ _ ?_
 refine cSeq (fun K22 hK22 => ?_)
 refine cSeq (fun K23 hK23 => ?_)
 refine cRgn [] trivial ?_
 refine sL (asg rfl) rfl ?_
 refine lE ?_
 refine kN (?_)
 refine hK23 _ _ ?_
 replace H := bnd H; obtain ⟨y4, J6, Ho3⟩ := H
 refine cLoopB (f_plenumref17_SameMap.b1 a0 a1) (fun (s3 : Int) a w => Env 103 [(2, .pointer (some ⟨g1, 0, none⟩)), (3, .pointer (some ⟨g2, 0, none⟩)), (4, .bool false), (6, .int .i64 s3)] a ∧ Fits z w (bk g2 32 [.slice A_a1_0 a1.f_Verts.length c_a1_0, .slice A_a1_1 a1.f_Edges.length c_a1_1, .slice A_a1_2 a1.f_Stubs.length c_a1_2, .slice A_a1_3 a1.f_Spans.length c_a1_3, .slice A_a1_4 a1.f_Wilds.length c_a1_4] :: (bk g1 32 [.slice A_a0_0 a0.f_Verts.length c_a0_0, .slice A_a0_1 a0.f_Edges.length c_a0_1, .slice A_a0_2 a0.f_Stubs.length c_a0_2, .slice A_a0_3 a0.f_Spans.length c_a0_3, .slice A_a0_4 a0.f_Wilds.length c_a0_4] :: F))) J6 (fun a hE => ⟨hE.keep (Keep.cons rfl (Keep.cons rfl (Keep.cons rfl (Keep.cons rfl (Keep.nil))))), HF14⟩) ?_ ?_
 ·rintro s3 a w15 y5 ⟨hE, HF17⟩ H Hx2
  refine go_ hE ?_
  refine cSeq (fun K34 hK34 => ?_)
  refine cSeq (fun K35 hK35 => ?_)
  refine cRgn [] trivial ?_
  refine sL (mv rfl) rfl ?_
  refine sL (fa32_2 rfl) rfl ?_
  refine sL (ld rfl Try.underlying28 rfl (HF17.box (mem_c mem_h) rfl)) rfl ?_
  refine sL (lnS rfl Try.underlying28) rfl ?_
  refine sL (bLss rfl rfl) rfl ?_
  refine lE ?_
  refine kN (?_)
  refine hK35 _ _ ?_
  by_cases c36 : s3 < (a0.f_Stubs.length : Int)
  ·replace H := itT c36 H
   refine cSet (i := 71) rfl (dT c36) ?_
   refine cT rfl ?_
   refine cSkip ?_
   refine kN (?_)
   refine hK34 _ _ ?_
   refine cSeq (fun K36 hK36 => ?_)
   refine cBlock ?_
   refine cSeq (fun K37 hK37 => ?_)
   refine cDraw mo_ HF17 rfl (fun w => Fits z w (bk g2 32 [.slice A_a1_0 a1.f_Verts.length c_a1_0, .slice A_a1_1 a1.f_Edges.length c_a1_1, .slice A_a1_2 a1.f_Stubs.length c_a1_2, .slice A_a1_3 a1.f_Spans.length c_a1_3, .slice A_a1_4 a1.f_Wilds.length c_a1_4] :: (bk g1 32 [.slice A_a0_0 a0.f_Verts.length c_a0_0, .slice A_a0_1 a0.f_Edges.length c_a0_1, .slice A_a0_2 a0.f_Stubs.length c_a0_2, .slice A_a0_3 a0.f_Spans.length c_a0_3, .slice A_a0_4 a0.f_Wilds.length c_a0_4] :: F))) (fun w16 HF18 => ?_)
   refine hT 0 rfl (by kernel_rfl) (fun w_ hS_ => fa32_2 rfl) HF18 rfl rfl ?_
   refine hT 1 rfl (by kernel_rfl) (fun w_ hS_ => ld rfl Try.underlying28 rfl (hS_.box (mem_c mem_h) rfl)) HF18 rfl rfl ?_
   refine hT 2 rfl (by kernel_rfl) (fun w_ hS_ => mv rfl) HF18 rfl rfl ?_
   replace H := chk H; obtain ⟨c39, H⟩ := H
   obtain ⟨g25, o23, _, rfl, rfl, q23⟩ := RdS.at_ hr_a0_2 c39 c36
   refine hT 3 rfl (by kernel_rfl) (fun w_ hS_ => ia rfl rfl Try.underlying28 ti72 c39 c36) HF18 rfl rfl ?_
   refine hT 4 rfl (by kernel_rfl) (fun w_ hS_ => ldA rfl ti72 rfl rfl (fun j v hj => hS_.cells ((sub_c (sub_c hX_a0_2))) (q23 j v hj))) HF18 rfl rfl ?_
   refine hT 5 rfl (by kernel_rfl) (fun w_ hS_ => fa32_2 rfl) HF18 rfl rfl ?_
   refine hT 6 rfl (by kernel_rfl) (fun w_ hS_ => ld rfl Try.underlying28 rfl (hS_.box (mem_h) rfl)) HF18 rfl rfl ?_
   refine hT 7 rfl (by kernel_rfl) (fun w_ hS_ => mv rfl) HF18 rfl rfl ?_
   replace H := chk H; obtain ⟨c40, H⟩ := H
   obtain ⟨g26, o24, _, rfl, rfl, q24⟩ := RdS.at_ hr_a1_2 c39 c40
   refine hT 8 rfl (by kernel_rfl) (fun w_ hS_ => ia rfl rfl Try.underlying28 ti72 c39 c40) HF18 rfl rfl ?_
   refine hT 9 rfl (by kernel_rfl) (fun w_ hS_ => ldA rfl ti72 rfl rfl (fun j v hj => hS_.cells ((sub_c (sub_c hX_a1_2))) (q24 j v hj))) HF18 rfl rfl ?_
   refine hT 10 rfl (by kernel_rfl) (fun w_ hS_ => bAggNeq (xs := [.int .i64 ((rd a0.f_Stubs s3).f_Router), .int .i64 ((rd a0.f_Stubs s3).f_Prefix), .int .i64 ((rd a0.f_Stubs s3).f_Bits), .int .i64 ((rd a0.f_Stubs s3).f_Cost)]) (ys := [.int .i64 ((rd a1.f_Stubs s3).f_Router), .int .i64 ((rd a1.f_Stubs s3).f_Prefix), .int .i64 ((rd a1.f_Stubs s3).f_Bits), .int .i64 ((rd a1.f_Stubs s3).f_Cost)]) (n := 2) rfl rfl eg72 (eqStruct Try.underlying72 sh72 (eqFcons (by decide) (pt1 Try.underlying3 rfl rfl) (pt1 Try.underlying3 rfl rfl) (eqInt Try.underlying3) (eqFcons (by decide) (pt1 Try.underlying3 rfl rfl) (pt1 Try.underlying3 rfl rfl) (eqInt Try.underlying3) (eqFcons (by decide) (pt1 Try.underlying3 rfl rfl) (pt1 Try.underlying3 rfl rfl) (eqInt Try.underlying3) (eqFcons (by decide) (pt1 Try.underlying3 rfl rfl) (pt1 Try.underlying3 rfl rfl) (eqInt Try.underlying3) eqFnil))))) rfl (eq_T_api_Stub (rd a0.f_Stubs s3) (rd a1.f_Stubs s3))) HF18 rfl rfl ?_
   refine hEnd (by kernel_rfl) ?_
   refine kN (?_)
   refine hK37 _ _ ?_
   by_cases c41 : (rd a0.f_Stubs s3) = (rd a1.f_Stubs s3)
   ·replace H := itT c41 H
    refine cSet (i := 84) rfl (nF c41) ?_
    refine cF rfl ?_
    refine cSkip ?_
    refine jN (kN (?_))
    refine hK36 _ _ ?_
    refine cRgn [] trivial ?_
    refine sL (mv rfl) rfl ?_
    refine sL (bAdd rfl rfl) rfl ?_
    refine sL (asg rfl) rfl ?_
    refine lE ?_
    refine kN (?_)
    exact ofEnv (fun a hE => ⟨_, (Option.some.inj H).symm, ⟨hE.keep (Keep.cons rfl (Keep.cons rfl (Keep.cons rfl (Keep.cons rfl (Keep.nil))))), HF18⟩⟩)
   replace H := itF c41 H
   refine cSet (i := 84) rfl (nT c41) ?_
   refine cT rfl ?_
   refine cSeq (fun K38 hK38 => ?_)
   refine cRgn [] trivial ?_
   refine sL (asg rfl) rfl ?_
   refine lE ?_
   refine kN (?_)
   refine hK38 _ _ ?_
   refine cRet ?_
   have e_ := Hx2 _ (Option.some.inj H).symm
   subst e_
   replace H := Ho3
   obtain rfl := Option.some.inj H
   refine jR (kR (kR (jR (kR (kR (?_))))))
   refine ret1 rfl rfl ?_
   have HF19 := HF18.sublist (sl_dc (sl_dc sR))
   exact ⟨rfl, HF19⟩
  replace H := itF c36 H
  refine cSet (i := 71) rfl (dF c36) ?_
  refine cF rfl ?_
  refine cExit ?_
  refine kX (kX (jX (kN (?_))))
  exact ofEnv (fun a hE => ⟨_, (Option.some.inj H).symm, ⟨hE.keep (Keep.cons rfl (Keep.cons rfl (Keep.cons rfl (Keep.cons rfl (Keep.nil))))), HF17⟩⟩)
 rintro s3 a w17 rfl ⟨hE, HF20⟩
 replace H := Ho3
 refine go_k hE ?_
 refine kN (?_)
 refine hK22 _ _ ?_
 refine cSeq (fun K39 hK39 => ?_)
 refine cSeq (fun K40 hK40 => ?_)
 refine cRgn [] trivial ?_
 refine sL (asg rfl) rfl ?_
 refine lE ?_
 refine kN (?_)
 refine hK40 _ _ ?_
 replace H := bnd H; obtain ⟨y6, J5, Ho4⟩ := H
 refine cLoopB (f_plenumref17_SameMap.b2 a0 a1) (fun (s4 : Int) a w => Env 103 [(2, .pointer (some ⟨g1, 0, none⟩)), (3, .pointer (some ⟨g2, 0, none⟩)), (4, .bool false), (7, .int .i64 s4)] a ∧ Fits z w (bk g2 32 [.slice A_a1_0 a1.f_Verts.length c_a1_0, .slice A_a1_1 a1.f_Edges.length c_a1_1, .slice A_a1_2 a1.f_Stubs.length c_a1_2, .slice A_a1_3 a1.f_Spans.length c_a1_3, .slice A_a1_4 a1.f_Wilds.length c_a1_4] :: (bk g1 32 [.slice A_a0_0 a0.f_Verts.length c_a0_0, .slice A_a0_1 a0.f_Edges.length c_a0_1, .slice A_a0_2 a0.f_Stubs.length c_a0_2, .slice A_a0_3 a0.f_Spans.length c_a0_3, .slice A_a0_4 a0.f_Wilds.length c_a0_4] :: F))) J5 (fun a hE => ⟨hE.keep (Keep.cons rfl (Keep.cons rfl (Keep.cons rfl (Keep.cons rfl (Keep.nil))))), HF20⟩) ?_ ?_
 ·rintro s4 a w20 y7 ⟨hE, HF23⟩ H Hx3
  refine go_ hE ?_
  refine cSeq (fun K51 hK51 => ?_)
  refine cSeq (fun K52 hK52 => ?_)
  refine cRgn [] trivial ?_
  refine sL (mv rfl) rfl ?_
  refine sL (fa32_3 rfl) rfl ?_
  refine sL (ld rfl Try.underlying29 rfl (HF23.box (mem_c mem_h) rfl)) rfl ?_
  refine sL (lnS rfl Try.underlying29) rfl ?_
  refine sL (bLss rfl rfl) rfl ?_
  refine lE ?_
  refine kN (?_)
  refine hK52 _ _ ?_
  by_cases c52 : s4 < (a0.f_Spans.length : Int)
  ·replace H := itT c52 H
   refine cSet (i := 89) rfl (dT c52) ?_
   refine cT rfl ?_
   refine cSkip ?_
   refine kN (?_)
   refine hK51 _ _ ?_
   refine cSeq (fun K53 hK53 => ?_)
   refine cBlock ?_
   refine cSeq (fun K54 hK54 => ?_)
   refine cDraw mo_ HF23 rfl (fun w => Fits z w (bk g2 32 [.slice A_a1_0 a1.f_Verts.length c_a1_0, .slice A_a1_1 a1.f_Edges.length c_a1_1, .slice A_a1_2 a1.f_Stubs.length c_a1_2, .slice A_a1_3 a1.f_Spans.length c_a1_3, .slice A_a1_4 a1.f_Wilds.length c_a1_4] :: (bk g1 32 [.slice A_a0_0 a0.f_Verts.length c_a0_0, .slice A_a0_1 a0.f_Edges.length c_a0_1, .slice A_a0_2 a0.f_Stubs.length c_a0_2, .slice A_a0_3 a0.f_Spans.length c_a0_3, .slice A_a0_4 a0.f_Wilds.length c_a0_4] :: F))) (fun w21 HF24 => ?_)
   refine hT 0 rfl (by kernel_rfl) (fun w_ hS_ => fa32_3 rfl) HF24 rfl rfl ?_
   refine hT 1 rfl (by kernel_rfl) (fun w_ hS_ => ld rfl Try.underlying29 rfl (hS_.box (mem_c mem_h) rfl)) HF24 rfl rfl ?_
   refine hT 2 rfl (by kernel_rfl) (fun w_ hS_ => mv rfl) HF24 rfl rfl ?_
   replace H := chk H; obtain ⟨c55, H⟩ := H
   obtain ⟨g37, o35, _, rfl, rfl, q35⟩ := RdS.at_ hr_a0_3 c55 c52
   refine hT 3 rfl (by kernel_rfl) (fun w_ hS_ => ia rfl rfl Try.underlying29 ti74 c55 c52) HF24 rfl rfl ?_
   refine hT 4 rfl (by kernel_rfl) (fun w_ hS_ => ldA rfl ti74 rfl rfl (fun j v hj => hS_.cells ((sub_c (sub_c hX_a0_3))) (q35 j v hj))) HF24 rfl rfl ?_
   refine hT 5 rfl (by kernel_rfl) (fun w_ hS_ => fa32_3 rfl) HF24 rfl rfl ?_
   refine hT 6 rfl (by kernel_rfl) (fun w_ hS_ => ld rfl Try.underlying29 rfl (hS_.box (mem_h) rfl)) HF24 rfl rfl ?_
   refine hT 7 rfl (by kernel_rfl) (fun w_ hS_ => mv rfl) HF24 rfl rfl ?_
   replace H := chk H; obtain ⟨c56, H⟩ := H
   obtain ⟨g38, o36, _, rfl, rfl, q36⟩ := RdS.at_ hr_a1_3 c55 c56
   refine hT 8 rfl (by kernel_rfl) (fun w_ hS_ => ia rfl rfl Try.underlying29 ti74 c55 c56) HF24 rfl rfl ?_
   refine hT 9 rfl (by kernel_rfl) (fun w_ hS_ => ldA rfl ti74 rfl rfl (fun j v hj => hS_.cells ((sub_c (sub_c hX_a1_3))) (q36 j v hj))) HF24 rfl rfl ?_
   refine hT 10 rfl (by kernel_rfl) (fun w_ hS_ => bAggNeq (xs := [.int .i64 ((rd a0.f_Spans s4).f_Vert.f_Kind), .int .i64 ((rd a0.f_Spans s4).f_Vert.f_Id), .int .i64 ((rd a0.f_Spans s4).f_Prefix), .int .i64 ((rd a0.f_Spans s4).f_Bits)]) (ys := [.int .i64 ((rd a1.f_Spans s4).f_Vert.f_Kind), .int .i64 ((rd a1.f_Spans s4).f_Vert.f_Id), .int .i64 ((rd a1.f_Spans s4).f_Prefix), .int .i64 ((rd a1.f_Spans s4).f_Bits)]) (n := 3) rfl rfl eg74 (eqStruct Try.underlying74 sh74 (eqFcons (by decide) (ptA (cs := [.int .i64 ((rd a0.f_Spans s4).f_Vert.f_Kind), .int .i64 ((rd a0.f_Spans s4).f_Vert.f_Id)]) ti35 rfl rfl rfl) (ptA (cs := [.int .i64 ((rd a1.f_Spans s4).f_Vert.f_Kind), .int .i64 ((rd a1.f_Spans s4).f_Vert.f_Id)]) ti35 rfl rfl rfl) (eqStruct Try.underlying35 sh35 (eqFcons (by decide) (pt1 Try.underlying3 rfl rfl) (pt1 Try.underlying3 rfl rfl) (eqInt Try.underlying3) (eqFcons (by decide) (pt1 Try.underlying3 rfl rfl) (pt1 Try.underlying3 rfl rfl) (eqInt Try.underlying3) eqFnil))) (eqFcons (by decide) (pt1 Try.underlying3 rfl rfl) (pt1 Try.underlying3 rfl rfl) (EQ.up (eqInt Try.underlying3)) (eqFcons (by decide) (pt1 Try.underlying3 rfl rfl) (pt1 Try.underlying3 rfl rfl) (EQ.up (eqInt Try.underlying3)) eqFnil)))) rfl (eq_T_api_Span (rd a0.f_Spans s4) (rd a1.f_Spans s4))) HF24 rfl rfl ?_
   refine hEnd (by kernel_rfl) ?_
   refine kN (?_)
   refine hK54 _ _ ?_
   by_cases c57 : (rd a0.f_Spans s4) = (rd a1.f_Spans s4)
   ·replace H := itT c57 H
    refine cSet (i := 102) rfl (nF c57) ?_
    refine cF rfl ?_
    refine cSkip ?_
    refine jN (kN (?_))
    refine hK53 _ _ ?_
    refine cRgn [] trivial ?_
    refine sL (mv rfl) rfl ?_
    refine sL (bAdd rfl rfl) rfl ?_
    refine sL (asg rfl) rfl ?_
    refine lE ?_
    refine kN (?_)
    exact ofEnv (fun a hE => ⟨_, (Option.some.inj H).symm, ⟨hE.keep (Keep.cons rfl (Keep.cons rfl (Keep.cons rfl (Keep.cons rfl (Keep.nil))))), HF24⟩⟩)
   replace H := itF c57 H
   refine cSet (i := 102) rfl (nT c57) ?_
   refine cT rfl ?_
   refine cSeq (fun K55 hK55 => ?_)
   refine cRgn [] trivial ?_
   refine sL (asg rfl) rfl ?_
   refine lE ?_
   refine kN (?_)
   refine hK55 _ _ ?_
   refine cRet ?_
   have e_ := Hx3 _ (Option.some.inj H).symm
   subst e_
   replace H := Ho4
   obtain rfl := Option.some.inj H
   refine jR (kR (kR (jR (kR (kR (?_))))))
   refine ret1 rfl rfl ?_
   have HF25 := HF24.sublist (sl_dc (sl_dc sR))
   exact ⟨rfl, HF25⟩
  replace H := itF c52 H
  refine cSet (i := 89) rfl (dF c52) ?_
  refine cF rfl ?_
  refine cExit ?_
  refine kX (kX (jX (kN (?_))))
  exact ofEnv (fun a hE => ⟨_, (Option.some.inj H).symm, ⟨hE.keep (Keep.cons rfl (Keep.cons rfl (Keep.cons rfl (Keep.cons rfl (Keep.nil))))), HF23⟩⟩)
 rintro s4 a w22 rfl ⟨hE, HF26⟩
 replace H := Ho4
 refine go_k hE ?_
 refine kN (?_)
 refine hK39 _ _ ?_
 refine cSeq (fun K56 hK56 => ?_)
 refine cRgn [] trivial ?_
 refine sL (asg rfl) rfl ?_
 refine lE ?_
 refine kN (?_)
 refine hK56 _ _ ?_
 refine cRet ?_
 obtain rfl := Option.some.inj H
 refine ret1 rfl rfl ?_
 have HF27 := HF26.sublist (sl_dc (sl_dc sR))
 exact ⟨rfl, HF27⟩
/-! ### plenum/topo.Members$1 (function 37) -/
abbrev f_topo_Members_1_cap35_cap44.R := Bool
noncomputable def f_topo_Members_1_cap35_cap44 (a0 : T_api_Lsa) (a1 : T_api_Vert) (a2 : T_api_Lsa) : Option f_topo_Members_1_cap35_cap44.R := (if a0.f_Head.f_Id = a1.f_Id then some (decide (a0.f_Head.f_Adv = a2.f_Head.f_Adv)) else some false)
set_option maxHeartbeats 1000000 in
theorem f_topo_Members_1_cap35_cap44.ok {z w : World} {F G : Hp} (hG : G ⊆ F) {a0 : T_api_Lsa} {A_a0_8 : Option Addr} {c_a0_8 : Nat} {X_a0_8 : Hp} {A_a0_10 : Option Addr} {c_a0_10 : Nat} {X_a0_10 : Hp} {A_a0_11 : Option Addr} {c_a0_11 : Nat} {X_a0_11 : Hp} {a1 : T_api_Vert} {g_a1 : Nat} {a2 : T_api_Lsa} {g_a2 : Nat} {A_a2_8 : Option Addr} {c_a2_8 : Nat} {A_a2_10 : Option Addr} {c_a2_10 : Nat} {A_a2_11 : Option Addr} {c_a2_11 : Nat} {r : f_topo_Members_1_cap35_cap44.R} (H : f_topo_Members_1_cap35_cap44 a0 a1 a2 = some r) (HF : Fits z w (bk g_a1 35 [.int .i64 a1.f_Kind, .int .i64 a1.f_Id] :: (bk g_a2 44 [.int .i64 a2.f_Head.f_Age, .int .i64 a2.f_Head.f_Kind, .int .i64 a2.f_Head.f_Id, .int .i64 a2.f_Head.f_Adv, .int .i64 a2.f_Head.f_Seq, .int .i64 a2.f_Head.f_Sum, .int .i64 a2.f_Head.f_Len, .int .i64 a2.f_Flags, .slice A_a2_8 a2.f_Links.length c_a2_8, .int .i64 a2.f_Bits, .slice A_a2_10 a2.f_Routers.length c_a2_10, .slice A_a2_11 a2.f_Verts.length c_a2_11] :: F))) (hX_a0_8 : X_a0_8 ⊆ F) (hr_a0_8 : RdS k_T_api_Link X_a0_8 A_a0_8 c_a0_8 a0.f_Links) (hX_a0_10 : X_a0_10 ⊆ F) (hr_a0_10 : RdS (kInt .i64) X_a0_10 A_a0_10 c_a0_10 a0.f_Routers) (hX_a0_11 : X_a0_11 ⊆ F) (hr_a0_11 : RdS k_T_api_Vert X_a0_11 A_a0_11 c_a0_11 a0.f_Verts) (hr_a2_8 : RdS k_T_api_Link G A_a2_8 c_a2_8 a2.f_Links) (hr_a2_10 : RdS (kInt .i64) G A_a2_10 c_a2_10 a2.f_Routers) (hr_a2_11 : RdS k_T_api_Vert G A_a2_11 c_a2_11 a2.f_Verts) :
  Calls Try.prog 37 [.agg [.int .i64 a0.f_Head.f_Age, .int .i64 a0.f_Head.f_Kind, .int .i64 a0.f_Head.f_Id, .int .i64 a0.f_Head.f_Adv, .int .i64 a0.f_Head.f_Seq, .int .i64 a0.f_Head.f_Sum, .int .i64 a0.f_Head.f_Len, .int .i64 a0.f_Flags, .slice A_a0_8 a0.f_Links.length c_a0_8, .int .i64 a0.f_Bits, .slice A_a0_10 a0.f_Routers.length c_a0_10, .slice A_a0_11 a0.f_Verts.length c_a0_11].toArray, .pointer (some ⟨g_a1, 0, none⟩), .pointer (some ⟨g_a2, 0, none⟩)].toArray w fun e w' => e = .returned (.bool r) ∧ Fits z w' (bk g_a1 35 [.int .i64 a1.f_Kind, .int .i64 a1.f_Id] :: (bk g_a2 44 [.int .i64 a2.f_Head.f_Age, .int .i64 a2.f_Head.f_Kind, .int .i64 a2.f_Head.f_Id, .int .i64 a2.f_Head.f_Adv, .int .i64 a2.f_Head.f_Seq, .int .i64 a2.f_Head.f_Sum, .int .i64 a2.f_Head.f_Len, .int .i64 a2.f_Flags, .slice A_a2_8 a2.f_Links.length c_a2_8, .int .i64 a2.f_Bits, .slice A_a2_10 a2.f_Routers.length c_a2_10, .slice A_a2_11 a2.f_Verts.length c_a2_11] :: F)) := by
 unfold f_topo_Members_1_cap35_cap44 at H
 refine enter0 Try.func37 rfl Try.ntmps37 rfl (E := [(0, .agg [.int .i64 a0.f_Head.f_Age, .int .i64 a0.f_Head.f_Kind, .int .i64 a0.f_Head.f_Id, .int .i64 a0.f_Head.f_Adv, .int .i64 a0.f_Head.f_Seq, .int .i64 a0.f_Head.f_Sum, .int .i64 a0.f_Head.f_Len, .int .i64 a0.f_Flags, .slice A_a0_8 a0.f_Links.length c_a0_8, .int .i64 a0.f_Bits, .slice A_a0_10 a0.f_Routers.length c_a0_10, .slice A_a0_11 a0.f_Verts.length c_a0_11].toArray), (1, .pointer (some ⟨g_a1, 0, none⟩)), (2, .pointer (some ⟨g_a2, 0, none⟩))]) rfl ?_
 refine cSeq (fun K1 hK1 => ?_)
 refine cRgn [] trivial ?_
 refine eW (oBox HF rfl) rfl ?_
 rintro _ w1 ⟨g1, rfl, HF1⟩
 refine sL (asg rfl) rfl ?_
 refine lE ?_
 refine kN (?_)
 refine hK1 _ _ ?_
 refine cSeq (fun K2 hK2 => ?_)
 refine cRgn [(6, 11)] ⟨rfl, trivial⟩ ?_
 refine sL (fa44_0 rfl) rfl ?_
 refine sL (fa41_2 rfl) rfl ?_
 refine sL (ld rfl Try.underlying3 rfl (HF1.box (mem_h) rfl)) rfl ?_
 refine sL (fa35_1 rfl) rfl ?_
 refine sL (ld rfl Try.underlying3 rfl (HF1.box (mem_c mem_h) rfl)) rfl ?_
 refine sL (bEql rfl rfl) rfl ?_
 refine sL (mv rfl) rfl ?_
 by_cases c1 : a0.f_Head.f_Id = a1.f_Id
 ·replace H := itT c1 H
  refine lSet (i := 11) rfl (dT c1) ?_
  refine sG rfl rfl (fa44_0 rfl) rfl ?_
  refine sG rfl rfl (fa41_3 rfl) rfl ?_
  refine sG rfl rfl (ld rfl Try.underlying3 rfl (HF1.box (mem_h) rfl)) rfl ?_
  refine sG rfl rfl (fa44_0 rfl) rfl ?_
  refine sG rfl rfl (fa41_3 rfl) rfl ?_
  refine sG rfl rfl (ld rfl Try.underlying3 rfl (HF1.box (mem_c (mem_c mem_h)) rfl)) rfl ?_
  refine sG rfl rfl (bEql rfl rfl) rfl ?_
  refine sL (pkT rfl rfl) rfl ?_
  refine sL (asg rfl) rfl ?_
  refine lE ?_
  refine kN (?_)
  refine hK2 _ _ ?_
  refine cRet ?_
  obtain rfl := Option.some.inj H
  refine ret1 rfl rfl ?_
  have HF2 := HF1.sublist (sl_dc (sl_c (sl_c sR)))
  exact ⟨rfl, HF2⟩
 replace H := itF c1 H
 refine lSet (i := 11) rfl (dF c1) ?_
 refine sN rfl rfl rfl rfl ?_
 refine sN rfl rfl rfl rfl ?_
 refine sN rfl rfl rfl rfl ?_
 refine sN rfl rfl rfl rfl ?_
 refine sN rfl rfl rfl rfl ?_
 refine sN rfl rfl rfl rfl ?_
 refine sN rfl rfl rfl rfl ?_
 refine sL (pkF rfl rfl) rfl ?_
 refine sL (asg rfl) rfl ?_
 refine lE ?_
 refine kN (?_)
 refine hK2 _ _ ?_
 refine cRet ?_
 obtain rfl := Option.some.inj H
 refine ret1 rfl rfl ?_
 have HF3 := HF1.sublist (sl_dc (sl_c (sl_c sR)))
 exact ⟨rfl, HF3⟩
/-! ### slices.IndexFunc[[]plenum/api.Lsa,plenum/api.Lsa] (function 47) -/
abbrev f_slices_IndexFunc_api_Lsa_api_Lsa_fn37_35_44.R := Int
noncomputable def f_slices_IndexFunc_api_Lsa_api_Lsa_fn37_35_44.b0 (a0 : List T_api_Lsa) (a1_0 : T_api_Vert) (a1_1 : T_api_Lsa) (s1 : Int) : Option (Sum (Int) (Sum (Int) f_slices_IndexFunc_api_Lsa_api_Lsa_fn37_35_44.R)) := (if s1 < (a0.length : Int) then (if 0 ≤ s1 then ((f_topo_Members_1_cap35_cap44 (rd a0 s1) a1_0 a1_1).bind fun t3 => (if t3 = true then some (.inr (.inr s1)) else some (.inl (IntKind.i64.wrap (s1 + 1))))) else none) else some (.inr (.inl s1)))
noncomputable def f_slices_IndexFunc_api_Lsa_api_Lsa_fn37_35_44 (a0 : List T_api_Lsa) (a1_0 : T_api_Vert) (a1_1 : T_api_Lsa) : Option f_slices_IndexFunc_api_Lsa_api_Lsa_fn37_35_44.R := ((loopO (f_slices_IndexFunc_api_Lsa_api_Lsa_fn37_35_44.b0 a0 a1_0 a1_1) 0).bind fun y1 => match y1 with | .inl s1 => some (-1) | .inr r_ => some r_)
set_option maxHeartbeats 1000000 in
theorem f_slices_IndexFunc_api_Lsa_api_Lsa_fn37_35_44.ok {z w : World} {F G : Hp} (hG : G ⊆ F) {a0 : List T_api_Lsa} {A_a0 : Option Addr} {c_a0 : Nat} {X_a0 : Hp} {a1_0 : T_api_Vert} {g_a1_0 : Nat} {a1_1 : T_api_Lsa} {g_a1_1 : Nat} {A_a1_1_8 : Option Addr} {c_a1_1_8 : Nat} {A_a1_1_10 : Option Addr} {c_a1_1_10 : Nat} {A_a1_1_11 : Option Addr} {c_a1_1_11 : Nat} {r : f_slices_IndexFunc_api_Lsa_api_Lsa_fn37_35_44.R} (H : f_slices_IndexFunc_api_Lsa_api_Lsa_fn37_35_44 a0 a1_0 a1_1 = some r) (HF : Fits z w (bk g_a1_0 35 [.int .i64 a1_0.f_Kind, .int .i64 a1_0.f_Id] :: (bk g_a1_1 44 [.int .i64 a1_1.f_Head.f_Age, .int .i64 a1_1.f_Head.f_Kind, .int .i64 a1_1.f_Head.f_Id, .int .i64 a1_1.f_Head.f_Adv, .int .i64 a1_1.f_Head.f_Seq, .int .i64 a1_1.f_Head.f_Sum, .int .i64 a1_1.f_Head.f_Len, .int .i64 a1_1.f_Flags, .slice A_a1_1_8 a1_1.f_Links.length c_a1_1_8, .int .i64 a1_1.f_Bits, .slice A_a1_1_10 a1_1.f_Routers.length c_a1_1_10, .slice A_a1_1_11 a1_1.f_Verts.length c_a1_1_11] :: F))) (hX_a0 : X_a0 ⊆ F) (hr_a0 : RdS (kShr G k_T_api_Lsa) X_a0 A_a0 c_a0 a0) (hr_a1_1_8 : RdS k_T_api_Link G A_a1_1_8 c_a1_1_8 a1_1.f_Links) (hr_a1_1_10 : RdS (kInt .i64) G A_a1_1_10 c_a1_1_10 a1_1.f_Routers) (hr_a1_1_11 : RdS k_T_api_Vert G A_a1_1_11 c_a1_1_11 a1_1.f_Verts) :
  Calls Try.prog 47 [.slice A_a0 a0.length c_a0, .func (.func 37) [].toArray [.pointer (some ⟨g_a1_0, 0, none⟩), .pointer (some ⟨g_a1_1, 0, none⟩)].toArray].toArray w fun e w' => e = .returned (.int .i64 r) ∧ Fits z w' (bk g_a1_0 35 [.int .i64 a1_0.f_Kind, .int .i64 a1_0.f_Id] :: (bk g_a1_1 44 [.int .i64 a1_1.f_Head.f_Age, .int .i64 a1_1.f_Head.f_Kind, .int .i64 a1_1.f_Head.f_Id, .int .i64 a1_1.f_Head.f_Adv, .int .i64 a1_1.f_Head.f_Seq, .int .i64 a1_1.f_Head.f_Sum, .int .i64 a1_1.f_Head.f_Len, .int .i64 a1_1.f_Flags, .slice A_a1_1_8 a1_1.f_Links.length c_a1_1_8, .int .i64 a1_1.f_Bits, .slice A_a1_1_10 a1_1.f_Routers.length c_a1_1_10, .slice A_a1_1_11 a1_1.f_Verts.length c_a1_1_11] :: F)) := by
 unfold f_slices_IndexFunc_api_Lsa_api_Lsa_fn37_35_44 at H
 refine enter0 Try.func47 rfl Try.ntmps47 rfl (E := [(0, .slice A_a0 a0.length c_a0), (1, .func (.func 37) [].toArray [.pointer (some ⟨g_a1_0, 0, none⟩), .pointer (some ⟨g_a1_1, 0, none⟩)].toArray)]) rfl ?_
 refine cSeq (fun K1 hK1 => ?_)
 refine cRgn [] trivial ?_
 refine sL (asg rfl) rfl ?_
 refine lE ?_
 refine kN (?_)
 refine hK1 _ _ ?_
 refine cSeq (fun K2 hK2 => ?_)
 refine cSeq (fun K3 hK3 => ?_)
 refine cRgn [] trivial ?_
 refine sL (mv rfl) rfl ?_
 refine sL (lnS rfl Try.underlying24) rfl ?_
 refine sL (mv rfl) rfl ?_
 refine lE ?_
 refine kN (?_)
 refine hK3 _ _ ?_
 replace H := bnd H; obtain ⟨y1, J4, Ho1⟩ := H
 refine cLoopB (f_slices_IndexFunc_api_Lsa_api_Lsa_fn37_35_44.b0 a0 a1_0 a1_1) (fun (s1 : Int) a w => Env 19 [(0, .slice A_a0 a0.length c_a0), (1, .func (.func 37) [].toArray [.pointer (some ⟨g_a1_0, 0, none⟩), .pointer (some ⟨g_a1_1, 0, none⟩)].toArray), (4, .int .i64 0), (7, .int .i64 (a0.length : Int)), (8, .int .i64 s1)] a ∧ Fits z w (bk g_a1_0 35 [.int .i64 a1_0.f_Kind, .int .i64 a1_0.f_Id] :: (bk g_a1_1 44 [.int .i64 a1_1.f_Head.f_Age, .int .i64 a1_1.f_Head.f_Kind, .int .i64 a1_1.f_Head.f_Id, .int .i64 a1_1.f_Head.f_Adv, .int .i64 a1_1.f_Head.f_Seq, .int .i64 a1_1.f_Head.f_Sum, .int .i64 a1_1.f_Head.f_Len, .int .i64 a1_1.f_Flags, .slice A_a1_1_8 a1_1.f_Links.length c_a1_1_8, .int .i64 a1_1.f_Bits, .slice A_a1_1_10 a1_1.f_Routers.length c_a1_1_10, .slice A_a1_1_11 a1_1.f_Verts.length c_a1_1_11] :: F))) J4 (fun a hE => ⟨hE.keep (Keep.cons rfl (Keep.cons rfl (Keep.cons rfl (Keep.cons rfl (Keep.cons rfl (Keep.nil)))))), HF⟩) ?_ ?_
 ·rintro s1 a w3 y2 ⟨hE, HF7⟩ H Hx1
  refine go_ hE ?_
  refine cSeq (fun K16 hK16 => ?_)
  refine cRgn [] trivial ?_
  refine sL (bLss rfl rfl) rfl ?_
  refine lE ?_
  refine kN (?_)
  refine hK16 _ _ ?_
  refine cSeq (fun K17 hK17 => ?_)
  by_cases c12 : s1 < (a0.length : Int)
  ·replace H := itT c12 H
   refine cSet (i := 9) rfl (dT c12) ?_
   refine cT rfl ?_
   refine cSkip ?_
   refine kN (?_)
   refine hK17 _ _ ?_
   refine cSeq (fun K18 hK18 => ?_)
   refine cBlock ?_
   refine cSeq (fun K19 hK19 => ?_)
   refine cRgn [] trivial ?_
   refine sL (mv rfl) rfl ?_
   refine sL (asg rfl) rfl ?_
   refine lE ?_
   refine kN (?_)
   refine hK19 _ _ ?_
   refine cSeq (fun K20 hK20 => ?_)
   refine cRgn [] trivial ?_
   refine sL (mv rfl) rfl ?_
   refine sL (mv rfl) rfl ?_
   refine sL (mv rfl) rfl ?_
   replace H := chk H; obtain ⟨c13, H⟩ := H
   obtain ⟨g3, o3, e6, rfl, hk3, q3⟩ := RdS.at_ hr_a0 c13 c12
   obtain ⟨A7, c14, A8, c15, A9, c16, rfl, hr7, hr8, hr9⟩ := rd_T_api_Lsa hk3
   refine sL (ia rfl rfl Try.underlying24 ti44 c13 c12) rfl ?_
   refine sL (ldA rfl ti44 rfl rfl (fun j v hj => HF7.cells ((sub_c (sub_c hX_a0))) (q3 j v hj))) rfl ?_
   have HF8 := HF7.perm (perm_c1 pR)
   have HF9 := HF8.perm (perm_c1 pR)
   replace H := bnd H; obtain ⟨t3, J3, H⟩ := H
   refine eCall isf37 rfl rfl rfl (f_topo_Members_1_cap35_cap44.ok (a0 := (rd a0 s1)) (a1 := a1_0) (a2 := a1_1) hG J3 HF9 hG hr7 hG hr8 hG hr9 hr_a1_1_8 hr_a1_1_10 hr_a1_1_11) ?_
   rintro _ w4 ⟨rfl, HF10⟩
   refine ⟨_, rfl, ?_⟩
   refine lE ?_
   refine kN (?_)
   refine hK20 _ _ ?_
   by_cases c17 : t3 = true
   ·replace H := itT c17 H
    refine cSet (i := 16) rfl (vT c17) ?_
    refine cT rfl ?_
    refine cSeq (fun K21 hK21 => ?_)
    refine cRgn [] trivial ?_
    refine sL (mv rfl) rfl ?_
    refine sL (asg rfl) rfl ?_
    refine lE ?_
    refine kN (?_)
    refine hK21 _ _ ?_
    refine cRet ?_
    have e_ := Hx1 _ (Option.some.inj H).symm
    subst e_
    replace H := Ho1
    obtain rfl := Option.some.inj H
    refine jR (kR (kR (jR (kR (kR (?_))))))
    refine ret1 rfl rfl ?_
    exact ⟨rfl, HF10⟩
   replace H := itF c17 H
   refine cSet (i := 16) rfl (vF c17) ?_
   refine cF rfl ?_
   refine cSkip ?_
   refine jN (kN (?_))
   refine hK18 _ _ ?_
   refine cRgn [] trivial ?_
   refine sL (bAdd rfl rfl) rfl ?_
   refine sL (mv rfl) rfl ?_
   refine lE ?_
   refine kN (?_)
   exact ofEnv (fun a hE => ⟨_, (Option.some.inj H).symm, ⟨hE.keep (Keep.cons rfl (Keep.cons rfl (Keep.cons rfl (Keep.cons rfl (Keep.cons rfl (Keep.nil)))))), HF10⟩⟩)
  replace H := itF c12 H
  refine cSet (i := 9) rfl (dF c12) ?_
  refine cF rfl ?_
  refine cExit ?_
  refine kX (kX (jX (kN (?_))))
  exact ofEnv (fun a hE => ⟨_, (Option.some.inj H).symm, ⟨hE.keep (Keep.cons rfl (Keep.cons rfl (Keep.cons rfl (Keep.cons rfl (Keep.cons rfl (Keep.nil)))))), HF7⟩⟩)
 rintro s1 a w5 rfl ⟨hE, HF11⟩
 replace H := Ho1
 refine go_k hE ?_
 refine kN (?_)
 refine hK2 _ _ ?_
 refine cSeq (fun K22 hK22 => ?_)
 refine cRgn [] trivial ?_
 refine sL (asg rfl) rfl ?_
 refine lE ?_
 refine kN (?_)
 refine hK22 _ _ ?_
 refine cRet ?_
 obtain rfl := Option.some.inj H
 refine ret1 rfl rfl ?_
 exact ⟨rfl, HF11⟩
/-! ### slices.ContainsFunc[[]plenum/api.Lsa,plenum/api.Lsa] (function 36) -/
abbrev f_slices_ContainsFunc_api_Lsa_api_Lsa_fn37_35_44.R := Bool
noncomputable def f_slices_ContainsFunc_api_Lsa_api_Lsa_fn37_35_44 (a0 : List T_api_Lsa) (a1_0 : T_api_Vert) (a1_1 : T_api_Lsa) : Option f_slices_ContainsFunc_api_Lsa_api_Lsa_fn37_35_44.R := ((f_slices_IndexFunc_api_Lsa_api_Lsa_fn37_35_44 a0 a1_0 a1_1).bind fun t1 => some (decide (0 ≤ t1)))
set_option maxHeartbeats 1000000 in
theorem f_slices_ContainsFunc_api_Lsa_api_Lsa_fn37_35_44.ok {z w : World} {F G : Hp} (hG : G ⊆ F) {a0 : List T_api_Lsa} {A_a0 : Option Addr} {c_a0 : Nat} {X_a0 : Hp} {a1_0 : T_api_Vert} {g_a1_0 : Nat} {a1_1 : T_api_Lsa} {g_a1_1 : Nat} {A_a1_1_8 : Option Addr} {c_a1_1_8 : Nat} {A_a1_1_10 : Option Addr} {c_a1_1_10 : Nat} {A_a1_1_11 : Option Addr} {c_a1_1_11 : Nat} {r : f_slices_ContainsFunc_api_Lsa_api_Lsa_fn37_35_44.R} (H : f_slices_ContainsFunc_api_Lsa_api_Lsa_fn37_35_44 a0 a1_0 a1_1 = some r) (HF : Fits z w (bk g_a1_0 35 [.int .i64 a1_0.f_Kind, .int .i64 a1_0.f_Id] :: (bk g_a1_1 44 [.int .i64 a1_1.f_Head.f_Age, .int .i64 a1_1.f_Head.f_Kind, .int .i64 a1_1.f_Head.f_Id, .int .i64 a1_1.f_Head.f_Adv, .int .i64 a1_1.f_Head.f_Seq, .int .i64 a1_1.f_Head.f_Sum, .int .i64 a1_1.f_Head.f_Len, .int .i64 a1_1.f_Flags, .slice A_a1_1_8 a1_1.f_Links.length c_a1_1_8, .int .i64 a1_1.f_Bits, .slice A_a1_1_10 a1_1.f_Routers.length c_a1_1_10, .slice A_a1_1_11 a1_1.f_Verts.length c_a1_1_11] :: F))) (hX_a0 : X_a0 ⊆ F) (hr_a0 : RdS (kShr G k_T_api_Lsa) X_a0 A_a0 c_a0 a0) (hr_a1_1_8 : RdS k_T_api_Link G A_a1_1_8 c_a1_1_8 a1_1.f_Links) (hr_a1_1_10 : RdS (kInt .i64) G A_a1_1_10 c_a1_1_10 a1_1.f_Routers) (hr_a1_1_11 : RdS k_T_api_Vert G A_a1_1_11 c_a1_1_11 a1_1.f_Verts) :
  Calls Try.prog 36 [.slice A_a0 a0.length c_a0, .func (.func 37) [].toArray [.pointer (some ⟨g_a1_0, 0, none⟩), .pointer (some ⟨g_a1_1, 0, none⟩)].toArray].toArray w fun e w' => e = .returned (.bool r) ∧ Fits z w' (bk g_a1_0 35 [.int .i64 a1_0.f_Kind, .int .i64 a1_0.f_Id] :: (bk g_a1_1 44 [.int .i64 a1_1.f_Head.f_Age, .int .i64 a1_1.f_Head.f_Kind, .int .i64 a1_1.f_Head.f_Id, .int .i64 a1_1.f_Head.f_Adv, .int .i64 a1_1.f_Head.f_Seq, .int .i64 a1_1.f_Head.f_Sum, .int .i64 a1_1.f_Head.f_Len, .int .i64 a1_1.f_Flags, .slice A_a1_1_8 a1_1.f_Links.length c_a1_1_8, .int .i64 a1_1.f_Bits, .slice A_a1_1_10 a1_1.f_Routers.length c_a1_1_10, .slice A_a1_1_11 a1_1.f_Verts.length c_a1_1_11] :: F)) := by
 unfold f_slices_ContainsFunc_api_Lsa_api_Lsa_fn37_35_44 at H
 refine enter0 Try.func36 rfl Try.ntmps36 rfl (E := [(0, .slice A_a0 a0.length c_a0), (1, .func (.func 37) [].toArray [.pointer (some ⟨g_a1_0, 0, none⟩), .pointer (some ⟨g_a1_1, 0, none⟩)].toArray)]) rfl ?_
 refine cSeq (fun K1 hK1 => ?_)
 refine cRgn [] trivial ?_
 refine sL (asg rfl) rfl ?_
 refine lE ?_
 refine kN (?_)
 refine hK1 _ _ ?_
 refine cSeq (fun K2 hK2 => ?_)
 refine cRgn [] trivial ?_
 refine sL (mv rfl) rfl ?_
 refine sL (mv rfl) rfl ?_
 have HF1 := HF.perm (perm_c1 pR)
 have HF2 := HF1.perm (perm_c1 pR)
 replace H := bnd H; obtain ⟨t1, J1, H⟩ := H
 refine eCall isf47 rfl rfl rfl (f_slices_IndexFunc_api_Lsa_api_Lsa_fn37_35_44.ok (a0 := a0) (a1_0 := a1_0) (a1_1 := a1_1) hG J1 HF2 hX_a0 hr_a0 hr_a1_1_8 hr_a1_1_10 hr_a1_1_11) ?_
 rintro _ w1 ⟨rfl, HF3⟩
 refine ⟨_, rfl, ?_⟩
 refine sL (bGeq rfl rfl) rfl ?_
 refine sL (asg rfl) rfl ?_
 refine lE ?_
 refine kN (?_)
 refine hK2 _ _ ?_
 refine cRet ?_
 obtain rfl := Option.some.inj H
 refine ret1 rfl rfl ?_
 exact ⟨rfl, HF3⟩
/-! ### plenum/topo.Members$2 (function 39) -/
abbrev f_topo_Members_2.R := Int
noncomputable def f_topo_Members_2 (a0 : T_api_Vert) (a1 : T_api_Vert) : Option f_topo_Members_2.R := ((f_cmp_Compare_int a0.f_Kind a1.f_Kind).bind fun t4 => ((f_cmp_Compare_int a0.f_Id a1.f_Id).bind fun t5 => ((f_cmp_Or_int ([t4, t5])).bind fun t6 => some t6)))
set_option maxHeartbeats 1000000 in
theorem f_topo_Members_2.ok {z w : World} {F G : Hp} (hG : G ⊆ F) {a0 : T_api_Vert} {a1 : T_api_Vert} {r : f_topo_Members_2.R} (H : f_topo_Members_2 a0 a1 = some r) (HF : Fits z w F) :
  Calls Try.prog 39 [.agg [.int .i64 a0.f_Kind, .int .i64 a0.f_Id].toArray, .agg [.int .i64 a1.f_Kind, .int .i64 a1.f_Id].toArray].toArray w fun e w' => e = .returned (.int .i64 r) ∧ Fits z w' F := by
 unfold f_topo_Members_2 at H
 refine enter0 Try.func39 rfl Try.ntmps39 rfl (E := [(0, .agg [.int .i64 a0.f_Kind, .int .i64 a0.f_Id].toArray), (1, .agg [.int .i64 a1.f_Kind, .int .i64 a1.f_Id].toArray)]) rfl ?_
 refine cSeq (fun K1 hK1 => ?_)
 refine cRgn [] trivial ?_
 refine eW (oBox HF rfl) rfl ?_
 rintro _ w1 ⟨g1, rfl, HF1⟩
 refine eW (oBox HF1 rfl) rfl ?_
 rintro _ w2 ⟨g2, rfl, HF2⟩
 refine sL (asg rfl) rfl ?_
 refine lE ?_
 refine kN (?_)
 refine hK1 _ _ ?_
 refine cSeq (fun K2 hK2 => ?_)
 refine cDraw mo_ HF2 rfl (fun w => Fits z w (bk g2 35 [.int .i64 a1.f_Kind, .int .i64 a1.f_Id] :: (bk g1 35 [.int .i64 a0.f_Kind, .int .i64 a0.f_Id] :: F))) (fun w7 HF9 => ?_)
 refine hT 0 rfl (by kernel_rfl) (fun w_ hS_ => fa35_0 rfl) HF9 rfl rfl ?_
 refine hT 1 rfl (by kernel_rfl) (fun w_ hS_ => ld rfl Try.underlying3 rfl (hS_.box (mem_c mem_h) rfl)) HF9 rfl rfl ?_
 refine hT 2 rfl (by kernel_rfl) (fun w_ hS_ => fa35_0 rfl) HF9 rfl rfl ?_
 refine hT 3 rfl (by kernel_rfl) (fun w_ hS_ => ld rfl Try.underlying3 rfl (hS_.box (mem_h) rfl)) HF9 rfl rfl ?_
 refine hT 5 rfl (by kernel_rfl) (fun w_ hS_ => fa35_1 rfl) HF9 rfl rfl ?_
 refine hT 6 rfl (by kernel_rfl) (fun w_ hS_ => ld rfl Try.underlying3 rfl (hS_.box (mem_c mem_h) rfl)) HF9 rfl rfl ?_
 refine hT 7 rfl (by kernel_rfl) (fun w_ hS_ => fa35_1 rfl) HF9 rfl rfl ?_
 refine hT 8 rfl (by kernel_rfl) (fun w_ hS_ => ld rfl Try.underlying3 rfl (hS_.box (mem_h) rfl)) HF9 rfl rfl ?_
 refine h1 4 (by kernel_rfl) rfl ?_
 replace H := bnd H; obtain ⟨t4, J4, H⟩ := H
 refine qCall rfl gd0 isf41 rfl rfl rfl (f_cmp_Compare_int.ok J4 HF9) ?_
 rintro _ w8 ⟨rfl, HF10⟩
 refine ⟨_, rfl, HF10, ?_⟩
 refine h1 9 (by kernel_rfl) rfl ?_
 replace H := bnd H; obtain ⟨t5, J5, H⟩ := H
 refine qCall rfl gd0 isf41 rfl rfl rfl (f_cmp_Compare_int.ok J5 HF10) ?_
 rintro _ w9 ⟨rfl, HF11⟩
 refine ⟨_, rfl, HF11, ?_⟩
 refine h1 10 (by kernel_rfl) rfl ?_
 refine qW rfl gd0 (oLit (r := [.int .i64 t4, .int .i64 t5]) (kInt .i64) [t4, t5] HF11 Try.underlying30 ti3 rfl rfl rfl rfl ⟨[], [], [.int .i64 t4], _, rfl, rfl, ⟨rfl, rfl⟩, ⟨[], [], [.int .i64 t5], _, rfl, rfl, ⟨rfl, rfl⟩, ⟨rfl, rfl⟩⟩⟩ rfl rfl) rfl ?_
 rintro _ w10 ⟨L2, A2, c2, rfl, HF12, ho2⟩
 have HF13 := HF12.sublist (sl_da (sl_c (sl_c sR)))
 refine ⟨HF13, ?_⟩
 refine h1 11 (by kernel_rfl) rfl ?_
 replace H := bnd H; obtain ⟨t6, J6, H⟩ := H
 refine qCall rfl gd0 isf40 rfl rfl rfl (f_cmp_Or_int.ok (a0 := [t4, t5]) (sub_a (sub_c (sub_c hG))) J6 HF12 sub_h ho2.rd) ?_
 rintro _ w11 ⟨rfl, HF14⟩
 have HF15 := HF14.sublist (sl_da (sl_c (sl_c sR)))
 refine ⟨_, rfl, HF15, ?_⟩
 refine hT 12 rfl (by kernel_rfl) (fun w_ hS_ => asg rfl) HF15 rfl rfl ?_
 refine hEnd (by kernel_rfl) ?_
 refine kN (?_)
 refine hK2 _ _ ?_
 refine cRet ?_
 obtain rfl := Option.some.inj H
 refine ret1 rfl rfl ?_
 have HF16 := HF14.sublist (sl_da (sl_dc (sl_dc sR)))
 exact ⟨rfl, HF16⟩
end Go.Proofs.Ytbjnbjgiidcfjaa
