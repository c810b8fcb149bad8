/- The walk, part 3. Conditions: none beside each theorem's own. Written by gen.py out of the print of the loaded program. -/
import Derived.Test.YtbjnbjgiidcfjaaG2
import Derived.KernelRfl
set_option linter.unusedVariables false
set_option linter.unusedSimpArgs false
namespace Go.Proofs.Ytbjnbjgiidcfjaa
open Go Go.Proofs.Ytbjnbjgiidcfjaa.Sp

/-! ### plenum/topo.Map (function 9) -/
abbrev f_topo_Map.R := T_api_Map
noncomputable def f_topo_Map.b0 (t3 : List T_api_Lsa) (t4 : List (Int × T_api_Lsa)) (t6 : List T_api_Lsa) (t7 : List (Int × T_api_Lsa)) (s17 : Int × (List T_api_Vert) × (List T_api_Edge) × (List T_api_Stub) × (List Int)) (s23 : Int × (List T_api_Edge) × (List T_api_Stub)) : Option (Sum (Int × (List T_api_Edge) × (List T_api_Stub)) (Sum (Int × (List T_api_Edge) × (List T_api_Stub)) f_topo_Map.R)) := (if s23.1 < (((rd t3 s17.1).f_Links).length : Int) then (if 0 ≤ s23.1 then ((f_topo_area_edge_obj (⟨t3, t6, t4, t7⟩ : T_topo_area) (rd t3 s17.1) (rd ((rd t3 s17.1).f_Links) s23.1)).bind fun (t48, t49) => ((((if t49 = true then (if (s23.2.1.length + 1) * 48 ≤ 140737488355328 then some (.inl (s23.2.1 ++ [t48])) else none) else some (.inl s23.2.1)) : Option (Sum ((List T_api_Edge)) f_topo_Map.R))).bind fun y28 => match y28 with | .inl s24 => ((f_addr_Bits ((rd ((rd t3 s17.1).f_Links) s23.1).f_Data)).bind fun t50 => ((((if ((rd ((rd t3 s17.1).f_Links) s23.1).f_Kind) = 3 then some (.inl (decide (0 ≤ t50))) else some (.inl false)) : Option (Sum (Bool) f_topo_Map.R))).bind fun y29 => match y29 with | .inl s25 => (if s25 = true then ((f_addr_Net ((rd ((rd t3 s17.1).f_Links) s23.1).f_Id) t50).bind fun t52 => (if (s23.2.2.length + 1) * 32 ≤ 140737488355328 then some (.inl (IntKind.i64.wrap (s23.1 + 1), s24, (s23.2.2 ++ [(⟨(rd t3 s17.1).f_Head.f_Id, t52, t50, (rd ((rd t3 s17.1).f_Links) s23.1).f_Cost⟩ : T_api_Stub)]))) else none)) else some (.inl (IntKind.i64.wrap (s23.1 + 1), s24, s23.2.2))) | .inr r_ => some (.inr (.inr r_)))) | .inr r_ => some (.inr (.inr r_)))) else none) else some (.inr (.inl (s23.1, s23.2.1, s23.2.2))))
noncomputable def f_topo_Map.b1 (t3 : List T_api_Lsa) (t4 : List (Int × T_api_Lsa)) (t6 : List T_api_Lsa) (t7 : List (Int × T_api_Lsa)) (s17 : Int × (List T_api_Vert) × (List T_api_Edge) × (List T_api_Stub) × (List Int)) : Option (Sum (Int × (List T_api_Vert) × (List T_api_Edge) × (List T_api_Stub) × (List Int)) (Sum (Int × (List T_api_Vert) × (List T_api_Edge) × (List T_api_Stub) × (List Int)) f_topo_Map.R)) := (if s17.1 < (t3.length : Int) then (if 0 ≤ s17.1 then (if (s17.2.1.length + 1) * 16 ≤ 140737488355328 then ((((if (bits .and .i64 ((rd t3 s17.1).f_Flags) 8) = 0 then some (.inl s17.2.2.2.2) else (if (s17.2.2.2.2.length + 1) * 8 ≤ 140737488355328 then some (.inl (s17.2.2.2.2 ++ [(rd t3 s17.1).f_Head.f_Id])) else none)) : Option (Sum ((List Int)) f_topo_Map.R))).bind fun y21 => match y21 with | .inl s18 => ((loopO (f_topo_Map.b0 t3 t4 t6 t7 s17) (0, s17.2.2.1, s17.2.2.2.1)).bind fun y26 => match y26 with | .inl s23 => some (.inl (IntKind.i64.wrap (s17.1 + 1), (s17.2.1 ++ [(⟨1, (rd t3 s17.1).f_Head.f_Id⟩ : T_api_Vert)]), s23.2.1, s23.2.2, s18)) | .inr r_ => some (.inr (.inr r_))) | .inr r_ => some (.inr (.inr r_))) else none) else none) else some (.inr (.inl (s17.1, s17.2.1, s17.2.2.1, s17.2.2.2.1, s17.2.2.2.2))))
noncomputable def f_topo_Map.b2 (t4 : List (Int × T_api_Lsa)) (t6 : List T_api_Lsa) (s34 : Int × (List T_api_Vert) × (List T_api_Edge) × (List T_api_Span)) (s37 : Int × (List T_api_Edge)) : Option (Sum (Int × (List T_api_Edge)) (Sum (Int × (List T_api_Edge)) f_topo_Map.R)) := (if s37.1 < (((rd t6 s34.1).f_Routers).length : Int) then (if 0 ≤ s37.1 then (((((f_topo_back (mGetD (⟨(⟨0, 0, 0, 0, 0, 0, 0⟩ : T_api_Head), 0, [], 0, [], []⟩ : T_api_Lsa) t4 (rd ((rd t6 s34.1).f_Routers) s37.1)) 2 ((rd t6 s34.1).f_Head.f_Id)).bind fun (t155, t156) => some (.inl (t156, t155.f_Kind, t155.f_Id, t155.f_Data, t155.f_Cost))) : Option (Sum (Bool × Int × Int × Int × Int) f_topo_Map.R))).bind fun y46 => match y46 with | .inl s38 => (if s38.1 = true then (if s37.1 ≤ (((rd t6 s34.1).f_Routers).length : Int) then ((f_slices_Contains_int_int (cutL ((rd t6 s34.1).f_Routers) 0 s37.1) (rd ((rd t6 s34.1).f_Routers) s37.1)).bind fun t157 => (if t157 = true then some (.inl (IntKind.i64.wrap (s37.1 + 1), s37.2)) else (if (s37.2.length + 1) * 48 ≤ 140737488355328 then some (.inl (IntKind.i64.wrap (s37.1 + 1), (s37.2 ++ [(⟨(⟨2, (rd t6 s34.1).f_Head.f_Id⟩ : T_api_Vert), (⟨1, (rd ((rd t6 s34.1).f_Routers) s37.1)⟩ : T_api_Vert), 0, s38.2.2.2.1⟩ : T_api_Edge)]))) else none))) else none) else some (.inl (IntKind.i64.wrap (s37.1 + 1), s37.2))) | .inr r_ => some (.inr (.inr r_))) else none) else some (.inr (.inl (s37.1, s37.2))))
noncomputable def f_topo_Map.b3 (t4 : List (Int × T_api_Lsa)) (t6 : List T_api_Lsa) (s34 : Int × (List T_api_Vert) × (List T_api_Edge) × (List T_api_Span)) : Option (Sum (Int × (List T_api_Vert) × (List T_api_Edge) × (List T_api_Span)) (Sum (Int × (List T_api_Vert) × (List T_api_Edge) × (List T_api_Span)) f_topo_Map.R)) := (if s34.1 < (t6.length : Int) then (if 0 ≤ s34.1 then (if (s34.2.1.length + 1) * 16 ≤ 140737488355328 then ((f_addr_Net ((rd t6 s34.1).f_Head.f_Id) ((rd t6 s34.1).f_Bits)).bind fun t124 => (if (s34.2.2.2.length + 1) * 32 ≤ 140737488355328 then ((loopO (f_topo_Map.b2 t4 t6 s34) (0, s34.2.2.1)).bind fun y44 => match y44 with | .inl s37 => some (.inl (IntKind.i64.wrap (s34.1 + 1), (s34.2.1 ++ [(⟨2, (rd t6 s34.1).f_Head.f_Id⟩ : T_api_Vert)]), s37.2, (s34.2.2.2 ++ [(⟨(⟨2, (rd t6 s34.1).f_Head.f_Id⟩ : T_api_Vert), t124, (rd t6 s34.1).f_Bits⟩ : T_api_Span)]))) | .inr r_ => some (.inr (.inr r_))) else none)) else none) else none) else some (.inr (.inl (s34.1, s34.2.1, s34.2.2.1, s34.2.2.2))))
noncomputable def f_topo_Map (a0 : List T_api_Lsa) : Option f_topo_Map.R := ((f_topo_live a0 1).bind fun t1 => ((f_slices_DeleteFunc_api_Lsa_api_Lsa_fn22 t1).bind fun t2 => ((f_topo_once t2).bind fun (t3, t4) => ((f_topo_live a0 2).bind fun t5 => ((f_topo_once t5).bind fun (t6, t7) => ((loopO (f_topo_Map.b1 t3 t4 t6 t7) (0, [], [], [], [])).bind fun y19 => match y19 with | .inl s17 => ((loopO (f_topo_Map.b3 t4 t6) (0, s17.2.1, s17.2.2.1, [])).bind fun y40 => match y40 with | .inl s34 => some (⟨s34.2.1, s34.2.2.1, s17.2.2.2.1, s34.2.2.2, s17.2.2.2.2⟩ : T_api_Map) | .inr r_ => some r_) | .inr r_ => some r_))))))
set_option maxHeartbeats 1000000 in
theorem f_topo_Map.ok {z w : World} {F G : Hp} (hG : G ⊆ F) {a0 : List T_api_Lsa} {A_a0 : Option Addr} {c_a0 : Nat} {X_a0 : Hp} {r : f_topo_Map.R} (H : f_topo_Map a0 = some r) (HF : Fits z w F) (hX_a0 : X_a0 ⊆ F) (hr_a0 : RdS (kShr G k_T_api_Lsa) X_a0 A_a0 c_a0 a0) :
  Calls Try.prog 9 [.slice A_a0 a0.length c_a0].toArray w fun e w' => ∃ (N : Hp) (A0 : Option Addr) (c0 : Nat) (A2 : Option Addr) (c2 : Nat) (A4 : Option Addr) (c4 : Nat) (A6 : Option Addr) (c6 : Nat) (A8 : Option Addr) (c8 : Nat), e = .returned (.agg [.slice A0 r.f_Verts.length c0, .slice A2 r.f_Edges.length c2, .slice A4 r.f_Stubs.length c4, .slice A6 r.f_Spans.length c6, .slice A8 r.f_Wilds.length c8].toArray) ∧ Fits z w' (N ++ F) ∧ RdS k_T_api_Vert (N ++ G) A0 c0 r.f_Verts ∧ RdS k_T_api_Edge (N ++ G) A2 c2 r.f_Edges ∧ RdS k_T_api_Stub (N ++ G) A4 c4 r.f_Stubs ∧ RdS k_T_api_Span (N ++ G) A6 c6 r.f_Spans ∧ RdS (kInt .i64) (N ++ G) A8 c8 r.f_Wilds := by
 unfold f_topo_Map at H
 refine enter0 Try.func9 rfl Try.ntmps9 rfl (E := [(0, .slice A_a0 a0.length c_a0)]) rfl ?_
 refine cSeq (fun K1 hK1 => ?_)
 refine cRgn [] trivial ?_
 refine eW (oAlloc HF ti32) rfl ?_
 rintro _ w1 ⟨g1, rfl, HF1⟩
 refine lE ?_
 refine kN (?_)
 refine hK1 _ _ ?_
 refine cSeq (fun K2 hK2 => ?_)
 refine cRgn [] trivial ?_
 refine sL (bd (r := [.slice none 0 0, .slice none 0 0, .map none, .map none]) pl61 ti61 rfl rfl) rfl ?_
 refine eW (oBox HF1 rfl) rfl ?_
 rintro _ w2 ⟨g2, rfl, HF2⟩
 refine sL (asg rfl) rfl ?_
 refine lE ?_
 refine kN (?_)
 refine hK2 _ _ ?_
 refine cSeq (fun K3 hK3 => ?_)
 refine cRgn [] trivial ?_
 refine sL (mv rfl) rfl ?_
 refine sL (mv rfl) rfl ?_
 refine sL (mv rfl) rfl ?_
 replace H := bnd H; obtain ⟨t1, J1, H⟩ := H
 refine eCall isf21 rfl rfl rfl (f_topo_live.ok (a0 := a0) (sub_c (sub_c hG)) J1 HF2 (sub_c (sub_c hX_a0)) hr_a0) ?_
 rintro _ w3 ⟨N1, A1, c1, L1, rfl, HF3, ho1⟩
 have HF4 := HF3.perm (pm_a (perm_c (perm_c pR)).symm)
 have hs1 : G ⊆ N1 ++ G := sub_a sub_r
 refine ⟨_, rfl, ?_⟩
 replace H := bnd H; obtain ⟨t2, J2, H⟩ := H
 refine eCall isf20 rfl rfl rfl (f_slices_DeleteFunc_api_Lsa_api_Lsa_fn22.ok (a0 := t1) (sub_c (sub_c (sub_n hG))) J2 HF4 ho1) ?_
 rintro _ w4 ⟨N2, A2, c2, L2, rfl, HF5, ho2⟩
 have HF6 := HF5.perm (pm_a (perm_c (perm_c pR)).symm)
 obtain ⟨N3, hN1⟩ : ∃ N_, N_ = N2 ++ N1 := ⟨_, rfl⟩
 have HF7 := HF6; rw [← List.append_assoc N2 N1 F, ← hN1] at HF7
 have hs2 : N1 ++ G ⊆ N3 ++ G := frz_s hN1
 have hr1 := OwnS.lift (G' := (N3 ++ G)) ho2 (frz_c hN1)
 refine ⟨_, rfl, ?_⟩
 replace H := bnd H; obtain ⟨⟨t3, t4⟩, J3, H⟩ := H
 refine eCall isf19 rfl rfl rfl (f_topo_once.ok (a0 := t2) (sub_c (sub_c (sub_n hG))) J3 HF7 hr1) ?_
 rintro _ w5 ⟨N4, A3, c3, L3, A4, c4, L4, rfl, HF8, ho3, ho4⟩
 have HF9 := HF8.perm (pm_a (pm_a (perm_c (perm_c pR)).symm))
 obtain ⟨N5, hN2⟩ : ∃ N_, N_ = N4 ++ N3 := ⟨_, rfl⟩
 have HF10 := HF9; rw [← List.append_assoc N4 N3 F, ← hN2] at HF10
 have hs3 : N3 ++ G ⊆ N5 ++ G := frz_s hN2
 have hr2 := OwnS.lift (G' := (N5 ++ G)) ho3 (frz_c hN2)
 have hr3 := OwnM.lift (G' := (N5 ++ G)) ho4 (frz_c hN2)
 refine ⟨_, rfl, ?_⟩
 refine sL (mv rfl) rfl ?_
 refine sL (ex rfl rfl) rfl ?_
 refine sL (ex rfl rfl) rfl ?_
 refine sL (nc rfl) rfl ?_
 refine sL (fa61_0 rfl) rfl ?_
 have HF11 := HF10.perm (perm_f1 (perm_f1 pR))
 refine eS (oSt1 (l1 := [.slice A3 t3.length c3, .slice none 0 0, .map none, .map none]) HF11 rfl rfl ti24 rfl rfl rfl) ?_
 rintro w6 HF12
 refine sL (nc rfl) rfl ?_
 refine sL (fa61_2 rfl) rfl ?_
 refine eS (oSt1 (l1 := [.slice A3 t3.length c3, .slice none 0 0, mapV A4, .map none]) HF12 rfl rfl ti59 rfl rfl rfl) ?_
 rintro w7 HF13
 refine lE ?_
 refine kN (?_)
 refine hK3 _ _ ?_
 refine cSeq (fun K4 hK4 => ?_)
 refine cRgn [] trivial ?_
 refine sL (mv rfl) rfl ?_
 refine sL (mv rfl) rfl ?_
 refine sL (mv rfl) rfl ?_
 replace H := bnd H; obtain ⟨t5, J4, H⟩ := H
 refine eCall isf21 rfl rfl rfl (f_topo_live.ok (a0 := a0) (sub_c (sub_a (sub_a (sub_c (sub_n hG))))) J4 HF13 (sub_c (sub_a (sub_a (sub_c (sub_a hX_a0))))) (RdS.lift hr_a0 (sub_t hs1 (sub_t hs2 hs3)) sub_r)) ?_
 rintro _ w8 ⟨N6, A5, c5, L5, rfl, HF14, ho5⟩
 have HF15 := HF14.perm (pm_a (perm_c (perm_f (perm_f (perm_c pR)))).symm)
 obtain ⟨N7, hN3⟩ : ∃ N_, N_ = N6 ++ N5 := ⟨_, rfl⟩
 have HF16 := HF15; rw [← List.append_assoc N6 N5 F, ← hN3] at HF16
 have hs4 : N5 ++ G ⊆ N7 ++ G := frz_s hN3
 have hr4 := OwnS.lift (G' := (N7 ++ G)) ho5 (frz_c hN3)
 refine ⟨_, rfl, ?_⟩
 replace H := bnd H; obtain ⟨⟨t6, t7⟩, J5, H⟩ := H
 refine eCall isf19 rfl rfl rfl (f_topo_once.ok (a0 := t5) (sub_c (sub_a (sub_a (sub_c (sub_n hG))))) J5 HF16 hr4) ?_
 rintro _ w9 ⟨N8, A6, c6, L6, A7, c7, L7, rfl, HF17, ho6, ho7⟩
 have HF18 := HF17.perm (pm_a (pm_a (perm_c (perm_f (perm_f (perm_c pR)))).symm))
 obtain ⟨N9, hN4⟩ : ∃ N_, N_ = N8 ++ N7 := ⟨_, rfl⟩
 have HF19 := HF18; rw [← List.append_assoc N8 N7 F, ← hN4] at HF19
 have hs5 : N7 ++ G ⊆ N9 ++ G := frz_s hN4
 have hr5 := OwnS.lift (G' := (N9 ++ G)) ho6 (frz_c hN4)
 have hr6 := OwnM.lift (G' := (N9 ++ G)) ho7 (frz_c hN4)
 refine ⟨_, rfl, ?_⟩
 refine sL (mv rfl) rfl ?_
 refine sL (ex rfl rfl) rfl ?_
 refine sL (ex rfl rfl) rfl ?_
 refine sL (nc rfl) rfl ?_
 refine sL (fa61_1 rfl) rfl ?_
 have HF20 := HF19.perm (perm_f1 (perm_f1 pR))
 refine eS (oSt1 (l1 := [.slice A3 t3.length c3, .slice A6 t6.length c6, mapV A4, .map none]) HF20 rfl rfl ti24 rfl rfl rfl) ?_
 rintro w10 HF21
 refine sL (nc rfl) rfl ?_
 refine sL (fa61_3 rfl) rfl ?_
 refine eS (oSt1 (l1 := [.slice A3 t3.length c3, .slice A6 t6.length c6, mapV A4, mapV A7]) HF21 rfl rfl ti59 rfl rfl rfl) ?_
 rintro w11 HF22
 refine lE ?_
 refine kN (?_)
 refine hK4 _ _ ?_
 refine cSeq (fun K5 hK5 => ?_)
 refine cRgn [] trivial ?_
 refine eW (oAlloc HF22 ti32) rfl ?_
 rintro _ w12 ⟨g3, rfl, HF23⟩
 refine lE ?_
 refine kN (?_)
 refine hK5 _ _ ?_
 refine cSeq (fun K6 hK6 => ?_)
 refine cSeq (fun K7 hK7 => ?_)
 refine cRgn [] trivial ?_
 refine sL (mv rfl) rfl ?_
 refine sL (nc rfl) rfl ?_
 refine sL (fa61_0 rfl) rfl ?_
 refine sL (ld rfl Try.underlying24 rfl (HF23.box (mem_c mem_h) rfl)) rfl ?_
 refine sL (lnS rfl Try.underlying24) rfl ?_
 refine sL (mv rfl) rfl ?_
 refine lE ?_
 refine kN (?_)
 refine hK7 _ _ ?_
 replace H := bnd H; obtain ⟨y19, J109, Ho17⟩ := H
 refine cLoopB (f_topo_Map.b1 t3 t4 t6 t7) (fun (s17 : Int × (List T_api_Vert) × (List T_api_Edge) × (List T_api_Stub) × (List Int)) a w => ∃ (A94 : Option Addr) (c164 : Nat) (L88 : Hp) (A95 : Option Addr) (c165 : Nat) (L89 : Hp) (A96 : Option Addr) (c166 : Nat) (L90 : Hp) (A97 : Option Addr) (c167 : Nat) (L91 : Hp), Env 204 [(2, .pointer (some ⟨g1, 0, none⟩)), (3, .pointer (some ⟨g2, 0, none⟩)), (4, .pointer (some ⟨g3, 0, none⟩)), (49, .slice A3 t3.length c3), (50, .int .i64 (t3.length : Int)), (51, .int .i64 s17.1)] a ∧ Fits z w (L88 ++ (L89 ++ (L90 ++ (L91 ++ (bk g3 32 [.slice A94 s17.2.1.length c164, .slice A95 s17.2.2.1.length c165, .slice A96 s17.2.2.2.1.length c166, .slice none 0 0, .slice A97 s17.2.2.2.2.length c167] :: (bk g2 61 [.slice A3 t3.length c3, .slice A6 t6.length c6, mapV A4, mapV A7] :: (L6 ++ (L7 ++ (L3 ++ (L4 ++ (bk g1 32 [.slice none 0 0, .slice none 0 0, .slice none 0 0, .slice none 0 0, .slice none 0 0] :: (N9 ++ F)))))))))))) ∧ OwnS k_T_api_Vert L88 A94 c164 s17.2.1 ∧ OwnS k_T_api_Edge L89 A95 c165 s17.2.2.1 ∧ OwnS k_T_api_Stub L90 A96 c166 s17.2.2.2.1 ∧ OwnS (kInt .i64) L91 A97 c167 s17.2.2.2.2) J109 (fun a hE => ⟨none, 0, [], none, 0, [], none, 0, [], none, 0, [], hE.keep (Keep.cons rfl (Keep.cons rfl (Keep.cons rfl (Keep.cons rfl (Keep.cons rfl (Keep.cons rfl (Keep.nil))))))), HF23, OwnS.nil, OwnS.nil, OwnS.nil, OwnS.nil⟩) ?_ ?_
 ·rintro s17 a w179 y20 ⟨A94, c164, L88, A95, c165, L89, A96, c166, L90, A97, c167, L91, hE, HF335, ho88, ho89, ho90, ho91⟩ H Hx3
  refine go_ hE ?_
  refine cSeq (fun K78 hK78 => ?_)
  refine cRgn [] trivial ?_
  refine sL (bLss rfl rfl) rfl ?_
  refine lE ?_
  refine kN (?_)
  refine hK78 _ _ ?_
  refine cSeq (fun K79 hK79 => ?_)
  by_cases c168 : s17.1 < (t3.length : Int)
  ·replace H := itT c168 H
   refine cSet (i := 52) rfl (dT c168) ?_
   refine cT rfl ?_
   refine cSkip ?_
   refine kN (?_)
   refine hK79 _ _ ?_
   refine cSeq (fun K80 hK80 => ?_)
   refine cBlock ?_
   refine cSeq (fun K81 hK81 => ?_)
   refine cRgn [] trivial ?_
   replace H := chk H; obtain ⟨c169, H⟩ := H
   obtain ⟨g26, o9, e12, rfl, hk3, q9⟩ := RdS.at_ hr2.rd c169 c168
   obtain ⟨A98, c170, A99, c171, A100, c172, rfl, hr13, hr14, hr15⟩ := rd_T_api_Lsa hk3
   refine sL (ia rfl rfl Try.underlying24 ti44 c169 c168) rfl ?_
   refine sL (ldA rfl ti44 rfl rfl (fun j v hj => HF335.cells ((sub_a (sub_a (sub_a (sub_a (sub_c (sub_c (sub_a (sub_a sub_h))))))))) (q9 j v hj))) rfl ?_
   refine eW (oAlloc HF335 ti44) rfl ?_
   rintro _ w180 ⟨g27, rfl, HF336⟩
   refine eS (oSt (l1 := [.int .i64 ((rd t3 s17.1).f_Head.f_Age), .int .i64 ((rd t3 s17.1).f_Head.f_Kind), .int .i64 ((rd t3 s17.1).f_Head.f_Id), .int .i64 ((rd t3 s17.1).f_Head.f_Adv), .int .i64 ((rd t3 s17.1).f_Head.f_Seq), .int .i64 ((rd t3 s17.1).f_Head.f_Sum), .int .i64 ((rd t3 s17.1).f_Head.f_Len), .int .i64 ((rd t3 s17.1).f_Flags), .slice A98 ((rd t3 s17.1).f_Links).length c170, .int .i64 ((rd t3 s17.1).f_Bits), .slice A99 ((rd t3 s17.1).f_Routers).length c171, .slice A100 ((rd t3 s17.1).f_Verts).length c172]) HF336 rfl rfl ti44 rfl (ones rfl) (Nat.le_of_ble_eq_true rfl) rfl) ?_
   rintro w181 HF337
   refine lE ?_
   refine kN (?_)
   refine hK81 _ _ ?_
   refine cSeq (fun K82 hK82 => ?_)
   refine cRgn [] trivial ?_
   refine sL (fa32_0 rfl) rfl ?_
   refine sL (ld rfl Try.underlying26 rfl (HF337.box (mem_c (mem_a (mem_a (mem_a (mem_a mem_h))))) rfl)) rfl ?_
   refine sL (fa44_0 rfl) rfl ?_
   refine sL (fa41_2 rfl) rfl ?_
   refine sL (ld rfl Try.underlying3 rfl (HF337.box (mem_h) rfl)) rfl ?_
   refine sL (bd (r := [.int .i64 1, .int .i64 ((rd t3 s17.1).f_Head.f_Id)]) pl35 ti35 rfl rfl) rfl ?_
   refine eW (oLit (r := [.int .i64 1, .int .i64 ((rd t3 s17.1).f_Head.f_Id)]) k_T_api_Vert [(⟨1, (rd t3 s17.1).f_Head.f_Id⟩ : T_api_Vert)] HF337 Try.underlying26 ti35 rfl rfl rfl rfl ⟨[], [], [.int .i64 1, .int .i64 ((rd t3 s17.1).f_Head.f_Id)], _, rfl, rfl, ⟨rfl, rfl⟩, ⟨rfl, rfl⟩⟩ rfl rfl) rfl ?_
   rintro _ w182 ⟨L92, A101, c173, rfl, HF338, ho92⟩
   replace H := chk H; obtain ⟨c174, H⟩ := H
   have HF339 := HF338.perm (perm_f (perm_c pR))
   refine eW (oApp (xs := s17.2.1) (ys := ([(⟨1, (rd t3 s17.1).f_Head.f_Id⟩ : T_api_Vert)])) k_T_api_Vert HF339 rfl rfl Try.underlying26 Try.underlying26 ti35 rfl ho88 (srcR shrF ho92.rd HF339 (sub_a sub_h)) c174 rfl) rfl ?_
   rintro _ w183 ⟨L93, A102, c175, rfl, HF340, ho93⟩
   refine sL (fa32_0 rfl) rfl ?_
   have HF341 := HF340.perm (perm_f1 (perm_f1 (perm_c1 (perm_f1 (perm_f1 (perm_f1 pR))))))
   refine eS (oSt1 (l1 := [.slice A102 (s17.2.1 ++ [(⟨1, (rd t3 s17.1).f_Head.f_Id⟩ : T_api_Vert)]).length c175, .slice A95 s17.2.2.1.length c165, .slice A96 s17.2.2.2.1.length c166, .slice none 0 0, .slice A97 s17.2.2.2.2.length c167]) HF341 rfl rfl ti26 rfl rfl rfl) ?_
   rintro w184 HF342
   refine lE ?_
   refine kN (?_)
   refine hK82 _ _ ?_
   refine cSeq (fun K83 hK83 => ?_)
   refine cSeq (fun K84 hK84 => ?_)
   refine cRgn [] trivial ?_
   refine sL (fa44_1 rfl) rfl ?_
   refine sL (ld rfl Try.underlying3 rfl (HF342.box (mem_c (mem_a (mem_a mem_h))) rfl)) rfl ?_
   refine sL (bAnd rfl rfl) rfl ?_
   refine sL (bNeq rfl rfl) rfl ?_
   refine lE ?_
   refine kN (?_)
   refine hK84 _ _ ?_
   replace H := bnd H; obtain ⟨y21, H, Ho18⟩ := H
   refine cJoin (y := y21) (fun (s18 : (List Int)) a w => ∃ (A105 : Option Addr) (c180 : Nat) (L96 : Hp), Env 204 [(2, .pointer (some ⟨g1, 0, none⟩)), (3, .pointer (some ⟨g2, 0, none⟩)), (4, .pointer (some ⟨g3, 0, none⟩)), (6, .pointer (some ⟨g27, 0, none⟩)), (49, .slice (some ⟨g26, o9, none⟩) t3.length c3), (50, .int .i64 (t3.length : Int)), (51, .int .i64 s17.1)] a ∧ Fits z w (L96 ++ (bk g3 32 [.slice A102 (s17.2.1 ++ [(⟨1, (rd t3 s17.1).f_Head.f_Id⟩ : T_api_Vert)]).length c175, .slice A95 s17.2.2.1.length c165, .slice A96 s17.2.2.2.1.length c166, .slice none 0 0, .slice A105 s18.length c180] :: (L93 ++ (bk g27 44 [.int .i64 ((rd t3 s17.1).f_Head.f_Age), .int .i64 ((rd t3 s17.1).f_Head.f_Kind), .int .i64 ((rd t3 s17.1).f_Head.f_Id), .int .i64 ((rd t3 s17.1).f_Head.f_Adv), .int .i64 ((rd t3 s17.1).f_Head.f_Seq), .int .i64 ((rd t3 s17.1).f_Head.f_Sum), .int .i64 ((rd t3 s17.1).f_Head.f_Len), .int .i64 ((rd t3 s17.1).f_Flags), .slice A98 ((rd t3 s17.1).f_Links).length c170, .int .i64 ((rd t3 s17.1).f_Bits), .slice A99 ((rd t3 s17.1).f_Routers).length c171, .slice A100 ((rd t3 s17.1).f_Verts).length c172] :: (L89 ++ (L90 ++ (bk g2 61 [.slice (some ⟨g26, o9, none⟩) t3.length c3, .slice A6 t6.length c6, mapV A4, mapV A7] :: (L6 ++ (L7 ++ (L3 ++ (L4 ++ (bk g1 32 [.slice none 0 0, .slice none 0 0, .slice none 0 0, .slice none 0 0, .slice none 0 0] :: (N9 ++ F))))))))))))) ∧ OwnS (kInt .i64) L96 A105 c180 s18) ?_ ?_
   ·by_cases c181 : (bits .and .i64 ((rd t3 s17.1).f_Flags) 8) = 0
    ·replace H := itT c181 H
     refine cSet (i := 67) rfl (nF c181) ?_
     refine cF rfl ?_
     refine cSkip ?_
     refine kN (?_)
     have HF348 := HF342.sublist (sl_c (sl_a (sl_da (sl_c (sl_a (sl_a (sl_a (sl_c (sl_a (sl_a (sl_a (sl_a (sl_c sR)))))))))))))
     have HF349 := HF348.perm (perm_c1 (perm_f1 (perm_c1 (perm_f1 (perm_f1 (perm_f1 (perm_c1 (perm_f1 (perm_f1 (perm_f1 (perm_f1 pR)))))))))))
     have HF350 := HF349.perm (perm_c (perm_c (perm_f (perm_c (perm_f (perm_f (perm_f (perm_c (perm_f (perm_f (perm_f pR)))))))))))
     have HF351 := HF350.perm (perm_f (perm_c (perm_c (perm_f (perm_c (perm_f (perm_f (perm_f (perm_c (perm_f (perm_f pR)))))))))))
     have HF352 := HF351.perm (perm_f (perm_f (perm_c (perm_c (perm_f (perm_c (perm_f (perm_f (perm_f (perm_c (perm_f pR)))))))))))
     have HF353 := HF352.perm (perm_f (perm_f (perm_f (perm_c (perm_c (perm_f (perm_c (perm_f (perm_f (perm_f (perm_c pR)))))))))))
     have HF354 := HF353.perm (perm_f1 (perm_f1 (perm_f1 (perm_f1 (perm_c1 (perm_c1 (perm_f1 (perm_c1 (perm_f1 (perm_f1 (perm_f1 pR)))))))))))
     have HF355 := HF354.perm (perm_c (perm_f (perm_f (perm_f (perm_f (perm_c (perm_c (perm_f (perm_c (perm_f pR))))))))))
     have HF356 := HF355.perm (perm_f (perm_c (perm_f (perm_f (perm_f (perm_f (perm_c (perm_c (perm_f (perm_c pR))))))))))
     have HF357 := HF356.perm (perm_f1 (perm_f1 (perm_c1 (perm_f1 (perm_f1 (perm_f1 (perm_f1 (perm_c1 (perm_c1 (perm_f1 pR))))))))))
     have HF358 := HF357.perm (perm_c (perm_f (perm_f (perm_c (perm_f (perm_f (perm_f (perm_f (perm_c (perm_c pR))))))))))
     have HF359 := HF358.perm (perm_f1 (perm_c1 (perm_f1 (perm_f1 (perm_c1 (perm_f1 (perm_f1 (perm_f1 (perm_f1 (perm_c1 pR))))))))))
     have HF360 := HF359.perm (perm_c (perm_f (perm_c (perm_f (perm_f (perm_c (perm_f (perm_f (perm_f (perm_f (perm_c pR)))))))))))
     exact ofEnv (fun a hE => ⟨_, (Option.some.inj H).symm, ⟨_, _, L91, hE.keep (Keep.cons rfl (Keep.cons rfl (Keep.cons rfl (Keep.cons rfl (Keep.cons rfl (Keep.cons rfl (Keep.cons rfl (Keep.nil)))))))), HF360, ho91⟩⟩)
    replace H := itF c181 H
    refine cSet (i := 67) rfl (nT c181) ?_
    refine cT rfl ?_
    refine cRgn [] trivial ?_
    refine sL (fa32_4 rfl) rfl ?_
    refine sL (ld rfl Try.underlying30 rfl (HF342.box (mem_h) rfl)) rfl ?_
    refine sL (fa44_0 rfl) rfl ?_
    refine sL (fa41_2 rfl) rfl ?_
    refine sL (ld rfl Try.underlying3 rfl (HF342.box (mem_c (mem_a (mem_a mem_h))) rfl)) rfl ?_
    refine eW (oLit (r := [.int .i64 ((rd t3 s17.1).f_Head.f_Id)]) (kInt .i64) [(rd t3 s17.1).f_Head.f_Id] HF342 Try.underlying30 ti3 rfl rfl rfl rfl ⟨[], [], [.int .i64 ((rd t3 s17.1).f_Head.f_Id)], _, rfl, rfl, ⟨rfl, rfl⟩, ⟨rfl, rfl⟩⟩ rfl rfl) rfl ?_
    rintro _ w188 ⟨L97, A106, c182, rfl, HF361, ho97⟩
    replace H := chk H; obtain ⟨c183, H⟩ := H
    have HF362 := HF361.perm (perm_f (perm_c (perm_f (perm_f (perm_c (perm_f (perm_f pR)))))))
    refine eW (oApp (xs := s17.2.2.2.2) (ys := ([(rd t3 s17.1).f_Head.f_Id])) (kInt .i64) HF362 rfl rfl Try.underlying30 Try.underlying30 ti3 rfl ho91 (srcR shrF ho97.rd HF362 (sub_a sub_h)) c183 rfl) rfl ?_
    rintro _ w189 ⟨L98, A107, c184, rfl, HF363, ho98⟩
    refine sL (fa32_4 rfl) rfl ?_
    have HF364 := HF363.perm (perm_f1 (perm_f1 pR))
    refine eS (oSt1 (l1 := [.slice A102 (s17.2.1 ++ [(⟨1, (rd t3 s17.1).f_Head.f_Id⟩ : T_api_Vert)]).length c175, .slice A95 s17.2.2.1.length c165, .slice A96 s17.2.2.2.1.length c166, .slice none 0 0, .slice A107 (s17.2.2.2.2 ++ [(rd t3 s17.1).f_Head.f_Id]).length c184]) HF364 rfl rfl ti30 rfl rfl rfl) ?_
    rintro w190 HF365
    refine lE ?_
    refine kN (?_)
    have HF366 := HF365.sublist (sl_c (sl_a (sl_da (sl_a (sl_da (sl_c (sl_a (sl_a (sl_c (sl_a (sl_a (sl_a (sl_a (sl_c sR))))))))))))))
    have HF367 := HF366.perm (perm_c1 (perm_f1 (perm_f1 (perm_c1 (perm_f1 (perm_f1 (perm_c1 (perm_f1 (perm_f1 (perm_f1 (perm_f1 pR)))))))))))
    have HF368 := HF367.perm (perm_c (perm_c (perm_f (perm_f (perm_c (perm_f (perm_f (perm_c (perm_f (perm_f (perm_f pR)))))))))))
    have HF369 := HF368.perm (perm_f (perm_c (perm_c (perm_f (perm_f (perm_c (perm_f (perm_f (perm_c (perm_f (perm_f pR)))))))))))
    have HF370 := HF369.perm (perm_f (perm_f (perm_c (perm_c (perm_f (perm_f (perm_c (perm_f (perm_f (perm_c (perm_f pR)))))))))))
    have HF371 := HF370.perm (perm_f (perm_f (perm_f (perm_c (perm_c (perm_f (perm_f (perm_c (perm_f (perm_f (perm_c pR)))))))))))
    have HF372 := HF371.perm (perm_f1 (perm_f1 (perm_f1 (perm_f1 (perm_c1 (perm_c1 (perm_f1 (perm_f1 (perm_c1 (perm_f1 (perm_f1 pR)))))))))))
    have HF373 := HF372.perm (perm_c (perm_f (perm_f (perm_f (perm_f (perm_c (perm_c (perm_f (perm_f (perm_c (perm_f pR)))))))))))
    have HF374 := HF373.perm (perm_f (perm_c (perm_f (perm_f (perm_f (perm_f (perm_c (perm_c (perm_f (perm_f (perm_c pR)))))))))))
    have HF375 := HF374.perm (perm_f1 (perm_f1 (perm_c1 (perm_f1 (perm_f1 (perm_f1 (perm_f1 (perm_c1 (perm_c1 (perm_f1 (perm_f1 pR)))))))))))
    have HF376 := HF375.perm (perm_c (perm_f (perm_f (perm_c (perm_f (perm_f (perm_f (perm_f (perm_c (perm_c (perm_f pR)))))))))))
    have HF377 := HF376.perm (perm_f1 (perm_c1 (perm_f1 (perm_f1 (perm_c1 (perm_f1 (perm_f1 (perm_f1 (perm_f1 (perm_c1 pR))))))))))
    have HF378 := HF377.perm (perm_c (perm_f (perm_c (perm_f (perm_f (perm_c (perm_f (perm_f (perm_f (perm_f (perm_c pR)))))))))))
    exact ofEnv (fun a hE => ⟨_, (Option.some.inj H).symm, ⟨_, _, L98, hE.keep (Keep.cons rfl (Keep.cons rfl (Keep.cons rfl (Keep.cons rfl (Keep.cons rfl (Keep.cons rfl (Keep.cons rfl (Keep.nil)))))))), HF378, ho98⟩⟩)
   rintro s18 a w191 rfl ⟨A105, c180, L96, hE, HF379, ho96⟩
   replace H := Ho18
   refine go_k hE ?_
   refine kN (?_)
   refine hK83 _ _ ?_
   refine cSeq (fun K85 hK85 => ?_)
   refine cRgn [] trivial ?_
   refine sL (fa44_2 rfl) rfl ?_
   refine sL (ld rfl Try.underlying42 rfl (HF379.box (mem_a (mem_c (mem_a mem_h))) rfl)) rfl ?_
   refine sL (lnS rfl Try.underlying42) rfl ?_
   refine sL (mv rfl) rfl ?_
   refine lE ?_
   refine kN (?_)
   refine hK85 _ _ ?_
   replace H := bnd H; obtain ⟨y26, J44, Ho23⟩ := H
   have HF561 := HF379.perm (perm_f1 (perm_c1 (perm_f1 (perm_c1 (perm_f1 (perm_f1 (perm_c1 (perm_f1 (perm_f1 (perm_f1 (perm_f1 pR)))))))))))
   have HF562 := HF561.perm (perm_c (perm_f (perm_c (perm_f (perm_c (perm_f (perm_f (perm_c (perm_f (perm_f (perm_f pR)))))))))))
   have HF563 := HF562.perm (perm_f (perm_c (perm_f (perm_c (perm_f (perm_c (perm_f (perm_f (perm_c (perm_f (perm_f pR)))))))))))
   have HF564 := HF563.perm (perm_f (perm_f (perm_c (perm_f (perm_c (perm_f (perm_c (perm_f (perm_f (perm_c (perm_f pR)))))))))))
   have HF565 := HF564.perm (perm_f (perm_f (perm_f (perm_c (perm_f (perm_c (perm_f (perm_c (perm_f (perm_f (perm_c pR)))))))))))
   have HF566 := HF565.perm (perm_f1 (perm_f1 (perm_f1 (perm_f1 (perm_c1 (perm_f1 (perm_c1 (perm_f1 (perm_c1 (perm_f1 (perm_f1 pR)))))))))))
   have HF567 := HF566.perm (perm_c1 (perm_f1 (perm_f1 (perm_f1 (perm_f1 (perm_c1 (perm_f1 (perm_c1 (perm_f1 pR)))))))))
   have HF568 := HF567.perm (perm_c (perm_c (perm_f (perm_f (perm_f (perm_f (perm_c (perm_f (perm_c pR)))))))))
   have HF569 := HF568.perm (perm_f1 (perm_c1 (perm_c1 (perm_f1 (perm_f1 (perm_f1 (perm_f1 (perm_c1 (perm_f1 pR)))))))))
   have HF570 := HF569.perm (perm_c (perm_f (perm_c (perm_c (perm_f (perm_f (perm_f (perm_f (perm_c pR)))))))))
   have HF571 := HF570.perm (perm_f (perm_c (perm_f (perm_c (perm_c (perm_f (perm_f (perm_f (perm_f (perm_c (perm_f pR)))))))))))
   have HF572 := HF571.perm (perm_f (perm_f (perm_c (perm_f (perm_c (perm_c (perm_f (perm_f (perm_f (perm_f (perm_c pR)))))))))))
   refine cLoopB (f_topo_Map.b0 t3 t4 t6 t7 s17) (fun (s23 : Int × (List T_api_Edge) × (List T_api_Stub)) a w => ∃ (A128 : Option Addr) (c226 : Nat) (L119 : Hp) (A129 : Option Addr) (c227 : Nat) (L120 : Hp), Env 204 [(2, .pointer (some ⟨g1, 0, none⟩)), (3, .pointer (some ⟨g2, 0, none⟩)), (4, .pointer (some ⟨g3, 0, none⟩)), (6, .pointer (some ⟨g27, 0, none⟩)), (49, .slice (some ⟨g26, o9, none⟩) t3.length c3), (50, .int .i64 (t3.length : Int)), (51, .int .i64 s17.1), (77, .slice A98 ((rd t3 s17.1).f_Links).length c170), (78, .int .i64 (((rd t3 s17.1).f_Links).length : Int)), (79, .int .i64 s23.1)] a ∧ Fits z w (L119 ++ (L120 ++ (L96 ++ (bk g3 32 [.slice A102 (s17.2.1 ++ [(⟨1, (rd t3 s17.1).f_Head.f_Id⟩ : T_api_Vert)]).length c175, .slice A128 s23.2.1.length c226, .slice A129 s23.2.2.length c227, .slice none 0 0, .slice A105 s18.length c180] :: (L93 ++ (bk g27 44 [.int .i64 ((rd t3 s17.1).f_Head.f_Age), .int .i64 ((rd t3 s17.1).f_Head.f_Kind), .int .i64 ((rd t3 s17.1).f_Head.f_Id), .int .i64 ((rd t3 s17.1).f_Head.f_Adv), .int .i64 ((rd t3 s17.1).f_Head.f_Seq), .int .i64 ((rd t3 s17.1).f_Head.f_Sum), .int .i64 ((rd t3 s17.1).f_Head.f_Len), .int .i64 ((rd t3 s17.1).f_Flags), .slice A98 ((rd t3 s17.1).f_Links).length c170, .int .i64 ((rd t3 s17.1).f_Bits), .slice A99 ((rd t3 s17.1).f_Routers).length c171, .slice A100 ((rd t3 s17.1).f_Verts).length c172] :: (bk g2 61 [.slice (some ⟨g26, o9, none⟩) t3.length c3, .slice A6 t6.length c6, mapV A4, mapV A7] :: (L6 ++ (L7 ++ (L3 ++ (L4 ++ (bk g1 32 [.slice none 0 0, .slice none 0 0, .slice none 0 0, .slice none 0 0, .slice none 0 0] :: (N9 ++ F))))))))))))) ∧ OwnS k_T_api_Edge L119 A128 c226 s23.2.1 ∧ OwnS k_T_api_Stub L120 A129 c227 s23.2.2) J44 (fun a hE => ⟨_, _, L89, _, _, L90, hE.keep (Keep.cons rfl (Keep.cons rfl (Keep.cons rfl (Keep.cons rfl (Keep.cons rfl (Keep.cons rfl (Keep.cons rfl (Keep.cons rfl (Keep.cons rfl (Keep.cons rfl (Keep.nil))))))))))), HF572, ho89, ho90⟩) ?_ ?_
   ·rintro s23 a w238 y27 ⟨A128, c226, L119, A129, c227, L120, hE, HF464, ho119, ho120⟩ H Hx4
    refine go_ hE ?_
    refine cSeq (fun K104 hK104 => ?_)
    refine cRgn [] trivial ?_
    refine sL (bLss rfl rfl) rfl ?_
    refine lE ?_
    refine kN (?_)
    refine hK104 _ _ ?_
    refine cSeq (fun K105 hK105 => ?_)
    by_cases c228 : s23.1 < (((rd t3 s17.1).f_Links).length : Int)
    ·replace H := itT c228 H
     refine cSet (i := 80) rfl (dT c228) ?_
     refine cT rfl ?_
     refine cSkip ?_
     refine kN (?_)
     refine hK105 _ _ ?_
     refine cSeq (fun K106 hK106 => ?_)
     refine cBlock ?_
     refine cSeq (fun K107 hK107 => ?_)
     refine cRgn [] trivial ?_
     replace H := chk H; obtain ⟨c229, H⟩ := H
     obtain ⟨g34, o12, _, rfl, rfl, q12⟩ := RdS.at_ hr13 c229 c228
     refine sL (ia rfl rfl Try.underlying42 ti56 c229 c228) rfl ?_
     refine sL (ldA rfl ti56 rfl rfl (fun j v hj => HF464.cells ((sub_a (sub_a (sub_a (sub_c (sub_a (sub_c (sub_c (sub_a (sub_a (sub_a (sub_a (sub_c (sub_t (sub_t hs4 hs5) (sub_n hG))))))))))))))) (q12 j v hj))) rfl ?_
     refine eW (oAlloc HF464 ti56) rfl ?_
     rintro _ w239 ⟨g35, rfl, HF465⟩
     refine eS (oSt (l1 := [.int .i64 ((rd ((rd t3 s17.1).f_Links) s23.1).f_Kind), .int .i64 ((rd ((rd t3 s17.1).f_Links) s23.1).f_Id), .int .i64 ((rd ((rd t3 s17.1).f_Links) s23.1).f_Data), .int .i64 ((rd ((rd t3 s17.1).f_Links) s23.1).f_Cost)]) HF465 rfl rfl ti56 rfl (ones rfl) (Nat.le_of_ble_eq_true rfl) rfl) ?_
     rintro w240 HF466
     refine lE ?_
     refine kN (?_)
     refine hK107 _ _ ?_
     refine cSeq (fun K108 hK108 => ?_)
     refine cSeq (fun K109 hK109 => ?_)
     refine cRgn [] trivial ?_
     refine sL (mv rfl) rfl ?_
     refine sL (ldA (cs := [.int .i64 ((rd t3 s17.1).f_Head.f_Age), .int .i64 ((rd t3 s17.1).f_Head.f_Kind), .int .i64 ((rd t3 s17.1).f_Head.f_Id), .int .i64 ((rd t3 s17.1).f_Head.f_Adv), .int .i64 ((rd t3 s17.1).f_Head.f_Seq), .int .i64 ((rd t3 s17.1).f_Head.f_Sum), .int .i64 ((rd t3 s17.1).f_Head.f_Len), .int .i64 ((rd t3 s17.1).f_Flags), .slice (some ⟨g34, o12, none⟩) ((rd t3 s17.1).f_Links).length c170, .int .i64 ((rd t3 s17.1).f_Bits), .slice A99 ((rd t3 s17.1).f_Routers).length c171, .slice A100 ((rd t3 s17.1).f_Verts).length c172]) rfl ti44 rfl rfl (HF466.boxes (o := 0) (n := 12) (mem_c (mem_a (mem_a (mem_a (mem_c (mem_a mem_h)))))) rfl)) rfl ?_
     refine sL (ldA (cs := [.int .i64 ((rd ((rd t3 s17.1).f_Links) s23.1).f_Kind), .int .i64 ((rd ((rd t3 s17.1).f_Links) s23.1).f_Id), .int .i64 ((rd ((rd t3 s17.1).f_Links) s23.1).f_Data), .int .i64 ((rd ((rd t3 s17.1).f_Links) s23.1).f_Cost)]) rfl ti56 rfl rfl (HF466.boxes (o := 0) (n := 4) (mem_h) rfl)) rfl ?_
     have HF467 := HF466.perm (perm_c (perm_f (perm_f (perm_f (perm_c (perm_f (perm_c (perm_c (perm_f pR)))))))))
     have HF468 := HF467.perm (perm_f (perm_c (perm_f (perm_f (perm_f (perm_c (perm_f (perm_c (perm_c (perm_f (perm_f pR)))))))))))
     have HF469 := HF468.perm (perm_f (perm_f (perm_c (perm_f (perm_f (perm_f (perm_c (perm_f (perm_c (perm_c pR))))))))))
     have HF470 := HF469.perm (perm_f (perm_f (perm_f (perm_c (perm_f (perm_f (perm_f (perm_c (perm_f (perm_c (perm_c pR)))))))))))
     have HF471 := HF470.perm (perm_f1 (perm_f1 (perm_f1 (perm_f1 (perm_c1 (perm_f1 (perm_f1 (perm_f1 (perm_c1 (perm_f1 (perm_c1 pR)))))))))))
     replace H := bnd H; obtain ⟨⟨t48, t49⟩, J40, H⟩ := H
     refine eCall isf23 rfl rfl rfl (f_topo_area_edge_obj.ok (a0 := (⟨t3, t6, t4, t7⟩ : T_topo_area)) (a1 := (rd t3 s17.1)) (a2 := (rd ((rd t3 s17.1).f_Links) s23.1)) (sub_c (sub_a (sub_a (sub_a (sub_c (sub_a (sub_c (sub_c (sub_n hG))))))))) J40 HF471 (OwnS.lift hr2 (sub_t hs4 hs5)) hr5 (OwnM.lift hr3 (sub_t hs4 hs5)) hr6 (sub_c (sub_a (sub_a (sub_a (sub_c (sub_a (sub_c (sub_c (sub_t (sub_t hs4 hs5) (sub_n hG)))))))))) hr13 (sub_c (sub_a (sub_a (sub_a (sub_c (sub_a (sub_c (sub_c (sub_t (sub_t hs4 hs5) (sub_n hG)))))))))) hr14 (sub_c (sub_a (sub_a (sub_a (sub_c (sub_a (sub_c (sub_c (sub_t (sub_t hs4 hs5) (sub_n hG)))))))))) hr15) ?_
     rintro _ w241 ⟨rfl, HF472⟩
     refine ⟨_, rfl, ?_⟩
     refine sL (mv rfl) rfl ?_
     refine sL (ex rfl rfl) rfl ?_
     refine sL (ex rfl rfl) rfl ?_
     refine eW (oAlloc HF472 ti37) rfl ?_
     rintro _ w242 ⟨g36, rfl, HF473⟩
     refine eS (oSt (l1 := [.int .i64 t48.f_From.f_Kind, .int .i64 t48.f_From.f_Id, .int .i64 t48.f_To.f_Kind, .int .i64 t48.f_To.f_Id, .int .i64 t48.f_Cost, .int .i64 t48.f_Data]) HF473 rfl rfl ti37 rfl (ones rfl) (Nat.le_of_ble_eq_true rfl) rfl) ?_
     rintro w243 HF474
     refine sL (asg rfl) rfl ?_
     refine lE ?_
     refine kN (?_)
     refine hK109 _ _ ?_
     refine cSeq (fun K110 hK110 => ?_)
     refine cRgn [] trivial ?_
     refine sL (mv rfl) rfl ?_
     refine lE ?_
     refine kN (?_)
     refine hK110 _ _ ?_
     replace H := bnd H; obtain ⟨y28, H, Ho24⟩ := H
     refine cJoin (y := y28) (fun (s24 : (List T_api_Edge)) a w => ∃ (A132 : Option Addr) (c234 : Nat) (L123 : Hp), Env 204 [(2, .pointer (some ⟨g1, 0, none⟩)), (3, .pointer (some ⟨g2, 0, none⟩)), (4, .pointer (some ⟨g3, 0, none⟩)), (6, .pointer (some ⟨g27, 0, none⟩)), (8, .pointer (some ⟨g35, 0, none⟩)), (49, .slice (some ⟨g26, o9, none⟩) t3.length c3), (50, .int .i64 (t3.length : Int)), (51, .int .i64 s17.1), (77, .slice (some ⟨g34, o12, none⟩) ((rd t3 s17.1).f_Links).length c170), (78, .int .i64 (((rd t3 s17.1).f_Links).length : Int)), (79, .int .i64 s23.1)] a ∧ Fits z w (L123 ++ (bk g3 32 [.slice A102 (s17.2.1 ++ [(⟨1, (rd t3 s17.1).f_Head.f_Id⟩ : T_api_Vert)]).length c175, .slice A132 s24.length c234, .slice A129 s23.2.2.length c227, .slice none 0 0, .slice A105 s18.length c180] :: (bk g2 61 [.slice (some ⟨g26, o9, none⟩) t3.length c3, .slice A6 t6.length c6, mapV A4, mapV A7] :: (L3 ++ (L6 ++ (L4 ++ (L7 ++ (bk g35 56 [.int .i64 ((rd ((rd t3 s17.1).f_Links) s23.1).f_Kind), .int .i64 ((rd ((rd t3 s17.1).f_Links) s23.1).f_Id), .int .i64 ((rd ((rd t3 s17.1).f_Links) s23.1).f_Data), .int .i64 ((rd ((rd t3 s17.1).f_Links) s23.1).f_Cost)] :: (L120 ++ (L96 ++ (L93 ++ (bk g27 44 [.int .i64 ((rd t3 s17.1).f_Head.f_Age), .int .i64 ((rd t3 s17.1).f_Head.f_Kind), .int .i64 ((rd t3 s17.1).f_Head.f_Id), .int .i64 ((rd t3 s17.1).f_Head.f_Adv), .int .i64 ((rd t3 s17.1).f_Head.f_Seq), .int .i64 ((rd t3 s17.1).f_Head.f_Sum), .int .i64 ((rd t3 s17.1).f_Head.f_Len), .int .i64 ((rd t3 s17.1).f_Flags), .slice (some ⟨g34, o12, none⟩) ((rd t3 s17.1).f_Links).length c170, .int .i64 ((rd t3 s17.1).f_Bits), .slice A99 ((rd t3 s17.1).f_Routers).length c171, .slice A100 ((rd t3 s17.1).f_Verts).length c172] :: (bk g1 32 [.slice none 0 0, .slice none 0 0, .slice none 0 0, .slice none 0 0, .slice none 0 0] :: (N9 ++ F)))))))))))))) ∧ OwnS k_T_api_Edge L123 A132 c234 s24) ?_ ?_
     ·by_cases c235 : t49 = true
      ·replace H := itT c235 H
       refine cSet (i := 90) rfl (vT c235) ?_
       refine cT rfl ?_
       refine cRgn [] trivial ?_
       refine sL (fa32_1 rfl) rfl ?_
       refine sL (ld rfl Try.underlying27 rfl (HF474.box (mem_c (mem_c (mem_a (mem_a (mem_a (mem_a (mem_c (mem_a (mem_a (mem_a mem_h)))))))))) rfl)) rfl ?_
       refine sL (ldA (cs := [.int .i64 t48.f_From.f_Kind, .int .i64 t48.f_From.f_Id, .int .i64 t48.f_To.f_Kind, .int .i64 t48.f_To.f_Id, .int .i64 t48.f_Cost, .int .i64 t48.f_Data]) rfl ti37 rfl rfl (HF474.boxes (o := 0) (n := 6) (mem_h) rfl)) rfl ?_
       refine eW (oLit (r := [.int .i64 t48.f_From.f_Kind, .int .i64 t48.f_From.f_Id, .int .i64 t48.f_To.f_Kind, .int .i64 t48.f_To.f_Id, .int .i64 t48.f_Cost, .int .i64 t48.f_Data]) k_T_api_Edge [t48] HF474 Try.underlying27 ti37 rfl rfl rfl rfl ⟨[], [], [.int .i64 t48.f_From.f_Kind, .int .i64 t48.f_From.f_Id, .int .i64 t48.f_To.f_Kind, .int .i64 t48.f_To.f_Id, .int .i64 t48.f_Cost, .int .i64 t48.f_Data], _, rfl, rfl, ⟨rfl, rfl⟩, ⟨rfl, rfl⟩⟩ rfl rfl) rfl ?_
       rintro _ w247 ⟨L124, A133, c236, rfl, HF480, ho124⟩
       replace H := chk H; obtain ⟨c237, H⟩ := H
       have HF481 := HF480.perm (perm_f (perm_c (perm_c (perm_f (perm_f (perm_f (perm_f (perm_c pR))))))))
       refine eW (oApp (xs := s23.2.1) (ys := ([t48])) k_T_api_Edge HF481 rfl rfl Try.underlying27 Try.underlying27 ti37 rfl ho119 (srcR shrF ho124.rd HF481 (sub_a sub_h)) c237 rfl) rfl ?_
       rintro _ w248 ⟨L125, A134, c238, rfl, HF482, ho125⟩
       refine sL (fa32_1 rfl) rfl ?_
       have HF483 := HF482.perm (perm_f1 (perm_f1 (perm_c1 (perm_c1 (perm_f1 (perm_f1 (perm_f1 (perm_f1 (perm_c1 (perm_f1 (perm_f1 pR)))))))))))
       refine eS (oSt1 (l1 := [.slice A102 (s17.2.1 ++ [(⟨1, (rd t3 s17.1).f_Head.f_Id⟩ : T_api_Vert)]).length c175, .slice A134 (s23.2.1 ++ [t48]).length c238, .slice A129 s23.2.2.length c227, .slice none 0 0, .slice A105 s18.length c180]) HF483 rfl rfl ti27 rfl rfl rfl) ?_
       rintro w249 HF484
       refine lE ?_
       refine kN (?_)
       have HF485 := HF484.sublist (sl_c (sl_a (sl_da (sl_dc (sl_c (sl_a (sl_a (sl_a (sl_a (sl_c (sl_a (sl_a (sl_a (sl_c (sl_c sR)))))))))))))))
       have HF486 := HF485.perm (perm_c1 (perm_f1 (perm_c1 (perm_f1 (perm_f1 (perm_f1 (perm_f1 (perm_c1 (perm_f1 (perm_f1 (perm_f1 (perm_c1 pR))))))))))))
       have HF487 := HF486.perm (perm_c1 (perm_c1 (perm_f1 (perm_c1 (perm_f1 (perm_f1 (perm_f1 (perm_f1 (perm_c1 (perm_f1 (perm_f1 (perm_f1 pR))))))))))))
       have HF488 := HF487.perm (perm_c (perm_c (perm_c (perm_f (perm_c (perm_f (perm_f (perm_f (perm_f (perm_c (perm_f (perm_f pR))))))))))))
       have HF489 := HF488.perm (perm_f (perm_c (perm_c (perm_c (perm_f (perm_c (perm_f (perm_f (perm_f (perm_f (perm_c (perm_f pR))))))))))))
       have HF490 := HF489.perm (perm_f (perm_f (perm_c (perm_c (perm_c (perm_f (perm_c (perm_f (perm_f (perm_f (perm_f (perm_c pR))))))))))))
       have HF491 := HF490.perm (perm_f1 (perm_f1 (perm_f1 (perm_c1 (perm_c1 (perm_c1 (perm_f1 (perm_c1 (perm_f1 (perm_f1 (perm_f1 (perm_f1 pR))))))))))))
       have HF492 := HF491.perm (perm_c (perm_f (perm_f (perm_f (perm_c (perm_c (perm_c (perm_f (perm_c (perm_f (perm_f (perm_f pR))))))))))))
       have HF493 := HF492.perm (perm_f (perm_c (perm_f (perm_f (perm_f (perm_c (perm_c (perm_c (perm_f (perm_c (perm_f (perm_f pR))))))))))))
       have HF494 := HF493.perm (perm_f (perm_f (perm_c (perm_f (perm_f (perm_f (perm_c (perm_c (perm_c (perm_f (perm_c (perm_f pR))))))))))))
       have HF495 := HF494.perm (perm_f (perm_f (perm_f (perm_c (perm_f (perm_f (perm_f (perm_c (perm_c (perm_c (perm_f (perm_c pR))))))))))))
       have HF496 := HF495.perm (perm_f1 (perm_f1 (perm_f1 (perm_f1 (perm_c1 (perm_f1 (perm_f1 (perm_f1 (perm_c1 (perm_c1 (perm_c1 (perm_f1 pR))))))))))))
       have HF497 := HF496.perm (perm_c1 (perm_f1 (perm_f1 (perm_f1 (perm_f1 (perm_c1 (perm_f1 (perm_f1 (perm_f1 (perm_c1 (perm_c1 pR)))))))))))
       have HF498 := HF497.perm (perm_c (perm_c (perm_f (perm_f (perm_f (perm_f (perm_c (perm_f (perm_f (perm_f (perm_c (perm_c pR))))))))))))
       exact ofEnv (fun a hE => ⟨_, (Option.some.inj H).symm, ⟨_, _, L125, hE.keep (Keep.cons rfl (Keep.cons rfl (Keep.cons rfl (Keep.cons rfl (Keep.cons rfl (Keep.cons rfl (Keep.cons rfl (Keep.cons rfl (Keep.cons rfl (Keep.cons rfl (Keep.cons rfl (Keep.nil)))))))))))), HF498, ho125⟩⟩)
      replace H := itF c235 H
      refine cSet (i := 90) rfl (vF c235) ?_
      refine cF rfl ?_
      refine cSkip ?_
      refine kN (?_)
      have HF499 := HF474.sublist (sl_dc (sl_c (sl_a (sl_a (sl_a (sl_a (sl_c (sl_a (sl_a (sl_a (sl_c (sl_a (sl_c (sl_c sR))))))))))))))
      have HF500 := HF499.perm (perm_c1 (perm_f1 (perm_f1 (perm_f1 (perm_f1 (perm_c1 (perm_f1 (perm_f1 (perm_f1 (perm_c1 (perm_f1 (perm_c1 pR))))))))))))
      have HF501 := HF500.perm (perm_c1 (perm_c1 (perm_f1 (perm_f1 (perm_f1 (perm_f1 (perm_c1 (perm_f1 (perm_f1 (perm_f1 (perm_c1 (perm_f1 pR))))))))))))
      have HF502 := HF501.perm (perm_c (perm_c (perm_c (perm_f (perm_f (perm_f (perm_f (perm_c (perm_f (perm_f (perm_f (perm_c pR))))))))))))
      have HF503 := HF502.perm (perm_f (perm_c (perm_c (perm_c (perm_f (perm_f (perm_f (perm_f (perm_c (perm_f (perm_f pR)))))))))))
      have HF504 := HF503.perm (perm_f (perm_f (perm_c (perm_c (perm_c (perm_f (perm_f (perm_f (perm_f (perm_c (perm_f pR)))))))))))
      have HF505 := HF504.perm (perm_f1 (perm_f1 (perm_f1 (perm_c1 (perm_c1 (perm_c1 (perm_f1 (perm_f1 (perm_f1 (perm_f1 pR))))))))))
      have HF506 := HF505.perm (perm_c (perm_f (perm_f (perm_f (perm_c (perm_c (perm_c (perm_f (perm_f (perm_f pR))))))))))
      have HF507 := HF506.perm (perm_f (perm_c (perm_f (perm_f (perm_f (perm_c (perm_c (perm_c (perm_f (perm_f pR))))))))))
      have HF508 := HF507.perm (perm_f (perm_f (perm_c (perm_f (perm_f (perm_f (perm_c (perm_c (perm_c (perm_f pR))))))))))
      have HF509 := HF508.perm (perm_f (perm_f (perm_f (perm_c (perm_f (perm_f (perm_f (perm_c (perm_c (perm_c pR))))))))))
      have HF510 := HF509.perm (perm_f1 (perm_f1 (perm_f1 (perm_f1 (perm_c1 (perm_f1 (perm_f1 (perm_f1 (perm_c1 (perm_c1 pR))))))))))
      have HF511 := HF510.perm (perm_c1 (perm_f1 (perm_f1 (perm_f1 (perm_f1 (perm_c1 (perm_f1 (perm_f1 (perm_f1 (perm_c1 (perm_c1 (perm_f1 pR))))))))))))
      have HF512 := HF511.perm (perm_c (perm_c (perm_f (perm_f (perm_f (perm_f (perm_c (perm_f (perm_f (perm_f (perm_c (perm_c pR))))))))))))
      exact ofEnv (fun a hE => ⟨_, (Option.some.inj H).symm, ⟨_, _, L119, hE.keep (Keep.cons rfl (Keep.cons rfl (Keep.cons rfl (Keep.cons rfl (Keep.cons rfl (Keep.cons rfl (Keep.cons rfl (Keep.cons rfl (Keep.cons rfl (Keep.cons rfl (Keep.cons rfl (Keep.nil)))))))))))), HF512, ho119⟩⟩)
     rintro s24 a w250 rfl ⟨A132, c234, L123, hE, HF513, ho123⟩
     replace H := Ho24
     refine go_k hE ?_
     refine kN (?_)
     refine hK108 _ _ ?_
     refine cSeq (fun K111 hK111 => ?_)
     refine cRgn [] trivial ?_
     refine sL (fa56_2 rfl) rfl ?_
     refine sL (ld rfl Try.underlying3 rfl (HF513.box (mem_a (mem_c (mem_c (mem_a (mem_a (mem_a (mem_a mem_h))))))) rfl)) rfl ?_
     replace H := bnd H; obtain ⟨t50, J41, H⟩ := H
     refine eCall isf24 rfl rfl rfl (f_addr_Bits.ok J41 HF513) ?_
     rintro _ w251 ⟨rfl, HF514⟩
     refine ⟨_, rfl, ?_⟩
     refine sL (asg rfl) rfl ?_
     refine lE ?_
     refine kN (?_)
     refine hK111 _ _ ?_
     refine cSeq (fun K112 hK112 => ?_)
     replace H := bnd H; obtain ⟨y29, H, Ho25⟩ := H
     refine cJoin (y := y29) (fun (s25 : Bool) a w => Env 204 [(2, .pointer (some ⟨g1, 0, none⟩)), (3, .pointer (some ⟨g2, 0, none⟩)), (4, .pointer (some ⟨g3, 0, none⟩)), (6, .pointer (some ⟨g27, 0, none⟩)), (8, .pointer (some ⟨g35, 0, none⟩)), (11, .int .i64 t50), (49, .slice (some ⟨g26, o9, none⟩) t3.length c3), (50, .int .i64 (t3.length : Int)), (51, .int .i64 s17.1), (77, .slice (some ⟨g34, o12, none⟩) ((rd t3 s17.1).f_Links).length c170), (78, .int .i64 (((rd t3 s17.1).f_Links).length : Int)), (79, .int .i64 s23.1), (106, .bool s25)] a ∧ Fits z w (L123 ++ (bk g3 32 [.slice A102 (s17.2.1 ++ [(⟨1, (rd t3 s17.1).f_Head.f_Id⟩ : T_api_Vert)]).length c175, .slice A132 s24.length c234, .slice A129 s23.2.2.length c227, .slice none 0 0, .slice A105 s18.length c180] :: (bk g2 61 [.slice (some ⟨g26, o9, none⟩) t3.length c3, .slice A6 t6.length c6, mapV A4, mapV A7] :: (L3 ++ (L6 ++ (L4 ++ (L7 ++ (bk g35 56 [.int .i64 ((rd ((rd t3 s17.1).f_Links) s23.1).f_Kind), .int .i64 ((rd ((rd t3 s17.1).f_Links) s23.1).f_Id), .int .i64 ((rd ((rd t3 s17.1).f_Links) s23.1).f_Data), .int .i64 ((rd ((rd t3 s17.1).f_Links) s23.1).f_Cost)] :: (L120 ++ (L96 ++ (L93 ++ (bk g27 44 [.int .i64 ((rd t3 s17.1).f_Head.f_Age), .int .i64 ((rd t3 s17.1).f_Head.f_Kind), .int .i64 ((rd t3 s17.1).f_Head.f_Id), .int .i64 ((rd t3 s17.1).f_Head.f_Adv), .int .i64 ((rd t3 s17.1).f_Head.f_Seq), .int .i64 ((rd t3 s17.1).f_Head.f_Sum), .int .i64 ((rd t3 s17.1).f_Head.f_Len), .int .i64 ((rd t3 s17.1).f_Flags), .slice (some ⟨g34, o12, none⟩) ((rd t3 s17.1).f_Links).length c170, .int .i64 ((rd t3 s17.1).f_Bits), .slice A99 ((rd t3 s17.1).f_Routers).length c171, .slice A100 ((rd t3 s17.1).f_Verts).length c172] :: (bk g1 32 [.slice none 0 0, .slice none 0 0, .slice none 0 0, .slice none 0 0, .slice none 0 0] :: (N9 ++ F))))))))))))))) ?_ ?_
     ·refine cRgn [(3, 103)] ⟨rfl, trivial⟩ ?_
      refine sL (fa56_0 rfl) rfl ?_
      refine sL (ld rfl Try.underlying3 rfl (HF514.box (mem_a (mem_c (mem_c (mem_a (mem_a (mem_a (mem_a mem_h))))))) rfl)) rfl ?_
      refine sL (bEql rfl rfl) rfl ?_
      refine sL (mv rfl) rfl ?_
      by_cases c240 : ((rd ((rd t3 s17.1).f_Links) s23.1).f_Kind) = 3
      ·replace H := itT c240 H
       refine lSet (i := 103) rfl (dT c240) ?_
       refine sG rfl rfl (mv rfl) rfl ?_
       refine sG rfl rfl (bGeq rfl rfl) rfl ?_
       refine sL (pkT rfl rfl) rfl ?_
       refine lE ?_
       refine kN (?_)
       exact ofEnv (fun a hE => ⟨_, (Option.some.inj H).symm, ⟨hE.keep (Keep.cons rfl (Keep.cons rfl (Keep.cons rfl (Keep.cons rfl (Keep.cons rfl (Keep.cons rfl (Keep.cons rfl (Keep.cons rfl (Keep.cons rfl (Keep.cons rfl (Keep.cons rfl (Keep.cons rfl (Keep.cons rfl (Keep.nil)))))))))))))), HF514⟩⟩)
      replace H := itF c240 H
      refine lSet (i := 103) rfl (dF c240) ?_
      refine sN rfl rfl rfl rfl ?_
      refine sN rfl rfl rfl rfl ?_
      refine sL (pkF rfl rfl) rfl ?_
      refine lE ?_
      refine kN (?_)
      exact ofEnv (fun a hE => ⟨_, (Option.some.inj H).symm, ⟨hE.keep (Keep.cons rfl (Keep.cons rfl (Keep.cons rfl (Keep.cons rfl (Keep.cons rfl (Keep.cons rfl (Keep.cons rfl (Keep.cons rfl (Keep.cons rfl (Keep.cons rfl (Keep.cons rfl (Keep.cons rfl (Keep.cons rfl (Keep.nil)))))))))))))), HF514⟩⟩)
     rintro s25 a w252 rfl ⟨hE, HF515⟩
     replace H := Ho25
     refine go_k hE ?_
     refine kN (?_)
     refine hK112 _ _ ?_
     by_cases c241 : s25 = true
     ·replace H := itT c241 H
      refine cSet (i := 106) rfl (vT c241) ?_
      refine cT rfl ?_
      refine cDraw mo_ HF515 rfl (fun w => Fits z w (L123 ++ (bk g2 61 [.slice (some ⟨g26, o9, none⟩) t3.length c3, .slice A6 t6.length c6, mapV A4, mapV A7] :: (L3 ++ (L6 ++ (L4 ++ (L7 ++ (bk g35 56 [.int .i64 ((rd ((rd t3 s17.1).f_Links) s23.1).f_Kind), .int .i64 ((rd ((rd t3 s17.1).f_Links) s23.1).f_Id), .int .i64 ((rd ((rd t3 s17.1).f_Links) s23.1).f_Data), .int .i64 ((rd ((rd t3 s17.1).f_Links) s23.1).f_Cost)] :: (L96 ++ (L93 ++ (bk g27 44 [.int .i64 ((rd t3 s17.1).f_Head.f_Age), .int .i64 ((rd t3 s17.1).f_Head.f_Kind), .int .i64 ((rd t3 s17.1).f_Head.f_Id), .int .i64 ((rd t3 s17.1).f_Head.f_Adv), .int .i64 ((rd t3 s17.1).f_Head.f_Seq), .int .i64 ((rd t3 s17.1).f_Head.f_Sum), .int .i64 ((rd t3 s17.1).f_Head.f_Len), .int .i64 ((rd t3 s17.1).f_Flags), .slice (some ⟨g34, o12, none⟩) ((rd t3 s17.1).f_Links).length c170, .int .i64 ((rd t3 s17.1).f_Bits), .slice A99 ((rd t3 s17.1).f_Routers).length c171, .slice A100 ((rd t3 s17.1).f_Verts).length c172] :: (bk g1 32 [.slice none 0 0, .slice none 0 0, .slice none 0 0, .slice none 0 0, .slice none 0 0] :: (N9 ++ F))))))))))))) (fun w257 HF523 => ?_)
      have HF524 := HF523.sublist (sl_a (sl_dc (sl_c (sl_a (sl_a (sl_a (sl_a (sl_c (sl_da (sl_a (sl_a (sl_c (sl_c sR)))))))))))))
      refine hT 0 rfl (by kernel_rfl) (fun w_ hS_ => fa32_2 rfl) HF524 rfl rfl ?_
      refine hT 2 rfl (by kernel_rfl) (fun w_ hS_ => fa44_0 rfl) HF524 rfl rfl ?_
      refine hT 3 rfl (by kernel_rfl) (fun w_ hS_ => fa41_2 rfl) HF524 rfl rfl ?_
      refine hT 4 rfl (by kernel_rfl) (fun w_ hS_ => ld rfl Try.underlying3 rfl (hS_.box (mem_a (mem_c (mem_a (mem_a (mem_a (mem_a (mem_c (mem_a (mem_a mem_h))))))))) rfl)) HF524 rfl rfl ?_
      refine hT 5 rfl (by kernel_rfl) (fun w_ hS_ => fa56_1 rfl) HF524 rfl rfl ?_
      refine hT 6 rfl (by kernel_rfl) (fun w_ hS_ => ld rfl Try.underlying3 rfl (hS_.box (mem_a (mem_c (mem_a (mem_a (mem_a (mem_a mem_h)))))) rfl)) HF524 rfl rfl ?_
      refine hT 7 rfl (by kernel_rfl) (fun w_ hS_ => mv rfl) HF524 rfl rfl ?_
      refine hT 9 rfl (by kernel_rfl) (fun w_ hS_ => mv rfl) HF524 rfl rfl ?_
      refine hT 10 rfl (by kernel_rfl) (fun w_ hS_ => fa56_3 rfl) HF524 rfl rfl ?_
      refine hT 11 rfl (by kernel_rfl) (fun w_ hS_ => ld rfl Try.underlying3 rfl (hS_.box (mem_a (mem_c (mem_a (mem_a (mem_a (mem_a mem_h)))))) rfl)) HF524 rfl rfl ?_
      refine h2 1 8 (by kernel_rfl) rfl rfl ?_ ?_
      ·refine qL rfl gd0 (ld rfl Try.underlying28 rfl (HF523.box (mem_a mem_h) rfl)) rfl HF524 ?_
       refine h1 8 (by kernel_rfl) rfl ?_
       replace H := bnd H; obtain ⟨t52, J43, H⟩ := H
       refine qCall rfl gd0 isf25 rfl rfl rfl (f_addr_Net.ok J43 HF523) ?_
       rintro _ w258 ⟨rfl, HF525⟩
       have HF526 := HF525.sublist (sl_a (sl_dc (sl_c (sl_a (sl_a (sl_a (sl_a (sl_c (sl_da (sl_a (sl_a (sl_c (sl_c sR)))))))))))))
       refine ⟨_, rfl, HF526, ?_⟩
       refine hT 12 rfl (by kernel_rfl) (fun w_ hS_ => bd (r := [.int .i64 ((rd t3 s17.1).f_Head.f_Id), .int .i64 t52, .int .i64 t50, .int .i64 ((rd ((rd t3 s17.1).f_Links) s23.1).f_Cost)]) pl72 ti72 rfl rfl) HF526 rfl rfl ?_
       refine h1 13 (by kernel_rfl) rfl ?_
       refine qW rfl gd0 (oLit (r := [.int .i64 ((rd t3 s17.1).f_Head.f_Id), .int .i64 t52, .int .i64 t50, .int .i64 ((rd ((rd t3 s17.1).f_Links) s23.1).f_Cost)]) k_T_api_Stub [(⟨(rd t3 s17.1).f_Head.f_Id, t52, t50, (rd ((rd t3 s17.1).f_Links) s23.1).f_Cost⟩ : T_api_Stub)] HF525 Try.underlying28 ti72 rfl rfl rfl rfl ⟨[], [], [.int .i64 ((rd t3 s17.1).f_Head.f_Id), .int .i64 t52, .int .i64 t50, .int .i64 ((rd ((rd t3 s17.1).f_Links) s23.1).f_Cost)], _, rfl, rfl, ⟨rfl, rfl⟩, ⟨rfl, rfl⟩⟩ rfl rfl) rfl ?_
       rintro _ w259 ⟨L128, A137, c245, rfl, HF527, ho128⟩
       have HF528 := HF527.sublist (sl_da (sl_a (sl_dc (sl_c (sl_a (sl_a (sl_a (sl_a (sl_c (sl_da (sl_a (sl_a (sl_c (sl_c sR))))))))))))))
       refine ⟨HF528, ?_⟩
       refine h1 14 (by kernel_rfl) rfl ?_
       replace H := chk H; obtain ⟨c246, H⟩ := H
       have HF529 := HF527.perm (perm_f (perm_f (perm_c (perm_c (perm_f (perm_f (perm_f (perm_f (perm_c pR)))))))))
       refine qW rfl gd0 (oApp (xs := s23.2.2) (ys := ([(⟨(rd t3 s17.1).f_Head.f_Id, t52, t50, (rd ((rd t3 s17.1).f_Links) s23.1).f_Cost⟩ : T_api_Stub)])) k_T_api_Stub HF529 rfl rfl Try.underlying28 Try.underlying28 ti72 rfl ho120 (srcR shrF ho128.rd HF529 (sub_a sub_h)) c246 rfl) rfl ?_
       rintro _ w260 ⟨L129, A138, c247, rfl, HF530, ho129⟩
       have HF531 := HF530.sublist (sl_da (sl_da (sl_a (sl_dc (sl_c (sl_a (sl_a (sl_a (sl_a (sl_c (sl_a (sl_a (sl_c (sl_c sR))))))))))))))
       refine ⟨HF531, ?_⟩
       refine hT 15 rfl (by kernel_rfl) (fun w_ hS_ => fa32_2 rfl) HF531 rfl rfl ?_
       refine h1 16 (by kernel_rfl) rfl ?_
       have HF532 := HF530.perm (perm_f1 (perm_f1 (perm_f1 pR)))
       refine qS rfl gd0 (oSt1 (l1 := [.slice A102 (s17.2.1 ++ [(⟨1, (rd t3 s17.1).f_Head.f_Id⟩ : T_api_Vert)]).length c175, .slice A132 s24.length c234, .slice A138 (s23.2.2 ++ [(⟨(rd t3 s17.1).f_Head.f_Id, t52, t50, (rd ((rd t3 s17.1).f_Links) s23.1).f_Cost⟩ : T_api_Stub)]).length c247, .slice none 0 0, .slice A105 s18.length c180]) HF532 rfl rfl ti28 rfl rfl rfl) ?_
       rintro w261 HF533
       have HF534 := HF533.sublist (sl_dc (sl_da (sl_da (sl_a (sl_c (sl_a (sl_a (sl_a (sl_a (sl_c (sl_a (sl_a (sl_c (sl_c sR))))))))))))))
       refine ⟨HF534, ?_⟩
       refine hEnd (by kernel_rfl) ?_
       refine jN (kN (?_))
       refine hK106 _ _ ?_
       refine cRgn [] trivial ?_
       refine sL (bAdd rfl rfl) rfl ?_
       refine sL (mv rfl) rfl ?_
       refine lE ?_
       refine kN (?_)
       have HF535 := HF533.sublist (sl_c (sl_a (sl_da (sl_a (sl_c (sl_a (sl_a (sl_a (sl_a (sl_dc (sl_a (sl_a (sl_c (sl_c sR))))))))))))))
       have HF536 := HF535.perm (perm_c1 (perm_f1 (perm_f1 (perm_c1 (perm_f1 (perm_f1 (perm_f1 (perm_f1 (perm_f1 (perm_f1 (perm_c1 pR)))))))))))
       have HF537 := HF536.perm (perm_c (perm_c (perm_f (perm_f (perm_c (perm_f (perm_f pR)))))))
       have HF538 := HF537.perm (perm_f (perm_c (perm_c (perm_f (perm_f (perm_c pR))))))
       have HF539 := HF538.perm (perm_f (perm_f (perm_c (perm_c (perm_f (perm_f (perm_c (perm_f pR))))))))
       have HF540 := HF539.perm (perm_f (perm_f (perm_f (perm_c (perm_c (perm_f (perm_f (perm_c pR))))))))
       have HF541 := HF540.perm (perm_f1 (perm_f1 (perm_f1 (perm_f1 (perm_c1 (perm_c1 (perm_f1 (perm_f1 pR))))))))
       have HF542 := HF541.perm (perm_c1 (perm_f1 (perm_f1 (perm_f1 (perm_f1 (perm_c1 (perm_c1 (perm_f1 (perm_f1 (perm_f1 (perm_f1 pR)))))))))))
       have HF543 := HF542.perm (perm_c (perm_c (perm_f (perm_f (perm_f (perm_f (perm_c (perm_c (perm_f (perm_f (perm_f pR)))))))))))
       have HF544 := HF543.perm (perm_f1 (perm_c1 (perm_c1 (perm_f1 (perm_f1 (perm_f1 (perm_f1 (perm_c1 pR))))))))
       have HF545 := HF544.perm (perm_c (perm_f (perm_c (perm_c (perm_f (perm_f (perm_f (perm_f (perm_c (perm_f (perm_f pR)))))))))))
       have HF546 := HF545.perm (perm_f (perm_c (perm_f (perm_c (perm_c (perm_f (perm_f (perm_f (perm_f (perm_c pR))))))))))
       have HF547 := HF546.perm (perm_f (perm_f (perm_c (perm_f (perm_c (perm_c (perm_f (perm_f (perm_f (perm_f (perm_c pR)))))))))))
       exact ofEnv (fun a hE => ⟨_, (Option.some.inj H).symm, ⟨_, _, L123, _, _, L129, hE.keep (Keep.cons rfl (Keep.cons rfl (Keep.cons rfl (Keep.cons rfl (Keep.cons rfl (Keep.cons rfl (Keep.cons rfl (Keep.cons rfl (Keep.cons rfl (Keep.cons rfl (Keep.nil))))))))))), HF547, ho123, ho129⟩⟩)
      replace H := bnd H; obtain ⟨t52, J43, H⟩ := H
      refine qCall rfl gd0 isf25 rfl rfl rfl (f_addr_Net.ok J43 HF523) ?_
      rintro _ w258 ⟨rfl, HF525⟩
      have HF526 := HF525.sublist (sl_a (sl_dc (sl_c (sl_a (sl_a (sl_a (sl_a (sl_c (sl_da (sl_a (sl_a (sl_c (sl_c sR)))))))))))))
      refine ⟨_, rfl, HF526, ?_⟩
      refine hT 12 rfl (by kernel_rfl) (fun w_ hS_ => bd (r := [.int .i64 ((rd t3 s17.1).f_Head.f_Id), .int .i64 t52, .int .i64 t50, .int .i64 ((rd ((rd t3 s17.1).f_Links) s23.1).f_Cost)]) pl72 ti72 rfl rfl) HF526 rfl rfl ?_
      refine h2 1 13 (by kernel_rfl) rfl rfl ?_ ?_
      ·refine qL rfl gd0 (ld rfl Try.underlying28 rfl (HF525.box (mem_a mem_h) rfl)) rfl HF526 ?_
       refine h1 13 (by kernel_rfl) rfl ?_
       refine qW rfl gd0 (oLit (r := [.int .i64 ((rd t3 s17.1).f_Head.f_Id), .int .i64 t52, .int .i64 t50, .int .i64 ((rd ((rd t3 s17.1).f_Links) s23.1).f_Cost)]) k_T_api_Stub [(⟨(rd t3 s17.1).f_Head.f_Id, t52, t50, (rd ((rd t3 s17.1).f_Links) s23.1).f_Cost⟩ : T_api_Stub)] HF525 Try.underlying28 ti72 rfl rfl rfl rfl ⟨[], [], [.int .i64 ((rd t3 s17.1).f_Head.f_Id), .int .i64 t52, .int .i64 t50, .int .i64 ((rd ((rd t3 s17.1).f_Links) s23.1).f_Cost)], _, rfl, rfl, ⟨rfl, rfl⟩, ⟨rfl, rfl⟩⟩ rfl rfl) rfl ?_
       rintro _ w259 ⟨L128, A137, c245, rfl, HF527, ho128⟩
       have HF528 := HF527.sublist (sl_da (sl_a (sl_dc (sl_c (sl_a (sl_a (sl_a (sl_a (sl_c (sl_da (sl_a (sl_a (sl_c (sl_c sR))))))))))))))
       refine ⟨HF528, ?_⟩
       refine h1 14 (by kernel_rfl) rfl ?_
       replace H := chk H; obtain ⟨c246, H⟩ := H
       have HF529 := HF527.perm (perm_f (perm_f (perm_c (perm_c (perm_f (perm_f (perm_f (perm_f (perm_c pR)))))))))
       refine qW rfl gd0 (oApp (xs := s23.2.2) (ys := ([(⟨(rd t3 s17.1).f_Head.f_Id, t52, t50, (rd ((rd t3 s17.1).f_Links) s23.1).f_Cost⟩ : T_api_Stub)])) k_T_api_Stub HF529 rfl rfl Try.underlying28 Try.underlying28 ti72 rfl ho120 (srcR shrF ho128.rd HF529 (sub_a sub_h)) c246 rfl) rfl ?_
       rintro _ w260 ⟨L129, A138, c247, rfl, HF530, ho129⟩
       have HF531 := HF530.sublist (sl_da (sl_da (sl_a (sl_dc (sl_c (sl_a (sl_a (sl_a (sl_a (sl_c (sl_a (sl_a (sl_c (sl_c sR))))))))))))))
       refine ⟨HF531, ?_⟩
       refine hT 15 rfl (by kernel_rfl) (fun w_ hS_ => fa32_2 rfl) HF531 rfl rfl ?_
       refine h1 16 (by kernel_rfl) rfl ?_
       have HF532 := HF530.perm (perm_f1 (perm_f1 (perm_f1 pR)))
       refine qS rfl gd0 (oSt1 (l1 := [.slice A102 (s17.2.1 ++ [(⟨1, (rd t3 s17.1).f_Head.f_Id⟩ : T_api_Vert)]).length c175, .slice A132 s24.length c234, .slice A138 (s23.2.2 ++ [(⟨(rd t3 s17.1).f_Head.f_Id, t52, t50, (rd ((rd t3 s17.1).f_Links) s23.1).f_Cost⟩ : T_api_Stub)]).length c247, .slice none 0 0, .slice A105 s18.length c180]) HF532 rfl rfl ti28 rfl rfl rfl) ?_
       rintro w261 HF533
       have HF534 := HF533.sublist (sl_dc (sl_da (sl_da (sl_a (sl_c (sl_a (sl_a (sl_a (sl_a (sl_c (sl_a (sl_a (sl_c (sl_c sR))))))))))))))
       refine ⟨HF534, ?_⟩
       refine hEnd (by kernel_rfl) ?_
       refine jN (kN (?_))
       refine hK106 _ _ ?_
       refine cRgn [] trivial ?_
       refine sL (bAdd rfl rfl) rfl ?_
       refine sL (mv rfl) rfl ?_
       refine lE ?_
       refine kN (?_)
       have HF535 := HF533.sublist (sl_c (sl_a (sl_da (sl_a (sl_c (sl_a (sl_a (sl_a (sl_a (sl_dc (sl_a (sl_a (sl_c (sl_c sR))))))))))))))
       have HF536 := HF535.perm (perm_c1 (perm_f1 (perm_f1 (perm_c1 (perm_f1 (perm_f1 (perm_f1 (perm_f1 (perm_f1 (perm_f1 (perm_c1 pR)))))))))))
       have HF537 := HF536.perm (perm_c (perm_c (perm_f (perm_f (perm_c (perm_f (perm_f pR)))))))
       have HF538 := HF537.perm (perm_f (perm_c (perm_c (perm_f (perm_f (perm_c pR))))))
       have HF539 := HF538.perm (perm_f (perm_f (perm_c (perm_c (perm_f (perm_f (perm_c (perm_f pR))))))))
       have HF540 := HF539.perm (perm_f (perm_f (perm_f (perm_c (perm_c (perm_f (perm_f (perm_c pR))))))))
       have HF541 := HF540.perm (perm_f1 (perm_f1 (perm_f1 (perm_f1 (perm_c1 (perm_c1 (perm_f1 (perm_f1 pR))))))))
       have HF542 := HF541.perm (perm_c1 (perm_f1 (perm_f1 (perm_f1 (perm_f1 (perm_c1 (perm_c1 (perm_f1 (perm_f1 (perm_f1 (perm_f1 pR)))))))))))
       have HF543 := HF542.perm (perm_c (perm_c (perm_f (perm_f (perm_f (perm_f (perm_c (perm_c (perm_f (perm_f (perm_f pR)))))))))))
       have HF544 := HF543.perm (perm_f1 (perm_c1 (perm_c1 (perm_f1 (perm_f1 (perm_f1 (perm_f1 (perm_c1 pR))))))))
       have HF545 := HF544.perm (perm_c (perm_f (perm_c (perm_c (perm_f (perm_f (perm_f (perm_f (perm_c (perm_f (perm_f pR)))))))))))
       have HF546 := HF545.perm (perm_f (perm_c (perm_f (perm_c (perm_c (perm_f (perm_f (perm_f (perm_f (perm_c pR))))))))))
       have HF547 := HF546.perm (perm_f (perm_f (perm_c (perm_f (perm_c (perm_c (perm_f (perm_f (perm_f (perm_f (perm_c pR)))))))))))
       exact ofEnv (fun a hE => ⟨_, (Option.some.inj H).symm, ⟨_, _, L123, _, _, L129, hE.keep (Keep.cons rfl (Keep.cons rfl (Keep.cons rfl (Keep.cons rfl (Keep.cons rfl (Keep.cons rfl (Keep.cons rfl (Keep.cons rfl (Keep.cons rfl (Keep.cons rfl (Keep.nil))))))))))), HF547, ho123, ho129⟩⟩)
      refine qW rfl gd0 (oLit (r := [.int .i64 ((rd t3 s17.1).f_Head.f_Id), .int .i64 t52, .int .i64 t50, .int .i64 ((rd ((rd t3 s17.1).f_Links) s23.1).f_Cost)]) k_T_api_Stub [(⟨(rd t3 s17.1).f_Head.f_Id, t52, t50, (rd ((rd t3 s17.1).f_Links) s23.1).f_Cost⟩ : T_api_Stub)] HF525 Try.underlying28 ti72 rfl rfl rfl rfl ⟨[], [], [.int .i64 ((rd t3 s17.1).f_Head.f_Id), .int .i64 t52, .int .i64 t50, .int .i64 ((rd ((rd t3 s17.1).f_Links) s23.1).f_Cost)], _, rfl, rfl, ⟨rfl, rfl⟩, ⟨rfl, rfl⟩⟩ rfl rfl) rfl ?_
      rintro _ w259 ⟨L128, A137, c245, rfl, HF527, ho128⟩
      have HF528 := HF527.sublist (sl_da (sl_a (sl_dc (sl_c (sl_a (sl_a (sl_a (sl_a (sl_c (sl_da (sl_a (sl_a (sl_c (sl_c sR))))))))))))))
      refine ⟨HF528, ?_⟩
      refine h1 1 (by kernel_rfl) rfl ?_
      refine qL rfl gd0 (ld rfl Try.underlying28 rfl (HF527.box (mem_a (mem_a mem_h)) rfl)) rfl HF528 ?_
      refine h1 14 (by kernel_rfl) rfl ?_
      replace H := chk H; obtain ⟨c246, H⟩ := H
      have HF529 := HF527.perm (perm_f (perm_f (perm_c (perm_c (perm_f (perm_f (perm_f (perm_f (perm_c pR)))))))))
      refine qW rfl gd0 (oApp (xs := s23.2.2) (ys := ([(⟨(rd t3 s17.1).f_Head.f_Id, t52, t50, (rd ((rd t3 s17.1).f_Links) s23.1).f_Cost⟩ : T_api_Stub)])) k_T_api_Stub HF529 rfl rfl Try.underlying28 Try.underlying28 ti72 rfl ho120 (srcR shrF ho128.rd HF529 (sub_a sub_h)) c246 rfl) rfl ?_
      rintro _ w260 ⟨L129, A138, c247, rfl, HF530, ho129⟩
      have HF531 := HF530.sublist (sl_da (sl_da (sl_a (sl_dc (sl_c (sl_a (sl_a (sl_a (sl_a (sl_c (sl_a (sl_a (sl_c (sl_c sR))))))))))))))
      refine ⟨HF531, ?_⟩
      refine hT 15 rfl (by kernel_rfl) (fun w_ hS_ => fa32_2 rfl) HF531 rfl rfl ?_
      refine h1 16 (by kernel_rfl) rfl ?_
      have HF532 := HF530.perm (perm_f1 (perm_f1 (perm_f1 pR)))
      refine qS rfl gd0 (oSt1 (l1 := [.slice A102 (s17.2.1 ++ [(⟨1, (rd t3 s17.1).f_Head.f_Id⟩ : T_api_Vert)]).length c175, .slice A132 s24.length c234, .slice A138 (s23.2.2 ++ [(⟨(rd t3 s17.1).f_Head.f_Id, t52, t50, (rd ((rd t3 s17.1).f_Links) s23.1).f_Cost⟩ : T_api_Stub)]).length c247, .slice none 0 0, .slice A105 s18.length c180]) HF532 rfl rfl ti28 rfl rfl rfl) ?_
      rintro w261 HF533
      have HF534 := HF533.sublist (sl_dc (sl_da (sl_da (sl_a (sl_c (sl_a (sl_a (sl_a (sl_a (sl_c (sl_a (sl_a (sl_c (sl_c sR))))))))))))))
      refine ⟨HF534, ?_⟩
      refine hEnd (by kernel_rfl) ?_
      refine jN (kN (?_))
      refine hK106 _ _ ?_
      refine cRgn [] trivial ?_
      refine sL (bAdd rfl rfl) rfl ?_
      refine sL (mv rfl) rfl ?_
      refine lE ?_
      refine kN (?_)
      have HF535 := HF533.sublist (sl_c (sl_a (sl_da (sl_a (sl_c (sl_a (sl_a (sl_a (sl_a (sl_dc (sl_a (sl_a (sl_c (sl_c sR))))))))))))))
      have HF536 := HF535.perm (perm_c1 (perm_f1 (perm_f1 (perm_c1 (perm_f1 (perm_f1 (perm_f1 (perm_f1 (perm_f1 (perm_f1 (perm_c1 pR)))))))))))
      have HF537 := HF536.perm (perm_c (perm_c (perm_f (perm_f (perm_c (perm_f (perm_f pR)))))))
      have HF538 := HF537.perm (perm_f (perm_c (perm_c (perm_f (perm_f (perm_c pR))))))
      have HF539 := HF538.perm (perm_f (perm_f (perm_c (perm_c (perm_f (perm_f (perm_c (perm_f pR))))))))
      have HF540 := HF539.perm (perm_f (perm_f (perm_f (perm_c (perm_c (perm_f (perm_f (perm_c pR))))))))
      have HF541 := HF540.perm (perm_f1 (perm_f1 (perm_f1 (perm_f1 (perm_c1 (perm_c1 (perm_f1 (perm_f1 pR))))))))
      have HF542 := HF541.perm (perm_c1 (perm_f1 (perm_f1 (perm_f1 (perm_f1 (perm_c1 (perm_c1 (perm_f1 (perm_f1 (perm_f1 (perm_f1 pR)))))))))))
      have HF543 := HF542.perm (perm_c (perm_c (perm_f (perm_f (perm_f (perm_f (perm_c (perm_c (perm_f (perm_f (perm_f pR)))))))))))
      have HF544 := HF543.perm (perm_f1 (perm_c1 (perm_c1 (perm_f1 (perm_f1 (perm_f1 (perm_f1 (perm_c1 pR))))))))
      have HF545 := HF544.perm (perm_c (perm_f (perm_c (perm_c (perm_f (perm_f (perm_f (perm_f (perm_c (perm_f (perm_f pR)))))))))))
      have HF546 := HF545.perm (perm_f (perm_c (perm_f (perm_c (perm_c (perm_f (perm_f (perm_f (perm_f (perm_c pR))))))))))
      have HF547 := HF546.perm (perm_f (perm_f (perm_c (perm_f (perm_c (perm_c (perm_f (perm_f (perm_f (perm_f (perm_c pR)))))))))))
      exact ofEnv (fun a hE => ⟨_, (Option.some.inj H).symm, ⟨_, _, L123, _, _, L129, hE.keep (Keep.cons rfl (Keep.cons rfl (Keep.cons rfl (Keep.cons rfl (Keep.cons rfl (Keep.cons rfl (Keep.cons rfl (Keep.cons rfl (Keep.cons rfl (Keep.cons rfl (Keep.nil))))))))))), HF547, ho123, ho129⟩⟩)
     replace H := itF c241 H
     refine cSet (i := 106) rfl (vF c241) ?_
     refine cF rfl ?_
     refine cSkip ?_
     refine jN (kN (?_))
     refine hK106 _ _ ?_
     refine cRgn [] trivial ?_
     refine sL (bAdd rfl rfl) rfl ?_
     refine sL (mv rfl) rfl ?_
     refine lE ?_
     refine kN (?_)
     have HF548 := HF515.sublist (sl_a (sl_c (sl_c (sl_a (sl_a (sl_a (sl_a (sl_dc (sl_a (sl_a (sl_a (sl_c (sl_c sR)))))))))))))
     have HF549 := HF548.perm (perm_f1 (perm_c1 (perm_c1 (perm_f1 (perm_f1 (perm_f1 (perm_f1 (perm_f1 (perm_f1 (perm_f1 (perm_c1 pR)))))))))))
     have HF550 := HF549.perm (perm_c (perm_f (perm_c (perm_c (perm_f (perm_f pR))))))
     have HF551 := HF550.perm (perm_f (perm_c (perm_f (perm_c (perm_c pR)))))
     have HF552 := HF551.perm (perm_f (perm_f (perm_c (perm_f (perm_c (perm_c (perm_f pR)))))))
     have HF553 := HF552.perm (perm_f (perm_f (perm_f (perm_c (perm_f (perm_c (perm_c pR)))))))
     have HF554 := HF553.perm (perm_f1 (perm_f1 (perm_f1 (perm_f1 (perm_c1 (perm_f1 (perm_c1 pR)))))))
     have HF555 := HF554.perm (perm_c1 (perm_f1 (perm_f1 (perm_f1 (perm_f1 (perm_c1 (perm_f1 (perm_c1 (perm_f1 (perm_f1 (perm_f1 pR)))))))))))
     have HF556 := HF555.perm (perm_c (perm_c (perm_f (perm_f (perm_f (perm_f (perm_c (perm_f (perm_c (perm_f (perm_f pR)))))))))))
     have HF557 := HF556.perm (perm_f1 (perm_c1 (perm_c1 (perm_f1 (perm_f1 (perm_f1 (perm_f1 (perm_c1 (perm_f1 pR)))))))))
     have HF558 := HF557.perm (perm_c (perm_f (perm_c (perm_c (perm_f (perm_f (perm_f (perm_f (perm_c (perm_f (perm_f pR)))))))))))
     have HF559 := HF558.perm (perm_f (perm_c (perm_f (perm_c (perm_c (perm_f (perm_f (perm_f (perm_f (perm_c (perm_f pR)))))))))))
     have HF560 := HF559.perm (perm_f (perm_f (perm_c (perm_f (perm_c (perm_c (perm_f (perm_f (perm_f (perm_f (perm_c pR)))))))))))
     exact ofEnv (fun a hE => ⟨_, (Option.some.inj H).symm, ⟨_, _, L123, _, _, L120, hE.keep (Keep.cons rfl (Keep.cons rfl (Keep.cons rfl (Keep.cons rfl (Keep.cons rfl (Keep.cons rfl (Keep.cons rfl (Keep.cons rfl (Keep.cons rfl (Keep.cons rfl (Keep.nil))))))))))), HF560, ho123, ho120⟩⟩)
    replace H := itF c228 H
    refine cSet (i := 80) rfl (dF c228) ?_
    refine cF rfl ?_
    refine cExit ?_
    refine kX (kX (jX (kN (?_))))
    exact ofEnv (fun a hE => ⟨_, (Option.some.inj H).symm, ⟨_, _, L119, _, _, L120, hE.keep (Keep.cons rfl (Keep.cons rfl (Keep.cons rfl (Keep.cons rfl (Keep.cons rfl (Keep.cons rfl (Keep.cons rfl (Keep.cons rfl (Keep.cons rfl (Keep.cons rfl (Keep.nil))))))))))), HF464, ho119, ho120⟩⟩)
   rintro s23 a w262 rfl ⟨A128, c226, L119, A129, c227, L120, hE, HF573, ho119, ho120⟩
   replace H := Ho23
   refine go_k hE ?_
   refine jN (kN (?_))
   refine hK80 _ _ ?_
   refine cRgn [] trivial ?_
   refine sL (bAdd rfl rfl) rfl ?_
   refine sL (mv rfl) rfl ?_
   refine lE ?_
   refine kN (?_)
   have HF574 := HF573.sublist (sl_a (sl_a (sl_a (sl_c (sl_a (sl_dc (sl_c (sl_a (sl_a (sl_a (sl_a (sl_c sR))))))))))))
   have HF575 := HF574.perm (perm_f1 (perm_f1 (perm_f1 (perm_c1 (perm_f1 (perm_c1 (perm_f1 (perm_f1 (perm_f1 (perm_f1 pR))))))))))
   have HF576 := HF575.perm (perm_c (perm_f (perm_f (perm_f (perm_c (perm_f (perm_c (perm_f (perm_f (perm_f pR))))))))))
   have HF577 := HF576.perm (perm_f (perm_c (perm_f (perm_f (perm_f (perm_c (perm_f (perm_c (perm_f (perm_f pR))))))))))
   have HF578 := HF577.perm (perm_f (perm_f (perm_c (perm_f (perm_f (perm_f (perm_c (perm_f (perm_c (perm_f pR))))))))))
   have HF579 := HF578.perm (perm_f (perm_f (perm_f (perm_c (perm_f (perm_f (perm_f (perm_c (perm_f (perm_c pR))))))))))
   have HF580 := HF579.perm (perm_f1 (perm_f1 (perm_f1 (perm_f1 (perm_c1 (perm_f1 (perm_f1 (perm_f1 (perm_c1 (perm_f1 pR))))))))))
   have HF581 := HF580.perm (perm_c1 (perm_f1 (perm_f1 (perm_f1 (perm_f1 (perm_c1 (perm_f1 (perm_f1 (perm_f1 pR)))))))))
   have HF582 := HF581.perm (perm_c (perm_c (perm_f (perm_f (perm_f (perm_f (perm_c (perm_f (perm_f pR)))))))))
   have HF583 := HF582.perm (perm_f (perm_c (perm_c (perm_f (perm_f (perm_f (perm_f (perm_c (perm_f pR)))))))))
   have HF584 := HF583.perm (perm_f (perm_f (perm_c (perm_c (perm_f (perm_f (perm_f (perm_f (perm_c pR)))))))))
   have HF585 := HF584.perm (perm_f (perm_f (perm_f (perm_c (perm_c (perm_f (perm_f (perm_f (perm_f (perm_c pR))))))))))
   exact ofEnv (fun a hE => ⟨_, (Option.some.inj H).symm, ⟨_, _, L93, _, _, L119, _, _, L120, _, _, L96, hE.keep (Keep.cons rfl (Keep.cons rfl (Keep.cons rfl (Keep.cons rfl (Keep.cons rfl (Keep.cons rfl (Keep.nil))))))), HF585, ho93, ho119, ho120, ho96⟩⟩)
  replace H := itF c168 H
  refine cSet (i := 52) rfl (dF c168) ?_
  refine cF rfl ?_
  refine cExit ?_
  refine kX (kX (jX (kN (?_))))
  exact ofEnv (fun a hE => ⟨_, (Option.some.inj H).symm, ⟨_, _, L88, _, _, L89, _, _, L90, _, _, L91, hE.keep (Keep.cons rfl (Keep.cons rfl (Keep.cons rfl (Keep.cons rfl (Keep.cons rfl (Keep.cons rfl (Keep.nil))))))), HF335, ho88, ho89, ho90, ho91⟩⟩)
 rintro s17 a w263 rfl ⟨A94, c164, L88, A95, c165, L89, A96, c166, L90, A97, c167, L91, hE, HF586, ho88, ho89, ho90, ho91⟩
 replace H := Ho17
 refine go_k hE ?_
 refine kN (?_)
 refine hK6 _ _ ?_
 refine cSeq (fun K113 hK113 => ?_)
 refine cSeq (fun K114 hK114 => ?_)
 refine cRgn [] trivial ?_
 refine sL (mv rfl) rfl ?_
 refine sL (nc rfl) rfl ?_
 refine sL (fa61_1 rfl) rfl ?_
 refine sL (ld rfl Try.underlying24 rfl (HF586.box (mem_a (mem_a (mem_a (mem_a (mem_c mem_h))))) rfl)) rfl ?_
 refine sL (lnS rfl Try.underlying24) rfl ?_
 refine sL (mv rfl) rfl ?_
 refine lE ?_
 refine kN (?_)
 refine hK114 _ _ ?_
 replace H := bnd H; obtain ⟨y40, J108, Ho34⟩ := H
 refine cLoopB (f_topo_Map.b3 t4 t6) (fun (s34 : Int × (List T_api_Vert) × (List T_api_Edge) × (List T_api_Span)) a w => ∃ (A272 : Option Addr) (c422 : Nat) (L161 : Hp) (A273 : Option Addr) (c423 : Nat) (L162 : Hp) (A274 : Option Addr) (c424 : Nat) (L163 : Hp), Env 204 [(2, .pointer (some ⟨g1, 0, none⟩)), (3, .pointer (some ⟨g2, 0, none⟩)), (4, .pointer (some ⟨g3, 0, none⟩)), (128, .slice A6 t6.length c6), (129, .int .i64 (t6.length : Int)), (130, .int .i64 s34.1)] a ∧ Fits z w (L161 ++ (L162 ++ (L163 ++ (L90 ++ (L91 ++ (bk g3 32 [.slice A272 s34.2.1.length c422, .slice A273 s34.2.2.1.length c423, .slice A96 s17.2.2.2.1.length c166, .slice A274 s34.2.2.2.length c424, .slice A97 s17.2.2.2.2.length c167] :: (bk g2 61 [.slice A3 t3.length c3, .slice A6 t6.length c6, mapV A4, mapV A7] :: (L6 ++ (L7 ++ (L3 ++ (L4 ++ (bk g1 32 [.slice none 0 0, .slice none 0 0, .slice none 0 0, .slice none 0 0, .slice none 0 0] :: (N9 ++ F))))))))))))) ∧ OwnS k_T_api_Vert L161 A272 c422 s34.2.1 ∧ OwnS k_T_api_Edge L162 A273 c423 s34.2.2.1 ∧ OwnS k_T_api_Span L163 A274 c424 s34.2.2.2) J108 (fun a hE => ⟨_, _, L88, _, _, L89, none, 0, [], hE.keep (Keep.cons rfl (Keep.cons rfl (Keep.cons rfl (Keep.cons rfl (Keep.cons rfl (Keep.cons rfl (Keep.nil))))))), HF586, ho88, ho89, OwnS.nil⟩) ?_ ?_
 ·rintro s34 a w438 y41 ⟨A272, c422, L161, A273, c423, L162, A274, c424, L163, hE, HF911, ho161, ho162, ho163⟩ H Hx7
  refine go_ hE ?_
  refine cSeq (fun K167 hK167 => ?_)
  refine cRgn [] trivial ?_
  refine sL (bLss rfl rfl) rfl ?_
  refine lE ?_
  refine kN (?_)
  refine hK167 _ _ ?_
  refine cSeq (fun K168 hK168 => ?_)
  by_cases c425 : s34.1 < (t6.length : Int)
  ·replace H := itT c425 H
   refine cSet (i := 131) rfl (dT c425) ?_
   refine cT rfl ?_
   refine cSkip ?_
   refine kN (?_)
   refine hK168 _ _ ?_
   refine cSeq (fun K169 hK169 => ?_)
   refine cBlock ?_
   refine cSeq (fun K170 hK170 => ?_)
   refine cRgn [] trivial ?_
   replace H := chk H; obtain ⟨c426, H⟩ := H
   obtain ⟨g85, o21, e87, rfl, hk36, q81⟩ := RdS.at_ hr5.rd c426 c425
   obtain ⟨A275, c427, A276, c428, A277, c429, rfl, hr118, hr119, hr120⟩ := rd_T_api_Lsa hk36
   refine sL (ia rfl rfl Try.underlying24 ti44 c426 c425) rfl ?_
   refine sL (ldA rfl ti44 rfl rfl (fun j v hj => HF911.cells ((sub_a (sub_a (sub_a (sub_a (sub_a (sub_c (sub_c sub_h)))))))) (q81 j v hj))) rfl ?_
   refine eW (oAlloc HF911 ti44) rfl ?_
   rintro _ w439 ⟨g86, rfl, HF912⟩
   refine eS (oSt (l1 := [.int .i64 ((rd t6 s34.1).f_Head.f_Age), .int .i64 ((rd t6 s34.1).f_Head.f_Kind), .int .i64 ((rd t6 s34.1).f_Head.f_Id), .int .i64 ((rd t6 s34.1).f_Head.f_Adv), .int .i64 ((rd t6 s34.1).f_Head.f_Seq), .int .i64 ((rd t6 s34.1).f_Head.f_Sum), .int .i64 ((rd t6 s34.1).f_Head.f_Len), .int .i64 ((rd t6 s34.1).f_Flags), .slice A275 ((rd t6 s34.1).f_Links).length c427, .int .i64 ((rd t6 s34.1).f_Bits), .slice A276 ((rd t6 s34.1).f_Routers).length c428, .slice A277 ((rd t6 s34.1).f_Verts).length c429]) HF912 rfl rfl ti44 rfl (ones rfl) (Nat.le_of_ble_eq_true rfl) rfl) ?_
   rintro w440 HF913
   refine lE ?_
   refine kN (?_)
   refine hK170 _ _ ?_
   refine cSeq (fun K171 hK171 => ?_)
   refine cRgn [] trivial ?_
   refine sL (fa44_0 rfl) rfl ?_
   refine sL (fa41_2 rfl) rfl ?_
   refine sL (ld rfl Try.underlying3 rfl (HF913.box (mem_h) rfl)) rfl ?_
   refine sL (bd (r := [.int .i64 2, .int .i64 ((rd t6 s34.1).f_Head.f_Id)]) pl35 ti35 rfl rfl) rfl ?_
   refine eW (oAlloc HF913 ti35) rfl ?_
   rintro _ w441 ⟨g87, rfl, HF914⟩
   refine eS (oSt (l1 := [.int .i64 2, .int .i64 ((rd t6 s34.1).f_Head.f_Id)]) HF914 rfl rfl ti35 rfl (ones rfl) (Nat.le_of_ble_eq_true rfl) rfl) ?_
   rintro w442 HF915
   refine lE ?_
   refine kN (?_)
   refine hK171 _ _ ?_
   refine cSeq (fun K172 hK172 => ?_)
   refine cRgn [] trivial ?_
   refine sL (fa32_0 rfl) rfl ?_
   refine sL (ld rfl Try.underlying26 rfl (HF915.box (mem_c (mem_c (mem_a (mem_a (mem_a (mem_a (mem_a mem_h))))))) rfl)) rfl ?_
   refine sL (ldA (cs := [.int .i64 2, .int .i64 ((rd t6 s34.1).f_Head.f_Id)]) rfl ti35 rfl rfl (HF915.boxes (o := 0) (n := 2) (mem_h) rfl)) rfl ?_
   refine eW (oLit (r := [.int .i64 2, .int .i64 ((rd t6 s34.1).f_Head.f_Id)]) k_T_api_Vert [(⟨2, (rd t6 s34.1).f_Head.f_Id⟩ : T_api_Vert)] HF915 Try.underlying26 ti35 rfl rfl rfl rfl ⟨[], [], [.int .i64 2, .int .i64 ((rd t6 s34.1).f_Head.f_Id)], _, rfl, rfl, ⟨rfl, rfl⟩, ⟨rfl, rfl⟩⟩ rfl rfl) rfl ?_
   rintro _ w443 ⟨L164, A278, c430, rfl, HF916, ho164⟩
   replace H := chk H; obtain ⟨c431, H⟩ := H
   have HF917 := HF916.perm (perm_f (perm_c (perm_c pR)))
   refine eW (oApp (xs := s34.2.1) (ys := ([(⟨2, (rd t6 s34.1).f_Head.f_Id⟩ : T_api_Vert)])) k_T_api_Vert HF917 rfl rfl Try.underlying26 Try.underlying26 ti35 rfl ho161 (srcR shrF ho164.rd HF917 (sub_a sub_h)) c431 rfl) rfl ?_
   rintro _ w444 ⟨L165, A279, c432, rfl, HF918, ho165⟩
   refine sL (fa32_0 rfl) rfl ?_
   have HF919 := HF918.perm (perm_f1 (perm_f1 (perm_c1 (perm_c1 (perm_f1 (perm_f1 (perm_f1 (perm_f1 pR))))))))
   refine eS (oSt1 (l1 := [.slice A279 (s34.2.1 ++ [(⟨2, (rd t6 s34.1).f_Head.f_Id⟩ : T_api_Vert)]).length c432, .slice A273 s34.2.2.1.length c423, .slice A96 s17.2.2.2.1.length c166, .slice A274 s34.2.2.2.length c424, .slice A97 s17.2.2.2.2.length c167]) HF919 rfl rfl ti26 rfl rfl rfl) ?_
   rintro w445 HF920
   refine lE ?_
   refine kN (?_)
   refine hK172 _ _ ?_
   refine cSeq (fun K173 hK173 => ?_)
   refine cDraw mo_ HF920 rfl (fun w => Fits z w (L165 ++ (L164 ++ (bk g87 35 [.int .i64 2, .int .i64 ((rd t6 s34.1).f_Head.f_Id)] :: (bk g86 44 [.int .i64 ((rd t6 s34.1).f_Head.f_Age), .int .i64 ((rd t6 s34.1).f_Head.f_Kind), .int .i64 ((rd t6 s34.1).f_Head.f_Id), .int .i64 ((rd t6 s34.1).f_Head.f_Adv), .int .i64 ((rd t6 s34.1).f_Head.f_Seq), .int .i64 ((rd t6 s34.1).f_Head.f_Sum), .int .i64 ((rd t6 s34.1).f_Head.f_Len), .int .i64 ((rd t6 s34.1).f_Flags), .slice A275 ((rd t6 s34.1).f_Links).length c427, .int .i64 ((rd t6 s34.1).f_Bits), .slice A276 ((rd t6 s34.1).f_Routers).length c428, .slice A277 ((rd t6 s34.1).f_Verts).length c429] :: (L162 ++ (L90 ++ (L91 ++ (bk g2 61 [.slice A3 t3.length c3, .slice (some ⟨g85, o21, none⟩) t6.length c6, mapV A4, mapV A7] :: (L6 ++ (L7 ++ (L3 ++ (L4 ++ (bk g1 32 [.slice none 0 0, .slice none 0 0, .slice none 0 0, .slice none 0 0, .slice none 0 0] :: (N9 ++ F))))))))))))))) (fun w450 HF928 => ?_)
   have HF929 := HF928.sublist (sl_dc (sl_a (sl_a (sl_c (sl_c (sl_a (sl_da (sl_a (sl_a (sl_c (sl_a (sl_a (sl_a (sl_a (sl_c sR)))))))))))))))
   refine hT 0 rfl (by kernel_rfl) (fun w_ hS_ => fa32_3 rfl) HF929 rfl rfl ?_
   refine hT 2 rfl (by kernel_rfl) (fun w_ hS_ => ldA (cs := [.int .i64 2, .int .i64 ((rd t6 s34.1).f_Head.f_Id)]) rfl ti35 rfl rfl (hS_.boxes (o := 0) (n := 2) (mem_a (mem_a mem_h)) rfl)) HF929 rfl rfl ?_
   refine hT 3 rfl (by kernel_rfl) (fun w_ hS_ => fa44_0 rfl) HF929 rfl rfl ?_
   refine hT 4 rfl (by kernel_rfl) (fun w_ hS_ => fa41_2 rfl) HF929 rfl rfl ?_
   refine hT 5 rfl (by kernel_rfl) (fun w_ hS_ => ld rfl Try.underlying3 rfl (hS_.box (mem_a (mem_a (mem_c mem_h))) rfl)) HF929 rfl rfl ?_
   refine hT 6 rfl (by kernel_rfl) (fun w_ hS_ => fa44_3 rfl) HF929 rfl rfl ?_
   refine hT 7 rfl (by kernel_rfl) (fun w_ hS_ => ld rfl Try.underlying3 rfl (hS_.box (mem_a (mem_a (mem_c mem_h))) rfl)) HF929 rfl rfl ?_
   refine hT 9 rfl (by kernel_rfl) (fun w_ hS_ => fa44_3 rfl) HF929 rfl rfl ?_
   refine hT 10 rfl (by kernel_rfl) (fun w_ hS_ => ld rfl Try.underlying3 rfl (hS_.box (mem_a (mem_a (mem_c mem_h))) rfl)) HF929 rfl rfl ?_
   refine h2 1 8 (by kernel_rfl) rfl rfl ?_ ?_
   ·refine qL rfl gd0 (ld rfl Try.underlying29 rfl (HF928.box (mem_h) rfl)) rfl HF929 ?_
    refine h1 8 (by kernel_rfl) rfl ?_
    replace H := bnd H; obtain ⟨t124, J88, H⟩ := H
    refine qCall rfl gd0 isf25 rfl rfl rfl (f_addr_Net.ok J88 HF928) ?_
    rintro _ w451 ⟨rfl, HF930⟩
    have HF931 := HF930.sublist (sl_dc (sl_a (sl_a (sl_c (sl_c (sl_a (sl_da (sl_a (sl_a (sl_c (sl_a (sl_a (sl_a (sl_a (sl_c sR)))))))))))))))
    refine ⟨_, rfl, HF931, ?_⟩
    refine hT 11 rfl (by kernel_rfl) (fun w_ hS_ => bd (r := [.int .i64 2, .int .i64 ((rd t6 s34.1).f_Head.f_Id), .int .i64 t124, .int .i64 ((rd t6 s34.1).f_Bits)]) pl74 ti74 rfl rfl) HF931 rfl rfl ?_
    refine h1 12 (by kernel_rfl) rfl ?_
    refine qW rfl gd0 (oLit (r := [.int .i64 2, .int .i64 ((rd t6 s34.1).f_Head.f_Id), .int .i64 t124, .int .i64 ((rd t6 s34.1).f_Bits)]) k_T_api_Span [(⟨(⟨2, (rd t6 s34.1).f_Head.f_Id⟩ : T_api_Vert), t124, (rd t6 s34.1).f_Bits⟩ : T_api_Span)] HF930 Try.underlying29 ti74 rfl rfl rfl rfl ⟨[], [], [.int .i64 2, .int .i64 ((rd t6 s34.1).f_Head.f_Id), .int .i64 t124, .int .i64 ((rd t6 s34.1).f_Bits)], _, rfl, rfl, ⟨rfl, rfl⟩, ⟨rfl, rfl⟩⟩ rfl rfl) rfl ?_
    rintro _ w452 ⟨L168, A282, c436, rfl, HF932, ho168⟩
    have HF933 := HF932.sublist (sl_da (sl_dc (sl_a (sl_a (sl_c (sl_c (sl_a (sl_da (sl_a (sl_a (sl_c (sl_a (sl_a (sl_a (sl_a (sl_c sR))))))))))))))))
    refine ⟨HF933, ?_⟩
    refine h1 13 (by kernel_rfl) rfl ?_
    replace H := chk H; obtain ⟨c437, H⟩ := H
    have HF934 := HF932.perm (perm_f (perm_c (perm_f (perm_f (perm_c (perm_c (perm_f pR)))))))
    refine qW rfl gd0 (oApp (xs := s34.2.2.2) (ys := ([(⟨(⟨2, (rd t6 s34.1).f_Head.f_Id⟩ : T_api_Vert), t124, (rd t6 s34.1).f_Bits⟩ : T_api_Span)])) k_T_api_Span HF934 rfl rfl Try.underlying29 Try.underlying29 ti74 rfl ho163 (srcR shrF ho168.rd HF934 (sub_a sub_h)) c437 rfl) rfl ?_
    rintro _ w453 ⟨L169, A283, c438, rfl, HF935, ho169⟩
    have HF936 := HF935.sublist (sl_da (sl_da (sl_dc (sl_a (sl_a (sl_c (sl_c (sl_a (sl_a (sl_a (sl_c (sl_a (sl_a (sl_a (sl_a (sl_c sR))))))))))))))))
    refine ⟨HF936, ?_⟩
    refine hT 14 rfl (by kernel_rfl) (fun w_ hS_ => fa32_3 rfl) HF936 rfl rfl ?_
    refine h1 15 (by kernel_rfl) rfl ?_
    have HF937 := HF935.perm (perm_f1 (perm_f1 pR))
    refine qS rfl gd0 (oSt1 (l1 := [.slice A279 (s34.2.1 ++ [(⟨2, (rd t6 s34.1).f_Head.f_Id⟩ : T_api_Vert)]).length c432, .slice A273 s34.2.2.1.length c423, .slice A96 s17.2.2.2.1.length c166, .slice A283 (s34.2.2.2 ++ [(⟨(⟨2, (rd t6 s34.1).f_Head.f_Id⟩ : T_api_Vert), t124, (rd t6 s34.1).f_Bits⟩ : T_api_Span)]).length c438, .slice A97 s17.2.2.2.2.length c167]) HF937 rfl rfl ti29 rfl rfl rfl) ?_
    rintro w454 HF938
    have HF939 := HF938.sublist (sl_dc (sl_da (sl_da (sl_a (sl_a (sl_c (sl_c (sl_a (sl_a (sl_a (sl_c (sl_a (sl_a (sl_a (sl_a (sl_c sR))))))))))))))))
    refine ⟨HF939, ?_⟩
    refine hEnd (by kernel_rfl) ?_
    refine kN (?_)
    refine hK173 _ _ ?_
    refine cSeq (fun K174 hK174 => ?_)
    refine cRgn [] trivial ?_
    refine sL (fa44_4 rfl) rfl ?_
    refine sL (ld rfl Try.underlying30 rfl (HF938.box (mem_c (mem_a (mem_a (mem_a (mem_a (mem_c mem_h)))))) rfl)) rfl ?_
    refine sL (lnS rfl Try.underlying30) rfl ?_
    refine sL (mv rfl) rfl ?_
    refine lE ?_
    refine kN (?_)
    refine hK174 _ _ ?_
    replace H := bnd H; obtain ⟨y44, J107, Ho37⟩ := H
    have HF1075 := HF938.sublist (sl_c (sl_a (sl_da (sl_a (sl_da (sl_c (sl_c (sl_a (sl_a (sl_a (sl_c (sl_a (sl_a (sl_a (sl_a (sl_c sR))))))))))))))))
    have HF1076 := HF1075.perm (perm_c1 (perm_f1 (perm_f1 (perm_c1 (perm_c1 (perm_f1 (perm_f1 (perm_f1 (perm_c1 (perm_f1 (perm_f1 (perm_f1 (perm_f1 pR)))))))))))))
    have HF1077 := HF1076.perm (perm_c (perm_c (perm_f (perm_f (perm_c (perm_c (perm_f (perm_f (perm_f (perm_c (perm_f (perm_f (perm_f pR)))))))))))))
    have HF1078 := HF1077.perm (perm_f (perm_c (perm_c (perm_f (perm_f (perm_c (perm_c (perm_f (perm_f (perm_f (perm_c (perm_f (perm_f pR)))))))))))))
    have HF1079 := HF1078.perm (perm_f (perm_f (perm_c (perm_c (perm_f (perm_f (perm_c (perm_c (perm_f (perm_f (perm_f (perm_c (perm_f pR)))))))))))))
    have HF1080 := HF1079.perm (perm_f (perm_f (perm_f (perm_c (perm_c (perm_f (perm_f (perm_c (perm_c (perm_f (perm_f (perm_f (perm_c pR)))))))))))))
    have HF1081 := HF1080.perm (perm_f1 (perm_f1 (perm_f1 (perm_f1 (perm_c1 (perm_c1 (perm_f1 (perm_f1 (perm_c1 (perm_c1 (perm_f1 (perm_f1 (perm_f1 pR)))))))))))))
    have HF1082 := HF1081.perm (perm_c (perm_f (perm_f (perm_f (perm_f (perm_c (perm_c (perm_f (perm_f (perm_c (perm_c (perm_f (perm_f pR)))))))))))))
    have HF1083 := HF1082.perm (perm_f (perm_c (perm_f (perm_f (perm_f (perm_f (perm_c (perm_c (perm_f (perm_f (perm_c (perm_c (perm_f pR)))))))))))))
    have HF1084 := HF1083.perm (perm_f1 (perm_f1 (perm_c1 (perm_f1 (perm_f1 (perm_f1 (perm_f1 (perm_c1 (perm_c1 (perm_f1 (perm_f1 (perm_c1 pR))))))))))))
    have HF1085 := HF1084.perm (perm_c1 (perm_f1 (perm_f1 (perm_c1 (perm_f1 (perm_f1 (perm_f1 (perm_f1 (perm_c1 (perm_c1 (perm_f1 (perm_f1 pR))))))))))))
    have HF1086 := HF1085.perm (perm_c (perm_c (perm_f (perm_f (perm_c (perm_f (perm_f (perm_f (perm_f (perm_c (perm_c (perm_f pR))))))))))))
    have HF1087 := HF1086.perm (perm_f (perm_c (perm_c (perm_f (perm_f (perm_c (perm_f (perm_f (perm_f (perm_f (perm_c (perm_c pR))))))))))))
    have HF1088 := HF1087.perm (perm_f1 (perm_f1 (perm_c1 (perm_c1 (perm_f1 (perm_f1 (perm_c1 (perm_f1 (perm_f1 (perm_f1 (perm_f1 (perm_c1 pR))))))))))))
    have HF1089 := HF1088.perm (perm_c (perm_f (perm_f (perm_c (perm_c (perm_f (perm_f (perm_c (perm_f (perm_f (perm_f (perm_f (perm_c pR)))))))))))))
    refine cLoopB (f_topo_Map.b2 t4 t6 s34) (fun (s37 : Int × (List T_api_Edge)) a w => ∃ (A321 : Option Addr) (c487 : Nat) (L175 : Hp), Env 204 [(2, .pointer (some ⟨g1, 0, none⟩)), (3, .pointer (some ⟨g2, 0, none⟩)), (4, .pointer (some ⟨g3, 0, none⟩)), (13, .pointer (some ⟨g86, 0, none⟩)), (14, .pointer (some ⟨g87, 0, none⟩)), (128, .slice (some ⟨g85, o21, none⟩) t6.length c6), (129, .int .i64 (t6.length : Int)), (130, .int .i64 s34.1), (160, .slice A276 ((rd t6 s34.1).f_Routers).length c428), (161, .int .i64 (((rd t6 s34.1).f_Routers).length : Int)), (162, .int .i64 s37.1)] a ∧ Fits z w (L175 ++ (bk g3 32 [.slice A279 (s34.2.1 ++ [(⟨2, (rd t6 s34.1).f_Head.f_Id⟩ : T_api_Vert)]).length c432, .slice A321 s37.2.length c487, .slice A96 s17.2.2.2.1.length c166, .slice A283 (s34.2.2.2 ++ [(⟨(⟨2, (rd t6 s34.1).f_Head.f_Id⟩ : T_api_Vert), t124, (rd t6 s34.1).f_Bits⟩ : T_api_Span)]).length c438, .slice A97 s17.2.2.2.2.length c167] :: (L169 ++ (L165 ++ (bk g87 35 [.int .i64 2, .int .i64 ((rd t6 s34.1).f_Head.f_Id)] :: (bk g86 44 [.int .i64 ((rd t6 s34.1).f_Head.f_Age), .int .i64 ((rd t6 s34.1).f_Head.f_Kind), .int .i64 ((rd t6 s34.1).f_Head.f_Id), .int .i64 ((rd t6 s34.1).f_Head.f_Adv), .int .i64 ((rd t6 s34.1).f_Head.f_Seq), .int .i64 ((rd t6 s34.1).f_Head.f_Sum), .int .i64 ((rd t6 s34.1).f_Head.f_Len), .int .i64 ((rd t6 s34.1).f_Flags), .slice A275 ((rd t6 s34.1).f_Links).length c427, .int .i64 ((rd t6 s34.1).f_Bits), .slice A276 ((rd t6 s34.1).f_Routers).length c428, .slice A277 ((rd t6 s34.1).f_Verts).length c429] :: (L90 ++ (L91 ++ (bk g2 61 [.slice A3 t3.length c3, .slice (some ⟨g85, o21, none⟩) t6.length c6, mapV A4, mapV A7] :: (L6 ++ (L7 ++ (L3 ++ (L4 ++ (bk g1 32 [.slice none 0 0, .slice none 0 0, .slice none 0 0, .slice none 0 0, .slice none 0 0] :: (N9 ++ F))))))))))))))) ∧ OwnS k_T_api_Edge L175 A321 c487 s37.2) J107 (fun a hE => ⟨_, _, L162, hE.keep (Keep.cons rfl (Keep.cons rfl (Keep.cons rfl (Keep.cons rfl (Keep.cons rfl (Keep.cons rfl (Keep.cons rfl (Keep.cons rfl (Keep.cons rfl (Keep.cons rfl (Keep.cons rfl (Keep.nil)))))))))))), HF1089, ho162⟩) ?_ ?_
    ·rintro s37 a w501 y45 ⟨A321, c487, L175, hE, HF1018, ho175⟩ H Hx8
     refine go_ hE ?_
     refine cSeq (fun K187 hK187 => ?_)
     refine cRgn [] trivial ?_
     refine sL (bLss rfl rfl) rfl ?_
     refine lE ?_
     refine kN (?_)
     refine hK187 _ _ ?_
     refine cSeq (fun K188 hK188 => ?_)
     by_cases c488 : s37.1 < (((rd t6 s34.1).f_Routers).length : Int)
     ·replace H := itT c488 H
      refine cSet (i := 163) rfl (dT c488) ?_
      refine cT rfl ?_
      refine cSkip ?_
      refine kN (?_)
      refine hK188 _ _ ?_
      refine cSeq (fun K189 hK189 => ?_)
      refine cBlock ?_
      refine cSeq (fun K190 hK190 => ?_)
      refine cRgn [] trivial ?_
      refine sL (mv rfl) rfl ?_
      replace H := chk H; obtain ⟨c489, H⟩ := H
      obtain ⟨g102, o24, _, rfl, rfl, q104⟩ := RdS.at_ hr119 c489 c488
      refine sL (ia rfl rfl Try.underlying30 ti3 c489 c488) rfl ?_
      refine sL (ld rfl Try.underlying3 rfl (HF1018.cells ((sub_a (sub_c (sub_a (sub_a (sub_c (sub_c (sub_a (sub_a (sub_c (sub_a (sub_a (sub_a (sub_a (sub_c (sub_n hG)))))))))))))))) (q104 0 _ rfl))) rfl ?_
      refine sL (asg rfl) rfl ?_
      refine sL (asg rfl) rfl ?_
      refine lE ?_
      refine kN (?_)
      refine hK190 _ _ ?_
      refine cSeq (fun K191 hK191 => ?_)
      replace H := bnd H; obtain ⟨y46, H, Ho38⟩ := H
      refine cJoin (y := y46) (fun (s38 : Bool × Int × Int × Int × Int) a w => ∃ (g106 : Nat), Env 204 [(2, .pointer (some ⟨g1, 0, none⟩)), (3, .pointer (some ⟨g2, 0, none⟩)), (4, .pointer (some ⟨g3, 0, none⟩)), (13, .pointer (some ⟨g86, 0, none⟩)), (14, .pointer (some ⟨g87, 0, none⟩)), (15, .int .i64 s37.1), (16, .int .i64 (rd ((rd t6 s34.1).f_Routers) s37.1)), (17, .pointer (some ⟨g106, 0, none⟩)), (18, .bool s38.1), (128, .slice (some ⟨g85, o21, none⟩) t6.length c6), (129, .int .i64 (t6.length : Int)), (130, .int .i64 s34.1), (160, .slice (some ⟨g102, o24, none⟩) ((rd t6 s34.1).f_Routers).length c428), (161, .int .i64 (((rd t6 s34.1).f_Routers).length : Int)), (162, .int .i64 s37.1)] a ∧ Fits z w (bk g106 56 [.int .i64 s38.2.1, .int .i64 s38.2.2.1, .int .i64 s38.2.2.2.1, .int .i64 s38.2.2.2.2] :: (L175 ++ (bk g3 32 [.slice A279 (s34.2.1 ++ [(⟨2, (rd t6 s34.1).f_Head.f_Id⟩ : T_api_Vert)]).length c432, .slice A321 s37.2.length c487, .slice A96 s17.2.2.2.1.length c166, .slice A283 (s34.2.2.2 ++ [(⟨(⟨2, (rd t6 s34.1).f_Head.f_Id⟩ : T_api_Vert), t124, (rd t6 s34.1).f_Bits⟩ : T_api_Span)]).length c438, .slice A97 s17.2.2.2.2.length c167] :: (L169 ++ (L165 ++ (bk g87 35 [.int .i64 2, .int .i64 ((rd t6 s34.1).f_Head.f_Id)] :: (bk g86 44 [.int .i64 ((rd t6 s34.1).f_Head.f_Age), .int .i64 ((rd t6 s34.1).f_Head.f_Kind), .int .i64 ((rd t6 s34.1).f_Head.f_Id), .int .i64 ((rd t6 s34.1).f_Head.f_Adv), .int .i64 ((rd t6 s34.1).f_Head.f_Seq), .int .i64 ((rd t6 s34.1).f_Head.f_Sum), .int .i64 ((rd t6 s34.1).f_Head.f_Len), .int .i64 ((rd t6 s34.1).f_Flags), .slice A275 ((rd t6 s34.1).f_Links).length c427, .int .i64 ((rd t6 s34.1).f_Bits), .slice (some ⟨g102, o24, none⟩) ((rd t6 s34.1).f_Routers).length c428, .slice A277 ((rd t6 s34.1).f_Verts).length c429] :: (L90 ++ (L91 ++ (bk g2 61 [.slice A3 t3.length c3, .slice (some ⟨g85, o21, none⟩) t6.length c6, mapV A4, mapV A7] :: (L6 ++ (L7 ++ (L3 ++ (L4 ++ (bk g1 32 [.slice none 0 0, .slice none 0 0, .slice none 0 0, .slice none 0 0, .slice none 0 0] :: (N9 ++ F))))))))))))))))) ?_ ?_
      ·refine cDraw mo_ HF1018 rfl (fun w => Fits z w (L175 ++ (bk g3 32 [.slice A279 (s34.2.1 ++ [(⟨2, (rd t6 s34.1).f_Head.f_Id⟩ : T_api_Vert)]).length c432, .slice A321 s37.2.length c487, .slice A96 s17.2.2.2.1.length c166, .slice A283 (s34.2.2.2 ++ [(⟨(⟨2, (rd t6 s34.1).f_Head.f_Id⟩ : T_api_Vert), t124, (rd t6 s34.1).f_Bits⟩ : T_api_Span)]).length c438, .slice A97 s17.2.2.2.2.length c167] :: (L169 ++ (L165 ++ (bk g87 35 [.int .i64 2, .int .i64 ((rd t6 s34.1).f_Head.f_Id)] :: (bk g86 44 [.int .i64 ((rd t6 s34.1).f_Head.f_Age), .int .i64 ((rd t6 s34.1).f_Head.f_Kind), .int .i64 ((rd t6 s34.1).f_Head.f_Id), .int .i64 ((rd t6 s34.1).f_Head.f_Adv), .int .i64 ((rd t6 s34.1).f_Head.f_Seq), .int .i64 ((rd t6 s34.1).f_Head.f_Sum), .int .i64 ((rd t6 s34.1).f_Head.f_Len), .int .i64 ((rd t6 s34.1).f_Flags), .slice A275 ((rd t6 s34.1).f_Links).length c427, .int .i64 ((rd t6 s34.1).f_Bits), .slice (some ⟨g102, o24, none⟩) ((rd t6 s34.1).f_Routers).length c428, .slice A277 ((rd t6 s34.1).f_Verts).length c429] :: (L90 ++ (L91 ++ (bk g2 61 [.slice A3 t3.length c3, .slice (some ⟨g85, o21, none⟩) t6.length c6, mapV A4, mapV A7] :: (L6 ++ (L7 ++ (L3 ++ (L4 ++ (bk g1 32 [.slice none 0 0, .slice none 0 0, .slice none 0 0, .slice none 0 0, .slice none 0 0] :: (N9 ++ F)))))))))))))))) (fun w515 HF1044 => ?_)
       refine hT 0 rfl (by kernel_rfl) (fun w_ hS_ => mv rfl) HF1044 rfl rfl ?_
       refine hT 1 rfl (by kernel_rfl) (fun w_ hS_ => nc rfl) HF1044 rfl rfl ?_
       refine hT 2 rfl (by kernel_rfl) (fun w_ hS_ => fa61_2 rfl) HF1044 rfl rfl ?_
       refine hT 3 rfl (by kernel_rfl) (fun w_ hS_ => ld rfl Try.underlying59 rfl (hS_.box (mem_a (mem_c (mem_a (mem_a (mem_c (mem_c (mem_a (mem_a mem_h)))))))) rfl)) HF1044 rfl rfl ?_
       refine hT 4 rfl (by kernel_rfl) (fun w_ hS_ => mv rfl) HF1044 rfl rfl ?_
       obtain ⟨e120, q113, q114, _, hk51⟩ := lookB (z := z) (⟨(⟨0, 0, 0, 0, 0, 0, 0⟩ : T_api_Head), 0, [], 0, [], []⟩ : T_api_Lsa) (rd ((rd t6 s34.1).f_Routers) s37.1) hr3 Try.underlying59 Try.underlying3 ti44 ⟨rfl, mk_T_api_Lsa (x := (⟨(⟨0, 0, 0, 0, 0, 0, 0⟩ : T_api_Head), 0, [], 0, [], []⟩ : T_api_Lsa)) RdS.nil RdS.nil RdS.nil⟩
       obtain ⟨A334, c502, A335, c503, A336, c504, rfl, hr165, hr166, hr167⟩ := rd_T_api_Lsa hk51
       refine hT 5 rfl (by kernel_rfl) (fun w_ hS_ => lookR (q114 hS_ (sub_a (sub_c (sub_a (sub_a (sub_c (sub_c (sub_a (sub_a (sub_c (sub_a (sub_a (sub_a sub_h))))))))))))) rfl rfl) HF1044 rfl rfl ?_
       refine hT 6 rfl (by kernel_rfl) (fun w_ hS_ => fa44_0 rfl) HF1044 rfl rfl ?_
       refine hT 7 rfl (by kernel_rfl) (fun w_ hS_ => fa41_2 rfl) HF1044 rfl rfl ?_
       refine hT 8 rfl (by kernel_rfl) (fun w_ hS_ => ld rfl Try.underlying3 rfl (hS_.box (mem_a (mem_c (mem_a (mem_a (mem_c mem_h))))) rfl)) HF1044 rfl rfl ?_
       refine h2 9 13 (by kernel_rfl) rfl rfl ?_ ?_
       ·replace H := bnd H; obtain ⟨⟨t155, t156⟩, J105, H⟩ := H
        refine qCall rfl gd0 isf26 rfl rfl rfl (f_topo_back.ok (a0 := (mGetD (⟨(⟨0, 0, 0, 0, 0, 0, 0⟩ : T_api_Head), 0, [], 0, [], []⟩ : T_api_Lsa) t4 (rd ((rd t6 s34.1).f_Routers) s37.1))) (sub_a (sub_c (sub_a (sub_a (sub_c (sub_c (sub_a (sub_a (sub_c (sub_a (sub_a (sub_a (sub_a (sub_c (sub_n hG))))))))))))))) J105 HF1044 (sub_a (sub_c (sub_a (sub_a (sub_c (sub_c (sub_a (sub_a (sub_c (sub_a (sub_a (sub_a (sub_a (sub_c (sub_t (sub_t hs4 hs5) (sub_n hG)))))))))))))))) hr165 (sub_a (sub_c (sub_a (sub_a (sub_c (sub_c (sub_a (sub_a (sub_c (sub_a (sub_a (sub_a (sub_a (sub_c (sub_t (sub_t hs4 hs5) (sub_n hG)))))))))))))))) hr166 (sub_a (sub_c (sub_a (sub_a (sub_c (sub_c (sub_a (sub_a (sub_c (sub_a (sub_a (sub_a (sub_a (sub_c (sub_t (sub_t hs4 hs5) (sub_n hG)))))))))))))))) hr167) ?_
        rintro _ w516 ⟨rfl, HF1045⟩
        refine ⟨_, rfl, HF1045, ?_⟩
        refine hT 10 rfl (by kernel_rfl) (fun w_ hS_ => mv rfl) HF1045 rfl rfl ?_
        refine hT 11 rfl (by kernel_rfl) (fun w_ hS_ => ex rfl rfl) HF1045 rfl rfl ?_
        refine hT 12 rfl (by kernel_rfl) (fun w_ hS_ => ex rfl rfl) HF1045 rfl rfl ?_
        refine h1 13 (by kernel_rfl) rfl ?_
        refine qW rfl gd0 (oAlloc HF1045 ti56) rfl ?_
        rintro _ w517 ⟨g108, rfl, HF1046⟩
        have HF1047 := HF1046.sublist (sl_dc (sl_a (sl_c (sl_a (sl_a (sl_c (sl_c (sl_a (sl_a (sl_c (sl_a (sl_a (sl_a (sl_a (sl_c sR)))))))))))))))
        refine ⟨HF1047, ?_⟩
        refine h1 14 (by kernel_rfl) rfl ?_
        refine qS rfl gd0 (oSt (l1 := [.int .i64 t155.f_Kind, .int .i64 t155.f_Id, .int .i64 t155.f_Data, .int .i64 t155.f_Cost]) HF1046 rfl rfl ti56 rfl (ones rfl) (Nat.le_of_ble_eq_true rfl) rfl) ?_
        rintro w518 HF1048
        have HF1049 := HF1048.sublist (sl_dc (sl_a (sl_c (sl_a (sl_a (sl_c (sl_c (sl_a (sl_a (sl_c (sl_a (sl_a (sl_a (sl_a (sl_c sR)))))))))))))))
        refine ⟨HF1049, ?_⟩
        refine hT 15 rfl (by kernel_rfl) (fun w_ hS_ => asg rfl) HF1049 rfl rfl ?_
        refine hEnd (by kernel_rfl) ?_
        refine kN (?_)
        exact ofEnv (fun a hE => ⟨_, (Option.some.inj H).symm, ⟨g108, hE.keep (Keep.cons rfl (Keep.cons rfl (Keep.cons rfl (Keep.cons rfl (Keep.cons rfl (Keep.cons rfl (Keep.cons rfl (Keep.cons rfl (Keep.cons rfl (Keep.cons rfl (Keep.cons rfl (Keep.cons rfl (Keep.cons rfl (Keep.cons rfl (Keep.cons rfl (Keep.nil)))))))))))))))), HF1048⟩⟩)
       refine qW rfl gd0 (oAlloc HF1044 ti56) rfl ?_
       rintro _ w516 ⟨g108, rfl, HF1045⟩
       have HF1046 := HF1045.sublist (sl_dc (sl_a (sl_c (sl_a (sl_a (sl_c (sl_c (sl_a (sl_a (sl_c (sl_a (sl_a (sl_a (sl_a (sl_c sR)))))))))))))))
       refine ⟨HF1046, ?_⟩
       refine h1 9 (by kernel_rfl) rfl ?_
       replace H := bnd H; obtain ⟨⟨t155, t156⟩, J105, H⟩ := H
       refine qCall rfl gd0 isf26 rfl rfl rfl (f_topo_back.ok (a0 := (mGetD (⟨(⟨0, 0, 0, 0, 0, 0, 0⟩ : T_api_Head), 0, [], 0, [], []⟩ : T_api_Lsa) t4 (rd ((rd t6 s34.1).f_Routers) s37.1))) (sub_c (sub_a (sub_c (sub_a (sub_a (sub_c (sub_c (sub_a (sub_a (sub_c (sub_a (sub_a (sub_a (sub_a (sub_c (sub_n hG)))))))))))))))) J105 HF1045 (sub_c (sub_a (sub_c (sub_a (sub_a (sub_c (sub_c (sub_a (sub_a (sub_c (sub_a (sub_a (sub_a (sub_a (sub_c (sub_t (sub_t hs4 hs5) (sub_n hG))))))))))))))))) hr165 (sub_c (sub_a (sub_c (sub_a (sub_a (sub_c (sub_c (sub_a (sub_a (sub_c (sub_a (sub_a (sub_a (sub_a (sub_c (sub_t (sub_t hs4 hs5) (sub_n hG))))))))))))))))) hr166 (sub_c (sub_a (sub_c (sub_a (sub_a (sub_c (sub_c (sub_a (sub_a (sub_c (sub_a (sub_a (sub_a (sub_a (sub_c (sub_t (sub_t hs4 hs5) (sub_n hG))))))))))))))))) hr167) ?_
       rintro _ w517 ⟨rfl, HF1047⟩
       have HF1048 := HF1047.sublist (sl_dc (sl_a (sl_c (sl_a (sl_a (sl_c (sl_c (sl_a (sl_a (sl_c (sl_a (sl_a (sl_a (sl_a (sl_c sR)))))))))))))))
       refine ⟨_, rfl, HF1048, ?_⟩
       refine hT 10 rfl (by kernel_rfl) (fun w_ hS_ => mv rfl) HF1048 rfl rfl ?_
       refine hT 11 rfl (by kernel_rfl) (fun w_ hS_ => ex rfl rfl) HF1048 rfl rfl ?_
       refine hT 12 rfl (by kernel_rfl) (fun w_ hS_ => ex rfl rfl) HF1048 rfl rfl ?_
       refine h1 14 (by kernel_rfl) rfl ?_
       refine qS rfl gd0 (oSt (l1 := [.int .i64 t155.f_Kind, .int .i64 t155.f_Id, .int .i64 t155.f_Data, .int .i64 t155.f_Cost]) HF1047 rfl rfl ti56 rfl (ones rfl) (Nat.le_of_ble_eq_true rfl) rfl) ?_
       rintro w518 HF1049
       have HF1050 := HF1049.sublist (sl_dc (sl_a (sl_c (sl_a (sl_a (sl_c (sl_c (sl_a (sl_a (sl_c (sl_a (sl_a (sl_a (sl_a (sl_c sR)))))))))))))))
       refine ⟨HF1050, ?_⟩
       refine hT 15 rfl (by kernel_rfl) (fun w_ hS_ => asg rfl) HF1050 rfl rfl ?_
       refine hEnd (by kernel_rfl) ?_
       refine kN (?_)
       exact ofEnv (fun a hE => ⟨_, (Option.some.inj H).symm, ⟨g108, hE.keep (Keep.cons rfl (Keep.cons rfl (Keep.cons rfl (Keep.cons rfl (Keep.cons rfl (Keep.cons rfl (Keep.cons rfl (Keep.cons rfl (Keep.cons rfl (Keep.cons rfl (Keep.cons rfl (Keep.cons rfl (Keep.cons rfl (Keep.cons rfl (Keep.cons rfl (Keep.nil)))))))))))))))), HF1049⟩⟩)
      rintro s38 a w519 rfl ⟨g106, hE, HF1051⟩
      replace H := Ho38
      refine go_k hE ?_
      refine kN (?_)
      refine hK191 _ _ ?_
      refine cSeq (fun K192 hK192 => ?_)
      refine cRgn [(1, 181)] ⟨rfl, trivial⟩ ?_
      refine sL (mv rfl) rfl ?_
      refine sL (mv rfl) rfl ?_
      by_cases c505 : s38.1 = true
      ·replace H := itT c505 H
       refine lSet (i := 181) rfl (vT c505) ?_
       refine sG rfl rfl (fa44_4 rfl) rfl ?_
       refine sG rfl rfl (ld rfl Try.underlying30 rfl (HF1051.box (mem_c (mem_a (mem_c (mem_a (mem_a (mem_c mem_h)))))) rfl)) rfl ?_
       refine sG rfl rfl (mv rfl) rfl ?_
       replace H := chk H; obtain ⟨c506, H⟩ := H
       refine eWG rfl rfl (oCutN (K := (kInt .i64)) (xs := ((rd t6 s34.1).f_Routers)) hr119 rfl Try.underlying30 ti3 rfl rfl (by decide) c489 c506) rfl ?_
       rintro _ _ ⟨A337, c507, rfl, rfl, hr168⟩
       refine sG rfl rfl (mv rfl) rfl ?_
       replace H := bnd H; obtain ⟨t157, J106, H⟩ := H
       refine eCallG rfl rfl isf27 rfl rfl rfl (f_slices_Contains_int_int.ok (a0 := (cutL ((rd t6 s34.1).f_Routers) 0 s37.1)) (sub_c (sub_a (sub_c (sub_a (sub_a (sub_c (sub_c (sub_a (sub_a (sub_c (sub_a (sub_a (sub_a (sub_a (sub_c (sub_n hG)))))))))))))))) J106 HF1051 (sub_c (sub_a (sub_c (sub_a (sub_a (sub_c (sub_c (sub_a (sub_a (sub_c (sub_a (sub_a (sub_a (sub_a (sub_c (sub_n hG)))))))))))))))) hr168) ?_
       rintro _ w521 ⟨rfl, HF1052⟩
       refine ⟨_, rfl, ?_⟩
       refine sG rfl rfl (uNot rfl) rfl ?_
       refine sL (pkT rfl rfl) rfl ?_
       refine lE ?_
       refine kN (?_)
       refine hK192 _ _ ?_
       by_cases c508 : t157 = true
       ·replace H := itT c508 H
        refine cSet (i := 189) rfl (wF c508) ?_
        refine cF rfl ?_
        refine cSkip ?_
        refine jN (kN (?_))
        refine hK189 _ _ ?_
        refine cRgn [] trivial ?_
        refine sL (bAdd rfl rfl) rfl ?_
        refine sL (mv rfl) rfl ?_
        refine lE ?_
        refine kN (?_)
        have HF1053 := HF1052.sublist (sl_dc (sl_a (sl_c (sl_a (sl_a (sl_c (sl_c (sl_a (sl_a (sl_c (sl_a (sl_a (sl_a (sl_a (sl_c sR)))))))))))))))
        exact ofEnv (fun a hE => ⟨_, (Option.some.inj H).symm, ⟨_, _, L175, hE.keep (Keep.cons rfl (Keep.cons rfl (Keep.cons rfl (Keep.cons rfl (Keep.cons rfl (Keep.cons rfl (Keep.cons rfl (Keep.cons rfl (Keep.cons rfl (Keep.cons rfl (Keep.cons rfl (Keep.nil)))))))))))), HF1053, ho175⟩⟩)
       replace H := itF c508 H
       refine cSet (i := 189) rfl (wT c508) ?_
       refine cT rfl ?_
       refine cRgn [] trivial ?_
       refine sL (fa32_1 rfl) rfl ?_
       refine sL (ld rfl Try.underlying27 rfl (HF1052.box (mem_c (mem_a mem_h)) rfl)) rfl ?_
       refine sL (ldA (cs := [.int .i64 2, .int .i64 ((rd t6 s34.1).f_Head.f_Id)]) rfl ti35 rfl rfl (HF1052.boxes (o := 0) (n := 2) (mem_c (mem_a (mem_c (mem_a (mem_a mem_h))))) rfl)) rfl ?_
       refine sL (mv rfl) rfl ?_
       refine sL (bd (r := [.int .i64 1, .int .i64 (rd ((rd t6 s34.1).f_Routers) s37.1)]) pl35 ti35 rfl rfl) rfl ?_
       refine sL (fa56_2 rfl) rfl ?_
       refine sL (ld rfl Try.underlying3 rfl (HF1052.box (mem_h) rfl)) rfl ?_
       refine sL (bd (r := [.int .i64 2, .int .i64 ((rd t6 s34.1).f_Head.f_Id), .int .i64 1, .int .i64 (rd ((rd t6 s34.1).f_Routers) s37.1), .int .i64 0, .int .i64 s38.2.2.2.1]) pl37 ti37 rfl rfl) rfl ?_
       refine eW (oLit (r := [.int .i64 2, .int .i64 ((rd t6 s34.1).f_Head.f_Id), .int .i64 1, .int .i64 (rd ((rd t6 s34.1).f_Routers) s37.1), .int .i64 0, .int .i64 s38.2.2.2.1]) k_T_api_Edge [(⟨(⟨2, (rd t6 s34.1).f_Head.f_Id⟩ : T_api_Vert), (⟨1, (rd ((rd t6 s34.1).f_Routers) s37.1)⟩ : T_api_Vert), 0, s38.2.2.2.1⟩ : T_api_Edge)] HF1052 Try.underlying27 ti37 rfl rfl rfl rfl ⟨[], [], [.int .i64 2, .int .i64 ((rd t6 s34.1).f_Head.f_Id), .int .i64 1, .int .i64 (rd ((rd t6 s34.1).f_Routers) s37.1), .int .i64 0, .int .i64 s38.2.2.2.1], _, rfl, rfl, ⟨rfl, rfl⟩, ⟨rfl, rfl⟩⟩ rfl rfl) rfl ?_
       rintro _ w522 ⟨L176, A338, c509, rfl, HF1054, ho176⟩
       replace H := chk H; obtain ⟨c510, H⟩ := H
       have HF1055 := HF1054.perm (perm_f (perm_c pR))
       refine eW (oApp (xs := s37.2) (ys := ([(⟨(⟨2, (rd t6 s34.1).f_Head.f_Id⟩ : T_api_Vert), (⟨1, (rd ((rd t6 s34.1).f_Routers) s37.1)⟩ : T_api_Vert), 0, s38.2.2.2.1⟩ : T_api_Edge)])) k_T_api_Edge HF1055 rfl rfl Try.underlying27 Try.underlying27 ti37 rfl ho175 (srcR shrF ho176.rd HF1055 (sub_a sub_h)) c510 rfl) rfl ?_
       rintro _ w523 ⟨L177, A339, c511, rfl, HF1056, ho177⟩
       refine sL (fa32_1 rfl) rfl ?_
       have HF1057 := HF1056.perm (perm_f1 (perm_f1 (perm_c1 pR)))
       refine eS (oSt1 (l1 := [.slice A279 (s34.2.1 ++ [(⟨2, (rd t6 s34.1).f_Head.f_Id⟩ : T_api_Vert)]).length c432, .slice A339 (s37.2 ++ [(⟨(⟨2, (rd t6 s34.1).f_Head.f_Id⟩ : T_api_Vert), (⟨1, (rd ((rd t6 s34.1).f_Routers) s37.1)⟩ : T_api_Vert), 0, s38.2.2.2.1⟩ : T_api_Edge)]).length c511, .slice A96 s17.2.2.2.1.length c166, .slice A283 (s34.2.2.2 ++ [(⟨(⟨2, (rd t6 s34.1).f_Head.f_Id⟩ : T_api_Vert), t124, (rd t6 s34.1).f_Bits⟩ : T_api_Span)]).length c438, .slice A97 s17.2.2.2.2.length c167]) HF1057 rfl rfl ti27 rfl rfl rfl) ?_
       rintro w524 HF1058
       refine lE ?_
       refine jN (kN (?_))
       refine hK189 _ _ ?_
       refine cRgn [] trivial ?_
       refine sL (bAdd rfl rfl) rfl ?_
       refine sL (mv rfl) rfl ?_
       refine lE ?_
       refine kN (?_)
       have HF1059 := HF1058.sublist (sl_c (sl_a (sl_da (sl_dc (sl_a (sl_a (sl_c (sl_c (sl_a (sl_a (sl_c (sl_a (sl_a (sl_a (sl_a (sl_c sR))))))))))))))))
       have HF1060 := HF1059.perm (perm_c1 (perm_f1 (perm_f1 (perm_f1 (perm_c1 (perm_c1 (perm_f1 (perm_f1 (perm_c1 (perm_f1 (perm_f1 (perm_f1 (perm_f1 pR)))))))))))))
       have HF1061 := HF1060.perm (perm_c (perm_c (perm_f (perm_f (perm_f (perm_c (perm_c (perm_f (perm_f (perm_c (perm_f (perm_f (perm_f pR)))))))))))))
       have HF1062 := HF1061.perm (perm_f (perm_c (perm_c (perm_f (perm_f (perm_f (perm_c (perm_c (perm_f (perm_f (perm_c (perm_f (perm_f pR)))))))))))))
       have HF1063 := HF1062.perm (perm_f (perm_f (perm_c (perm_c (perm_f (perm_f (perm_f (perm_c (perm_c (perm_f (perm_f (perm_c (perm_f pR)))))))))))))
       have HF1064 := HF1063.perm (perm_f (perm_f (perm_f (perm_c (perm_c (perm_f (perm_f (perm_f (perm_c (perm_c (perm_f (perm_f (perm_c pR)))))))))))))
       have HF1065 := HF1064.perm (perm_f1 (perm_f1 (perm_f1 (perm_f1 (perm_c1 (perm_c1 (perm_f1 (perm_f1 (perm_f1 (perm_c1 (perm_c1 (perm_f1 (perm_f1 pR)))))))))))))
       have HF1066 := HF1065.perm (perm_c (perm_f (perm_f (perm_f (perm_f (perm_c (perm_c (perm_f (perm_f (perm_f (perm_c (perm_c (perm_f pR)))))))))))))
       have HF1067 := HF1066.perm (perm_f (perm_c (perm_f (perm_f (perm_f (perm_f (perm_c (perm_c (perm_f (perm_f (perm_f (perm_c (perm_c pR)))))))))))))
       have HF1068 := HF1067.perm (perm_f1 (perm_f1 (perm_c1 (perm_f1 (perm_f1 (perm_f1 (perm_f1 (perm_c1 (perm_c1 (perm_f1 (perm_f1 (perm_f1 (perm_c1 pR)))))))))))))
       have HF1069 := HF1068.perm (perm_c1 (perm_f1 (perm_f1 (perm_c1 (perm_f1 (perm_f1 (perm_f1 (perm_f1 (perm_c1 (perm_c1 (perm_f1 (perm_f1 (perm_f1 pR)))))))))))))
       have HF1070 := HF1069.perm (perm_c (perm_c (perm_f (perm_f (perm_c (perm_f (perm_f (perm_f (perm_f (perm_c (perm_c (perm_f (perm_f pR)))))))))))))
       have HF1071 := HF1070.perm (perm_f (perm_c (perm_c (perm_f (perm_f (perm_c (perm_f (perm_f (perm_f (perm_f (perm_c (perm_c (perm_f pR)))))))))))))
       have HF1072 := HF1071.perm (perm_f1 (perm_f1 (perm_c1 (perm_c1 (perm_f1 (perm_f1 (perm_c1 (perm_f1 (perm_f1 (perm_f1 (perm_f1 (perm_c1 pR))))))))))))
       have HF1073 := HF1072.perm (perm_c (perm_f (perm_f (perm_c (perm_c (perm_f (perm_f (perm_c (perm_f (perm_f (perm_f (perm_f (perm_c pR)))))))))))))
       exact ofEnv (fun a hE => ⟨_, (Option.some.inj H).symm, ⟨_, _, L177, hE.keep (Keep.cons rfl (Keep.cons rfl (Keep.cons rfl (Keep.cons rfl (Keep.cons rfl (Keep.cons rfl (Keep.cons rfl (Keep.cons rfl (Keep.cons rfl (Keep.cons rfl (Keep.cons rfl (Keep.nil)))))))))))), HF1073, ho177⟩⟩)
      replace H := itF c505 H
      refine lSet (i := 181) rfl (vF c505) ?_
      refine sN rfl rfl rfl rfl ?_
      refine sN rfl rfl rfl rfl ?_
      refine sN rfl rfl rfl rfl ?_
      refine sN rfl rfl rfl rfl ?_
      refine sN rfl rfl rfl rfl ?_
      refine sN rfl rfl rfl rfl ?_
      refine sN rfl rfl rfl rfl ?_
      refine sL (pkF rfl rfl) rfl ?_
      refine lE ?_
      refine kN (?_)
      refine hK192 _ _ ?_
      refine cF rfl ?_
      refine cSkip ?_
      refine jN (kN (?_))
      refine hK189 _ _ ?_
      refine cRgn [] trivial ?_
      refine sL (bAdd rfl rfl) rfl ?_
      refine sL (mv rfl) rfl ?_
      refine lE ?_
      refine kN (?_)
      have HF1074 := HF1051.sublist (sl_dc (sl_a (sl_c (sl_a (sl_a (sl_c (sl_c (sl_a (sl_a (sl_c (sl_a (sl_a (sl_a (sl_a (sl_c sR)))))))))))))))
      exact ofEnv (fun a hE => ⟨_, (Option.some.inj H).symm, ⟨_, _, L175, hE.keep (Keep.cons rfl (Keep.cons rfl (Keep.cons rfl (Keep.cons rfl (Keep.cons rfl (Keep.cons rfl (Keep.cons rfl (Keep.cons rfl (Keep.cons rfl (Keep.cons rfl (Keep.cons rfl (Keep.nil)))))))))))), HF1074, ho175⟩⟩)
     replace H := itF c488 H
     refine cSet (i := 163) rfl (dF c488) ?_
     refine cF rfl ?_
     refine cExit ?_
     refine kX (kX (jX (kN (?_))))
     exact ofEnv (fun a hE => ⟨_, (Option.some.inj H).symm, ⟨_, _, L175, hE.keep (Keep.cons rfl (Keep.cons rfl (Keep.cons rfl (Keep.cons rfl (Keep.cons rfl (Keep.cons rfl (Keep.cons rfl (Keep.cons rfl (Keep.cons rfl (Keep.cons rfl (Keep.cons rfl (Keep.nil)))))))))))), HF1018, ho175⟩⟩)
    rintro s37 a w525 rfl ⟨A321, c487, L175, hE, HF1090, ho175⟩
    replace H := Ho37
    refine go_k hE ?_
    refine jN (kN (?_))
    refine hK169 _ _ ?_
    refine cRgn [] trivial ?_
    refine sL (bAdd rfl rfl) rfl ?_
    refine sL (mv rfl) rfl ?_
    refine lE ?_
    refine kN (?_)
    have HF1091 := HF1090.sublist (sl_a (sl_c (sl_a (sl_a (sl_dc (sl_dc (sl_a (sl_a (sl_c (sl_a (sl_a (sl_a (sl_a (sl_c sR))))))))))))))
    have HF1092 := HF1091.perm (perm_f1 (perm_c1 (perm_f1 (perm_f1 (perm_f1 (perm_f1 (perm_c1 (perm_f1 (perm_f1 (perm_f1 (perm_f1 pR)))))))))))
    have HF1093 := HF1092.perm (perm_c (perm_f (perm_c (perm_f (perm_f (perm_f (perm_f (perm_c (perm_f (perm_f (perm_f pR)))))))))))
    have HF1094 := HF1093.perm (perm_f (perm_c (perm_f (perm_c (perm_f (perm_f (perm_f (perm_f (perm_c (perm_f (perm_f pR)))))))))))
    have HF1095 := HF1094.perm (perm_f (perm_f (perm_c (perm_f (perm_c (perm_f (perm_f (perm_f (perm_f (perm_c (perm_f pR)))))))))))
    have HF1096 := HF1095.perm (perm_f (perm_f (perm_f (perm_c (perm_f (perm_c (perm_f (perm_f (perm_f (perm_f (perm_c pR)))))))))))
    have HF1097 := HF1096.perm (perm_f1 (perm_f1 (perm_f1 (perm_f1 (perm_c1 (perm_f1 (perm_c1 (perm_f1 (perm_f1 (perm_f1 (perm_f1 pR)))))))))))
    have HF1098 := HF1097.perm (perm_c1 (perm_f1 (perm_f1 (perm_f1 (perm_f1 (perm_c1 (perm_f1 pR)))))))
    have HF1099 := HF1098.perm (perm_c (perm_c (perm_f (perm_f (perm_f (perm_f (perm_c (perm_f (perm_f (perm_f (perm_f pR)))))))))))
    have HF1100 := HF1099.perm (perm_f (perm_c (perm_c (perm_f (perm_f (perm_f (perm_f (perm_c (perm_f (perm_f (perm_f pR)))))))))))
    have HF1101 := HF1100.perm (perm_f (perm_f (perm_c (perm_c (perm_f (perm_f (perm_f (perm_f (perm_c (perm_f pR))))))))))
    have HF1102 := HF1101.perm (perm_f (perm_f (perm_f (perm_c (perm_c (perm_f (perm_f (perm_f (perm_f (perm_c pR))))))))))
    have HF1103 := HF1102.perm (perm_f (perm_f (perm_f (perm_f (perm_c (perm_c (perm_f (perm_f (perm_f (perm_f (perm_c pR)))))))))))
    exact ofEnv (fun a hE => ⟨_, (Option.some.inj H).symm, ⟨_, _, L165, _, _, L175, _, _, L169, hE.keep (Keep.cons rfl (Keep.cons rfl (Keep.cons rfl (Keep.cons rfl (Keep.cons rfl (Keep.cons rfl (Keep.nil))))))), HF1103, ho165, ho175, ho169⟩⟩)
   replace H := bnd H; obtain ⟨t124, J88, H⟩ := H
   refine qCall rfl gd0 isf25 rfl rfl rfl (f_addr_Net.ok J88 HF928) ?_
   rintro _ w451 ⟨rfl, HF930⟩
   have HF931 := HF930.sublist (sl_dc (sl_a (sl_a (sl_c (sl_c (sl_a (sl_da (sl_a (sl_a (sl_c (sl_a (sl_a (sl_a (sl_a (sl_c sR)))))))))))))))
   refine ⟨_, rfl, HF931, ?_⟩
   refine hT 11 rfl (by kernel_rfl) (fun w_ hS_ => bd (r := [.int .i64 2, .int .i64 ((rd t6 s34.1).f_Head.f_Id), .int .i64 t124, .int .i64 ((rd t6 s34.1).f_Bits)]) pl74 ti74 rfl rfl) HF931 rfl rfl ?_
   refine h2 1 12 (by kernel_rfl) rfl rfl ?_ ?_
   ·refine qL rfl gd0 (ld rfl Try.underlying29 rfl (HF930.box (mem_h) rfl)) rfl HF931 ?_
    refine h1 12 (by kernel_rfl) rfl ?_
    refine qW rfl gd0 (oLit (r := [.int .i64 2, .int .i64 ((rd t6 s34.1).f_Head.f_Id), .int .i64 t124, .int .i64 ((rd t6 s34.1).f_Bits)]) k_T_api_Span [(⟨(⟨2, (rd t6 s34.1).f_Head.f_Id⟩ : T_api_Vert), t124, (rd t6 s34.1).f_Bits⟩ : T_api_Span)] HF930 Try.underlying29 ti74 rfl rfl rfl rfl ⟨[], [], [.int .i64 2, .int .i64 ((rd t6 s34.1).f_Head.f_Id), .int .i64 t124, .int .i64 ((rd t6 s34.1).f_Bits)], _, rfl, rfl, ⟨rfl, rfl⟩, ⟨rfl, rfl⟩⟩ rfl rfl) rfl ?_
    rintro _ w452 ⟨L168, A282, c436, rfl, HF932, ho168⟩
    have HF933 := HF932.sublist (sl_da (sl_dc (sl_a (sl_a (sl_c (sl_c (sl_a (sl_da (sl_a (sl_a (sl_c (sl_a (sl_a (sl_a (sl_a (sl_c sR))))))))))))))))
    refine ⟨HF933, ?_⟩
    refine h1 13 (by kernel_rfl) rfl ?_
    replace H := chk H; obtain ⟨c437, H⟩ := H
    have HF934 := HF932.perm (perm_f (perm_c (perm_f (perm_f (perm_c (perm_c (perm_f pR)))))))
    refine qW rfl gd0 (oApp (xs := s34.2.2.2) (ys := ([(⟨(⟨2, (rd t6 s34.1).f_Head.f_Id⟩ : T_api_Vert), t124, (rd t6 s34.1).f_Bits⟩ : T_api_Span)])) k_T_api_Span HF934 rfl rfl Try.underlying29 Try.underlying29 ti74 rfl ho163 (srcR shrF ho168.rd HF934 (sub_a sub_h)) c437 rfl) rfl ?_
    rintro _ w453 ⟨L169, A283, c438, rfl, HF935, ho169⟩
    have HF936 := HF935.sublist (sl_da (sl_da (sl_dc (sl_a (sl_a (sl_c (sl_c (sl_a (sl_a (sl_a (sl_c (sl_a (sl_a (sl_a (sl_a (sl_c sR))))))))))))))))
    refine ⟨HF936, ?_⟩
    refine hT 14 rfl (by kernel_rfl) (fun w_ hS_ => fa32_3 rfl) HF936 rfl rfl ?_
    refine h1 15 (by kernel_rfl) rfl ?_
    have HF937 := HF935.perm (perm_f1 (perm_f1 pR))
    refine qS rfl gd0 (oSt1 (l1 := [.slice A279 (s34.2.1 ++ [(⟨2, (rd t6 s34.1).f_Head.f_Id⟩ : T_api_Vert)]).length c432, .slice A273 s34.2.2.1.length c423, .slice A96 s17.2.2.2.1.length c166, .slice A283 (s34.2.2.2 ++ [(⟨(⟨2, (rd t6 s34.1).f_Head.f_Id⟩ : T_api_Vert), t124, (rd t6 s34.1).f_Bits⟩ : T_api_Span)]).length c438, .slice A97 s17.2.2.2.2.length c167]) HF937 rfl rfl ti29 rfl rfl rfl) ?_
    rintro w454 HF938
    have HF939 := HF938.sublist (sl_dc (sl_da (sl_da (sl_a (sl_a (sl_c (sl_c (sl_a (sl_a (sl_a (sl_c (sl_a (sl_a (sl_a (sl_a (sl_c sR))))))))))))))))
    refine ⟨HF939, ?_⟩
    refine hEnd (by kernel_rfl) ?_
    refine kN (?_)
    refine hK173 _ _ ?_
    refine cSeq (fun K174 hK174 => ?_)
    refine cRgn [] trivial ?_
    refine sL (fa44_4 rfl) rfl ?_
    refine sL (ld rfl Try.underlying30 rfl (HF938.box (mem_c (mem_a (mem_a (mem_a (mem_a (mem_c mem_h)))))) rfl)) rfl ?_
    refine sL (lnS rfl Try.underlying30) rfl ?_
    refine sL (mv rfl) rfl ?_
    refine lE ?_
    refine kN (?_)
    refine hK174 _ _ ?_
    replace H := bnd H; obtain ⟨y44, J107, Ho37⟩ := H
    have HF1075 := HF938.sublist (sl_c (sl_a (sl_da (sl_a (sl_da (sl_c (sl_c (sl_a (sl_a (sl_a (sl_c (sl_a (sl_a (sl_a (sl_a (sl_c sR))))))))))))))))
    have HF1076 := HF1075.perm (perm_c1 (perm_f1 (perm_f1 (perm_c1 (perm_c1 (perm_f1 (perm_f1 (perm_f1 (perm_c1 (perm_f1 (perm_f1 (perm_f1 (perm_f1 pR)))))))))))))
    have HF1077 := HF1076.perm (perm_c (perm_c (perm_f (perm_f (perm_c (perm_c (perm_f (perm_f (perm_f (perm_c (perm_f (perm_f (perm_f pR)))))))))))))
    have HF1078 := HF1077.perm (perm_f (perm_c (perm_c (perm_f (perm_f (perm_c (perm_c (perm_f (perm_f (perm_f (perm_c (perm_f (perm_f pR)))))))))))))
    have HF1079 := HF1078.perm (perm_f (perm_f (perm_c (perm_c (perm_f (perm_f (perm_c (perm_c (perm_f (perm_f (perm_f (perm_c (perm_f pR)))))))))))))
    have HF1080 := HF1079.perm (perm_f (perm_f (perm_f (perm_c (perm_c (perm_f (perm_f (perm_c (perm_c (perm_f (perm_f (perm_f (perm_c pR)))))))))))))
    have HF1081 := HF1080.perm (perm_f1 (perm_f1 (perm_f1 (perm_f1 (perm_c1 (perm_c1 (perm_f1 (perm_f1 (perm_c1 (perm_c1 (perm_f1 (perm_f1 (perm_f1 pR)))))))))))))
    have HF1082 := HF1081.perm (perm_c (perm_f (perm_f (perm_f (perm_f (perm_c (perm_c (perm_f (perm_f (perm_c (perm_c (perm_f (perm_f pR)))))))))))))
    have HF1083 := HF1082.perm (perm_f (perm_c (perm_f (perm_f (perm_f (perm_f (perm_c (perm_c (perm_f (perm_f (perm_c (perm_c (perm_f pR)))))))))))))
    have HF1084 := HF1083.perm (perm_f1 (perm_f1 (perm_c1 (perm_f1 (perm_f1 (perm_f1 (perm_f1 (perm_c1 (perm_c1 (perm_f1 (perm_f1 (perm_c1 pR))))))))))))
    have HF1085 := HF1084.perm (perm_c1 (perm_f1 (perm_f1 (perm_c1 (perm_f1 (perm_f1 (perm_f1 (perm_f1 (perm_c1 (perm_c1 (perm_f1 (perm_f1 pR))))))))))))
    have HF1086 := HF1085.perm (perm_c (perm_c (perm_f (perm_f (perm_c (perm_f (perm_f (perm_f (perm_f (perm_c (perm_c (perm_f pR))))))))))))
    have HF1087 := HF1086.perm (perm_f (perm_c (perm_c (perm_f (perm_f (perm_c (perm_f (perm_f (perm_f (perm_f (perm_c (perm_c pR))))))))))))
    have HF1088 := HF1087.perm (perm_f1 (perm_f1 (perm_c1 (perm_c1 (perm_f1 (perm_f1 (perm_c1 (perm_f1 (perm_f1 (perm_f1 (perm_f1 (perm_c1 pR))))))))))))
    have HF1089 := HF1088.perm (perm_c (perm_f (perm_f (perm_c (perm_c (perm_f (perm_f (perm_c (perm_f (perm_f (perm_f (perm_f (perm_c pR)))))))))))))
    refine cLoopB (f_topo_Map.b2 t4 t6 s34) (fun (s37 : Int × (List T_api_Edge)) a w => ∃ (A321 : Option Addr) (c487 : Nat) (L175 : Hp), Env 204 [(2, .pointer (some ⟨g1, 0, none⟩)), (3, .pointer (some ⟨g2, 0, none⟩)), (4, .pointer (some ⟨g3, 0, none⟩)), (13, .pointer (some ⟨g86, 0, none⟩)), (14, .pointer (some ⟨g87, 0, none⟩)), (128, .slice (some ⟨g85, o21, none⟩) t6.length c6), (129, .int .i64 (t6.length : Int)), (130, .int .i64 s34.1), (160, .slice A276 ((rd t6 s34.1).f_Routers).length c428), (161, .int .i64 (((rd t6 s34.1).f_Routers).length : Int)), (162, .int .i64 s37.1)] a ∧ Fits z w (L175 ++ (bk g3 32 [.slice A279 (s34.2.1 ++ [(⟨2, (rd t6 s34.1).f_Head.f_Id⟩ : T_api_Vert)]).length c432, .slice A321 s37.2.length c487, .slice A96 s17.2.2.2.1.length c166, .slice A283 (s34.2.2.2 ++ [(⟨(⟨2, (rd t6 s34.1).f_Head.f_Id⟩ : T_api_Vert), t124, (rd t6 s34.1).f_Bits⟩ : T_api_Span)]).length c438, .slice A97 s17.2.2.2.2.length c167] :: (L169 ++ (L165 ++ (bk g87 35 [.int .i64 2, .int .i64 ((rd t6 s34.1).f_Head.f_Id)] :: (bk g86 44 [.int .i64 ((rd t6 s34.1).f_Head.f_Age), .int .i64 ((rd t6 s34.1).f_Head.f_Kind), .int .i64 ((rd t6 s34.1).f_Head.f_Id), .int .i64 ((rd t6 s34.1).f_Head.f_Adv), .int .i64 ((rd t6 s34.1).f_Head.f_Seq), .int .i64 ((rd t6 s34.1).f_Head.f_Sum), .int .i64 ((rd t6 s34.1).f_Head.f_Len), .int .i64 ((rd t6 s34.1).f_Flags), .slice A275 ((rd t6 s34.1).f_Links).length c427, .int .i64 ((rd t6 s34.1).f_Bits), .slice A276 ((rd t6 s34.1).f_Routers).length c428, .slice A277 ((rd t6 s34.1).f_Verts).length c429] :: (L90 ++ (L91 ++ (bk g2 61 [.slice A3 t3.length c3, .slice (some ⟨g85, o21, none⟩) t6.length c6, mapV A4, mapV A7] :: (L6 ++ (L7 ++ (L3 ++ (L4 ++ (bk g1 32 [.slice none 0 0, .slice none 0 0, .slice none 0 0, .slice none 0 0, .slice none 0 0] :: (N9 ++ F))))))))))))))) ∧ OwnS k_T_api_Edge L175 A321 c487 s37.2) J107 (fun a hE => ⟨_, _, L162, hE.keep (Keep.cons rfl (Keep.cons rfl (Keep.cons rfl (Keep.cons rfl (Keep.cons rfl (Keep.cons rfl (Keep.cons rfl (Keep.cons rfl (Keep.cons rfl (Keep.cons rfl (Keep.cons rfl (Keep.nil)))))))))))), HF1089, ho162⟩) ?_ ?_
    ·rintro s37 a w501 y45 ⟨A321, c487, L175, hE, HF1018, ho175⟩ H Hx8
     refine go_ hE ?_
     refine cSeq (fun K187 hK187 => ?_)
     refine cRgn [] trivial ?_
     refine sL (bLss rfl rfl) rfl ?_
     refine lE ?_
     refine kN (?_)
     refine hK187 _ _ ?_
     refine cSeq (fun K188 hK188 => ?_)
     by_cases c488 : s37.1 < (((rd t6 s34.1).f_Routers).length : Int)
     ·replace H := itT c488 H
      refine cSet (i := 163) rfl (dT c488) ?_
      refine cT rfl ?_
      refine cSkip ?_
      refine kN (?_)
      refine hK188 _ _ ?_
      refine cSeq (fun K189 hK189 => ?_)
      refine cBlock ?_
      refine cSeq (fun K190 hK190 => ?_)
      refine cRgn [] trivial ?_
      refine sL (mv rfl) rfl ?_
      replace H := chk H; obtain ⟨c489, H⟩ := H
      obtain ⟨g102, o24, _, rfl, rfl, q104⟩ := RdS.at_ hr119 c489 c488
      refine sL (ia rfl rfl Try.underlying30 ti3 c489 c488) rfl ?_
      refine sL (ld rfl Try.underlying3 rfl (HF1018.cells ((sub_a (sub_c (sub_a (sub_a (sub_c (sub_c (sub_a (sub_a (sub_c (sub_a (sub_a (sub_a (sub_a (sub_c (sub_n hG)))))))))))))))) (q104 0 _ rfl))) rfl ?_
      refine sL (asg rfl) rfl ?_
      refine sL (asg rfl) rfl ?_
      refine lE ?_
      refine kN (?_)
      refine hK190 _ _ ?_
      refine cSeq (fun K191 hK191 => ?_)
      replace H := bnd H; obtain ⟨y46, H, Ho38⟩ := H
      refine cJoin (y := y46) (fun (s38 : Bool × Int × Int × Int × Int) a w => ∃ (g106 : Nat), Env 204 [(2, .pointer (some ⟨g1, 0, none⟩)), (3, .pointer (some ⟨g2, 0, none⟩)), (4, .pointer (some ⟨g3, 0, none⟩)), (13, .pointer (some ⟨g86, 0, none⟩)), (14, .pointer (some ⟨g87, 0, none⟩)), (15, .int .i64 s37.1), (16, .int .i64 (rd ((rd t6 s34.1).f_Routers) s37.1)), (17, .pointer (some ⟨g106, 0, none⟩)), (18, .bool s38.1), (128, .slice (some ⟨g85, o21, none⟩) t6.length c6), (129, .int .i64 (t6.length : Int)), (130, .int .i64 s34.1), (160, .slice (some ⟨g102, o24, none⟩) ((rd t6 s34.1).f_Routers).length c428), (161, .int .i64 (((rd t6 s34.1).f_Routers).length : Int)), (162, .int .i64 s37.1)] a ∧ Fits z w (bk g106 56 [.int .i64 s38.2.1, .int .i64 s38.2.2.1, .int .i64 s38.2.2.2.1, .int .i64 s38.2.2.2.2] :: (L175 ++ (bk g3 32 [.slice A279 (s34.2.1 ++ [(⟨2, (rd t6 s34.1).f_Head.f_Id⟩ : T_api_Vert)]).length c432, .slice A321 s37.2.length c487, .slice A96 s17.2.2.2.1.length c166, .slice A283 (s34.2.2.2 ++ [(⟨(⟨2, (rd t6 s34.1).f_Head.f_Id⟩ : T_api_Vert), t124, (rd t6 s34.1).f_Bits⟩ : T_api_Span)]).length c438, .slice A97 s17.2.2.2.2.length c167] :: (L169 ++ (L165 ++ (bk g87 35 [.int .i64 2, .int .i64 ((rd t6 s34.1).f_Head.f_Id)] :: (bk g86 44 [.int .i64 ((rd t6 s34.1).f_Head.f_Age), .int .i64 ((rd t6 s34.1).f_Head.f_Kind), .int .i64 ((rd t6 s34.1).f_Head.f_Id), .int .i64 ((rd t6 s34.1).f_Head.f_Adv), .int .i64 ((rd t6 s34.1).f_Head.f_Seq), .int .i64 ((rd t6 s34.1).f_Head.f_Sum), .int .i64 ((rd t6 s34.1).f_Head.f_Len), .int .i64 ((rd t6 s34.1).f_Flags), .slice A275 ((rd t6 s34.1).f_Links).length c427, .int .i64 ((rd t6 s34.1).f_Bits), .slice (some ⟨g102, o24, none⟩) ((rd t6 s34.1).f_Routers).length c428, .slice A277 ((rd t6 s34.1).f_Verts).length c429] :: (L90 ++ (L91 ++ (bk g2 61 [.slice A3 t3.length c3, .slice (some ⟨g85, o21, none⟩) t6.length c6, mapV A4, mapV A7] :: (L6 ++ (L7 ++ (L3 ++ (L4 ++ (bk g1 32 [.slice none 0 0, .slice none 0 0, .slice none 0 0, .slice none 0 0, .slice none 0 0] :: (N9 ++ F))))))))))))))))) ?_ ?_
      ·refine cDraw mo_ HF1018 rfl (fun w => Fits z w (L175 ++ (bk g3 32 [.slice A279 (s34.2.1 ++ [(⟨2, (rd t6 s34.1).f_Head.f_Id⟩ : T_api_Vert)]).length c432, .slice A321 s37.2.length c487, .slice A96 s17.2.2.2.1.length c166, .slice A283 (s34.2.2.2 ++ [(⟨(⟨2, (rd t6 s34.1).f_Head.f_Id⟩ : T_api_Vert), t124, (rd t6 s34.1).f_Bits⟩ : T_api_Span)]).length c438, .slice A97 s17.2.2.2.2.length c167] :: (L169 ++ (L165 ++ (bk g87 35 [.int .i64 2, .int .i64 ((rd t6 s34.1).f_Head.f_Id)] :: (bk g86 44 [.int .i64 ((rd t6 s34.1).f_Head.f_Age), .int .i64 ((rd t6 s34.1).f_Head.f_Kind), .int .i64 ((rd t6 s34.1).f_Head.f_Id), .int .i64 ((rd t6 s34.1).f_Head.f_Adv), .int .i64 ((rd t6 s34.1).f_Head.f_Seq), .int .i64 ((rd t6 s34.1).f_Head.f_Sum), .int .i64 ((rd t6 s34.1).f_Head.f_Len), .int .i64 ((rd t6 s34.1).f_Flags), .slice A275 ((rd t6 s34.1).f_Links).length c427, .int .i64 ((rd t6 s34.1).f_Bits), .slice (some ⟨g102, o24, none⟩) ((rd t6 s34.1).f_Routers).length c428, .slice A277 ((rd t6 s34.1).f_Verts).length c429] :: (L90 ++ (L91 ++ (bk g2 61 [.slice A3 t3.length c3, .slice (some ⟨g85, o21, none⟩) t6.length c6, mapV A4, mapV A7] :: (L6 ++ (L7 ++ (L3 ++ (L4 ++ (bk g1 32 [.slice none 0 0, .slice none 0 0, .slice none 0 0, .slice none 0 0, .slice none 0 0] :: (N9 ++ F)))))))))))))))) (fun w515 HF1044 => ?_)
       refine hT 0 rfl (by kernel_rfl) (fun w_ hS_ => mv rfl) HF1044 rfl rfl ?_
       refine hT 1 rfl (by kernel_rfl) (fun w_ hS_ => nc rfl) HF1044 rfl rfl ?_
       refine hT 2 rfl (by kernel_rfl) (fun w_ hS_ => fa61_2 rfl) HF1044 rfl rfl ?_
       refine hT 3 rfl (by kernel_rfl) (fun w_ hS_ => ld rfl Try.underlying59 rfl (hS_.box (mem_a (mem_c (mem_a (mem_a (mem_c (mem_c (mem_a (mem_a mem_h)))))))) rfl)) HF1044 rfl rfl ?_
       refine hT 4 rfl (by kernel_rfl) (fun w_ hS_ => mv rfl) HF1044 rfl rfl ?_
       obtain ⟨e120, q113, q114, _, hk51⟩ := lookB (z := z) (⟨(⟨0, 0, 0, 0, 0, 0, 0⟩ : T_api_Head), 0, [], 0, [], []⟩ : T_api_Lsa) (rd ((rd t6 s34.1).f_Routers) s37.1) hr3 Try.underlying59 Try.underlying3 ti44 ⟨rfl, mk_T_api_Lsa (x := (⟨(⟨0, 0, 0, 0, 0, 0, 0⟩ : T_api_Head), 0, [], 0, [], []⟩ : T_api_Lsa)) RdS.nil RdS.nil RdS.nil⟩
       obtain ⟨A334, c502, A335, c503, A336, c504, rfl, hr165, hr166, hr167⟩ := rd_T_api_Lsa hk51
       refine hT 5 rfl (by kernel_rfl) (fun w_ hS_ => lookR (q114 hS_ (sub_a (sub_c (sub_a (sub_a (sub_c (sub_c (sub_a (sub_a (sub_c (sub_a (sub_a (sub_a sub_h))))))))))))) rfl rfl) HF1044 rfl rfl ?_
       refine hT 6 rfl (by kernel_rfl) (fun w_ hS_ => fa44_0 rfl) HF1044 rfl rfl ?_
       refine hT 7 rfl (by kernel_rfl) (fun w_ hS_ => fa41_2 rfl) HF1044 rfl rfl ?_
       refine hT 8 rfl (by kernel_rfl) (fun w_ hS_ => ld rfl Try.underlying3 rfl (hS_.box (mem_a (mem_c (mem_a (mem_a (mem_c mem_h))))) rfl)) HF1044 rfl rfl ?_
       refine h2 9 13 (by kernel_rfl) rfl rfl ?_ ?_
       ·replace H := bnd H; obtain ⟨⟨t155, t156⟩, J105, H⟩ := H
        refine qCall rfl gd0 isf26 rfl rfl rfl (f_topo_back.ok (a0 := (mGetD (⟨(⟨0, 0, 0, 0, 0, 0, 0⟩ : T_api_Head), 0, [], 0, [], []⟩ : T_api_Lsa) t4 (rd ((rd t6 s34.1).f_Routers) s37.1))) (sub_a (sub_c (sub_a (sub_a (sub_c (sub_c (sub_a (sub_a (sub_c (sub_a (sub_a (sub_a (sub_a (sub_c (sub_n hG))))))))))))))) J105 HF1044 (sub_a (sub_c (sub_a (sub_a (sub_c (sub_c (sub_a (sub_a (sub_c (sub_a (sub_a (sub_a (sub_a (sub_c (sub_t (sub_t hs4 hs5) (sub_n hG)))))))))))))))) hr165 (sub_a (sub_c (sub_a (sub_a (sub_c (sub_c (sub_a (sub_a (sub_c (sub_a (sub_a (sub_a (sub_a (sub_c (sub_t (sub_t hs4 hs5) (sub_n hG)))))))))))))))) hr166 (sub_a (sub_c (sub_a (sub_a (sub_c (sub_c (sub_a (sub_a (sub_c (sub_a (sub_a (sub_a (sub_a (sub_c (sub_t (sub_t hs4 hs5) (sub_n hG)))))))))))))))) hr167) ?_
        rintro _ w516 ⟨rfl, HF1045⟩
        refine ⟨_, rfl, HF1045, ?_⟩
        refine hT 10 rfl (by kernel_rfl) (fun w_ hS_ => mv rfl) HF1045 rfl rfl ?_
        refine hT 11 rfl (by kernel_rfl) (fun w_ hS_ => ex rfl rfl) HF1045 rfl rfl ?_
        refine hT 12 rfl (by kernel_rfl) (fun w_ hS_ => ex rfl rfl) HF1045 rfl rfl ?_
        refine h1 13 (by kernel_rfl) rfl ?_
        refine qW rfl gd0 (oAlloc HF1045 ti56) rfl ?_
        rintro _ w517 ⟨g108, rfl, HF1046⟩
        have HF1047 := HF1046.sublist (sl_dc (sl_a (sl_c (sl_a (sl_a (sl_c (sl_c (sl_a (sl_a (sl_c (sl_a (sl_a (sl_a (sl_a (sl_c sR)))))))))))))))
        refine ⟨HF1047, ?_⟩
        refine h1 14 (by kernel_rfl) rfl ?_
        refine qS rfl gd0 (oSt (l1 := [.int .i64 t155.f_Kind, .int .i64 t155.f_Id, .int .i64 t155.f_Data, .int .i64 t155.f_Cost]) HF1046 rfl rfl ti56 rfl (ones rfl) (Nat.le_of_ble_eq_true rfl) rfl) ?_
        rintro w518 HF1048
        have HF1049 := HF1048.sublist (sl_dc (sl_a (sl_c (sl_a (sl_a (sl_c (sl_c (sl_a (sl_a (sl_c (sl_a (sl_a (sl_a (sl_a (sl_c sR)))))))))))))))
        refine ⟨HF1049, ?_⟩
        refine hT 15 rfl (by kernel_rfl) (fun w_ hS_ => asg rfl) HF1049 rfl rfl ?_
        refine hEnd (by kernel_rfl) ?_
        refine kN (?_)
        exact ofEnv (fun a hE => ⟨_, (Option.some.inj H).symm, ⟨g108, hE.keep (Keep.cons rfl (Keep.cons rfl (Keep.cons rfl (Keep.cons rfl (Keep.cons rfl (Keep.cons rfl (Keep.cons rfl (Keep.cons rfl (Keep.cons rfl (Keep.cons rfl (Keep.cons rfl (Keep.cons rfl (Keep.cons rfl (Keep.cons rfl (Keep.cons rfl (Keep.nil)))))))))))))))), HF1048⟩⟩)
       refine qW rfl gd0 (oAlloc HF1044 ti56) rfl ?_
       rintro _ w516 ⟨g108, rfl, HF1045⟩
       have HF1046 := HF1045.sublist (sl_dc (sl_a (sl_c (sl_a (sl_a (sl_c (sl_c (sl_a (sl_a (sl_c (sl_a (sl_a (sl_a (sl_a (sl_c sR)))))))))))))))
       refine ⟨HF1046, ?_⟩
       refine h1 9 (by kernel_rfl) rfl ?_
       replace H := bnd H; obtain ⟨⟨t155, t156⟩, J105, H⟩ := H
       refine qCall rfl gd0 isf26 rfl rfl rfl (f_topo_back.ok (a0 := (mGetD (⟨(⟨0, 0, 0, 0, 0, 0, 0⟩ : T_api_Head), 0, [], 0, [], []⟩ : T_api_Lsa) t4 (rd ((rd t6 s34.1).f_Routers) s37.1))) (sub_c (sub_a (sub_c (sub_a (sub_a (sub_c (sub_c (sub_a (sub_a (sub_c (sub_a (sub_a (sub_a (sub_a (sub_c (sub_n hG)))))))))))))))) J105 HF1045 (sub_c (sub_a (sub_c (sub_a (sub_a (sub_c (sub_c (sub_a (sub_a (sub_c (sub_a (sub_a (sub_a (sub_a (sub_c (sub_t (sub_t hs4 hs5) (sub_n hG))))))))))))))))) hr165 (sub_c (sub_a (sub_c (sub_a (sub_a (sub_c (sub_c (sub_a (sub_a (sub_c (sub_a (sub_a (sub_a (sub_a (sub_c (sub_t (sub_t hs4 hs5) (sub_n hG))))))))))))))))) hr166 (sub_c (sub_a (sub_c (sub_a (sub_a (sub_c (sub_c (sub_a (sub_a (sub_c (sub_a (sub_a (sub_a (sub_a (sub_c (sub_t (sub_t hs4 hs5) (sub_n hG))))))))))))))))) hr167) ?_
       rintro _ w517 ⟨rfl, HF1047⟩
       have HF1048 := HF1047.sublist (sl_dc (sl_a (sl_c (sl_a (sl_a (sl_c (sl_c (sl_a (sl_a (sl_c (sl_a (sl_a (sl_a (sl_a (sl_c sR)))))))))))))))
       refine ⟨_, rfl, HF1048, ?_⟩
       refine hT 10 rfl (by kernel_rfl) (fun w_ hS_ => mv rfl) HF1048 rfl rfl ?_
       refine hT 11 rfl (by kernel_rfl) (fun w_ hS_ => ex rfl rfl) HF1048 rfl rfl ?_
       refine hT 12 rfl (by kernel_rfl) (fun w_ hS_ => ex rfl rfl) HF1048 rfl rfl ?_
       refine h1 14 (by kernel_rfl) rfl ?_
       refine qS rfl gd0 (oSt (l1 := [.int .i64 t155.f_Kind, .int .i64 t155.f_Id, .int .i64 t155.f_Data, .int .i64 t155.f_Cost]) HF1047 rfl rfl ti56 rfl (ones rfl) (Nat.le_of_ble_eq_true rfl) rfl) ?_
       rintro w518 HF1049
       have HF1050 := HF1049.sublist (sl_dc (sl_a (sl_c (sl_a (sl_a (sl_c (sl_c (sl_a (sl_a (sl_c (sl_a (sl_a (sl_a (sl_a (sl_c sR)))))))))))))))
       refine ⟨HF1050, ?_⟩
       refine hT 15 rfl (by kernel_rfl) (fun w_ hS_ => asg rfl) HF1050 rfl rfl ?_
       refine hEnd (by kernel_rfl) ?_
       refine kN (?_)
       exact ofEnv (fun a hE => ⟨_, (Option.some.inj H).symm, ⟨g108, hE.keep (Keep.cons rfl (Keep.cons rfl (Keep.cons rfl (Keep.cons rfl (Keep.cons rfl (Keep.cons rfl (Keep.cons rfl (Keep.cons rfl (Keep.cons rfl (Keep.cons rfl (Keep.cons rfl (Keep.cons rfl (Keep.cons rfl (Keep.cons rfl (Keep.cons rfl (Keep.nil)))))))))))))))), HF1049⟩⟩)
      rintro s38 a w519 rfl ⟨g106, hE, HF1051⟩
      replace H := Ho38
      refine go_k hE ?_
      refine kN (?_)
      refine hK191 _ _ ?_
      refine cSeq (fun K192 hK192 => ?_)
      refine cRgn [(1, 181)] ⟨rfl, trivial⟩ ?_
      refine sL (mv rfl) rfl ?_
      refine sL (mv rfl) rfl ?_
      by_cases c505 : s38.1 = true
      ·replace H := itT c505 H
       refine lSet (i := 181) rfl (vT c505) ?_
       refine sG rfl rfl (fa44_4 rfl) rfl ?_
       refine sG rfl rfl (ld rfl Try.underlying30 rfl (HF1051.box (mem_c (mem_a (mem_c (mem_a (mem_a (mem_c mem_h)))))) rfl)) rfl ?_
       refine sG rfl rfl (mv rfl) rfl ?_
       replace H := chk H; obtain ⟨c506, H⟩ := H
       refine eWG rfl rfl (oCutN (K := (kInt .i64)) (xs := ((rd t6 s34.1).f_Routers)) hr119 rfl Try.underlying30 ti3 rfl rfl (by decide) c489 c506) rfl ?_
       rintro _ _ ⟨A337, c507, rfl, rfl, hr168⟩
       refine sG rfl rfl (mv rfl) rfl ?_
       replace H := bnd H; obtain ⟨t157, J106, H⟩ := H
       refine eCallG rfl rfl isf27 rfl rfl rfl (f_slices_Contains_int_int.ok (a0 := (cutL ((rd t6 s34.1).f_Routers) 0 s37.1)) (sub_c (sub_a (sub_c (sub_a (sub_a (sub_c (sub_c (sub_a (sub_a (sub_c (sub_a (sub_a (sub_a (sub_a (sub_c (sub_n hG)))))))))))))))) J106 HF1051 (sub_c (sub_a (sub_c (sub_a (sub_a (sub_c (sub_c (sub_a (sub_a (sub_c (sub_a (sub_a (sub_a (sub_a (sub_c (sub_n hG)))))))))))))))) hr168) ?_
       rintro _ w521 ⟨rfl, HF1052⟩
       refine ⟨_, rfl, ?_⟩
       refine sG rfl rfl (uNot rfl) rfl ?_
       refine sL (pkT rfl rfl) rfl ?_
       refine lE ?_
       refine kN (?_)
       refine hK192 _ _ ?_
       by_cases c508 : t157 = true
       ·replace H := itT c508 H
        refine cSet (i := 189) rfl (wF c508) ?_
        refine cF rfl ?_
        refine cSkip ?_
        refine jN (kN (?_))
        refine hK189 _ _ ?_
        refine cRgn [] trivial ?_
        refine sL (bAdd rfl rfl) rfl ?_
        refine sL (mv rfl) rfl ?_
        refine lE ?_
        refine kN (?_)
        have HF1053 := HF1052.sublist (sl_dc (sl_a (sl_c (sl_a (sl_a (sl_c (sl_c (sl_a (sl_a (sl_c (sl_a (sl_a (sl_a (sl_a (sl_c sR)))))))))))))))
        exact ofEnv (fun a hE => ⟨_, (Option.some.inj H).symm, ⟨_, _, L175, hE.keep (Keep.cons rfl (Keep.cons rfl (Keep.cons rfl (Keep.cons rfl (Keep.cons rfl (Keep.cons rfl (Keep.cons rfl (Keep.cons rfl (Keep.cons rfl (Keep.cons rfl (Keep.cons rfl (Keep.nil)))))))))))), HF1053, ho175⟩⟩)
       replace H := itF c508 H
       refine cSet (i := 189) rfl (wT c508) ?_
       refine cT rfl ?_
       refine cRgn [] trivial ?_
       refine sL (fa32_1 rfl) rfl ?_
       refine sL (ld rfl Try.underlying27 rfl (HF1052.box (mem_c (mem_a mem_h)) rfl)) rfl ?_
       refine sL (ldA (cs := [.int .i64 2, .int .i64 ((rd t6 s34.1).f_Head.f_Id)]) rfl ti35 rfl rfl (HF1052.boxes (o := 0) (n := 2) (mem_c (mem_a (mem_c (mem_a (mem_a mem_h))))) rfl)) rfl ?_
       refine sL (mv rfl) rfl ?_
       refine sL (bd (r := [.int .i64 1, .int .i64 (rd ((rd t6 s34.1).f_Routers) s37.1)]) pl35 ti35 rfl rfl) rfl ?_
       refine sL (fa56_2 rfl) rfl ?_
       refine sL (ld rfl Try.underlying3 rfl (HF1052.box (mem_h) rfl)) rfl ?_
       refine sL (bd (r := [.int .i64 2, .int .i64 ((rd t6 s34.1).f_Head.f_Id), .int .i64 1, .int .i64 (rd ((rd t6 s34.1).f_Routers) s37.1), .int .i64 0, .int .i64 s38.2.2.2.1]) pl37 ti37 rfl rfl) rfl ?_
       refine eW (oLit (r := [.int .i64 2, .int .i64 ((rd t6 s34.1).f_Head.f_Id), .int .i64 1, .int .i64 (rd ((rd t6 s34.1).f_Routers) s37.1), .int .i64 0, .int .i64 s38.2.2.2.1]) k_T_api_Edge [(⟨(⟨2, (rd t6 s34.1).f_Head.f_Id⟩ : T_api_Vert), (⟨1, (rd ((rd t6 s34.1).f_Routers) s37.1)⟩ : T_api_Vert), 0, s38.2.2.2.1⟩ : T_api_Edge)] HF1052 Try.underlying27 ti37 rfl rfl rfl rfl ⟨[], [], [.int .i64 2, .int .i64 ((rd t6 s34.1).f_Head.f_Id), .int .i64 1, .int .i64 (rd ((rd t6 s34.1).f_Routers) s37.1), .int .i64 0, .int .i64 s38.2.2.2.1], _, rfl, rfl, ⟨rfl, rfl⟩, ⟨rfl, rfl⟩⟩ rfl rfl) rfl ?_
       rintro _ w522 ⟨L176, A338, c509, rfl, HF1054, ho176⟩
       replace H := chk H; obtain ⟨c510, H⟩ := H
       have HF1055 := HF1054.perm (perm_f (perm_c pR))
       refine eW (oApp (xs := s37.2) (ys := ([(⟨(⟨2, (rd t6 s34.1).f_Head.f_Id⟩ : T_api_Vert), (⟨1, (rd ((rd t6 s34.1).f_Routers) s37.1)⟩ : T_api_Vert), 0, s38.2.2.2.1⟩ : T_api_Edge)])) k_T_api_Edge HF1055 rfl rfl Try.underlying27 Try.underlying27 ti37 rfl ho175 (srcR shrF ho176.rd HF1055 (sub_a sub_h)) c510 rfl) rfl ?_
       rintro _ w523 ⟨L177, A339, c511, rfl, HF1056, ho177⟩
       refine sL (fa32_1 rfl) rfl ?_
       have HF1057 := HF1056.perm (perm_f1 (perm_f1 (perm_c1 pR)))
       refine eS (oSt1 (l1 := [.slice A279 (s34.2.1 ++ [(⟨2, (rd t6 s34.1).f_Head.f_Id⟩ : T_api_Vert)]).length c432, .slice A339 (s37.2 ++ [(⟨(⟨2, (rd t6 s34.1).f_Head.f_Id⟩ : T_api_Vert), (⟨1, (rd ((rd t6 s34.1).f_Routers) s37.1)⟩ : T_api_Vert), 0, s38.2.2.2.1⟩ : T_api_Edge)]).length c511, .slice A96 s17.2.2.2.1.length c166, .slice A283 (s34.2.2.2 ++ [(⟨(⟨2, (rd t6 s34.1).f_Head.f_Id⟩ : T_api_Vert), t124, (rd t6 s34.1).f_Bits⟩ : T_api_Span)]).length c438, .slice A97 s17.2.2.2.2.length c167]) HF1057 rfl rfl ti27 rfl rfl rfl) ?_
       rintro w524 HF1058
       refine lE ?_
       refine jN (kN (?_))
       refine hK189 _ _ ?_
       refine cRgn [] trivial ?_
       refine sL (bAdd rfl rfl) rfl ?_
       refine sL (mv rfl) rfl ?_
       refine lE ?_
       refine kN (?_)
       have HF1059 := HF1058.sublist (sl_c (sl_a (sl_da (sl_dc (sl_a (sl_a (sl_c (sl_c (sl_a (sl_a (sl_c (sl_a (sl_a (sl_a (sl_a (sl_c sR))))))))))))))))
       have HF1060 := HF1059.perm (perm_c1 (perm_f1 (perm_f1 (perm_f1 (perm_c1 (perm_c1 (perm_f1 (perm_f1 (perm_c1 (perm_f1 (perm_f1 (perm_f1 (perm_f1 pR)))))))))))))
       have HF1061 := HF1060.perm (perm_c (perm_c (perm_f (perm_f (perm_f (perm_c (perm_c (perm_f (perm_f (perm_c (perm_f (perm_f (perm_f pR)))))))))))))
       have HF1062 := HF1061.perm (perm_f (perm_c (perm_c (perm_f (perm_f (perm_f (perm_c (perm_c (perm_f (perm_f (perm_c (perm_f (perm_f pR)))))))))))))
       have HF1063 := HF1062.perm (perm_f (perm_f (perm_c (perm_c (perm_f (perm_f (perm_f (perm_c (perm_c (perm_f (perm_f (perm_c (perm_f pR)))))))))))))
       have HF1064 := HF1063.perm (perm_f (perm_f (perm_f (perm_c (perm_c (perm_f (perm_f (perm_f (perm_c (perm_c (perm_f (perm_f (perm_c pR)))))))))))))
       have HF1065 := HF1064.perm (perm_f1 (perm_f1 (perm_f1 (perm_f1 (perm_c1 (perm_c1 (perm_f1 (perm_f1 (perm_f1 (perm_c1 (perm_c1 (perm_f1 (perm_f1 pR)))))))))))))
       have HF1066 := HF1065.perm (perm_c (perm_f (perm_f (perm_f (perm_f (perm_c (perm_c (perm_f (perm_f (perm_f (perm_c (perm_c (perm_f pR)))))))))))))
       have HF1067 := HF1066.perm (perm_f (perm_c (perm_f (perm_f (perm_f (perm_f (perm_c (perm_c (perm_f (perm_f (perm_f (perm_c (perm_c pR)))))))))))))
       have HF1068 := HF1067.perm (perm_f1 (perm_f1 (perm_c1 (perm_f1 (perm_f1 (perm_f1 (perm_f1 (perm_c1 (perm_c1 (perm_f1 (perm_f1 (perm_f1 (perm_c1 pR)))))))))))))
       have HF1069 := HF1068.perm (perm_c1 (perm_f1 (perm_f1 (perm_c1 (perm_f1 (perm_f1 (perm_f1 (perm_f1 (perm_c1 (perm_c1 (perm_f1 (perm_f1 (perm_f1 pR)))))))))))))
       have HF1070 := HF1069.perm (perm_c (perm_c (perm_f (perm_f (perm_c (perm_f (perm_f (perm_f (perm_f (perm_c (perm_c (perm_f (perm_f pR)))))))))))))
       have HF1071 := HF1070.perm (perm_f (perm_c (perm_c (perm_f (perm_f (perm_c (perm_f (perm_f (perm_f (perm_f (perm_c (perm_c (perm_f pR)))))))))))))
       have HF1072 := HF1071.perm (perm_f1 (perm_f1 (perm_c1 (perm_c1 (perm_f1 (perm_f1 (perm_c1 (perm_f1 (perm_f1 (perm_f1 (perm_f1 (perm_c1 pR))))))))))))
       have HF1073 := HF1072.perm (perm_c (perm_f (perm_f (perm_c (perm_c (perm_f (perm_f (perm_c (perm_f (perm_f (perm_f (perm_f (perm_c pR)))))))))))))
       exact ofEnv (fun a hE => ⟨_, (Option.some.inj H).symm, ⟨_, _, L177, hE.keep (Keep.cons rfl (Keep.cons rfl (Keep.cons rfl (Keep.cons rfl (Keep.cons rfl (Keep.cons rfl (Keep.cons rfl (Keep.cons rfl (Keep.cons rfl (Keep.cons rfl (Keep.cons rfl (Keep.nil)))))))))))), HF1073, ho177⟩⟩)
      replace H := itF c505 H
      refine lSet (i := 181) rfl (vF c505) ?_
      refine sN rfl rfl rfl rfl ?_
      refine sN rfl rfl rfl rfl ?_
      refine sN rfl rfl rfl rfl ?_
      refine sN rfl rfl rfl rfl ?_
      refine sN rfl rfl rfl rfl ?_
      refine sN rfl rfl rfl rfl ?_
      refine sN rfl rfl rfl rfl ?_
      refine sL (pkF rfl rfl) rfl ?_
      refine lE ?_
      refine kN (?_)
      refine hK192 _ _ ?_
      refine cF rfl ?_
      refine cSkip ?_
      refine jN (kN (?_))
      refine hK189 _ _ ?_
      refine cRgn [] trivial ?_
      refine sL (bAdd rfl rfl) rfl ?_
      refine sL (mv rfl) rfl ?_
      refine lE ?_
      refine kN (?_)
      have HF1074 := HF1051.sublist (sl_dc (sl_a (sl_c (sl_a (sl_a (sl_c (sl_c (sl_a (sl_a (sl_c (sl_a (sl_a (sl_a (sl_a (sl_c sR)))))))))))))))
      exact ofEnv (fun a hE => ⟨_, (Option.some.inj H).symm, ⟨_, _, L175, hE.keep (Keep.cons rfl (Keep.cons rfl (Keep.cons rfl (Keep.cons rfl (Keep.cons rfl (Keep.cons rfl (Keep.cons rfl (Keep.cons rfl (Keep.cons rfl (Keep.cons rfl (Keep.cons rfl (Keep.nil)))))))))))), HF1074, ho175⟩⟩)
     replace H := itF c488 H
     refine cSet (i := 163) rfl (dF c488) ?_
     refine cF rfl ?_
     refine cExit ?_
     refine kX (kX (jX (kN (?_))))
     exact ofEnv (fun a hE => ⟨_, (Option.some.inj H).symm, ⟨_, _, L175, hE.keep (Keep.cons rfl (Keep.cons rfl (Keep.cons rfl (Keep.cons rfl (Keep.cons rfl (Keep.cons rfl (Keep.cons rfl (Keep.cons rfl (Keep.cons rfl (Keep.cons rfl (Keep.cons rfl (Keep.nil)))))))))))), HF1018, ho175⟩⟩)
    rintro s37 a w525 rfl ⟨A321, c487, L175, hE, HF1090, ho175⟩
    replace H := Ho37
    refine go_k hE ?_
    refine jN (kN (?_))
    refine hK169 _ _ ?_
    refine cRgn [] trivial ?_
    refine sL (bAdd rfl rfl) rfl ?_
    refine sL (mv rfl) rfl ?_
    refine lE ?_
    refine kN (?_)
    have HF1091 := HF1090.sublist (sl_a (sl_c (sl_a (sl_a (sl_dc (sl_dc (sl_a (sl_a (sl_c (sl_a (sl_a (sl_a (sl_a (sl_c sR))))))))))))))
    have HF1092 := HF1091.perm (perm_f1 (perm_c1 (perm_f1 (perm_f1 (perm_f1 (perm_f1 (perm_c1 (perm_f1 (perm_f1 (perm_f1 (perm_f1 pR)))))))))))
    have HF1093 := HF1092.perm (perm_c (perm_f (perm_c (perm_f (perm_f (perm_f (perm_f (perm_c (perm_f (perm_f (perm_f pR)))))))))))
    have HF1094 := HF1093.perm (perm_f (perm_c (perm_f (perm_c (perm_f (perm_f (perm_f (perm_f (perm_c (perm_f (perm_f pR)))))))))))
    have HF1095 := HF1094.perm (perm_f (perm_f (perm_c (perm_f (perm_c (perm_f (perm_f (perm_f (perm_f (perm_c (perm_f pR)))))))))))
    have HF1096 := HF1095.perm (perm_f (perm_f (perm_f (perm_c (perm_f (perm_c (perm_f (perm_f (perm_f (perm_f (perm_c pR)))))))))))
    have HF1097 := HF1096.perm (perm_f1 (perm_f1 (perm_f1 (perm_f1 (perm_c1 (perm_f1 (perm_c1 (perm_f1 (perm_f1 (perm_f1 (perm_f1 pR)))))))))))
    have HF1098 := HF1097.perm (perm_c1 (perm_f1 (perm_f1 (perm_f1 (perm_f1 (perm_c1 (perm_f1 pR)))))))
    have HF1099 := HF1098.perm (perm_c (perm_c (perm_f (perm_f (perm_f (perm_f (perm_c (perm_f (perm_f (perm_f (perm_f pR)))))))))))
    have HF1100 := HF1099.perm (perm_f (perm_c (perm_c (perm_f (perm_f (perm_f (perm_f (perm_c (perm_f (perm_f (perm_f pR)))))))))))
    have HF1101 := HF1100.perm (perm_f (perm_f (perm_c (perm_c (perm_f (perm_f (perm_f (perm_f (perm_c (perm_f pR))))))))))
    have HF1102 := HF1101.perm (perm_f (perm_f (perm_f (perm_c (perm_c (perm_f (perm_f (perm_f (perm_f (perm_c pR))))))))))
    have HF1103 := HF1102.perm (perm_f (perm_f (perm_f (perm_f (perm_c (perm_c (perm_f (perm_f (perm_f (perm_f (perm_c pR)))))))))))
    exact ofEnv (fun a hE => ⟨_, (Option.some.inj H).symm, ⟨_, _, L165, _, _, L175, _, _, L169, hE.keep (Keep.cons rfl (Keep.cons rfl (Keep.cons rfl (Keep.cons rfl (Keep.cons rfl (Keep.cons rfl (Keep.nil))))))), HF1103, ho165, ho175, ho169⟩⟩)
   refine qW rfl gd0 (oLit (r := [.int .i64 2, .int .i64 ((rd t6 s34.1).f_Head.f_Id), .int .i64 t124, .int .i64 ((rd t6 s34.1).f_Bits)]) k_T_api_Span [(⟨(⟨2, (rd t6 s34.1).f_Head.f_Id⟩ : T_api_Vert), t124, (rd t6 s34.1).f_Bits⟩ : T_api_Span)] HF930 Try.underlying29 ti74 rfl rfl rfl rfl ⟨[], [], [.int .i64 2, .int .i64 ((rd t6 s34.1).f_Head.f_Id), .int .i64 t124, .int .i64 ((rd t6 s34.1).f_Bits)], _, rfl, rfl, ⟨rfl, rfl⟩, ⟨rfl, rfl⟩⟩ rfl rfl) rfl ?_
   rintro _ w452 ⟨L168, A282, c436, rfl, HF932, ho168⟩
   have HF933 := HF932.sublist (sl_da (sl_dc (sl_a (sl_a (sl_c (sl_c (sl_a (sl_da (sl_a (sl_a (sl_c (sl_a (sl_a (sl_a (sl_a (sl_c sR))))))))))))))))
   refine ⟨HF933, ?_⟩
   refine h1 1 (by kernel_rfl) rfl ?_
   refine qL rfl gd0 (ld rfl Try.underlying29 rfl (HF932.box (mem_a mem_h) rfl)) rfl HF933 ?_
   refine h1 13 (by kernel_rfl) rfl ?_
   replace H := chk H; obtain ⟨c437, H⟩ := H
   have HF934 := HF932.perm (perm_f (perm_c (perm_f (perm_f (perm_c (perm_c (perm_f pR)))))))
   refine qW rfl gd0 (oApp (xs := s34.2.2.2) (ys := ([(⟨(⟨2, (rd t6 s34.1).f_Head.f_Id⟩ : T_api_Vert), t124, (rd t6 s34.1).f_Bits⟩ : T_api_Span)])) k_T_api_Span HF934 rfl rfl Try.underlying29 Try.underlying29 ti74 rfl ho163 (srcR shrF ho168.rd HF934 (sub_a sub_h)) c437 rfl) rfl ?_
   rintro _ w453 ⟨L169, A283, c438, rfl, HF935, ho169⟩
   have HF936 := HF935.sublist (sl_da (sl_da (sl_dc (sl_a (sl_a (sl_c (sl_c (sl_a (sl_a (sl_a (sl_c (sl_a (sl_a (sl_a (sl_a (sl_c sR))))))))))))))))
   refine ⟨HF936, ?_⟩
   refine hT 14 rfl (by kernel_rfl) (fun w_ hS_ => fa32_3 rfl) HF936 rfl rfl ?_
   refine h1 15 (by kernel_rfl) rfl ?_
   have HF937 := HF935.perm (perm_f1 (perm_f1 pR))
   refine qS rfl gd0 (oSt1 (l1 := [.slice A279 (s34.2.1 ++ [(⟨2, (rd t6 s34.1).f_Head.f_Id⟩ : T_api_Vert)]).length c432, .slice A273 s34.2.2.1.length c423, .slice A96 s17.2.2.2.1.length c166, .slice A283 (s34.2.2.2 ++ [(⟨(⟨2, (rd t6 s34.1).f_Head.f_Id⟩ : T_api_Vert), t124, (rd t6 s34.1).f_Bits⟩ : T_api_Span)]).length c438, .slice A97 s17.2.2.2.2.length c167]) HF937 rfl rfl ti29 rfl rfl rfl) ?_
   rintro w454 HF938
   have HF939 := HF938.sublist (sl_dc (sl_da (sl_da (sl_a (sl_a (sl_c (sl_c (sl_a (sl_a (sl_a (sl_c (sl_a (sl_a (sl_a (sl_a (sl_c sR))))))))))))))))
   refine ⟨HF939, ?_⟩
   refine hEnd (by kernel_rfl) ?_
   refine kN (?_)
   refine hK173 _ _ ?_
   refine cSeq (fun K174 hK174 => ?_)
   refine cRgn [] trivial ?_
   refine sL (fa44_4 rfl) rfl ?_
   refine sL (ld rfl Try.underlying30 rfl (HF938.box (mem_c (mem_a (mem_a (mem_a (mem_a (mem_c mem_h)))))) rfl)) rfl ?_
   refine sL (lnS rfl Try.underlying30) rfl ?_
   refine sL (mv rfl) rfl ?_
   refine lE ?_
   refine kN (?_)
   refine hK174 _ _ ?_
   replace H := bnd H; obtain ⟨y44, J107, Ho37⟩ := H
   have HF1075 := HF938.sublist (sl_c (sl_a (sl_da (sl_a (sl_da (sl_c (sl_c (sl_a (sl_a (sl_a (sl_c (sl_a (sl_a (sl_a (sl_a (sl_c sR))))))))))))))))
   have HF1076 := HF1075.perm (perm_c1 (perm_f1 (perm_f1 (perm_c1 (perm_c1 (perm_f1 (perm_f1 (perm_f1 (perm_c1 (perm_f1 (perm_f1 (perm_f1 (perm_f1 pR)))))))))))))
   have HF1077 := HF1076.perm (perm_c (perm_c (perm_f (perm_f (perm_c (perm_c (perm_f (perm_f (perm_f (perm_c (perm_f (perm_f (perm_f pR)))))))))))))
   have HF1078 := HF1077.perm (perm_f (perm_c (perm_c (perm_f (perm_f (perm_c (perm_c (perm_f (perm_f (perm_f (perm_c (perm_f (perm_f pR)))))))))))))
   have HF1079 := HF1078.perm (perm_f (perm_f (perm_c (perm_c (perm_f (perm_f (perm_c (perm_c (perm_f (perm_f (perm_f (perm_c (perm_f pR)))))))))))))
   have HF1080 := HF1079.perm (perm_f (perm_f (perm_f (perm_c (perm_c (perm_f (perm_f (perm_c (perm_c (perm_f (perm_f (perm_f (perm_c pR)))))))))))))
   have HF1081 := HF1080.perm (perm_f1 (perm_f1 (perm_f1 (perm_f1 (perm_c1 (perm_c1 (perm_f1 (perm_f1 (perm_c1 (perm_c1 (perm_f1 (perm_f1 (perm_f1 pR)))))))))))))
   have HF1082 := HF1081.perm (perm_c (perm_f (perm_f (perm_f (perm_f (perm_c (perm_c (perm_f (perm_f (perm_c (perm_c (perm_f (perm_f pR)))))))))))))
   have HF1083 := HF1082.perm (perm_f (perm_c (perm_f (perm_f (perm_f (perm_f (perm_c (perm_c (perm_f (perm_f (perm_c (perm_c (perm_f pR)))))))))))))
   have HF1084 := HF1083.perm (perm_f1 (perm_f1 (perm_c1 (perm_f1 (perm_f1 (perm_f1 (perm_f1 (perm_c1 (perm_c1 (perm_f1 (perm_f1 (perm_c1 pR))))))))))))
   have HF1085 := HF1084.perm (perm_c1 (perm_f1 (perm_f1 (perm_c1 (perm_f1 (perm_f1 (perm_f1 (perm_f1 (perm_c1 (perm_c1 (perm_f1 (perm_f1 pR))))))))))))
   have HF1086 := HF1085.perm (perm_c (perm_c (perm_f (perm_f (perm_c (perm_f (perm_f (perm_f (perm_f (perm_c (perm_c (perm_f pR))))))))))))
   have HF1087 := HF1086.perm (perm_f (perm_c (perm_c (perm_f (perm_f (perm_c (perm_f (perm_f (perm_f (perm_f (perm_c (perm_c pR))))))))))))
   have HF1088 := HF1087.perm (perm_f1 (perm_f1 (perm_c1 (perm_c1 (perm_f1 (perm_f1 (perm_c1 (perm_f1 (perm_f1 (perm_f1 (perm_f1 (perm_c1 pR))))))))))))
   have HF1089 := HF1088.perm (perm_c (perm_f (perm_f (perm_c (perm_c (perm_f (perm_f (perm_c (perm_f (perm_f (perm_f (perm_f (perm_c pR)))))))))))))
   refine cLoopB (f_topo_Map.b2 t4 t6 s34) (fun (s37 : Int × (List T_api_Edge)) a w => ∃ (A321 : Option Addr) (c487 : Nat) (L175 : Hp), Env 204 [(2, .pointer (some ⟨g1, 0, none⟩)), (3, .pointer (some ⟨g2, 0, none⟩)), (4, .pointer (some ⟨g3, 0, none⟩)), (13, .pointer (some ⟨g86, 0, none⟩)), (14, .pointer (some ⟨g87, 0, none⟩)), (128, .slice (some ⟨g85, o21, none⟩) t6.length c6), (129, .int .i64 (t6.length : Int)), (130, .int .i64 s34.1), (160, .slice A276 ((rd t6 s34.1).f_Routers).length c428), (161, .int .i64 (((rd t6 s34.1).f_Routers).length : Int)), (162, .int .i64 s37.1)] a ∧ Fits z w (L175 ++ (bk g3 32 [.slice A279 (s34.2.1 ++ [(⟨2, (rd t6 s34.1).f_Head.f_Id⟩ : T_api_Vert)]).length c432, .slice A321 s37.2.length c487, .slice A96 s17.2.2.2.1.length c166, .slice A283 (s34.2.2.2 ++ [(⟨(⟨2, (rd t6 s34.1).f_Head.f_Id⟩ : T_api_Vert), t124, (rd t6 s34.1).f_Bits⟩ : T_api_Span)]).length c438, .slice A97 s17.2.2.2.2.length c167] :: (L169 ++ (L165 ++ (bk g87 35 [.int .i64 2, .int .i64 ((rd t6 s34.1).f_Head.f_Id)] :: (bk g86 44 [.int .i64 ((rd t6 s34.1).f_Head.f_Age), .int .i64 ((rd t6 s34.1).f_Head.f_Kind), .int .i64 ((rd t6 s34.1).f_Head.f_Id), .int .i64 ((rd t6 s34.1).f_Head.f_Adv), .int .i64 ((rd t6 s34.1).f_Head.f_Seq), .int .i64 ((rd t6 s34.1).f_Head.f_Sum), .int .i64 ((rd t6 s34.1).f_Head.f_Len), .int .i64 ((rd t6 s34.1).f_Flags), .slice A275 ((rd t6 s34.1).f_Links).length c427, .int .i64 ((rd t6 s34.1).f_Bits), .slice A276 ((rd t6 s34.1).f_Routers).length c428, .slice A277 ((rd t6 s34.1).f_Verts).length c429] :: (L90 ++ (L91 ++ (bk g2 61 [.slice A3 t3.length c3, .slice (some ⟨g85, o21, none⟩) t6.length c6, mapV A4, mapV A7] :: (L6 ++ (L7 ++ (L3 ++ (L4 ++ (bk g1 32 [.slice none 0 0, .slice none 0 0, .slice none 0 0, .slice none 0 0, .slice none 0 0] :: (N9 ++ F))))))))))))))) ∧ OwnS k_T_api_Edge L175 A321 c487 s37.2) J107 (fun a hE => ⟨_, _, L162, hE.keep (Keep.cons rfl (Keep.cons rfl (Keep.cons rfl (Keep.cons rfl (Keep.cons rfl (Keep.cons rfl (Keep.cons rfl (Keep.cons rfl (Keep.cons rfl (Keep.cons rfl (Keep.cons rfl (Keep.nil)))))))))))), HF1089, ho162⟩) ?_ ?_
   ·rintro s37 a w501 y45 ⟨A321, c487, L175, hE, HF1018, ho175⟩ H Hx8
    refine go_ hE ?_
    refine cSeq (fun K187 hK187 => ?_)
    refine cRgn [] trivial ?_
    refine sL (bLss rfl rfl) rfl ?_
    refine lE ?_
    refine kN (?_)
    refine hK187 _ _ ?_
    refine cSeq (fun K188 hK188 => ?_)
    by_cases c488 : s37.1 < (((rd t6 s34.1).f_Routers).length : Int)
    ·replace H := itT c488 H
     refine cSet (i := 163) rfl (dT c488) ?_
     refine cT rfl ?_
     refine cSkip ?_
     refine kN (?_)
     refine hK188 _ _ ?_
     refine cSeq (fun K189 hK189 => ?_)
     refine cBlock ?_
     refine cSeq (fun K190 hK190 => ?_)
     refine cRgn [] trivial ?_
     refine sL (mv rfl) rfl ?_
     replace H := chk H; obtain ⟨c489, H⟩ := H
     obtain ⟨g102, o24, _, rfl, rfl, q104⟩ := RdS.at_ hr119 c489 c488
     refine sL (ia rfl rfl Try.underlying30 ti3 c489 c488) rfl ?_
     refine sL (ld rfl Try.underlying3 rfl (HF1018.cells ((sub_a (sub_c (sub_a (sub_a (sub_c (sub_c (sub_a (sub_a (sub_c (sub_a (sub_a (sub_a (sub_a (sub_c (sub_n hG)))))))))))))))) (q104 0 _ rfl))) rfl ?_
     refine sL (asg rfl) rfl ?_
     refine sL (asg rfl) rfl ?_
     refine lE ?_
     refine kN (?_)
     refine hK190 _ _ ?_
     refine cSeq (fun K191 hK191 => ?_)
     replace H := bnd H; obtain ⟨y46, H, Ho38⟩ := H
     refine cJoin (y := y46) (fun (s38 : Bool × Int × Int × Int × Int) a w => ∃ (g106 : Nat), Env 204 [(2, .pointer (some ⟨g1, 0, none⟩)), (3, .pointer (some ⟨g2, 0, none⟩)), (4, .pointer (some ⟨g3, 0, none⟩)), (13, .pointer (some ⟨g86, 0, none⟩)), (14, .pointer (some ⟨g87, 0, none⟩)), (15, .int .i64 s37.1), (16, .int .i64 (rd ((rd t6 s34.1).f_Routers) s37.1)), (17, .pointer (some ⟨g106, 0, none⟩)), (18, .bool s38.1), (128, .slice (some ⟨g85, o21, none⟩) t6.length c6), (129, .int .i64 (t6.length : Int)), (130, .int .i64 s34.1), (160, .slice (some ⟨g102, o24, none⟩) ((rd t6 s34.1).f_Routers).length c428), (161, .int .i64 (((rd t6 s34.1).f_Routers).length : Int)), (162, .int .i64 s37.1)] a ∧ Fits z w (bk g106 56 [.int .i64 s38.2.1, .int .i64 s38.2.2.1, .int .i64 s38.2.2.2.1, .int .i64 s38.2.2.2.2] :: (L175 ++ (bk g3 32 [.slice A279 (s34.2.1 ++ [(⟨2, (rd t6 s34.1).f_Head.f_Id⟩ : T_api_Vert)]).length c432, .slice A321 s37.2.length c487, .slice A96 s17.2.2.2.1.length c166, .slice A283 (s34.2.2.2 ++ [(⟨(⟨2, (rd t6 s34.1).f_Head.f_Id⟩ : T_api_Vert), t124, (rd t6 s34.1).f_Bits⟩ : T_api_Span)]).length c438, .slice A97 s17.2.2.2.2.length c167] :: (L169 ++ (L165 ++ (bk g87 35 [.int .i64 2, .int .i64 ((rd t6 s34.1).f_Head.f_Id)] :: (bk g86 44 [.int .i64 ((rd t6 s34.1).f_Head.f_Age), .int .i64 ((rd t6 s34.1).f_Head.f_Kind), .int .i64 ((rd t6 s34.1).f_Head.f_Id), .int .i64 ((rd t6 s34.1).f_Head.f_Adv), .int .i64 ((rd t6 s34.1).f_Head.f_Seq), .int .i64 ((rd t6 s34.1).f_Head.f_Sum), .int .i64 ((rd t6 s34.1).f_Head.f_Len), .int .i64 ((rd t6 s34.1).f_Flags), .slice A275 ((rd t6 s34.1).f_Links).length c427, .int .i64 ((rd t6 s34.1).f_Bits), .slice (some ⟨g102, o24, none⟩) ((rd t6 s34.1).f_Routers).length c428, .slice A277 ((rd t6 s34.1).f_Verts).length c429] :: (L90 ++ (L91 ++ (bk g2 61 [.slice A3 t3.length c3, .slice (some ⟨g85, o21, none⟩) t6.length c6, mapV A4, mapV A7] :: (L6 ++ (L7 ++ (L3 ++ (L4 ++ (bk g1 32 [.slice none 0 0, .slice none 0 0, .slice none 0 0, .slice none 0 0, .slice none 0 0] :: (N9 ++ F))))))))))))))))) ?_ ?_
     ·refine cDraw mo_ HF1018 rfl (fun w => Fits z w (L175 ++ (bk g3 32 [.slice A279 (s34.2.1 ++ [(⟨2, (rd t6 s34.1).f_Head.f_Id⟩ : T_api_Vert)]).length c432, .slice A321 s37.2.length c487, .slice A96 s17.2.2.2.1.length c166, .slice A283 (s34.2.2.2 ++ [(⟨(⟨2, (rd t6 s34.1).f_Head.f_Id⟩ : T_api_Vert), t124, (rd t6 s34.1).f_Bits⟩ : T_api_Span)]).length c438, .slice A97 s17.2.2.2.2.length c167] :: (L169 ++ (L165 ++ (bk g87 35 [.int .i64 2, .int .i64 ((rd t6 s34.1).f_Head.f_Id)] :: (bk g86 44 [.int .i64 ((rd t6 s34.1).f_Head.f_Age), .int .i64 ((rd t6 s34.1).f_Head.f_Kind), .int .i64 ((rd t6 s34.1).f_Head.f_Id), .int .i64 ((rd t6 s34.1).f_Head.f_Adv), .int .i64 ((rd t6 s34.1).f_Head.f_Seq), .int .i64 ((rd t6 s34.1).f_Head.f_Sum), .int .i64 ((rd t6 s34.1).f_Head.f_Len), .int .i64 ((rd t6 s34.1).f_Flags), .slice A275 ((rd t6 s34.1).f_Links).length c427, .int .i64 ((rd t6 s34.1).f_Bits), .slice (some ⟨g102, o24, none⟩) ((rd t6 s34.1).f_Routers).length c428, .slice A277 ((rd t6 s34.1).f_Verts).length c429] :: (L90 ++ (L91 ++ (bk g2 61 [.slice A3 t3.length c3, .slice (some ⟨g85, o21, none⟩) t6.length c6, mapV A4, mapV A7] :: (L6 ++ (L7 ++ (L3 ++ (L4 ++ (bk g1 32 [.slice none 0 0, .slice none 0 0, .slice none 0 0, .slice none 0 0, .slice none 0 0] :: (N9 ++ F)))))))))))))))) (fun w515 HF1044 => ?_)
      refine hT 0 rfl (by kernel_rfl) (fun w_ hS_ => mv rfl) HF1044 rfl rfl ?_
      refine hT 1 rfl (by kernel_rfl) (fun w_ hS_ => nc rfl) HF1044 rfl rfl ?_
      refine hT 2 rfl (by kernel_rfl) (fun w_ hS_ => fa61_2 rfl) HF1044 rfl rfl ?_
      refine hT 3 rfl (by kernel_rfl) (fun w_ hS_ => ld rfl Try.underlying59 rfl (hS_.box (mem_a (mem_c (mem_a (mem_a (mem_c (mem_c (mem_a (mem_a mem_h)))))))) rfl)) HF1044 rfl rfl ?_
      refine hT 4 rfl (by kernel_rfl) (fun w_ hS_ => mv rfl) HF1044 rfl rfl ?_
      obtain ⟨e120, q113, q114, _, hk51⟩ := lookB (z := z) (⟨(⟨0, 0, 0, 0, 0, 0, 0⟩ : T_api_Head), 0, [], 0, [], []⟩ : T_api_Lsa) (rd ((rd t6 s34.1).f_Routers) s37.1) hr3 Try.underlying59 Try.underlying3 ti44 ⟨rfl, mk_T_api_Lsa (x := (⟨(⟨0, 0, 0, 0, 0, 0, 0⟩ : T_api_Head), 0, [], 0, [], []⟩ : T_api_Lsa)) RdS.nil RdS.nil RdS.nil⟩
      obtain ⟨A334, c502, A335, c503, A336, c504, rfl, hr165, hr166, hr167⟩ := rd_T_api_Lsa hk51
      refine hT 5 rfl (by kernel_rfl) (fun w_ hS_ => lookR (q114 hS_ (sub_a (sub_c (sub_a (sub_a (sub_c (sub_c (sub_a (sub_a (sub_c (sub_a (sub_a (sub_a sub_h))))))))))))) rfl rfl) HF1044 rfl rfl ?_
      refine hT 6 rfl (by kernel_rfl) (fun w_ hS_ => fa44_0 rfl) HF1044 rfl rfl ?_
      refine hT 7 rfl (by kernel_rfl) (fun w_ hS_ => fa41_2 rfl) HF1044 rfl rfl ?_
      refine hT 8 rfl (by kernel_rfl) (fun w_ hS_ => ld rfl Try.underlying3 rfl (hS_.box (mem_a (mem_c (mem_a (mem_a (mem_c mem_h))))) rfl)) HF1044 rfl rfl ?_
      refine h2 9 13 (by kernel_rfl) rfl rfl ?_ ?_
      ·replace H := bnd H; obtain ⟨⟨t155, t156⟩, J105, H⟩ := H
       refine qCall rfl gd0 isf26 rfl rfl rfl (f_topo_back.ok (a0 := (mGetD (⟨(⟨0, 0, 0, 0, 0, 0, 0⟩ : T_api_Head), 0, [], 0, [], []⟩ : T_api_Lsa) t4 (rd ((rd t6 s34.1).f_Routers) s37.1))) (sub_a (sub_c (sub_a (sub_a (sub_c (sub_c (sub_a (sub_a (sub_c (sub_a (sub_a (sub_a (sub_a (sub_c (sub_n hG))))))))))))))) J105 HF1044 (sub_a (sub_c (sub_a (sub_a (sub_c (sub_c (sub_a (sub_a (sub_c (sub_a (sub_a (sub_a (sub_a (sub_c (sub_t (sub_t hs4 hs5) (sub_n hG)))))))))))))))) hr165 (sub_a (sub_c (sub_a (sub_a (sub_c (sub_c (sub_a (sub_a (sub_c (sub_a (sub_a (sub_a (sub_a (sub_c (sub_t (sub_t hs4 hs5) (sub_n hG)))))))))))))))) hr166 (sub_a (sub_c (sub_a (sub_a (sub_c (sub_c (sub_a (sub_a (sub_c (sub_a (sub_a (sub_a (sub_a (sub_c (sub_t (sub_t hs4 hs5) (sub_n hG)))))))))))))))) hr167) ?_
       rintro _ w516 ⟨rfl, HF1045⟩
       refine ⟨_, rfl, HF1045, ?_⟩
       refine hT 10 rfl (by kernel_rfl) (fun w_ hS_ => mv rfl) HF1045 rfl rfl ?_
       refine hT 11 rfl (by kernel_rfl) (fun w_ hS_ => ex rfl rfl) HF1045 rfl rfl ?_
       refine hT 12 rfl (by kernel_rfl) (fun w_ hS_ => ex rfl rfl) HF1045 rfl rfl ?_
       refine h1 13 (by kernel_rfl) rfl ?_
       refine qW rfl gd0 (oAlloc HF1045 ti56) rfl ?_
       rintro _ w517 ⟨g108, rfl, HF1046⟩
       have HF1047 := HF1046.sublist (sl_dc (sl_a (sl_c (sl_a (sl_a (sl_c (sl_c (sl_a (sl_a (sl_c (sl_a (sl_a (sl_a (sl_a (sl_c sR)))))))))))))))
       refine ⟨HF1047, ?_⟩
       refine h1 14 (by kernel_rfl) rfl ?_
       refine qS rfl gd0 (oSt (l1 := [.int .i64 t155.f_Kind, .int .i64 t155.f_Id, .int .i64 t155.f_Data, .int .i64 t155.f_Cost]) HF1046 rfl rfl ti56 rfl (ones rfl) (Nat.le_of_ble_eq_true rfl) rfl) ?_
       rintro w518 HF1048
       have HF1049 := HF1048.sublist (sl_dc (sl_a (sl_c (sl_a (sl_a (sl_c (sl_c (sl_a (sl_a (sl_c (sl_a (sl_a (sl_a (sl_a (sl_c sR)))))))))))))))
       refine ⟨HF1049, ?_⟩
       refine hT 15 rfl (by kernel_rfl) (fun w_ hS_ => asg rfl) HF1049 rfl rfl ?_
       refine hEnd (by kernel_rfl) ?_
       refine kN (?_)
       exact ofEnv (fun a hE => ⟨_, (Option.some.inj H).symm, ⟨g108, hE.keep (Keep.cons rfl (Keep.cons rfl (Keep.cons rfl (Keep.cons rfl (Keep.cons rfl (Keep.cons rfl (Keep.cons rfl (Keep.cons rfl (Keep.cons rfl (Keep.cons rfl (Keep.cons rfl (Keep.cons rfl (Keep.cons rfl (Keep.cons rfl (Keep.cons rfl (Keep.nil)))))))))))))))), HF1048⟩⟩)
      refine qW rfl gd0 (oAlloc HF1044 ti56) rfl ?_
      rintro _ w516 ⟨g108, rfl, HF1045⟩
      have HF1046 := HF1045.sublist (sl_dc (sl_a (sl_c (sl_a (sl_a (sl_c (sl_c (sl_a (sl_a (sl_c (sl_a (sl_a (sl_a (sl_a (sl_c sR)))))))))))))))
      refine ⟨HF1046, ?_⟩
      refine h1 9 (by kernel_rfl) rfl ?_
      replace H := bnd H; obtain ⟨⟨t155, t156⟩, J105, H⟩ := H
      refine qCall rfl gd0 isf26 rfl rfl rfl (f_topo_back.ok (a0 := (mGetD (⟨(⟨0, 0, 0, 0, 0, 0, 0⟩ : T_api_Head), 0, [], 0, [], []⟩ : T_api_Lsa) t4 (rd ((rd t6 s34.1).f_Routers) s37.1))) (sub_c (sub_a (sub_c (sub_a (sub_a (sub_c (sub_c (sub_a (sub_a (sub_c (sub_a (sub_a (sub_a (sub_a (sub_c (sub_n hG)))))))))))))))) J105 HF1045 (sub_c (sub_a (sub_c (sub_a (sub_a (sub_c (sub_c (sub_a (sub_a (sub_c (sub_a (sub_a (sub_a (sub_a (sub_c (sub_t (sub_t hs4 hs5) (sub_n hG))))))))))))))))) hr165 (sub_c (sub_a (sub_c (sub_a (sub_a (sub_c (sub_c (sub_a (sub_a (sub_c (sub_a (sub_a (sub_a (sub_a (sub_c (sub_t (sub_t hs4 hs5) (sub_n hG))))))))))))))))) hr166 (sub_c (sub_a (sub_c (sub_a (sub_a (sub_c (sub_c (sub_a (sub_a (sub_c (sub_a (sub_a (sub_a (sub_a (sub_c (sub_t (sub_t hs4 hs5) (sub_n hG))))))))))))))))) hr167) ?_
      rintro _ w517 ⟨rfl, HF1047⟩
      have HF1048 := HF1047.sublist (sl_dc (sl_a (sl_c (sl_a (sl_a (sl_c (sl_c (sl_a (sl_a (sl_c (sl_a (sl_a (sl_a (sl_a (sl_c sR)))))))))))))))
      refine ⟨_, rfl, HF1048, ?_⟩
      refine hT 10 rfl (by kernel_rfl) (fun w_ hS_ => mv rfl) HF1048 rfl rfl ?_
      refine hT 11 rfl (by kernel_rfl) (fun w_ hS_ => ex rfl rfl) HF1048 rfl rfl ?_
      refine hT 12 rfl (by kernel_rfl) (fun w_ hS_ => ex rfl rfl) HF1048 rfl rfl ?_
      refine h1 14 (by kernel_rfl) rfl ?_
      refine qS rfl gd0 (oSt (l1 := [.int .i64 t155.f_Kind, .int .i64 t155.f_Id, .int .i64 t155.f_Data, .int .i64 t155.f_Cost]) HF1047 rfl rfl ti56 rfl (ones rfl) (Nat.le_of_ble_eq_true rfl) rfl) ?_
      rintro w518 HF1049
      have HF1050 := HF1049.sublist (sl_dc (sl_a (sl_c (sl_a (sl_a (sl_c (sl_c (sl_a (sl_a (sl_c (sl_a (sl_a (sl_a (sl_a (sl_c sR)))))))))))))))
      refine ⟨HF1050, ?_⟩
      refine hT 15 rfl (by kernel_rfl) (fun w_ hS_ => asg rfl) HF1050 rfl rfl ?_
      refine hEnd (by kernel_rfl) ?_
      refine kN (?_)
      exact ofEnv (fun a hE => ⟨_, (Option.some.inj H).symm, ⟨g108, hE.keep (Keep.cons rfl (Keep.cons rfl (Keep.cons rfl (Keep.cons rfl (Keep.cons rfl (Keep.cons rfl (Keep.cons rfl (Keep.cons rfl (Keep.cons rfl (Keep.cons rfl (Keep.cons rfl (Keep.cons rfl (Keep.cons rfl (Keep.cons rfl (Keep.cons rfl (Keep.nil)))))))))))))))), HF1049⟩⟩)
     rintro s38 a w519 rfl ⟨g106, hE, HF1051⟩
     replace H := Ho38
     refine go_k hE ?_
     refine kN (?_)
     refine hK191 _ _ ?_
     refine cSeq (fun K192 hK192 => ?_)
     refine cRgn [(1, 181)] ⟨rfl, trivial⟩ ?_
     refine sL (mv rfl) rfl ?_
     refine sL (mv rfl) rfl ?_
     by_cases c505 : s38.1 = true
     ·replace H := itT c505 H
      refine lSet (i := 181) rfl (vT c505) ?_
      refine sG rfl rfl (fa44_4 rfl) rfl ?_
      refine sG rfl rfl (ld rfl Try.underlying30 rfl (HF1051.box (mem_c (mem_a (mem_c (mem_a (mem_a (mem_c mem_h)))))) rfl)) rfl ?_
      refine sG rfl rfl (mv rfl) rfl ?_
      replace H := chk H; obtain ⟨c506, H⟩ := H
      refine eWG rfl rfl (oCutN (K := (kInt .i64)) (xs := ((rd t6 s34.1).f_Routers)) hr119 rfl Try.underlying30 ti3 rfl rfl (by decide) c489 c506) rfl ?_
      rintro _ _ ⟨A337, c507, rfl, rfl, hr168⟩
      refine sG rfl rfl (mv rfl) rfl ?_
      replace H := bnd H; obtain ⟨t157, J106, H⟩ := H
      refine eCallG rfl rfl isf27 rfl rfl rfl (f_slices_Contains_int_int.ok (a0 := (cutL ((rd t6 s34.1).f_Routers) 0 s37.1)) (sub_c (sub_a (sub_c (sub_a (sub_a (sub_c (sub_c (sub_a (sub_a (sub_c (sub_a (sub_a (sub_a (sub_a (sub_c (sub_n hG)))))))))))))))) J106 HF1051 (sub_c (sub_a (sub_c (sub_a (sub_a (sub_c (sub_c (sub_a (sub_a (sub_c (sub_a (sub_a (sub_a (sub_a (sub_c (sub_n hG)))))))))))))))) hr168) ?_
      rintro _ w521 ⟨rfl, HF1052⟩
      refine ⟨_, rfl, ?_⟩
      refine sG rfl rfl (uNot rfl) rfl ?_
      refine sL (pkT rfl rfl) rfl ?_
      refine lE ?_
      refine kN (?_)
      refine hK192 _ _ ?_
      by_cases c508 : t157 = true
      ·replace H := itT c508 H
       refine cSet (i := 189) rfl (wF c508) ?_
       refine cF rfl ?_
       refine cSkip ?_
       refine jN (kN (?_))
       refine hK189 _ _ ?_
       refine cRgn [] trivial ?_
       refine sL (bAdd rfl rfl) rfl ?_
       refine sL (mv rfl) rfl ?_
       refine lE ?_
       refine kN (?_)
       have HF1053 := HF1052.sublist (sl_dc (sl_a (sl_c (sl_a (sl_a (sl_c (sl_c (sl_a (sl_a (sl_c (sl_a (sl_a (sl_a (sl_a (sl_c sR)))))))))))))))
       exact ofEnv (fun a hE => ⟨_, (Option.some.inj H).symm, ⟨_, _, L175, hE.keep (Keep.cons rfl (Keep.cons rfl (Keep.cons rfl (Keep.cons rfl (Keep.cons rfl (Keep.cons rfl (Keep.cons rfl (Keep.cons rfl (Keep.cons rfl (Keep.cons rfl (Keep.cons rfl (Keep.nil)))))))))))), HF1053, ho175⟩⟩)
      replace H := itF c508 H
      refine cSet (i := 189) rfl (wT c508) ?_
      refine cT rfl ?_
      refine cRgn [] trivial ?_
      refine sL (fa32_1 rfl) rfl ?_
      refine sL (ld rfl Try.underlying27 rfl (HF1052.box (mem_c (mem_a mem_h)) rfl)) rfl ?_
      refine sL (ldA (cs := [.int .i64 2, .int .i64 ((rd t6 s34.1).f_Head.f_Id)]) rfl ti35 rfl rfl (HF1052.boxes (o := 0) (n := 2) (mem_c (mem_a (mem_c (mem_a (mem_a mem_h))))) rfl)) rfl ?_
      refine sL (mv rfl) rfl ?_
      refine sL (bd (r := [.int .i64 1, .int .i64 (rd ((rd t6 s34.1).f_Routers) s37.1)]) pl35 ti35 rfl rfl) rfl ?_
      refine sL (fa56_2 rfl) rfl ?_
      refine sL (ld rfl Try.underlying3 rfl (HF1052.box (mem_h) rfl)) rfl ?_
      refine sL (bd (r := [.int .i64 2, .int .i64 ((rd t6 s34.1).f_Head.f_Id), .int .i64 1, .int .i64 (rd ((rd t6 s34.1).f_Routers) s37.1), .int .i64 0, .int .i64 s38.2.2.2.1]) pl37 ti37 rfl rfl) rfl ?_
      refine eW (oLit (r := [.int .i64 2, .int .i64 ((rd t6 s34.1).f_Head.f_Id), .int .i64 1, .int .i64 (rd ((rd t6 s34.1).f_Routers) s37.1), .int .i64 0, .int .i64 s38.2.2.2.1]) k_T_api_Edge [(⟨(⟨2, (rd t6 s34.1).f_Head.f_Id⟩ : T_api_Vert), (⟨1, (rd ((rd t6 s34.1).f_Routers) s37.1)⟩ : T_api_Vert), 0, s38.2.2.2.1⟩ : T_api_Edge)] HF1052 Try.underlying27 ti37 rfl rfl rfl rfl ⟨[], [], [.int .i64 2, .int .i64 ((rd t6 s34.1).f_Head.f_Id), .int .i64 1, .int .i64 (rd ((rd t6 s34.1).f_Routers) s37.1), .int .i64 0, .int .i64 s38.2.2.2.1], _, rfl, rfl, ⟨rfl, rfl⟩, ⟨rfl, rfl⟩⟩ rfl rfl) rfl ?_
      rintro _ w522 ⟨L176, A338, c509, rfl, HF1054, ho176⟩
      replace H := chk H; obtain ⟨c510, H⟩ := H
      have HF1055 := HF1054.perm (perm_f (perm_c pR))
      refine eW (oApp (xs := s37.2) (ys := ([(⟨(⟨2, (rd t6 s34.1).f_Head.f_Id⟩ : T_api_Vert), (⟨1, (rd ((rd t6 s34.1).f_Routers) s37.1)⟩ : T_api_Vert), 0, s38.2.2.2.1⟩ : T_api_Edge)])) k_T_api_Edge HF1055 rfl rfl Try.underlying27 Try.underlying27 ti37 rfl ho175 (srcR shrF ho176.rd HF1055 (sub_a sub_h)) c510 rfl) rfl ?_
      rintro _ w523 ⟨L177, A339, c511, rfl, HF1056, ho177⟩
      refine sL (fa32_1 rfl) rfl ?_
      have HF1057 := HF1056.perm (perm_f1 (perm_f1 (perm_c1 pR)))
      refine eS (oSt1 (l1 := [.slice A279 (s34.2.1 ++ [(⟨2, (rd t6 s34.1).f_Head.f_Id⟩ : T_api_Vert)]).length c432, .slice A339 (s37.2 ++ [(⟨(⟨2, (rd t6 s34.1).f_Head.f_Id⟩ : T_api_Vert), (⟨1, (rd ((rd t6 s34.1).f_Routers) s37.1)⟩ : T_api_Vert), 0, s38.2.2.2.1⟩ : T_api_Edge)]).length c511, .slice A96 s17.2.2.2.1.length c166, .slice A283 (s34.2.2.2 ++ [(⟨(⟨2, (rd t6 s34.1).f_Head.f_Id⟩ : T_api_Vert), t124, (rd t6 s34.1).f_Bits⟩ : T_api_Span)]).length c438, .slice A97 s17.2.2.2.2.length c167]) HF1057 rfl rfl ti27 rfl rfl rfl) ?_
      rintro w524 HF1058
      refine lE ?_
      refine jN (kN (?_))
      refine hK189 _ _ ?_
      refine cRgn [] trivial ?_
      refine sL (bAdd rfl rfl) rfl ?_
      refine sL (mv rfl) rfl ?_
      refine lE ?_
      refine kN (?_)
      have HF1059 := HF1058.sublist (sl_c (sl_a (sl_da (sl_dc (sl_a (sl_a (sl_c (sl_c (sl_a (sl_a (sl_c (sl_a (sl_a (sl_a (sl_a (sl_c sR))))))))))))))))
      have HF1060 := HF1059.perm (perm_c1 (perm_f1 (perm_f1 (perm_f1 (perm_c1 (perm_c1 (perm_f1 (perm_f1 (perm_c1 (perm_f1 (perm_f1 (perm_f1 (perm_f1 pR)))))))))))))
      have HF1061 := HF1060.perm (perm_c (perm_c (perm_f (perm_f (perm_f (perm_c (perm_c (perm_f (perm_f (perm_c (perm_f (perm_f (perm_f pR)))))))))))))
      have HF1062 := HF1061.perm (perm_f (perm_c (perm_c (perm_f (perm_f (perm_f (perm_c (perm_c (perm_f (perm_f (perm_c (perm_f (perm_f pR)))))))))))))
      have HF1063 := HF1062.perm (perm_f (perm_f (perm_c (perm_c (perm_f (perm_f (perm_f (perm_c (perm_c (perm_f (perm_f (perm_c (perm_f pR)))))))))))))
      have HF1064 := HF1063.perm (perm_f (perm_f (perm_f (perm_c (perm_c (perm_f (perm_f (perm_f (perm_c (perm_c (perm_f (perm_f (perm_c pR)))))))))))))
      have HF1065 := HF1064.perm (perm_f1 (perm_f1 (perm_f1 (perm_f1 (perm_c1 (perm_c1 (perm_f1 (perm_f1 (perm_f1 (perm_c1 (perm_c1 (perm_f1 (perm_f1 pR)))))))))))))
      have HF1066 := HF1065.perm (perm_c (perm_f (perm_f (perm_f (perm_f (perm_c (perm_c (perm_f (perm_f (perm_f (perm_c (perm_c (perm_f pR)))))))))))))
      have HF1067 := HF1066.perm (perm_f (perm_c (perm_f (perm_f (perm_f (perm_f (perm_c (perm_c (perm_f (perm_f (perm_f (perm_c (perm_c pR)))))))))))))
      have HF1068 := HF1067.perm (perm_f1 (perm_f1 (perm_c1 (perm_f1 (perm_f1 (perm_f1 (perm_f1 (perm_c1 (perm_c1 (perm_f1 (perm_f1 (perm_f1 (perm_c1 pR)))))))))))))
      have HF1069 := HF1068.perm (perm_c1 (perm_f1 (perm_f1 (perm_c1 (perm_f1 (perm_f1 (perm_f1 (perm_f1 (perm_c1 (perm_c1 (perm_f1 (perm_f1 (perm_f1 pR)))))))))))))
      have HF1070 := HF1069.perm (perm_c (perm_c (perm_f (perm_f (perm_c (perm_f (perm_f (perm_f (perm_f (perm_c (perm_c (perm_f (perm_f pR)))))))))))))
      have HF1071 := HF1070.perm (perm_f (perm_c (perm_c (perm_f (perm_f (perm_c (perm_f (perm_f (perm_f (perm_f (perm_c (perm_c (perm_f pR)))))))))))))
      have HF1072 := HF1071.perm (perm_f1 (perm_f1 (perm_c1 (perm_c1 (perm_f1 (perm_f1 (perm_c1 (perm_f1 (perm_f1 (perm_f1 (perm_f1 (perm_c1 pR))))))))))))
      have HF1073 := HF1072.perm (perm_c (perm_f (perm_f (perm_c (perm_c (perm_f (perm_f (perm_c (perm_f (perm_f (perm_f (perm_f (perm_c pR)))))))))))))
      exact ofEnv (fun a hE => ⟨_, (Option.some.inj H).symm, ⟨_, _, L177, hE.keep (Keep.cons rfl (Keep.cons rfl (Keep.cons rfl (Keep.cons rfl (Keep.cons rfl (Keep.cons rfl (Keep.cons rfl (Keep.cons rfl (Keep.cons rfl (Keep.cons rfl (Keep.cons rfl (Keep.nil)))))))))))), HF1073, ho177⟩⟩)
     replace H := itF c505 H
     refine lSet (i := 181) rfl (vF c505) ?_
     refine sN rfl rfl rfl rfl ?_
     refine sN rfl rfl rfl rfl ?_
     refine sN rfl rfl rfl rfl ?_
     refine sN rfl rfl rfl rfl ?_
     refine sN rfl rfl rfl rfl ?_
     refine sN rfl rfl rfl rfl ?_
     refine sN rfl rfl rfl rfl ?_
     refine sL (pkF rfl rfl) rfl ?_
     refine lE ?_
     refine kN (?_)
     refine hK192 _ _ ?_
     refine cF rfl ?_
     refine cSkip ?_
     refine jN (kN (?_))
     refine hK189 _ _ ?_
     refine cRgn [] trivial ?_
     refine sL (bAdd rfl rfl) rfl ?_
     refine sL (mv rfl) rfl ?_
     refine lE ?_
     refine kN (?_)
     have HF1074 := HF1051.sublist (sl_dc (sl_a (sl_c (sl_a (sl_a (sl_c (sl_c (sl_a (sl_a (sl_c (sl_a (sl_a (sl_a (sl_a (sl_c sR)))))))))))))))
     exact ofEnv (fun a hE => ⟨_, (Option.some.inj H).symm, ⟨_, _, L175, hE.keep (Keep.cons rfl (Keep.cons rfl (Keep.cons rfl (Keep.cons rfl (Keep.cons rfl (Keep.cons rfl (Keep.cons rfl (Keep.cons rfl (Keep.cons rfl (Keep.cons rfl (Keep.cons rfl (Keep.nil)))))))))))), HF1074, ho175⟩⟩)
    replace H := itF c488 H
    refine cSet (i := 163) rfl (dF c488) ?_
    refine cF rfl ?_
    refine cExit ?_
    refine kX (kX (jX (kN (?_))))
    exact ofEnv (fun a hE => ⟨_, (Option.some.inj H).symm, ⟨_, _, L175, hE.keep (Keep.cons rfl (Keep.cons rfl (Keep.cons rfl (Keep.cons rfl (Keep.cons rfl (Keep.cons rfl (Keep.cons rfl (Keep.cons rfl (Keep.cons rfl (Keep.cons rfl (Keep.cons rfl (Keep.nil)))))))))))), HF1018, ho175⟩⟩)
   rintro s37 a w525 rfl ⟨A321, c487, L175, hE, HF1090, ho175⟩
   replace H := Ho37
   refine go_k hE ?_
   refine jN (kN (?_))
   refine hK169 _ _ ?_
   refine cRgn [] trivial ?_
   refine sL (bAdd rfl rfl) rfl ?_
   refine sL (mv rfl) rfl ?_
   refine lE ?_
   refine kN (?_)
   have HF1091 := HF1090.sublist (sl_a (sl_c (sl_a (sl_a (sl_dc (sl_dc (sl_a (sl_a (sl_c (sl_a (sl_a (sl_a (sl_a (sl_c sR))))))))))))))
   have HF1092 := HF1091.perm (perm_f1 (perm_c1 (perm_f1 (perm_f1 (perm_f1 (perm_f1 (perm_c1 (perm_f1 (perm_f1 (perm_f1 (perm_f1 pR)))))))))))
   have HF1093 := HF1092.perm (perm_c (perm_f (perm_c (perm_f (perm_f (perm_f (perm_f (perm_c (perm_f (perm_f (perm_f pR)))))))))))
   have HF1094 := HF1093.perm (perm_f (perm_c (perm_f (perm_c (perm_f (perm_f (perm_f (perm_f (perm_c (perm_f (perm_f pR)))))))))))
   have HF1095 := HF1094.perm (perm_f (perm_f (perm_c (perm_f (perm_c (perm_f (perm_f (perm_f (perm_f (perm_c (perm_f pR)))))))))))
   have HF1096 := HF1095.perm (perm_f (perm_f (perm_f (perm_c (perm_f (perm_c (perm_f (perm_f (perm_f (perm_f (perm_c pR)))))))))))
   have HF1097 := HF1096.perm (perm_f1 (perm_f1 (perm_f1 (perm_f1 (perm_c1 (perm_f1 (perm_c1 (perm_f1 (perm_f1 (perm_f1 (perm_f1 pR)))))))))))
   have HF1098 := HF1097.perm (perm_c1 (perm_f1 (perm_f1 (perm_f1 (perm_f1 (perm_c1 (perm_f1 pR)))))))
   have HF1099 := HF1098.perm (perm_c (perm_c (perm_f (perm_f (perm_f (perm_f (perm_c (perm_f (perm_f (perm_f (perm_f pR)))))))))))
   have HF1100 := HF1099.perm (perm_f (perm_c (perm_c (perm_f (perm_f (perm_f (perm_f (perm_c (perm_f (perm_f (perm_f pR)))))))))))
   have HF1101 := HF1100.perm (perm_f (perm_f (perm_c (perm_c (perm_f (perm_f (perm_f (perm_f (perm_c (perm_f pR))))))))))
   have HF1102 := HF1101.perm (perm_f (perm_f (perm_f (perm_c (perm_c (perm_f (perm_f (perm_f (perm_f (perm_c pR))))))))))
   have HF1103 := HF1102.perm (perm_f (perm_f (perm_f (perm_f (perm_c (perm_c (perm_f (perm_f (perm_f (perm_f (perm_c pR)))))))))))
   exact ofEnv (fun a hE => ⟨_, (Option.some.inj H).symm, ⟨_, _, L165, _, _, L175, _, _, L169, hE.keep (Keep.cons rfl (Keep.cons rfl (Keep.cons rfl (Keep.cons rfl (Keep.cons rfl (Keep.cons rfl (Keep.nil))))))), HF1103, ho165, ho175, ho169⟩⟩)
  replace H := itF c425 H
  refine cSet (i := 131) rfl (dF c425) ?_
  refine cF rfl ?_
  refine cExit ?_
  refine kX (kX (jX (kN (?_))))
  exact ofEnv (fun a hE => ⟨_, (Option.some.inj H).symm, ⟨_, _, L161, _, _, L162, _, _, L163, hE.keep (Keep.cons rfl (Keep.cons rfl (Keep.cons rfl (Keep.cons rfl (Keep.cons rfl (Keep.cons rfl (Keep.nil))))))), HF911, ho161, ho162, ho163⟩⟩)
 rintro s34 a w526 rfl ⟨A272, c422, L161, A273, c423, L162, A274, c424, L163, hE, HF1104, ho161, ho162, ho163⟩
 replace H := Ho34
 refine go_k hE ?_
 refine kN (?_)
 refine hK113 _ _ ?_
 refine cSeq (fun K193 hK193 => ?_)
 refine cRgn [] trivial ?_
 refine sL (ldA (cs := [.slice A272 s34.2.1.length c422, .slice A273 s34.2.2.1.length c423, .slice A96 s17.2.2.2.1.length c166, .slice A274 s34.2.2.2.length c424, .slice A97 s17.2.2.2.2.length c167]) rfl ti32 rfl rfl (HF1104.boxes (o := 0) (n := 5) (mem_a (mem_a (mem_a (mem_a (mem_a mem_h))))) rfl)) rfl ?_
 have HF1105 := HF1104.perm (perm_f1 (perm_f1 (perm_f1 (perm_f1 (perm_f1 (perm_c1 (perm_c1 (perm_f1 (perm_f1 (perm_f1 (perm_f1 pR)))))))))))
 refine eS (oSt (l1 := [.slice A272 s34.2.1.length c422, .slice A273 s34.2.2.1.length c423, .slice A96 s17.2.2.2.1.length c166, .slice A274 s34.2.2.2.length c424, .slice A97 s17.2.2.2.2.length c167]) HF1105 rfl rfl ti32 rfl (ones rfl) (Nat.le_of_ble_eq_true rfl) rfl) ?_
 rintro w527 HF1106
 refine lE ?_
 refine kN (?_)
 refine hK193 _ _ ?_
 refine cRet ?_
 have HF1107 := HF1106.perm (pm_c (perm_f (perm_f (perm_f (perm_f (perm_c (perm_c (perm_f (perm_f (perm_f (perm_f pR)))))))))).symm)
 obtain ⟨N10, hN5⟩ : ∃ N_, N_ = L161 ++ N9 := ⟨_, rfl⟩
 have HF1108 := HF1107; rw [← List.append_assoc L161 N9 F, ← hN5] at HF1108
 have hs6 : N9 ++ G ⊆ N10 ++ G := frz_s hN5
 have hz1 : RdS k_T_api_Vert (N10 ++ G) A272 c422 s34.2.1 := RdS.mono ho161.rd (frz_l hN5)
 have HF1109 := HF1108.perm (pm_c (perm_f (perm_f (perm_f (perm_c (perm_c (perm_f (perm_f (perm_f (perm_f pR))))))))).symm)
 obtain ⟨N11, hN6⟩ : ∃ N_, N_ = L162 ++ N10 := ⟨_, rfl⟩
 have HF1110 := HF1109; rw [← List.append_assoc L162 N10 F, ← hN6] at HF1110
 have hs7 : N10 ++ G ⊆ N11 ++ G := frz_s hN6
 have hz2 : RdS k_T_api_Edge (N11 ++ G) A273 c423 s34.2.2.1 := RdS.mono ho162.rd (frz_l hN6)
 have HF1111 := HF1110.perm (pm_c (pm_a (perm_f (perm_c (perm_c (perm_f (perm_f (perm_f (perm_f pR))))))).symm))
 obtain ⟨N12, hN7⟩ : ∃ N_, N_ = L90 ++ N11 := ⟨_, rfl⟩
 have HF1112 := HF1111; rw [← List.append_assoc L90 N11 F, ← hN7] at HF1112
 have hs8 : N11 ++ G ⊆ N12 ++ G := frz_s hN7
 have hz3 : RdS k_T_api_Stub (N12 ++ G) A96 c166 s17.2.2.2.1 := RdS.mono ho90.rd (frz_l hN7)
 have HF1113 := HF1112.perm (pm_c (perm_f (perm_c (perm_c (perm_f (perm_f (perm_f (perm_f pR))))))).symm)
 obtain ⟨N13, hN8⟩ : ∃ N_, N_ = L163 ++ N12 := ⟨_, rfl⟩
 have HF1114 := HF1113; rw [← List.append_assoc L163 N12 F, ← hN8] at HF1114
 have hs9 : N12 ++ G ⊆ N13 ++ G := frz_s hN8
 have hz4 : RdS k_T_api_Span (N13 ++ G) A274 c424 s34.2.2.2 := RdS.mono ho163.rd (frz_l hN8)
 have HF1115 := HF1114.perm (pm_c (perm_c (perm_c (perm_f (perm_f (perm_f (perm_f pR)))))).symm)
 obtain ⟨N14, hN9⟩ : ∃ N_, N_ = L91 ++ N13 := ⟨_, rfl⟩
 have HF1116 := HF1115; rw [← List.append_assoc L91 N13 F, ← hN9] at HF1116
 have hs10 : N13 ++ G ⊆ N14 ++ G := frz_s hN9
 have hz5 : RdS (kInt .i64) (N14 ++ G) A97 c167 s17.2.2.2.2 := RdS.mono ho91.rd (frz_l hN9)
 obtain rfl := Option.some.inj H
 refine retA rfl (rvC rfl (lvA (cs := [.slice A272 s34.2.1.length c422, .slice A273 s34.2.2.1.length c423, .slice A96 s17.2.2.2.1.length c166, .slice A274 s34.2.2.2.length c424, .slice A97 s17.2.2.2.2.length c167]) ti32 rfl rfl (HF1116.boxes (o := 0) (n := 5) (mem_h) rfl))) ?_
 have HF1117 := HF1116.sublist (sl_dc (sl_dc (sl_dc (sl_da (sl_da (sl_da (sl_da sR)))))))
 exact ⟨N14, _, _, _, _, _, _, _, _, _, _, rfl, HF1117, (RdS.mono hz1 (sub_t hs7 (sub_t hs8 (sub_t hs9 hs10)))), (RdS.mono hz2 (sub_t hs8 (sub_t hs9 hs10))), (RdS.mono hz3 (sub_t hs9 hs10)), (RdS.mono hz4 hs10), hz5⟩
/-! ### plenum/plenumlaw17.awake (function 10) -/
abbrev f_plenumlaw17_awake.R := Bool
noncomputable def f_plenumlaw17_awake : Option f_plenumlaw17_awake.R := ((f_topo_Map []).bind fun t1 => ((f_topo_Map ([(⟨(⟨0, 1, 3, 3, 0, 0, 0⟩ : T_api_Head), 0, [], 0, [], []⟩ : T_api_Lsa)])).bind fun t2 => (if (t1.f_Verts.length : Int) = 0 then (if (t2.f_Verts.length : Int) = 1 then (if 0 < (t2.f_Verts.length : Int) then some (decide ((rd t2.f_Verts 0) = (⟨1, 3⟩ : T_api_Vert))) else none) else some false) else some false)))
set_option maxHeartbeats 1000000 in
theorem f_plenumlaw17_awake.ok {z w : World} {F G : Hp} (hG : G ⊆ F) {r : f_plenumlaw17_awake.R} (H : f_plenumlaw17_awake = some r) (HF : Fits z w F) :
  Calls Try.prog 10 [].toArray w fun e w' => e = .returned (.bool r) ∧ Fits z w' F := by
 unfold f_plenumlaw17_awake at H
 refine enter0 Try.func10 rfl Try.ntmps10 rfl (E := []) rfl ?_
 refine cSeq (fun K1 hK1 => ?_)
 refine cRgn [] trivial ?_
 refine sL (asg rfl) rfl ?_
 refine lE ?_
 refine kN (?_)
 refine hK1 _ _ ?_
 refine cSeq (fun K2 hK2 => ?_)
 refine cRgn [] trivial ?_
 replace H := bnd H; obtain ⟨t1, J1, H⟩ := H
 refine eCall isf9 rfl rfl rfl (f_topo_Map.ok (a0 := []) hG J1 HF hG RdS.nil) ?_
 rintro _ w1 ⟨N1, A1, c1, A2, c2, A3, c3, A4, c4, A5, c5, rfl, HF1, hr1, hr2, hr3, hr4, hr5⟩
 have hs1 : G ⊆ N1 ++ G := sub_a sub_r
 refine ⟨_, rfl, ?_⟩
 refine eW (oAlloc HF1 ti32) rfl ?_
 rintro _ w2 ⟨g1, rfl, HF2⟩
 refine eS (oSt (l1 := [.slice A1 t1.f_Verts.length c1, .slice A2 t1.f_Edges.length c2, .slice A3 t1.f_Stubs.length c3, .slice A4 t1.f_Spans.length c4, .slice A5 t1.f_Wilds.length c5]) HF2 rfl rfl ti32 rfl (ones rfl) (Nat.le_of_ble_eq_true rfl) rfl) ?_
 rintro w3 HF3
 refine lE ?_
 refine kN (?_)
 refine hK2 _ _ ?_
 refine cSeq (fun K3 hK3 => ?_)
 refine cRgn [] trivial ?_
 refine sL (bd (r := [.int .i64 0, .int .i64 1, .int .i64 3, .int .i64 3, .int .i64 0, .int .i64 0, .int .i64 0]) pl41 ti41 rfl rfl) rfl ?_
 refine sL (bd (r := [.int .i64 0, .int .i64 1, .int .i64 3, .int .i64 3, .int .i64 0, .int .i64 0, .int .i64 0, .int .i64 0, .slice none 0 0, .int .i64 0, .slice none 0 0, .slice none 0 0]) pl44 ti44 rfl rfl) rfl ?_
 refine eW (oLit (r := [.int .i64 0, .int .i64 1, .int .i64 3, .int .i64 3, .int .i64 0, .int .i64 0, .int .i64 0, .int .i64 0, .slice none 0 0, .int .i64 0, .slice none 0 0, .slice none 0 0]) (kShr (N1 ++ G) k_T_api_Lsa) [(⟨(⟨0, 1, 3, 3, 0, 0, 0⟩ : T_api_Head), 0, [], 0, [], []⟩ : T_api_Lsa)] HF3 Try.underlying24 ti44 rfl rfl rfl rfl ⟨[], [], [.int .i64 0, .int .i64 1, .int .i64 3, .int .i64 3, .int .i64 0, .int .i64 0, .int .i64 0, .int .i64 0, .slice none 0 0, .int .i64 0, .slice none 0 0, .slice none 0 0], _, rfl, rfl, ⟨rfl, mk_T_api_Lsa (x := (⟨(⟨0, 1, 3, 3, 0, 0, 0⟩ : T_api_Head), 0, [], 0, [], []⟩ : T_api_Lsa)) (RdS.nil) (RdS.nil) (RdS.nil)⟩, ⟨rfl, rfl⟩⟩ rfl rfl) rfl ?_
 rintro _ w4 ⟨L1, A6, c6, rfl, HF4, ho1⟩
 replace H := bnd H; obtain ⟨t2, J2, H⟩ := H
 refine eCall isf9 rfl rfl rfl (f_topo_Map.ok (a0 := [(⟨(⟨0, 1, 3, 3, 0, 0, 0⟩ : T_api_Head), 0, [], 0, [], []⟩ : T_api_Lsa)]) (sub_a (sub_c (sub_n hG))) J2 HF4 sub_h ho1.rd) ?_
 rintro _ w5 ⟨N2, A7, c7, A8, c8, A9, c9, A10, c10, A11, c11, rfl, HF5, hr6, hr7, hr8, hr9, hr10⟩
 have HF6 := HF5.perm (perm_f (perm_c pR)).symm
 obtain ⟨N3, hN1⟩ : ∃ N_, N_ = N2 ++ N1 := ⟨_, rfl⟩
 have HF7 := HF6; rw [← List.append_assoc N2 N1 F, ← hN1] at HF7
 have hs2 : N1 ++ G ⊆ N3 ++ G := frz_s hN1
 have hr11 := RdS.mono (Y := (N3 ++ G)) hr6 (frz_c hN1)
 have hr12 := RdS.mono (Y := (N3 ++ G)) hr7 (frz_c hN1)
 have hr13 := RdS.mono (Y := (N3 ++ G)) hr8 (frz_c hN1)
 have hr14 := RdS.mono (Y := (N3 ++ G)) hr9 (frz_c hN1)
 have hr15 := RdS.mono (Y := (N3 ++ G)) hr10 (frz_c hN1)
 refine ⟨_, rfl, ?_⟩
 refine eW (oAlloc HF7 ti32) rfl ?_
 rintro _ w6 ⟨g2, rfl, HF8⟩
 refine eS (oSt (l1 := [.slice A7 t2.f_Verts.length c7, .slice A8 t2.f_Edges.length c8, .slice A9 t2.f_Stubs.length c9, .slice A10 t2.f_Spans.length c10, .slice A11 t2.f_Wilds.length c11]) HF8 rfl rfl ti32 rfl (ones rfl) (Nat.le_of_ble_eq_true rfl) rfl) ?_
 rintro w7 HF9
 refine lE ?_
 refine kN (?_)
 refine hK3 _ _ ?_
 refine cSeq (fun K4 hK4 => ?_)
 refine cRgn [(4, 12), (10, 18)] ⟨rfl, rfl, trivial⟩ ?_
 refine sL (fa32_0 rfl) rfl ?_
 refine sL (ld rfl Try.underlying26 rfl (HF9.box (mem_c (mem_a mem_h)) rfl)) rfl ?_
 refine sL (lnS rfl Try.underlying26) rfl ?_
 refine sL (bEql rfl rfl) rfl ?_
 refine sL (mv rfl) rfl ?_
 by_cases c12 : (t1.f_Verts.length : Int) = 0
 ·replace H := itT c12 H
  refine lSet (i := 12) rfl (dT c12) ?_
  refine sG rfl rfl (fa32_0 rfl) rfl ?_
  refine sG rfl rfl (ld rfl Try.underlying26 rfl (HF9.box (mem_h) rfl)) rfl ?_
  refine sG rfl rfl (lnS rfl Try.underlying26) rfl ?_
  refine sG rfl rfl (bEql rfl rfl) rfl ?_
  refine sL (pkT rfl rfl) rfl ?_
  refine sL (mv rfl) rfl ?_
  by_cases c13 : (t2.f_Verts.length : Int) = 1
  ·replace H := itT c13 H
   refine lSet (i := 18) rfl (dT c13) ?_
   refine sG rfl rfl (fa32_0 rfl) rfl ?_
   refine sG rfl rfl (ld rfl Try.underlying26 rfl (HF9.box (mem_h) rfl)) rfl ?_
   replace H := chk H; obtain ⟨c14, H⟩ := H
   obtain ⟨g3, o1, _, rfl, rfl, q1⟩ := RdS.at_ hr11 (by decide) c14
   refine sG rfl rfl (ia rfl rfl Try.underlying26 ti35 (by decide) c14) rfl ?_
   refine sG rfl rfl (ldA rfl ti35 rfl rfl (fun j v hj => HF9.cells ((sub_c (sub_a (sub_c (sub_n hG))))) (q1 j v hj))) rfl ?_
   refine sG rfl rfl (bd (r := [.int .i64 1, .int .i64 3]) pl35 ti35 rfl rfl) rfl ?_
   refine sG rfl rfl (bAggEql (xs := [.int .i64 ((rd t2.f_Verts 0).f_Kind), .int .i64 ((rd t2.f_Verts 0).f_Id)]) (ys := [.int .i64 1, .int .i64 3]) (n := 2) rfl rfl eg35 (eqStruct Try.underlying35 sh35 (eqFcons (by decide) (pt1 Try.underlying3 rfl rfl) (pt1 Try.underlying3 rfl rfl) (eqInt Try.underlying3) (eqFcons (by decide) (pt1 Try.underlying3 rfl rfl) (pt1 Try.underlying3 rfl rfl) (eqInt Try.underlying3) eqFnil))) rfl (eq_T_api_Vert (rd t2.f_Verts 0) (⟨1, 3⟩ : T_api_Vert))) rfl ?_
   refine sL (pkT rfl rfl) rfl ?_
   refine sL (asg rfl) rfl ?_
   refine lE ?_
   refine kN (?_)
   refine hK4 _ _ ?_
   refine cRet ?_
   obtain rfl := Option.some.inj H
   refine ret1 rfl rfl ?_
   have HF10 := HF9.sublist (sl_dc (sl_da (sl_dc sR)))
   have HF11 := Fits.conv (L' := ((N2 ++ N1) ++ F)) HF10 (by rw [hN1] <;> rfl)
   have HF12 := HF11.sublist (sl_da sR)
   exact ⟨rfl, HF12⟩
  replace H := itF c13 H
  refine lSet (i := 18) rfl (dF c13) ?_
  refine sN rfl rfl rfl rfl ?_
  refine sN rfl rfl rfl rfl ?_
  refine sN rfl rfl rfl rfl ?_
  refine sN rfl rfl rfl rfl ?_
  refine sN rfl rfl rfl rfl ?_
  refine sN rfl rfl rfl rfl ?_
  refine sL (pkF rfl rfl) rfl ?_
  refine sL (asg rfl) rfl ?_
  refine lE ?_
  refine kN (?_)
  refine hK4 _ _ ?_
  refine cRet ?_
  obtain rfl := Option.some.inj H
  refine ret1 rfl rfl ?_
  have HF13 := HF9.sublist (sl_dc (sl_da (sl_dc sR)))
  have HF14 := Fits.conv (L' := ((N2 ++ N1) ++ F)) HF13 (by rw [hN1] <;> rfl)
  have HF15 := HF14.sublist (sl_da sR)
  exact ⟨rfl, HF15⟩
 replace H := itF c12 H
 refine lSet (i := 12) rfl (dF c12) ?_
 refine sN rfl rfl rfl rfl ?_
 refine sN rfl rfl rfl rfl ?_
 refine sN rfl rfl rfl rfl ?_
 refine sN rfl rfl rfl rfl ?_
 refine sL (pkF rfl rfl) rfl ?_
 refine sL (mv rfl) rfl ?_
 refine sN rfl rfl rfl rfl ?_
 refine sN rfl rfl rfl rfl ?_
 refine sN rfl rfl rfl rfl ?_
 refine sN rfl rfl rfl rfl ?_
 refine sN rfl rfl rfl rfl ?_
 refine sN rfl rfl rfl rfl ?_
 refine sL (pkF rfl rfl) rfl ?_
 refine sL (asg rfl) rfl ?_
 refine lE ?_
 refine kN (?_)
 refine hK4 _ _ ?_
 refine cRet ?_
 obtain rfl := Option.some.inj H
 refine ret1 rfl rfl ?_
 have HF16 := HF9.sublist (sl_dc (sl_da (sl_dc sR)))
 have HF17 := Fits.conv (L' := ((N2 ++ N1) ++ F)) HF16 (by rw [hN1] <;> rfl)
 have HF18 := HF17.sublist (sl_da sR)
 exact ⟨rfl, HF18⟩
/-! ### plenum/plenumlaw17.TopoBoth (function 3) -/
abbrev f_plenumlaw17_TopoBoth.R := Bool
noncomputable def f_plenumlaw17_TopoBoth.b0 (t2 : T_api_Map) (s3 : Int) (s4 : Bool × Int) : Option (Sum (Bool × Int) (Sum (Bool × Int) f_plenumlaw17_TopoBoth.R)) := (if s4.2 < (t2.f_Edges.length : Int) then (if s4.1 = true then some (.inl (true, IntKind.i64.wrap (s4.2 + 1))) else (if 0 ≤ s4.2 then (if (⟨(rd t2.f_Edges s4.2).f_From.f_Kind, (rd t2.f_Edges s4.2).f_From.f_Id⟩ : T_api_Vert) = (⟨(rd t2.f_Edges s3).f_To.f_Kind, (rd t2.f_Edges s3).f_To.f_Id⟩ : T_api_Vert) then some (.inl (decide ((⟨(rd t2.f_Edges s4.2).f_To.f_Kind, (rd t2.f_Edges s4.2).f_To.f_Id⟩ : T_api_Vert) = (⟨(rd t2.f_Edges s3).f_From.f_Kind, (rd t2.f_Edges s3).f_From.f_Id⟩ : T_api_Vert)), IntKind.i64.wrap (s4.2 + 1))) else some (.inl (false, IntKind.i64.wrap (s4.2 + 1)))) else none)) else some (.inr (.inl (s4.1, s4.2))))
noncomputable def f_plenumlaw17_TopoBoth.b1 (t2 : T_api_Map) (s3 : Int) : Option (Sum (Int) (Sum (Int) f_plenumlaw17_TopoBoth.R)) := (if s3 < (t2.f_Edges.length : Int) then (if 0 ≤ s3 then ((loopO (f_plenumlaw17_TopoBoth.b0 t2 s3) (false, 0)).bind fun y7 => match y7 with | .inl s4 => (if s4.1 = true then (if ((rd t2.f_Edges s3).f_From.f_Kind) = 2 then (if ((rd t2.f_Edges s3).f_Cost) = 0 then (if ((rd t2.f_Edges s3).f_To.f_Kind) = 2 then some (.inr (.inr false)) else some (.inl (IntKind.i64.wrap (s3 + 1)))) else some (.inr (.inr false))) else some (.inl (IntKind.i64.wrap (s3 + 1)))) else some (.inr (.inr false))) | .inr r_ => some (.inr (.inr r_))) else none) else some (.inr (.inl s3)))
noncomputable def f_plenumlaw17_TopoBoth.b2 (t2 : T_api_Map) (s5 : Int × Int) : Option (Sum (Int × Int) (Sum (Int × Int) f_plenumlaw17_TopoBoth.R)) := (if s5.2 < (t2.f_Verts.length : Int) then (if 0 ≤ s5.2 then (if ((rd t2.f_Verts s5.2).f_Kind) = 1 then some (.inl (IntKind.i64.wrap (s5.1 + 1), IntKind.i64.wrap (s5.2 + 1))) else some (.inl (s5.1, IntKind.i64.wrap (s5.2 + 1)))) else none) else some (.inr (.inl (s5.1, s5.2))))
noncomputable def f_plenumlaw17_TopoBoth (a0 : Int) (a1 : List Int) (a2 : List Int) (a3 : List Bool) : Option f_plenumlaw17_TopoBoth.R := ((f_plenumlaw17_Graph a0 a1 a2 a3).bind fun t1 => ((f_topo_Map t1).bind fun t2 => ((loopO (f_plenumlaw17_TopoBoth.b1 t2) 0).bind fun y5 => match y5 with | .inl s3 => ((loopO (f_plenumlaw17_TopoBoth.b2 t2) (0, 0)).bind fun y9 => match y9 with | .inl s5 => (if s5.1 = (IntKind.i64.wrap (1 + (Int.tmod (IntKind.i64.wrap a0) 6))) then (if (t2.f_Stubs.length : Int) = s5.1 then (if (t2.f_Spans.length : Int) = (IntKind.i64.wrap ((t2.f_Verts.length : Int) - s5.1)) then ((f_plenumlaw17_awake).bind fun t3 => some t3) else some false) else some false) else some false) | .inr r_ => some r_) | .inr r_ => some r_)))
set_option maxHeartbeats 1000000 in
theorem f_plenumlaw17_TopoBoth.ok {z w : World} {F G : Hp} (hG : G ⊆ F) {a0 : Int} {a1 : List Int} {A_a1 : Option Addr} {c_a1 : Nat} {X_a1 : Hp} {a2 : List Int} {A_a2 : Option Addr} {c_a2 : Nat} {X_a2 : Hp} {a3 : List Bool} {A_a3 : Option Addr} {c_a3 : Nat} {X_a3 : Hp} {r : f_plenumlaw17_TopoBoth.R} (H : f_plenumlaw17_TopoBoth a0 a1 a2 a3 = some r) (HF : Fits z w F) (hX_a1 : X_a1 ⊆ F) (hr_a1 : RdS (kInt .u8) X_a1 A_a1 c_a1 a1) (hX_a2 : X_a2 ⊆ F) (hr_a2 : RdS (kInt .u8) X_a2 A_a2 c_a2 a2) (hX_a3 : X_a3 ⊆ F) (hr_a3 : RdS kBool X_a3 A_a3 c_a3 a3) :
  Calls Try.prog 3 [.int .u8 a0, .slice A_a1 a1.length c_a1, .slice A_a2 a2.length c_a2, .slice A_a3 a3.length c_a3].toArray w fun e w' => e = .returned (.bool r) ∧ Fits z w' F := by
 unfold f_plenumlaw17_TopoBoth at H
 refine enter0 Try.func3 rfl Try.ntmps3 rfl (E := [(0, .int .u8 a0), (1, .slice A_a1 a1.length c_a1), (2, .slice A_a2 a2.length c_a2), (3, .slice A_a3 a3.length c_a3)]) rfl ?_
 refine cSeq (fun K1 hK1 => ?_)
 refine cRgn [] trivial ?_
 refine sL (asg rfl) rfl ?_
 refine lE ?_
 refine kN (?_)
 refine hK1 _ _ ?_
 refine cSeq (fun K2 hK2 => ?_)
 refine cRgn [] trivial ?_
 refine sL (mv rfl) rfl ?_
 refine sL (mv rfl) rfl ?_
 refine sL (mv rfl) rfl ?_
 refine sL (mv rfl) rfl ?_
 replace H := bnd H; obtain ⟨t1, J1, H⟩ := H
 refine eCall isf8 rfl rfl rfl (f_plenumlaw17_Graph.ok (a1 := a1) (a2 := a2) (a3 := a3) hG J1 HF hX_a1 hr_a1 hX_a2 hr_a2 hX_a3 hr_a3) ?_
 rintro _ w1 ⟨N1, A1, c1, L1, rfl, HF1, ho1⟩
 have hs1 : G ⊆ N1 ++ G := sub_a sub_r
 refine ⟨_, rfl, ?_⟩
 refine sL (asg rfl) rfl ?_
 refine lE ?_
 refine kN (?_)
 refine hK2 _ _ ?_
 refine cSeq (fun K3 hK3 => ?_)
 refine cRgn [] trivial ?_
 refine sL (mv rfl) rfl ?_
 replace H := bnd H; obtain ⟨t2, J2, H⟩ := H
 refine eCall isf9 rfl rfl rfl (f_topo_Map.ok (a0 := t1) (sub_a (sub_n hG)) J2 HF1 sub_h ho1.rd) ?_
 rintro _ w2 ⟨N2, A2, c2, A3, c3, A4, c4, A5, c5, A6, c6, rfl, HF2, hr1, hr2, hr3, hr4, hr5⟩
 have HF3 := HF2.perm (perm_f pR).symm
 obtain ⟨N3, hN1⟩ : ∃ N_, N_ = N2 ++ N1 := ⟨_, rfl⟩
 have HF4 := HF3; rw [← List.append_assoc N2 N1 F, ← hN1] at HF4
 have hs2 : N1 ++ G ⊆ N3 ++ G := frz_s hN1
 have hr6 := RdS.mono (Y := (N3 ++ G)) hr1 (frz_c hN1)
 have hr7 := RdS.mono (Y := (N3 ++ G)) hr2 (frz_c hN1)
 have hr8 := RdS.mono (Y := (N3 ++ G)) hr3 (frz_c hN1)
 have hr9 := RdS.mono (Y := (N3 ++ G)) hr4 (frz_c hN1)
 have hr10 := RdS.mono (Y := (N3 ++ G)) hr5 (frz_c hN1)
 refine ⟨_, rfl, ?_⟩
 refine eW (oAlloc HF4 ti32) rfl ?_
 rintro _ w3 ⟨g1, rfl, HF5⟩
 refine eS (oSt (l1 := [.slice A2 t2.f_Verts.length c2, .slice A3 t2.f_Edges.length c3, .slice A4 t2.f_Stubs.length c4, .slice A5 t2.f_Spans.length c5, .slice A6 t2.f_Wilds.length c6]) HF5 rfl rfl ti32 rfl (ones rfl) (Nat.le_of_ble_eq_true rfl) rfl) ?_
 rintro w4 HF6
 refine lE ?_
 refine kN (?_)
 refine hK3 _ _ ?_
 refine cSeq (fun K4 hK4 => ?_)
 refine cSeq (fun K5 hK5 => ?_)
 refine cRgn [] trivial ?_
 refine sL (asg rfl) rfl ?_
 refine lE ?_
 refine kN (?_)
 refine hK5 _ _ ?_
 replace H := bnd H; obtain ⟨y5, J8, Ho3⟩ := H
 have HF42 := HF6.sublist (sl_c (sl_da sR))
 refine cLoopB (f_plenumlaw17_TopoBoth.b1 t2) (fun (s3 : Int) a w => Env 134 [(0, .int .u8 a0), (8, .bool false), (10, .pointer (some ⟨g1, 0, none⟩)), (11, .int .i64 s3)] a ∧ Fits z w (bk g1 32 [.slice A2 t2.f_Verts.length c2, .slice A3 t2.f_Edges.length c3, .slice A4 t2.f_Stubs.length c4, .slice A5 t2.f_Spans.length c5, .slice A6 t2.f_Wilds.length c6] :: (N3 ++ F))) J8 (fun a hE => ⟨hE.keep (Keep.cons rfl (Keep.cons rfl (Keep.cons rfl (Keep.cons rfl (Keep.nil))))), HF42⟩) ?_ ?_
 ·rintro s3 a w19 y6 ⟨hE, HF23⟩ H Hx3
  refine go_ hE ?_
  refine cSeq (fun K46 hK46 => ?_)
  refine cSeq (fun K47 hK47 => ?_)
  refine cRgn [] trivial ?_
  refine sL (mv rfl) rfl ?_
  refine sL (fa32_1 rfl) rfl ?_
  refine sL (ld rfl Try.underlying27 rfl (HF23.box (mem_h) rfl)) rfl ?_
  refine sL (lnS rfl Try.underlying27) rfl ?_
  refine sL (bLss rfl rfl) rfl ?_
  refine lE ?_
  refine kN (?_)
  refine hK47 _ _ ?_
  by_cases c52 : s3 < (t2.f_Edges.length : Int)
  ·replace H := itT c52 H
   refine cSet (i := 28) rfl (dT c52) ?_
   refine cT rfl ?_
   refine cSkip ?_
   refine kN (?_)
   refine hK46 _ _ ?_
   refine cSeq (fun K48 hK48 => ?_)
   refine cBlock ?_
   refine cSeq (fun K49 hK49 => ?_)
   refine cRgn [] trivial ?_
   refine sL (fa32_1 rfl) rfl ?_
   refine sL (ld rfl Try.underlying27 rfl (HF23.box (mem_h) rfl)) rfl ?_
   refine sL (mv rfl) rfl ?_
   replace H := chk H; obtain ⟨c53, H⟩ := H
   obtain ⟨g6, o3, _, rfl, rfl, q27⟩ := RdS.at_ hr7 c53 c52
   refine sL (ia rfl rfl Try.underlying27 ti37 c53 c52) rfl ?_
   refine sL (ldA rfl ti37 rfl rfl (fun j v hj => HF23.cells ((sub_c (sub_n hG))) (q27 j v hj))) rfl ?_
   refine eW (oAlloc HF23 ti37) rfl ?_
   rintro _ w20 ⟨g7, rfl, HF24⟩
   refine eS (oSt (l1 := [.int .i64 ((rd t2.f_Edges s3).f_From.f_Kind), .int .i64 ((rd t2.f_Edges s3).f_From.f_Id), .int .i64 ((rd t2.f_Edges s3).f_To.f_Kind), .int .i64 ((rd t2.f_Edges s3).f_To.f_Id), .int .i64 ((rd t2.f_Edges s3).f_Cost), .int .i64 ((rd t2.f_Edges s3).f_Data)]) HF24 rfl rfl ti37 rfl (ones rfl) (Nat.le_of_ble_eq_true rfl) rfl) ?_
   rintro w21 HF25
   refine lE ?_
   refine kN (?_)
   refine hK49 _ _ ?_
   refine cSeq (fun K50 hK50 => ?_)
   refine cRgn [] trivial ?_
   refine sL (asg rfl) rfl ?_
   refine lE ?_
   refine kN (?_)
   refine hK50 _ _ ?_
   refine cSeq (fun K51 hK51 => ?_)
   refine cSeq (fun K52 hK52 => ?_)
   refine cRgn [] trivial ?_
   refine sL (asg rfl) rfl ?_
   refine lE ?_
   refine kN (?_)
   refine hK52 _ _ ?_
   replace H := bnd H; obtain ⟨y7, J5, Ho4⟩ := H
   refine cLoopB (f_plenumlaw17_TopoBoth.b0 t2 s3) (fun (s4 : Bool × Int) a w => Env 134 [(0, .int .u8 a0), (8, .bool false), (10, .pointer (some ⟨g1, 0, none⟩)), (11, .int .i64 s3), (12, .pointer (some ⟨g7, 0, none⟩)), (13, .bool s4.1), (14, .int .i64 s4.2)] a ∧ Fits z w (bk g7 37 [.int .i64 ((rd t2.f_Edges s3).f_From.f_Kind), .int .i64 ((rd t2.f_Edges s3).f_From.f_Id), .int .i64 ((rd t2.f_Edges s3).f_To.f_Kind), .int .i64 ((rd t2.f_Edges s3).f_To.f_Id), .int .i64 ((rd t2.f_Edges s3).f_Cost), .int .i64 ((rd t2.f_Edges s3).f_Data)] :: (bk g1 32 [.slice A2 t2.f_Verts.length c2, .slice (some ⟨g6, o3, none⟩) t2.f_Edges.length c3, .slice A4 t2.f_Stubs.length c4, .slice A5 t2.f_Spans.length c5, .slice A6 t2.f_Wilds.length c6] :: (N3 ++ F)))) J5 (fun a hE => ⟨hE.keep (Keep.cons rfl (Keep.cons rfl (Keep.cons rfl (Keep.cons rfl (Keep.cons rfl (Keep.cons rfl (Keep.cons rfl (Keep.nil)))))))), HF25⟩) ?_ ?_
   ·rintro s4 a w24 y8 ⟨hE, HF28⟩ H Hx4
    refine go_ hE ?_
    refine cSeq (fun K59 hK59 => ?_)
    refine cSeq (fun K60 hK60 => ?_)
    refine cRgn [] trivial ?_
    refine sL (mv rfl) rfl ?_
    refine sL (fa32_1 rfl) rfl ?_
    refine sL (ld rfl Try.underlying27 rfl (HF28.box (mem_c mem_h) rfl)) rfl ?_
    refine sL (lnS rfl Try.underlying27) rfl ?_
    refine sL (bLss rfl rfl) rfl ?_
    refine lE ?_
    refine kN (?_)
    refine hK60 _ _ ?_
    by_cases c64 : s4.2 < (t2.f_Edges.length : Int)
    ·replace H := itT c64 H
     refine cSet (i := 40) rfl (dT c64) ?_
     refine cT rfl ?_
     refine cSkip ?_
     refine kN (?_)
     refine hK59 _ _ ?_
     refine cSeq (fun K61 hK61 => ?_)
     refine cBlock ?_
     refine cDraw mo_ HF28 rfl (fun w => Fits z w (bk g7 37 [.int .i64 ((rd t2.f_Edges s3).f_From.f_Kind), .int .i64 ((rd t2.f_Edges s3).f_From.f_Id), .int .i64 ((rd t2.f_Edges s3).f_To.f_Kind), .int .i64 ((rd t2.f_Edges s3).f_To.f_Id), .int .i64 ((rd t2.f_Edges s3).f_Cost), .int .i64 ((rd t2.f_Edges s3).f_Data)] :: (bk g1 32 [.slice A2 t2.f_Verts.length c2, .slice (some ⟨g6, o3, none⟩) t2.f_Edges.length c3, .slice A4 t2.f_Stubs.length c4, .slice A5 t2.f_Spans.length c5, .slice A6 t2.f_Wilds.length c6] :: (N3 ++ F)))) (fun w25 HF29 => ?_)
     refine hT 0 rfl (by kernel_rfl) (fun w_ hS_ => mv rfl) HF29 rfl rfl ?_
     refine hT 1 rfl (by kernel_rfl) (fun w_ hS_ => mv rfl) HF29 rfl rfl ?_
     by_cases c68 : s4.1 = true
     ·replace H := itT c68 H
      refine hSet (i := 44) rfl (vT c68) ?_
      refine hTN 2 rfl rfl rfl (by kernel_rfl) HF29 rfl rfl ?_
      refine hTN 3 rfl rfl rfl (by kernel_rfl) HF29 rfl rfl ?_
      refine hTN 4 rfl rfl rfl (by kernel_rfl) HF29 rfl rfl ?_
      refine hTN 5 rfl rfl rfl (by kernel_rfl) HF29 rfl rfl ?_
      refine hTN 6 rfl rfl rfl (by kernel_rfl) HF29 rfl rfl ?_
      refine hTN 7 rfl rfl rfl (by kernel_rfl) HF29 rfl rfl ?_
      refine hTN 8 rfl rfl rfl (by kernel_rfl) HF29 rfl rfl ?_
      refine hTN 9 rfl rfl rfl (by kernel_rfl) HF29 rfl rfl ?_
      refine hTN 10 rfl rfl rfl (by kernel_rfl) HF29 rfl rfl ?_
      refine hTN 11 rfl rfl rfl (by kernel_rfl) HF29 rfl rfl ?_
      refine hTU 12 rfl rfl rfl (by kernel_rfl) HF29 rfl rfl ?_
      refine hTU 13 rfl rfl rfl (by kernel_rfl) HF29 rfl rfl ?_
      refine hTU 14 rfl rfl rfl (by kernel_rfl) HF29 rfl rfl ?_
      refine hTU 15 rfl rfl rfl (by kernel_rfl) HF29 rfl rfl ?_
      refine hTU 16 rfl rfl rfl (by kernel_rfl) HF29 rfl rfl ?_
      refine hTU 17 rfl rfl rfl (by kernel_rfl) HF29 rfl rfl ?_
      refine hTU 18 rfl rfl rfl (by kernel_rfl) HF29 rfl rfl ?_
      refine hTU 19 rfl rfl rfl (by kernel_rfl) HF29 rfl rfl ?_
      refine hTU 20 rfl rfl rfl (by kernel_rfl) HF29 rfl rfl ?_
      refine hTN 21 rfl rfl rfl (by kernel_rfl) HF29 rfl rfl ?_
      refine hT 22 rfl (by kernel_rfl) (fun w_ hS_ => pkT rfl rfl) HF29 rfl rfl ?_
      refine hT 23 rfl (by kernel_rfl) (fun w_ hS_ => asg rfl) HF29 rfl rfl ?_
      refine hEnd (by kernel_rfl) ?_
      refine jN (kN (?_))
      refine hK61 _ _ ?_
      refine cRgn [] trivial ?_
      refine sL (mv rfl) rfl ?_
      refine sL (bAdd rfl rfl) rfl ?_
      refine sL (asg rfl) rfl ?_
      refine lE ?_
      refine kN (?_)
      exact ofEnv (fun a hE => ⟨_, (Option.some.inj H).symm, ⟨hE.keep (Keep.cons rfl (Keep.cons rfl (Keep.cons rfl (Keep.cons rfl (Keep.cons rfl (Keep.cons rfl (Keep.cons rfl (Keep.nil)))))))), HF29⟩⟩)
     replace H := itF c68 H
     refine hSet (i := 44) rfl (vF c68) ?_
     refine hTG 2 rfl rfl rfl (by kernel_rfl) (fun w_ hS_ => fa32_1 rfl) HF29 rfl rfl ?_
     refine hTG 3 rfl rfl rfl (by kernel_rfl) (fun w_ hS_ => ld rfl Try.underlying27 rfl (hS_.box (mem_c mem_h) rfl)) HF29 rfl rfl ?_
     refine hTG 4 rfl rfl rfl (by kernel_rfl) (fun w_ hS_ => mv rfl) HF29 rfl rfl ?_
     replace H := chk H; obtain ⟨c69, H⟩ := H
     obtain ⟨_, rfl, q38⟩ := RdS.at' hr7 c69 c64
     refine hTG 5 rfl rfl rfl (by kernel_rfl) (fun w_ hS_ => ia rfl rfl Try.underlying27 ti37 c69 c64) HF29 rfl rfl ?_
     refine hTG 6 rfl rfl rfl (by kernel_rfl) (fun w_ hS_ => fa37_0 rfl) HF29 rfl rfl ?_
     refine hTG 7 rfl rfl rfl (by kernel_rfl) (fun w_ hS_ => ldA (cs := [.int .i64 ((rd t2.f_Edges s4.2).f_From.f_Kind), .int .i64 ((rd t2.f_Edges s4.2).f_From.f_Id)]) rfl ti35 rfl rfl (fun j v hj => hS_.cells ((sub_c (sub_c (sub_n hG)))) (el_part q38 (off := 0) (n := 2) rfl j v hj))) HF29 rfl rfl ?_
     refine hTG 8 rfl rfl rfl (by kernel_rfl) (fun w_ hS_ => fa37_1 rfl) HF29 rfl rfl ?_
     refine hTG 9 rfl rfl rfl (by kernel_rfl) (fun w_ hS_ => ldA (cs := [.int .i64 ((rd t2.f_Edges s3).f_To.f_Kind), .int .i64 ((rd t2.f_Edges s3).f_To.f_Id)]) rfl ti35 rfl rfl (hS_.boxes (o := 2) (n := 2) (mem_h) rfl)) HF29 rfl rfl ?_
     refine hTG 10 rfl rfl rfl (by kernel_rfl) (fun w_ hS_ => bAggEql (xs := [.int .i64 ((rd t2.f_Edges s4.2).f_From.f_Kind), .int .i64 ((rd t2.f_Edges s4.2).f_From.f_Id)]) (ys := [.int .i64 ((rd t2.f_Edges s3).f_To.f_Kind), .int .i64 ((rd t2.f_Edges s3).f_To.f_Id)]) (n := 2) rfl rfl eg35 (eqStruct Try.underlying35 sh35 (eqFcons (by decide) (pt1 Try.underlying3 rfl rfl) (pt1 Try.underlying3 rfl rfl) (eqInt Try.underlying3) (eqFcons (by decide) (pt1 Try.underlying3 rfl rfl) (pt1 Try.underlying3 rfl rfl) (eqInt Try.underlying3) eqFnil))) rfl (eq_T_api_Vert (⟨(rd t2.f_Edges s4.2).f_From.f_Kind, (rd t2.f_Edges s4.2).f_From.f_Id⟩ : T_api_Vert) (⟨(rd t2.f_Edges s3).f_To.f_Kind, (rd t2.f_Edges s3).f_To.f_Id⟩ : T_api_Vert))) HF29 rfl rfl ?_
     refine hTG 11 rfl rfl rfl (by kernel_rfl) (fun w_ hS_ => mv rfl) HF29 rfl rfl ?_
     by_cases c70 : (⟨(rd t2.f_Edges s4.2).f_From.f_Kind, (rd t2.f_Edges s4.2).f_From.f_Id⟩ : T_api_Vert) = (⟨(rd t2.f_Edges s3).f_To.f_Kind, (rd t2.f_Edges s3).f_To.f_Id⟩ : T_api_Vert)
     ·replace H := itT c70 H
      refine hSet (i := 54) rfl (dT c70) ?_
      refine hTG 12 rfl rfl rfl (by kernel_rfl) (fun w_ hS_ => fa32_1 rfl) HF29 rfl rfl ?_
      refine hTG 13 rfl rfl rfl (by kernel_rfl) (fun w_ hS_ => ld rfl Try.underlying27 rfl (hS_.box (mem_c mem_h) rfl)) HF29 rfl rfl ?_
      refine hTG 14 rfl rfl rfl (by kernel_rfl) (fun w_ hS_ => mv rfl) HF29 rfl rfl ?_
      obtain ⟨_, rfl, q39⟩ := RdS.at' hr7 c69 c64
      refine hTG 15 rfl rfl rfl (by kernel_rfl) (fun w_ hS_ => ia rfl rfl Try.underlying27 ti37 c69 c64) HF29 rfl rfl ?_
      refine hTG 16 rfl rfl rfl (by kernel_rfl) (fun w_ hS_ => fa37_1 rfl) HF29 rfl rfl ?_
      refine hTG 17 rfl rfl rfl (by kernel_rfl) (fun w_ hS_ => ldA (cs := [.int .i64 ((rd t2.f_Edges s4.2).f_To.f_Kind), .int .i64 ((rd t2.f_Edges s4.2).f_To.f_Id)]) rfl ti35 rfl rfl (fun j v hj => hS_.cells ((sub_c (sub_c (sub_n hG)))) (el_part q39 (off := 2) (n := 2) rfl j v hj))) HF29 rfl rfl ?_
      refine hTG 18 rfl rfl rfl (by kernel_rfl) (fun w_ hS_ => fa37_0 rfl) HF29 rfl rfl ?_
      refine hTG 19 rfl rfl rfl (by kernel_rfl) (fun w_ hS_ => ldA (cs := [.int .i64 ((rd t2.f_Edges s3).f_From.f_Kind), .int .i64 ((rd t2.f_Edges s3).f_From.f_Id)]) rfl ti35 rfl rfl (hS_.boxes (o := 0) (n := 2) (mem_h) rfl)) HF29 rfl rfl ?_
      refine hTG 20 rfl rfl rfl (by kernel_rfl) (fun w_ hS_ => bAggEql (xs := [.int .i64 ((rd t2.f_Edges s4.2).f_To.f_Kind), .int .i64 ((rd t2.f_Edges s4.2).f_To.f_Id)]) (ys := [.int .i64 ((rd t2.f_Edges s3).f_From.f_Kind), .int .i64 ((rd t2.f_Edges s3).f_From.f_Id)]) (n := 2) rfl rfl eg35 (eqStruct Try.underlying35 sh35 (eqFcons (by decide) (pt1 Try.underlying3 rfl rfl) (pt1 Try.underlying3 rfl rfl) (eqInt Try.underlying3) (eqFcons (by decide) (pt1 Try.underlying3 rfl rfl) (pt1 Try.underlying3 rfl rfl) (eqInt Try.underlying3) eqFnil))) rfl (eq_T_api_Vert (⟨(rd t2.f_Edges s4.2).f_To.f_Kind, (rd t2.f_Edges s4.2).f_To.f_Id⟩ : T_api_Vert) (⟨(rd t2.f_Edges s3).f_From.f_Kind, (rd t2.f_Edges s3).f_From.f_Id⟩ : T_api_Vert))) HF29 rfl rfl ?_
      refine hTG 21 rfl rfl rfl (by kernel_rfl) (fun w_ hS_ => pkT rfl rfl) HF29 rfl rfl ?_
      refine hT 22 rfl (by kernel_rfl) (fun w_ hS_ => pkF rfl rfl) HF29 rfl rfl ?_
      refine hT 23 rfl (by kernel_rfl) (fun w_ hS_ => asg rfl) HF29 rfl rfl ?_
      refine hEnd (by kernel_rfl) ?_
      refine jN (kN (?_))
      refine hK61 _ _ ?_
      refine cRgn [] trivial ?_
      refine sL (mv rfl) rfl ?_
      refine sL (bAdd rfl rfl) rfl ?_
      refine sL (asg rfl) rfl ?_
      refine lE ?_
      refine kN (?_)
      exact ofEnv (fun a hE => ⟨_, (Option.some.inj H).symm, ⟨hE.keep (Keep.cons rfl (Keep.cons rfl (Keep.cons rfl (Keep.cons rfl (Keep.cons rfl (Keep.cons rfl (Keep.cons rfl (Keep.nil)))))))), HF29⟩⟩)
     replace H := itF c70 H
     refine hSet (i := 54) rfl (dF c70) ?_
     refine hTN 12 rfl rfl rfl (by kernel_rfl) HF29 rfl rfl ?_
     refine hTN 13 rfl rfl rfl (by kernel_rfl) HF29 rfl rfl ?_
     refine hTN 14 rfl rfl rfl (by kernel_rfl) HF29 rfl rfl ?_
     refine hTN 15 rfl rfl rfl (by kernel_rfl) HF29 rfl rfl ?_
     refine hTN 16 rfl rfl rfl (by kernel_rfl) HF29 rfl rfl ?_
     refine hTN 17 rfl rfl rfl (by kernel_rfl) HF29 rfl rfl ?_
     refine hTN 18 rfl rfl rfl (by kernel_rfl) HF29 rfl rfl ?_
     refine hTN 19 rfl rfl rfl (by kernel_rfl) HF29 rfl rfl ?_
     refine hTN 20 rfl rfl rfl (by kernel_rfl) HF29 rfl rfl ?_
     refine hTG 21 rfl rfl rfl (by kernel_rfl) (fun w_ hS_ => pkF rfl rfl) HF29 rfl rfl ?_
     refine hT 22 rfl (by kernel_rfl) (fun w_ hS_ => pkF rfl rfl) HF29 rfl rfl ?_
     refine hT 23 rfl (by kernel_rfl) (fun w_ hS_ => asg rfl) HF29 rfl rfl ?_
     refine hEnd (by kernel_rfl) ?_
     refine jN (kN (?_))
     refine hK61 _ _ ?_
     refine cRgn [] trivial ?_
     refine sL (mv rfl) rfl ?_
     refine sL (bAdd rfl rfl) rfl ?_
     refine sL (asg rfl) rfl ?_
     refine lE ?_
     refine kN (?_)
     exact ofEnv (fun a hE => ⟨_, (Option.some.inj H).symm, ⟨hE.keep (Keep.cons rfl (Keep.cons rfl (Keep.cons rfl (Keep.cons rfl (Keep.cons rfl (Keep.cons rfl (Keep.cons rfl (Keep.nil)))))))), HF29⟩⟩)
    replace H := itF c64 H
    refine cSet (i := 40) rfl (dF c64) ?_
    refine cF rfl ?_
    refine cExit ?_
    refine kX (kX (jX (kN (?_))))
    exact ofEnv (fun a hE => ⟨_, (Option.some.inj H).symm, ⟨hE.keep (Keep.cons rfl (Keep.cons rfl (Keep.cons rfl (Keep.cons rfl (Keep.cons rfl (Keep.cons rfl (Keep.cons rfl (Keep.nil)))))))), HF28⟩⟩)
   rintro s4 a w26 rfl ⟨hE, HF30⟩
   replace H := Ho4
   refine go_k hE ?_
   refine kN (?_)
   refine hK51 _ _ ?_
   refine cSeq (fun K62 hK62 => ?_)
   refine cRgn [(2, 68), (7, 73), (13, 79), (18, 84)] ⟨rfl, rfl, rfl, rfl, trivial⟩ ?_
   refine sL (mv rfl) rfl ?_
   refine sL (uNot rfl) rfl ?_
   refine sL (mv rfl) rfl ?_
   by_cases c71 : s4.1 = true
   ·replace H := itT c71 H
    refine lSet (i := 68) rfl (wF c71) ?_
    refine sG rfl rfl (fa37_0 rfl) rfl ?_
    refine sG rfl rfl (fa35_0 rfl) rfl ?_
    refine sG rfl rfl (ld rfl Try.underlying3 rfl (HF30.box (mem_h) rfl)) rfl ?_
    refine sG rfl rfl (bEql rfl rfl) rfl ?_
    refine sG rfl rfl (mv rfl) rfl ?_
    by_cases c72 : ((rd t2.f_Edges s3).f_From.f_Kind) = 2
    ·replace H := itT c72 H
     refine lSet (i := 73) rfl (dT c72) ?_
     refine sG rfl rfl (fa37_2 rfl) rfl ?_
     refine sG rfl rfl (ld rfl Try.underlying3 rfl (HF30.box (mem_h) rfl)) rfl ?_
     refine sG rfl rfl (bNeq rfl rfl) rfl ?_
     refine sG rfl rfl (pkT rfl rfl) rfl ?_
     refine sL (pkF rfl rfl) rfl ?_
     refine sL (mv rfl) rfl ?_
     by_cases c73 : ((rd t2.f_Edges s3).f_Cost) = 0
     ·replace H := itT c73 H
      refine lSet (i := 79) rfl (nF c73) ?_
      refine sG rfl rfl (fa37_0 rfl) rfl ?_
      refine sG rfl rfl (fa35_0 rfl) rfl ?_
      refine sG rfl rfl (ld rfl Try.underlying3 rfl (HF30.box (mem_h) rfl)) rfl ?_
      refine sG rfl rfl (bEql rfl rfl) rfl ?_
      refine sG rfl rfl (mv rfl) rfl ?_
      refine lSet (i := 84) rfl (dT c72) ?_
      refine sG rfl rfl (fa37_1 rfl) rfl ?_
      refine sG rfl rfl (fa35_0 rfl) rfl ?_
      refine sG rfl rfl (ld rfl Try.underlying3 rfl (HF30.box (mem_h) rfl)) rfl ?_
      refine sG rfl rfl (bEql rfl rfl) rfl ?_
      refine sG rfl rfl (pkT rfl rfl) rfl ?_
      refine sL (pkF rfl rfl) rfl ?_
      refine lE ?_
      refine kN (?_)
      refine hK62 _ _ ?_
      by_cases c74 : ((rd t2.f_Edges s3).f_To.f_Kind) = 2
      ·replace H := itT c74 H
       refine cSet (i := 90) rfl (dT c74) ?_
       refine cT rfl ?_
       refine cSeq (fun K63 hK63 => ?_)
       refine cRgn [] trivial ?_
       refine sL (asg rfl) rfl ?_
       refine lE ?_
       refine kN (?_)
       refine hK63 _ _ ?_
       refine cRet ?_
       have e_ := Hx3 _ (Option.some.inj H).symm
       subst e_
       replace H := Ho3
       obtain rfl := Option.some.inj H
       refine jR (kR (kR (jR (kR (kR (?_))))))
       refine ret1 rfl rfl ?_
       have HF31 := HF30.sublist (sl_dc (sl_dc sR))
       have HF32 := Fits.conv (L' := ((N2 ++ N1) ++ F)) HF31 (by rw [hN1] <;> rfl)
       have HF33 := HF32.sublist (sl_da sR)
       exact ⟨rfl, HF33⟩
      replace H := itF c74 H
      refine cSet (i := 90) rfl (dF c74) ?_
      refine cF rfl ?_
      refine cSkip ?_
      refine jN (kN (?_))
      refine hK48 _ _ ?_
      refine cRgn [] trivial ?_
      refine sL (mv rfl) rfl ?_
      refine sL (bAdd rfl rfl) rfl ?_
      refine sL (asg rfl) rfl ?_
      refine lE ?_
      refine kN (?_)
      have HF34 := HF30.sublist (sl_dc (sl_c sR))
      exact ofEnv (fun a hE => ⟨_, (Option.some.inj H).symm, ⟨hE.keep (Keep.cons rfl (Keep.cons rfl (Keep.cons rfl (Keep.cons rfl (Keep.nil))))), HF34⟩⟩)
     replace H := itF c73 H
     refine lSet (i := 79) rfl (nT c73) ?_
     refine sN rfl rfl rfl rfl ?_
     refine sN rfl rfl rfl rfl ?_
     refine sN rfl rfl rfl rfl ?_
     refine sN rfl rfl rfl rfl ?_
     refine sN rfl rfl rfl rfl ?_
     refine sU rfl rfl rfl rfl ?_
     refine sU rfl rfl rfl rfl ?_
     refine sU rfl rfl rfl rfl ?_
     refine sU rfl rfl rfl rfl ?_
     refine sN rfl rfl rfl rfl ?_
     refine sL (pkT rfl rfl) rfl ?_
     refine lE ?_
     refine kN (?_)
     refine hK62 _ _ ?_
     refine cT rfl ?_
     refine cSeq (fun K64 hK64 => ?_)
     refine cRgn [] trivial ?_
     refine sL (asg rfl) rfl ?_
     refine lE ?_
     refine kN (?_)
     refine hK64 _ _ ?_
     refine cRet ?_
     have e_ := Hx3 _ (Option.some.inj H).symm
     subst e_
     replace H := Ho3
     obtain rfl := Option.some.inj H
     refine jR (kR (kR (jR (kR (kR (?_))))))
     refine ret1 rfl rfl ?_
     have HF35 := HF30.sublist (sl_dc (sl_dc sR))
     have HF36 := Fits.conv (L' := ((N2 ++ N1) ++ F)) HF35 (by rw [hN1] <;> rfl)
     have HF37 := HF36.sublist (sl_da sR)
     exact ⟨rfl, HF37⟩
    replace H := itF c72 H
    refine lSet (i := 73) rfl (dF c72) ?_
    refine sN rfl rfl rfl rfl ?_
    refine sN rfl rfl rfl rfl ?_
    refine sN rfl rfl rfl rfl ?_
    refine sG rfl rfl (pkF rfl rfl) rfl ?_
    refine sL (pkF rfl rfl) rfl ?_
    refine sL (mv rfl) rfl ?_
    refine sG rfl rfl (fa37_0 rfl) rfl ?_
    refine sG rfl rfl (fa35_0 rfl) rfl ?_
    refine sG rfl rfl (ld rfl Try.underlying3 rfl (HF30.box (mem_h) rfl)) rfl ?_
    refine sG rfl rfl (bEql rfl rfl) rfl ?_
    refine sG rfl rfl (mv rfl) rfl ?_
    refine lSet (i := 84) rfl (dF c72) ?_
    refine sN rfl rfl rfl rfl ?_
    refine sN rfl rfl rfl rfl ?_
    refine sN rfl rfl rfl rfl ?_
    refine sN rfl rfl rfl rfl ?_
    refine sG rfl rfl (pkF rfl rfl) rfl ?_
    refine sL (pkF rfl rfl) rfl ?_
    refine lE ?_
    refine kN (?_)
    refine hK62 _ _ ?_
    refine cF rfl ?_
    refine cSkip ?_
    refine jN (kN (?_))
    refine hK48 _ _ ?_
    refine cRgn [] trivial ?_
    refine sL (mv rfl) rfl ?_
    refine sL (bAdd rfl rfl) rfl ?_
    refine sL (asg rfl) rfl ?_
    refine lE ?_
    refine kN (?_)
    have HF38 := HF30.sublist (sl_dc (sl_c sR))
    exact ofEnv (fun a hE => ⟨_, (Option.some.inj H).symm, ⟨hE.keep (Keep.cons rfl (Keep.cons rfl (Keep.cons rfl (Keep.cons rfl (Keep.nil))))), HF38⟩⟩)
   replace H := itF c71 H
   refine lSet (i := 68) rfl (wT c71) ?_
   refine sN rfl rfl rfl rfl ?_
   refine sN rfl rfl rfl rfl ?_
   refine sN rfl rfl rfl rfl ?_
   refine sN rfl rfl rfl rfl ?_
   refine sN rfl rfl rfl rfl ?_
   refine sU rfl rfl rfl rfl ?_
   refine sU rfl rfl rfl rfl ?_
   refine sU rfl rfl rfl rfl ?_
   refine sN rfl rfl rfl rfl ?_
   refine sL (pkT rfl rfl) rfl ?_
   refine sL (mv rfl) rfl ?_
   refine sN rfl rfl rfl rfl ?_
   refine sN rfl rfl rfl rfl ?_
   refine sN rfl rfl rfl rfl ?_
   refine sN rfl rfl rfl rfl ?_
   refine sN rfl rfl rfl rfl ?_
   refine sU rfl rfl rfl rfl ?_
   refine sU rfl rfl rfl rfl ?_
   refine sU rfl rfl rfl rfl ?_
   refine sU rfl rfl rfl rfl ?_
   refine sN rfl rfl rfl rfl ?_
   refine sL (pkT rfl rfl) rfl ?_
   refine lE ?_
   refine kN (?_)
   refine hK62 _ _ ?_
   refine cT rfl ?_
   refine cSeq (fun K65 hK65 => ?_)
   refine cRgn [] trivial ?_
   refine sL (asg rfl) rfl ?_
   refine lE ?_
   refine kN (?_)
   refine hK65 _ _ ?_
   refine cRet ?_
   have e_ := Hx3 _ (Option.some.inj H).symm
   subst e_
   replace H := Ho3
   obtain rfl := Option.some.inj H
   refine jR (kR (kR (jR (kR (kR (?_))))))
   refine ret1 rfl rfl ?_
   have HF39 := HF30.sublist (sl_dc (sl_dc sR))
   have HF40 := Fits.conv (L' := ((N2 ++ N1) ++ F)) HF39 (by rw [hN1] <;> rfl)
   have HF41 := HF40.sublist (sl_da sR)
   exact ⟨rfl, HF41⟩
  replace H := itF c52 H
  refine cSet (i := 28) rfl (dF c52) ?_
  refine cF rfl ?_
  refine cExit ?_
  refine kX (kX (jX (kN (?_))))
  exact ofEnv (fun a hE => ⟨_, (Option.some.inj H).symm, ⟨hE.keep (Keep.cons rfl (Keep.cons rfl (Keep.cons rfl (Keep.cons rfl (Keep.nil))))), HF23⟩⟩)
 rintro s3 a w27 rfl ⟨hE, HF43⟩
 replace H := Ho3
 refine go_k hE ?_
 refine kN (?_)
 refine hK4 _ _ ?_
 refine cSeq (fun K66 hK66 => ?_)
 refine cRgn [] trivial ?_
 refine sL (asg rfl) rfl ?_
 refine lE ?_
 refine kN (?_)
 refine hK66 _ _ ?_
 refine cSeq (fun K67 hK67 => ?_)
 refine cSeq (fun K68 hK68 => ?_)
 refine cRgn [] trivial ?_
 refine sL (asg rfl) rfl ?_
 refine lE ?_
 refine kN (?_)
 refine hK68 _ _ ?_
 replace H := bnd H; obtain ⟨y9, J7, Ho5⟩ := H
 refine cLoopB (f_plenumlaw17_TopoBoth.b2 t2) (fun (s5 : Int × Int) a w => Env 134 [(0, .int .u8 a0), (8, .bool false), (10, .pointer (some ⟨g1, 0, none⟩)), (15, .int .i64 s5.1), (16, .int .i64 s5.2)] a ∧ Fits z w (bk g1 32 [.slice A2 t2.f_Verts.length c2, .slice A3 t2.f_Edges.length c3, .slice A4 t2.f_Stubs.length c4, .slice A5 t2.f_Spans.length c5, .slice A6 t2.f_Wilds.length c6] :: (N3 ++ F))) J7 (fun a hE => ⟨hE.keep (Keep.cons rfl (Keep.cons rfl (Keep.cons rfl (Keep.cons rfl (Keep.cons rfl (Keep.nil)))))), HF43⟩) ?_ ?_
 ·rintro s5 a w28 y10 ⟨hE, HF44⟩ H Hx5
  refine go_ hE ?_
  refine cSeq (fun K77 hK77 => ?_)
  refine cSeq (fun K78 hK78 => ?_)
  refine cRgn [] trivial ?_
  refine sL (mv rfl) rfl ?_
  refine sL (fa32_0 rfl) rfl ?_
  refine sL (ld rfl Try.underlying26 rfl (HF44.box (mem_h) rfl)) rfl ?_
  refine sL (lnS rfl Try.underlying26) rfl ?_
  refine sL (bLss rfl rfl) rfl ?_
  refine lE ?_
  refine kN (?_)
  refine hK78 _ _ ?_
  by_cases c80 : s5.2 < (t2.f_Verts.length : Int)
  ·replace H := itT c80 H
   refine cSet (i := 95) rfl (dT c80) ?_
   refine cT rfl ?_
   refine cSkip ?_
   refine kN (?_)
   refine hK77 _ _ ?_
   refine cSeq (fun K79 hK79 => ?_)
   refine cBlock ?_
   refine cSeq (fun K80 hK80 => ?_)
   refine cRgn [] trivial ?_
   refine sL (fa32_0 rfl) rfl ?_
   refine sL (ld rfl Try.underlying26 rfl (HF44.box (mem_h) rfl)) rfl ?_
   refine sL (mv rfl) rfl ?_
   replace H := chk H; obtain ⟨c81, H⟩ := H
   obtain ⟨g10, o6, _, rfl, rfl, q42⟩ := RdS.at_ hr6 c81 c80
   refine sL (ia rfl rfl Try.underlying26 ti35 c81 c80) rfl ?_
   refine sL (fa35_0 rfl) rfl ?_
   refine sL (ld rfl Try.underlying3 rfl (HF44.cells ((sub_c (sub_n hG))) (q42 0 _ rfl))) rfl ?_
   refine sL (bEql rfl rfl) rfl ?_
   refine lE ?_
   refine kN (?_)
   refine hK80 _ _ ?_
   by_cases c82 : ((rd t2.f_Verts s5.2).f_Kind) = 1
   ·replace H := itT c82 H
    refine cSet (i := 104) rfl (dT c82) ?_
    refine cT rfl ?_
    refine cRgn [] trivial ?_
    refine sL (mv rfl) rfl ?_
    refine sL (bAdd rfl rfl) rfl ?_
    refine sL (asg rfl) rfl ?_
    refine lE ?_
    refine jN (kN (?_))
    refine hK79 _ _ ?_
    refine cRgn [] trivial ?_
    refine sL (mv rfl) rfl ?_
    refine sL (bAdd rfl rfl) rfl ?_
    refine sL (asg rfl) rfl ?_
    refine lE ?_
    refine kN (?_)
    exact ofEnv (fun a hE => ⟨_, (Option.some.inj H).symm, ⟨hE.keep (Keep.cons rfl (Keep.cons rfl (Keep.cons rfl (Keep.cons rfl (Keep.cons rfl (Keep.nil)))))), HF44⟩⟩)
   replace H := itF c82 H
   refine cSet (i := 104) rfl (dF c82) ?_
   refine cF rfl ?_
   refine cSkip ?_
   refine jN (kN (?_))
   refine hK79 _ _ ?_
   refine cRgn [] trivial ?_
   refine sL (mv rfl) rfl ?_
   refine sL (bAdd rfl rfl) rfl ?_
   refine sL (asg rfl) rfl ?_
   refine lE ?_
   refine kN (?_)
   exact ofEnv (fun a hE => ⟨_, (Option.some.inj H).symm, ⟨hE.keep (Keep.cons rfl (Keep.cons rfl (Keep.cons rfl (Keep.cons rfl (Keep.cons rfl (Keep.nil)))))), HF44⟩⟩)
  replace H := itF c80 H
  refine cSet (i := 95) rfl (dF c80) ?_
  refine cF rfl ?_
  refine cExit ?_
  refine kX (kX (jX (kN (?_))))
  exact ofEnv (fun a hE => ⟨_, (Option.some.inj H).symm, ⟨hE.keep (Keep.cons rfl (Keep.cons rfl (Keep.cons rfl (Keep.cons rfl (Keep.cons rfl (Keep.nil)))))), HF44⟩⟩)
 rintro s5 a w29 rfl ⟨hE, HF45⟩
 replace H := Ho5
 refine go_k hE ?_
 refine kN (?_)
 refine hK67 _ _ ?_
 refine cSeq (fun K81 hK81 => ?_)
 refine cRgn [(6, 113), (13, 120), (24, 131)] ⟨rfl, rfl, rfl, trivial⟩ ?_
 refine sL (mv rfl) rfl ?_
 refine sL (mv rfl) rfl ?_
 refine sL (cvI rfl Try.underlying5 Try.underlying3) rfl ?_
 refine sL (bRem rfl rfl (by decide)) rfl ?_
 refine sL (bAdd rfl rfl) rfl ?_
 refine sL (bEql rfl rfl) rfl ?_
 refine sL (mv rfl) rfl ?_
 by_cases c83 : s5.1 = (IntKind.i64.wrap (1 + (Int.tmod (IntKind.i64.wrap a0) 6)))
 ·replace H := itT c83 H
  refine lSet (i := 113) rfl (dT c83) ?_
  refine sG rfl rfl (fa32_2 rfl) rfl ?_
  refine sG rfl rfl (ld rfl Try.underlying28 rfl (HF45.box (mem_h) rfl)) rfl ?_
  refine sG rfl rfl (lnS rfl Try.underlying28) rfl ?_
  refine sG rfl rfl (mv rfl) rfl ?_
  refine sG rfl rfl (bEql rfl rfl) rfl ?_
  refine sL (pkT rfl rfl) rfl ?_
  refine sL (mv rfl) rfl ?_
  by_cases c84 : (t2.f_Stubs.length : Int) = s5.1
  ·replace H := itT c84 H
   refine lSet (i := 120) rfl (dT c84) ?_
   refine sG rfl rfl (fa32_3 rfl) rfl ?_
   refine sG rfl rfl (ld rfl Try.underlying29 rfl (HF45.box (mem_h) rfl)) rfl ?_
   refine sG rfl rfl (lnS rfl Try.underlying29) rfl ?_
   refine sG rfl rfl (fa32_0 rfl) rfl ?_
   refine sG rfl rfl (ld rfl Try.underlying26 rfl (HF45.box (mem_h) rfl)) rfl ?_
   refine sG rfl rfl (lnS rfl Try.underlying26) rfl ?_
   refine sG rfl rfl (mv rfl) rfl ?_
   refine sG rfl rfl (bSub rfl rfl) rfl ?_
   refine sG rfl rfl (bEql rfl rfl) rfl ?_
   refine sL (pkT rfl rfl) rfl ?_
   refine sL (mv rfl) rfl ?_
   by_cases c85 : (t2.f_Spans.length : Int) = (IntKind.i64.wrap ((t2.f_Verts.length : Int) - s5.1))
   ·replace H := itT c85 H
    refine lSet (i := 131) rfl (dT c85) ?_
    replace H := bnd H; obtain ⟨t3, J6, H⟩ := H
    refine eCallG rfl rfl isf10 rfl rfl rfl (f_plenumlaw17_awake.ok (sub_c (sub_n hG)) J6 HF45) ?_
    rintro _ w30 ⟨rfl, HF46⟩
    refine ⟨_, rfl, ?_⟩
    refine sL (pkT rfl rfl) rfl ?_
    refine sL (asg rfl) rfl ?_
    refine lE ?_
    refine kN (?_)
    refine hK81 _ _ ?_
    refine cRet ?_
    obtain rfl := Option.some.inj H
    refine ret1 rfl rfl ?_
    have HF47 := HF46.sublist (sl_dc sR)
    have HF48 := Fits.conv (L' := ((N2 ++ N1) ++ F)) HF47 (by rw [hN1] <;> rfl)
    have HF49 := HF48.sublist (sl_da sR)
    exact ⟨rfl, HF49⟩
   replace H := itF c85 H
   refine lSet (i := 131) rfl (dF c85) ?_
   refine sN rfl rfl rfl rfl ?_
   refine sL (pkF rfl rfl) rfl ?_
   refine sL (asg rfl) rfl ?_
   refine lE ?_
   refine kN (?_)
   refine hK81 _ _ ?_
   refine cRet ?_
   obtain rfl := Option.some.inj H
   refine ret1 rfl rfl ?_
   have HF50 := HF45.sublist (sl_dc sR)
   have HF51 := Fits.conv (L' := ((N2 ++ N1) ++ F)) HF50 (by rw [hN1] <;> rfl)
   have HF52 := HF51.sublist (sl_da sR)
   exact ⟨rfl, HF52⟩
  replace H := itF c84 H
  refine lSet (i := 120) rfl (dF c84) ?_
  refine sN rfl rfl rfl rfl ?_
  refine sN rfl rfl rfl rfl ?_
  refine sN rfl rfl rfl rfl ?_
  refine sN rfl rfl rfl rfl ?_
  refine sN rfl rfl rfl rfl ?_
  refine sN rfl rfl rfl rfl ?_
  refine sN rfl rfl rfl rfl ?_
  refine sN rfl rfl rfl rfl ?_
  refine sN rfl rfl rfl rfl ?_
  refine sL (pkF rfl rfl) rfl ?_
  refine sL (mv rfl) rfl ?_
  refine sN rfl rfl rfl rfl ?_
  refine sL (pkF rfl rfl) rfl ?_
  refine sL (asg rfl) rfl ?_
  refine lE ?_
  refine kN (?_)
  refine hK81 _ _ ?_
  refine cRet ?_
  obtain rfl := Option.some.inj H
  refine ret1 rfl rfl ?_
  have HF53 := HF45.sublist (sl_dc sR)
  have HF54 := Fits.conv (L' := ((N2 ++ N1) ++ F)) HF53 (by rw [hN1] <;> rfl)
  have HF55 := HF54.sublist (sl_da sR)
  exact ⟨rfl, HF55⟩
 replace H := itF c83 H
 refine lSet (i := 113) rfl (dF c83) ?_
 refine sN rfl rfl rfl rfl ?_
 refine sN rfl rfl rfl rfl ?_
 refine sN rfl rfl rfl rfl ?_
 refine sN rfl rfl rfl rfl ?_
 refine sN rfl rfl rfl rfl ?_
 refine sL (pkF rfl rfl) rfl ?_
 refine sL (mv rfl) rfl ?_
 refine sN rfl rfl rfl rfl ?_
 refine sN rfl rfl rfl rfl ?_
 refine sN rfl rfl rfl rfl ?_
 refine sN rfl rfl rfl rfl ?_
 refine sN rfl rfl rfl rfl ?_
 refine sN rfl rfl rfl rfl ?_
 refine sN rfl rfl rfl rfl ?_
 refine sN rfl rfl rfl rfl ?_
 refine sN rfl rfl rfl rfl ?_
 refine sL (pkF rfl rfl) rfl ?_
 refine sL (mv rfl) rfl ?_
 refine sN rfl rfl rfl rfl ?_
 refine sL (pkF rfl rfl) rfl ?_
 refine sL (asg rfl) rfl ?_
 refine lE ?_
 refine kN (?_)
 refine hK81 _ _ ?_
 refine cRet ?_
 obtain rfl := Option.some.inj H
 refine ret1 rfl rfl ?_
 have HF56 := HF45.sublist (sl_dc sR)
 have HF57 := Fits.conv (L' := ((N2 ++ N1) ++ F)) HF56 (by rw [hN1] <;> rfl)
 have HF58 := HF57.sublist (sl_da sR)
 exact ⟨rfl, HF58⟩
end Go.Proofs.Ytbjnbjgiidcfjaa
