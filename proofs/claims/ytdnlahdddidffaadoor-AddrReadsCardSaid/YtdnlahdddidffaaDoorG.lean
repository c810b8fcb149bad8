/- For each Go function that the laws reach: a function on plain values with the same answers, and the proof that the call comes to them (none: nothing is told). Conditions: none beside each theorem's own. Written by gen.py out of the print of the loaded program. -/
import Derived.Test.YtdnlahdddidffaaDoorProg
import Derived.Test.YtdnlahdddidffaaDoorSpF
import Derived.KernelRfl
set_option linter.unusedVariables false
set_option linter.unusedSimpArgs false
namespace Go.Proofs.YtdnlahdddidffaaDoor
open Go Go.Proofs.YtdnlahdddidffaaDoor.Sp

theorem isf10 : IsF Tryd.prog 10 := IsF.mk Tryd.func10 rfl rfl
theorem isf11 : IsF Tryd.prog 11 := IsF.mk Tryd.func11 rfl rfl
theorem isf12 : IsF Tryd.prog 12 := IsF.mk Tryd.func12 rfl rfl
theorem isf13 : IsF Tryd.prog 13 := IsF.mk Tryd.func13 rfl rfl
theorem isf14 : IsF Tryd.prog 14 := IsF.mk Tryd.func14 rfl rfl
theorem isf15 : IsF Tryd.prog 15 := IsF.mk Tryd.func15 rfl rfl
theorem isf16 : IsF Tryd.prog 16 := IsF.mk Tryd.func16 rfl rfl
theorem isf17 : IsF Tryd.prog 17 := IsF.mk Tryd.func17 rfl rfl
theorem isf18 : IsF Tryd.prog 18 := IsF.mk Tryd.func18 rfl rfl
theorem isf19 : IsF Tryd.prog 19 := IsF.mk Tryd.func19 rfl rfl
theorem isf20 : IsF Tryd.prog 20 := IsF.mk Tryd.func20 rfl rfl
theorem isf21 : IsF Tryd.prog 21 := IsF.mk Tryd.func21 rfl rfl
theorem isf22 : IsF Tryd.prog 22 := IsF.mk Tryd.func22 rfl rfl
theorem isf26 : IsF Tryd.prog 26 := IsF.mk Tryd.func26 rfl rfl
theorem isf8 : IsF Tryd.prog 8 := IsF.mk Tryd.func8 rfl rfl
theorem isf9 : IsF Tryd.prog 9 := IsF.mk Tryd.func9 rfl rfl
theorem mo_ : Tryd.prog.follows .mixedOrders = true := by kernel_rfl
theorem ti5 : TI Tryd.prog 5 (.int .u8) (.int .u8 0) 1 1 := TI.mk' Tryd.underlying5 (by kernel_rfl)
theorem ti9 : TI Tryd.prog 9 .string (.string ⟨#[]⟩) 1 16 := TI.mk' Tryd.underlying9 (by kernel_rfl)

/-! ### plenum/addr.Text (function 12) -/
abbrev f_addr_Text.R := ByteArray
noncomputable def f_addr_Text (a0 : Int) : Option f_addr_Text.R := ((f_strconv_Itoa (bits .and .i64 (shrI .i64 a0 24) 255)).bind fun t1 => ((f_strconv_Itoa (bits .and .i64 (shrI .i64 a0 16) 255)).bind fun t2 => ((f_strconv_Itoa (bits .and .i64 (shrI .i64 a0 8) 255)).bind fun t3 => ((f_strconv_Itoa (bits .and .i64 a0 255)).bind fun t4 => ((f_strings_Join ([t1, t2, t3, t4]) (⟨#[46]⟩ : ByteArray)).bind fun t5 => some t5)))))
set_option maxHeartbeats 1000000 in
theorem f_addr_Text.ok {z w : World} {F G : Hp} (hG : G ⊆ F) (hV : GV G) {a0 : Int} {r : f_addr_Text.R} (H : f_addr_Text a0 = some r) (HF : Fits z w F) :
    Calls Tryd.prog 12 [.int .i64 a0].toArray w fun e w' => e = .returned (.string r) ∧ Fits z w' F := by
  unfold f_addr_Text at H
  refine enter0 Tryd.func12 rfl Tryd.ntmps12 rfl (E := [(0, .int .i64 a0)]) rfl ?_
  refine cSeq (fun K1 hK1 => ?_)
  refine cRgn [] trivial ?_
  refine sL (asg rfl) rfl ?_
  refine lEnd (K := fun _ _ => True) ?_
  refine kN (?_)
  refine hK1 _ _ ?_
  refine cSeq (fun K2 hK2 => ?_)
  refine cRgn [] trivial ?_
  refine sL (mv rfl) rfl ?_
  refine sL (bShr rfl rfl (by decide)) rfl ?_
  refine sL (bAnd rfl rfl) rfl ?_
  replace H := bnd H; obtain ⟨t1, J1, H⟩ := H
  refine eCall isf21 rfl rfl rfl (f_strconv_Itoa.ok hG (GV.mono hV sub_r) J1 HF) ?_
  rintro _ w1 ⟨rfl, HF1⟩
  refine ⟨_, rfl, ?_⟩
  refine sL (mv rfl) rfl ?_
  refine sL (bShr rfl rfl (by decide)) rfl ?_
  refine sL (bAnd rfl rfl) rfl ?_
  replace H := bnd H; obtain ⟨t2, J2, H⟩ := H
  refine eCall isf21 rfl rfl rfl (f_strconv_Itoa.ok hG (GV.mono hV sub_r) J2 HF1) ?_
  rintro _ w2 ⟨rfl, HF2⟩
  refine ⟨_, rfl, ?_⟩
  refine sL (mv rfl) rfl ?_
  refine sL (bShr rfl rfl (by decide)) rfl ?_
  refine sL (bAnd rfl rfl) rfl ?_
  replace H := bnd H; obtain ⟨t3, J3, H⟩ := H
  refine eCall isf21 rfl rfl rfl (f_strconv_Itoa.ok hG (GV.mono hV sub_r) J3 HF2) ?_
  rintro _ w3 ⟨rfl, HF3⟩
  refine ⟨_, rfl, ?_⟩
  refine sL (mv rfl) rfl ?_
  refine sL (bAnd rfl rfl) rfl ?_
  replace H := bnd H; obtain ⟨t4, J4, H⟩ := H
  refine eCall isf21 rfl rfl rfl (f_strconv_Itoa.ok hG (GV.mono hV sub_r) J4 HF3) ?_
  rintro _ w4 ⟨rfl, HF4⟩
  refine ⟨_, rfl, ?_⟩
  refine eW (oLit (r := [.string t1, .string t2, .string t3, .string t4]) kStr [t1, t2, t3, t4] HF4 Tryd.underlying33 ti9 rfl rfl rfl rfl ⟨[], [], [.string t1], _, rfl, rfl, ⟨rfl, rfl⟩, ⟨[], [], [.string t2], _, rfl, rfl, ⟨rfl, rfl⟩, ⟨[], [], [.string t3], _, rfl, rfl, ⟨rfl, rfl⟩, ⟨[], [], [.string t4], _, rfl, rfl, ⟨rfl, rfl⟩, ⟨rfl, rfl⟩⟩⟩⟩⟩ rfl rfl) rfl ?_
  rintro _ w5 ⟨L1, A1, c1, rfl, HF5, ho1⟩
  refine sL (asg rfl) rfl ?_
  refine lEnd (K := fun _ _ => True) ?_
  refine kN (?_)
  refine hK2 _ _ ?_
  refine cSeq (fun K3 hK3 => ?_)
  refine cRgn [] trivial ?_
  refine sL (mv rfl) rfl ?_
  replace H := bnd H; obtain ⟨t5, J5, H⟩ := H
  refine eCall isf22 rfl rfl rfl (f_strings_Join.ok (a0 := [t1, t2, t3, t4]) (sub_a hG) (GV.mono hV sub_r) J5 HF5 sub_h ho1.rd) ?_
  rintro _ w6 ⟨rfl, HF6⟩
  refine ⟨_, rfl, ?_⟩
  refine sL (asg rfl) rfl ?_
  refine lEnd (K := fun _ _ => True) ?_
  refine kN (?_)
  refine hK3 _ _ ?_
  refine cRet ?_
  obtain rfl := Option.some.inj H
  refine ret1 rfl rfl ?_
  have HF7 := HF6.sublist (sl_da (List.Sublist.refl _))
  exact ⟨rfl, HF7⟩

/-! ### plenum/addr.Read (function 9) -/
abbrev f_addr_Read.R := Int × Int
noncomputable def f_addr_Read.b0 (t1 : List ByteArray) (s1 : Int × Int) : Option (Sum (Int × Int) (Sum (Int × Int) f_addr_Read.R)) := (if s1.2 < (t1.length : Int) then (if 0 ≤ s1.2 then ((f_strconv_Atoi (rd t1 s1.2)).bind fun (t6, t7) => (if t7 = true then some (.inr (.inr (0, 3))) else (if t6 < 0 then some (.inr (.inr (0, 3))) else (if 255 < t6 then some (.inr (.inr (0, 3))) else (if (t1.length : Int) = 4 then some (.inl (bits .or .i64 (shlI .i64 s1.1 8) t6, IntKind.i64.wrap (s1.2 + 1))) else some (.inr (.inr (0, 3)))))))) else none) else some (.inr (.inl (s1.1, s1.2))))
noncomputable def f_addr_Read (a0 : ByteArray) : Option f_addr_Read.R := ((f_strings_Split a0 (⟨#[46]⟩ : ByteArray)).bind fun t1 => ((loopO (f_addr_Read.b0 t1) (0, 0)).bind fun y1 => match y1 with | .inl s1 => ((f_addr_Text s1.1).bind fun t8 => (if (t8.toList == a0.toList) = true then some (s1.1, 0) else some (0, 3))) | .inr r_ => some r_))
set_option maxHeartbeats 1000000 in
theorem f_addr_Read.ok {z w : World} {F G : Hp} (hG : G ⊆ F) (hV : GV G) {a0 : ByteArray} {r : f_addr_Read.R} (H : f_addr_Read a0 = some r) (HF : Fits z w F) :
    Calls Tryd.prog 9 [.string a0].toArray w fun e w' => e = .returned (.tuple #[.int .i64 r.1, .int .i64 r.2]) ∧ Fits z w' F := by
  unfold f_addr_Read at H
  refine enter0 Tryd.func9 rfl Tryd.ntmps9 rfl (E := [(0, .string a0)]) rfl ?_
  refine cSeq (fun K1 hK1 => ?_)
  refine cRgn [] trivial ?_
  refine sL (asg rfl) rfl ?_
  refine sL (asg rfl) rfl ?_
  refine lEnd (K := fun _ _ => True) ?_
  refine kN (?_)
  refine hK1 _ _ ?_
  refine cSeq (fun K2 hK2 => ?_)
  refine cRgn [] trivial ?_
  refine sL (mv rfl) rfl ?_
  replace H := bnd H; obtain ⟨t1, J1, H⟩ := H
  refine eCall isf18 rfl rfl rfl (f_strings_Split.ok hG (GV.mono hV sub_r) J1 HF) ?_
  rintro _ w1 ⟨A1, c1, L1, rfl, HF1, ho1⟩
  refine ⟨_, rfl, ?_⟩
  refine sL (asg rfl) rfl ?_
  refine lEnd (K := fun _ _ => True) ?_
  refine kN (?_)
  refine hK2 _ _ ?_
  refine cSeq (fun K3 hK3 => ?_)
  refine cRgn [] trivial ?_
  refine sL (asg rfl) rfl ?_
  refine lEnd (K := fun _ _ => True) ?_
  refine kN (?_)
  refine hK3 _ _ ?_
  refine cSeq (fun K4 hK4 => ?_)
  refine cSeq (fun K5 hK5 => ?_)
  refine cRgn [] trivial ?_
  refine sL (mv rfl) rfl ?_
  refine sL (lnS rfl Tryd.underlying33) rfl ?_
  refine sL (mv rfl) rfl ?_
  refine lEnd (K := fun _ _ => True) ?_
  refine kN (?_)
  refine hK5 _ _ ?_
  replace H := bnd H; obtain ⟨y1, J6, Ho1⟩ := H
  refine cLoopB (f_addr_Read.b0 t1) (fun (s1 : Int × Int) a w => Env 48 [(0, .string a0), (2, .int .i64 0), (3, .int .i64 0), (4, .slice A1 t1.length c1), (5, .int .i64 s1.1), (12, .slice A1 t1.length c1), (13, .int .i64 (t1.length : Int)), (14, .int .i64 s1.2)] a ∧ Fits z w (L1 ++ F)) J6 (fun a hE => ⟨hE.keep (Keep.cons rfl (Keep.cons rfl (Keep.cons rfl (Keep.cons rfl (Keep.cons rfl (Keep.cons rfl (Keep.cons rfl (Keep.cons rfl (Keep.nil))))))))), HF1⟩) ?_ ?_
  · rintro s1 a w4 y2 ⟨hE, HF4⟩ H Hx1
    refine go_ hE ?_
    refine cSeq (fun K28 hK28 => ?_)
    refine cRgn [] trivial ?_
    refine sL (bLss rfl rfl) rfl ?_
    refine lEnd (K := fun _ _ => True) ?_
    refine kN (?_)
    refine hK28 _ _ ?_
    refine cSeq (fun K29 hK29 => ?_)
    by_cases c13 : s1.2 < (t1.length : Int)
    · replace H := itT c13 H
      refine cSet (i := 15) rfl (dT c13) ?_
      refine cT rfl ?_
      refine cSkip ?_
      refine kN (?_)
      refine hK29 _ _ ?_
      refine cSeq (fun K30 hK30 => ?_)
      refine cBlock ?_
      refine cSeq (fun K31 hK31 => ?_)
      refine cRgn [] trivial ?_
      replace H := chk H; obtain ⟨c14, H⟩ := H
      obtain ⟨g3, o3, _, rfl, rfl, q3⟩ := RdS.at_ ho1.rd c14 c13
      refine sL (ia rfl rfl Tryd.underlying33 ti9 c14 c13) rfl ?_
      refine sL (ld rfl Tryd.underlying9 rfl (HF4.cells (sub_h) (q3 0 _ rfl))) rfl ?_
      refine sL (asg rfl) rfl ?_
      refine lEnd (K := fun _ _ => True) ?_
      refine kN (?_)
      refine hK31 _ _ ?_
      refine cSeq (fun K32 hK32 => ?_)
      refine cRgn [] trivial ?_
      refine sL (mv rfl) rfl ?_
      replace H := bnd H; obtain ⟨⟨t6, t7⟩, J4, H⟩ := H
      refine eCall isf19 rfl rfl rfl (f_strconv_Atoi.ok (sub_a hG) (GV.mono hV sub_r) J4 HF4) ?_
      rintro _ w5 ⟨ev3, rfl, HF5, he3⟩
      refine ⟨_, rfl, ?_⟩
      refine sL (mv rfl) rfl ?_
      refine sL (ex rfl rfl) rfl ?_
      refine sL (ex rfl rfl) rfl ?_
      refine sL (asg rfl) rfl ?_
      refine sL (asg rfl) rfl ?_
      refine lEnd (K := fun _ _ => True) ?_
      refine kN (?_)
      refine hK32 _ _ ?_
      refine cSeq (fun K33 hK33 => ?_)
      refine cSeq (fun K34 hK34 => ?_)
      refine cRgn [(2, 25), (6, 29), (10, 33)] ⟨rfl, rfl, rfl, trivial⟩ ?_
      refine sL (mv rfl) rfl ?_
      refine sL (bENeq rfl he3 Tryd.underlying44) rfl ?_
      refine sL (mv rfl) rfl ?_
      by_cases c15 : t7 = true
      · replace H := itT c15 H
        refine lSet (i := 25) rfl (vT c15) ?_
        refine sN rfl rfl rfl rfl ?_
        refine sN rfl rfl rfl rfl ?_
        refine sL (pkT rfl rfl) rfl ?_
        refine sL (mv rfl) rfl ?_
        refine sN rfl rfl rfl rfl ?_
        refine sN rfl rfl rfl rfl ?_
        refine sL (pkT rfl rfl) rfl ?_
        refine sL (mv rfl) rfl ?_
        refine sN rfl rfl rfl rfl ?_
        refine sN rfl rfl rfl rfl ?_
        refine sN rfl rfl rfl rfl ?_
        refine sL (pkT rfl rfl) rfl ?_
        refine lEnd (K := fun _ _ => True) ?_
        refine kN (?_)
        refine hK34 _ _ ?_
        refine cT rfl ?_
        refine cSeq (fun K35 hK35 => ?_)
        refine cRgn [] trivial ?_
        refine sL (asg rfl) rfl ?_
        refine sL (asg rfl) rfl ?_
        refine lEnd (K := fun _ _ => True) ?_
        refine kN (?_)
        refine hK35 _ _ ?_
        refine cRet ?_
        have e_ := Hx1 _ (Option.some.inj H).symm
        subst e_
        replace H := Ho1
        obtain rfl := Option.some.inj H
        refine kR (jR (kR (kR (jR (kR (kR (?_)))))))
        refine ret2 rfl rfl rfl ?_
        have HF6 := HF5.sublist (sl_da (List.Sublist.refl _))
        exact ⟨rfl, HF6⟩
      · replace H := itF c15 H
        refine lSet (i := 25) rfl (vF c15) ?_
        refine sG rfl rfl (mv rfl) rfl ?_
        refine sG rfl rfl (bLss rfl rfl) rfl ?_
        refine sL (pkF rfl rfl) rfl ?_
        refine sL (mv rfl) rfl ?_
        by_cases c16 : t6 < 0
        · replace H := itT c16 H
          refine lSet (i := 29) rfl (dT c16) ?_
          refine sN rfl rfl rfl rfl ?_
          refine sN rfl rfl rfl rfl ?_
          refine sL (pkT rfl rfl) rfl ?_
          refine sL (mv rfl) rfl ?_
          refine sN rfl rfl rfl rfl ?_
          refine sN rfl rfl rfl rfl ?_
          refine sN rfl rfl rfl rfl ?_
          refine sL (pkT rfl rfl) rfl ?_
          refine lEnd (K := fun _ _ => True) ?_
          refine kN (?_)
          refine hK34 _ _ ?_
          refine cT rfl ?_
          refine cSeq (fun K36 hK36 => ?_)
          refine cRgn [] trivial ?_
          refine sL (asg rfl) rfl ?_
          refine sL (asg rfl) rfl ?_
          refine lEnd (K := fun _ _ => True) ?_
          refine kN (?_)
          refine hK36 _ _ ?_
          refine cRet ?_
          have e_ := Hx1 _ (Option.some.inj H).symm
          subst e_
          replace H := Ho1
          obtain rfl := Option.some.inj H
          refine kR (jR (kR (kR (jR (kR (kR (?_)))))))
          refine ret2 rfl rfl rfl ?_
          have HF7 := HF5.sublist (sl_da (List.Sublist.refl _))
          exact ⟨rfl, HF7⟩
        · replace H := itF c16 H
          refine lSet (i := 29) rfl (dF c16) ?_
          refine sG rfl rfl (mv rfl) rfl ?_
          refine sG rfl rfl (bGtr rfl rfl) rfl ?_
          refine sL (pkF rfl rfl) rfl ?_
          refine sL (mv rfl) rfl ?_
          by_cases c17 : 255 < t6
          · replace H := itT c17 H
            refine lSet (i := 33) rfl (dT c17) ?_
            refine sN rfl rfl rfl rfl ?_
            refine sN rfl rfl rfl rfl ?_
            refine sN rfl rfl rfl rfl ?_
            refine sL (pkT rfl rfl) rfl ?_
            refine lEnd (K := fun _ _ => True) ?_
            refine kN (?_)
            refine hK34 _ _ ?_
            refine cT rfl ?_
            refine cSeq (fun K37 hK37 => ?_)
            refine cRgn [] trivial ?_
            refine sL (asg rfl) rfl ?_
            refine sL (asg rfl) rfl ?_
            refine lEnd (K := fun _ _ => True) ?_
            refine kN (?_)
            refine hK37 _ _ ?_
            refine cRet ?_
            have e_ := Hx1 _ (Option.some.inj H).symm
            subst e_
            replace H := Ho1
            obtain rfl := Option.some.inj H
            refine kR (jR (kR (kR (jR (kR (kR (?_)))))))
            refine ret2 rfl rfl rfl ?_
            have HF8 := HF5.sublist (sl_da (List.Sublist.refl _))
            exact ⟨rfl, HF8⟩
          · replace H := itF c17 H
            refine lSet (i := 33) rfl (dF c17) ?_
            refine sG rfl rfl (mv rfl) rfl ?_
            refine sG rfl rfl (lnS rfl Tryd.underlying33) rfl ?_
            refine sG rfl rfl (bNeq rfl rfl) rfl ?_
            refine sL (pkF rfl rfl) rfl ?_
            refine lEnd (K := fun _ _ => True) ?_
            refine kN (?_)
            refine hK34 _ _ ?_
            by_cases c18 : (t1.length : Int) = 4
            · replace H := itT c18 H
              refine cSet (i := 37) rfl (nF c18) ?_
              refine cF rfl ?_
              refine cSkip ?_
              refine kN (?_)
              refine hK33 _ _ ?_
              refine cRgn [] trivial ?_
              refine sL (mv rfl) rfl ?_
              refine sL (bShl rfl rfl (by decide)) rfl ?_
              refine sL (mv rfl) rfl ?_
              refine sL (bOr rfl rfl) rfl ?_
              refine sL (asg rfl) rfl ?_
              refine lEnd (K := fun _ _ => True) ?_
              refine jN (kN (?_))
              refine hK30 _ _ ?_
              refine cRgn [] trivial ?_
              refine sL (bAdd rfl rfl) rfl ?_
              refine sL (mv rfl) rfl ?_
              refine lEnd (K := fun _ _ => True) ?_
              refine kN (?_)
              exact ofEnv (fun a hE => ⟨_, (Option.some.inj H).symm, ⟨hE.keep (Keep.cons rfl (Keep.cons rfl (Keep.cons rfl (Keep.cons rfl (Keep.cons rfl (Keep.cons rfl (Keep.cons rfl (Keep.cons rfl (Keep.nil))))))))), HF5⟩⟩)
            · replace H := itF c18 H
              refine cSet (i := 37) rfl (nT c18) ?_
              refine cT rfl ?_
              refine cSeq (fun K38 hK38 => ?_)
              refine cRgn [] trivial ?_
              refine sL (asg rfl) rfl ?_
              refine sL (asg rfl) rfl ?_
              refine lEnd (K := fun _ _ => True) ?_
              refine kN (?_)
              refine hK38 _ _ ?_
              refine cRet ?_
              have e_ := Hx1 _ (Option.some.inj H).symm
              subst e_
              replace H := Ho1
              obtain rfl := Option.some.inj H
              refine kR (jR (kR (kR (jR (kR (kR (?_)))))))
              refine ret2 rfl rfl rfl ?_
              have HF9 := HF5.sublist (sl_da (List.Sublist.refl _))
              exact ⟨rfl, HF9⟩
    · replace H := itF c13 H
      refine cSet (i := 15) rfl (dF c13) ?_
      refine cF rfl ?_
      refine cExit ?_
      refine kX (kX (jX (kN (?_))))
      exact ofEnv (fun a hE => ⟨_, (Option.some.inj H).symm, ⟨hE.keep (Keep.cons rfl (Keep.cons rfl (Keep.cons rfl (Keep.cons rfl (Keep.cons rfl (Keep.cons rfl (Keep.cons rfl (Keep.cons rfl (Keep.nil))))))))), HF4⟩⟩)
  · rintro s1 a w6 rfl ⟨hE, HF10⟩
    replace H := Ho1
    refine go_k hE ?_
    refine kN (?_)
    refine hK4 _ _ ?_
    refine cSeq (fun K39 hK39 => ?_)
    refine cSeq (fun K40 hK40 => ?_)
    refine cRgn [] trivial ?_
    refine sL (mv rfl) rfl ?_
    replace H := bnd H; obtain ⟨t8, J5, H⟩ := H
    refine eCall isf12 rfl rfl rfl (f_addr_Text.ok (sub_a hG) (GV.mono hV sub_r) J5 HF10) ?_
    rintro _ w7 ⟨rfl, HF11⟩
    refine ⟨_, rfl, ?_⟩
    refine sL (mv rfl) rfl ?_
    refine sL (bSNeq rfl rfl) rfl ?_
    refine lEnd (K := fun _ _ => True) ?_
    refine kN (?_)
    refine hK40 _ _ ?_
    by_cases c19 : (t8.toList == a0.toList) = true
    · replace H := itT c19 H
      refine cSet (i := 46) rfl (wF c19) ?_
      refine cF rfl ?_
      refine cSkip ?_
      refine kN (?_)
      refine hK39 _ _ ?_
      refine cSeq (fun K41 hK41 => ?_)
      refine cRgn [] trivial ?_
      refine sL (mv rfl) rfl ?_
      refine sL (asg rfl) rfl ?_
      refine sL (asg rfl) rfl ?_
      refine lEnd (K := fun _ _ => True) ?_
      refine kN (?_)
      refine hK41 _ _ ?_
      refine cRet ?_
      obtain rfl := Option.some.inj H
      refine ret2 rfl rfl rfl ?_
      have HF12 := HF11.sublist (sl_da (List.Sublist.refl _))
      exact ⟨rfl, HF12⟩
    · replace H := itF c19 H
      refine cSet (i := 46) rfl (wT c19) ?_
      refine cT rfl ?_
      refine cSeq (fun K42 hK42 => ?_)
      refine cRgn [] trivial ?_
      refine sL (asg rfl) rfl ?_
      refine sL (asg rfl) rfl ?_
      refine lEnd (K := fun _ _ => True) ?_
      refine kN (?_)
      refine hK42 _ _ ?_
      refine cRet ?_
      obtain rfl := Option.some.inj H
      refine kR (?_)
      refine ret2 rfl rfl rfl ?_
      have HF13 := HF11.sublist (sl_da (List.Sublist.refl _))
      exact ⟨rfl, HF13⟩

/-! ### plenum/plenumlaw1.Num (function 11) -/
abbrev f_plenumlaw1_Num.R := Int
noncomputable def f_plenumlaw1_Num (a0 : Int) : Option f_plenumlaw1_Num.R := some a0
set_option maxHeartbeats 1000000 in
theorem f_plenumlaw1_Num.ok {z w : World} {F G : Hp} (hG : G ⊆ F) (hV : GV G) {a0 : Int} {r : f_plenumlaw1_Num.R} (H : f_plenumlaw1_Num a0 = some r) (HF : Fits z w F) :
    Calls Tryd.prog 11 [.int .i64 a0].toArray w fun e w' => e = .returned (.int .i64 r) ∧ Fits z w' F := by
  unfold f_plenumlaw1_Num at H
  refine enter0 Tryd.func11 rfl Tryd.ntmps11 rfl (E := [(0, .int .i64 a0)]) rfl ?_
  refine cSeq (fun K1 hK1 => ?_)
  refine cRgn [] trivial ?_
  refine sL (asg rfl) rfl ?_
  refine lEnd (K := fun _ _ => True) ?_
  refine kN (?_)
  refine hK1 _ _ ?_
  refine cSeq (fun K2 hK2 => ?_)
  refine cRgn [] trivial ?_
  refine sL (mv rfl) rfl ?_
  refine sL (asg rfl) rfl ?_
  refine lEnd (K := fun _ _ => True) ?_
  refine kN (?_)
  refine hK2 _ _ ?_
  refine cRet ?_
  obtain rfl := Option.some.inj H
  refine ret1 rfl rfl ?_
  exact ⟨rfl, HF⟩

/-! ### plenum/addr.Right (function 17) -/
abbrev f_addr_Right.R := Bool
noncomputable def f_addr_Right (a0 : Int) : Option f_addr_Right.R := (if 0 ≤ a0 then some (decide (a0 ≤ 4294967295)) else some false)
set_option maxHeartbeats 1000000 in
theorem f_addr_Right.ok {z w : World} {F G : Hp} (hG : G ⊆ F) (hV : GV G) {a0 : Int} {r : f_addr_Right.R} (H : f_addr_Right a0 = some r) (HF : Fits z w F) :
    Calls Tryd.prog 17 [.int .i64 a0].toArray w fun e w' => e = .returned (.bool r) ∧ Fits z w' F := by
  unfold f_addr_Right at H
  refine enter0 Tryd.func17 rfl Tryd.ntmps17 rfl (E := [(0, .int .i64 a0)]) rfl ?_
  refine cSeq (fun K1 hK1 => ?_)
  refine cRgn [] trivial ?_
  refine sL (asg rfl) rfl ?_
  refine lEnd (K := fun _ _ => True) ?_
  refine kN (?_)
  refine hK1 _ _ ?_
  refine cSeq (fun K2 hK2 => ?_)
  refine cRgn [(2, 5)] ⟨rfl, trivial⟩ ?_
  refine sL (mv rfl) rfl ?_
  refine sL (bGeq rfl rfl) rfl ?_
  refine sL (mv rfl) rfl ?_
  by_cases c1 : 0 ≤ a0
  · replace H := itT c1 H
    refine lSet (i := 5) rfl (dT c1) ?_
    refine sG rfl rfl (mv rfl) rfl ?_
    refine sG rfl rfl (bLeq rfl rfl) rfl ?_
    refine sL (pkT rfl rfl) rfl ?_
    refine sL (asg rfl) rfl ?_
    refine lEnd (K := fun _ _ => True) ?_
    refine kN (?_)
    refine hK2 _ _ ?_
    refine cRet ?_
    obtain rfl := Option.some.inj H
    refine ret1 rfl rfl ?_
    exact ⟨rfl, HF⟩
  · replace H := itF c1 H
    refine lSet (i := 5) rfl (dF c1) ?_
    refine sN rfl rfl rfl rfl ?_
    refine sN rfl rfl rfl rfl ?_
    refine sL (pkF rfl rfl) rfl ?_
    refine sL (asg rfl) rfl ?_
    refine lEnd (K := fun _ _ => True) ?_
    refine kN (?_)
    refine hK2 _ _ ?_
    refine cRet ?_
    obtain rfl := Option.some.inj H
    refine ret1 rfl rfl ?_
    exact ⟨rfl, HF⟩

/-! ### plenum/plenumlaw1.awake (function 8) -/
abbrev f_plenumlaw1_awake.R := Bool
noncomputable def f_plenumlaw1_awake : Option f_plenumlaw1_awake.R := ((f_addr_Read (⟨#[50, 50, 52, 46, 48, 46, 48, 46, 53]⟩ : ByteArray)).bind fun (t1, t2) => ((f_addr_Text 3758096389).bind fun t3 => (if (t3.toList == (⟨#[50, 50, 52, 46, 48, 46, 48, 46, 53]⟩ : ByteArray).toList) = true then ((f_plenumlaw1_Num t2).bind fun t4 => (if t4 = 0 then (if t1 = 3758096389 then ((f_addr_Right 0).bind fun t5 => some t5) else some false) else some false)) else some false)))
set_option maxHeartbeats 1000000 in
theorem f_plenumlaw1_awake.ok {z w : World} {F G : Hp} (hG : G ⊆ F) (hV : GV G) {r : f_plenumlaw1_awake.R} (H : f_plenumlaw1_awake = some r) (HF : Fits z w F) :
    Calls Tryd.prog 8 [].toArray w fun e w' => e = .returned (.bool r) ∧ Fits z w' F := by
  unfold f_plenumlaw1_awake at H
  refine enter0 Tryd.func8 rfl Tryd.ntmps8 rfl (E := []) rfl ?_
  refine cSeq (fun K1 hK1 => ?_)
  refine cRgn [] trivial ?_
  refine sL (asg rfl) rfl ?_
  refine lEnd (K := fun _ _ => True) ?_
  refine kN (?_)
  refine hK1 _ _ ?_
  refine cSeq (fun K2 hK2 => ?_)
  refine cRgn [] trivial ?_
  replace H := bnd H; obtain ⟨⟨t1, t2⟩, J1, H⟩ := H
  refine eCall isf9 rfl rfl rfl (f_addr_Read.ok hG (GV.mono hV sub_r) J1 HF) ?_
  rintro _ w1 ⟨rfl, HF1⟩
  refine ⟨_, rfl, ?_⟩
  refine sL (mv rfl) rfl ?_
  refine sL (ex rfl rfl) rfl ?_
  refine sL (ex rfl rfl) rfl ?_
  refine sL (asg rfl) rfl ?_
  refine sL (asg rfl) rfl ?_
  refine lEnd (K := fun _ _ => True) ?_
  refine kN (?_)
  refine hK2 _ _ ?_
  refine cSeq (fun K3 hK3 => ?_)
  refine cRgn [(2, 9), (7, 14), (11, 18)] ⟨rfl, rfl, rfl, trivial⟩ ?_
  replace H := bnd H; obtain ⟨t3, J2, H⟩ := H
  refine eCall isf12 rfl rfl rfl (f_addr_Text.ok hG (GV.mono hV sub_r) J2 HF1) ?_
  rintro _ w2 ⟨rfl, HF2⟩
  refine ⟨_, rfl, ?_⟩
  refine sL (bSEql rfl rfl) rfl ?_
  refine sL (mv rfl) rfl ?_
  by_cases c1 : (t3.toList == (⟨#[50, 50, 52, 46, 48, 46, 48, 46, 53]⟩ : ByteArray).toList) = true
  · replace H := itT c1 H
    refine lSet (i := 9) rfl (vT c1) ?_
    refine sG rfl rfl (mv rfl) rfl ?_
    replace H := bnd H; obtain ⟨t4, J3, H⟩ := H
    refine eCallG rfl rfl isf11 rfl rfl rfl (f_plenumlaw1_Num.ok hG (GV.mono hV sub_r) J3 HF2) ?_
    rintro _ w3 ⟨rfl, HF3⟩
    refine ⟨_, rfl, ?_⟩
    refine sG rfl rfl (bEql rfl rfl) rfl ?_
    refine sL (pkT rfl rfl) rfl ?_
    refine sL (mv rfl) rfl ?_
    by_cases c2 : t4 = 0
    · replace H := itT c2 H
      refine lSet (i := 14) rfl (dT c2) ?_
      refine sG rfl rfl (mv rfl) rfl ?_
      refine sG rfl rfl (bEql rfl rfl) rfl ?_
      refine sL (pkT rfl rfl) rfl ?_
      refine sL (mv rfl) rfl ?_
      by_cases c3 : t1 = 3758096389
      · replace H := itT c3 H
        refine lSet (i := 18) rfl (dT c3) ?_
        replace H := bnd H; obtain ⟨t5, J4, H⟩ := H
        refine eCallG rfl rfl isf17 rfl rfl rfl (f_addr_Right.ok hG (GV.mono hV sub_r) J4 HF3) ?_
        rintro _ w4 ⟨rfl, HF4⟩
        refine ⟨_, rfl, ?_⟩
        refine sL (pkT rfl rfl) rfl ?_
        refine sL (asg rfl) rfl ?_
        refine lEnd (K := fun _ _ => True) ?_
        refine kN (?_)
        refine hK3 _ _ ?_
        refine cRet ?_
        obtain rfl := Option.some.inj H
        refine ret1 rfl rfl ?_
        exact ⟨rfl, HF4⟩
      · replace H := itF c3 H
        refine lSet (i := 18) rfl (dF c3) ?_
        refine sN rfl rfl rfl rfl ?_
        refine sL (pkF rfl rfl) rfl ?_
        refine sL (asg rfl) rfl ?_
        refine lEnd (K := fun _ _ => True) ?_
        refine kN (?_)
        refine hK3 _ _ ?_
        refine cRet ?_
        obtain rfl := Option.some.inj H
        refine ret1 rfl rfl ?_
        exact ⟨rfl, HF3⟩
    · replace H := itF c2 H
      refine lSet (i := 14) rfl (dF c2) ?_
      refine sN rfl rfl rfl rfl ?_
      refine sN rfl rfl rfl rfl ?_
      refine sL (pkF rfl rfl) rfl ?_
      refine sL (mv rfl) rfl ?_
      refine sN rfl rfl rfl rfl ?_
      refine sL (pkF rfl rfl) rfl ?_
      refine sL (asg rfl) rfl ?_
      refine lEnd (K := fun _ _ => True) ?_
      refine kN (?_)
      refine hK3 _ _ ?_
      refine cRet ?_
      obtain rfl := Option.some.inj H
      refine ret1 rfl rfl ?_
      exact ⟨rfl, HF3⟩
  · replace H := itF c1 H
    refine lSet (i := 9) rfl (vF c1) ?_
    refine sN rfl rfl rfl rfl ?_
    refine sN rfl rfl rfl rfl ?_
    refine sN rfl rfl rfl rfl ?_
    refine sL (pkF rfl rfl) rfl ?_
    refine sL (mv rfl) rfl ?_
    refine sN rfl rfl rfl rfl ?_
    refine sN rfl rfl rfl rfl ?_
    refine sL (pkF rfl rfl) rfl ?_
    refine sL (mv rfl) rfl ?_
    refine sN rfl rfl rfl rfl ?_
    refine sL (pkF rfl rfl) rfl ?_
    refine sL (asg rfl) rfl ?_
    refine lEnd (K := fun _ _ => True) ?_
    refine kN (?_)
    refine hK3 _ _ ?_
    refine cRet ?_
    obtain rfl := Option.some.inj H
    refine ret1 rfl rfl ?_
    exact ⟨rfl, HF2⟩

/-! ### plenum/plenumref1.digits (function 26) -/
abbrev f_plenumref1_digits.R := ByteArray
noncomputable def f_plenumref1_digits : Nat → Int → Option f_plenumref1_digits.R
  | 0, _ => none
  | k_ + 1, a0 => (if a0 < 10 then some (strI ([IntKind.u8.wrap (IntKind.i64.wrap (48 + a0))])) else ((f_plenumref1_digits k_ (IntKind.i64.wrap (Int.tdiv a0 10))).bind fun t2 => (if (t2.size : Int) + (strI ([IntKind.u8.wrap (IntKind.i64.wrap (48 + (Int.tmod a0 10)))])).size ≤ 9223372036854775807 then some (t2 ++ (strI ([IntKind.u8.wrap (IntKind.i64.wrap (48 + (Int.tmod a0 10)))]))) else none)))
set_option maxHeartbeats 1000000 in
theorem f_plenumref1_digits.ok (k_ : Nat) : ∀ {z w : World} {F G : Hp} (hG : G ⊆ F) (hV : GV G) {a0 : Int} {r : f_plenumref1_digits.R} (H : f_plenumref1_digits k_ a0 = some r) (HF : Fits z w F),
    Calls Tryd.prog 26 [.int .i64 a0].toArray w fun e w' => e = .returned (.string r) ∧ Fits z w' F := by
  induction k_ with
  | zero => intro z w F G hG hV a0 r H HF; cases H
  | succ k_ ih_ =>
    intro z w F G hG hV a0 r H HF
    rw [f_plenumref1_digits] at H
    refine enter0 Tryd.func26 rfl Tryd.ntmps26 rfl (E := [(0, .int .i64 a0)]) rfl ?_
    refine cSeq (fun K1 hK1 => ?_)
    refine cRgn [] trivial ?_
    refine sL (asg rfl) rfl ?_
    refine lEnd (K := fun _ _ => True) ?_
    refine kN (?_)
    refine hK1 _ _ ?_
    refine cSeq (fun K2 hK2 => ?_)
    refine cSeq (fun K3 hK3 => ?_)
    refine cRgn [] trivial ?_
    refine sL (mv rfl) rfl ?_
    refine sL (bLss rfl rfl) rfl ?_
    refine lEnd (K := fun _ _ => True) ?_
    refine kN (?_)
    refine hK3 _ _ ?_
    by_cases c1 : a0 < 10
    · replace H := itT c1 H
      refine cSet (i := 4) rfl (dT c1) ?_
      refine cT rfl ?_
      refine cSeq (fun K4 hK4 => ?_)
      refine cRgn [] trivial ?_
      refine sL (mv rfl) rfl ?_
      refine sL (bAdd rfl rfl) rfl ?_
      refine sL (cvI rfl Tryd.underlying3 Tryd.underlying5) rfl ?_
      refine eW (oLit (r := [.int .u8 (IntKind.u8.wrap (IntKind.i64.wrap (48 + a0)))]) (kInt .u8) [IntKind.u8.wrap (IntKind.i64.wrap (48 + a0))] HF Tryd.underlying51 ti5 rfl rfl rfl rfl ⟨[], [], [.int .u8 (IntKind.u8.wrap (IntKind.i64.wrap (48 + a0)))], _, rfl, rfl, ⟨rfl, rfl⟩, ⟨rfl, rfl⟩⟩ rfl rfl) rfl ?_
      rintro _ w1 ⟨L1, A1, c2, rfl, HF1, ho1⟩
      refine sL (cvBS ho1.rd rfl HF1 sub_h Tryd.underlying51 Tryd.underlying5 Tryd.underlying9) rfl ?_
      refine sL (asg rfl) rfl ?_
      refine lEnd (K := fun _ _ => True) ?_
      refine kN (?_)
      refine hK4 _ _ ?_
      refine cRet ?_
      obtain rfl := Option.some.inj H
      refine kR (?_)
      refine ret1 rfl rfl ?_
      have HF2 := HF1.sublist (sl_da (List.Sublist.refl _))
      exact ⟨rfl, HF2⟩
    · replace H := itF c1 H
      refine cSet (i := 4) rfl (dF c1) ?_
      refine cF rfl ?_
      refine cSkip ?_
      refine kN (?_)
      refine hK2 _ _ ?_
      refine cSeq (fun K5 hK5 => ?_)
      refine cDraw mo_ HF rfl (fun w => Fits z w F) (fun w4 HF7 => ?_)
      refine hTake 0 rfl (by kernel_rfl) (pThen pFn) (fun w_ hS_ => mv rfl) HF7 rfl rfl ?_
      refine hTake 1 rfl (by kernel_rfl) (pThen pFn) (fun w_ hS_ => bQuo rfl rfl (by decide)) HF7 rfl rfl ?_
      refine hTake 3 rfl (by kernel_rfl) (pThen pFn) (fun w_ hS_ => mv rfl) HF7 rfl rfl ?_
      refine hTake 4 rfl (by kernel_rfl) (pThen pFn) (fun w_ hS_ => bRem rfl rfl (by decide)) HF7 rfl rfl ?_
      refine hTake 5 rfl (by kernel_rfl) (pThen pFn) (fun w_ hS_ => bAdd rfl rfl) HF7 rfl rfl ?_
      refine hTake 6 rfl (by kernel_rfl) (pThen pFn) (fun w_ hS_ => cvI rfl Tryd.underlying3 Tryd.underlying5) HF7 rfl rfl ?_
      refine h2 2 7 (by kernel_rfl) rfl rfl ?_ ?_
      · replace H := bnd H; obtain ⟨t2, J2, H⟩ := H
        refine qCall rfl gd0 isf26 rfl rfl rfl (ih_ hG (GV.mono hV sub_r) J2 HF7) ?_
        rintro _ w5 ⟨rfl, HF8⟩
        refine ⟨_, rfl, HF8, ?_⟩
        refine h1 7 (by kernel_rfl) rfl ?_
        refine qW rfl gd0 (oLit (r := [.int .u8 (IntKind.u8.wrap (IntKind.i64.wrap (48 + (Int.tmod a0 10))))]) (kInt .u8) [IntKind.u8.wrap (IntKind.i64.wrap (48 + (Int.tmod a0 10)))] HF8 Tryd.underlying51 ti5 rfl rfl rfl rfl ⟨[], [], [.int .u8 (IntKind.u8.wrap (IntKind.i64.wrap (48 + (Int.tmod a0 10))))], _, rfl, rfl, ⟨rfl, rfl⟩, ⟨rfl, rfl⟩⟩ rfl rfl) rfl ?_
        rintro _ w6 ⟨L3, A3, c5, rfl, HF9, ho3⟩
        have HF10 := HF9.sublist (sl_da (List.Sublist.refl _))
        refine ⟨HF10, ?_⟩
        refine h1 8 (by kernel_rfl) rfl ?_
        refine qL rfl gd0 (cvBS ho3.rd rfl HF9 sub_h Tryd.underlying51 Tryd.underlying5 Tryd.underlying9) rfl HF10 ?_
        replace H := chk H; obtain ⟨c6, H⟩ := H
        refine hTake 9 rfl (by kernel_rfl) (pThen pFn) (fun w_ hS_ => bSAdd rfl rfl c6) HF10 rfl rfl ?_
        refine hTake 10 rfl (by kernel_rfl) (pThen pFn) (fun w_ hS_ => asg rfl) HF10 rfl rfl ?_
        refine hEnd (by kernel_rfl) ?_
        refine kN (?_)
        refine hK5 _ _ ?_
        refine cRet ?_
        obtain rfl := Option.some.inj H
        refine ret1 rfl rfl ?_
        have HF11 := HF9.sublist (sl_da (List.Sublist.refl _))
        exact ⟨rfl, HF11⟩
      · refine qW rfl gd0 (oLit (r := [.int .u8 (IntKind.u8.wrap (IntKind.i64.wrap (48 + (Int.tmod a0 10))))]) (kInt .u8) [IntKind.u8.wrap (IntKind.i64.wrap (48 + (Int.tmod a0 10)))] HF7 Tryd.underlying51 ti5 rfl rfl rfl rfl ⟨[], [], [.int .u8 (IntKind.u8.wrap (IntKind.i64.wrap (48 + (Int.tmod a0 10))))], _, rfl, rfl, ⟨rfl, rfl⟩, ⟨rfl, rfl⟩⟩ rfl rfl) rfl ?_
        rintro _ w5 ⟨L3, A3, c5, rfl, HF8, ho3⟩
        have HF9 := HF8.sublist (sl_da (List.Sublist.refl _))
        refine ⟨HF9, ?_⟩
        refine h2 2 8 (by kernel_rfl) rfl rfl ?_ ?_
        · replace H := bnd H; obtain ⟨t2, J2, H⟩ := H
          refine qCall rfl gd0 isf26 rfl rfl rfl (ih_ (sub_a hG) (GV.mono hV sub_r) J2 HF8) ?_
          rintro _ w6 ⟨rfl, HF10⟩
          have HF11 := HF10.sublist (sl_da (List.Sublist.refl _))
          refine ⟨_, rfl, HF11, ?_⟩
          refine h1 8 (by kernel_rfl) rfl ?_
          refine qL rfl gd0 (cvBS ho3.rd rfl HF10 sub_h Tryd.underlying51 Tryd.underlying5 Tryd.underlying9) rfl HF11 ?_
          replace H := chk H; obtain ⟨c6, H⟩ := H
          refine hTake 9 rfl (by kernel_rfl) (pThen pFn) (fun w_ hS_ => bSAdd rfl rfl c6) HF11 rfl rfl ?_
          refine hTake 10 rfl (by kernel_rfl) (pThen pFn) (fun w_ hS_ => asg rfl) HF11 rfl rfl ?_
          refine hEnd (by kernel_rfl) ?_
          refine kN (?_)
          refine hK5 _ _ ?_
          refine cRet ?_
          obtain rfl := Option.some.inj H
          refine ret1 rfl rfl ?_
          have HF12 := HF10.sublist (sl_da (List.Sublist.refl _))
          exact ⟨rfl, HF12⟩
        · refine qL rfl gd0 (cvBS ho3.rd rfl HF8 sub_h Tryd.underlying51 Tryd.underlying5 Tryd.underlying9) rfl HF9 ?_
          refine h1 2 (by kernel_rfl) rfl ?_
          replace H := bnd H; obtain ⟨t2, J2, H⟩ := H
          refine qCall rfl gd0 isf26 rfl rfl rfl (ih_ (sub_a hG) (GV.mono hV sub_r) J2 HF8) ?_
          rintro _ w6 ⟨rfl, HF10⟩
          have HF11 := HF10.sublist (sl_da (List.Sublist.refl _))
          refine ⟨_, rfl, HF11, ?_⟩
          replace H := chk H; obtain ⟨c6, H⟩ := H
          refine hTake 9 rfl (by kernel_rfl) (pThen pFn) (fun w_ hS_ => bSAdd rfl rfl c6) HF11 rfl rfl ?_
          refine hTake 10 rfl (by kernel_rfl) (pThen pFn) (fun w_ hS_ => asg rfl) HF11 rfl rfl ?_
          refine hEnd (by kernel_rfl) ?_
          refine kN (?_)
          refine hK5 _ _ ?_
          refine cRet ?_
          obtain rfl := Option.some.inj H
          refine ret1 rfl rfl ?_
          have HF12 := HF10.sublist (sl_da (List.Sublist.refl _))
          exact ⟨rfl, HF12⟩

/-! ### plenum/plenumref1.Text (function 20) -/
abbrev f_plenumref1_Text.R := ByteArray
noncomputable def f_plenumref1_Text (a0 : Int) : Option f_plenumref1_Text.R := ((f_plenumref1_digits 64 (bits .and .i64 (shrI .i64 a0 24) 255)).bind fun t1 => (if (t1.size : Int) + (⟨#[46]⟩ : ByteArray).size ≤ 9223372036854775807 then ((f_plenumref1_digits 64 (bits .and .i64 (shrI .i64 a0 16) 255)).bind fun t2 => (if ((t1 ++ (⟨#[46]⟩ : ByteArray)).size : Int) + t2.size ≤ 9223372036854775807 then (if (((t1 ++ (⟨#[46]⟩ : ByteArray)) ++ t2).size : Int) + (⟨#[46]⟩ : ByteArray).size ≤ 9223372036854775807 then ((f_plenumref1_digits 64 (bits .and .i64 (shrI .i64 a0 8) 255)).bind fun t3 => (if ((((t1 ++ (⟨#[46]⟩ : ByteArray)) ++ t2) ++ (⟨#[46]⟩ : ByteArray)).size : Int) + t3.size ≤ 9223372036854775807 then (if (((((t1 ++ (⟨#[46]⟩ : ByteArray)) ++ t2) ++ (⟨#[46]⟩ : ByteArray)) ++ t3).size : Int) + (⟨#[46]⟩ : ByteArray).size ≤ 9223372036854775807 then ((f_plenumref1_digits 64 (bits .and .i64 a0 255)).bind fun t4 => (if ((((((t1 ++ (⟨#[46]⟩ : ByteArray)) ++ t2) ++ (⟨#[46]⟩ : ByteArray)) ++ t3) ++ (⟨#[46]⟩ : ByteArray)).size : Int) + t4.size ≤ 9223372036854775807 then some ((((((t1 ++ (⟨#[46]⟩ : ByteArray)) ++ t2) ++ (⟨#[46]⟩ : ByteArray)) ++ t3) ++ (⟨#[46]⟩ : ByteArray)) ++ t4) else none)) else none) else none)) else none) else none)) else none))
set_option maxHeartbeats 1000000 in
theorem f_plenumref1_Text.ok {z w : World} {F G : Hp} (hG : G ⊆ F) (hV : GV G) {a0 : Int} {r : f_plenumref1_Text.R} (H : f_plenumref1_Text a0 = some r) (HF : Fits z w F) :
    Calls Tryd.prog 20 [.int .i64 a0].toArray w fun e w' => e = .returned (.string r) ∧ Fits z w' F := by
  unfold f_plenumref1_Text at H
  refine enter0 Tryd.func20 rfl Tryd.ntmps20 rfl (E := [(0, .int .i64 a0)]) rfl ?_
  refine cSeq (fun K1 hK1 => ?_)
  refine cRgn [] trivial ?_
  refine sL (asg rfl) rfl ?_
  refine lEnd (K := fun _ _ => True) ?_
  refine kN (?_)
  refine hK1 _ _ ?_
  refine cSeq (fun K2 hK2 => ?_)
  refine cRgn [] trivial ?_
  refine sL (mv rfl) rfl ?_
  refine sL (bShr rfl rfl (by decide)) rfl ?_
  refine sL (bAnd rfl rfl) rfl ?_
  replace H := bnd H; obtain ⟨t1, J1, H⟩ := H
  refine eCall isf26 rfl rfl rfl (f_plenumref1_digits.ok 64 hG (GV.mono hV sub_r) J1 HF) ?_
  rintro _ w1 ⟨rfl, HF1⟩
  refine ⟨_, rfl, ?_⟩
  replace H := chk H; obtain ⟨c1, H⟩ := H
  refine sL (bSAdd rfl rfl c1) rfl ?_
  refine sL (mv rfl) rfl ?_
  refine sL (bShr rfl rfl (by decide)) rfl ?_
  refine sL (bAnd rfl rfl) rfl ?_
  replace H := bnd H; obtain ⟨t2, J2, H⟩ := H
  refine eCall isf26 rfl rfl rfl (f_plenumref1_digits.ok 64 hG (GV.mono hV sub_r) J2 HF1) ?_
  rintro _ w2 ⟨rfl, HF2⟩
  refine ⟨_, rfl, ?_⟩
  replace H := chk H; obtain ⟨c2, H⟩ := H
  refine sL (bSAdd rfl rfl c2) rfl ?_
  replace H := chk H; obtain ⟨c3, H⟩ := H
  refine sL (bSAdd rfl rfl c3) rfl ?_
  refine sL (mv rfl) rfl ?_
  refine sL (bShr rfl rfl (by decide)) rfl ?_
  refine sL (bAnd rfl rfl) rfl ?_
  replace H := bnd H; obtain ⟨t3, J3, H⟩ := H
  refine eCall isf26 rfl rfl rfl (f_plenumref1_digits.ok 64 hG (GV.mono hV sub_r) J3 HF2) ?_
  rintro _ w3 ⟨rfl, HF3⟩
  refine ⟨_, rfl, ?_⟩
  replace H := chk H; obtain ⟨c4, H⟩ := H
  refine sL (bSAdd rfl rfl c4) rfl ?_
  replace H := chk H; obtain ⟨c5, H⟩ := H
  refine sL (bSAdd rfl rfl c5) rfl ?_
  refine sL (mv rfl) rfl ?_
  refine sL (bAnd rfl rfl) rfl ?_
  replace H := bnd H; obtain ⟨t4, J4, H⟩ := H
  refine eCall isf26 rfl rfl rfl (f_plenumref1_digits.ok 64 hG (GV.mono hV sub_r) J4 HF3) ?_
  rintro _ w4 ⟨rfl, HF4⟩
  refine ⟨_, rfl, ?_⟩
  replace H := chk H; obtain ⟨c6, H⟩ := H
  refine sL (bSAdd rfl rfl c6) rfl ?_
  refine sL (asg rfl) rfl ?_
  refine lEnd (K := fun _ _ => True) ?_
  refine kN (?_)
  refine hK2 _ _ ?_
  refine cRet ?_
  obtain rfl := Option.some.inj H
  refine ret1 rfl rfl ?_
  exact ⟨rfl, HF4⟩

/-! ### plenum/plenumref1.Read (function 10) -/
abbrev f_plenumref1_Read.R := Int × Int
noncomputable def f_plenumref1_Read.b0 (a0 : ByteArray) (s5 : Int × Int × Int × Int) : Option (Sum (Int × Int × Int × Int) (Sum (Int × Int × Int × Int) f_plenumref1_Read.R)) := ((((if s5.2.2.2 ≤ (a0.size : Int) then some (.inl (decide (s5.2.2.2 < 16))) else some (.inl false)) : Option (Sum (Bool) f_plenumref1_Read.R))).bind fun y7 => match y7 with | .inl s6 => (if s6 = true then ((((if s5.2.2.2 < (a0.size : Int) then (if 0 ≤ s5.2.2.2 then (if 48 ≤ (bt a0 s5.2.2.2) then (if (bt a0 s5.2.2.2) ≤ 57 then some (.inl (decide (s5.2.1 < 256))) else some (.inl false)) else some (.inl false)) else none) else some (.inl false)) : Option (Sum (Bool) f_plenumref1_Read.R))).bind fun y8 => match y8 with | .inl s7 => (if s7 = true then (if 0 ≤ s5.2.2.2 then (if s5.2.2.2 < (a0.size : Int) then some (.inl (s5.1, IntKind.i64.wrap ((IntKind.i64.wrap (10 * s5.2.1)) + (IntKind.i64.wrap (IntKind.u8.wrap ((bt a0 s5.2.2.2) - 48)))), s5.2.2.1, IntKind.i64.wrap (s5.2.2.2 + 1))) else none) else none) else some (.inl (bits .or .i64 (shlI .i64 s5.1 8) (bits .and .i64 s5.2.1 255), 0, IntKind.i64.wrap (s5.2.2.1 + 1), IntKind.i64.wrap (s5.2.2.2 + 1)))) | .inr r_ => some (.inr (.inr r_))) else some (.inr (.inl (s5.1, s5.2.1, s5.2.2.1, s5.2.2.2)))) | .inr r_ => some (.inr (.inr r_)))
noncomputable def f_plenumref1_Read (a0 : ByteArray) : Option f_plenumref1_Read.R := ((loopO (f_plenumref1_Read.b0 a0) (0, 0, 0, 0)).bind fun y5 => match y5 with | .inl s5 => (if s5.2.2.1 = 4 then ((f_plenumref1_Text s5.1).bind fun t1 => (if (t1.toList == a0.toList) = true then some (bits .and .i64 s5.1 4294967295, 0) else some (0, 3))) else some (0, 3)) | .inr r_ => some r_)
set_option maxHeartbeats 1000000 in
theorem f_plenumref1_Read.ok {z w : World} {F G : Hp} (hG : G ⊆ F) (hV : GV G) {a0 : ByteArray} {r : f_plenumref1_Read.R} (H : f_plenumref1_Read a0 = some r) (HF : Fits z w F) :
    Calls Tryd.prog 10 [.string a0].toArray w fun e w' => e = .returned (.tuple #[.int .i64 r.1, .int .i64 r.2]) ∧ Fits z w' F := by
  unfold f_plenumref1_Read at H
  refine enter0 Tryd.func10 rfl Tryd.ntmps10 rfl (E := [(0, .string a0)]) rfl ?_
  refine cSeq (fun K1 hK1 => ?_)
  refine cRgn [] trivial ?_
  refine sL (asg rfl) rfl ?_
  refine sL (asg rfl) rfl ?_
  refine lEnd (K := fun _ _ => True) ?_
  refine kN (?_)
  refine hK1 _ _ ?_
  refine cSeq (fun K2 hK2 => ?_)
  refine cRgn [] trivial ?_
  refine sL (asg rfl) rfl ?_
  refine sL (asg rfl) rfl ?_
  refine sL (asg rfl) rfl ?_
  refine lEnd (K := fun _ _ => True) ?_
  refine kN (?_)
  refine hK2 _ _ ?_
  refine cSeq (fun K3 hK3 => ?_)
  refine cSeq (fun K4 hK4 => ?_)
  refine cRgn [] trivial ?_
  refine sL (asg rfl) rfl ?_
  refine lEnd (K := fun _ _ => True) ?_
  refine kN (?_)
  refine hK4 _ _ ?_
  replace H := bnd H; obtain ⟨y5, J2, Ho5⟩ := H
  refine cLoopB (f_plenumref1_Read.b0 a0) (fun (s5 : Int × Int × Int × Int) a w => Env 63 [(0, .string a0), (2, .int .i64 0), (3, .int .i64 0), (4, .int .i64 s5.1), (5, .int .i64 s5.2.1), (6, .int .i64 s5.2.2.1), (7, .int .i64 s5.2.2.2)] a ∧ Fits z w F) J2 (fun a hE => ⟨hE.keep (Keep.cons rfl (Keep.cons rfl (Keep.cons rfl (Keep.cons rfl (Keep.cons rfl (Keep.cons rfl (Keep.cons rfl (Keep.nil)))))))), HF⟩) ?_ ?_
  · rintro s5 a w5 y6 ⟨hE, HF5⟩ H Hx1
    refine go_ hE ?_
    refine cSeq (fun K21 hK21 => ?_)
    refine cSeq (fun K22 hK22 => ?_)
    replace H := bnd H; obtain ⟨y7, H, Ho6⟩ := H
    refine cJoin (y := y7) (fun (s6 : Bool) a w => Env 63 [(0, .string a0), (2, .int .i64 0), (3, .int .i64 0), (4, .int .i64 s5.1), (5, .int .i64 s5.2.1), (6, .int .i64 s5.2.2.1), (7, .int .i64 s5.2.2.2), (15, .bool s6)] a ∧ Fits z w F) ?_ ?_
    · refine cRgn [(4, 12)] ⟨rfl, trivial⟩ ?_
      refine sL (mv rfl) rfl ?_
      refine sL (mv rfl) rfl ?_
      refine sL (lnStr rfl Tryd.underlying9) rfl ?_
      refine sL (bLeq rfl rfl) rfl ?_
      refine sL (mv rfl) rfl ?_
      by_cases c29 : s5.2.2.2 ≤ (a0.size : Int)
      · replace H := itT c29 H
        refine lSet (i := 12) rfl (dT c29) ?_
        refine sG rfl rfl (mv rfl) rfl ?_
        refine sG rfl rfl (bLss rfl rfl) rfl ?_
        refine sL (pkT rfl rfl) rfl ?_
        refine lEnd (K := fun _ _ => True) ?_
        refine kN (?_)
        exact ofEnv (fun a hE => ⟨_, (Option.some.inj H).symm, ⟨hE.keep (Keep.cons rfl (Keep.cons rfl (Keep.cons rfl (Keep.cons rfl (Keep.cons rfl (Keep.cons rfl (Keep.cons rfl (Keep.cons rfl (Keep.nil))))))))), HF5⟩⟩)
      · replace H := itF c29 H
        refine lSet (i := 12) rfl (dF c29) ?_
        refine sN rfl rfl rfl rfl ?_
        refine sN rfl rfl rfl rfl ?_
        refine sL (pkF rfl rfl) rfl ?_
        refine lEnd (K := fun _ _ => True) ?_
        refine kN (?_)
        exact ofEnv (fun a hE => ⟨_, (Option.some.inj H).symm, ⟨hE.keep (Keep.cons rfl (Keep.cons rfl (Keep.cons rfl (Keep.cons rfl (Keep.cons rfl (Keep.cons rfl (Keep.cons rfl (Keep.cons rfl (Keep.nil))))))))), HF5⟩⟩)
    · rintro s6 a w6 rfl ⟨hE, HF6⟩
      replace H := Ho6
      refine go_k hE ?_
      refine kN (?_)
      refine hK22 _ _ ?_
      by_cases c30 : s6 = true
      · replace H := itT c30 H
        refine cSet (i := 15) rfl (vT c30) ?_
        refine cT rfl ?_
        refine cSkip ?_
        refine kN (?_)
        refine hK21 _ _ ?_
        refine cSeq (fun K23 hK23 => ?_)
        refine cBlock ?_
        refine cSeq (fun K24 hK24 => ?_)
        refine cSeq (fun K25 hK25 => ?_)
        replace H := bnd H; obtain ⟨y8, H, Ho7⟩ := H
        refine cJoin (y := y8) (fun (s7 : Bool) a w => Env 63 [(0, .string a0), (2, .int .i64 0), (3, .int .i64 0), (4, .int .i64 s5.1), (5, .int .i64 s5.2.1), (6, .int .i64 s5.2.2.1), (7, .int .i64 s5.2.2.2), (37, .bool s7)] a ∧ Fits z w F) ?_ ?_
        · refine cRgn [(4, 22), (10, 28), (16, 34)] ⟨rfl, rfl, rfl, trivial⟩ ?_
          refine sL (mv rfl) rfl ?_
          refine sL (mv rfl) rfl ?_
          refine sL (lnStr rfl Tryd.underlying9) rfl ?_
          refine sL (bLss rfl rfl) rfl ?_
          refine sL (mv rfl) rfl ?_
          by_cases c35 : s5.2.2.2 < (a0.size : Int)
          · replace H := itT c35 H
            refine lSet (i := 22) rfl (dT c35) ?_
            refine sG rfl rfl (mv rfl) rfl ?_
            refine sG rfl rfl (mv rfl) rfl ?_
            replace H := chk H; obtain ⟨c36, H⟩ := H
            refine sG rfl rfl (ixS rfl rfl Tryd.underlying9 c36 c35) rfl ?_
            refine sG rfl rfl (bGeq rfl rfl) rfl ?_
            refine sL (pkT rfl rfl) rfl ?_
            refine sL (mv rfl) rfl ?_
            by_cases c37 : 48 ≤ (bt a0 s5.2.2.2)
            · replace H := itT c37 H
              refine lSet (i := 28) rfl (dT c37) ?_
              refine sG rfl rfl (mv rfl) rfl ?_
              refine sG rfl rfl (mv rfl) rfl ?_
              refine sG rfl rfl (ixS rfl rfl Tryd.underlying9 c36 c35) rfl ?_
              refine sG rfl rfl (bLeq rfl rfl) rfl ?_
              refine sL (pkT rfl rfl) rfl ?_
              refine sL (mv rfl) rfl ?_
              by_cases c38 : (bt a0 s5.2.2.2) ≤ 57
              · replace H := itT c38 H
                refine lSet (i := 34) rfl (dT c38) ?_
                refine sG rfl rfl (mv rfl) rfl ?_
                refine sG rfl rfl (bLss rfl rfl) rfl ?_
                refine sL (pkT rfl rfl) rfl ?_
                refine lEnd (K := fun _ _ => True) ?_
                refine kN (?_)
                exact ofEnv (fun a hE => ⟨_, (Option.some.inj H).symm, ⟨hE.keep (Keep.cons rfl (Keep.cons rfl (Keep.cons rfl (Keep.cons rfl (Keep.cons rfl (Keep.cons rfl (Keep.cons rfl (Keep.cons rfl (Keep.nil))))))))), HF6⟩⟩)
              · replace H := itF c38 H
                refine lSet (i := 34) rfl (dF c38) ?_
                refine sN rfl rfl rfl rfl ?_
                refine sN rfl rfl rfl rfl ?_
                refine sL (pkF rfl rfl) rfl ?_
                refine lEnd (K := fun _ _ => True) ?_
                refine kN (?_)
                exact ofEnv (fun a hE => ⟨_, (Option.some.inj H).symm, ⟨hE.keep (Keep.cons rfl (Keep.cons rfl (Keep.cons rfl (Keep.cons rfl (Keep.cons rfl (Keep.cons rfl (Keep.cons rfl (Keep.cons rfl (Keep.nil))))))))), HF6⟩⟩)
            · replace H := itF c37 H
              refine lSet (i := 28) rfl (dF c37) ?_
              refine sN rfl rfl rfl rfl ?_
              refine sN rfl rfl rfl rfl ?_
              refine sN rfl rfl rfl rfl ?_
              refine sN rfl rfl rfl rfl ?_
              refine sL (pkF rfl rfl) rfl ?_
              refine sL (mv rfl) rfl ?_
              refine sN rfl rfl rfl rfl ?_
              refine sN rfl rfl rfl rfl ?_
              refine sL (pkF rfl rfl) rfl ?_
              refine lEnd (K := fun _ _ => True) ?_
              refine kN (?_)
              exact ofEnv (fun a hE => ⟨_, (Option.some.inj H).symm, ⟨hE.keep (Keep.cons rfl (Keep.cons rfl (Keep.cons rfl (Keep.cons rfl (Keep.cons rfl (Keep.cons rfl (Keep.cons rfl (Keep.cons rfl (Keep.nil))))))))), HF6⟩⟩)
          · replace H := itF c35 H
            refine lSet (i := 22) rfl (dF c35) ?_
            refine sN rfl rfl rfl rfl ?_
            refine sN rfl rfl rfl rfl ?_
            refine sN rfl rfl rfl rfl ?_
            refine sN rfl rfl rfl rfl ?_
            refine sL (pkF rfl rfl) rfl ?_
            refine sL (mv rfl) rfl ?_
            refine sN rfl rfl rfl rfl ?_
            refine sN rfl rfl rfl rfl ?_
            refine sN rfl rfl rfl rfl ?_
            refine sN rfl rfl rfl rfl ?_
            refine sL (pkF rfl rfl) rfl ?_
            refine sL (mv rfl) rfl ?_
            refine sN rfl rfl rfl rfl ?_
            refine sN rfl rfl rfl rfl ?_
            refine sL (pkF rfl rfl) rfl ?_
            refine lEnd (K := fun _ _ => True) ?_
            refine kN (?_)
            exact ofEnv (fun a hE => ⟨_, (Option.some.inj H).symm, ⟨hE.keep (Keep.cons rfl (Keep.cons rfl (Keep.cons rfl (Keep.cons rfl (Keep.cons rfl (Keep.cons rfl (Keep.cons rfl (Keep.cons rfl (Keep.nil))))))))), HF6⟩⟩)
        · rintro s7 a w7 rfl ⟨hE, HF7⟩
          replace H := Ho7
          refine go_k hE ?_
          refine kN (?_)
          refine hK25 _ _ ?_
          by_cases c39 : s7 = true
          · replace H := itT c39 H
            refine cSet (i := 37) rfl (vT c39) ?_
            refine cT rfl ?_
            refine cSeq (fun K26 hK26 => ?_)
            refine cRgn [] trivial ?_
            refine sL (mv rfl) rfl ?_
            refine sL (bMul rfl rfl) rfl ?_
            refine sL (mv rfl) rfl ?_
            refine sL (mv rfl) rfl ?_
            replace H := chk H; obtain ⟨c40, H⟩ := H
            replace H := chk H; obtain ⟨c41, H⟩ := H
            refine sL (ixS rfl rfl Tryd.underlying9 c40 c41) rfl ?_
            refine sL (bSub rfl rfl) rfl ?_
            refine sL (cvI rfl Tryd.underlying5 Tryd.underlying3) rfl ?_
            refine sL (bAdd rfl rfl) rfl ?_
            refine sL (asg rfl) rfl ?_
            refine lEnd (K := fun _ _ => True) ?_
            refine kN (?_)
            refine hK26 _ _ ?_
            refine cExit ?_
            refine kX (jX (kN (?_)))
            refine hK23 _ _ ?_
            refine cRgn [] trivial ?_
            refine sL (mv rfl) rfl ?_
            refine sL (bAdd rfl rfl) rfl ?_
            refine sL (asg rfl) rfl ?_
            refine lEnd (K := fun _ _ => True) ?_
            refine kN (?_)
            exact ofEnv (fun a hE => ⟨_, (Option.some.inj H).symm, ⟨hE.keep (Keep.cons rfl (Keep.cons rfl (Keep.cons rfl (Keep.cons rfl (Keep.cons rfl (Keep.cons rfl (Keep.cons rfl (Keep.nil)))))))), HF7⟩⟩)
          · replace H := itF c39 H
            refine cSet (i := 37) rfl (vF c39) ?_
            refine cF rfl ?_
            refine cSkip ?_
            refine kN (?_)
            refine hK24 _ _ ?_
            refine cSeq (fun K27 hK27 => ?_)
            refine cRgn [] trivial ?_
            refine sL (mv rfl) rfl ?_
            refine sL (bShl rfl rfl (by decide)) rfl ?_
            refine sL (mv rfl) rfl ?_
            refine sL (bAnd rfl rfl) rfl ?_
            refine sL (bOr rfl rfl) rfl ?_
            refine sL (asg rfl) rfl ?_
            refine lEnd (K := fun _ _ => True) ?_
            refine kN (?_)
            refine hK27 _ _ ?_
            refine cSeq (fun K28 hK28 => ?_)
            refine cRgn [] trivial ?_
            refine sL (asg rfl) rfl ?_
            refine lEnd (K := fun _ _ => True) ?_
            refine kN (?_)
            refine hK28 _ _ ?_
            refine cRgn [] trivial ?_
            refine sL (mv rfl) rfl ?_
            refine sL (bAdd rfl rfl) rfl ?_
            refine sL (asg rfl) rfl ?_
            refine lEnd (K := fun _ _ => True) ?_
            refine jN (kN (?_))
            refine hK23 _ _ ?_
            refine cRgn [] trivial ?_
            refine sL (mv rfl) rfl ?_
            refine sL (bAdd rfl rfl) rfl ?_
            refine sL (asg rfl) rfl ?_
            refine lEnd (K := fun _ _ => True) ?_
            refine kN (?_)
            exact ofEnv (fun a hE => ⟨_, (Option.some.inj H).symm, ⟨hE.keep (Keep.cons rfl (Keep.cons rfl (Keep.cons rfl (Keep.cons rfl (Keep.cons rfl (Keep.cons rfl (Keep.cons rfl (Keep.nil)))))))), HF7⟩⟩)
      · replace H := itF c30 H
        refine cSet (i := 15) rfl (vF c30) ?_
        refine cF rfl ?_
        refine cExit ?_
        refine kX (kX (jX (kN (?_))))
        exact ofEnv (fun a hE => ⟨_, (Option.some.inj H).symm, ⟨hE.keep (Keep.cons rfl (Keep.cons rfl (Keep.cons rfl (Keep.cons rfl (Keep.cons rfl (Keep.cons rfl (Keep.cons rfl (Keep.nil)))))))), HF6⟩⟩)
  · rintro s5 a w8 rfl ⟨hE, HF8⟩
    replace H := Ho5
    refine go_k hE ?_
    refine kN (?_)
    refine hK3 _ _ ?_
    refine cSeq (fun K29 hK29 => ?_)
    refine cSeq (fun K30 hK30 => ?_)
    refine cRgn [(2, 55)] ⟨rfl, trivial⟩ ?_
    refine sL (mv rfl) rfl ?_
    refine sL (bNeq rfl rfl) rfl ?_
    refine sL (mv rfl) rfl ?_
    by_cases c42 : s5.2.2.1 = 4
    · replace H := itT c42 H
      refine lSet (i := 55) rfl (nF c42) ?_
      refine sG rfl rfl (mv rfl) rfl ?_
      replace H := bnd H; obtain ⟨t1, J1, H⟩ := H
      refine eCallG rfl rfl isf20 rfl rfl rfl (f_plenumref1_Text.ok hG (GV.mono hV sub_r) J1 HF8) ?_
      rintro _ w9 ⟨rfl, HF9⟩
      refine ⟨_, rfl, ?_⟩
      refine sG rfl rfl (mv rfl) rfl ?_
      refine sG rfl rfl (bSNeq rfl rfl) rfl ?_
      refine sL (pkF rfl rfl) rfl ?_
      refine lEnd (K := fun _ _ => True) ?_
      refine kN (?_)
      refine hK30 _ _ ?_
      by_cases c43 : (t1.toList == a0.toList) = true
      · replace H := itT c43 H
        refine cSet (i := 60) rfl (wF c43) ?_
        refine cF rfl ?_
        refine cSkip ?_
        refine kN (?_)
        refine hK29 _ _ ?_
        refine cSeq (fun K31 hK31 => ?_)
        refine cRgn [] trivial ?_
        refine sL (mv rfl) rfl ?_
        refine sL (bAnd rfl rfl) rfl ?_
        refine sL (asg rfl) rfl ?_
        refine sL (asg rfl) rfl ?_
        refine lEnd (K := fun _ _ => True) ?_
        refine kN (?_)
        refine hK31 _ _ ?_
        refine cRet ?_
        obtain rfl := Option.some.inj H
        refine ret2 rfl rfl rfl ?_
        exact ⟨rfl, HF9⟩
      · replace H := itF c43 H
        refine cSet (i := 60) rfl (wT c43) ?_
        refine cT rfl ?_
        refine cSeq (fun K32 hK32 => ?_)
        refine cRgn [] trivial ?_
        refine sL (asg rfl) rfl ?_
        refine sL (asg rfl) rfl ?_
        refine lEnd (K := fun _ _ => True) ?_
        refine kN (?_)
        refine hK32 _ _ ?_
        refine cRet ?_
        obtain rfl := Option.some.inj H
        refine kR (?_)
        refine ret2 rfl rfl rfl ?_
        exact ⟨rfl, HF9⟩
    · replace H := itF c42 H
      refine lSet (i := 55) rfl (nT c42) ?_
      refine sN rfl rfl rfl rfl ?_
      refine sN rfl rfl rfl rfl ?_
      refine sN rfl rfl rfl rfl ?_
      refine sN rfl rfl rfl rfl ?_
      refine sL (pkT rfl rfl) rfl ?_
      refine lEnd (K := fun _ _ => True) ?_
      refine kN (?_)
      refine hK30 _ _ ?_
      refine cT rfl ?_
      refine cSeq (fun K33 hK33 => ?_)
      refine cRgn [] trivial ?_
      refine sL (asg rfl) rfl ?_
      refine sL (asg rfl) rfl ?_
      refine lEnd (K := fun _ _ => True) ?_
      refine kN (?_)
      refine hK33 _ _ ?_
      refine cRet ?_
      obtain rfl := Option.some.inj H
      refine kR (?_)
      refine ret2 rfl rfl rfl ?_
      exact ⟨rfl, HF8⟩

/-! ### plenum/plenumlaw1.AddrReads (function 3) -/
abbrev f_plenumlaw1_AddrReads.R := Bool
noncomputable def f_plenumlaw1_AddrReads (a0 : ByteArray) : Option f_plenumlaw1_AddrReads.R := (if 100 < (a0.size : Int) then ((f_plenumlaw1_awake).bind fun t1 => some t1) else ((f_addr_Read a0).bind fun (t2, t3) => ((f_plenumref1_Read a0).bind fun (t4, t5) => (if t2 = t4 then ((f_plenumlaw1_Num t3).bind fun t6 => (if t6 = t5 then ((f_plenumlaw1_awake).bind fun t7 => some t7) else some false)) else some false))))
set_option maxHeartbeats 1000000 in
theorem f_plenumlaw1_AddrReads.ok {z w : World} {F G : Hp} (hG : G ⊆ F) (hV : GV G) {a0 : ByteArray} {r : f_plenumlaw1_AddrReads.R} (H : f_plenumlaw1_AddrReads a0 = some r) (HF : Fits z w F) :
    Calls Tryd.prog 3 [.string a0].toArray w fun e w' => e = .returned (.bool r) ∧ Fits z w' F := by
  unfold f_plenumlaw1_AddrReads at H
  refine enter0 Tryd.func3 rfl Tryd.ntmps3 rfl (E := [(0, .string a0)]) rfl ?_
  refine cSeq (fun K1 hK1 => ?_)
  refine cRgn [] trivial ?_
  refine sL (asg rfl) rfl ?_
  refine lEnd (K := fun _ _ => True) ?_
  refine kN (?_)
  refine hK1 _ _ ?_
  refine cSeq (fun K2 hK2 => ?_)
  refine cSeq (fun K3 hK3 => ?_)
  refine cRgn [] trivial ?_
  refine sL (mv rfl) rfl ?_
  refine sL (lnStr rfl Tryd.underlying9) rfl ?_
  refine sL (bGtr rfl rfl) rfl ?_
  refine lEnd (K := fun _ _ => True) ?_
  refine kN (?_)
  refine hK3 _ _ ?_
  by_cases c1 : 100 < (a0.size : Int)
  · replace H := itT c1 H
    refine cSet (i := 9) rfl (dT c1) ?_
    refine cT rfl ?_
    refine cSeq (fun K4 hK4 => ?_)
    refine cRgn [] trivial ?_
    replace H := bnd H; obtain ⟨t1, J1, H⟩ := H
    refine eCall isf8 rfl rfl rfl (f_plenumlaw1_awake.ok hG (GV.mono hV sub_r) J1 HF) ?_
    rintro _ w1 ⟨rfl, HF1⟩
    refine ⟨_, rfl, ?_⟩
    refine sL (asg rfl) rfl ?_
    refine lEnd (K := fun _ _ => True) ?_
    refine kN (?_)
    refine hK4 _ _ ?_
    refine cRet ?_
    obtain rfl := Option.some.inj H
    refine kR (?_)
    refine ret1 rfl rfl ?_
    exact ⟨rfl, HF1⟩
  · replace H := itF c1 H
    refine cSet (i := 9) rfl (dF c1) ?_
    refine cF rfl ?_
    refine cSkip ?_
    refine kN (?_)
    refine hK2 _ _ ?_
    refine cSeq (fun K5 hK5 => ?_)
    refine cRgn [] trivial ?_
    refine sL (mv rfl) rfl ?_
    replace H := bnd H; obtain ⟨⟨t2, t3⟩, J2, H⟩ := H
    refine eCall isf9 rfl rfl rfl (f_addr_Read.ok hG (GV.mono hV sub_r) J2 HF) ?_
    rintro _ w2 ⟨rfl, HF2⟩
    refine ⟨_, rfl, ?_⟩
    refine sL (mv rfl) rfl ?_
    refine sL (ex rfl rfl) rfl ?_
    refine sL (ex rfl rfl) rfl ?_
    refine sL (asg rfl) rfl ?_
    refine sL (asg rfl) rfl ?_
    refine lEnd (K := fun _ _ => True) ?_
    refine kN (?_)
    refine hK5 _ _ ?_
    refine cSeq (fun K6 hK6 => ?_)
    refine cRgn [] trivial ?_
    refine sL (mv rfl) rfl ?_
    replace H := bnd H; obtain ⟨⟨t4, t5⟩, J3, H⟩ := H
    refine eCall isf10 rfl rfl rfl (f_plenumref1_Read.ok hG (GV.mono hV sub_r) J3 HF2) ?_
    rintro _ w3 ⟨rfl, HF3⟩
    refine ⟨_, rfl, ?_⟩
    refine sL (mv rfl) rfl ?_
    refine sL (ex rfl rfl) rfl ?_
    refine sL (ex rfl rfl) rfl ?_
    refine sL (asg rfl) rfl ?_
    refine sL (asg rfl) rfl ?_
    refine lEnd (K := fun _ _ => True) ?_
    refine kN (?_)
    refine hK6 _ _ ?_
    refine cSeq (fun K7 hK7 => ?_)
    refine cRgn [(3, 24), (9, 30)] ⟨rfl, rfl, trivial⟩ ?_
    refine sL (mv rfl) rfl ?_
    refine sL (mv rfl) rfl ?_
    refine sL (bEql rfl rfl) rfl ?_
    refine sL (mv rfl) rfl ?_
    by_cases c2 : t2 = t4
    · replace H := itT c2 H
      refine lSet (i := 24) rfl (dT c2) ?_
      refine sG rfl rfl (mv rfl) rfl ?_
      replace H := bnd H; obtain ⟨t6, J4, H⟩ := H
      refine eCallG rfl rfl isf11 rfl rfl rfl (f_plenumlaw1_Num.ok hG (GV.mono hV sub_r) J4 HF3) ?_
      rintro _ w4 ⟨rfl, HF4⟩
      refine ⟨_, rfl, ?_⟩
      refine sG rfl rfl (mv rfl) rfl ?_
      refine sG rfl rfl (bEql rfl rfl) rfl ?_
      refine sL (pkT rfl rfl) rfl ?_
      refine sL (mv rfl) rfl ?_
      by_cases c3 : t6 = t5
      · replace H := itT c3 H
        refine lSet (i := 30) rfl (dT c3) ?_
        replace H := bnd H; obtain ⟨t7, J5, H⟩ := H
        refine eCallG rfl rfl isf8 rfl rfl rfl (f_plenumlaw1_awake.ok hG (GV.mono hV sub_r) J5 HF4) ?_
        rintro _ w5 ⟨rfl, HF5⟩
        refine ⟨_, rfl, ?_⟩
        refine sL (pkT rfl rfl) rfl ?_
        refine sL (asg rfl) rfl ?_
        refine lEnd (K := fun _ _ => True) ?_
        refine kN (?_)
        refine hK7 _ _ ?_
        refine cRet ?_
        obtain rfl := Option.some.inj H
        refine ret1 rfl rfl ?_
        exact ⟨rfl, HF5⟩
      · replace H := itF c3 H
        refine lSet (i := 30) rfl (dF c3) ?_
        refine sN rfl rfl rfl rfl ?_
        refine sL (pkF rfl rfl) rfl ?_
        refine sL (asg rfl) rfl ?_
        refine lEnd (K := fun _ _ => True) ?_
        refine kN (?_)
        refine hK7 _ _ ?_
        refine cRet ?_
        obtain rfl := Option.some.inj H
        refine ret1 rfl rfl ?_
        exact ⟨rfl, HF4⟩
    · replace H := itF c2 H
      refine lSet (i := 24) rfl (dF c2) ?_
      refine sN rfl rfl rfl rfl ?_
      refine sN rfl rfl rfl rfl ?_
      refine sN rfl rfl rfl rfl ?_
      refine sN rfl rfl rfl rfl ?_
      refine sL (pkF rfl rfl) rfl ?_
      refine sL (mv rfl) rfl ?_
      refine sN rfl rfl rfl rfl ?_
      refine sL (pkF rfl rfl) rfl ?_
      refine sL (asg rfl) rfl ?_
      refine lEnd (K := fun _ _ => True) ?_
      refine kN (?_)
      refine hK7 _ _ ?_
      refine cRet ?_
      obtain rfl := Option.some.inj H
      refine ret1 rfl rfl ?_
      exact ⟨rfl, HF3⟩

/-! ### plenum/plenumlaw1.AddrBack (function 4) -/
abbrev f_plenumlaw1_AddrBack.R := Bool
noncomputable def f_plenumlaw1_AddrBack (a0 : Int) (a1 : Int) : Option f_plenumlaw1_AddrBack.R := ((f_addr_Text (IntKind.i64.wrap a0)).bind fun t1 => ((f_addr_Read t1).bind fun (t2, t3) => ((f_plenumlaw1_Num t3).bind fun t4 => (if t4 = 0 then (if t2 = (IntKind.i64.wrap a0) then ((f_addr_Text (IntKind.i64.wrap a0)).bind fun t5 => ((f_addr_Text (IntKind.i64.wrap a1)).bind fun t6 => (if ((t5.toList == t6.toList) == (decide (a0 = a1))) = true then ((f_plenumlaw1_awake).bind fun t7 => some t7) else some false))) else some false) else some false))))
set_option maxHeartbeats 1000000 in
theorem f_plenumlaw1_AddrBack.ok {z w : World} {F G : Hp} (hG : G ⊆ F) (hV : GV G) {a0 : Int} {a1 : Int} {r : f_plenumlaw1_AddrBack.R} (H : f_plenumlaw1_AddrBack a0 a1 = some r) (HF : Fits z w F) :
    Calls Tryd.prog 4 [.int .u32 a0, .int .u32 a1].toArray w fun e w' => e = .returned (.bool r) ∧ Fits z w' F := by
  unfold f_plenumlaw1_AddrBack at H
  refine enter0 Tryd.func4 rfl Tryd.ntmps4 rfl (E := [(0, .int .u32 a0), (1, .int .u32 a1)]) rfl ?_
  refine cSeq (fun K1 hK1 => ?_)
  refine cRgn [] trivial ?_
  refine sL (asg rfl) rfl ?_
  refine lEnd (K := fun _ _ => True) ?_
  refine kN (?_)
  refine hK1 _ _ ?_
  refine cSeq (fun K2 hK2 => ?_)
  refine cRgn [] trivial ?_
  refine sL (mv rfl) rfl ?_
  refine sL (cvI rfl Tryd.underlying30 Tryd.underlying3) rfl ?_
  replace H := bnd H; obtain ⟨t1, J1, H⟩ := H
  refine eCall isf12 rfl rfl rfl (f_addr_Text.ok hG (GV.mono hV sub_r) J1 HF) ?_
  rintro _ w1 ⟨rfl, HF1⟩
  refine ⟨_, rfl, ?_⟩
  replace H := bnd H; obtain ⟨⟨t2, t3⟩, J2, H⟩ := H
  refine eCall isf9 rfl rfl rfl (f_addr_Read.ok hG (GV.mono hV sub_r) J2 HF1) ?_
  rintro _ w2 ⟨rfl, HF2⟩
  refine ⟨_, rfl, ?_⟩
  refine sL (mv rfl) rfl ?_
  refine sL (ex rfl rfl) rfl ?_
  refine sL (ex rfl rfl) rfl ?_
  refine sL (asg rfl) rfl ?_
  refine sL (asg rfl) rfl ?_
  refine lEnd (K := fun _ _ => True) ?_
  refine kN (?_)
  refine hK2 _ _ ?_
  refine cSeq (fun K3 hK3 => ?_)
  refine cRgn [(3, 17), (9, 23), (22, 36)] ⟨rfl, rfl, rfl, trivial⟩ ?_
  refine sL (mv rfl) rfl ?_
  replace H := bnd H; obtain ⟨t4, J3, H⟩ := H
  refine eCall isf11 rfl rfl rfl (f_plenumlaw1_Num.ok hG (GV.mono hV sub_r) J3 HF2) ?_
  rintro _ w3 ⟨rfl, HF3⟩
  refine ⟨_, rfl, ?_⟩
  refine sL (bEql rfl rfl) rfl ?_
  refine sL (mv rfl) rfl ?_
  by_cases c1 : t4 = 0
  · replace H := itT c1 H
    refine lSet (i := 17) rfl (dT c1) ?_
    refine sG rfl rfl (mv rfl) rfl ?_
    refine sG rfl rfl (mv rfl) rfl ?_
    refine sG rfl rfl (cvI rfl Tryd.underlying30 Tryd.underlying3) rfl ?_
    refine sG rfl rfl (bEql rfl rfl) rfl ?_
    refine sL (pkT rfl rfl) rfl ?_
    refine sL (mv rfl) rfl ?_
    by_cases c2 : t2 = (IntKind.i64.wrap a0)
    · replace H := itT c2 H
      refine lSet (i := 23) rfl (dT c2) ?_
      refine sG rfl rfl (mv rfl) rfl ?_
      refine sG rfl rfl (cvI rfl Tryd.underlying30 Tryd.underlying3) rfl ?_
      replace H := bnd H; obtain ⟨t5, J4, H⟩ := H
      refine eCallG rfl rfl isf12 rfl rfl rfl (f_addr_Text.ok hG (GV.mono hV sub_r) J4 HF3) ?_
      rintro _ w4 ⟨rfl, HF4⟩
      refine ⟨_, rfl, ?_⟩
      refine sG rfl rfl (mv rfl) rfl ?_
      refine sG rfl rfl (cvI rfl Tryd.underlying30 Tryd.underlying3) rfl ?_
      replace H := bnd H; obtain ⟨t6, J5, H⟩ := H
      refine eCallG rfl rfl isf12 rfl rfl rfl (f_addr_Text.ok hG (GV.mono hV sub_r) J5 HF4) ?_
      rintro _ w5 ⟨rfl, HF5⟩
      refine ⟨_, rfl, ?_⟩
      refine sG rfl rfl (bSEql rfl rfl) rfl ?_
      refine sG rfl rfl (mv rfl) rfl ?_
      refine sG rfl rfl (mv rfl) rfl ?_
      refine sG rfl rfl (bEql rfl rfl) rfl ?_
      refine sG rfl rfl (bBEql rfl rfl Tryd.underlying4) rfl ?_
      refine sL (pkT rfl rfl) rfl ?_
      refine sL (mv rfl) rfl ?_
      by_cases c3 : ((t5.toList == t6.toList) == (decide (a0 = a1))) = true
      · replace H := itT c3 H
        refine lSet (i := 36) rfl (vT c3) ?_
        replace H := bnd H; obtain ⟨t7, J6, H⟩ := H
        refine eCallG rfl rfl isf8 rfl rfl rfl (f_plenumlaw1_awake.ok hG (GV.mono hV sub_r) J6 HF5) ?_
        rintro _ w6 ⟨rfl, HF6⟩
        refine ⟨_, rfl, ?_⟩
        refine sL (pkT rfl rfl) rfl ?_
        refine sL (asg rfl) rfl ?_
        refine lEnd (K := fun _ _ => True) ?_
        refine kN (?_)
        refine hK3 _ _ ?_
        refine cRet ?_
        obtain rfl := Option.some.inj H
        refine ret1 rfl rfl ?_
        exact ⟨rfl, HF6⟩
      · replace H := itF c3 H
        refine lSet (i := 36) rfl (vF c3) ?_
        refine sN rfl rfl rfl rfl ?_
        refine sL (pkF rfl rfl) rfl ?_
        refine sL (asg rfl) rfl ?_
        refine lEnd (K := fun _ _ => True) ?_
        refine kN (?_)
        refine hK3 _ _ ?_
        refine cRet ?_
        obtain rfl := Option.some.inj H
        refine ret1 rfl rfl ?_
        exact ⟨rfl, HF5⟩
    · replace H := itF c2 H
      refine lSet (i := 23) rfl (dF c2) ?_
      refine sN rfl rfl rfl rfl ?_
      refine sN rfl rfl rfl rfl ?_
      refine sN rfl rfl rfl rfl ?_
      refine sN rfl rfl rfl rfl ?_
      refine sN rfl rfl rfl rfl ?_
      refine sN rfl rfl rfl rfl ?_
      refine sN rfl rfl rfl rfl ?_
      refine sN rfl rfl rfl rfl ?_
      refine sN rfl rfl rfl rfl ?_
      refine sN rfl rfl rfl rfl ?_
      refine sN rfl rfl rfl rfl ?_
      refine sL (pkF rfl rfl) rfl ?_
      refine sL (mv rfl) rfl ?_
      refine sN rfl rfl rfl rfl ?_
      refine sL (pkF rfl rfl) rfl ?_
      refine sL (asg rfl) rfl ?_
      refine lEnd (K := fun _ _ => True) ?_
      refine kN (?_)
      refine hK3 _ _ ?_
      refine cRet ?_
      obtain rfl := Option.some.inj H
      refine ret1 rfl rfl ?_
      exact ⟨rfl, HF3⟩
  · replace H := itF c1 H
    refine lSet (i := 17) rfl (dF c1) ?_
    refine sN rfl rfl rfl rfl ?_
    refine sN rfl rfl rfl rfl ?_
    refine sN rfl rfl rfl rfl ?_
    refine sN rfl rfl rfl rfl ?_
    refine sL (pkF rfl rfl) rfl ?_
    refine sL (mv rfl) rfl ?_
    refine sN rfl rfl rfl rfl ?_
    refine sN rfl rfl rfl rfl ?_
    refine sN rfl rfl rfl rfl ?_
    refine sN rfl rfl rfl rfl ?_
    refine sN rfl rfl rfl rfl ?_
    refine sN rfl rfl rfl rfl ?_
    refine sN rfl rfl rfl rfl ?_
    refine sN rfl rfl rfl rfl ?_
    refine sN rfl rfl rfl rfl ?_
    refine sN rfl rfl rfl rfl ?_
    refine sN rfl rfl rfl rfl ?_
    refine sL (pkF rfl rfl) rfl ?_
    refine sL (mv rfl) rfl ?_
    refine sN rfl rfl rfl rfl ?_
    refine sL (pkF rfl rfl) rfl ?_
    refine sL (asg rfl) rfl ?_
    refine lEnd (K := fun _ _ => True) ?_
    refine kN (?_)
    refine hK3 _ _ ?_
    refine cRet ?_
    obtain rfl := Option.some.inj H
    refine ret1 rfl rfl ?_
    exact ⟨rfl, HF3⟩

/-! ### plenum/plenumlaw1.AddrStrict (function 5) -/
abbrev f_plenumlaw1_AddrStrict.R := Bool
noncomputable def f_plenumlaw1_AddrStrict (a0 : Int) (a1 : Int) : Option f_plenumlaw1_AddrStrict.R := ((f_addr_Text (IntKind.i64.wrap a0)).bind fun t1 => (if (t1.size : Int) < 7 then some false else (if ((⟨#[48]⟩ : ByteArray).size : Int) + t1.size ≤ 9223372036854775807 then (if (t1.size : Int) + (⟨#[46]⟩ : ByteArray).size ≤ 9223372036854775807 then (if (t1.size : Int) + (⟨#[46, 49]⟩ : ByteArray).size ≤ 9223372036854775807 then (if ((⟨#[46]⟩ : ByteArray).size : Int) + t1.size ≤ 9223372036854775807 then (if ((⟨#[32]⟩ : ByteArray).size : Int) + t1.size ≤ 9223372036854775807 then (if (t1.size : Int) + (⟨#[32]⟩ : ByteArray).size ≤ 9223372036854775807 then (if 3 ≤ (t1.size : Int) then (if ((⟨#[50, 53, 54, 46]⟩ : ByteArray).size : Int) + (cutS t1 0 3).size ≤ 9223372036854775807 then (if (([((⟨#[48]⟩ : ByteArray) ++ t1), (t1 ++ (⟨#[46]⟩ : ByteArray)), (t1 ++ (⟨#[46, 49]⟩ : ByteArray)), ((⟨#[46]⟩ : ByteArray) ++ t1), ((⟨#[32]⟩ : ByteArray) ++ t1), (t1 ++ (⟨#[32]⟩ : ByteArray)), ((⟨#[50, 53, 54, 46]⟩ : ByteArray) ++ (cutS t1 0 3)), (⟨#[49, 46, 50, 46, 51]⟩ : ByteArray), (⟨#[49, 46, 46, 50, 46, 51]⟩ : ByteArray), (⟨#[49, 46, 50, 46, 51, 46, 50, 53, 54]⟩ : ByteArray), (⟨#[49, 46, 50, 46, 51, 46, 45, 52]⟩ : ByteArray), (⟨#[49, 44, 50, 44, 51, 44, 52]⟩ : ByteArray), (⟨#[]⟩ : ByteArray)]).length : Int) ≠ 0 then (if 0 ≤ (Int.tmod (IntKind.i64.wrap a1) (([((⟨#[48]⟩ : ByteArray) ++ t1), (t1 ++ (⟨#[46]⟩ : ByteArray)), (t1 ++ (⟨#[46, 49]⟩ : ByteArray)), ((⟨#[46]⟩ : ByteArray) ++ t1), ((⟨#[32]⟩ : ByteArray) ++ t1), (t1 ++ (⟨#[32]⟩ : ByteArray)), ((⟨#[50, 53, 54, 46]⟩ : ByteArray) ++ (cutS t1 0 3)), (⟨#[49, 46, 50, 46, 51]⟩ : ByteArray), (⟨#[49, 46, 46, 50, 46, 51]⟩ : ByteArray), (⟨#[49, 46, 50, 46, 51, 46, 50, 53, 54]⟩ : ByteArray), (⟨#[49, 46, 50, 46, 51, 46, 45, 52]⟩ : ByteArray), (⟨#[49, 44, 50, 44, 51, 44, 52]⟩ : ByteArray), (⟨#[]⟩ : ByteArray)]).length : Int)) then (if (Int.tmod (IntKind.i64.wrap a1) (([((⟨#[48]⟩ : ByteArray) ++ t1), (t1 ++ (⟨#[46]⟩ : ByteArray)), (t1 ++ (⟨#[46, 49]⟩ : ByteArray)), ((⟨#[46]⟩ : ByteArray) ++ t1), ((⟨#[32]⟩ : ByteArray) ++ t1), (t1 ++ (⟨#[32]⟩ : ByteArray)), ((⟨#[50, 53, 54, 46]⟩ : ByteArray) ++ (cutS t1 0 3)), (⟨#[49, 46, 50, 46, 51]⟩ : ByteArray), (⟨#[49, 46, 46, 50, 46, 51]⟩ : ByteArray), (⟨#[49, 46, 50, 46, 51, 46, 50, 53, 54]⟩ : ByteArray), (⟨#[49, 46, 50, 46, 51, 46, 45, 52]⟩ : ByteArray), (⟨#[49, 44, 50, 44, 51, 44, 52]⟩ : ByteArray), (⟨#[]⟩ : ByteArray)]).length : Int)) < (([((⟨#[48]⟩ : ByteArray) ++ t1), (t1 ++ (⟨#[46]⟩ : ByteArray)), (t1 ++ (⟨#[46, 49]⟩ : ByteArray)), ((⟨#[46]⟩ : ByteArray) ++ t1), ((⟨#[32]⟩ : ByteArray) ++ t1), (t1 ++ (⟨#[32]⟩ : ByteArray)), ((⟨#[50, 53, 54, 46]⟩ : ByteArray) ++ (cutS t1 0 3)), (⟨#[49, 46, 50, 46, 51]⟩ : ByteArray), (⟨#[49, 46, 46, 50, 46, 51]⟩ : ByteArray), (⟨#[49, 46, 50, 46, 51, 46, 50, 53, 54]⟩ : ByteArray), (⟨#[49, 46, 50, 46, 51, 46, 45, 52]⟩ : ByteArray), (⟨#[49, 44, 50, 44, 51, 44, 52]⟩ : ByteArray), (⟨#[]⟩ : ByteArray)]).length : Int) then ((f_addr_Read (rd ([((⟨#[48]⟩ : ByteArray) ++ t1), (t1 ++ (⟨#[46]⟩ : ByteArray)), (t1 ++ (⟨#[46, 49]⟩ : ByteArray)), ((⟨#[46]⟩ : ByteArray) ++ t1), ((⟨#[32]⟩ : ByteArray) ++ t1), (t1 ++ (⟨#[32]⟩ : ByteArray)), ((⟨#[50, 53, 54, 46]⟩ : ByteArray) ++ (cutS t1 0 3)), (⟨#[49, 46, 50, 46, 51]⟩ : ByteArray), (⟨#[49, 46, 46, 50, 46, 51]⟩ : ByteArray), (⟨#[49, 46, 50, 46, 51, 46, 50, 53, 54]⟩ : ByteArray), (⟨#[49, 46, 50, 46, 51, 46, 45, 52]⟩ : ByteArray), (⟨#[49, 44, 50, 44, 51, 44, 52]⟩ : ByteArray), (⟨#[]⟩ : ByteArray)]) (Int.tmod (IntKind.i64.wrap a1) (([((⟨#[48]⟩ : ByteArray) ++ t1), (t1 ++ (⟨#[46]⟩ : ByteArray)), (t1 ++ (⟨#[46, 49]⟩ : ByteArray)), ((⟨#[46]⟩ : ByteArray) ++ t1), ((⟨#[32]⟩ : ByteArray) ++ t1), (t1 ++ (⟨#[32]⟩ : ByteArray)), ((⟨#[50, 53, 54, 46]⟩ : ByteArray) ++ (cutS t1 0 3)), (⟨#[49, 46, 50, 46, 51]⟩ : ByteArray), (⟨#[49, 46, 46, 50, 46, 51]⟩ : ByteArray), (⟨#[49, 46, 50, 46, 51, 46, 50, 53, 54]⟩ : ByteArray), (⟨#[49, 46, 50, 46, 51, 46, 45, 52]⟩ : ByteArray), (⟨#[49, 44, 50, 44, 51, 44, 52]⟩ : ByteArray), (⟨#[]⟩ : ByteArray)]).length : Int)))).bind fun (t2, t3) => (if t2 = 0 then ((f_plenumlaw1_Num t3).bind fun t4 => (if t4 = 3 then ((f_plenumlaw1_awake).bind fun t5 => some t5) else some false)) else some false)) else none) else none) else none) else none) else none) else none) else none) else none) else none) else none) else none)))
set_option maxHeartbeats 1000000 in
theorem f_plenumlaw1_AddrStrict.ok {z w : World} {F G : Hp} (hG : G ⊆ F) (hV : GV G) {a0 : Int} {a1 : Int} {r : f_plenumlaw1_AddrStrict.R} (H : f_plenumlaw1_AddrStrict a0 a1 = some r) (HF : Fits z w F) :
    Calls Tryd.prog 5 [.int .u32 a0, .int .u8 a1].toArray w fun e w' => e = .returned (.bool r) ∧ Fits z w' F := by
  unfold f_plenumlaw1_AddrStrict at H
  refine enter0 Tryd.func5 rfl Tryd.ntmps5 rfl (E := [(0, .int .u32 a0), (1, .int .u8 a1)]) rfl ?_
  refine cSeq (fun K1 hK1 => ?_)
  refine cRgn [] trivial ?_
  refine sL (asg rfl) rfl ?_
  refine lEnd (K := fun _ _ => True) ?_
  refine kN (?_)
  refine hK1 _ _ ?_
  refine cSeq (fun K2 hK2 => ?_)
  refine cRgn [] trivial ?_
  refine sL (mv rfl) rfl ?_
  refine sL (cvI rfl Tryd.underlying30 Tryd.underlying3) rfl ?_
  replace H := bnd H; obtain ⟨t1, J1, H⟩ := H
  refine eCall isf12 rfl rfl rfl (f_addr_Text.ok hG (GV.mono hV sub_r) J1 HF) ?_
  rintro _ w1 ⟨rfl, HF1⟩
  refine ⟨_, rfl, ?_⟩
  refine sL (asg rfl) rfl ?_
  refine lEnd (K := fun _ _ => True) ?_
  refine kN (?_)
  refine hK2 _ _ ?_
  refine cSeq (fun K3 hK3 => ?_)
  refine cSeq (fun K4 hK4 => ?_)
  refine cRgn [] trivial ?_
  refine sL (mv rfl) rfl ?_
  refine sL (lnStr rfl Tryd.underlying9) rfl ?_
  refine sL (bLss rfl rfl) rfl ?_
  refine lEnd (K := fun _ _ => True) ?_
  refine kN (?_)
  refine hK4 _ _ ?_
  by_cases c1 : (t1.size : Int) < 7
  · replace H := itT c1 H
    refine cSet (i := 14) rfl (dT c1) ?_
    refine cT rfl ?_
    refine cSeq (fun K5 hK5 => ?_)
    refine cRgn [] trivial ?_
    refine sL (asg rfl) rfl ?_
    refine lEnd (K := fun _ _ => True) ?_
    refine kN (?_)
    refine hK5 _ _ ?_
    refine cRet ?_
    obtain rfl := Option.some.inj H
    refine kR (?_)
    refine ret1 rfl rfl ?_
    exact ⟨rfl, HF1⟩
  · replace H := itF c1 H
    refine cSet (i := 14) rfl (dF c1) ?_
    refine cF rfl ?_
    refine cSkip ?_
    refine kN (?_)
    refine hK3 _ _ ?_
    refine cSeq (fun K6 hK6 => ?_)
    refine cRgn [] trivial ?_
    refine sL (mv rfl) rfl ?_
    replace H := chk H; obtain ⟨c2, H⟩ := H
    refine sL (bSAdd rfl rfl c2) rfl ?_
    refine sL (mv rfl) rfl ?_
    replace H := chk H; obtain ⟨c3, H⟩ := H
    refine sL (bSAdd rfl rfl c3) rfl ?_
    refine sL (mv rfl) rfl ?_
    replace H := chk H; obtain ⟨c4, H⟩ := H
    refine sL (bSAdd rfl rfl c4) rfl ?_
    refine sL (mv rfl) rfl ?_
    replace H := chk H; obtain ⟨c5, H⟩ := H
    refine sL (bSAdd rfl rfl c5) rfl ?_
    refine sL (mv rfl) rfl ?_
    replace H := chk H; obtain ⟨c6, H⟩ := H
    refine sL (bSAdd rfl rfl c6) rfl ?_
    refine sL (mv rfl) rfl ?_
    replace H := chk H; obtain ⟨c7, H⟩ := H
    refine sL (bSAdd rfl rfl c7) rfl ?_
    refine sL (mv rfl) rfl ?_
    replace H := chk H; obtain ⟨c8, H⟩ := H
    refine sL (slcS rfl Tryd.underlying9 rfl rfl (by decide) (by decide) c8) rfl ?_
    replace H := chk H; obtain ⟨c9, H⟩ := H
    refine sL (bSAdd rfl rfl c9) rfl ?_
    refine eW (oLit (r := [.string ((⟨#[48]⟩ : ByteArray) ++ t1), .string (t1 ++ (⟨#[46]⟩ : ByteArray)), .string (t1 ++ (⟨#[46, 49]⟩ : ByteArray)), .string ((⟨#[46]⟩ : ByteArray) ++ t1), .string ((⟨#[32]⟩ : ByteArray) ++ t1), .string (t1 ++ (⟨#[32]⟩ : ByteArray)), .string ((⟨#[50, 53, 54, 46]⟩ : ByteArray) ++ (cutS t1 0 3)), .string (⟨#[49, 46, 50, 46, 51]⟩ : ByteArray), .string (⟨#[49, 46, 46, 50, 46, 51]⟩ : ByteArray), .string (⟨#[49, 46, 50, 46, 51, 46, 50, 53, 54]⟩ : ByteArray), .string (⟨#[49, 46, 50, 46, 51, 46, 45, 52]⟩ : ByteArray), .string (⟨#[49, 44, 50, 44, 51, 44, 52]⟩ : ByteArray), .string (⟨#[]⟩ : ByteArray)]) kStr [((⟨#[48]⟩ : ByteArray) ++ t1), (t1 ++ (⟨#[46]⟩ : ByteArray)), (t1 ++ (⟨#[46, 49]⟩ : ByteArray)), ((⟨#[46]⟩ : ByteArray) ++ t1), ((⟨#[32]⟩ : ByteArray) ++ t1), (t1 ++ (⟨#[32]⟩ : ByteArray)), ((⟨#[50, 53, 54, 46]⟩ : ByteArray) ++ (cutS t1 0 3)), (⟨#[49, 46, 50, 46, 51]⟩ : ByteArray), (⟨#[49, 46, 46, 50, 46, 51]⟩ : ByteArray), (⟨#[49, 46, 50, 46, 51, 46, 50, 53, 54]⟩ : ByteArray), (⟨#[49, 46, 50, 46, 51, 46, 45, 52]⟩ : ByteArray), (⟨#[49, 44, 50, 44, 51, 44, 52]⟩ : ByteArray), (⟨#[]⟩ : ByteArray)] HF1 Tryd.underlying33 ti9 rfl rfl rfl (by kernel_rfl) ⟨[], [], [.string ((⟨#[48]⟩ : ByteArray) ++ t1)], _, rfl, rfl, ⟨rfl, rfl⟩, ⟨[], [], [.string (t1 ++ (⟨#[46]⟩ : ByteArray))], _, rfl, rfl, ⟨rfl, rfl⟩, ⟨[], [], [.string (t1 ++ (⟨#[46, 49]⟩ : ByteArray))], _, rfl, rfl, ⟨rfl, rfl⟩, ⟨[], [], [.string ((⟨#[46]⟩ : ByteArray) ++ t1)], _, rfl, rfl, ⟨rfl, rfl⟩, ⟨[], [], [.string ((⟨#[32]⟩ : ByteArray) ++ t1)], _, rfl, rfl, ⟨rfl, rfl⟩, ⟨[], [], [.string (t1 ++ (⟨#[32]⟩ : ByteArray))], _, rfl, rfl, ⟨rfl, rfl⟩, ⟨[], [], [.string ((⟨#[50, 53, 54, 46]⟩ : ByteArray) ++ (cutS t1 0 3))], _, rfl, rfl, ⟨rfl, rfl⟩, ⟨[], [], [.string (⟨#[49, 46, 50, 46, 51]⟩ : ByteArray)], _, rfl, rfl, ⟨rfl, rfl⟩, ⟨[], [], [.string (⟨#[49, 46, 46, 50, 46, 51]⟩ : ByteArray)], _, rfl, rfl, ⟨rfl, rfl⟩, ⟨[], [], [.string (⟨#[49, 46, 50, 46, 51, 46, 50, 53, 54]⟩ : ByteArray)], _, rfl, rfl, ⟨rfl, rfl⟩, ⟨[], [], [.string (⟨#[49, 46, 50, 46, 51, 46, 45, 52]⟩ : ByteArray)], _, rfl, rfl, ⟨rfl, rfl⟩, ⟨[], [], [.string (⟨#[49, 44, 50, 44, 51, 44, 52]⟩ : ByteArray)], _, rfl, rfl, ⟨rfl, rfl⟩, ⟨[], [], [.string (⟨#[]⟩ : ByteArray)], _, rfl, rfl, ⟨rfl, rfl⟩, ⟨rfl, rfl⟩⟩⟩⟩⟩⟩⟩⟩⟩⟩⟩⟩⟩⟩ rfl rfl) rfl ?_
    rintro _ w2 ⟨L1, A1, c10, rfl, HF2, ho1⟩
    refine sL (asg rfl) rfl ?_
    refine lEnd (K := fun _ _ => True) ?_
    refine kN (?_)
    refine hK6 _ _ ?_
    refine cSeq (fun K7 hK7 => ?_)
    refine cRgn [] trivial ?_
    refine sL (mv rfl) rfl ?_
    refine sL (mv rfl) rfl ?_
    refine sL (cvI rfl Tryd.underlying5 Tryd.underlying3) rfl ?_
    refine sL (mv rfl) rfl ?_
    refine sL (lnS rfl Tryd.underlying33) rfl ?_
    replace H := chk H; obtain ⟨c11, H⟩ := H
    refine sL (bRem rfl rfl c11) rfl ?_
    replace H := chk H; obtain ⟨c12, H⟩ := H
    replace H := chk H; obtain ⟨c13, H⟩ := H
    obtain ⟨g1, o1, _, rfl, rfl, q1⟩ := RdS.at_ ho1.rd c12 c13
    refine sL (ia rfl rfl Tryd.underlying33 ti9 c12 c13) rfl ?_
    refine sL (ld rfl Tryd.underlying9 rfl (HF2.cells (sub_h) (q1 0 _ rfl))) rfl ?_
    replace H := bnd H; obtain ⟨⟨t2, t3⟩, J2, H⟩ := H
    refine eCall isf9 rfl rfl rfl (f_addr_Read.ok (sub_a hG) (GV.mono hV sub_r) J2 HF2) ?_
    rintro _ w3 ⟨rfl, HF3⟩
    refine ⟨_, rfl, ?_⟩
    refine sL (mv rfl) rfl ?_
    refine sL (ex rfl rfl) rfl ?_
    refine sL (ex rfl rfl) rfl ?_
    refine sL (asg rfl) rfl ?_
    refine sL (asg rfl) rfl ?_
    refine lEnd (K := fun _ _ => True) ?_
    refine kN (?_)
    refine hK7 _ _ ?_
    refine cSeq (fun K8 hK8 => ?_)
    refine cRgn [(2, 45), (7, 50)] ⟨rfl, rfl, trivial⟩ ?_
    refine sL (mv rfl) rfl ?_
    refine sL (bEql rfl rfl) rfl ?_
    refine sL (mv rfl) rfl ?_
    by_cases c14 : t2 = 0
    · replace H := itT c14 H
      refine lSet (i := 45) rfl (dT c14) ?_
      refine sG rfl rfl (mv rfl) rfl ?_
      replace H := bnd H; obtain ⟨t4, J3, H⟩ := H
      refine eCallG rfl rfl isf11 rfl rfl rfl (f_plenumlaw1_Num.ok (sub_a hG) (GV.mono hV sub_r) J3 HF3) ?_
      rintro _ w4 ⟨rfl, HF4⟩
      refine ⟨_, rfl, ?_⟩
      refine sG rfl rfl (bEql rfl rfl) rfl ?_
      refine sL (pkT rfl rfl) rfl ?_
      refine sL (mv rfl) rfl ?_
      by_cases c15 : t4 = 3
      · replace H := itT c15 H
        refine lSet (i := 50) rfl (dT c15) ?_
        replace H := bnd H; obtain ⟨t5, J4, H⟩ := H
        refine eCallG rfl rfl isf8 rfl rfl rfl (f_plenumlaw1_awake.ok (sub_a hG) (GV.mono hV sub_r) J4 HF4) ?_
        rintro _ w5 ⟨rfl, HF5⟩
        refine ⟨_, rfl, ?_⟩
        refine sL (pkT rfl rfl) rfl ?_
        refine sL (asg rfl) rfl ?_
        refine lEnd (K := fun _ _ => True) ?_
        refine kN (?_)
        refine hK8 _ _ ?_
        refine cRet ?_
        obtain rfl := Option.some.inj H
        refine ret1 rfl rfl ?_
        have HF6 := HF5.sublist (sl_da (List.Sublist.refl _))
        exact ⟨rfl, HF6⟩
      · replace H := itF c15 H
        refine lSet (i := 50) rfl (dF c15) ?_
        refine sN rfl rfl rfl rfl ?_
        refine sL (pkF rfl rfl) rfl ?_
        refine sL (asg rfl) rfl ?_
        refine lEnd (K := fun _ _ => True) ?_
        refine kN (?_)
        refine hK8 _ _ ?_
        refine cRet ?_
        obtain rfl := Option.some.inj H
        refine ret1 rfl rfl ?_
        have HF7 := HF4.sublist (sl_da (List.Sublist.refl _))
        exact ⟨rfl, HF7⟩
    · replace H := itF c14 H
      refine lSet (i := 45) rfl (dF c14) ?_
      refine sN rfl rfl rfl rfl ?_
      refine sN rfl rfl rfl rfl ?_
      refine sN rfl rfl rfl rfl ?_
      refine sL (pkF rfl rfl) rfl ?_
      refine sL (mv rfl) rfl ?_
      refine sN rfl rfl rfl rfl ?_
      refine sL (pkF rfl rfl) rfl ?_
      refine sL (asg rfl) rfl ?_
      refine lEnd (K := fun _ _ => True) ?_
      refine kN (?_)
      refine hK8 _ _ ?_
      refine cRet ?_
      obtain rfl := Option.some.inj H
      refine ret1 rfl rfl ?_
      have HF8 := HF3.sublist (sl_da (List.Sublist.refl _))
      exact ⟨rfl, HF8⟩

/-! ### plenum/addr.Mask (function 15) -/
abbrev f_addr_Mask.R := Int
noncomputable def f_addr_Mask (a0 : Int) : Option f_addr_Mask.R := (if 0 ≤ (IntKind.i64.wrap (32 - (if (if 32 < a0 then 32 else a0) > 0 then (if 32 < a0 then 32 else a0) else 0))) then some (bits .and .i64 (shlI .i64 4294967295 (IntKind.i64.wrap (32 - (if (if 32 < a0 then 32 else a0) > 0 then (if 32 < a0 then 32 else a0) else 0)))) 4294967295) else none)
set_option maxHeartbeats 1000000 in
theorem f_addr_Mask.ok {z w : World} {F G : Hp} (hG : G ⊆ F) (hV : GV G) {a0 : Int} {r : f_addr_Mask.R} (H : f_addr_Mask a0 = some r) (HF : Fits z w F) :
    Calls Tryd.prog 15 [.int .i64 a0].toArray w fun e w' => e = .returned (.int .i64 r) ∧ Fits z w' F := by
  unfold f_addr_Mask at H
  refine enter0 Tryd.func15 rfl Tryd.ntmps15 rfl (E := [(0, .int .i64 a0)]) rfl ?_
  refine cSeq (fun K1 hK1 => ?_)
  refine cRgn [] trivial ?_
  refine sL (asg rfl) rfl ?_
  refine lEnd (K := fun _ _ => True) ?_
  refine kN (?_)
  refine hK1 _ _ ?_
  refine cSeq (fun K2 hK2 => ?_)
  refine cRgn [] trivial ?_
  refine sL (mv rfl) rfl ?_
  refine sL (mn2 rfl rfl) rfl ?_
  refine sL (mx2 rfl rfl) rfl ?_
  refine sL (bSub rfl rfl) rfl ?_
  replace H := chk H; obtain ⟨c1, H⟩ := H
  refine sL (bShl rfl rfl c1) rfl ?_
  refine sL (bAnd rfl rfl) rfl ?_
  refine sL (asg rfl) rfl ?_
  refine lEnd (K := fun _ _ => True) ?_
  refine kN (?_)
  refine hK2 _ _ ?_
  refine cRet ?_
  obtain rfl := Option.some.inj H
  refine ret1 rfl rfl ?_
  exact ⟨rfl, HF⟩

/-! ### plenum/addr.Net (function 14) -/
abbrev f_addr_Net.R := Int
noncomputable def f_addr_Net (a0 : Int) (a1 : Int) : Option f_addr_Net.R := ((f_addr_Mask a1).bind fun t1 => some (bits .and .i64 a0 t1))
set_option maxHeartbeats 1000000 in
theorem f_addr_Net.ok {z w : World} {F G : Hp} (hG : G ⊆ F) (hV : GV G) {a0 : Int} {a1 : Int} {r : f_addr_Net.R} (H : f_addr_Net a0 a1 = some r) (HF : Fits z w F) :
    Calls Tryd.prog 14 [.int .i64 a0, .int .i64 a1].toArray w fun e w' => e = .returned (.int .i64 r) ∧ Fits z w' F := by
  unfold f_addr_Net at H
  refine enter0 Tryd.func14 rfl Tryd.ntmps14 rfl (E := [(0, .int .i64 a0), (1, .int .i64 a1)]) rfl ?_
  refine cSeq (fun K1 hK1 => ?_)
  refine cRgn [] trivial ?_
  refine sL (asg rfl) rfl ?_
  refine lEnd (K := fun _ _ => True) ?_
  refine kN (?_)
  refine hK1 _ _ ?_
  refine cSeq (fun K2 hK2 => ?_)
  refine cRgn [] trivial ?_
  refine sL (mv rfl) rfl ?_
  refine sL (mv rfl) rfl ?_
  replace H := bnd H; obtain ⟨t1, J1, H⟩ := H
  refine eCall isf15 rfl rfl rfl (f_addr_Mask.ok hG (GV.mono hV sub_r) J1 HF) ?_
  rintro _ w1 ⟨rfl, HF1⟩
  refine ⟨_, rfl, ?_⟩
  refine sL (bAnd rfl rfl) rfl ?_
  refine sL (asg rfl) rfl ?_
  refine lEnd (K := fun _ _ => True) ?_
  refine kN (?_)
  refine hK2 _ _ ?_
  refine cRet ?_
  obtain rfl := Option.some.inj H
  refine ret1 rfl rfl ?_
  exact ⟨rfl, HF1⟩

/-! ### plenum/addr.In (function 13) -/
abbrev f_addr_In.R := Bool
noncomputable def f_addr_In (a0 : Int) (a1 : Int) (a2 : Int) : Option f_addr_In.R := ((f_addr_Right a0).bind fun t1 => (if t1 = true then ((f_addr_Right a1).bind fun t2 => (if t2 = true then (if 0 ≤ a2 then (if a2 ≤ 32 then ((f_addr_Net a0 a2).bind fun t3 => ((f_addr_Net a1 a2).bind fun t4 => some (decide (t3 = t4)))) else some false) else some false) else some false)) else some false))
set_option maxHeartbeats 1000000 in
theorem f_addr_In.ok {z w : World} {F G : Hp} (hG : G ⊆ F) (hV : GV G) {a0 : Int} {a1 : Int} {a2 : Int} {r : f_addr_In.R} (H : f_addr_In a0 a1 a2 = some r) (HF : Fits z w F) :
    Calls Tryd.prog 13 [.int .i64 a0, .int .i64 a1, .int .i64 a2].toArray w fun e w' => e = .returned (.bool r) ∧ Fits z w' F := by
  unfold f_addr_In at H
  refine enter0 Tryd.func13 rfl Tryd.ntmps13 rfl (E := [(0, .int .i64 a0), (1, .int .i64 a1), (2, .int .i64 a2)]) rfl ?_
  refine cSeq (fun K1 hK1 => ?_)
  refine cRgn [] trivial ?_
  refine sL (asg rfl) rfl ?_
  refine lEnd (K := fun _ _ => True) ?_
  refine kN (?_)
  refine hK1 _ _ ?_
  refine cSeq (fun K2 hK2 => ?_)
  refine cRgn [(2, 9), (6, 13), (10, 17), (14, 21)] ⟨rfl, rfl, rfl, rfl, trivial⟩ ?_
  refine sL (mv rfl) rfl ?_
  replace H := bnd H; obtain ⟨t1, J1, H⟩ := H
  refine eCall isf17 rfl rfl rfl (f_addr_Right.ok hG (GV.mono hV sub_r) J1 HF) ?_
  rintro _ w1 ⟨rfl, HF1⟩
  refine ⟨_, rfl, ?_⟩
  refine sL (mv rfl) rfl ?_
  by_cases c1 : t1 = true
  · replace H := itT c1 H
    refine lSet (i := 9) rfl (vT c1) ?_
    refine sG rfl rfl (mv rfl) rfl ?_
    replace H := bnd H; obtain ⟨t2, J2, H⟩ := H
    refine eCallG rfl rfl isf17 rfl rfl rfl (f_addr_Right.ok hG (GV.mono hV sub_r) J2 HF1) ?_
    rintro _ w2 ⟨rfl, HF2⟩
    refine ⟨_, rfl, ?_⟩
    refine sL (pkT rfl rfl) rfl ?_
    refine sL (mv rfl) rfl ?_
    by_cases c2 : t2 = true
    · replace H := itT c2 H
      refine lSet (i := 13) rfl (vT c2) ?_
      refine sG rfl rfl (mv rfl) rfl ?_
      refine sG rfl rfl (bGeq rfl rfl) rfl ?_
      refine sL (pkT rfl rfl) rfl ?_
      refine sL (mv rfl) rfl ?_
      by_cases c3 : 0 ≤ a2
      · replace H := itT c3 H
        refine lSet (i := 17) rfl (dT c3) ?_
        refine sG rfl rfl (mv rfl) rfl ?_
        refine sG rfl rfl (bLeq rfl rfl) rfl ?_
        refine sL (pkT rfl rfl) rfl ?_
        refine sL (mv rfl) rfl ?_
        by_cases c4 : a2 ≤ 32
        · replace H := itT c4 H
          refine lSet (i := 21) rfl (dT c4) ?_
          refine sG rfl rfl (mv rfl) rfl ?_
          refine sG rfl rfl (mv rfl) rfl ?_
          replace H := bnd H; obtain ⟨t3, J3, H⟩ := H
          refine eCallG rfl rfl isf14 rfl rfl rfl (f_addr_Net.ok hG (GV.mono hV sub_r) J3 HF2) ?_
          rintro _ w3 ⟨rfl, HF3⟩
          refine ⟨_, rfl, ?_⟩
          refine sG rfl rfl (mv rfl) rfl ?_
          refine sG rfl rfl (mv rfl) rfl ?_
          replace H := bnd H; obtain ⟨t4, J4, H⟩ := H
          refine eCallG rfl rfl isf14 rfl rfl rfl (f_addr_Net.ok hG (GV.mono hV sub_r) J4 HF3) ?_
          rintro _ w4 ⟨rfl, HF4⟩
          refine ⟨_, rfl, ?_⟩
          refine sG rfl rfl (bEql rfl rfl) rfl ?_
          refine sL (pkT rfl rfl) rfl ?_
          refine sL (asg rfl) rfl ?_
          refine lEnd (K := fun _ _ => True) ?_
          refine kN (?_)
          refine hK2 _ _ ?_
          refine cRet ?_
          obtain rfl := Option.some.inj H
          refine ret1 rfl rfl ?_
          exact ⟨rfl, HF4⟩
        · replace H := itF c4 H
          refine lSet (i := 21) rfl (dF c4) ?_
          refine sN rfl rfl rfl rfl ?_
          refine sN rfl rfl rfl rfl ?_
          refine sN rfl rfl rfl rfl ?_
          refine sN rfl rfl rfl rfl ?_
          refine sN rfl rfl rfl rfl ?_
          refine sN rfl rfl rfl rfl ?_
          refine sN rfl rfl rfl rfl ?_
          refine sL (pkF rfl rfl) rfl ?_
          refine sL (asg rfl) rfl ?_
          refine lEnd (K := fun _ _ => True) ?_
          refine kN (?_)
          refine hK2 _ _ ?_
          refine cRet ?_
          obtain rfl := Option.some.inj H
          refine ret1 rfl rfl ?_
          exact ⟨rfl, HF2⟩
      · replace H := itF c3 H
        refine lSet (i := 17) rfl (dF c3) ?_
        refine sN rfl rfl rfl rfl ?_
        refine sN rfl rfl rfl rfl ?_
        refine sL (pkF rfl rfl) rfl ?_
        refine sL (mv rfl) rfl ?_
        refine sN rfl rfl rfl rfl ?_
        refine sN rfl rfl rfl rfl ?_
        refine sN rfl rfl rfl rfl ?_
        refine sN rfl rfl rfl rfl ?_
        refine sN rfl rfl rfl rfl ?_
        refine sN rfl rfl rfl rfl ?_
        refine sN rfl rfl rfl rfl ?_
        refine sL (pkF rfl rfl) rfl ?_
        refine sL (asg rfl) rfl ?_
        refine lEnd (K := fun _ _ => True) ?_
        refine kN (?_)
        refine hK2 _ _ ?_
        refine cRet ?_
        obtain rfl := Option.some.inj H
        refine ret1 rfl rfl ?_
        exact ⟨rfl, HF2⟩
    · replace H := itF c2 H
      refine lSet (i := 13) rfl (vF c2) ?_
      refine sN rfl rfl rfl rfl ?_
      refine sN rfl rfl rfl rfl ?_
      refine sL (pkF rfl rfl) rfl ?_
      refine sL (mv rfl) rfl ?_
      refine sN rfl rfl rfl rfl ?_
      refine sN rfl rfl rfl rfl ?_
      refine sL (pkF rfl rfl) rfl ?_
      refine sL (mv rfl) rfl ?_
      refine sN rfl rfl rfl rfl ?_
      refine sN rfl rfl rfl rfl ?_
      refine sN rfl rfl rfl rfl ?_
      refine sN rfl rfl rfl rfl ?_
      refine sN rfl rfl rfl rfl ?_
      refine sN rfl rfl rfl rfl ?_
      refine sN rfl rfl rfl rfl ?_
      refine sL (pkF rfl rfl) rfl ?_
      refine sL (asg rfl) rfl ?_
      refine lEnd (K := fun _ _ => True) ?_
      refine kN (?_)
      refine hK2 _ _ ?_
      refine cRet ?_
      obtain rfl := Option.some.inj H
      refine ret1 rfl rfl ?_
      exact ⟨rfl, HF2⟩
  · replace H := itF c1 H
    refine lSet (i := 9) rfl (vF c1) ?_
    refine sN rfl rfl rfl rfl ?_
    refine sN rfl rfl rfl rfl ?_
    refine sL (pkF rfl rfl) rfl ?_
    refine sL (mv rfl) rfl ?_
    refine sN rfl rfl rfl rfl ?_
    refine sN rfl rfl rfl rfl ?_
    refine sL (pkF rfl rfl) rfl ?_
    refine sL (mv rfl) rfl ?_
    refine sN rfl rfl rfl rfl ?_
    refine sN rfl rfl rfl rfl ?_
    refine sL (pkF rfl rfl) rfl ?_
    refine sL (mv rfl) rfl ?_
    refine sN rfl rfl rfl rfl ?_
    refine sN rfl rfl rfl rfl ?_
    refine sN rfl rfl rfl rfl ?_
    refine sN rfl rfl rfl rfl ?_
    refine sN rfl rfl rfl rfl ?_
    refine sN rfl rfl rfl rfl ?_
    refine sN rfl rfl rfl rfl ?_
    refine sL (pkF rfl rfl) rfl ?_
    refine sL (asg rfl) rfl ?_
    refine lEnd (K := fun _ _ => True) ?_
    refine kN (?_)
    refine hK2 _ _ ?_
    refine cRet ?_
    obtain rfl := Option.some.inj H
    refine ret1 rfl rfl ?_
    exact ⟨rfl, HF1⟩

/-! ### plenum/plenumlaw1.AddrNests (function 6) -/
abbrev f_plenumlaw1_AddrNests.R := Bool
noncomputable def f_plenumlaw1_AddrNests (a0 : Int) (a1 : Int) (a2 : Int) (a3 : Int) : Option f_plenumlaw1_AddrNests.R := (if (IntKind.i64.wrap ((Int.tmod (IntKind.i64.wrap a2) 33) + 1)) ≠ 0 then (((((f_addr_In (IntKind.i64.wrap a0) (IntKind.i64.wrap a1) (Int.tmod (IntKind.i64.wrap a2) 33)).bind fun t3 => (if t3 = true then ((f_addr_In (IntKind.i64.wrap a0) (IntKind.i64.wrap a1) (IntKind.i64.wrap ((Int.tmod (IntKind.i64.wrap a2) 33) - (Int.tmod (IntKind.i64.wrap a3) (IntKind.i64.wrap ((Int.tmod (IntKind.i64.wrap a2) 33) + 1)))))).bind fun t4 => some (.inl (!t4))) else some (.inl false))) : Option (Sum (Bool) f_plenumlaw1_AddrNests.R))).bind fun y1 => match y1 with | .inl s1 => (if s1 = true then some false else ((f_addr_Net (IntKind.i64.wrap a0) (Int.tmod (IntKind.i64.wrap a2) 33)).bind fun t5 => ((f_addr_In (IntKind.i64.wrap a0) t5 (Int.tmod (IntKind.i64.wrap a2) 33)).bind fun t6 => (if t6 = true then ((f_addr_Net (IntKind.i64.wrap a0) (Int.tmod (IntKind.i64.wrap a2) 33)).bind fun t7 => ((f_addr_Net t7 (IntKind.i64.wrap ((Int.tmod (IntKind.i64.wrap a2) 33) - (Int.tmod (IntKind.i64.wrap a3) (IntKind.i64.wrap ((Int.tmod (IntKind.i64.wrap a2) 33) + 1)))))).bind fun t8 => ((f_addr_Net (IntKind.i64.wrap a0) (IntKind.i64.wrap ((Int.tmod (IntKind.i64.wrap a2) 33) - (Int.tmod (IntKind.i64.wrap a3) (IntKind.i64.wrap ((Int.tmod (IntKind.i64.wrap a2) 33) + 1)))))).bind fun t9 => (if t8 = t9 then ((f_plenumlaw1_awake).bind fun t10 => some t10) else some false)))) else some false)))) | .inr r_ => some r_) else none)
set_option maxHeartbeats 1000000 in
theorem f_plenumlaw1_AddrNests.ok {z w : World} {F G : Hp} (hG : G ⊆ F) (hV : GV G) {a0 : Int} {a1 : Int} {a2 : Int} {a3 : Int} {r : f_plenumlaw1_AddrNests.R} (H : f_plenumlaw1_AddrNests a0 a1 a2 a3 = some r) (HF : Fits z w F) :
    Calls Tryd.prog 6 [.int .u32 a0, .int .u32 a1, .int .u8 a2, .int .u8 a3].toArray w fun e w' => e = .returned (.bool r) ∧ Fits z w' F := by
  unfold f_plenumlaw1_AddrNests at H
  refine enter0 Tryd.func6 rfl Tryd.ntmps6 rfl (E := [(0, .int .u32 a0), (1, .int .u32 a1), (2, .int .u8 a2), (3, .int .u8 a3)]) rfl ?_
  refine cSeq (fun K1 hK1 => ?_)
  refine cRgn [] trivial ?_
  refine sL (asg rfl) rfl ?_
  refine lEnd (K := fun _ _ => True) ?_
  refine kN (?_)
  refine hK1 _ _ ?_
  refine cSeq (fun K2 hK2 => ?_)
  refine cRgn [] trivial ?_
  refine sL (mv rfl) rfl ?_
  refine sL (cvI rfl Tryd.underlying5 Tryd.underlying3) rfl ?_
  refine sL (bRem rfl rfl (by decide)) rfl ?_
  refine sL (asg rfl) rfl ?_
  refine lEnd (K := fun _ _ => True) ?_
  refine kN (?_)
  refine hK2 _ _ ?_
  refine cSeq (fun K3 hK3 => ?_)
  refine cRgn [] trivial ?_
  refine sL (mv rfl) rfl ?_
  refine sL (mv rfl) rfl ?_
  refine sL (cvI rfl Tryd.underlying5 Tryd.underlying3) rfl ?_
  refine sL (mv rfl) rfl ?_
  refine sL (bAdd rfl rfl) rfl ?_
  replace H := chk H; obtain ⟨c1, H⟩ := H
  refine sL (bRem rfl rfl c1) rfl ?_
  refine sL (bSub rfl rfl) rfl ?_
  refine sL (asg rfl) rfl ?_
  refine lEnd (K := fun _ _ => True) ?_
  refine kN (?_)
  refine hK3 _ _ ?_
  refine cSeq (fun K4 hK4 => ?_)
  refine cSeq (fun K5 hK5 => ?_)
  replace H := bnd H; obtain ⟨y1, H, Ho1⟩ := H
  refine cJoin (y := y1) (fun (s1 : Bool) a w => Env 60 [(0, .int .u32 a0), (8, .bool false), (9, .int .i64 (Int.tmod (IntKind.i64.wrap a2) 33)), (10, .int .i64 (IntKind.i64.wrap ((Int.tmod (IntKind.i64.wrap a2) 33) - (Int.tmod (IntKind.i64.wrap a3) (IntKind.i64.wrap ((Int.tmod (IntKind.i64.wrap a2) 33) + 1)))))), (35, .bool s1)] a ∧ Fits z w F) ?_ ?_
  · refine cRgn [(6, 27)] ⟨rfl, trivial⟩ ?_
    refine sL (mv rfl) rfl ?_
    refine sL (cvI rfl Tryd.underlying30 Tryd.underlying3) rfl ?_
    refine sL (mv rfl) rfl ?_
    refine sL (cvI rfl Tryd.underlying30 Tryd.underlying3) rfl ?_
    refine sL (mv rfl) rfl ?_
    replace H := bnd H; obtain ⟨t3, J3, H⟩ := H
    refine eCall isf13 rfl rfl rfl (f_addr_In.ok hG (GV.mono hV sub_r) J3 HF) ?_
    rintro _ w3 ⟨rfl, HF3⟩
    refine ⟨_, rfl, ?_⟩
    refine sL (mv rfl) rfl ?_
    by_cases c3 : t3 = true
    · replace H := itT c3 H
      refine lSet (i := 27) rfl (vT c3) ?_
      refine sG rfl rfl (mv rfl) rfl ?_
      refine sG rfl rfl (cvI rfl Tryd.underlying30 Tryd.underlying3) rfl ?_
      refine sG rfl rfl (mv rfl) rfl ?_
      refine sG rfl rfl (cvI rfl Tryd.underlying30 Tryd.underlying3) rfl ?_
      refine sG rfl rfl (mv rfl) rfl ?_
      replace H := bnd H; obtain ⟨t4, J4, H⟩ := H
      refine eCallG rfl rfl isf13 rfl rfl rfl (f_addr_In.ok hG (GV.mono hV sub_r) J4 HF3) ?_
      rintro _ w4 ⟨rfl, HF4⟩
      refine ⟨_, rfl, ?_⟩
      refine sG rfl rfl (uNot rfl) rfl ?_
      refine sL (pkT rfl rfl) rfl ?_
      refine lEnd (K := fun _ _ => True) ?_
      refine kN (?_)
      exact ofEnv (fun a hE => ⟨_, (Option.some.inj H).symm, ⟨hE.keep (Keep.cons rfl (Keep.cons rfl (Keep.cons rfl (Keep.cons rfl (Keep.cons rfl (Keep.nil)))))), HF4⟩⟩)
    · replace H := itF c3 H
      refine lSet (i := 27) rfl (vF c3) ?_
      refine sN rfl rfl rfl rfl ?_
      refine sN rfl rfl rfl rfl ?_
      refine sN rfl rfl rfl rfl ?_
      refine sN rfl rfl rfl rfl ?_
      refine sN rfl rfl rfl rfl ?_
      refine sN rfl rfl rfl rfl ?_
      refine sN rfl rfl rfl rfl ?_
      refine sL (pkF rfl rfl) rfl ?_
      refine lEnd (K := fun _ _ => True) ?_
      refine kN (?_)
      exact ofEnv (fun a hE => ⟨_, (Option.some.inj H).symm, ⟨hE.keep (Keep.cons rfl (Keep.cons rfl (Keep.cons rfl (Keep.cons rfl (Keep.cons rfl (Keep.nil)))))), HF3⟩⟩)
  · rintro s1 a w5 rfl ⟨hE, HF5⟩
    replace H := Ho1
    refine go_k hE ?_
    refine kN (?_)
    refine hK5 _ _ ?_
    by_cases c4 : s1 = true
    · replace H := itT c4 H
      refine cSet (i := 35) rfl (vT c4) ?_
      refine cT rfl ?_
      refine cSeq (fun K6 hK6 => ?_)
      refine cRgn [] trivial ?_
      refine sL (asg rfl) rfl ?_
      refine lEnd (K := fun _ _ => True) ?_
      refine kN (?_)
      refine hK6 _ _ ?_
      refine cRet ?_
      obtain rfl := Option.some.inj H
      refine kR (?_)
      refine ret1 rfl rfl ?_
      exact ⟨rfl, HF5⟩
    · replace H := itF c4 H
      refine cSet (i := 35) rfl (vF c4) ?_
      refine cF rfl ?_
      refine cSkip ?_
      refine kN (?_)
      refine hK4 _ _ ?_
      refine cSeq (fun K7 hK7 => ?_)
      refine cRgn [(8, 44), (21, 57)] ⟨rfl, rfl, trivial⟩ ?_
      refine sL (mv rfl) rfl ?_
      refine sL (cvI rfl Tryd.underlying30 Tryd.underlying3) rfl ?_
      refine sL (mv rfl) rfl ?_
      refine sL (cvI rfl Tryd.underlying30 Tryd.underlying3) rfl ?_
      refine sL (mv rfl) rfl ?_
      replace H := bnd H; obtain ⟨t5, J5, H⟩ := H
      refine eCall isf14 rfl rfl rfl (f_addr_Net.ok hG (GV.mono hV sub_r) J5 HF5) ?_
      rintro _ w6 ⟨rfl, HF6⟩
      refine ⟨_, rfl, ?_⟩
      refine sL (mv rfl) rfl ?_
      replace H := bnd H; obtain ⟨t6, J6, H⟩ := H
      refine eCall isf13 rfl rfl rfl (f_addr_In.ok hG (GV.mono hV sub_r) J6 HF6) ?_
      rintro _ w7 ⟨rfl, HF7⟩
      refine ⟨_, rfl, ?_⟩
      refine sL (mv rfl) rfl ?_
      by_cases c5 : t6 = true
      · replace H := itT c5 H
        refine lSet (i := 44) rfl (vT c5) ?_
        refine sG rfl rfl (mv rfl) rfl ?_
        refine sG rfl rfl (cvI rfl Tryd.underlying30 Tryd.underlying3) rfl ?_
        refine sG rfl rfl (mv rfl) rfl ?_
        replace H := bnd H; obtain ⟨t7, J7, H⟩ := H
        refine eCallG rfl rfl isf14 rfl rfl rfl (f_addr_Net.ok hG (GV.mono hV sub_r) J7 HF7) ?_
        rintro _ w8 ⟨rfl, HF8⟩
        refine ⟨_, rfl, ?_⟩
        refine sG rfl rfl (mv rfl) rfl ?_
        replace H := bnd H; obtain ⟨t8, J8, H⟩ := H
        refine eCallG rfl rfl isf14 rfl rfl rfl (f_addr_Net.ok hG (GV.mono hV sub_r) J8 HF8) ?_
        rintro _ w9 ⟨rfl, HF9⟩
        refine ⟨_, rfl, ?_⟩
        refine sG rfl rfl (mv rfl) rfl ?_
        refine sG rfl rfl (cvI rfl Tryd.underlying30 Tryd.underlying3) rfl ?_
        refine sG rfl rfl (mv rfl) rfl ?_
        replace H := bnd H; obtain ⟨t9, J9, H⟩ := H
        refine eCallG rfl rfl isf14 rfl rfl rfl (f_addr_Net.ok hG (GV.mono hV sub_r) J9 HF9) ?_
        rintro _ w10 ⟨rfl, HF10⟩
        refine ⟨_, rfl, ?_⟩
        refine sG rfl rfl (bEql rfl rfl) rfl ?_
        refine sL (pkT rfl rfl) rfl ?_
        refine sL (mv rfl) rfl ?_
        by_cases c6 : t8 = t9
        · replace H := itT c6 H
          refine lSet (i := 57) rfl (dT c6) ?_
          replace H := bnd H; obtain ⟨t10, J10, H⟩ := H
          refine eCallG rfl rfl isf8 rfl rfl rfl (f_plenumlaw1_awake.ok hG (GV.mono hV sub_r) J10 HF10) ?_
          rintro _ w11 ⟨rfl, HF11⟩
          refine ⟨_, rfl, ?_⟩
          refine sL (pkT rfl rfl) rfl ?_
          refine sL (asg rfl) rfl ?_
          refine lEnd (K := fun _ _ => True) ?_
          refine kN (?_)
          refine hK7 _ _ ?_
          refine cRet ?_
          obtain rfl := Option.some.inj H
          refine ret1 rfl rfl ?_
          exact ⟨rfl, HF11⟩
        · replace H := itF c6 H
          refine lSet (i := 57) rfl (dF c6) ?_
          refine sN rfl rfl rfl rfl ?_
          refine sL (pkF rfl rfl) rfl ?_
          refine sL (asg rfl) rfl ?_
          refine lEnd (K := fun _ _ => True) ?_
          refine kN (?_)
          refine hK7 _ _ ?_
          refine cRet ?_
          obtain rfl := Option.some.inj H
          refine ret1 rfl rfl ?_
          exact ⟨rfl, HF10⟩
      · replace H := itF c5 H
        refine lSet (i := 44) rfl (vF c5) ?_
        refine sN rfl rfl rfl rfl ?_
        refine sN rfl rfl rfl rfl ?_
        refine sN rfl rfl rfl rfl ?_
        refine sN rfl rfl rfl rfl ?_
        refine sN rfl rfl rfl rfl ?_
        refine sN rfl rfl rfl rfl ?_
        refine sN rfl rfl rfl rfl ?_
        refine sN rfl rfl rfl rfl ?_
        refine sN rfl rfl rfl rfl ?_
        refine sN rfl rfl rfl rfl ?_
        refine sN rfl rfl rfl rfl ?_
        refine sL (pkF rfl rfl) rfl ?_
        refine sL (mv rfl) rfl ?_
        refine sN rfl rfl rfl rfl ?_
        refine sL (pkF rfl rfl) rfl ?_
        refine sL (asg rfl) rfl ?_
        refine lEnd (K := fun _ _ => True) ?_
        refine kN (?_)
        refine hK7 _ _ ?_
        refine cRet ?_
        obtain rfl := Option.some.inj H
        refine ret1 rfl rfl ?_
        exact ⟨rfl, HF7⟩

/-! ### plenum/addr.Bits (function 16) -/
abbrev f_addr_Bits.R := Int
noncomputable def f_addr_Bits.b0 (a0 : Int) (s1 : Int) : Option (Sum (Int) (Sum (Int) f_addr_Bits.R)) := (if s1 < 33 then ((f_addr_Mask s1).bind fun t3 => (if t3 = a0 then some (.inr (.inr s1)) else some (.inl (IntKind.i64.wrap (s1 + 1))))) else some (.inr (.inl s1)))
noncomputable def f_addr_Bits (a0 : Int) : Option f_addr_Bits.R := ((loopO (f_addr_Bits.b0 a0) 0).bind fun y1 => match y1 with | .inl s1 => some (-1) | .inr r_ => some r_)
set_option maxHeartbeats 1000000 in
theorem f_addr_Bits.ok {z w : World} {F G : Hp} (hG : G ⊆ F) (hV : GV G) {a0 : Int} {r : f_addr_Bits.R} (H : f_addr_Bits a0 = some r) (HF : Fits z w F) :
    Calls Tryd.prog 16 [.int .i64 a0].toArray w fun e w' => e = .returned (.int .i64 r) ∧ Fits z w' F := by
  unfold f_addr_Bits at H
  refine enter0 Tryd.func16 rfl Tryd.ntmps16 rfl (E := [(0, .int .i64 a0)]) rfl ?_
  refine cSeq (fun K1 hK1 => ?_)
  refine cRgn [] trivial ?_
  refine sL (asg rfl) rfl ?_
  refine lEnd (K := fun _ _ => True) ?_
  refine kN (?_)
  refine hK1 _ _ ?_
  refine cSeq (fun K2 hK2 => ?_)
  refine cSeq (fun K3 hK3 => ?_)
  refine cRgn [] trivial ?_
  refine sL (mv rfl) rfl ?_
  refine lEnd (K := fun _ _ => True) ?_
  refine kN (?_)
  refine hK3 _ _ ?_
  replace H := bnd H; obtain ⟨y1, J4, Ho1⟩ := H
  refine cLoopB (f_addr_Bits.b0 a0) (fun (s1 : Int) a w => Env 13 [(0, .int .i64 a0), (2, .int .i64 0), (4, .int .i64 s1)] a ∧ Fits z w F) J4 (fun a hE => ⟨hE.keep (Keep.cons rfl (Keep.cons rfl (Keep.cons rfl (Keep.nil)))), HF⟩) ?_ ?_
  · rintro s1 a w3 y2 ⟨hE, HF3⟩ H Hx1
    refine go_ hE ?_
    refine cSeq (fun K16 hK16 => ?_)
    refine cRgn [] trivial ?_
    refine sL (bLss rfl rfl) rfl ?_
    refine lEnd (K := fun _ _ => True) ?_
    refine kN (?_)
    refine hK16 _ _ ?_
    refine cSeq (fun K17 hK17 => ?_)
    by_cases c4 : s1 < 33
    · replace H := itT c4 H
      refine cSet (i := 5) rfl (dT c4) ?_
      refine cT rfl ?_
      refine cSkip ?_
      refine kN (?_)
      refine hK17 _ _ ?_
      refine cSeq (fun K18 hK18 => ?_)
      refine cBlock ?_
      refine cSeq (fun K19 hK19 => ?_)
      refine cRgn [] trivial ?_
      refine sL (mv rfl) rfl ?_
      refine sL (asg rfl) rfl ?_
      refine lEnd (K := fun _ _ => True) ?_
      refine kN (?_)
      refine hK19 _ _ ?_
      refine cSeq (fun K20 hK20 => ?_)
      refine cRgn [] trivial ?_
      refine sL (mv rfl) rfl ?_
      replace H := bnd H; obtain ⟨t3, J3, H⟩ := H
      refine eCall isf15 rfl rfl rfl (f_addr_Mask.ok hG (GV.mono hV sub_r) J3 HF3) ?_
      rintro _ w4 ⟨rfl, HF4⟩
      refine ⟨_, rfl, ?_⟩
      refine sL (mv rfl) rfl ?_
      refine sL (bEql rfl rfl) rfl ?_
      refine lEnd (K := fun _ _ => True) ?_
      refine kN (?_)
      refine hK20 _ _ ?_
      by_cases c5 : t3 = a0
      · replace H := itT c5 H
        refine cSet (i := 10) rfl (dT c5) ?_
        refine cT rfl ?_
        refine cSeq (fun K21 hK21 => ?_)
        refine cRgn [] trivial ?_
        refine sL (mv rfl) rfl ?_
        refine sL (asg rfl) rfl ?_
        refine lEnd (K := fun _ _ => True) ?_
        refine kN (?_)
        refine hK21 _ _ ?_
        refine cRet ?_
        have e_ := Hx1 _ (Option.some.inj H).symm
        subst e_
        replace H := Ho1
        obtain rfl := Option.some.inj H
        refine jR (kR (kR (jR (kR (kR (?_))))))
        refine ret1 rfl rfl ?_
        exact ⟨rfl, HF4⟩
      · replace H := itF c5 H
        refine cSet (i := 10) rfl (dF c5) ?_
        refine cF rfl ?_
        refine cSkip ?_
        refine jN (kN (?_))
        refine hK18 _ _ ?_
        refine cRgn [] trivial ?_
        refine sL (bAdd rfl rfl) rfl ?_
        refine sL (mv rfl) rfl ?_
        refine lEnd (K := fun _ _ => True) ?_
        refine kN (?_)
        exact ofEnv (fun a hE => ⟨_, (Option.some.inj H).symm, ⟨hE.keep (Keep.cons rfl (Keep.cons rfl (Keep.cons rfl (Keep.nil)))), HF4⟩⟩)
    · replace H := itF c4 H
      refine cSet (i := 5) rfl (dF c4) ?_
      refine cF rfl ?_
      refine cExit ?_
      refine kX (kX (jX (kN (?_))))
      exact ofEnv (fun a hE => ⟨_, (Option.some.inj H).symm, ⟨hE.keep (Keep.cons rfl (Keep.cons rfl (Keep.cons rfl (Keep.nil)))), HF3⟩⟩)
  · rintro s1 a w5 rfl ⟨hE, HF5⟩
    replace H := Ho1
    refine go_k hE ?_
    refine kN (?_)
    refine hK2 _ _ ?_
    refine cSeq (fun K22 hK22 => ?_)
    refine cRgn [] trivial ?_
    refine sL (asg rfl) rfl ?_
    refine lEnd (K := fun _ _ => True) ?_
    refine kN (?_)
    refine hK22 _ _ ?_
    refine cRet ?_
    obtain rfl := Option.some.inj H
    refine ret1 rfl rfl ?_
    exact ⟨rfl, HF5⟩

/-! ### plenum/plenumlaw1.AddrMasks (function 7) -/
abbrev f_plenumlaw1_AddrMasks.R := Bool
noncomputable def f_plenumlaw1_AddrMasks (a0 : Int) : Option f_plenumlaw1_AddrMasks.R := ((f_addr_Mask (Int.tmod (IntKind.i64.wrap a0) 33)).bind fun t1 => ((f_addr_Bits t1).bind fun t2 => (if t2 = (Int.tmod (IntKind.i64.wrap a0) 33) then (if 0 ≤ (IntKind.u64.wrap (IntKind.i64.wrap (32 - (Int.tmod (IntKind.i64.wrap a0) 33)))) then (if (IntKind.i64.wrap (t1 + (shlI .i64 1 (IntKind.u64.wrap (IntKind.i64.wrap (32 - (Int.tmod (IntKind.i64.wrap a0) 33))))))) = 4294967296 then ((f_addr_Mask (IntKind.i64.wrap ((IntKind.i64.wrap a0) + 33))).bind fun t3 => (if t3 = 4294967295 then ((f_addr_Mask (IntKind.i64.wrap ((-1) - (IntKind.i64.wrap a0)))).bind fun t4 => (if t4 = 0 then ((f_plenumlaw1_awake).bind fun t5 => some t5) else some false)) else some false)) else some false) else none) else some false)))
set_option maxHeartbeats 1000000 in
theorem f_plenumlaw1_AddrMasks.ok {z w : World} {F G : Hp} (hG : G ⊆ F) (hV : GV G) {a0 : Int} {r : f_plenumlaw1_AddrMasks.R} (H : f_plenumlaw1_AddrMasks a0 = some r) (HF : Fits z w F) :
    Calls Tryd.prog 7 [.int .u8 a0].toArray w fun e w' => e = .returned (.bool r) ∧ Fits z w' F := by
  unfold f_plenumlaw1_AddrMasks at H
  refine enter0 Tryd.func7 rfl Tryd.ntmps7 rfl (E := [(0, .int .u8 a0)]) rfl ?_
  refine cSeq (fun K1 hK1 => ?_)
  refine cRgn [] trivial ?_
  refine sL (asg rfl) rfl ?_
  refine lEnd (K := fun _ _ => True) ?_
  refine kN (?_)
  refine hK1 _ _ ?_
  refine cSeq (fun K2 hK2 => ?_)
  refine cRgn [] trivial ?_
  refine sL (mv rfl) rfl ?_
  refine sL (cvI rfl Tryd.underlying5 Tryd.underlying3) rfl ?_
  refine sL (bRem rfl rfl (by decide)) rfl ?_
  refine sL (asg rfl) rfl ?_
  refine lEnd (K := fun _ _ => True) ?_
  refine kN (?_)
  refine hK2 _ _ ?_
  refine cSeq (fun K3 hK3 => ?_)
  refine cRgn [] trivial ?_
  refine sL (mv rfl) rfl ?_
  replace H := bnd H; obtain ⟨t1, J1, H⟩ := H
  refine eCall isf15 rfl rfl rfl (f_addr_Mask.ok hG (GV.mono hV sub_r) J1 HF) ?_
  rintro _ w1 ⟨rfl, HF1⟩
  refine ⟨_, rfl, ?_⟩
  refine sL (asg rfl) rfl ?_
  refine lEnd (K := fun _ _ => True) ?_
  refine kN (?_)
  refine hK3 _ _ ?_
  refine cSeq (fun K4 hK4 => ?_)
  refine cRgn [(4, 14), (13, 23), (20, 30), (27, 37)] ⟨rfl, rfl, rfl, rfl, trivial⟩ ?_
  refine sL (mv rfl) rfl ?_
  replace H := bnd H; obtain ⟨t2, J2, H⟩ := H
  refine eCall isf16 rfl rfl rfl (f_addr_Bits.ok hG (GV.mono hV sub_r) J2 HF1) ?_
  rintro _ w2 ⟨rfl, HF2⟩
  refine ⟨_, rfl, ?_⟩
  refine sL (mv rfl) rfl ?_
  refine sL (bEql rfl rfl) rfl ?_
  refine sL (mv rfl) rfl ?_
  by_cases c1 : t2 = (Int.tmod (IntKind.i64.wrap a0) 33)
  · replace H := itT c1 H
    refine lSet (i := 14) rfl (dT c1) ?_
    refine sG rfl rfl (mv rfl) rfl ?_
    refine sG rfl rfl (mv rfl) rfl ?_
    refine sG rfl rfl (bSub rfl rfl) rfl ?_
    refine sG rfl rfl (cvI rfl Tryd.underlying3 Tryd.underlying39) rfl ?_
    replace H := chk H; obtain ⟨c2, H⟩ := H
    refine sG rfl rfl (bShl rfl rfl c2) rfl ?_
    refine sG rfl rfl (bAdd rfl rfl) rfl ?_
    refine sG rfl rfl (bEql rfl rfl) rfl ?_
    refine sL (pkT rfl rfl) rfl ?_
    refine sL (mv rfl) rfl ?_
    by_cases c3 : (IntKind.i64.wrap (t1 + (shlI .i64 1 (IntKind.u64.wrap (IntKind.i64.wrap (32 - (Int.tmod (IntKind.i64.wrap a0) 33))))))) = 4294967296
    · replace H := itT c3 H
      refine lSet (i := 23) rfl (dT c3) ?_
      refine sG rfl rfl (mv rfl) rfl ?_
      refine sG rfl rfl (cvI rfl Tryd.underlying5 Tryd.underlying3) rfl ?_
      refine sG rfl rfl (bAdd rfl rfl) rfl ?_
      replace H := bnd H; obtain ⟨t3, J3, H⟩ := H
      refine eCallG rfl rfl isf15 rfl rfl rfl (f_addr_Mask.ok hG (GV.mono hV sub_r) J3 HF2) ?_
      rintro _ w3 ⟨rfl, HF3⟩
      refine ⟨_, rfl, ?_⟩
      refine sG rfl rfl (bEql rfl rfl) rfl ?_
      refine sL (pkT rfl rfl) rfl ?_
      refine sL (mv rfl) rfl ?_
      by_cases c4 : t3 = 4294967295
      · replace H := itT c4 H
        refine lSet (i := 30) rfl (dT c4) ?_
        refine sG rfl rfl (mv rfl) rfl ?_
        refine sG rfl rfl (cvI rfl Tryd.underlying5 Tryd.underlying3) rfl ?_
        refine sG rfl rfl (bSub rfl rfl) rfl ?_
        replace H := bnd H; obtain ⟨t4, J4, H⟩ := H
        refine eCallG rfl rfl isf15 rfl rfl rfl (f_addr_Mask.ok hG (GV.mono hV sub_r) J4 HF3) ?_
        rintro _ w4 ⟨rfl, HF4⟩
        refine ⟨_, rfl, ?_⟩
        refine sG rfl rfl (bEql rfl rfl) rfl ?_
        refine sL (pkT rfl rfl) rfl ?_
        refine sL (mv rfl) rfl ?_
        by_cases c5 : t4 = 0
        · replace H := itT c5 H
          refine lSet (i := 37) rfl (dT c5) ?_
          replace H := bnd H; obtain ⟨t5, J5, H⟩ := H
          refine eCallG rfl rfl isf8 rfl rfl rfl (f_plenumlaw1_awake.ok hG (GV.mono hV sub_r) J5 HF4) ?_
          rintro _ w5 ⟨rfl, HF5⟩
          refine ⟨_, rfl, ?_⟩
          refine sL (pkT rfl rfl) rfl ?_
          refine sL (asg rfl) rfl ?_
          refine lEnd (K := fun _ _ => True) ?_
          refine kN (?_)
          refine hK4 _ _ ?_
          refine cRet ?_
          obtain rfl := Option.some.inj H
          refine ret1 rfl rfl ?_
          exact ⟨rfl, HF5⟩
        · replace H := itF c5 H
          refine lSet (i := 37) rfl (dF c5) ?_
          refine sN rfl rfl rfl rfl ?_
          refine sL (pkF rfl rfl) rfl ?_
          refine sL (asg rfl) rfl ?_
          refine lEnd (K := fun _ _ => True) ?_
          refine kN (?_)
          refine hK4 _ _ ?_
          refine cRet ?_
          obtain rfl := Option.some.inj H
          refine ret1 rfl rfl ?_
          exact ⟨rfl, HF4⟩
      · replace H := itF c4 H
        refine lSet (i := 30) rfl (dF c4) ?_
        refine sN rfl rfl rfl rfl ?_
        refine sN rfl rfl rfl rfl ?_
        refine sN rfl rfl rfl rfl ?_
        refine sN rfl rfl rfl rfl ?_
        refine sN rfl rfl rfl rfl ?_
        refine sL (pkF rfl rfl) rfl ?_
        refine sL (mv rfl) rfl ?_
        refine sN rfl rfl rfl rfl ?_
        refine sL (pkF rfl rfl) rfl ?_
        refine sL (asg rfl) rfl ?_
        refine lEnd (K := fun _ _ => True) ?_
        refine kN (?_)
        refine hK4 _ _ ?_
        refine cRet ?_
        obtain rfl := Option.some.inj H
        refine ret1 rfl rfl ?_
        exact ⟨rfl, HF3⟩
    · replace H := itF c3 H
      refine lSet (i := 23) rfl (dF c3) ?_
      refine sN rfl rfl rfl rfl ?_
      refine sN rfl rfl rfl rfl ?_
      refine sN rfl rfl rfl rfl ?_
      refine sN rfl rfl rfl rfl ?_
      refine sN rfl rfl rfl rfl ?_
      refine sL (pkF rfl rfl) rfl ?_
      refine sL (mv rfl) rfl ?_
      refine sN rfl rfl rfl rfl ?_
      refine sN rfl rfl rfl rfl ?_
      refine sN rfl rfl rfl rfl ?_
      refine sN rfl rfl rfl rfl ?_
      refine sN rfl rfl rfl rfl ?_
      refine sL (pkF rfl rfl) rfl ?_
      refine sL (mv rfl) rfl ?_
      refine sN rfl rfl rfl rfl ?_
      refine sL (pkF rfl rfl) rfl ?_
      refine sL (asg rfl) rfl ?_
      refine lEnd (K := fun _ _ => True) ?_
      refine kN (?_)
      refine hK4 _ _ ?_
      refine cRet ?_
      obtain rfl := Option.some.inj H
      refine ret1 rfl rfl ?_
      exact ⟨rfl, HF2⟩
  · replace H := itF c1 H
    refine lSet (i := 14) rfl (dF c1) ?_
    refine sN rfl rfl rfl rfl ?_
    refine sN rfl rfl rfl rfl ?_
    refine sN rfl rfl rfl rfl ?_
    refine sN rfl rfl rfl rfl ?_
    refine sN rfl rfl rfl rfl ?_
    refine sN rfl rfl rfl rfl ?_
    refine sN rfl rfl rfl rfl ?_
    refine sL (pkF rfl rfl) rfl ?_
    refine sL (mv rfl) rfl ?_
    refine sN rfl rfl rfl rfl ?_
    refine sN rfl rfl rfl rfl ?_
    refine sN rfl rfl rfl rfl ?_
    refine sN rfl rfl rfl rfl ?_
    refine sN rfl rfl rfl rfl ?_
    refine sL (pkF rfl rfl) rfl ?_
    refine sL (mv rfl) rfl ?_
    refine sN rfl rfl rfl rfl ?_
    refine sN rfl rfl rfl rfl ?_
    refine sN rfl rfl rfl rfl ?_
    refine sN rfl rfl rfl rfl ?_
    refine sN rfl rfl rfl rfl ?_
    refine sL (pkF rfl rfl) rfl ?_
    refine sL (mv rfl) rfl ?_
    refine sN rfl rfl rfl rfl ?_
    refine sL (pkF rfl rfl) rfl ?_
    refine sL (asg rfl) rfl ?_
    refine lEnd (K := fun _ _ => True) ?_
    refine kN (?_)
    refine hK4 _ _ ?_
    refine cRet ?_
    obtain rfl := Option.some.inj H
    refine ret1 rfl rfl ?_
    exact ⟨rfl, HF2⟩

end Go.Proofs.YtdnlahdddidffaaDoor
