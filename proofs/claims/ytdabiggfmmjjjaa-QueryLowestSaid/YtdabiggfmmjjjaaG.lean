/- For each Go function that the laws reach: a function on plain values with the same answers, and the proof that the call comes to them (none: nothing is told). Conditions: none beside each theorem's own. Written by gen.py out of the print of the loaded program. -/
import Derived.Test.YtdabiggfmmjjjaaProg
import Derived.Test.YtdabiggfmmjjjaaSp15
import Derived.KernelRfl
set_option linter.unusedVariables false
set_option linter.unusedSimpArgs false
namespace Go.Proofs.Ytdabiggfmmjjjaa
open Go Go.Proofs.Ytdabiggfmmjjjaa.Sp

structure T_query_Asker where
  f_addr : Int
  f_asks : Bool
  f_left : Int
  f_starts : Int
  deriving Inhabited, DecidableEq
def enc_T_query_Asker (x : T_query_Asker) : List Value := [.int .i64 x.f_addr, .bool x.f_asks, .int .i64 x.f_left, .int .i64 x.f_starts]
theorem len_T_query_Asker (x : T_query_Asker) : (enc_T_query_Asker x).length = 4 := rfl
theorem one_T_query_Asker (x : T_query_Asker) : ∀ v ∈ enc_T_query_Asker x, v.oneCell' = true := by intro v hv; simp only [enc_T_query_Asker, List.mem_cons, List.not_mem_nil, or_false] at hv; rcases hv with rfl | rfl | rfl | rfl <;> rfl
def k_T_query_Asker : Kd T_query_Asker := kFlat enc_T_query_Asker 4 len_T_query_Asker one_T_query_Asker
def fs40 : Array Field := #[Field.mk "addr" 3 0 false "" "plenum/query" 0, Field.mk "asks" 4 1 false "" "plenum/query" 8, Field.mk "left" 3 2 false "" "plenum/query" 16, Field.mk "starts" 3 3 false "" "plenum/query" 24]
def ds40 : TypeDesc := .struct fs40
theorem isf10 : IsF Try.prog 10 := IsF.mk Try.func10 rfl rfl
theorem isf12 : IsF Try.prog 12 := IsF.mk Try.func12 rfl rfl
theorem isf15 : IsF Try.prog 15 := IsF.mk Try.func15 rfl rfl
theorem isf7 : IsF Try.prog 7 := IsF.mk Try.func7 rfl rfl
theorem isf8 : IsF Try.prog 8 := IsF.mk Try.func8 rfl rfl
theorem isf9 : IsF Try.prog 9 := IsF.mk Try.func9 rfl rfl
theorem fa40_0 {E : List (Nat × Value)} {w : World} {x : Operand} {g o : Nat} (hx : lv E x = some (.pointer (some ⟨g, o, none⟩))) : Run Try.prog E w (.fieldAddr 40 x 0) (.pointer (some ⟨g, o + 0, none⟩)) := fa (sz := 0) hx Try.underlying40 rfl rfl (by kernel_rfl)
theorem fa40_1 {E : List (Nat × Value)} {w : World} {x : Operand} {g o : Nat} (hx : lv E x = some (.pointer (some ⟨g, o, none⟩))) : Run Try.prog E w (.fieldAddr 40 x 1) (.pointer (some ⟨g, o + 1, none⟩)) := fa (sz := 0) hx Try.underlying40 rfl rfl (by kernel_rfl)
theorem fa40_2 {E : List (Nat × Value)} {w : World} {x : Operand} {g o : Nat} (hx : lv E x = some (.pointer (some ⟨g, o, none⟩))) : Run Try.prog E w (.fieldAddr 40 x 2) (.pointer (some ⟨g, o + 2, none⟩)) := fa (sz := 0) hx Try.underlying40 rfl rfl (by kernel_rfl)
theorem fa40_3 {E : List (Nat × Value)} {w : World} {x : Operand} {g o : Nat} (hx : lv E x = some (.pointer (some ⟨g, o, none⟩))) : Run Try.prog E w (.fieldAddr 40 x 3) (.pointer (some ⟨g, o + 3, none⟩)) := fa (sz := 0) hx Try.underlying40 rfl rfl (by kernel_rfl)
theorem mo_ : Try.prog.follows .mixedOrders = true := by kernel_rfl
theorem pl40 : PL Try.prog 40 fs40 [(0, 1), (1, 1), (2, 1), (3, 1)] := ⟨Try.underlying40, by kernel_rfl⟩
theorem ti23 : TI Try.prog 23 (.pointer 40) (.pointer none) 1 8 := TI.mk' Try.underlying23 (by kernel_rfl)
theorem ti3 : TI Try.prog 3 (.int .i64) (.int .i64 0) 1 8 := TI.mk' Try.underlying3 (by kernel_rfl)
theorem ti4 : TI Try.prog 4 .bool (.bool false) 1 1 := TI.mk' Try.underlying4 (by kernel_rfl)
theorem ti40 : TI Try.prog 40 ds40 (.agg [(.int .i64 0), (.bool false), (.int .i64 0), (.int .i64 0)].toArray) 4 32 := TI.mk' Try.underlying40 (by kernel_rfl)
theorem ti5 : TI Try.prog 5 (.int .u8) (.int .u8 0) 1 1 := TI.mk' Try.underlying5 (by kernel_rfl)

/-! ### plenum/query.New (function 7) -/
abbrev f_query_New.R := T_query_Asker
noncomputable def f_query_New (a0 : Int) : Option f_query_New.R := some (⟨a0, true, 1, 2⟩ : T_query_Asker)
set_option maxHeartbeats 1000000 in
theorem f_query_New.ok {z w : World} {F : Hp} {a0 : Int} {r : f_query_New.R} (H : f_query_New a0 = some r) (HF : Fits z w F) :
    Calls Try.prog 7 [.int .i64 a0].toArray w fun e w' => ∃ (g0 : Nat), e = .returned (.pointer (some ⟨g0, 0, none⟩)) ∧ Fits z w' (bk g0 40 [.int .i64 r.f_addr, .bool r.f_asks, .int .i64 r.f_left, .int .i64 r.f_starts] :: F) := by
  unfold f_query_New at H
  refine enter0 Try.func7 rfl Try.ntmps7 rfl (E := [(0, .int .i64 a0)]) rfl ?_
  refine cSeq (fun K1 hK1 => ?_)
  refine cRgn [] trivial ?_
  refine sL (asg rfl) rfl ?_
  refine lEnd (K := fun _ _ => True) ?_
  refine kN (?_)
  refine hK1 _ _ ?_
  refine cSeq (fun K2 hK2 => ?_)
  refine cRgn [] trivial ?_
  refine sL (mv rfl) rfl ?_
  refine sL (bd (r := [.int .i64 a0, .bool true, .int .i64 1, .int .i64 2]) pl40 ti40 rfl rfl) rfl ?_
  refine eW (oBox HF rfl) rfl ?_
  rintro _ w1 ⟨g1, rfl, HF1⟩
  refine sL (asg rfl) rfl ?_
  refine lEnd (K := fun _ _ => True) ?_
  refine kN (?_)
  refine hK2 _ _ ?_
  refine cRet ?_
  obtain rfl := Option.some.inj H
  refine ret1 rfl rfl ?_
  exact ⟨_, rfl, HF1⟩

/-! ### (*plenum/query.Asker).Asks (function 9) -/
abbrev f_query_Asker_Asks_obj.R := Bool
noncomputable def f_query_Asker_Asks_obj (a0 : T_query_Asker) : Option f_query_Asker_Asks_obj.R := some a0.f_asks
set_option maxHeartbeats 1000000 in
theorem f_query_Asker_Asks_obj.ok {z w : World} {F : Hp} {a0 : T_query_Asker} {g_a0 : Nat} {r : f_query_Asker_Asks_obj.R} (H : f_query_Asker_Asks_obj a0 = some r) (HF : Fits z w (bk g_a0 40 [.int .i64 a0.f_addr, .bool a0.f_asks, .int .i64 a0.f_left, .int .i64 a0.f_starts] :: F)) :
    Calls Try.prog 9 [.pointer (some ⟨g_a0, 0, none⟩)].toArray w fun e w' => e = .returned (.bool r) ∧ Fits z w' (bk g_a0 40 [.int .i64 a0.f_addr, .bool a0.f_asks, .int .i64 a0.f_left, .int .i64 a0.f_starts] :: F) := by
  unfold f_query_Asker_Asks_obj at H
  refine enter0 Try.func9 rfl Try.ntmps9 rfl (E := [(0, .pointer (some ⟨g_a0, 0, none⟩))]) rfl ?_
  refine cSeq (fun K1 hK1 => ?_)
  refine cRgn [] trivial ?_
  refine sL (asg rfl) rfl ?_
  refine lEnd (K := fun _ _ => True) ?_
  refine kN (?_)
  refine hK1 _ _ ?_
  refine cSeq (fun K2 hK2 => ?_)
  refine cRgn [(2, 5)] ⟨rfl, trivial⟩ ?_
  refine sL (mv rfl) rfl ?_
  refine sL (bPNeq0 rfl rfl Try.underlying23) rfl ?_
  refine sL (mv rfl) rfl ?_
  refine sG rfl rfl (mv rfl) rfl ?_
  refine sG rfl rfl (nc rfl) rfl ?_
  refine sG rfl rfl (fa40_1 rfl) rfl ?_
  refine sG rfl rfl (ld rfl Try.underlying4 rfl (HF.box (mem_h) rfl)) rfl ?_
  refine sL (pkT rfl rfl) rfl ?_
  refine sL (asg rfl) rfl ?_
  refine lEnd (K := fun _ _ => True) ?_
  refine kN (?_)
  refine hK2 _ _ ?_
  refine cRet ?_
  obtain rfl := Option.some.inj H
  refine ret1 rfl rfl ?_
  exact ⟨rfl, HF⟩

/-! ### (*plenum/query.Asker).Tick (function 8) -/
abbrev f_query_Asker_Tick_obj.R := Bool × Bool × Int × Int
noncomputable def f_query_Asker_Tick_obj (a0 : T_query_Asker) : Option f_query_Asker_Tick_obj.R := (if 0 < (IntKind.i64.wrap (a0.f_left - 1)) then some (false, a0.f_asks, IntKind.i64.wrap (a0.f_left - 1), a0.f_starts) else ((((if a0.f_asks = true then some (.inl (decide (0 < a0.f_starts))) else some (.inl false)) : Option (Sum (Bool) f_query_Asker_Tick_obj.R))).bind fun y1 => match y1 with | .inl s1 => (if s1 = true then (if a0.f_asks = true then (if 0 < (IntKind.i64.wrap (a0.f_starts - 1)) then some (true, true, 6, IntKind.i64.wrap (a0.f_starts - 1)) else some (true, true, 25, IntKind.i64.wrap (a0.f_starts - 1))) else some (true, true, 25, IntKind.i64.wrap (a0.f_starts - 1))) else (if a0.f_asks = true then (if 0 < a0.f_starts then some (true, true, 6, a0.f_starts) else some (true, true, 25, a0.f_starts)) else some (true, true, 25, a0.f_starts))) | .inr r_ => some r_))
set_option maxHeartbeats 1000000 in
theorem f_query_Asker_Tick_obj.ok {z w : World} {F : Hp} {a0 : T_query_Asker} {g_a0 : Nat} {r : f_query_Asker_Tick_obj.R} (H : f_query_Asker_Tick_obj a0 = some r) (HF : Fits z w (bk g_a0 40 [.int .i64 a0.f_addr, .bool a0.f_asks, .int .i64 a0.f_left, .int .i64 a0.f_starts] :: F)) :
    Calls Try.prog 8 [.pointer (some ⟨g_a0, 0, none⟩)].toArray w fun e w' => e = .returned (.bool r.1) ∧ Fits z w' (bk g_a0 40 [.int .i64 a0.f_addr, .bool r.2.1, .int .i64 r.2.2.1, .int .i64 r.2.2.2] :: F) := by
  unfold f_query_Asker_Tick_obj at H
  refine enter0 Try.func8 rfl Try.ntmps8 rfl (E := [(0, .pointer (some ⟨g_a0, 0, none⟩))]) rfl ?_
  refine cSeq (fun K1 hK1 => ?_)
  refine cRgn [] trivial ?_
  refine sL (asg rfl) rfl ?_
  refine lEnd (K := fun _ _ => True) ?_
  refine kN (?_)
  refine hK1 _ _ ?_
  refine cSeq (fun K2 hK2 => ?_)
  refine cSeq (fun K3 hK3 => ?_)
  refine cRgn [] trivial ?_
  refine sL (mv rfl) rfl ?_
  refine sL (bPEql0 rfl rfl Try.underlying23) rfl ?_
  refine lEnd (K := fun _ _ => True) ?_
  refine kN (?_)
  refine hK3 _ _ ?_
  refine cF rfl ?_
  refine cSkip ?_
  refine kN (?_)
  refine hK2 _ _ ?_
  refine cSeq (fun K4 hK4 => ?_)
  refine cRgn [] trivial ?_
  refine sL (mv rfl) rfl ?_
  refine sL (nc rfl) rfl ?_
  refine sL (fa40_2 rfl) rfl ?_
  refine sL (ld rfl Try.underlying3 rfl (HF.box (mem_h) rfl)) rfl ?_
  refine sL (bSub rfl rfl) rfl ?_
  refine sL (nc rfl) rfl ?_
  refine sL (fa40_2 rfl) rfl ?_
  refine eS (oSt1 (l1 := [.int .i64 a0.f_addr, .bool a0.f_asks, .int .i64 (IntKind.i64.wrap (a0.f_left - 1)), .int .i64 a0.f_starts]) HF rfl rfl ti3 rfl rfl rfl) ?_
  rintro w1 HF1
  refine lEnd (K := fun _ _ => True) ?_
  refine kN (?_)
  refine hK4 _ _ ?_
  refine cSeq (fun K5 hK5 => ?_)
  refine cSeq (fun K6 hK6 => ?_)
  refine cRgn [] trivial ?_
  refine sL (mv rfl) rfl ?_
  refine sL (nc rfl) rfl ?_
  refine sL (fa40_2 rfl) rfl ?_
  refine sL (ld rfl Try.underlying3 rfl (HF1.box (mem_h) rfl)) rfl ?_
  refine sL (bGtr rfl rfl) rfl ?_
  refine lEnd (K := fun _ _ => True) ?_
  refine kN (?_)
  refine hK6 _ _ ?_
  by_cases c1 : 0 < (IntKind.i64.wrap (a0.f_left - 1))
  · replace H := itT c1 H
    refine cSet (i := 16) rfl (dT c1) ?_
    refine cT rfl ?_
    refine cSeq (fun K7 hK7 => ?_)
    refine cRgn [] trivial ?_
    refine sL (asg rfl) rfl ?_
    refine lEnd (K := fun _ _ => True) ?_
    refine kN (?_)
    refine hK7 _ _ ?_
    refine cRet ?_
    obtain rfl := Option.some.inj H
    refine kR (?_)
    refine ret1 rfl rfl ?_
    exact ⟨rfl, HF1⟩
  · replace H := itF c1 H
    refine cSet (i := 16) rfl (dF c1) ?_
    refine cF rfl ?_
    refine cSkip ?_
    refine kN (?_)
    refine hK5 _ _ ?_
    refine cSeq (fun K8 hK8 => ?_)
    refine cBlock ?_
    refine cSeq (fun K9 hK9 => ?_)
    refine cBlock ?_
    refine cSeq (fun K10 hK10 => ?_)
    refine cBlock ?_
    refine cSeq (fun K11 hK11 => ?_)
    refine cSeq (fun K12 hK12 => ?_)
    replace H := bnd H; obtain ⟨y1, H, Ho1⟩ := H
    refine cJoin (y := y1) (fun (s1 : Bool) a w => Env 56 [(0, .pointer (some ⟨g_a0, 0, none⟩)), (2, .bool false), (17, .bool s1)] a ∧ Fits z w (bk g_a0 40 [.int .i64 a0.f_addr, .bool a0.f_asks, .int .i64 (IntKind.i64.wrap (a0.f_left - 1)), .int .i64 a0.f_starts] :: F)) ?_ ?_
    · refine cRgn [(4, 22)] ⟨rfl, trivial⟩ ?_
      refine sL (mv rfl) rfl ?_
      refine sL (nc rfl) rfl ?_
      refine sL (fa40_1 rfl) rfl ?_
      refine sL (ld rfl Try.underlying4 rfl (HF1.box (mem_h) rfl)) rfl ?_
      refine sL (mv rfl) rfl ?_
      by_cases c3 : a0.f_asks = true
      · replace H := itT c3 H
        refine lSet (i := 22) rfl (vT c3) ?_
        refine sG rfl rfl (mv rfl) rfl ?_
        refine sG rfl rfl (nc rfl) rfl ?_
        refine sG rfl rfl (fa40_3 rfl) rfl ?_
        refine sG rfl rfl (ld rfl Try.underlying3 rfl (HF1.box (mem_h) rfl)) rfl ?_
        refine sG rfl rfl (bGtr rfl rfl) rfl ?_
        refine sL (pkT rfl rfl) rfl ?_
        refine sL (asg rfl) rfl ?_
        refine lEnd (K := fun _ _ => True) ?_
        refine kN (?_)
        exact ofEnv (fun a hE => ⟨_, (Option.some.inj H).symm, ⟨hE.keep (Keep.cons rfl (Keep.cons rfl (Keep.cons rfl (Keep.nil)))), HF1⟩⟩)
      · replace H := itF c3 H
        refine lSet (i := 22) rfl (vF c3) ?_
        refine sN rfl rfl rfl rfl ?_
        refine sN rfl rfl rfl rfl ?_
        refine sN rfl rfl rfl rfl ?_
        refine sN rfl rfl rfl rfl ?_
        refine sN rfl rfl rfl rfl ?_
        refine sL (pkF rfl rfl) rfl ?_
        refine sL (asg rfl) rfl ?_
        refine lEnd (K := fun _ _ => True) ?_
        refine kN (?_)
        exact ofEnv (fun a hE => ⟨_, (Option.some.inj H).symm, ⟨hE.keep (Keep.cons rfl (Keep.cons rfl (Keep.cons rfl (Keep.nil)))), HF1⟩⟩)
    · rintro s1 a w2 rfl ⟨hE, HF2⟩
      replace H := Ho1
      refine go_k hE ?_
      refine kN (?_)
      refine hK12 _ _ ?_
      by_cases c4 : s1 = true
      · replace H := itT c4 H
        refine cSet (i := 17) rfl (vT c4) ?_
        refine cT rfl ?_
        refine cExit ?_
        refine kX (jX (kN (?_)))
        refine hK10 _ _ ?_
        refine cRgn [] trivial ?_
        refine sL (mv rfl) rfl ?_
        refine sL (nc rfl) rfl ?_
        refine sL (fa40_3 rfl) rfl ?_
        refine sL (ld rfl Try.underlying3 rfl (HF2.box (mem_h) rfl)) rfl ?_
        refine sL (bSub rfl rfl) rfl ?_
        refine sL (nc rfl) rfl ?_
        refine sL (fa40_3 rfl) rfl ?_
        refine eS (oSt1 (l1 := [.int .i64 a0.f_addr, .bool a0.f_asks, .int .i64 (IntKind.i64.wrap (a0.f_left - 1)), .int .i64 (IntKind.i64.wrap (a0.f_starts - 1))]) HF2 rfl rfl ti3 rfl rfl rfl) ?_
        rintro w3 HF3
        refine lEnd (K := fun _ _ => True) ?_
        refine jN (kN (?_))
        refine hK9 _ _ ?_
        refine cSeq (fun K13 hK13 => ?_)
        refine cSeq (fun K14 hK14 => ?_)
        refine cRgn [] trivial ?_
        refine sL (mv rfl) rfl ?_
        refine sL (nc rfl) rfl ?_
        refine sL (fa40_2 rfl) rfl ?_
        refine eS (oSt1 (l1 := [.int .i64 a0.f_addr, .bool a0.f_asks, .int .i64 25, .int .i64 (IntKind.i64.wrap (a0.f_starts - 1))]) HF3 rfl rfl ti3 rfl rfl rfl) ?_
        rintro w4 HF4
        refine lEnd (K := fun _ _ => True) ?_
        refine kN (?_)
        refine hK14 _ _ ?_
        refine cSeq (fun K15 hK15 => ?_)
        refine cRgn [(4, 43)] ⟨rfl, trivial⟩ ?_
        refine sL (mv rfl) rfl ?_
        refine sL (nc rfl) rfl ?_
        refine sL (fa40_1 rfl) rfl ?_
        refine sL (ld rfl Try.underlying4 rfl (HF4.box (mem_h) rfl)) rfl ?_
        refine sL (mv rfl) rfl ?_
        by_cases c5 : a0.f_asks = true
        · replace H := itT c5 H
          refine lSet (i := 43) rfl (vT c5) ?_
          refine sG rfl rfl (mv rfl) rfl ?_
          refine sG rfl rfl (nc rfl) rfl ?_
          refine sG rfl rfl (fa40_3 rfl) rfl ?_
          refine sG rfl rfl (ld rfl Try.underlying3 rfl (HF4.box (mem_h) rfl)) rfl ?_
          refine sG rfl rfl (bGtr rfl rfl) rfl ?_
          refine sL (pkT rfl rfl) rfl ?_
          refine lEnd (K := fun _ _ => True) ?_
          refine kN (?_)
          refine hK15 _ _ ?_
          by_cases c6 : 0 < (IntKind.i64.wrap (a0.f_starts - 1))
          · replace H := itT c6 H
            refine cSet (i := 49) rfl (dT c6) ?_
            refine cT rfl ?_
            refine cRgn [] trivial ?_
            refine sL (mv rfl) rfl ?_
            refine sL (nc rfl) rfl ?_
            refine sL (fa40_2 rfl) rfl ?_
            refine eS (oSt1 (l1 := [.int .i64 a0.f_addr, .bool a0.f_asks, .int .i64 6, .int .i64 (IntKind.i64.wrap (a0.f_starts - 1))]) HF4 rfl rfl ti3 rfl rfl rfl) ?_
            rintro w5 HF5
            refine lEnd (K := fun _ _ => True) ?_
            refine kN (?_)
            refine hK13 _ _ ?_
            refine cExit ?_
            refine jX (kN (?_))
            refine hK8 _ _ ?_
            refine cSeq (fun K16 hK16 => ?_)
            refine cRgn [] trivial ?_
            refine sL (mv rfl) rfl ?_
            refine sL (nc rfl) rfl ?_
            refine sL (fa40_1 rfl) rfl ?_
            refine eS (oSt1 (l1 := [.int .i64 a0.f_addr, .bool true, .int .i64 6, .int .i64 (IntKind.i64.wrap (a0.f_starts - 1))]) HF5 rfl rfl ti4 rfl rfl rfl) ?_
            rintro w6 HF6
            refine lEnd (K := fun _ _ => True) ?_
            refine kN (?_)
            refine hK16 _ _ ?_
            refine cSeq (fun K17 hK17 => ?_)
            refine cRgn [] trivial ?_
            refine sL (asg rfl) rfl ?_
            refine lEnd (K := fun _ _ => True) ?_
            refine kN (?_)
            refine hK17 _ _ ?_
            refine cRet ?_
            obtain rfl := Option.some.inj H
            refine ret1 rfl rfl ?_
            exact ⟨rfl, HF6⟩
          · replace H := itF c6 H
            refine cSet (i := 49) rfl (dF c6) ?_
            refine cF rfl ?_
            refine cSkip ?_
            refine kN (?_)
            refine hK13 _ _ ?_
            refine cExit ?_
            refine jX (kN (?_))
            refine hK8 _ _ ?_
            refine cSeq (fun K18 hK18 => ?_)
            refine cRgn [] trivial ?_
            refine sL (mv rfl) rfl ?_
            refine sL (nc rfl) rfl ?_
            refine sL (fa40_1 rfl) rfl ?_
            refine eS (oSt1 (l1 := [.int .i64 a0.f_addr, .bool true, .int .i64 25, .int .i64 (IntKind.i64.wrap (a0.f_starts - 1))]) HF4 rfl rfl ti4 rfl rfl rfl) ?_
            rintro w7 HF7
            refine lEnd (K := fun _ _ => True) ?_
            refine kN (?_)
            refine hK18 _ _ ?_
            refine cSeq (fun K19 hK19 => ?_)
            refine cRgn [] trivial ?_
            refine sL (asg rfl) rfl ?_
            refine lEnd (K := fun _ _ => True) ?_
            refine kN (?_)
            refine hK19 _ _ ?_
            refine cRet ?_
            obtain rfl := Option.some.inj H
            refine ret1 rfl rfl ?_
            exact ⟨rfl, HF7⟩
        · replace H := itF c5 H
          refine lSet (i := 43) rfl (vF c5) ?_
          refine sN rfl rfl rfl rfl ?_
          refine sN rfl rfl rfl rfl ?_
          refine sN rfl rfl rfl rfl ?_
          refine sN rfl rfl rfl rfl ?_
          refine sN rfl rfl rfl rfl ?_
          refine sL (pkF rfl rfl) rfl ?_
          refine lEnd (K := fun _ _ => True) ?_
          refine kN (?_)
          refine hK15 _ _ ?_
          refine cF rfl ?_
          refine cSkip ?_
          refine kN (?_)
          refine hK13 _ _ ?_
          refine cExit ?_
          refine jX (kN (?_))
          refine hK8 _ _ ?_
          refine cSeq (fun K20 hK20 => ?_)
          refine cRgn [] trivial ?_
          refine sL (mv rfl) rfl ?_
          refine sL (nc rfl) rfl ?_
          refine sL (fa40_1 rfl) rfl ?_
          refine eS (oSt1 (l1 := [.int .i64 a0.f_addr, .bool true, .int .i64 25, .int .i64 (IntKind.i64.wrap (a0.f_starts - 1))]) HF4 rfl rfl ti4 rfl rfl rfl) ?_
          rintro w8 HF8
          refine lEnd (K := fun _ _ => True) ?_
          refine kN (?_)
          refine hK20 _ _ ?_
          refine cSeq (fun K21 hK21 => ?_)
          refine cRgn [] trivial ?_
          refine sL (asg rfl) rfl ?_
          refine lEnd (K := fun _ _ => True) ?_
          refine kN (?_)
          refine hK21 _ _ ?_
          refine cRet ?_
          obtain rfl := Option.some.inj H
          refine ret1 rfl rfl ?_
          exact ⟨rfl, HF8⟩
      · replace H := itF c4 H
        refine cSet (i := 17) rfl (vF c4) ?_
        refine cF rfl ?_
        refine cSkip ?_
        refine kN (?_)
        refine hK11 _ _ ?_
        refine cExit ?_
        refine jY rfl (kX (jX (kN (?_))))
        refine hK9 _ _ ?_
        refine cSeq (fun K22 hK22 => ?_)
        refine cSeq (fun K23 hK23 => ?_)
        refine cRgn [] trivial ?_
        refine sL (mv rfl) rfl ?_
        refine sL (nc rfl) rfl ?_
        refine sL (fa40_2 rfl) rfl ?_
        refine eS (oSt1 (l1 := [.int .i64 a0.f_addr, .bool a0.f_asks, .int .i64 25, .int .i64 a0.f_starts]) HF2 rfl rfl ti3 rfl rfl rfl) ?_
        rintro w9 HF9
        refine lEnd (K := fun _ _ => True) ?_
        refine kN (?_)
        refine hK23 _ _ ?_
        refine cSeq (fun K24 hK24 => ?_)
        refine cRgn [(4, 43)] ⟨rfl, trivial⟩ ?_
        refine sL (mv rfl) rfl ?_
        refine sL (nc rfl) rfl ?_
        refine sL (fa40_1 rfl) rfl ?_
        refine sL (ld rfl Try.underlying4 rfl (HF9.box (mem_h) rfl)) rfl ?_
        refine sL (mv rfl) rfl ?_
        by_cases c7 : a0.f_asks = true
        · replace H := itT c7 H
          refine lSet (i := 43) rfl (vT c7) ?_
          refine sG rfl rfl (mv rfl) rfl ?_
          refine sG rfl rfl (nc rfl) rfl ?_
          refine sG rfl rfl (fa40_3 rfl) rfl ?_
          refine sG rfl rfl (ld rfl Try.underlying3 rfl (HF9.box (mem_h) rfl)) rfl ?_
          refine sG rfl rfl (bGtr rfl rfl) rfl ?_
          refine sL (pkT rfl rfl) rfl ?_
          refine lEnd (K := fun _ _ => True) ?_
          refine kN (?_)
          refine hK24 _ _ ?_
          by_cases c8 : 0 < a0.f_starts
          · replace H := itT c8 H
            refine cSet (i := 49) rfl (dT c8) ?_
            refine cT rfl ?_
            refine cRgn [] trivial ?_
            refine sL (mv rfl) rfl ?_
            refine sL (nc rfl) rfl ?_
            refine sL (fa40_2 rfl) rfl ?_
            refine eS (oSt1 (l1 := [.int .i64 a0.f_addr, .bool a0.f_asks, .int .i64 6, .int .i64 a0.f_starts]) HF9 rfl rfl ti3 rfl rfl rfl) ?_
            rintro w10 HF10
            refine lEnd (K := fun _ _ => True) ?_
            refine kN (?_)
            refine hK22 _ _ ?_
            refine cExit ?_
            refine jX (kN (?_))
            refine hK8 _ _ ?_
            refine cSeq (fun K25 hK25 => ?_)
            refine cRgn [] trivial ?_
            refine sL (mv rfl) rfl ?_
            refine sL (nc rfl) rfl ?_
            refine sL (fa40_1 rfl) rfl ?_
            refine eS (oSt1 (l1 := [.int .i64 a0.f_addr, .bool true, .int .i64 6, .int .i64 a0.f_starts]) HF10 rfl rfl ti4 rfl rfl rfl) ?_
            rintro w11 HF11
            refine lEnd (K := fun _ _ => True) ?_
            refine kN (?_)
            refine hK25 _ _ ?_
            refine cSeq (fun K26 hK26 => ?_)
            refine cRgn [] trivial ?_
            refine sL (asg rfl) rfl ?_
            refine lEnd (K := fun _ _ => True) ?_
            refine kN (?_)
            refine hK26 _ _ ?_
            refine cRet ?_
            obtain rfl := Option.some.inj H
            refine ret1 rfl rfl ?_
            exact ⟨rfl, HF11⟩
          · replace H := itF c8 H
            refine cSet (i := 49) rfl (dF c8) ?_
            refine cF rfl ?_
            refine cSkip ?_
            refine kN (?_)
            refine hK22 _ _ ?_
            refine cExit ?_
            refine jX (kN (?_))
            refine hK8 _ _ ?_
            refine cSeq (fun K27 hK27 => ?_)
            refine cRgn [] trivial ?_
            refine sL (mv rfl) rfl ?_
            refine sL (nc rfl) rfl ?_
            refine sL (fa40_1 rfl) rfl ?_
            refine eS (oSt1 (l1 := [.int .i64 a0.f_addr, .bool true, .int .i64 25, .int .i64 a0.f_starts]) HF9 rfl rfl ti4 rfl rfl rfl) ?_
            rintro w12 HF12
            refine lEnd (K := fun _ _ => True) ?_
            refine kN (?_)
            refine hK27 _ _ ?_
            refine cSeq (fun K28 hK28 => ?_)
            refine cRgn [] trivial ?_
            refine sL (asg rfl) rfl ?_
            refine lEnd (K := fun _ _ => True) ?_
            refine kN (?_)
            refine hK28 _ _ ?_
            refine cRet ?_
            obtain rfl := Option.some.inj H
            refine ret1 rfl rfl ?_
            exact ⟨rfl, HF12⟩
        · replace H := itF c7 H
          refine lSet (i := 43) rfl (vF c7) ?_
          refine sN rfl rfl rfl rfl ?_
          refine sN rfl rfl rfl rfl ?_
          refine sN rfl rfl rfl rfl ?_
          refine sN rfl rfl rfl rfl ?_
          refine sN rfl rfl rfl rfl ?_
          refine sL (pkF rfl rfl) rfl ?_
          refine lEnd (K := fun _ _ => True) ?_
          refine kN (?_)
          refine hK24 _ _ ?_
          refine cF rfl ?_
          refine cSkip ?_
          refine kN (?_)
          refine hK22 _ _ ?_
          refine cExit ?_
          refine jX (kN (?_))
          refine hK8 _ _ ?_
          refine cSeq (fun K29 hK29 => ?_)
          refine cRgn [] trivial ?_
          refine sL (mv rfl) rfl ?_
          refine sL (nc rfl) rfl ?_
          refine sL (fa40_1 rfl) rfl ?_
          refine eS (oSt1 (l1 := [.int .i64 a0.f_addr, .bool true, .int .i64 25, .int .i64 a0.f_starts]) HF9 rfl rfl ti4 rfl rfl rfl) ?_
          rintro w13 HF13
          refine lEnd (K := fun _ _ => True) ?_
          refine kN (?_)
          refine hK29 _ _ ?_
          refine cSeq (fun K30 hK30 => ?_)
          refine cRgn [] trivial ?_
          refine sL (asg rfl) rfl ?_
          refine lEnd (K := fun _ _ => True) ?_
          refine kN (?_)
          refine hK30 _ _ ?_
          refine cRet ?_
          obtain rfl := Option.some.inj H
          refine ret1 rfl rfl ?_
          exact ⟨rfl, HF13⟩

/-! ### plenum/plenumlaw20.awake (function 10) -/
abbrev f_plenumlaw20_awake.R := Bool
noncomputable def f_plenumlaw20_awake : Option f_plenumlaw20_awake.R := ((f_query_New 5).bind fun t1 => ((f_query_Asker_Asks_obj t1).bind fun t2 => (if t2 = true then ((f_query_Asker_Tick_obj t1).bind fun (t3, t4, t5, t6) => some t3) else some false)))
set_option maxHeartbeats 1000000 in
theorem f_plenumlaw20_awake.ok {z w : World} {F : Hp} {r : f_plenumlaw20_awake.R} (H : f_plenumlaw20_awake = some r) (HF : Fits z w F) :
    Calls Try.prog 10 [].toArray w fun e w' => e = .returned (.bool r) ∧ Fits z w' F := by
  unfold f_plenumlaw20_awake at H
  refine enter0 Try.func10 rfl Try.ntmps10 rfl (E := []) rfl ?_
  refine cSeq (fun K1 hK1 => ?_)
  refine cRgn [] trivial ?_
  refine sL (asg rfl) rfl ?_
  refine lEnd (K := fun _ _ => True) ?_
  refine kN (?_)
  refine hK1 _ _ ?_
  refine cSeq (fun K2 hK2 => ?_)
  refine cRgn [] trivial ?_
  replace H := bnd H; obtain ⟨t1, J1, H⟩ := H
  refine eCall isf7 rfl rfl rfl (f_query_New.ok J1 HF) ?_
  rintro _ w1 ⟨g1, rfl, HF1⟩
  refine ⟨_, rfl, ?_⟩
  refine sL (asg rfl) rfl ?_
  refine lEnd (K := fun _ _ => True) ?_
  refine kN (?_)
  refine hK2 _ _ ?_
  refine cSeq (fun K3 hK3 => ?_)
  refine cRgn [(2, 5), (6, 9)] ⟨rfl, rfl, trivial⟩ ?_
  refine sL (mv rfl) rfl ?_
  refine sL (bPNeq0 rfl rfl Try.underlying23) rfl ?_
  refine sL (mv rfl) rfl ?_
  refine sG rfl rfl (mv rfl) rfl ?_
  replace H := bnd H; obtain ⟨t2, J2, H⟩ := H
  refine eCallG rfl rfl isf9 rfl rfl rfl (f_query_Asker_Asks_obj.ok (a0 := t1) J2 HF1) ?_
  rintro _ w2 ⟨rfl, HF2⟩
  refine ⟨_, rfl, ?_⟩
  refine sL (pkT rfl rfl) rfl ?_
  refine sL (mv rfl) rfl ?_
  by_cases c1 : t2 = true
  · replace H := itT c1 H
    refine lSet (i := 9) rfl (vT c1) ?_
    refine sG rfl rfl (mv rfl) rfl ?_
    replace H := bnd H; obtain ⟨⟨t3, t4, t5, t6⟩, J3, H⟩ := H
    refine eCallG rfl rfl isf8 rfl rfl rfl (f_query_Asker_Tick_obj.ok (a0 := t1) J3 HF2) ?_
    rintro _ w3 ⟨rfl, HF3⟩
    refine ⟨_, rfl, ?_⟩
    refine sL (pkT rfl rfl) rfl ?_
    refine sL (asg rfl) rfl ?_
    refine lEnd (K := fun _ _ => True) ?_
    refine kN (?_)
    refine hK3 _ _ ?_
    refine cRet ?_
    obtain rfl := Option.some.inj H
    refine ret1 rfl rfl ?_
    have HF4 := HF3.sublist (sl_dc (List.Sublist.refl _))
    exact ⟨rfl, HF4⟩
  · replace H := itF c1 H
    refine lSet (i := 9) rfl (vF c1) ?_
    refine sN rfl rfl rfl rfl ?_
    refine sN rfl rfl rfl rfl ?_
    refine sL (pkF rfl rfl) rfl ?_
    refine sL (asg rfl) rfl ?_
    refine lEnd (K := fun _ _ => True) ?_
    refine kN (?_)
    refine hK3 _ _ ?_
    refine cRet ?_
    obtain rfl := Option.some.inj H
    refine ret1 rfl rfl ?_
    have HF5 := HF2.sublist (sl_dc (List.Sublist.refl _))
    exact ⟨rfl, HF5⟩

/-! ### (*plenum/query.Asker).Tick (function 8) -/
abbrev f_query_Asker_Tick_nil.R := Bool
noncomputable def f_query_Asker_Tick_nil : Option f_query_Asker_Tick_nil.R := some false
set_option maxHeartbeats 1000000 in
theorem f_query_Asker_Tick_nil.ok {z w : World} {F : Hp} {r : f_query_Asker_Tick_nil.R} (H : f_query_Asker_Tick_nil = some r) (HF : Fits z w F) :
    Calls Try.prog 8 [.pointer none].toArray w fun e w' => e = .returned (.bool r) ∧ Fits z w' F := by
  unfold f_query_Asker_Tick_nil at H
  refine enter0 Try.func8 rfl Try.ntmps8 rfl (E := [(0, .pointer none)]) rfl ?_
  refine cSeq (fun K1 hK1 => ?_)
  refine cRgn [] trivial ?_
  refine sL (asg rfl) rfl ?_
  refine lEnd (K := fun _ _ => True) ?_
  refine kN (?_)
  refine hK1 _ _ ?_
  refine cSeq (fun K2 hK2 => ?_)
  refine cSeq (fun K3 hK3 => ?_)
  refine cRgn [] trivial ?_
  refine sL (mv rfl) rfl ?_
  refine sL (bPEql0 rfl rfl Try.underlying23) rfl ?_
  refine lEnd (K := fun _ _ => True) ?_
  refine kN (?_)
  refine hK3 _ _ ?_
  refine cT rfl ?_
  refine cSeq (fun K4 hK4 => ?_)
  refine cRgn [] trivial ?_
  refine sL (asg rfl) rfl ?_
  refine lEnd (K := fun _ _ => True) ?_
  refine kN (?_)
  refine hK4 _ _ ?_
  refine cRet ?_
  obtain rfl := Option.some.inj H
  refine kR (?_)
  refine ret1 rfl rfl ?_
  exact ⟨rfl, HF⟩

/-! ### (*plenum/query.Asker).Heard (function 12) -/
abbrev f_query_Asker_Heard_nil.R := Unit
noncomputable def f_query_Asker_Heard_nil (a1 : Int) : Option f_query_Asker_Heard_nil.R := some ()
set_option maxHeartbeats 1000000 in
theorem f_query_Asker_Heard_nil.ok {z w : World} {F : Hp} {a1 : Int} {r : f_query_Asker_Heard_nil.R} (H : f_query_Asker_Heard_nil a1 = some r) (HF : Fits z w F) :
    Calls Try.prog 12 [.pointer none, .int .i64 a1].toArray w fun e w' => e = .returned (.tuple #[]) ∧ Fits z w' F := by
  unfold f_query_Asker_Heard_nil at H
  refine enter0 Try.func12 rfl Try.ntmps12 rfl (E := [(0, .pointer none), (1, .int .i64 a1)]) rfl ?_
  refine cSeq (fun K1 hK1 => ?_)
  refine cRgn [(2, 6), (6, 10)] ⟨rfl, rfl, trivial⟩ ?_
  refine sL (mv rfl) rfl ?_
  refine sL (bPNeq0 rfl rfl Try.underlying23) rfl ?_
  refine sL (mv rfl) rfl ?_
  refine sN rfl rfl rfl rfl ?_
  refine sN rfl rfl rfl rfl ?_
  refine sL (pkF rfl rfl) rfl ?_
  refine sL (mv rfl) rfl ?_
  refine sN rfl rfl rfl rfl ?_
  refine sN rfl rfl rfl rfl ?_
  refine sN rfl rfl rfl rfl ?_
  refine sN rfl rfl rfl rfl ?_
  refine sN rfl rfl rfl rfl ?_
  refine sN rfl rfl rfl rfl ?_
  refine sL (pkF rfl rfl) rfl ?_
  refine lEnd (K := fun _ _ => True) ?_
  refine kN (?_)
  refine hK1 _ _ ?_
  refine cF rfl ?_
  refine cSkip ?_
  obtain rfl := Option.some.inj H
  refine end0 rfl ?_
  exact ⟨rfl, HF⟩

/-! ### (*plenum/query.Asker).Heard (function 12) -/
abbrev f_query_Asker_Heard_obj.R := Bool × Int
noncomputable def f_query_Asker_Heard_obj (a0 : T_query_Asker) (a1 : Int) : Option f_query_Asker_Heard_obj.R := (if 0 < a1 then (if a1 < a0.f_addr then some (false, 54) else some (a0.f_asks, a0.f_left)) else some (a0.f_asks, a0.f_left))
set_option maxHeartbeats 1000000 in
theorem f_query_Asker_Heard_obj.ok {z w : World} {F : Hp} {a0 : T_query_Asker} {g_a0 : Nat} {a1 : Int} {r : f_query_Asker_Heard_obj.R} (H : f_query_Asker_Heard_obj a0 a1 = some r) (HF : Fits z w (bk g_a0 40 [.int .i64 a0.f_addr, .bool a0.f_asks, .int .i64 a0.f_left, .int .i64 a0.f_starts] :: F)) :
    Calls Try.prog 12 [.pointer (some ⟨g_a0, 0, none⟩), .int .i64 a1].toArray w fun e w' => e = .returned (.tuple #[]) ∧ Fits z w' (bk g_a0 40 [.int .i64 a0.f_addr, .bool r.1, .int .i64 r.2, .int .i64 a0.f_starts] :: F) := by
  unfold f_query_Asker_Heard_obj at H
  refine enter0 Try.func12 rfl Try.ntmps12 rfl (E := [(0, .pointer (some ⟨g_a0, 0, none⟩)), (1, .int .i64 a1)]) rfl ?_
  refine cSeq (fun K1 hK1 => ?_)
  refine cRgn [(2, 6), (6, 10)] ⟨rfl, rfl, trivial⟩ ?_
  refine sL (mv rfl) rfl ?_
  refine sL (bPNeq0 rfl rfl Try.underlying23) rfl ?_
  refine sL (mv rfl) rfl ?_
  refine sG rfl rfl (mv rfl) rfl ?_
  refine sG rfl rfl (bGtr rfl rfl) rfl ?_
  refine sL (pkT rfl rfl) rfl ?_
  refine sL (mv rfl) rfl ?_
  by_cases c1 : 0 < a1
  · replace H := itT c1 H
    refine lSet (i := 10) rfl (dT c1) ?_
    refine sG rfl rfl (mv rfl) rfl ?_
    refine sG rfl rfl (mv rfl) rfl ?_
    refine sG rfl rfl (nc rfl) rfl ?_
    refine sG rfl rfl (fa40_0 rfl) rfl ?_
    refine sG rfl rfl (ld rfl Try.underlying3 rfl (HF.box (mem_h) rfl)) rfl ?_
    refine sG rfl rfl (bLss rfl rfl) rfl ?_
    refine sL (pkT rfl rfl) rfl ?_
    refine lEnd (K := fun _ _ => True) ?_
    refine kN (?_)
    refine hK1 _ _ ?_
    by_cases c2 : a1 < a0.f_addr
    · replace H := itT c2 H
      refine cSet (i := 17) rfl (dT c2) ?_
      refine cT rfl ?_
      refine cRgn [] trivial ?_
      refine sL (mv rfl) rfl ?_
      refine sL (mv rfl) rfl ?_
      refine sL (nc rfl) rfl ?_
      refine sL (fa40_1 rfl) rfl ?_
      refine eS (oSt1 (l1 := [.int .i64 a0.f_addr, .bool false, .int .i64 a0.f_left, .int .i64 a0.f_starts]) HF rfl rfl ti4 rfl rfl rfl) ?_
      rintro w1 HF1
      refine sL (nc rfl) rfl ?_
      refine sL (fa40_2 rfl) rfl ?_
      refine eS (oSt1 (l1 := [.int .i64 a0.f_addr, .bool false, .int .i64 54, .int .i64 a0.f_starts]) HF1 rfl rfl ti3 rfl rfl rfl) ?_
      rintro w2 HF2
      refine lEnd (K := fun _ _ => True) ?_
      obtain rfl := Option.some.inj H
      refine end0 rfl ?_
      exact ⟨rfl, HF2⟩
    · replace H := itF c2 H
      refine cSet (i := 17) rfl (dF c2) ?_
      refine cF rfl ?_
      refine cSkip ?_
      obtain rfl := Option.some.inj H
      refine end0 rfl ?_
      exact ⟨rfl, HF⟩
  · replace H := itF c1 H
    refine lSet (i := 10) rfl (dF c1) ?_
    refine sN rfl rfl rfl rfl ?_
    refine sN rfl rfl rfl rfl ?_
    refine sN rfl rfl rfl rfl ?_
    refine sN rfl rfl rfl rfl ?_
    refine sN rfl rfl rfl rfl ?_
    refine sN rfl rfl rfl rfl ?_
    refine sL (pkF rfl rfl) rfl ?_
    refine lEnd (K := fun _ _ => True) ?_
    refine kN (?_)
    refine hK1 _ _ ?_
    refine cF rfl ?_
    refine cSkip ?_
    obtain rfl := Option.some.inj H
    refine end0 rfl ?_
    exact ⟨rfl, HF⟩

/-! ### (*plenum/query.Asker).Asks (function 9) -/
abbrev f_query_Asker_Asks_nil.R := Bool
noncomputable def f_query_Asker_Asks_nil : Option f_query_Asker_Asks_nil.R := some false
set_option maxHeartbeats 1000000 in
theorem f_query_Asker_Asks_nil.ok {z w : World} {F : Hp} {r : f_query_Asker_Asks_nil.R} (H : f_query_Asker_Asks_nil = some r) (HF : Fits z w F) :
    Calls Try.prog 9 [.pointer none].toArray w fun e w' => e = .returned (.bool r) ∧ Fits z w' F := by
  unfold f_query_Asker_Asks_nil at H
  refine enter0 Try.func9 rfl Try.ntmps9 rfl (E := [(0, .pointer none)]) rfl ?_
  refine cSeq (fun K1 hK1 => ?_)
  refine cRgn [] trivial ?_
  refine sL (asg rfl) rfl ?_
  refine lEnd (K := fun _ _ => True) ?_
  refine kN (?_)
  refine hK1 _ _ ?_
  refine cSeq (fun K2 hK2 => ?_)
  refine cRgn [(2, 5)] ⟨rfl, trivial⟩ ?_
  refine sL (mv rfl) rfl ?_
  refine sL (bPNeq0 rfl rfl Try.underlying23) rfl ?_
  refine sL (mv rfl) rfl ?_
  refine sN rfl rfl rfl rfl ?_
  refine sN rfl rfl rfl rfl ?_
  refine sN rfl rfl rfl rfl ?_
  refine sN rfl rfl rfl rfl ?_
  refine sL (pkF rfl rfl) rfl ?_
  refine sL (asg rfl) rfl ?_
  refine lEnd (K := fun _ _ => True) ?_
  refine kN (?_)
  refine hK2 _ _ ?_
  refine cRet ?_
  obtain rfl := Option.some.inj H
  refine ret1 rfl rfl ?_
  exact ⟨rfl, HF⟩

/-! ### plenum/plenumlaw20.one (function 15) -/
abbrev f_plenumlaw20_one.R := Bool
noncomputable def f_plenumlaw20_one.b0 (a0 : List (Option T_query_Asker)) (a1 : Int) (a2 : Int) (s1 : Int) : Option (Sum (Int) (Sum (Int) f_plenumlaw20_one.R)) := (if s1 < (a0.length : Int) then (if s1 = a1 then some (.inl (IntKind.i64.wrap (s1 + 1))) else (if 0 ≤ s1 then (optE (rd a0 s1) (((f_query_Asker_Asks_nil).bind fun t5 => (if (t5 == (decide (s1 = a2))) = true then some (.inl (IntKind.i64.wrap (s1 + 1))) else some (.inr (.inr false))))) (fun x3 => ((f_query_Asker_Asks_obj x3).bind fun t6 => (if (t6 == (decide (s1 = a2))) = true then some (.inl (IntKind.i64.wrap (s1 + 1))) else some (.inr (.inr false)))))) else none)) else some (.inr (.inl s1)))
noncomputable def f_plenumlaw20_one (a0 : List (Option T_query_Asker)) (a1 : Int) (a2 : Int) : Option f_plenumlaw20_one.R := ((loopO (f_plenumlaw20_one.b0 a0 a1 a2) 0).bind fun y1 => match y1 with | .inl s1 => some true | .inr r_ => some r_)
set_option maxHeartbeats 1000000 in
theorem f_plenumlaw20_one.ok {z w : World} {F : Hp} {a0 : List (Option T_query_Asker)} {A_a0 : Option Addr} {c_a0 : Nat} {L_a0 : Hp} {a1 : Int} {a2 : Int} {r : f_plenumlaw20_one.R} (H : f_plenumlaw20_one a0 a1 a2 = some r) (HF : Fits z w (L_a0 ++ F)) (ho_a0 : OwnS (kPtr k_T_query_Asker 40) L_a0 A_a0 c_a0 a0) :
    Calls Try.prog 15 [.slice A_a0 a0.length c_a0, .int .i64 a1, .int .i64 a2].toArray w fun e w' => e = .returned (.bool r) ∧ Fits z w' (L_a0 ++ F) := by
  unfold f_plenumlaw20_one at H
  refine enter0 Try.func15 rfl Try.ntmps15 rfl (E := [(0, .slice A_a0 a0.length c_a0), (1, .int .i64 a1), (2, .int .i64 a2)]) rfl ?_
  refine cSeq (fun K1 hK1 => ?_)
  refine cRgn [] trivial ?_
  refine sL (asg rfl) rfl ?_
  refine lEnd (K := fun _ _ => True) ?_
  refine kN (?_)
  refine hK1 _ _ ?_
  refine cSeq (fun K2 hK2 => ?_)
  refine cSeq (fun K3 hK3 => ?_)
  refine cRgn [] trivial ?_
  refine sL (asg rfl) rfl ?_
  refine lEnd (K := fun _ _ => True) ?_
  refine kN (?_)
  refine hK3 _ _ ?_
  replace H := bnd H; obtain ⟨y1, J7, Ho1⟩ := H
  refine cLoopB (f_plenumlaw20_one.b0 a0 a1 a2) (fun (s1 : Int) a w => Env 28 [(0, .slice A_a0 a0.length c_a0), (1, .int .i64 a1), (2, .int .i64 a2), (6, .bool false), (7, .int .i64 s1)] a ∧ Fits z w (L_a0 ++ F)) J7 (fun a hE => ⟨hE.keep (Keep.cons rfl (Keep.cons rfl (Keep.cons rfl (Keep.cons rfl (Keep.cons rfl (Keep.nil)))))), HF⟩) ?_ ?_
  · rintro s1 a w5 y2 ⟨hE, HF25⟩ H Hx1
    refine go_ hE ?_
    refine cSeq (fun K16 hK16 => ?_)
    refine cSeq (fun K17 hK17 => ?_)
    refine cRgn [] trivial ?_
    refine sL (mv rfl) rfl ?_
    refine sL (mv rfl) rfl ?_
    refine sL (lnS rfl Try.underlying35) rfl ?_
    refine sL (bLss rfl rfl) rfl ?_
    refine lEnd (K := fun _ _ => True) ?_
    refine kN (?_)
    refine hK17 _ _ ?_
    by_cases c10 : s1 < (a0.length : Int)
    · replace H := itT c10 H
      refine cSet (i := 11) rfl (dT c10) ?_
      refine cT rfl ?_
      refine cSkip ?_
      refine kN (?_)
      refine hK16 _ _ ?_
      refine cSeq (fun K18 hK18 => ?_)
      refine cBlock ?_
      refine cSeq (fun K19 hK19 => ?_)
      refine cRgn [(3, 17)] ⟨rfl, trivial⟩ ?_
      refine sL (mv rfl) rfl ?_
      refine sL (mv rfl) rfl ?_
      refine sL (bNeq rfl rfl) rfl ?_
      refine sL (mv rfl) rfl ?_
      by_cases c11 : s1 = a1
      · replace H := itT c11 H
        refine lSet (i := 17) rfl (nF c11) ?_
        refine sN rfl rfl rfl rfl ?_
        refine sN rfl rfl rfl rfl ?_
        refine sN rfl rfl rfl rfl ?_
        refine sN rfl rfl rfl rfl ?_
        refine sN rfl rfl rfl rfl ?_
        refine sN rfl rfl rfl rfl ?_
        refine sN rfl rfl rfl rfl ?_
        refine sN rfl rfl rfl rfl ?_
        refine sN rfl rfl rfl rfl ?_
        refine sL (pkF rfl rfl) rfl ?_
        refine lEnd (K := fun _ _ => True) ?_
        refine kN (?_)
        refine hK19 _ _ ?_
        refine cF rfl ?_
        refine cSkip ?_
        refine jN (kN (?_))
        refine hK18 _ _ ?_
        refine cRgn [] trivial ?_
        refine sL (mv rfl) rfl ?_
        refine sL (bAdd rfl rfl) rfl ?_
        refine sL (asg rfl) rfl ?_
        refine lEnd (K := fun _ _ => True) ?_
        refine kN (?_)
        exact ofEnv (fun a hE => ⟨_, (Option.some.inj H).symm, ⟨hE.keep (Keep.cons rfl (Keep.cons rfl (Keep.cons rfl (Keep.cons rfl (Keep.cons rfl (Keep.nil)))))), HF25⟩⟩)
      · replace H := itF c11 H
        refine lSet (i := 17) rfl (nT c11) ?_
        refine sG rfl rfl (mv rfl) rfl ?_
        refine sG rfl rfl (mv rfl) rfl ?_
        replace H := chk H; obtain ⟨c12, H⟩ := H
        obtain ⟨g5, o3, _, rfl, _, q3⟩ := RdS.at_ ho_a0.rd c12 c10
        refine sG rfl rfl (ia rfl rfl Try.underlying35 ti23 c12 c10) rfl ?_
        rcases hx3 : rd a0 s1 with _ | x3
        · replace H := optN hx3 H
          refine sG rfl rfl (ld rfl Try.underlying23 rfl (OwnS.nilel ho_a0 c12 c10 hx3 HF25)) rfl ?_
          replace H := bnd H; obtain ⟨t5, J5, H⟩ := H
          refine eCallG rfl rfl isf9 rfl rfl rfl (f_query_Asker_Asks_nil.ok J5 HF25) ?_
          rintro _ w6 ⟨rfl, HF26⟩
          refine ⟨_, rfl, ?_⟩
          refine sG rfl rfl (mv rfl) rfl ?_
          refine sG rfl rfl (mv rfl) rfl ?_
          refine sG rfl rfl (bEql rfl rfl) rfl ?_
          refine sG rfl rfl (bBNeq rfl rfl Try.underlying4) rfl ?_
          refine sL (pkT rfl rfl) rfl ?_
          refine lEnd (K := fun _ _ => True) ?_
          refine kN (?_)
          refine hK19 _ _ ?_
          by_cases c13 : (t5 == (decide (s1 = a2))) = true
          · replace H := itT c13 H
            refine cSet (i := 27) rfl (wF c13) ?_
            refine cF rfl ?_
            refine cSkip ?_
            refine jN (kN (?_))
            refine hK18 _ _ ?_
            refine cRgn [] trivial ?_
            refine sL (mv rfl) rfl ?_
            refine sL (bAdd rfl rfl) rfl ?_
            refine sL (asg rfl) rfl ?_
            refine lEnd (K := fun _ _ => True) ?_
            refine kN (?_)
            exact ofEnv (fun a hE => ⟨_, (Option.some.inj H).symm, ⟨hE.keep (Keep.cons rfl (Keep.cons rfl (Keep.cons rfl (Keep.cons rfl (Keep.cons rfl (Keep.nil)))))), HF26⟩⟩)
          · replace H := itF c13 H
            refine cSet (i := 27) rfl (wT c13) ?_
            refine cT rfl ?_
            refine cSeq (fun K20 hK20 => ?_)
            refine cRgn [] trivial ?_
            refine sL (asg rfl) rfl ?_
            refine lEnd (K := fun _ _ => True) ?_
            refine kN (?_)
            refine hK20 _ _ ?_
            refine cRet ?_
            have e_ := Hx1 _ (Option.some.inj H).symm
            subst e_
            replace H := Ho1
            obtain rfl := Option.some.inj H
            refine jR (kR (kR (jR (kR (kR (?_))))))
            refine ret1 rfl rfl ?_
            exact ⟨rfl, HF26⟩
        · replace H := optS hx3 H
          obtain ⟨L7, L8, g6, l3, L9, hL3, ⟨rfl, rfl⟩, hc3, hb3⟩ := OwnS.foc ho_a0 c12 c10 hx3
          have HF27 := Fits.conv (L' := (L7 ++ (bk g6 40 [.int .i64 x3.f_addr, .bool x3.f_asks, .int .i64 x3.f_left, .int .i64 x3.f_starts] :: (L8 ++ F)))) HF25 (by rw [hL3]; simp only [List.append_assoc, List.cons_append, List.nil_append] <;> rfl)
          refine sG rfl rfl (ld rfl Try.underlying23 rfl (HF27.cells sub_h hc3)) rfl ?_
          have HF28 := HF27.perm (perm_f1 (List.Perm.refl _))
          replace H := bnd H; obtain ⟨t6, J6, H⟩ := H
          refine eCallG rfl rfl isf9 rfl rfl rfl (f_query_Asker_Asks_obj.ok (a0 := x3) J6 HF28) ?_
          rintro _ w7 ⟨rfl, HF29⟩
          refine ⟨_, rfl, ?_⟩
          refine sG rfl rfl (mv rfl) rfl ?_
          refine sG rfl rfl (mv rfl) rfl ?_
          refine sG rfl rfl (bEql rfl rfl) rfl ?_
          refine sG rfl rfl (bBNeq rfl rfl Try.underlying4) rfl ?_
          refine sL (pkT rfl rfl) rfl ?_
          refine lEnd (K := fun _ _ => True) ?_
          refine kN (?_)
          refine hK19 _ _ ?_
          by_cases c14 : (t6 == (decide (s1 = a2))) = true
          · replace H := itT c14 H
            refine cSet (i := 27) rfl (wF c14) ?_
            refine cF rfl ?_
            refine cSkip ?_
            refine jN (kN (?_))
            refine hK18 _ _ ?_
            refine cRgn [] trivial ?_
            refine sL (mv rfl) rfl ?_
            refine sL (bAdd rfl rfl) rfl ?_
            refine sL (asg rfl) rfl ?_
            refine lEnd (K := fun _ _ => True) ?_
            refine kN (?_)
            have HF30 := HF29.perm (perm_c (perm_f (List.Perm.refl _)))
            have HF31 := HF30.perm (perm_f1 (List.Perm.refl _))
            have HF32 := HF31.perm (perm_c (perm_f (List.Perm.refl _)))
            have HF33 := Fits.conv (L' := (L_a0 ++ F)) HF32 (by rw [hL3]; simp only [List.append_assoc, List.cons_append, List.nil_append] <;> rfl)
            exact ofEnv (fun a hE => ⟨_, (Option.some.inj H).symm, ⟨hE.keep (Keep.cons rfl (Keep.cons rfl (Keep.cons rfl (Keep.cons rfl (Keep.cons rfl (Keep.nil)))))), HF33⟩⟩)
          · replace H := itF c14 H
            refine cSet (i := 27) rfl (wT c14) ?_
            refine cT rfl ?_
            refine cSeq (fun K21 hK21 => ?_)
            refine cRgn [] trivial ?_
            refine sL (asg rfl) rfl ?_
            refine lEnd (K := fun _ _ => True) ?_
            refine kN (?_)
            refine hK21 _ _ ?_
            refine cRet ?_
            have HF34 := HF29.perm (perm_c (perm_f (List.Perm.refl _)))
            have HF35 := HF34.perm (perm_f1 (List.Perm.refl _))
            have HF36 := HF35.perm (perm_c (perm_f (List.Perm.refl _)))
            have HF37 := Fits.conv (L' := (L_a0 ++ F)) HF36 (by rw [hL3]; simp only [List.append_assoc, List.cons_append, List.nil_append] <;> rfl)
            have e_ := Hx1 _ (Option.some.inj H).symm
            subst e_
            replace H := Ho1
            obtain rfl := Option.some.inj H
            refine jR (kR (kR (jR (kR (kR (?_))))))
            refine ret1 rfl rfl ?_
            exact ⟨rfl, HF37⟩
    · replace H := itF c10 H
      refine cSet (i := 11) rfl (dF c10) ?_
      refine cF rfl ?_
      refine cExit ?_
      refine kX (kX (jX (kN (?_))))
      exact ofEnv (fun a hE => ⟨_, (Option.some.inj H).symm, ⟨hE.keep (Keep.cons rfl (Keep.cons rfl (Keep.cons rfl (Keep.cons rfl (Keep.cons rfl (Keep.nil)))))), HF25⟩⟩)
  · rintro s1 a w8 rfl ⟨hE, HF38⟩
    replace H := Ho1
    refine go_k hE ?_
    refine kN (?_)
    refine hK2 _ _ ?_
    refine cSeq (fun K22 hK22 => ?_)
    refine cRgn [] trivial ?_
    refine sL (asg rfl) rfl ?_
    refine lEnd (K := fun _ _ => True) ?_
    refine kN (?_)
    refine hK22 _ _ ?_
    refine cRet ?_
    obtain rfl := Option.some.inj H
    refine ret1 rfl rfl ?_
    exact ⟨rfl, HF38⟩

/-! ### plenum/plenumlaw20.QueryLowest (function 5) -/
abbrev f_plenumlaw20_QueryLowest.R := Bool
noncomputable def f_plenumlaw20_QueryLowest.b0 (a0 : List Int) (s2 : (List (Option T_query_Asker)) × (List Int) × Int) : Option (Sum ((List (Option T_query_Asker)) × (List Int) × Int) (Sum ((List (Option T_query_Asker)) × (List Int) × Int) f_plenumlaw20_QueryLowest.R)) := (if s2.2.2 < (a0.length : Int) then (if 0 ≤ s2.2.2 then (if (s2.2.1.length + 1) * 8 ≤ 140737488355328 then (if s2.2.2 < ((s2.2.1 ++ [IntKind.i64.wrap ((IntKind.i64.wrap (1 + (IntKind.i64.wrap (8 * (IntKind.i64.wrap (rd a0 s2.2.2)))))) + s2.2.2)]).length : Int) then ((f_query_New (rd (s2.2.1 ++ [IntKind.i64.wrap ((IntKind.i64.wrap (1 + (IntKind.i64.wrap (8 * (IntKind.i64.wrap (rd a0 s2.2.2)))))) + s2.2.2)]) s2.2.2)).bind fun t4 => (if (s2.1.length + 1) * 8 ≤ 140737488355328 then (if s2.2.2 < ((s2.1 ++ [(some t4)]).length : Int) then (optE (rd (s2.1 ++ [(some t4)]) s2.2.2) (some (.inr (.inr false))) (fun x3 => some (.inl ((s2.1 ++ [(some t4)]), (s2.2.1 ++ [IntKind.i64.wrap ((IntKind.i64.wrap (1 + (IntKind.i64.wrap (8 * (IntKind.i64.wrap (rd a0 s2.2.2)))))) + s2.2.2)]), IntKind.i64.wrap (s2.2.2 + 1))))) else none) else none)) else none) else none) else none) else some (.inr (.inl (s2.1, s2.2.1, s2.2.2))))
noncomputable def f_plenumlaw20_QueryLowest.b1 (s2 : (List (Option T_query_Asker)) × (List Int) × Int) (s3 : Int × Int) : Option (Sum (Int × Int) (Sum (Int × Int) f_plenumlaw20_QueryLowest.R)) := (if s3.2 < (s2.2.1.length : Int) then (if 0 ≤ s3.2 then (if 0 ≤ s3.1 then (if s3.1 < (s2.2.1.length : Int) then (if (rd s2.2.1 s3.2) < (rd s2.2.1 s3.1) then some (.inl (s3.2, IntKind.i64.wrap (s3.2 + 1))) else some (.inl (s3.1, IntKind.i64.wrap (s3.2 + 1)))) else none) else none) else none) else some (.inr (.inl (s3.1, s3.2))))
noncomputable def f_plenumlaw20_QueryLowest.b2 (s2 : (List (Option T_query_Asker)) × (List Int) × Int) (s36 : Int × (List (Option T_query_Asker))) (s38 : Int × (List (Option T_query_Asker))) : Option (Sum (Int × (List (Option T_query_Asker))) (Sum (Int × (List (Option T_query_Asker))) f_plenumlaw20_QueryLowest.R)) := (if s38.1 < (s38.2.length : Int) then (if s38.1 = s36.1 then some (.inl (IntKind.i64.wrap (s38.1 + 1), s38.2)) else (if 0 ≤ s38.1 then (if 0 ≤ s36.1 then (if s36.1 < (s2.2.1.length : Int) then (optE (rd s38.2 s38.1) (((f_query_Asker_Heard_nil (rd s2.2.1 s36.1)).bind fun _ => some (.inl (IntKind.i64.wrap (s38.1 + 1), s38.2)))) (fun x99 => ((f_query_Asker_Heard_obj x99 (rd s2.2.1 s36.1)).bind fun (t270, t271) => some (.inl (IntKind.i64.wrap (s38.1 + 1), setI s38.2 s38.1 (some (⟨x99.f_addr, t270, t271, x99.f_starts⟩ : T_query_Asker))))))) else none) else none) else none)) else some (.inr (.inl (s38.1, s38.2))))
noncomputable def f_plenumlaw20_QueryLowest.b3 (s2 : (List (Option T_query_Asker)) × (List Int) × Int) (s31 : Int) (s36 : Int × (List (Option T_query_Asker))) : Option (Sum (Int × (List (Option T_query_Asker))) (Sum (Int × (List (Option T_query_Asker))) f_plenumlaw20_QueryLowest.R)) := (if s36.1 < (s36.2.length : Int) then ((((if s36.1 = s31 then some (.inl (true, s36.2)) else (if 0 ≤ s36.1 then (optE (rd s36.2 s36.1) (((f_query_Asker_Tick_nil).bind fun t255 => some (.inl (!t255, s36.2)))) (fun x93 => ((f_query_Asker_Tick_obj x93).bind fun (t256, t257, t258, t259) => some (.inl (!t256, setI s36.2 s36.1 (some (⟨x93.f_addr, t257, t258, t259⟩ : T_query_Asker))))))) else none)) : Option (Sum (Bool × (List (Option T_query_Asker))) f_plenumlaw20_QueryLowest.R))).bind fun y55 => match y55 with | .inl s37 => (if s37.1 = true then some (.inl (IntKind.i64.wrap (s36.1 + 1), s37.2)) else ((loopO (f_plenumlaw20_QueryLowest.b2 s2 s36) (0, s37.2)).bind fun y56 => match y56 with | .inl s38 => some (.inl (IntKind.i64.wrap (s36.1 + 1), s38.2)) | .inr r_ => some (.inr (.inr r_)))) | .inr r_ => some (.inr (.inr r_))) else some (.inr (.inl (s36.1, s36.2))))
noncomputable def f_plenumlaw20_QueryLowest.b4 (a1 : Bool) (a2 : Int) (s2 : (List (Option T_query_Asker)) × (List Int) × Int) (s3 : Int × Int) (s29 : Int × Int × (List (Option T_query_Asker))) : Option (Sum (Int × Int × (List (Option T_query_Asker))) (Sum (Int × Int × (List (Option T_query_Asker))) f_plenumlaw20_QueryLowest.R)) := (if s29.2.1 ≤ (IntKind.i64.wrap (130 + (IntKind.i64.wrap a2))) then ((((if s29.2.1 = 60 then (if a1 = true then some (.inl (decide (1 < (s29.2.2.length : Int)))) else some (.inl false)) else some (.inl false)) : Option (Sum (Bool) f_plenumlaw20_QueryLowest.R))).bind fun y45 => match y45 with | .inl s30 => ((((if s30 = true then some (.inl s3.1) else some (.inl s29.1)) : Option (Sum (Int) f_plenumlaw20_QueryLowest.R))).bind fun y46 => match y46 with | .inl s31 => ((loopO (f_plenumlaw20_QueryLowest.b3 s2 s31) (0, s29.2.2)).bind fun y53 => match y53 with | .inl s36 => (if s29.2.1 < 60 then ((f_plenumlaw20_one s36.2 (-1) s3.1).bind fun t272 => (if t272 = true then some (.inl (s31, IntKind.i64.wrap (s29.2.1 + 1), s36.2)) else some (.inr (.inr false)))) else some (.inl (s31, IntKind.i64.wrap (s29.2.1 + 1), s36.2))) | .inr r_ => some (.inr (.inr r_))) | .inr r_ => some (.inr (.inr r_))) | .inr r_ => some (.inr (.inr r_))) else some (.inr (.inl (s29.1, s29.2.1, s29.2.2))))
noncomputable def f_plenumlaw20_QueryLowest.b5 (s2 : (List (Option T_query_Asker)) × (List Int) × Int) (s29 : Int × Int × (List (Option T_query_Asker))) (s40 : Int × Int) : Option (Sum (Int × Int) (Sum (Int × Int) f_plenumlaw20_QueryLowest.R)) := (if s40.2 < (s2.2.1.length : Int) then (if s40.2 = s29.1 then some (.inl (s40.1, IntKind.i64.wrap (s40.2 + 1))) else (if s40.1 < 0 then some (.inl (s40.2, IntKind.i64.wrap (s40.2 + 1))) else (if 0 ≤ s40.2 then (if 0 ≤ s40.1 then (if s40.1 < (s2.2.1.length : Int) then (if (rd s2.2.1 s40.2) < (rd s2.2.1 s40.1) then some (.inl (s40.2, IntKind.i64.wrap (s40.2 + 1))) else some (.inl (s40.1, IntKind.i64.wrap (s40.2 + 1)))) else none) else none) else none))) else some (.inr (.inl (s40.1, s40.2))))
noncomputable def f_plenumlaw20_QueryLowest (a0 : List Int) (a1 : Bool) (a2 : Int) : Option f_plenumlaw20_QueryLowest.R := ((((if (a0.length : Int) = 0 then some (.inl true) else some (.inl (decide (8 < (a0.length : Int))))) : Option (Sum (Bool) f_plenumlaw20_QueryLowest.R))).bind fun y1 => match y1 with | .inl s1 => (if s1 = true then ((f_plenumlaw20_awake).bind fun t1 => some t1) else ((loopO (f_plenumlaw20_QueryLowest.b0 a0) ([], [], 0)).bind fun y2 => match y2 with | .inl s2 => ((loopO (f_plenumlaw20_QueryLowest.b1 s2) (0, 0)).bind fun y4 => match y4 with | .inl s3 => ((loopO (f_plenumlaw20_QueryLowest.b4 a1 a2 s2 s3) ((-1), 1, s2.1)).bind fun y43 => match y43 with | .inl s29 => (if s29.1 < 0 then (((((f_plenumlaw20_one s29.2.2 (-1) s3.1).bind fun t275 => (if t275 = true then ((f_plenumlaw20_awake).bind fun t276 => some (.inl t276)) else some (.inl false))) : Option (Sum (Bool) f_plenumlaw20_QueryLowest.R))).bind fun y58 => match y58 with | .inl s39 => some s39 | .inr r_ => some r_) else ((loopO (f_plenumlaw20_QueryLowest.b5 s2 s29) ((-1), 0)).bind fun y59 => match y59 with | .inl s40 => ((f_plenumlaw20_one s29.2.2 s29.1 s40.1).bind fun t277 => (if t277 = true then ((f_plenumlaw20_awake).bind fun t278 => some t278) else some false)) | .inr r_ => some r_)) | .inr r_ => some r_) | .inr r_ => some r_) | .inr r_ => some r_)) | .inr r_ => some r_)
set_option maxHeartbeats 1000000 in
theorem f_plenumlaw20_QueryLowest.ok {z w : World} {F G : Hp} (hG : G ⊆ F) {a0 : List Int} {A_a0 : Option Addr} {c_a0 : Nat} {X_a0 : Hp} {a1 : Bool} {a2 : Int} {r : f_plenumlaw20_QueryLowest.R} (H : f_plenumlaw20_QueryLowest a0 a1 a2 = some r) (HF : Fits z w F) (hX_a0 : X_a0 ⊆ F) (hr_a0 : RdS (kInt .u8) X_a0 A_a0 c_a0 a0) :
    Calls Try.prog 5 [.slice A_a0 a0.length c_a0, .bool a1, .int .u8 a2].toArray w fun e w' => e = .returned (.bool r) ∧ Fits z w' F := by
  unfold f_plenumlaw20_QueryLowest at H
  refine enter0 Try.func5 rfl Try.ntmps5 rfl (E := [(0, .slice A_a0 a0.length c_a0), (1, .bool a1), (2, .int .u8 a2)]) rfl ?_
  refine cSeq (fun K1 hK1 => ?_)
  refine cRgn [] trivial ?_
  refine sL (asg rfl) rfl ?_
  refine lEnd (K := fun _ _ => True) ?_
  refine kN (?_)
  refine hK1 _ _ ?_
  refine cSeq (fun K2 hK2 => ?_)
  refine cSeq (fun K3 hK3 => ?_)
  replace H := bnd H; obtain ⟨y1, H, Ho1⟩ := H
  refine cJoin (y := y1) (fun (s1 : Bool) a w => Env 175 [(0, .slice A_a0 a0.length c_a0), (1, .bool a1), (2, .int .u8 a2), (6, .bool false), (25, .bool s1)] a ∧ Fits z w F) ?_ ?_
  · refine cRgn [(3, 21)] ⟨rfl, trivial⟩ ?_
    refine sL (mv rfl) rfl ?_
    refine sL (lnS rfl Try.underlying34) rfl ?_
    refine sL (bEql rfl rfl) rfl ?_
    refine sL (mv rfl) rfl ?_
    by_cases c2 : (a0.length : Int) = 0
    · replace H := itT c2 H
      refine lSet (i := 21) rfl (dT c2) ?_
      refine sN rfl rfl rfl rfl ?_
      refine sN rfl rfl rfl rfl ?_
      refine sN rfl rfl rfl rfl ?_
      refine sL (pkT rfl rfl) rfl ?_
      refine lEnd (K := fun _ _ => True) ?_
      refine kN (?_)
      exact ofEnv (fun a hE => ⟨_, (Option.some.inj H).symm, ⟨hE.keep (Keep.cons rfl (Keep.cons rfl (Keep.cons rfl (Keep.cons rfl (Keep.cons rfl (Keep.nil)))))), HF⟩⟩)
    · replace H := itF c2 H
      refine lSet (i := 21) rfl (dF c2) ?_
      refine sG rfl rfl (mv rfl) rfl ?_
      refine sG rfl rfl (lnS rfl Try.underlying34) rfl ?_
      refine sG rfl rfl (bGtr rfl rfl) rfl ?_
      refine sL (pkF rfl rfl) rfl ?_
      refine lEnd (K := fun _ _ => True) ?_
      refine kN (?_)
      exact ofEnv (fun a hE => ⟨_, (Option.some.inj H).symm, ⟨hE.keep (Keep.cons rfl (Keep.cons rfl (Keep.cons rfl (Keep.cons rfl (Keep.cons rfl (Keep.nil)))))), HF⟩⟩)
  · rintro s1 a w1 rfl ⟨hE, HF1⟩
    replace H := Ho1
    refine go_k hE ?_
    refine kN (?_)
    refine hK3 _ _ ?_
    by_cases c3 : s1 = true
    · replace H := itT c3 H
      refine cSet (i := 25) rfl (vT c3) ?_
      refine cT rfl ?_
      refine cSeq (fun K4 hK4 => ?_)
      refine cRgn [] trivial ?_
      replace H := bnd H; obtain ⟨t1, J1, H⟩ := H
      refine eCall isf10 rfl rfl rfl (f_plenumlaw20_awake.ok J1 HF1) ?_
      rintro _ w2 ⟨rfl, HF2⟩
      refine ⟨_, rfl, ?_⟩
      refine sL (asg rfl) rfl ?_
      refine lEnd (K := fun _ _ => True) ?_
      refine kN (?_)
      refine hK4 _ _ ?_
      refine cRet ?_
      obtain rfl := Option.some.inj H
      refine kR (?_)
      refine ret1 rfl rfl ?_
      exact ⟨rfl, HF2⟩
    · replace H := itF c3 H
      refine cSet (i := 25) rfl (vF c3) ?_
      refine cF rfl ?_
      refine cSkip ?_
      refine kN (?_)
      refine hK2 _ _ ?_
      refine cSeq (fun K5 hK5 => ?_)
      refine cRgn [] trivial ?_
      refine sL (asg rfl) rfl ?_
      refine lEnd (K := fun _ _ => True) ?_
      refine kN (?_)
      refine hK5 _ _ ?_
      refine cSeq (fun K6 hK6 => ?_)
      refine cRgn [] trivial ?_
      refine sL (asg rfl) rfl ?_
      refine lEnd (K := fun _ _ => True) ?_
      refine kN (?_)
      refine hK6 _ _ ?_
      refine cSeq (fun K7 hK7 => ?_)
      refine cSeq (fun K8 hK8 => ?_)
      refine cRgn [] trivial ?_
      refine sL (asg rfl) rfl ?_
      refine lEnd (K := fun _ _ => True) ?_
      refine kN (?_)
      refine hK8 _ _ ?_
      replace H := bnd H; obtain ⟨y2, J226, Ho2⟩ := H
      refine cLoopB (f_plenumlaw20_QueryLowest.b0 a0) (fun (s2 : (List (Option T_query_Asker)) × (List Int) × Int) a w => ∃ (A11 : Option Addr) (c23 : Nat) (L17 : Hp) (A12 : Option Addr) (c24 : Nat) (L18 : Hp), Env 175 [(0, .slice A_a0 a0.length c_a0), (1, .bool a1), (2, .int .u8 a2), (6, .bool false), (7, .slice A11 s2.1.length c23), (8, .slice A12 s2.2.1.length c24), (9, .int .i64 s2.2.2)] a ∧ Fits z w (L17 ++ (L18 ++ F)) ∧ OwnS (kPtr k_T_query_Asker 40) L17 A11 c23 s2.1 ∧ OwnS (kInt .i64) L18 A12 c24 s2.2.1) J226 (fun a hE => ⟨none, 0, [], none, 0, [], hE.keep (Keep.cons rfl (Keep.cons rfl (Keep.cons rfl (Keep.cons rfl (Keep.cons rfl (Keep.cons rfl (Keep.cons rfl (Keep.nil)))))))), HF1, OwnS.nil, OwnS.nil⟩) ?_ ?_
      · rintro s2 a w13 y3 ⟨A11, c23, L17, A12, c24, L18, hE, HF25, ho11, ho12⟩ H Hx1
        refine go_ hE ?_
        refine cSeq (fun K23 hK23 => ?_)
        refine cSeq (fun K24 hK24 => ?_)
        refine cRgn [] trivial ?_
        refine sL (mv rfl) rfl ?_
        refine sL (mv rfl) rfl ?_
        refine sL (lnS rfl Try.underlying34) rfl ?_
        refine sL (bLss rfl rfl) rfl ?_
        refine lEnd (K := fun _ _ => True) ?_
        refine kN (?_)
        refine hK24 _ _ ?_
        by_cases c25 : s2.2.2 < (a0.length : Int)
        · replace H := itT c25 H
          refine cSet (i := 30) rfl (dT c25) ?_
          refine cT rfl ?_
          refine cSkip ?_
          refine kN (?_)
          refine hK23 _ _ ?_
          refine cSeq (fun K25 hK25 => ?_)
          refine cBlock ?_
          refine cSeq (fun K26 hK26 => ?_)
          refine cRgn [] trivial ?_
          refine sL (mv rfl) rfl ?_
          refine sL (mv rfl) rfl ?_
          refine sL (mv rfl) rfl ?_
          replace H := chk H; obtain ⟨c26, H⟩ := H
          obtain ⟨g11, o7, _, rfl, rfl, q7⟩ := RdS.at_ hr_a0 c26 c25
          refine sL (ia rfl rfl Try.underlying34 ti5 c26 c25) rfl ?_
          refine sL (ld rfl Try.underlying5 rfl (HF25.cells ((sub_a (sub_a hX_a0))) (q7 0 _ rfl))) rfl ?_
          refine sL (cvI rfl Try.underlying5 Try.underlying3) rfl ?_
          refine sL (bMul rfl rfl) rfl ?_
          refine sL (bAdd rfl rfl) rfl ?_
          refine sL (mv rfl) rfl ?_
          refine sL (bAdd rfl rfl) rfl ?_
          refine eW (oLit (r := [.int .i64 (IntKind.i64.wrap ((IntKind.i64.wrap (1 + (IntKind.i64.wrap (8 * (IntKind.i64.wrap (rd a0 s2.2.2)))))) + s2.2.2))]) (kInt .i64) [IntKind.i64.wrap ((IntKind.i64.wrap (1 + (IntKind.i64.wrap (8 * (IntKind.i64.wrap (rd a0 s2.2.2)))))) + s2.2.2)] HF25 Try.underlying27 ti3 rfl rfl rfl rfl ⟨[], [], [.int .i64 (IntKind.i64.wrap ((IntKind.i64.wrap (1 + (IntKind.i64.wrap (8 * (IntKind.i64.wrap (rd a0 s2.2.2)))))) + s2.2.2))], _, rfl, rfl, ⟨rfl, rfl⟩, ⟨rfl, rfl⟩⟩ rfl rfl) rfl ?_
          rintro _ w14 ⟨L19, A13, c27, rfl, HF26, ho13⟩
          replace H := chk H; obtain ⟨c28, H⟩ := H
          have HF27 := HF26.perm (perm_f (perm_f (List.Perm.refl _)))
          refine eW (oApp (xs := s2.2.1) (ys := ([IntKind.i64.wrap ((IntKind.i64.wrap (1 + (IntKind.i64.wrap (8 * (IntKind.i64.wrap (rd a0 s2.2.2)))))) + s2.2.2)])) (kInt .i64) HF27 rfl rfl Try.underlying27 Try.underlying27 ti3 rfl ho12 (srcR shrF ho13.rd HF27 (sub_a sub_h)) c28 rfl) rfl ?_
          rintro _ w15 ⟨L20, A14, c29, rfl, HF28, ho14⟩
          refine sL (asg rfl) rfl ?_
          refine lEnd (K := fun _ _ => True) ?_
          refine kN (?_)
          refine hK26 _ _ ?_
          refine cSeq (fun K27 hK27 => ?_)
          refine cRgn [] trivial ?_
          refine sL (mv rfl) rfl ?_
          refine sL (mv rfl) rfl ?_
          refine sL (mv rfl) rfl ?_
          replace H := chk H; obtain ⟨c30, H⟩ := H
          obtain ⟨g12, o8, _, rfl, rfl, q8⟩ := RdS.at_ ho14.rd c26 c30
          refine sL (ia rfl rfl Try.underlying27 ti3 c26 c30) rfl ?_
          refine sL (ld rfl Try.underlying3 rfl (HF28.cells (sub_h) (q8 0 _ rfl))) rfl ?_
          replace H := bnd H; obtain ⟨t4, J4, H⟩ := H
          refine eCall isf7 rfl rfl rfl (f_query_New.ok J4 HF28) ?_
          rintro _ w16 ⟨g13, rfl, HF29⟩
          refine ⟨_, rfl, ?_⟩
          refine eW (oLitP (r := [.pointer (some ⟨g13, 0, none⟩)]) (Le := [bk g13 40 [.int .i64 t4.f_addr, .bool t4.f_asks, .int .i64 t4.f_left, .int .i64 t4.f_starts]]) (kPtr k_T_query_Asker 40) ([(some t4)] : List (Option T_query_Asker)) HF29 Try.underlying35 ti23 rfl rfl rfl rfl ⟨[bk g13 40 [.int .i64 t4.f_addr, .bool t4.f_asks, .int .i64 t4.f_left, .int .i64 t4.f_starts]], _, [.pointer (some ⟨g13, 0, none⟩)], _, rfl, rfl, ⟨g13, [.int .i64 t4.f_addr, .bool t4.f_asks, .int .i64 t4.f_left, .int .i64 t4.f_starts], [], rfl, rfl, ⟨rfl, rfl⟩⟩, ⟨rfl, rfl⟩⟩ rfl rfl) rfl ?_
          rintro _ w17 ⟨L21, A15, c31, rfl, HF30, ho15⟩
          replace H := chk H; obtain ⟨c32, H⟩ := H
          have HF31 := HF30.perm (perm_f (perm_f (perm_f (List.Perm.refl _))))
          refine eW (oAppP (xs := s2.1) (ys := ([(some t4)])) (kPtr k_T_query_Asker 40) HF31 rfl rfl Try.underlying35 Try.underlying35 ti23 rfl ho11 ho15 c32 rfl) rfl ?_
          rintro _ w18 ⟨L22, A16, c33, rfl, HF32, ho16⟩
          refine sL (asg rfl) rfl ?_
          refine lEnd (K := fun _ _ => True) ?_
          refine kN (?_)
          refine hK27 _ _ ?_
          refine cSeq (fun K28 hK28 => ?_)
          refine cRgn [] trivial ?_
          refine sL (mv rfl) rfl ?_
          refine sL (mv rfl) rfl ?_
          replace H := chk H; obtain ⟨c34, H⟩ := H
          obtain ⟨g14, o9, _, rfl, _, q9⟩ := RdS.at_ ho16.rd c26 c34
          refine sL (ia rfl rfl Try.underlying35 ti23 c26 c34) rfl ?_
          rcases hx3 : rd (s2.1 ++ [(some t4)]) s2.2.2 with _ | x3
          · replace H := optN hx3 H
            refine sL (ld rfl Try.underlying23 rfl (OwnS.nilel ho16 c26 c34 hx3 HF32)) rfl ?_
            refine sL (bPEql0 rfl rfl Try.underlying23) rfl ?_
            refine lEnd (K := fun _ _ => True) ?_
            refine kN (?_)
            refine hK28 _ _ ?_
            refine cT rfl ?_
            refine cSeq (fun K29 hK29 => ?_)
            refine cRgn [] trivial ?_
            refine sL (asg rfl) rfl ?_
            refine lEnd (K := fun _ _ => True) ?_
            refine kN (?_)
            refine hK29 _ _ ?_
            refine cRet ?_
            have e_ := Hx1 _ (Option.some.inj H).symm
            subst e_
            replace H := Ho2
            obtain rfl := Option.some.inj H
            refine jR (kR (kR (jR (kR (kR (?_))))))
            refine ret1 rfl rfl ?_
            have HF33 := HF32.sublist (sl_da (sl_da (sl_da (List.Sublist.refl _))))
            exact ⟨rfl, HF33⟩
          · replace H := optS hx3 H
            obtain ⟨L23, L24, g15, l3, L25, hL3, ⟨rfl, rfl⟩, hc3, hb3⟩ := OwnS.foc ho16 c26 c34 hx3
            have HF34 := Fits.conv (L' := (L23 ++ (bk g15 40 [.int .i64 x3.f_addr, .bool x3.f_asks, .int .i64 x3.f_left, .int .i64 x3.f_starts] :: (L24 ++ (L20 ++ (L19 ++ F)))))) HF32 (by rw [hL3]; simp only [List.append_assoc, List.cons_append, List.nil_append] <;> rfl)
            refine sL (ld rfl Try.underlying23 rfl (HF34.cells sub_h hc3)) rfl ?_
            refine sL (bPEql0 rfl rfl Try.underlying23) rfl ?_
            refine lEnd (K := fun _ _ => True) ?_
            refine kN (?_)
            refine hK28 _ _ ?_
            refine cF rfl ?_
            refine cSkip ?_
            refine jN (kN (?_))
            refine hK25 _ _ ?_
            refine cRgn [] trivial ?_
            refine sL (mv rfl) rfl ?_
            refine sL (bAdd rfl rfl) rfl ?_
            refine sL (asg rfl) rfl ?_
            refine lEnd (K := fun _ _ => True) ?_
            refine kN (?_)
            have HF35 := HF34.perm (perm_f (perm_c (List.Perm.refl _)))
            have HF36 := HF35.perm (perm_f1 (perm_f1 (List.Perm.refl _)))
            have HF37 := HF36.perm (perm_c (perm_f (List.Perm.refl _)))
            have HF38 := Fits.conv (L' := (L22 ++ (L20 ++ (L19 ++ F)))) HF37 (by rw [hL3]; simp only [List.append_assoc, List.cons_append, List.nil_append] <;> rfl)
            have HF39 := HF38.sublist (sl_a (sl_a (sl_da (List.Sublist.refl _))))
            exact ofEnv (fun a hE => ⟨_, (Option.some.inj H).symm, ⟨_, _, L22, _, _, L20, hE.keep (Keep.cons rfl (Keep.cons rfl (Keep.cons rfl (Keep.cons rfl (Keep.cons rfl (Keep.cons rfl (Keep.cons rfl (Keep.nil)))))))), HF39, ho16, ho14⟩⟩)
        · replace H := itF c25 H
          refine cSet (i := 30) rfl (dF c25) ?_
          refine cF rfl ?_
          refine cExit ?_
          refine kX (kX (jX (kN (?_))))
          exact ofEnv (fun a hE => ⟨_, (Option.some.inj H).symm, ⟨_, _, L17, _, _, L18, hE.keep (Keep.cons rfl (Keep.cons rfl (Keep.cons rfl (Keep.cons rfl (Keep.cons rfl (Keep.cons rfl (Keep.cons rfl (Keep.nil)))))))), HF25, ho11, ho12⟩⟩)
      · rintro s2 a w19 rfl ⟨A11, c23, L17, A12, c24, L18, hE, HF40, ho11, ho12⟩
        replace H := Ho2
        refine go_k hE ?_
        refine kN (?_)
        refine hK7 _ _ ?_
        refine cSeq (fun K30 hK30 => ?_)
        refine cRgn [] trivial ?_
        refine sL (asg rfl) rfl ?_
        refine lEnd (K := fun _ _ => True) ?_
        refine kN (?_)
        refine hK30 _ _ ?_
        refine cSeq (fun K31 hK31 => ?_)
        refine cSeq (fun K32 hK32 => ?_)
        refine cRgn [] trivial ?_
        refine sL (asg rfl) rfl ?_
        refine lEnd (K := fun _ _ => True) ?_
        refine kN (?_)
        refine hK32 _ _ ?_
        replace H := bnd H; obtain ⟨y4, J225, Ho3⟩ := H
        refine cLoopB (f_plenumlaw20_QueryLowest.b1 s2) (fun (s3 : Int × Int) a w => Env 175 [(1, .bool a1), (2, .int .u8 a2), (6, .bool false), (7, .slice A11 s2.1.length c23), (8, .slice A12 s2.2.1.length c24), (10, .int .i64 s3.1), (11, .int .i64 s3.2)] a ∧ Fits z w (L17 ++ (L18 ++ F))) J225 (fun a hE => ⟨hE.keep (Keep.cons rfl (Keep.cons rfl (Keep.cons rfl (Keep.cons rfl (Keep.cons rfl (Keep.cons rfl (Keep.cons rfl (Keep.nil)))))))), HF40⟩) ?_ ?_
        · rintro s3 a w23 y5 ⟨hE, HF44⟩ H Hx2
          refine go_ hE ?_
          refine cSeq (fun K45 hK45 => ?_)
          refine cSeq (fun K46 hK46 => ?_)
          refine cRgn [] trivial ?_
          refine sL (mv rfl) rfl ?_
          refine sL (mv rfl) rfl ?_
          refine sL (lnS rfl Try.underlying27) rfl ?_
          refine sL (bLss rfl rfl) rfl ?_
          refine lEnd (K := fun _ _ => True) ?_
          refine kN (?_)
          refine hK46 _ _ ?_
          by_cases c51 : s3.2 < (s2.2.1.length : Int)
          · replace H := itT c51 H
            refine cSet (i := 61) rfl (dT c51) ?_
            refine cT rfl ?_
            refine cSkip ?_
            refine kN (?_)
            refine hK45 _ _ ?_
            refine cSeq (fun K47 hK47 => ?_)
            refine cBlock ?_
            refine cSeq (fun K48 hK48 => ?_)
            refine cDraw mo_ HF44 rfl (fun w => Fits z w (L17 ++ (L18 ++ F))) (fun w24 HF45 => ?_)
            refine hTake 0 rfl (by kernel_rfl) (pThen (pBlock (pThen (pThen (pBlock (pThen (pThen pFn))))))) (fun w_ hS_ => mv rfl) HF45 rfl rfl ?_
            refine hTake 1 rfl (by kernel_rfl) (pThen (pBlock (pThen (pThen (pBlock (pThen (pThen pFn))))))) (fun w_ hS_ => mv rfl) HF45 rfl rfl ?_
            replace H := chk H; obtain ⟨c55, H⟩ := H
            obtain ⟨g23, o17, _, rfl, rfl, q24⟩ := RdS.at_ ho12.rd c55 c51
            refine hTake 2 rfl (by kernel_rfl) (pThen (pBlock (pThen (pThen (pBlock (pThen (pThen pFn))))))) (fun w_ hS_ => ia rfl rfl Try.underlying27 ti3 c55 c51) HF45 rfl rfl ?_
            refine hTake 3 rfl (by kernel_rfl) (pThen (pBlock (pThen (pThen (pBlock (pThen (pThen pFn))))))) (fun w_ hS_ => ld rfl Try.underlying3 rfl (hS_.cells ((sub_a sub_h)) (q24 0 _ rfl))) HF45 rfl rfl ?_
            refine hTake 4 rfl (by kernel_rfl) (pThen (pBlock (pThen (pThen (pBlock (pThen (pThen pFn))))))) (fun w_ hS_ => mv rfl) HF45 rfl rfl ?_
            refine hTake 5 rfl (by kernel_rfl) (pThen (pBlock (pThen (pThen (pBlock (pThen (pThen pFn))))))) (fun w_ hS_ => mv rfl) HF45 rfl rfl ?_
            replace H := chk H; obtain ⟨c56, H⟩ := H
            replace H := chk H; obtain ⟨c57, H⟩ := H
            obtain ⟨_, rfl, q25⟩ := RdS.at' ho12.rd c56 c57
            refine hTake 6 rfl (by kernel_rfl) (pThen (pBlock (pThen (pThen (pBlock (pThen (pThen pFn))))))) (fun w_ hS_ => ia rfl rfl Try.underlying27 ti3 c56 c57) HF45 rfl rfl ?_
            refine hTake 7 rfl (by kernel_rfl) (pThen (pBlock (pThen (pThen (pBlock (pThen (pThen pFn))))))) (fun w_ hS_ => ld rfl Try.underlying3 rfl (hS_.cells ((sub_a sub_h)) (q25 0 _ rfl))) HF45 rfl rfl ?_
            refine hTake 8 rfl (by kernel_rfl) (pThen (pBlock (pThen (pThen (pBlock (pThen (pThen pFn))))))) (fun w_ hS_ => bLss rfl rfl) HF45 rfl rfl ?_
            refine hEnd (by kernel_rfl) ?_
            refine kN (?_)
            refine hK48 _ _ ?_
            by_cases c58 : (rd s2.2.1 s3.2) < (rd s2.2.1 s3.1)
            · replace H := itT c58 H
              refine cSet (i := 72) rfl (dT c58) ?_
              refine cT rfl ?_
              refine cRgn [] trivial ?_
              refine sL (mv rfl) rfl ?_
              refine sL (asg rfl) rfl ?_
              refine lEnd (K := fun _ _ => True) ?_
              refine jN (kN (?_))
              refine hK47 _ _ ?_
              refine cRgn [] trivial ?_
              refine sL (mv rfl) rfl ?_
              refine sL (bAdd rfl rfl) rfl ?_
              refine sL (asg rfl) rfl ?_
              refine lEnd (K := fun _ _ => True) ?_
              refine kN (?_)
              exact ofEnv (fun a hE => ⟨_, (Option.some.inj H).symm, ⟨hE.keep (Keep.cons rfl (Keep.cons rfl (Keep.cons rfl (Keep.cons rfl (Keep.cons rfl (Keep.cons rfl (Keep.cons rfl (Keep.nil)))))))), HF45⟩⟩)
            · replace H := itF c58 H
              refine cSet (i := 72) rfl (dF c58) ?_
              refine cF rfl ?_
              refine cSkip ?_
              refine jN (kN (?_))
              refine hK47 _ _ ?_
              refine cRgn [] trivial ?_
              refine sL (mv rfl) rfl ?_
              refine sL (bAdd rfl rfl) rfl ?_
              refine sL (asg rfl) rfl ?_
              refine lEnd (K := fun _ _ => True) ?_
              refine kN (?_)
              exact ofEnv (fun a hE => ⟨_, (Option.some.inj H).symm, ⟨hE.keep (Keep.cons rfl (Keep.cons rfl (Keep.cons rfl (Keep.cons rfl (Keep.cons rfl (Keep.cons rfl (Keep.cons rfl (Keep.nil)))))))), HF45⟩⟩)
          · replace H := itF c51 H
            refine cSet (i := 61) rfl (dF c51) ?_
            refine cF rfl ?_
            refine cExit ?_
            refine kX (kX (jX (kN (?_))))
            exact ofEnv (fun a hE => ⟨_, (Option.some.inj H).symm, ⟨hE.keep (Keep.cons rfl (Keep.cons rfl (Keep.cons rfl (Keep.cons rfl (Keep.cons rfl (Keep.cons rfl (Keep.cons rfl (Keep.nil)))))))), HF44⟩⟩)
        · rintro s3 a w25 rfl ⟨hE, HF46⟩
          replace H := Ho3
          refine go_k hE ?_
          refine kN (?_)
          refine hK31 _ _ ?_
          refine cSeq (fun K49 hK49 => ?_)
          refine cRgn [] trivial ?_
          refine sL (asg rfl) rfl ?_
          refine lEnd (K := fun _ _ => True) ?_
          refine kN (?_)
          refine hK49 _ _ ?_
          refine cSeq (fun K50 hK50 => ?_)
          refine cSeq (fun K51 hK51 => ?_)
          refine cRgn [] trivial ?_
          refine sL (asg rfl) rfl ?_
          refine lEnd (K := fun _ _ => True) ?_
          refine kN (?_)
          refine hK51 _ _ ?_
          replace H := bnd H; obtain ⟨y43, J224, Ho29⟩ := H
          refine cLoopB (f_plenumlaw20_QueryLowest.b4 a1 a2 s2 s3) (fun (s29 : Int × Int × (List (Option T_query_Asker))) a w => ∃ (L304 : Hp), Env 175 [(1, .bool a1), (2, .int .u8 a2), (6, .bool false), (7, .slice A11 s29.2.2.length c23), (8, .slice A12 s2.2.1.length c24), (10, .int .i64 s3.1), (12, .int .i64 s29.1), (13, .int .i64 s29.2.1)] a ∧ Fits z w (L304 ++ (L18 ++ F)) ∧ OwnS (kPtr k_T_query_Asker 40) L304 A11 c23 s29.2.2) J224 (fun a hE => ⟨L17, hE.keep (Keep.cons rfl (Keep.cons rfl (Keep.cons rfl (Keep.cons rfl (Keep.cons rfl (Keep.cons rfl (Keep.cons rfl (Keep.cons rfl (Keep.nil))))))))), HF46, ho11⟩) ?_ ?_
          · rintro s29 a w237 y44 ⟨L304, hE, HF591, ho79⟩ H Hx15
            refine go_ hE ?_
            refine cSeq (fun K253 hK253 => ?_)
            refine cSeq (fun K254 hK254 => ?_)
            refine cRgn [] trivial ?_
            refine sL (mv rfl) rfl ?_
            refine sL (mv rfl) rfl ?_
            refine sL (cvI rfl Try.underlying5 Try.underlying3) rfl ?_
            refine sL (bAdd rfl rfl) rfl ?_
            refine sL (bLeq rfl rfl) rfl ?_
            refine lEnd (K := fun _ _ => True) ?_
            refine kN (?_)
            refine hK254 _ _ ?_
            by_cases c308 : s29.2.1 ≤ (IntKind.i64.wrap (130 + (IntKind.i64.wrap a2)))
            · replace H := itT c308 H
              refine cSet (i := 78) rfl (dT c308) ?_
              refine cT rfl ?_
              refine cSkip ?_
              refine kN (?_)
              refine hK253 _ _ ?_
              refine cSeq (fun K255 hK255 => ?_)
              refine cBlock ?_
              refine cSeq (fun K256 hK256 => ?_)
              refine cSeq (fun K257 hK257 => ?_)
              replace H := bnd H; obtain ⟨y45, H, Ho30⟩ := H
              refine cJoin (y := y45) (fun (s30 : Bool) a w => Env 175 [(1, .bool a1), (2, .int .u8 a2), (6, .bool false), (7, .slice A11 s29.2.2.length c23), (8, .slice A12 s2.2.1.length c24), (10, .int .i64 s3.1), (12, .int .i64 s29.1), (13, .int .i64 s29.2.1), (90, .bool s30)] a ∧ Fits z w (L304 ++ (L18 ++ F))) ?_ ?_
              · refine cRgn [(2, 83), (5, 86)] ⟨rfl, rfl, trivial⟩ ?_
                refine sL (mv rfl) rfl ?_
                refine sL (bEql rfl rfl) rfl ?_
                refine sL (mv rfl) rfl ?_
                by_cases c311 : s29.2.1 = 60
                · replace H := itT c311 H
                  refine lSet (i := 83) rfl (dT c311) ?_
                  refine sG rfl rfl (mv rfl) rfl ?_
                  refine sL (pkT rfl rfl) rfl ?_
                  refine sL (mv rfl) rfl ?_
                  by_cases c312 : a1 = true
                  · replace H := itT c312 H
                    refine lSet (i := 86) rfl (vT c312) ?_
                    refine sG rfl rfl (mv rfl) rfl ?_
                    refine sG rfl rfl (lnS rfl Try.underlying35) rfl ?_
                    refine sG rfl rfl (bGtr rfl rfl) rfl ?_
                    refine sL (pkT rfl rfl) rfl ?_
                    refine lEnd (K := fun _ _ => True) ?_
                    refine kN (?_)
                    exact ofEnv (fun a hE => ⟨_, (Option.some.inj H).symm, ⟨hE.keep (Keep.cons rfl (Keep.cons rfl (Keep.cons rfl (Keep.cons rfl (Keep.cons rfl (Keep.cons rfl (Keep.cons rfl (Keep.cons rfl (Keep.cons rfl (Keep.nil)))))))))), HF591⟩⟩)
                  · replace H := itF c312 H
                    refine lSet (i := 86) rfl (vF c312) ?_
                    refine sN rfl rfl rfl rfl ?_
                    refine sN rfl rfl rfl rfl ?_
                    refine sN rfl rfl rfl rfl ?_
                    refine sL (pkF rfl rfl) rfl ?_
                    refine lEnd (K := fun _ _ => True) ?_
                    refine kN (?_)
                    exact ofEnv (fun a hE => ⟨_, (Option.some.inj H).symm, ⟨hE.keep (Keep.cons rfl (Keep.cons rfl (Keep.cons rfl (Keep.cons rfl (Keep.cons rfl (Keep.cons rfl (Keep.cons rfl (Keep.cons rfl (Keep.cons rfl (Keep.nil)))))))))), HF591⟩⟩)
                · replace H := itF c311 H
                  refine lSet (i := 83) rfl (dF c311) ?_
                  refine sN rfl rfl rfl rfl ?_
                  refine sL (pkF rfl rfl) rfl ?_
                  refine sL (mv rfl) rfl ?_
                  refine sN rfl rfl rfl rfl ?_
                  refine sN rfl rfl rfl rfl ?_
                  refine sN rfl rfl rfl rfl ?_
                  refine sL (pkF rfl rfl) rfl ?_
                  refine lEnd (K := fun _ _ => True) ?_
                  refine kN (?_)
                  exact ofEnv (fun a hE => ⟨_, (Option.some.inj H).symm, ⟨hE.keep (Keep.cons rfl (Keep.cons rfl (Keep.cons rfl (Keep.cons rfl (Keep.cons rfl (Keep.cons rfl (Keep.cons rfl (Keep.cons rfl (Keep.cons rfl (Keep.nil)))))))))), HF591⟩⟩)
              · rintro s30 a w238 rfl ⟨hE, HF592⟩
                replace H := Ho30
                refine go_k hE ?_
                refine kN (?_)
                refine hK257 _ _ ?_
                replace H := bnd H; obtain ⟨y46, H, Ho31⟩ := H
                refine cJoin (y := y46) (fun (s31 : Int) a w => Env 175 [(1, .bool a1), (2, .int .u8 a2), (6, .bool false), (7, .slice A11 s29.2.2.length c23), (8, .slice A12 s2.2.1.length c24), (10, .int .i64 s3.1), (12, .int .i64 s31), (13, .int .i64 s29.2.1)] a ∧ Fits z w (L304 ++ (L18 ++ F))) ?_ ?_
                · by_cases c314 : s30 = true
                  · replace H := itT c314 H
                    refine cSet (i := 90) rfl (vT c314) ?_
                    refine cT rfl ?_
                    refine cRgn [] trivial ?_
                    refine sL (mv rfl) rfl ?_
                    refine sL (asg rfl) rfl ?_
                    refine lEnd (K := fun _ _ => True) ?_
                    refine kN (?_)
                    exact ofEnv (fun a hE => ⟨_, (Option.some.inj H).symm, ⟨hE.keep (Keep.cons rfl (Keep.cons rfl (Keep.cons rfl (Keep.cons rfl (Keep.cons rfl (Keep.cons rfl (Keep.cons rfl (Keep.cons rfl (Keep.nil))))))))), HF592⟩⟩)
                  · replace H := itF c314 H
                    refine cSet (i := 90) rfl (vF c314) ?_
                    refine cF rfl ?_
                    refine cSkip ?_
                    refine kN (?_)
                    exact ofEnv (fun a hE => ⟨_, (Option.some.inj H).symm, ⟨hE.keep (Keep.cons rfl (Keep.cons rfl (Keep.cons rfl (Keep.cons rfl (Keep.cons rfl (Keep.cons rfl (Keep.cons rfl (Keep.cons rfl (Keep.nil))))))))), HF592⟩⟩)
                · rintro s31 a w239 rfl ⟨hE, HF593⟩
                  replace H := Ho31
                  refine go_k hE ?_
                  refine kN (?_)
                  refine hK256 _ _ ?_
                  refine cSeq (fun K258 hK258 => ?_)
                  refine cSeq (fun K259 hK259 => ?_)
                  refine cRgn [] trivial ?_
                  refine sL (asg rfl) rfl ?_
                  refine lEnd (K := fun _ _ => True) ?_
                  refine kN (?_)
                  refine hK259 _ _ ?_
                  replace H := bnd H; obtain ⟨y53, J216, Ho36⟩ := H
                  refine cLoopB (f_plenumlaw20_QueryLowest.b3 s2 s31) (fun (s36 : Int × (List (Option T_query_Asker))) a w => ∃ (L366 : Hp), Env 175 [(1, .bool a1), (2, .int .u8 a2), (6, .bool false), (7, .slice A11 s36.2.length c23), (8, .slice A12 s2.2.1.length c24), (10, .int .i64 s3.1), (12, .int .i64 s31), (13, .int .i64 s29.2.1), (14, .int .i64 s36.1)] a ∧ Fits z w (L366 ++ (L18 ++ F)) ∧ OwnS (kPtr k_T_query_Asker 40) L366 A11 c23 s36.2) J216 (fun a hE => ⟨L304, hE.keep (Keep.cons rfl (Keep.cons rfl (Keep.cons rfl (Keep.cons rfl (Keep.cons rfl (Keep.cons rfl (Keep.cons rfl (Keep.cons rfl (Keep.cons rfl (Keep.nil)))))))))), HF593, ho79⟩) ?_ ?_
                  · rintro s36 a w284 y54 ⟨L366, hE, HF712, ho93⟩ H Hx18
                    refine go_ hE ?_
                    refine cSeq (fun K300 hK300 => ?_)
                    refine cSeq (fun K301 hK301 => ?_)
                    refine cRgn [] trivial ?_
                    refine sL (mv rfl) rfl ?_
                    refine sL (mv rfl) rfl ?_
                    refine sL (lnS rfl Try.underlying35) rfl ?_
                    refine sL (bLss rfl rfl) rfl ?_
                    refine lEnd (K := fun _ _ => True) ?_
                    refine kN (?_)
                    refine hK301 _ _ ?_
                    by_cases c364 : s36.1 < (s36.2.length : Int)
                    · replace H := itT c364 H
                      refine cSet (i := 95) rfl (dT c364) ?_
                      refine cT rfl ?_
                      refine cSkip ?_
                      refine kN (?_)
                      refine hK300 _ _ ?_
                      refine cSeq (fun K302 hK302 => ?_)
                      refine cBlock ?_
                      refine cSeq (fun K303 hK303 => ?_)
                      refine cSeq (fun K304 hK304 => ?_)
                      replace H := bnd H; obtain ⟨y55, H, Ho37⟩ := H
                      refine cJoin (y := y55) (fun (s37 : Bool × (List (Option T_query_Asker))) a w => ∃ (L371 : Hp), Env 175 [(1, .bool a1), (2, .int .u8 a2), (6, .bool false), (7, .slice A11 s37.2.length c23), (8, .slice A12 s2.2.1.length c24), (10, .int .i64 s3.1), (12, .int .i64 s31), (13, .int .i64 s29.2.1), (14, .int .i64 s36.1), (108, .bool s37.1)] a ∧ Fits z w (L371 ++ (L18 ++ F)) ∧ OwnS (kPtr k_T_query_Asker 40) L371 A11 c23 s37.2) ?_ ?_
                      · refine cRgn [(3, 101)] ⟨rfl, trivial⟩ ?_
                        refine sL (mv rfl) rfl ?_
                        refine sL (mv rfl) rfl ?_
                        refine sL (bEql rfl rfl) rfl ?_
                        refine sL (mv rfl) rfl ?_
                        by_cases c367 : s36.1 = s31
                        · replace H := itT c367 H
                          refine lSet (i := 101) rfl (dT c367) ?_
                          refine sN rfl rfl rfl rfl ?_
                          refine sN rfl rfl rfl rfl ?_
                          refine sN rfl rfl rfl rfl ?_
                          refine sN rfl rfl rfl rfl ?_
                          refine sN rfl rfl rfl rfl ?_
                          refine sN rfl rfl rfl rfl ?_
                          refine sL (pkT rfl rfl) rfl ?_
                          refine lEnd (K := fun _ _ => True) ?_
                          refine kN (?_)
                          exact ofEnv (fun a hE => ⟨_, (Option.some.inj H).symm, ⟨L366, hE.keep (Keep.cons rfl (Keep.cons rfl (Keep.cons rfl (Keep.cons rfl (Keep.cons rfl (Keep.cons rfl (Keep.cons rfl (Keep.cons rfl (Keep.cons rfl (Keep.cons rfl (Keep.nil))))))))))), HF712, ho93⟩⟩)
                        · replace H := itF c367 H
                          refine lSet (i := 101) rfl (dF c367) ?_
                          refine sG rfl rfl (mv rfl) rfl ?_
                          refine sG rfl rfl (mv rfl) rfl ?_
                          replace H := chk H; obtain ⟨c368, H⟩ := H
                          obtain ⟨g268, o173, _, rfl, _, q181⟩ := RdS.at_ ho93.rd c368 c364
                          refine sG rfl rfl (ia rfl rfl Try.underlying35 ti23 c368 c364) rfl ?_
                          rcases hx93 : rd s36.2 s36.1 with _ | x93
                          · replace H := optN hx93 H
                            refine sG rfl rfl (ld rfl Try.underlying23 rfl (OwnS.nilel ho93 c368 c364 hx93 HF712)) rfl ?_
                            replace H := bnd H; obtain ⟨t255, J200, H⟩ := H
                            refine eCallG rfl rfl isf8 rfl rfl rfl (f_query_Asker_Tick_nil.ok J200 HF712) ?_
                            rintro _ w287 ⟨rfl, HF721⟩
                            refine ⟨_, rfl, ?_⟩
                            refine sG rfl rfl (uNot rfl) rfl ?_
                            refine sL (pkF rfl rfl) rfl ?_
                            refine lEnd (K := fun _ _ => True) ?_
                            refine kN (?_)
                            exact ofEnv (fun a hE => ⟨_, (Option.some.inj H).symm, ⟨L366, hE.keep (Keep.cons rfl (Keep.cons rfl (Keep.cons rfl (Keep.cons rfl (Keep.cons rfl (Keep.cons rfl (Keep.cons rfl (Keep.cons rfl (Keep.cons rfl (Keep.cons rfl (Keep.nil))))))))))), HF721, ho93⟩⟩)
                          · replace H := optS hx93 H
                            obtain ⟨L372, L373, g269, l93, L374, hL127, ⟨rfl, rfl⟩, hc93, hb93⟩ := OwnS.foc ho93 c368 c364 hx93
                            have HF722 := Fits.conv (L' := (L372 ++ (bk g269 40 [.int .i64 x93.f_addr, .bool x93.f_asks, .int .i64 x93.f_left, .int .i64 x93.f_starts] :: (L373 ++ (L18 ++ F))))) HF712 (by rw [hL127]; simp only [List.append_assoc, List.cons_append, List.nil_append] <;> rfl)
                            refine sG rfl rfl (ld rfl Try.underlying23 rfl (HF722.cells sub_h hc93)) rfl ?_
                            have HF723 := HF722.perm (perm_f1 (List.Perm.refl _))
                            replace H := bnd H; obtain ⟨⟨t256, t257, t258, t259⟩, J201, H⟩ := H
                            refine eCallG rfl rfl isf8 rfl rfl rfl (f_query_Asker_Tick_obj.ok (a0 := x93) J201 HF723) ?_
                            rintro _ w288 ⟨rfl, HF724⟩
                            refine ⟨_, rfl, ?_⟩
                            refine sG rfl rfl (uNot rfl) rfl ?_
                            refine sL (pkF rfl rfl) rfl ?_
                            refine lEnd (K := fun _ _ => True) ?_
                            refine kN (?_)
                            have HF725 := HF724.perm (perm_c (perm_f (List.Perm.refl _)))
                            have HF726 := HF725.perm (perm_f1 (List.Perm.refl _))
                            have HF727 := HF726.perm (perm_c (perm_f (List.Perm.refl _)))
                            obtain ⟨L375, hL128⟩ : ∃ L_, L_ = L372 ++ (bk g269 40 [.int .i64 x93.f_addr, .bool t257, .int .i64 t258, .int .i64 t259] :: ([] ++ L373)) := ⟨_, rfl⟩
                            have HF728 := Fits.conv (L' := (L375 ++ (L18 ++ F))) HF727 (by rw [hL128]; simp only [List.append_assoc, List.cons_append, List.nil_append] <;> rfl)
                            have ho96 : OwnS (kPtr k_T_query_Asker 40) L375 (some ⟨g268, o173, none⟩) c23 (setI s36.2 s36.1 (some (⟨x93.f_addr, t257, t258, t259⟩ : T_query_Asker))) := by rw [hL128]; exact hb93 _ _ _ ⟨rfl, rfl⟩
                            refine kSet (i := 7) (v := .slice (some ⟨g268, o173, none⟩) (setI s36.2 s36.1 (some (⟨x93.f_addr, t257, t258, t259⟩ : T_query_Asker))).length c23) rfl (by rw [len_setI]) ?_
                            refine kSet (i := 93) (v := .slice (some ⟨g268, o173, none⟩) (setI s36.2 s36.1 (some (⟨x93.f_addr, t257, t258, t259⟩ : T_query_Asker))).length c23) rfl (by rw [len_setI]) ?_
                            refine kSet (i := 102) (v := .slice (some ⟨g268, o173, none⟩) (setI s36.2 s36.1 (some (⟨x93.f_addr, t257, t258, t259⟩ : T_query_Asker))).length c23) rfl (by rw [len_setI]) ?_
                            exact ofEnv (fun a hE => ⟨_, (Option.some.inj H).symm, ⟨L375, hE.keep (Keep.cons rfl (Keep.cons rfl (Keep.cons rfl (Keep.cons rfl (Keep.cons rfl (Keep.cons rfl (Keep.cons rfl (Keep.cons rfl (Keep.cons rfl (Keep.cons rfl (Keep.nil))))))))))), HF728, ho96⟩⟩)
                      · rintro s37 a w289 rfl ⟨L371, hE, HF729, ho95⟩
                        replace H := Ho37
                        refine go_k hE ?_
                        refine kN (?_)
                        refine hK304 _ _ ?_
                        by_cases c369 : s37.1 = true
                        · replace H := itT c369 H
                          refine cSet (i := 108) rfl (vT c369) ?_
                          refine cT rfl ?_
                          refine cExit ?_
                          refine kX (jX (kN (?_)))
                          refine hK302 _ _ ?_
                          refine cRgn [] trivial ?_
                          refine sL (mv rfl) rfl ?_
                          refine sL (bAdd rfl rfl) rfl ?_
                          refine sL (asg rfl) rfl ?_
                          refine lEnd (K := fun _ _ => True) ?_
                          refine kN (?_)
                          exact ofEnv (fun a hE => ⟨_, (Option.some.inj H).symm, ⟨L371, hE.keep (Keep.cons rfl (Keep.cons rfl (Keep.cons rfl (Keep.cons rfl (Keep.cons rfl (Keep.cons rfl (Keep.cons rfl (Keep.cons rfl (Keep.cons rfl (Keep.nil)))))))))), HF729, ho95⟩⟩)
                        · replace H := itF c369 H
                          refine cSet (i := 108) rfl (vF c369) ?_
                          refine cF rfl ?_
                          refine cSkip ?_
                          refine kN (?_)
                          refine hK303 _ _ ?_
                          refine cSeq (fun K305 hK305 => ?_)
                          refine cRgn [] trivial ?_
                          refine sL (asg rfl) rfl ?_
                          refine lEnd (K := fun _ _ => True) ?_
                          refine kN (?_)
                          refine hK305 _ _ ?_
                          replace H := bnd H; obtain ⟨y56, J214, Ho38⟩ := H
                          refine cLoopB (f_plenumlaw20_QueryLowest.b2 s2 s36) (fun (s38 : Int × (List (Option T_query_Asker))) a w => ∃ (L391 : Hp), Env 175 [(1, .bool a1), (2, .int .u8 a2), (6, .bool false), (7, .slice A11 s38.2.length c23), (8, .slice A12 s2.2.1.length c24), (10, .int .i64 s3.1), (12, .int .i64 s31), (13, .int .i64 s29.2.1), (14, .int .i64 s36.1), (15, .int .i64 s38.1)] a ∧ Fits z w (L391 ++ (L18 ++ F)) ∧ OwnS (kPtr k_T_query_Asker 40) L391 A11 c23 s38.2) J214 (fun a hE => ⟨L371, hE.keep (Keep.cons rfl (Keep.cons rfl (Keep.cons rfl (Keep.cons rfl (Keep.cons rfl (Keep.cons rfl (Keep.cons rfl (Keep.cons rfl (Keep.cons rfl (Keep.cons rfl (Keep.nil))))))))))), HF729, ho95⟩) ?_ ?_
                          · rintro s38 a w300 y57 ⟨L391, hE, HF762, ho100⟩ H Hx19
                            refine go_ hE ?_
                            refine cSeq (fun K314 hK314 => ?_)
                            refine cSeq (fun K315 hK315 => ?_)
                            refine cRgn [] trivial ?_
                            refine sL (mv rfl) rfl ?_
                            refine sL (mv rfl) rfl ?_
                            refine sL (lnS rfl Try.underlying35) rfl ?_
                            refine sL (bLss rfl rfl) rfl ?_
                            refine lEnd (K := fun _ _ => True) ?_
                            refine kN (?_)
                            refine hK315 _ _ ?_
                            by_cases c384 : s38.1 < (s38.2.length : Int)
                            · replace H := itT c384 H
                              refine cSet (i := 112) rfl (dT c384) ?_
                              refine cT rfl ?_
                              refine cSkip ?_
                              refine kN (?_)
                              refine hK314 _ _ ?_
                              refine cSeq (fun K316 hK316 => ?_)
                              refine cBlock ?_
                              refine cSeq (fun K317 hK317 => ?_)
                              refine cRgn [] trivial ?_
                              refine sL (mv rfl) rfl ?_
                              refine sL (mv rfl) rfl ?_
                              refine sL (bNeq rfl rfl) rfl ?_
                              refine lEnd (K := fun _ _ => True) ?_
                              refine kN (?_)
                              refine hK317 _ _ ?_
                              by_cases c385 : s38.1 = s36.1
                              · replace H := itT c385 H
                                refine cSet (i := 117) rfl (nF c385) ?_
                                refine cF rfl ?_
                                refine cSkip ?_
                                refine jN (kN (?_))
                                refine hK316 _ _ ?_
                                refine cRgn [] trivial ?_
                                refine sL (mv rfl) rfl ?_
                                refine sL (bAdd rfl rfl) rfl ?_
                                refine sL (asg rfl) rfl ?_
                                refine lEnd (K := fun _ _ => True) ?_
                                refine kN (?_)
                                exact ofEnv (fun a hE => ⟨_, (Option.some.inj H).symm, ⟨L391, hE.keep (Keep.cons rfl (Keep.cons rfl (Keep.cons rfl (Keep.cons rfl (Keep.cons rfl (Keep.cons rfl (Keep.cons rfl (Keep.cons rfl (Keep.cons rfl (Keep.cons rfl (Keep.nil))))))))))), HF762, ho100⟩⟩)
                              · replace H := itF c385 H
                                refine cSet (i := 117) rfl (nT c385) ?_
                                refine cT rfl ?_
                                refine cDraw mo_ HF762 rfl (fun w => Fits z w (L18 ++ F)) (fun w303 HF767 => ?_)
                                have HF768 := HF767.sublist (sl_da (sl_a (List.Sublist.refl _)))
                                refine hTake 0 rfl (by kernel_rfl) (pBlock (pThen (pThen (pBlock (pThen (pBlock (pThen (pThen (pBlock (pThen (pThen (pBlock (pThen (pThen (pBlock (pThen (pThen pFn))))))))))))))))) (fun w_ hS_ => mv rfl) HF768 rfl rfl ?_
                                refine hTake 1 rfl (by kernel_rfl) (pBlock (pThen (pThen (pBlock (pThen (pBlock (pThen (pThen (pBlock (pThen (pThen (pBlock (pThen (pThen (pBlock (pThen (pThen pFn))))))))))))))))) (fun w_ hS_ => mv rfl) HF768 rfl rfl ?_
                                replace H := chk H; obtain ⟨c389, H⟩ := H
                                obtain ⟨g285, o184, _, rfl, _, q192⟩ := RdS.at_ ho100.rd c389 c384
                                refine hTake 2 rfl (by kernel_rfl) (pBlock (pThen (pThen (pBlock (pThen (pBlock (pThen (pThen (pBlock (pThen (pThen (pBlock (pThen (pThen (pBlock (pThen (pThen pFn))))))))))))))))) (fun w_ hS_ => ia rfl rfl Try.underlying35 ti23 c389 c384) HF768 rfl rfl ?_
                                refine hTake 4 rfl (by kernel_rfl) (pBlock (pThen (pThen (pBlock (pThen (pBlock (pThen (pThen (pBlock (pThen (pThen (pBlock (pThen (pThen (pBlock (pThen (pThen pFn))))))))))))))))) (fun w_ hS_ => mv rfl) HF768 rfl rfl ?_
                                refine hTake 5 rfl (by kernel_rfl) (pBlock (pThen (pThen (pBlock (pThen (pBlock (pThen (pThen (pBlock (pThen (pThen (pBlock (pThen (pThen (pBlock (pThen (pThen pFn))))))))))))))))) (fun w_ hS_ => mv rfl) HF768 rfl rfl ?_
                                replace H := chk H; obtain ⟨c390, H⟩ := H
                                replace H := chk H; obtain ⟨c391, H⟩ := H
                                obtain ⟨g286, o185, _, rfl, rfl, q193⟩ := RdS.at_ ho12.rd c390 c391
                                refine hTake 6 rfl (by kernel_rfl) (pBlock (pThen (pThen (pBlock (pThen (pBlock (pThen (pThen (pBlock (pThen (pThen (pBlock (pThen (pThen (pBlock (pThen (pThen pFn))))))))))))))))) (fun w_ hS_ => ia rfl rfl Try.underlying27 ti3 c390 c391) HF768 rfl rfl ?_
                                refine hTake 7 rfl (by kernel_rfl) (pBlock (pThen (pThen (pBlock (pThen (pBlock (pThen (pThen (pBlock (pThen (pThen (pBlock (pThen (pThen (pBlock (pThen (pThen pFn))))))))))))))))) (fun w_ hS_ => ld rfl Try.underlying3 rfl (hS_.cells (sub_h) (q193 0 _ rfl))) HF768 rfl rfl ?_
                                refine h1 3 (by kernel_rfl) rfl ?_
                                rcases hx99 : rd s38.2 s38.1 with _ | x99
                                · replace H := optN hx99 H
                                  refine qL rfl gd0 (ld rfl Try.underlying23 rfl (OwnS.nilel ho100 c389 c384 hx99 HF767)) rfl HF768 ?_
                                  refine h1 8 (by kernel_rfl) rfl ?_
                                  replace H := bnd H; obtain ⟨⟨⟩, J212, H⟩ := H
                                  refine qCall rfl gd0 isf12 rfl rfl rfl (f_query_Asker_Heard_nil.ok J212 HF767) ?_
                                  rintro _ w304 ⟨rfl, HF769⟩
                                  have HF770 := HF769.sublist (sl_da (sl_a (List.Sublist.refl _)))
                                  refine ⟨_, rfl, HF770, ?_⟩
                                  refine hEnd (by kernel_rfl) ?_
                                  refine jN (kN (?_))
                                  refine hK316 _ _ ?_
                                  refine cRgn [] trivial ?_
                                  refine sL (mv rfl) rfl ?_
                                  refine sL (bAdd rfl rfl) rfl ?_
                                  refine sL (asg rfl) rfl ?_
                                  refine lEnd (K := fun _ _ => True) ?_
                                  refine kN (?_)
                                  exact ofEnv (fun a hE => ⟨_, (Option.some.inj H).symm, ⟨L391, hE.keep (Keep.cons rfl (Keep.cons rfl (Keep.cons rfl (Keep.cons rfl (Keep.cons rfl (Keep.cons rfl (Keep.cons rfl (Keep.cons rfl (Keep.cons rfl (Keep.cons rfl (Keep.nil))))))))))), HF769, ho100⟩⟩)
                                · replace H := optS hx99 H
                                  obtain ⟨L395, L396, g287, l99, L397, hL136, ⟨rfl, rfl⟩, hc99, hb99⟩ := OwnS.foc ho100 c389 c384 hx99
                                  have HF771 := Fits.conv (L' := (L395 ++ (bk g287 40 [.int .i64 x99.f_addr, .bool x99.f_asks, .int .i64 x99.f_left, .int .i64 x99.f_starts] :: (L396 ++ (L18 ++ F))))) HF767 (by rw [hL136]; simp only [List.append_assoc, List.cons_append, List.nil_append] <;> rfl)
                                  refine qL rfl gd0 (ld rfl Try.underlying23 rfl (HF771.cells sub_h hc99)) rfl HF768 ?_
                                  refine h1 8 (by kernel_rfl) rfl ?_
                                  have HF772 := HF771.perm (perm_f1 (List.Perm.refl _))
                                  replace H := bnd H; obtain ⟨⟨t270, t271⟩, J213, H⟩ := H
                                  refine qCall rfl gd0 isf12 rfl rfl rfl (f_query_Asker_Heard_obj.ok (a0 := x99) J213 HF772) ?_
                                  rintro _ w305 ⟨rfl, HF773⟩
                                  have HF774 := HF773.sublist (sl_dc (sl_da (sl_da (sl_a (List.Sublist.refl _)))))
                                  refine ⟨_, rfl, HF774, ?_⟩
                                  refine hEnd (by kernel_rfl) ?_
                                  refine jN (kN (?_))
                                  refine hK316 _ _ ?_
                                  refine cRgn [] trivial ?_
                                  refine sL (mv rfl) rfl ?_
                                  refine sL (bAdd rfl rfl) rfl ?_
                                  refine sL (asg rfl) rfl ?_
                                  refine lEnd (K := fun _ _ => True) ?_
                                  refine kN (?_)
                                  have HF775 := HF773.perm (perm_c (perm_f (List.Perm.refl _)))
                                  have HF776 := HF775.perm (perm_f1 (List.Perm.refl _))
                                  have HF777 := HF776.perm (perm_c (perm_f (List.Perm.refl _)))
                                  obtain ⟨L398, hL137⟩ : ∃ L_, L_ = L395 ++ (bk g287 40 [.int .i64 x99.f_addr, .bool t270, .int .i64 t271, .int .i64 x99.f_starts] :: ([] ++ L396)) := ⟨_, rfl⟩
                                  have HF778 := Fits.conv (L' := (L398 ++ (L18 ++ F))) HF777 (by rw [hL137]; simp only [List.append_assoc, List.cons_append, List.nil_append] <;> rfl)
                                  have ho101 : OwnS (kPtr k_T_query_Asker 40) L398 (some ⟨g285, o184, none⟩) c23 (setI s38.2 s38.1 (some (⟨x99.f_addr, t270, t271, x99.f_starts⟩ : T_query_Asker))) := by rw [hL137]; exact hb99 _ _ _ ⟨rfl, rfl⟩
                                  refine kSet (i := 7) (v := .slice (some ⟨g285, o184, none⟩) (setI s38.2 s38.1 (some (⟨x99.f_addr, t270, t271, x99.f_starts⟩ : T_query_Asker))).length c23) rfl (by rw [len_setI]) ?_
                                  refine kSet (i := 110) (v := .slice (some ⟨g285, o184, none⟩) (setI s38.2 s38.1 (some (⟨x99.f_addr, t270, t271, x99.f_starts⟩ : T_query_Asker))).length c23) rfl (by rw [len_setI]) ?_
                                  refine kSet (i := 118) (v := .slice (some ⟨g285, o184, none⟩) (setI s38.2 s38.1 (some (⟨x99.f_addr, t270, t271, x99.f_starts⟩ : T_query_Asker))).length c23) rfl (by rw [len_setI]) ?_
                                  exact ofEnv (fun a hE => ⟨_, (Option.some.inj H).symm, ⟨L398, hE.keep (Keep.cons rfl (Keep.cons rfl (Keep.cons rfl (Keep.cons rfl (Keep.cons rfl (Keep.cons rfl (Keep.cons rfl (Keep.cons rfl (Keep.cons rfl (Keep.cons rfl (Keep.nil))))))))))), HF778, ho101⟩⟩)
                            · replace H := itF c384 H
                              refine cSet (i := 112) rfl (dF c384) ?_
                              refine cF rfl ?_
                              refine cExit ?_
                              refine kX (kX (jX (kN (?_))))
                              exact ofEnv (fun a hE => ⟨_, (Option.some.inj H).symm, ⟨L391, hE.keep (Keep.cons rfl (Keep.cons rfl (Keep.cons rfl (Keep.cons rfl (Keep.cons rfl (Keep.cons rfl (Keep.cons rfl (Keep.cons rfl (Keep.cons rfl (Keep.cons rfl (Keep.nil))))))))))), HF762, ho100⟩⟩)
                          · rintro s38 a w306 rfl ⟨L391, hE, HF779, ho100⟩
                            replace H := Ho38
                            refine go_k hE ?_
                            refine jN (kN (?_))
                            refine hK302 _ _ ?_
                            refine cRgn [] trivial ?_
                            refine sL (mv rfl) rfl ?_
                            refine sL (bAdd rfl rfl) rfl ?_
                            refine sL (asg rfl) rfl ?_
                            refine lEnd (K := fun _ _ => True) ?_
                            refine kN (?_)
                            exact ofEnv (fun a hE => ⟨_, (Option.some.inj H).symm, ⟨L391, hE.keep (Keep.cons rfl (Keep.cons rfl (Keep.cons rfl (Keep.cons rfl (Keep.cons rfl (Keep.cons rfl (Keep.cons rfl (Keep.cons rfl (Keep.cons rfl (Keep.nil)))))))))), HF779, ho100⟩⟩)
                    · replace H := itF c364 H
                      refine cSet (i := 95) rfl (dF c364) ?_
                      refine cF rfl ?_
                      refine cExit ?_
                      refine kX (kX (jX (kN (?_))))
                      exact ofEnv (fun a hE => ⟨_, (Option.some.inj H).symm, ⟨L366, hE.keep (Keep.cons rfl (Keep.cons rfl (Keep.cons rfl (Keep.cons rfl (Keep.cons rfl (Keep.cons rfl (Keep.cons rfl (Keep.cons rfl (Keep.cons rfl (Keep.nil)))))))))), HF712, ho93⟩⟩)
                  · rintro s36 a w307 rfl ⟨L366, hE, HF780, ho93⟩
                    replace H := Ho36
                    refine go_k hE ?_
                    refine kN (?_)
                    refine hK258 _ _ ?_
                    refine cSeq (fun K318 hK318 => ?_)
                    refine cRgn [(2, 129)] ⟨rfl, trivial⟩ ?_
                    refine sL (mv rfl) rfl ?_
                    refine sL (bLss rfl rfl) rfl ?_
                    refine sL (mv rfl) rfl ?_
                    by_cases c392 : s29.2.1 < 60
                    · replace H := itT c392 H
                      refine lSet (i := 129) rfl (dT c392) ?_
                      refine sG rfl rfl (mv rfl) rfl ?_
                      refine sG rfl rfl (mv rfl) rfl ?_
                      replace H := bnd H; obtain ⟨t272, J215, H⟩ := H
                      refine eCallG rfl rfl isf15 rfl rfl rfl (f_plenumlaw20_one.ok (a0 := s36.2) J215 HF780 ho93) ?_
                      rintro _ w308 ⟨rfl, HF781⟩
                      refine ⟨_, rfl, ?_⟩
                      refine sG rfl rfl (uNot rfl) rfl ?_
                      refine sL (pkT rfl rfl) rfl ?_
                      refine lEnd (K := fun _ _ => True) ?_
                      refine kN (?_)
                      refine hK318 _ _ ?_
                      by_cases c393 : t272 = true
                      · replace H := itT c393 H
                        refine cSet (i := 134) rfl (wF c393) ?_
                        refine cF rfl ?_
                        refine cSkip ?_
                        refine jN (kN (?_))
                        refine hK255 _ _ ?_
                        refine cRgn [] trivial ?_
                        refine sL (mv rfl) rfl ?_
                        refine sL (bAdd rfl rfl) rfl ?_
                        refine sL (asg rfl) rfl ?_
                        refine lEnd (K := fun _ _ => True) ?_
                        refine kN (?_)
                        exact ofEnv (fun a hE => ⟨_, (Option.some.inj H).symm, ⟨L366, hE.keep (Keep.cons rfl (Keep.cons rfl (Keep.cons rfl (Keep.cons rfl (Keep.cons rfl (Keep.cons rfl (Keep.cons rfl (Keep.cons rfl (Keep.nil))))))))), HF781, ho93⟩⟩)
                      · replace H := itF c393 H
                        refine cSet (i := 134) rfl (wT c393) ?_
                        refine cT rfl ?_
                        refine cSeq (fun K319 hK319 => ?_)
                        refine cRgn [] trivial ?_
                        refine sL (asg rfl) rfl ?_
                        refine lEnd (K := fun _ _ => True) ?_
                        refine kN (?_)
                        refine hK319 _ _ ?_
                        refine cRet ?_
                        have e_ := Hx15 _ (Option.some.inj H).symm
                        subst e_
                        replace H := Ho29
                        obtain rfl := Option.some.inj H
                        refine jR (kR (kR (jR (kR (kR (?_))))))
                        refine ret1 rfl rfl ?_
                        have HF782 := HF781.sublist (sl_da (sl_da (List.Sublist.refl _)))
                        exact ⟨rfl, HF782⟩
                    · replace H := itF c392 H
                      refine lSet (i := 129) rfl (dF c392) ?_
                      refine sN rfl rfl rfl rfl ?_
                      refine sN rfl rfl rfl rfl ?_
                      refine sN rfl rfl rfl rfl ?_
                      refine sN rfl rfl rfl rfl ?_
                      refine sL (pkF rfl rfl) rfl ?_
                      refine lEnd (K := fun _ _ => True) ?_
                      refine kN (?_)
                      refine hK318 _ _ ?_
                      refine cF rfl ?_
                      refine cSkip ?_
                      refine jN (kN (?_))
                      refine hK255 _ _ ?_
                      refine cRgn [] trivial ?_
                      refine sL (mv rfl) rfl ?_
                      refine sL (bAdd rfl rfl) rfl ?_
                      refine sL (asg rfl) rfl ?_
                      refine lEnd (K := fun _ _ => True) ?_
                      refine kN (?_)
                      exact ofEnv (fun a hE => ⟨_, (Option.some.inj H).symm, ⟨L366, hE.keep (Keep.cons rfl (Keep.cons rfl (Keep.cons rfl (Keep.cons rfl (Keep.cons rfl (Keep.cons rfl (Keep.cons rfl (Keep.cons rfl (Keep.nil))))))))), HF780, ho93⟩⟩)
            · replace H := itF c308 H
              refine cSet (i := 78) rfl (dF c308) ?_
              refine cF rfl ?_
              refine cExit ?_
              refine kX (kX (jX (kN (?_))))
              exact ofEnv (fun a hE => ⟨_, (Option.some.inj H).symm, ⟨L304, hE.keep (Keep.cons rfl (Keep.cons rfl (Keep.cons rfl (Keep.cons rfl (Keep.cons rfl (Keep.cons rfl (Keep.cons rfl (Keep.cons rfl (Keep.nil))))))))), HF591, ho79⟩⟩)
          · rintro s29 a w309 rfl ⟨L304, hE, HF783, ho79⟩
            replace H := Ho29
            refine go_k hE ?_
            refine kN (?_)
            refine hK50 _ _ ?_
            refine cSeq (fun K320 hK320 => ?_)
            refine cSeq (fun K321 hK321 => ?_)
            refine cRgn [] trivial ?_
            refine sL (mv rfl) rfl ?_
            refine sL (bLss rfl rfl) rfl ?_
            refine lEnd (K := fun _ _ => True) ?_
            refine kN (?_)
            refine hK321 _ _ ?_
            by_cases c394 : s29.1 < 0
            · replace H := itT c394 H
              refine cSet (i := 136) rfl (dT c394) ?_
              refine cT rfl ?_
              refine cSeq (fun K322 hK322 => ?_)
              replace H := bnd H; obtain ⟨y58, H, Ho39⟩ := H
              refine cJoin (y := y58) (fun (s39 : Bool) a w => Env 175 [(6, .bool s39), (7, .slice A11 s29.2.2.length c23), (8, .slice A12 s2.2.1.length c24), (12, .int .i64 s29.1)] a ∧ Fits z w (L304 ++ (L18 ++ F))) ?_ ?_
              · refine cRgn [(3, 140)] ⟨rfl, trivial⟩ ?_
                refine sL (mv rfl) rfl ?_
                refine sL (mv rfl) rfl ?_
                replace H := bnd H; obtain ⟨t275, J219, H⟩ := H
                refine eCall isf15 rfl rfl rfl (f_plenumlaw20_one.ok (a0 := s29.2.2) J219 HF783 ho79) ?_
                rintro _ w312 ⟨rfl, HF786⟩
                refine ⟨_, rfl, ?_⟩
                refine sL (mv rfl) rfl ?_
                by_cases c396 : t275 = true
                · replace H := itT c396 H
                  refine lSet (i := 140) rfl (vT c396) ?_
                  replace H := bnd H; obtain ⟨t276, J220, H⟩ := H
                  refine eCallG rfl rfl isf10 rfl rfl rfl (f_plenumlaw20_awake.ok J220 HF786) ?_
                  rintro _ w313 ⟨rfl, HF787⟩
                  refine ⟨_, rfl, ?_⟩
                  refine sL (pkT rfl rfl) rfl ?_
                  refine sL (asg rfl) rfl ?_
                  refine lEnd (K := fun _ _ => True) ?_
                  refine kN (?_)
                  exact ofEnv (fun a hE => ⟨_, (Option.some.inj H).symm, ⟨hE.keep (Keep.cons rfl (Keep.cons rfl (Keep.cons rfl (Keep.cons rfl (Keep.nil))))), HF787⟩⟩)
                · replace H := itF c396 H
                  refine lSet (i := 140) rfl (vF c396) ?_
                  refine sN rfl rfl rfl rfl ?_
                  refine sL (pkF rfl rfl) rfl ?_
                  refine sL (asg rfl) rfl ?_
                  refine lEnd (K := fun _ _ => True) ?_
                  refine kN (?_)
                  exact ofEnv (fun a hE => ⟨_, (Option.some.inj H).symm, ⟨hE.keep (Keep.cons rfl (Keep.cons rfl (Keep.cons rfl (Keep.cons rfl (Keep.nil))))), HF786⟩⟩)
              · rintro s39 a w314 rfl ⟨hE, HF788⟩
                replace H := Ho39
                refine go_k hE ?_
                refine kN (?_)
                refine hK322 _ _ ?_
                refine cRet ?_
                obtain rfl := Option.some.inj H
                refine kR (?_)
                refine ret1 rfl rfl ?_
                have HF789 := HF788.sublist (sl_da (sl_da (List.Sublist.refl _)))
                exact ⟨rfl, HF789⟩
            · replace H := itF c394 H
              refine cSet (i := 136) rfl (dF c394) ?_
              refine cF rfl ?_
              refine cSkip ?_
              refine kN (?_)
              refine hK320 _ _ ?_
              refine cSeq (fun K323 hK323 => ?_)
              refine cRgn [] trivial ?_
              refine sL (asg rfl) rfl ?_
              refine lEnd (K := fun _ _ => True) ?_
              refine kN (?_)
              refine hK323 _ _ ?_
              refine cSeq (fun K324 hK324 => ?_)
              refine cSeq (fun K325 hK325 => ?_)
              refine cRgn [] trivial ?_
              refine sL (asg rfl) rfl ?_
              refine lEnd (K := fun _ _ => True) ?_
              refine kN (?_)
              refine hK325 _ _ ?_
              replace H := bnd H; obtain ⟨y59, J223, Ho40⟩ := H
              refine cLoopB (f_plenumlaw20_QueryLowest.b5 s2 s29) (fun (s40 : Int × Int) a w => Env 175 [(6, .bool false), (7, .slice A11 s29.2.2.length c23), (8, .slice A12 s2.2.1.length c24), (12, .int .i64 s29.1), (16, .int .i64 s40.1), (17, .int .i64 s40.2)] a ∧ Fits z w (L304 ++ (L18 ++ F))) J223 (fun a hE => ⟨hE.keep (Keep.cons rfl (Keep.cons rfl (Keep.cons rfl (Keep.cons rfl (Keep.cons rfl (Keep.cons rfl (Keep.nil))))))), HF783⟩) ?_ ?_
              · rintro s40 a w317 y60 ⟨hE, HF792⟩ H Hx20
                refine go_ hE ?_
                refine cSeq (fun K334 hK334 => ?_)
                refine cSeq (fun K335 hK335 => ?_)
                refine cRgn [] trivial ?_
                refine sL (mv rfl) rfl ?_
                refine sL (mv rfl) rfl ?_
                refine sL (lnS rfl Try.underlying27) rfl ?_
                refine sL (bLss rfl rfl) rfl ?_
                refine lEnd (K := fun _ _ => True) ?_
                refine kN (?_)
                refine hK335 _ _ ?_
                by_cases c412 : s40.2 < (s2.2.1.length : Int)
                · replace H := itT c412 H
                  refine cSet (i := 146) rfl (dT c412) ?_
                  refine cT rfl ?_
                  refine cSkip ?_
                  refine kN (?_)
                  refine hK334 _ _ ?_
                  refine cSeq (fun K336 hK336 => ?_)
                  refine cBlock ?_
                  refine cSeq (fun K337 hK337 => ?_)
                  refine cDraw mo_ HF792 rfl (fun w => Fits z w (L304 ++ (L18 ++ F))) (fun w318 HF793 => ?_)
                  refine hTake 0 rfl (by kernel_rfl) (pThen (pBlock (pThen (pThen (pBlock (pThen (pThen pFn))))))) (fun w_ hS_ => mv rfl) HF793 rfl rfl ?_
                  refine hTake 1 rfl (by kernel_rfl) (pThen (pBlock (pThen (pThen (pBlock (pThen (pThen pFn))))))) (fun w_ hS_ => mv rfl) HF793 rfl rfl ?_
                  refine hTake 2 rfl (by kernel_rfl) (pThen (pBlock (pThen (pThen (pBlock (pThen (pThen pFn))))))) (fun w_ hS_ => bNeq rfl rfl) HF793 rfl rfl ?_
                  refine hTake 3 rfl (by kernel_rfl) (pThen (pBlock (pThen (pThen (pBlock (pThen (pThen pFn))))))) (fun w_ hS_ => mv rfl) HF793 rfl rfl ?_
                  by_cases c418 : s40.2 = s29.1
                  · replace H := itT c418 H
                    refine hSet (i := 152) rfl (nF c418) ?_
                    refine hTakeN 4 rfl rfl rfl (by kernel_rfl) (pThen (pBlock (pThen (pThen (pBlock (pThen (pThen pFn))))))) HF793 rfl rfl ?_
                    refine hTakeN 5 rfl rfl rfl (by kernel_rfl) (pThen (pBlock (pThen (pThen (pBlock (pThen (pThen pFn))))))) HF793 rfl rfl ?_
                    refine hTakeN 6 rfl rfl rfl (by kernel_rfl) (pThen (pBlock (pThen (pThen (pBlock (pThen (pThen pFn))))))) HF793 rfl rfl ?_
                    refine hTakeU 7 rfl rfl rfl (by kernel_rfl) (pThen (pBlock (pThen (pThen (pBlock (pThen (pThen pFn))))))) HF793 rfl rfl ?_
                    refine hTakeU 8 rfl rfl rfl (by kernel_rfl) (pThen (pBlock (pThen (pThen (pBlock (pThen (pThen pFn))))))) HF793 rfl rfl ?_
                    refine hTakeU 9 rfl rfl rfl (by kernel_rfl) (pThen (pBlock (pThen (pThen (pBlock (pThen (pThen pFn))))))) HF793 rfl rfl ?_
                    refine hTakeU 10 rfl rfl rfl (by kernel_rfl) (pThen (pBlock (pThen (pThen (pBlock (pThen (pThen pFn))))))) HF793 rfl rfl ?_
                    refine hTakeU 11 rfl rfl rfl (by kernel_rfl) (pThen (pBlock (pThen (pThen (pBlock (pThen (pThen pFn))))))) HF793 rfl rfl ?_
                    refine hTakeU 12 rfl rfl rfl (by kernel_rfl) (pThen (pBlock (pThen (pThen (pBlock (pThen (pThen pFn))))))) HF793 rfl rfl ?_
                    refine hTakeU 13 rfl rfl rfl (by kernel_rfl) (pThen (pBlock (pThen (pThen (pBlock (pThen (pThen pFn))))))) HF793 rfl rfl ?_
                    refine hTakeU 14 rfl rfl rfl (by kernel_rfl) (pThen (pBlock (pThen (pThen (pBlock (pThen (pThen pFn))))))) HF793 rfl rfl ?_
                    refine hTakeU 15 rfl rfl rfl (by kernel_rfl) (pThen (pBlock (pThen (pThen (pBlock (pThen (pThen pFn))))))) HF793 rfl rfl ?_
                    refine hTakeN 16 rfl rfl rfl (by kernel_rfl) (pThen (pBlock (pThen (pThen (pBlock (pThen (pThen pFn))))))) HF793 rfl rfl ?_
                    refine hTake 17 rfl (by kernel_rfl) (pThen (pBlock (pThen (pThen (pBlock (pThen (pThen pFn))))))) (fun w_ hS_ => pkF rfl rfl) HF793 rfl rfl ?_
                    refine hEnd (by kernel_rfl) ?_
                    refine kN (?_)
                    refine hK337 _ _ ?_
                    refine cF rfl ?_
                    refine cSkip ?_
                    refine jN (kN (?_))
                    refine hK336 _ _ ?_
                    refine cRgn [] trivial ?_
                    refine sL (mv rfl) rfl ?_
                    refine sL (bAdd rfl rfl) rfl ?_
                    refine sL (asg rfl) rfl ?_
                    refine lEnd (K := fun _ _ => True) ?_
                    refine kN (?_)
                    exact ofEnv (fun a hE => ⟨_, (Option.some.inj H).symm, ⟨hE.keep (Keep.cons rfl (Keep.cons rfl (Keep.cons rfl (Keep.cons rfl (Keep.cons rfl (Keep.cons rfl (Keep.nil))))))), HF793⟩⟩)
                  · replace H := itF c418 H
                    refine hSet (i := 152) rfl (nT c418) ?_
                    refine hTakeG 4 rfl rfl rfl (by kernel_rfl) (pThen (pBlock (pThen (pThen (pBlock (pThen (pThen pFn))))))) (fun w_ hS_ => mv rfl) HF793 rfl rfl ?_
                    refine hTakeG 5 rfl rfl rfl (by kernel_rfl) (pThen (pBlock (pThen (pThen (pBlock (pThen (pThen pFn))))))) (fun w_ hS_ => bLss rfl rfl) HF793 rfl rfl ?_
                    refine hTakeG 6 rfl rfl rfl (by kernel_rfl) (pThen (pBlock (pThen (pThen (pBlock (pThen (pThen pFn))))))) (fun w_ hS_ => mv rfl) HF793 rfl rfl ?_
                    by_cases c419 : s40.1 < 0
                    · replace H := itT c419 H
                      refine hSet (i := 155) rfl (dT c419) ?_
                      refine hTakeN 7 rfl rfl rfl (by kernel_rfl) (pThen (pBlock (pThen (pThen (pBlock (pThen (pThen pFn))))))) HF793 rfl rfl ?_
                      refine hTakeN 8 rfl rfl rfl (by kernel_rfl) (pThen (pBlock (pThen (pThen (pBlock (pThen (pThen pFn))))))) HF793 rfl rfl ?_
                      refine hTakeN 9 rfl rfl rfl (by kernel_rfl) (pThen (pBlock (pThen (pThen (pBlock (pThen (pThen pFn))))))) HF793 rfl rfl ?_
                      refine hTakeN 10 rfl rfl rfl (by kernel_rfl) (pThen (pBlock (pThen (pThen (pBlock (pThen (pThen pFn))))))) HF793 rfl rfl ?_
                      refine hTakeN 11 rfl rfl rfl (by kernel_rfl) (pThen (pBlock (pThen (pThen (pBlock (pThen (pThen pFn))))))) HF793 rfl rfl ?_
                      refine hTakeN 12 rfl rfl rfl (by kernel_rfl) (pThen (pBlock (pThen (pThen (pBlock (pThen (pThen pFn))))))) HF793 rfl rfl ?_
                      refine hTakeN 13 rfl rfl rfl (by kernel_rfl) (pThen (pBlock (pThen (pThen (pBlock (pThen (pThen pFn))))))) HF793 rfl rfl ?_
                      refine hTakeN 14 rfl rfl rfl (by kernel_rfl) (pThen (pBlock (pThen (pThen (pBlock (pThen (pThen pFn))))))) HF793 rfl rfl ?_
                      refine hTakeN 15 rfl rfl rfl (by kernel_rfl) (pThen (pBlock (pThen (pThen (pBlock (pThen (pThen pFn))))))) HF793 rfl rfl ?_
                      refine hTakeG 16 rfl rfl rfl (by kernel_rfl) (pThen (pBlock (pThen (pThen (pBlock (pThen (pThen pFn))))))) (fun w_ hS_ => pkT rfl rfl) HF793 rfl rfl ?_
                      refine hTake 17 rfl (by kernel_rfl) (pThen (pBlock (pThen (pThen (pBlock (pThen (pThen pFn))))))) (fun w_ hS_ => pkT rfl rfl) HF793 rfl rfl ?_
                      refine hEnd (by kernel_rfl) ?_
                      refine kN (?_)
                      refine hK337 _ _ ?_
                      refine cT rfl ?_
                      refine cRgn [] trivial ?_
                      refine sL (mv rfl) rfl ?_
                      refine sL (asg rfl) rfl ?_
                      refine lEnd (K := fun _ _ => True) ?_
                      refine jN (kN (?_))
                      refine hK336 _ _ ?_
                      refine cRgn [] trivial ?_
                      refine sL (mv rfl) rfl ?_
                      refine sL (bAdd rfl rfl) rfl ?_
                      refine sL (asg rfl) rfl ?_
                      refine lEnd (K := fun _ _ => True) ?_
                      refine kN (?_)
                      exact ofEnv (fun a hE => ⟨_, (Option.some.inj H).symm, ⟨hE.keep (Keep.cons rfl (Keep.cons rfl (Keep.cons rfl (Keep.cons rfl (Keep.cons rfl (Keep.cons rfl (Keep.nil))))))), HF793⟩⟩)
                    · replace H := itF c419 H
                      refine hSet (i := 155) rfl (dF c419) ?_
                      refine hTakeG 7 rfl rfl rfl (by kernel_rfl) (pThen (pBlock (pThen (pThen (pBlock (pThen (pThen pFn))))))) (fun w_ hS_ => mv rfl) HF793 rfl rfl ?_
                      refine hTakeG 8 rfl rfl rfl (by kernel_rfl) (pThen (pBlock (pThen (pThen (pBlock (pThen (pThen pFn))))))) (fun w_ hS_ => mv rfl) HF793 rfl rfl ?_
                      replace H := chk H; obtain ⟨c420, H⟩ := H
                      obtain ⟨g291, o189, _, rfl, rfl, q200⟩ := RdS.at_ ho12.rd c420 c412
                      refine hTakeG 9 rfl rfl rfl (by kernel_rfl) (pThen (pBlock (pThen (pThen (pBlock (pThen (pThen pFn))))))) (fun w_ hS_ => ia rfl rfl Try.underlying27 ti3 c420 c412) HF793 rfl rfl ?_
                      refine hTakeG 10 rfl rfl rfl (by kernel_rfl) (pThen (pBlock (pThen (pThen (pBlock (pThen (pThen pFn))))))) (fun w_ hS_ => ld rfl Try.underlying3 rfl (hS_.cells ((sub_a sub_h)) (q200 0 _ rfl))) HF793 rfl rfl ?_
                      refine hTakeG 11 rfl rfl rfl (by kernel_rfl) (pThen (pBlock (pThen (pThen (pBlock (pThen (pThen pFn))))))) (fun w_ hS_ => mv rfl) HF793 rfl rfl ?_
                      refine hTakeG 12 rfl rfl rfl (by kernel_rfl) (pThen (pBlock (pThen (pThen (pBlock (pThen (pThen pFn))))))) (fun w_ hS_ => mv rfl) HF793 rfl rfl ?_
                      replace H := chk H; obtain ⟨c421, H⟩ := H
                      replace H := chk H; obtain ⟨c422, H⟩ := H
                      obtain ⟨_, rfl, q201⟩ := RdS.at' ho12.rd c421 c422
                      refine hTakeG 13 rfl rfl rfl (by kernel_rfl) (pThen (pBlock (pThen (pThen (pBlock (pThen (pThen pFn))))))) (fun w_ hS_ => ia rfl rfl Try.underlying27 ti3 c421 c422) HF793 rfl rfl ?_
                      refine hTakeG 14 rfl rfl rfl (by kernel_rfl) (pThen (pBlock (pThen (pThen (pBlock (pThen (pThen pFn))))))) (fun w_ hS_ => ld rfl Try.underlying3 rfl (hS_.cells ((sub_a sub_h)) (q201 0 _ rfl))) HF793 rfl rfl ?_
                      refine hTakeG 15 rfl rfl rfl (by kernel_rfl) (pThen (pBlock (pThen (pThen (pBlock (pThen (pThen pFn))))))) (fun w_ hS_ => bLss rfl rfl) HF793 rfl rfl ?_
                      refine hTakeG 16 rfl rfl rfl (by kernel_rfl) (pThen (pBlock (pThen (pThen (pBlock (pThen (pThen pFn))))))) (fun w_ hS_ => pkF rfl rfl) HF793 rfl rfl ?_
                      refine hTake 17 rfl (by kernel_rfl) (pThen (pBlock (pThen (pThen (pBlock (pThen (pThen pFn))))))) (fun w_ hS_ => pkT rfl rfl) HF793 rfl rfl ?_
                      refine hEnd (by kernel_rfl) ?_
                      refine kN (?_)
                      refine hK337 _ _ ?_
                      by_cases c423 : (rd s2.2.1 s40.2) < (rd s2.2.1 s40.1)
                      · replace H := itT c423 H
                        refine cSet (i := 166) rfl (dT c423) ?_
                        refine cT rfl ?_
                        refine cRgn [] trivial ?_
                        refine sL (mv rfl) rfl ?_
                        refine sL (asg rfl) rfl ?_
                        refine lEnd (K := fun _ _ => True) ?_
                        refine jN (kN (?_))
                        refine hK336 _ _ ?_
                        refine cRgn [] trivial ?_
                        refine sL (mv rfl) rfl ?_
                        refine sL (bAdd rfl rfl) rfl ?_
                        refine sL (asg rfl) rfl ?_
                        refine lEnd (K := fun _ _ => True) ?_
                        refine kN (?_)
                        exact ofEnv (fun a hE => ⟨_, (Option.some.inj H).symm, ⟨hE.keep (Keep.cons rfl (Keep.cons rfl (Keep.cons rfl (Keep.cons rfl (Keep.cons rfl (Keep.cons rfl (Keep.nil))))))), HF793⟩⟩)
                      · replace H := itF c423 H
                        refine cSet (i := 166) rfl (dF c423) ?_
                        refine cF rfl ?_
                        refine cSkip ?_
                        refine jN (kN (?_))
                        refine hK336 _ _ ?_
                        refine cRgn [] trivial ?_
                        refine sL (mv rfl) rfl ?_
                        refine sL (bAdd rfl rfl) rfl ?_
                        refine sL (asg rfl) rfl ?_
                        refine lEnd (K := fun _ _ => True) ?_
                        refine kN (?_)
                        exact ofEnv (fun a hE => ⟨_, (Option.some.inj H).symm, ⟨hE.keep (Keep.cons rfl (Keep.cons rfl (Keep.cons rfl (Keep.cons rfl (Keep.cons rfl (Keep.cons rfl (Keep.nil))))))), HF793⟩⟩)
                · replace H := itF c412 H
                  refine cSet (i := 146) rfl (dF c412) ?_
                  refine cF rfl ?_
                  refine cExit ?_
                  refine kX (kX (jX (kN (?_))))
                  exact ofEnv (fun a hE => ⟨_, (Option.some.inj H).symm, ⟨hE.keep (Keep.cons rfl (Keep.cons rfl (Keep.cons rfl (Keep.cons rfl (Keep.cons rfl (Keep.cons rfl (Keep.nil))))))), HF792⟩⟩)
              · rintro s40 a w319 rfl ⟨hE, HF794⟩
                replace H := Ho40
                refine go_k hE ?_
                refine kN (?_)
                refine hK324 _ _ ?_
                refine cSeq (fun K338 hK338 => ?_)
                refine cRgn [(4, 172)] ⟨rfl, trivial⟩ ?_
                refine sL (mv rfl) rfl ?_
                refine sL (mv rfl) rfl ?_
                refine sL (mv rfl) rfl ?_
                replace H := bnd H; obtain ⟨t277, J221, H⟩ := H
                refine eCall isf15 rfl rfl rfl (f_plenumlaw20_one.ok (a0 := s29.2.2) J221 HF794 ho79) ?_
                rintro _ w320 ⟨rfl, HF795⟩
                refine ⟨_, rfl, ?_⟩
                refine sL (mv rfl) rfl ?_
                by_cases c424 : t277 = true
                · replace H := itT c424 H
                  refine lSet (i := 172) rfl (vT c424) ?_
                  replace H := bnd H; obtain ⟨t278, J222, H⟩ := H
                  refine eCallG rfl rfl isf10 rfl rfl rfl (f_plenumlaw20_awake.ok J222 HF795) ?_
                  rintro _ w321 ⟨rfl, HF796⟩
                  refine ⟨_, rfl, ?_⟩
                  refine sL (pkT rfl rfl) rfl ?_
                  refine sL (asg rfl) rfl ?_
                  refine lEnd (K := fun _ _ => True) ?_
                  refine kN (?_)
                  refine hK338 _ _ ?_
                  refine cRet ?_
                  obtain rfl := Option.some.inj H
                  refine ret1 rfl rfl ?_
                  have HF797 := HF796.sublist (sl_da (sl_da (List.Sublist.refl _)))
                  exact ⟨rfl, HF797⟩
                · replace H := itF c424 H
                  refine lSet (i := 172) rfl (vF c424) ?_
                  refine sN rfl rfl rfl rfl ?_
                  refine sL (pkF rfl rfl) rfl ?_
                  refine sL (asg rfl) rfl ?_
                  refine lEnd (K := fun _ _ => True) ?_
                  refine kN (?_)
                  refine hK338 _ _ ?_
                  refine cRet ?_
                  obtain rfl := Option.some.inj H
                  refine ret1 rfl rfl ?_
                  have HF798 := HF795.sublist (sl_da (sl_da (List.Sublist.refl _)))
                  exact ⟨rfl, HF798⟩

end Go.Proofs.Ytdabiggfmmjjjaa
