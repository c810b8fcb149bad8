/- For each Go function that the laws reach: a function on plain values with the same answers, and the proof that the call comes to them (none: nothing is told). Conditions: none beside each theorem's own. Written by gen.py out of the print of the loaded program. -/
import Derived.Test.YtdabiggfmmjjjaaProg
import Derived.Test.YtdabiggfmmjjjaaSp7
import Derived.KernelRfl
set_option linter.unusedVariables false
set_option linter.unusedSimpArgs false
namespace Go.Proofs.Ytdabiggfmmjjjaa
open Go Go.Proofs.Ytdabiggfmmjjjaa.Sp

structure T_query_Asker where
  f_addr : Int
  f_asks : Bool
  f_left : Int
  f_starts : Int
  deriving Inhabited, DecidableEq
def enc_T_query_Asker (x : T_query_Asker) : List Value := [.int .i64 x.f_addr, .bool x.f_asks, .int .i64 x.f_left, .int .i64 x.f_starts]
theorem len_T_query_Asker (x : T_query_Asker) : (enc_T_query_Asker x).length = 4 := rfl
theorem one_T_query_Asker (x : T_query_Asker) : ∀ v ∈ enc_T_query_Asker x, v.oneCell' = true := by intro v hv; simp only [enc_T_query_Asker, List.mem_cons, List.not_mem_nil, or_false] at hv; rcases hv with rfl | rfl | rfl | rfl <;> rfl
def k_T_query_Asker : Kd T_query_Asker := kFlat enc_T_query_Asker 4 len_T_query_Asker one_T_query_Asker
structure T_plenumref20_Asker where
  f_Addr : Int
  f_On : Bool
  f_Left : Int
  f_Starts : Int
  deriving Inhabited, DecidableEq
def enc_T_plenumref20_Asker (x : T_plenumref20_Asker) : List Value := [.int .i64 x.f_Addr, .bool x.f_On, .int .i64 x.f_Left, .int .i64 x.f_Starts]
theorem len_T_plenumref20_Asker (x : T_plenumref20_Asker) : (enc_T_plenumref20_Asker x).length = 4 := rfl
theorem one_T_plenumref20_Asker (x : T_plenumref20_Asker) : ∀ v ∈ enc_T_plenumref20_Asker x, v.oneCell' = true := by intro v hv; simp only [enc_T_plenumref20_Asker, List.mem_cons, List.not_mem_nil, or_false] at hv; rcases hv with rfl | rfl | rfl | rfl <;> rfl
def k_T_plenumref20_Asker : Kd T_plenumref20_Asker := kFlat enc_T_plenumref20_Asker 4 len_T_plenumref20_Asker one_T_plenumref20_Asker
def fs32 : Array Field := #[Field.mk "Addr" 3 0 false "" "" 0, Field.mk "On" 4 1 false "" "" 8, Field.mk "Left" 3 2 false "" "" 16, Field.mk "Starts" 3 3 false "" "" 24]
def ds32 : TypeDesc := .struct fs32
def fs40 : Array Field := #[Field.mk "addr" 3 0 false "" "plenum/query" 0, Field.mk "asks" 4 1 false "" "plenum/query" 8, Field.mk "left" 3 2 false "" "plenum/query" 16, Field.mk "starts" 3 3 false "" "plenum/query" 24]
def ds40 : TypeDesc := .struct fs40
theorem isf10 : IsF Try.prog 10 := IsF.mk Try.func10 rfl rfl
theorem isf11 : IsF Try.prog 11 := IsF.mk Try.func11 rfl rfl
theorem isf12 : IsF Try.prog 12 := IsF.mk Try.func12 rfl rfl
theorem isf13 : IsF Try.prog 13 := IsF.mk Try.func13 rfl rfl
theorem isf14 : IsF Try.prog 14 := IsF.mk Try.func14 rfl rfl
theorem isf7 : IsF Try.prog 7 := IsF.mk Try.func7 rfl rfl
theorem isf8 : IsF Try.prog 8 := IsF.mk Try.func8 rfl rfl
theorem isf9 : IsF Try.prog 9 := IsF.mk Try.func9 rfl rfl
theorem fa32_0 {E : List (Nat × Value)} {w : World} {x : Operand} {g o : Nat} (hx : lv E x = some (.pointer (some ⟨g, o, none⟩))) : Run Try.prog E w (.fieldAddr 32 x 0) (.pointer (some ⟨g, o + 0, none⟩)) := fa (sz := 0) hx Try.underlying32 rfl rfl (by kernel_rfl)
theorem fa32_1 {E : List (Nat × Value)} {w : World} {x : Operand} {g o : Nat} (hx : lv E x = some (.pointer (some ⟨g, o, none⟩))) : Run Try.prog E w (.fieldAddr 32 x 1) (.pointer (some ⟨g, o + 1, none⟩)) := fa (sz := 0) hx Try.underlying32 rfl rfl (by kernel_rfl)
theorem fa32_2 {E : List (Nat × Value)} {w : World} {x : Operand} {g o : Nat} (hx : lv E x = some (.pointer (some ⟨g, o, none⟩))) : Run Try.prog E w (.fieldAddr 32 x 2) (.pointer (some ⟨g, o + 2, none⟩)) := fa (sz := 0) hx Try.underlying32 rfl rfl (by kernel_rfl)
theorem fa32_3 {E : List (Nat × Value)} {w : World} {x : Operand} {g o : Nat} (hx : lv E x = some (.pointer (some ⟨g, o, none⟩))) : Run Try.prog E w (.fieldAddr 32 x 3) (.pointer (some ⟨g, o + 3, none⟩)) := fa (sz := 0) hx Try.underlying32 rfl rfl (by kernel_rfl)
theorem fa40_0 {E : List (Nat × Value)} {w : World} {x : Operand} {g o : Nat} (hx : lv E x = some (.pointer (some ⟨g, o, none⟩))) : Run Try.prog E w (.fieldAddr 40 x 0) (.pointer (some ⟨g, o + 0, none⟩)) := fa (sz := 0) hx Try.underlying40 rfl rfl (by kernel_rfl)
theorem fa40_1 {E : List (Nat × Value)} {w : World} {x : Operand} {g o : Nat} (hx : lv E x = some (.pointer (some ⟨g, o, none⟩))) : Run Try.prog E w (.fieldAddr 40 x 1) (.pointer (some ⟨g, o + 1, none⟩)) := fa (sz := 0) hx Try.underlying40 rfl rfl (by kernel_rfl)
theorem fa40_2 {E : List (Nat × Value)} {w : World} {x : Operand} {g o : Nat} (hx : lv E x = some (.pointer (some ⟨g, o, none⟩))) : Run Try.prog E w (.fieldAddr 40 x 2) (.pointer (some ⟨g, o + 2, none⟩)) := fa (sz := 0) hx Try.underlying40 rfl rfl (by kernel_rfl)
theorem fa40_3 {E : List (Nat × Value)} {w : World} {x : Operand} {g o : Nat} (hx : lv E x = some (.pointer (some ⟨g, o, none⟩))) : Run Try.prog E w (.fieldAddr 40 x 3) (.pointer (some ⟨g, o + 3, none⟩)) := fa (sz := 0) hx Try.underlying40 rfl rfl (by kernel_rfl)
theorem mo_ : Try.prog.follows .mixedOrders = true := by kernel_rfl
theorem pl32 : PL Try.prog 32 fs32 [(0, 1), (1, 1), (2, 1), (3, 1)] := ⟨Try.underlying32, by kernel_rfl⟩
theorem pl40 : PL Try.prog 40 fs40 [(0, 1), (1, 1), (2, 1), (3, 1)] := ⟨Try.underlying40, by kernel_rfl⟩
theorem ti3 : TI Try.prog 3 (.int .i64) (.int .i64 0) 1 8 := TI.mk' Try.underlying3 (by kernel_rfl)
theorem ti32 : TI Try.prog 32 ds32 (.agg [(.int .i64 0), (.bool false), (.int .i64 0), (.int .i64 0)].toArray) 4 32 := TI.mk' Try.underlying32 (by kernel_rfl)
theorem ti4 : TI Try.prog 4 .bool (.bool false) 1 1 := TI.mk' Try.underlying4 (by kernel_rfl)
theorem ti40 : TI Try.prog 40 ds40 (.agg [(.int .i64 0), (.bool false), (.int .i64 0), (.int .i64 0)].toArray) 4 32 := TI.mk' Try.underlying40 (by kernel_rfl)

/-! ### plenum/query.New (function 7) -/
abbrev f_query_New.R := T_query_Asker
noncomputable def f_query_New (a0 : Int) : Option f_query_New.R := some (⟨a0, true, 1, 2⟩ : T_query_Asker)
set_option maxHeartbeats 1000000 in
theorem f_query_New.ok {z w : World} {F : Hp} {a0 : Int} {r : f_query_New.R} (H : f_query_New a0 = some r) (HF : Fits z w F) :
    Calls Try.prog 7 [.int .i64 a0].toArray w fun e w' => ∃ (g0 : Nat), e = .returned (.pointer (some ⟨g0, 0, none⟩)) ∧ Fits z w' (bk g0 40 [.int .i64 r.f_addr, .bool r.f_asks, .int .i64 r.f_left, .int .i64 r.f_starts] :: F) := by
  unfold f_query_New at H
  refine enter0 Try.func7 rfl Try.ntmps7 rfl (E := [(0, .int .i64 a0)]) rfl ?_
  refine cSeq (fun K1 hK1 => ?_)
  refine cRgn [] trivial ?_
  refine sL (asg rfl) rfl ?_
  refine lEnd (K := fun _ _ => True) ?_
  refine kN (?_)
  refine hK1 _ _ ?_
  refine cSeq (fun K2 hK2 => ?_)
  refine cRgn [] trivial ?_
  refine sL (mv rfl) rfl ?_
  refine sL (bd (r := [.int .i64 a0, .bool true, .int .i64 1, .int .i64 2]) pl40 ti40 rfl rfl) rfl ?_
  refine eBox HF rfl rfl (fun g1 w1 HF1 => ?_)
  refine sL (asg rfl) rfl ?_
  refine lEnd (K := fun _ _ => True) ?_
  refine kN (?_)
  refine hK2 _ _ ?_
  refine cRet ?_
  obtain rfl := Option.some.inj H
  refine ret1 rfl rfl ?_
  exact ⟨_, rfl, HF1⟩

/-! ### (*plenum/query.Asker).Tick (function 8) -/
abbrev f_query_Asker_Tick_obj.R := Bool × Bool × Int × Int
noncomputable def f_query_Asker_Tick_obj (a0 : T_query_Asker) : Option f_query_Asker_Tick_obj.R := (if 0 < (IntKind.i64.wrap (a0.f_left - 1)) then some (false, a0.f_asks, IntKind.i64.wrap (a0.f_left - 1), a0.f_starts) else ((((if a0.f_asks = true then some (.inl (decide (0 < a0.f_starts))) else some (.inl false)) : Option (Sum (Bool) f_query_Asker_Tick_obj.R))).bind fun y1 => match y1 with | .inl s1 => (if s1 = true then (if a0.f_asks = true then (if 0 < (IntKind.i64.wrap (a0.f_starts - 1)) then some (true, true, 6, IntKind.i64.wrap (a0.f_starts - 1)) else some (true, true, 25, IntKind.i64.wrap (a0.f_starts - 1))) else some (true, true, 25, IntKind.i64.wrap (a0.f_starts - 1))) else (if a0.f_asks = true then (if 0 < a0.f_starts then some (true, true, 6, a0.f_starts) else some (true, true, 25, a0.f_starts)) else some (true, true, 25, a0.f_starts))) | .inr r_ => some r_))
set_option maxHeartbeats 1000000 in
theorem f_query_Asker_Tick_obj.ok {z w : World} {F : Hp} {a0 : T_query_Asker} {g_a0 : Nat} {r : f_query_Asker_Tick_obj.R} (H : f_query_Asker_Tick_obj a0 = some r) (HF : Fits z w (bk g_a0 40 [.int .i64 a0.f_addr, .bool a0.f_asks, .int .i64 a0.f_left, .int .i64 a0.f_starts] :: F)) :
    Calls Try.prog 8 [.pointer (some ⟨g_a0, 0, none⟩)].toArray w fun e w' => e = .returned (.bool r.1) ∧ Fits z w' (bk g_a0 40 [.int .i64 a0.f_addr, .bool r.2.1, .int .i64 r.2.2.1, .int .i64 r.2.2.2] :: F) := by
  unfold f_query_Asker_Tick_obj at H
  refine enter0 Try.func8 rfl Try.ntmps8 rfl (E := [(0, .pointer (some ⟨g_a0, 0, none⟩))]) rfl ?_
  refine cSeq (fun K1 hK1 => ?_)
  refine cRgn [] trivial ?_
  refine sL (asg rfl) rfl ?_
  refine lEnd (K := fun _ _ => True) ?_
  refine kN (?_)
  refine hK1 _ _ ?_
  refine cSeq (fun K2 hK2 => ?_)
  refine cSeq (fun K3 hK3 => ?_)
  refine cRgn [] trivial ?_
  refine sL (mv rfl) rfl ?_
  refine sL (bPEql0 rfl rfl Try.underlying23) rfl ?_
  refine lEnd (K := fun _ _ => True) ?_
  refine kN (?_)
  refine hK3 _ _ ?_
  refine cF rfl ?_
  refine cSkip ?_
  refine kN (?_)
  refine hK2 _ _ ?_
  refine cSeq (fun K4 hK4 => ?_)
  refine cRgn [] trivial ?_
  refine sL (mv rfl) rfl ?_
  refine sL (nc rfl) rfl ?_
  refine sL (fa40_2 rfl) rfl ?_
  refine sL (ld rfl Try.underlying3 rfl (HF.box (mem_h) rfl)) rfl ?_
  refine sL (bSub rfl rfl) rfl ?_
  refine sL (nc rfl) rfl ?_
  refine sL (fa40_2 rfl) rfl ?_
  refine eSt1 (l1 := [.int .i64 a0.f_addr, .bool a0.f_asks, .int .i64 (IntKind.i64.wrap (a0.f_left - 1)), .int .i64 a0.f_starts]) HF rfl rfl ti3 rfl rfl rfl (fun w1 HF1 => ?_)
  refine lEnd (K := fun _ _ => True) ?_
  refine kN (?_)
  refine hK4 _ _ ?_
  refine cSeq (fun K5 hK5 => ?_)
  refine cSeq (fun K6 hK6 => ?_)
  refine cRgn [] trivial ?_
  refine sL (mv rfl) rfl ?_
  refine sL (nc rfl) rfl ?_
  refine sL (fa40_2 rfl) rfl ?_
  refine sL (ld rfl Try.underlying3 rfl (HF1.box (mem_h) rfl)) rfl ?_
  refine sL (bGtr rfl rfl) rfl ?_
  refine lEnd (K := fun _ _ => True) ?_
  refine kN (?_)
  refine hK6 _ _ ?_
  by_cases c1 : 0 < (IntKind.i64.wrap (a0.f_left - 1))
  · replace H := itT c1 H
    refine cSet (i := 16) rfl (dT c1) ?_
    refine cT rfl ?_
    refine cSeq (fun K7 hK7 => ?_)
    refine cRgn [] trivial ?_
    refine sL (asg rfl) rfl ?_
    refine lEnd (K := fun _ _ => True) ?_
    refine kN (?_)
    refine hK7 _ _ ?_
    refine cRet ?_
    obtain rfl := Option.some.inj H
    refine kR (?_)
    refine ret1 rfl rfl ?_
    exact ⟨rfl, HF1⟩
  · replace H := itF c1 H
    refine cSet (i := 16) rfl (dF c1) ?_
    refine cF rfl ?_
    refine cSkip ?_
    refine kN (?_)
    refine hK5 _ _ ?_
    refine cSeq (fun K8 hK8 => ?_)
    refine cBlock ?_
    refine cSeq (fun K9 hK9 => ?_)
    refine cBlock ?_
    refine cSeq (fun K10 hK10 => ?_)
    refine cBlock ?_
    refine cSeq (fun K11 hK11 => ?_)
    refine cSeq (fun K12 hK12 => ?_)
    replace H := bnd H; obtain ⟨y1, H, Ho1⟩ := H
    refine cJoin (y := y1) (fun (s1 : Bool) a w => Env 56 [(0, .pointer (some ⟨g_a0, 0, none⟩)), (2, .bool false), (17, .bool s1)] a ∧ Fits z w (bk g_a0 40 [.int .i64 a0.f_addr, .bool a0.f_asks, .int .i64 (IntKind.i64.wrap (a0.f_left - 1)), .int .i64 a0.f_starts] :: F)) ?_ ?_
    · refine cRgn [(4, 22)] ⟨rfl, trivial⟩ ?_
      refine sL (mv rfl) rfl ?_
      refine sL (nc rfl) rfl ?_
      refine sL (fa40_1 rfl) rfl ?_
      refine sL (ld rfl Try.underlying4 rfl (HF1.box (mem_h) rfl)) rfl ?_
      refine sL (mv rfl) rfl ?_
      by_cases c3 : a0.f_asks = true
      · replace H := itT c3 H
        refine lSet (i := 22) rfl (vT c3) ?_
        refine sG rfl rfl (mv rfl) rfl ?_
        refine sG rfl rfl (nc rfl) rfl ?_
        refine sG rfl rfl (fa40_3 rfl) rfl ?_
        refine sG rfl rfl (ld rfl Try.underlying3 rfl (HF1.box (mem_h) rfl)) rfl ?_
        refine sG rfl rfl (bGtr rfl rfl) rfl ?_
        refine sL (pkT rfl rfl) rfl ?_
        refine sL (asg rfl) rfl ?_
        refine lEnd (K := fun _ _ => True) ?_
        refine kN (?_)
        exact ofEnv (fun a hE => ⟨_, (Option.some.inj H).symm, hE.keep (Keep.cons rfl (Keep.cons rfl (Keep.cons rfl (Keep.nil)))), HF1⟩)
      · replace H := itF c3 H
        refine lSet (i := 22) rfl (vF c3) ?_
        refine sN rfl rfl rfl rfl ?_
        refine sN rfl rfl rfl rfl ?_
        refine sN rfl rfl rfl rfl ?_
        refine sN rfl rfl rfl rfl ?_
        refine sN rfl rfl rfl rfl ?_
        refine sL (pkF rfl rfl) rfl ?_
        refine sL (asg rfl) rfl ?_
        refine lEnd (K := fun _ _ => True) ?_
        refine kN (?_)
        exact ofEnv (fun a hE => ⟨_, (Option.some.inj H).symm, hE.keep (Keep.cons rfl (Keep.cons rfl (Keep.cons rfl (Keep.nil)))), HF1⟩)
    · rintro s1 a w2 rfl ⟨hE, HF2⟩
      replace H := Ho1
      refine go_k hE ?_
      refine kN (?_)
      refine hK12 _ _ ?_
      by_cases c4 : s1 = true
      · replace H := itT c4 H
        refine cSet (i := 17) rfl (vT c4) ?_
        refine cT rfl ?_
        refine cExit ?_
        refine kX (jX (kN (?_)))
        refine hK10 _ _ ?_
        refine cRgn [] trivial ?_
        refine sL (mv rfl) rfl ?_
        refine sL (nc rfl) rfl ?_
        refine sL (fa40_3 rfl) rfl ?_
        refine sL (ld rfl Try.underlying3 rfl (HF2.box (mem_h) rfl)) rfl ?_
        refine sL (bSub rfl rfl) rfl ?_
        refine sL (nc rfl) rfl ?_
        refine sL (fa40_3 rfl) rfl ?_
        refine eSt1 (l1 := [.int .i64 a0.f_addr, .bool a0.f_asks, .int .i64 (IntKind.i64.wrap (a0.f_left - 1)), .int .i64 (IntKind.i64.wrap (a0.f_starts - 1))]) HF2 rfl rfl ti3 rfl rfl rfl (fun w3 HF3 => ?_)
        refine lEnd (K := fun _ _ => True) ?_
        refine jN (kN (?_))
        refine hK9 _ _ ?_
        refine cSeq (fun K13 hK13 => ?_)
        refine cSeq (fun K14 hK14 => ?_)
        refine cRgn [] trivial ?_
        refine sL (mv rfl) rfl ?_
        refine sL (nc rfl) rfl ?_
        refine sL (fa40_2 rfl) rfl ?_
        refine eSt1 (l1 := [.int .i64 a0.f_addr, .bool a0.f_asks, .int .i64 25, .int .i64 (IntKind.i64.wrap (a0.f_starts - 1))]) HF3 rfl rfl ti3 rfl rfl rfl (fun w4 HF4 => ?_)
        refine lEnd (K := fun _ _ => True) ?_
        refine kN (?_)
        refine hK14 _ _ ?_
        refine cSeq (fun K15 hK15 => ?_)
        refine cRgn [(4, 43)] ⟨rfl, trivial⟩ ?_
        refine sL (mv rfl) rfl ?_
        refine sL (nc rfl) rfl ?_
        refine sL (fa40_1 rfl) rfl ?_
        refine sL (ld rfl Try.underlying4 rfl (HF4.box (mem_h) rfl)) rfl ?_
        refine sL (mv rfl) rfl ?_
        by_cases c5 : a0.f_asks = true
        · replace H := itT c5 H
          refine lSet (i := 43) rfl (vT c5) ?_
          refine sG rfl rfl (mv rfl) rfl ?_
          refine sG rfl rfl (nc rfl) rfl ?_
          refine sG rfl rfl (fa40_3 rfl) rfl ?_
          refine sG rfl rfl (ld rfl Try.underlying3 rfl (HF4.box (mem_h) rfl)) rfl ?_
          refine sG rfl rfl (bGtr rfl rfl) rfl ?_
          refine sL (pkT rfl rfl) rfl ?_
          refine lEnd (K := fun _ _ => True) ?_
          refine kN (?_)
          refine hK15 _ _ ?_
          by_cases c6 : 0 < (IntKind.i64.wrap (a0.f_starts - 1))
          · replace H := itT c6 H
            refine cSet (i := 49) rfl (dT c6) ?_
            refine cT rfl ?_
            refine cRgn [] trivial ?_
            refine sL (mv rfl) rfl ?_
            refine sL (nc rfl) rfl ?_
            refine sL (fa40_2 rfl) rfl ?_
            refine eSt1 (l1 := [.int .i64 a0.f_addr, .bool a0.f_asks, .int .i64 6, .int .i64 (IntKind.i64.wrap (a0.f_starts - 1))]) HF4 rfl rfl ti3 rfl rfl rfl (fun w5 HF5 => ?_)
            refine lEnd (K := fun _ _ => True) ?_
            refine kN (?_)
            refine hK13 _ _ ?_
            refine cExit ?_
            refine jX (kN (?_))
            refine hK8 _ _ ?_
            refine cSeq (fun K16 hK16 => ?_)
            refine cRgn [] trivial ?_
            refine sL (mv rfl) rfl ?_
            refine sL (nc rfl) rfl ?_
            refine sL (fa40_1 rfl) rfl ?_
            refine eSt1 (l1 := [.int .i64 a0.f_addr, .bool true, .int .i64 6, .int .i64 (IntKind.i64.wrap (a0.f_starts - 1))]) HF5 rfl rfl ti4 rfl rfl rfl (fun w6 HF6 => ?_)
            refine lEnd (K := fun _ _ => True) ?_
            refine kN (?_)
            refine hK16 _ _ ?_
            refine cSeq (fun K17 hK17 => ?_)
            refine cRgn [] trivial ?_
            refine sL (asg rfl) rfl ?_
            refine lEnd (K := fun _ _ => True) ?_
            refine kN (?_)
            refine hK17 _ _ ?_
            refine cRet ?_
            obtain rfl := Option.some.inj H
            refine ret1 rfl rfl ?_
            exact ⟨rfl, HF6⟩
          · replace H := itF c6 H
            refine cSet (i := 49) rfl (dF c6) ?_
            refine cF rfl ?_
            refine cSkip ?_
            refine kN (?_)
            refine hK13 _ _ ?_
            refine cExit ?_
            refine jX (kN (?_))
            refine hK8 _ _ ?_
            refine cSeq (fun K18 hK18 => ?_)
            refine cRgn [] trivial ?_
            refine sL (mv rfl) rfl ?_
            refine sL (nc rfl) rfl ?_
            refine sL (fa40_1 rfl) rfl ?_
            refine eSt1 (l1 := [.int .i64 a0.f_addr, .bool true, .int .i64 25, .int .i64 (IntKind.i64.wrap (a0.f_starts - 1))]) HF4 rfl rfl ti4 rfl rfl rfl (fun w7 HF7 => ?_)
            refine lEnd (K := fun _ _ => True) ?_
            refine kN (?_)
            refine hK18 _ _ ?_
            refine cSeq (fun K19 hK19 => ?_)
            refine cRgn [] trivial ?_
            refine sL (asg rfl) rfl ?_
            refine lEnd (K := fun _ _ => True) ?_
            refine kN (?_)
            refine hK19 _ _ ?_
            refine cRet ?_
            obtain rfl := Option.some.inj H
            refine ret1 rfl rfl ?_
            exact ⟨rfl, HF7⟩
        · replace H := itF c5 H
          refine lSet (i := 43) rfl (vF c5) ?_
          refine sN rfl rfl rfl rfl ?_
          refine sN rfl rfl rfl rfl ?_
          refine sN rfl rfl rfl rfl ?_
          refine sN rfl rfl rfl rfl ?_
          refine sN rfl rfl rfl rfl ?_
          refine sL (pkF rfl rfl) rfl ?_
          refine lEnd (K := fun _ _ => True) ?_
          refine kN (?_)
          refine hK15 _ _ ?_
          refine cF rfl ?_
          refine cSkip ?_
          refine kN (?_)
          refine hK13 _ _ ?_
          refine cExit ?_
          refine jX (kN (?_))
          refine hK8 _ _ ?_
          refine cSeq (fun K20 hK20 => ?_)
          refine cRgn [] trivial ?_
          refine sL (mv rfl) rfl ?_
          refine sL (nc rfl) rfl ?_
          refine sL (fa40_1 rfl) rfl ?_
          refine eSt1 (l1 := [.int .i64 a0.f_addr, .bool true, .int .i64 25, .int .i64 (IntKind.i64.wrap (a0.f_starts - 1))]) HF4 rfl rfl ti4 rfl rfl rfl (fun w8 HF8 => ?_)
          refine lEnd (K := fun _ _ => True) ?_
          refine kN (?_)
          refine hK20 _ _ ?_
          refine cSeq (fun K21 hK21 => ?_)
          refine cRgn [] trivial ?_
          refine sL (asg rfl) rfl ?_
          refine lEnd (K := fun _ _ => True) ?_
          refine kN (?_)
          refine hK21 _ _ ?_
          refine cRet ?_
          obtain rfl := Option.some.inj H
          refine ret1 rfl rfl ?_
          exact ⟨rfl, HF8⟩
      · replace H := itF c4 H
        refine cSet (i := 17) rfl (vF c4) ?_
        refine cF rfl ?_
        refine cSkip ?_
        refine kN (?_)
        refine hK11 _ _ ?_
        refine cExit ?_
        refine jY rfl (kX (jX (kN (?_))))
        refine hK9 _ _ ?_
        refine cSeq (fun K22 hK22 => ?_)
        refine cSeq (fun K23 hK23 => ?_)
        refine cRgn [] trivial ?_
        refine sL (mv rfl) rfl ?_
        refine sL (nc rfl) rfl ?_
        refine sL (fa40_2 rfl) rfl ?_
        refine eSt1 (l1 := [.int .i64 a0.f_addr, .bool a0.f_asks, .int .i64 25, .int .i64 a0.f_starts]) HF2 rfl rfl ti3 rfl rfl rfl (fun w9 HF9 => ?_)
        refine lEnd (K := fun _ _ => True) ?_
        refine kN (?_)
        refine hK23 _ _ ?_
        refine cSeq (fun K24 hK24 => ?_)
        refine cRgn [(4, 43)] ⟨rfl, trivial⟩ ?_
        refine sL (mv rfl) rfl ?_
        refine sL (nc rfl) rfl ?_
        refine sL (fa40_1 rfl) rfl ?_
        refine sL (ld rfl Try.underlying4 rfl (HF9.box (mem_h) rfl)) rfl ?_
        refine sL (mv rfl) rfl ?_
        by_cases c7 : a0.f_asks = true
        · replace H := itT c7 H
          refine lSet (i := 43) rfl (vT c7) ?_
          refine sG rfl rfl (mv rfl) rfl ?_
          refine sG rfl rfl (nc rfl) rfl ?_
          refine sG rfl rfl (fa40_3 rfl) rfl ?_
          refine sG rfl rfl (ld rfl Try.underlying3 rfl (HF9.box (mem_h) rfl)) rfl ?_
          refine sG rfl rfl (bGtr rfl rfl) rfl ?_
          refine sL (pkT rfl rfl) rfl ?_
          refine lEnd (K := fun _ _ => True) ?_
          refine kN (?_)
          refine hK24 _ _ ?_
          by_cases c8 : 0 < a0.f_starts
          · replace H := itT c8 H
            refine cSet (i := 49) rfl (dT c8) ?_
            refine cT rfl ?_
            refine cRgn [] trivial ?_
            refine sL (mv rfl) rfl ?_
            refine sL (nc rfl) rfl ?_
            refine sL (fa40_2 rfl) rfl ?_
            refine eSt1 (l1 := [.int .i64 a0.f_addr, .bool a0.f_asks, .int .i64 6, .int .i64 a0.f_starts]) HF9 rfl rfl ti3 rfl rfl rfl (fun w10 HF10 => ?_)
            refine lEnd (K := fun _ _ => True) ?_
            refine kN (?_)
            refine hK22 _ _ ?_
            refine cExit ?_
            refine jX (kN (?_))
            refine hK8 _ _ ?_
            refine cSeq (fun K25 hK25 => ?_)
            refine cRgn [] trivial ?_
            refine sL (mv rfl) rfl ?_
            refine sL (nc rfl) rfl ?_
            refine sL (fa40_1 rfl) rfl ?_
            refine eSt1 (l1 := [.int .i64 a0.f_addr, .bool true, .int .i64 6, .int .i64 a0.f_starts]) HF10 rfl rfl ti4 rfl rfl rfl (fun w11 HF11 => ?_)
            refine lEnd (K := fun _ _ => True) ?_
            refine kN (?_)
            refine hK25 _ _ ?_
            refine cSeq (fun K26 hK26 => ?_)
            refine cRgn [] trivial ?_
            refine sL (asg rfl) rfl ?_
            refine lEnd (K := fun _ _ => True) ?_
            refine kN (?_)
            refine hK26 _ _ ?_
            refine cRet ?_
            obtain rfl := Option.some.inj H
            refine ret1 rfl rfl ?_
            exact ⟨rfl, HF11⟩
          · replace H := itF c8 H
            refine cSet (i := 49) rfl (dF c8) ?_
            refine cF rfl ?_
            refine cSkip ?_
            refine kN (?_)
            refine hK22 _ _ ?_
            refine cExit ?_
            refine jX (kN (?_))
            refine hK8 _ _ ?_
            refine cSeq (fun K27 hK27 => ?_)
            refine cRgn [] trivial ?_
            refine sL (mv rfl) rfl ?_
            refine sL (nc rfl) rfl ?_
            refine sL (fa40_1 rfl) rfl ?_
            refine eSt1 (l1 := [.int .i64 a0.f_addr, .bool true, .int .i64 25, .int .i64 a0.f_starts]) HF9 rfl rfl ti4 rfl rfl rfl (fun w12 HF12 => ?_)
            refine lEnd (K := fun _ _ => True) ?_
            refine kN (?_)
            refine hK27 _ _ ?_
            refine cSeq (fun K28 hK28 => ?_)
            refine cRgn [] trivial ?_
            refine sL (asg rfl) rfl ?_
            refine lEnd (K := fun _ _ => True) ?_
            refine kN (?_)
            refine hK28 _ _ ?_
            refine cRet ?_
            obtain rfl := Option.some.inj H
            refine ret1 rfl rfl ?_
            exact ⟨rfl, HF12⟩
        · replace H := itF c7 H
          refine lSet (i := 43) rfl (vF c7) ?_
          refine sN rfl rfl rfl rfl ?_
          refine sN rfl rfl rfl rfl ?_
          refine sN rfl rfl rfl rfl ?_
          refine sN rfl rfl rfl rfl ?_
          refine sN rfl rfl rfl rfl ?_
          refine sL (pkF rfl rfl) rfl ?_
          refine lEnd (K := fun _ _ => True) ?_
          refine kN (?_)
          refine hK24 _ _ ?_
          refine cF rfl ?_
          refine cSkip ?_
          refine kN (?_)
          refine hK22 _ _ ?_
          refine cExit ?_
          refine jX (kN (?_))
          refine hK8 _ _ ?_
          refine cSeq (fun K29 hK29 => ?_)
          refine cRgn [] trivial ?_
          refine sL (mv rfl) rfl ?_
          refine sL (nc rfl) rfl ?_
          refine sL (fa40_1 rfl) rfl ?_
          refine eSt1 (l1 := [.int .i64 a0.f_addr, .bool true, .int .i64 25, .int .i64 a0.f_starts]) HF9 rfl rfl ti4 rfl rfl rfl (fun w13 HF13 => ?_)
          refine lEnd (K := fun _ _ => True) ?_
          refine kN (?_)
          refine hK29 _ _ ?_
          refine cSeq (fun K30 hK30 => ?_)
          refine cRgn [] trivial ?_
          refine sL (asg rfl) rfl ?_
          refine lEnd (K := fun _ _ => True) ?_
          refine kN (?_)
          refine hK30 _ _ ?_
          refine cRet ?_
          obtain rfl := Option.some.inj H
          refine ret1 rfl rfl ?_
          exact ⟨rfl, HF13⟩

/-! ### (*plenum/query.Asker).Asks (function 9) -/
abbrev f_query_Asker_Asks_obj.R := Bool
noncomputable def f_query_Asker_Asks_obj (a0 : T_query_Asker) : Option f_query_Asker_Asks_obj.R := some a0.f_asks
set_option maxHeartbeats 1000000 in
theorem f_query_Asker_Asks_obj.ok {z w : World} {F : Hp} {a0 : T_query_Asker} {g_a0 : Nat} {r : f_query_Asker_Asks_obj.R} (H : f_query_Asker_Asks_obj a0 = some r) (HF : Fits z w (bk g_a0 40 [.int .i64 a0.f_addr, .bool a0.f_asks, .int .i64 a0.f_left, .int .i64 a0.f_starts] :: F)) :
    Calls Try.prog 9 [.pointer (some ⟨g_a0, 0, none⟩)].toArray w fun e w' => e = .returned (.bool r) ∧ Fits z w' (bk g_a0 40 [.int .i64 a0.f_addr, .bool a0.f_asks, .int .i64 a0.f_left, .int .i64 a0.f_starts] :: F) := by
  unfold f_query_Asker_Asks_obj at H
  refine enter0 Try.func9 rfl Try.ntmps9 rfl (E := [(0, .pointer (some ⟨g_a0, 0, none⟩))]) rfl ?_
  refine cSeq (fun K1 hK1 => ?_)
  refine cRgn [] trivial ?_
  refine sL (asg rfl) rfl ?_
  refine lEnd (K := fun _ _ => True) ?_
  refine kN (?_)
  refine hK1 _ _ ?_
  refine cSeq (fun K2 hK2 => ?_)
  refine cRgn [(2, 5)] ⟨rfl, trivial⟩ ?_
  refine sL (mv rfl) rfl ?_
  refine sL (bPNeq0 rfl rfl Try.underlying23) rfl ?_
  refine sL (mv rfl) rfl ?_
  refine sG rfl rfl (mv rfl) rfl ?_
  refine sG rfl rfl (nc rfl) rfl ?_
  refine sG rfl rfl (fa40_1 rfl) rfl ?_
  refine sG rfl rfl (ld rfl Try.underlying4 rfl (HF.box (mem_h) rfl)) rfl ?_
  refine sL (pkT rfl rfl) rfl ?_
  refine sL (asg rfl) rfl ?_
  refine lEnd (K := fun _ _ => True) ?_
  refine kN (?_)
  refine hK2 _ _ ?_
  refine cRet ?_
  obtain rfl := Option.some.inj H
  refine ret1 rfl rfl ?_
  exact ⟨rfl, HF⟩

/-! ### plenum/plenumlaw20.awake (function 10) -/
abbrev f_plenumlaw20_awake.R := Bool
noncomputable def f_plenumlaw20_awake : Option f_plenumlaw20_awake.R := ((f_query_New 5).bind fun t1 => ((f_query_Asker_Asks_obj t1).bind fun t2 => (if t2 = true then ((f_query_Asker_Tick_obj t1).bind fun (t3, t4, t5, t6) => some t3) else some false)))
set_option maxHeartbeats 1000000 in
theorem f_plenumlaw20_awake.ok {z w : World} {F : Hp} {r : f_plenumlaw20_awake.R} (H : f_plenumlaw20_awake = some r) (HF : Fits z w F) :
    Calls Try.prog 10 [].toArray w fun e w' => e = .returned (.bool r) ∧ Fits z w' F := by
  unfold f_plenumlaw20_awake at H
  refine enter0 Try.func10 rfl Try.ntmps10 rfl (E := []) rfl ?_
  refine cSeq (fun K1 hK1 => ?_)
  refine cRgn [] trivial ?_
  refine sL (asg rfl) rfl ?_
  refine lEnd (K := fun _ _ => True) ?_
  refine kN (?_)
  refine hK1 _ _ ?_
  refine cSeq (fun K2 hK2 => ?_)
  refine cRgn [] trivial ?_
  replace H := bnd H; obtain ⟨t1, J1, H⟩ := H
  refine eCall isf7 rfl rfl rfl (f_query_New.ok J1 HF) ?_
  rintro _ w1 ⟨g1, rfl, HF1⟩
  refine ⟨_, rfl, ?_⟩
  refine sL (asg rfl) rfl ?_
  refine lEnd (K := fun _ _ => True) ?_
  refine kN (?_)
  refine hK2 _ _ ?_
  refine cSeq (fun K3 hK3 => ?_)
  refine cRgn [(2, 5), (6, 9)] ⟨rfl, rfl, trivial⟩ ?_
  refine sL (mv rfl) rfl ?_
  refine sL (bPNeq0 rfl rfl Try.underlying23) rfl ?_
  refine sL (mv rfl) rfl ?_
  refine sG rfl rfl (mv rfl) rfl ?_
  replace H := bnd H; obtain ⟨t2, J2, H⟩ := H
  refine eCallG rfl rfl isf9 rfl rfl rfl (f_query_Asker_Asks_obj.ok J2 HF1) ?_
  rintro _ w2 ⟨rfl, HF2⟩
  refine ⟨_, rfl, ?_⟩
  refine sL (pkT rfl rfl) rfl ?_
  refine sL (mv rfl) rfl ?_
  by_cases c1 : t2 = true
  · replace H := itT c1 H
    refine lSet (i := 9) rfl (vT c1) ?_
    refine sG rfl rfl (mv rfl) rfl ?_
    replace H := bnd H; obtain ⟨⟨t3, t4, t5, t6⟩, J3, H⟩ := H
    refine eCallG rfl rfl isf8 rfl rfl rfl (f_query_Asker_Tick_obj.ok J3 HF2) ?_
    rintro _ w3 ⟨rfl, HF3⟩
    refine ⟨_, rfl, ?_⟩
    refine sL (pkT rfl rfl) rfl ?_
    refine sL (asg rfl) rfl ?_
    refine lEnd (K := fun _ _ => True) ?_
    refine kN (?_)
    refine hK3 _ _ ?_
    refine cRet ?_
    obtain rfl := Option.some.inj H
    refine ret1 rfl rfl ?_
    have HF4 := HF3.drop1
    exact ⟨rfl, HF4⟩
  · replace H := itF c1 H
    refine lSet (i := 9) rfl (vF c1) ?_
    refine sN rfl rfl rfl rfl ?_
    refine sN rfl rfl rfl rfl ?_
    refine sL (pkF rfl rfl) rfl ?_
    refine sL (asg rfl) rfl ?_
    refine lEnd (K := fun _ _ => True) ?_
    refine kN (?_)
    refine hK3 _ _ ?_
    refine cRet ?_
    obtain rfl := Option.some.inj H
    refine ret1 rfl rfl ?_
    have HF5 := HF2.drop1
    exact ⟨rfl, HF5⟩

/-! ### plenum/plenumlaw20.QueryAlone (function 3) -/
abbrev f_plenumlaw20_QueryAlone.R := Bool
noncomputable def f_plenumlaw20_QueryAlone.b0 (a1 : Int) (t1 : T_query_Asker) (s1 : Int × Bool × Int × Int) : Option (Sum (Int × Bool × Int × Int) (Sum (Int × Bool × Int × Int) f_plenumlaw20_QueryAlone.R)) := (if s1.1 ≤ (IntKind.i64.wrap a1) then (if s1.1 = 1 then ((f_query_Asker_Tick_obj (⟨t1.f_addr, s1.2.1, s1.2.2.1, s1.2.2.2⟩ : T_query_Asker)).bind fun (t22, t23, t24, t25) => (if (t22 == true) = true then ((f_query_Asker_Asks_obj (⟨t1.f_addr, t23, t24, t25⟩ : T_query_Asker)).bind fun t26 => (if t26 = true then some (.inl (IntKind.i64.wrap (s1.1 + 1), t23, t24, t25)) else some (.inr (.inr false)))) else some (.inr (.inr false)))) else (if 7 ≤ s1.1 then ((f_query_Asker_Tick_obj (⟨t1.f_addr, s1.2.1, s1.2.2.1, s1.2.2.2⟩ : T_query_Asker)).bind fun (t27, t28, t29, t30) => (if (t27 == (decide ((Int.tmod (IntKind.i64.wrap (s1.1 - 7)) 25) = 0))) = true then ((f_query_Asker_Asks_obj (⟨t1.f_addr, t28, t29, t30⟩ : T_query_Asker)).bind fun t31 => (if t31 = true then some (.inl (IntKind.i64.wrap (s1.1 + 1), t28, t29, t30)) else some (.inr (.inr false)))) else some (.inr (.inr false)))) else ((f_query_Asker_Tick_obj (⟨t1.f_addr, s1.2.1, s1.2.2.1, s1.2.2.2⟩ : T_query_Asker)).bind fun (t32, t33, t34, t35) => (if (t32 == false) = true then ((f_query_Asker_Asks_obj (⟨t1.f_addr, t33, t34, t35⟩ : T_query_Asker)).bind fun t36 => (if t36 = true then some (.inl (IntKind.i64.wrap (s1.1 + 1), t33, t34, t35)) else some (.inr (.inr false)))) else some (.inr (.inr false)))))) else some (.inr (.inl (s1.1, s1.2.1, s1.2.2.1, s1.2.2.2))))
noncomputable def f_plenumlaw20_QueryAlone (a0 : Int) (a1 : Int) : Option f_plenumlaw20_QueryAlone.R := ((f_query_New (IntKind.i64.wrap a0)).bind fun t1 => ((loopO (f_plenumlaw20_QueryAlone.b0 a1 t1) (1, t1.f_asks, t1.f_left, t1.f_starts)).bind fun y1 => match y1 with | .inl s1 => ((f_plenumlaw20_awake).bind fun t37 => some t37) | .inr r_ => some r_))
set_option maxHeartbeats 1000000 in
theorem f_plenumlaw20_QueryAlone.ok {z w : World} {F : Hp} {a0 : Int} {a1 : Int} {r : f_plenumlaw20_QueryAlone.R} (H : f_plenumlaw20_QueryAlone a0 a1 = some r) (HF : Fits z w F) :
    Calls Try.prog 3 [.int .u16 a0, .int .u8 a1].toArray w fun e w' => e = .returned (.bool r) ∧ Fits z w' F := by
  unfold f_plenumlaw20_QueryAlone at H
  refine enter0 Try.func3 rfl Try.ntmps3 rfl (E := [(0, .int .u16 a0), (1, .int .u8 a1)]) rfl ?_
  refine cSeq (fun K1 hK1 => ?_)
  refine cRgn [] trivial ?_
  refine sL (asg rfl) rfl ?_
  refine lEnd (K := fun _ _ => True) ?_
  refine kN (?_)
  refine hK1 _ _ ?_
  refine cSeq (fun K2 hK2 => ?_)
  refine cRgn [] trivial ?_
  refine sL (mv rfl) rfl ?_
  refine sL (cvI rfl Try.underlying22 Try.underlying3) rfl ?_
  replace H := bnd H; obtain ⟨t1, J1, H⟩ := H
  refine eCall isf7 rfl rfl rfl (f_query_New.ok J1 HF) ?_
  rintro _ w1 ⟨g1, rfl, HF1⟩
  refine ⟨_, rfl, ?_⟩
  refine sL (asg rfl) rfl ?_
  refine lEnd (K := fun _ _ => True) ?_
  refine kN (?_)
  refine hK2 _ _ ?_
  refine cSeq (fun K3 hK3 => ?_)
  refine cSeq (fun K4 hK4 => ?_)
  refine cRgn [] trivial ?_
  refine sL (mv rfl) rfl ?_
  refine sL (bPEql0 rfl rfl Try.underlying23) rfl ?_
  refine lEnd (K := fun _ _ => True) ?_
  refine kN (?_)
  refine hK4 _ _ ?_
  refine cF rfl ?_
  refine cSkip ?_
  refine kN (?_)
  refine hK3 _ _ ?_
  refine cSeq (fun K5 hK5 => ?_)
  refine cSeq (fun K6 hK6 => ?_)
  refine cRgn [] trivial ?_
  refine sL (asg rfl) rfl ?_
  refine lEnd (K := fun _ _ => True) ?_
  refine kN (?_)
  refine hK6 _ _ ?_
  replace H := bnd H; obtain ⟨y1, J17, Ho1⟩ := H
  refine cLoopB (f_plenumlaw20_QueryAlone.b0 a1 t1) (fun (s1 : Int × Bool × Int × Int) a w => Env 41 [(1, .int .u8 a1), (4, .bool false), (5, .pointer (some ⟨g1, 0, none⟩)), (6, .int .i64 s1.1)] a ∧ Fits z w (bk g1 40 [.int .i64 t1.f_addr, .bool s1.2.1, .int .i64 s1.2.2.1, .int .i64 s1.2.2.2] :: F)) J17 (fun a hE => ⟨hE.keep (Keep.cons rfl (Keep.cons rfl (Keep.cons rfl (Keep.cons rfl (Keep.nil))))), HF1⟩) ?_ ?_
  · rintro s1 a w10 y2 ⟨hE, HF10⟩ H Hx1
    refine go_ hE ?_
    refine cSeq (fun K27 hK27 => ?_)
    refine cSeq (fun K28 hK28 => ?_)
    refine cRgn [] trivial ?_
    refine sL (mv rfl) rfl ?_
    refine sL (mv rfl) rfl ?_
    refine sL (cvI rfl Try.underlying5 Try.underlying3) rfl ?_
    refine sL (bLeq rfl rfl) rfl ?_
    refine lEnd (K := fun _ _ => True) ?_
    refine kN (?_)
    refine hK28 _ _ ?_
    by_cases c13 : s1.1 ≤ (IntKind.i64.wrap a1)
    · replace H := itT c13 H
      refine cSet (i := 16) rfl (dT c13) ?_
      refine cT rfl ?_
      refine cSkip ?_
      refine kN (?_)
      refine hK27 _ _ ?_
      refine cSeq (fun K29 hK29 => ?_)
      refine cBlock ?_
      refine cSeq (fun K30 hK30 => ?_)
      refine cRgn [(2, 21), (5, 24)] ⟨rfl, rfl, trivial⟩ ?_
      refine sL (mv rfl) rfl ?_
      refine sL (bEql rfl rfl) rfl ?_
      refine sL (mv rfl) rfl ?_
      by_cases c14 : s1.1 = 1
      · replace H := itT c14 H
        refine lSet (i := 21) rfl (dT c14) ?_
        refine sN rfl rfl rfl rfl ?_
        refine sN rfl rfl rfl rfl ?_
        refine sN rfl rfl rfl rfl ?_
        refine sU rfl rfl rfl rfl ?_
        refine sU rfl rfl rfl rfl ?_
        refine sU rfl rfl rfl rfl ?_
        refine sU rfl rfl rfl rfl ?_
        refine sN rfl rfl rfl rfl ?_
        refine sL (pkT rfl rfl) rfl ?_
        refine sL (asg rfl) rfl ?_
        refine lEnd (K := fun _ _ => True) ?_
        refine kN (?_)
        refine hK30 _ _ ?_
        refine cSeq (fun K31 hK31 => ?_)
        refine cRgn [(4, 35)] ⟨rfl, trivial⟩ ?_
        refine sL (mv rfl) rfl ?_
        replace H := bnd H; obtain ⟨⟨t22, t23, t24, t25⟩, J10, H⟩ := H
        refine eCall isf8 rfl rfl rfl (f_query_Asker_Tick_obj.ok J10 HF10) ?_
        rintro _ w11 ⟨rfl, HF11⟩
        refine ⟨_, rfl, ?_⟩
        refine sL (mv rfl) rfl ?_
        refine sL (bBNeq rfl rfl Try.underlying4) rfl ?_
        refine sL (mv rfl) rfl ?_
        by_cases c15 : (t22 == true) = true
        · replace H := itT c15 H
          refine lSet (i := 35) rfl (wF c15) ?_
          refine sG rfl rfl (mv rfl) rfl ?_
          replace H := bnd H; obtain ⟨t26, J11, H⟩ := H
          refine eCallG rfl rfl isf9 rfl rfl rfl (f_query_Asker_Asks_obj.ok J11 HF11) ?_
          rintro _ w12 ⟨rfl, HF12⟩
          refine ⟨_, rfl, ?_⟩
          refine sG rfl rfl (uNot rfl) rfl ?_
          refine sL (pkF rfl rfl) rfl ?_
          refine lEnd (K := fun _ _ => True) ?_
          refine kN (?_)
          refine hK31 _ _ ?_
          by_cases c16 : t26 = true
          · replace H := itT c16 H
            refine cSet (i := 39) rfl (wF c16) ?_
            refine cF rfl ?_
            refine cSkip ?_
            refine jN (kN (?_))
            refine hK29 _ _ ?_
            refine cRgn [] trivial ?_
            refine sL (mv rfl) rfl ?_
            refine sL (bAdd rfl rfl) rfl ?_
            refine sL (asg rfl) rfl ?_
            refine lEnd (K := fun _ _ => True) ?_
            refine kN (?_)
            exact ofEnv (fun a hE => ⟨_, (Option.some.inj H).symm, hE.keep (Keep.cons rfl (Keep.cons rfl (Keep.cons rfl (Keep.cons rfl (Keep.nil))))), HF12⟩)
          · replace H := itF c16 H
            refine cSet (i := 39) rfl (wT c16) ?_
            refine cT rfl ?_
            refine cSeq (fun K32 hK32 => ?_)
            refine cRgn [] trivial ?_
            refine sL (asg rfl) rfl ?_
            refine lEnd (K := fun _ _ => True) ?_
            refine kN (?_)
            refine hK32 _ _ ?_
            refine cRet ?_
            have e_ := Hx1 _ (Option.some.inj H).symm
            subst e_
            replace H := Ho1
            obtain rfl := Option.some.inj H
            refine jR (kR (kR (jR (kR (kR (?_))))))
            refine ret1 rfl rfl ?_
            have HF13 := HF12.drop1
            exact ⟨rfl, HF13⟩
        · replace H := itF c15 H
          refine lSet (i := 35) rfl (wT c15) ?_
          refine sN rfl rfl rfl rfl ?_
          refine sN rfl rfl rfl rfl ?_
          refine sN rfl rfl rfl rfl ?_
          refine sL (pkT rfl rfl) rfl ?_
          refine lEnd (K := fun _ _ => True) ?_
          refine kN (?_)
          refine hK31 _ _ ?_
          refine cT rfl ?_
          refine cSeq (fun K33 hK33 => ?_)
          refine cRgn [] trivial ?_
          refine sL (asg rfl) rfl ?_
          refine lEnd (K := fun _ _ => True) ?_
          refine kN (?_)
          refine hK33 _ _ ?_
          refine cRet ?_
          have e_ := Hx1 _ (Option.some.inj H).symm
          subst e_
          replace H := Ho1
          obtain rfl := Option.some.inj H
          refine jR (kR (kR (jR (kR (kR (?_))))))
          refine ret1 rfl rfl ?_
          have HF14 := HF11.drop1
          exact ⟨rfl, HF14⟩
      · replace H := itF c14 H
        refine lSet (i := 21) rfl (dF c14) ?_
        refine sG rfl rfl (mv rfl) rfl ?_
        refine sG rfl rfl (bGeq rfl rfl) rfl ?_
        refine sG rfl rfl (mv rfl) rfl ?_
        by_cases c17 : 7 ≤ s1.1
        · replace H := itT c17 H
          refine lSet (i := 24) rfl (dT c17) ?_
          refine sG rfl rfl (mv rfl) rfl ?_
          refine sG rfl rfl (bSub rfl rfl) rfl ?_
          refine sG rfl rfl (bRem rfl rfl (by decide)) rfl ?_
          refine sG rfl rfl (bEql rfl rfl) rfl ?_
          refine sG rfl rfl (pkT rfl rfl) rfl ?_
          refine sL (pkF rfl rfl) rfl ?_
          refine sL (asg rfl) rfl ?_
          refine lEnd (K := fun _ _ => True) ?_
          refine kN (?_)
          refine hK30 _ _ ?_
          refine cSeq (fun K34 hK34 => ?_)
          refine cRgn [(4, 35)] ⟨rfl, trivial⟩ ?_
          refine sL (mv rfl) rfl ?_
          replace H := bnd H; obtain ⟨⟨t27, t28, t29, t30⟩, J12, H⟩ := H
          refine eCall isf8 rfl rfl rfl (f_query_Asker_Tick_obj.ok J12 HF10) ?_
          rintro _ w13 ⟨rfl, HF15⟩
          refine ⟨_, rfl, ?_⟩
          refine sL (mv rfl) rfl ?_
          refine sL (bBNeq rfl rfl Try.underlying4) rfl ?_
          refine sL (mv rfl) rfl ?_
          by_cases c18 : (t27 == (decide ((Int.tmod (IntKind.i64.wrap (s1.1 - 7)) 25) = 0))) = true
          · replace H := itT c18 H
            refine lSet (i := 35) rfl (wF c18) ?_
            refine sG rfl rfl (mv rfl) rfl ?_
            replace H := bnd H; obtain ⟨t31, J13, H⟩ := H
            refine eCallG rfl rfl isf9 rfl rfl rfl (f_query_Asker_Asks_obj.ok J13 HF15) ?_
            rintro _ w14 ⟨rfl, HF16⟩
            refine ⟨_, rfl, ?_⟩
            refine sG rfl rfl (uNot rfl) rfl ?_
            refine sL (pkF rfl rfl) rfl ?_
            refine lEnd (K := fun _ _ => True) ?_
            refine kN (?_)
            refine hK34 _ _ ?_
            by_cases c19 : t31 = true
            · replace H := itT c19 H
              refine cSet (i := 39) rfl (wF c19) ?_
              refine cF rfl ?_
              refine cSkip ?_
              refine jN (kN (?_))
              refine hK29 _ _ ?_
              refine cRgn [] trivial ?_
              refine sL (mv rfl) rfl ?_
              refine sL (bAdd rfl rfl) rfl ?_
              refine sL (asg rfl) rfl ?_
              refine lEnd (K := fun _ _ => True) ?_
              refine kN (?_)
              exact ofEnv (fun a hE => ⟨_, (Option.some.inj H).symm, hE.keep (Keep.cons rfl (Keep.cons rfl (Keep.cons rfl (Keep.cons rfl (Keep.nil))))), HF16⟩)
            · replace H := itF c19 H
              refine cSet (i := 39) rfl (wT c19) ?_
              refine cT rfl ?_
              refine cSeq (fun K35 hK35 => ?_)
              refine cRgn [] trivial ?_
              refine sL (asg rfl) rfl ?_
              refine lEnd (K := fun _ _ => True) ?_
              refine kN (?_)
              refine hK35 _ _ ?_
              refine cRet ?_
              have e_ := Hx1 _ (Option.some.inj H).symm
              subst e_
              replace H := Ho1
              obtain rfl := Option.some.inj H
              refine jR (kR (kR (jR (kR (kR (?_))))))
              refine ret1 rfl rfl ?_
              have HF17 := HF16.drop1
              exact ⟨rfl, HF17⟩
          · replace H := itF c18 H
            refine lSet (i := 35) rfl (wT c18) ?_
            refine sN rfl rfl rfl rfl ?_
            refine sN rfl rfl rfl rfl ?_
            refine sN rfl rfl rfl rfl ?_
            refine sL (pkT rfl rfl) rfl ?_
            refine lEnd (K := fun _ _ => True) ?_
            refine kN (?_)
            refine hK34 _ _ ?_
            refine cT rfl ?_
            refine cSeq (fun K36 hK36 => ?_)
            refine cRgn [] trivial ?_
            refine sL (asg rfl) rfl ?_
            refine lEnd (K := fun _ _ => True) ?_
            refine kN (?_)
            refine hK36 _ _ ?_
            refine cRet ?_
            have e_ := Hx1 _ (Option.some.inj H).symm
            subst e_
            replace H := Ho1
            obtain rfl := Option.some.inj H
            refine jR (kR (kR (jR (kR (kR (?_))))))
            refine ret1 rfl rfl ?_
            have HF18 := HF15.drop1
            exact ⟨rfl, HF18⟩
        · replace H := itF c17 H
          refine lSet (i := 24) rfl (dF c17) ?_
          refine sN rfl rfl rfl rfl ?_
          refine sN rfl rfl rfl rfl ?_
          refine sN rfl rfl rfl rfl ?_
          refine sN rfl rfl rfl rfl ?_
          refine sG rfl rfl (pkF rfl rfl) rfl ?_
          refine sL (pkF rfl rfl) rfl ?_
          refine sL (asg rfl) rfl ?_
          refine lEnd (K := fun _ _ => True) ?_
          refine kN (?_)
          refine hK30 _ _ ?_
          refine cSeq (fun K37 hK37 => ?_)
          refine cRgn [(4, 35)] ⟨rfl, trivial⟩ ?_
          refine sL (mv rfl) rfl ?_
          replace H := bnd H; obtain ⟨⟨t32, t33, t34, t35⟩, J14, H⟩ := H
          refine eCall isf8 rfl rfl rfl (f_query_Asker_Tick_obj.ok J14 HF10) ?_
          rintro _ w15 ⟨rfl, HF19⟩
          refine ⟨_, rfl, ?_⟩
          refine sL (mv rfl) rfl ?_
          refine sL (bBNeq rfl rfl Try.underlying4) rfl ?_
          refine sL (mv rfl) rfl ?_
          by_cases c20 : (t32 == false) = true
          · replace H := itT c20 H
            refine lSet (i := 35) rfl (wF c20) ?_
            refine sG rfl rfl (mv rfl) rfl ?_
            replace H := bnd H; obtain ⟨t36, J15, H⟩ := H
            refine eCallG rfl rfl isf9 rfl rfl rfl (f_query_Asker_Asks_obj.ok J15 HF19) ?_
            rintro _ w16 ⟨rfl, HF20⟩
            refine ⟨_, rfl, ?_⟩
            refine sG rfl rfl (uNot rfl) rfl ?_
            refine sL (pkF rfl rfl) rfl ?_
            refine lEnd (K := fun _ _ => True) ?_
            refine kN (?_)
            refine hK37 _ _ ?_
            by_cases c21 : t36 = true
            · replace H := itT c21 H
              refine cSet (i := 39) rfl (wF c21) ?_
              refine cF rfl ?_
              refine cSkip ?_
              refine jN (kN (?_))
              refine hK29 _ _ ?_
              refine cRgn [] trivial ?_
              refine sL (mv rfl) rfl ?_
              refine sL (bAdd rfl rfl) rfl ?_
              refine sL (asg rfl) rfl ?_
              refine lEnd (K := fun _ _ => True) ?_
              refine kN (?_)
              exact ofEnv (fun a hE => ⟨_, (Option.some.inj H).symm, hE.keep (Keep.cons rfl (Keep.cons rfl (Keep.cons rfl (Keep.cons rfl (Keep.nil))))), HF20⟩)
            · replace H := itF c21 H
              refine cSet (i := 39) rfl (wT c21) ?_
              refine cT rfl ?_
              refine cSeq (fun K38 hK38 => ?_)
              refine cRgn [] trivial ?_
              refine sL (asg rfl) rfl ?_
              refine lEnd (K := fun _ _ => True) ?_
              refine kN (?_)
              refine hK38 _ _ ?_
              refine cRet ?_
              have e_ := Hx1 _ (Option.some.inj H).symm
              subst e_
              replace H := Ho1
              obtain rfl := Option.some.inj H
              refine jR (kR (kR (jR (kR (kR (?_))))))
              refine ret1 rfl rfl ?_
              have HF21 := HF20.drop1
              exact ⟨rfl, HF21⟩
          · replace H := itF c20 H
            refine lSet (i := 35) rfl (wT c20) ?_
            refine sN rfl rfl rfl rfl ?_
            refine sN rfl rfl rfl rfl ?_
            refine sN rfl rfl rfl rfl ?_
            refine sL (pkT rfl rfl) rfl ?_
            refine lEnd (K := fun _ _ => True) ?_
            refine kN (?_)
            refine hK37 _ _ ?_
            refine cT rfl ?_
            refine cSeq (fun K39 hK39 => ?_)
            refine cRgn [] trivial ?_
            refine sL (asg rfl) rfl ?_
            refine lEnd (K := fun _ _ => True) ?_
            refine kN (?_)
            refine hK39 _ _ ?_
            refine cRet ?_
            have e_ := Hx1 _ (Option.some.inj H).symm
            subst e_
            replace H := Ho1
            obtain rfl := Option.some.inj H
            refine jR (kR (kR (jR (kR (kR (?_))))))
            refine ret1 rfl rfl ?_
            have HF22 := HF19.drop1
            exact ⟨rfl, HF22⟩
    · replace H := itF c13 H
      refine cSet (i := 16) rfl (dF c13) ?_
      refine cF rfl ?_
      refine cExit ?_
      refine kX (kX (jX (kN (?_))))
      exact ofEnv (fun a hE => ⟨_, (Option.some.inj H).symm, hE.keep (Keep.cons rfl (Keep.cons rfl (Keep.cons rfl (Keep.cons rfl (Keep.nil))))), HF10⟩)
  · rintro s1 a w17 rfl ⟨hE, HF23⟩
    replace H := Ho1
    refine go_k hE ?_
    refine kN (?_)
    refine hK5 _ _ ?_
    refine cSeq (fun K40 hK40 => ?_)
    refine cRgn [] trivial ?_
    replace H := bnd H; obtain ⟨t37, J16, H⟩ := H
    refine eCall isf10 rfl rfl rfl (f_plenumlaw20_awake.ok J16 HF23) ?_
    rintro _ w18 ⟨rfl, HF24⟩
    refine ⟨_, rfl, ?_⟩
    refine sL (asg rfl) rfl ?_
    refine lEnd (K := fun _ _ => True) ?_
    refine kN (?_)
    refine hK40 _ _ ?_
    refine cRet ?_
    obtain rfl := Option.some.inj H
    refine ret1 rfl rfl ?_
    have HF25 := HF24.drop1
    exact ⟨rfl, HF25⟩

/-! ### (*plenum/query.Asker).Heard (function 12) -/
abbrev f_query_Asker_Heard_nil.R := Unit
noncomputable def f_query_Asker_Heard_nil (a1 : Int) : Option f_query_Asker_Heard_nil.R := some ()
set_option maxHeartbeats 1000000 in
theorem f_query_Asker_Heard_nil.ok {z w : World} {F : Hp} {a1 : Int} {r : f_query_Asker_Heard_nil.R} (H : f_query_Asker_Heard_nil a1 = some r) (HF : Fits z w F) :
    Calls Try.prog 12 [.pointer none, .int .i64 a1].toArray w fun e w' => e = .returned (.tuple #[]) ∧ Fits z w' F := by
  unfold f_query_Asker_Heard_nil at H
  refine enter0 Try.func12 rfl Try.ntmps12 rfl (E := [(0, .pointer none), (1, .int .i64 a1)]) rfl ?_
  refine cSeq (fun K1 hK1 => ?_)
  refine cRgn [(2, 6), (6, 10)] ⟨rfl, rfl, trivial⟩ ?_
  refine sL (mv rfl) rfl ?_
  refine sL (bPNeq0 rfl rfl Try.underlying23) rfl ?_
  refine sL (mv rfl) rfl ?_
  refine sN rfl rfl rfl rfl ?_
  refine sN rfl rfl rfl rfl ?_
  refine sL (pkF rfl rfl) rfl ?_
  refine sL (mv rfl) rfl ?_
  refine sN rfl rfl rfl rfl ?_
  refine sN rfl rfl rfl rfl ?_
  refine sN rfl rfl rfl rfl ?_
  refine sN rfl rfl rfl rfl ?_
  refine sN rfl rfl rfl rfl ?_
  refine sN rfl rfl rfl rfl ?_
  refine sL (pkF rfl rfl) rfl ?_
  refine lEnd (K := fun _ _ => True) ?_
  refine kN (?_)
  refine hK1 _ _ ?_
  refine cF rfl ?_
  refine cSkip ?_
  obtain rfl := Option.some.inj H
  refine end0 rfl ?_
  exact ⟨rfl, HF⟩

/-! ### (*plenum/query.Asker).Asks (function 9) -/
abbrev f_query_Asker_Asks_nil.R := Bool
noncomputable def f_query_Asker_Asks_nil : Option f_query_Asker_Asks_nil.R := some false
set_option maxHeartbeats 1000000 in
theorem f_query_Asker_Asks_nil.ok {z w : World} {F : Hp} {r : f_query_Asker_Asks_nil.R} (H : f_query_Asker_Asks_nil = some r) (HF : Fits z w F) :
    Calls Try.prog 9 [.pointer none].toArray w fun e w' => e = .returned (.bool r) ∧ Fits z w' F := by
  unfold f_query_Asker_Asks_nil at H
  refine enter0 Try.func9 rfl Try.ntmps9 rfl (E := [(0, .pointer none)]) rfl ?_
  refine cSeq (fun K1 hK1 => ?_)
  refine cRgn [] trivial ?_
  refine sL (asg rfl) rfl ?_
  refine lEnd (K := fun _ _ => True) ?_
  refine kN (?_)
  refine hK1 _ _ ?_
  refine cSeq (fun K2 hK2 => ?_)
  refine cRgn [(2, 5)] ⟨rfl, trivial⟩ ?_
  refine sL (mv rfl) rfl ?_
  refine sL (bPNeq0 rfl rfl Try.underlying23) rfl ?_
  refine sL (mv rfl) rfl ?_
  refine sN rfl rfl rfl rfl ?_
  refine sN rfl rfl rfl rfl ?_
  refine sN rfl rfl rfl rfl ?_
  refine sN rfl rfl rfl rfl ?_
  refine sL (pkF rfl rfl) rfl ?_
  refine sL (asg rfl) rfl ?_
  refine lEnd (K := fun _ _ => True) ?_
  refine kN (?_)
  refine hK2 _ _ ?_
  refine cRet ?_
  obtain rfl := Option.some.inj H
  refine ret1 rfl rfl ?_
  exact ⟨rfl, HF⟩

/-! ### (*plenum/query.Asker).Tick (function 8) -/
abbrev f_query_Asker_Tick_nil.R := Bool
noncomputable def f_query_Asker_Tick_nil : Option f_query_Asker_Tick_nil.R := some false
set_option maxHeartbeats 1000000 in
theorem f_query_Asker_Tick_nil.ok {z w : World} {F : Hp} {r : f_query_Asker_Tick_nil.R} (H : f_query_Asker_Tick_nil = some r) (HF : Fits z w F) :
    Calls Try.prog 8 [.pointer none].toArray w fun e w' => e = .returned (.bool r) ∧ Fits z w' F := by
  unfold f_query_Asker_Tick_nil at H
  refine enter0 Try.func8 rfl Try.ntmps8 rfl (E := [(0, .pointer none)]) rfl ?_
  refine cSeq (fun K1 hK1 => ?_)
  refine cRgn [] trivial ?_
  refine sL (asg rfl) rfl ?_
  refine lEnd (K := fun _ _ => True) ?_
  refine kN (?_)
  refine hK1 _ _ ?_
  refine cSeq (fun K2 hK2 => ?_)
  refine cSeq (fun K3 hK3 => ?_)
  refine cRgn [] trivial ?_
  refine sL (mv rfl) rfl ?_
  refine sL (bPEql0 rfl rfl Try.underlying23) rfl ?_
  refine lEnd (K := fun _ _ => True) ?_
  refine kN (?_)
  refine hK3 _ _ ?_
  refine cT rfl ?_
  refine cSeq (fun K4 hK4 => ?_)
  refine cRgn [] trivial ?_
  refine sL (asg rfl) rfl ?_
  refine lEnd (K := fun _ _ => True) ?_
  refine kN (?_)
  refine hK4 _ _ ?_
  refine cRet ?_
  obtain rfl := Option.some.inj H
  refine kR (?_)
  refine ret1 rfl rfl ?_
  exact ⟨rfl, HF⟩

/-! ### plenum/plenumlaw20.QueryNil (function 6) -/
abbrev f_plenumlaw20_QueryNil.R := Bool
noncomputable def f_plenumlaw20_QueryNil (a0 : Int) : Option f_plenumlaw20_QueryNil.R := ((f_query_Asker_Heard_nil a0).bind fun _ => ((f_query_Asker_Asks_nil).bind fun t1 => (if t1 = true then some false else ((f_query_Asker_Tick_nil).bind fun t2 => (if t2 = true then some false else ((f_plenumlaw20_awake).bind fun t3 => some t3))))))
set_option maxHeartbeats 1000000 in
theorem f_plenumlaw20_QueryNil.ok {z w : World} {F : Hp} {a0 : Int} {r : f_plenumlaw20_QueryNil.R} (H : f_plenumlaw20_QueryNil a0 = some r) (HF : Fits z w F) :
    Calls Try.prog 6 [.int .i64 a0].toArray w fun e w' => e = .returned (.bool r) ∧ Fits z w' F := by
  unfold f_plenumlaw20_QueryNil at H
  refine enter0 Try.func6 rfl Try.ntmps6 rfl (E := [(0, .int .i64 a0)]) rfl ?_
  refine cSeq (fun K1 hK1 => ?_)
  refine cRgn [] trivial ?_
  refine sL (asg rfl) rfl ?_
  refine lEnd (K := fun _ _ => True) ?_
  refine kN (?_)
  refine hK1 _ _ ?_
  refine cSeq (fun K2 hK2 => ?_)
  refine cRgn [] trivial ?_
  refine sL (asg rfl) rfl ?_
  refine lEnd (K := fun _ _ => True) ?_
  refine kN (?_)
  refine hK2 _ _ ?_
  refine cSeq (fun K3 hK3 => ?_)
  refine cRgn [] trivial ?_
  refine sL (mv rfl) rfl ?_
  refine sL (mv rfl) rfl ?_
  replace H := bnd H; obtain ⟨⟨⟩, J1, H⟩ := H
  refine eCall isf12 rfl rfl rfl (f_query_Asker_Heard_nil.ok J1 HF) ?_
  rintro _ w1 ⟨rfl, HF1⟩
  refine ⟨_, rfl, ?_⟩
  refine lEnd (K := fun _ _ => True) ?_
  refine kN (?_)
  refine hK3 _ _ ?_
  refine cSeq (fun K4 hK4 => ?_)
  refine cRgn [(3, 10), (8, 15)] ⟨rfl, rfl, trivial⟩ ?_
  refine sL (mv rfl) rfl ?_
  replace H := bnd H; obtain ⟨t1, J2, H⟩ := H
  refine eCall isf9 rfl rfl rfl (f_query_Asker_Asks_nil.ok J2 HF1) ?_
  rintro _ w2 ⟨rfl, HF2⟩
  refine ⟨_, rfl, ?_⟩
  refine sL (uNot rfl) rfl ?_
  refine sL (mv rfl) rfl ?_
  by_cases c1 : t1 = true
  · replace H := itT c1 H
    refine lSet (i := 10) rfl (wF c1) ?_
    refine sN rfl rfl rfl rfl ?_
    refine sN rfl rfl rfl rfl ?_
    refine sN rfl rfl rfl rfl ?_
    refine sL (pkF rfl rfl) rfl ?_
    refine sL (mv rfl) rfl ?_
    refine sN rfl rfl rfl rfl ?_
    refine sL (pkF rfl rfl) rfl ?_
    refine sL (asg rfl) rfl ?_
    refine lEnd (K := fun _ _ => True) ?_
    refine kN (?_)
    refine hK4 _ _ ?_
    refine cRet ?_
    obtain rfl := Option.some.inj H
    refine ret1 rfl rfl ?_
    exact ⟨rfl, HF2⟩
  · replace H := itF c1 H
    refine lSet (i := 10) rfl (wT c1) ?_
    refine sG rfl rfl (mv rfl) rfl ?_
    replace H := bnd H; obtain ⟨t2, J3, H⟩ := H
    refine eCallG rfl rfl isf8 rfl rfl rfl (f_query_Asker_Tick_nil.ok J3 HF2) ?_
    rintro _ w3 ⟨rfl, HF3⟩
    refine ⟨_, rfl, ?_⟩
    refine sG rfl rfl (uNot rfl) rfl ?_
    refine sL (pkT rfl rfl) rfl ?_
    refine sL (mv rfl) rfl ?_
    by_cases c2 : t2 = true
    · replace H := itT c2 H
      refine lSet (i := 15) rfl (wF c2) ?_
      refine sN rfl rfl rfl rfl ?_
      refine sL (pkF rfl rfl) rfl ?_
      refine sL (asg rfl) rfl ?_
      refine lEnd (K := fun _ _ => True) ?_
      refine kN (?_)
      refine hK4 _ _ ?_
      refine cRet ?_
      obtain rfl := Option.some.inj H
      refine ret1 rfl rfl ?_
      exact ⟨rfl, HF3⟩
    · replace H := itF c2 H
      refine lSet (i := 15) rfl (wT c2) ?_
      replace H := bnd H; obtain ⟨t3, J4, H⟩ := H
      refine eCallG rfl rfl isf10 rfl rfl rfl (f_plenumlaw20_awake.ok J4 HF3) ?_
      rintro _ w4 ⟨rfl, HF4⟩
      refine ⟨_, rfl, ?_⟩
      refine sL (pkT rfl rfl) rfl ?_
      refine sL (asg rfl) rfl ?_
      refine lEnd (K := fun _ _ => True) ?_
      refine kN (?_)
      refine hK4 _ _ ?_
      refine cRet ?_
      obtain rfl := Option.some.inj H
      refine ret1 rfl rfl ?_
      exact ⟨rfl, HF4⟩

/-! ### plenum/plenumref20.NewAsker (function 11) -/
abbrev f_plenumref20_NewAsker.R := T_plenumref20_Asker
noncomputable def f_plenumref20_NewAsker (a0 : Int) : Option f_plenumref20_NewAsker.R := some (⟨a0, true, 1, 2⟩ : T_plenumref20_Asker)
set_option maxHeartbeats 1000000 in
theorem f_plenumref20_NewAsker.ok {z w : World} {F : Hp} {a0 : Int} {r : f_plenumref20_NewAsker.R} (H : f_plenumref20_NewAsker a0 = some r) (HF : Fits z w F) :
    Calls Try.prog 11 [.int .i64 a0].toArray w fun e w' => ∃ (g0 : Nat), e = .returned (.pointer (some ⟨g0, 0, none⟩)) ∧ Fits z w' (bk g0 32 [.int .i64 r.f_Addr, .bool r.f_On, .int .i64 r.f_Left, .int .i64 r.f_Starts] :: F) := by
  unfold f_plenumref20_NewAsker at H
  refine enter0 Try.func11 rfl Try.ntmps11 rfl (E := [(0, .int .i64 a0)]) rfl ?_
  refine cSeq (fun K1 hK1 => ?_)
  refine cRgn [] trivial ?_
  refine sL (asg rfl) rfl ?_
  refine lEnd (K := fun _ _ => True) ?_
  refine kN (?_)
  refine hK1 _ _ ?_
  refine cSeq (fun K2 hK2 => ?_)
  refine cRgn [] trivial ?_
  refine sL (mv rfl) rfl ?_
  refine sL (bd (r := [.int .i64 a0, .bool true, .int .i64 1, .int .i64 2]) pl32 ti32 rfl rfl) rfl ?_
  refine eBox HF rfl rfl (fun g1 w1 HF1 => ?_)
  refine sL (asg rfl) rfl ?_
  refine lEnd (K := fun _ _ => True) ?_
  refine kN (?_)
  refine hK2 _ _ ?_
  refine cRet ?_
  obtain rfl := Option.some.inj H
  refine ret1 rfl rfl ?_
  exact ⟨_, rfl, HF1⟩

/-! ### (*plenum/query.Asker).Heard (function 12) -/
abbrev f_query_Asker_Heard_obj.R := Bool × Int
noncomputable def f_query_Asker_Heard_obj (a0 : T_query_Asker) (a1 : Int) : Option f_query_Asker_Heard_obj.R := (if 0 < a1 then (if a1 < a0.f_addr then some (false, 54) else some (a0.f_asks, a0.f_left)) else some (a0.f_asks, a0.f_left))
set_option maxHeartbeats 1000000 in
theorem f_query_Asker_Heard_obj.ok {z w : World} {F : Hp} {a0 : T_query_Asker} {g_a0 : Nat} {a1 : Int} {r : f_query_Asker_Heard_obj.R} (H : f_query_Asker_Heard_obj a0 a1 = some r) (HF : Fits z w (bk g_a0 40 [.int .i64 a0.f_addr, .bool a0.f_asks, .int .i64 a0.f_left, .int .i64 a0.f_starts] :: F)) :
    Calls Try.prog 12 [.pointer (some ⟨g_a0, 0, none⟩), .int .i64 a1].toArray w fun e w' => e = .returned (.tuple #[]) ∧ Fits z w' (bk g_a0 40 [.int .i64 a0.f_addr, .bool r.1, .int .i64 r.2, .int .i64 a0.f_starts] :: F) := by
  unfold f_query_Asker_Heard_obj at H
  refine enter0 Try.func12 rfl Try.ntmps12 rfl (E := [(0, .pointer (some ⟨g_a0, 0, none⟩)), (1, .int .i64 a1)]) rfl ?_
  refine cSeq (fun K1 hK1 => ?_)
  refine cRgn [(2, 6), (6, 10)] ⟨rfl, rfl, trivial⟩ ?_
  refine sL (mv rfl) rfl ?_
  refine sL (bPNeq0 rfl rfl Try.underlying23) rfl ?_
  refine sL (mv rfl) rfl ?_
  refine sG rfl rfl (mv rfl) rfl ?_
  refine sG rfl rfl (bGtr rfl rfl) rfl ?_
  refine sL (pkT rfl rfl) rfl ?_
  refine sL (mv rfl) rfl ?_
  by_cases c1 : 0 < a1
  · replace H := itT c1 H
    refine lSet (i := 10) rfl (dT c1) ?_
    refine sG rfl rfl (mv rfl) rfl ?_
    refine sG rfl rfl (mv rfl) rfl ?_
    refine sG rfl rfl (nc rfl) rfl ?_
    refine sG rfl rfl (fa40_0 rfl) rfl ?_
    refine sG rfl rfl (ld rfl Try.underlying3 rfl (HF.box (mem_h) rfl)) rfl ?_
    refine sG rfl rfl (bLss rfl rfl) rfl ?_
    refine sL (pkT rfl rfl) rfl ?_
    refine lEnd (K := fun _ _ => True) ?_
    refine kN (?_)
    refine hK1 _ _ ?_
    by_cases c2 : a1 < a0.f_addr
    · replace H := itT c2 H
      refine cSet (i := 17) rfl (dT c2) ?_
      refine cT rfl ?_
      refine cRgn [] trivial ?_
      refine sL (mv rfl) rfl ?_
      refine sL (mv rfl) rfl ?_
      refine sL (nc rfl) rfl ?_
      refine sL (fa40_1 rfl) rfl ?_
      refine eSt1 (l1 := [.int .i64 a0.f_addr, .bool false, .int .i64 a0.f_left, .int .i64 a0.f_starts]) HF rfl rfl ti4 rfl rfl rfl (fun w1 HF1 => ?_)
      refine sL (nc rfl) rfl ?_
      refine sL (fa40_2 rfl) rfl ?_
      refine eSt1 (l1 := [.int .i64 a0.f_addr, .bool false, .int .i64 54, .int .i64 a0.f_starts]) HF1 rfl rfl ti3 rfl rfl rfl (fun w2 HF2 => ?_)
      refine lEnd (K := fun _ _ => True) ?_
      obtain rfl := Option.some.inj H
      refine end0 rfl ?_
      exact ⟨rfl, HF2⟩
    · replace H := itF c2 H
      refine cSet (i := 17) rfl (dF c2) ?_
      refine cF rfl ?_
      refine cSkip ?_
      obtain rfl := Option.some.inj H
      refine end0 rfl ?_
      exact ⟨rfl, HF⟩
  · replace H := itF c1 H
    refine lSet (i := 10) rfl (dF c1) ?_
    refine sN rfl rfl rfl rfl ?_
    refine sN rfl rfl rfl rfl ?_
    refine sN rfl rfl rfl rfl ?_
    refine sN rfl rfl rfl rfl ?_
    refine sN rfl rfl rfl rfl ?_
    refine sN rfl rfl rfl rfl ?_
    refine sL (pkF rfl rfl) rfl ?_
    refine lEnd (K := fun _ _ => True) ?_
    refine kN (?_)
    refine hK1 _ _ ?_
    refine cF rfl ?_
    refine cSkip ?_
    obtain rfl := Option.some.inj H
    refine end0 rfl ?_
    exact ⟨rfl, HF⟩

/-! ### (*plenum/plenumref20.Asker).Heard (function 13) -/
abbrev f_plenumref20_Asker_Heard_obj.R := Bool × Int
noncomputable def f_plenumref20_Asker_Heard_obj (a0 : T_plenumref20_Asker) (a1 : Int) : Option f_plenumref20_Asker_Heard_obj.R := (if 0 < a1 then (if a1 < a0.f_Addr then some (false, 54) else some (a0.f_On, a0.f_Left)) else some (a0.f_On, a0.f_Left))
set_option maxHeartbeats 1000000 in
theorem f_plenumref20_Asker_Heard_obj.ok {z w : World} {F : Hp} {a0 : T_plenumref20_Asker} {g_a0 : Nat} {a1 : Int} {r : f_plenumref20_Asker_Heard_obj.R} (H : f_plenumref20_Asker_Heard_obj a0 a1 = some r) (HF : Fits z w (bk g_a0 32 [.int .i64 a0.f_Addr, .bool a0.f_On, .int .i64 a0.f_Left, .int .i64 a0.f_Starts] :: F)) :
    Calls Try.prog 13 [.pointer (some ⟨g_a0, 0, none⟩), .int .i64 a1].toArray w fun e w' => e = .returned (.tuple #[]) ∧ Fits z w' (bk g_a0 32 [.int .i64 a0.f_Addr, .bool r.1, .int .i64 r.2, .int .i64 a0.f_Starts] :: F) := by
  unfold f_plenumref20_Asker_Heard_obj at H
  refine enter0 Try.func13 rfl Try.ntmps13 rfl (E := [(0, .pointer (some ⟨g_a0, 0, none⟩)), (1, .int .i64 a1)]) rfl ?_
  refine cSeq (fun K1 hK1 => ?_)
  refine cRgn [(2, 6)] ⟨rfl, trivial⟩ ?_
  refine sL (mv rfl) rfl ?_
  refine sL (bGtr rfl rfl) rfl ?_
  refine sL (mv rfl) rfl ?_
  by_cases c1 : 0 < a1
  · replace H := itT c1 H
    refine lSet (i := 6) rfl (dT c1) ?_
    refine sG rfl rfl (mv rfl) rfl ?_
    refine sG rfl rfl (mv rfl) rfl ?_
    refine sG rfl rfl (nc rfl) rfl ?_
    refine sG rfl rfl (fa32_0 rfl) rfl ?_
    refine sG rfl rfl (ld rfl Try.underlying3 rfl (HF.box (mem_h) rfl)) rfl ?_
    refine sG rfl rfl (bLss rfl rfl) rfl ?_
    refine sL (pkT rfl rfl) rfl ?_
    refine lEnd (K := fun _ _ => True) ?_
    refine kN (?_)
    refine hK1 _ _ ?_
    by_cases c2 : a1 < a0.f_Addr
    · replace H := itT c2 H
      refine cSet (i := 13) rfl (dT c2) ?_
      refine cT rfl ?_
      refine cSeq (fun K2 hK2 => ?_)
      refine cRgn [] trivial ?_
      refine sL (mv rfl) rfl ?_
      refine sL (nc rfl) rfl ?_
      refine sL (fa32_1 rfl) rfl ?_
      refine eSt1 (l1 := [.int .i64 a0.f_Addr, .bool false, .int .i64 a0.f_Left, .int .i64 a0.f_Starts]) HF rfl rfl ti4 rfl rfl rfl (fun w1 HF1 => ?_)
      refine lEnd (K := fun _ _ => True) ?_
      refine kN (?_)
      refine hK2 _ _ ?_
      refine cRgn [] trivial ?_
      refine sL (mv rfl) rfl ?_
      refine sL (nc rfl) rfl ?_
      refine sL (fa32_2 rfl) rfl ?_
      refine eSt1 (l1 := [.int .i64 a0.f_Addr, .bool false, .int .i64 54, .int .i64 a0.f_Starts]) HF1 rfl rfl ti3 rfl rfl rfl (fun w2 HF2 => ?_)
      refine lEnd (K := fun _ _ => True) ?_
      obtain rfl := Option.some.inj H
      refine end0 rfl ?_
      exact ⟨rfl, HF2⟩
    · replace H := itF c2 H
      refine cSet (i := 13) rfl (dF c2) ?_
      refine cF rfl ?_
      refine cSkip ?_
      obtain rfl := Option.some.inj H
      refine end0 rfl ?_
      exact ⟨rfl, HF⟩
  · replace H := itF c1 H
    refine lSet (i := 6) rfl (dF c1) ?_
    refine sN rfl rfl rfl rfl ?_
    refine sN rfl rfl rfl rfl ?_
    refine sN rfl rfl rfl rfl ?_
    refine sN rfl rfl rfl rfl ?_
    refine sN rfl rfl rfl rfl ?_
    refine sN rfl rfl rfl rfl ?_
    refine sL (pkF rfl rfl) rfl ?_
    refine lEnd (K := fun _ _ => True) ?_
    refine kN (?_)
    refine hK1 _ _ ?_
    refine cF rfl ?_
    refine cSkip ?_
    obtain rfl := Option.some.inj H
    refine end0 rfl ?_
    exact ⟨rfl, HF⟩

/-! ### (*plenum/plenumref20.Asker).Tick (function 14) -/
abbrev f_plenumref20_Asker_Tick_obj.R := Bool × Bool × Int × Int
noncomputable def f_plenumref20_Asker_Tick_obj (a0 : T_plenumref20_Asker) : Option f_plenumref20_Asker_Tick_obj.R := (if 0 < (IntKind.i64.wrap (a0.f_Left - 1)) then some (false, a0.f_On, IntKind.i64.wrap (a0.f_Left - 1), a0.f_Starts) else (if a0.f_On = true then (if 0 < a0.f_Starts then (if 0 < (IntKind.i64.wrap (a0.f_Starts - 1)) then some (true, a0.f_On, 6, IntKind.i64.wrap (a0.f_Starts - 1)) else some (true, a0.f_On, 25, IntKind.i64.wrap (a0.f_Starts - 1))) else some (true, a0.f_On, 25, a0.f_Starts)) else some (true, true, 25, a0.f_Starts)))
set_option maxHeartbeats 1000000 in
theorem f_plenumref20_Asker_Tick_obj.ok {z w : World} {F : Hp} {a0 : T_plenumref20_Asker} {g_a0 : Nat} {r : f_plenumref20_Asker_Tick_obj.R} (H : f_plenumref20_Asker_Tick_obj a0 = some r) (HF : Fits z w (bk g_a0 32 [.int .i64 a0.f_Addr, .bool a0.f_On, .int .i64 a0.f_Left, .int .i64 a0.f_Starts] :: F)) :
    Calls Try.prog 14 [.pointer (some ⟨g_a0, 0, none⟩)].toArray w fun e w' => e = .returned (.bool r.1) ∧ Fits z w' (bk g_a0 32 [.int .i64 a0.f_Addr, .bool r.2.1, .int .i64 r.2.2.1, .int .i64 r.2.2.2] :: F) := by
  unfold f_plenumref20_Asker_Tick_obj at H
  refine enter0 Try.func14 rfl Try.ntmps14 rfl (E := [(0, .pointer (some ⟨g_a0, 0, none⟩))]) rfl ?_
  refine cSeq (fun K1 hK1 => ?_)
  refine cRgn [] trivial ?_
  refine sL (asg rfl) rfl ?_
  refine lEnd (K := fun _ _ => True) ?_
  refine kN (?_)
  refine hK1 _ _ ?_
  refine cSeq (fun K2 hK2 => ?_)
  refine cRgn [] trivial ?_
  refine sL (mv rfl) rfl ?_
  refine sL (nc rfl) rfl ?_
  refine sL (fa32_2 rfl) rfl ?_
  refine sL (ld rfl Try.underlying3 rfl (HF.box (mem_h) rfl)) rfl ?_
  refine sL (bSub rfl rfl) rfl ?_
  refine sL (nc rfl) rfl ?_
  refine sL (fa32_2 rfl) rfl ?_
  refine eSt1 (l1 := [.int .i64 a0.f_Addr, .bool a0.f_On, .int .i64 (IntKind.i64.wrap (a0.f_Left - 1)), .int .i64 a0.f_Starts]) HF rfl rfl ti3 rfl rfl rfl (fun w1 HF1 => ?_)
  refine lEnd (K := fun _ _ => True) ?_
  refine kN (?_)
  refine hK2 _ _ ?_
  refine cSeq (fun K3 hK3 => ?_)
  refine cSeq (fun K4 hK4 => ?_)
  refine cRgn [] trivial ?_
  refine sL (mv rfl) rfl ?_
  refine sL (nc rfl) rfl ?_
  refine sL (fa32_2 rfl) rfl ?_
  refine sL (ld rfl Try.underlying3 rfl (HF1.box (mem_h) rfl)) rfl ?_
  refine sL (bGtr rfl rfl) rfl ?_
  refine lEnd (K := fun _ _ => True) ?_
  refine kN (?_)
  refine hK4 _ _ ?_
  by_cases c1 : 0 < (IntKind.i64.wrap (a0.f_Left - 1))
  · replace H := itT c1 H
    refine cSet (i := 14) rfl (dT c1) ?_
    refine cT rfl ?_
    refine cSeq (fun K5 hK5 => ?_)
    refine cRgn [] trivial ?_
    refine sL (asg rfl) rfl ?_
    refine lEnd (K := fun _ _ => True) ?_
    refine kN (?_)
    refine hK5 _ _ ?_
    refine cRet ?_
    obtain rfl := Option.some.inj H
    refine kR (?_)
    refine ret1 rfl rfl ?_
    exact ⟨rfl, HF1⟩
  · replace H := itF c1 H
    refine cSet (i := 14) rfl (dF c1) ?_
    refine cF rfl ?_
    refine cSkip ?_
    refine kN (?_)
    refine hK3 _ _ ?_
    refine cSeq (fun K6 hK6 => ?_)
    refine cRgn [] trivial ?_
    refine sL (mv rfl) rfl ?_
    refine sL (nc rfl) rfl ?_
    refine sL (fa32_2 rfl) rfl ?_
    refine eSt1 (l1 := [.int .i64 a0.f_Addr, .bool a0.f_On, .int .i64 25, .int .i64 a0.f_Starts]) HF1 rfl rfl ti3 rfl rfl rfl (fun w2 HF2 => ?_)
    refine lEnd (K := fun _ _ => True) ?_
    refine kN (?_)
    refine hK6 _ _ ?_
    refine cSeq (fun K7 hK7 => ?_)
    refine cSeq (fun K8 hK8 => ?_)
    refine cRgn [] trivial ?_
    refine sL (mv rfl) rfl ?_
    refine sL (nc rfl) rfl ?_
    refine sL (fa32_1 rfl) rfl ?_
    refine sL (ld rfl Try.underlying4 rfl (HF2.box (mem_h) rfl)) rfl ?_
    refine sL (uNot rfl) rfl ?_
    refine lEnd (K := fun _ _ => True) ?_
    refine kN (?_)
    refine hK8 _ _ ?_
    by_cases c2 : a0.f_On = true
    · replace H := itT c2 H
      refine cSet (i := 22) rfl (wF c2) ?_
      refine cF rfl ?_
      refine cSkip ?_
      refine kN (?_)
      refine hK7 _ _ ?_
      refine cSeq (fun K9 hK9 => ?_)
      refine cSeq (fun K10 hK10 => ?_)
      refine cRgn [] trivial ?_
      refine sL (mv rfl) rfl ?_
      refine sL (nc rfl) rfl ?_
      refine sL (fa32_3 rfl) rfl ?_
      refine sL (ld rfl Try.underlying3 rfl (HF2.box (mem_h) rfl)) rfl ?_
      refine sL (bGtr rfl rfl) rfl ?_
      refine lEnd (K := fun _ _ => True) ?_
      refine kN (?_)
      refine hK10 _ _ ?_
      by_cases c3 : 0 < a0.f_Starts
      · replace H := itT c3 H
        refine cSet (i := 30) rfl (dT c3) ?_
        refine cT rfl ?_
        refine cRgn [] trivial ?_
        refine sL (mv rfl) rfl ?_
        refine sL (nc rfl) rfl ?_
        refine sL (fa32_3 rfl) rfl ?_
        refine sL (ld rfl Try.underlying3 rfl (HF2.box (mem_h) rfl)) rfl ?_
        refine sL (bSub rfl rfl) rfl ?_
        refine sL (nc rfl) rfl ?_
        refine sL (fa32_3 rfl) rfl ?_
        refine eSt1 (l1 := [.int .i64 a0.f_Addr, .bool a0.f_On, .int .i64 25, .int .i64 (IntKind.i64.wrap (a0.f_Starts - 1))]) HF2 rfl rfl ti3 rfl rfl rfl (fun w3 HF3 => ?_)
        refine lEnd (K := fun _ _ => True) ?_
        refine kN (?_)
        refine hK9 _ _ ?_
        refine cSeq (fun K11 hK11 => ?_)
        refine cSeq (fun K12 hK12 => ?_)
        refine cRgn [] trivial ?_
        refine sL (mv rfl) rfl ?_
        refine sL (nc rfl) rfl ?_
        refine sL (fa32_3 rfl) rfl ?_
        refine sL (ld rfl Try.underlying3 rfl (HF3.box (mem_h) rfl)) rfl ?_
        refine sL (bGtr rfl rfl) rfl ?_
        refine lEnd (K := fun _ _ => True) ?_
        refine kN (?_)
        refine hK12 _ _ ?_
        by_cases c4 : 0 < (IntKind.i64.wrap (a0.f_Starts - 1))
        · replace H := itT c4 H
          refine cSet (i := 42) rfl (dT c4) ?_
          refine cT rfl ?_
          refine cRgn [] trivial ?_
          refine sL (mv rfl) rfl ?_
          refine sL (nc rfl) rfl ?_
          refine sL (fa32_2 rfl) rfl ?_
          refine eSt1 (l1 := [.int .i64 a0.f_Addr, .bool a0.f_On, .int .i64 6, .int .i64 (IntKind.i64.wrap (a0.f_Starts - 1))]) HF3 rfl rfl ti3 rfl rfl rfl (fun w4 HF4 => ?_)
          refine lEnd (K := fun _ _ => True) ?_
          refine kN (?_)
          refine hK11 _ _ ?_
          refine cSeq (fun K13 hK13 => ?_)
          refine cRgn [] trivial ?_
          refine sL (asg rfl) rfl ?_
          refine lEnd (K := fun _ _ => True) ?_
          refine kN (?_)
          refine hK13 _ _ ?_
          refine cRet ?_
          obtain rfl := Option.some.inj H
          refine ret1 rfl rfl ?_
          exact ⟨rfl, HF4⟩
        · replace H := itF c4 H
          refine cSet (i := 42) rfl (dF c4) ?_
          refine cF rfl ?_
          refine cSkip ?_
          refine kN (?_)
          refine hK11 _ _ ?_
          refine cSeq (fun K14 hK14 => ?_)
          refine cRgn [] trivial ?_
          refine sL (asg rfl) rfl ?_
          refine lEnd (K := fun _ _ => True) ?_
          refine kN (?_)
          refine hK14 _ _ ?_
          refine cRet ?_
          obtain rfl := Option.some.inj H
          refine ret1 rfl rfl ?_
          exact ⟨rfl, HF3⟩
      · replace H := itF c3 H
        refine cSet (i := 30) rfl (dF c3) ?_
        refine cF rfl ?_
        refine cSkip ?_
        refine kN (?_)
        refine hK9 _ _ ?_
        refine cSeq (fun K15 hK15 => ?_)
        refine cSeq (fun K16 hK16 => ?_)
        refine cRgn [] trivial ?_
        refine sL (mv rfl) rfl ?_
        refine sL (nc rfl) rfl ?_
        refine sL (fa32_3 rfl) rfl ?_
        refine sL (ld rfl Try.underlying3 rfl (HF2.box (mem_h) rfl)) rfl ?_
        refine sL (bGtr rfl rfl) rfl ?_
        refine lEnd (K := fun _ _ => True) ?_
        refine kN (?_)
        refine hK16 _ _ ?_
        refine cSet (i := 42) rfl (dF c3) ?_
        refine cF rfl ?_
        refine cSkip ?_
        refine kN (?_)
        refine hK15 _ _ ?_
        refine cSeq (fun K17 hK17 => ?_)
        refine cRgn [] trivial ?_
        refine sL (asg rfl) rfl ?_
        refine lEnd (K := fun _ _ => True) ?_
        refine kN (?_)
        refine hK17 _ _ ?_
        refine cRet ?_
        obtain rfl := Option.some.inj H
        refine ret1 rfl rfl ?_
        exact ⟨rfl, HF2⟩
    · replace H := itF c2 H
      refine cSet (i := 22) rfl (wT c2) ?_
      refine cT rfl ?_
      refine cSeq (fun K18 hK18 => ?_)
      refine cRgn [] trivial ?_
      refine sL (mv rfl) rfl ?_
      refine sL (nc rfl) rfl ?_
      refine sL (fa32_1 rfl) rfl ?_
      refine eSt1 (l1 := [.int .i64 a0.f_Addr, .bool true, .int .i64 25, .int .i64 a0.f_Starts]) HF2 rfl rfl ti4 rfl rfl rfl (fun w5 HF5 => ?_)
      refine lEnd (K := fun _ _ => True) ?_
      refine kN (?_)
      refine hK18 _ _ ?_
      refine cSeq (fun K19 hK19 => ?_)
      refine cRgn [] trivial ?_
      refine sL (asg rfl) rfl ?_
      refine lEnd (K := fun _ _ => True) ?_
      refine kN (?_)
      refine hK19 _ _ ?_
      refine cRet ?_
      obtain rfl := Option.some.inj H
      refine kR (?_)
      refine ret1 rfl rfl ?_
      exact ⟨rfl, HF5⟩

/-! ### plenum/plenumlaw20.QueryRuns (function 4) -/
abbrev f_plenumlaw20_QueryRuns.R := Bool
noncomputable def f_plenumlaw20_QueryRuns.b0 (a1 : List Int) (t2 : T_query_Asker) (t3 : T_plenumref20_Asker) (s1 : Int × Bool × Int × Int × Bool × Int × Int) : Option (Sum (Int × Bool × Int × Int × Bool × Int × Int) (Sum (Int × Bool × Int × Int × Bool × Int × Int) f_plenumlaw20_QueryRuns.R)) := (if s1.1 < (a1.length : Int) then (if 0 ≤ s1.1 then (if (Int.tmod (rd a1 s1.1) 3) = 0 then ((f_query_Asker_Heard_obj (⟨t2.f_addr, s1.2.1, s1.2.2.1, s1.2.2.2.1⟩ : T_query_Asker) (IntKind.i64.wrap (Int.tdiv (rd a1 s1.1) 3))).bind fun (t36, t37) => ((f_plenumref20_Asker_Heard_obj (⟨t3.f_Addr, s1.2.2.2.2.1, s1.2.2.2.2.2.1, s1.2.2.2.2.2.2⟩ : T_plenumref20_Asker) (IntKind.i64.wrap (Int.tdiv (rd a1 s1.1) 3))).bind fun (t38, t39) => ((f_query_Asker_Asks_obj (⟨t2.f_addr, t36, t37, s1.2.2.2.1⟩ : T_query_Asker)).bind fun t41 => (if (t41 == t38) = true then some (.inl (IntKind.i64.wrap (s1.1 + 1), t36, t37, s1.2.2.2.1, t38, t39, s1.2.2.2.2.2.2)) else some (.inr (.inr false)))))) else ((f_query_Asker_Tick_obj (⟨t2.f_addr, s1.2.1, s1.2.2.1, s1.2.2.2.1⟩ : T_query_Asker)).bind fun (t42, t43, t44, t45) => ((f_plenumref20_Asker_Tick_obj (⟨t3.f_Addr, s1.2.2.2.2.1, s1.2.2.2.2.2.1, s1.2.2.2.2.2.2⟩ : T_plenumref20_Asker)).bind fun (t46, t47, t48, t49) => (if (t42 == t46) = true then ((f_query_Asker_Asks_obj (⟨t2.f_addr, t43, t44, t45⟩ : T_query_Asker)).bind fun t51 => (if (t51 == t47) = true then some (.inl (IntKind.i64.wrap (s1.1 + 1), t43, t44, t45, t47, t48, t49)) else some (.inr (.inr false)))) else some (.inr (.inr false)))))) else none) else some (.inr (.inl (s1.1, s1.2.1, s1.2.2.1, s1.2.2.2.1, s1.2.2.2.2.1, s1.2.2.2.2.2.1, s1.2.2.2.2.2.2))))
noncomputable def f_plenumlaw20_QueryRuns (a0 : Int) (a1 : List Int) : Option f_plenumlaw20_QueryRuns.R := (if 400 < (a1.length : Int) then ((f_plenumlaw20_awake).bind fun t1 => some t1) else ((f_query_New a0).bind fun t2 => ((f_plenumref20_NewAsker a0).bind fun t3 => ((loopO (f_plenumlaw20_QueryRuns.b0 a1 t2 t3) (0, t2.f_asks, t2.f_left, t2.f_starts, t3.f_On, t3.f_Left, t3.f_Starts)).bind fun y1 => match y1 with | .inl s1 => ((f_plenumlaw20_awake).bind fun t52 => some t52) | .inr r_ => some r_))))
set_option maxHeartbeats 1000000 in
theorem f_plenumlaw20_QueryRuns.ok {z w : World} {F G : Hp} (hG : G ⊆ F) {a0 : Int} {a1 : List Int} {A_a1 : Option Addr} {c_a1 : Nat} {r : f_plenumlaw20_QueryRuns.R} (H : f_plenumlaw20_QueryRuns a0 a1 = some r) (HF : Fits z w F) (hr_a1 : RdS (kInt .i64) G A_a1 c_a1 a1) :
    Calls Try.prog 4 [.int .i64 a0, .slice A_a1 a1.length c_a1].toArray w fun e w' => e = .returned (.bool r) ∧ Fits z w' F := by
  unfold f_plenumlaw20_QueryRuns at H
  refine enter0 Try.func4 rfl Try.ntmps4 rfl (E := [(0, .int .i64 a0), (1, .slice A_a1 a1.length c_a1)]) rfl ?_
  refine cSeq (fun K1 hK1 => ?_)
  refine cRgn [] trivial ?_
  refine sL (asg rfl) rfl ?_
  refine lEnd (K := fun _ _ => True) ?_
  refine kN (?_)
  refine hK1 _ _ ?_
  refine cSeq (fun K2 hK2 => ?_)
  refine cSeq (fun K3 hK3 => ?_)
  refine cRgn [] trivial ?_
  refine sL (mv rfl) rfl ?_
  refine sL (lnS rfl Try.underlying27) rfl ?_
  refine sL (bGtr rfl rfl) rfl ?_
  refine lEnd (K := fun _ _ => True) ?_
  refine kN (?_)
  refine hK3 _ _ ?_
  by_cases c1 : 400 < (a1.length : Int)
  · replace H := itT c1 H
    refine cSet (i := 10) rfl (dT c1) ?_
    refine cT rfl ?_
    refine cSeq (fun K4 hK4 => ?_)
    refine cRgn [] trivial ?_
    replace H := bnd H; obtain ⟨t1, J1, H⟩ := H
    refine eCall isf10 rfl rfl rfl (f_plenumlaw20_awake.ok J1 HF) ?_
    rintro _ w1 ⟨rfl, HF1⟩
    refine ⟨_, rfl, ?_⟩
    refine sL (asg rfl) rfl ?_
    refine lEnd (K := fun _ _ => True) ?_
    refine kN (?_)
    refine hK4 _ _ ?_
    refine cRet ?_
    obtain rfl := Option.some.inj H
    refine kR (?_)
    refine ret1 rfl rfl ?_
    exact ⟨rfl, HF1⟩
  · replace H := itF c1 H
    refine cSet (i := 10) rfl (dF c1) ?_
    refine cF rfl ?_
    refine cSkip ?_
    refine kN (?_)
    refine hK2 _ _ ?_
    refine cSeq (fun K5 hK5 => ?_)
    refine cRgn [] trivial ?_
    refine sL (mv rfl) rfl ?_
    replace H := bnd H; obtain ⟨t2, J2, H⟩ := H
    refine eCall isf7 rfl rfl rfl (f_query_New.ok J2 HF) ?_
    rintro _ w2 ⟨g1, rfl, HF2⟩
    refine ⟨_, rfl, ?_⟩
    refine sL (mv rfl) rfl ?_
    replace H := bnd H; obtain ⟨t3, J3, H⟩ := H
    refine eCall isf11 rfl rfl rfl (f_plenumref20_NewAsker.ok J3 HF2) ?_
    rintro _ w3 ⟨g2, rfl, HF3⟩
    refine ⟨_, rfl, ?_⟩
    refine sL (asg rfl) rfl ?_
    refine sL (asg rfl) rfl ?_
    refine lEnd (K := fun _ _ => True) ?_
    refine kN (?_)
    refine hK5 _ _ ?_
    refine cSeq (fun K6 hK6 => ?_)
    refine cSeq (fun K7 hK7 => ?_)
    refine cRgn [] trivial ?_
    refine sL (mv rfl) rfl ?_
    refine sL (bPEql0 rfl rfl Try.underlying23) rfl ?_
    refine lEnd (K := fun _ _ => True) ?_
    refine kN (?_)
    refine hK7 _ _ ?_
    refine cF rfl ?_
    refine cSkip ?_
    refine kN (?_)
    refine hK6 _ _ ?_
    refine cSeq (fun K8 hK8 => ?_)
    refine cSeq (fun K9 hK9 => ?_)
    refine cRgn [] trivial ?_
    refine sL (asg rfl) rfl ?_
    refine lEnd (K := fun _ _ => True) ?_
    refine kN (?_)
    refine hK9 _ _ ?_
    replace H := bnd H; obtain ⟨y1, J29, Ho1⟩ := H
    refine cLoopB (f_plenumlaw20_QueryRuns.b0 a1 t2 t3) (fun (s1 : Int × Bool × Int × Int × Bool × Int × Int) a w => Env 57 [(1, .slice A_a1 a1.length c_a1), (4, .bool false), (5, .pointer (some ⟨g1, 0, none⟩)), (6, .pointer (some ⟨g2, 0, none⟩)), (7, .int .i64 s1.1)] a ∧ Fits z w (bk g2 32 [.int .i64 t3.f_Addr, .bool s1.2.2.2.2.1, .int .i64 s1.2.2.2.2.2.1, .int .i64 s1.2.2.2.2.2.2] :: (bk g1 40 [.int .i64 t2.f_addr, .bool s1.2.1, .int .i64 s1.2.2.1, .int .i64 s1.2.2.2.1] :: F))) J29 (fun a hE => ⟨hE.keep (Keep.cons rfl (Keep.cons rfl (Keep.cons rfl (Keep.cons rfl (Keep.cons rfl (Keep.nil)))))), HF3⟩) ?_ ?_
    · rintro s1 a w24 y2 ⟨hE, HF48⟩ H Hx1
      refine go_ hE ?_
      refine cSeq (fun K34 hK34 => ?_)
      refine cSeq (fun K35 hK35 => ?_)
      refine cRgn [] trivial ?_
      refine sL (mv rfl) rfl ?_
      refine sL (mv rfl) rfl ?_
      refine sL (lnS rfl Try.underlying27) rfl ?_
      refine sL (bLss rfl rfl) rfl ?_
      refine lEnd (K := fun _ _ => True) ?_
      refine kN (?_)
      refine hK35 _ _ ?_
      by_cases c13 : s1.1 < (a1.length : Int)
      · replace H := itT c13 H
        refine cSet (i := 21) rfl (dT c13) ?_
        refine cT rfl ?_
        refine cSkip ?_
        refine kN (?_)
        refine hK34 _ _ ?_
        refine cSeq (fun K36 hK36 => ?_)
        refine cBlock ?_
        refine cSeq (fun K37 hK37 => ?_)
        refine cSeq (fun K38 hK38 => ?_)
        refine cRgn [] trivial ?_
        refine sL (mv rfl) rfl ?_
        refine sL (mv rfl) rfl ?_
        replace H := chk H; obtain ⟨c14, H⟩ := H
        obtain ⟨g5, o3, _, rfl, rfl, q7⟩ := RdS.at_ hr_a1 c14 c13
        refine sL (ia rfl rfl Try.underlying27 ti3 c14 c13) rfl ?_
        refine sL (ld rfl Try.underlying3 rfl (HF48.cells (sub_c (sub_c hG)) (q7 0 _ rfl))) rfl ?_
        refine sL (bRem rfl rfl (by decide)) rfl ?_
        refine sL (bEql rfl rfl) rfl ?_
        refine lEnd (K := fun _ _ => True) ?_
        refine kN (?_)
        refine hK38 _ _ ?_
        by_cases c15 : (Int.tmod (rd a1 s1.1) 3) = 0
        · replace H := itT c15 H
          refine cSet (i := 29) rfl (dT c15) ?_
          refine cT rfl ?_
          refine cSeq (fun K39 hK39 => ?_)
          refine cRgn [] trivial ?_
          refine sL (mv rfl) rfl ?_
          refine sL (mv rfl) rfl ?_
          refine sL (mv rfl) rfl ?_
          obtain ⟨_, rfl, q8⟩ := RdS.at' hr_a1 c14 c13
          refine sL (ia rfl rfl Try.underlying27 ti3 c14 c13) rfl ?_
          refine sL (ld rfl Try.underlying3 rfl (HF48.cells (sub_c (sub_c hG)) (q8 0 _ rfl))) rfl ?_
          refine sL (bQuo rfl rfl (by decide)) rfl ?_
          have HF49 := HF48.perm (perm_c1 (List.Perm.refl _))
          replace H := bnd H; obtain ⟨⟨t36, t37⟩, J20, H⟩ := H
          refine eCall isf12 rfl rfl rfl (f_query_Asker_Heard_obj.ok J20 HF49) ?_
          rintro _ w25 ⟨rfl, HF50⟩
          refine ⟨_, rfl, ?_⟩
          refine lEnd (K := fun _ _ => True) ?_
          refine kN (?_)
          refine hK39 _ _ ?_
          refine cRgn [] trivial ?_
          refine sL (mv rfl) rfl ?_
          refine sL (mv rfl) rfl ?_
          refine sL (mv rfl) rfl ?_
          obtain ⟨_, rfl, q9⟩ := RdS.at' hr_a1 c14 c13
          refine sL (ia rfl rfl Try.underlying27 ti3 c14 c13) rfl ?_
          refine sL (ld rfl Try.underlying3 rfl (HF50.cells (sub_c (sub_c hG)) (q9 0 _ rfl))) rfl ?_
          refine sL (bQuo rfl rfl (by decide)) rfl ?_
          have HF51 := HF50.perm (perm_c1 (List.Perm.refl _))
          replace H := bnd H; obtain ⟨⟨t38, t39⟩, J21, H⟩ := H
          refine eCall isf13 rfl rfl rfl (f_plenumref20_Asker_Heard_obj.ok J21 HF51) ?_
          rintro _ w26 ⟨rfl, HF52⟩
          refine ⟨_, rfl, ?_⟩
          refine lEnd (K := fun _ _ => True) ?_
          refine kN (?_)
          refine hK37 _ _ ?_
          refine cSeq (fun K40 hK40 => ?_)
          refine cDraw mo_ HF52 rfl (fun w => Fits z w (bk g2 32 [.int .i64 t3.f_Addr, .bool t38, .int .i64 t39, .int .i64 s1.2.2.2.2.2.2] :: (bk g1 40 [.int .i64 t2.f_addr, .bool t36, .int .i64 t37, .int .i64 s1.2.2.2.1] :: F))) (fun w28 HF56 => ?_)
          refine hTake 0 rfl (by kernel_rfl) (pThen (pBlock (pThen (pThen (pBlock (pThen (pThen pFn))))))) (fun w_ hS_ => mv rfl) HF56 rfl rfl ?_
          refine hTake 2 rfl (by kernel_rfl) (pThen (pBlock (pThen (pThen (pBlock (pThen (pThen pFn))))))) (fun w_ hS_ => mv rfl) HF56 rfl rfl ?_
          refine hTake 3 rfl (by kernel_rfl) (pThen (pBlock (pThen (pThen (pBlock (pThen (pThen pFn))))))) (fun w_ hS_ => nc rfl) HF56 rfl rfl ?_
          refine hTake 4 rfl (by kernel_rfl) (pThen (pBlock (pThen (pThen (pBlock (pThen (pThen pFn))))))) (fun w_ hS_ => fa32_1 rfl) HF56 rfl rfl ?_
          refine hTake 5 rfl (by kernel_rfl) (pThen (pBlock (pThen (pThen (pBlock (pThen (pThen pFn))))))) (fun w_ hS_ => ld rfl Try.underlying4 rfl (hS_.box (mem_h) rfl)) HF56 rfl rfl ?_
          have HF57 := HF56.perm (perm_c1 (List.Perm.refl _))
          replace H := bnd H; obtain ⟨t41, J23, H⟩ := H
          refine hCall 1 rfl (by kernel_rfl) rfl isf9 rfl rfl rfl (f_query_Asker_Asks_obj.ok J23 HF57) ?_
          rintro _ w29 ⟨rfl, HF58⟩
          have HF59 := HF58.perm (perm_c1 (List.Perm.refl _))
          refine ⟨_, rfl, HF59, ?_⟩
          refine hTake 6 rfl (by kernel_rfl) (pThen (pBlock (pThen (pThen (pBlock (pThen (pThen pFn))))))) (fun w_ hS_ => bBNeq rfl rfl Try.underlying4) HF59 rfl rfl ?_
          refine hEnd (by kernel_rfl) ?_
          refine kN (?_)
          refine hK40 _ _ ?_
          by_cases c16 : (t41 == t38) = true
          · replace H := itT c16 H
            refine cSet (i := 55) rfl (wF c16) ?_
            refine cF rfl ?_
            refine cSkip ?_
            refine jN (kN (?_))
            refine hK36 _ _ ?_
            refine cRgn [] trivial ?_
            refine sL (mv rfl) rfl ?_
            refine sL (bAdd rfl rfl) rfl ?_
            refine sL (asg rfl) rfl ?_
            refine lEnd (K := fun _ _ => True) ?_
            refine kN (?_)
            have HF60 := HF58.perm (perm_c1 (List.Perm.refl _))
            exact ofEnv (fun a hE => ⟨_, (Option.some.inj H).symm, hE.keep (Keep.cons rfl (Keep.cons rfl (Keep.cons rfl (Keep.cons rfl (Keep.cons rfl (Keep.nil)))))), HF60⟩)
          · replace H := itF c16 H
            refine cSet (i := 55) rfl (wT c16) ?_
            refine cT rfl ?_
            refine cSeq (fun K41 hK41 => ?_)
            refine cRgn [] trivial ?_
            refine sL (asg rfl) rfl ?_
            refine lEnd (K := fun _ _ => True) ?_
            refine kN (?_)
            refine hK41 _ _ ?_
            refine cRet ?_
            have e_ := Hx1 _ (Option.some.inj H).symm
            subst e_
            replace H := Ho1
            obtain rfl := Option.some.inj H
            refine jR (kR (kR (jR (kR (kR (?_))))))
            refine ret1 rfl rfl ?_
            have HF61 := HF58.drop1
            have HF62 := HF61.drop1
            exact ⟨rfl, HF62⟩
        · replace H := itF c15 H
          refine cSet (i := 29) rfl (dF c15) ?_
          refine cF rfl ?_
          refine cSeq (fun K42 hK42 => ?_)
          refine cRgn [] trivial ?_
          refine sL (mv rfl) rfl ?_
          have HF63 := HF48.perm (perm_c1 (List.Perm.refl _))
          replace H := bnd H; obtain ⟨⟨t42, t43, t44, t45⟩, J24, H⟩ := H
          refine eCall isf8 rfl rfl rfl (f_query_Asker_Tick_obj.ok J24 HF63) ?_
          rintro _ w30 ⟨rfl, HF64⟩
          refine ⟨_, rfl, ?_⟩
          refine sL (mv rfl) rfl ?_
          have HF65 := HF64.perm (perm_c1 (List.Perm.refl _))
          replace H := bnd H; obtain ⟨⟨t46, t47, t48, t49⟩, J25, H⟩ := H
          refine eCall isf14 rfl rfl rfl (f_plenumref20_Asker_Tick_obj.ok J25 HF65) ?_
          rintro _ w31 ⟨rfl, HF66⟩
          refine ⟨_, rfl, ?_⟩
          refine sL (bBNeq rfl rfl Try.underlying4) rfl ?_
          refine lEnd (K := fun _ _ => True) ?_
          refine kN (?_)
          refine hK42 _ _ ?_
          by_cases c17 : (t42 == t46) = true
          · replace H := itT c17 H
            refine cSet (i := 48) rfl (wF c17) ?_
            refine cF rfl ?_
            refine cSkip ?_
            refine kN (?_)
            refine hK37 _ _ ?_
            refine cSeq (fun K43 hK43 => ?_)
            refine cDraw mo_ HF66 rfl (fun w => Fits z w (bk g2 32 [.int .i64 t3.f_Addr, .bool t47, .int .i64 t48, .int .i64 t49] :: (bk g1 40 [.int .i64 t2.f_addr, .bool t43, .int .i64 t44, .int .i64 t45] :: F))) (fun w33 HF70 => ?_)
            refine hTake 0 rfl (by kernel_rfl) (pThen (pBlock (pThen (pThen (pBlock (pThen (pThen pFn))))))) (fun w_ hS_ => mv rfl) HF70 rfl rfl ?_
            refine hTake 2 rfl (by kernel_rfl) (pThen (pBlock (pThen (pThen (pBlock (pThen (pThen pFn))))))) (fun w_ hS_ => mv rfl) HF70 rfl rfl ?_
            refine hTake 3 rfl (by kernel_rfl) (pThen (pBlock (pThen (pThen (pBlock (pThen (pThen pFn))))))) (fun w_ hS_ => nc rfl) HF70 rfl rfl ?_
            refine hTake 4 rfl (by kernel_rfl) (pThen (pBlock (pThen (pThen (pBlock (pThen (pThen pFn))))))) (fun w_ hS_ => fa32_1 rfl) HF70 rfl rfl ?_
            refine hTake 5 rfl (by kernel_rfl) (pThen (pBlock (pThen (pThen (pBlock (pThen (pThen pFn))))))) (fun w_ hS_ => ld rfl Try.underlying4 rfl (hS_.box (mem_h) rfl)) HF70 rfl rfl ?_
            have HF71 := HF70.perm (perm_c1 (List.Perm.refl _))
            replace H := bnd H; obtain ⟨t51, J27, H⟩ := H
            refine hCall 1 rfl (by kernel_rfl) rfl isf9 rfl rfl rfl (f_query_Asker_Asks_obj.ok J27 HF71) ?_
            rintro _ w34 ⟨rfl, HF72⟩
            have HF73 := HF72.perm (perm_c1 (List.Perm.refl _))
            refine ⟨_, rfl, HF73, ?_⟩
            refine hTake 6 rfl (by kernel_rfl) (pThen (pBlock (pThen (pThen (pBlock (pThen (pThen pFn))))))) (fun w_ hS_ => bBNeq rfl rfl Try.underlying4) HF73 rfl rfl ?_
            refine hEnd (by kernel_rfl) ?_
            refine kN (?_)
            refine hK43 _ _ ?_
            by_cases c18 : (t51 == t47) = true
            · replace H := itT c18 H
              refine cSet (i := 55) rfl (wF c18) ?_
              refine cF rfl ?_
              refine cSkip ?_
              refine jN (kN (?_))
              refine hK36 _ _ ?_
              refine cRgn [] trivial ?_
              refine sL (mv rfl) rfl ?_
              refine sL (bAdd rfl rfl) rfl ?_
              refine sL (asg rfl) rfl ?_
              refine lEnd (K := fun _ _ => True) ?_
              refine kN (?_)
              have HF74 := HF72.perm (perm_c1 (List.Perm.refl _))
              exact ofEnv (fun a hE => ⟨_, (Option.some.inj H).symm, hE.keep (Keep.cons rfl (Keep.cons rfl (Keep.cons rfl (Keep.cons rfl (Keep.cons rfl (Keep.nil)))))), HF74⟩)
            · replace H := itF c18 H
              refine cSet (i := 55) rfl (wT c18) ?_
              refine cT rfl ?_
              refine cSeq (fun K44 hK44 => ?_)
              refine cRgn [] trivial ?_
              refine sL (asg rfl) rfl ?_
              refine lEnd (K := fun _ _ => True) ?_
              refine kN (?_)
              refine hK44 _ _ ?_
              refine cRet ?_
              have e_ := Hx1 _ (Option.some.inj H).symm
              subst e_
              replace H := Ho1
              obtain rfl := Option.some.inj H
              refine jR (kR (kR (jR (kR (kR (?_))))))
              refine ret1 rfl rfl ?_
              have HF75 := HF72.drop1
              have HF76 := HF75.drop1
              exact ⟨rfl, HF76⟩
          · replace H := itF c17 H
            refine cSet (i := 48) rfl (wT c17) ?_
            refine cT rfl ?_
            refine cSeq (fun K45 hK45 => ?_)
            refine cRgn [] trivial ?_
            refine sL (asg rfl) rfl ?_
            refine lEnd (K := fun _ _ => True) ?_
            refine kN (?_)
            refine hK45 _ _ ?_
            refine cRet ?_
            have e_ := Hx1 _ (Option.some.inj H).symm
            subst e_
            replace H := Ho1
            obtain rfl := Option.some.inj H
            refine kR (jR (kR (kR (jR (kR (kR (?_)))))))
            refine ret1 rfl rfl ?_
            have HF77 := HF66.drop1
            have HF78 := HF77.drop1
            exact ⟨rfl, HF78⟩
      · replace H := itF c13 H
        refine cSet (i := 21) rfl (dF c13) ?_
        refine cF rfl ?_
        refine cExit ?_
        refine kX (kX (jX (kN (?_))))
        exact ofEnv (fun a hE => ⟨_, (Option.some.inj H).symm, hE.keep (Keep.cons rfl (Keep.cons rfl (Keep.cons rfl (Keep.cons rfl (Keep.cons rfl (Keep.nil)))))), HF48⟩)
    · rintro s1 a w35 rfl ⟨hE, HF79⟩
      replace H := Ho1
      refine go_k hE ?_
      refine kN (?_)
      refine hK8 _ _ ?_
      refine cSeq (fun K46 hK46 => ?_)
      refine cRgn [] trivial ?_
      replace H := bnd H; obtain ⟨t52, J28, H⟩ := H
      refine eCall isf10 rfl rfl rfl (f_plenumlaw20_awake.ok J28 HF79) ?_
      rintro _ w36 ⟨rfl, HF80⟩
      refine ⟨_, rfl, ?_⟩
      refine sL (asg rfl) rfl ?_
      refine lEnd (K := fun _ _ => True) ?_
      refine kN (?_)
      refine hK46 _ _ ?_
      refine cRet ?_
      obtain rfl := Option.some.inj H
      refine ret1 rfl rfl ?_
      have HF81 := HF80.drop1
      have HF82 := HF81.drop1
      exact ⟨rfl, HF82⟩

end Go.Proofs.Ytdabiggfmmjjjaa
