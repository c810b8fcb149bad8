/- Rows that list variables: the wrap with what they hold; their blocks; a start that fits. -/
import Derived.Test.YtdnlahdddidffaaDoorSpF
import Derived.Test.YtdnlahdddidffaaDoorSp6
import Derived.Test.YtdnlahdddidffaaDoorTie
import Derived.ProofKit
import Derived.LaidMore
import Derived.Lay
import Derived.SevenTiedAt
import Derived.Stop.Joined
import Derived.Stop.LaidErr
import Derived.Shelf.Vars
import Derived.Lib.LaidTab
set_option linter.unusedVariables false
set_option linter.unusedSimpArgs false
namespace Go.Proofs.YtdnlahdddidffaaDoor
open Go Go.Proofs.YtdnlahdddidffaaDoor.Sp Go.ChangeShapes Go.WideShapes Go.ChangeAt Go.RowKit
section
variable {H : Type} {enc : TypeId × Value → H}
theorem returnsDoor {a : Assume} {C : Checked} {os : Os} {f : FuncId} {fn : Func} {s : ChangeSpec} {conds : List PathCond} {apart fresh handsOn again : Bool} {laid : List (String × DataW Unit)}
    (own : ownKnob C.prog.godebug = none) (started : os.Started) (noInit : C.prog.inits.idxOf? f = none) (hfn : C.prog.funcs[f]? = some fn)
    (witness : ∃ (w : World) (tape : Tape) (i : Input), w.os = os ∧ (w.forCall tape i).Shaped C.prog ∧ i.vars = [] ∧ Input.okWide C.prog (w.forCall tape i) .any w.heap.size f i ∧
      ((s.pre enc C.prog fn conds apart (w.forCall tape i).memory i.args ∧ laidMetH C.prog laid (w.forCall tape i).memory) ∧ sizedMet enc C.prog fn (OpenSpec.ofChange s) apart (w.forCall tape i).memory i.args) ∧ a.holds C.prog (lone (Frame.enter C.prog f i.args .normal) [] (w.forCall tape i)))
    (contract : ∀ (W : World) (base : Nat) (args : Array Value) (ds gs : List (DataW H)) (before : List MemPlace),
      (∀ (j : Nat) t v, fn.params[j]? = some t → args[j]? = some v → Value.okWide C.prog W .any base t v) →
      DataW.Whole enc C.prog fn.params.toList s.vars apart W args.toList ds gs before →
      laidMetH C.prog laid W → W.ShapedOpen C.prog →
      Calls C.prog f args W fun e W' => ∃ v, e = .returned v ∧ s.post enc C.prog fn apart fresh handsOn again W args v W') :
    ReturnsInHanded a C os f .any (fun w args => (s.pre enc C.prog fn conds apart w args ∧ laidMetH C.prog laid w) ∧ sizedMet enc C.prog fn (OpenSpec.ofChange s) apart w args) (s.post enc C.prog fn apart fresh handsOn again) := by
  refine returnsInHanded_of_calls own started noInit witness ?_
  intro w tape i _ hsh _ hok hpre hholds
  obtain ⟨_, _, _, fn', hfn', _, _, _, _, hval⟩ := hok
  have e : fn' = fn := Option.some.inj (hfn'.symm.trans hfn)
  subst e
  obtain ⟨⟨⟨ds, gs, before, hw, hc⟩, hx⟩, hz⟩ := hpre
  have hw' := DataW.Whole.of_heap (w' := w.forCall tape i) (by rfl) hw
  refine (contract (w.forCall tape i) w.heap.size i.args ds gs before hval hw' (hx.of_heap (by rfl)) hsh).mono fun e W' ⟨v, he, hp⟩ => ?_
  subst he
  exact ChangeSpec.post_blind hp
end
theorem star_ : ("*" ++ "errors.errorString" : String) = "*errors.errorString" := by decide
theorem row86 : ∀ u, Tryd.prog.typeName? 3 u = some "*errors.errorString" → u = 86 := fun u h => typeName_ptr_named (nm := "errors.errorString") (by rw [star_]; kernel_rfl) (by kernel_rfl) (by decide) u (by rw [star_]; exact h)
theorem blk_of_var {P : Program} {W : World} {n : String} {g : Nat} {c : Array Value} (hn : P.globalNamed n = some g) (h : W.var? P n = some c) : ∃ T fr, (g, Obj.cells c T fr) ∈ allB W := by
  simp only [World.var?, hn, Option.bind_some] at h
  split at h
  · rename_i cs T fr hb
    obtain rfl := Option.some.inj h
    exact ⟨T, fr, mem_allB.2 hb⟩
  · cases h
theorem laid_eq : (Rows.laid_internal_strconv_uint64pow10 : DataW Unit) = Lib.tabData .u64 Lib.pow10Tab := by kernel_rfl
set_option maxRecDepth 100000 in
theorem gv_ {W : World} (hL : laidMetH Tryd.prog Rows.addrBackRow.laid W) (hsh : W.ShapedOpen Tryd.prog) : GV (allB W) := by
  rw [MakeChecks.laidMetH_plain _ _ _ (by kernel_rfl)] at hL
  have h2 := hL.tail.tail
  have h5 := h2.tail.tail
  have h6 := h5.tail
  obtain ⟨a0, s0, hv0, _⟩ := laid_sentinel (g := 1) (ti := 44) (tp := 86) (te := 88) (ts := 9) h5 (by kernel_rfl) (by kernel_rfl) Tryd.underlying44 row86 Tryd.underlying86 Tryd.underlying88 rfl rfl Tryd.underlying9 (by kernel_rfl) (by kernel_rfl)
  obtain ⟨a1, s1, hv1, _⟩ := laid_sentinel (g := 0) (ti := 44) (tp := 86) (te := 88) (ts := 9) h6 (by kernel_rfl) (by kernel_rfl) Tryd.underlying44 row86 Tryd.underlying86 Tryd.underlying88 rfl rfl Tryd.underlying9 (by kernel_rfl) (by kernel_rfl)
  rw [laid_eq] at h2
  have hp := Lib.tabIs_of_head (g := 3) (t := 90) (e := 70) (n := 20) (by kernel_rfl) (by kernel_rfl) Tryd.underlying90 Tryd.underlying70 (by kernel_rfl) (by kernel_rfl) h2
  obtain ⟨m, hm⟩ := cell_of_shapedOpen_int (g := 2) (t := 3) (zero := #[.int .i64 0]) (k := .i64) hsh (of_decide_eq_true (by kernel_rfl)) (by kernel_rfl) rfl (by kernel_rfl) (by kernel_rfl) Tryd.underlying3
  refine ⟨?_, ?_, ?_, ?_⟩
  · obtain ⟨T, fr, h⟩ := blk_of_var gSyntax hv1; exact ⟨T, fr, _, _, h⟩
  · obtain ⟨T, fr, h⟩ := blk_of_var gRange hv0; exact ⟨T, fr, _, _, h⟩
  · obtain ⟨_, c, T, fr, h1, h2⟩ := cellIn_all hm; exact ⟨c, T, fr, m, h1, h2⟩
  · exact blk_of_var gPow hp
end Go.Proofs.YtdnlahdddidffaaDoor
