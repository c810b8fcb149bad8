/- The walk's own rules, part 13: structs held against structs. -/
import Derived.Test.YtbjnbjgiidcfjaaSp12
import Derived.Laws.StructEq
set_option linter.unusedVariables false
set_option linter.unusedSimpArgs false
namespace Go.Proofs.Ytbjnbjgiidcfjaa.Sp
open Go
section
variable {P : Program} {E : List (Nat × Value)} {w : World} {t t' : TypeId} {x y : Operand} {n : Nat} {u v : Value} {b r s : Bool} {k : IntKind} {xs ys : List Value}
def EQ (P : Program) (n : Nat) (t : TypeId) (u v : Value) (b : Bool) : Prop := ∀ d w, (Op.equalIn (d + n) t u v).run P w = .ok b w
def EQFs (P : Program) (n : Nat) (xs ys : List Value) (l : List Field) (b : Bool) : Prop := ∀ d w, (Op.eqFields (d + n) xs.toArray ys.toArray l).run P w = .ok b w
def PT (P : Program) (t : TypeId) (xs : List Value) (o : Nat) (v : Value) : Prop := ∀ w, (part t xs.toArray o).run P w = .ok v w
theorem EQ.up (h : EQ P n t u v b) : EQ P (n + 1) t u v b := fun d w => by
  have := h (d + 1) w
  rwa [show d + 1 + n = d + (n + 1) by omega] at this
theorem eqInt {i j : Int} (hu : P.underlying t = some (.int k)) : EQ P 1 t (.int k i) (.int k j) (i == j) := fun d w => run_equalIn_int w d t k k i j hu
theorem eqBool {i j : Bool} (hu : P.underlying t = some .bool) : EQ P 1 t (.bool i) (.bool j) (i == j) := fun d w => run_equalIn_bool' w d t i j hu
theorem eqStr {i j : ByteArray} (hu : P.underlying t = some .string) : EQ P 1 t (.string i) (.string j) (i.toList == j.toList) := fun d w => run_equalIn_string w d t i j hu
theorem eqFnil : EQFs P n xs ys [] true := fun d w => by simp [Op.eqFields]
theorem eqFcons {f : Field} {fs : List Field} (hn : (f.name == "_") = false) (ha : PT P f.type xs f.offset u) (hb : PT P f.type ys f.offset v) (he : EQ P n f.type u v r) (hr : EQFs P n xs ys fs s) : EQFs P n xs ys (f :: fs) (r && s) := fun d w => by
  have hn' : f.name ≠ "_" := by simpa using hn
  rw [Op.eqFields]
  simp only [if_pos hn', Sem.run_bind, ha w, hb w, he d w, Result.andThen_ok]
  cases r
  · simp
  · simpa using hr d w
theorem eqStruct {fs : Array Field} (hu : P.underlying t = some (.struct fs)) (hp : P.stoodInHeld t = false) (h : EQFs P n xs ys fs.toList b) : EQ P (n + 1) t (.agg xs.toArray) (.agg ys.toArray) b := fun d w => by
  have hf : P.fieldsOf t = fs := by simp [Program.fieldsOf, hu]
  have := run_equalIn_struct (P := P) w (d + n) t xs.toArray ys.toArray (by rw [hf]; exact hu) hp
  rw [hf, h d w] at this
  exact this
theorem pt1 {d : TypeDesc} {o : Nat} (hu : P.underlying t = some d) (hb : aggB d = false) (hv : xs[o]? = some v) : PT P t xs o v := fun w => by
  have ha : (isAgg t).run P w = .ok false w := by
    unfold isAgg
    rw [Sem.run_bind, run_underlying hu w]
    cases d <;> first | rfl | (simp [aggB] at hb; done)
  simp [part, ha, hv]
theorem ptA {d : TypeDesc} {zv : Value} {sz by_ o : Nat} (T : TI P t d zv sz by_) (hb : aggB d = true) {cs : List Value} (hv : (xs.drop o).take sz = cs) (hl : cs.length = sz) : PT P t xs o (.agg cs.toArray) := fun w => by
  have ha := T.agg w
  have hsz := T.size w
  rw [hb] at ha
  have hle : o + sz ≤ xs.length ∨ sz = 0 := by
    rw [← hv] at hl; simp at hl; omega
  have he : xs.toArray.extract o (o + sz) = cs.toArray := by
    rw [← hv]; apply Array.ext'; simp [List.extract_eq_take_drop]
  simp only [part, Sem.run_bind, ha, Result.andThen_ok, if_true, hsz, Sem.run_pure, he]
theorem bAggEql {q : Bool} (hx : lv E x = some (.agg xs.toArray)) (hy : lv E y = some (.agg ys.toArray)) (hg : P.eqGuardType P.depth t = false) (h : EQ P n t (.agg xs.toArray) (.agg ys.toArray) b) (hn : Nat.ble n 10000 = true) (hq : b = q) : Run P E w (.binOp .eql t x y t') (.bool q) := by
  subst hq
  refine run_bin hx hy (run_eqGuard_agg w _ t x y _ _ hg) ?_
  have := h (10000 - n) w
  rw [show 10000 - n + n = 10000 by have := Nat.le_of_ble_eq_true hn; omega] at this
  rw [run_eql_struct, this]; rfl
theorem bAggNeq {q : Bool} (hx : lv E x = some (.agg xs.toArray)) (hy : lv E y = some (.agg ys.toArray)) (hg : P.eqGuardType P.depth t = false) (h : EQ P n t (.agg xs.toArray) (.agg ys.toArray) b) (hn : Nat.ble n 10000 = true) (hq : b = q) : Run P E w (.binOp .neq t x y t') (.bool (!q)) := by
  subst hq
  refine run_bin hx hy (run_eqGuard_agg w _ t x y _ _ hg) ?_
  have := h (10000 - n) w
  rw [show 10000 - n + n = 10000 by have := Nat.le_of_ble_eq_true hn; omega] at this
  rw [run_neq_struct, this]; rfl
theorem bytes_eq {a b : ByteArray} : (a.toList == b.toList) = decide (a = b) := by
  rw [ByteArray.toList_eq, ByteArray.toList_eq]
  obtain ⟨⟨x⟩⟩ := a
  obtain ⟨⟨y⟩⟩ := b
  rw [Bool.eq_iff_iff]
  simp
end
end Go.Proofs.Ytbjnbjgiidcfjaa.Sp
