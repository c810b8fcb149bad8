/- The walk's own rules, part 12: results that lie in memory; slices held against nil; structs held against structs. -/
import Derived.Test.YtbjnbjgiidcfjaaSp11
set_option linter.unusedVariables false
set_option linter.unusedSimpArgs false
namespace Go.Proofs.Ytbjnbjgiidcfjaa.Sp
open Go
section
variable {P : Program} {n : Nat} {E : List (Nat × Value)} {z w : World} {v u s : Value} {L : Hp} {t : TypeId} {K : Act → World → Prop} {g o : Nat} {ds : TypeDesc} {zv : Value} {by_ sz : Nat}
theorem ones {l : List Value} (h : l.all (fun u => u.oneCell') = true) : ∀ u ∈ l, u.oneCell' = true := fun u hu => List.all_eq_true.1 h u hu
/-- A result variable's value at the end. -/
def RV (P : Program) (E : List (Nat × Value)) (w : World) (r : ResultVar) (v : Value) : Prop :=
  match r with
  | .tmp t => lk E t = some v
  | .cell a t => ∃ p, lk E a = some (.pointer (some p)) ∧ (loadVar t p).run P w = .ok v w
theorem rvC {a : Tmp} {p : Addr} (h : lk E a = some (.pointer (some p))) (k : (loadVar t p).run P w = .ok v w) : RV P E w (.cell a t) v := ⟨p, h, k⟩
theorem lvA (TT : TI P t ds zv sz by_) (hb : aggB ds = true) {cs : List Value} (hl : cs.length = sz) (hc : ∀ j v, cs[j]? = some v → w.cell? ⟨g, o + j, none⟩ = some v) : (loadVar t ⟨g, o, none⟩).run P w = .ok (.agg cs.toArray) w := by
  have ha := TT.agg w
  have hsz := TT.size w
  rw [hb] at ha
  have hld : (loadCells ⟨g, o, none⟩ cs.length).run P w = .ok cs.toArray w := run_loadCells_list (P := P) w ⟨g, o, none⟩ cs (fun j v hj => by
    have hadd : (⟨g, o, none⟩ : Addr).add j = ⟨g, o + j, none⟩ := by unfold Addr.add; split <;> simp_all
    rw [hadd]; exact hc j v hj)
  rw [hl] at hld
  simp [loadVar, ha, hsz, hld]
theorem lv1 (TT : TI P t ds zv 1 by_) (hb : aggB ds = false) (hc : w.cell? ⟨g, o, none⟩ = some v) : (loadVar t ⟨g, o, none⟩).run P w = .ok v w := by
  have ha := TT.agg w
  rw [hb] at ha
  simp [loadVar, ha, hc]
variable {fn : Func} {Rr : Ending → World → Prop}
theorem retA {r1 : ResultVar} (hr : fn.results = #[r1]) (h1 : RV P E w r1 v) (h : Rr (.returned v) w) : WK n E w (bodyPost P fn Rr .ret) := fun a hE => by
  refine bodyPost_ret (v := v) ?_ hE.defers h
  cases r1 with
  | tmp t => have h1' := hE.get t _ h1; simp [results, hr, h1']
  | cell q t => obtain ⟨p, hp, k⟩ := h1; have h1' := hE.get q _ hp; simp [results, hr, h1', asAddr, k]
theorem retB {r1 r2 : ResultVar} (hr : fn.results = #[r1, r2]) (h1 : RV P E w r1 v) (h2 : RV P E w r2 u) (h : Rr (.returned (.tuple #[v, u])) w) : WK n E w (bodyPost P fn Rr .ret) := fun a hE => by
  refine bodyPost_ret (v := .tuple #[v, u]) ?_ hE.defers h
  cases r1 with
  | tmp t =>
    have h1' := hE.get t _ h1
    cases r2 with
    | tmp t2 => have h2' := hE.get t2 _ h2; simp [results, hr, h1', h2']
    | cell q t2 => obtain ⟨p, hp, k⟩ := h2; have h2' := hE.get q _ hp; simp [results, hr, h1', h2', asAddr, k]
  | cell q t =>
    obtain ⟨p, hp, k⟩ := h1; have h1' := hE.get q _ hp
    cases r2 with
    | tmp t2 => have h2' := hE.get t2 _ h2; simp [results, hr, h1', h2', asAddr, k]
    | cell q2 t2 => obtain ⟨p2, hp2, k2⟩ := h2; have h2' := hE.get q2 _ hp2; simp [results, hr, h1', h2', asAddr, k, k2]
theorem retC {r1 r2 r3 : ResultVar} (hr : fn.results = #[r1, r2, r3]) (h1 : RV P E w r1 v) (h2 : RV P E w r2 u) (h3 : RV P E w r3 s) (h : Rr (.returned (.tuple #[v, u, s])) w) : WK n E w (bodyPost P fn Rr .ret) := fun a hE => by
  refine bodyPost_ret (v := .tuple #[v, u, s]) ?_ hE.defers h
  cases r1 with
  | tmp t =>
    have h1' := hE.get t _ h1
    cases r2 with
    | tmp t2 =>
      have h2' := hE.get t2 _ h2
      cases r3 with
      | tmp t3 => have h3' := hE.get t3 _ h3; simp [results, hr, h1', h2', h3']
      | cell q3 t3 => obtain ⟨p3, hp3, k3⟩ := h3; have h3' := hE.get q3 _ hp3; simp [results, hr, h1', h2', h3', asAddr, k3]
    | cell q t2 =>
      obtain ⟨p, hp, k⟩ := h2; have h2' := hE.get q _ hp
      cases r3 with
      | tmp t3 => have h3' := hE.get t3 _ h3; simp [results, hr, h1', h2', h3', asAddr, k]
      | cell q3 t3 => obtain ⟨p3, hp3, k3⟩ := h3; have h3' := hE.get q3 _ hp3; simp [results, hr, h1', h2', h3', asAddr, k, k3]
  | cell q t =>
    obtain ⟨p, hp, k⟩ := h1; have h1' := hE.get q _ hp
    cases r2 with
    | tmp t2 =>
      have h2' := hE.get t2 _ h2
      cases r3 with
      | tmp t3 => have h3' := hE.get t3 _ h3; simp [results, hr, h1', h2', h3', asAddr, k]
      | cell q3 t3 => obtain ⟨p3, hp3, k3⟩ := h3; have h3' := hE.get q3 _ hp3; simp [results, hr, h1', h2', h3', asAddr, k, k3]
    | cell q2 t2 =>
      obtain ⟨p2, hp2, k2⟩ := h2; have h2' := hE.get q2 _ hp2
      cases r3 with
      | tmp t3 => have h3' := hE.get t3 _ h3; simp [results, hr, h1', h2', h3', asAddr, k, k2]
      | cell q3 t3 => obtain ⟨p3, hp3, k3⟩ := h3; have h3' := hE.get q3 _ hp3; simp [results, hr, h1', h2', h3', asAddr, k, k2, k3]

/-! ### A slice held against nil -/
variable {e : TypeId} {α : Type} {Kd_ : Kd α} {X : Hp} {A : Option Addr} {m c : Nat} {xs : List α} {x y : Operand} {t' : TypeId}
theorem bSlEql (hx : lv E x = some (.slice A m c)) (hy : lv E y = some (.slice none 0 0)) (hu : P.underlying t = some (.slice e)) : Run P E w (.binOp .eql t x y t') (.bool A.isNone) := run_bin hx hy eqg_sl (by simp only [binOp, eqI_at, Sem.run_bind, eqI_sl0 9999 hu]; cases A <;> rfl)
theorem bSlNeq (hx : lv E x = some (.slice A m c)) (hy : lv E y = some (.slice none 0 0)) (hu : P.underlying t = some (.slice e)) : Run P E w (.binOp .neq t x y t') (.bool A.isSome) := run_bin hx hy eqg_sl (by simp only [binOp, eqI_at, Sem.run_bind, eqI_sl0 9999 hu]; cases A <;> rfl)
theorem RdS.nilq (h : RdS Kd_ X A c xs) : (A = none ∧ xs = []) ∨ (A.isNone = false ∧ A.isSome = true) := by
  rcases A with _ | q
  · left
    rcases h.2 with h | ⟨g, o, h, _⟩
    · exact ⟨rfl, h⟩
    · cases h
  · exact .inr ⟨rfl, rfl⟩
theorem nilF (h : A.isNone = false) : Value.bool A.isNone = .bool false := by rw [h]
theorem nilT (h : A.isSome = true) : Value.bool A.isSome = .bool true := by rw [h]
theorem RdS.none_ (h : RdS Kd_ X none c xs) : xs = [] := by
  rcases h.2 with h | ⟨g, o, h, _⟩
  · exact h
  · cases h
end
end Go.Proofs.Ytbjnbjgiidcfjaa.Sp
