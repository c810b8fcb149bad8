/- The walk's own rules, part 11: cuts as deeds; nil slices; the least facts of frozen memory. -/
import Derived.Test.YtbjnbjgiidcfjaaSp10
set_option linter.unusedVariables false
set_option linter.unusedSimpArgs false
namespace Go.Proofs.Ytbjnbjgiidcfjaa.Sp
open Go
section
variable {P : Program} {E : List (Nat × Value)} {z w : World} {op : Op} {v u : Value} {x y y2 : Operand} {t e : TypeId} {L Lo R X Y G G' X' H : Hp} {α : Type} {K K' : Kd α} {A A2 : Option Addr} {c c2 g o m : Nat} {xs ys : List α} {cs : List Value} {q1 q2 : Option Operand} {lo hi : Int} {ds : TypeDesc} {zv : Value} {by_ : Nat} {k k2 : IntKind}
theorem run_w (h : Run P E w op v) : RunW P E w op v w := h
theorem oCutN (hr : RdS K X A c xs) (hx : lv E x = some (.slice A xs.length c)) (hu : P.underlying t = some (.slice e)) (TT : TI P e ds zv K.sz by_) (hlo : lvo E q1 0 = some lo) (hhi : lvo E q2 xs.length = some hi) (h0 : 0 ≤ lo) (h1 : lo ≤ hi) (h2 : hi ≤ xs.length) :
    ∃ u w', RunW P E w (.slice t x q1 q2 none) u w' ∧ ∃ A' c', u = .slice A' (cutL xs lo hi).length c' ∧ w' = w ∧ RdS K X A' c' (cutL xs lo hi) :=
  ⟨_, _, run_w (slcN xs hx hu TT hlo hhi hr.1 h0 h1 h2), _, _, rfl, rfl, hr.cutN h0 h1 h2⟩
theorem oCutM (hr : RdS K X A c xs) (hx : lv E x = some (.slice A xs.length c)) (hu : P.underlying t = some (.slice e)) (TT : TI P e ds zv K.sz by_) (hlo : lvo E q1 0 = some lo) (hy : lv E y = some (.int k hi)) (hy2 : lv E y2 = some (.int k2 hi)) (h0 : 0 ≤ lo) (h1 : lo ≤ hi) (h2 : hi ≤ xs.length) :
    ∃ u w', RunW P E w (.slice t x q1 (some y) (some y2)) u w' ∧ ∃ A' c', u = .slice A' (cutL xs lo hi).length c' ∧ w' = w ∧ RdS K X A' c' (cutL xs lo hi) :=
  ⟨_, _, run_w (slcM xs hx hu TT hlo hy hr.1 h0 h1 h2 hy2), _, _, rfl, rfl, hr.cutM h0 h1 h2⟩
theorem oCutO (HF : Fits z w (L ++ R)) (ho : OwnS K L A c xs) (hx : lv E x = some (.slice A xs.length c)) (hu : P.underlying t = some (.slice e)) (TT : TI P e ds zv K.sz by_) (hlo : lvo E q1 0 = some lo) (hhi : lvo E q2 xs.length = some hi) (h0 : 0 ≤ lo) (h1 : lo ≤ hi) (h2 : hi ≤ xs.length) :
    ∃ u w', RunW P E w (.slice t x q1 q2 none) u w' ∧ ∃ L' A' c', u = .slice A' (cutL xs lo hi).length c' ∧ Fits z w' (L' ++ R) ∧ OwnS K L' A' c' (cutL xs lo hi) := by
  have hle := ho.le
  obtain ⟨L', h3, h4⟩ := ho.cut HF h0 h1 h2 (q := c - lo.toNat) (by omega) (Nat.le_refl _)
  exact ⟨_, _, run_w (slcN xs hx hu TT hlo hhi hle h0 h1 h2), L', _, _, rfl, h3, h4⟩
theorem eqI_sl0 (d : Nat) (hu : P.underlying t = some (.slice e)) : (Op.equalIn (d + 1) t (.slice A m c) (.slice none 0 0)).run P w = .ok A.isNone w := by cases A <;> simp [Op.equalIn, run_underlying hu]
theorem eqg_sl {op : BinOp} {m2 : Nat} : (eqGuard op t x y (.slice A m c) (.slice A2 m2 c2)).run P w = .ok () w := by unfold eqGuard; split <;> rfl
end
end Go.Proofs.Ytbjnbjgiidcfjaa.Sp
