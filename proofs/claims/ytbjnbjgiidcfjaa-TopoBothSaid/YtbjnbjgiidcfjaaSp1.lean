/- The walk's own rules, part 1: slots as a list, what one operation yields, lists of operations, code. Plain theorems over any program. -/
import Derived.WalkKit
import Derived.OrdersHeld
set_option linter.unusedVariables false
set_option linter.unusedSimpArgs false
namespace Go.Proofs.Ytbjnbjgiidcfjaa.Sp
open Go

/-! ### Slots -/
/-- The value of a slot: the first pair of that number. -/
def lk : List (Nat × Value) → Nat → Option Value
  | [], _ => none
  | p :: E, i => match Nat.beq i p.1 with | true => some p.2 | false => lk E i
/-- An operand's value. -/
def lv (E : List (Nat × Value)) : Operand → Option Value
  | .tmp t => lk E t
  | .const v => some v
  | .global g => some (.pointer (some ⟨g, 0, none⟩))
  | .func f => some (.func (.func f) #[] #[])
def lvs (E : List (Nat × Value)) : List Operand → Option (List Value)
  | [] => some []
  | x :: l => match lv E x with | some v => (match lvs E l with | some vs => some (v :: vs) | none => none) | none => none
structure Env (n : Nat) (E : List (Nat × Value)) (a : Act) : Prop where
  size : a.tmps.size = n
  defers : a.defers = []
  get : ∀ i v, lk E i = some v → a.tmps[i]? = some v
theorem lk_cons_eq {E : List (Nat × Value)} {d : Nat} {v u : Value} (h : lk ((d, v) :: E) d = some u) : u = v := by
  have hb : Nat.beq d d = true := Nat.beq_refl d
  simp [lk, hb] at h
  exact h.symm
theorem lk_cons_ne {E : List (Nat × Value)} {d i : Nat} {v : Value} (hne : i ≠ d) : lk ((d, v) :: E) i = lk E i := by
  have hb : Nat.beq i d = false := by
    cases h : Nat.beq i d with
    | false => rfl
    | true => exact absurd (Nat.eq_of_beq_eq_true h) hne
  simp [lk, hb]
theorem Env.put {n : Nat} {E : List (Nat × Value)} {a : Act} (h : Env n E a) {d : Nat} (hd : Nat.blt d n = true) (v : Value) : Env n ((d, v) :: E) (a.put (some d) v) := by
  have hd' : d < n := by
    have := hd
    simp [Nat.blt] at this
    omega
  refine ⟨by simp [Act.put, h.size], by simp [Act.put, h.defers], fun i u hu => ?_⟩
  by_cases hi : i = d
  · subst hi
    obtain rfl := lk_cons_eq hu
    simp [Act.put, Array.getElem?_setIfInBounds, h.size, hd']
  · rw [lk_cons_ne hi] at hu
    have := h.get i u hu
    simp only [Act.put, Array.getElem?_setIfInBounds]
    rw [if_neg (Ne.symm hi)]
    exact this
theorem Env.ev {n : Nat} {E : List (Nat × Value)} {a : Act} (h : Env n E a) {x : Operand} {v : Value} (hx : lv E x = some v) : a.eval x = v := by
  cases x with
  | tmp t =>
    have := h.get t v hx
    simp only [Act.eval, Array.getD_eq_getD_getElem?, this, Option.getD_some]
  | const u => simp [lv] at hx; simp [Act.eval, hx]
  | global g => simp [lv] at hx; simp [Act.eval, hx]
  | func f => simp [lv] at hx; simp [Act.eval, hx]
theorem Env.evs {n : Nat} {E : List (Nat × Value)} {a : Act} (h : Env n E a) : ∀ (l : List Operand) (vs : List Value), lvs E l = some vs → l.map a.eval = vs
  | [], vs, hx => by simp [lvs] at hx; simp [hx]
  | x :: l, vs, hx => by
    simp only [lvs] at hx
    cases hv : lv E x with
    | none => rw [hv] at hx; cases hx
    | some v =>
      rw [hv] at hx
      cases hr : lvs E l with
      | none => rw [hr] at hx; cases hx
      | some us =>
        rw [hr] at hx
        simp only [Option.some.injEq] at hx
        subst hx
        rw [List.map_cons, h.ev hv, h.evs l us hr]
/-- Fewer slots are known. -/
inductive Keep (E : List (Nat × Value)) : List (Nat × Value) → Prop where
  | nil : Keep E []
  | cons {i : Nat} {v : Value} {E' : List (Nat × Value)} : lk E i = some v → Keep E E' → Keep E ((i, v) :: E')
theorem Keep.lk {E E' : List (Nat × Value)} (h : Keep E E') : ∀ i v, lk E' i = some v → lk E i = some v := by
  induction h with
  | nil => intro i v h; simp [Sp.lk] at h
  | @cons j u E' hj _ ih =>
    intro i v h
    by_cases hi : i = j
    · subst hi; obtain rfl := lk_cons_eq h; exact hj
    · rw [lk_cons_ne hi] at h; exact ih i v h
theorem Env.keep {n : Nat} {E E' : List (Nat × Value)} {a : Act} (h : Env n E a) (k : Keep E E') : Env n E' a := ⟨h.size, h.defers, fun i v hi => h.get i v (k.lk i v hi)⟩

/-! ### Operations -/
/-- In any state with these slots the operation leaves this value, and the world as it is. -/
def Run (P : Program) (E : List (Nat × Value)) (w : World) (op : Op) (v : Value) : Prop :=
  ∀ (n : Nat) (a : Act) (dst : Option Tmp) (ty : TypeId) (pos : String) (after : Array Edge) (g : Option (Nat × Bool)), Env n E a → (execOp a.eval ⟨dst, op, ty, pos, after, g⟩).run P w = .ok (.value v) w
/-- It writes: this world is left. -/
def RunW (P : Program) (E : List (Nat × Value)) (w : World) (op : Op) (v : Value) (w' : World) : Prop :=
  ∀ (n : Nat) (a : Act) (dst : Option Tmp) (ty : TypeId) (pos : String) (after : Array Edge) (g : Option (Nat × Bool)), Env n E a → (execOp a.eval ⟨dst, op, ty, pos, after, g⟩).run P w = .ok (.value v) w'
def RunS (P : Program) (E : List (Nat × Value)) (w : World) (op : Op) (w' : World) : Prop :=
  ∀ (n : Nat) (a : Act) (dst : Option Tmp) (ty : TypeId) (pos : String) (after : Array Edge) (g : Option (Nat × Bool)), Env n E a → (execOp a.eval ⟨dst, op, ty, pos, after, g⟩).run P w = .ok .skip w'
/-- The pairs (operation, slot) that guards name. -/
def DM (ops : Array Oper) : List (Nat × Nat) → Prop
  | [] => True
  | p :: r => ((ops[p.1]?).bind (·.dst) = some p.2) ∧ DM ops r
def WL (P : Program) (n : Nat) (dm : List (Nat × Nat)) (l : List Oper) (E : List (Nat × Value)) (w : World) (Q : Exit → Act → World → Prop) : Prop :=
  ∀ ops a, DM ops dm → Env n E a → wpList P ops Q l a w
def WC (P : Program) (n : Nat) (c : Code) (E : List (Nat × Value)) (w : World) (Q : Exit → Act → World → Prop) : Prop :=
  ∀ a, Env n E a → c.wp P Q a w
/-- What is to be shown of a state with these slots. -/
def WK (n : Nat) (E : List (Nat × Value)) (w : World) (K : Act → World → Prop) : Prop := ∀ a, Env n E a → K a w
section
variable {P : Program} {n : Nat} {dm : List (Nat × Nat)} {l : List Oper} {E : List (Nat × Value)} {w : World} {Q : Exit → Act → World → Prop} {op : Op} {ty : TypeId} {pos : String} {af : Array Edge} {v : Value} {d : Nat}
theorem dm_get {ops : Array Oper} : ∀ (dm : List (Nat × Nat)) (j k : Nat), DM ops dm → (dm.find? (fun p => Nat.beq p.1 j)).map (·.2) = some k → (ops[j]?).bind (·.dst) = some k
  | [], j, k, _, h => by simp at h
  | p :: r, j, k, hd, h => by
    by_cases hj : Nat.beq p.1 j = true
    · simp only [List.find?_cons, hj, Option.map_some, Option.some.injEq] at h
      rw [← Nat.eq_of_beq_eq_true hj, ← h]
      exact hd.1
    · have hj' : Nat.beq p.1 j = false := Bool.eq_false_iff.2 hj
      simp only [List.find?_cons, hj'] at h
      exact dm_get r j k hd.2 h
theorem yielded_of {ops : Array Oper} {a : Act} {j k : Nat} {b : Bool} (hE : Env n E a) (hd : (ops[j]?).bind (·.dst) = some k) (hb : lk E k = some (.bool b)) : yielded ops a.tmps j = some b := by
  have := hE.get k _ hb
  simp [yielded, hd, this]
theorem sL (h : Run P E w op v) (hd : Nat.blt d n = true) (k : WL P n dm l ((d, v) :: E) w Q) : WL P n dm (⟨some d, op, ty, pos, af, none⟩ :: l) E w Q := by
  intro ops a hdm hE
  simp only [wpList, Region.wanted, if_true]
  refine .inl ?_
  simp only [Oper.wp, h n a _ _ _ _ _ hE, Oper.upon]
  exact k ops _ hdm (hE.put hd v)
theorem sG {j k : Nat} {b : Bool} (hj : (dm.find? (fun p => Nat.beq p.1 j)).map (·.2) = some k) (hb : lk E k = some (.bool b)) (h : Run P E w op v) (hd : Nat.blt d n = true) (K : WL P n dm l ((d, v) :: E) w Q) :
    WL P n dm (⟨some d, op, ty, pos, af, some (j, b)⟩ :: l) E w Q := by
  intro ops a hdm hE
  have hy := yielded_of hE (dm_get dm j k hdm hj) hb
  simp only [wpList, Region.wanted, hy, beq_self_eq_true, if_true]
  refine .inl ?_
  simp only [Oper.wp, h n a _ _ _ _ _ hE, Oper.upon]
  exact K ops _ hdm (hE.put hd v)
/-- A guard that says no. -/
theorem sN {j k : Nat} {b : Bool} {dst : Option Tmp} (hj : (dm.find? (fun p => Nat.beq p.1 j)).map (·.2) = some k) (hb : lk E k = some (.bool (!b))) (hdst : dst = some d) (hd : Nat.blt d n = true) (K : WL P n dm l ((d, undef) :: E) w Q) :
    WL P n dm (⟨dst, op, ty, pos, af, some (j, b)⟩ :: l) E w Q := by
  subst hdst
  intro ops a hdm hE
  have hy := yielded_of hE (dm_get dm j k hdm hj) hb
  have hw : ((some (!b) : Option Bool) == some b) = false := by cases b <;> rfl
  simp only [wpList, Region.wanted, hy, hw, if_false, Bool.false_eq_true]
  exact K ops _ hdm (hE.put hd undef)
theorem sN0 {j k : Nat} {b : Bool} (hj : (dm.find? (fun p => Nat.beq p.1 j)).map (·.2) = some k) (hb : lk E k = some (.bool (!b))) (K : WL P n dm l E w Q) :
    WL P n dm (⟨none, op, ty, pos, af, some (j, b)⟩ :: l) E w Q := by
  intro ops a hdm hE
  have hy := yielded_of hE (dm_get dm j k hdm hj) hb
  have hw : ((some (!b) : Option Bool) == some b) = false := by cases b <;> rfl
  simp only [wpList, Region.wanted, hy, hw, if_false, Bool.false_eq_true]
  exact K ops _ hdm hE
theorem sW {w' : World} (h : RunW P E w op v w') (hd : Nat.blt d n = true) (k : WL P n dm l ((d, v) :: E) w' Q) : WL P n dm (⟨some d, op, ty, pos, af, none⟩ :: l) E w Q := by
  intro ops a hdm hE
  simp only [wpList, Region.wanted, if_true]
  refine .inl ?_
  simp only [Oper.wp, h n a _ _ _ _ _ hE, Oper.upon]
  exact k ops _ hdm (hE.put hd v)
theorem sWG {w' : World} {j k : Nat} {b : Bool} (hj : (dm.find? (fun p => Nat.beq p.1 j)).map (·.2) = some k) (hb : lk E k = some (.bool b)) (h : RunW P E w op v w') (hd : Nat.blt d n = true) (K : WL P n dm l ((d, v) :: E) w' Q) :
    WL P n dm (⟨some d, op, ty, pos, af, some (j, b)⟩ :: l) E w Q := by
  intro ops a hdm hE
  have hy := yielded_of hE (dm_get dm j k hdm hj) hb
  simp only [wpList, Region.wanted, hy, beq_self_eq_true, if_true]
  refine .inl ?_
  simp only [Oper.wp, h n a _ _ _ _ _ hE, Oper.upon]
  exact K ops _ hdm (hE.put hd v)
/-- An operation for its deed alone. -/
theorem sS {w' : World} (h : RunS P E w op w') (k : WL P n dm l E w' Q) : WL P n dm (⟨none, op, ty, pos, af, none⟩ :: l) E w Q := by
  intro ops a hdm hE
  simp only [wpList, Region.wanted, if_true]
  refine .inl ?_
  simp only [Oper.wp, h n a _ _ _ _ _ hE, Oper.upon, Act.put]
  exact k ops _ hdm hE
theorem sSG {w' : World} {j k : Nat} {b : Bool} (hj : (dm.find? (fun p => Nat.beq p.1 j)).map (·.2) = some k) (hb : lk E k = some (.bool b)) (h : RunS P E w op w') (K : WL P n dm l E w' Q) :
    WL P n dm (⟨none, op, ty, pos, af, some (j, b)⟩ :: l) E w Q := by
  intro ops a hdm hE
  have hy := yielded_of hE (dm_get dm j k hdm hj) hb
  simp only [wpList, Region.wanted, hy, beq_self_eq_true, if_true]
  refine .inl ?_
  simp only [Oper.wp, h n a _ _ _ _ _ hE, Oper.upon, Act.put]
  exact K ops _ hdm hE
theorem lEnd {K : Act → World → Prop} (h : WK n E w (Q .normal)) : WL P n dm [] E w Q := fun ops a _ hE => h a hE
theorem lKeep {E' : List (Nat × Value)} (k : Keep E E') (h : WL P n dm l E' w Q) : WL P n dm l E w Q := fun ops a hd hE => h ops a hd (hE.keep k)
theorem cKeep {c : Code} {E' : List (Nat × Value)} (k : Keep E E') (h : WC P n c E' w Q) : WC P n c E w Q := fun a hE => h a (hE.keep k)

/-! ### Code -/
theorem cRgn {id : Nat} {ops : List Oper} (dm : List (Nat × Nat)) (hd : DM ops.toArray dm) (h : WL P n dm ops E w Q) : WC P n (.region id ops.toArray false) E w Q :=
  fun a hE => wp_region_lit (h _ a hd hE)
theorem cSeq {x y : Code} (h : ∀ K : Act → World → Prop, (∀ E w, WC P n y E w Q → WK n E w K) → WC P n x E w (Exit.then K Q)) : WC P n (.seq x y) E w Q :=
  fun a hE => wp_seq (h (fun a w => y.wp P Q a w) (fun E w hy a hE => hy a hE) a hE)
theorem cSkip (h : WK n E w (Q .normal)) : WC P n .skip E w Q := fun a hE => wp_skip (h a hE)
theorem cRet (h : WK n E w (Q .ret)) : WC P n .ret E w Q := fun a hE => wp_ret (h a hE)
theorem cExit {id : Nat} (h : WK n E w (Q (.exit id))) : WC P n (.exit id) E w Q := fun a hE => wp_exit (h a hE)
theorem cBlock {id : Nat} {c : Code} (h : WC P n c E w (Exit.inBlock id Q)) : WC P n (.block id c) E w Q := fun a hE => wp_block (h a hE)
theorem cT {c : Operand} {x y : Code} (hc : lv E c = some (.bool true)) (h : WC P n x E w Q) : WC P n (.cond c x y) E w Q := fun a hE => wp_cond_true (hE.ev hc) (h a hE)
theorem cF {c : Operand} {x y : Code} (hc : lv E c = some (.bool false)) (h : WC P n y E w Q) : WC P n (.cond c x y) E w Q := fun a hE => wp_cond_false (hE.ev hc) (h a hE)
/-- A cut: what is known in the middle. -/
theorem cCut {c : Code} (M : Act → World → Prop) (h1 : WC P n c E w (Exit.then M Q)) (h2 : ∀ a w, M a w → Q .normal a w) : WC P n c E w Q :=
  fun a hE => Code.wp_mono (fun e a w h => by cases e <;> first | exact h2 a w h | exact h) (h1 a hE)
theorem wMono {c : Code} {Q' : Exit → Act → World → Prop} (h : WC P n c E w Q) (hq : ∀ e a w, Q e a w → Q' e a w) : WC P n c E w Q' := fun a hE => Code.wp_mono hq (h a hE)
end
theorem lv_bool {E : List (Nat × Value)} {x : Operand} {b b' : Bool} (h : lv E x = some (.bool b)) (e : b = b') : lv E x = some (.bool b') := e ▸ h
theorem lk_bool {E : List (Nat × Value)} {i : Nat} {b b' : Bool} (h : lk E i = some (.bool b)) (e : b = b') : lk E i = some (.bool b') := e ▸ h

/-! ### Loops -/
def iterO {S R : Type} (b : S → Option (S ⊕ R)) : Nat → S → Option R
  | 0, _ => none
  | k + 1, s => match b s with
    | none => none
    | some (.inl s') => iterO b k s'
    | some (.inr r) => some r
theorem iterO_mono {S R : Type} (b : S → Option (S ⊕ R)) : ∀ (k : Nat) (s : S) (r : R), iterO b k s = some r → iterO b (k + 1) s = some r := by
  intro k
  induction k with
  | zero => intro s r h; simp [iterO] at h
  | succ k ih =>
    intro s r h
    rw [iterO] at h ⊢
    cases hb : b s with
    | none => rw [hb] at h; cases h
    | some y =>
      rw [hb] at h
      cases y with
      | inl s' => exact ih s' r h
      | inr r' => exact h
theorem iterO_le {S R : Type} (b : S → Option (S ⊕ R)) {k m : Nat} (hkm : k ≤ m) {s : S} {r : R} (h : iterO b k s = some r) : iterO b m s = some r := by
  induction hkm with
  | refl => exact h
  | step _ ih => exact iterO_mono b _ _ _ ih
open Classical in
/-- A loop: rounds till one of them ends it; none where that never comes. -/
noncomputable def loopO {S R : Type} (b : S → Option (S ⊕ R)) (s : S) : Option R := if h : ∃ k r, iterO b k s = some r then some (Classical.choose (Classical.choose_spec h)) else none
theorem loopO_of_iter {S R : Type} {b : S → Option (S ⊕ R)} {s : S} {r : R} {k : Nat} (h : iterO b k s = some r) : loopO b s = some r := by
  have hx : ∃ k r, iterO b k s = some r := ⟨k, r, h⟩
  have h1 := Classical.choose_spec (Classical.choose_spec hx)
  rw [loopO, dif_pos hx]
  have h2 := iterO_le b (Nat.le_max_left _ k) h1
  have h3 := iterO_le b (Nat.le_max_right (Classical.choose hx) k) h
  rw [← h2, h3]
theorem iter_of_loopO {S R : Type} {b : S → Option (S ⊕ R)} {s : S} {r : R} (h : loopO b s = some r) : ∃ k, iterO b k s = some r := by
  by_cases hx : ∃ k r, iterO b k s = some r
  · obtain ⟨k, r', hr⟩ := hx
    have := loopO_of_iter hr
    rw [this] at h
    exact ⟨k, by rw [hr, h]⟩
  · rw [loopO, dif_neg hx] at h; cases h
theorem loopO_eq {S R : Type} (b : S → Option (S ⊕ R)) (s : S) : loopO b s = match b s with | none => none | some (.inl s') => loopO b s' | some (.inr r) => some r := by
  cases hb : b s with
  | none =>
    cases hl : loopO b s with
    | none => rfl
    | some r =>
      obtain ⟨k, hk⟩ := iter_of_loopO hl
      cases k with
      | zero => simp [iterO] at hk
      | succ k => rw [iterO, hb] at hk; cases hk
  | some y =>
    cases y with
    | inl s' =>
      show loopO b s = loopO b s'
      cases hl : loopO b s' with
      | some r =>
        obtain ⟨k, hk⟩ := iter_of_loopO hl
        exact loopO_of_iter (k := k + 1) (by rw [iterO, hb]; exact hk)
      | none =>
        cases hl2 : loopO b s with
        | none => rfl
        | some r =>
          obtain ⟨k, hk⟩ := iter_of_loopO hl2
          cases k with
          | zero => simp [iterO] at hk
          | succ k =>
            rw [iterO, hb] at hk
            rw [loopO_of_iter hk] at hl; cases hl
    | inr r => exact loopO_of_iter (k := 1) (by rw [iterO, hb])
theorem loopO_inl {S R : Type} {b : S → Option (S ⊕ R)} {s s' : S} (h : b s = some (.inl s')) : loopO b s = loopO b s' := by rw [loopO_eq b s, h]
theorem loopO_inr {S R : Type} {b : S → Option (S ⊕ R)} {s : S} {r : R} (h : b s = some (.inr r)) : loopO b s = some r := by rw [loopO_eq b s, h]
/-- A loop in the program: as the loop of its round. -/
theorem cLoop {P : Program} {n : Nat} {c : Code} {E : List (Nat × Value)} {w : World} {Q : Exit → Act → World → Prop} {S R : Type} (b : S → Option (S ⊕ R)) (I : S → Act → World → Prop) {s : S} {r : R} (H : loopO b s = some r)
    (h0 : ∀ a, Env n E a → I s a w)
    (round : ∀ s a w y, I s a w → b s = some y → (∀ r', y = .inr r' → r' = r) → c.wp P (Exit.then (fun a w => ∃ s', y = .inl s' ∧ I s' a w) Q) a w) : WC P n (.loop c) E w Q := by
  intro a hE
  obtain ⟨k, hk⟩ := iter_of_loopO H
  refine wp_loop_rounds k ?_
  have key : ∀ k s a w, iterO b k s = some r → I s a w → Code.rounds P c Q k a w := by
    intro k
    induction k with
    | zero => intro s a w h; simp [iterO] at h
    | succ k ih =>
      intro s a w h hI
      rw [iterO] at h
      cases hb : b s with
      | none => rw [hb] at h; cases h
      | some y =>
        rw [hb] at h
        rw [rounds_succ]
        refine Code.wp_mono ?_ (round s a w y hI hb ?_)
        · intro e a' w' he
          cases e with
          | normal =>
            obtain ⟨s', rfl, hI'⟩ := he
            exact ih s' a' w' h hI'
          | _ => exact he
        · intro r' hr'
          subst hr'
          simpa using h
  exact key k s a w hk (h0 a hE)
/-! ### Taking a computation apart -/
theorem chk {α : Type} {c : Prop} [Decidable c] {x : Option α} {r : α} (h : (if c then x else none) = some r) : c ∧ x = some r := by
  by_cases hc : c
  · rw [if_pos hc] at h; exact ⟨hc, h⟩
  · rw [if_neg hc] at h; cases h
theorem bnd {α β : Type} {x : Option α} {f : α → Option β} {r : β} (h : x.bind f = some r) : ∃ y, x = some y ∧ f y = some r := by
  cases x with
  | none => cases h
  | some y => exact ⟨y, rfl, h⟩
theorem itT {α : Type} {c : Prop} [Decidable c] {x y : Option α} {r : α} (hc : c) (h : (if c then x else y) = some r) : x = some r := by rw [if_pos hc] at h; exact h
theorem itF {α : Type} {c : Prop} [Decidable c] {x y : Option α} {r : α} (hc : ¬ c) (h : (if c then x else y) = some r) : y = some r := by rw [if_neg hc] at h; exact h
end Go.Proofs.Ytbjnbjgiidcfjaa.Sp
