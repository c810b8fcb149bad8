/- The walk's own rules, part 3: kinds of values, slices that are read and slices that are one's own. -/
import Derived.Test.YtbjnbjgiidcfjaaSp2
set_option linter.unusedVariables false
set_option linter.unusedSimpArgs false
namespace Go.Proofs.Ytbjnbjgiidcfjaa.Sp
open Go

/-- How values of a kind lie in cells: with a memory of their own; readable in a memory. -/
structure Kd (α : Type) where
  sz : Nat
  own : Hp → List Value → α → Prop
  rd : Hp → List Value → α → Prop
  toRd : ∀ {L cs x}, own L cs x → rd L cs x
  mono : ∀ {L L' cs x}, rd L cs x → L ⊆ L' → rd L' cs x
  len : ∀ {L cs x}, rd L cs x → cs.length = sz
  one : ∀ {L cs x}, rd L cs x → ∀ v ∈ cs, v.oneCell' = true
/-- A kind without memory: its cells are a function of the value. -/
def kFlat {α : Type} (enc : α → List Value) (n : Nat) (hn : ∀ x, (enc x).length = n) (h1 : ∀ x, ∀ v ∈ enc x, v.oneCell' = true) : Kd α where
  sz := n
  own L cs x := L = [] ∧ cs = enc x
  rd _ cs x := cs = enc x
  toRd h := h.2
  mono h _ := h
  len h := by rw [h]; exact hn _
  one h := by rw [h]; exact h1 _
def kInt (k : IntKind) : Kd Int := kFlat (fun x => [.int k x]) 1 (fun _ => rfl) (fun x v hv => by simp at hv; subst hv; rfl)
def kBool : Kd Bool := kFlat (fun x => [.bool x]) 1 (fun _ => rfl) (fun x v hv => by simp at hv; subst hv; rfl)
def kStr : Kd ByteArray := kFlat (fun x => [.string x]) 1 (fun _ => rfl) (fun x v hv => by simp at hv; subst hv; rfl)
def kPair {α β : Type} (a : Kd α) (b : Kd β) : Kd (α × β) where
  sz := a.sz + b.sz
  own L cs x := ∃ L1 L2 c1 c2, L = L1 ++ L2 ∧ cs = c1 ++ c2 ∧ a.own L1 c1 x.1 ∧ b.own L2 c2 x.2
  rd L cs x := ∃ c1 c2, cs = c1 ++ c2 ∧ a.rd L c1 x.1 ∧ b.rd L c2 x.2
  toRd := by
    rintro L cs x ⟨L1, L2, c1, c2, rfl, rfl, h1, h2⟩
    exact ⟨c1, c2, rfl, a.mono (a.toRd h1) (List.subset_append_left _ _), b.mono (b.toRd h2) (List.subset_append_right _ _)⟩
  mono := by
    rintro L L' cs x ⟨c1, c2, rfl, h1, h2⟩ hs
    exact ⟨c1, c2, rfl, a.mono h1 hs, b.mono h2 hs⟩
  len := by
    rintro L cs x ⟨c1, c2, rfl, h1, h2⟩
    rw [List.length_append, a.len h1, b.len h2]
  one := by
    rintro L cs x ⟨c1, c2, rfl, h1, h2⟩ v hv
    rcases List.mem_append.1 hv with hv | hv
    · exact a.one h1 v hv
    · exact b.one h2 v hv
def kIso {α β : Type} (a : Kd α) (f : β → α) : Kd β where
  sz := a.sz
  own L cs x := a.own L cs (f x)
  rd L cs x := a.rd L cs (f x)
  toRd := a.toRd
  mono := a.mono
  len := a.len
  one := a.one
/-- What is read in a fixed memory. -/
def kShr {α : Type} (X : Hp) (a : Kd α) : Kd α where
  sz := a.sz
  own L cs x := L = [] ∧ a.rd X cs x
  rd _ cs x := a.rd X cs x
  toRd h := h.2
  mono h _ := h
  len := a.len
  one := a.one
/-- Elements, each with its own memory. -/
def OwnE {α : Type} (K : Kd α) : Hp → List Value → List α → Prop
  | L, cs, [] => L = [] ∧ cs = []
  | L, cs, x :: xs => ∃ L1 L2 c1 c2, L = L1 ++ L2 ∧ cs = c1 ++ c2 ∧ K.own L1 c1 x ∧ OwnE K L2 c2 xs
section
variable {α : Type} {K : Kd α} {L L1 L2 X Y : Hp} {cs c1 c2 : List Value} {x : α} {xs ys : List α} {A : Option Addr} {c : Nat}
theorem OwnE.nil : OwnE K [] [] [] := ⟨rfl, rfl⟩
theorem OwnE.cons (h : K.own L1 c1 x) (hs : OwnE K L2 c2 xs) : OwnE K (L1 ++ L2) (c1 ++ c2) (x :: xs) := ⟨L1, L2, c1, c2, rfl, rfl, h, hs⟩
theorem OwnE.one (h : K.own L1 c1 x) : OwnE K L1 c1 [x] := ⟨L1, [], c1, [], by simp, by simp, h, rfl, rfl⟩
theorem OwnE.app : ∀ {L1 L2 : Hp} {c1 c2 : List Value} {xs ys : List α}, OwnE K L1 c1 xs → OwnE K L2 c2 ys → OwnE K (L1 ++ L2) (c1 ++ c2) (xs ++ ys)
  | _, _, _, _, [], _, ⟨rfl, rfl⟩, h => h
  | _, L2, _, c2, x :: xs, ys, ⟨La, Lb, ca, cb, rfl, rfl, h1, h2⟩, h => ⟨La, Lb ++ L2, ca, cb ++ c2, by simp, by simp, h1, OwnE.app h2 h⟩
theorem OwnE.len : ∀ {L : Hp} {cs : List Value} {xs : List α}, OwnE K L cs xs → cs.length = xs.length * K.sz
  | _, _, [], ⟨rfl, rfl⟩ => by simp
  | _, _, x :: xs, ⟨La, Lb, ca, cb, rfl, rfl, h1, h2⟩ => by
    rw [List.length_append, K.len (K.toRd h1), OwnE.len h2, List.length_cons, Nat.add_mul]; omega
theorem OwnE.oneCell : ∀ {L : Hp} {cs : List Value} {xs : List α}, OwnE K L cs xs → ∀ v ∈ cs, v.oneCell' = true
  | _, _, [], ⟨rfl, rfl⟩, v, hv => by cases hv
  | _, _, x :: xs, ⟨La, Lb, ca, cb, rfl, rfl, h1, h2⟩, v, hv => by
    rcases List.mem_append.1 hv with hv | hv
    · exact K.one (K.toRd h1) v hv
    · exact OwnE.oneCell h2 v hv
/-- Parted at an element. -/
theorem OwnE.at_ : ∀ {L : Hp} {cs : List Value} {xs : List α} {i : Nat} {x : α}, OwnE K L cs xs → xs[i]? = some x →
    ∃ L1 Li L2 c1 ci c2, L = L1 ++ (Li ++ L2) ∧ cs = c1 ++ (ci ++ c2) ∧ c1.length = i * K.sz ∧ OwnE K L1 c1 (xs.take i) ∧ K.own Li ci x ∧ OwnE K L2 c2 (xs.drop (i + 1))
  | _, _, [], i, x, _, hi => by simp at hi
  | _, _, y :: xs, 0, x, ⟨La, Lb, ca, cb, rfl, rfl, h1, h2⟩, hi => by
    simp only [List.getElem?_cons_zero, Option.some.injEq] at hi
    subst hi
    exact ⟨[], La, Lb, [], ca, cb, rfl, rfl, by simp, ⟨rfl, rfl⟩, h1, h2⟩
  | _, _, y :: xs, i + 1, x, ⟨La, Lb, ca, cb, rfl, rfl, h1, h2⟩, hi => by
    simp only [List.getElem?_cons_succ] at hi
    obtain ⟨M1, Mi, M2, d1, di, d2, rfl, rfl, hl, k1, k2, k3⟩ := OwnE.at_ h2 hi
    exact ⟨La ++ M1, Mi, M2, ca ++ d1, di, d2, by simp, by simp, by rw [List.length_append, hl, K.len (K.toRd h1), Nat.add_mul]; omega, OwnE.cons h1 k1, k2, k3⟩
theorem OwnE.split : ∀ {L : Hp} {cs : List Value} {xs : List α} (i : Nat), OwnE K L cs xs → ∃ L1 L2 c1 c2, L = L1 ++ L2 ∧ cs = c1 ++ c2 ∧ OwnE K L1 c1 (xs.take i) ∧ OwnE K L2 c2 (xs.drop i)
  | L, cs, xs, 0, h => ⟨[], L, [], cs, rfl, rfl, ⟨rfl, rfl⟩, h⟩
  | _, _, [], i + 1, ⟨rfl, rfl⟩ => ⟨[], [], [], [], rfl, rfl, ⟨rfl, rfl⟩, ⟨rfl, rfl⟩⟩
  | _, _, x :: xs, i + 1, ⟨La, Lb, ca, cb, rfl, rfl, h1, h2⟩ => by
    obtain ⟨M1, M2, d1, d2, rfl, rfl, k1, k2⟩ := OwnE.split i h2
    exact ⟨La ++ M1, M2, ca ++ d1, d2, by simp, by simp, OwnE.cons h1 k1, k2⟩
/-- The cells of element i. -/
theorem OwnE.cells (h : OwnE K L cs xs) {i : Nat} (hi : xs[i]? = some x) : ∃ ci Li, K.own Li ci x ∧ Li ⊆ L ∧ ∀ j v, ci[j]? = some v → cs[i * K.sz + j]? = some v := by
  obtain ⟨L1, Li, L2, c1, ci, c2, rfl, rfl, hl, _, k, _⟩ := h.at_ hi
  refine ⟨ci, Li, k, fun p hp => by simp [hp], fun j v hv => ?_⟩
  have hj : j < ci.length := (List.getElem?_eq_some_iff.1 hv).1
  rw [← hl, List.getElem?_append_right (by omega)]
  simp only [Nat.add_sub_cancel_left]
  rw [List.getElem?_append_left hj]
  exact hv
end
/-- A slice that can be read in a memory. -/
def RdS {α : Type} (K : Kd α) (X : Hp) (A : Option Addr) (c : Nat) (xs : List α) : Prop :=
  xs.length ≤ c ∧ (xs = [] ∨ ∃ g o, A = some ⟨g, o, none⟩ ∧ ∀ i x, xs[i]? = some x → ∃ cs, K.rd X cs x ∧ ∀ j v, cs[j]? = some v → CellIn X ⟨g, o + i * K.sz + j, none⟩ v)
/-- A slice of one's own: its row's block, and what its elements own. -/
def OwnS {α : Type} (K : Kd α) (L : Hp) (A : Option Addr) (c : Nat) (xs : List α) : Prop :=
  (A = none ∧ c = 0 ∧ xs = [] ∧ L = []) ∨
  ∃ g o arr T Lr, A = some ⟨g, o, none⟩ ∧ L = (g, .cells arr T (0, 0)) :: Lr ∧ xs.length ≤ c ∧ c ≤ maxLen ∧ o + c * K.sz ≤ arr.size ∧ OwnE K Lr ((arr.toList.drop o).take (xs.length * K.sz)) xs
section
variable {α : Type} {K : Kd α} {L L1 L2 X Y : Hp} {cs c1 c2 : List Value} {x : α} {xs ys : List α} {A : Option Addr} {c : Nat}
theorem RdS.mono (h : RdS K X A c xs) (hs : X ⊆ Y) : RdS K Y A c xs := by
  refine ⟨h.1, ?_⟩
  rcases h.2 with hn | ⟨g, o, rfl, hh⟩
  · exact .inl hn
  · exact .inr ⟨g, o, rfl, fun i x hi => by
      obtain ⟨cs, h1, h2⟩ := hh i x hi
      exact ⟨cs, K.mono h1 hs, fun j v hv => (h2 j v hv).mono hs⟩⟩
theorem RdS.nil {c : Nat} : RdS K X A c [] := ⟨by simp, .inl rfl⟩
theorem OwnS.nil : OwnS K [] none 0 [] := .inl ⟨rfl, rfl, rfl, rfl⟩
theorem OwnS.rd (h : OwnS K L A c xs) : RdS K L A c xs := by
  rcases h with ⟨rfl, rfl, rfl, rfl⟩ | ⟨g, o, arr, T, Lr, rfl, rfl, hl, hm, hs, he⟩
  · exact RdS.nil
  · refine ⟨hl, .inr ⟨g, o, rfl, fun i x hi => ?_⟩⟩
    obtain ⟨ci, Li, k, hsub, hc⟩ := he.cells hi
    refine ⟨ci, K.mono (K.toRd k) (fun p hp => List.mem_cons_of_mem _ (hsub hp)), fun j v hv => ?_⟩
    have h1 := hc j v hv
    rw [List.getElem?_take] at h1
    split at h1
    · rw [List.getElem?_drop] at h1
      exact ⟨rfl, arr, T, (0, 0), List.mem_cons_self .., by rw [← Array.getElem?_toList, Nat.add_assoc]; exact h1⟩
    · cases h1
theorem OwnS.le (h : OwnS K L A c xs) : xs.length ≤ c := h.rd.1
/-- A new row, full. -/
theorem OwnS.lit {g T : Nat} {l : List Value} (h : OwnE K L l xs) (hm : xs.length ≤ maxLen) : OwnS K (bk g T l :: L) (some ⟨g, 0, none⟩) xs.length xs := by
  refine .inr ⟨g, 0, l.toArray, T, L, rfl, rfl, Nat.le_refl _, hm, ?_, ?_⟩
  · simp [h.len]
  · have : (l.toArray.toList.drop 0).take (xs.length * K.sz) = l := by
      simp [← h.len]
    rw [this]; exact h
/-- Element i of a list, by a whole number. -/
def rd {α : Type} [Inhabited α] (xs : List α) (i : Int) : α := xs.getD i.toNat default
theorem rd_get {α : Type} [Inhabited α] {xs : List α} {i : Int} (h0 : 0 ≤ i) (h1 : i < xs.length) : xs[i.toNat]? = some (rd xs i) := by
  have : i.toNat < xs.length := by omega
  simp [rd, List.getD_eq_getElem?_getD, this]
/-- Element i of a slice that is read: where its row lies, its cells. -/
theorem RdS.at_ {α : Type} [Inhabited α] {K : Kd α} {X : Hp} {A : Option Addr} {c : Nat} {xs : List α} (h : RdS K X A c xs) {i : Int} (h0 : 0 ≤ i) (h1 : i < xs.length) :
    ∃ g o cs, A = some ⟨g, o, none⟩ ∧ K.rd X cs (rd xs i) ∧ ∀ j v, cs[j]? = some v → CellIn X ⟨g, o + i.toNat * K.sz + j, none⟩ v := by
  have hi := rd_get h0 h1
  rcases h.2 with rfl | ⟨g, o, rfl, hh⟩
  · simp at hi
  · obtain ⟨cs, k1, k2⟩ := hh _ _ hi
    exact ⟨g, o, cs, rfl, k1, k2⟩
theorem RdS.at' {α : Type} [Inhabited α] {K : Kd α} {X : Hp} {g o : Nat} {c : Nat} {xs : List α} (h : RdS K X (some ⟨g, o, none⟩) c xs) {i : Int} (h0 : 0 ≤ i) (h1 : i < xs.length) :
    ∃ cs, K.rd X cs (rd xs i) ∧ ∀ j v, cs[j]? = some v → CellIn X ⟨g, o + i.toNat * K.sz + j, none⟩ v := by
  obtain ⟨g', o', cs, he, k1, k2⟩ := h.at_ h0 h1
  simp only [Option.some.injEq, Addr.mk.injEq, and_true] at he
  obtain ⟨rfl, rfl⟩ := he
  exact ⟨cs, k1, k2⟩
end
/-- The kind of slices. -/
def kSl {α : Type} (K : Kd α) : Kd (List α) where
  sz := 1
  own L cs xs := ∃ A c, cs = [.slice A xs.length c] ∧ OwnS K L A c xs
  rd L cs xs := ∃ A c, cs = [.slice A xs.length c] ∧ RdS K L A c xs
  toRd := by rintro L cs x ⟨A, c, rfl, h⟩; exact ⟨A, c, rfl, h.rd⟩
  mono := by rintro L L' cs x ⟨A, c, rfl, h⟩ hs; exact ⟨A, c, rfl, h.mono hs⟩
  len := by rintro L cs x ⟨A, c, rfl, h⟩; rfl
  one := by rintro L cs x ⟨A, c, rfl, h⟩ v hv; simp at hv; subst hv; rfl
/-- A pointer to a block of one's own, or none. -/
def kPtr {α : Type} (K : Kd α) (T : TypeId) : Kd (Option α) where
  sz := 1
  own L cs x := match x with
    | none => L = [] ∧ cs = [.pointer none]
    | some a => ∃ g l Lr, L = bk g T l :: Lr ∧ cs = [.pointer (some ⟨g, 0, none⟩)] ∧ K.own Lr l a
  rd L cs x := match x with
    | none => cs = [.pointer none]
    | some a => ∃ g l, bk g T l ∈ L ∧ cs = [.pointer (some ⟨g, 0, none⟩)] ∧ K.rd L l a
  toRd := by
    intro L cs x h
    cases x with
    | none => exact h.2
    | some a =>
      obtain ⟨g, l, Lr, rfl, rfl, h⟩ := h
      exact ⟨g, l, List.mem_cons_self .., rfl, K.mono (K.toRd h) (fun p hp => List.mem_cons_of_mem _ hp)⟩
  mono := by
    intro L L' cs x h hs
    cases x with
    | none => exact h
    | some a =>
      obtain ⟨g, l, hm, rfl, h⟩ := h
      exact ⟨g, l, hs hm, rfl, K.mono h hs⟩
  len := by
    intro L cs x h
    cases x with
    | none => rw [h]; rfl
    | some a => obtain ⟨g, l, hm, rfl, h⟩ := h; rfl
  one := by
    intro L cs x h v hv
    cases x with
    | none => rw [h] at hv; simp at hv; subst hv; rfl
    | some a => obtain ⟨g, l, hm, rfl, h⟩ := h; simp at hv; subst hv; rfl
end Go.Proofs.Ytbjnbjgiidcfjaa.Sp
