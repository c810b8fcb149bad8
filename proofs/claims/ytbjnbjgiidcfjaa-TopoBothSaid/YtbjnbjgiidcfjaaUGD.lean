/- Slices, plain: loops over lists; the first of a kind; what is deleted; what is alike made one. Conditions: none. -/
import Derived.Test.YtbjnbjgiidcfjaaUGS1
set_option linter.unusedVariables false
set_option linter.unusedSectionVars false
set_option linter.unusedSimpArgs false
namespace Go.Proofs.Ytbjnbjgiidcfjaa
open Go Go.Proofs.Ytbjnbjgiidcfjaa.Sp
noncomputable def gIdx_b0 {α : Type} [Inhabited α] (pf : α → Option Bool) (a0 : List α) (s1 : Int) : Option (Sum (Int) (Sum (Int) Int)) := (if s1 < (a0.length : Int) then (if 0 ≤ s1 then ((pf (rd a0 s1)).bind fun t3 => (if t3 = true then some (.inr (.inr s1)) else some (.inl (IntKind.i64.wrap (s1 + 1))))) else none) else some (.inr (.inl s1)))
noncomputable def gIdx {α : Type} [Inhabited α] (pf : α → Option Bool) (a0 : List α) : Option Int := ((loopO (gIdx_b0 pf a0) 0).bind fun y1 => match y1 with | .inl s1 => some (-1) | .inr r_ => some r_)
noncomputable def gDel_b0 {α : Type} [Inhabited α] (pf : α → Option Bool) (s1 : Int × Int × (List α)) : Option (Sum (Int × Int × (List α)) (Sum (Int × Int × (List α)) (List α))) := (if s1.2.1 < (s1.2.2.length : Int) then (if 0 ≤ s1.2.1 then ((pf (rd s1.2.2 s1.2.1)).bind fun t4 => (if t4 = true then some (.inl (s1.1, IntKind.i64.wrap (s1.2.1 + 1), s1.2.2)) else (if 0 ≤ s1.1 then (if s1.1 < (s1.2.2.length : Int) then some (.inl (IntKind.i64.wrap (s1.1 + 1), IntKind.i64.wrap (s1.2.1 + 1), setI s1.2.2 s1.1 (rd s1.2.2 s1.2.1))) else none) else none))) else none) else some (.inr (.inl (s1.1, s1.2.1, s1.2.2))))
noncomputable def gDel {α : Type} [Inhabited α] (pf : α → Option Bool) (z : α) (a0 : List α) : Option (List α) := ((gIdx pf a0).bind fun t1 => (if t1 = (-1) then some a0 else ((loopO (gDel_b0 pf) (t1, IntKind.i64.wrap (t1 + 1), a0)).bind fun y1 => match y1 with | .inl s1 => (if 0 ≤ s1.1 then (if s1.1 ≤ (s1.2.2.length : Int) then (if s1.1 ≤ ((clrL s1.2.2 s1.1 z).length : Int) then some (cutL (clrL s1.2.2 s1.1 z) (0 : Int) s1.1) else none) else none) else none) | .inr r_ => some r_)))
noncomputable def gCpt_b0 {α : Type} [Inhabited α] (ef : α → α → Option Bool) (s3 : Int) (s4 : Int × Int × (List α)) : Option (Sum (Int × Int × (List α)) (Sum (Int × Int × (List α)) (List α))) := (if s4.2.1 < ((cutL s4.2.2 s3 (s4.2.2.length : Int)).length : Int) then (if 0 ≤ s3 then (if s3 ≤ (s4.2.2.length : Int) then (if 0 ≤ s4.2.1 then (if 0 ≤ (IntKind.i64.wrap (s4.2.1 - 1)) then (if (IntKind.i64.wrap (s4.2.1 - 1)) < ((cutL s4.2.2 s3 (s4.2.2.length : Int)).length : Int) then ((ef (rd (cutL s4.2.2 s3 (s4.2.2.length : Int)) s4.2.1) (rd (cutL s4.2.2 s3 (s4.2.2.length : Int)) (IntKind.i64.wrap (s4.2.1 - 1)))).bind fun t24 => (if t24 = true then some (.inl (s4.1, IntKind.i64.wrap (s4.2.1 + 1), s4.2.2)) else (if 0 ≤ s4.1 then (if s4.1 < (s4.2.2.length : Int) then some (.inl (IntKind.i64.wrap (s4.1 + 1), IntKind.i64.wrap (s4.2.1 + 1), setI s4.2.2 s4.1 (rd (cutL s4.2.2 s3 (s4.2.2.length : Int)) s4.2.1))) else none) else none))) else none) else none) else none) else none) else none) else some (.inr (.inl (s4.1, s4.2.1, s4.2.2))))
noncomputable def gCpt_b1 {α : Type} [Inhabited α] (ef : α → α → Option Bool) (z : α) (a0 : List α) (s3 : Int) : Option (Sum (Int) (Sum (Int) (List α))) := (if s3 < (a0.length : Int) then (if 0 ≤ s3 then (if 0 ≤ (IntKind.i64.wrap (s3 - 1)) then (if (IntKind.i64.wrap (s3 - 1)) < (a0.length : Int) then ((ef (rd a0 s3) (rd a0 (IntKind.i64.wrap (s3 - 1)))).bind fun t18 => (if t18 = true then (if s3 ≤ (a0.length : Int) then ((loopO (gCpt_b0 ef s3) (s3, 1, a0)).bind fun y7 => match y7 with | .inl s4 => (if 0 ≤ s4.1 then (if s4.1 ≤ (s4.2.2.length : Int) then (if s4.1 ≤ ((clrL s4.2.2 s4.1 z).length : Int) then some (.inr (.inr (cutL (clrL s4.2.2 s4.1 z) (0 : Int) s4.1))) else none) else none) else none) | .inr r_ => some (.inr (.inr r_))) else none) else some (.inl (IntKind.i64.wrap (s3 + 1))))) else none) else none) else none) else some (.inr (.inl s3)))
noncomputable def gCpt {α : Type} [Inhabited α] (ef : α → α → Option Bool) (z : α) (a0 : List α) : Option (List α) := (if (a0.length : Int) < 2 then some a0 else ((loopO (gCpt_b1 ef z a0) 1).bind fun y5 => match y5 with | .inl s3 => some a0 | .inr r_ => some r_))
section
variable {α σ R : Type}
theorem loop_pre {b : σ → Option (σ ⊕ R)} (st : List α → σ) : ∀ (suf pre : List α), (∀ p x s, pre ++ suf = p ++ x :: s → b (st p) = some (.inl (st (p ++ [x])))) → loopO b (st pre) = loopO b (st (pre ++ suf))
  | [], pre, h => by simp
  | x :: suf, pre, h => by
    rw [loopO_inl (h pre x suf rfl), loop_pre st suf (pre ++ [x]) (by simpa using h)]
    simp
/-- A loop over a list: what the state is behind each first part. -/
theorem loop_all {b : σ → Option (σ ⊕ R)} (st : List α → σ) (xs : List α) (h : ∀ p x s, xs = p ++ x :: s → b (st p) = some (.inl (st (p ++ [x])))) : loopO b (st []) = loopO b (st xs) := by
  have := loop_pre (b := b) st xs [] (by simpa using h)
  simpa using this
/-- A loop that seeks. -/
theorem loop_first {b : σ → Option (σ ⊕ R)} (st : List α → σ) (p : α → Prop) (res : List α → α → R) : ∀ (suf pre : List α), (∀ q x s, pre ++ suf = q ++ x :: s → ¬ p x → b (st q) = some (.inl (st (q ++ [x])))) → (∀ q x s, pre ++ suf = q ++ x :: s → p x → b (st q) = some (.inr (res q x))) → (∀ y ∈ pre, ¬ p y) →
    (∃ q x s, pre ++ suf = q ++ x :: s ∧ (∀ y ∈ q, ¬ p y) ∧ p x ∧ loopO b (st pre) = some (res q x)) ∨ ((∀ y ∈ pre ++ suf, ¬ p y) ∧ loopO b (st pre) = loopO b (st (pre ++ suf)))
  | [], pre, h1, h2, h3 => .inr ⟨by simpa using h3, by simp⟩
  | x :: suf, pre, h1, h2, h3 => by
    by_cases hx : p x
    · exact .inl ⟨pre, x, suf, rfl, h3, hx, loopO_inr (h2 pre x suf rfl hx)⟩
    · have h3' : ∀ y ∈ pre ++ [x], ¬ p y := by
        intro y hy
        rcases List.mem_append.1 hy with hy | hy
        · exact h3 y hy
        · simp at hy; subst hy; exact hx
      rw [loopO_inl (h1 pre x suf rfl hx)]
      rcases loop_first st p res suf (pre ++ [x]) (by simpa using h1) (by simpa using h2) h3' with ⟨q, y, s, k1, k2, k3, k4⟩ | ⟨k1, k2⟩
      · exact .inl ⟨q, y, s, by simpa using k1, k2, k3, k4⟩
      · exact .inr ⟨by simpa using k1, by simpa using k2⟩
end
section
variable {α : Type} [Inhabited α]
theorem wi {n : Nat} {m : Nat} (h : (m : Int) ≤ big) (hn : n < m) : IntKind.i64.wrap ((n : Int) + 1) = ((n + 1 : Nat) : Int) := by
  simp only [big] at h
  rw [w64' (by omega) (by omega)]; omega
theorem idx_ok {pf : α → Option Bool} (p : α → Bool) (hp : ∀ x, pf x = some (p x)) (l : List α) (hl : (l.length : Int) ≤ big) :
    (∃ q x s, l = q ++ x :: s ∧ (∀ y ∈ q, p y = false) ∧ p x = true ∧ gIdx pf l = some (q.length : Int)) ∨ ((∀ y ∈ l, p y = false) ∧ gIdx pf l = some (-1)) := by
  have hgo : ∀ q x s, l = q ++ x :: s → p x = false → gIdx_b0 pf l (q.length : Int) = some (.inl (((q ++ [x]).length : Nat) : Int)) := by
    intro q x s hs hx
    have hlen : q.length < l.length := by rw [hs]; simp
    have hr : rd l (q.length : Int) = x := by rw [hs]; exact rd_mid rfl
    unfold gIdx_b0
    rw [if_pos (by omega), if_pos (by omega), hr, hp]
    simp only [Option.bind_some, hx, wi hl hlen]
    simp
  have hstop : ∀ q x s, l = q ++ x :: s → p x = true → gIdx_b0 pf l (q.length : Int) = some (.inr (.inr (q.length : Int))) := by
    intro q x s hs hx
    have hlen : q.length < l.length := by rw [hs]; simp
    have hr : rd l (q.length : Int) = x := by rw [hs]; exact rd_mid rfl
    unfold gIdx_b0
    rw [if_pos (by omega), if_pos (by omega), hr, hp]
    simp only [Option.bind_some, hx, if_true]
  rcases loop_first (b := gIdx_b0 pf l) (fun q => (q.length : Int)) (fun x => p x = true) (fun q x => .inr (q.length : Int)) l [] (fun q x s h hx => hgo q x s (by simpa using h) (by simpa using hx)) (fun q x s h hx => hstop q x s (by simpa using h) hx) (by simp) with ⟨q, x, s, h1, h2, h3, h4⟩ | ⟨h1, h2⟩
  · refine .inl ⟨q, x, s, by simpa using h1, fun y hy => by simpa using h2 y hy, h3, ?_⟩
    unfold gIdx
    rw [show (0 : Int) = ((([] : List α).length : Nat) : Int) from rfl, h4]
    rfl
  · refine .inr ⟨fun y hy => by simpa using h1 y (by simpa using hy), ?_⟩
    unfold gIdx
    rw [show (0 : Int) = ((([] : List α).length : Nat) : Int) from rfl, h2]
    rw [loopO_inr (r := Sum.inl (((([] : List α) ++ l).length : Nat) : Int))]
    · rfl
    · unfold gIdx_b0
      rw [if_neg (by simp)]
theorem cut_clr {K J : List α} {i : Int} {z : α} (h : i = K.length) : cutL (clrL (K ++ J) i z) (0 : Int) i = K := by
  subst h
  unfold cutL clrL
  simp
theorem len_clr {K J : List α} {i : Int} {z : α} (h : i = K.length) : (clrL (K ++ J) i z).length = (K ++ J).length := len_clrL (by subst h; simp; omega)
theorem del0 {pf : α → Option Bool} (p : α → Bool) (hp : ∀ x, pf x = some (p x)) : ∀ (suf K J : List α), J ≠ [] → ((K ++ J ++ suf).length : Int) ≤ big →
    ∃ J' n, loopO (gDel_b0 pf) ((K.length : Int), ((K ++ J).length : Int), K ++ J ++ suf) = some (.inl (((K ++ suf.filter (fun x => !p x)).length : Int), n, (K ++ suf.filter (fun x => !p x)) ++ J'))
  | [], K, J, hJ, hl => by
    refine ⟨J, ((K ++ J).length : Int), loopO_inr (r := Sum.inl ((K.length : Int), ((K ++ J).length : Int), K ++ J ++ [])) ?_ |>.trans (by simp)⟩
    unfold gDel_b0
    rw [if_neg (by simp)]
  | x :: suf, K, J, hJ, hl => by
    have hl' := hl
    simp only [List.length_append, List.length_cons, big] at hl'
    have hr : rd (K ++ J ++ x :: suf) ((K ++ J).length : Int) = x := rd_mid rfl
    have w1 : IntKind.i64.wrap (((K ++ J).length : Int) + 1) = ((K ++ J).length : Int) + 1 := by simp only [List.length_append]; exact w64' (by omega) (by omega)
    cases hx : p x with
    | true =>
      have hstep : gDel_b0 pf ((K.length : Int), ((K ++ J).length : Int), K ++ J ++ x :: suf) = some (.inl ((K.length : Int), ((K ++ (J ++ [x])).length : Int), K ++ (J ++ [x]) ++ suf)) := by
        unfold gDel_b0
        simp only [hr, hp, Option.bind_some, hx, w1, if_true]
        rw [if_pos (by simp; omega), if_pos (by omega)]
        simp; omega
      obtain ⟨J', n, h⟩ := del0 p hp suf K (J ++ [x]) (by simp) (by simp only [List.length_append, List.length_cons, List.length_nil, big]; omega)
      exact ⟨J', n, by rw [loopO_inl hstep, h]; simp [hx]⟩
    | false =>
      obtain ⟨j, J0, rfl⟩ : ∃ j J0, J = j :: J0 := by
        cases J with
        | nil => exact absurd rfl hJ
        | cons j J0 => exact ⟨j, J0, rfl⟩
      have w2 : IntKind.i64.wrap ((K.length : Int) + 1) = (K.length : Int) + 1 := w64' (by omega) (by omega)
      have hs : setI (K ++ j :: J0 ++ x :: suf) (K.length : Int) x = (K ++ [x]) ++ (J0 ++ [x]) ++ suf := by
        rw [show K ++ j :: J0 ++ x :: suf = K ++ j :: (J0 ++ x :: suf) by simp, setI_mid rfl]; simp
      have hstep : gDel_b0 pf ((K.length : Int), ((K ++ j :: J0).length : Int), K ++ j :: J0 ++ x :: suf) = some (.inl (((K ++ [x]).length : Int), (((K ++ [x]) ++ (J0 ++ [x])).length : Int), (K ++ [x]) ++ (J0 ++ [x]) ++ suf)) := by
        unfold gDel_b0
        simp only [hr, hp, Option.bind_some, hx, w1, w2, hs, Bool.false_eq_true, if_false]
        rw [if_pos (by simp; omega), if_pos (by omega), if_pos (by omega), if_pos (by simp; omega)]
        simp; omega
      obtain ⟨J', n, h⟩ := del0 p hp suf (K ++ [x]) (J0 ++ [x]) (by simp) (by simp only [List.length_append, List.length_cons, List.length_nil, big] at hl' ⊢; omega)
      exact ⟨J', n, by rw [loopO_inl hstep, h]; simp [hx]⟩
theorem del_ok {pf : α → Option Bool} (p : α → Bool) (hp : ∀ x, pf x = some (p x)) (z : α) (l : List α) (hl : (l.length : Int) ≤ big) : gDel pf z l = some (l.filter (fun x => !p x)) := by
  rcases idx_ok p hp l hl with ⟨q, x, s, rfl, h2, h3, h4⟩ | ⟨h1, h2⟩
  · have hl' := hl
    simp only [List.length_append, List.length_cons, big] at hl'
    obtain ⟨J', n, h⟩ := del0 p hp s q [x] (by simp) (by simpa using hl)
    have w2 : IntKind.i64.wrap ((q.length : Int) + 1) = ((q ++ [x]).length : Int) := by rw [w64' (by omega) (by omega)]; simp
    have hq : (q ++ x :: s).filter (fun x => !p x) = q ++ s.filter (fun x => !p x) := by
      rw [List.filter_append, List.filter_cons]
      simp only [h3, Bool.not_true, Bool.false_eq_true, if_false]
      congr 1
      exact List.filter_eq_self.2 (fun y hy => by simp [h2 y hy])
    unfold gDel
    rw [h4]
    simp only [Option.bind_some, w2]
    rw [if_neg (by omega), show q ++ x :: s = q ++ [x] ++ s by simp, h]
    simp only [Option.bind_some]
    rw [if_pos (by omega), if_pos (by simp <;> omega), if_pos (by rw [len_clr rfl]; simp <;> omega), cut_clr rfl, ← hq]
    simp
  · unfold gDel
    rw [h2]
    simp only [Option.bind_some]
    rw [if_pos trivial]
    congr 1
    exact (List.filter_eq_self.2 (fun y hy => by simp [h1 y hy])).symm
/-- Of those that stand side by side and are alike the first one. -/
def dd (e : α → α → Bool) : α → List α → List α
  | _, [] => []
  | p, x :: t => if e x p then dd e x t else x :: dd e x t
def cpt (e : α → α → Bool) : List α → List α
  | [] => []
  | x :: t => x :: dd e x t
theorem cpt0 {ef : α → α → Option Bool} (e : α → α → Bool) (he : ∀ x y, ef x y = some (e x y)) (k0 : Nat) : ∀ (suf K J : List α) (prev : α) (k2 : Int), k0 ≤ K.length → (k0 : Int) + k2 = (K.length : Int) + J.length + 1 → 1 ≤ k2 → ((K ++ J ++ prev :: suf).length : Int) ≤ big →
    ∃ J' n, loopO (gCpt_b0 ef k0) ((K.length : Int), k2, K ++ J ++ prev :: suf) = some (.inl (((K ++ dd e prev suf).length : Int), n, (K ++ dd e prev suf) ++ J'))
  | [], K, J, prev, k2, hk, hk2, h1, hl => by
    have hl' := hl
    simp only [List.length_append, List.length_cons, List.length_nil, big] at hl'
    refine ⟨J ++ [prev], k2, loopO_inr (r := Sum.inl ((K.length : Int), k2, K ++ J ++ prev :: [])) ?_ |>.trans (by simp [dd])⟩
    unfold gCpt_b0
    have hcl := len_cutL (xs := K ++ J ++ [prev]) (lo := (k0 : Int)) (hi := ((K ++ J ++ [prev]).length : Int)) (by omega) (by simp; omega) (Int.le_refl _)
    rw [if_neg (by simp only [hcl]; simp; omega)]
  | x :: suf, K, J, prev, k2, hk, hk2, h1, hl => by
    have hl' := hl
    simp only [List.length_append, List.length_cons, big] at hl'
    have hcl := len_cutL (xs := K ++ J ++ prev :: x :: suf) (lo := (k0 : Int)) (hi := ((K ++ J ++ prev :: x :: suf).length : Int)) (by omega) (by simp; omega) (Int.le_refl _)
    have hcl' : ((cutL (K ++ J ++ prev :: x :: suf) (k0 : Int) ((K ++ J ++ prev :: x :: suf).length : Int)).length : Int) = (K.length : Int) + J.length + 2 + suf.length - k0 := by rw [hcl]; simp; omega
    have hcut : ∀ i : Int, 0 ≤ i → rd (cutL (K ++ J ++ prev :: x :: suf) (k0 : Int) ((K ++ J ++ prev :: x :: suf).length : Int)) i = rd (K ++ J ++ prev :: x :: suf) (k0 + i) := by
      intro i hi
      unfold rd cutL
      simp only [List.getD_eq_getElem?_getD, Int.toNat_natCast, List.take_length, List.getElem?_drop]
      congr 3
      omega
    have r1 : rd (K ++ J ++ prev :: x :: suf) ((k0 : Int) + k2) = x := by
      rw [show K ++ J ++ prev :: x :: suf = (K ++ J ++ [prev]) ++ x :: suf by simp]; exact rd_mid (by simp; omega)
    have r2 : rd (K ++ J ++ prev :: x :: suf) ((k0 : Int) + (k2 - 1)) = prev := rd_mid (by simp; omega)
    have w1 : IntKind.i64.wrap (k2 - 1) = k2 - 1 := w64' (by omega) (by omega)
    have w2 : IntKind.i64.wrap (k2 + 1) = k2 + 1 := w64' (by omega) (by omega)
    have w3 : IntKind.i64.wrap ((K.length : Int) + 1) = (K.length : Int) + 1 := w64' (by omega) (by omega)
    cases hx : e x prev with
    | true =>
      have hstep : gCpt_b0 ef k0 ((K.length : Int), k2, K ++ J ++ prev :: x :: suf) = some (.inl ((K.length : Int), k2 + 1, K ++ (J ++ [prev]) ++ x :: suf)) := by
        unfold gCpt_b0
        simp only [w1, w2, hcut k2 (by omega), hcut (k2 - 1) (by omega), r1, r2, he, hx, Option.bind_some, if_true, hcl']
        rw [if_pos (by omega), if_pos (by omega), if_pos (by simp; omega), if_pos (by omega), if_pos (by omega), if_pos (by omega)]
        simp
      obtain ⟨J', n, h⟩ := cpt0 e he k0 suf K (J ++ [prev]) x (k2 + 1) hk (by simp; omega) (by omega) (by simp only [List.length_append, List.length_cons, List.length_nil, big]; omega)
      exact ⟨J', n, by rw [loopO_inl hstep, h]; simp [dd, hx]⟩
    | false =>
      obtain ⟨J1, hs⟩ : ∃ J1, setI (K ++ J ++ prev :: x :: suf) (K.length : Int) x = (K ++ [x]) ++ J1 ++ x :: suf ∧ J1.length = J.length := by
        cases J with
        | nil => exact ⟨[], by rw [show K ++ [] ++ prev :: x :: suf = K ++ prev :: (x :: suf) by simp, setI_mid rfl]; simp, rfl⟩
        | cons j J0 => exact ⟨J0 ++ [prev], by rw [show K ++ j :: J0 ++ prev :: x :: suf = K ++ j :: (J0 ++ prev :: x :: suf) by simp, setI_mid rfl]; simp, by simp⟩
      have hstep : gCpt_b0 ef k0 ((K.length : Int), k2, K ++ J ++ prev :: x :: suf) = some (.inl (((K ++ [x]).length : Int), k2 + 1, (K ++ [x]) ++ J1 ++ x :: suf)) := by
        unfold gCpt_b0
        simp only [w1, w2, w3, hcut k2 (by omega), hcut (k2 - 1) (by omega), r1, r2, he, hx, Option.bind_some, hcl', hs.1, Bool.false_eq_true, if_false]
        rw [if_pos (by omega), if_pos (by omega), if_pos (by simp; omega), if_pos (by omega), if_pos (by omega), if_pos (by omega), if_pos (by omega), if_pos (by simp; omega)]
        simp
      obtain ⟨J', n, h⟩ := cpt0 e he k0 suf (K ++ [x]) J1 x (k2 + 1) (by simp; omega) (by simp; omega) (by omega) (by simp only [List.length_append, List.length_cons, List.length_nil, big]; omega)
      exact ⟨J', n, by rw [loopO_inl hstep, h]; simp [dd, hx]⟩
theorem cpt1 {ef : α → α → Option Bool} (e : α → α → Bool) (he : ∀ x y, ef x y = some (e x y)) (z : α) : ∀ (suf K : List α) (prev : α), ((K ++ prev :: suf).length : Int) ≤ big →
    (loopO (gCpt_b1 ef z (K ++ prev :: suf)) ((K.length : Int) + 1) = some (.inr (K ++ prev :: dd e prev suf))) ∨ (∃ n, loopO (gCpt_b1 ef z (K ++ prev :: suf)) ((K.length : Int) + 1) = some (.inl n) ∧ dd e prev suf = suf)
  | [], K, prev, hl => by
    refine .inr ⟨(K.length : Int) + 1, loopO_inr ?_, rfl⟩
    unfold gCpt_b1
    rw [if_neg (by simp)]
  | x :: suf, K, prev, hl => by
    have hl' := hl
    simp only [List.length_append, List.length_cons, big] at hl'
    have r1 : rd (K ++ prev :: x :: suf) ((K.length : Int) + 1) = x := by
      rw [show K ++ prev :: x :: suf = (K ++ [prev]) ++ x :: suf by simp]; exact rd_mid (by simp)
    have r2 : rd (K ++ prev :: x :: suf) (K.length : Int) = prev := rd_mid rfl
    have w1 : IntKind.i64.wrap ((K.length : Int) + 1 - 1) = (K.length : Int) := by rw [w64' (by omega) (by omega)]; omega
    have w2 : IntKind.i64.wrap ((K.length : Int) + 1 + 1) = ((K ++ [prev]).length : Int) + 1 := by rw [w64' (by omega) (by omega)]; simp
    cases hx : e x prev with
    | true =>
      left
      refine loopO_inr ?_
      obtain ⟨J', n, h⟩ := cpt0 e he (K.length + 1) suf (K ++ [prev]) [] x 1 (by simp) (by simp) (by omega) (by simpa using hl)
      unfold gCpt_b1
      simp only [r1, r2, w1, he, hx, Option.bind_some, if_true]
      rw [if_pos (by simp; omega), if_pos (by omega), if_pos (by omega), if_pos (by simp; omega), if_pos (by simp; omega)]
      have e1 : K ++ prev :: x :: suf = K ++ [prev] ++ [] ++ x :: suf := by simp
      have e2 : (K.length : Int) + 1 = ((K ++ [prev]).length : Int) := by simp
      have e3 : (K.length : Int) + 1 = ((K.length + 1 : Nat) : Int) := by simp
      rw [← e3, show K ++ [prev] ++ [] ++ x :: suf = K ++ prev :: x :: suf by simp, ← e2] at h
      rw [h]
      simp only [Option.bind_some]
      have e4 : K ++ [prev] ++ dd e x suf = K ++ prev :: dd e prev (x :: suf) := by simp [dd, hx]
      rw [if_pos (by omega), if_pos (by simp <;> omega), if_pos (by rw [len_clr rfl]; simp <;> omega), cut_clr rfl, e4]
    | false =>
      have hstep : gCpt_b1 ef z (K ++ prev :: x :: suf) ((K.length : Int) + 1) = some (.inl (((K ++ [prev]).length : Int) + 1)) := by
        unfold gCpt_b1
        simp only [r1, r2, w1, w2, he, hx, Option.bind_some, Bool.false_eq_true, if_false]
        rw [if_pos (by simp; omega), if_pos (by omega), if_pos (by omega), if_pos (by simp; omega)]
      have := cpt1 e he z suf (K ++ [prev]) x (by simpa using hl)
      rw [show K ++ [prev] ++ x :: suf = K ++ prev :: x :: suf by simp] at this
      rw [loopO_inl hstep]
      rcases this with h | ⟨n, h, h'⟩
      · left; rw [h]; simp [dd, hx]
      · right; exact ⟨n, h, by simp [dd, hx, h']⟩
theorem cpt_ok {ef : α → α → Option Bool} (e : α → α → Bool) (he : ∀ x y, ef x y = some (e x y)) (z : α) (l : List α) (hl : (l.length : Int) ≤ big) : gCpt ef z l = some (cpt e l) := by
  cases l with
  | nil => unfold gCpt; rw [if_pos (by simp)]; rfl
  | cons x t =>
    cases t with
    | nil => unfold gCpt; rw [if_pos (by simp)]; rfl
    | cons y t =>
      unfold gCpt
      rw [if_neg (by simp; omega)]
      have := cpt1 e he z (y :: t) [] x (by simpa using hl)
      simp only [List.nil_append, List.length_nil] at this
      rw [show ((0 : Nat) : Int) + 1 = 1 from rfl] at this
      rcases this with h | ⟨n, h, h'⟩
      · rw [h]; rfl
      · rw [h]; simp only [Option.bind_some, cpt, h']
end
end Go.Proofs.Ytbjnbjgiidcfjaa
