/- Sorting, plain: halves, searches by halves, swaps of ranges, turns. Conditions: none. -/
import Derived.Test.YtbjnbjgiidcfjaaUGS1
set_option linter.unusedVariables false
set_option linter.unusedSectionVars false
set_option linter.unusedSimpArgs false
namespace Go.Proofs.Ytbjnbjgiidcfjaa
open Go Go.Proofs.Ytbjnbjgiidcfjaa.Sp
theorem wu64 {x : Int} (h0 : 0 ≤ x) (h1 : x ≤ 4398046511104) : IntKind.u64.wrap x = x := by
  simp only [IntKind.wrap, IntKind.signed, IntKind.bits]
  simp
  omega
theorem half_ {x : Int} (h0 : 0 ≤ x) (h1 : x ≤ 4398046511104) : IntKind.i64.wrap (shrI .u64 (IntKind.u64.wrap (IntKind.i64.wrap x)) 1) = x / 2 := by
  rw [w64' (x := x) (by omega) (by omega), wu64 h0 h1]
  have e : shrI .u64 x 1 = x / 2 := by
    unfold shrI
    have : min (1 : Int).toNat IntKind.u64.bits = 1 := by decide
    rw [this]
    simp only [Int.pow_one]
    rw [Int.fdiv_eq_ediv_of_nonneg _ (by decide)]
  rw [e]
  exact w64' (by omega) (by omega)
/-- A search by halves. -/
theorem bsearch {R : Type} {b : Int × Int → Option (Sum (Int × Int) (Sum (Int × Int) R))} {L : Int → Prop} {lo hi : Int}
    (hstep : ∀ i j, lo ≤ i → i < j → j ≤ hi → (b (i, j) = some (.inl ((i + j) / 2 + 1, j)) ∧ ¬ L ((i + j) / 2)) ∨ (b (i, j) = some (.inl (i, (i + j) / 2)) ∧ L ((i + j) / 2)))
    (hend : ∀ i, b (i, i) = some (.inr (.inl (i, i)))) : ∀ (n : Nat) (i j : Int), (j - i).toNat = n → lo ≤ i → i ≤ j → j ≤ hi → (i = lo ∨ ¬ L (i - 1)) → (j = hi ∨ L j) →
    ∃ i', loopO b (i, j) = some (.inl (i', i')) ∧ lo ≤ i' ∧ i' ≤ hi ∧ (i' = lo ∨ ¬ L (i' - 1)) ∧ (i' = hi ∨ L i') := by
  intro n
  induction n using Nat.strongRecOn with
  | _ n ih =>
    intro i j hn h1 h2 h3 h4 h5
    by_cases hij : i = j
    · subst hij
      exact ⟨i, loopO_inr (hend i), h1, h3, h4, h5⟩
    · have hlt : i < j := by omega
      rcases hstep i j h1 hlt h3 with ⟨k1, k2⟩ | ⟨k1, k2⟩
      · rw [loopO_inl k1]
        refine ih _ ?_ _ _ rfl (by omega) (by omega) h3 (.inr (by rw [show (i + j) / 2 + 1 - 1 = (i + j) / 2 by omega]; exact k2)) h5
        omega
      · rw [loopO_inl k1]
        refine ih _ ?_ _ _ rfl h1 (by omega) (by omega) h4 (.inr k2)
        omega
section
variable {α : Type} [Inhabited α] {cmp : α → α → Option Int} {lt : α → α → Prop}
theorem swap0 : ∀ (k : Nat) (X U Y V Q : List α) (a b n i : Int), U.length = k → V.length = k → a + i = X.length → b + i = (X.length : Int) + U.length + Y.length → n = i + k → 0 ≤ i → 0 ≤ a → 0 ≤ b → ((X ++ U ++ (Y ++ (V ++ Q))).length : Int) ≤ big →
    ∃ j, loopO (gSwap_b0 cmp a b n) (i, X ++ U ++ (Y ++ (V ++ Q))) = some (.inl (j, X ++ V ++ (Y ++ (U ++ Q))))
  | 0, X, U, Y, V, Q, a, b, n, i, hU, hV, h1, h2, h3, h4, h5, h6, hb => by
    obtain rfl := List.length_eq_zero_iff.1 hU
    obtain rfl := List.length_eq_zero_iff.1 hV
    refine ⟨i, loopO_inr ?_⟩
    unfold gSwap_b0
    rw [if_neg (by simp at h3 ⊢; omega)]
  | k + 1, X, U, Y, V, Q, a, b, n, i, hU, hV, h1, h2, h3, h4, h5, h6, hb => by
    obtain ⟨u, U, rfl⟩ : ∃ x T', U = x :: T' := by
      cases U with
      | nil => simp at hU
      | cons x T => exact ⟨x, T, rfl⟩
    obtain ⟨v, V, rfl⟩ : ∃ x T', V = x :: T' := by
      cases V with
      | nil => simp at hV
      | cons x T => exact ⟨x, T, rfl⟩
    simp only [List.length_cons, Nat.add_right_cancel_iff] at hU hV
    have hb' := hb
    simp only [List.length_append, List.length_cons, big] at hb'
    simp only [List.length_cons] at h2
    have wa : IntKind.i64.wrap (a + i) = a + i := w64' (by omega) (by omega)
    have wb : IntKind.i64.wrap (b + i) = b + i := w64' (by omega) (by omega)
    have wi : IntKind.i64.wrap (i + 1) = i + 1 := w64' (by omega) (by omega)
    have d1 : X ++ u :: U ++ (Y ++ (v :: V ++ Q)) = (X ++ u :: U ++ Y) ++ v :: (V ++ Q) := by simp
    have r1 : rd (X ++ u :: U ++ (Y ++ (v :: V ++ Q))) (b + i) = v := by rw [d1]; exact rd_mid (by simp; omega)
    have d2 : X ++ u :: U ++ (Y ++ (v :: V ++ Q)) = X ++ u :: (U ++ (Y ++ (v :: V ++ Q))) := by simp
    have r2 : rd (X ++ u :: U ++ (Y ++ (v :: V ++ Q))) (a + i) = u := by rw [d2]; exact rd_mid (by omega)
    have s1 : setI (X ++ u :: U ++ (Y ++ (v :: V ++ Q))) (a + i) v = (X ++ v :: U ++ Y) ++ v :: (V ++ Q) := by rw [d2, setI_mid (by omega)]; simp
    have s2 : setI ((X ++ v :: U ++ Y) ++ v :: (V ++ Q)) (b + i) u = (X ++ [v]) ++ U ++ ((Y ++ [u]) ++ (V ++ Q)) := by rw [setI_mid (by simp; omega)]; simp
    have hstep : gSwap_b0 cmp a b n (i, X ++ u :: U ++ (Y ++ (v :: V ++ Q))) = some (.inl (i + 1, (X ++ [v]) ++ U ++ ((Y ++ [u]) ++ (V ++ Q)))) := by
      unfold gSwap_b0
      simp only [wa, wb, wi, r1, r2, s1, s2]
      rw [if_pos (by omega), if_pos (by omega), if_pos (by simp; omega), if_pos (by omega), if_pos (by simp; omega), if_pos (by simp; omega)]
    obtain ⟨j, hj⟩ := swap0 k (X ++ [v]) U (Y ++ [u]) V Q a b n (i + 1) hU hV (by simp; omega) (by simp; omega) (by omega) (by omega) h5 h6 (by simp only [List.length_append, List.length_cons, List.length_nil, big]; omega)
    exact ⟨j, by rw [loopO_inl hstep, hj]; simp⟩
/-- Two parts of one length change places. -/
theorem swap_ok (P U M V Q : List α) (a b n : Int) (h : U.length = V.length) (ha : a = P.length) (hb : b = (P.length : Int) + U.length + M.length) (hn : n = U.length) (hl : ((P ++ U ++ (M ++ (V ++ Q))).length : Int) ≤ big) :
    gSwap cmp (P ++ U ++ (M ++ (V ++ Q))) a b n = some (P ++ V ++ (M ++ (U ++ Q))) := by
  obtain ⟨j, hj⟩ := swap0 (cmp := cmp) U.length P U M V Q a b n 0 rfl h.symm (by omega) (by omega) (by omega) (by omega) (by omega) (by omega) hl
  unfold gSwap
  rw [hj]; rfl
theorem rot0 (m : Int) : ∀ (n : Nat) (P X Y Q : List α), X.length + Y.length ≤ n → X ≠ [] → Y ≠ [] → m = (P.length : Int) + X.length → ((P ++ X ++ (Y ++ Q)).length : Int) ≤ big →
    ∃ P' X' Y' Q', loopO (gRot_b0 cmp m) ((X.length : Int), (Y.length : Int), P ++ X ++ (Y ++ Q)) = some (.inl ((X'.length : Int), (Y'.length : Int), P' ++ X' ++ (Y' ++ Q'))) ∧ X'.length = Y'.length ∧ m = (P'.length : Int) + X'.length ∧ P' ++ Y' ++ (X' ++ Q') = P ++ Y ++ (X ++ Q) ∧ (P' ++ X' ++ (Y' ++ Q')).length = (P ++ X ++ (Y ++ Q)).length := by
  intro n
  induction n using Nat.strongRecOn with
  | _ n ih =>
    intro P X Y Q hn hX hY hm hl
    have hx : 0 < X.length := List.length_pos_iff.2 hX
    have hy : 0 < Y.length := List.length_pos_iff.2 hY
    have hl' := hl
    simp only [List.length_append, big] at hl'
    by_cases he : X.length = Y.length
    · refine ⟨P, X, Y, Q, loopO_inr ?_, he, hm, rfl, rfl⟩
      unfold gRot_b0
      rw [if_pos (by simp; omega)]
    · by_cases hgt : Y.length < X.length
      · obtain ⟨X1, X2, rfl, hX1⟩ : ∃ X1 X2, X = X1 ++ X2 ∧ X1.length = Y.length := ⟨X.take Y.length, X.drop Y.length, by simp, by simp; omega⟩
        have hX2 : X2 ≠ [] := by rintro rfl; simp at hgt; omega
        simp only [List.length_append] at hl' hm hgt hn hx
        have sw := swap_ok (cmp := cmp) P X1 X2 Y Q (m - ((X1 ++ X2).length : Nat)) m Y.length hX1 (by simp; omega) (by omega) (by omega) (by simp only [List.length_append, big]; omega)
        have w1 : IntKind.i64.wrap (m - ((X1 ++ X2).length : Nat)) = m - ((X1 ++ X2).length : Nat) := by simp only [List.length_append]; exact w64' (by omega) (by omega)
        have w2 : IntKind.i64.wrap (((X1 ++ X2).length : Nat) - (Y.length : Int)) = X2.length := by simp only [List.length_append]; rw [w64' (by omega) (by omega)]; omega
        have hd : P ++ (X1 ++ X2) ++ (Y ++ Q) = P ++ X1 ++ (X2 ++ (Y ++ Q)) := by simp
        have hstep : gRot_b0 cmp m (((X1 ++ X2).length : Int), (Y.length : Int), P ++ (X1 ++ X2) ++ (Y ++ Q)) = some (.inl ((X2.length : Int), (X1.length : Int), (P ++ Y) ++ X2 ++ (X1 ++ Q))) := by
          unfold gRot_b0
          simp only [w1, w2]
          rw [if_neg (by simp only [List.length_append]; omega), if_pos (by simp only [List.length_append]; omega), hd, sw]
          simp only [Option.bind_some]
          rw [if_pos (by simp only [List.length_append]; omega), hX1]
          simp
        obtain ⟨P', X', Y', Q', k1, k2, k3, k4, k5⟩ := ih (X2.length + X1.length) (by omega) (P ++ Y) X2 X1 Q (by omega) hX2 (by intro h; subst h; simp at hX1; omega) (by simp only [List.length_append]; omega) (by simp only [List.length_append, big]; omega)
        refine ⟨P', X', Y', Q', by rw [loopO_inl hstep, k1], k2, k3, by rw [k4]; simp, by rw [k5]; simp only [List.length_append]; omega⟩
      · obtain ⟨Y1, Y2, rfl, hY2⟩ : ∃ Y1 Y2, Y = Y1 ++ Y2 ∧ Y2.length = X.length := ⟨Y.take (Y.length - X.length), Y.drop (Y.length - X.length), by simp, by simp; omega⟩
        have hY1 : Y1 ≠ [] := by rintro rfl; simp at hgt he; omega
        have hy1 : 0 < Y1.length := List.length_pos_iff.2 hY1
        simp only [List.length_append] at hl' hm hgt hn hy
        have sw := swap_ok (cmp := cmp) P X Y1 Y2 Q (m - (X.length : Nat)) (m + ((Y1 ++ Y2).length : Nat) - X.length) X.length hY2.symm (by omega) (by simp; omega) rfl (by simp only [List.length_append, big]; omega)
        have w1 : IntKind.i64.wrap (m - (X.length : Nat)) = m - (X.length : Nat) := w64' (by omega) (by omega)
        have w2 : IntKind.i64.wrap (IntKind.i64.wrap (m + ((Y1 ++ Y2).length : Nat)) - X.length) = m + ((Y1 ++ Y2).length : Nat) - X.length := by
          simp only [List.length_append]; rw [w64' (x := m + _) (by omega) (by omega)]; exact w64' (by omega) (by omega)
        have w3 : IntKind.i64.wrap (((Y1 ++ Y2).length : Nat) - (X.length : Int)) = Y1.length := by simp only [List.length_append]; rw [w64' (by omega) (by omega)]; omega
        have hd : P ++ X ++ (Y1 ++ Y2 ++ Q) = P ++ X ++ (Y1 ++ (Y2 ++ Q)) := by simp
        have hstep : gRot_b0 cmp m ((X.length : Int), ((Y1 ++ Y2).length : Int), P ++ X ++ (Y1 ++ Y2 ++ Q)) = some (.inl ((Y2.length : Int), (Y1.length : Int), P ++ Y2 ++ (Y1 ++ (X ++ Q)))) := by
          unfold gRot_b0
          simp only [w1, w2, w3]
          rw [if_neg (by simp only [List.length_append]; omega), if_neg (by simp only [List.length_append]; omega), hd, sw]
          simp only [Option.bind_some]
          rw [if_pos (by simp only [List.length_append]; omega), hY2]
        obtain ⟨P', X', Y', Q', k1, k2, k3, k4, k5⟩ := ih (Y2.length + Y1.length) (by omega) P Y2 Y1 (X ++ Q) (by omega) (by intro h; subst h; simp at hY2; omega) hY1 (by omega) (by simp only [List.length_append, big]; omega)
        refine ⟨P', X', Y', Q', by rw [loopO_inl hstep, k1], k2, k3, by rw [k4]; simp, by rw [k5]; simp only [List.length_append]; omega⟩
/-- Two parts change places. -/
theorem rot_ok (P X Y Q : List α) (a m b : Int) (hX : X ≠ []) (hY : Y ≠ []) (ha : a = P.length) (hm : m = (P.length : Int) + X.length) (hb : b = (P.length : Int) + X.length + Y.length) (hl : ((P ++ X ++ (Y ++ Q)).length : Int) ≤ big) :
    gRot cmp (P ++ X ++ (Y ++ Q)) a m b = some (P ++ Y ++ (X ++ Q)) := by
  obtain ⟨P', X', Y', Q', k1, k2, k3, k4, k5⟩ := rot0 (cmp := cmp) m _ P X Y Q (Nat.le_refl _) hX hY hm hl
  have hl' := hl
  simp only [List.length_append, big] at hl'
  have e1 : IntKind.i64.wrap (m - a) = X.length := by rw [w64' (by omega) (by omega)]; omega
  have e2 : IntKind.i64.wrap (b - m) = Y.length := by rw [w64' (by omega) (by omega)]; omega
  have hl2 := hl
  rw [← k5] at hl2
  have hl3 := hl2
  simp only [List.length_append, big] at hl3
  have sw := swap_ok (cmp := cmp) P' X' [] Y' Q' (m - (X'.length : Nat)) m X'.length k2 (by omega) (by simp; omega) rfl (by simpa using hl2)
  simp only [List.nil_append] at sw
  have w1 : IntKind.i64.wrap (m - (X'.length : Nat)) = m - (X'.length : Nat) := w64' (by omega) (by omega)
  unfold gRot
  rw [e1, e2, k1]
  simp only [Option.bind_some, w1, sw]
  rw [if_pos (by simp only [List.length_append]; omega), k4]
end
end Go.Proofs.Ytbjnbjgiidcfjaa
