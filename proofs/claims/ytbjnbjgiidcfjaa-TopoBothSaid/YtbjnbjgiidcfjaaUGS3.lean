/- Sorting, plain: two sorted parts are merged. Conditions: none. -/
import Derived.Test.YtbjnbjgiidcfjaaUGS2
set_option linter.unusedVariables false
set_option linter.unusedSectionVars false
set_option linter.unusedSimpArgs false
namespace Go.Proofs.Ytbjnbjgiidcfjaa
open Go Go.Proofs.Ytbjnbjgiidcfjaa.Sp
section
variable {α : Type} [Inhabited α] {cmp : α → α → Option Int} {lt : α → α → Prop}
theorem Sd.put {S1 S2 : List α} {x : α} (h : Sd lt (S1 ++ S2)) (h1 : ∀ y ∈ S1, ¬ lt x y) (h2 : ∀ y ∈ S2, ¬ lt y x) : Sd lt (S1 ++ x :: S2) := by
  unfold Sd at *
  rw [List.pairwise_append] at h ⊢
  obtain ⟨k1, k2, k3⟩ := h
  refine ⟨k1, List.pairwise_cons.2 ⟨h2, k2⟩, fun a ha b hb => ?_⟩
  rcases List.mem_cons.1 hb with rfl | hb
  · exact h1 a ha
  · exact k3 a ha b hb
theorem Sd.first_le (O : Ord lt) {S : List α} {x y : α} (h : Sd lt (y :: S)) (hx : ¬ lt y x) : ∀ u ∈ y :: S, ¬ lt u x := by
  intro u hu
  rcases List.mem_cons.1 hu with rfl | hu
  · exact hx
  · exact O.tr _ _ _ hx ((List.pairwise_cons.1 h).1 u hu)
theorem split_at (l : List α) (i : Int) (h0 : 0 ≤ i) (h1 : i ≤ l.length) : ∃ a b, l = a ++ b ∧ (a.length : Int) = i := ⟨l.take i.toNat, l.drop i.toNat, by simp, by simp; omega⟩
theorem snoc_of {l : List α} (h : l ≠ []) : ∃ a x, l = a ++ [x] := by
  rcases List.eq_nil_or_concat l with h' | ⟨a, x, h'⟩
  · exact absurd h' h
  · exact ⟨a, x, by simpa using h'⟩
theorem cons_of {l : List α} (h : l ≠ []) : ∃ x a, l = x :: a := by
  cases l with
  | nil => exact absurd rfl h
  | cons x a => exact ⟨x, a, rfl⟩
/-- One moves up. -/
theorem mv1 (s1 : Int × Int) : ∀ (n : Nat) (P B Q : List α) (x : α) (k : Int), B.length = n → k = P.length → s1.1 - 1 = k + B.length → ((P ++ x :: (B ++ Q)).length : Int) ≤ big →
    ∃ j, loopO (gSym_b1 cmp s1) (k, P ++ x :: (B ++ Q)) = some (.inl (j, P ++ B ++ x :: Q))
  | 0, P, B, Q, x, k, hn, hk, hs, hl => by
    obtain rfl := List.length_eq_zero_iff.1 hn
    simp only [List.length_append, List.length_cons, List.length_nil, big] at hl hs
    refine ⟨k, loopO_inr ?_⟩
    unfold gSym_b1
    rw [if_neg (by simp only; rw [w64' (by omega) (by omega)]; omega)]
    simp
  | n + 1, P, B, Q, x, k, hn, hk, hs, hl => by
    obtain ⟨y, B, rfl⟩ := cons_of (l := B) (by rintro rfl; simp at hn)
    simp only [List.length_cons, Nat.add_right_cancel_iff] at hn
    have hl' := hl
    simp only [List.length_append, List.length_cons, big] at hl' hs
    have w1 : IntKind.i64.wrap (s1.1 - 1) = s1.1 - 1 := w64' (by omega) (by omega)
    have w2 : IntKind.i64.wrap (k + 1) = k + 1 := w64' (by omega) (by omega)
    have d1 : P ++ x :: (y :: B ++ Q) = (P ++ [x]) ++ y :: (B ++ Q) := by simp
    have r1 : rd (P ++ x :: (y :: B ++ Q)) (k + 1) = y := by rw [d1]; exact rd_mid (by simp; omega)
    have r2 : rd (P ++ x :: (y :: B ++ Q)) k = x := rd_mid hk
    have q1 : setI (P ++ x :: (y :: B ++ Q)) k y = (P ++ [y]) ++ y :: (B ++ Q) := by rw [setI_mid hk]; simp
    have q2 : setI ((P ++ [y]) ++ y :: (B ++ Q)) (k + 1) x = (P ++ [y]) ++ x :: (B ++ Q) := setI_mid (by simp; omega)
    have hstep : gSym_b1 cmp s1 (k, P ++ x :: (y :: B ++ Q)) = some (.inl (k + 1, (P ++ [y]) ++ x :: (B ++ Q))) := by
      unfold gSym_b1
      simp only [w1, w2, r1, r2, q1, q2]
      rw [if_pos (by omega), if_pos (by omega), if_pos (by simp; omega), if_pos (by omega), if_pos (by simp; omega), if_pos (by simp; omega)]
    obtain ⟨j, hj⟩ := mv1 s1 n (P ++ [y]) B Q x (k + 1) hn (by simp; omega) (by omega) (by simp only [List.length_append, List.length_cons, List.length_nil, big]; omega)
    exact ⟨j, by rw [loopO_inl hstep, hj]; simp⟩
/-- One moves down. -/
theorem mv3 (s3 : Int × Int) : ∀ (n : Nat) (P A Q : List α) (x : α) (k : Int), A.length = n → k = (P.length : Int) + A.length → s3.1 = P.length → ((P ++ A ++ x :: Q).length : Int) ≤ big →
    ∃ j, loopO (gSym_b3 cmp s3) (k, P ++ A ++ x :: Q) = some (.inl (j, P ++ x :: (A ++ Q)))
  | 0, P, A, Q, x, k, hn, hk, hs, hl => by
    obtain rfl := List.length_eq_zero_iff.1 hn
    simp only [List.length_nil] at hk
    refine ⟨k, loopO_inr ?_⟩
    unfold gSym_b3
    rw [if_neg (by simp only; omega)]
    simp
  | n + 1, P, A, Q, x, k, hn, hk, hs, hl => by
    obtain ⟨A, y, rfl⟩ := snoc_of (l := A) (by rintro rfl; simp at hn)
    simp only [List.length_append, List.length_cons, List.length_nil] at hn hk
    have hl' := hl
    simp only [List.length_append, List.length_cons, List.length_nil, big] at hl'
    have w2 : IntKind.i64.wrap (k - 1) = k - 1 := w64' (by omega) (by omega)
    have d1 : P ++ (A ++ [y]) ++ x :: Q = (P ++ A) ++ y :: (x :: Q) := by simp
    have r1 : rd (P ++ (A ++ [y]) ++ x :: Q) (k - 1) = y := by rw [d1]; exact rd_mid (by simp; omega)
    have r2 : rd (P ++ (A ++ [y]) ++ x :: Q) k = x := rd_mid (by simp; omega)
    have q1 : setI (P ++ (A ++ [y]) ++ x :: Q) k y = (P ++ A) ++ y :: (y :: Q) := by rw [setI_mid (by simp; omega)]; simp
    have q2 : setI ((P ++ A) ++ y :: (y :: Q)) (k - 1) x = P ++ A ++ x :: (y :: Q) := setI_mid (by simp; omega)
    have hstep : gSym_b3 cmp s3 (k, P ++ (A ++ [y]) ++ x :: Q) = some (.inl (k - 1, P ++ A ++ x :: (y :: Q))) := by
      unfold gSym_b3
      simp only [w2, r1, r2, q1, q2]
      rw [if_pos (by omega), if_pos (by omega), if_pos (by simp; omega), if_pos (by omega), if_pos (by simp; omega), if_pos (by simp; omega)]
    obtain ⟨j, hj⟩ := mv3 s3 n P A (y :: Q) x (k - 1) (by omega) (by omega) hs (by simp only [List.length_append, List.length_cons, List.length_nil, big]; omega)
    exact ⟨j, by rw [loopO_inl hstep, hj]; simp⟩
/-- One in front of a sorted part. -/
theorem sym_a (hc : Cmp cmp lt) (O : Ord lt) (k : Nat) (P B Q : List α) (x : α) (hB : B ≠ []) (sB : Sd lt B) (a m b : Int) (ha : a = P.length) (hm : m = (P.length : Int) + 1) (hb : b = m + B.length) (hl : ((P ++ x :: (B ++ Q)).length : Int) ≤ big) :
    ∃ C, gSym cmp (k + 1) (P ++ x :: (B ++ Q)) a m b = some (P ++ C ++ Q) ∧ C.Perm (x :: B) ∧ Sd lt C := by
  have hl' := hl
  simp only [List.length_append, List.length_cons, big] at hl'
  have hx : rd (P ++ x :: (B ++ Q)) a = x := rd_mid ha
  obtain ⟨i, h1, h2, h3, h4, h5⟩ := bsearch (b := gSym_b0 cmp (P ++ x :: (B ++ Q)) a) (L := fun h => ¬ lt (rd (P ++ x :: (B ++ Q)) h) x) (lo := m) (hi := b) (by
    intro i j e1 e2 e3
    obtain ⟨n, hn, hlt⟩ := hc (rd (P ++ x :: (B ++ Q)) ((i + j) / 2)) x
    have hh := half_ (x := i + j) (by omega) (by omega)
    have hw : IntKind.i64.wrap ((i + j) / 2 + 1) = (i + j) / 2 + 1 := w64' (by omega) (by omega)
    unfold gSym_b0
    simp only [hh, hx, hn, hw]
    rw [if_pos e2, if_pos (by omega), if_pos (by simp; omega), if_pos (by omega), if_pos (by simp; omega)]
    simp only [Option.bind_some]
    by_cases hq : n < 0
    · left; exact ⟨by rw [if_pos hq], fun h => h (hlt.1 hq)⟩
    · right; exact ⟨by rw [if_neg hq], fun h => hq (hlt.2 h)⟩) (by intro i; unfold gSym_b0; simp) _ m b rfl (Int.le_refl _) (by omega) (Int.le_refl _) (.inl rfl) (.inl rfl)
  obtain ⟨B1, B2, rfl, hB1⟩ := split_at B (i - m) (by omega) (by omega)
  simp only [List.length_append] at hb hl'
  obtain ⟨j, hj⟩ := mv1 (cmp := cmp) (i, i) B1.length P B1 (B2 ++ Q) x a rfl ha (by simp only; omega) (by simpa using hl)
  have d0 : P ++ x :: (B1 ++ B2 ++ Q) = P ++ x :: (B1 ++ (B2 ++ Q)) := by simp
  refine ⟨B1 ++ x :: B2, ?_, List.perm_middle, ?_⟩
  · unfold gSym
    rw [if_pos (by rw [w64' (by omega) (by omega)]; omega), h1]
    simp only [Option.bind_some]
    rw [d0, hj]
    simp
  · refine Sd.put sB ?_ ?_
    · rcases h4 with h4 | h4
      · have : B1 = [] := List.length_eq_zero_iff.1 (by omega)
        subst this; simp
      · by_cases hn : B1 = []
        · subst hn; simp
        · obtain ⟨B0, y, rfl⟩ := snoc_of hn
          have hr : rd (P ++ x :: (B0 ++ [y] ++ B2 ++ Q)) (i - 1) = y := by
            have : P ++ x :: (B0 ++ [y] ++ B2 ++ Q) = (P ++ x :: B0) ++ y :: (B2 ++ Q) := by simp
            rw [this]; refine rd_mid ?_
            simp only [List.length_append, List.length_cons, List.length_nil] at hB1 ⊢
            omega
          rw [hr] at h4
          exact Sd.le_last O ((List.pairwise_append.1 sB).1) (O.as _ _ (Classical.not_not.1 h4))
    · rcases h5 with h5 | h5
      · have : B2 = [] := List.length_eq_zero_iff.1 (by omega)
        subst this; simp
      · by_cases hn : B2 = []
        · subst hn; simp
        · obtain ⟨y, B0, rfl⟩ := cons_of hn
          have hr : rd (P ++ x :: (B1 ++ y :: B0 ++ Q)) i = y := by
            have : P ++ x :: (B1 ++ y :: B0 ++ Q) = (P ++ x :: B1) ++ y :: (B0 ++ Q) := by simp
            rw [this]; refine rd_mid ?_
            simp only [List.length_append, List.length_cons] at hB1 ⊢
            omega
          rw [hr] at h5
          exact Sd.first_le O ((List.pairwise_append.1 sB).2.1) h5
/-- One behind a sorted part. -/
theorem sym_b (hc : Cmp cmp lt) (O : Ord lt) (k : Nat) (P A Q : List α) (x : α) (hA : 1 < A.length) (sA : Sd lt A) (a m b : Int) (ha : a = P.length) (hm : m = (P.length : Int) + A.length) (hb : b = m + 1) (hl : ((P ++ A ++ x :: Q).length : Int) ≤ big) :
    ∃ C, gSym cmp (k + 1) (P ++ A ++ x :: Q) a m b = some (P ++ C ++ Q) ∧ C.Perm (A ++ [x]) ∧ Sd lt C := by
  have hl' := hl
  simp only [List.length_append, List.length_cons, big] at hl'
  have hx : rd (P ++ A ++ x :: Q) m = x := rd_mid (by simp; omega)
  obtain ⟨i, h1, h2, h3, h4, h5⟩ := bsearch (b := gSym_b2 cmp (P ++ A ++ x :: Q) m) (L := fun h => lt x (rd (P ++ A ++ x :: Q) h)) (lo := a) (hi := m) (by
    intro i j e1 e2 e3
    obtain ⟨n, hn, hlt⟩ := hc x (rd (P ++ A ++ x :: Q) ((i + j) / 2))
    have hh := half_ (x := i + j) (by omega) (by omega)
    have hw : IntKind.i64.wrap ((i + j) / 2 + 1) = (i + j) / 2 + 1 := w64' (by omega) (by omega)
    unfold gSym_b2
    simp only [hh, hx, hn, hw]
    rw [if_pos e2, if_pos (by omega), if_pos (by simp; omega), if_pos (by omega), if_pos (by simp; omega)]
    simp only [Option.bind_some]
    by_cases hq : n < 0
    · right; exact ⟨by rw [if_pos hq], hlt.1 hq⟩
    · left; exact ⟨by rw [if_neg hq], fun h => hq (hlt.2 h)⟩) (by intro i; unfold gSym_b2; simp) _ a m rfl (Int.le_refl _) (by omega) (Int.le_refl _) (.inl rfl) (.inl rfl)
  obtain ⟨A1, A2, rfl, hA1⟩ := split_at A (i - a) (by omega) (by omega)
  simp only [List.length_append] at hm hl' hA
  obtain ⟨j, hj⟩ := mv3 (cmp := cmp) (i, i) A2.length (P ++ A1) A2 Q x m rfl (by simp; omega) (by simp; omega) (by simpa using hl)
  have d0 : P ++ (A1 ++ A2) ++ x :: Q = P ++ A1 ++ A2 ++ x :: Q := by simp
  refine ⟨A1 ++ x :: A2, ?_, ?_, ?_⟩
  · unfold gSym
    rw [if_neg (by rw [w64' (by omega) (by omega)]; omega), if_pos (by rw [w64' (by omega) (by omega)]; omega), h1]
    simp only [Option.bind_some]
    rw [d0, hj]
    simp
  · refine List.perm_middle.trans ?_
    exact (List.perm_append_singleton x (A1 ++ A2)).symm
  · refine Sd.put sA ?_ ?_
    · rcases h4 with h4 | h4
      · have : A1 = [] := List.length_eq_zero_iff.1 (by omega)
        subst this; simp
      · by_cases hn : A1 = []
        · subst hn; simp
        · obtain ⟨B0, y, rfl⟩ := snoc_of hn
          have hr : rd (P ++ (B0 ++ [y] ++ A2) ++ x :: Q) (i - 1) = y := by
            have : P ++ (B0 ++ [y] ++ A2) ++ x :: Q = (P ++ B0) ++ y :: (A2 ++ x :: Q) := by simp
            rw [this]; refine rd_mid ?_
            simp only [List.length_append, List.length_cons, List.length_nil] at hA1 ⊢
            omega
          rw [hr] at h4
          exact Sd.le_last O ((List.pairwise_append.1 sA).1) h4
    · rcases h5 with h5 | h5
      · have : A2 = [] := List.length_eq_zero_iff.1 (by omega)
        subst this; simp
      · by_cases hn : A2 = []
        · subst hn; simp
        · obtain ⟨y, B0, rfl⟩ := cons_of hn
          have hr : rd (P ++ (A1 ++ y :: B0) ++ x :: Q) i = y := by
            have : P ++ (A1 ++ y :: B0) ++ x :: Q = (P ++ A1) ++ y :: (B0 ++ x :: Q) := by simp
            rw [this]; refine rd_mid ?_
            simp only [List.length_append, List.length_cons] at hA1 ⊢
            omega
          rw [hr] at h5
          exact Sd.first_le O ((List.pairwise_append.1 sA).2.1) (O.as _ _ h5)
theorem sym_ok (hc : Cmp cmp lt) (O : Ord lt) : ∀ (k : Nat) (P A B Q : List α) (a m b : Int), A.length + B.length < k → A ≠ [] → B ≠ [] → Sd lt A → Sd lt B → a = P.length → m = a + A.length → b = m + B.length → ((P ++ A ++ (B ++ Q)).length : Int) ≤ big →
    ∃ C, gSym cmp k (P ++ A ++ (B ++ Q)) a m b = some (P ++ C ++ Q) ∧ C.Perm (A ++ B) ∧ Sd lt C := by
  intro k
  induction k with
  | zero => intro P A B Q a m b hk; omega
  | succ k ih =>
    intro P A B Q a m b hk hA hB sA sB ha hm hb hl
    have hA' : 0 < A.length := List.length_pos_iff.2 hA
    have hB' : 0 < B.length := List.length_pos_iff.2 hB
    have hl' := hl
    simp only [List.length_append, big] at hl'
    by_cases h1 : A.length = 1
    · obtain ⟨x, A0, rfl⟩ := cons_of hA
      obtain rfl : A0 = [] := List.length_eq_zero_iff.1 (by simpa using h1)
      obtain ⟨C, k1, k2, k3⟩ := sym_a hc O k P B Q x hB sB a m b ha (by simp at hm; omega) hb (by simpa using hl)
      exact ⟨C, by simpa using k1, by simpa using k2, k3⟩
    by_cases h2 : B.length = 1
    · obtain ⟨x, B0, rfl⟩ := cons_of hB
      obtain rfl : B0 = [] := List.length_eq_zero_iff.1 (by simpa using h2)
      obtain ⟨C, k1, k2, k3⟩ := sym_b hc O k P A Q x (by omega) sA a m b ha (by omega) (by simpa using hb) (by simpa using hl)
      exact ⟨C, by simpa using k1, k2, k3⟩
    -- the middle
    obtain ⟨mid, hmid⟩ : ∃ mid : Int, mid = (a + b) / 2 := ⟨_, rfl⟩
    have hh := half_ (x := a + b) (by omega) (by omega)
    rw [← hmid] at hh
    have wn : IntKind.i64.wrap (mid + m) = mid + m := w64' (by omega) (by omega)
    have wp : IntKind.i64.wrap (mid + m - 1) = mid + m - 1 := w64' (by omega) (by omega)
    have wb : IntKind.i64.wrap (mid + m - b) = mid + m - b := w64' (by omega) (by omega)
    -- where the search begins and ends
    obtain ⟨s0, r0, hsr, hs0⟩ : ∃ s0 r0 : Int, (s0, r0) = (if mid < m then (mid + m - b, mid) else (a, m)) ∧ ((mid < m ∧ s0 = mid + m - b ∧ r0 = mid) ∨ (m ≤ mid ∧ s0 = a ∧ r0 = m)) := by
      by_cases h : mid < m
      · exact ⟨_, _, by rw [if_pos h], .inl ⟨h, rfl, rfl⟩⟩
      · exact ⟨_, _, by rw [if_neg h], .inr ⟨by omega, rfl, rfl⟩⟩
    obtain ⟨s, g1, g2, g3, g4, g5⟩ := bsearch (b := gSym_b4 cmp (P ++ A ++ (B ++ Q)) a m b) (L := fun c => lt (rd (P ++ A ++ (B ++ Q)) (mid + m - 1 - c)) (rd (P ++ A ++ (B ++ Q)) c)) (lo := s0) (hi := r0) (by
      intro i j e1 e2 e3
      obtain ⟨n, hn, hlt⟩ := hc (rd (P ++ A ++ (B ++ Q)) (mid + m - 1 - (i + j) / 2)) (rd (P ++ A ++ (B ++ Q)) ((i + j) / 2))
      have hh2 := half_ (x := i + j) (by omega) (by omega)
      have hw : IntKind.i64.wrap ((i + j) / 2 + 1) = (i + j) / 2 + 1 := w64' (by omega) (by omega)
      have wq : IntKind.i64.wrap (mid + m - 1 - (i + j) / 2) = mid + m - 1 - (i + j) / 2 := w64' (by omega) (by omega)
      unfold gSym_b4
      simp only [hh, hh2, wn, wp, wq, hn, hw]
      rw [if_pos e2, if_pos (by omega), if_pos (by simp; omega), if_pos (by omega), if_pos (by simp; omega)]
      simp only [Option.bind_some]
      by_cases hq : n < 0
      · right; exact ⟨by rw [if_pos hq], hlt.1 hq⟩
      · left; exact ⟨by rw [if_neg hq], fun h => hq (hlt.2 h)⟩) (by intro i; unfold gSym_b4; simp) _ s0 r0 rfl (Int.le_refl _) (by omega) (Int.le_refl _) (.inl rfl) (.inl rfl)
    have we : IntKind.i64.wrap (mid + m - s) = mid + m - s := w64' (by omega) (by omega)
    obtain ⟨A1, A2, rfl, hA1⟩ := split_at A (s - a) (by omega) (by omega)
    obtain ⟨B1, B2, rfl, hB1⟩ := split_at B (mid - s) (by omega) (by omega)
    simp only [List.length_append] at hA' hB' hl' hm hb hk h1 h2
    -- what the search has shown
    have F1 : ∀ u ∈ A1, ∀ v ∈ B2, ¬ lt v u := by
      intro u hu v hv
      have e1 : A1 ≠ [] := by rintro rfl; simp at hu
      have e2 : B2 ≠ [] := by rintro rfl; simp at hv
      obtain ⟨A0, y, rfl⟩ := snoc_of e1
      obtain ⟨z, B0, rfl⟩ := cons_of e2
      simp only [List.length_append, List.length_cons, List.length_nil] at hA1 hl' hm hb
      have g4' : ¬ lt (rd (P ++ (A0 ++ [y] ++ A2) ++ (B1 ++ z :: B0 ++ Q)) (mid + m - 1 - (s - 1))) (rd (P ++ (A0 ++ [y] ++ A2) ++ (B1 ++ z :: B0 ++ Q)) (s - 1)) := by
        rcases g4 with g4 | g4
        · exfalso; omega
        · exact g4
      have r1 : rd (P ++ (A0 ++ [y] ++ A2) ++ (B1 ++ z :: B0 ++ Q)) (mid + m - 1 - (s - 1)) = z := by
        have : P ++ (A0 ++ [y] ++ A2) ++ (B1 ++ z :: B0 ++ Q) = (P ++ (A0 ++ [y] ++ A2) ++ B1) ++ z :: (B0 ++ Q) := by simp
        rw [this]; refine rd_mid ?_
        simp only [List.length_append, List.length_cons, List.length_nil]; omega
      have r2 : rd (P ++ (A0 ++ [y] ++ A2) ++ (B1 ++ z :: B0 ++ Q)) (s - 1) = y := by
        have : P ++ (A0 ++ [y] ++ A2) ++ (B1 ++ z :: B0 ++ Q) = (P ++ A0) ++ y :: (A2 ++ (B1 ++ z :: B0 ++ Q)) := by simp
        rw [this]; refine rd_mid ?_
        simp only [List.length_append, List.length_cons, List.length_nil]; omega
      rw [r1, r2] at g4'
      have k1 := Sd.le_last O ((List.pairwise_append.1 sA).1) g4' u hu
      exact Sd.first_le O ((List.pairwise_append.1 sB).2.1) k1 v hv
    have F2 : ∀ u ∈ B1, ∀ v ∈ A2, ¬ lt v u := by
      intro u hu v hv
      have e1 : B1 ≠ [] := by rintro rfl; simp at hu
      have e2 : A2 ≠ [] := by rintro rfl; simp at hv
      obtain ⟨B0, y, rfl⟩ := snoc_of e1
      obtain ⟨z, A0, rfl⟩ := cons_of e2
      simp only [List.length_append, List.length_cons, List.length_nil] at hB1 hl' hm hb
      have g5' : lt (rd (P ++ (A1 ++ z :: A0) ++ (B0 ++ [y] ++ B2 ++ Q)) (mid + m - 1 - s)) (rd (P ++ (A1 ++ z :: A0) ++ (B0 ++ [y] ++ B2 ++ Q)) s) := by
        rcases g5 with g5 | g5
        · exfalso; omega
        · exact g5
      have r1 : rd (P ++ (A1 ++ z :: A0) ++ (B0 ++ [y] ++ B2 ++ Q)) (mid + m - 1 - s) = y := by
        have : P ++ (A1 ++ z :: A0) ++ (B0 ++ [y] ++ B2 ++ Q) = (P ++ (A1 ++ z :: A0) ++ B0) ++ y :: (B2 ++ Q) := by simp
        rw [this]; refine rd_mid ?_
        simp only [List.length_append, List.length_cons, List.length_nil]; omega
      have r2 : rd (P ++ (A1 ++ z :: A0) ++ (B0 ++ [y] ++ B2 ++ Q)) s = z := by
        have : P ++ (A1 ++ z :: A0) ++ (B0 ++ [y] ++ B2 ++ Q) = (P ++ A1) ++ z :: (A0 ++ (B0 ++ [y] ++ B2 ++ Q)) := by simp
        rw [this]; refine rd_mid ?_
        simp only [List.length_append, List.length_cons, List.length_nil]; omega
      rw [r1, r2] at g5'
      have k1 := Sd.le_last O ((List.pairwise_append.1 sB).1) (O.as _ _ g5') u hu
      exact Sd.first_le O ((List.pairwise_append.1 sA).2.1) k1 v hv
    have dd : P ++ (A1 ++ A2) ++ (B1 ++ B2 ++ Q) = (P ++ A1) ++ A2 ++ (B1 ++ (B2 ++ Q)) := by simp
    have dd2 : (P ++ A1) ++ B1 ++ (A2 ++ (B2 ++ Q)) = P ++ A1 ++ (B1 ++ (A2 ++ (B2 ++ Q))) := by simp
    -- the turn
    obtain ⟨s7, T1, T2⟩ : ∃ s7, (if s < m then some (Sum.inl (decide (m < mid + m - s))) else some (.inl false) : Option (Sum Bool (List α))) = some (.inl s7) ∧
        (if s7 = true then ((gRot cmp (P ++ (A1 ++ A2) ++ (B1 ++ B2 ++ Q)) s m (mid + m - s)).bind fun t20 => (if t20.length = (P ++ (A1 ++ A2) ++ (B1 ++ B2 ++ Q)).length then some (.inl t20) else none)) else some (.inl (P ++ (A1 ++ A2) ++ (B1 ++ B2 ++ Q))) : Option (Sum (List α) (List α))) = some (.inl (P ++ A1 ++ (B1 ++ (A2 ++ (B2 ++ Q))))) := by
      by_cases c1 : s < m
      · refine ⟨_, if_pos c1, ?_⟩
        by_cases c2 : m < mid + m - s
        · have e1 : A2 ≠ [] := by rintro rfl; simp at hm; omega
          have e2 : B1 ≠ [] := by rintro rfl; simp at hB1; omega
          have hr := rot_ok (cmp := cmp) (P ++ A1) A2 B1 (B2 ++ Q) s m (mid + m - s) e1 e2 (by simp; omega) (by simp; omega) (by simp; omega) (by rw [← dd]; exact hl)
          rw [if_pos (by simpa using c2), dd, hr]
          simp only [Option.bind_some]
          rw [if_pos (by simp; omega), dd2]
        · have e2 : B1 = [] := List.length_eq_zero_iff.1 (by omega)
          subst e2
          rw [if_neg (by simpa using c2)]
          simp
      · have e1 : A2 = [] := List.length_eq_zero_iff.1 (by omega)
        subst e1
        refine ⟨_, if_neg c1, ?_⟩
        simp
    -- the first half
    obtain ⟨C1, s9, U0, U1, U2, U3⟩ : ∃ C1 s9, (if a < s then some (Sum.inl (decide (s < mid))) else some (.inl false) : Option (Sum Bool (List α))) = some (.inl s9) ∧
        ((s9 = true ∧ gSym cmp k (P ++ A1 ++ (B1 ++ (A2 ++ (B2 ++ Q)))) a s mid = some (P ++ C1 ++ (A2 ++ (B2 ++ Q)))) ∨ (s9 = false ∧ P ++ A1 ++ (B1 ++ (A2 ++ (B2 ++ Q))) = P ++ C1 ++ (A2 ++ (B2 ++ Q)))) ∧ C1.Perm (A1 ++ B1) ∧ Sd lt C1 := by
      by_cases c1 : a < s
      · by_cases c2 : s < mid
        · obtain ⟨C, k1, k2, k3⟩ := ih P A1 B1 (A2 ++ (B2 ++ Q)) a s mid (by omega) (by rintro rfl; simp at hA1; omega) (by rintro rfl; simp at hB1; omega) ((List.pairwise_append.1 sA).1) ((List.pairwise_append.1 sB).1) ha (by omega) (by omega) (by simp only [List.length_append, big]; omega)
          exact ⟨C, _, if_pos c1, .inl ⟨by simpa using c2, k1⟩, k2, k3⟩
        · have e2 : B1 = [] := List.length_eq_zero_iff.1 (by omega)
          subst e2
          exact ⟨A1, _, if_pos c1, .inr ⟨by simpa using c2, by simp⟩, by simp, (List.pairwise_append.1 sA).1⟩
      · have e1 : A1 = [] := List.length_eq_zero_iff.1 (by omega)
        subst e1
        exact ⟨B1, _, if_neg c1, .inr ⟨rfl, by simp⟩, by simp, (List.pairwise_append.1 sB).1⟩
    have hp1 := U2.length_eq
    simp only [List.length_append] at hp1
    -- the second half
    obtain ⟨C2, V1, V2, V3⟩ : ∃ C2, (if mid < mid + m - s then (if mid + m - s < b then ((gSym cmp k (P ++ C1 ++ (A2 ++ (B2 ++ Q))) mid (mid + m - s) b).bind fun t => if t.length = (P ++ C1 ++ (A2 ++ (B2 ++ Q))).length then some t else none) else some (P ++ C1 ++ (A2 ++ (B2 ++ Q)))) else some (P ++ C1 ++ (A2 ++ (B2 ++ Q)))) = some (P ++ (C1 ++ C2) ++ Q) ∧ C2.Perm (A2 ++ B2) ∧ Sd lt C2 := by
      by_cases c1 : mid < mid + m - s
      · by_cases c2 : mid + m - s < b
        · obtain ⟨C, k1, k2, k3⟩ := ih (P ++ C1) A2 B2 Q mid (mid + m - s) b (by omega) (by rintro rfl; simp at hm; omega) (by rintro rfl; simp at hb; omega) ((List.pairwise_append.1 sA).2.1) ((List.pairwise_append.1 sB).2.1) (by simp only [List.length_append]; omega) (by omega) (by omega) (by simp only [List.length_append, big]; omega)
          have hp := k2.length_eq
          simp only [List.length_append] at hp
          refine ⟨C, ?_, k2, k3⟩
          rw [show P ++ C1 ++ A2 ++ (B2 ++ Q) = P ++ C1 ++ (A2 ++ (B2 ++ Q)) by simp] at k1
          rw [if_pos c1, if_pos c2, k1]
          simp only [Option.bind_some]
          rw [if_pos (by simp only [List.length_append]; omega)]
          simp
        · have e2 : B2 = [] := List.length_eq_zero_iff.1 (by omega)
          subst e2
          refine ⟨A2, ?_, by simp, (List.pairwise_append.1 sA).2.1⟩
          rw [if_pos c1, if_neg c2]
          simp
      · have e1 : A2 = [] := List.length_eq_zero_iff.1 (by omega)
        subst e1
        refine ⟨B2, ?_, by simp, (List.pairwise_append.1 sB).2.1⟩
        rw [if_neg c1]
        simp
    refine ⟨C1 ++ C2, ?_, ?_, ?_⟩
    · have hS : (if mid < m then some (Sum.inl (mid + m - b, mid)) else some (.inl (a, m)) : Option (Sum (Int × Int) (List α))) = some (.inl (s0, r0)) := by
        rcases hs0 with ⟨c, rfl, rfl⟩ | ⟨c, rfl, rfl⟩
        · rw [if_pos c]
        · rw [if_neg (by omega)]
      unfold gSym
      rw [if_neg (by rw [w64' (by omega) (by omega)]; omega), if_neg (by rw [w64' (by omega) (by omega)]; omega)]
      simp only [hh, wn, wb]
      rw [hS]
      simp only [Option.bind_some]
      rw [g1]
      simp only [Option.bind_some, we]
      rw [T1]
      simp only [Option.bind_some]
      rw [T2]
      simp only [Option.bind_some]
      rw [U0]
      simp only [Option.bind_some]
      rcases U1 with ⟨rfl, u1⟩ | ⟨rfl, u1⟩
      · rw [if_pos rfl, u1]
        simp only [Option.bind_some]
        rw [if_pos (by simp only [List.length_append]; omega)]
        exact V1
      · rw [if_neg (by simp), u1]
        exact V1
    · refine (U2.append V2).trans ?_
      simp only [List.append_assoc]
      refine List.Perm.append_left A1 ?_
      rw [← List.append_assoc, ← List.append_assoc]
      exact List.Perm.append_right B2 List.perm_append_comm
    · refine List.pairwise_append.2 ⟨U3, V3, fun u hu v hv => ?_⟩
      rcases List.mem_append.1 (U2.subset hu) with h | h <;> rcases List.mem_append.1 (V2.subset hv) with h' | h'
      · exact (List.pairwise_append.1 sA).2.2 u h v h'
      · exact F1 u h v h'
      · exact F2 u h v h'
      · exact (List.pairwise_append.1 sB).2.2 u h v h'
end
end Go.Proofs.Ytbjnbjgiidcfjaa
