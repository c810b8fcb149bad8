/- Sorting, plain: SortStableFunc of at most forty. Conditions: none. -/
import Derived.Test.YtbjnbjgiidcfjaaUGS3
set_option linter.unusedVariables false
set_option linter.unusedSectionVars false
set_option linter.unusedSimpArgs false
namespace Go.Proofs.Ytbjnbjgiidcfjaa
open Go Go.Proofs.Ytbjnbjgiidcfjaa.Sp
section
variable {α : Type} [Inhabited α] {cmp : α → α → Option Int} {lt : α → α → Prop}
theorem st_b0_end (n : Int) (a b : Int) (l : List α) (h : n < b) : loopO (gSt_b0 cmp n) (a, b, l) = some (.inl (a, b, l)) := by
  refine loopO_inr ?_
  unfold gSt_b0
  rw [if_neg (by simp only; omega)]
theorem st_b0_step (n : Int) (a b : Int) (l l' : List α) (h : b ≤ n) (hn : n ≤ big) (h0 : 0 ≤ b) (hi : gIns cmp l a b = some l') (hl : l'.length = l.length) : loopO (gSt_b0 cmp n) (a, b, l) = loopO (gSt_b0 cmp n) (b, b + 20, l') := by
  refine loopO_inl ?_
  unfold gSt_b0
  simp only
  simp only [big] at hn
  rw [if_pos h, hi, w64' (by omega) (by omega)]
  simp only [Option.bind_some]
  rw [if_pos hl]
theorem st_b2_end (n s : Int) (l : List α) (h : n ≤ s) : loopO (gSt_b2 cmp n) (s, l) = some (.inl (s, l)) := by
  refine loopO_inr ?_
  unfold gSt_b2
  rw [if_neg (by simp only; omega)]
theorem stable_ok (hc : Cmp cmp lt) (O : Ord lt) (l : List α) (h : l.length ≤ 40) : ∃ C, gStable cmp l = some C ∧ C.Perm l ∧ Sd lt C := by
  have key : ∃ C, gSt cmp l (l.length : Int) = some C ∧ C.Perm l ∧ Sd lt C := by
    by_cases h1 : l.length < 20
    · obtain ⟨C, k1, k2, k3⟩ := ins_ok hc O [] l [] (by simp only [List.nil_append, List.append_nil, big]; omega)
      simp only [List.nil_append, List.append_nil, List.length_nil, Int.zero_add] at k1
      refine ⟨C, ?_, k2, k3⟩
      unfold gSt
      rw [st_b0_end _ _ _ _ (by omega)]
      simp only [Option.bind_some]
      rw [show ((0 : Nat) : Int) = 0 from rfl, Int.zero_add] at k1
      rw [k1]
      simp only [Option.bind_some]
      rw [if_pos k2.length_eq, st_b2_end _ _ _ (by omega)]
      rfl
    · obtain ⟨L, R, rfl, hL⟩ := split_at l 20 (by omega) (by omega)
      simp only [List.length_append] at h h1
      obtain ⟨C1, k1, k2, k3⟩ := ins_ok hc O [] L R (by simp only [List.nil_append, List.length_append, big]; omega)
      obtain ⟨C2, m1, m2, m3⟩ := ins_ok hc O C1 R [] (by simp only [List.append_nil, List.length_append, big, k2.length_eq]; omega)
      have l1 := k2.length_eq
      have l2 := m2.length_eq
      simp only [List.nil_append, List.append_nil, List.length_nil] at k1 m1
      rw [show ((0 : Nat) : Int) = 0 from rfl, Int.zero_add, hL] at k1
      have hc1 : (C1.length : Int) = 20 := by omega
      have hn : ((L ++ R).length : Int) = 20 + R.length := by simp only [List.length_append]; omega
      rw [hc1] at m1
      have st1 := st_b0_step (cmp := cmp) ((L ++ R).length : Int) 0 20 (L ++ R) (C1 ++ R) (by omega) (by simp only [big]; omega) (by omega) k1 (by simp only [List.length_append]; omega)
      -- the merge
      have mg : R ≠ [] → ∃ C, gSym cmp 64 (C1 ++ C2) 0 20 ((L ++ R).length : Int) = some C ∧ C.Perm (L ++ R) ∧ Sd lt C := by
        intro hR
        have hR' : 0 < R.length := List.length_pos_iff.2 hR
        obtain ⟨C, q1, q2, q3⟩ := sym_ok hc O 64 [] C1 C2 [] 0 20 ((L ++ R).length : Int) (by omega) (by rintro rfl; simp at hc1) (by rintro rfl; simp at l2; omega) k3 m3 rfl (by omega) (by omega) (by simp only [List.nil_append, List.append_nil, List.length_append, big]; omega)
        simp only [List.nil_append, List.append_nil] at q1
        exact ⟨C, q1, q2.trans (k2.append m2), q3⟩
      by_cases h2 : R.length < 20
      · by_cases h3 : R = []
        · subst h3
          obtain rfl : C2 = [] := by simpa using m2
          refine ⟨C1, ?_, by simpa using k2, k3⟩
          unfold gSt
          rw [st1, st_b0_end _ _ _ _ (by omega)]
          simp only [Option.bind_some]
          rw [hn, m1]
          simp only [Option.bind_some]
          rw [if_pos trivial, st_b2_end _ _ _ (by simp)]
          simp
        · have hR' : 0 < R.length := List.length_pos_iff.2 h3
          obtain ⟨C, q1, q2, q3⟩ := mg h3
          refine ⟨C, ?_, q2, q3⟩
          unfold gSt
          rw [st1, st_b0_end _ _ _ _ (by omega)]
          simp only [Option.bind_some]
          rw [hn] at q1 ⊢
          rw [m1]
          simp only [Option.bind_some]
          rw [if_pos (by simp only [List.length_append]; omega)]
          have hstep : gSt_b2 cmp (20 + (R.length : Int)) (20, C1 ++ C2) = some (.inl (40, C)) := by
            unfold gSt_b2
            simp only
            rw [if_pos (by omega), w64' (x := 2 * 20) (by omega) (by omega), w64' (x := 20 * 2) (by omega) (by omega)]
            have hb1 : loopO (gSt_b1 cmp (20 + (R.length : Int)) (20, C1 ++ C2)) (0, 2 * 20, C1 ++ C2) = some (.inl (0, 2 * 20, C1 ++ C2)) := by
              refine loopO_inr ?_
              unfold gSt_b1
              rw [if_neg (by simp only; omega)]
            rw [hb1]
            simp only [Option.bind_some]
            rw [w64' (x := 0 + 20) (by omega) (by omega), if_pos (by omega), Int.zero_add, q1]
            simp only [Option.bind_some]
            rw [if_pos (by rw [q2.length_eq]; simp only [List.length_append]; omega)]
            rfl
          rw [loopO_inl hstep, st_b2_end _ _ _ (by omega)]
          rfl
      · have hR : R.length = 20 := by omega
        have h3 : R ≠ [] := by rintro rfl; simp at hR
        obtain ⟨C, q1, q2, q3⟩ := mg h3
        refine ⟨C, ?_, q2, q3⟩
        obtain ⟨C3, n1, n2, n3⟩ := ins_ok hc O (C1 ++ C2) [] [] (by simp only [List.append_nil, List.length_append, big]; omega)
        obtain rfl : C3 = [] := by simpa using n2
        simp only [List.append_nil, List.length_nil, List.length_append] at n1
        have hcc : ((C1.length + C2.length : Nat) : Int) = 40 := by omega
        rw [hcc] at n1
        have st2 := st_b0_step (cmp := cmp) ((L ++ R).length : Int) 20 40 (C1 ++ R) (C1 ++ C2) (by omega) (by simp only [big]; omega) (by omega) (by rw [hR] at m1; exact m1) (by simp only [List.length_append]; omega)
        have hnn : ((L ++ R).length : Int) = 40 := by omega
        unfold gSt
        rw [st1]
        rw [show (20 : Int) + 20 = 40 from rfl, st2, st_b0_end _ _ _ _ (by omega)]
        simp only [Option.bind_some]
        rw [hnn] at q1 ⊢
        rw [show (40 : Int) + ((0 : Nat) : Int) = 40 from rfl] at n1
        rw [n1]
        simp only [Option.bind_some]
        rw [if_pos trivial]
        have hstep : gSt_b2 cmp 40 (20, C1 ++ C2) = some (.inl (40, C)) := by
          unfold gSt_b2
          simp only
          rw [if_pos (by omega), w64' (x := 2 * 20) (by omega) (by omega), w64' (x := 20 * 2) (by omega) (by omega)]
          have hs1 : gSt_b1 cmp 40 (20, C1 ++ C2) (0, 2 * 20, C1 ++ C2) = some (.inl (40, 80, C)) := by
            unfold gSt_b1
            simp only
            rw [if_pos (by omega), w64' (x := 0 + 20) (by omega) (by omega), w64' (x := 2 * 20) (by omega) (by omega), w64' (by omega) (by omega)]
            rw [show (0 : Int) + 20 = 20 from rfl, show (2 : Int) * 20 = 40 from rfl, q1]
            simp only [Option.bind_some]
            rw [if_pos (by rw [q2.length_eq]; simp only [List.length_append]; omega)]
            rfl
          have hs2 : loopO (gSt_b1 cmp 40 (20, C1 ++ C2)) (40, 80, C) = some (.inl (40, 80, C)) := by
            refine loopO_inr ?_
            unfold gSt_b1
            rw [if_neg (by simp only; omega)]
          rw [loopO_inl hs1, hs2]
          simp only [Option.bind_some]
          rw [w64' (x := 40 + 20) (by omega) (by omega), if_neg (by omega)]
          rfl
        rw [loopO_inl hstep, st_b2_end _ _ _ (by omega)]
        rfl
  obtain ⟨C, k1, k2, k3⟩ := key
  refine ⟨C, ?_, k2, k3⟩
  unfold gStable
  rw [k1]
  simp only [Option.bind_some]
  rw [if_pos k2.length_eq]
end
end Go.Proofs.Ytbjnbjgiidcfjaa
