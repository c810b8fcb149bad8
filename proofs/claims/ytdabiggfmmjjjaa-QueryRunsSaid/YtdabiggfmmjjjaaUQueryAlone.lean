/- The plain part of QueryAlone and QueryNil: what an asker alone does. -/
import Derived.Test.YtdabiggfmmjjjaaR
import Derived.Test.YtdabiggfmmjjjaaPl
import Derived.IntWalk
set_option linter.unusedVariables false
namespace Go.Proofs.Ytdabiggfmmjjjaa
open Go Go.Proofs.Ytdabiggfmmjjjaa.Sp

theorem tick_wait {x : T_query_Asker} (h0 : 1 < x.f_left) (h1 : x.f_left ≤ 54) : f_query_Asker_Tick_obj x = some (false, x.f_asks, x.f_left - 1, x.f_starts) := by
  unfold f_query_Asker_Tick_obj
  rw [w64 (by omega) (by omega), if_pos (by omega)]
theorem tick_two {a : Int} : f_query_Asker_Tick_obj ⟨a, true, 1, 2⟩ = some (true, true, 6, 1) := rfl
theorem tick_one {a : Int} : f_query_Asker_Tick_obj ⟨a, true, 1, 1⟩ = some (true, true, 25, 0) := rfl
theorem tick_none {a : Int} : f_query_Asker_Tick_obj ⟨a, true, 1, 0⟩ = some (true, true, 25, 0) := rfl
theorem awake_true : f_plenumlaw20_awake = some true := rfl
theorem pure_QueryNil : QueryNil.Pure := by
  intro a0 _
  unfold f_plenumlaw20_QueryNil
  rw [awake_true]; rfl

/-- Ahead of tick t. -/
def Ahead (t : Int) (s : Bool × Int × Int) : Prop :=
  s.1 = true ∧ ((t = 1 ∧ s.2 = (1, 2)) ∨ (2 ≤ t ∧ t ≤ 7 ∧ s.2 = (8 - t, 1)) ∨ (8 ≤ t ∧ s.2 = (25 - (t - 8) % 25, 0)))
theorem ahead_step (t a : Int) (h1 : 1 ≤ t) (s : Bool × Int × Int) (h : Ahead t s) :
    ∃ s', f_query_Asker_Tick_obj ⟨a, s.1, s.2.1, s.2.2⟩ = some (decide (t = 1 ∨ 7 ≤ t ∧ (t - 7) % 25 = 0), s'.1, s'.2.1, s'.2.2) ∧ Ahead (t + 1) s' := by
  obtain ⟨b, l, c⟩ := s
  obtain ⟨h0, h⟩ := h
  simp only at h0 h
  subst h0
  rcases h with ⟨rfl, h⟩ | ⟨h2, h3, h⟩ | ⟨h2, h⟩
  · simp only [Prod.mk.injEq] at h
    obtain ⟨rfl, rfl⟩ := h
    exact ⟨(true, 6, 1), tick_two, rfl, .inr (.inl ⟨by omega, by omega, by simp⟩)⟩
  · simp only [Prod.mk.injEq] at h
    obtain ⟨rfl, rfl⟩ := h
    by_cases h7 : t = 7
    · subst h7
      exact ⟨(true, 25, 0), tick_one, rfl, .inr (.inr ⟨by omega, by simp⟩)⟩
    · refine ⟨(true, 8 - t - 1, 1), ?_, rfl, .inr (.inl ⟨by omega, by omega, by simp only [Prod.mk.injEq, and_true]; omega⟩)⟩
      rw [tick_wait (by simp only; omega) (by simp only; omega)]
      simp; omega
  · simp only [Prod.mk.injEq] at h
    obtain ⟨rfl, rfl⟩ := h
    by_cases h7 : (t - 8) % 25 = 24
    · refine ⟨(true, 25, 0), ?_, rfl, .inr (.inr ⟨by omega, by simp only [Prod.mk.injEq, and_true]; omega⟩)⟩
      rw [h7]
      simp only [tick_none, show (25 : Int) - 24 = 1 from rfl, Option.some.injEq, Prod.mk.injEq, and_true]
      simp; omega
    · refine ⟨(true, 25 - (t - 8) % 25 - 1, 0), ?_, rfl, .inr (.inr ⟨by omega, by simp only [Prod.mk.injEq, and_true]; omega⟩)⟩
      rw [tick_wait (by simp only; omega) (by simp only; omega)]
      simp; omega
theorem asks_obj (x : T_query_Asker) : f_query_Asker_Asks_obj x = some x.f_asks := rfl

theorem pure_QueryAlone : QueryAlone.Pure := by
  intro a0 a1 h0 h1
  have g0 := inI_u16 h0
  have g1 := inI_u8 h1
  unfold f_plenumlaw20_QueryAlone
  have hn : f_query_New (IntKind.i64.wrap a0) = some ⟨a0, true, 1, 2⟩ := by rw [w64 (by omega) (by omega)]; rfl
  rw [hn]
  simp only [Option.bind_some]
  obtain ⟨r, hr, hp⟩ := loop_ends (f_plenumlaw20_QueryAlone.b0 a1 ⟨a0, true, 1, 2⟩) (fun s => 1 ≤ s.1 ∧ s.1 ≤ 256 ∧ Ahead s.1 s.2) (fun r => ∃ s, r = .inl s) (fun s => (257 - s.1).toNat) (by
    intro s ⟨hs1, hs2, hs3⟩
    unfold f_plenumlaw20_QueryAlone.b0
    rw [w64 (by omega) (by omega)]
    by_cases hle : s.1 ≤ a1
    · left
      obtain ⟨s', ht, ha⟩ := ahead_step s.1 a0 hs1 s.2 hs3
      refine ⟨(s.1 + 1, s'), ?_, ⟨by simp only; omega, by simp only; omega, ha⟩, by simp only; omega⟩
      rw [if_pos hle]
      simp only [ht, Option.bind_some, asks_obj, ha.1]
      rw [w64 (x := s.1 + 1) (by omega) (by omega)]
      by_cases c1 : s.1 = 1
      · simp [c1]
        exact Prod.ext ha.1.symm rfl
      · rw [if_neg c1]
        by_cases c2 : 7 ≤ s.1
        · rw [if_pos c2, w64 (by omega) (by omega)]
          have e : Int.tmod (s.1 - 7) 25 = (s.1 - 7) % 25 := Int.tmod_eq_emod_of_nonneg (by omega)
          rw [e]
          have hd : decide (s.1 = 1 ∨ 7 ≤ s.1 ∧ (s.1 - 7) % 25 = 0) = decide ((s.1 - 7) % 25 = 0) := by
            apply decide_eq_decide.2; omega
          rw [hd]
          simp
          exact Prod.ext ha.1.symm rfl
        · rw [if_neg c2]
          have hd : decide (s.1 = 1 ∨ 7 ≤ s.1 ∧ (s.1 - 7) % 25 = 0) = false := by
            apply decide_eq_false; omega
          rw [hd]
          simp
          exact Prod.ext ha.1.symm rfl
    · right
      rw [if_neg hle]
      exact ⟨_, rfl, _, rfl⟩) (1, true, 1, 2) ⟨by simp, by simp, rfl, .inl ⟨rfl, rfl⟩⟩
  simp only [hr, Option.bind_some]
  obtain ⟨s, rfl⟩ := hp
  simp only [awake_true]
  rfl
theorem QueryAlone_holds : Rows.QueryAloneSaid := QueryAlone_row pure_QueryAlone
theorem QueryNil_holds : Rows.QueryNilSaid := QueryNil_row pure_QueryNil
#print axioms QueryAlone_holds
end Go.Proofs.Ytdabiggfmmjjjaa
