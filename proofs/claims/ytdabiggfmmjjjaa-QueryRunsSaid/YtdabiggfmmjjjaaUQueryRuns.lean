/- The plain part of QueryRuns: an asker and the document's one go together, whatever befalls. Conditions: none. -/
import Derived.Test.YtdabiggfmmjjjaaUQueryAlone
set_option linter.unusedVariables false
namespace Go.Proofs.Ytdabiggfmmjjjaa
open Go Go.Proofs.Ytdabiggfmmjjjaa.Sp

theorem tick_same (a b : Int) (q : Bool) (l s : Int) : f_query_Asker_Tick_obj ⟨a, q, l, s⟩ = f_plenumref20_Asker_Tick_obj ⟨b, q, l, s⟩ := by
  unfold f_query_Asker_Tick_obj f_plenumref20_Asker_Tick_obj
  simp only
  by_cases c1 : 0 < IntKind.i64.wrap (l - 1)
  · rw [if_pos c1, if_pos c1]
  · rw [if_neg c1, if_neg c1]
    cases q with
    | false => simp
    | true =>
      by_cases c2 : 0 < s
      · simp [c2]
      · simp [c2]
theorem heard_same (a : Int) (q : Bool) (l s s' f : Int) : f_query_Asker_Heard_obj ⟨a, q, l, s⟩ f = f_plenumref20_Asker_Heard_obj ⟨a, q, l, s'⟩ f := rfl
theorem tick_some (x : T_query_Asker) : ∃ r, f_query_Asker_Tick_obj x = some r := by
  unfold f_query_Asker_Tick_obj
  obtain ⟨a, q, l, s⟩ := x
  simp only
  by_cases c1 : 0 < IntKind.i64.wrap (l - 1)
  · exact ⟨_, if_pos c1⟩
  · rw [if_neg c1]
    cases q with
    | false => exact ⟨_, rfl⟩
    | true =>
      by_cases c2 : 0 < s
      · by_cases c3 : 0 < IntKind.i64.wrap (s - 1)
        · simp [c2, c3]
        · simp [c2, c3]
      · simp [c2]
theorem heard_some (x : T_query_Asker) (f : Int) : ∃ r, f_query_Asker_Heard_obj x f = some r := by
  unfold f_query_Asker_Heard_obj
  split
  · split <;> exact ⟨_, rfl⟩
  · exact ⟨_, rfl⟩

theorem pure_QueryRuns : QueryRuns.Pure := by
  intro a0 a1 h0 ⟨h1, h2⟩
  have hm : maxLen = 9223372036854775807 := rfl
  unfold f_plenumlaw20_QueryRuns
  split
  · rw [awake_true]; rfl
  · rename_i hlen
    have hn : f_query_New a0 = some ⟨a0, true, 1, 2⟩ := rfl
    have hn' : f_plenumref20_NewAsker a0 = some ⟨a0, true, 1, 2⟩ := rfl
    rw [hn, hn']
    simp only [Option.bind_some]
    obtain ⟨r, hr, hp⟩ := loop_ends (f_plenumlaw20_QueryRuns.b0 a1 ⟨a0, true, 1, 2⟩ ⟨a0, true, 1, 2⟩)
      (fun s => 0 ≤ s.1 ∧ s.1 ≤ a1.length ∧ s.2.1 = s.2.2.2.2.1 ∧ s.2.2.1 = s.2.2.2.2.2.1 ∧ s.2.2.2.1 = s.2.2.2.2.2.2) (fun r => ∃ s, r = .inl s) (fun s => (a1.length - s.1).toNat) (by
      rintro ⟨i, q, l, n, q', l', n'⟩ ⟨hi0, hi1, hq, hl, hs⟩
      simp only at hi0 hi1 hq hl hs
      subst hq hl hs
      unfold f_plenumlaw20_QueryRuns.b0
      simp only
      by_cases hlt : i < (a1.length : Int)
      · left
        rw [if_pos hlt, if_pos hi0]
        by_cases c : Int.tmod (rd a1 i) 3 = 0
        · rw [if_pos c]
          obtain ⟨⟨q1, l1⟩, hh⟩ := heard_some ⟨a0, q, l, n⟩ (IntKind.i64.wrap (Int.tdiv (rd a1 i) 3))
          have hh' := (heard_same a0 q l n n (IntKind.i64.wrap (Int.tdiv (rd a1 i) 3))).symm.trans hh
          simp only [hh, hh', Option.bind_some, asks_obj, beq_self_eq_true, if_true]
          rw [w64 (by omega) (by omega)]
          exact ⟨_, rfl, ⟨by simp only; omega, by simp only; omega, rfl, rfl, rfl⟩, by simp only; omega⟩
        · rw [if_neg c]
          obtain ⟨⟨b1, q1, l1, n1⟩, hh⟩ := tick_some ⟨a0, q, l, n⟩
          have hh' := (tick_same a0 a0 q l n).symm.trans hh
          simp only [hh, hh', Option.bind_some, asks_obj, beq_self_eq_true, if_true]
          rw [w64 (by omega) (by omega)]
          exact ⟨_, rfl, ⟨by simp only; omega, by simp only; omega, rfl, rfl, rfl⟩, by simp only; omega⟩
      · right
        rw [if_neg hlt]
        exact ⟨_, rfl, _, rfl⟩) (0, true, 1, 2, true, 1, 2) ⟨by simp, by simp, rfl, rfl, rfl⟩
    simp only [hr, Option.bind_some]
    obtain ⟨s, rfl⟩ := hp
    simp only [awake_true]
    rfl
theorem QueryRuns_holds : Rows.QueryRunsSaid := QueryRuns_row pure_QueryRuns
end Go.Proofs.Ytdabiggfmmjjjaa
