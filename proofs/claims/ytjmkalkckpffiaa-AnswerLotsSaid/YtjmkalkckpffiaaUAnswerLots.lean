/- The plain part of AnswerLots. Conditions: none. -/
import Derived.Test.YtjmkalkckpffiaaUAns0
import Derived.Test.YtjmkalkckpffiaaR
set_option linter.unusedVariables false
set_option linter.unusedSimpArgs false
namespace Go.Proofs.Ytjmkalkckpffiaa
open Go Go.Proofs.Ytjmkalkckpffiaa.Sp
theorem ints_self (l : List Int) (hl : (l.length : Int) ≤ big) : f_plenumref1_Ints l l = some true := by
  unfold f_plenumref1_Ints
  rw [if_pos rfl, loop_run (b := f_plenumref1_Ints.b0 l l) l (by
    intro q k s hs
    have hlen : q.length < l.length := by rw [hs]; simp
    unfold f_plenumref1_Ints.b0
    rw [if_pos (by omega), if_pos (by omega), if_pos (by omega), if_pos rfl, wi hl hlen]
    simp) (by unfold f_plenumref1_Ints.b0; rw [if_neg (by omega)])]
  rfl
theorem verts_self (l : List T_api_Vert) (hl : (l.length : Int) ≤ big) : f_plenumref1_Verts l l = some true := by
  unfold f_plenumref1_Verts
  rw [if_pos rfl, loop_run (b := f_plenumref1_Verts.b0 l l) l (by
    intro q k s hs
    have hlen : q.length < l.length := by rw [hs]; simp
    unfold f_plenumref1_Verts.b0
    rw [if_pos (by omega), if_pos (by omega), if_pos (by omega), if_pos rfl, wi hl hlen]
    simp) (by unfold f_plenumref1_Verts.b0; rw [if_neg (by omega)])]
  rfl
theorem heads_self (l : List T_api_Head) (hl : (l.length : Int) ≤ big) : f_plenumref1_Heads l l = some true := by
  unfold f_plenumref1_Heads
  rw [if_pos rfl, loop_run (b := f_plenumref1_Heads.b0 l l) l (by
    intro q k s hs
    have hlen : q.length < l.length := by rw [hs]; simp
    unfold f_plenumref1_Heads.b0
    rw [if_pos (by omega), if_pos (by omega), if_pos (by omega), if_pos rfl, wi hl hlen]
    simp) (by unfold f_plenumref1_Heads.b0; rw [if_neg (by omega)])]
  rfl
theorem lsa_self (x : T_api_Lsa) (hx : Small x) : f_plenumref1_SameLsa x x = some true := by
  obtain ⟨h1, h2, h3⟩ := hx
  have hb : (x.f_Links.length : Int) ≤ big := by simp only [big]; omega
  unfold f_plenumref1_SameLsa f_plenumref1_Body
  rw [if_pos rfl, if_pos rfl, if_pos rfl, if_pos rfl, if_pos rfl, ints_self _ (by simp only [big]; omega)]
  simp only [Option.bind_some, if_true]
  rw [verts_self _ (by simp only [big]; omega)]
  simp only [Option.bind_some, Bool.not_true, Bool.false_eq_true, if_false]
  rw [loop_run (b := f_plenumref1_Body.b0 x x) x.f_Links (by
    intro q k s hs
    have hlen : q.length < x.f_Links.length := by rw [hs]; simp
    unfold f_plenumref1_Body.b0
    rw [if_pos (by omega), if_pos (by omega), if_pos (by omega), if_pos rfl, wi hb hlen]
    simp) (by unfold f_plenumref1_Body.b0; rw [if_neg (by omega)])]
  rfl
theorem lsas_self (l : List T_api_Lsa) (hl : (l.length : Int) ≤ big) (hs : ∀ x ∈ l, Small x) : f_plenumref1_Lsas l l = some true := by
  unfold f_plenumref1_Lsas
  rw [if_pos rfl, loop_run (b := f_plenumref1_Lsas.b0 l l) l (by
    intro q k s hq
    have hlen : q.length < l.length := by rw [hq]; simp
    have hr : rd l (q.length : Int) = k := by rw [hq]; exact rd_mid rfl
    unfold f_plenumref1_Lsas.b0
    simp only [hr, lsa_self k (hs k (by rw [hq]; simp)), Option.bind_some, if_true, wi hl hlen]
    rw [if_pos (by omega), if_pos (by omega), if_pos (by omega)]
    simp) (by unfold f_plenumref1_Lsas.b0; rw [if_neg (by omega)])]
  rfl
theorem great1 (x : T_api_Lsa) : ∃ r, f_plenumlaw5_Great x = some r ∧ (r = false → x.f_Links.length ≤ 70 ∧ x.f_Routers.length ≤ 70 ∧ x.f_Verts.length ≤ 70) := by
  unfold f_plenumlaw5_Great
  split
  · exact ⟨_, rfl, fun e => by cases e⟩
  · split
    · exact ⟨_, rfl, fun e => by cases e⟩
    · refine ⟨_, rfl, fun e => ?_⟩
      have := of_decide_eq_false e
      omega
theorem great_loop (l : List T_api_Lsa) (hl : l.length ≤ 40) : ((∀ x ∈ l, Small x) ∧ loopO (f_plenumlaw14_AnswerLots.b0 l) 0 = some (.inl (l.length : Int))) ∨ loopO (f_plenumlaw14_AnswerLots.b0 l) 0 = some (.inr true) := by
  have hb : (l.length : Int) ≤ big := by simp only [big]; omega
  rcases loop_every (b := f_plenumlaw14_AnswerLots.b0 l) l (fun x => f_plenumlaw5_Great x = some false) (fun _ => true) (by
    intro q x s hq hp
    have hlen : q.length < l.length := by rw [hq]; simp
    have hr : rd l (q.length : Int) = x := by rw [hq]; exact rd_mid rfl
    unfold f_plenumlaw14_AnswerLots.b0
    simp only [hr, hp, Option.bind_some, Bool.false_eq_true, if_false, wi hb hlen]
    rw [if_pos (by omega), if_pos (by omega)]
    simp) (by
    intro q x s hq hp
    have hlen : q.length < l.length := by rw [hq]; simp
    have hr : rd l (q.length : Int) = x := by rw [hq]; exact rd_mid rfl
    obtain ⟨r, r1, r2⟩ := great1 x
    have hr1 : r = true := by
      cases r with
      | true => rfl
      | false => exact absurd r1 hp
    unfold f_plenumlaw14_AnswerLots.b0
    simp only [hr, r1, hr1, awake_ok, Option.bind_some, if_true]
    rw [if_pos (by omega), if_pos (by omega)]) (by unfold f_plenumlaw14_AnswerLots.b0; rw [if_neg (by omega)]) with ⟨h1, h2⟩ | ⟨x, _, _, h⟩
  · left
    refine ⟨fun x hx => ?_, h2⟩
    obtain ⟨r, r1, r2⟩ := great1 x
    rw [h1 x hx] at r1
    have := r2 (Option.some.inj r1).symm
    unfold Small
    omega
  · exact .inr h
theorem lots_u (r : Int) (l : List T_api_Lsa) (hl : l.length ≤ 40) : ∀ m n : Nat, n + m = chN l.length 4 →
    ∃ s, loopO (f_plenumlaw14_AnswerLots.b1 r ((chL 4 l).map (pkU r))) (l.take (n * 4), (n : Int)) = some (.inl (l, s))
  | 0, n, h => by
    have hn : n = chN l.length 4 := by omega
    have htop := chN_top (n := l.length) (k := 4) (by omega)
    refine ⟨(n : Int), loopO_inr ?_⟩
    unfold f_plenumlaw14_AnswerLots.b1
    simp only [List.length_map, len_chL]
    rw [if_neg (by omega), List.take_of_length_le (by rw [hn]; exact htop)]
  | m + 1, n, h => by
    have hle : chN l.length 4 ≤ l.length := chN_le (j := 0) (by omega)
    have hn : n < chN l.length 4 := by omega
    have hlt := (chN_lt (n := l.length) (k := 4) (j := n) (by omega)).1 hn
    have hlast : n + 1 < chN l.length 4 → n * 4 + 4 ≤ l.length := chN_last (by omega)
    have hcl := len_chAt (k := 4) (xs := l) (j := n)
    have hr := rd_pk (k := 4) (xs := l) (pkU r) hn
    have htl : (l.take (n * 4)).length ≤ 40 := by rw [List.length_take]; omega
    have hstep : f_plenumlaw14_AnswerLots.b1 r ((chL 4 l).map (pkU r)) (l.take (n * 4), (n : Int)) = some (.inl (l.take ((n + 1) * 4), ((n + 1 : Nat) : Int))) := by
      have e1 : IntKind.i64.wrap (((chN l.length 4 : Nat) : Int) - 1) = ((chN l.length 4 : Nat) : Int) - 1 := w64' (by omega) (by omega)
      have e2 : IntKind.i64.wrap ((n : Int) + 1) = ((n + 1 : Nat) : Int) := by rw [w64' (by omega) (by omega)]; rfl
      unfold f_plenumlaw14_AnswerLots.b1
      simp only [List.length_map, len_chL, hr, pkU, e1, e2, if_true, List.length_nil]
      rw [if_pos (by omega), if_pos (by omega), if_neg (by omega), if_neg (by omega), take_chAt]
      by_cases h3 : (n : Int) < ((chN l.length 4 : Nat) : Int) - 1
      · rw [if_pos h3, if_pos (by have := hlast (by omega); omega), if_neg (by simp), if_pos (by omega)]
      · rw [if_neg h3, if_neg (by simp), if_pos (by omega)]
    rw [loopO_inl hstep]
    exact lots_u r l hl m (n + 1) (by omega)
theorem lots_a (r : Int) (l : List T_api_Head) (hl : l.length ≤ 60) : ∀ m n : Nat, n + m = chN l.length 8 →
    ∃ s, loopO (f_plenumlaw14_AnswerLots.b2 r ((chL 8 l).map (pkA r))) (l.take (n * 8), (n : Int)) = some (.inl (l, s))
  | 0, n, h => by
    have hn : n = chN l.length 8 := by omega
    have htop := chN_top (n := l.length) (k := 8) (by omega)
    refine ⟨(n : Int), loopO_inr ?_⟩
    unfold f_plenumlaw14_AnswerLots.b2
    simp only [List.length_map, len_chL]
    rw [if_neg (by omega), List.take_of_length_le (by rw [hn]; exact htop)]
  | m + 1, n, h => by
    have hle : chN l.length 8 ≤ l.length := chN_le (j := 0) (by omega)
    have hn : n < chN l.length 8 := by omega
    have hlt := (chN_lt (n := l.length) (k := 8) (j := n) (by omega)).1 hn
    have hlast : n + 1 < chN l.length 8 → n * 8 + 8 ≤ l.length := chN_last (by omega)
    have hcl := len_chAt (k := 8) (xs := l) (j := n)
    have hr := rd_pk (k := 8) (xs := l) (pkA r) hn
    have htl : (l.take (n * 8)).length ≤ 60 := by rw [List.length_take]; omega
    have hstep : f_plenumlaw14_AnswerLots.b2 r ((chL 8 l).map (pkA r)) (l.take (n * 8), (n : Int)) = some (.inl (l.take ((n + 1) * 8), ((n + 1 : Nat) : Int))) := by
      have e1 : IntKind.i64.wrap (((chN l.length 8 : Nat) : Int) - 1) = ((chN l.length 8 : Nat) : Int) - 1 := w64' (by omega) (by omega)
      have e2 : IntKind.i64.wrap ((n : Int) + 1) = ((n + 1 : Nat) : Int) := by rw [w64' (by omega) (by omega)]; rfl
      unfold f_plenumlaw14_AnswerLots.b2
      simp only [List.length_map, len_chL, hr, pkA, e1, e2, if_true, List.length_nil]
      rw [if_pos (by omega), if_pos (by omega), if_neg (by omega), if_neg (by omega), take_chAt]
      by_cases h3 : (n : Int) < ((chN l.length 8 : Nat) : Int) - 1
      · rw [if_pos h3, if_pos (by have := hlast (by omega); omega), if_neg (by simp), if_pos (by omega)]
      · rw [if_neg h3, if_neg (by simp), if_pos (by omega)]
    rw [loopO_inl hstep]
    exact lots_a r l hl m (n + 1) (by omega)
theorem pure_AnswerLots : AnswerLots.Pure := by
  intro r l h _ _ _
  unfold f_plenumlaw14_AnswerLots
  by_cases c1 : 40 < (l.length : Int)
  · rw [if_pos c1]
    simp only [Option.bind_some, if_true, awake_ok]
  · rw [if_neg c1]
    simp only [Option.bind_some]
    by_cases c2 : 60 < (h.length : Int)
    · simp only [c2, decide_true, if_true, awake_ok, Option.bind_some]
    · simp only [c2, decide_false, Bool.false_eq_true, if_false]
      rcases great_loop l (by omega) with ⟨hs, h1⟩ | h1
      · rw [h1]
        simp only [Option.bind_some]
        rw [updates_ok r l (by omega) hs, acks_ok r h (by omega)]
        simp only [Option.bind_some]
        obtain ⟨s, hu⟩ := lots_u r l (by omega) (chN l.length 4) 0 (by omega)
        obtain ⟨s', ha⟩ := lots_a r h (by omega) (chN h.length 8) 0 (by omega)
        simp only [Nat.zero_mul, List.take_zero] at hu ha
        rw [show (([] : List T_api_Lsa), (0 : Int)) = (([] : List T_api_Lsa), ((0 : Nat) : Int)) from rfl, hu]
        simp only [Option.bind_some]
        rw [show (([] : List T_api_Head), (0 : Int)) = (([] : List T_api_Head), ((0 : Nat) : Int)) from rfl, ha]
        simp only [Option.bind_some]
        rw [lsas_self l (by simp only [big]; omega) hs]
        simp only [Option.bind_some, if_true]
        rw [heads_self h (by simp only [big]; omega)]
        simp only [Option.bind_some, if_true, awake_ok]
      · rw [h1]
        rfl
theorem AnswerLots_holds : Rows.AnswerLotsSaid := AnswerLots_row pure_AnswerLots
end Go.Proofs.Ytjmkalkckpffiaa
