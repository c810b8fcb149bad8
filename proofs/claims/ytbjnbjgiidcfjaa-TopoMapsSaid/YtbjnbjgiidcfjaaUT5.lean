/- Chapter 17, plain: the document's own functions: vertices, finding, links back. Conditions: none. -/
import Derived.Test.YtbjnbjgiidcfjaaUT4
set_option linter.unusedVariables false
set_option linter.unusedSectionVars false
set_option linter.unusedSimpArgs false
namespace Go.Proofs.Ytbjnbjgiidcfjaa
open Go Go.Proofs.Ytbjnbjgiidcfjaa.Sp
/-! ### A vertex is put in its place -/
theorem vert_at (l : List T_api_Vert) (v : T_api_Vert) (hl : l.length ≤ 1048576) : ∃ A B, l = A ++ B ∧ (∀ y ∈ A, ltV y v) ∧ (∀ b B', B = b :: B' → ¬ ltV b v) ∧ loopO (f_plenumref8_Vert.b0 l v) 0 = some (.inl (A.length : Int)) := by
  have hb : (l.length : Int) ≤ big := by simp only [big]; omega
  have hgo : ∀ q x s, l = q ++ x :: s → ltV x v → f_plenumref8_Vert.b0 l v (q.length : Int) = some (.inl (((q ++ [x]).length : Nat) : Int)) := by
    intro q x s hs hx
    have hlen : q.length < l.length := by rw [hs]; simp
    have hr : rd l (q.length : Int) = x := by rw [hs]; exact rd_mid rfl
    unfold ltV at hx
    unfold f_plenumref8_Vert.b0
    simp only [hr, wi hb hlen]
    rw [if_pos (by omega), if_pos (by omega)]
    by_cases c1 : x.f_Kind < v.f_Kind
    · rw [if_pos c1]; simp
    · rw [if_neg c1, if_pos (by omega), if_pos (by omega)]; simp
  have hstop : ∀ q x s, l = q ++ x :: s → ¬ ltV x v → f_plenumref8_Vert.b0 l v (q.length : Int) = some (.inr (.inl (q.length : Int))) := by
    intro q x s hs hx
    have hlen : q.length < l.length := by rw [hs]; simp
    have hr : rd l (q.length : Int) = x := by rw [hs]; exact rd_mid rfl
    unfold ltV at hx
    unfold f_plenumref8_Vert.b0
    simp only [hr]
    rw [if_pos (by omega), if_pos (by omega), if_neg (by omega)]
    by_cases c1 : x.f_Kind = v.f_Kind
    · rw [if_pos c1, if_neg (by omega)]
    · rw [if_neg c1]
  rcases loop_first (b := f_plenumref8_Vert.b0 l v) (fun q => (q.length : Int)) (fun x => ¬ ltV x v) (fun q x => Sum.inl (q.length : Int)) l [] (fun q x s h hx => hgo q x s (by simpa using h) (Classical.not_not.1 hx)) (fun q x s h hx => hstop q x s (by simpa using h) hx) (by simp) with ⟨q, x, s, h1, h2, h3, h4⟩ | ⟨h1, h2⟩
  · refine ⟨q, x :: s, by simpa using h1, fun y hy => Classical.not_not.1 (h2 y hy), ?_, h4⟩
    intro b B' e
    simp only [List.cons.injEq] at e
    rw [← e.1]; exact h3
  · refine ⟨l, [], by simp, fun y hy => Classical.not_not.1 (h1 y (by simpa using hy)), by simp, ?_⟩
    rw [show (0 : Int) = ((([] : List T_api_Vert).length : Nat) : Int) from rfl, h2]
    refine loopO_inr ?_
    unfold f_plenumref8_Vert.b0
    rw [if_neg (by simp)]
    simp
theorem vert_shift (A : List T_api_Vert) : ∀ (n : Nat) (B1 B2 : List T_api_Vert) (x : T_api_Vert), B1.length = n → A.length + n + 1 + B2.length ≤ 1048577 →
    ∃ x' k, loopO (f_plenumref8_Vert.b1 (A.length : Int)) (((A.length + n : Nat) : Int), A ++ (B1 ++ x :: B2)) = some (.inl (k, A ++ x' :: (B1 ++ B2)))
  | 0, B1, B2, x, h, _ => by
    obtain rfl := List.length_eq_zero_iff.1 h
    refine ⟨x, ((A.length + 0 : Nat) : Int), loopO_inr ?_⟩
    unfold f_plenumref8_Vert.b1
    rw [if_neg (by simp)]
    simp
  | n + 1, B1, B2, x, h, hl => by
    have hne : B1 ≠ [] := by rintro rfl; simp at h
    obtain ⟨B0, b, rfl⟩ : ∃ B0 b, B1 = B0 ++ [b] := ⟨B1.dropLast, B1.getLast hne, (List.dropLast_concat_getLast hne).symm⟩
    simp only [List.length_append, List.length_cons, List.length_nil] at h
    have h0 : B0.length = n := by omega
    have e1 : A ++ (B0 ++ [b] ++ x :: B2) = (A ++ B0) ++ b :: (x :: B2) := by simp
    have e2 : A ++ (B0 ++ [b] ++ x :: B2) = (A ++ B0 ++ [b]) ++ x :: B2 := by simp
    have hw : IntKind.i64.wrap (((A.length + (n + 1) : Nat) : Int) - 1) = ((A.length + n : Nat) : Int) := by rw [w64' (by omega) (by omega)]; omega
    have hrd : rd (A ++ (B0 ++ [b] ++ x :: B2)) ((A.length + n : Nat) : Int) = b := by rw [e1]; exact rd_mid (by simp; omega)
    have hset : setI (A ++ (B0 ++ [b] ++ x :: B2)) ((A.length + (n + 1) : Nat) : Int) b = A ++ (B0 ++ b :: (b :: B2)) := by
      rw [e2, setI_mid (by simp; omega)]; simp
    have hlen : (A ++ (B0 ++ [b] ++ x :: B2)).length = A.length + n + 1 + 1 + B2.length := by simp; omega
    have hstep : f_plenumref8_Vert.b1 (A.length : Int) (((A.length + (n + 1) : Nat) : Int), A ++ (B0 ++ [b] ++ x :: B2)) = some (.inl (((A.length + n : Nat) : Int), A ++ (B0 ++ b :: (b :: B2)))) := by
      unfold f_plenumref8_Vert.b1
      simp only [hw, hrd, hset, hlen]
      rw [if_pos (by omega), if_pos (by omega), if_pos (by omega), if_pos (by omega), if_pos (by omega)]
    obtain ⟨x', k, hk⟩ := vert_shift A n B0 (b :: B2) b h0 (by simp only [List.length_cons]; omega)
    exact ⟨x', k, by rw [loopO_inl hstep, hk]; simp⟩
theorem vert_ok (l : List T_api_Vert) (v : T_api_Vert) (hl : l.length ≤ 1048576) (hu : UpV l) : ∃ l', f_plenumref8_Vert l v = some l' ∧ UpV l' ∧ (∀ y, y ∈ l' ↔ y = v ∨ y ∈ l) ∧ l'.length ≤ l.length + 1 := by
  obtain ⟨A, B, rfl, hA, hB, hloop⟩ := vert_at l v hl
  obtain ⟨uA, uB, uAB⟩ := List.pairwise_append.1 hu
  have hnew : ∃ k x', loopO (f_plenumref8_Vert.b1 (A.length : Int)) (IntKind.i64.wrap ((((A ++ B) ++ [(⟨0, 0⟩ : T_api_Vert)]).length : Int) - 1), ((A ++ B) ++ [(⟨0, 0⟩ : T_api_Vert)])) = some (.inl (k, A ++ x' :: B)) := by
    obtain ⟨x', k, hk⟩ := vert_shift A B.length B [] ⟨0, 0⟩ rfl (by simp only [List.length_append] at hl; simp; omega)
    refine ⟨k, x', ?_⟩
    simp only [List.append_nil] at hk
    rw [w64' (by simp at hl ⊢; omega) (by simp at hl ⊢; omega)]
    have e : ((((A ++ B) ++ [(⟨0, 0⟩ : T_api_Vert)]).length : Int) - 1) = ((A.length + B.length : Nat) : Int) := by simp; omega
    rw [e, List.append_assoc, hk]
  obtain ⟨k, x', hsh⟩ := hnew
  have hput : (∀ b B', B = b :: B' → ltV v b) → UpV (A ++ v :: B) ∧ (∀ y, y ∈ A ++ v :: B ↔ y = v ∨ y ∈ A ++ B) := by
    intro hv
    refine ⟨?_, fun y => by simp only [List.mem_append, List.mem_cons]; grind⟩
    refine List.pairwise_append.2 ⟨uA, List.pairwise_cons.2 ⟨?_, uB⟩, ?_⟩
    · intro y hy
      cases B with
      | nil => cases hy
      | cons b B' =>
        have h1 := hv b B' rfl
        rcases List.mem_cons.1 hy with rfl | hy
        · exact h1
        · have h2 := (List.pairwise_cons.1 uB).1 y hy
          unfold ltV at *; omega
    · intro a ha y hy
      rcases List.mem_cons.1 hy with rfl | hy
      · exact hA a ha
      · exact uAB a ha y hy
  have hfin : (∃ B', B = v :: B' ∧ f_plenumref8_Vert (A ++ B) v = some (A ++ B)) ∨ ((∀ b B', B = b :: B' → ¬ b = v) ∧ f_plenumref8_Vert (A ++ B) v = some (A ++ v :: B)) := by
    unfold f_plenumref8_Vert
    rw [hloop]
    simp only [Option.bind_some]
    have hput2 : setI (A ++ x' :: B) (A.length : Int) v = A ++ v :: B := setI_mid rfl
    cases B with
    | nil =>
      right
      refine ⟨by simp, ?_⟩
      rw [if_neg (by simp)]
      simp only [Option.bind_some, Bool.false_eq_true, if_false]
      rw [if_pos (by omega), hsh]
      simp only [Option.bind_some, hput2]
      rw [if_pos (by omega), if_pos (by simp; omega)]
    | cons b B' =>
      have hr : rd (A ++ b :: B') (A.length : Int) = b := rd_mid rfl
      rw [if_pos (by simp; omega), if_pos (by omega), hr]
      simp only [Option.bind_some, decide_eq_true_eq]
      by_cases c : b = v
      · left
        rw [if_pos c]
        exact ⟨B', by rw [c], rfl⟩
      · right
        refine ⟨fun b2 B2 e => by simp only [List.cons.injEq] at e; rw [← e.1]; exact c, ?_⟩
        rw [if_neg c, if_pos (by omega), hsh]
        simp only [Option.bind_some, hput2]
        rw [if_pos (by omega), if_pos (by simp; omega)]
  rcases hfin with ⟨B', rfl, h⟩ | ⟨hne, h⟩
  · rw [h]
    refine ⟨_, rfl, hu, fun y => ⟨fun h => .inr h, ?_⟩, by omega⟩
    rintro (rfl | h)
    · simp
    · exact h
  · rw [h]
    obtain ⟨p1, p2⟩ := hput (by
      rintro b B' rfl
      have h1 := hB b B' rfl
      by_cases h2 : ltV v b
      · exact h2
      · exact absurd (totV b v h1 h2) (hne b B' rfl))
    exact ⟨_, rfl, p1, p2, by simp; omega⟩
/-! ### All vertices -/
def isV (x : T_api_Lsa) (y : T_api_Vert) : Prop := x.f_Head.f_Age < 3600 ∧ ((x.f_Head.f_Kind = 1 ∧ x.f_Head.f_Id = x.f_Head.f_Adv ∧ y = ⟨1, x.f_Head.f_Id⟩) ∨ (x.f_Head.f_Kind = 2 ∧ y = ⟨2, x.f_Head.f_Id⟩))
theorem verts_step (l q s : List T_api_Lsa) (x : T_api_Lsa) (hl : l.length ≤ 40) (hs : l = q ++ x :: s) (V : List T_api_Vert) (hV : V.length ≤ 80) (hu : UpV V) :
    ∃ V', f_plenumref17_verts.b0 l (V, (q.length : Int)) = some (.inl (V', ((q.length + 1 : Nat) : Int))) ∧ UpV V' ∧ (∀ y, y ∈ V' ↔ isV x y ∨ y ∈ V) ∧ V'.length ≤ V.length + 2 := by
  have hlen : q.length < l.length := by rw [hs]; simp
  have hr : rd l (q.length : Int) = x := by rw [hs]; exact rd_mid rfl
  have hw : IntKind.i64.wrap ((q.length : Int) + 1) = ((q.length + 1 : Nat) : Int) := wi (m := l.length) (by simp only [big]; omega) hlen
  unfold f_plenumref17_verts.b0
  simp only [hr, hw]
  rw [if_pos (by omega), if_pos (by omega)]
  by_cases c0 : 3600 ≤ x.f_Head.f_Age
  · rw [if_pos c0]
    refine ⟨V, rfl, hu, fun y => ⟨fun h => .inr h, ?_⟩, by omega⟩
    rintro (⟨h, _⟩ | h)
    · omega
    · exact h
  · rw [if_neg c0]
    by_cases c1 : x.f_Head.f_Kind = 1
    · rw [if_pos c1]
      simp only [Option.bind_some, decide_eq_true_eq]
      by_cases c2 : x.f_Head.f_Id = x.f_Head.f_Adv
      · obtain ⟨V', v1, v2, v3, v4⟩ := vert_ok V ⟨1, x.f_Head.f_Id⟩ (by omega) hu
        rw [if_pos c2, v1]
        simp only [Option.bind_some]
        rw [if_neg (by omega)]
        refine ⟨V', rfl, v2, fun y => ?_, by omega⟩
        rw [v3]
        unfold isV
        constructor
        · rintro (rfl | h)
          · exact .inl ⟨by omega, .inl ⟨c1, c2, rfl⟩⟩
          · exact .inr h
        · rintro (⟨_, ⟨_, _, rfl⟩ | ⟨h, _⟩⟩ | h)
          · exact .inl rfl
          · omega
          · exact .inr h
      · rw [if_neg c2, if_neg (by omega)]
        refine ⟨V, rfl, hu, fun y => ⟨fun h => .inr h, ?_⟩, by omega⟩
        rintro (⟨_, ⟨_, h, _⟩ | ⟨h, _⟩⟩ | h)
        · exact absurd h c2
        · omega
        · exact h
    · rw [if_neg c1]
      simp only [Option.bind_some, Bool.false_eq_true, if_false]
      by_cases c3 : x.f_Head.f_Kind = 2
      · obtain ⟨V', v1, v2, v3, v4⟩ := vert_ok V ⟨2, x.f_Head.f_Id⟩ (by omega) hu
        rw [if_pos c3, v1]
        refine ⟨V', rfl, v2, fun y => ?_, by omega⟩
        rw [v3]
        unfold isV
        constructor
        · rintro (rfl | h)
          · exact .inl ⟨by omega, .inr ⟨c3, rfl⟩⟩
          · exact .inr h
        · rintro (⟨_, ⟨h, _⟩ | ⟨_, rfl⟩⟩ | h)
          · omega
          · exact .inl rfl
          · exact .inr h
      · rw [if_neg c3]
        refine ⟨V, rfl, hu, fun y => ⟨fun h => .inr h, ?_⟩, by omega⟩
        rintro (⟨_, ⟨h, _⟩ | ⟨h, _⟩⟩ | h)
        · exact absurd h c1
        · exact absurd h c3
        · exact h
theorem verts_loop (l : List T_api_Lsa) (hl : l.length ≤ 40) : ∀ (s q : List T_api_Lsa) (V : List T_api_Vert), l = q ++ s → UpV V → V.length ≤ 2 * q.length → (∀ y, y ∈ V ↔ ∃ x ∈ q, isV x y) →
    ∃ V' k, loopO (f_plenumref17_verts.b0 l) (V, (q.length : Int)) = some (.inl (V', k)) ∧ UpV V' ∧ ∀ y, y ∈ V' ↔ ∃ x ∈ l, isV x y
  | [], q, V, hs, hu, hV, hm => by
    rw [List.append_nil] at hs
    subst hs
    refine ⟨V, (l.length : Int), loopO_inr ?_, hu, hm⟩
    unfold f_plenumref17_verts.b0
    rw [if_neg (by simp)]
  | x :: s, q, V, hs, hu, hV, hm => by
    have hq : q.length < l.length := by rw [hs]; simp
    obtain ⟨V', h1, h2, h3, h4⟩ := verts_step l q s x hl hs V (by omega) hu
    have e : ((q.length + 1 : Nat) : Int) = ((q ++ [x]).length : Int) := by simp
    rw [e] at h1
    rw [loopO_inl h1]
    refine verts_loop l hl s (q ++ [x]) V' (by rw [hs]; simp) h2 (by simp; omega) (fun y => ?_)
    rw [h3, hm]
    simp only [List.mem_append, List.mem_singleton]
    constructor
    · rintro (h | ⟨z, hz, h⟩)
      · exact ⟨x, .inr rfl, h⟩
      · exact ⟨z, .inl hz, h⟩
    · rintro ⟨z, hz | rfl, h⟩
      · exact .inr ⟨z, hz, h⟩
      · exact .inl h
theorem verts_ok (l : List T_api_Lsa) (hl : l.length ≤ 40) : ∃ V, f_plenumref17_verts l = some V ∧ UpV V ∧ ∀ y, y ∈ V ↔ ∃ x ∈ l, isV x y := by
  obtain ⟨V, k, h1, h2, h3⟩ := verts_loop l hl l [] [] rfl List.Pairwise.nil (by simp) (by simp)
  refine ⟨V, ?_, h2, h3⟩
  unfold f_plenumref17_verts
  rw [show (0 : Int) = ((([] : List T_api_Lsa).length : Nat) : Int) from rfl, h1]
  rfl
/-! ### Finding -/
def findP (v : T_api_Vert) (x : T_api_Lsa) : Bool := decide (x.f_Head.f_Age < 3600) && decide (x.f_Head.f_Id = v.f_Id) && (if v.f_Kind = 1 then decide (x.f_Head.f_Kind = 1) && decide (x.f_Head.f_Id = x.f_Head.f_Adv) else decide (x.f_Head.f_Kind = 2))
def stepF (v : T_api_Vert) (o : Option T_api_Lsa) (x : T_api_Lsa) : Option T_api_Lsa := if findP v x then (match o with | none => some x | some y => if x.f_Head.f_Adv < y.f_Head.f_Adv then some x else some y) else o
def encF (o : Option T_api_Lsa) (i : Int) : Bool × Int × Int × Int × Int × Int × Int × Int × Int × Int × (List T_api_Link) × Int × (List Int) × (List T_api_Vert) :=
  (o.isSome, i, (o.getD dL).f_Head.f_Age, (o.getD dL).f_Head.f_Kind, (o.getD dL).f_Head.f_Id, (o.getD dL).f_Head.f_Adv, (o.getD dL).f_Head.f_Seq, (o.getD dL).f_Head.f_Sum, (o.getD dL).f_Head.f_Len, (o.getD dL).f_Flags, (o.getD dL).f_Links, (o.getD dL).f_Bits, (o.getD dL).f_Routers, (o.getD dL).f_Verts)
theorem find_step (l q s : List T_api_Lsa) (x : T_api_Lsa) (v : T_api_Vert) (hv : v.f_Kind = 1 ∨ v.f_Kind = 2) (hl : l.length ≤ 40) (hs : l = q ++ x :: s) (o : Option T_api_Lsa) :
    f_plenumref17_find.b0 l v (encF o (q.length : Int)) = some (.inl (encF (stepF v o x) ((q.length + 1 : Nat) : Int))) := by
  have hlen : q.length < l.length := by rw [hs]; simp
  have hr : rd l (q.length : Int) = x := by rw [hs]; exact rd_mid rfl
  have hw : IntKind.i64.wrap ((q.length : Int) + 1) = ((q.length + 1 : Nat) : Int) := wi (m := l.length) (by simp only [big]; omega) hlen
  have hcond : (if v.f_Kind = 1 then (if x.f_Head.f_Kind = 1 then (if x.f_Head.f_Id = x.f_Head.f_Adv then some (.inl true) else (if v.f_Kind = 2 then some (.inl (decide (x.f_Head.f_Kind = 2))) else some (.inl false))) else (if v.f_Kind = 2 then some (.inl (decide (x.f_Head.f_Kind = 2))) else some (.inl false))) else (if v.f_Kind = 2 then some (.inl (decide (x.f_Head.f_Kind = 2))) else some (.inl false)) : Option (Sum Bool f_plenumref17_find.R)) = some (.inl (if v.f_Kind = 1 then decide (x.f_Head.f_Kind = 1) && decide (x.f_Head.f_Id = x.f_Head.f_Adv) else decide (x.f_Head.f_Kind = 2))) := by
    rcases hv with h | h
    · rw [if_pos h, if_pos h]
      by_cases c1 : x.f_Head.f_Kind = 1
      · rw [if_pos c1]
        by_cases c2 : x.f_Head.f_Id = x.f_Head.f_Adv
        · rw [if_pos c2]; simp [c1, c2]
        · rw [if_neg c2, if_neg (by omega)]; simp [c2]
      · rw [if_neg c1, if_neg (by omega)]; simp [c1]
    · have h1 : ¬ v.f_Kind = 1 := by omega
      simp only [if_neg h1, if_pos h]
  unfold f_plenumref17_find.b0
  simp only [encF, hr, hw]
  rw [if_pos (by omega), if_pos (by omega), hcond]
  simp only [Option.bind_some]
  unfold stepF findP
  by_cases c1 : x.f_Head.f_Age < 3600
  · rw [if_pos c1]
    by_cases c2 : (if v.f_Kind = 1 then decide (x.f_Head.f_Kind = 1) && decide (x.f_Head.f_Id = x.f_Head.f_Adv) else decide (x.f_Head.f_Kind = 2)) = true
    · rw [if_pos c2]
      by_cases c3 : x.f_Head.f_Id = v.f_Id
      · rw [if_pos c3]
        have hp : (decide (x.f_Head.f_Age < 3600) && decide (x.f_Head.f_Id = v.f_Id) && (if v.f_Kind = 1 then decide (x.f_Head.f_Kind = 1) && decide (x.f_Head.f_Id = x.f_Head.f_Adv) else decide (x.f_Head.f_Kind = 2))) = true := by rw [c2]; simp [c1, c3]
        rw [if_pos hp]
        cases o with
        | none => simp
        | some y =>
          simp only [Option.isSome_some, if_true, Option.getD_some]
          by_cases c4 : x.f_Head.f_Adv < y.f_Head.f_Adv
          · rw [if_pos c4, if_pos c4]; simp
          · rw [if_neg c4, if_neg c4]; simp
      · rw [if_neg c3, if_neg (by simp [c3])]
    · rw [if_neg c2]
      have c2' : (if v.f_Kind = 1 then decide (x.f_Head.f_Kind = 1) && decide (x.f_Head.f_Id = x.f_Head.f_Adv) else decide (x.f_Head.f_Kind = 2)) = false := Bool.eq_false_iff.2 c2
      rw [c2']
      rw [if_neg (by simp)]
  · rw [if_neg c1, if_neg (by simp [c1])]
def findF (l : List T_api_Lsa) (v : T_api_Vert) : Option T_api_Lsa := l.foldl (stepF v) none
theorem find_ok (l : List T_api_Lsa) (v : T_api_Vert) (hv : v.f_Kind = 1 ∨ v.f_Kind = 2) (hl : l.length ≤ 40) : f_plenumref17_find l v = some ((findF l v).getD dL, (findF l v).isSome) := by
  have h := loop_all (b := f_plenumref17_find.b0 l v) (fun p => encF (p.foldl (stepF v) none) (p.length : Int)) l (by
    intro p x s hs
    have h1 := find_step l p s x v hv hl hs (p.foldl (stepF v) none)
    rw [h1]
    simp)
  have hend : loopO (f_plenumref17_find.b0 l v) (encF (l.foldl (stepF v) none) (l.length : Int)) = some (.inl (encF (l.foldl (stepF v) none) (l.length : Int))) := by
    refine loopO_inr ?_
    unfold f_plenumref17_find.b0
    simp only [encF, Int.lt_irrefl, if_false]
  rw [hend] at h
  unfold f_plenumref17_find
  have h0 : (false, (0 : Int), (0 : Int), (0 : Int), (0 : Int), (0 : Int), (0 : Int), (0 : Int), (0 : Int), (0 : Int), ([] : List T_api_Link), (0 : Int), ([] : List Int), ([] : List T_api_Vert)) = encF (([] : List T_api_Lsa).foldl (stepF v) none) ((([] : List T_api_Lsa).length : Nat) : Int) := rfl
  rw [h0, h]
  rfl
/-- What is found is of the least Adv. -/
theorem fold_find (v : T_api_Vert) : ∀ (l : List T_api_Lsa) (o : Option T_api_Lsa), (∀ y, o = some y → findP v y = true) →
    (∀ y, l.foldl (stepF v) o = some y → findP v y = true ∧ (y ∈ l ∨ o = some y) ∧ (∀ x ∈ l, findP v x = true → y.f_Head.f_Adv ≤ x.f_Head.f_Adv) ∧ (∀ z, o = some z → y.f_Head.f_Adv ≤ z.f_Head.f_Adv)) ∧ (l.foldl (stepF v) o = none → o = none ∧ ∀ x ∈ l, findP v x = false)
  | [], o, ho => ⟨fun y hy => ⟨ho y hy, .inr hy, by simp, fun z hz => by rw [List.foldl_nil] at hy; rw [hy] at hz; cases hz; exact Int.le_refl _⟩, fun h => ⟨h, by simp⟩⟩
  | x :: l, o, ho => by
    rw [List.foldl_cons]
    by_cases hp : findP v x = true
    · have hs0 : ∀ o', stepF v o' x = stepF v o' x := fun _ => rfl
      cases o with
      | none =>
        have hs' : stepF v none x = some x := by unfold stepF; rw [if_pos hp]
        rw [hs']
        obtain ⟨k1, k2⟩ := fold_find v l (some x) (fun y hy => by cases hy; exact hp)
        refine ⟨fun y hy => ?_, fun h => by have := (k2 h).1; cases this⟩
        obtain ⟨a1, a2, a3, a4⟩ := k1 y hy
        refine ⟨a1, .inl ?_, ?_, fun z hz => by cases hz⟩
        · rcases a2 with h | h
          · exact List.mem_cons_of_mem _ h
          · cases h; exact List.mem_cons_self ..
        · intro z hz hzp
          rcases List.mem_cons.1 hz with rfl | hz
          · exact a4 _ rfl
          · exact a3 z hz hzp
      | some w =>
        have hs' : stepF v (some w) x = if x.f_Head.f_Adv < w.f_Head.f_Adv then some x else some w := by unfold stepF; rw [if_pos hp]
        rw [hs']
        by_cases c : x.f_Head.f_Adv < w.f_Head.f_Adv
        · rw [if_pos c]
          obtain ⟨k1, k2⟩ := fold_find v l (some x) (fun y hy => by cases hy; exact hp)
          refine ⟨fun y hy => ?_, fun h => by have := (k2 h).1; cases this⟩
          obtain ⟨a1, a2, a3, a4⟩ := k1 y hy
          have h4 := a4 _ rfl
          refine ⟨a1, .inl ?_, ?_, fun z hz => by cases hz; omega⟩
          · rcases a2 with h | h
            · exact List.mem_cons_of_mem _ h
            · cases h; exact List.mem_cons_self ..
          · intro z hz hzp
            rcases List.mem_cons.1 hz with rfl | hz
            · exact h4
            · exact a3 z hz hzp
        · rw [if_neg c]
          obtain ⟨k1, k2⟩ := fold_find v l (some w) ho
          refine ⟨fun y hy => ?_, fun h => by have := (k2 h).1; cases this⟩
          obtain ⟨a1, a2, a3, a4⟩ := k1 y hy
          have h4 := a4 _ rfl
          refine ⟨a1, ?_, ?_, fun z hz => by cases hz; exact h4⟩
          · rcases a2 with h | h
            · exact .inl (List.mem_cons_of_mem _ h)
            · exact .inr h
          · intro z hz hzp
            rcases List.mem_cons.1 hz with rfl | hz
            · omega
            · exact a3 z hz hzp
    · have hs : stepF v o x = o := by unfold stepF; rw [if_neg hp]
      have hp' : findP v x = false := by simpa using hp
      rw [hs]
      obtain ⟨k1, k2⟩ := fold_find v l o ho
      refine ⟨fun y hy => ?_, fun h => ?_⟩
      · obtain ⟨a1, a2, a3, a4⟩ := k1 y hy
        refine ⟨a1, ?_, ?_, a4⟩
        · rcases a2 with h | h
          · exact .inl (List.mem_cons_of_mem _ h)
          · exact .inr h
        · intro z hz hzp
          rcases List.mem_cons.1 hz with rfl | hz
          · rw [hp'] at hzp; cases hzp
          · exact a3 z hz hzp
      · obtain ⟨b1, b2⟩ := k2 h
        refine ⟨b1, fun z hz => ?_⟩
        rcases List.mem_cons.1 hz with rfl | hz
        · exact hp'
        · exact b2 z hz
/-! ### Links back; a number in a row; a network that is told -/
theorem rback_ok (x : T_api_Lsa) (kind id : Int) (hl : (x.f_Links.length : Int) ≤ big) : f_plenumref17_back x kind id = some ((backF x kind id).getD ⟨0, 0, 0, 0⟩, (backF x kind id).isSome) := by
  unfold f_plenumref17_back
  rcases loop_first (b := f_plenumref17_back.b0 x kind id) (fun q => (q.length : Int)) (fun k => linkP kind id k = true) (fun q k => Sum.inr (k, true)) x.f_Links [] (by
    intro q k s hs hp
    rw [List.nil_append] at hs
    have hlen : q.length < x.f_Links.length := by rw [hs]; simp
    have hr : rd x.f_Links (q.length : Int) = k := by rw [hs]; exact rd_mid rfl
    unfold f_plenumref17_back.b0
    simp only [hr, wi hl hlen]
    rw [if_pos (by omega), if_pos (by omega)]
    by_cases c1 : k.f_Kind = kind
    · rw [if_pos c1]
      by_cases c2 : k.f_Id = id
      · exact absurd (by simp [linkP, c1, c2]) hp
      · rw [if_neg c2]; simp
    · rw [if_neg c1]; simp) (by
    intro q k s hs hp
    rw [List.nil_append] at hs
    have hlen : q.length < x.f_Links.length := by rw [hs]; simp
    have hr : rd x.f_Links (q.length : Int) = k := by rw [hs]; exact rd_mid rfl
    simp only [linkP, Bool.and_eq_true, decide_eq_true_eq] at hp
    unfold f_plenumref17_back.b0
    simp only [hr]
    rw [if_pos (by omega), if_pos (by omega), if_pos hp.1, if_pos hp.2]) (by simp) with ⟨q, k, s, h1, h2, h3, h4⟩ | ⟨h1, h2⟩
  · rw [show (0 : Int) = ((([] : List T_api_Link).length : Nat) : Int) from rfl, h4]
    have hf : backF x kind id = some k := by
      unfold backF
      rw [List.nil_append] at h1
      rw [h1, List.find?_append, List.find?_eq_none.2 (fun z hz => h2 z hz)]
      simp [h3]
    rw [hf]
    rfl
  · have hf : backF x kind id = none := by
      unfold backF
      exact List.find?_eq_none.2 (fun z hz => h1 z (by simpa using hz))
    rw [show (0 : Int) = ((([] : List T_api_Link).length : Nat) : Int) from rfl, h2, loopO_inr (r := Sum.inl (((([] : List T_api_Link) ++ x.f_Links).length : Nat) : Int)), hf]
    · rfl
    · unfold f_plenumref17_back.b0
      rw [if_neg (by simp)]
theorem has_row (l : List Int) (a : Int) (hl : (l.length : Int) ≤ big) : f_plenumref8_Has l a = some (decide (a ∈ l)) := by
  unfold f_plenumref8_Has
  rcases loop_every (b := f_plenumref8_Has.b0 l a) l (fun x => ¬ x = a) true (by
    intro q x s hs hp
    have hlen : q.length < l.length := by rw [hs]; simp
    have hr : rd l (q.length : Int) = x := by rw [hs]; exact rd_mid rfl
    unfold f_plenumref8_Has.b0
    simp only [hr, wi hl hlen]
    rw [if_pos (by omega), if_pos (by omega), if_neg hp]; simp) (by
    intro q x s hs hp
    have hlen : q.length < l.length := by rw [hs]; simp
    have hr : rd l (q.length : Int) = x := by rw [hs]; exact rd_mid rfl
    unfold f_plenumref8_Has.b0
    simp only [hr]
    rw [if_pos (by omega), if_pos (by omega), if_pos (Classical.not_not.1 hp)]) (by unfold f_plenumref8_Has.b0; rw [if_neg (by omega)]) with ⟨h1, h2⟩ | ⟨⟨x, hx, h1⟩, h2⟩
  · rw [h2]
    have : a ∉ l := fun h => h1 a h rfl
    simp [this]
  · rw [h2]
    have : a ∈ l := by rw [← Classical.not_not.1 h1]; exact hx
    simp [this]
def netP (id adv : Int) (x : T_api_Lsa) : Bool := liveP 2 x && decide (x.f_Head.f_Id = id) && decide (x.f_Head.f_Adv = adv)
theorem network_ok (l : List T_api_Lsa) (id adv : Int) (hl : l.length ≤ 40) : f_plenumref17_network l id adv = some (l.any (netP id adv)) := by
  have hb : (l.length : Int) ≤ big := by simp only [big]; omega
  unfold f_plenumref17_network
  rcases loop_every (b := f_plenumref17_network.b0 l id adv) l (fun x => netP id adv x = false) true (by
    intro q x s hs hp
    have hlen : q.length < l.length := by rw [hs]; simp
    have hr : rd l (q.length : Int) = x := by rw [hs]; exact rd_mid rfl
    unfold f_plenumref17_network.b0
    simp only [hr, wi hb hlen]
    rw [if_pos (by omega), if_pos (by omega)]
    by_cases c1 : x.f_Head.f_Age < 3600
    · rw [if_pos c1]
      by_cases c2 : x.f_Head.f_Kind = 2
      · rw [if_pos c2]
        by_cases c3 : x.f_Head.f_Id = id
        · rw [if_pos c3]
          by_cases c4 : x.f_Head.f_Adv = adv
          · simp [netP, liveP, c1, c2, c3, c4] at hp
          · rw [if_neg c4]; simp
        · rw [if_neg c3]; simp
      · rw [if_neg c2]; simp
    · rw [if_neg c1]; simp) (by
    intro q x s hs hp
    have hlen : q.length < l.length := by rw [hs]; simp
    have hr : rd l (q.length : Int) = x := by rw [hs]; exact rd_mid rfl
    simp only [netP, liveP, Bool.not_eq_false, Bool.and_eq_true, decide_eq_true_eq] at hp
    unfold f_plenumref17_network.b0
    simp only [hr]
    rw [if_pos (by omega), if_pos (by omega), if_pos hp.1.1.2, if_pos hp.1.1.1, if_pos hp.1.2, if_pos hp.2]) (by unfold f_plenumref17_network.b0; rw [if_neg (by omega)]) with ⟨h1, h2⟩ | ⟨⟨x, hx, h1⟩, h2⟩
  · rw [h2]
    have : l.any (netP id adv) = false := List.any_eq_false.2 (fun x hx => by rw [h1 x hx]; simp)
    rw [this]; rfl
  · rw [h2]
    have : l.any (netP id adv) = true := List.any_eq_true.2 ⟨x, hx, by simpa using h1⟩
    rw [this]; rfl
end Go.Proofs.Ytbjnbjgiidcfjaa
