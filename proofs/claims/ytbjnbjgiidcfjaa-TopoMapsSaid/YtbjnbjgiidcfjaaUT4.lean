/- Chapter 17, plain: what Right tells; lists held against themselves. Conditions: none. -/
import Derived.Test.YtbjnbjgiidcfjaaUT3
set_option linter.unusedVariables false
set_option linter.unusedSectionVars false
set_option linter.unusedSimpArgs false
namespace Go.Proofs.Ytbjnbjgiidcfjaa
open Go Go.Proofs.Ytbjnbjgiidcfjaa.Sp
/-! ### Loops that ask of each element -/
theorem loop_every {α R : Type} {b : Int → Option (Sum Int (Sum Int R))} (xs : List α) (p : α → Prop) (rf : R)
    (hgo : ∀ q x s, xs = q ++ x :: s → p x → b (q.length : Int) = some (.inl (((q ++ [x]).length : Nat) : Int)))
    (hstop : ∀ q x s, xs = q ++ x :: s → ¬ p x → b (q.length : Int) = some (.inr (.inr rf)))
    (hend : b (xs.length : Int) = some (.inr (.inl (xs.length : Int)))) :
    ((∀ x ∈ xs, p x) ∧ loopO b 0 = some (.inl (xs.length : Int))) ∨ ((∃ x ∈ xs, ¬ p x) ∧ loopO b 0 = some (.inr rf)) := by
  rcases loop_first (b := b) (fun q => (q.length : Int)) (fun x => ¬ p x) (fun q x => Sum.inr rf) xs [] (fun q x s h hx => hgo q x s (by simpa using h) (Classical.not_not.1 hx)) (fun q x s h hx => hstop q x s (by simpa using h) hx) (by simp) with ⟨q, x, s, h1, h2, h3, h4⟩ | ⟨h1, h2⟩
  · exact .inr ⟨⟨x, by rw [List.nil_append] at h1; rw [h1]; simp, h3⟩, h4⟩
  · refine .inl ⟨fun x hx => Classical.not_not.1 (h1 x (by simpa using hx)), ?_⟩
    rw [show (0 : Int) = ((([] : List α).length : Nat) : Int) from rfl, h2]
    exact loopO_inr hend
theorem ite_si {σ R : Type} {c : Prop} [Decidable c] {a b : σ} : (if c then some (Sum.inl a : Sum σ R) else some (.inl b)) = some (.inl (if c then a else b)) := by split <;> rfl
theorem itB {c : Prop} [Decidable c] {x y : Option Bool} {P : Bool → Prop} (h1 : c → ∃ r, x = some r ∧ P r) (h2 : ¬ c → ∃ r, y = some r ∧ P r) : ∃ r, (if c then x else y) = some r ∧ P r := by
  by_cases h : c
  · rw [if_pos h]; exact h1 h
  · rw [if_neg h]; exact h2 h
theorem right1 (x : Int) : f_plenumref1_Right x = some (decide (0 ≤ x ∧ x ≤ 4294967295)) := by
  unfold f_plenumref1_Right
  by_cases h : 0 ≤ x <;> simp [h]
theorem kind1 (x : Int) : f_plenumref1_Kind x = some (decide (x = 1 ∨ x = 2 ∨ x = 6)) := by
  unfold f_plenumref1_Kind
  by_cases h : x = 1
  · simp [h]
  · by_cases h2 : x = 2 <;> simp [h, h2]
structure HeadP (h : T_api_Head) : Prop where
  kind : h.f_Kind = 1 ∨ h.f_Kind = 2 ∨ h.f_Kind = 6
  age : 0 ≤ h.f_Age ∧ h.f_Age ≤ 3600
  id : 0 ≤ h.f_Id ∧ h.f_Id ≤ 4294967295
  adv : 0 ≤ h.f_Adv ∧ h.f_Adv ≤ 4294967295
theorem head1 (h : T_api_Head) : ∃ r, f_plenumref1_headRight h = some r ∧ (r = true → HeadP h) := by
  unfold f_plenumref1_headRight
  simp only [kind1, right1, Option.bind_some, decide_eq_true_eq]
  by_cases h1 : h.f_Kind = 1 ∨ h.f_Kind = 2 ∨ h.f_Kind = 6
  · rw [if_pos h1]
    by_cases h2 : 0 ≤ h.f_Age
    · rw [if_pos h2]
      by_cases h3 : h.f_Age ≤ 3600
      · rw [if_pos h3]
        by_cases h4 : 0 ≤ h.f_Id ∧ h.f_Id ≤ 4294967295
        · rw [if_pos h4]
          by_cases h5 : 0 ≤ h.f_Adv ∧ h.f_Adv ≤ 4294967295
          · rw [if_pos h5]
            by_cases h6 : h.f_Adv = 0
            · rw [if_pos h6]; exact ⟨_, rfl, fun e => by cases e⟩
            · rw [if_neg h6]
              split
              · exact ⟨_, rfl, fun _ => ⟨h1, ⟨h2, h3⟩, h4, h5⟩⟩
              · exact ⟨_, rfl, fun _ => ⟨h1, ⟨h2, h3⟩, h4, h5⟩⟩
          · rw [if_neg h5]; exact ⟨_, rfl, fun e => by cases e⟩
        · rw [if_neg h4]; exact ⟨_, rfl, fun e => by cases e⟩
      · rw [if_neg h3]; exact ⟨_, rfl, fun e => by cases e⟩
    · rw [if_neg h2]; exact ⟨_, rfl, fun e => by cases e⟩
  · rw [if_neg h1]; exact ⟨_, rfl, fun e => by cases e⟩
structure RightP (x : T_api_Lsa) : Prop where
  head : HeadP x.f_Head
  links : x.f_Head.f_Kind ≠ 1 → x.f_Links = []
  flags : x.f_Head.f_Kind ≠ 1 → x.f_Flags = 0
  routers : x.f_Head.f_Kind ≠ 2 → x.f_Routers = []
  verts : x.f_Head.f_Kind ≠ 6 → x.f_Verts = []
  linkid : ∀ k ∈ x.f_Links, 0 ≤ k.f_Id ∧ k.f_Id ≤ 4294967295
  vert : ∀ v ∈ x.f_Verts, v.f_Kind = 1 ∨ v.f_Kind = 2
theorem len0 {α : Type} {l : List α} (h : ¬ 0 < (l.length : Int)) : l = [] := List.length_eq_zero_iff.1 (by omega)
theorem rightLsa1 (x : T_api_Lsa) (h1 : x.f_Links.length ≤ 70) (h2 : x.f_Routers.length ≤ 70) (h3 : x.f_Verts.length ≤ 70) : ∃ r, f_plenumref1_RightLsa x = some r ∧ (r = true → RightP x) := by
  obtain ⟨rh, e1, q1⟩ := head1 x.f_Head
  have b0 := loop_every (b := f_plenumref1_RightLsa.b0 x) x.f_Links (fun k => (1 ≤ k.f_Kind ∧ k.f_Kind ≤ 3) ∧ (0 ≤ k.f_Id ∧ k.f_Id ≤ 4294967295) ∧ (0 ≤ k.f_Data ∧ k.f_Data ≤ 4294967295) ∧ 0 ≤ k.f_Cost ∧ k.f_Cost ≤ 65535) false (by
      intro q k s hs hp
      have hlen : q.length < x.f_Links.length := by rw [hs]; simp
      have hr : rd x.f_Links (q.length : Int) = k := by rw [hs]; exact rd_mid rfl
      unfold f_plenumref1_RightLsa.b0
      simp only [hr, right1, Option.bind_some, decide_eq_true_eq]
      rw [if_pos (by omega), if_pos (by omega), if_neg (by omega), if_neg (by omega), if_pos hp.2.1, if_pos hp.2.2.1, if_neg (by omega), if_neg (by omega), wi (m := x.f_Links.length) (by simp only [big]; omega) hlen]
      simp) (by
      intro q k s hs hp
      have hlen : q.length < x.f_Links.length := by rw [hs]; simp
      have hr : rd x.f_Links (q.length : Int) = k := by rw [hs]; exact rd_mid rfl
      unfold f_plenumref1_RightLsa.b0
      simp only [hr, right1, Option.bind_some, decide_eq_true_eq]
      rw [if_pos (by omega), if_pos (by omega)]
      by_cases c1 : k.f_Kind < 1
      · rw [if_pos c1]
      · rw [if_neg c1]
        by_cases c2 : 3 < k.f_Kind
        · rw [if_pos c2]
        · rw [if_neg c2]
          by_cases c3 : 0 ≤ k.f_Id ∧ k.f_Id ≤ 4294967295
          · rw [if_pos c3]
            by_cases c4 : 0 ≤ k.f_Data ∧ k.f_Data ≤ 4294967295
            · rw [if_pos c4]
              by_cases c5 : k.f_Cost < 0
              · rw [if_pos c5]
              · rw [if_neg c5, if_pos (by omega)]
            · rw [if_neg c4]
          · rw [if_neg c3]) (by unfold f_plenumref1_RightLsa.b0; rw [if_neg (by omega)])
  have b1 := loop_every (b := f_plenumref1_RightLsa.b1 x) x.f_Routers (fun k => 0 ≤ k ∧ k ≤ 4294967295) false (by
      intro q k s hs hp
      have hlen : q.length < x.f_Routers.length := by rw [hs]; simp
      have hr : rd x.f_Routers (q.length : Int) = k := by rw [hs]; exact rd_mid rfl
      unfold f_plenumref1_RightLsa.b1
      simp only [hr, right1, Option.bind_some, decide_eq_true_eq]
      rw [if_pos (by omega), if_pos (by omega), if_pos hp, wi (m := x.f_Routers.length) (by simp only [big]; omega) hlen]
      simp) (by
      intro q k s hs hp
      have hlen : q.length < x.f_Routers.length := by rw [hs]; simp
      have hr : rd x.f_Routers (q.length : Int) = k := by rw [hs]; exact rd_mid rfl
      unfold f_plenumref1_RightLsa.b1
      simp only [hr, right1, Option.bind_some, decide_eq_true_eq]
      rw [if_pos (by omega), if_pos (by omega), if_neg hp]) (by unfold f_plenumref1_RightLsa.b1; rw [if_neg (by omega)])
  have b2 := loop_every (b := f_plenumref1_RightLsa.b2 x) x.f_Verts (fun k => (1 ≤ k.f_Kind ∧ k.f_Kind ≤ 2) ∧ 0 ≤ k.f_Id ∧ k.f_Id ≤ 4294967295) false (by
      intro q k s hs hp
      have hlen : q.length < x.f_Verts.length := by rw [hs]; simp
      have hr : rd x.f_Verts (q.length : Int) = k := by rw [hs]; exact rd_mid rfl
      unfold f_plenumref1_RightLsa.b2
      simp only [hr, right1, Option.bind_some, decide_eq_true_eq]
      rw [if_pos (by omega), if_pos (by omega), if_neg (by omega), if_neg (by omega), if_pos hp.2, wi (m := x.f_Verts.length) (by simp only [big]; omega) hlen]
      simp) (by
      intro q k s hs hp
      have hlen : q.length < x.f_Verts.length := by rw [hs]; simp
      have hr : rd x.f_Verts (q.length : Int) = k := by rw [hs]; exact rd_mid rfl
      unfold f_plenumref1_RightLsa.b2
      simp only [hr, right1, Option.bind_some, decide_eq_true_eq]
      rw [if_pos (by omega), if_pos (by omega)]
      by_cases c1 : k.f_Kind < 1
      · rw [if_pos c1]
      · rw [if_neg c1]
        by_cases c2 : 2 < k.f_Kind
        · rw [if_pos c2]
        · rw [if_neg c2, if_neg (by omega)]) (by unfold f_plenumref1_RightLsa.b2; rw [if_neg (by omega)])
  unfold f_plenumref1_RightLsa
  rw [e1]
  by_cases hh : rh = true
  rotate_left
  · have hf : rh = false := by simpa using hh
    subst hf
    refine ⟨false, ?_, fun e => by cases e⟩
    simp only [Option.bind_some, ite_si, Bool.false_eq_true, if_false, if_true]
  subst hh
  simp only [Option.bind_some, ite_si, if_true]
  refine itB (fun _ => ⟨_, rfl, fun e => by cases e⟩) (fun c1 => itB (fun _ => ⟨_, rfl, fun e => by cases e⟩) (fun c2 => ?_))
  ·   rcases b0 with ⟨p0, l0⟩ | ⟨_, l0⟩
      · rcases b1 with ⟨p1, l1⟩ | ⟨_, l1⟩
        · rcases b2 with ⟨p2, l2⟩ | ⟨_, l2⟩
          · rw [l0, l1, l2]
            refine ⟨_, rfl, fun _ => ?_⟩
            refine ⟨q1 rfl, ?_, ?_, ?_, ?_, fun k hk => (p0 k hk).2.1, fun v hv => by have := (p2 v hv).1; omega⟩
            · intro hk
              clear l0 l1 l2 p0 p1 p2 c1 e1 h1 h2 h3
              rcases (q1 rfl).kind with e | e | e <;> simp [e] at c2 hk ⊢ <;> simp_all
            · intro hk
              clear l0 l1 l2 p0 p1 p2 c1 e1 h1 h2 h3
              rcases (q1 rfl).kind with e | e | e <;> simp [e] at c2 hk ⊢ <;> simp_all
            · intro hk
              clear l0 l1 l2 p0 p1 p2 c1 e1 h1 h2 h3
              rcases (q1 rfl).kind with e | e | e <;> simp [e] at c2 hk ⊢ <;> simp_all
            · intro hk
              clear l0 l1 l2 p0 p1 p2 c1 e1 h1 h2 h3
              rcases (q1 rfl).kind with e | e | e <;> simp [e] at c2 hk ⊢ <;> simp_all
          · rw [l0, l1, l2]; exact ⟨_, rfl, fun e => by cases e⟩
        · rw [l0, l1]; exact ⟨_, rfl, fun e => by cases e⟩
      · rw [l0]; exact ⟨_, rfl, fun e => by cases e⟩
theorem great1 (x : T_api_Lsa) : ∃ r, f_plenumlaw5_Great x = some r ∧ (r = false → x.f_Links.length ≤ 70 ∧ x.f_Routers.length ≤ 70 ∧ x.f_Verts.length ≤ 70) := by
  unfold f_plenumlaw5_Great
  split
  · exact ⟨_, rfl, fun e => by cases e⟩
  · split
    · exact ⟨_, rfl, fun e => by cases e⟩
    · refine ⟨_, rfl, fun e => ?_⟩
      have := of_decide_eq_false e
      omega
def keyNe (x y : T_api_Lsa) : Prop := ¬ (x.f_Head.f_Kind = y.f_Head.f_Kind ∧ x.f_Head.f_Id = y.f_Head.f_Id ∧ x.f_Head.f_Adv = y.f_Head.f_Adv)
/-- What Right tells. -/
structure RightL (l : List T_api_Lsa) : Prop where
  fit : Fit l
  each : ∀ x ∈ l, RightP x
  keys : l.Pairwise keyNe
theorem pw_snoc {α : Type} {r : α → α → Prop} {q : List α} {x : α} (h : q.Pairwise r) (hx : ∀ y ∈ q, r y x) : (q ++ [x]).Pairwise r := by
  rw [List.pairwise_append]
  exact ⟨h, List.pairwise_singleton _ _, fun a ha b hb => by simp at hb; subst hb; exact hx a ha⟩
theorem right_inner (l : List T_api_Lsa) (hl : l.length ≤ 40) (q s : List T_api_Lsa) (x : T_api_Lsa) (hs : l = q ++ x :: s) :
    ((∀ y ∈ q, keyNe y x) ∧ loopO (f_plenumlaw17_Right.b0 l (q.length : Int)) 0 = some (.inl (q.length : Int))) ∨ ((∃ y ∈ q, ¬ keyNe y x) ∧ loopO (f_plenumlaw17_Right.b0 l (q.length : Int)) 0 = some (.inr false)) := by
  have hlen : q.length < l.length := by rw [hs]; simp
  have hrx : rd l (q.length : Int) = x := by rw [hs]; exact rd_mid rfl
  refine loop_every q (fun y => keyNe y x) false ?_ ?_ ?_
  · intro q1 y s1 h1 hp
    have hl1 : q1.length < q.length := by rw [h1]; simp
    have hry : rd l (q1.length : Int) = y := by rw [hs, h1]; simp only [List.append_assoc, List.cons_append]; exact rd_mid rfl
    unfold f_plenumlaw17_Right.b0 f_plenumref1_KeyOf
    simp only [hrx, hry, Option.bind_some]
    rw [if_pos (by omega), if_pos (by omega), if_pos (by omega), if_pos (by omega), if_pos (by omega), if_neg (by rw [T_api_Key.mk.injEq]; exact hp), wi (m := q.length) (by simp only [big]; omega) hl1]
    simp
  · intro q1 y s1 h1 hp
    have hl1 : q1.length < q.length := by rw [h1]; simp
    have hry : rd l (q1.length : Int) = y := by rw [hs, h1]; simp only [List.append_assoc, List.cons_append]; exact rd_mid rfl
    unfold f_plenumlaw17_Right.b0 f_plenumref1_KeyOf
    simp only [hrx, hry, Option.bind_some]
    rw [if_pos (by omega), if_pos (by omega), if_pos (by omega), if_pos (by omega), if_pos (by omega), if_pos (by rw [T_api_Key.mk.injEq]; exact Classical.not_not.1 hp)]
  · unfold f_plenumlaw17_Right.b0
    rw [if_neg (by omega)]
theorem right_all (l : List T_api_Lsa) (hl : l.length ≤ 40) : ∀ (suf pre : List T_api_Lsa), l = pre ++ suf → (∀ x ∈ pre, RightP x ∧ x.f_Links.length ≤ 70 ∧ x.f_Routers.length ≤ 70 ∧ x.f_Verts.length ≤ 70) → pre.Pairwise keyNe →
    (loopO (f_plenumlaw17_Right.b1 l) (pre.length : Int) = some (.inr false)) ∨ (RightL l ∧ ∃ s, loopO (f_plenumlaw17_Right.b1 l) (pre.length : Int) = some (.inl s))
  | [], pre, hs, h1, h2 => by
    rw [List.append_nil] at hs
    subst hs
    refine .inr ⟨⟨⟨hl, fun x hx => by have := (h1 x hx).2; omega⟩, fun x hx => (h1 x hx).1, h2⟩, (l.length : Int), loopO_inr ?_⟩
    unfold f_plenumlaw17_Right.b1
    rw [if_neg (by omega)]
  | x :: suf, pre, hs, h1, h2 => by
    have hlen : pre.length < l.length := by rw [hs]; simp
    have hrx : rd l (pre.length : Int) = x := by rw [hs]; exact rd_mid rfl
    obtain ⟨g, g1, g2⟩ := great1 x
    have hstop : ∀ v, f_plenumlaw17_Right.b1 l (pre.length : Int) = some (.inr (.inr v)) → loopO (f_plenumlaw17_Right.b1 l) (pre.length : Int) = some (.inr v) := fun v h => loopO_inr h
    cases g with
    | true =>
      left
      refine loopO_inr ?_
      unfold f_plenumlaw17_Right.b1
      simp only [hrx, g1, Option.bind_some, if_true]
      rw [if_pos (by omega), if_pos (by omega)]
      rfl
    | false =>
      obtain ⟨k1, k2, k3⟩ := g2 rfl
      obtain ⟨r, r1, r2⟩ := rightLsa1 x k1 k2 k3
      cases r with
      | false =>
        left
        refine loopO_inr ?_
        unfold f_plenumlaw17_Right.b1
        simp only [hrx, g1, r1, Option.bind_some, Bool.false_eq_true, if_false]
        rw [if_pos (by omega), if_pos (by omega)]
        rfl
      | true =>
        rcases right_inner l hl pre suf x hs with ⟨p1, p2⟩ | ⟨p1, p2⟩
        · have hstep : f_plenumlaw17_Right.b1 l (pre.length : Int) = some (.inl (((pre ++ [x]).length : Nat) : Int)) := by
            unfold f_plenumlaw17_Right.b1
            simp only [hrx, g1, r1, p2, Option.bind_some, Bool.false_eq_true, if_false, Bool.not_true]
            rw [if_pos (by omega), if_pos (by omega), wi (m := l.length) (by simp only [big]; omega) hlen]
            simp
          rw [loopO_inl hstep]
          refine right_all l hl suf (pre ++ [x]) (by rw [hs]; simp) (fun y hy => ?_) (pw_snoc h2 p1)
          rcases List.mem_append.1 hy with hy | hy
          · exact h1 y hy
          · simp at hy; subst hy; exact ⟨r2 rfl, k1, k2, k3⟩
        · left
          refine loopO_inr ?_
          unfold f_plenumlaw17_Right.b1
          simp only [hrx, g1, r1, p2, Option.bind_some, Bool.false_eq_true, if_false, Bool.not_true]
          rw [if_pos (by omega), if_pos (by omega)]
          rfl
theorem right_ok (l : List T_api_Lsa) : f_plenumlaw17_Right l = some false ∨ (RightL l ∧ f_plenumlaw17_Right l = some true) := by
  unfold f_plenumlaw17_Right
  by_cases h : 40 < (l.length : Int)
  · left; rw [if_pos h]
  · rw [if_neg h]
    rcases right_all l (by omega) l [] rfl (by simp) List.Pairwise.nil with h1 | ⟨h1, s, h2⟩
    · left
      rw [show (0 : Int) = ((([] : List T_api_Lsa).length : Nat) : Int) from rfl, h1]
      rfl
    · right
      refine ⟨h1, ?_⟩
      rw [show (0 : Int) = ((([] : List T_api_Lsa).length : Nat) : Int) from rfl, h2]
      rfl
/-! ### Lists held against themselves -/
theorem verts_self (l : List T_api_Vert) (hl : (l.length : Int) ≤ big) : f_plenumref1_Verts l l = some true := by
  unfold f_plenumref1_Verts
  rw [if_pos rfl]
  rcases loop_every (b := f_plenumref1_Verts.b0 l l) l (fun _ => True) false (by
      intro q k s hs _
      have hlen : q.length < l.length := by rw [hs]; simp
      unfold f_plenumref1_Verts.b0
      rw [if_pos (by omega), if_pos (by omega), if_pos (by omega), if_pos rfl, wi hl hlen]
      simp) (fun _ _ _ _ h => absurd trivial h) (by unfold f_plenumref1_Verts.b0; rw [if_neg (by omega)]) with ⟨_, h⟩ | ⟨⟨_, _, h⟩, _⟩
  · rw [h]; rfl
  · exact absurd trivial h
theorem ints_self (l : List Int) (hl : (l.length : Int) ≤ big) : f_plenumref1_Ints l l = some true := by
  unfold f_plenumref1_Ints
  rw [if_pos rfl]
  rcases loop_every (b := f_plenumref1_Ints.b0 l l) l (fun _ => True) false (by
      intro q k s hs _
      have hlen : q.length < l.length := by rw [hs]; simp
      unfold f_plenumref1_Ints.b0
      rw [if_pos (by omega), if_pos (by omega), if_pos (by omega), if_pos rfl, wi hl hlen]
      simp) (fun _ _ _ _ h => absurd trivial h) (by unfold f_plenumref1_Ints.b0; rw [if_neg (by omega)]) with ⟨_, h⟩ | ⟨⟨_, _, h⟩, _⟩
  · rw [h]; rfl
  · exact absurd trivial h
structure MapSmall (m : T_api_Map) : Prop where
  v : m.f_Verts.length ≤ 1048576
  e : m.f_Edges.length ≤ 1048576
  s : m.f_Stubs.length ≤ 1048576
  p : m.f_Spans.length ≤ 1048576
  w : m.f_Wilds.length ≤ 1048576
theorem same_self (m : T_api_Map) (h : MapSmall m) : f_plenumref17_SameMap m m = some true := by
  have hv := verts_self m.f_Verts (by have := h.v; simp only [big]; omega)
  have hw := ints_self m.f_Wilds (by have := h.w; simp only [big]; omega)
  have be : (m.f_Edges.length : Int) ≤ big := by have := h.e; simp only [big]; omega
  have bs : (m.f_Stubs.length : Int) ≤ big := by have := h.s; simp only [big]; omega
  have bp : (m.f_Spans.length : Int) ≤ big := by have := h.p; simp only [big]; omega
  have l0 : loopO (f_plenumref17_SameMap.b0 m m) 0 = some (.inl (m.f_Edges.length : Int)) := by
    rcases loop_every (b := f_plenumref17_SameMap.b0 m m) m.f_Edges (fun _ => True) false (by
      intro q k s hs _
      have hlen : q.length < m.f_Edges.length := by rw [hs]; simp
      unfold f_plenumref17_SameMap.b0
      rw [if_pos (by omega), if_pos (by omega), if_pos (by omega), if_pos rfl, wi be hlen]
      simp) (fun _ _ _ _ h => absurd trivial h) (by unfold f_plenumref17_SameMap.b0; rw [if_neg (by omega)]) with ⟨_, h⟩ | ⟨⟨_, _, h⟩, _⟩
    · exact h
    · exact absurd trivial h
  have l1 : loopO (f_plenumref17_SameMap.b1 m m) 0 = some (.inl (m.f_Stubs.length : Int)) := by
    rcases loop_every (b := f_plenumref17_SameMap.b1 m m) m.f_Stubs (fun _ => True) false (by
      intro q k s hs _
      have hlen : q.length < m.f_Stubs.length := by rw [hs]; simp
      unfold f_plenumref17_SameMap.b1
      rw [if_pos (by omega), if_pos (by omega), if_pos (by omega), if_pos rfl, wi bs hlen]
      simp) (fun _ _ _ _ h => absurd trivial h) (by unfold f_plenumref17_SameMap.b1; rw [if_neg (by omega)]) with ⟨_, h⟩ | ⟨⟨_, _, h⟩, _⟩
    · exact h
    · exact absurd trivial h
  have l2 : loopO (f_plenumref17_SameMap.b2 m m) 0 = some (.inl (m.f_Spans.length : Int)) := by
    rcases loop_every (b := f_plenumref17_SameMap.b2 m m) m.f_Spans (fun _ => True) false (by
      intro q k s hs _
      have hlen : q.length < m.f_Spans.length := by rw [hs]; simp
      unfold f_plenumref17_SameMap.b2
      rw [if_pos (by omega), if_pos (by omega), if_pos (by omega), if_pos rfl, wi bp hlen]
      simp) (fun _ _ _ _ h => absurd trivial h) (by unfold f_plenumref17_SameMap.b2; rw [if_neg (by omega)]) with ⟨_, h⟩ | ⟨⟨_, _, h⟩, _⟩
    · exact h
    · exact absurd trivial h
  unfold f_plenumref17_SameMap
  simp only [hv, hw, l0, l1, l2, Option.bind_some, if_true, Bool.not_true, Bool.false_eq_true, if_false]
theorem mapF_small (R N : List T_api_Lsa) (hR : R.length ≤ 40) (hN : N.length ≤ 40) (h1 : ∀ x ∈ R, x.f_Links.length ≤ 4096) (h2 : ∀ x ∈ N, x.f_Routers.length ≤ 4096) : MapSmall (mapF R N) := by
  have f1 : (R.flatMap (rEdges (byId R) (byId N))).length ≤ R.length * 4096 := flatMap_len _ _ _ (fun y hy => Nat.le_trans (List.length_filterMap_le _ _) (h1 y hy))
  have f2 : (N.flatMap (nEdges (byId R))).length ≤ N.length * 4096 := flatMap_len _ _ _ (fun y hy => Nat.le_trans (nEdges0_len _ _ _ _) (h2 y hy))
  have f3 : (R.flatMap rStubs).length ≤ R.length * 4096 := flatMap_len _ _ _ (fun y hy => Nat.le_trans (List.length_filterMap_le _ _) (h1 y hy))
  have f4 : (R.filterMap wildP).length ≤ R.length := List.length_filterMap_le _ _
  refine ⟨?_, ?_, ?_, ?_, ?_⟩ <;> unfold mapF <;> simp only [List.length_append, List.length_map] <;> omega
end Go.Proofs.Ytbjnbjgiidcfjaa
