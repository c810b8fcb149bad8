/- The plain part of TopoOrder. Conditions: none. -/
import Derived.Test.YtbjnbjgiidcfjaaUT4
import Derived.Test.YtbjnbjgiidcfjaaR
set_option linter.unusedVariables false
set_option linter.unusedSimpArgs false
namespace Go.Proofs.Ytbjnbjgiidcfjaa
open Go Go.Proofs.Ytbjnbjgiidcfjaa.Sp
theorem sd_eq (k : Int) : ∀ (l m : List T_api_Lsa), Sd ltA l → Sd ltA m → l.Perm m → l.Pairwise keyNe → (∀ x ∈ l, x.f_Head.f_Kind = k) → l = m
  | [], m, _, _, hp, _, _ => (List.nil_perm.1 hp).symm
  | a :: l, [], _, _, hp, _, _ => by have := hp.length_eq; simp at this
  | a :: l, b :: m, hl, hm, hp, hk, hK => by
    obtain ⟨l1, l2⟩ := List.pairwise_cons.1 hl
    obtain ⟨m1, m2⟩ := List.pairwise_cons.1 hm
    obtain ⟨k1, k2⟩ := List.pairwise_cons.1 hk
    have hab : a = b := by
      rcases List.mem_cons.1 (hp.subset (List.mem_cons_self ..)) with e | ha
      · exact e
      · rcases List.mem_cons.1 (hp.symm.subset (List.mem_cons_self ..)) with e | hb
        · exact e.symm
        · have q1 := l1 b hb
          have q2 := m1 a ha
          have q3 := k1 b hb
          have e1 := hK a (List.mem_cons_self ..)
          have e2 := hK b (List.mem_cons_of_mem _ hb)
          unfold ltA at q1 q2
          unfold keyNe at q3
          exact absurd ⟨by rw [e1, e2], by omega, by omega⟩ q3
    subst hab
    rw [sd_eq k l m l2 m2 (List.Perm.cons_inv hp) k2 (fun x hx => hK x (List.mem_cons_of_mem _ hx))]
def ageP (x : T_api_Lsa) : Bool := decide (x.f_Head.f_Age < 3600)
def turned (l : List T_api_Lsa) : List T_api_Lsa := (l.filter ageP).reverse
theorem order_loop (l : List T_api_Lsa) (hl : l.length ≤ 40) : ∀ n : Nat, n ≤ l.length → ∃ j, loopO (f_plenumlaw17_TopoOrder.b0 l) (((l.drop n).filter ageP).reverse, (n : Int) - 1) = some (.inl (turned l, j))
  | 0, _ => by
    refine ⟨-1, loopO_inr ?_⟩
    unfold f_plenumlaw17_TopoOrder.b0
    simp only
    rw [if_neg (by omega)]
    simp [turned]
  | n + 1, h => by
    have hlt : n < l.length := by omega
    have hr : rd l (n : Int) = l[n] := by simp [rd, List.getD_eq_getElem?_getD, hlt]
    have hd : l.drop n = l[n] :: l.drop (n + 1) := List.drop_eq_getElem_cons hlt
    have hfl : (((l.drop (n + 1)).filter ageP).reverse).length ≤ 40 := by
      rw [List.length_reverse]
      have := List.length_filter_le ageP (l.drop (n + 1))
      simp only [List.length_drop] at this
      omega
    have e0 : ((n + 1 : Nat) : Int) - 1 = n := by omega
    have hstep : f_plenumlaw17_TopoOrder.b0 l (((l.drop (n + 1)).filter ageP).reverse, ((n + 1 : Nat) : Int) - 1) = some (.inl (((l.drop n).filter ageP).reverse, (n : Int) - 1)) := by
      unfold f_plenumlaw17_TopoOrder.b0
      simp only [e0, hr]
      rw [if_pos (by omega), if_pos (by omega), w64' (by omega) (by omega), hd]
      generalize l.drop (n + 1) = t at hfl ⊢
      by_cases h1 : (l[n]).f_Head.f_Age < 3600
      · rw [if_pos h1, if_pos (by omega)]
        simp [ageP, h1]
      · rw [if_neg h1]
        simp [ageP, h1]
    obtain ⟨j, hj⟩ := order_loop l hl n (by omega)
    exact ⟨j, by rw [loopO_inl hstep, hj]⟩
theorem turned_perm (l : List T_api_Lsa) (k : Int) : ((turned l).filter (liveP k)).Perm (l.filter (liveP k)) := by
  unfold turned
  rw [List.filter_reverse, List.filter_filter]
  have e : (fun x => liveP k x && ageP x) = liveP k := by
    funext x
    simp only [liveP, ageP]
    cases decide (x.f_Head.f_Age < 3600) <;> simp
  rw [e]
  exact List.reverse_perm _
theorem fit_turned (l : List T_api_Lsa) (h : Fit l) : Fit (turned l) := by
  refine ⟨?_, fun x hx => h.2 x ?_⟩
  · have := List.length_filter_le ageP l
    have := h.1
    simp only [turned, List.length_reverse]
    omega
  · unfold turned at hx
    exact (List.mem_filter.1 (List.mem_reverse.1 hx)).1
theorem live_one (l : List T_api_Lsa) (hR : RightL l) (k : Int) (C D : List T_api_Lsa) (h1 : C.Perm (l.filter (liveP k))) (h2 : Sd ltA C) (h3 : D.Perm ((turned l).filter (liveP k))) (h4 : Sd ltA D) : C = D := by
  have hp : C.Perm D := (h1.trans (turned_perm l k).symm).trans h3.symm
  refine sd_eq k C D h2 h4 hp ?_ ?_
  · have hsym : ∀ {x y : T_api_Lsa}, keyNe x y → keyNe y x := fun {x y} h e => h ⟨e.1.symm, e.2.1.symm, e.2.2.symm⟩
    exact (h1.pairwise_iff hsym).2 (hR.keys.filter _)
  · intro x hx
    have := (List.mem_filter.1 (h1.subset hx)).2
    simp only [liveP, Bool.and_eq_true, decide_eq_true_eq] at this
    exact this.1
theorem pure_TopoOrder : TopoOrder.Pure := by
  intro l g hw hg
  unfold f_plenumlaw17_TopoOrder
  rcases right_ok l with h | ⟨hR, h⟩
  · rw [h]
    simp only [Option.bind_some, Bool.false_eq_true, if_false, awake_ok]
  · rw [h]
    simp only [Option.bind_some, if_true]
    have hl := hR.fit.1
    obtain ⟨j, hj⟩ := order_loop l hl l.length (Nat.le_refl _)
    rw [w64' (by omega) (by omega)]
    simp only [List.drop_length, List.filter_nil, List.reverse_nil] at hj
    rw [hj]
    simp only [Option.bind_some]
    obtain ⟨C1, C2, a1, a2, a3, a4, a5⟩ := map_ok l hR.fit
    obtain ⟨D1, D2, b1, b2, b3, b4, b5⟩ := map_ok (turned l) (fit_turned l hR.fit)
    obtain rfl := live_one l hR 1 C1 D1 a1 a2 b1 b2
    obtain rfl := live_one l hR 2 C2 D2 a3 a4 b3 b4
    rw [a5, b5]
    simp only [Option.bind_some]
    have m1 : ∀ x ∈ cpt eI (C1.filter ownP_), x ∈ l := fun x hx => (List.mem_filter.1 (a1.subset (List.mem_filter.1 ((cpt_sub _ _).subset hx)).1)).1
    have m2 : ∀ x ∈ cpt eI C2, x ∈ l := fun x hx => (List.mem_filter.1 (a3.subset ((cpt_sub _ _).subset hx))).1
    have l1 : C1.length ≤ 40 := by rw [a1.length_eq]; exact Nat.le_trans (List.length_filter_le _ _) hl
    have l2 : C2.length ≤ 40 := by rw [a3.length_eq]; exact Nat.le_trans (List.length_filter_le _ _) hl
    have n1 : (cpt eI (C1.filter ownP_)).length ≤ 40 := Nat.le_trans (cpt_len _ _) (Nat.le_trans (List.length_filter_le _ _) l1)
    have n2 : (cpt eI C2).length ≤ 40 := Nat.le_trans (cpt_len _ _) l2
    rw [same_self _ (mapF_small _ _ n1 n2 (fun x hx => (hR.fit.2 x (m1 x hx)).1) (fun x hx => (hR.fit.2 x (m2 x hx)).2.1))]
    simp only [Option.bind_some, if_true]
    obtain ⟨N, G, c1, c2, c3, c4, c5, c6⟩ := members_ok l g hR.fit
    obtain ⟨N', G', d1, d2, d3, d4, d5, d6⟩ := members_ok (turned l) g (fit_turned l hR.fit)
    obtain rfl := live_one l hR 2 N N' c1 c2 d1 d2
    obtain rfl := live_one l hR 6 G G' c3 c4 d3 d4
    rw [c6, d6]
    simp only [Option.bind_some]
    have hlen : (membersF N G g).length ≤ 163840 := by
      unfold membersF
      have h1 := cpt_len eqV (sortV (G.flatMap (rawX N g)))
      have h2 := (sortV_ok (G.flatMap (rawX N g)) (by omega)).2.1.length_eq
      omega
    rw [verts_self _ (by simp only [big]; omega)]
    simp only [Option.bind_some, if_true, awake_ok]
theorem TopoOrder_holds : Rows.TopoOrderSaid := TopoOrder_row pure_TopoOrder
end Go.Proofs.Ytbjnbjgiidcfjaa
