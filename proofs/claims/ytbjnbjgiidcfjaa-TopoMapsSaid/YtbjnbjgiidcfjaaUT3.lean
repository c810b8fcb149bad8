/- Chapter 17, plain: members. Conditions: none. -/
import Derived.Test.YtbjnbjgiidcfjaaUTA
set_option linter.unusedVariables false
set_option linter.unusedSectionVars false
set_option linter.unusedSimpArgs false
namespace Go.Proofs.Ytbjnbjgiidcfjaa
open Go Go.Proofs.Ytbjnbjgiidcfjaa.Sp
theorem sortV_ok (l : List T_api_Vert) (h : l.length < 4611686018427387904) : f_slices_SortFunc_api_Vert_api_Vert_fn39 l = some (sortV l) ∧ (sortV l).Perm l ∧ Sd ltV (sortV l) := by
  refine ⟨if_pos h, List.mergeSort_perm _ _, ?_⟩
  have hp := List.pairwise_mergeSort (le := fun x y => !(ltOf cfV) y x) (fun a b c h1 h2 => by
    rw [ltOfV] at *
    simp only [Bool.not_eq_true', decide_eq_false_iff_not] at *
    unfold ltV at *; omega) (fun a b => by
    rw [ltOfV, ltOfV]
    simp only [Bool.or_eq_true, Bool.not_eq_true', decide_eq_false_iff_not]
    unfold ltV; omega) l
  refine hp.imp ?_
  intro a b hab
  rw [ltOfV] at hab
  simpa using hab
/-! ### What is alike made one -/
def eqV (x y : T_api_Vert) : Bool := decide (x = y)
theorem cptV0 : f_slices_Compact_api_Vert_api_Vert.b0 = gCpt_b0 (fun x y : T_api_Vert => some (eqV x y)) := by
  funext a b
  unfold f_slices_Compact_api_Vert_api_Vert.b0 gCpt_b0
  simp only [Option.bind_some, eqV, decide_eq_true_eq]
theorem cptV1 : f_slices_Compact_api_Vert_api_Vert.b1 = gCpt_b1 (fun x y : T_api_Vert => some (eqV x y)) (⟨0, 0⟩ : T_api_Vert) := by
  funext a b
  unfold f_slices_Compact_api_Vert_api_Vert.b1 gCpt_b1
  rw [cptV0]
  simp only [Option.bind_some, eqV, decide_eq_true_eq]
  kernel_rfl
theorem cptV (l : List T_api_Vert) (hl : (l.length : Int) ≤ big) : f_slices_Compact_api_Vert_api_Vert l = some (cpt eqV l) := by
  have h := cpt_ok (ef := fun x y : T_api_Vert => some (eqV x y)) eqV (fun x y => rfl) (⟨0, 0⟩ : T_api_Vert) l hl
  rw [← h]
  unfold f_slices_Compact_api_Vert_api_Vert gCpt
  rw [cptV1]
  generalize loopO (gCpt_b1 (fun x y : T_api_Vert => some (eqV x y)) (⟨0, 0⟩ : T_api_Vert) l) 1 = q
  cases q with
  | none => rfl
  | some y => cases y <;> rfl
/-- Strictly rising. -/
def UpV (l : List T_api_Vert) : Prop := l.Pairwise ltV
theorem ddV : ∀ (l : List T_api_Vert) (p : T_api_Vert), Sd ltV (p :: l) → (dd eqV p l).Pairwise ltV ∧ (∀ y ∈ dd eqV p l, ltV p y) ∧ ∀ y, y ∈ p :: dd eqV p l ↔ y ∈ p :: l
  | [], p, h => by simp [dd]
  | x :: t, p, h => by
    obtain ⟨h1, h2⟩ := List.pairwise_cons.1 h
    obtain ⟨k1, k2, k3⟩ := ddV t x h2
    have hx := h1 x (List.mem_cons_self ..)
    unfold dd
    by_cases he : eqV x p = true
    · rw [if_pos he]
      obtain rfl : x = p := by simpa [eqV] using he
      exact ⟨k1, k2, fun y => by have := k3 y; simp only [List.mem_cons] at this ⊢; grind⟩
    · rw [if_neg he]
      have hne : ¬ x = p := by simpa [eqV] using he
      have hlt : ltV p x := by
        by_cases hq : ltV p x
        · exact hq
        · exact absurd (totV x p hx hq) hne
      refine ⟨List.pairwise_cons.2 ⟨k2, k1⟩, fun y hy => ?_, fun y => ?_⟩
      · rcases List.mem_cons.1 hy with rfl | hy
        · exact hlt
        · have := k2 y hy
          unfold ltV at *; omega
      · have := k3 y; simp only [List.mem_cons] at this ⊢; grind
theorem cptV_up (l : List T_api_Vert) (h : Sd ltV l) : UpV (cpt eqV l) ∧ ∀ y, y ∈ cpt eqV l ↔ y ∈ l := by
  cases l with
  | nil => simp [cpt, UpV]
  | cons x t => obtain ⟨h1, h2, h3⟩ := ddV t x h; exact ⟨List.pairwise_cons.2 ⟨h2, h1⟩, h3⟩
/-- Two that rise with the same members are one. -/
theorem up_eq : ∀ (l m : List T_api_Vert), UpV l → UpV m → (∀ y, y ∈ l ↔ y ∈ m) → l = m
  | [], [], _, _, _ => rfl
  | [], b :: m, _, _, h => by have := (h b).2 (List.mem_cons_self ..); simp at this
  | a :: l, [], _, _, h => by have := (h a).1 (List.mem_cons_self ..); simp at this
  | a :: l, b :: m, hl, hm, h => by
    obtain ⟨l1, l2⟩ := List.pairwise_cons.1 hl
    obtain ⟨m1, m2⟩ := List.pairwise_cons.1 hm
    have irr : ∀ z : T_api_Vert, ¬ ltV z z := fun z => by unfold ltV; omega
    have asy : ∀ y z : T_api_Vert, ltV y z → ltV z y → False := fun y z => by unfold ltV; omega
    have hab : a = b := by
      rcases List.mem_cons.1 ((h a).1 (List.mem_cons_self ..)) with e | ha
      · exact e
      · rcases List.mem_cons.1 ((h b).2 (List.mem_cons_self ..)) with e | hb
        · exact e.symm
        · exact (asy _ _ (m1 a ha) (l1 b hb)).elim
    subst hab
    congr 1
    refine up_eq l m l2 m2 (fun y => ⟨fun hy => ?_, fun hy => ?_⟩)
    · rcases List.mem_cons.1 ((h y).1 (List.mem_cons_of_mem _ hy)) with rfl | q
      · exact absurd (l1 y hy) (irr y)
      · exact q
    · rcases List.mem_cons.1 ((h y).2 (List.mem_cons_of_mem _ hy)) with rfl | q
      · exact absurd (m1 y hy) (irr y)
      · exact q
/-! ### Members -/
def memP (N : List T_api_Lsa) (x : T_api_Lsa) (v : T_api_Vert) : Bool :=
  if v.f_Kind = 1 then decide (v.f_Id = x.f_Head.f_Adv) else if v.f_Kind = 2 then N.any (fun n => decide (n.f_Head.f_Id = v.f_Id) && decide (n.f_Head.f_Adv = x.f_Head.f_Adv)) else false
def rawX (N : List T_api_Lsa) (g : Int) (x : T_api_Lsa) : List T_api_Vert := if x.f_Head.f_Id = g then x.f_Verts.filter (memP N x) else []
theorem hasEq : f_slices_IndexFunc_api_Lsa_api_Lsa_fn37_35_44 = fun l v x => gIdx (fun n => f_topo_Members_1_cap35_cap44 n v x) l := by kernel_rfl
theorem has_ok (N : List T_api_Lsa) (v : T_api_Vert) (x : T_api_Lsa) (hl : (N.length : Int) ≤ big) : f_slices_ContainsFunc_api_Lsa_api_Lsa_fn37_35_44 N v x = some (N.any (fun n => decide (n.f_Head.f_Id = v.f_Id) && decide (n.f_Head.f_Adv = x.f_Head.f_Adv))) := by
  have hp : ∀ n : T_api_Lsa, f_topo_Members_1_cap35_cap44 n v x = some (decide (n.f_Head.f_Id = v.f_Id) && decide (n.f_Head.f_Adv = x.f_Head.f_Adv)) := by
    intro n
    unfold f_topo_Members_1_cap35_cap44
    by_cases h : n.f_Head.f_Id = v.f_Id <;> simp [h]
  unfold f_slices_ContainsFunc_api_Lsa_api_Lsa_fn37_35_44
  rw [hasEq]
  rcases idx_ok (pf := fun n => f_topo_Members_1_cap35_cap44 n v x) _ hp N hl with ⟨q, y, s, h1, h2, h3, h4⟩ | ⟨h1, h2⟩
  · simp only [h4, Option.bind_some]
    have : N.any (fun n => decide (n.f_Head.f_Id = v.f_Id) && decide (n.f_Head.f_Adv = x.f_Head.f_Adv)) = true := List.any_eq_true.2 ⟨y, by rw [h1]; simp, h3⟩
    rw [this]
    simp
  · simp only [h2, Option.bind_some]
    have : N.any (fun n => decide (n.f_Head.f_Id = v.f_Id) && decide (n.f_Head.f_Adv = x.f_Head.f_Adv)) = false := List.any_eq_false.2 (fun y hy => by simpa using h1 y hy)
    rw [this]
    simp
theorem mem_b0 (g : Int) (N G : List T_api_Lsa) (o0 : List T_api_Vert) (i : Int) (x : T_api_Lsa) (hx : rd G i = x) (hN : (N.length : Int) ≤ big) (hv : x.f_Verts.length ≤ 4096) (ho : o0.length ≤ 1048576) :
    loopO (f_topo_Members.b0 g N G (o0, i)) (o0, 0) = some (.inl (o0 ++ rawX N g x, (x.f_Verts.length : Int))) := by
  have hb : (x.f_Verts.length : Int) ≤ big := by simp only [big]; omega
  have := loop_all (b := f_topo_Members.b0 g N G (o0, i)) (fun p => (o0 ++ (if x.f_Head.f_Id = g then p.filter (memP N x) else []), (p.length : Int))) x.f_Verts (by
    intro p v s hp
    have hlen : p.length < x.f_Verts.length := by rw [hp]; simp
    have hr : rd x.f_Verts (p.length : Int) = v := by rw [hp]; exact rd_mid rfl
    have hfl : (p.filter (memP N x)).length ≤ p.length := List.length_filter_le _ _
    unfold f_topo_Members.b0
    simp only [hx, hr, wi hb hlen]
    rw [if_pos (by omega), if_pos (by omega)]
    by_cases hg : x.f_Head.f_Id = g
    · simp only [hg, if_true]
      by_cases h1 : v.f_Kind = 1
      · rw [if_pos h1]
        simp only [Option.bind_some]
        by_cases h2 : v.f_Id = x.f_Head.f_Adv
        · rw [if_pos (by simpa using h2), if_pos (by simp only [List.length_append]; omega)]
          simp [memP, h1, h2]
        · rw [if_neg (by simpa using h2), if_neg (by omega)]
          simp [memP, h1, h2]
      · rw [if_neg h1]
        simp only [Option.bind_some, Bool.false_eq_true, if_false]
        by_cases h3 : v.f_Kind = 2
        · rw [if_pos h3, has_ok N v x hN]
          simp only [Option.bind_some]
          by_cases h4 : N.any (fun n => decide (n.f_Head.f_Id = v.f_Id) && decide (n.f_Head.f_Adv = x.f_Head.f_Adv)) = true
          · have hm : memP N x v = true := by unfold memP; rw [if_neg h1, if_pos h3]; exact h4
            rw [if_pos h4, if_pos (by simp only [List.length_append]; omega)]
            simp [hm]
          · have hm : memP N x v = false := by unfold memP; rw [if_neg h1, if_pos h3]; simpa using h4
            rw [if_neg h4]
            simp [hm]
        · have hm : memP N x v = false := by unfold memP; rw [if_neg h1, if_neg h3]
          rw [if_neg h3]
          simp [hm]
    · simp only [hg, if_false]
      simp)
  simp only [List.filter_nil, List.length_nil, ite_self, List.append_nil] at this
  rw [show ((0 : Nat) : Int) = 0 from rfl] at this
  rw [this]
  refine loopO_inr ?_
  unfold f_topo_Members.b0
  simp only [hx]
  rw [if_neg (by omega)]
  rfl
theorem mem_b1 (g : Int) (N G : List T_api_Lsa) (hN : (N.length : Int) ≤ big) (hG : G.length ≤ 40) (hv : ∀ x ∈ G, x.f_Verts.length ≤ 4096) :
    loopO (f_topo_Members.b1 g N G) ([], 0) = some (.inl (G.flatMap (rawX N g), (G.length : Int))) := by
  have hb : (G.length : Int) ≤ big := by simp only [big]; omega
  have := loop_all (b := f_topo_Members.b1 g N G) (fun p => (p.flatMap (rawX N g), (p.length : Int))) G (by
    intro p x s hp
    have hlen : p.length < G.length := by rw [hp]; simp
    have hx : rd G (p.length : Int) = x := by rw [hp]; exact rd_mid rfl
    have hxm : x ∈ G := by rw [hp]; simp
    have hpm : ∀ y ∈ p, y ∈ G := fun y hy => by rw [hp]; simp [hy]
    have f1 : (p.flatMap (rawX N g)).length ≤ p.length * 4096 := flatMap_len _ _ _ (fun y hy => by
      have := hv y (hpm y hy)
      have h2 : (y.f_Verts.filter (memP N y)).length ≤ y.f_Verts.length := List.length_filter_le _ _
      unfold rawX
      split
      · omega
      · simp)
    unfold f_topo_Members.b1
    simp only [wi hb hlen]
    rw [if_pos (by omega), if_pos (by omega), mem_b0 g N G _ _ x hx hN (hv x hxm) (by omega)]
    simp)
  simp only [List.flatMap_nil, List.length_nil] at this
  rw [show ((0 : Nat) : Int) = 0 from rfl] at this
  rw [this]
  refine loopO_inr ?_
  unfold f_topo_Members.b1
  rw [if_neg (by simp)]
/-- What is told of a group. -/
noncomputable def membersF (N G : List T_api_Lsa) (g : Int) : List T_api_Vert := cpt eqV (sortV (G.flatMap (rawX N g)))
theorem membersF_up (N G : List T_api_Lsa) (g : Int) (h : (G.flatMap (rawX N g)).length < 4611686018427387904) : UpV (membersF N G g) ∧ ∀ y, y ∈ membersF N G g ↔ y ∈ G.flatMap (rawX N g) := by
  obtain ⟨_, h2, h3⟩ := sortV_ok _ h
  obtain ⟨k1, k2⟩ := cptV_up _ h3
  exact ⟨k1, fun y => (k2 y).trans h2.mem_iff⟩
theorem raw_len (N : List T_api_Lsa) (g : Int) (G : List T_api_Lsa) (hG : G.length ≤ 40) (hv : ∀ x ∈ G, x.f_Verts.length ≤ 4096) : (G.flatMap (rawX N g)).length ≤ 163840 := by
  have := flatMap_len (rawX N g) 4096 G (fun y hy => by
    have := hv y hy
    have h2 : (y.f_Verts.filter (memP N y)).length ≤ y.f_Verts.length := List.length_filter_le _ _
    unfold rawX
    split
    · omega
    · simp)
  omega
theorem members_ok (l : List T_api_Lsa) (g : Int) (hl : Fit l) : ∃ N G, N.Perm (l.filter (liveP 2)) ∧ Sd ltA N ∧ G.Perm (l.filter (liveP 6)) ∧ Sd ltA G ∧ (G.flatMap (rawX N g)).length ≤ 163840 ∧ f_topo_Members l g = some (membersF N G g) := by
  obtain ⟨N, a1, a2, a3⟩ := live_ok l 2 hl.1
  obtain ⟨G, b1, b2, b3⟩ := live_ok l 6 hl.1
  have l1 : N.length ≤ 40 := by rw [a2.length_eq]; exact Nat.le_trans (List.length_filter_le _ _) hl.1
  have l2 : G.length ≤ 40 := by rw [b2.length_eq]; exact Nat.le_trans (List.length_filter_le _ _) hl.1
  have m2 : ∀ x ∈ G, x ∈ l := fun x hx => (List.mem_filter.1 (b2.subset hx)).1
  have hr := raw_len N g G l2 (fun x hx => (hl.2 x (m2 x hx)).2.2)
  refine ⟨N, G, a2, a3, b2, b3, hr, ?_⟩
  obtain ⟨s1, s2, s3⟩ := sortV_ok (G.flatMap (rawX N g)) (by omega)
  have sl := s2.length_eq
  unfold f_topo_Members
  rw [a1, b1]
  simp only [Option.bind_some]
  rw [mem_b1 g N G (by simp only [big]; omega) l2 (fun x hx => (hl.2 x (m2 x hx)).2.2)]
  simp only [Option.bind_some]
  rw [s1]
  simp only [Option.bind_some]
  rw [if_pos sl, cptV _ (by simp only [big]; omega)]
  simp only [Option.bind_some]
  rw [if_pos (by omega), if_pos (Int.le_refl _)]
  unfold cutL membersF
  simp
end Go.Proofs.Ytbjnbjgiidcfjaa
