/- Chapter 17, plain: the document's map is the program's. Conditions: none. -/
import Derived.Test.YtbjnbjgiidcfjaaUT5
set_option linter.unusedVariables false
set_option linter.unusedSectionVars false
set_option linter.unusedSimpArgs false
namespace Go.Proofs.Ytbjnbjgiidcfjaa
open Go Go.Proofs.Ytbjnbjgiidcfjaa.Sp
/-! ### Masks -/
theorem rmask_ok (n : Int) : f_plenumref1_Mask n = some (maskF n) := by
  unfold f_plenumref1_Mask maskF
  have h : ∀ m : Int, 0 ≤ m → m ≤ 32 → IntKind.u64.wrap (IntKind.i64.wrap (32 - m)) = 32 - m ∧ IntKind.i64.wrap (32 - m) = 32 - m := fun m h0 h1 => by rw [w64' (by omega) (by omega), wu64 (by omega) (by omega)]; exact ⟨rfl, rfl⟩
  have hm : 0 ≤ (if (if 32 < n then 32 else n) > 0 then (if 32 < n then 32 else n) else 0) ∧ (if (if 32 < n then 32 else n) > 0 then (if 32 < n then 32 else n) else 0) ≤ 32 := by
    by_cases c : 32 < n
    · simp only [if_pos c]; decide
    · simp only [if_neg c]
      by_cases c2 : n > 0
      · rw [if_pos c2]; omega
      · rw [if_neg c2]; omega
  generalize (if (if 32 < n then 32 else n) > 0 then (if 32 < n then 32 else n) else 0) = m at hm ⊢
  obtain ⟨e1, e2⟩ := h m hm.1 hm.2
  rw [e1, e2, if_pos (by omega)]
theorem rbits_loop (x : Int) : ∀ (m n : Nat), n + m = 33 → (∀ k, (List.range' n m).find? (bitsP x) = some k → loopO (f_plenumref1_Bits.b0 x) (n : Int) = some (.inr (k : Int))) ∧ ((List.range' n m).find? (bitsP x) = none → ∃ s, loopO (f_plenumref1_Bits.b0 x) (n : Int) = some (.inl s)) := by
  intro m
  induction m with
  | zero =>
    intro n hn
    refine ⟨fun k hk => by simp at hk, fun _ => ⟨(n : Int), loopO_inr ?_⟩⟩
    unfold f_plenumref1_Bits.b0
    rw [if_neg (by omega)]
  | succ m ih =>
    intro n hn
    by_cases h : maskF (n : Int) = x
    · have hf : (List.range' n (m + 1)).find? (bitsP x) = some n := by simp [List.range'_succ, bitsP, h]
      rw [hf]
      refine ⟨fun k hk => ?_, fun hk => by cases hk⟩
      obtain rfl := Option.some.inj hk
      refine loopO_inr ?_
      unfold f_plenumref1_Bits.b0
      rw [if_pos (by omega), rmask_ok]
      simp only [Option.bind_some]
      rw [if_pos h]
    · have hf : (List.range' n (m + 1)).find? (bitsP x) = (List.range' (n + 1) m).find? (bitsP x) := by simp [List.range'_succ, bitsP, h]
      have hs : loopO (f_plenumref1_Bits.b0 x) (n : Int) = loopO (f_plenumref1_Bits.b0 x) ((n + 1 : Nat) : Int) := by
        refine loopO_inl ?_
        unfold f_plenumref1_Bits.b0
        rw [if_pos (by omega), rmask_ok]
        simp only [Option.bind_some]
        rw [if_neg h, w64' (by omega) (by omega)]
        rfl
      rw [hf, hs]
      exact ih (n + 1) (by omega)
theorem rbits_ok (x : Int) : f_plenumref1_Bits x = some (bitsF x) := by
  obtain ⟨h1, h2⟩ := rbits_loop x 33 0 rfl
  rw [show ((0 : Nat) : Int) = 0 from rfl] at h1 h2
  unfold f_plenumref1_Bits bitsF
  cases hf : (List.range' 0 33).find? (bitsP x) with
  | some k => rw [h1 k hf]; rfl
  | none => obtain ⟨s, hs⟩ := h2 hf; rw [hs]; rfl
theorem and32 (a : Int) (h0 : 0 ≤ a) (h1 : a ≤ 4294967295) : bits .and .i64 a 4294967295 = a := by
  obtain ⟨n, rfl⟩ := Int.eq_ofNat_of_zero_le h0
  have hn : n < 4294967296 := by omega
  unfold bits
  simp only [IntKind.bits]
  have e : (BitVec.ofInt 64 (n : Int) &&& BitVec.ofInt 64 4294967295 : BitVec 64).toNat = n := by
    rw [BitVec.toNat_and, BitVec.toNat_ofInt, BitVec.toNat_ofInt]
    have e1 : ((n : Int) % (2 ^ 64 : Nat)).toNat = n := by omega
    have e2 : ((4294967295 : Int) % (2 ^ 64 : Nat)).toNat = 2 ^ 32 - 1 := by decide
    rw [e1, e2, Nat.and_two_pow_sub_one_eq_mod]
    omega
  show IntKind.i64.wrap (((BitVec.ofInt 64 (n : Int) &&& BitVec.ofInt 64 4294967295 : BitVec 64).toNat : Nat) : Int) = n
  rw [e, w64' (by omega) (by omega)]
theorem rnet_ok (a n : Int) (h0 : 0 ≤ a) (h1 : a ≤ 4294967295) : f_plenumref1_Net a n = some (netF a n) := by
  unfold f_plenumref1_Net netF
  rw [rmask_ok]
  simp only [Option.bind_some]
  rw [and32 a h0 h1]
/-! ### What is found is what is kept -/
theorem pw_eq {α : Type} {r : α → α → Prop} : ∀ (l : List α), l.Pairwise r → ∀ x ∈ l, ∀ y ∈ l, ¬ r x y → ¬ r y x → x = y
  | [], _, x, hx, _, _, _, _ => by cases hx
  | a :: l, h, x, hx, y, hy, h1, h2 => by
    obtain ⟨k1, k2⟩ := List.pairwise_cons.1 h
    rcases List.mem_cons.1 hx with e1 | hx'
    · rcases List.mem_cons.1 hy with e2 | hy'
      · rw [e1, e2]
      · subst e1; exact absurd (k1 y hy') h1
    · rcases List.mem_cons.1 hy with e2 | hy'
      · subst e2; exact absurd (k1 x hx') h2
      · exact pw_eq l k2 x hx' y hy' h1 h2
theorem key_eq {l : List T_api_Lsa} (h : l.Pairwise keyNe) {x y : T_api_Lsa} (hx : x ∈ l) (hy : y ∈ l) (h1 : x.f_Head.f_Kind = y.f_Head.f_Kind) (h2 : x.f_Head.f_Id = y.f_Head.f_Id) (h3 : x.f_Head.f_Adv = y.f_Head.f_Adv) : x = y :=
  pw_eq l h x hx y hy (fun q => q ⟨h1, h2, h3⟩) (fun q => q ⟨h1.symm, h2.symm, h3.symm⟩)
theorem dd_id : ∀ (l : List T_api_Lsa) (p : T_api_Lsa), Sd ltA (p :: l) → ∀ x ∈ p :: l, ∃ y ∈ p :: dd eI p l, y.f_Head.f_Id = x.f_Head.f_Id ∧ y.f_Head.f_Adv ≤ x.f_Head.f_Adv
  | [], p, h, x, hx => by simp only [List.mem_singleton] at hx; subst hx; exact ⟨x, List.mem_cons_self .., rfl, Int.le_refl _⟩
  | z :: t, p, h, x, hx => by
    obtain ⟨h1, h2⟩ := List.pairwise_cons.1 h
    have hz := h1 z (List.mem_cons_self ..)
    unfold ltA at hz
    rcases List.mem_cons.1 hx with rfl | hx
    · exact ⟨x, List.mem_cons_self .., rfl, Int.le_refl _⟩
    · obtain ⟨y, hy, e1, e2⟩ := dd_id t z h2 x hx
      unfold dd
      by_cases he : eI z p = true
      · rw [if_pos he]
        have hid : z.f_Head.f_Id = p.f_Head.f_Id := by simpa [eI] using he
        rcases List.mem_cons.1 hy with rfl | hy
        · exact ⟨p, List.mem_cons_self .., by omega, by omega⟩
        · exact ⟨y, List.mem_cons_of_mem _ hy, e1, e2⟩
      · rw [if_neg he]
        exact ⟨y, List.mem_cons_of_mem _ hy, e1, e2⟩
theorem cpt_id (l : List T_api_Lsa) (h : Sd ltA l) : ∀ x ∈ l, ∃ y ∈ cpt eI l, y.f_Head.f_Id = x.f_Head.f_Id ∧ y.f_Head.f_Adv ≤ x.f_Head.f_Adv := by
  cases l with
  | nil => intro x hx; cases hx
  | cons a t => exact dd_id t a h
theorem atId_some {L : List T_api_Lsa} {k : Int} {y : T_api_Lsa} (h : atId L k = some y) : y ∈ L ∧ y.f_Head.f_Id = k := by
  unfold atId at h
  exact ⟨List.mem_of_find?_eq_some h, by simpa using List.find?_some h⟩
theorem atId_mem {L : List T_api_Lsa} (hu : Up L) {y : T_api_Lsa} (hy : y ∈ L) : atId L y.f_Head.f_Id = some y := by
  cases h : atId L y.f_Head.f_Id with
  | none =>
    unfold atId at h
    have := List.find?_eq_none.1 h y hy
    simp at this
  | some z =>
    obtain ⟨h1, h2⟩ := atId_some h
    congr 1
    exact pw_eq L hu z h1 y hy (by omega) (by omega)
/-- What the parts of a map are made of. -/
structure Parts (l C1 C2 : List T_api_Lsa) : Prop where
  right : RightL l
  p1 : C1.Perm (l.filter (liveP 1))
  s1 : Sd ltA C1
  p2 : C2.Perm (l.filter (liveP 2))
  s2 : Sd ltA C2
abbrev RR (C1 : List T_api_Lsa) : List T_api_Lsa := cpt eI (C1.filter ownP_)
abbrev NN (C2 : List T_api_Lsa) : List T_api_Lsa := cpt eI C2
section
variable {l C1 C2 : List T_api_Lsa}
theorem Parts.upR (h : Parts l C1 C2) : Up (RR C1) := cpt_up _ (List.Pairwise.filter _ h.s1)
theorem Parts.upN (h : Parts l C1 C2) : Up (NN C2) := cpt_up _ h.s2
theorem Parts.inR (h : Parts l C1 C2) {x : T_api_Lsa} (hx : x ∈ RR C1) : x ∈ l ∧ x.f_Head.f_Kind = 1 ∧ x.f_Head.f_Age < 3600 ∧ x.f_Head.f_Id = x.f_Head.f_Adv := by
  have h1 := List.mem_filter.1 ((cpt_sub _ _).subset hx)
  have h2 := List.mem_filter.1 (h.p1.subset h1.1)
  have h3 := h1.2
  have h4 := h2.2
  simp only [liveP, ownP_, Bool.and_eq_true, decide_eq_true_eq] at h3 h4
  exact ⟨h2.1, h4.1, h4.2, h3⟩
theorem Parts.inN (h : Parts l C1 C2) {x : T_api_Lsa} (hx : x ∈ NN C2) : x ∈ l ∧ x.f_Head.f_Kind = 2 ∧ x.f_Head.f_Age < 3600 := by
  have h2 := List.mem_filter.1 (h.p2.subset ((cpt_sub _ _).subset hx))
  have h4 := h2.2
  simp only [liveP, Bool.and_eq_true, decide_eq_true_eq] at h4
  exact ⟨h2.1, h4.1, h4.2⟩
theorem Parts.lenR (h : Parts l C1 C2) : (RR C1).length ≤ 40 := by
  have h1 := cpt_len eI (C1.filter ownP_)
  have h2 := List.length_filter_le ownP_ C1
  have h3 := h.p1.length_eq
  have h4 := List.length_filter_le (liveP 1) l
  have h5 := h.right.fit.1
  unfold RR
  omega
theorem Parts.lenN (h : Parts l C1 C2) : (NN C2).length ≤ 40 := by
  have h1 := cpt_len eI C2
  have h3 := h.p2.length_eq
  have h4 := List.length_filter_le (liveP 2) l
  have h5 := h.right.fit.1
  unfold NN
  omega
theorem Parts.findR (h : Parts l C1 C2) (k : Int) : findF l ⟨1, k⟩ = atId (RR C1) k := by
  obtain ⟨f1, f2⟩ := fold_find ⟨1, k⟩ l none (fun y hy => by cases hy)
  have hP : ∀ x ∈ RR C1, x.f_Head.f_Id = k → findP ⟨1, k⟩ x = true := fun x hx hk => by
    obtain ⟨_, k1, k2, k3⟩ := h.inR hx
    unfold findP
    simp only [if_true, Bool.and_eq_true, decide_eq_true_eq]
    exact ⟨⟨k2, hk⟩, k1, k3⟩
  change ∀ y, findF l ⟨1, k⟩ = some y → _ at f1
  change findF l ⟨1, k⟩ = none → _ at f2
  cases hf : findF l ⟨1, k⟩ with
  | none =>
    obtain ⟨_, f3⟩ := f2 hf
    cases ha : atId (RR C1) k with
    | none => rfl
    | some y =>
      obtain ⟨a1, a2⟩ := atId_some ha
      have := hP y a1 a2
      rw [f3 y (h.inR a1).1] at this
      cases this
  | some y =>
    obtain ⟨g1, g2, g3, _⟩ := f1 y hf
    have hyl : y ∈ l := by
      rcases g2 with q | q
      · exact q
      · cases q
    unfold findP at g1
    simp only [if_true, Bool.and_eq_true, decide_eq_true_eq] at g1
    have hy1 : y ∈ C1.filter ownP_ := List.mem_filter.2 ⟨h.p1.symm.subset (List.mem_filter.2 ⟨hyl, by simp [liveP, g1.2.1, g1.1.1]⟩), by simp [ownP_, g1.2.2]⟩
    obtain ⟨z, hz, z1, z2⟩ := cpt_id _ (List.Pairwise.filter _ h.s1) y hy1
    have hz' := h.inR hz
    have e : z = y := key_eq h.right.keys hz'.1 hyl (by rw [hz'.2.1, g1.2.1]) z1 (by rw [← hz'.2.2.2, ← g1.2.2, z1])
    rw [← e]
    have := atId_mem h.upR hz
    rw [z1, g1.1.2] at this
    exact this.symm
theorem Parts.findN (h : Parts l C1 C2) (k : Int) : findF l ⟨2, k⟩ = atId (NN C2) k := by
  obtain ⟨f1, f2⟩ := fold_find ⟨2, k⟩ l none (fun y hy => by cases hy)
  have hP : ∀ x ∈ NN C2, x.f_Head.f_Id = k → findP ⟨2, k⟩ x = true := fun x hx hk => by
    obtain ⟨_, k1, k2⟩ := h.inN hx
    unfold findP
    rw [if_neg (show ¬ (2 : Int) = 1 by decide)]
    simp only [Bool.and_eq_true, decide_eq_true_eq]
    exact ⟨⟨k2, hk⟩, k1⟩
  change ∀ y, findF l ⟨2, k⟩ = some y → _ at f1
  change findF l ⟨2, k⟩ = none → _ at f2
  cases hf : findF l ⟨2, k⟩ with
  | none =>
    obtain ⟨_, f3⟩ := f2 hf
    cases ha : atId (NN C2) k with
    | none => rfl
    | some y =>
      obtain ⟨a1, a2⟩ := atId_some ha
      have := hP y a1 a2
      rw [f3 y (h.inN a1).1] at this
      cases this
  | some y =>
    obtain ⟨g1, g2, g3, _⟩ := f1 y hf
    have hyl : y ∈ l := by
      rcases g2 with q | q
      · exact q
      · cases q
    unfold findP at g1
    rw [if_neg (show ¬ (2 : Int) = 1 by decide)] at g1
    simp only [Bool.and_eq_true, decide_eq_true_eq] at g1
    have hy1 : y ∈ C2 := h.p2.symm.subset (List.mem_filter.2 ⟨hyl, by simp [liveP, g1.2, g1.1.1]⟩)
    obtain ⟨z, hz, z1, z2⟩ := cpt_id _ h.s2 y hy1
    have hz' := h.inN hz
    have hle := g3 z hz'.1 (hP z hz (by omega))
    have e : z = y := key_eq h.right.keys hz'.1 hyl (by rw [hz'.2.1, g1.2]) z1 (by omega)
    rw [← e]
    have := atId_mem h.upN hz
    rw [z1, g1.1.2] at this
    exact this.symm
theorem Parts.find1 (h : Parts l C1 C2) (k : Int) : f_plenumref17_find l ⟨1, k⟩ = some (mGetD dL (byId (RR C1)) k, (atId (RR C1) k).isSome) := by
  rw [find_ok l _ (.inl rfl) h.right.fit.1, h.findR, (byId_get _ k h.upR.ne).1]
theorem Parts.find2 (h : Parts l C1 C2) (k : Int) : f_plenumref17_find l ⟨2, k⟩ = some (mGetD dL (byId (NN C2)) k, mHas (byId (NN C2)) k) := by
  rw [find_ok l _ (.inr rfl) h.right.fit.1, h.findN, (byId_get _ k h.upN.ne).1, (byId_get _ k h.upN.ne).2]
theorem Parts.small1 (h : Parts l C1 C2) : Small (byId (RR C1)) := small_of _ h.upR (fun x hx => ⟨(h.right.fit.2 x (h.inR hx).1).1, (h.right.fit.2 x (h.inR hx).1).2.1⟩)
theorem Parts.small2 (h : Parts l C1 C2) : Small (byId (NN C2)) := small_of _ h.upN (fun x hx => ⟨(h.right.fit.2 x (h.inN hx).1).1, (h.right.fit.2 x (h.inN hx).1).2.1⟩)
/-- None is found: no link back. -/
theorem back_none {k : Int} (h : atId (RR C1) k = none) (kind id : Int) (hP : Parts l C1 C2) : backF (mGetD dL (byId (RR C1)) k) kind id = none := by
  rw [(byId_get _ k hP.upR.ne).1, h]
  rfl
/-! ### The edges of a vertex -/
theorem Parts.fromR (h : Parts l C1 C2) {r : T_api_Lsa} (hr : r ∈ RR C1) : f_plenumref17_from l ⟨1, r.f_Head.f_Id⟩ = some (rEdges (byId (RR C1)) (byId (NN C2)) r) := by
  obtain ⟨hrl, hk, _, _⟩ := h.inR hr
  have hfit := (h.right.fit.2 r hrl).1
  have hb : (r.f_Links.length : Int) ≤ big := by simp only [big]; omega
  have hrt : r.f_Routers = [] := (h.right.each r hrl).routers (by omega)
  have hget : mGetD dL (byId (RR C1)) r.f_Head.f_Id = r := by rw [(byId_get _ _ h.upR.ne).1, atId_mem h.upR hr]; rfl
  have hloop : loopO (f_plenumref17_from.b0 l ⟨1, r.f_Head.f_Id⟩ r) ([], 0) = some (.inl (rEdges (byId (RR C1)) (byId (NN C2)) r, (r.f_Links.length : Int))) := by
    have hl := loop_all (b := f_plenumref17_from.b0 l ⟨1, r.f_Head.f_Id⟩ r) (fun p => (p.filterMap (edgeF (byId (RR C1)) (byId (NN C2)) r), (p.length : Int))) r.f_Links (by
      intro p x s hs
      have hlen : p.length < r.f_Links.length := by rw [hs]; simp
      have hx : rd r.f_Links (p.length : Int) = x := by rw [hs]; exact rd_mid rfl
      have hpl : (p.filterMap (edgeF (byId (RR C1)) (byId (NN C2)) r)).length ≤ p.length := List.length_filterMap_le _ _
      have hbk := rback_ok (mGetD dL (byId (RR C1)) x.f_Id) 1 r.f_Head.f_Id (by have := (h.small1 x.f_Id).1; simp only [big]; omega)
      have hhas := has_row (mGetD dL (byId (NN C2)) x.f_Id).f_Routers r.f_Head.f_Id (by have := (h.small2 x.f_Id).2; simp only [big]; omega)
      have a1 : (if x.f_Kind = 1 then ((f_plenumref17_find l (⟨1, x.f_Id⟩ : T_api_Vert)).bind fun (t29, t30) => ((f_plenumref17_back t29 1 r.f_Head.f_Id).bind fun (t31, t32) => (if t30 = true then (if t32 = true then (if ((p.filterMap (edgeF (byId (RR C1)) (byId (NN C2)) r)).length + 1) * 48 ≤ 140737488355328 then some (.inl (p.filterMap (edgeF (byId (RR C1)) (byId (NN C2)) r) ++ [(⟨(⟨1, r.f_Head.f_Id⟩ : T_api_Vert), (⟨1, x.f_Id⟩ : T_api_Vert), x.f_Cost, x.f_Data⟩ : T_api_Edge)])) else none) else some (.inl (p.filterMap (edgeF (byId (RR C1)) (byId (NN C2)) r)))) else some (.inl (p.filterMap (edgeF (byId (RR C1)) (byId (NN C2)) r)))))) else some (.inl (p.filterMap (edgeF (byId (RR C1)) (byId (NN C2)) r))) : Option (Sum ((List T_api_Edge)) f_plenumref17_from.R)) = some (.inl (if x.f_Kind = 1 then (p ++ [x]).filterMap (edgeF (byId (RR C1)) (byId (NN C2)) r) else p.filterMap (edgeF (byId (RR C1)) (byId (NN C2)) r))) := by
        by_cases c1 : x.f_Kind = 1
        · rw [if_pos c1, if_pos c1, h.find1]
          simp only [Option.bind_some]
          rw [hbk]
          simp only [Option.bind_some]
          cases ha : atId (RR C1) x.f_Id with
          | none =>
            have hn := back_none ha 1 r.f_Head.f_Id h
            simp [edgeF, edgeP, c1, hn]
          | some y =>
            simp only [Option.isSome_some, if_true]
            cases hq : backF (mGetD dL (byId (RR C1)) x.f_Id) 1 r.f_Head.f_Id with
            | none => simp [edgeF, edgeP, c1, hq]
            | some kk =>
              simp only [Option.isSome_some, if_true]
              rw [if_pos (by omega)]
              simp [edgeF, edgeP, edgeT, c1, hq]
        · rw [if_neg c1, if_neg c1]
      unfold f_plenumref17_from.b0
      simp only [hx, wi hb hlen]
      rw [if_pos (by omega), if_pos (by omega), a1]
      simp only [Option.bind_some]
      by_cases c1 : x.f_Kind = 1
      · rw [if_neg (by omega), if_pos c1]
        simp
      · simp only [if_neg c1]
        by_cases c2 : x.f_Kind = 2
        · rw [if_pos c2, h.find2]
          simp only [Option.bind_some]
          cases hm : mHas (byId (NN C2)) x.f_Id with
          | false =>
            simp only [Bool.false_eq_true, if_false]
            simp [edgeF, edgeP, c1, c2, hm]
          | true =>
            simp only [if_true]
            rw [hhas]
            simp only [Option.bind_some, decide_eq_true_eq]
            by_cases c3 : r.f_Head.f_Id ∈ (mGetD dL (byId (NN C2)) x.f_Id).f_Routers
            · rw [if_pos c3, if_pos (by omega)]
              simp [edgeF, edgeP, edgeT, c1, c2, c3, hm]
            · rw [if_neg c3]
              simp [edgeF, edgeP, c1, c2, c3, hm]
        · rw [if_neg c2]
          simp [edgeF, edgeP, c1, c2])
    simp only [List.filterMap_nil, List.length_nil] at hl
    rw [show ((0 : Nat) : Int) = 0 from rfl] at hl
    rw [hl]
    refine loopO_inr ?_
    unfold f_plenumref17_from.b0
    simp only [Int.lt_irrefl, if_false]
    rfl
  unfold f_plenumref17_from
  rw [h.find1, hget]
  simp only [Option.bind_some]
  rw [hloop]
  simp only [Option.bind_some]
  rw [loopO_inr (r := Sum.inl (rEdges (byId (RR C1)) (byId (NN C2)) r, (0 : Int)))]
  · rfl
  · unfold f_plenumref17_from.b1
    simp only [hrt, List.length_nil]
    rw [if_neg (by omega)]
theorem Parts.fromN1 (h : Parts l C1 C2) {n : T_api_Lsa} (hn : n ∈ NN C2) : ∀ (suf pre : List Int) (es : List T_api_Edge), n.f_Routers = pre ++ suf → es.length + suf.length ≤ 2097152 →
    ∃ k, loopO (f_plenumref17_from.b1 l ⟨2, n.f_Head.f_Id⟩ n) (es, (pre.length : Int)) = some (.inl (es ++ nEdges0 (byId (RR C1)) n pre suf, k))
  | [], pre, es, hp, he => by
    rw [List.append_nil] at hp
    refine ⟨(pre.length : Int), loopO_inr ?_⟩
    unfold f_plenumref17_from.b1
    simp only
    rw [if_neg (by rw [hp]; omega)]
    simp [nEdges0]
  | r :: suf, pre, es, hp, he => by
    have hfit := (h.right.fit.2 n (h.inN hn).1).2.1
    have hlen : pre.length < n.f_Routers.length := by rw [hp]; simp
    have hb : (n.f_Routers.length : Int) ≤ big := by simp only [big]; omega
    have hx : rd n.f_Routers (pre.length : Int) = r := by rw [hp]; exact rd_mid rfl
    have hcut : cutL n.f_Routers 0 (pre.length : Int) = pre := by rw [hp]; unfold cutL; simp
    have hbk := rback_ok (mGetD dL (byId (RR C1)) r) 2 n.f_Head.f_Id (by have := (h.small1 r).1; simp only [big]; omega)
    have hct := has_row pre r (by simp only [big] at *; omega)
    have hstep : f_plenumref17_from.b1 l ⟨2, n.f_Head.f_Id⟩ n (es, (pre.length : Int)) = some (.inl (es ++ (match backF (mGetD dL (byId (RR C1)) r) 2 n.f_Head.f_Id with | some k => if r ∈ pre then [] else [nEdge n r k] | none => []), ((pre ++ [r]).length : Int))) := by
      unfold f_plenumref17_from.b1
      simp only [hx, hcut, wi hb hlen]
      rw [if_pos (by omega), if_pos (by omega), if_pos (by omega), hct]
      simp only [Option.bind_some, decide_eq_true_eq]
      by_cases hm : r ∈ pre
      · rw [if_pos hm]
        cases hk : backF (mGetD dL (byId (RR C1)) r) 2 n.f_Head.f_Id with
        | none => simp
        | some k => simp [hm]
      · rw [if_neg hm, h.find1]
        simp only [Option.bind_some]
        rw [hbk]
        simp only [Option.bind_some]
        cases ha : atId (RR C1) r with
        | none =>
          have hnn := back_none ha 2 n.f_Head.f_Id h
          rw [hnn]
          simp
        | some y =>
          simp only [Option.isSome_some, if_true]
          cases hk : backF (mGetD dL (byId (RR C1)) r) 2 n.f_Head.f_Id with
          | none => simp
          | some k =>
            simp only [Option.isSome_some, if_true, Option.getD_some]
            rw [if_pos (by simp only [List.length_cons] at he; omega)]
            simp [hm, nEdge]
    obtain ⟨k, hk⟩ := Parts.fromN1 h hn suf (pre ++ [r]) (es ++ (match backF (mGetD dL (byId (RR C1)) r) 2 n.f_Head.f_Id with | some k => if r ∈ pre then [] else [nEdge n r k] | none => [])) (by rw [hp]; simp) (by
      simp only [List.length_append, List.length_cons] at he ⊢
      split
      · split <;> simp <;> omega
      · simp; omega)
    refine ⟨k, ?_⟩
    rw [loopO_inl hstep, hk, List.append_assoc]
    rfl
theorem Parts.fromN (h : Parts l C1 C2) {n : T_api_Lsa} (hn : n ∈ NN C2) : f_plenumref17_from l ⟨2, n.f_Head.f_Id⟩ = some (nEdges (byId (RR C1)) n) := by
  obtain ⟨hnl, hk, _⟩ := h.inN hn
  have hfit := (h.right.fit.2 n hnl).2.1
  have hlk : n.f_Links = [] := (h.right.each n hnl).links (by omega)
  have hget : mGetD dL (byId (NN C2)) n.f_Head.f_Id = n := by rw [(byId_get _ _ h.upN.ne).1, atId_mem h.upN hn]; rfl
  obtain ⟨k, hk⟩ := h.fromN1 hn n.f_Routers [] [] rfl (by simp; omega)
  unfold f_plenumref17_from
  rw [h.find2, hget]
  simp only [Option.bind_some]
  rw [loopO_inr (r := Sum.inl (([] : List T_api_Edge), (0 : Int)))]
  · simp only [Option.bind_some]
    rw [show (0 : Int) = ((([] : List Int).length : Nat) : Int) from rfl, hk]
    simp [nEdges]
  · unfold f_plenumref17_from.b0
    simp only [hlk, List.length_nil]
    rw [if_neg (by omega)]
end
end Go.Proofs.Ytbjnbjgiidcfjaa
