/- The plain part of TopoBoth. Conditions: none. -/
import Derived.Test.YtbjnbjgiidcfjaaUT7
import Derived.Test.YtbjnbjgiidcfjaaR
set_option linter.unusedVariables false
set_option linter.unusedSectionVars false
set_option linter.unusedSimpArgs false
namespace Go.Proofs.Ytbjnbjgiidcfjaa
open Go Go.Proofs.Ytbjnbjgiidcfjaa.Sp
/-! ### Edges are told from both ends -/
theorem atId_some {L : List T_api_Lsa} {k : Int} {y : T_api_Lsa} (h : atId L k = some y) : y ∈ L ∧ y.f_Head.f_Id = k := by
  unfold atId at h
  exact ⟨List.mem_of_find?_eq_some h, by simpa using List.find?_some h⟩
theorem pw_eq {α : Type} {r : α → α → Prop} : ∀ (l : List α), l.Pairwise r → ∀ x ∈ l, ∀ y ∈ l, ¬ r x y → ¬ r y x → x = y
  | [], _, x, hx, _, _, _, _ => by cases hx
  | a :: l, h, x, hx, y, hy, h1, h2 => by
    obtain ⟨k1, k2⟩ := List.pairwise_cons.1 h
    rcases List.mem_cons.1 hx with e1 | hx'
    · rcases List.mem_cons.1 hy with e2 | hy'
      · rw [e1, e2]
      · subst e1; exact absurd (k1 y hy') h1
    · rcases List.mem_cons.1 hy with e2 | hy'
      · subst e2; exact absurd (k1 x hx') h2
      · exact pw_eq l k2 x hx' y hy' h1 h2
theorem atId_mem {L : List T_api_Lsa} (hu : Up L) {y : T_api_Lsa} (hy : y ∈ L) : atId L y.f_Head.f_Id = some y := by
  cases h : atId L y.f_Head.f_Id with
  | none =>
    unfold atId at h
    have := List.find?_eq_none.1 h y hy
    simp at this
  | some z =>
    obtain ⟨h1, h2⟩ := atId_some h
    congr 1
    exact pw_eq L hu z h1 y hy (by omega) (by omega)
theorem get_of {L : List T_api_Lsa} (hu : Up L) {k kind id : Int} {kk : T_api_Link} (h : backF (mGetD dL (byId L) k) kind id = some kk) : ∃ s ∈ L, s.f_Head.f_Id = k ∧ mGetD dL (byId L) k = s ∧ kk ∈ s.f_Links ∧ kk.f_Kind = kind ∧ kk.f_Id = id := by
  rw [(byId_get L k hu.ne).1] at h ⊢
  cases ha : atId L k with
  | none => rw [ha] at h; cases h
  | some s =>
    rw [ha] at h
    obtain ⟨h1, h2⟩ := atId_some ha
    have h3 : s.f_Links.find? (linkP kind id) = some kk := h
    have h4 := List.find?_some h3
    simp only [linkP, Bool.and_eq_true, decide_eq_true_eq] at h4
    exact ⟨s, h1, h2, rfl, List.mem_of_find?_eq_some h3, h4.1, h4.2⟩
theorem get_mem {L : List T_api_Lsa} (hu : Up L) {y : T_api_Lsa} (hy : y ∈ L) : mGetD dL (byId L) y.f_Head.f_Id = y := by
  rw [(byId_get L _ hu.ne).1, atId_mem hu hy]; rfl
theorem back_some {x : T_api_Lsa} {k : T_api_Link} (hk : k ∈ x.f_Links) : ∃ kk, backF x k.f_Kind k.f_Id = some kk := by
  cases h : backF x k.f_Kind k.f_Id with
  | some kk => exact ⟨kk, rfl⟩
  | none =>
    unfold backF at h
    have := List.find?_eq_none.1 h k hk
    simp [linkP] at this
theorem nEdges0_mem (t4 : M_) (n : T_api_Lsa) (x : Int) (kk : T_api_Link) (hb : backF (mGetD dL t4 x) 2 n.f_Head.f_Id = some kk) : ∀ (suf pre : List Int), x ∈ suf → x ∉ pre → nEdge n x kk ∈ nEdges0 t4 n pre suf
  | [], pre, h, _ => by cases h
  | r :: suf, pre, h, hp => by
    unfold nEdges0
    rw [List.mem_append]
    by_cases e : x = r
    · left
      subst e
      rw [hb]
      simp [hp]
    · right
      refine nEdges0_mem t4 n x kk hb suf (pre ++ [r]) ?_ ?_
      · rcases List.mem_cons.1 h with q | q
        · exact absurd q e
        · exact q
      · simp [hp, e]
theorem nEdges0_of (t4 : M_) (n : T_api_Lsa) : ∀ (suf pre : List Int) (e : T_api_Edge), e ∈ nEdges0 t4 n pre suf → ∃ x kk, x ∈ suf ∧ backF (mGetD dL t4 x) 2 n.f_Head.f_Id = some kk ∧ e = nEdge n x kk
  | [], pre, e, h => by simp [nEdges0] at h
  | r :: suf, pre, e, h => by
    unfold nEdges0 at h
    rcases List.mem_append.1 h with h | h
    · cases hb : backF (mGetD dL t4 r) 2 n.f_Head.f_Id with
      | none => rw [hb] at h; simp at h
      | some kk =>
        rw [hb] at h
        simp only at h
        by_cases hm : r ∈ pre
        · simp [hm] at h
        · simp only [if_neg hm, List.mem_singleton] at h
          exact ⟨r, kk, List.mem_cons_self .., hb, h⟩
    · obtain ⟨x, kk, h1, h2, h3⟩ := nEdges0_of t4 n suf (pre ++ [r]) e h
      exact ⟨x, kk, List.mem_cons_of_mem _ h1, h2, h3⟩
def edgesF (R N : List T_api_Lsa) : List T_api_Edge := R.flatMap (rEdges (byId R) (byId N)) ++ N.flatMap (nEdges (byId R))
theorem mem_r {R N : List T_api_Lsa} {r : T_api_Lsa} {k : T_api_Link} (hr : r ∈ R) (hk : k ∈ r.f_Links) (hp : edgeP (byId R) (byId N) r k = true) : edgeT r k ∈ edgesF R N := by
  refine List.mem_append_left _ (List.mem_flatMap.2 ⟨r, hr, List.mem_filterMap.2 ⟨k, hk, ?_⟩⟩)
  unfold edgeF
  rw [if_pos hp]
theorem edges_both (R N : List T_api_Lsa) (hR : Up R) (hN : Up N) : ∀ e ∈ edgesF R N, (∃ e' ∈ edgesF R N, e'.f_From = e.f_To ∧ e'.f_To = e.f_From) ∧ (e.f_From.f_Kind = 2 → e.f_Cost = 0 ∧ ¬ e.f_To.f_Kind = 2) := by
  intro e he
  rcases List.mem_append.1 he with he | he
  · obtain ⟨r, hr, h1⟩ := List.mem_flatMap.1 he
    obtain ⟨k, hk, h2⟩ := List.mem_filterMap.1 h1
    unfold edgeF at h2
    by_cases hp : edgeP (byId R) (byId N) r k = true
    · rw [if_pos hp] at h2
      obtain rfl := Option.some.inj h2
      refine ⟨?_, fun q => by simp [edgeT] at q⟩
      unfold edgeP at hp
      by_cases c1 : k.f_Kind = 1
      · rw [if_pos c1] at hp
        obtain ⟨k2, hk2⟩ := Option.isSome_iff_exists.1 hp
        obtain ⟨s, s1, s2, s3, s4, s5, s6⟩ := get_of hR hk2
        have hp2 : edgeP (byId R) (byId N) s k2 = true := by
          unfold edgeP
          rw [if_pos s5, s6, get_mem hR hr, s2]
          obtain ⟨kk, hkk⟩ := back_some hk
          rw [c1] at hkk
          rw [hkk]; rfl
        exact ⟨edgeT s k2, mem_r s1 s4 hp2, by simp [edgeT, c1, s2], by simp [edgeT, s5, s6]⟩
      · rw [if_neg c1] at hp
        by_cases c2 : k.f_Kind = 2
        · rw [if_pos c2] at hp
          simp only [Bool.and_eq_true, decide_eq_true_eq] at hp
          have hh := hp.1
          rw [(byId_get N k.f_Id hN.ne).2] at hh
          obtain ⟨n, hn⟩ := Option.isSome_iff_exists.1 hh
          obtain ⟨n1, n2⟩ := atId_some hn
          have hget : mGetD dL (byId N) k.f_Id = n := by rw [(byId_get N k.f_Id hN.ne).1, hn]; rfl
          rw [hget] at hp
          obtain ⟨kk, hkk⟩ := back_some hk
          rw [c2, ← n2] at hkk
          have hb : backF (mGetD dL (byId R) r.f_Head.f_Id) 2 n.f_Head.f_Id = some kk := by rw [get_mem hR hr]; exact hkk
          refine ⟨nEdge n r.f_Head.f_Id kk, List.mem_append_right _ (List.mem_flatMap.2 ⟨n, n1, nEdges0_mem _ n _ kk hb _ [] hp.2 (by simp)⟩), by simp [edgeT, nEdge, c2, n2], by simp [edgeT, nEdge]⟩
        · rw [if_neg c2] at hp; cases hp
    · rw [if_neg hp] at h2; cases h2
  · obtain ⟨n, hn, h1⟩ := List.mem_flatMap.1 he
    obtain ⟨x, kk, h2, h3, rfl⟩ := nEdges0_of _ n _ [] e h1
    obtain ⟨s, s1, s2, s3, s4, s5, s6⟩ := get_of hR h3
    have hp2 : edgeP (byId R) (byId N) s kk = true := by
      unfold edgeP
      rw [if_neg (by omega), if_pos s5, s6, get_mem hN hn, (byId_get N _ hN.ne).2, atId_mem hN hn, s2]
      simp [h2]
    exact ⟨⟨edgeT s kk, mem_r s1 s4 hp2, by simp [edgeT, nEdge, s2], by simp [edgeT, nEdge, s5, s6]⟩, fun _ => ⟨rfl, by simp [nEdge]⟩⟩
/-! ### Lists whose Ids are unlike -/
theorem dd_self : ∀ (l : List T_api_Lsa) (p : T_api_Lsa), (p :: l).Pairwise (fun x y => x.f_Head.f_Id ≠ y.f_Head.f_Id) → dd eI p l = l
  | [], p, _ => rfl
  | x :: t, p, h => by
    obtain ⟨h1, h2⟩ := List.pairwise_cons.1 h
    have := h1 x (List.mem_cons_self ..)
    unfold dd
    rw [if_neg (by simp [eI]; omega), dd_self t x h2]
theorem cpt_self (l : List T_api_Lsa) (h : l.Pairwise (fun x y => x.f_Head.f_Id ≠ y.f_Head.f_Id)) : cpt eI l = l := by
  cases l with
  | nil => rfl
  | cons x t => show x :: dd eI x t = x :: t; rw [dd_self t x h]
theorem flat_one {α β : Type} (f : α → List β) : ∀ (l : List α), (∀ x ∈ l, (f x).length = 1) → (l.flatMap f).length = l.length
  | [], _ => rfl
  | x :: t, h => by
    rw [List.flatMap_cons, List.length_append, h x (List.mem_cons_self ..), flat_one f t (fun y hy => h y (List.mem_cons_of_mem _ hy)), List.length_cons]; omega
theorem stub_yes (x : T_api_Lsa) (k : T_api_Link) (h : stubP k = true) : ∃ y, stubF x k = some y := by
  simp only [stubP, Bool.and_eq_true, decide_eq_true_eq] at h
  unfold stubF
  rw [if_pos h]
  exact ⟨_, rfl⟩
theorem stub_no (x : T_api_Lsa) (k : T_api_Link) (h : ¬ stubP k = true) : stubF x k = none := by
  simp only [stubP, Bool.and_eq_true, decide_eq_true_eq] at h
  unfold stubF
  rw [if_neg h]
theorem nst_stubs (x : T_api_Lsa) : (rStubs x).length = nst x.f_Links := by
  unfold rStubs nst
  induction x.f_Links with
  | nil => rfl
  | cons k t ih =>
    rw [List.filterMap_cons, List.filter_cons]
    by_cases c : stubP k = true
    · obtain ⟨y, hy⟩ := stub_yes x k c
      rw [hy, if_pos c]
      simp [ih]
    · rw [stub_no x k c, if_neg c]
      exact ih
/-! ### What comes of a graph -/
def MapSm (R N : List T_api_Lsa) : Prop := (∀ x ∈ R, x.f_Links.length ≤ 4096) ∧ ∀ x ∈ N, x.f_Routers.length ≤ 4096
theorem graph_map (K : Nat) (l : List T_api_Lsa) (hK6 : K ≤ 6) (hg : Gi K K 78 l) (hl1 : K ≤ l.length) (hl2 : l.length ≤ K + 8) : ∃ R N, f_topo_Map l = some (mapF R N) ∧ Up R ∧ Up N ∧ R.length = K ∧ N.length ≤ 40 ∧ (R.flatMap rStubs).length = K ∧ MapSm R N := by
  have hat : ∀ x ∈ l, ∃ i, l[i]? = some x ∧ Pi K K 78 i x := fun x hx => by
    obtain ⟨i, hi⟩ := List.mem_iff_getElem?.1 hx
    exact ⟨i, hi, hg i x hi⟩
  have hfit : Fit l := ⟨by omega, fun x hx => by
    obtain ⟨i, _, hp⟩ := hat x hx
    have h1 := hp.links
    have h2 := hp.routers
    have h3 := hp.verts
    rw [h3]
    exact ⟨by omega, by omega, by simp⟩⟩
  obtain ⟨C1, C2, a1, a2, a3, a4, a5⟩ := map_ok l hfit
  -- the routers
  have hlive : ∀ i x, l[i]? = some x → (liveP 1 x = true ↔ i < K) := fun i x hx => by
    have hp := hg i x hx
    constructor
    · intro h
      simp only [liveP, Bool.and_eq_true, decide_eq_true_eq] at h
      by_cases c : i < K
      · exact c
      · have := hp.nt (by omega)
        omega
    · intro h
      have := hp.rt h
      simp [liveP, this]
  have hfl : l.filter (liveP 1) = l.take K := by
    have e : l.filter (liveP 1) = (l.take K).filter (liveP 1) ++ (l.drop K).filter (liveP 1) := by rw [← List.filter_append, List.take_append_drop]
    have e1 : (l.take K).filter (liveP 1) = l.take K := by
      rw [List.filter_eq_self]
      intro x hx
      obtain ⟨i, hi⟩ := List.mem_iff_getElem?.1 hx
      rw [List.getElem?_take] at hi
      split at hi
      · rename_i hlt
        exact (hlive i x hi).2 hlt
      · cases hi
    have e2 : (l.drop K).filter (liveP 1) = [] := by
      rw [List.filter_eq_nil_iff]
      intro x hx
      obtain ⟨i, hi⟩ := List.mem_iff_getElem?.1 hx
      rw [List.getElem?_drop] at hi
      intro h
      have := (hlive _ x hi).1 h
      omega
    rw [e, e1, e2, List.append_nil]
  have hin : ∀ x ∈ C1, ∃ i, i < K ∧ l[i]? = some x ∧ Pi K K 78 i x := fun x hx => by
    have h1 := a1.subset hx
    rw [hfl] at h1
    obtain ⟨i, hi⟩ := List.mem_iff_getElem?.1 h1
    rw [List.getElem?_take] at hi
    split at hi
    · rename_i hlt
      exact ⟨i, hlt, hi, hg i x hi⟩
    · cases hi
  have hown : C1.filter ownP_ = C1 := by
    rw [List.filter_eq_self]
    intro x hx
    obtain ⟨i, hi, _, hp⟩ := hin x hx
    have := hp.rt hi
    unfold ownP_
    rw [this]
    simp
  have hpw : C1.Pairwise (fun x y => x.f_Head.f_Id ≠ y.f_Head.f_Id) := by
    have hsym : ∀ {x y : T_api_Lsa}, x.f_Head.f_Id ≠ y.f_Head.f_Id → y.f_Head.f_Id ≠ x.f_Head.f_Id := fun h e => h e.symm
    rw [a1.pairwise_iff hsym, hfl, List.pairwise_iff_getElem]
    intro i j hi hj hij
    have hi' : i < K ∧ i < l.length := by simp only [List.length_take] at hi; omega
    have hj' : j < K ∧ j < l.length := by simp only [List.length_take] at hj; omega
    have p1 := (hg i _ (List.getElem?_eq_getElem hi'.2)).rt hi'.1
    have p2 := (hg j _ (List.getElem?_eq_getElem hj'.2)).rt hj'.1
    rw [List.getElem_take, List.getElem_take, p1, p2]
    simp only
    omega
  have hR : cpt eI (C1.filter ownP_) = C1 := by rw [hown, cpt_self C1 hpw]
  have hlenC : C1.length = K := by rw [a1.length_eq, hfl, List.length_take]; omega
  have hlen2 : (cpt eI C2).length ≤ 40 := by
    have h1 := cpt_len eI C2
    have h2 := a3.length_eq
    have h3 := List.length_filter_le (liveP 2) l
    omega
  rw [hR] at a5
  refine ⟨C1, cpt eI C2, a5, ?_, cpt_up _ a4, hlenC, hlen2, ?_, ?_⟩
  · have := cpt_up C1 a2
    rw [cpt_self C1 hpw] at this
    exact this
  · rw [flat_one rStubs C1 (fun x hx => ?_), hlenC]
    obtain ⟨i, hi, _, hp⟩ := hin x hx
    rw [nst_stubs, hp.stubs, if_pos hi]
  · have h1 : ∀ x ∈ C1, x.f_Links.length ≤ 4096 := fun x hx => by
      obtain ⟨i, hi, _, hp⟩ := hin x hx
      have := hp.links
      omega
    have h2 : ∀ x ∈ cpt eI C2, x.f_Routers.length ≤ 4096 := fun x hx => by
      have := (List.mem_filter.1 (a3.subset ((cpt_sub _ _).subset hx))).1
      exact (hfit.2 x this).2.1
    exact ⟨h1, h2⟩
/-! ### The law -/
theorem vert_eta (v : T_api_Vert) : (⟨v.f_Kind, v.f_Id⟩ : T_api_Vert) = v := rfl
theorem both_b0 (m : T_api_Map) (i : Int) (e : T_api_Edge) (hi : rd m.f_Edges i = e) (hl : m.f_Edges.length ≤ 1048576) (h : ∃ e' ∈ m.f_Edges, e'.f_From = e.f_To ∧ e'.f_To = e.f_From) : ∃ k, loopO (f_plenumlaw17_TopoBoth.b0 m i) (false, 0) = some (.inl (true, k)) := by
  have hb : (m.f_Edges.length : Int) ≤ big := by simp only [big]; omega
  have hl := loop_all (b := f_plenumlaw17_TopoBoth.b0 m i) (fun p => (p.any (fun e' => decide (e'.f_From = e.f_To) && decide (e'.f_To = e.f_From)), (p.length : Int))) m.f_Edges (by
    intro p x s hs
    have hlen : p.length < m.f_Edges.length := by rw [hs]; simp
    have hr : rd m.f_Edges (p.length : Int) = x := by rw [hs]; exact rd_mid rfl
    unfold f_plenumlaw17_TopoBoth.b0
    simp only [vert_eta, hr, hi, wi hb hlen]
    rw [if_pos (by omega)]
    cases hp : p.any (fun e' => decide (e'.f_From = e.f_To) && decide (e'.f_To = e.f_From)) with
    | true => simp [hp]
    | false =>
      simp only [Bool.false_eq_true, if_false]
      rw [if_pos (by omega)]
      by_cases c : x.f_From = e.f_To
      · rw [if_pos c]
        simp [hp, c]
      · rw [if_neg c]
        simp [hp, c])
  have hany : m.f_Edges.any (fun e' => decide (e'.f_From = e.f_To) && decide (e'.f_To = e.f_From)) = true := by
    obtain ⟨e', h1, h2, h3⟩ := h
    exact List.any_eq_true.2 ⟨e', h1, by simp [h2, h3]⟩
  simp only [List.any_nil, List.length_nil] at hl
  rw [show ((0 : Nat) : Int) = 0 from rfl] at hl
  rw [hl, hany]
  refine ⟨(m.f_Edges.length : Int), loopO_inr ?_⟩
  unfold f_plenumlaw17_TopoBoth.b0
  simp only [Int.lt_irrefl, if_false]
theorem both_b1 (m : T_api_Map) (hl : m.f_Edges.length ≤ 1048576) (h : ∀ e ∈ m.f_Edges, (∃ e' ∈ m.f_Edges, e'.f_From = e.f_To ∧ e'.f_To = e.f_From) ∧ (e.f_From.f_Kind = 2 → e.f_Cost = 0 ∧ ¬ e.f_To.f_Kind = 2)) : ∃ k, loopO (f_plenumlaw17_TopoBoth.b1 m) 0 = some (.inl k) := by
  have hb : (m.f_Edges.length : Int) ≤ big := by simp only [big]; omega
  have hl2 := loop_all (b := f_plenumlaw17_TopoBoth.b1 m) (fun p : List T_api_Edge => (p.length : Int)) m.f_Edges (by
    intro p x s hs
    have hlen : p.length < m.f_Edges.length := by rw [hs]; simp
    have hr : rd m.f_Edges (p.length : Int) = x := by rw [hs]; exact rd_mid rfl
    obtain ⟨h1, h2⟩ := h x (by rw [hs]; simp)
    obtain ⟨k, hk⟩ := both_b0 m (p.length : Int) x hr hl h1
    unfold f_plenumlaw17_TopoBoth.b1
    simp only [hr, wi hb hlen, hk, Option.bind_some, if_true]
    rw [if_pos (by omega), if_pos (by omega)]
    by_cases c : x.f_From.f_Kind = 2
    · obtain ⟨h3, h4⟩ := h2 c
      rw [if_pos c, if_pos h3, if_neg h4]
      simp
    · rw [if_neg c]
      simp)
  rw [show (0 : Int) = ((([] : List T_api_Edge).length : Nat) : Int) from rfl, hl2]
  refine ⟨(m.f_Edges.length : Int), loopO_inr ?_⟩
  unfold f_plenumlaw17_TopoBoth.b1
  simp only [Int.lt_irrefl, if_false]
theorem both_b2 (m : T_api_Map) (hl : m.f_Verts.length ≤ 1048576) : ∃ k, loopO (f_plenumlaw17_TopoBoth.b2 m) (0, 0) = some (.inl (((m.f_Verts.filter (fun v => decide (v.f_Kind = 1))).length : Int), k)) := by
  have hb : (m.f_Verts.length : Int) ≤ big := by simp only [big]; omega
  have hl2 := loop_all (b := f_plenumlaw17_TopoBoth.b2 m) (fun p => (((p.filter (fun v : T_api_Vert => decide (v.f_Kind = 1))).length : Int), (p.length : Int))) m.f_Verts (by
    intro p x s hs
    have hlen : p.length < m.f_Verts.length := by rw [hs]; simp
    have hr : rd m.f_Verts (p.length : Int) = x := by rw [hs]; exact rd_mid rfl
    have hfl := List.length_filter_le (fun v : T_api_Vert => decide (v.f_Kind = 1)) p
    unfold f_plenumlaw17_TopoBoth.b2
    simp only [hr, wi hb hlen]
    rw [if_pos (by omega), if_pos (by omega)]
    by_cases c : x.f_Kind = 1
    · rw [if_pos c, w64' (by omega) (by omega)]
      simp [c]
    · rw [if_neg c]
      simp [c])
  simp only [List.filter_nil, List.length_nil] at hl2
  rw [show ((0 : Nat) : Int) = 0 from rfl] at hl2
  rw [hl2]
  refine ⟨(m.f_Verts.length : Int), loopO_inr ?_⟩
  unfold f_plenumlaw17_TopoBoth.b2
  simp only [Int.lt_irrefl, if_false]
theorem pure_TopoBoth : TopoBoth.Pure := by
  intro n ps ns one hn hps hns hone
  have un := inI_u8 hn
  obtain ⟨K, hKe⟩ : ∃ K : Nat, (K : Int) = 1 + n % 6 := ⟨(1 + n % 6).toNat, by omega⟩
  have hK : IntKind.i64.wrap (1 + (Int.tmod (IntKind.i64.wrap n) 6)) = (K : Int) := by
    rw [w64' (x := n) (by omega) (by omega), Int.tmod_eq_emod_of_nonneg (by omega), w64' (by omega) (by omega)]; omega
  obtain ⟨l, g1, g2, g3, g4⟩ := graph_ok n K hK (by omega) (by omega) ps ns (fun x hx => inI_u8 (hps.2 x hx)) one
  obtain ⟨R, N, m1, m2, m3, m4, m5, m6, m7⟩ := graph_map K l (by omega) g2 g3 g4
  obtain ⟨q1, q2⟩ := m7
  have f1 : (R.flatMap (rEdges (byId R) (byId N))).length ≤ R.length * 4096 := flatMap_len _ _ _ (fun y hy => Nat.le_trans (List.length_filterMap_le _ _) (q1 y hy))
  have f2 : (N.flatMap (nEdges (byId R))).length ≤ N.length * 4096 := flatMap_len _ _ _ (fun y hy => Nat.le_trans (nEdges0_len _ _ _ _) (q2 y hy))
  obtain ⟨k1, b1⟩ := both_b1 (mapF R N) (by simp only [mapF, List.length_append]; omega) (edges_both R N m2 m3)
  obtain ⟨k2, b2⟩ := both_b2 (mapF R N) (by simp only [mapF, List.length_append, List.length_map]; omega)
  have hcnt : ((mapF R N).f_Verts.filter (fun v => decide (v.f_Kind = 1))).length = K := by
    simp only [mapF, List.filter_append, List.length_append]
    have e1 : (R.map (fun r => (⟨1, r.f_Head.f_Id⟩ : T_api_Vert))).filter (fun v => decide (v.f_Kind = 1)) = R.map (fun r => (⟨1, r.f_Head.f_Id⟩ : T_api_Vert)) := by
      rw [List.filter_eq_self]
      intro v hv
      obtain ⟨r, _, rfl⟩ := List.mem_map.1 hv
      rfl
    have e2 : (N.map (fun r => (⟨2, r.f_Head.f_Id⟩ : T_api_Vert))).filter (fun v => decide (v.f_Kind = 1)) = [] := by
      rw [List.filter_eq_nil_iff]
      intro v hv
      obtain ⟨r, _, rfl⟩ := List.mem_map.1 hv
      simp
    rw [e1, e2, List.length_map, m4]
    simp
  have hst : (mapF R N).f_Stubs.length = K := m6
  have hsp : (mapF R N).f_Spans.length = N.length := by simp [mapF]
  have hvl : (mapF R N).f_Verts.length = K + N.length := by simp [mapF, m4]
  unfold f_plenumlaw17_TopoBoth
  rw [g1]
  simp only [Option.bind_some]
  rw [m1]
  simp only [Option.bind_some]
  rw [b1]
  simp only [Option.bind_some]
  rw [b2]
  simp only [Option.bind_some, hcnt, hst, hsp, hvl, hK]
  rw [w64' (by omega) (by omega)]
  simp only [if_true]
  rw [if_pos (by omega), awake_ok]
  rfl
theorem TopoBoth_holds : Rows.TopoBothSaid := TopoBoth_row pure_TopoBoth
end Go.Proofs.Ytbjnbjgiidcfjaa
