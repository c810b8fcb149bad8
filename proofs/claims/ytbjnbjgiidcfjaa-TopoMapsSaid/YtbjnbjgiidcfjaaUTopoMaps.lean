/- The plain part of TopoMaps. Conditions: none. -/
import Derived.Test.YtbjnbjgiidcfjaaUT6
import Derived.Test.YtbjnbjgiidcfjaaR
set_option linter.unusedVariables false
set_option linter.unusedSectionVars false
set_option linter.unusedSimpArgs false
namespace Go.Proofs.Ytbjnbjgiidcfjaa
open Go Go.Proofs.Ytbjnbjgiidcfjaa.Sp
section
variable {l C1 C2 : List T_api_Lsa}
def vR (r : T_api_Lsa) : T_api_Vert := ⟨1, r.f_Head.f_Id⟩
def vN (r : T_api_Lsa) : T_api_Vert := ⟨2, r.f_Head.f_Id⟩
theorem Parts.verts (h : Parts l C1 C2) : f_plenumref17_verts l = some ((RR C1).map vR ++ (NN C2).map vN) := by
  obtain ⟨V, v1, v2, v3⟩ := verts_ok l h.right.fit.1
  rw [v1]
  congr 1
  refine up_eq _ _ v2 ?_ (fun y => ?_)
  · refine List.pairwise_append.2 ⟨?_, ?_, ?_⟩
    · rw [List.pairwise_map]
      exact h.upR.imp (fun q => .inr ⟨rfl, q⟩)
    · rw [List.pairwise_map]
      exact h.upN.imp (fun q => .inr ⟨rfl, q⟩)
    · intro a ha b hb
      obtain ⟨r, _, rfl⟩ := List.mem_map.1 ha
      obtain ⟨n, _, rfl⟩ := List.mem_map.1 hb
      exact .inl (show (1 : Int) < 2 by decide)
  · rw [v3, List.mem_append, List.mem_map, List.mem_map]
    constructor
    · rintro ⟨x, hx, ha, ⟨k1, k2, rfl⟩ | ⟨k1, rfl⟩⟩
      · left
        obtain ⟨z, hz, z1, _⟩ := cpt_id (C1.filter ownP_) (List.Pairwise.filter _ h.s1) x (List.mem_filter.2 ⟨h.p1.symm.subset (List.mem_filter.2 ⟨hx, by simp [liveP, ha, k1]⟩), by unfold ownP_; exact decide_eq_true k2⟩)
        exact ⟨z, hz, by unfold vR; rw [z1]⟩
      · right
        obtain ⟨z, hz, z1, _⟩ := cpt_id _ h.s2 x (h.p2.symm.subset (List.mem_filter.2 ⟨hx, by simp [liveP, ha, k1]⟩))
        exact ⟨z, hz, by unfold vN; rw [z1]⟩
    · rintro (⟨r, hr, rfl⟩ | ⟨n, hn, rfl⟩)
      · obtain ⟨a1, a2, a3, a4⟩ := h.inR hr
        exact ⟨r, a1, a3, .inl ⟨a2, a4, rfl⟩⟩
      · obtain ⟨a1, a2, a3⟩ := h.inN hn
        exact ⟨n, a1, a3, .inr ⟨a2, rfl⟩⟩
theorem Parts.stubs (h : Parts l C1 C2) (V : List T_api_Vert) (i : Int) (E : List T_api_Edge) (S : List T_api_Stub) (P : List T_api_Span) (W : List Int) {r : T_api_Lsa} (hr : r ∈ RR C1) (hV : rd V i = vR r) (hS : S.length ≤ 1048576) :
    ∃ k, loopO (f_plenumref17_Map.b0 V (i, E, S, P, W) r) (0, S) = some (.inl (k, S ++ rStubs r)) := by
  have hrl := (h.inR hr).1
  have hfit := (h.right.fit.2 r hrl).1
  have hb : (r.f_Links.length : Int) ≤ big := by simp only [big]; omega
  have hl := loop_all (b := f_plenumref17_Map.b0 V (i, E, S, P, W) r) (fun p => ((p.length : Int), S ++ p.filterMap (stubF r))) r.f_Links (by
    intro p x s hs
    have hlen : p.length < r.f_Links.length := by rw [hs]; simp
    have hx : rd r.f_Links (p.length : Int) = x := by rw [hs]; exact rd_mid rfl
    have hpl : (p.filterMap (stubF r)).length ≤ p.length := List.length_filterMap_le _ _
    have hid := (h.right.each r hrl).linkid x (by rw [hs]; simp)
    unfold f_plenumref17_Map.b0
    simp only [hx, wi hb hlen, rbits_ok, rnet_ok _ _ hid.1 hid.2, Option.bind_some, hV]
    rw [if_pos (by omega), if_pos (by omega)]
    by_cases c1 : x.f_Kind = 3
    · rw [if_pos c1]
      simp only [Option.bind_some, decide_eq_true_eq]
      by_cases c2 : 0 ≤ bitsF x.f_Data
      · rw [if_pos c2, if_pos (by simp only [List.length_append]; omega)]
        simp [stubF, c1, c2, vR]
      · rw [if_neg c2]
        simp [stubF, c1, c2]
    · rw [if_neg c1]
      simp [stubF, c1])
  simp only [List.filterMap_nil, List.append_nil, List.length_nil] at hl
  rw [show ((0 : Nat) : Int) = 0 from rfl] at hl
  rw [hl]
  refine ⟨(r.f_Links.length : Int), loopO_inr ?_⟩
  unfold f_plenumref17_Map.b0
  simp only [Int.lt_irrefl, if_false]
  rfl
theorem Parts.map1 (h : Parts l C1 C2) : loopO (f_plenumref17_Map.b1 l ((RR C1).map vR ++ (NN C2).map vN)) (0, [], [], [], []) = loopO (f_plenumref17_Map.b1 l ((RR C1).map vR ++ (NN C2).map vN)) (((RR C1).length : Int), (RR C1).flatMap (rEdges (byId (RR C1)) (byId (NN C2))), (RR C1).flatMap rStubs, [], (RR C1).filterMap wildP) := by
  have hR := h.lenR
  have hN := h.lenN
  have hl := loop_all (b := f_plenumref17_Map.b1 l ((RR C1).map vR ++ (NN C2).map vN)) (fun p => ((p.length : Int), p.flatMap (rEdges (byId (RR C1)) (byId (NN C2))), p.flatMap rStubs, ([] : List T_api_Span), p.filterMap wildP)) (RR C1) (by
    intro p r s hs
    have hlen : p.length < (RR C1).length := by rw [hs]; simp
    have hr : r ∈ RR C1 := by rw [hs]; simp
    have hpm : ∀ y ∈ p, y ∈ RR C1 := fun y hy => by rw [hs]; simp [hy]
    have hll : ∀ y ∈ RR C1, y.f_Links.length ≤ 4096 := fun y hy => (h.right.fit.2 y (h.inR hy).1).1
    have hx : rd ((RR C1).map vR ++ (NN C2).map vN) (p.length : Int) = vR r := by
      rw [hs]
      simp only [List.map_append, List.map_cons, List.append_assoc, List.cons_append]
      exact rd_mid (by simp)
    have hVl : ((RR C1).map vR ++ (NN C2).map vN).length = (RR C1).length + (NN C2).length := by simp
    have hget : mGetD dL (byId (RR C1)) r.f_Head.f_Id = r := by rw [(byId_get _ _ h.upR.ne).1, atId_mem h.upR hr]; rfl
    have hfind := h.find1 r.f_Head.f_Id
    have hfrom := h.fromR hr
    have f1 : (p.flatMap (rEdges (byId (RR C1)) (byId (NN C2)))).length ≤ p.length * 4096 := flatMap_len _ _ _ (fun y hy => Nat.le_trans (List.length_filterMap_le _ _) (hll y (hpm y hy)))
    have f2 : (p.flatMap rStubs).length ≤ p.length * 4096 := flatMap_len _ _ _ (fun y hy => Nat.le_trans (List.length_filterMap_le _ _) (hll y (hpm y hy)))
    have f3 : (p.filterMap wildP).length ≤ p.length := List.length_filterMap_le _ _
    have f4 : (rEdges (byId (RR C1)) (byId (NN C2)) r).length ≤ 4096 := Nat.le_trans (List.length_filterMap_le _ _) (hll r hr)
    obtain ⟨k, hst⟩ := h.stubs ((RR C1).map vR ++ (NN C2).map vN) (p.length : Int) (p.flatMap (rEdges (byId (RR C1)) (byId (NN C2)))) (p.flatMap rStubs) [] (p.filterMap wildP) hr hx (by omega)
    unfold f_plenumref17_Map.b1
    simp only [hx, hVl]
    rw [if_pos (by omega), if_pos (by omega)]
    simp only [vR]
    rw [hfind, hget]
    simp only [Option.bind_some]
    rw [hfrom]
    simp only [Option.bind_some]
    rw [if_pos (by omega), if_neg (show ¬ (1 : Int) = 2 by decide), wi (m := (RR C1).length) (by simp only [big]; omega) hlen]
    have a1 : (if (bits .and .i64 r.f_Flags 8) = 0 then some (Sum.inl (p.filterMap wildP)) else (if ((p.filterMap wildP).length + 1) * 8 ≤ 140737488355328 then some (.inl (p.filterMap wildP ++ [r.f_Head.f_Id])) else none) : Option (Sum (List Int) f_plenumref17_Map.R)) = some (.inl ((p ++ [r]).filterMap wildP)) := by
      by_cases c : (bits .and .i64 r.f_Flags 8) = 0
      · rw [if_pos c]; simp [wildP, c]
      · rw [if_neg c, if_pos (by omega)]; simp [wildP, c]
    rw [a1]
    simp only [Option.bind_some]
    rw [hst]
    simp)
  simp only [List.flatMap_nil, List.filterMap_nil, List.length_nil] at hl
  rw [show ((0 : Nat) : Int) = 0 from rfl] at hl
  exact hl
theorem Parts.map2 (h : Parts l C1 C2) : loopO (f_plenumref17_Map.b1 l ((RR C1).map vR ++ (NN C2).map vN)) (((RR C1).length : Int), (RR C1).flatMap (rEdges (byId (RR C1)) (byId (NN C2))), (RR C1).flatMap rStubs, [], (RR C1).filterMap wildP) =
    some (.inl ((((RR C1).length + (NN C2).length : Nat) : Int), (RR C1).flatMap (rEdges (byId (RR C1)) (byId (NN C2))) ++ (NN C2).flatMap (nEdges (byId (RR C1))), (RR C1).flatMap rStubs, (NN C2).map spanF, (RR C1).filterMap wildP)) := by
  have hR := h.lenR
  have hN := h.lenN
  have hVl : ((RR C1).map vR ++ (NN C2).map vN).length = (RR C1).length + (NN C2).length := by simp
  have hrl : ∀ y ∈ RR C1, y.f_Links.length ≤ 4096 := fun y hy => (h.right.fit.2 y (h.inR hy).1).1
  have hnl : ∀ y ∈ NN C2, y.f_Routers.length ≤ 4096 := fun y hy => (h.right.fit.2 y (h.inN hy).1).2.1
  have f1 : ((RR C1).flatMap (rEdges (byId (RR C1)) (byId (NN C2)))).length ≤ (RR C1).length * 4096 := flatMap_len _ _ _ (fun y hy => Nat.le_trans (List.length_filterMap_le _ _) (hrl y hy))
  generalize hE : (RR C1).flatMap (rEdges (byId (RR C1)) (byId (NN C2))) = E at f1 ⊢
  generalize hS : (RR C1).flatMap rStubs = S
  generalize hW : (RR C1).filterMap wildP = W
  have hl := loop_all (b := f_plenumref17_Map.b1 l ((RR C1).map vR ++ (NN C2).map vN)) (fun p => ((((RR C1).length + p.length : Nat) : Int), E ++ p.flatMap (nEdges (byId (RR C1))), S, p.map spanF, W)) (NN C2) (by
    intro p n s hs
    have hlen : p.length < (NN C2).length := by rw [hs]; simp
    have hn : n ∈ NN C2 := by rw [hs]; simp
    have hpm : ∀ y ∈ p, y ∈ NN C2 := fun y hy => by rw [hs]; simp [hy]
    have hx : rd ((RR C1).map vR ++ (NN C2).map vN) (((RR C1).length + p.length : Nat) : Int) = vN n := by
      rw [hs]
      simp only [List.map_append, List.map_cons]
      rw [← List.append_assoc]
      exact rd_mid (by simp)
    have hget : mGetD dL (byId (NN C2)) n.f_Head.f_Id = n := by rw [(byId_get _ _ h.upN.ne).1, atId_mem h.upN hn]; rfl
    have hfind := h.find2 n.f_Head.f_Id
    have hfrom := h.fromN hn
    have hid := (h.right.each n (h.inN hn).1).head.id
    have f2 : (p.flatMap (nEdges (byId (RR C1)))).length ≤ p.length * 4096 := flatMap_len _ _ _ (fun y hy => Nat.le_trans (nEdges0_len _ _ _ _) (hnl y (hpm y hy)))
    have f4 : (nEdges (byId (RR C1)) n).length ≤ 4096 := Nat.le_trans (nEdges0_len _ _ _ _) (hnl n hn)
    unfold f_plenumref17_Map.b1
    simp only [hx, hVl]
    rw [if_pos (by omega), if_pos (by omega)]
    simp only [vN]
    rw [hfind, hget]
    simp only [Option.bind_some]
    rw [hfrom]
    simp only [Option.bind_some]
    rw [if_pos (by simp only [List.length_append]; omega), rnet_ok _ _ hid.1 hid.2, w64' (by omega) (by omega)]
    simp only [if_true, Option.bind_some]
    rw [if_pos (by simp only [List.length_map]; omega)]
    have e : ((((RR C1).length + p.length : Nat) : Int) + 1) = (((RR C1).length + (p ++ [n]).length : Nat) : Int) := by simp; omega
    rw [e]
    simp [spanF])
  simp only [List.flatMap_nil, List.append_nil, List.map_nil, List.length_nil, Nat.add_zero] at hl
  rw [hl]
  refine loopO_inr ?_
  unfold f_plenumref17_Map.b1
  simp only [hVl, Int.lt_irrefl, if_false]
theorem Parts.map (h : Parts l C1 C2) : f_plenumref17_Map l = some (mapF (RR C1) (NN C2)) := by
  unfold f_plenumref17_Map
  rw [h.verts]
  simp only [Option.bind_some]
  rw [h.map1, h.map2]
  rfl
end
/-! ### Members -/
theorem any_net (l N : List T_api_Lsa) (hN : N.Perm (l.filter (liveP 2))) (id adv : Int) : l.any (netP id adv) = N.any (fun n => decide (n.f_Head.f_Id = id) && decide (n.f_Head.f_Adv = adv)) := by
  rw [Bool.eq_iff_iff, List.any_eq_true, List.any_eq_true]
  constructor
  · rintro ⟨x, hx, hp⟩
    simp only [netP, Bool.and_eq_true, decide_eq_true_eq] at hp
    exact ⟨x, hN.symm.subset (List.mem_filter.2 ⟨hx, hp.1.1⟩), by simp [hp.1.2, hp.2]⟩
  · rintro ⟨x, hx, hp⟩
    have := List.mem_filter.1 (hN.subset hx)
    simp only [Bool.and_eq_true, decide_eq_true_eq] at hp
    exact ⟨x, this.1, by simp [netP, this.2, hp.1, hp.2]⟩
theorem mem_in (l N : List T_api_Lsa) (hl : l.length ≤ 40) (hN : N.Perm (l.filter (liveP 2))) (V0 V1 : List T_api_Vert) (i : Int) (x : T_api_Lsa) (hi : 0 ≤ i) (hi2 : i < l.length) (hx : rd l i = x) (hxl : x.f_Verts.length ≤ 4096) (h0 : V0.length ≤ 262144) :
    ∀ (suf pre : List T_api_Vert) (V : List T_api_Vert), x.f_Verts = pre ++ suf → UpV V → V.length ≤ V0.length + pre.length → (∀ y, y ∈ V ↔ y ∈ V0 ∨ y ∈ pre.filter (memP N x)) →
    ∃ V' k, loopO (f_plenumref17_Members.b0 l (V1, i)) (V, (pre.length : Int)) = some (.inl (V', k)) ∧ UpV V' ∧ V'.length ≤ V0.length + x.f_Verts.length ∧ ∀ y, y ∈ V' ↔ y ∈ V0 ∨ y ∈ x.f_Verts.filter (memP N x)
  | [], pre, V, hs, hu, hV, hm => by
    rw [List.append_nil] at hs
    refine ⟨V, (pre.length : Int), loopO_inr ?_, hu, by rw [hs]; exact hV, by rw [hs]; exact hm⟩
    unfold f_plenumref17_Members.b0
    simp only [hx]
    rw [if_pos hi, if_pos hi2, if_neg (by rw [hs]; omega)]
  | v :: suf, pre, V, hs, hu, hV, hm => by
    have hlen : pre.length < x.f_Verts.length := by rw [hs]; simp
    have hb : (x.f_Verts.length : Int) ≤ big := by simp only [big]; omega
    have hr : rd x.f_Verts (pre.length : Int) = v := by rw [hs]; exact rd_mid rfl
    obtain ⟨V2, v1, v2, v3, v4⟩ := vert_ok V v (by omega) hu
    have hnet := network_ok l v.f_Id x.f_Head.f_Adv hl
    rw [any_net l N hN] at hnet
    have hyes : memP N x v = true → f_plenumref17_Members.b0 l (V1, i) (V, (pre.length : Int)) = some (.inl (V2, ((pre ++ [v]).length : Int))) := by
      intro hp
      unfold f_plenumref17_Members.b0
      simp only [hx, hr, wi hb hlen, v1, hnet, Option.bind_some]
      rw [if_pos hi, if_pos hi2, if_pos (by omega), if_pos (by omega)]
      unfold memP at hp
      by_cases c1 : v.f_Kind = 1
      · rw [if_pos c1] at hp ⊢
        rw [if_pos (by simpa using hp)]
        simp
      · rw [if_neg c1] at hp ⊢
        by_cases c2 : v.f_Kind = 2
        · rw [if_pos c2] at hp ⊢
          rw [if_pos hp]
          simp
        · rw [if_neg c2] at hp; cases hp
    have hno : memP N x v = false → f_plenumref17_Members.b0 l (V1, i) (V, (pre.length : Int)) = some (.inl (V, ((pre ++ [v]).length : Int))) := by
      intro hp
      unfold f_plenumref17_Members.b0
      simp only [hx, hr, wi hb hlen, v1, hnet, Option.bind_some]
      rw [if_pos hi, if_pos hi2, if_pos (by omega), if_pos (by omega)]
      unfold memP at hp
      by_cases c1 : v.f_Kind = 1
      · rw [if_pos c1] at hp ⊢
        rw [if_neg (by simpa using hp), if_neg (by omega)]
        simp
      · rw [if_neg c1] at hp ⊢
        by_cases c2 : v.f_Kind = 2
        · rw [if_pos c2] at hp ⊢
          rw [if_neg (by rw [hp]; simp)]
          simp
        · rw [if_neg c2]; simp
    cases hp : memP N x v with
    | true =>
      rw [loopO_inl (hyes hp)]
      refine mem_in l N hl hN V0 V1 i x hi hi2 hx hxl h0 suf (pre ++ [v]) V2 (by rw [hs]; simp) v2 (by simp; omega) (fun y => ?_)
      rw [v3, hm, List.filter_append]
      simp only [List.mem_append, List.filter_cons, hp, if_true, List.filter_nil, List.mem_singleton]
      grind
    | false =>
      rw [loopO_inl (hno hp)]
      refine mem_in l N hl hN V0 V1 i x hi hi2 hx hxl h0 suf (pre ++ [v]) V (by rw [hs]; simp) hu (by simp; omega) (fun y => ?_)
      rw [hm, List.filter_append]
      simp [hp]
def inM (N : List T_api_Lsa) (g : Int) (x : T_api_Lsa) (y : T_api_Vert) : Prop := liveP 6 x = true ∧ x.f_Head.f_Id = g ∧ y ∈ x.f_Verts.filter (memP N x)
theorem mem_out (l N : List T_api_Lsa) (g : Int) (hf : Fit l) (hN : N.Perm (l.filter (liveP 2))) : ∀ (s q : List T_api_Lsa) (V : List T_api_Vert), l = q ++ s → UpV V → V.length ≤ 4096 * q.length → (∀ y, y ∈ V ↔ ∃ x ∈ q, inM N g x y) →
    ∃ V' k, loopO (f_plenumref17_Members.b1 l g) (V, (q.length : Int)) = some (.inl (V', k)) ∧ UpV V' ∧ ∀ y, y ∈ V' ↔ ∃ x ∈ l, inM N g x y
  | [], q, V, hs, hu, hV, hm => by
    rw [List.append_nil] at hs
    subst hs
    refine ⟨V, (l.length : Int), loopO_inr ?_, hu, hm⟩
    unfold f_plenumref17_Members.b1
    rw [if_neg (by simp)]
  | x :: s, q, V, hs, hu, hV, hm => by
    have hl := hf.1
    have hlen : q.length < l.length := by rw [hs]; simp
    have hr : rd l (q.length : Int) = x := by rw [hs]; exact rd_mid rfl
    have hxl := (hf.2 x (by rw [hs]; simp)).2.2
    have hw : IntKind.i64.wrap ((q.length : Int) + 1) = ((q ++ [x]).length : Int) := by rw [wi (m := l.length) (by simp only [big]; omega) hlen]; simp
    by_cases hc : liveP 6 x = true ∧ x.f_Head.f_Id = g
    · obtain ⟨V', k, m1, m2, m3, m4⟩ := mem_in l N hl hN V V (q.length : Int) x (by omega) (by omega) hr hxl (by omega) x.f_Verts [] V rfl hu (by simp) (by simp)
      rw [show ((([] : List T_api_Vert).length : Nat) : Int) = 0 from rfl] at m1
      have hstep : f_plenumref17_Members.b1 l g (V, (q.length : Int)) = some (.inl (V', ((q ++ [x]).length : Int))) := by
        have hc1 := hc.1
        simp only [liveP, Bool.and_eq_true, decide_eq_true_eq] at hc1
        unfold f_plenumref17_Members.b1
        simp only [hr, hw]
        rw [if_pos (by omega), if_pos (by omega), if_neg (by omega), if_pos hc1.1]
        simp only [Option.bind_some, hc.2, decide_true, Bool.not_true, Bool.false_eq_true, if_false]
        rw [m1]
        rfl
      rw [loopO_inl hstep]
      refine mem_out l N g hf hN s (q ++ [x]) V' (by rw [hs]; simp) m2 (by simp; omega) (fun y => ?_)
      rw [m4, hm]
      simp only [List.mem_append, List.mem_singleton]
      constructor
      · rintro (⟨z, hz, h⟩ | h)
        · exact ⟨z, .inl hz, h⟩
        · exact ⟨x, .inr rfl, hc.1, hc.2, h⟩
      · rintro ⟨z, hz | rfl, h⟩
        · exact .inl ⟨z, hz, h⟩
        · exact .inr h.2.2
    · have hstep : f_plenumref17_Members.b1 l g (V, (q.length : Int)) = some (.inl (V, ((q ++ [x]).length : Int))) := by
        unfold f_plenumref17_Members.b1
        simp only [hr, hw]
        rw [if_pos (by omega), if_pos (by omega)]
        by_cases c1 : 3600 ≤ x.f_Head.f_Age
        · rw [if_pos c1]; rfl
        · rw [if_neg c1]
          by_cases c2 : x.f_Head.f_Kind = 6
          · rw [if_pos c2]
            by_cases c3 : x.f_Head.f_Id = g
            · exact absurd ⟨by simp [liveP, c2]; omega, c3⟩ hc
            · simp [c3]
          · rw [if_neg c2]; rfl
      rw [loopO_inl hstep]
      refine mem_out l N g hf hN s (q ++ [x]) V (by rw [hs]; simp) hu (by simp; omega) (fun y => ?_)
      rw [hm]
      simp only [List.mem_append, List.mem_singleton]
      constructor
      · rintro ⟨z, hz, h⟩
        exact ⟨z, .inl hz, h⟩
      · rintro ⟨z, hz | rfl, h⟩
        · exact ⟨z, hz, h⟩
        · exact absurd ⟨h.1, h.2.1⟩ hc
theorem rmembers_ok (l N G : List T_api_Lsa) (g : Int) (hf : Fit l) (hN : N.Perm (l.filter (liveP 2))) (hG : G.Perm (l.filter (liveP 6))) (hlen : (G.flatMap (rawX N g)).length ≤ 163840) : f_plenumref17_Members l g = some (membersF N G g) := by
  obtain ⟨V, k, h1, h2, h3⟩ := mem_out l N g hf hN l [] [] rfl List.Pairwise.nil (by simp) (by simp)
  obtain ⟨k1, k2⟩ := membersF_up N G g (by omega)
  unfold f_plenumref17_Members
  rw [show (0 : Int) = ((([] : List T_api_Lsa).length : Nat) : Int) from rfl, h1]
  simp only [Option.bind_some]
  congr 1
  refine up_eq _ _ h2 k1 (fun y => ?_)
  rw [h3, k2, List.mem_flatMap]
  constructor
  · rintro ⟨x, hx, a1, a2, a3⟩
    exact ⟨x, hG.symm.subset (List.mem_filter.2 ⟨hx, a1⟩), by unfold rawX; rw [if_pos a2]; exact a3⟩
  · rintro ⟨x, hx, a⟩
    have hx' := List.mem_filter.1 (hG.subset hx)
    unfold rawX at a
    by_cases c : x.f_Head.f_Id = g
    · rw [if_pos c] at a; exact ⟨x, hx'.1, hx'.2, c, a⟩
    · rw [if_neg c] at a; cases a
theorem pure_TopoMaps : TopoMaps.Pure := by
  intro l g hw hg
  unfold f_plenumlaw17_TopoMaps
  rcases right_ok l with h | ⟨hR, h⟩
  · rw [h]
    simp only [Option.bind_some, Bool.false_eq_true, if_false, awake_ok]
  · rw [h]
    simp only [Option.bind_some, if_true]
    obtain ⟨C1, C2, a1, a2, a3, a4, a5⟩ := map_ok l hR.fit
    have hP : Parts l C1 C2 := ⟨hR, a1, a2, a3, a4⟩
    rw [a5, hP.map]
    simp only [Option.bind_some]
    rw [same_self _ (mapF_small _ _ hP.lenR hP.lenN (fun x hx => (hR.fit.2 x (hP.inR hx).1).1) (fun x hx => (hR.fit.2 x (hP.inN hx).1).2.1))]
    simp only [Option.bind_some, if_true]
    obtain ⟨N, G, c1, c2, c3, c4, c5, c6⟩ := members_ok l g hR.fit
    rw [c6, rmembers_ok l N G g hR.fit c1 c3 c5]
    simp only [Option.bind_some]
    have hlen : (membersF N G g).length ≤ 163840 := by
      unfold membersF
      have h1 := cpt_len eqV (sortV (G.flatMap (rawX N g)))
      have h2 := (sortV_ok (G.flatMap (rawX N g)) (by omega)).2.1.length_eq
      omega
    rw [verts_self _ (by simp only [big]; omega)]
    simp only [Option.bind_some, if_true, awake_ok]
theorem TopoMaps_holds : Rows.TopoMapsSaid := TopoMaps_row pure_TopoMaps
end Go.Proofs.Ytbjnbjgiidcfjaa
