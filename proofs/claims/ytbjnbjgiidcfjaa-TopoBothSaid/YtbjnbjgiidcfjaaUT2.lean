/- Chapter 17, plain: what topo.Map makes of the routers and the networks. Conditions: none. -/
import Derived.Test.YtbjnbjgiidcfjaaUT1
set_option linter.unusedVariables false
set_option linter.unusedSectionVars false
set_option linter.unusedSimpArgs false
namespace Go.Proofs.Ytbjnbjgiidcfjaa
open Go Go.Proofs.Ytbjnbjgiidcfjaa.Sp
/-! ### Masks -/
def maskF (n : Int) : Int := bits .and .i64 (shlI .i64 4294967295 (IntKind.i64.wrap (32 - (if (if 32 < n then 32 else n) > 0 then (if 32 < n then 32 else n) else 0)))) 4294967295
theorem mask_ok (n : Int) : f_addr_Mask n = some (maskF n) := by
  unfold f_addr_Mask maskF
  rw [if_pos]
  have h : ∀ m : Int, 0 ≤ m → m ≤ 32 → 0 ≤ IntKind.i64.wrap (32 - m) := fun m h0 h1 => by rw [w64' (by omega) (by omega)]; omega
  refine h _ ?_ ?_
  · split
    · omega
    · omega
  · split
    · split <;> omega
    · omega
def netF (a n : Int) : Int := bits .and .i64 a (maskF n)
theorem net_ok (a n : Int) : f_addr_Net a n = some (netF a n) := by
  unfold f_addr_Net netF
  rw [mask_ok]; rfl
/-- The bits of a mask. -/
def bitsP (x : Int) (n : Nat) : Bool := decide (maskF (n : Int) = x)
def bitsF (x : Int) : Int := ((((List.range' 0 33).find? (bitsP x)).map (fun n : Nat => (n : Int))).getD (-1))
theorem bits_loop (x : Int) : ∀ (m n : Nat), n + m = 33 → (∀ k, (List.range' n m).find? (bitsP x) = some k → loopO (f_addr_Bits.b0 x) (n : Int) = some (.inr (k : Int))) ∧ ((List.range' n m).find? (bitsP x) = none → ∃ s, loopO (f_addr_Bits.b0 x) (n : Int) = some (.inl s)) := by
  intro m
  induction m with
  | zero =>
    intro n hn
    refine ⟨fun k hk => by simp at hk, fun _ => ⟨(n : Int), loopO_inr ?_⟩⟩
    unfold f_addr_Bits.b0
    rw [if_neg (by omega)]
  | succ m ih =>
    intro n hn
    by_cases h : maskF (n : Int) = x
    · have hf : (List.range' n (m + 1)).find? (bitsP x) = some n := by simp [List.range'_succ, bitsP, h]
      rw [hf]
      refine ⟨fun k hk => ?_, fun hk => by cases hk⟩
      obtain rfl := Option.some.inj hk
      refine loopO_inr ?_
      unfold f_addr_Bits.b0
      rw [if_pos (by omega), mask_ok]
      simp only [Option.bind_some]
      rw [if_pos h]
    · have hf : (List.range' n (m + 1)).find? (bitsP x) = (List.range' (n + 1) m).find? (bitsP x) := by simp [List.range'_succ, bitsP, h]
      have hs : loopO (f_addr_Bits.b0 x) (n : Int) = loopO (f_addr_Bits.b0 x) ((n + 1 : Nat) : Int) := by
        refine loopO_inl ?_
        unfold f_addr_Bits.b0
        rw [if_pos (by omega), mask_ok]
        simp only [Option.bind_some]
        rw [if_neg h, w64' (by omega) (by omega)]
        rfl
      rw [hf, hs]
      exact ih (n + 1) (by omega)
theorem bits_ok (x : Int) : f_addr_Bits x = some (bitsF x) := by
  obtain ⟨h1, h2⟩ := bits_loop x 33 0 rfl
  rw [show ((0 : Nat) : Int) = 0 from rfl] at h1 h2
  unfold f_addr_Bits bitsF
  cases hf : (List.range' 0 33).find? (bitsP x) with
  | some k => rw [h1 k hf]; rfl
  | none => obtain ⟨s, hs⟩ := h2 hf; rw [hs]; rfl
/-! ### Edges of routers -/
abbrev M_ := List (Int × T_api_Lsa)
def edgeT (r : T_api_Lsa) (k : T_api_Link) : T_api_Edge := ⟨⟨1, r.f_Head.f_Id⟩, ⟨if k.f_Kind = 1 then 1 else if k.f_Kind = 2 then 2 else 0, if k.f_Kind = 1 then k.f_Id else if k.f_Kind = 2 then k.f_Id else 0⟩, k.f_Cost, k.f_Data⟩
def edgeP (t4 t7 : M_) (r : T_api_Lsa) (k : T_api_Link) : Bool :=
  if k.f_Kind = 1 then (backF (mGetD dL t4 k.f_Id) 1 r.f_Head.f_Id).isSome else if k.f_Kind = 2 then mHas t7 k.f_Id && decide (r.f_Head.f_Id ∈ (mGetD dL t7 k.f_Id).f_Routers) else false
def Small (m : M_) : Prop := ∀ k, (mGetD dL m k).f_Links.length ≤ 4096 ∧ (mGetD dL m k).f_Routers.length ≤ 4096
theorem edge_ok (t3 t6 : List T_api_Lsa) (t4 t7 : M_) (r : T_api_Lsa) (k : T_api_Link) (h4 : Small t4) (h7 : Small t7) : f_topo_area_edge_obj ⟨t3, t6, t4, t7⟩ r k = some (edgeT r k, edgeP t4 t7 r k) := by
  unfold f_topo_area_edge_obj edgeT edgeP
  by_cases h1 : k.f_Kind = 1
  · have := back_ok (mGetD dL t4 k.f_Id) 1 r.f_Head.f_Id (by have := (h4 k.f_Id).1; simp only [big]; omega)
    simp only [h1, if_true]
    rw [show (mGetD (⟨(⟨0, 0, 0, 0, 0, 0, 0⟩ : T_api_Head), 0, [], 0, [], []⟩ : T_api_Lsa) t4 k.f_Id) = mGetD dL t4 k.f_Id from rfl, this]
    rfl
  · by_cases h2 : k.f_Kind = 2
    · have := contains_ok (mGetD dL t7 k.f_Id).f_Routers r.f_Head.f_Id (by have := (h7 k.f_Id).2; simp only [big]; omega)
      rw [if_neg h1, if_pos h2]
      simp only [h2, if_true]
      rw [show (mGetD (⟨(⟨0, 0, 0, 0, 0, 0, 0⟩ : T_api_Head), 0, [], 0, [], []⟩ : T_api_Lsa) t7 k.f_Id) = mGetD dL t7 k.f_Id from rfl, this]
      cases hm : mHas t7 k.f_Id <;> simp
    · simp [h1, h2]
def edgeF (t4 t7 : M_) (r : T_api_Lsa) (k : T_api_Link) : Option T_api_Edge := if edgeP t4 t7 r k then some (edgeT r k) else none
def stubF (r : T_api_Lsa) (k : T_api_Link) : Option T_api_Stub := if k.f_Kind = 3 ∧ 0 ≤ bitsF k.f_Data then some ⟨r.f_Head.f_Id, netF k.f_Id (bitsF k.f_Data), bitsF k.f_Data, k.f_Cost⟩ else none
theorem map_b0 (t3 t6 : List T_api_Lsa) (t4 t7 : M_) (h4 : Small t4) (h7 : Small t7) (i : Int) (vs : List T_api_Vert) (es : List T_api_Edge) (ss : List T_api_Stub) (ws : List Int) (r : T_api_Lsa) (hr : rd t3 i = r) (he : es.length ≤ 1048576) (hs : ss.length ≤ 1048576) (hl : r.f_Links.length ≤ 4096) :
    loopO (f_topo_Map.b0 t3 t4 t6 t7 (i, vs, es, ss, ws)) (0, es, ss) = some (.inl ((r.f_Links.length : Int), es ++ r.f_Links.filterMap (edgeF t4 t7 r), ss ++ r.f_Links.filterMap (stubF r))) := by
  have hb : (r.f_Links.length : Int) ≤ big := by simp only [big]; omega
  have := loop_all (b := f_topo_Map.b0 t3 t4 t6 t7 (i, vs, es, ss, ws)) (fun p => ((p.length : Int), es ++ p.filterMap (edgeF t4 t7 r), ss ++ p.filterMap (stubF r))) r.f_Links (by
    intro p x s hp
    have hlen : p.length < r.f_Links.length := by rw [hp]; simp
    have hx : rd r.f_Links (p.length : Int) = x := by rw [hp]; exact rd_mid rfl
    have f1 : (p.filterMap (edgeF t4 t7 r)).length ≤ p.length := List.length_filterMap_le _ _
    have f2 : (p.filterMap (stubF r)).length ≤ p.length := List.length_filterMap_le _ _
    unfold f_topo_Map.b0
    simp only [hr, hx, wi hb hlen, edge_ok t3 t6 t4 t7 r x h4 h7, bits_ok, net_ok, Option.bind_some]
    rw [if_pos (by omega), if_pos (by omega)]
    have a1 : (if edgeP t4 t7 r x = true then (if ((es ++ p.filterMap (edgeF t4 t7 r)).length + 1) * 48 ≤ 140737488355328 then some (Sum.inl ((es ++ p.filterMap (edgeF t4 t7 r)) ++ [edgeT r x])) else none) else some (.inl (es ++ p.filterMap (edgeF t4 t7 r))) : Option (Sum (List T_api_Edge) f_topo_Map.R)) = some (.inl (es ++ (p ++ [x]).filterMap (edgeF t4 t7 r))) := by
      by_cases h : edgeP t4 t7 r x = true
      · rw [if_pos h, if_pos (by simp only [List.length_append]; omega)]
        simp [edgeF, h]
      · rw [if_neg h]
        simp [edgeF, h]
    rw [a1]
    simp only [Option.bind_some]
    have a2 : ∃ c, (if x.f_Kind = 3 then some (Sum.inl (decide (0 ≤ bitsF x.f_Data))) else some (.inl false) : Option (Sum Bool f_topo_Map.R)) = some (.inl c) ∧ (c = true ↔ (x.f_Kind = 3 ∧ 0 ≤ bitsF x.f_Data)) := by
      by_cases h : x.f_Kind = 3
      · exact ⟨_, if_pos h, by simp [h]⟩
      · exact ⟨_, if_neg h, by simp [h]⟩
    obtain ⟨c, a3, a4⟩ := a2
    rw [a3]
    simp only [Option.bind_some]
    by_cases h : c = true
    · have h' := a4.1 h
      rw [if_pos h, if_pos (by simp only [List.length_append]; omega)]
      simp [stubF, h']
    · have h' : ¬ (x.f_Kind = 3 ∧ 0 ≤ bitsF x.f_Data) := fun e => h (a4.2 e)
      rw [if_neg h]
      simp [stubF, h'])
  simp only [List.filterMap_nil, List.append_nil, List.length_nil] at this
  rw [show ((0 : Nat) : Int) = 0 from rfl] at this
  rw [this]
  refine loopO_inr ?_
  unfold f_topo_Map.b0
  rw [if_neg (by simp [hr])]
def wildP (r : T_api_Lsa) : Option Int := if bits .and .i64 r.f_Flags 8 = 0 then none else some r.f_Head.f_Id
theorem flatMap_len {α β : Type} (f : α → List β) (c : Nat) : ∀ (l : List α), (∀ x ∈ l, (f x).length ≤ c) → (l.flatMap f).length ≤ l.length * c
  | [], _ => by simp
  | x :: t, h => by
    have := flatMap_len f c t (fun y hy => h y (List.mem_cons_of_mem _ hy))
    have := h x (List.mem_cons_self ..)
    rw [List.flatMap_cons, List.length_append, List.length_cons, Nat.add_mul]; omega
def rEdges (t4 t7 : M_) (r : T_api_Lsa) : List T_api_Edge := r.f_Links.filterMap (edgeF t4 t7 r)
def rStubs (r : T_api_Lsa) : List T_api_Stub := r.f_Links.filterMap (stubF r)
theorem map_b1 (t3 t6 : List T_api_Lsa) (t4 t7 : M_) (h4 : Small t4) (h7 : Small t7) (h3 : t3.length ≤ 40) (hl : ∀ r ∈ t3, r.f_Links.length ≤ 4096) :
    loopO (f_topo_Map.b1 t3 t4 t6 t7) (0, [], [], [], []) = some (.inl ((t3.length : Int), t3.map (fun r => ⟨1, r.f_Head.f_Id⟩), t3.flatMap (rEdges t4 t7), t3.flatMap rStubs, t3.filterMap wildP)) := by
  have hb : (t3.length : Int) ≤ big := by simp only [big]; omega
  have := loop_all (b := f_topo_Map.b1 t3 t4 t6 t7) (fun p => ((p.length : Int), p.map (fun r => (⟨1, r.f_Head.f_Id⟩ : T_api_Vert)), p.flatMap (rEdges t4 t7), p.flatMap rStubs, p.filterMap wildP)) t3 (by
    intro p x s hp
    have hlen : p.length < t3.length := by rw [hp]; simp
    have hx : rd t3 (p.length : Int) = x := by rw [hp]; exact rd_mid rfl
    have hxm : x ∈ t3 := by rw [hp]; simp
    have hpm : ∀ y ∈ p, y ∈ t3 := fun y hy => by rw [hp]; simp [hy]
    have f1 : (p.flatMap (rEdges t4 t7)).length ≤ p.length * 4096 := flatMap_len _ _ _ (fun y hy => Nat.le_trans (List.length_filterMap_le _ _) (hl y (hpm y hy)))
    have f2 : (p.flatMap rStubs).length ≤ p.length * 4096 := flatMap_len _ _ _ (fun y hy => Nat.le_trans (List.length_filterMap_le _ _) (hl y (hpm y hy)))
    have f3 : (p.filterMap wildP).length ≤ p.length := List.length_filterMap_le _ _
    unfold f_topo_Map.b1
    simp only [hx, wi hb hlen]
    rw [if_pos (by omega), if_pos (by omega), if_pos (by simp only [List.length_map]; omega)]
    have a1 : (if (bits .and .i64 x.f_Flags 8) = 0 then some (Sum.inl (p.filterMap wildP)) else (if ((p.filterMap wildP).length + 1) * 8 ≤ 140737488355328 then some (.inl (p.filterMap wildP ++ [x.f_Head.f_Id])) else none) : Option (Sum (List Int) f_topo_Map.R)) = some (.inl ((p ++ [x]).filterMap wildP)) := by
      by_cases h : (bits .and .i64 x.f_Flags 8) = 0
      · rw [if_pos h]; simp [wildP, h]
      · rw [if_neg h, if_pos (by omega)]; simp [wildP, h]
    rw [a1]
    simp only [Option.bind_some]
    rw [map_b0 t3 t6 t4 t7 h4 h7 _ _ _ _ _ x hx (by omega) (by omega) (hl x hxm)]
    simp [rEdges, rStubs])
  simp only [List.map_nil, List.flatMap_nil, List.filterMap_nil, List.length_nil] at this
  rw [show ((0 : Nat) : Int) = 0 from rfl] at this
  rw [this]
  refine loopO_inr ?_
  unfold f_topo_Map.b1
  rw [if_neg (by simp)]
/-! ### Edges of networks -/
def nEdge (n : T_api_Lsa) (r : Int) (k : T_api_Link) : T_api_Edge := ⟨⟨2, n.f_Head.f_Id⟩, ⟨1, r⟩, 0, k.f_Data⟩
def nEdges0 (t4 : M_) (n : T_api_Lsa) : List Int → List Int → List T_api_Edge
  | _, [] => []
  | p, r :: t => (match backF (mGetD dL t4 r) 2 n.f_Head.f_Id with | some k => if r ∈ p then [] else [nEdge n r k] | none => []) ++ nEdges0 t4 n (p ++ [r]) t
def nEdges (t4 : M_) (n : T_api_Lsa) : List T_api_Edge := nEdges0 t4 n [] n.f_Routers
theorem nEdges0_len (t4 : M_) (n : T_api_Lsa) : ∀ (l p : List Int), (nEdges0 t4 n p l).length ≤ l.length
  | [], p => by simp [nEdges0]
  | r :: t, p => by
    have := nEdges0_len t4 n t (p ++ [r])
    unfold nEdges0
    rw [List.length_append, List.length_cons]
    split
    · split <;> simp <;> omega
    · simp; omega
theorem map_b2 (t6 : List T_api_Lsa) (t4 : M_) (h4 : Small t4) (i : Int) (vs : List T_api_Vert) (es0 : List T_api_Edge) (sp : List T_api_Span) (n : T_api_Lsa) (hn : rd t6 i = n) (hl : n.f_Routers.length ≤ 4096) :
    ∀ (suf pre : List Int) (es : List T_api_Edge), n.f_Routers = pre ++ suf → es.length + suf.length ≤ 2097152 →
    loopO (f_topo_Map.b2 t4 t6 (i, vs, es0, sp)) ((pre.length : Int), es) = some (.inl ((n.f_Routers.length : Int), es ++ nEdges0 t4 n pre suf))
  | [], pre, es, hp, he => by
    rw [List.append_nil] at hp
    refine loopO_inr ?_
    unfold f_topo_Map.b2
    simp only [hn]
    rw [if_neg (by rw [hp]; omega), hp]
    simp [nEdges0]
  | r :: suf, pre, es, hp, he => by
    have hlen : pre.length < n.f_Routers.length := by rw [hp]; simp
    have hb : (n.f_Routers.length : Int) ≤ big := by simp only [big]; omega
    have hx : rd n.f_Routers (pre.length : Int) = r := by rw [hp]; exact rd_mid rfl
    have hcut : cutL n.f_Routers 0 (pre.length : Int) = pre := by rw [hp]; unfold cutL; simp
    have hbk := back_ok (mGetD dL t4 r) 2 n.f_Head.f_Id (by have := (h4 r).1; simp only [big]; omega)
    have hct := contains_ok pre r (by simp only [big] at *; omega)
    have hstep : f_topo_Map.b2 t4 t6 (i, vs, es0, sp) ((pre.length : Int), es) = some (.inl (((pre ++ [r]).length : Int), es ++ (match backF (mGetD dL t4 r) 2 n.f_Head.f_Id with | some k => if r ∈ pre then [] else [nEdge n r k] | none => []))) := by
      unfold f_topo_Map.b2
      simp only [hn, hx, hcut, wi hb hlen]
      rw [if_pos (by omega), if_pos (by omega), show (mGetD (⟨(⟨0, 0, 0, 0, 0, 0, 0⟩ : T_api_Head), 0, [], 0, [], []⟩ : T_api_Lsa) t4 r) = mGetD dL t4 r from rfl, hbk]
      cases hk : backF (mGetD dL t4 r) 2 n.f_Head.f_Id with
      | none => simp
      | some k =>
        simp only [Option.bind_some, Option.getD_some, Option.isSome_some, if_true]
        rw [if_pos (by omega), hct]
        simp only [Option.bind_some]
        by_cases hm : r ∈ pre
        · rw [if_pos (by simpa using hm)]
          simp [hm]
        · rw [if_neg (by simpa using hm), if_pos (by simp only [List.length_cons] at he; omega)]
          simp [hm, nEdge]
    rw [loopO_inl hstep, map_b2 t6 t4 h4 i vs es0 sp n hn hl suf (pre ++ [r]) _ (by rw [hp]; simp) (by
      simp only [List.length_append, List.length_cons] at he ⊢
      split
      · split <;> simp <;> omega
      · simp; omega)]
    simp [nEdges0]
def spanF (n : T_api_Lsa) : T_api_Span := ⟨⟨2, n.f_Head.f_Id⟩, netF n.f_Head.f_Id n.f_Bits, n.f_Bits⟩
theorem map_b3 (t6 : List T_api_Lsa) (t4 : M_) (h4 : Small t4) (h6 : t6.length ≤ 40) (hl : ∀ r ∈ t6, r.f_Routers.length ≤ 4096) (vs : List T_api_Vert) (es : List T_api_Edge) (hv : vs.length ≤ 40) (he : es.length ≤ 1048576) :
    loopO (f_topo_Map.b3 t4 t6) (0, vs, es, []) = some (.inl ((t6.length : Int), vs ++ t6.map (fun r => ⟨2, r.f_Head.f_Id⟩), es ++ t6.flatMap (nEdges t4), t6.map spanF)) := by
  have hb : (t6.length : Int) ≤ big := by simp only [big]; omega
  have := loop_all (b := f_topo_Map.b3 t4 t6) (fun p => ((p.length : Int), vs ++ p.map (fun r => (⟨2, r.f_Head.f_Id⟩ : T_api_Vert)), es ++ p.flatMap (nEdges t4), p.map spanF)) t6 (by
    intro p x s hp
    have hlen : p.length < t6.length := by rw [hp]; simp
    have hx : rd t6 (p.length : Int) = x := by rw [hp]; exact rd_mid rfl
    have hxm : x ∈ t6 := by rw [hp]; simp
    have hpm : ∀ y ∈ p, y ∈ t6 := fun y hy => by rw [hp]; simp [hy]
    have f1 : (p.flatMap (nEdges t4)).length ≤ p.length * 4096 := flatMap_len _ _ _ (fun y hy => Nat.le_trans (nEdges0_len _ _ _ _) (hl y (hpm y hy)))
    have hxl := hl x hxm
    unfold f_topo_Map.b3
    simp only [hx, wi hb hlen, net_ok, Option.bind_some]
    rw [if_pos (by omega), if_pos (by omega), if_pos (by simp only [List.length_map, List.length_append]; omega), if_pos (by simp only [List.length_map]; omega)]
    have h2 := map_b2 t6 t4 h4 (p.length : Int) (vs ++ p.map (fun r => (⟨2, r.f_Head.f_Id⟩ : T_api_Vert))) (es ++ p.flatMap (nEdges t4)) (p.map spanF) x hx hxl x.f_Routers [] (es ++ p.flatMap (nEdges t4)) rfl (by simp only [List.length_append]; omega)
    rw [List.length_nil, show ((0 : Nat) : Int) = 0 from rfl] at h2
    rw [h2]
    simp [nEdges, spanF])
  simp only [List.map_nil, List.flatMap_nil, List.length_nil, List.append_nil] at this
  rw [show ((0 : Nat) : Int) = 0 from rfl] at this
  rw [this]
  refine loopO_inr ?_
  unfold f_topo_Map.b3
  rw [if_neg (by simp)]
/-! ### The map -/
def mapF (R N : List T_api_Lsa) : T_api_Map := ⟨R.map (fun r => ⟨1, r.f_Head.f_Id⟩) ++ N.map (fun r => ⟨2, r.f_Head.f_Id⟩), R.flatMap (rEdges (byId R) (byId N)) ++ N.flatMap (nEdges (byId R)), R.flatMap rStubs, N.map spanF, R.filterMap wildP⟩
/-- Rising by Id, each but once. -/
def Up (l : List T_api_Lsa) : Prop := l.Pairwise (fun x y => x.f_Head.f_Id < y.f_Head.f_Id)
theorem dd_up : ∀ (l : List T_api_Lsa) (p : T_api_Lsa), Sd ltA (p :: l) → (dd eI p l).Pairwise (fun x y => x.f_Head.f_Id < y.f_Head.f_Id) ∧ ∀ y ∈ dd eI p l, p.f_Head.f_Id < y.f_Head.f_Id
  | [], p, h => by simp [dd]
  | x :: t, p, h => by
    obtain ⟨h1, h2⟩ := List.pairwise_cons.1 h
    obtain ⟨k1, k2⟩ := dd_up t x h2
    have hx := h1 x (List.mem_cons_self ..)
    unfold ltA at hx
    unfold dd
    by_cases he : eI x p = true
    · rw [if_pos he]
      have : x.f_Head.f_Id = p.f_Head.f_Id := by simpa [eI] using he
      exact ⟨k1, fun y hy => by have := k2 y hy; omega⟩
    · rw [if_neg he]
      have : ¬ x.f_Head.f_Id = p.f_Head.f_Id := by simpa [eI] using he
      refine ⟨List.pairwise_cons.2 ⟨k2, k1⟩, fun y hy => ?_⟩
      rcases List.mem_cons.1 hy with rfl | hy
      · omega
      · have := k2 y hy; omega
theorem cpt_up (l : List T_api_Lsa) (h : Sd ltA l) : Up (cpt eI l) := by
  cases l with
  | nil => simp [cpt, Up]
  | cons x t => obtain ⟨h1, h2⟩ := dd_up t x h; exact List.pairwise_cons.2 ⟨h2, h1⟩
def Fit (l : List T_api_Lsa) : Prop := l.length ≤ 40 ∧ ∀ x ∈ l, x.f_Links.length ≤ 4096 ∧ x.f_Routers.length ≤ 4096 ∧ x.f_Verts.length ≤ 4096
theorem Up.ne {l : List T_api_Lsa} (h : Up l) : l.Pairwise (fun x y => x.f_Head.f_Id ≠ y.f_Head.f_Id) := h.imp (fun h => by omega)
theorem small_of (l : List T_api_Lsa) (hu : Up l) (h : ∀ x ∈ l, x.f_Links.length ≤ 4096 ∧ x.f_Routers.length ≤ 4096) : Small (byId l) := by
  intro k
  rw [(byId_get l k hu.ne).1]
  cases hf : atId l k with
  | none => simp [dL]
  | some x => exact h x (List.mem_of_find?_eq_some hf)
theorem map_ok (l : List T_api_Lsa) (hl : Fit l) : ∃ C1 C2, C1.Perm (l.filter (liveP 1)) ∧ Sd ltA C1 ∧ C2.Perm (l.filter (liveP 2)) ∧ Sd ltA C2 ∧ f_topo_Map l = some (mapF (cpt eI (C1.filter ownP_)) (cpt eI C2)) := by
  obtain ⟨C1, a1, a2, a3⟩ := live_ok l 1 hl.1
  obtain ⟨C2, b1, b2, b3⟩ := live_ok l 2 hl.1
  refine ⟨C1, C2, a2, a3, b2, b3, ?_⟩
  have l1 : C1.length ≤ 40 := by rw [a2.length_eq]; exact Nat.le_trans (List.length_filter_le _ _) hl.1
  have l2 : C2.length ≤ 40 := by rw [b2.length_eq]; exact Nat.le_trans (List.length_filter_le _ _) hl.1
  have l3 : (C1.filter ownP_).length ≤ 40 := Nat.le_trans (List.length_filter_le _ _) l1
  have m1 : ∀ x ∈ cpt eI (C1.filter ownP_), x ∈ l := fun x hx => (List.mem_filter.1 (a2.subset (List.mem_filter.1 ((cpt_sub _ _).subset hx)).1)).1
  have m2 : ∀ x ∈ cpt eI C2, x ∈ l := fun x hx => (List.mem_filter.1 (b2.subset ((cpt_sub _ _).subset hx))).1
  have u1 : Up (cpt eI (C1.filter ownP_)) := cpt_up _ (List.Pairwise.filter _ a3)
  have u2 : Up (cpt eI C2) := cpt_up _ b3
  have s1 := small_of _ u1 (fun x hx => ⟨(hl.2 x (m1 x hx)).1, (hl.2 x (m1 x hx)).2.1⟩)
  have s2 := small_of _ u2 (fun x hx => ⟨(hl.2 x (m2 x hx)).1, (hl.2 x (m2 x hx)).2.1⟩)
  have n1 : (cpt eI (C1.filter ownP_)).length ≤ 40 := Nat.le_trans (cpt_len _ _) l3
  have n2 : (cpt eI C2).length ≤ 40 := Nat.le_trans (cpt_len _ _) l2
  unfold f_topo_Map
  rw [a1, b1]
  simp only [Option.bind_some]
  rw [delA _ (by simp only [big]; omega)]
  simp only [Option.bind_some]
  rw [onceA _ (by simp only [big]; omega), onceA C2 (by simp only [big]; omega)]
  simp only [Option.bind_some]
  rw [map_b1 _ _ _ _ s1 s2 n1 (fun r hr => (hl.2 r (m1 r hr)).1)]
  simp only [Option.bind_some]
  have f1 : ((cpt eI (C1.filter ownP_)).flatMap (rEdges (byId (cpt eI (C1.filter ownP_))) (byId (cpt eI C2)))).length ≤ (cpt eI (C1.filter ownP_)).length * 4096 := flatMap_len _ _ _ (fun y hy => Nat.le_trans (List.length_filterMap_le _ _) (hl.2 y (m1 y hy)).1)
  rw [map_b3 _ _ s1 n2 (fun r hr => (hl.2 r (m2 r hr)).2.1) _ _ (by simp only [List.length_map]; omega) (by omega)]
  rfl
end Go.Proofs.Ytbjnbjgiidcfjaa
