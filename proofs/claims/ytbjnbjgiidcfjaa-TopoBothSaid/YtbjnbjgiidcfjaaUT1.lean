/- Chapter 17, plain: sorting of advertisements, those that live, once, links back. Conditions: none. -/
import Derived.Test.YtbjnbjgiidcfjaaG
import Derived.Test.YtbjnbjgiidcfjaaUGS5
import Derived.Test.YtbjnbjgiidcfjaaUGD
import Derived.KernelRfl
set_option linter.unusedVariables false
set_option linter.unusedSectionVars false
set_option linter.unusedSimpArgs false
namespace Go.Proofs.Ytbjnbjgiidcfjaa
open Go Go.Proofs.Ytbjnbjgiidcfjaa.Sp
theorem cmpInt (x y : Int) : f_cmp_Compare_int x y = some (if x < y then -1 else if y < x then 1 else 0) := by
  unfold f_cmp_Compare_int f_cmp_isNaN_int
  simp only [Option.bind_some, decide_true, Bool.not_true, Bool.false_eq_true, if_false]
  split
  · rfl
  · split <;> rfl
theorem or2 (a b : Int) : f_cmp_Or_int [a, b] = some (if a = 0 then b else a) := by
  unfold f_cmp_Or_int
  by_cases h : a = 0
  · subst h
    have s1 : f_cmp_Or_int.b0 [0, b] 0 = some (.inl 1) := by
      unfold f_cmp_Or_int.b0; simp [rd, w64']
    rw [loopO_inl s1]
    by_cases h2 : b = 0
    · subst h2
      have s2 : f_cmp_Or_int.b0 [0, 0] 1 = some (.inl 2) := by unfold f_cmp_Or_int.b0; simp [rd, w64']
      have s3 : f_cmp_Or_int.b0 [0, 0] 2 = some (.inr (.inl 2)) := by unfold f_cmp_Or_int.b0; simp
      rw [loopO_inl s2, loopO_inr s3]; simp
    · have s2 : f_cmp_Or_int.b0 [0, b] 1 = some (.inr (.inr b)) := by unfold f_cmp_Or_int.b0; simp [rd, h2]
      rw [loopO_inr s2]; simp
  · have s1 : f_cmp_Or_int.b0 [a, b] 0 = some (.inr (.inr a)) := by unfold f_cmp_Or_int.b0; simp [rd, h]
    rw [loopO_inr s1]; simp [h]
def ltA (x y : T_api_Lsa) : Prop := x.f_Head.f_Id < y.f_Head.f_Id ∨ (x.f_Head.f_Id = y.f_Head.f_Id ∧ x.f_Head.f_Adv < y.f_Head.f_Adv)
def ltV (x y : T_api_Vert) : Prop := x.f_Kind < y.f_Kind ∨ (x.f_Kind = y.f_Kind ∧ x.f_Id < y.f_Id)
theorem lex_cmp (a b c d : Int) : ∃ n, (if (if a < b then (-1 : Int) else if b < a then 1 else 0) = 0 then (if c < d then (-1 : Int) else if d < c then 1 else 0) else (if a < b then (-1 : Int) else if b < a then 1 else 0)) = n ∧ (n < 0 ↔ (a < b ∨ (a = b ∧ c < d))) := by
  refine ⟨_, rfl, ?_⟩
  by_cases h1 : a < b
  · simp [h1]
  · by_cases h2 : b < a
    · simp [h1, h2]; omega
    · have : a = b := by omega
      subst this
      by_cases h3 : c < d
      · simp [h3]
      · by_cases h4 : d < c <;> simp [h3, h4]
theorem cmpA : Cmp f_topo_live_1 ltA := by
  intro x y
  obtain ⟨n, h1, h2⟩ := lex_cmp x.f_Head.f_Id y.f_Head.f_Id x.f_Head.f_Adv y.f_Head.f_Adv
  refine ⟨n, ?_, h2⟩
  unfold f_topo_live_1
  rw [cmpInt, cmpInt]
  simp only [Option.bind_some, or2]
  rw [h1]
theorem ordA : Ord ltA := ⟨fun a b c h1 h2 => by unfold ltA at *; omega, fun a b h => by unfold ltA at *; omega⟩
theorem ordV : Ord ltV := ⟨fun a b c h1 h2 => by unfold ltV at *; omega, fun a b h => by unfold ltV at *; omega⟩
theorem totV (a b : T_api_Vert) (h1 : ¬ ltV a b) (h2 : ¬ ltV b a) : a = b := by
  unfold ltV at *
  obtain ⟨k, i⟩ := a
  obtain ⟨k', i'⟩ := b
  simp only at h1 h2
  simp only [T_api_Vert.mk.injEq]
  omega
theorem symA : ∀ k : Nat, f_slices_symMergeCmpFunc_api_Lsa_fn49 k = gSym f_topo_live_1 k
  | 0 => by funext a b c d; rfl
  | k + 1 => by
    rw [gSym_step, ← symA k]
    funext a b c d
    rw [f_slices_symMergeCmpFunc_api_Lsa_fn49.eq_2]
    generalize f_slices_symMergeCmpFunc_api_Lsa_fn49 k = rec_
    kernel_rfl
theorem stableS : f_slices_SortStableFunc_api_Lsa_api_Lsa_fn49 = gStableS f_topo_live_1 (f_slices_symMergeCmpFunc_api_Lsa_fn49 64) := by
  funext l
  delta f_slices_SortStableFunc_api_Lsa_api_Lsa_fn49 f_slices_stableCmpFunc_api_Lsa_fn49 f_slices_stableCmpFunc_api_Lsa_fn49.b2 f_slices_stableCmpFunc_api_Lsa_fn49.b1
  generalize f_slices_symMergeCmpFunc_api_Lsa_fn49 64 = sym_
  kernel_rfl
theorem stableA (l : List T_api_Lsa) (h : l.length ≤ 40) : ∃ C, f_slices_SortStableFunc_api_Lsa_api_Lsa_fn49 l = some C ∧ C.Perm l ∧ Sd ltA C := by
  rw [stableS, symA, ← gStable_S]
  exact stable_ok cmpA ordA l h
/-! ### Those that live -/
def liveP (k : Int) (x : T_api_Lsa) : Bool := decide (x.f_Head.f_Kind = k) && decide (x.f_Head.f_Age < 3600)
theorem live_ok (l : List T_api_Lsa) (k : Int) (hl : l.length ≤ 40) : ∃ C, f_topo_live l k = some C ∧ C.Perm (l.filter (liveP k)) ∧ Sd ltA C := by
  have hle : (l.filter (liveP k)).length ≤ 40 := Nat.le_trans (List.length_filter_le _ _) hl
  have hb : (l.length : Int) ≤ big := by simp only [big]; omega
  have hloop : loopO (f_topo_live.b0 l k) ([], 0) = some (.inl (l.filter (liveP k), (l.length : Int))) := by
    have := loop_all (b := f_topo_live.b0 l k) (fun p => (p.filter (liveP k), (p.length : Int))) l (by
      intro p x s hs
      have hlen : p.length < l.length := by rw [hs]; simp
      have hr : rd l (p.length : Int) = x := by rw [hs]; exact rd_mid rfl
      have hfl : (p.filter (liveP k)).length ≤ p.length := List.length_filter_le _ _
      unfold f_topo_live.b0
      simp only [hr, wi hb hlen]
      rw [if_pos (by omega), if_pos (by omega)]
      by_cases h1 : x.f_Head.f_Kind = k
      · by_cases h2 : x.f_Head.f_Age < 3600
        · rw [if_pos h1, if_pos h2, if_pos (by omega)]
          simp [liveP, h1, h2]
        · rw [if_pos h1, if_neg h2]
          simp [liveP, h1, h2]
      · rw [if_neg h1]
        simp [liveP, h1])
    simp only [List.filter_nil, List.length_nil] at this
    rw [show ((0 : Nat) : Int) = 0 from rfl] at this
    rw [this]
    refine loopO_inr ?_
    unfold f_topo_live.b0
    rw [if_neg (by simp)]
  obtain ⟨C, h1, h2, h3⟩ := stableA _ hle
  refine ⟨C, ?_, h2, h3⟩
  unfold f_topo_live
  rw [hloop]
  simp only [Option.bind_some]
  rw [h1]
  simp only [Option.bind_some]
  rw [if_pos h2.length_eq]
/-! ### Once -/
def ownP_ (x : T_api_Lsa) : Bool := decide (x.f_Head.f_Id = x.f_Head.f_Adv)
theorem delEq : f_slices_DeleteFunc_api_Lsa_api_Lsa_fn22 = gDel f_topo_Map_1 (⟨(⟨0, 0, 0, 0, 0, 0, 0⟩ : T_api_Head), 0, [], 0, [], []⟩ : T_api_Lsa) := by kernel_rfl
theorem delA (l : List T_api_Lsa) (hl : (l.length : Int) ≤ big) : f_slices_DeleteFunc_api_Lsa_api_Lsa_fn22 l = some (l.filter ownP_) := by
  have := del_ok (pf := f_topo_Map_1) (fun x => !ownP_ x) (fun x => rfl) (⟨(⟨0, 0, 0, 0, 0, 0, 0⟩ : T_api_Head), 0, [], 0, [], []⟩ : T_api_Lsa) l hl
  rw [delEq, this]
  simp
def eI (x y : T_api_Lsa) : Bool := decide (x.f_Head.f_Id = y.f_Head.f_Id)
theorem cptEq : f_slices_CompactFunc_api_Lsa_api_Lsa_fn46 = gCpt f_topo_once_1 (⟨(⟨0, 0, 0, 0, 0, 0, 0⟩ : T_api_Head), 0, [], 0, [], []⟩ : T_api_Lsa) := by kernel_rfl
theorem cptA (l : List T_api_Lsa) (hl : (l.length : Int) ≤ big) : f_slices_CompactFunc_api_Lsa_api_Lsa_fn46 l = some (cpt eI l) := by
  rw [cptEq]
  exact cpt_ok (ef := f_topo_once_1) eI (fun x y => rfl) (⟨(⟨0, 0, 0, 0, 0, 0, 0⟩ : T_api_Head), 0, [], 0, [], []⟩ : T_api_Lsa) l hl
theorem dd_len {α : Type} (e : α → α → Bool) : ∀ (l : List α) (p : α), (dd e p l).length ≤ l.length
  | [], p => by simp [dd]
  | x :: t, p => by
    unfold dd
    split
    · exact Nat.le_trans (dd_len e t x) (by simp)
    · have := dd_len e t x; simp; omega
theorem cpt_len {α : Type} (e : α → α → Bool) (l : List α) : (cpt e l).length ≤ l.length := by
  cases l with
  | nil => simp [cpt]
  | cons x t => have := dd_len e t x; simp [cpt]; omega
theorem dd_sub {α : Type} (e : α → α → Bool) : ∀ (l : List α) (p : α), (dd e p l).Sublist l
  | [], p => by simp [dd]
  | x :: t, p => by
    unfold dd
    split
    · exact (dd_sub e t x).cons _
    · exact (dd_sub e t x).cons_cons _
theorem cpt_sub {α : Type} (e : α → α → Bool) (l : List α) : (cpt e l).Sublist l := by
  cases l with
  | nil => simp [cpt]
  | cons x t => exact (dd_sub e t x).cons_cons _
def dL : T_api_Lsa := ⟨⟨0, 0, 0, 0, 0, 0, 0⟩, 0, [], 0, [], []⟩
def byId (l : List T_api_Lsa) : List (Int × T_api_Lsa) := l.foldl (fun m x => mPut m x.f_Head.f_Id x) []
theorem onceA (l : List T_api_Lsa) (hl : (l.length : Int) ≤ big) : f_topo_once l = some (cpt eI l, byId (cpt eI l)) := by
  have hb : ((cpt eI l).length : Int) ≤ big := by have := cpt_len eI l; simp only [big] at *; omega
  have hloop : loopO (f_topo_once.b0 (cpt eI l)) (0, []) = some (.inl (((cpt eI l).length : Int), byId (cpt eI l))) := by
    have := loop_all (b := f_topo_once.b0 (cpt eI l)) (fun p => ((p.length : Int), byId p)) (cpt eI l) (by
      intro p x s hs
      have hlen : p.length < (cpt eI l).length := by rw [hs]; simp
      have hr : rd (cpt eI l) (p.length : Int) = x := by rw [hs]; exact rd_mid rfl
      unfold f_topo_once.b0
      simp only [hr, wi hb hlen]
      rw [if_pos (by omega), if_pos (by omega)]
      simp [byId])
    simp only [List.length_nil, byId, List.foldl_nil] at this
    rw [show ((0 : Nat) : Int) = 0 from rfl] at this
    rw [this]
    refine loopO_inr ?_
    unfold f_topo_once.b0
    rw [if_neg (by simp)]
    rfl
  unfold f_topo_once
  rw [cptA l hl]
  simp only [Option.bind_some]
  rw [hloop]
  rfl
theorem mGetD_put {α : Type} (d a : α) (n k : Int) : ∀ (m : List (Int × α)), mGetD d (mPut m n a) k = if k = n then a else mGetD d m k
  | [] => by simp [mPut, mGetD, eq_comm]
  | p :: r => by
    unfold mPut
    by_cases h : p.1 = n
    · rw [if_pos h]
      by_cases hk : k = n
      · simp [mGetD, hk]
      · have : ¬ n = k := fun e => hk e.symm
        simp [mGetD, hk, this, h]
    · rw [if_neg h]
      by_cases hp : p.1 = k
      · have : ¬ k = n := fun e => h (hp.trans e)
        simp [mGetD, hp, this]
      · simp [mGetD, hp, mGetD_put d a n k r]
theorem mHas_put {α : Type} (a : α) (n k : Int) : ∀ (m : List (Int × α)), mHas (mPut m n a) k = (decide (k = n) || mHas m k)
  | [] => by simp [mPut, mHas, eq_comm]
  | p :: r => by
    unfold mPut
    by_cases h : p.1 = n
    · rw [if_pos h]
      by_cases hk : k = n
      · simp [mHas, hk]
      · have : ¬ n = k := fun e => hk e.symm
        simp [mHas, hk, this, h]
    · rw [if_neg h]
      by_cases hp : p.1 = k
      · simp [mHas, hp]
      · simp [mHas, hp, mHas_put a n k r]
/-- What is at an Id. -/
def atId (l : List T_api_Lsa) (k : Int) : Option T_api_Lsa := l.find? (fun x => decide (x.f_Head.f_Id = k))
theorem fold_get (k : Int) : ∀ (l : List T_api_Lsa) (m : List (Int × T_api_Lsa)), l.Pairwise (fun x y => x.f_Head.f_Id ≠ y.f_Head.f_Id) →
    mGetD dL (l.foldl (fun m x => mPut m x.f_Head.f_Id x) m) k = (atId l k).getD (mGetD dL m k) ∧ mHas (l.foldl (fun m x => mPut m x.f_Head.f_Id x) m) k = ((atId l k).isSome || mHas m k)
  | [], m, h => by simp [atId]
  | x :: t, m, h => by
    obtain ⟨h1, h2⟩ := List.pairwise_cons.1 h
    obtain ⟨k1, k2⟩ := fold_get k t (mPut m x.f_Head.f_Id x) h2
    rw [List.foldl_cons, k1, k2, mGetD_put, mHas_put]
    by_cases hk : x.f_Head.f_Id = k
    · have hn : atId t k = none := by
        unfold atId
        rw [List.find?_eq_none]
        intro y hy
        have := h1 y hy
        simp; omega
      have hs : atId (x :: t) k = some x := by simp [atId, hk]
      rw [hn, hs]
      simp [hk]
    · have hs : atId (x :: t) k = atId t k := by simp [atId, hk]
      rw [hs]
      have hk' : ¬ k = x.f_Head.f_Id := fun e => hk e.symm
      simp [hk']
theorem byId_get (l : List T_api_Lsa) (k : Int) (h : l.Pairwise (fun x y => x.f_Head.f_Id ≠ y.f_Head.f_Id)) : mGetD dL (byId l) k = (atId l k).getD dL ∧ mHas (byId l) k = (atId l k).isSome := by
  have := fold_get k l [] h
  simpa [mGetD, mHas, byId] using this
/-! ### Links back -/
def linkP (kind id : Int) (k : T_api_Link) : Bool := decide (k.f_Kind = kind) && decide (k.f_Id = id)
def backF (x : T_api_Lsa) (kind id : Int) : Option T_api_Link := x.f_Links.find? (linkP kind id)
theorem idxEq : f_slices_IndexFunc_api_Link_api_Link_fn52_3_3 = fun l a b => gIdx (fun k => f_topo_back_1_cap3_cap3 k a b) l := by kernel_rfl
theorem back_ok (x : T_api_Lsa) (kind id : Int) (hl : (x.f_Links.length : Int) ≤ big) : f_topo_back x kind id = some ((backF x kind id).getD ⟨0, 0, 0, 0⟩, (backF x kind id).isSome) := by
  have hp : ∀ k, f_topo_back_1_cap3_cap3 k kind id = some (linkP kind id k) := by
    intro k
    unfold f_topo_back_1_cap3_cap3 linkP
    by_cases h : k.f_Kind = kind <;> simp [h]
  have h := idx_ok (pf := fun k => f_topo_back_1_cap3_cap3 k kind id) (linkP kind id) hp x.f_Links hl
  have e : gIdx (fun k => f_topo_back_1_cap3_cap3 k kind id) x.f_Links = f_slices_IndexFunc_api_Link_api_Link_fn52_3_3 x.f_Links kind id := by rw [idxEq]
  rw [e] at h
  unfold f_topo_back
  rcases h with ⟨q, y, s, h1, h2, h3, h4⟩ | ⟨h1, h2⟩
  · have hf : backF x kind id = some y := by
      unfold backF
      rw [h1, List.find?_append, List.find?_eq_none.2 (fun z hz => by simp [h2 z hz])]
      simp [h3]
    rw [h4, hf]
    simp only [Option.bind_some]
    have e0 : ¬ (q.length : Int) < 0 := by omega
    have e1 : (0 : Int) ≤ (q.length : Int) := by omega
    have e2 : (q.length : Int) < (x.f_Links.length : Int) := by rw [h1]; simp; omega
    rw [if_neg e0, if_pos e1, if_pos e2, h1, rd_mid rfl]
    rfl
  · have hf : backF x kind id = none := by
      unfold backF
      exact List.find?_eq_none.2 (fun z hz => by simp [h1 z hz])
    rw [h2, hf]
    rfl
theorem contains_ok (l : List Int) (a : Int) (hl : (l.length : Int) ≤ big) : f_slices_Contains_int_int l a = some (decide (a ∈ l)) := by
  have hgo : ∀ q x s, l = q ++ x :: s → ¬ a = x → f_slices_Index_int_int.b0 l a (q.length : Int) = some (.inl (((q ++ [x]).length : Nat) : Int)) := by
    intro q x s hs hx
    have hlen : q.length < l.length := by rw [hs]; simp
    have hr : rd l (q.length : Int) = x := by rw [hs]; exact rd_mid rfl
    unfold f_slices_Index_int_int.b0
    rw [if_pos (by omega), if_pos (by omega), hr, if_neg hx, wi hl hlen]
    simp
  have hstop : ∀ q x s, l = q ++ x :: s → a = x → f_slices_Index_int_int.b0 l a (q.length : Int) = some (.inr (.inr (q.length : Int))) := by
    intro q x s hs hx
    have hlen : q.length < l.length := by rw [hs]; simp
    have hr : rd l (q.length : Int) = x := by rw [hs]; exact rd_mid rfl
    unfold f_slices_Index_int_int.b0
    rw [if_pos (by omega), if_pos (by omega), hr, if_pos hx]
  unfold f_slices_Contains_int_int f_slices_Index_int_int
  rcases loop_first (b := f_slices_Index_int_int.b0 l a) (fun q => (q.length : Int)) (fun x => a = x) (fun q x => .inr (q.length : Int)) l [] (fun q x s h hx => hgo q x s (by simpa using h) hx) (fun q x s h hx => hstop q x s (by simpa using h) hx) (by simp) with ⟨q, x, s, h1, h2, h3, h4⟩ | ⟨h1, h2⟩
  · rw [show (0 : Int) = ((([] : List Int).length : Nat) : Int) from rfl, h4]
    have : a ∈ l := by
      rw [List.nil_append] at h1
      rw [h1, h3]; simp
    simp [this]
  · rw [show (0 : Int) = ((([] : List Int).length : Nat) : Int) from rfl, h2]
    rw [loopO_inr (r := Sum.inl (((([] : List Int) ++ l).length : Nat) : Int))]
    · have : a ∉ l := fun h => h1 a (by simpa using h) rfl
      simp [this]
    · unfold f_slices_Index_int_int.b0
      rw [if_neg (by simp)]
end Go.Proofs.Ytbjnbjgiidcfjaa
