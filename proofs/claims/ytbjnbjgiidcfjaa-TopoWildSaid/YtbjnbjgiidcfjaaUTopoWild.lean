/- The plain part of TopoWild. Conditions: none. -/
import Derived.Test.YtbjnbjgiidcfjaaUTA
import Derived.Test.YtbjnbjgiidcfjaaR
set_option linter.unusedVariables false
set_option linter.unusedSimpArgs false
namespace Go.Proofs.Ytbjnbjgiidcfjaa
open Go Go.Proofs.Ytbjnbjgiidcfjaa.Sp
theorem ints_refl (l : List Int) (hl : (l.length : Int) ≤ big) : f_plenumref1_Ints l l = some true := by
  have := loop_all (b := f_plenumref1_Ints.b0 l l) (fun p => (p.length : Int)) l (by
    intro p x s hp
    have hlen : p.length < l.length := by rw [hp]; simp
    unfold f_plenumref1_Ints.b0
    rw [if_pos (by omega), if_pos (by omega), if_pos (by omega), if_pos rfl, wi hl hlen]
    simp)
  simp only [List.length_nil] at this
  rw [show ((0 : Nat) : Int) = 0 from rfl] at this
  have he : loopO (f_plenumref1_Ints.b0 l l) (l.length : Int) = some (.inl (l.length : Int)) := by
    refine loopO_inr ?_
    unfold f_plenumref1_Ints.b0
    rw [if_neg (by omega)]
  unfold f_plenumref1_Ints
  rw [if_pos rfl, this, he]
  rfl
theorem has0 (l : List Int) (hl : (l.length : Int) ≤ big) (h : ∀ x ∈ l, x ≠ 0) : f_plenumref8_Has l 0 = some false := by
  have := loop_all (b := f_plenumref8_Has.b0 l 0) (fun p => (p.length : Int)) l (by
    intro p x s hp
    have hlen : p.length < l.length := by rw [hp]; simp
    have hr : rd l (p.length : Int) = x := by rw [hp]; exact rd_mid rfl
    unfold f_plenumref8_Has.b0
    rw [if_pos (by omega), if_pos (by omega), hr, if_neg (h x (by rw [hp]; simp)), wi hl hlen]
    simp)
  simp only [List.length_nil] at this
  rw [show ((0 : Nat) : Int) = 0 from rfl] at this
  have he : loopO (f_plenumref8_Has.b0 l 0) (l.length : Int) = some (.inl (l.length : Int)) := by
    refine loopO_inr ?_
    unfold f_plenumref8_Has.b0
    rw [if_neg (by omega)]
  unfold f_plenumref8_Has
  rw [this, he]
  rfl
theorem Up.same {l : List T_api_Lsa} (h : Up l) : ∀ a ∈ l, ∀ b ∈ l, a.f_Head.f_Id = b.f_Head.f_Id → a = b := by
  induction l with
  | nil => intro a ha; cases ha
  | cons x t ih =>
    obtain ⟨h1, h2⟩ := List.pairwise_cons.1 h
    intro a ha b hb e
    rcases List.mem_cons.1 ha with rfl | ha' <;> rcases List.mem_cons.1 hb with rfl | hb'
    · rfl
    · have := h1 b hb'; omega
    · have := h1 a ha'; omega
    · exact ih h2 a ha' b hb' e
theorem dd_id : ∀ (t : List T_api_Lsa) (x : T_api_Lsa), Up (x :: t) → dd eI x t = t
  | [], x, h => rfl
  | y :: t, x, h => by
    obtain ⟨h1, h2⟩ := List.pairwise_cons.1 h
    have := h1 y (List.mem_cons_self ..)
    unfold dd
    rw [if_neg (by simp [eI]; omega), dd_id t y h2]
theorem cpt_id (l : List T_api_Lsa) (h : Up l) : cpt eI l = l := by
  cases l with
  | nil => rfl
  | cons x t => rw [cpt, dd_id t x h]
theorem Up.sd {l : List T_api_Lsa} (h : Up l) : Sd ltA l := h.imp (fun h => by unfold ltA; omega)
/-- What is sorted, and has each Id but once, is told by what is in it. -/
theorem up_unique {l m : List T_api_Lsa} (hl : Up l) (hm : Sd ltA m) (hp : m.Perm l) : m = l := by
  refine hp.eq_of_pairwise (fun a b ha hb h1 h2 => ?_) hm hl.sd
  refine hl.same a (hp.subset ha) b hb ?_
  unfold ltA at h1 h2
  omega
def rtr (n : Nat) (f : Int) : T_api_Lsa := ⟨⟨0, 1, 1 + (n : Int), 1 + (n : Int), 0, 0, 0⟩, f, [], 0, [], []⟩
def mkR : Nat → List Int → List T_api_Lsa
  | _, [] => []
  | n, f :: t => rtr n f :: mkR (n + 1) t
theorem mkR_len : ∀ (l : List Int) (n : Nat), (mkR n l).length = l.length
  | [], n => rfl
  | f :: t, n => by simp [mkR, mkR_len t]
theorem mkR_ge : ∀ (l : List Int) (n : Nat), ∀ x ∈ mkR n l, ∃ m f, n ≤ m ∧ m < n + l.length ∧ x = rtr m f
  | [], n, x, hx => by cases hx
  | f :: t, n, x, hx => by
    rcases List.mem_cons.1 hx with rfl | hx
    · exact ⟨n, f, Nat.le_refl _, by simp, rfl⟩
    · obtain ⟨m, g, h1, h2, h3⟩ := mkR_ge t (n + 1) x hx
      exact ⟨m, g, by omega, by simp only [List.length_cons]; omega, h3⟩
theorem mkR_up : ∀ (l : List Int) (n : Nat), Up (mkR n l)
  | [], n => List.Pairwise.nil
  | f :: t, n => by
    refine List.pairwise_cons.2 ⟨fun y hy => ?_, mkR_up t (n + 1)⟩
    obtain ⟨m, g, h1, h2, rfl⟩ := mkR_ge t (n + 1) y hy
    simp only [rtr]; omega
theorem wild_b0 (a0 : List Int) (hl : a0.length ≤ 20) (hu : ∀ x ∈ a0, inI .u8 x) : ∀ (n : Nat) (pre suf : List Int), pre.length = n → a0 = pre ++ suf →
    loopO (f_plenumlaw17_TopoWild.b0 a0) ((mkR pre.length suf).reverse, (pre.length : Int) - 1) = some (.inl ((mkR 0 a0).reverse, -1))
  | 0, pre, suf, hn, hp => by
    obtain rfl := List.length_eq_zero_iff.1 hn
    refine loopO_inr ?_
    unfold f_plenumlaw17_TopoWild.b0
    rw [if_neg (by simp)]
    simp [hp]
  | n + 1, pre, suf, hn, hp => by
    obtain ⟨p, x, rfl⟩ := snoc_of (l := pre) (by rintro rfl; simp at hn)
    have hlen : p.length < a0.length := by rw [hp]; simp
    have hr : rd a0 (p.length : Int) = x := by rw [hp, List.append_assoc]; exact rd_mid rfl
    have hx := inI_u8 (hu x (by rw [hp]; simp))
    have ml := mkR_len suf (p ++ [x]).length
    have hs : suf.length ≤ 20 := by have := congrArg List.length hp; simp only [List.length_append] at this; omega
    have e1 : (((p ++ [x]).length : Nat) : Int) - 1 = p.length := by simp
    have w1 : IntKind.i64.wrap (1 + (p.length : Int)) = 1 + (p.length : Int) := w64' (by omega) (by omega)
    have w2 : IntKind.i64.wrap x = x := w64' (by omega) (by omega)
    have w3 : IntKind.i64.wrap ((p.length : Int) - 1) = (p.length : Int) - 1 := w64' (by omega) (by omega)
    have hstep : f_plenumlaw17_TopoWild.b0 a0 ((mkR (p ++ [x]).length suf).reverse, (((p ++ [x]).length : Nat) : Int) - 1) = some (.inl ((mkR p.length (x :: suf)).reverse, (p.length : Int) - 1)) := by
      unfold f_plenumlaw17_TopoWild.b0
      simp only [e1, hr, w1, w2, w3]
      rw [if_pos (by omega), if_pos (by omega), if_pos (by rw [List.length_reverse, ml]; omega)]
      simp [mkR, rtr]
    rw [loopO_inl hstep]
    exact wild_b0 a0 hl hu n p (x :: suf) (by simpa using hn) (by rw [hp]; simp)
def wantR : Nat → List Int → List Int
  | _, [] => []
  | n, f :: t => (if bits .and .u8 f 8 = 0 then [] else [1 + (n : Int)]) ++ wantR (n + 1) t
theorem wantR_app : ∀ (l : List Int) (n : Nat) (x : Int), wantR n (l ++ [x]) = wantR n l ++ (if bits .and .u8 x 8 = 0 then [] else [1 + ((n + l.length : Nat) : Int)])
  | [], n, x => by simp [wantR]
  | f :: t, n, x => by
    rw [List.cons_append, wantR, wantR_app t (n + 1) x, wantR, List.append_assoc, List.length_cons]
    have : n + 1 + t.length = n + (t.length + 1) := by omega
    rw [this]
theorem wantR_len : ∀ (l : List Int) (n : Nat), (wantR n l).length ≤ l.length
  | [], n => by simp [wantR]
  | f :: t, n => by
    have := wantR_len t (n + 1)
    unfold wantR
    split <;> simp <;> omega
theorem wantR_ne : ∀ (l : List Int) (n : Nat), ∀ x ∈ wantR n l, x ≠ 0
  | [], n, x, hx => by cases hx
  | f :: t, n, x, hx => by
    unfold wantR at hx
    rcases List.mem_append.1 hx with hx | hx
    · split at hx
      · cases hx
      · simp at hx; omega
    · exact wantR_ne t (n + 1) x hx
theorem bit8 (f : Int) (h : inI .u8 f) : (bits .and .i64 f 8 = 0) ↔ (bits .and .u8 f 8 = 0) := by
  have hx := inI_u8 h
  have key : ∀ n : Fin 256, (bits .and .i64 (n.val : Int) 8 = 0) ↔ (bits .and .u8 (n.val : Int) 8 = 0) := by decide +kernel
  have := key ⟨f.toNat, by omega⟩
  have e : ((f.toNat : Nat) : Int) = f := by omega
  simpa only [e] using this
theorem wilds_mk : ∀ (l : List Int) (n : Nat), (∀ x ∈ l, inI .u8 x) → (mkR n l).filterMap wildP = wantR n l
  | [], n, h => rfl
  | f :: t, n, h => by
    have ih := wilds_mk t (n + 1) (fun x hx => h x (List.mem_cons_of_mem _ hx))
    have hb := bit8 f (h f (List.mem_cons_self ..))
    rw [mkR, wantR, ← ih]
    by_cases c : bits .and .u8 f 8 = 0
    · have : wildP (rtr n f) = none := if_pos (hb.2 c)
      rw [List.filterMap_cons, this, if_pos c]; rfl
    · have : wildP (rtr n f) = some (1 + (n : Int)) := if_neg (fun e => c (hb.1 e))
      rw [List.filterMap_cons, this, if_neg c]; rfl
theorem wild_b1 (a0 : List Int) (hl : a0.length ≤ 20) : loopO (f_plenumlaw17_TopoWild.b1 a0) ([], 0) = some (.inl (wantR 0 a0, (a0.length : Int))) := by
  have hb : (a0.length : Int) ≤ big := by simp only [big]; omega
  have := loop_all (b := f_plenumlaw17_TopoWild.b1 a0) (fun p => (wantR 0 p, (p.length : Int))) a0 (by
    intro p x s hp
    have hlen : p.length < a0.length := by rw [hp]; simp
    have hr : rd a0 (p.length : Int) = x := by rw [hp]; exact rd_mid rfl
    have hw := wantR_len p 0
    have w1 : IntKind.i64.wrap (1 + (p.length : Int)) = 1 + (p.length : Int) := w64' (by omega) (by omega)
    unfold f_plenumlaw17_TopoWild.b1
    simp only [hr, w1, wi hb hlen]
    rw [if_pos (by omega), if_pos (by omega), wantR_app]
    by_cases c : bits .and .u8 x 8 = 0
    · rw [if_pos c, if_pos c]; simp
    · rw [if_neg c, if_neg c, if_pos (by omega)]; simp)
  simp only [wantR, List.length_nil] at this
  rw [show ((0 : Nat) : Int) = 0 from rfl] at this
  rw [this]
  refine loopO_inr ?_
  unfold f_plenumlaw17_TopoWild.b1
  rw [if_neg (by simp)]
theorem map_wild (a0 : List Int) (hl : a0.length ≤ 20) : f_topo_Map (mkR 0 a0).reverse = some (mapF (mkR 0 a0) []) := by
  have hlen : (mkR 0 a0).reverse.length ≤ 40 := by rw [List.length_reverse, mkR_len]; omega
  obtain ⟨C1, C2, h1, h2, h3, h4, h5⟩ := map_ok (mkR 0 a0).reverse ⟨hlen, fun x hx => by
    obtain ⟨m, f, _, _, rfl⟩ := mkR_ge a0 0 x (List.mem_reverse.1 hx)
    simp [rtr]⟩
  have e1 : (mkR 0 a0).reverse.filter (liveP 1) = (mkR 0 a0).reverse := List.filter_eq_self.2 (fun x hx => by
    obtain ⟨m, f, _, _, rfl⟩ := mkR_ge a0 0 x (List.mem_reverse.1 hx)
    simp [rtr, liveP])
  have e2 : (mkR 0 a0).reverse.filter (liveP 2) = [] := List.filter_eq_nil_iff.2 (fun x hx => by
    obtain ⟨m, f, _, _, rfl⟩ := mkR_ge a0 0 x (List.mem_reverse.1 hx)
    simp [rtr, liveP])
  rw [e1] at h1
  rw [e2] at h3
  obtain rfl : C2 = [] := by simpa using h3
  have hC := up_unique (mkR_up a0 0) h2 (h1.trans (List.reverse_perm _))
  subst hC
  have e3 : (mkR 0 a0).filter ownP_ = mkR 0 a0 := List.filter_eq_self.2 (fun x hx => by
    obtain ⟨m, f, _, _, rfl⟩ := mkR_ge a0 0 x hx
    simp [rtr, ownP_])
  rw [h5, e3, cpt_id _ (mkR_up a0 0)]
  rfl
theorem pure_TopoWild : TopoWild.Pure := by
  intro a0 ⟨h1, h2⟩
  unfold f_plenumlaw17_TopoWild
  by_cases hc : 20 < (a0.length : Int)
  · rw [if_pos hc, awake_ok]; rfl
  · have hl : a0.length ≤ 20 := by omega
    have hw : IntKind.i64.wrap ((a0.length : Int) - 1) = (a0.length : Int) - 1 := w64' (by omega) (by omega)
    have l0 := wild_b0 a0 hl h2 a0.length a0 [] rfl (by simp)
    simp only [mkR, List.reverse_nil] at l0
    have hv : (mapF (mkR 0 a0) []).f_Verts.length = a0.length := by simp [mapF, mkR_len]
    have hws : (mapF (mkR 0 a0) []).f_Wilds = wantR 0 a0 := wilds_mk a0 0 h2
    have hwl : ((wantR 0 a0).length : Int) ≤ big := by have := wantR_len a0 0; simp only [big]; omega
    rw [if_neg hc, hw, l0]
    simp only [Option.bind_some]
    rw [wild_b1 a0 hl]
    simp only [Option.bind_some]
    rw [map_wild a0 hl]
    simp only [Option.bind_some, hws]
    rw [ints_refl _ hwl]
    simp only [Option.bind_some, if_true]
    rw [if_pos (by rw [hv]), has0 _ hwl (wantR_ne a0 0), awake_ok]
    rfl
theorem TopoWild_holds : Rows.TopoWildSaid := TopoWild_row pure_TopoWild
end Go.Proofs.Ytbjnbjgiidcfjaa
