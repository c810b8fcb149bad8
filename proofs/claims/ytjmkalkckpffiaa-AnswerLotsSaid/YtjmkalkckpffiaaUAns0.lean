/- Chapter 14, plain: what is told in packets. Conditions: none. -/
import Derived.Test.YtjmkalkckpffiaaG
import Derived.Test.YtjmkalkckpffiaaUGD
set_option linter.unusedVariables false
set_option linter.unusedSectionVars false
set_option linter.unusedSimpArgs false
namespace Go.Proofs.Ytjmkalkckpffiaa
open Go Go.Proofs.Ytjmkalkckpffiaa.Sp
theorem loop_every {α R : Type} {b : Int → Option (Sum Int (Sum Int R))} (xs : List α) (p : α → Prop) (rf : α → R)
    (hgo : ∀ q x s, xs = q ++ x :: s → p x → b (q.length : Int) = some (.inl (((q ++ [x]).length : Nat) : Int)))
    (hstop : ∀ q x s, xs = q ++ x :: s → ¬ p x → b (q.length : Int) = some (.inr (.inr (rf x))))
    (hend : b (xs.length : Int) = some (.inr (.inl (xs.length : Int)))) :
    ((∀ x ∈ xs, p x) ∧ loopO b 0 = some (.inl (xs.length : Int))) ∨ (∃ x ∈ xs, ¬ p x ∧ loopO b 0 = some (.inr (rf x))) := by
  rcases loop_first (b := b) (fun q => (q.length : Int)) (fun x => ¬ p x) (fun q x => Sum.inr (rf x)) xs [] (fun q x s h hx => hgo q x s (by simpa using h) (Classical.not_not.1 hx)) (fun q x s h hx => hstop q x s (by simpa using h) hx) (by simp) with ⟨q, x, s, h1, h2, h3, h4⟩ | ⟨h1, h2⟩
  · exact .inr ⟨x, by rw [List.nil_append] at h1; rw [h1]; simp, h3, h4⟩
  · refine .inl ⟨fun x hx => Classical.not_not.1 (h1 x (by simpa using hx)), ?_⟩
    rw [show (0 : Int) = ((([] : List α).length : Nat) : Int) from rfl, h2]
    exact loopO_inr hend
theorem loop_run {α R : Type} {b : Int → Option (Sum Int (Sum Int R))} (xs : List α)
    (hgo : ∀ q x s, xs = q ++ x :: s → b (q.length : Int) = some (.inl (((q ++ [x]).length : Nat) : Int)))
    (hend : b (xs.length : Int) = some (.inr (.inl (xs.length : Int)))) : loopO b 0 = some (.inl (xs.length : Int)) := by
  have h := loop_all (b := b) (fun q : List α => (q.length : Int)) xs hgo
  rw [show (0 : Int) = ((([] : List α).length : Nat) : Int) from rfl, h]
  exact loopO_inr hend
/-! ### The parts of a list -/
theorem len_chAt {α : Type} {k : Nat} {xs : List α} {j : Nat} : (chAt k xs j).length = min (j * k + k) xs.length - j * k := by
  unfold chAt cutL
  simp only [Int.toNat_natCast, List.length_drop, List.length_take]
  omega
theorem take_chAt {α : Type} {k : Nat} {xs : List α} {j : Nat} : xs.take (j * k) ++ chAt k xs j = xs.take ((j + 1) * k) := by
  have e : chAt k xs j = (xs.take ((j + 1) * k)).drop (j * k) := by
    unfold chAt cutL
    simp only [Int.toNat_natCast]
    congr 1
    rw [Nat.succ_mul]
    by_cases h : j * k + k ≤ xs.length
    · rw [Nat.min_eq_left h]
    · rw [Nat.min_eq_right (by omega), List.take_of_length_le (Nat.le_refl _), List.take_of_length_le (by omega)]
  rw [e]
  have h2 : xs.take (j * k) = (xs.take ((j + 1) * k)).take (j * k) := by
    rw [List.take_take, Nat.min_eq_left (Nat.mul_le_mul_right _ (Nat.le_succ j))]
  rw [h2, List.take_append_drop]
theorem chN_top {n k : Nat} (hk : 0 < k) : n ≤ chN n k * k := by
  by_cases h : n ≤ chN n k * k
  · exact h
  · have := (chN_lt (n := n) (k := k) (j := chN n k) hk).2 (by omega)
    omega
theorem chN_last {n k j : Nat} (hk : 0 < k) (h : j + 1 < chN n k) : j * k + k ≤ n := by
  have := (chN_lt hk).1 h
  rw [Nat.succ_mul] at this
  omega
/-- A fold that tells one for each part. -/
theorem fold_map {α β : Type} {b : α → List β → Option (List β)} (f : α → β) : ∀ (cs : List α) (s : List β), (∀ c ∈ cs, ∀ s : List β, s.length ≤ 4096 → b c s = some (s ++ [f c])) → s.length + cs.length ≤ 4096 → foldO b cs s = some (s ++ cs.map f)
  | [], s, _, _ => by simp [foldO]
  | c :: cs, s, h, hl => by
    simp only [List.length_cons] at hl
    unfold foldO
    rw [h c (List.mem_cons_self ..) s (by omega)]
    simp only [Option.bind_some]
    rw [fold_map f cs (s ++ [f c]) (fun c' hc' => h c' (List.mem_cons_of_mem _ hc')) (by simp only [List.length_append, List.length_cons, List.length_nil]; omega)]
    simp
theorem len_chL {α : Type} {k : Nat} {xs : List α} : (chL k xs).length = chN xs.length k := by simp [chL]
theorem chAt_sub {α : Type} {k j : Nat} {xs : List α} : ∀ x ∈ chAt k xs j, x ∈ xs := fun x hx => by
  unfold chAt cutL at hx
  exact List.mem_of_mem_take (List.mem_of_mem_drop hx)
/-! ### Packets -/
def Small (x : T_api_Lsa) : Prop := x.f_Links.length ≤ 4096 ∧ x.f_Routers.length ≤ 4096 ∧ x.f_Verts.length ≤ 4096
def pkU (r : Int) (c : List T_api_Lsa) : T_api_Packet := ⟨4, r, 0, 0, 0, 0, [], 0, 0, [], [], c⟩
def pkA (r : Int) (c : List T_api_Head) : T_api_Packet := ⟨5, r, 0, 0, 0, 0, [], 0, 0, c, [], []⟩
theorem updates_b1 (r : Int) (c : List T_api_Lsa) (hc : c.length ≤ 4096) (hs : ∀ x ∈ c, Small x) (s : List T_api_Packet) (hl : s.length ≤ 4096) : f_answer_Updates.b1 r c s = some (s ++ [pkU r c]) := by
  have hb : (c.length : Int) ≤ big := by simp only [big]; omega
  have hloop : loopO (f_answer_Updates.b0 c) (0, []) = some (.inl ((c.length : Int), c)) := by
    have h := loop_all (b := f_answer_Updates.b0 c) (fun p => ((p.length : Int), p)) c (by
      intro p x s hp
      have hlen : p.length < c.length := by rw [hp]; simp
      have hr : rd c (p.length : Int) = x := by rw [hp]; exact rd_mid rfl
      have hx : Small x := hs x (by rw [hp]; simp)
      unfold Small at hx
      unfold f_answer_Updates.b0 f_slices_Clone_api_Link_api_Link f_slices_Clone_int_int f_slices_Clone_api_Vert_api_Vert
      simp only [hr, wi hb hlen]
      rw [if_pos (by omega), if_pos (by omega), if_pos (by omega)]
      simp only [Option.bind_some]
      rw [if_pos (by omega)]
      simp only [Option.bind_some]
      rw [if_pos (by omega)]
      simp only [Option.bind_some]
      rw [if_pos (by omega)]
      simp)
    rw [show ((0 : Int), ([] : List T_api_Lsa)) = (((([] : List T_api_Lsa).length : Nat) : Int), []) from rfl, h]
    refine loopO_inr ?_
    unfold f_answer_Updates.b0
    rw [if_neg (by simp)]
  unfold f_answer_Updates.b1
  rw [hloop]
  simp only [Option.bind_some]
  rw [if_pos (by omega)]
  rfl
theorem updates_ok (r : Int) (l : List T_api_Lsa) (hl : l.length ≤ 40) (hs : ∀ x ∈ l, Small x) : f_answer_Updates r l = some ((chL 4 l).map (pkU r)) := by
  unfold f_answer_Updates
  have hn : chN l.length 4 ≤ l.length := chN_le (j := 0) (by omega)
  rw [if_pos (by omega), fold_map (pkU r) (chL 4 l) [] (by
    intro c hc s hsl
    obtain ⟨j, hj, rfl⟩ := List.mem_map.1 hc
    exact updates_b1 r _ (by rw [len_chAt]; omega) (fun x hx => hs x (chAt_sub x hx)) s hsl) (by rw [len_chL]; simp only [List.length_nil]; omega)]
  simp
theorem acks_ok (r : Int) (l : List T_api_Head) (hl : l.length ≤ 60) : f_answer_Acks r l = some ((chL 8 l).map (pkA r)) := by
  unfold f_answer_Acks
  have hn : chN l.length 8 ≤ l.length := chN_le (j := 0) (by omega)
  rw [if_pos (by omega), fold_map (pkA r) (chL 8 l) [] (by
    intro c hc s hsl
    obtain ⟨j, hj, rfl⟩ := List.mem_map.1 hc
    have h8 : (chAt 8 l j).length ≤ 8 := by rw [len_chAt]; omega
    unfold f_answer_Acks.b0 f_slices_Clone_api_Head_api_Head
    rw [if_pos (by omega)]
    simp only [Option.bind_some]
    rw [if_pos (by omega)]
    rfl) (by rw [len_chL]; simp only [List.length_nil]; omega)]
  simp
theorem rd_pk {α β : Type} [Inhabited β] {k : Nat} {xs : List α} (f : List α → β) {j : Nat} (h : j < chN xs.length k) : rd ((chL k xs).map f) (j : Int) = f (chAt k xs j) := by
  unfold rd chL
  rw [List.getD_eq_getElem?_getD]
  simp [h]
theorem awake_ok : f_plenumlaw14_awake = some true := by
  unfold f_plenumlaw14_awake
  rw [updates_ok 1 _ (by simp) (by
    intro x hx
    obtain rfl := List.eq_of_mem_replicate hx
    simp [Small])]
  simp only [Option.bind_some]
  have hn : chN (List.replicate (5 : Int).toNat (⟨(⟨0, 0, 0, 0, 0, 0, 0⟩ : T_api_Head), 0, [], 0, [], []⟩ : T_api_Lsa)).length 4 = 2 := by simp [chN]
  have hl : ((chL 4 (List.replicate (5 : Int).toNat (⟨(⟨0, 0, 0, 0, 0, 0, 0⟩ : T_api_Head), 0, [], 0, [], []⟩ : T_api_Lsa))).map (pkU 1)).length = 2 := by rw [List.length_map, len_chL, hn]
  have r0 := rd_pk (k := 4) (xs := List.replicate (5 : Int).toNat (⟨(⟨0, 0, 0, 0, 0, 0, 0⟩ : T_api_Head), 0, [], 0, [], []⟩ : T_api_Lsa)) (pkU 1) (j := 0) (by rw [hn]; omega)
  have r1 := rd_pk (k := 4) (xs := List.replicate (5 : Int).toNat (⟨(⟨0, 0, 0, 0, 0, 0, 0⟩ : T_api_Head), 0, [], 0, [], []⟩ : T_api_Lsa)) (pkU 1) (j := 1) (by rw [hn]; omega)
  have e0 : ((0 : Nat) : Int) = 0 := rfl
  have e1 : ((1 : Nat) : Int) = 1 := rfl
  rw [e0] at r0
  rw [e1] at r1
  rw [if_pos (by rw [hl]; rfl), if_pos (by rw [hl]; decide), r0, if_pos (by simp only [pkU, len_chAt]; simp), if_pos (by rw [hl]; decide), r1]
  simp only [pkU, len_chAt]
  simp
end Go.Proofs.Ytjmkalkckpffiaa
