/- slices.SortFunc at vertices, out of the kit's contract: a slice of one's own comes back sorted. Conditions: each theorem's own. -/
import Derived.Test.YtbjnbjgiidcfjaaG4
import Derived.Test.YtbjnbjgiidcfjaaSp6
import Derived.Test.YtbjnbjgiidcfjaaUGS1
import Derived.Test.YtbjnbjgiidcfjaaShelf
set_option linter.unusedVariables false
set_option linter.unusedSimpArgs false
namespace Go.Proofs.Ytbjnbjgiidcfjaa
open Go Go.RowKit Go.Lib Go.Sort Go.Proofs.Ytbjnbjgiidcfjaa.Sp
/-! ### The comparison -/
theorem cmpInt (x y : Int) : f_cmp_Compare_int x y = some (if x < y then -1 else if y < x then 1 else 0) := by
  unfold f_cmp_Compare_int f_cmp_isNaN_int
  simp only [Option.bind_some, decide_true, Bool.not_true, Bool.false_eq_true, if_false]
  split
  · rfl
  · split <;> rfl
theorem or2 (a b : Int) : f_cmp_Or_int [a, b] = some (if a = 0 then b else a) := by
  unfold f_cmp_Or_int
  by_cases h : a = 0
  · subst h
    have s1 : f_cmp_Or_int.b0 [0, b] 0 = some (.inl 1) := by
      unfold f_cmp_Or_int.b0; simp [Sp.rd, w64']
    rw [loopO_inl s1]
    by_cases h2 : b = 0
    · subst h2
      have s2 : f_cmp_Or_int.b0 [0, 0] 1 = some (.inl 2) := by unfold f_cmp_Or_int.b0; simp [Sp.rd, w64']
      have s3 : f_cmp_Or_int.b0 [0, 0] 2 = some (.inr (.inl 2)) := by unfold f_cmp_Or_int.b0; simp
      rw [loopO_inl s2, loopO_inr s3]; simp
    · have s2 : f_cmp_Or_int.b0 [0, b] 1 = some (.inr (.inr b)) := by unfold f_cmp_Or_int.b0; simp [Sp.rd, h2]
      rw [loopO_inr s2]; simp
  · have s1 : f_cmp_Or_int.b0 [a, b] 0 = some (.inr (.inr a)) := by unfold f_cmp_Or_int.b0; simp [Sp.rd, h]
    rw [loopO_inr s1]; simp [h]
theorem lex_cmp (a b c d : Int) : ∃ n, (if (if a < b then (-1 : Int) else if b < a then 1 else 0) = 0 then (if c < d then (-1 : Int) else if d < c then 1 else 0) else (if a < b then (-1 : Int) else if b < a then 1 else 0)) = n ∧ (n < 0 ↔ (a < b ∨ (a = b ∧ c < d))) := by
  refine ⟨_, rfl, ?_⟩
  by_cases h1 : a < b
  · simp [h1]
  · by_cases h2 : b < a
    · simp [h1, h2]; omega
    · have : a = b := by omega
      subst this
      by_cases h3 : c < d
      · simp [h3]
      · by_cases h4 : d < c <;> simp [h3, h4]
def ltV (x y : T_api_Vert) : Prop := x.f_Kind < y.f_Kind ∨ (x.f_Kind = y.f_Kind ∧ x.f_Id < y.f_Id)
instance (x y : T_api_Vert) : Decidable (ltV x y) := by unfold ltV; infer_instance
theorem cmpV : Cmp f_topo_Members_2 ltV := by
  intro x y
  obtain ⟨n, h1, h2⟩ := lex_cmp x.f_Kind y.f_Kind x.f_Id y.f_Id
  refine ⟨n, ?_, h2⟩
  unfold f_topo_Members_2
  rw [cmpInt, cmpInt]
  simp only [Option.bind_some, or2]
  rw [h1]
theorem ordV : Go.Proofs.Ytbjnbjgiidcfjaa.Ord ltV := ⟨fun a b c h1 h2 => by unfold ltV at *; omega, fun a b h => by unfold ltV at *; omega⟩
theorem totV (a b : T_api_Vert) (h1 : ¬ ltV a b) (h2 : ¬ ltV b a) : a = b := by
  unfold ltV at *
  obtain ⟨k, i⟩ := a
  obtain ⟨k', i'⟩ := b
  simp only at h1 h2
  simp only [T_api_Vert.mk.injEq]
  omega
noncomputable def cfV (x y : T_api_Vert) : Int := (f_topo_Members_2 x y).getD 0
theorem cfV_ok (x y : T_api_Vert) : f_topo_Members_2 x y = some (cfV x y) ∧ (cfV x y < 0 ↔ ltV x y) := by
  obtain ⟨n, h1, h2⟩ := cmpV x y
  unfold cfV
  rw [h1]
  exact ⟨rfl, h2⟩
theorem ltOfV (x y : T_api_Vert) : ltOf cfV x y = decide (ltV x y) := by
  unfold ltOf
  rw [decide_eq_decide]
  exact (cfV_ok x y).2
theorem swoV : SWO (ltOf cfV) where
  irrefl x := by rw [ltOfV]; simp [ltV]
  trans x y z h1 h2 := by rw [ltOfV] at *; simp only [decide_eq_true_eq] at *; unfold ltV at *; omega
  ntrans x y z h1 h2 := by rw [ltOfV] at *; simp only [decide_eq_false_iff_not] at *; unfold ltV at *; omega
/-! ### What is called -/
theorem grow_of {W w' : World} (h : Fits W w' (allB W)) : ∃ q os', w' = grow (W.drewN q) os' := by
  have hb := below_of h
  refine ⟨w'.drawn - W.drawn, (w'.heap.toList.drop W.heap.size).toArray, ?_⟩
  have e1 : W.heap ++ (w'.heap.toList.drop W.heap.size).toArray = w'.heap := by
    apply Array.ext'
    rw [Array.toList_append]
    have : W.heap.toList = w'.heap.toList.take W.heap.size := by
      apply List.ext_getElem?
      intro j
      rw [List.getElem?_take]
      split
      · rename_i hj
        have := hb.block j hj
        rw [Array.getElem?_toList, Array.getElem?_toList, this]
      · rename_i hj
        rw [List.getElem?_eq_none]
        simpa using hj
    rw [this]
    simp
  have e2 : W.drawn + (w'.drawn - W.drawn) = w'.drawn := by have := h.os.2; omega
  cases w' with
  | mk heap tape drawn os output =>
    have h1 := h.os.1
    have h2 := h.tape
    have h3 := h.output
    simp only at h1 h2 h3 e1 e2
    subst h1 h2 h3
    simp only [grow, World.drewN, e1, e2]
theorem cmpLaysV (blk off size : Nat) (w : World) : CmpLays Try.prog 39 #[] enc_T_api_Vert 2 cfV blk off size w := by
  intro m os dk hs x y
  have h := f_topo_Members_2.ok (z := sortWorldK enc_T_api_Vert 2 w blk off m dk os) (w := sortWorldK enc_T_api_Vert 2 w blk off m dk os) (F := allB (sortWorldK enc_T_api_Vert 2 w blk off m dk os)) (G := allB (sortWorldK enc_T_api_Vert 2 w blk off m dk os)) (a0 := x) (a1 := y) sub_r (cfV_ok x y).1 (fits_all _)
  refine Calls.mono h ?_
  rintro e w' ⟨rfl, h2⟩
  exact ⟨rfl, grow_of h2⟩
/-! ### Rows of cells -/
theorem own_flat {α : Type} {enc : α → List Value} {n : Nat} {hn : ∀ x, (enc x).length = n} {h1 : ∀ x, ∀ v ∈ enc x, v.oneCell' = true} : ∀ {xs : List α} {L : Hp} {cs : List Value}, OwnE (kFlat enc n hn h1) L cs xs → L = [] ∧ cs = xs.flatMap enc
  | [], L, cs, h => ⟨h.1, h.2⟩
  | x :: xs, L, cs, ⟨L1, L2, c1, c2, e1, e2, ⟨h1', h2'⟩, h3⟩ => by
    obtain ⟨k1, k2⟩ := own_flat h3
    rw [e1, e2, h1', h2', k1, k2]
    exact ⟨rfl, by simp⟩
theorem flat_own {α : Type} {enc : α → List Value} {n : Nat} {hn : ∀ x, (enc x).length = n} {h1 : ∀ x, ∀ v ∈ enc x, v.oneCell' = true} : ∀ (xs : List α), OwnE (kFlat enc n hn h1) [] (xs.flatMap enc) xs
  | [] => ⟨rfl, rfl⟩
  | x :: xs => ⟨[], [], enc x, xs.flatMap enc, rfl, by simp, ⟨rfl, rfl⟩, flat_own xs⟩
theorem len_flat {α : Type} (enc : α → List Value) (k : Nat) (hk : ∀ x, (enc x).length = k) : ∀ (xs : List α), (xs.flatMap enc).length = xs.length * k
  | [] => by simp
  | x :: xs => by rw [List.flatMap_cons, List.length_append, hk, len_flat enc k hk xs, List.length_cons, Nat.add_mul]; omega
theorem get_flat {α : Type} [Inhabited α] (enc : α → List Value) (k : Nat) (hk : ∀ x, (enc x).length = k) (h0 : 0 < k) : ∀ (xs : List α) (j : Nat), j < xs.length * k → (xs.flatMap enc)[j]? = some ((enc xs.toArray[j / k]!)[j % k]!)
  | [], j, h => by simp at h
  | x :: xs, j, h => by
    rw [List.flatMap_cons]
    by_cases hj : j < k
    · rw [List.getElem?_append_left (by rw [hk]; exact hj)]
      have e1 : j / k = 0 := Nat.div_eq_of_lt hj
      have e2 : j % k = j := Nat.mod_eq_of_lt hj
      rw [e1, e2]
      have hl : j < (enc x).length := by rw [hk]; exact hj
      simp [hl]
    · rw [List.getElem?_append_right (by rw [hk]; omega), hk, get_flat enc k hk h0 xs (j - k) (by rw [List.length_cons, Nat.add_mul] at h; omega)]
      have e1 : j / k = (j - k) / k + 1 := by
        have := Nat.sub_mul_div j k 1
        have h2 := Nat.div_pos (by omega : k ≤ j) h0
        simp only [Nat.mul_one] at this
        omega
      have e2 : j % k = (j - k) % k := Nat.mod_eq_sub_mod (by omega)
      rw [e1, e2]
      have e3 : (x :: xs).toArray[(j - k) / k + 1]! = xs.toArray[(j - k) / k]! := by
        rw [getElem!_def, getElem!_def]
        simp
      rw [e3]
/-! ### The contract -/
noncomputable def sortV (l : List T_api_Vert) : List T_api_Vert := l.mergeSort (fun x y => !(ltOf cfV) y x)
noncomputable def f_slices_SortFunc_api_Vert_api_Vert_fn39 (a0 : List T_api_Vert) : Option (List T_api_Vert) := if a0.length < 4611686018427387904 then some (sortV a0) else none
theorem isAgg35 (w : World) : (isAgg 35).run Try.prog w = .ok true w := Try.isAgg35 w
theorem sizeOf35 (w : World) : (Go.sizeOf 35).run Try.prog w = .ok 2 w := ti35.size w
theorem f_slices_SortFunc_api_Vert_api_Vert_fn39.ok {z w : World} {F : Hp} {a0 : List T_api_Vert} {A_a0 : Option Addr} {c_a0 : Nat} {L_a0 : Hp} {r : List T_api_Vert} (H : f_slices_SortFunc_api_Vert_api_Vert_fn39 a0 = some r) (HF : Fits z w (L_a0 ++ F)) (ho_a0 : OwnS k_T_api_Vert L_a0 A_a0 c_a0 a0) :
    Calls Try.prog 38 [.slice A_a0 a0.length c_a0, .func (.func 39) [].toArray [].toArray].toArray w fun e w' => ∃ (M0 : Hp), e = .returned (.tuple #[]) ∧ Fits z w' (M0 ++ F) ∧ OwnS k_T_api_Vert M0 A_a0 c_a0 r := by
  unfold f_slices_SortFunc_api_Vert_api_Vert_fn39 at H
  split at H
  · rename_i hlt
    obtain rfl := Option.some.inj H
    rcases ho_a0 with ⟨rfl, rfl, rfl, rfl⟩ | ⟨g, o, arr, T, Lr, rfl, rfl, hle, hm, hs, he⟩
    · have h := AnyF.slices_SortFunc_none Try.sortV none 0 (.func (.func 39) #[] #[]) w
      refine Calls.mono h ?_
      rintro e w' ⟨rfl, rfl⟩
      exact ⟨[], rfl, HF, .inl ⟨rfl, rfl, by simp [sortV], rfl⟩⟩
    · have e2 : k_T_api_Vert.sz = 2 := rfl
      rw [e2] at hs he
      obtain ⟨rfl, hcs⟩ := own_flat he
      have hg := HF.here _ (List.mem_cons_self ..)
      simp only at hg
      have hH : HoldsK enc_T_api_Vert 2 w g o a0.toArray := by
        intro j hj
        rw [Go.Sort.size_flatK, List.size_toArray] at hj
        have h3 : arr[o + j]? = some ((enc_T_api_Vert a0.toArray[j / 2]!)[j % 2]!) := by
          rw [← get_flat enc_T_api_Vert 2 (fun _ => rfl) (by decide) a0 j hj, ← hcs, List.getElem?_take, if_pos hj, List.getElem?_drop, Array.getElem?_toList]
        refine ⟨?_, ?_⟩
        · rw [Go.Sort.get_flatK _ _ _ _ (by simpa using hj)]
          simp only [World.cell?, hg, h3, id]
          rfl
        · simp [World.frozen?, hg]
      have hb := (Array.getElem?_eq_some_iff.1 hg).1
      have h := AnyQ.slices_SortFunc_total Try.sortV 2 isAgg35 sizeOf35 enc_T_api_Vert (fun _ => rfl) one_T_api_Vert cfV swoV 39 #[] g o c_a0 a0.toArray w (enters_of Try.func39 (by kernel_rfl) rfl) (cmpLaysV g o _ w) hH hb (by simpa using hlt) (by
        intro x y h1 h2
        rw [ltOfV] at h1 h2
        exact totV x y (by simpa using h1) (by simpa using h2))
      rw [List.size_toArray] at h
      refine Calls.mono h ?_
      rintro e w' ⟨rfl, n, os, rfl⟩
      have hl : (sortV a0).length = a0.length := by unfold sortV; exact List.length_mergeSort ..
      change ∃ M0, _ ∧ Fits z (sortWorldK enc_T_api_Vert 2 w g o n (sortV a0).toArray os) _ ∧ _
      have hfk : (flatK enc_T_api_Vert 2 (sortV a0).toArray).size = a0.length * 2 := by rw [Go.Sort.size_flatK, List.size_toArray, hl]
      have hget : ∀ j, j < a0.length * 2 → (flatK enc_T_api_Vert 2 (sortV a0).toArray)[j]! = (enc_T_api_Vert (sortV a0).toArray[j / 2]!)[j % 2]! := fun j hj => Go.Sort.get_flatK _ _ _ _ (by rw [List.size_toArray, hl]; exact hj)
      generalize hFK : flatK enc_T_api_Vert 2 (sortV a0).toArray = FK at hfk hget
      have hheap : (sortWorldK enc_T_api_Vert 2 w g o n (sortV a0).toArray os).heap = (w.heap.modify g (onCells (putCells id o FK))) ++ os := by rw [← hFK]; rfl
      have hat : ∀ p : Nat × Obj, p ∈ (g, Obj.cells (putCells id o FK arr) T (0, 0)) :: F → (sortWorldK enc_T_api_Vert 2 w g o n (sortV a0).toArray os).heap[p.1]? = some p.2 := by
        intro p hp
        have nd := HF.nodup
        rw [List.cons_append, List.nil_append, List.map_cons, List.nodup_cons] at nd
        rw [hheap]
        rcases List.mem_cons.1 hp with rfl | hp
        · rw [Array.getElem?_append, if_pos (by simpa using hb), Array.getElem?_modify, if_pos rfl, hg]
          rfl
        · have hne : g ≠ p.1 := fun e => nd.1 (by rw [show (g, Obj.cells arr T).1 = p.1 from e]; exact List.mem_map_of_mem hp)
          have hpl := HF.lt (List.mem_cons_of_mem _ hp)
          rw [Array.getElem?_append, if_pos (by simpa using hpl), Array.getElem?_modify, if_neg hne]
          exact HF.here p (List.mem_cons_of_mem _ hp)
      refine ⟨[(g, Obj.cells (putCells id o FK arr) T (0, 0))], rfl, ⟨⟨HF.os.1, Nat.le_trans HF.os.2 (Nat.le_add_right _ _)⟩, HF.tape, HF.output, HF.nodup, hat⟩, .inr ⟨g, o, _, T, [], rfl, rfl, by rw [hl]; exact hle, hm, by rw [e2]; simpa [putCells] using hs, ?_⟩⟩
      rw [e2, hl]
      have hcells : ((putCells id o FK arr).toList.drop o).take (a0.length * 2) = (sortV a0).flatMap enc_T_api_Vert := by
        apply List.ext_getElem?
        intro j
        rw [List.getElem?_take]
        by_cases hj : j < a0.length * 2
        · have hlt2 : o + j < arr.size := by have : a0.length * 2 ≤ c_a0 * 2 := Nat.mul_le_mul_right _ hle; omega
          rw [if_pos hj, List.getElem?_drop, Array.getElem?_toList, get_flat enc_T_api_Vert 2 (fun _ => rfl) (by decide) (sortV a0) j (by rw [hl]; exact hj), ← hget j hj]
          unfold putCells
          rw [Array.getElem?_mapIdx, Array.getElem?_eq_getElem hlt2, Option.map_some, if_pos ⟨by omega, by rw [hfk]; omega⟩, Nat.add_sub_cancel_left]
          rfl
        · rw [if_neg hj, List.getElem?_eq_none]
          rw [len_flat enc_T_api_Vert 2 (fun _ => rfl), hl]; omega
      rw [hcells]
      exact flat_own _
  · cases H
end Go.Proofs.Ytbjnbjgiidcfjaa
