/- Plain facts: what is no text is not read; AddrBack, AddrStrict. No conditions. -/
import Derived.Test.YtdnlahdddidffaaDoorUAddr1
set_option linter.unusedVariables false
set_option linter.unusedSimpArgs false
namespace Go.Proofs.YtdnlahdddidffaaDoor
open Go Go.Proofs.YtdnlahdddidffaaDoor.Sp
theorem splitB_small (sep : ByteArray) : ∀ (k : Nat) (s : ByteArray), ∀ p ∈ Lib.splitB sep 0 k s, p.size ≤ s.size
  | 0, s, p, hp => by simp [Lib.splitB] at hp; subst hp; exact Nat.le_refl _
  | k + 1, s, p, hp => by
    unfold Lib.splitB at hp
    split at hp
    · simp at hp; subst hp; exact Nat.le_refl _
    · rcases List.mem_cons.1 hp with rfl | hp
      · rw [ByteArray.size_extract]; omega
      · have := splitB_small sep k _ p hp
        rw [ByteArray.size_extract] at this; omega
theorem rd_mem {t : List ByteArray} {i : Int} (h0 : 0 ≤ i) (h1 : i < t.length) : rd t i ∈ t := by
  have := rd_get h0 h1
  exact List.mem_of_getElem? this
theorem atoi_some {s : ByteArray} (h : s.size ≤ 281474976710656) : ∃ v b, f_strconv_Atoi s = some (v, b) := by
  rw [f_strconv_Atoi, if_pos h]
  split <;> exact ⟨_, _, rfl⟩
/-- What is no address's text is not read. -/
theorem read_else {s : ByteArray} (hs : s.size < 4294967281) (h : ∀ a, a < 4294967296 → s.data.toList ≠ txt a) : f_addr_Read s = some (0, 3) := by
  unfold f_addr_Read
  rw [f_strings_Split, if_pos ⟨hs, by decide⟩]
  simp only [Option.bind_some]
  have hsm := splitB_small (⟨#[46]⟩ : ByteArray) (Lib.countB s (⟨#[46]⟩ : ByteArray)) s
  have hln := Lib.splitB_length_le (⟨#[46]⟩ : ByteArray) 0 (Lib.countB s (⟨#[46]⟩ : ByteArray)) s
  have hcl := Lib.countB_le (⟨#[46]⟩ : ByteArray) (by decide) _ s (Nat.le_refl _)
  generalize Lib.splitB (⟨#[46]⟩ : ByteArray) 0 (Lib.countB s (⟨#[46]⟩ : ByteArray)) s = t at *
  have key := loop_ends (f_addr_Read.b0 t) (fun s => 0 ≤ s.2 ∧ s.2 ≤ t.length) (fun r => ∀ x, r = .inr x → x = (0, 3)) (fun s => (t.length - s.2).toNat) (by
    rintro ⟨x, i⟩ ⟨h0, h1⟩
    simp only at h0 h1
    unfold f_addr_Read.b0
    simp only
    by_cases hi : i < t.length
    · rw [if_pos hi, if_pos h0]
      obtain ⟨v, b, hv⟩ := atoi_some (s := rd t i) (by have := hsm _ (rd_mem h0 hi); omega)
      rw [hv]
      simp only [Option.bind_some]
      cases b with
      | true => right; exact ⟨_, rfl, fun x hx => by cases hx; rfl⟩
      | false =>
        simp only [Bool.false_eq_true, if_false]
        by_cases c1 : v < 0
        · right; rw [if_pos c1]; exact ⟨_, rfl, fun x hx => by cases hx; rfl⟩
        · rw [if_neg c1]
          by_cases c2 : 255 < v
          · right; rw [if_pos c2]; exact ⟨_, rfl, fun x hx => by cases hx; rfl⟩
          · rw [if_neg c2]
            by_cases c3 : (t.length : Int) = 4
            · left; rw [if_pos c3]
              refine ⟨_, rfl, ?_, ?_⟩
              · rw [wrap_id (by omega) (by omega)]; simp only; omega
              · simp only; rw [wrap_id (by omega) (by omega)]; omega
            · right; rw [if_neg c3]; exact ⟨_, rfl, fun x hx => by cases hx; rfl⟩
    · right; rw [if_neg hi]; exact ⟨_, rfl, fun x hx => by cases hx⟩) (0, 0) ⟨by simp, by simp⟩
  obtain ⟨r, h1, h2⟩ := key
  rw [h1]
  simp only [Option.bind_some]
  cases r with
  | inr x => rw [h2 x rfl]
  | inl y =>
    simp only [text_eq, Option.bind_some]
    rw [if_neg]
    rw [toList_eq]
    intro he
    exact h _ (low32_lt y.1) (by rw [← he]; rfl)
theorem pure_AddrBack : AddrBack.Pure := by
  intro a0 a1 h0 h1
  have b0 := inI_u32 h0; have b1 := inI_u32 h1
  unfold f_plenumlaw1_AddrBack
  rw [w64 (x := a0) (by omega) (by omega), w64 (x := a1) (by omega) (by omega), text_eq, text_eq]
  have e0 : (low32 a0 : Int) = a0 := by unfold low32; omega
  have e1 : (low32 a1 : Int) = a1 := by unfold low32; omega
  simp only [Option.bind_some, read_txt (low32_lt _), f_plenumlaw1_Num, e0, if_true, awake_true]
  rw [if_pos]
  rw [beq_iff_eq, Bool.eq_iff_iff, toList_eq, decide_eq_true_eq]
  constructor
  · intro h
    have := txt_inj (low32_lt _) (low32_lt _) (congrArg (fun s => s.data.toList) h)
    omega
  · rintro rfl; rfl
/-! ### What is no text -/
theorem txt_dig (a : Nat) : ∀ c ∈ txt a, c = 46 ∨ (48 ≤ c.toNat ∧ c.toNat ≤ 57) := by
  intro c hc
  simp only [txt, List.mem_append, List.mem_cons] at hc
  rcases hc with h | rfl | h | rfl | h | rfl | h
  all_goals first | exact .inl rfl | exact .inr (dg3_no46 (pt_lt _ _) _ h)
theorem txt_head (a : Nat) : ∃ c l, txt a = c :: l ∧ 48 ≤ c.toNat ∧ c.toNat ≤ 57 := by
  have hl := dg3_len (pt_lt a 3)
  cases he : dg3 (pt a 3) with
  | nil => rw [he] at hl; simp at hl
  | cons c l => exact ⟨c, l ++ 46 :: (dg3 (pt a 2) ++ 46 :: (dg3 (pt a 1) ++ 46 :: dg3 (pt a 0))), by rw [txt, he]; rfl, dg3_no46 (pt_lt a 3) c (by rw [he]; simp)⟩
theorem dg3_zero {u : Nat} (h : u < 256) : ∀ c l, dg3 u = 48 :: c :: l → False := by
  intro c l he
  have h1 := of_all256 (p := fun u => match dg3 u with | 48 :: _ :: _ => false | _ => true) (by decide +kernel) h
  rw [he] at h1
  cases h1
theorem txt_zero (a b : Nat) : 48 :: txt a ≠ txt b := by
  intro he
  obtain ⟨c, l, hc, h1, h2⟩ := txt_head a
  have h3 := spl_txt b
  rw [← he, hc] at h3
  have hc46 : c ≠ 46 := by intro e; subst e; revert h1; decide
  rw [spl, if_neg (by decide), spl, if_neg hc46] at h3
  cases hs : spl l with
  | nil => rw [hs] at h3; simp only [List.cons.injEq] at h3; exact dg3_zero (pt_lt b 3) _ _ h3.1.symm
  | cons x y => rw [hs] at h3; simp only [List.cons.injEq] at h3; exact dg3_zero (pt_lt b 3) _ _ h3.1.symm
theorem txt_count {l : List UInt8} (h : l.count 46 ≠ 3) : ∀ a, a < 4294967296 → l ≠ txt a := fun a _ he => h (by rw [he, count_txt])
theorem txt_no {l : List UInt8} {c : UInt8} (hm : c ∈ l) (h : (c == 46 || (decide (48 ≤ c.toNat) && decide (c.toNat ≤ 57))) = false) : ∀ a, a < 4294967296 → l ≠ txt a := by
  intro a _ he
  rw [he] at hm
  rcases txt_dig a c hm with rfl | h2
  · revert h; decide
  · simp [h2] at h
theorem not_dg3 {l : List UInt8} (h : (all256 fun u => decide (dg3 u ≠ l)) = true) {u : Nat} (hu : u < 256) : dg3 u ≠ l := of_decide_eq_true (of_all256 h hu)
theorem txt_256 (l : List UInt8) : ∀ a, a < 4294967296 → [50, 53, 54, 46] ++ l ≠ txt a := by
  intro a _ he
  have h3 := spl_txt a
  rw [← he, show [50, 53, 54, 46] ++ l = [50, 53, 54] ++ 46 :: l from rfl, spl_app l (by decide)] at h3
  simp only [List.cons.injEq] at h3
  exact not_dg3 (l := [50, 53, 54]) (by decide +kernel) (pt_lt a 3) h3.1.symm
theorem bs_app (a b : List UInt8) : bs a ++ bs b = bs (a ++ b) := by
  rw [← bs_of (bs a ++ bs b)]
  congr 1
theorem strict_else {l : List UInt8} (hl : l.length < 4294967281) (h : ∀ a, a < 4294967296 → l ≠ txt a) : f_addr_Read (bs l) = some (0, 3) := read_else (by rw [bs_size]; exact hl) h
theorem cut_bs (l : List UInt8) : cutS (bs l) 0 3 = bs (l.take 3) := by
  rw [← bs_of (cutS (bs l) 0 3)]
  congr 1
  show ((bs l).extract 0 3).data.toList = _
  rw [Lib.extract_from_zero]; rfl
theorem pure_AddrStrict : AddrStrict.Pure := by
  intro a0 a1 h0 h1
  have b0 := inI_u32 h0; have b1 := inI_u8 h1
  unfold f_plenumlaw1_AddrStrict
  rw [w64 (x := a0) (by omega) (by omega), w64 (x := a1) (by omega) (by omega), text_eq]
  generalize low32 a0 = a
  have hl := txt_len a
  simp only [Option.bind_some]
  rw [if_neg (by rw [bs_size]; omega), cut_bs]
  have e1 : (⟨#[48]⟩ : ByteArray) = bs [48] := rfl
  have e2 : (⟨#[46]⟩ : ByteArray) = bs [46] := rfl
  have e3 : (⟨#[46, 49]⟩ : ByteArray) = bs [46, 49] := rfl
  have e4 : (⟨#[32]⟩ : ByteArray) = bs [32] := rfl
  have e5 : (⟨#[50, 53, 54, 46]⟩ : ByteArray) = bs [50, 53, 54, 46] := rfl
  have e6 : (⟨#[49, 46, 50, 46, 51]⟩ : ByteArray) = bs [49, 46, 50, 46, 51] := rfl
  have e7 : (⟨#[49, 46, 46, 50, 46, 51]⟩ : ByteArray) = bs [49, 46, 46, 50, 46, 51] := rfl
  have e8 : (⟨#[49, 46, 50, 46, 51, 46, 50, 53, 54]⟩ : ByteArray) = bs [49, 46, 50, 46, 51, 46, 50, 53, 54] := rfl
  have e9 : (⟨#[49, 46, 50, 46, 51, 46, 45, 52]⟩ : ByteArray) = bs [49, 46, 50, 46, 51, 46, 45, 52] := rfl
  have e10 : (⟨#[49, 44, 50, 44, 51, 44, 52]⟩ : ByteArray) = bs [49, 44, 50, 44, 51, 44, 52] := rfl
  have e11 : (⟨#[]⟩ : ByteArray) = bs [] := rfl
  rw [e1, e2, e3, e4, e5, e6, e7, e8, e9, e10, e11, bs_app, bs_app, bs_app, bs_app, bs_app, bs_app, bs_app]
  simp only [bs_size, List.length_cons, List.length_nil, List.length_take]
  rw [if_pos (by omega), if_pos (by omega), if_pos (by omega), if_pos (by omega), if_pos (by omega), if_pos (by omega), if_pos (by omega), if_pos (by omega), if_pos (by omega)]
  have hall : ∀ s ∈ [bs ([48] ++ txt a), bs (txt a ++ [46]), bs (txt a ++ [46, 49]), bs ([46] ++ txt a), bs ([32] ++ txt a), bs (txt a ++ [32]), bs ([50, 53, 54, 46] ++ (txt a).take 3), bs [49, 46, 50, 46, 51], bs [49, 46, 46, 50, 46, 51], bs [49, 46, 50, 46, 51, 46, 50, 53, 54], bs [49, 46, 50, 46, 51, 46, 45, 52], bs [49, 44, 50, 44, 51, 44, 52], bs []], f_addr_Read s = some (0, 3) := by
    have hc := count_txt a
    intro s hs
    simp only [List.mem_cons, List.not_mem_nil, or_false] at hs
    rcases hs with rfl | rfl | rfl | rfl | rfl | rfl | rfl | rfl | rfl | rfl | rfl | rfl | rfl
    · exact strict_else (by simp; omega) (fun b _ => txt_zero a b)
    · exact strict_else (by simp; omega) (txt_count (by rw [List.count_append, hc]; decide))
    · exact strict_else (by simp; omega) (txt_count (by rw [List.count_append, hc]; decide))
    · exact strict_else (by simp; omega) (txt_count (by rw [List.count_append, hc]; decide))
    · exact strict_else (by simp; omega) (txt_no (c := 32) (by simp) (by decide))
    · exact strict_else (by simp; omega) (txt_no (c := 32) (by simp) (by decide))
    · exact strict_else (by simp; omega) (txt_256 _)
    · exact strict_else (by simp) (txt_count (by decide))
    · refine strict_else (by simp) (fun b _ he => ?_)
      have h3 := spl_txt b
      rw [← he, show spl [49, 46, 46, 50, 46, 51] = [[49], [], [50], [51]] by decide] at h3
      simp only [List.cons.injEq] at h3
      exact not_dg3 (l := []) (by decide +kernel) (pt_lt b 2) h3.2.1.symm
    · refine strict_else (by simp) (fun b _ he => ?_)
      have h3 := spl_txt b
      rw [← he, show spl [49, 46, 50, 46, 51, 46, 50, 53, 54] = [[49], [50], [51], [50, 53, 54]] by decide] at h3
      simp only [List.cons.injEq] at h3
      exact not_dg3 (l := [50, 53, 54]) (by decide +kernel) (pt_lt b 0) h3.2.2.2.1.symm
    · exact strict_else (by simp) (txt_no (c := 45) (by simp) (by decide))
    · exact strict_else (by simp) (txt_no (c := 44) (by simp) (by decide))
    · exact strict_else (by simp) (txt_count (by decide))
  have hlen : ([bs ([48] ++ txt a), bs (txt a ++ [46]), bs (txt a ++ [46, 49]), bs ([46] ++ txt a), bs ([32] ++ txt a), bs (txt a ++ [32]), bs ([50, 53, 54, 46] ++ (txt a).take 3), bs [49, 46, 50, 46, 51], bs [49, 46, 46, 50, 46, 51], bs [49, 46, 50, 46, 51, 46, 50, 53, 54], bs [49, 46, 50, 46, 51, 46, 45, 52], bs [49, 44, 50, 44, 51, 44, 52], bs []]).length = 13 := rfl
  generalize [bs ([48] ++ txt a), bs (txt a ++ [46]), bs (txt a ++ [46, 49]), bs ([46] ++ txt a), bs ([32] ++ txt a), bs (txt a ++ [32]), bs ([50, 53, 54, 46] ++ (txt a).take 3), bs [49, 46, 50, 46, 51], bs [49, 46, 46, 50, 46, 51], bs [49, 46, 50, 46, 51, 46, 50, 53, 54], bs [49, 46, 50, 46, 51, 46, 45, 52], bs [49, 44, 50, 44, 51, 44, 52], bs []] = t at *
  have e13 : ((0 + 1 + 1 + 1 + 1 + 1 + 1 + 1 + 1 + 1 + 1 + 1 + 1 + 1 : Nat) : Int) = 13 := rfl
  rw [e13, Int.tmod_eq_emod_of_nonneg b1.1, if_pos (by omega), if_pos (by omega), hall _ (rd_mem (by omega) (by omega))]
  simp [f_plenumlaw1_Num, awake_true]
theorem AddrBack_holds : Rows.AddrBackCardSaid := AddrBack_card pure_AddrBack
theorem AddrStrict_holds : Rows.AddrStrictCardSaid := AddrStrict_card pure_AddrStrict
end Go.Proofs.YtdnlahdddidffaaDoor
