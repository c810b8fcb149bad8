/- The address of any text: the program's and the document's answers are one (AddrReads). No conditions. -/
import Derived.Test.YtdnlahdddidffaaDoorUAddr2
set_option linter.unusedVariables false
set_option linter.unusedSimpArgs false
namespace Go.Proofs.YtdnlahdddidffaaDoor
open Go Go.Proofs.YtdnlahdddidffaaDoor.Sp
theorem strI_nat (m : Nat) : strI [(m : Int)] = bs [UInt8.ofNat m] := by
  rw [strI, bs, List.map_cons, List.map_nil, Int.toNat_natCast]
theorem tup4 {p q r t p' t' : Int} (h : p = p') (k : t = t') : (p, q, r, t) = (p', q, r, t') := by subst h; subst k; rfl
theorem digits_one {u : Nat} (h : u < 10) (k : Nat) : f_plenumref1_digits (k + 1) (u : Int) = some (bs [UInt8.ofNat (48 + u)]) := by
  rw [f_plenumref1_digits, if_pos (by omega), w64 (by omega) (by omega)]
  have e : IntKind.u8.wrap (48 + (u : Int)) = ((48 + u : Nat) : Int) := by
    have : IntKind.u8.wrap (48 + (u : Int)) = (48 + (u : Int)) % 256 := rfl
    rw [this]; omega
  rw [e, strI_nat]
theorem digits_more {u : Nat} {l : List UInt8} (h : 10 ≤ u) (h2 : u < 256) (k : Nat) (hl : l.length ≤ 3) (hk : f_plenumref1_digits k ((u / 10 : Nat) : Int) = some (bs l)) : f_plenumref1_digits (k + 1) (u : Int) = some (bs (l ++ [UInt8.ofNat (48 + u % 10)])) := by
  have e1 : IntKind.i64.wrap ((u : Int).tdiv 10) = ((u / 10 : Nat) : Int) := by
    rw [Int.tdiv_eq_ediv_of_nonneg (by omega), w64 (by omega) (by omega)]; omega
  have e2 : IntKind.u8.wrap (IntKind.i64.wrap (48 + (u : Int).tmod 10)) = ((48 + u % 10 : Nat) : Int) := by
    rw [Int.tmod_eq_emod_of_nonneg (by omega), w64 (by omega) (by omega)]
    have : IntKind.u8.wrap (48 + (u : Int) % 10) = (48 + (u : Int) % 10) % 256 := rfl
    rw [this]; omega
  have e3 : ((bs l).size : Int) + (bs [UInt8.ofNat (48 + u % 10)]).size ≤ 9223372036854775807 := by rw [bs_size, bs_size, List.length_cons, List.length_nil]; omega
  rw [f_plenumref1_digits, if_neg (by omega), e1, hk, Option.bind_some, e2, strI_nat, if_pos e3, bs_app]
theorem digits_eq {u : Nat} (h : u < 256) : f_plenumref1_digits 64 (u : Int) = some (bs (dg3 u)) := by
  unfold dg3
  by_cases h1 : u < 10
  · rw [if_pos h1]; exact digits_one h1 63
  · rw [if_neg h1]
    by_cases h2 : u < 100
    · rw [if_pos h2]; exact digits_more (by omega) h 63 (by simp) (digits_one (by omega) 62)
    · rw [if_neg h2]
      have := digits_more (u := u / 10) (l := [UInt8.ofNat (48 + u / 10 / 10)]) (by omega) (by omega) 62 (by simp) (digits_one (by omega) 61)
      rw [show u / 10 / 10 = u / 100 by omega] at this
      exact digits_more (by omega) h 63 (by simp) this
theorem parts (x : Int) : bits .and .i64 (shrI .i64 x 24) 255 = (pt (low32 x) 3 : Nat) ∧ bits .and .i64 (shrI .i64 x 16) 255 = (pt (low32 x) 2 : Nat) ∧ bits .and .i64 (shrI .i64 x 8) 255 = (pt (low32 x) 1 : Nat) ∧ bits .and .i64 x 255 = (pt (low32 x) 0 : Nat) := by
  refine ⟨?_, ?_, ?_, ?_⟩
  · rw [and255, show (24 : Int) = ((24 : Nat) : Int) from rfl, shr_i _ _ (by decide)]; simp only [pt, low32]; omega
  · rw [and255, show (16 : Int) = ((16 : Nat) : Int) from rfl, shr_i _ _ (by decide)]; simp only [pt, low32]; omega
  · rw [and255, show (8 : Int) = ((8 : Nat) : Int) from rfl, shr_i _ _ (by decide)]; simp only [pt, low32]; omega
  · rw [and255]; simp only [pt, low32]; omega
theorem rtext_eq (x : Int) : f_plenumref1_Text x = some (bs (txt (low32 x))) := by
  obtain ⟨p3, p2, p1, p0⟩ := parts x
  unfold f_plenumref1_Text
  rw [p3, p2, p1, p0, digits_eq (pt_lt _ _), digits_eq (pt_lt _ _), digits_eq (pt_lt _ _), digits_eq (pt_lt _ _)]
  have l3 := dg3_len (pt_lt (low32 x) 3); have l2 := dg3_len (pt_lt (low32 x) 2); have l1 := dg3_len (pt_lt (low32 x) 1); have l0 := dg3_len (pt_lt (low32 x) 0)
  have e : (⟨#[46]⟩ : ByteArray) = bs [46] := rfl
  have sz : ∀ (x y : List UInt8), x.length + y.length ≤ 100 → ((bs x).size : Int) + (bs y).size ≤ 9223372036854775807 := by intro x y h; rw [bs_size, bs_size]; omega
  rw [e, Option.bind_some, if_pos (sz _ _ (by simp only [List.length_cons, List.length_nil]; omega)), bs_app, Option.bind_some, if_pos (sz _ _ (by simp only [List.length_append, List.length_cons, List.length_nil]; omega)), bs_app, if_pos (sz _ _ (by simp only [List.length_append, List.length_cons, List.length_nil]; omega)), bs_app, Option.bind_some, if_pos (sz _ _ (by simp only [List.length_append, List.length_cons, List.length_nil]; omega)), bs_app, if_pos (sz _ _ (by simp only [List.length_append, List.length_cons, List.length_nil]; omega)), bs_app, Option.bind_some, if_pos (sz _ _ (by simp only [List.length_append, List.length_cons, List.length_nil]; omega)), bs_app]
  simp only [txt, List.append_assoc, List.cons_append, List.nil_append]
theorem and32 (x : Int) : bits .and .i64 x 4294967295 = x % 4294967296 := by
  have e1 : (BitVec.ofInt 64 x &&& BitVec.ofInt 64 4294967295).toNat = (x % 4294967296).toNat := by
    rw [BitVec.toNat_and, BitVec.toNat_ofInt, BitVec.toNat_ofInt]
    have e2 : ((4294967295 : Int) % ((2 ^ 64 : Nat) : Int)).toNat = 2 ^ 32 - 1 := by decide
    rw [e2, Nat.and_two_pow_sub_one_eq_mod]
    have : ((2 ^ 64 : Nat) : Int) = 18446744073709551616 := by decide
    rw [this]
    omega
  show IntKind.i64.wrap ((BitVec.ofInt 64 x &&& BitVec.ofInt 64 4294967295).toNat : Int) = x % 4294967296
  rw [e1, wrap_id (by omega) (by omega)]
  omega
/-! ### The document's reading, a round at a time -/
theorem bt_range (s : ByteArray) (i : Int) : 0 ≤ bt s i ∧ bt s i ≤ 255 := by
  unfold bt
  have := (s.data.toList.getD i.toNat 0).toNat_lt
  omega
theorem ref_dig {s : ByteArray} {A n k i : Int} (h0 : 0 ≤ i) (h1 : i < s.size) (h2 : i < 16) (hd : 48 ≤ bt s i) (hd2 : bt s i ≤ 57) (hn : 0 ≤ n) (hn2 : n ≤ 255) :
    f_plenumref1_Read.b0 s (A, n, k, i) = some (.inl (A, 10 * n + (bt s i - 48), k, i + 1)) := by
  have e8 : IntKind.u8.wrap (bt s i - 48) = bt s i - 48 := by
    have : IntKind.u8.wrap (bt s i - 48) = (bt s i - 48) % 256 := rfl
    rw [this]; omega
  unfold f_plenumref1_Read.b0
  simp only
  rw [if_pos (by omega)]
  simp only [Option.bind_some, decide_eq_true_eq]
  rw [if_pos h2, if_pos h1, if_pos h0, if_pos hd, if_pos hd2]
  simp only [Option.bind_some, decide_eq_true_eq]
  rw [if_pos (by omega), if_pos h0, if_pos h1, e8, w64 (x := 10 * n) (by omega) (by omega), w64 (x := bt s i - 48) (by omega) (by omega), w64 (by omega) (by omega), w64 (by omega) (by omega)]
theorem ref_sep {s : ByteArray} {A n k i : Int} (h0 : 0 ≤ i) (h1 : i ≤ s.size) (h2 : i < 16) (hd : i < s.size → bt s i = 46) (hn : 0 ≤ n) (hn2 : n ≤ 255) (hA : 0 ≤ A) (hA2 : A < 36028797018963968) (hk : 0 ≤ k) (hk2 : k ≤ 20) :
    f_plenumref1_Read.b0 s (A, n, k, i) = some (.inl (256 * A + n, 0, k + 1, i + 1)) := by
  have en : bits .and .i64 n 255 = n := by rw [and255]; omega
  unfold f_plenumref1_Read.b0
  simp only
  rw [if_pos h1]
  simp only [Option.bind_some, decide_eq_true_eq]
  rw [if_pos h2]
  by_cases hs : i < s.size
  · rw [if_pos hs, if_pos h0, hd hs, if_neg (by decide)]
    simp only [Option.bind_some, Bool.false_eq_true, if_false]
    rw [en, or_byte hA hA2 hn hn2, w64 (by omega) (by omega), w64 (by omega) (by omega)]
  · rw [if_neg hs]
    simp only [Option.bind_some, Bool.false_eq_true, if_false]
    rw [en, or_byte hA hA2 hn hn2, w64 (by omega) (by omega), w64 (by omega) (by omega)]
theorem ref_end {s : ByteArray} {A n k i : Int} (h1 : ¬ i ≤ s.size) : f_plenumref1_Read.b0 s (A, n, k, i) = some (.inr (.inl (A, n, k, i))) := by
  unfold f_plenumref1_Read.b0
  simp only
  rw [if_neg h1]
  simp
theorem bt_drop {s : ByteArray} {l : List UInt8} {i j : Nat} (h : s.data.toList.drop i = l) {c : UInt8} (hj : l[j]? = some c) : bt s ((i + j : Nat) : Int) = c.toNat := by
  rw [← h, List.getElem?_drop] at hj
  unfold bt
  rw [Int.toNat_natCast, List.getD_eq_getElem?_getD, hj, Option.getD_some]
theorem size_drop {s : ByteArray} {l : List UInt8} {i : Nat} (h : s.data.toList.drop i = l) (hi : i ≤ s.size) : s.size = i + l.length := by
  have := congrArg List.length h
  have e : s.data.toList.length = s.size := Array.length_toList
  rw [List.length_drop, e] at this
  omega
theorem dig_nat {x : Nat} (h : x < 10) : (UInt8.ofNat (48 + x)).toNat = 48 + x := by
  rw [UInt8.toNat_ofNat']; omega
/-- One part of a text, and what ends it. -/
theorem ref_part {s : ByteArray} {A k : Int} {i u : Nat} {r : List UInt8} (hu : u < 256) (h : s.data.toList.drop i = dg3 u ++ r) (hr : r = [] ∨ ∃ r', r = 46 :: r') (hi : i ≤ s.size) (h16 : i + (dg3 u).length < 16) (hA : 0 ≤ A) (hA2 : A < 36028797018963968) (hk : 0 ≤ k) (hk2 : k ≤ 20) :
    loopO (f_plenumref1_Read.b0 s) (A, 0, k, (i : Int)) = loopO (f_plenumref1_Read.b0 s) (256 * A + u, 0, k + 1, ((i + (dg3 u).length + 1 : Nat) : Int)) := by
  have hsz := size_drop h hi
  rw [List.length_append] at hsz
  have hend : ∀ q : Nat, q = i + (dg3 u).length → ((q : Int) < s.size → bt s (q : Int) = 46) := by
    intro q hq hlt
    rcases hr with rfl | ⟨r', rfl⟩
    · simp at hsz; omega
    · have := bt_drop (j := (dg3 u).length) (c := 46) h (by rw [List.getElem?_append_right (Nat.le_refl _), Nat.sub_self]; rfl)
      rw [hq]; exact this
  have dgt : ∀ (j : Nat) (x : Nat), x < 10 → (dg3 u)[j]? = some (UInt8.ofNat (48 + x)) → bt s ((i + j : Nat) : Int) = 48 + x := by
    intro j x hx hj
    rw [bt_drop (j := j) h (by rw [List.getElem?_append_left (List.getElem?_eq_some_iff.1 hj).1]; exact hj), dig_nat hx]
    omega
  unfold dg3 at *
  by_cases h1 : u < 10
  · simp only [if_pos h1, List.length_cons, List.length_nil] at *
    have d0 := dgt 0 u h1 rfl
    rw [loopO_inl (ref_dig (i := (i : Int)) (by omega) (by omega) (by omega) (by rw [show ((i : Int)) = ((i + 0 : Nat) : Int) by omega, d0]; omega) (by rw [show ((i : Int)) = ((i + 0 : Nat) : Int) by omega, d0]; omega) (by omega) (by omega))]
    rw [show bt s (i : Int) = 48 + u from by rw [show ((i : Int)) = ((i + 0 : Nat) : Int) by omega]; exact d0]
    rw [loopO_inl (ref_sep (i := (i : Int) + 1) (by omega) (by omega) (by omega) (by have := hend (i + 1) rfl; intro hh; rw [show (i : Int) + 1 = ((i + 1 : Nat) : Int) by omega] at hh ⊢; exact this hh) (by omega) (by omega) hA hA2 hk hk2)]
    exact congrArg _ (tup4 (by omega) (by omega))
  · simp only [if_neg h1] at *
    by_cases h2 : u < 100
    · simp only [if_pos h2, List.length_cons, List.length_nil] at *
      have d0 := dgt 0 (u / 10) (by omega) rfl
      have d1 := dgt 1 (u % 10) (by omega) rfl
      have e0 : bt s (i : Int) = 48 + (u / 10 : Nat) := by rw [show ((i : Int)) = ((i + 0 : Nat) : Int) by omega]; exact d0
      have e1 : bt s ((i : Int) + 1) = 48 + (u % 10 : Nat) := by rw [show ((i : Int)) + 1 = ((i + 1 : Nat) : Int) by omega]; exact d1
      rw [loopO_inl (ref_dig (i := (i : Int)) (by omega) (by omega) (by omega) (by omega) (by omega) (by omega) (by omega)), e0]
      rw [loopO_inl (ref_dig (i := (i : Int) + 1) (by omega) (by omega) (by omega) (by omega) (by omega) (by omega) (by omega)), e1]
      rw [loopO_inl (ref_sep (i := (i : Int) + 1 + 1) (by omega) (by omega) (by omega) (by have := hend (i + 2) rfl; intro hh; rw [show (i : Int) + 1 + 1 = ((i + 2 : Nat) : Int) by omega] at hh ⊢; exact this hh) (by omega) (by omega) hA hA2 hk hk2)]
      exact congrArg _ (tup4 (by omega) (by omega))
    · simp only [if_neg h2, List.length_cons, List.length_nil] at *
      have d0 := dgt 0 (u / 100) (by omega) rfl
      have d1 := dgt 1 (u / 10 % 10) (by omega) rfl
      have d2 := dgt 2 (u % 10) (by omega) rfl
      have e0 : bt s (i : Int) = 48 + (u / 100 : Nat) := by rw [show ((i : Int)) = ((i + 0 : Nat) : Int) by omega]; exact d0
      have e1 : bt s ((i : Int) + 1) = 48 + (u / 10 % 10 : Nat) := by rw [show ((i : Int)) + 1 = ((i + 1 : Nat) : Int) by omega]; exact d1
      have e2 : bt s ((i : Int) + 1 + 1) = 48 + (u % 10 : Nat) := by rw [show ((i : Int)) + 1 + 1 = ((i + 2 : Nat) : Int) by omega]; exact d2
      rw [loopO_inl (ref_dig (i := (i : Int)) (by omega) (by omega) (by omega) (by omega) (by omega) (by omega) (by omega)), e0]
      rw [loopO_inl (ref_dig (i := (i : Int) + 1) (by omega) (by omega) (by omega) (by omega) (by omega) (by omega) (by omega)), e1]
      rw [loopO_inl (ref_dig (i := (i : Int) + 1 + 1) (by omega) (by omega) (by omega) (by omega) (by omega) (by omega) (by omega)), e2]
      rw [loopO_inl (ref_sep (i := (i : Int) + 1 + 1 + 1) (by omega) (by omega) (by omega) (by have := hend (i + 3) rfl; intro hh; rw [show (i : Int) + 1 + 1 + 1 = ((i + 3 : Nat) : Int) by omega] at hh ⊢; exact this hh) (by omega) (by omega) hA hA2 hk hk2)]
      exact congrArg _ (tup4 (by omega) (by omega))
theorem drop_next {l x r : List UInt8} {i : Nat} (h : l.drop i = x ++ 46 :: r) : l.drop (i + x.length + 1) = r := by
  have e : i + x.length + 1 = i + (x.length + 1) := by omega
  rw [e, ← List.drop_drop, h, ← List.drop_drop, List.drop_left]; rfl
theorem ref_txt {a : Nat} (ha : a < 4294967296) : f_plenumref1_Read (bs (txt a)) = some ((a : Int), 0) := by
  have hlen := txt_len a
  have hsize : (bs (txt a)).size = (txt a).length := bs_size _
  have l3 := dg3_len (pt_lt a 3); have l2 := dg3_len (pt_lt a 2); have l1 := dg3_len (pt_lt a 1); have l0 := dg3_len (pt_lt a 0)
  have hL : (txt a).length = (dg3 (pt a 3)).length + (dg3 (pt a 2)).length + (dg3 (pt a 1)).length + (dg3 (pt a 0)).length + 3 := by simp only [txt, List.length_append, List.length_cons]; omega
  have g3 : (bs (txt a)).data.toList.drop 0 = dg3 (pt a 3) ++ 46 :: (dg3 (pt a 2) ++ 46 :: (dg3 (pt a 1) ++ 46 :: dg3 (pt a 0))) := rfl
  have g2 := drop_next g3
  have g1 := drop_next g2
  have g0 := drop_next g1
  have q3 := pt_lt a 3; have q2 := pt_lt a 2; have q1 := pt_lt a 1; have q0 := pt_lt a 0
  unfold f_plenumref1_Read
  have r3 := ref_part (A := 0) (k := 0) (pt_lt a 3) g3 (.inr ⟨_, rfl⟩) (by omega) (by omega) (by omega) (by omega) (by omega) (by omega)
  have r2 := ref_part (A := 256 * 0 + (pt a 3 : Int)) (k := 0 + 1) (pt_lt a 2) g2 (.inr ⟨_, rfl⟩) (by omega) (by omega) (by omega) (by omega) (by omega) (by omega)
  have r1 := ref_part (A := 256 * (256 * 0 + (pt a 3 : Int)) + (pt a 2 : Int)) (k := 0 + 1 + 1) (pt_lt a 1) g1 (.inr ⟨_, rfl⟩) (by omega) (by omega) (by omega) (by omega) (by omega) (by omega)
  have r0 := ref_part (A := 256 * (256 * (256 * 0 + (pt a 3 : Int)) + (pt a 2 : Int)) + (pt a 1 : Int)) (k := 0 + 1 + 1 + 1) (r := []) (pt_lt a 0) (by rw [g0]; simp) (.inl rfl) (by omega) (by omega) (by omega) (by omega) (by omega) (by omega)
  have e0 : ((0 : Nat) : Int) = 0 := rfl
  rw [e0] at r3
  rw [r3, r2, r1, r0, loopO_inr (ref_end (by omega))]
  have e : 256 * (256 * (256 * (256 * 0 + (pt a 3 : Int)) + (pt a 2 : Int)) + (pt a 1 : Int)) + (pt a 0 : Int) = a := by simp only [pt]; omega
  have e2 : low32 (a : Int) = a := by unfold low32; omega
  simp only [Option.bind_some, e]
  rw [if_pos (by omega), rtext_eq, e2]
  simp only [Option.bind_some]
  rw [if_pos ((toList_eq _ _).2 rfl), and32]
  congr 2; omega
theorem ref_else {s : ByteArray} (h : ∀ a, a < 4294967296 → s.data.toList ≠ txt a) : f_plenumref1_Read s = some (0, 3) := by
  unfold f_plenumref1_Read
  have key := loop_ends (f_plenumref1_Read.b0 s) (fun s => 0 ≤ s.2.2.2 ∧ s.2.2.2 ≤ 16) (fun r => ∃ y, r = .inl y) (fun s => (17 - s.2.2.2).toNat) (by
    rintro ⟨A, n, k, i⟩ ⟨h0, h1⟩
    simp only at h0 h1
    unfold f_plenumref1_Read.b0
    simp only
    by_cases c1 : i ≤ (s.size : Int)
    · rw [if_pos c1]
      simp only [Option.bind_some, decide_eq_true_eq]
      by_cases c2 : i < 16
      · rw [if_pos c2]
        left
        have ei : IntKind.i64.wrap (i + 1) = i + 1 := w64 (by omega) (by omega)
        have fin : ∀ q : Bool, q = true → i < (s.size : Int) → True := fun _ _ _ => trivial
        by_cases c3 : i < (s.size : Int)
        · simp only [if_pos c3, if_pos h0]
          by_cases c4 : 48 ≤ bt s i
          · simp only [if_pos c4]
            by_cases c5 : bt s i ≤ 57
            · simp only [if_pos c5, Option.bind_some, decide_eq_true_eq]
              by_cases c6 : n < 256
              · rw [if_pos c6]; exact ⟨_, rfl, by simp only [ei]; omega, by simp only [ei]; omega⟩
              · rw [if_neg c6]; exact ⟨_, rfl, by simp only [ei]; omega, by simp only [ei]; omega⟩
            · simp only [if_neg c5, Option.bind_some, Bool.false_eq_true, if_false]; exact ⟨_, rfl, by simp only [ei]; omega, by simp only [ei]; omega⟩
          · simp only [if_neg c4, Option.bind_some, Bool.false_eq_true, if_false]; exact ⟨_, rfl, by simp only [ei]; omega, by simp only [ei]; omega⟩
        · simp only [if_neg c3, Option.bind_some, Bool.false_eq_true, if_false]; exact ⟨_, rfl, by simp only [ei]; omega, by simp only [ei]; omega⟩
      · rw [if_neg c2]; right; exact ⟨_, rfl, _, rfl⟩
    · rw [if_neg c1]; right; refine ⟨.inl (A, n, k, i), ?_, _, rfl⟩; simp only [Option.bind_some, Bool.false_eq_true, if_false]) (0, 0, 0, 0) ⟨by simp, by simp⟩
  obtain ⟨r, h1, y, rfl⟩ := key
  rw [h1]
  simp only [Option.bind_some]
  split
  · rw [rtext_eq]
    simp only [Option.bind_some]
    rw [if_neg]
    rw [toList_eq]
    intro he
    exact h _ (low32_lt y.1) (by rw [← he]; rfl)
  · rfl
theorem pure_AddrReads : AddrReads.Pure := by
  intro s hs
  unfold f_plenumlaw1_AddrReads
  by_cases h : 100 < (s.size : Int)
  · rw [if_pos h, awake_true]; rfl
  · rw [if_neg h]
    by_cases ht : ∃ a, a < 4294967296 ∧ s.data.toList = txt a
    · obtain ⟨a, ha, he⟩ := ht
      have e : s = bs (txt a) := by rw [← he]; rfl
      rw [e, read_txt ha, ref_txt ha]
      simp [f_plenumlaw1_Num, awake_true]
    · have hn : ∀ a, a < 4294967296 → s.data.toList ≠ txt a := fun a ha he => ht ⟨a, ha, he⟩
      rw [read_else (by omega) hn, ref_else hn]
      simp [f_plenumlaw1_Num, awake_true]
theorem AddrReads_holds : Rows.AddrReadsCardSaid := AddrReads_card pure_AddrReads
end Go.Proofs.YtdnlahdddidffaaDoor
