/- Plain facts on addresses' texts: what Text and Read come to. No conditions. -/
import Derived.Test.YtdnlahdddidffaaDoorR
import Derived.Test.YtdnlahdddidffaaDoorPl
set_option linter.unusedVariables false
set_option linter.unusedSimpArgs false
namespace Go.Proofs.YtdnlahdddidffaaDoor
open Go Go.Proofs.YtdnlahdddidffaaDoor.Sp
/-! ### Digits -/
/-- A byte's numeral. -/
def dg3 (u : Nat) : List UInt8 := if u < 10 then [UInt8.ofNat (48 + u)] else if u < 100 then [UInt8.ofNat (48 + u / 10), UInt8.ofNat (48 + u % 10)] else [UInt8.ofNat (48 + u / 100), UInt8.ofNat (48 + u / 10 % 10), UInt8.ofNat (48 + u % 10)]
theorem dec_dg3 {u : Nat} (h : u < 256) : Lib.decDigits u = dg3 u := by
  unfold dg3
  by_cases h1 : u < 10
  · rw [if_pos h1, Lib.decDigits_one h1]
  · rw [if_neg h1]
    by_cases h2 : u < 100
    · rw [if_pos h2, Lib.decDigits_two h1 h2]
    · rw [if_neg h2, Lib.decDigits, dif_neg h1, Lib.decDigits_two (by omega) (by omega)]
      have e1 : u / 10 / 10 = u / 100 := by omega
      rw [e1]; rfl
def all256 (p : Nat → Bool) : Bool := (List.range 256).all p
theorem of_all256 {p : Nat → Bool} (h : all256 p = true) {u : Nat} (hu : u < 256) : p u = true := List.all_eq_true.1 h u (List.mem_range.2 hu)
theorem atoi_dg3 {u : Nat} (h : u < 256) : Lib.atoiAll (dg3 u) = .ok (u : Int) := by
  have := of_all256 (p := fun u => decide (Lib.atoiAll (dg3 u) = .ok (u : Int))) (by decide +kernel) h
  simpa using this
theorem dg3_no46 {u : Nat} (h : u < 256) : ∀ c ∈ dg3 u, 48 ≤ c.toNat ∧ c.toNat ≤ 57 := by
  have := of_all256 (p := fun u => (dg3 u).all fun c => decide (48 ≤ c.toNat ∧ c.toNat ≤ 57)) (by decide +kernel) h
  intro c hc
  simpa using List.all_eq_true.1 this c hc
theorem dg3_len {u : Nat} (h : u < 256) : 1 ≤ (dg3 u).length ∧ (dg3 u).length ≤ 3 := by
  have := of_all256 (p := fun u => decide (1 ≤ (dg3 u).length ∧ (dg3 u).length ≤ 3)) (by decide +kernel) h
  simpa using this
theorem dg3_inj {u v : Nat} (hu : u < 256) (hv : v < 256) (h : dg3 u = dg3 v) : u = v := by
  have h1 := atoi_dg3 hu
  rw [h, atoi_dg3 hv] at h1
  simp only [Lib.NumEnd.ok.injEq] at h1
  omega
/-! ### A text -/
def pt (a k : Nat) : Nat := a / 256 ^ k % 256
theorem pt_lt (a k : Nat) : pt a k < 256 := Nat.mod_lt _ (by decide)
def txt (a : Nat) : List UInt8 := dg3 (pt a 3) ++ 46 :: (dg3 (pt a 2) ++ 46 :: (dg3 (pt a 1) ++ 46 :: dg3 (pt a 0)))
def bs (l : List UInt8) : ByteArray := ⟨l.toArray⟩
theorem bs_data (l : List UInt8) : (bs l).data.toList = l := rfl
theorem bs_of (s : ByteArray) : bs s.data.toList = s := rfl
theorem bs_size (l : List UInt8) : (bs l).size = l.length := by simp [bs, ByteArray.size]
theorem toList_eq (s t : ByteArray) : (s.toList == t.toList) = true ↔ s = t := by
  rw [bytes_eq, decide_eq_true_eq]
theorem wrap_id {x : Int} (h0 : 0 ≤ x) (h1 : x ≤ 9223372036854775807) : IntKind.i64.wrap x = x := w64 (by omega) h1
theorem and255 (x : Int) : bits .and .i64 x 255 = x % 256 := by
  have e1 : (BitVec.ofInt 64 x &&& BitVec.ofInt 64 255).toNat = (x % 256).toNat := by
    rw [BitVec.toNat_and, BitVec.toNat_ofInt, BitVec.toNat_ofInt]
    have e2 : ((255 : Int) % ((2 ^ 64 : Nat) : Int)).toNat = 2 ^ 8 - 1 := by decide
    rw [e2, Nat.and_two_pow_sub_one_eq_mod]
    have : ((2 ^ 64 : Nat) : Int) = 18446744073709551616 := by decide
    rw [this]
    omega
  show IntKind.i64.wrap ((BitVec.ofInt 64 x &&& BitVec.ofInt 64 255).toNat : Int) = x % 256
  rw [e1, wrap_id (by omega) (by omega)]
  omega
theorem shr_i (x : Int) (n : Nat) (h : n ≤ 64) : shrI .i64 x n = x / (2 ^ n : Nat) := by
  have e1 : IntKind.i64.bits = 64 := rfl
  rw [shrI, e1, Int.toNat_natCast, Nat.min_eq_left h, Int.fdiv_eq_ediv_of_nonneg _ (by exact_mod_cast Nat.zero_le _)]
  norm_cast
/-- The address that a number is, of 32 bits. -/
def low32 (x : Int) : Nat := (x % 4294967296).toNat
theorem low32_lt (x : Int) : low32 x < 4294967296 := by unfold low32; omega
theorem itoa_byte {x : Int} {u : Nat} (h : x = u) (hu : u < 256) : f_strconv_Itoa x = some (bs (dg3 u)) := by
  subst h
  rw [f_strconv_Itoa, if_pos (by omega), Lib.itoa_nonneg, dec_dg3 hu]; rfl
theorem join4 (a b c d : List UInt8) : Lib.join [a, b, c, d] [46] = a ++ 46 :: (b ++ 46 :: (c ++ 46 :: d)) := by
  simp [Lib.join, List.intercalate, List.intersperse]
theorem txt_len (a : Nat) : 7 ≤ (txt a).length ∧ (txt a).length ≤ 15 := by
  have h0 := dg3_len (pt_lt a 0); have h1 := dg3_len (pt_lt a 1); have h2 := dg3_len (pt_lt a 2); have h3 := dg3_len (pt_lt a 3)
  simp only [txt, List.length_append, List.length_cons]; omega
theorem text_eq (x : Int) : f_addr_Text x = some (bs (txt (low32 x))) := by
  have p3 : bits .and .i64 (shrI .i64 x 24) 255 = (pt (low32 x) 3 : Nat) := by
    rw [and255, show (24 : Int) = ((24 : Nat) : Int) from rfl, shr_i _ _ (by decide)]; simp only [pt, low32]; omega
  have p2 : bits .and .i64 (shrI .i64 x 16) 255 = (pt (low32 x) 2 : Nat) := by
    rw [and255, show (16 : Int) = ((16 : Nat) : Int) from rfl, shr_i _ _ (by decide)]; simp only [pt, low32]; omega
  have p1 : bits .and .i64 (shrI .i64 x 8) 255 = (pt (low32 x) 1 : Nat) := by
    rw [and255, show (8 : Int) = ((8 : Nat) : Int) from rfl, shr_i _ _ (by decide)]; simp only [pt, low32]; omega
  have p0 : bits .and .i64 x 255 = (pt (low32 x) 0 : Nat) := by
    rw [and255]; simp only [pt, low32]; omega
  unfold f_addr_Text
  rw [itoa_byte p3 (pt_lt _ _), itoa_byte p2 (pt_lt _ _), itoa_byte p1 (pt_lt _ _), itoa_byte p0 (pt_lt _ _)]
  have hj : f_strings_Join [bs (dg3 (pt (low32 x) 3)), bs (dg3 (pt (low32 x) 2)), bs (dg3 (pt (low32 x) 1)), bs (dg3 (pt (low32 x) 0))] (⟨#[46]⟩ : ByteArray) = some (bs (txt (low32 x))) := by
    have e : Lib.join ([bs (dg3 (pt (low32 x) 3)), bs (dg3 (pt (low32 x) 2)), bs (dg3 (pt (low32 x) 1)), bs (dg3 (pt (low32 x) 0))].map (·.data.toList)) (⟨#[46]⟩ : ByteArray).data.toList = txt (low32 x) := join4 _ _ _ _
    rw [f_strings_Join, e, if_pos ⟨by have := txt_len (low32 x); omega, by simp⟩]; rfl
  simp only [Option.bind_some, hj]
/-! ### The parts of a text -/
/-- Parted at each dot. -/
def spl : List UInt8 → List (List UInt8)
  | [] => [[]]
  | c :: l => if c = 46 then [] :: spl l else match spl l with
    | h :: t => (c :: h) :: t
    | [] => [[c]]
theorem spl_none : ∀ {x : List UInt8}, (∀ c ∈ x, c ≠ 46) → spl x = [x]
  | [], _ => rfl
  | c :: x, h => by rw [spl, if_neg (h c (by simp)), spl_none (fun d hd => h d (by simp [hd]))]
theorem spl_app : ∀ {x : List UInt8} (r : List UInt8), (∀ c ∈ x, c ≠ 46) → spl (x ++ 46 :: r) = x :: spl r
  | [], r, _ => by simp [spl]
  | c :: x, r, h => by rw [List.cons_append, spl, if_neg (h c (by simp)), spl_app r (fun d hd => h d (by simp [hd]))]
theorem dg3_ne {u : Nat} (h : u < 256) : ∀ c ∈ dg3 u, c ≠ 46 := by
  intro c hc he
  subst he
  have := dg3_no46 h _ hc
  revert this; decide
theorem spl_txt (a : Nat) : spl (txt a) = [dg3 (pt a 3), dg3 (pt a 2), dg3 (pt a 1), dg3 (pt a 0)] := by
  rw [txt, spl_app _ (dg3_ne (pt_lt _ _)), spl_app _ (dg3_ne (pt_lt _ _)), spl_app _ (dg3_ne (pt_lt _ _)), spl_none (dg3_ne (pt_lt _ _))]
theorem index_none : ∀ {x : List UInt8}, (∀ c ∈ x, c ≠ 46) → Lib.index x [46] = -1
  | [], _ => rfl
  | c :: x, h => by
    have hp : ([46] : List UInt8).isPrefixOf (c :: x) = false := by simp [List.isPrefixOf, Ne.symm (h c (by simp))]
    rw [Lib.index, hp, index_none (fun d hd => h d (by simp [hd]))]; rfl
theorem index_app : ∀ {x : List UInt8} (r : List UInt8), (∀ c ∈ x, c ≠ 46) → Lib.index (x ++ 46 :: r) [46] = x.length
  | [], r, _ => by simp [Lib.index, List.isPrefixOf]
  | c :: x, r, h => by
    have hp : ([46] : List UInt8).isPrefixOf (c :: (x ++ 46 :: r)) = false := by simp [List.isPrefixOf, Ne.symm (h c (by simp))]
    rw [List.cons_append, Lib.index, hp, index_app r (fun d hd => h d (by simp [hd]))]
    have : ¬ ((x.length : Int) == -1) = true := by simp
    simp only [Bool.false_eq_true, if_false, this]
    simp
theorem splitK_none {x : List UInt8} (k : Nat) (h : ∀ c ∈ x, c ≠ 46) : Lib.splitK [46] 0 k x = [x] := by
  cases k with
  | zero => rfl
  | succ k => rw [Lib.splitK, index_none h]; rfl
theorem splitK_app {x : List UInt8} (r : List UInt8) (k : Nat) (h : ∀ c ∈ x, c ≠ 46) : Lib.splitK [46] 0 (k + 1) (x ++ 46 :: r) = x :: Lib.splitK [46] 0 k r := by
  rw [Lib.splitK, index_app r h]
  have : ¬ ((x.length : Int) == -1) = true := by simp
  rw [if_neg this]
  simp
theorem count_txt (a : Nat) : (txt a).count 46 = 3 := by
  have h : ∀ {u : Nat}, u < 256 → (dg3 u).count 46 = 0 := fun hu => List.count_eq_zero.2 (fun hm => dg3_ne hu _ hm rfl)
  simp [txt, List.count_append, h (pt_lt a 0), h (pt_lt a 1), h (pt_lt a 2), h (pt_lt a 3)]
theorem map_data_inj : ∀ {l m : List ByteArray}, l.map (·.data.toList) = m.map (·.data.toList) → l = m
  | [], [], _ => rfl
  | [], _ :: _, h => by simp at h
  | _ :: _, [], h => by simp at h
  | x :: l, y :: m, h => by
    simp only [List.map_cons, List.cons.injEq] at h
    have hx : x = y := by rw [← bs_of x, h.1, bs_of]
    rw [hx, map_data_inj h.2]
theorem split_txt (a : Nat) : f_strings_Split (bs (txt a)) (⟨#[46]⟩ : ByteArray) = some [bs (dg3 (pt a 3)), bs (dg3 (pt a 2)), bs (dg3 (pt a 1)), bs (dg3 (pt a 0))] := by
  rw [f_strings_Split, if_pos ⟨by rw [bs_size]; have := txt_len a; omega, by decide⟩]
  congr 1
  apply map_data_inj
  rw [Lib.splitB_data]
  have hc : Lib.countB (bs (txt a)) (⟨#[46]⟩ : ByteArray) = 3 := by
    show Lib.count (txt a) [46] = 3
    rw [Lib.count_one, count_txt]
  rw [hc]
  show Lib.splitK [46] 0 3 (txt a) = _
  rw [txt, splitK_app _ _ (dg3_ne (pt_lt _ _)), splitK_app _ _ (dg3_ne (pt_lt _ _)), splitK_app _ _ (dg3_ne (pt_lt _ _)), splitK_none _ (dg3_ne (pt_lt _ _))]
  rfl
theorem txt_inj {a b : Nat} (ha : a < 4294967296) (hb : b < 4294967296) (h : txt a = txt b) : a = b := by
  have h1 := spl_txt a
  rw [h, spl_txt b] at h1
  simp only [List.cons.injEq, and_true] at h1
  obtain ⟨h3, h2, h1, h0⟩ := h1
  have e3 := dg3_inj (pt_lt b 3) (pt_lt a 3) h3; have e2 := dg3_inj (pt_lt b 2) (pt_lt a 2) h2; have e1 := dg3_inj (pt_lt b 1) (pt_lt a 1) h1; have e0 := dg3_inj (pt_lt b 0) (pt_lt a 0) h0
  simp only [pt] at e0 e1 e2 e3
  omega
end Go.Proofs.YtdnlahdddidffaaDoor
