/- Plain facts: what addr.Read comes to; the document's examples. No conditions. -/
import Derived.Test.YtdnlahdddidffaaDoorUAddr0
set_option linter.unusedVariables false
set_option linter.unusedSimpArgs false
namespace Go.Proofs.YtdnlahdddidffaaDoor
open Go Go.Proofs.YtdnlahdddidffaaDoor.Sp
theorem or_byte {x y : Int} (hx : 0 ≤ x) (hx1 : x < 36028797018963968) (hy : 0 ≤ y) (hy1 : y ≤ 255) : bits .or .i64 (shlI .i64 x 8) y = 256 * x + y := by
  have e1 : IntKind.i64.bits = 64 := rfl
  have es : shlI .i64 x 8 = x * 256 := by
    rw [shlI, e1, show min (8 : Int).toNat 64 = 8 from rfl]
    exact w64 (by omega) (by omega)
  rw [es]
  obtain ⟨a, rfl⟩ : ∃ a : Nat, x = a := ⟨x.toNat, by omega⟩
  obtain ⟨b, rfl⟩ : ∃ b : Nat, y = b := ⟨y.toNat, by omega⟩
  have e2 : (BitVec.ofInt 64 ((a : Int) * 256) ||| BitVec.ofInt 64 (b : Int)).toNat = 256 * a + b := by
    rw [BitVec.toNat_or, BitVec.toNat_ofInt, BitVec.toNat_ofInt]
    have : ((2 ^ 64 : Nat) : Int) = 18446744073709551616 := by decide
    rw [this, show ((a : Int) * 256 % 18446744073709551616).toNat = a * 2 ^ 8 by omega, show ((b : Int) % 18446744073709551616).toNat = b by omega]
    rw [Nat.mul_comm a, ← Nat.two_pow_add_eq_or_of_lt (by omega : b < 2 ^ 8)]
  show IntKind.i64.wrap ((BitVec.ofInt 64 ((a : Int) * 256) ||| BitVec.ofInt 64 (b : Int)).toNat : Int) = _
  rw [e2, wrap_id (by omega) (by omega)]
  omega
theorem atoi_byte {u : Nat} (h : u < 256) : f_strconv_Atoi (bs (dg3 u)) = some ((u : Int), false) := by
  rw [f_strconv_Atoi, if_pos (by rw [bs_size]; have := dg3_len h; omega), bs_data, atoi_dg3 h]
/-- One part of a text, in its turn. -/
theorem read_step {t : List ByteArray} {x i : Int} {u : Nat} (hl : t.length = 4) (h0 : 0 ≤ i) (h1 : i < 4) (hu : u < 256) (ht : rd t i = bs (dg3 u)) (hx : 0 ≤ x) (hx1 : x < 36028797018963968) :
    f_addr_Read.b0 t (x, i) = some (.inl (256 * x + u, i + 1)) := by
  unfold f_addr_Read.b0
  simp only
  rw [if_pos (by omega), if_pos h0, ht, atoi_byte hu]
  simp only [Option.bind_some, Bool.false_eq_true, if_false]
  rw [if_neg (by omega), if_neg (by omega), if_pos (by omega), or_byte hx hx1 (by omega) (by omega), wrap_id (by omega) (by omega)]
theorem read_txt {a : Nat} (ha : a < 4294967296) : f_addr_Read (bs (txt a)) = some ((a : Int), 0) := by
  unfold f_addr_Read
  rw [split_txt]
  simp only [Option.bind_some]
  have q3 := pt_lt a 3; have q2 := pt_lt a 2; have q1 := pt_lt a 1; have q0 := pt_lt a 0
  have hl := loopO_inl (read_step (t := [bs (dg3 (pt a 3)), bs (dg3 (pt a 2)), bs (dg3 (pt a 1)), bs (dg3 (pt a 0))]) (x := 0) (i := 0) rfl (by omega) (by omega) q3 rfl (by omega) (by omega))
  rw [hl, loopO_inl (read_step (i := 0 + 1) rfl (by omega) (by omega) q2 rfl (by omega) (by omega)), loopO_inl (read_step (i := 0 + 1 + 1) rfl (by omega) (by omega) q1 rfl (by omega) (by omega)), loopO_inl (read_step (i := 0 + 1 + 1 + 1) rfl (by omega) (by omega) q0 rfl (by omega) (by omega))]
  rw [loopO_inr (b := f_addr_Read.b0 _) (r := .inl (256 * (256 * (256 * (256 * 0 + (pt a 3 : Int)) + (pt a 2 : Int)) + (pt a 1 : Int)) + (pt a 0 : Int), 0 + 1 + 1 + 1 + 1)) (by unfold f_addr_Read.b0; simp)]
  have e : 256 * (256 * (256 * (256 * 0 + (pt a 3 : Int)) + (pt a 2 : Int)) + (pt a 1 : Int)) + (pt a 0 : Int) = a := by simp only [pt]; omega
  have e2 : low32 (a : Int) = a := by unfold low32; omega
  simp only [Option.bind_some, e, text_eq, e2]
  rw [if_pos ((toList_eq _ _).2 rfl)]
theorem awake_true : f_plenumlaw1_awake = some true := by
  have e : (⟨#[50, 50, 52, 46, 48, 46, 48, 46, 53]⟩ : ByteArray) = bs (txt 3758096389) := by
    have : txt 3758096389 = [50, 50, 52, 46, 48, 46, 48, 46, 53] := by decide +kernel
    rw [this]; rfl
  unfold f_plenumlaw1_awake
  rw [e, read_txt (by decide), text_eq]
  have e2 : low32 3758096389 = 3758096389 := by decide
  rw [e2]
  simp only [Option.bind_some]
  rw [if_pos ((toList_eq _ _).2 rfl)]
  simp [f_plenumlaw1_Num, f_addr_Right]
/-! ### Masks -/
/-- A mask of n ones. -/
def mk (n : Nat) : Int := 4294967296 - (2 ^ (32 - n) : Nat)
theorem mask_mid {n : Nat} (h : n ≤ 32) : f_addr_Mask n = some (mk n) := by
  have : ((List.range 33).all fun n => decide (f_addr_Mask (n : Int) = some (mk n))) = true := by decide +kernel
  simpa using List.all_eq_true.1 this n (List.mem_range.2 (by omega))
theorem mask_hi {x : Int} (h : 32 ≤ x) : f_addr_Mask x = some 4294967295 := by
  have e : f_addr_Mask 32 = some 4294967295 := by decide +kernel
  rw [← e]
  unfold f_addr_Mask
  have e1 : (if 32 < x then 32 else x) = 32 := by split <;> omega
  rw [e1]; rfl
theorem mask_lo {x : Int} (h : x ≤ 0) : f_addr_Mask x = some 0 := by
  have e : f_addr_Mask 0 = some 0 := by decide +kernel
  rw [← e]
  unfold f_addr_Mask
  have e1 : (if 32 < x then 32 else x) = x := by rw [if_neg (by omega)]
  have e2 : (if x > 0 then x else 0) = 0 := by split <;> omega
  rw [e1, e2]; rfl
theorem mk_inj {m n : Nat} (hm : m ≤ 32) (hn : n ≤ 32) (h : mk m = mk n) : m = n := by
  have : ((List.range 33).all fun m => (List.range 33).all fun n => decide (mk m = mk n → m = n)) = true := by decide +kernel
  have h1 := List.all_eq_true.1 this m (List.mem_range.2 (by omega))
  have h2 := List.all_eq_true.1 h1 n (List.mem_range.2 (by omega))
  exact (of_decide_eq_true h2) h
theorem bits_mk {n : Nat} (h : n ≤ 32) : f_addr_Bits (mk n) = some n := by
  unfold f_addr_Bits
  have key := loop_ends (f_addr_Bits.b0 (mk n)) (fun s => 0 ≤ s ∧ s ≤ n) (fun r => r = .inr (n : Int)) (fun s => (33 - s).toNat) (by
    rintro s ⟨h0, h1⟩
    obtain ⟨m, rfl⟩ : ∃ m : Nat, s = m := ⟨s.toNat, by omega⟩
    unfold f_addr_Bits.b0
    rw [if_pos (by omega), mask_mid (by omega)]
    simp only [Option.bind_some]
    by_cases he : mk m = mk n
    · right
      rw [if_pos he]
      have := mk_inj (by omega) h he
      subst this
      exact ⟨_, rfl, rfl⟩
    · left
      rw [if_neg he, wrap_id (by omega) (by omega)]
      have hne : m ≠ n := fun e => he (by rw [e])
      refine ⟨_, rfl, ?_, ?_⟩ <;> omega) 0 ⟨by omega, by omega⟩
  obtain ⟨r, h1, rfl⟩ := key
  rw [h1]; rfl
theorem pure_AddrMasks : AddrMasks.Pure := by
  intro a0 h
  have hb := inI_u8 h
  unfold f_plenumlaw1_AddrMasks
  rw [wrap_id (by omega) (by omega)]
  obtain ⟨n, hn, hn2⟩ : ∃ n : Nat, a0.tmod 33 = n ∧ n ≤ 32 := ⟨(a0.tmod 33).toNat, by rw [Int.tmod_eq_emod_of_nonneg hb.1]; omega, by rw [Int.tmod_eq_emod_of_nonneg hb.1]; omega⟩
  rw [hn, mask_mid hn2]
  simp only [Option.bind_some, bits_mk hn2, if_true]
  have e1 : IntKind.i64.wrap (32 - (n : Int)) = 32 - n := w64 (by omega) (by omega)
  have e2 : IntKind.u64.wrap (32 - (n : Int)) = 32 - n := by
    have : IntKind.u64.wrap (32 - (n : Int)) = (32 - (n : Int)) % 18446744073709551616 := rfl
    rw [this]; omega
  rw [e1, e2, if_pos (by omega)]
  have e3 : IntKind.i64.wrap (mk n + shlI .i64 1 (32 - (n : Int))) = 4294967296 := by
    have : ((List.range 33).all fun n => decide (IntKind.i64.wrap (mk n + shlI .i64 1 (32 - (n : Int))) = 4294967296)) = true := by decide +kernel
    simpa using List.all_eq_true.1 this n (List.mem_range.2 (by omega))
  rw [if_pos e3, w64 (by omega) (by omega), w64 (by omega) (by omega), mask_hi (by omega), mask_lo (by omega)]
  simp [awake_true]
/-! ### Nets -/
theorem and_mk {a : Nat} (ha : a < 4294967296) {n : Nat} (hn : n ≤ 32) : bits .and .i64 (a : Int) (mk n) = (2 ^ (32 - n) * (a / 2 ^ (32 - n)) : Nat) := by
  have hk : 2 ^ (32 - n) ≤ 2 ^ 32 := Nat.pow_le_pow_right (by decide) (by omega)
  have hk1 : (2 : Nat) ^ 32 = 4294967296 := by decide
  rw [hk1] at hk
  have hk0 : 0 < 2 ^ (32 - n) := Nat.pow_pos (by decide)
  have hm : mk n = ((4294967296 - 2 ^ (32 - n) : Nat) : Int) := by unfold mk; omega
  rw [hm]
  have e1 : (BitVec.ofInt 64 (a : Int) &&& BitVec.ofInt 64 ((4294967296 - 2 ^ (32 - n) : Nat) : Int)).toNat = 2 ^ (32 - n) * (a / 2 ^ (32 - n)) := by
    rw [BitVec.toNat_and, BitVec.toNat_ofInt, BitVec.toNat_ofInt]
    have : ((2 ^ 64 : Nat) : Int) = 18446744073709551616 := by decide
    rw [this, show ((a : Int) % 18446744073709551616).toNat = a by omega, show (((4294967296 - 2 ^ (32 - n) : Nat) : Int) % 18446744073709551616).toNat = 4294967296 - 2 ^ (32 - n) by omega]
    have e2 : 4294967296 - 2 ^ (32 - n) = 2 ^ (32 - n) * (2 ^ n - 1) := by
      rw [Nat.mul_sub, ← Nat.pow_add, show 32 - n + n = 32 by omega, Nat.mul_one]
    rw [e2]
    apply Nat.eq_of_testBit_eq
    intro i
    rw [Nat.testBit_and, Nat.testBit_two_pow_mul, Nat.testBit_two_pow_mul, Nat.testBit_two_pow_sub_one, Nat.testBit_div_two_pow]
    by_cases h1 : i ≥ 32 - n
    · simp only [h1, decide_true, Bool.true_and]
      rw [show i - (32 - n) + (32 - n) = i by omega]
      by_cases h2 : i - (32 - n) < n
      · simp [h2]
      · have : a.testBit i = false := Nat.testBit_lt_two_pow (Nat.lt_of_lt_of_le ha (by
          have : (4294967296 : Nat) = 2 ^ 32 := by decide
          rw [this]; exact Nat.pow_le_pow_right (by decide) (by omega)))
        simp [this]
    · simp [h1]
  have hle : 2 ^ (32 - n) * (a / 2 ^ (32 - n)) ≤ a := Nat.mul_div_le _ _
  show IntKind.i64.wrap ((BitVec.ofInt 64 (a : Int) &&& BitVec.ofInt 64 ((4294967296 - 2 ^ (32 - n) : Nat) : Int)).toNat : Int) = _
  rw [e1, wrap_id (by omega) (by omega)]
theorem net_eq {a : Nat} (ha : a < 4294967296) {n : Nat} (hn : n ≤ 32) : f_addr_Net (a : Int) (n : Int) = some ((2 ^ (32 - n) * (a / 2 ^ (32 - n)) : Nat) : Int) := by
  rw [f_addr_Net, mask_mid hn, Option.bind_some, and_mk ha hn]
theorem right_eq {a : Nat} (ha : a < 4294967296) : f_addr_Right (a : Int) = some true := by
  rw [f_addr_Right, if_pos (by omega)]; simp; omega
theorem in_eq {a p : Nat} (ha : a < 4294967296) (hp : p < 4294967296) {n : Nat} (hn : n ≤ 32) : f_addr_In (a : Int) (p : Int) (n : Int) = some (decide (2 ^ (32 - n) * (a / 2 ^ (32 - n)) = 2 ^ (32 - n) * (p / 2 ^ (32 - n)))) := by
  rw [f_addr_In, right_eq ha, right_eq hp, net_eq ha hn, net_eq hp hn]
  simp only [Option.bind_some, if_true]
  rw [if_pos (by omega), if_pos (by omega)]
  congr 1
  rw [decide_eq_decide]
  exact Int.natCast_inj
theorem div_wide {a p k n : Nat} (hk : k ≤ n) (hn : n ≤ 32) (h : a / 2 ^ (32 - n) = p / 2 ^ (32 - n)) : a / 2 ^ (32 - k) = p / 2 ^ (32 - k) := by
  have e : 2 ^ (32 - k) = 2 ^ (32 - n) * 2 ^ (n - k) := by rw [← Nat.pow_add]; congr 1; omega
  rw [e, ← Nat.div_div_eq_div_mul, ← Nat.div_div_eq_div_mul, h]
theorem div_mul_div {a k n : Nat} (hk : k ≤ n) (hn : n ≤ 32) : 2 ^ (32 - n) * (a / 2 ^ (32 - n)) / 2 ^ (32 - n) = a / 2 ^ (32 - n) := Nat.mul_div_cancel_left _ (Nat.pow_pos (by decide))
theorem pure_AddrNests : AddrNests.Pure := by
  intro a0 a1 a2 a3 h0 h1 h2 h3
  have b0 := inI_u32 h0; have b1 := inI_u32 h1; have b2 := inI_u8 h2; have b3 := inI_u8 h3
  unfold f_plenumlaw1_AddrNests
  rw [w64 (x := a0) (by omega) (by omega), w64 (x := a1) (by omega) (by omega), w64 (x := a2) (by omega) (by omega), w64 (x := a3) (by omega) (by omega)]
  obtain ⟨n, hn, hn2⟩ : ∃ n : Nat, a2.tmod 33 = n ∧ n ≤ 32 := ⟨(a2.tmod 33).toNat, by rw [Int.tmod_eq_emod_of_nonneg b2.1]; omega, by rw [Int.tmod_eq_emod_of_nonneg b2.1]; omega⟩
  obtain ⟨a, rfl, ha⟩ : ∃ a : Nat, a0 = a ∧ a < 4294967296 := ⟨a0.toNat, by omega, by omega⟩
  obtain ⟨p, rfl, hp⟩ : ∃ p : Nat, a1 = p ∧ p < 4294967296 := ⟨a1.toNat, by omega, by omega⟩
  rw [hn, w64 (x := (n : Int) + 1) (by omega) (by omega), if_pos (by omega)]
  obtain ⟨k, hk, hk2⟩ : ∃ k : Nat, IntKind.i64.wrap ((n : Int) - a3.tmod ((n : Int) + 1)) = k ∧ k ≤ n := by
    have e := Int.tmod_eq_emod_of_nonneg (a := a3) b3.1 (b := (n : Int) + 1)
    have l1 := Int.emod_nonneg a3 (b := (n : Int) + 1) (by omega)
    have l2 := Int.emod_lt_of_pos a3 (b := (n : Int) + 1) (by omega)
    rw [w64 (by omega) (by omega)]
    exact ⟨((n : Int) - a3.tmod ((n : Int) + 1)).toNat, by omega, by omega⟩
  rw [hk, in_eq ha hp hn2, in_eq ha hp (by omega), net_eq ha hn2, net_eq ha (by omega)]
  have hM : 2 ^ (32 - n) * (a / 2 ^ (32 - n)) < 4294967296 := Nat.lt_of_le_of_lt (Nat.mul_div_le _ _) ha
  have hpos : 0 < 2 ^ (32 - n) := Nat.pow_pos (by decide)
  have hpos2 : 0 < 2 ^ (32 - k) := Nat.pow_pos (by decide)
  have same : 2 ^ (32 - n) * (a / 2 ^ (32 - n)) / 2 ^ (32 - k) = a / 2 ^ (32 - k) := div_wide hk2 hn2 (Nat.mul_div_cancel_left _ hpos)
  simp only [Option.bind_some, in_eq ha hM hn2, net_eq hM (show k ≤ 32 by omega), same, Nat.mul_div_cancel_left _ hpos, decide_true, if_true, awake_true]
  by_cases he : 2 ^ (32 - n) * (a / 2 ^ (32 - n)) = 2 ^ (32 - n) * (p / 2 ^ (32 - n))
  · have h1 : a / 2 ^ (32 - n) = p / 2 ^ (32 - n) := Nat.eq_of_mul_eq_mul_left hpos he
    have h2 := div_wide hk2 hn2 h1
    simp [he, h2]
  · simp [he]
theorem AddrMasks_holds : Rows.AddrMasksCardSaid := AddrMasks_card pure_AddrMasks
theorem AddrNests_holds : Rows.AddrNestsCardSaid := AddrNests_card pure_AddrNests
end Go.Proofs.YtdnlahdddidffaaDoor
