/- The laws' rows, each out of its plain part ('..Pure': for all plain values that the types allow, the law's function answers true). Conditions: the plain part. Written by gen.py. -/
import Derived.Test.YtdnlahdddidffaaDoorG
import Derived.Test.YtdnlahdddidffaaDoorSpD
import Derived.Test.YtdnlahdddidffaaDoorCards
import Derived.Test.YtdnlahdddidffaaDoorRows
import Derived.KernelRfl
set_option linter.unusedVariables false
set_option linter.unusedSimpArgs false
namespace Go.Proofs.YtdnlahdddidffaaDoor
open Go Go.Proofs.YtdnlahdddidffaaDoor.Sp Go.ChangeShapes Go.WideShapes Go.ChangeAt Go.RowKit

theorem own_ : ownKnob Tryd.prog.godebug = none := by kernel_rfl
theorem laidOut_ : laidOutB Tryd.prog = true := by kernel_rfl
/-- What is left of the law: plain values. -/
def AddrReads.Pure : Prop := ∀ (a0 : ByteArray), (a0.size ≤ maxLen) → f_plenumlaw1_AddrReads a0 = some true
set_option maxRecDepth 100000 in
theorem AddrReads_lifted (hp : AddrReads.Pure) (os : Os) (started : os.Started) (H : Type) (enc : TypeId × Value → H) :
    ReturnsInHanded {} Tryd.checked os 3 .any (fun w args => (Rows.addrReadsSpec.pre enc Tryd.prog Tryd.f3 Rows.addrReadsRow.domain false w args ∧ laidMetH Tryd.prog Rows.addrReadsRow.laid w) ∧ sizedMet enc Tryd.prog Tryd.f3 (OpenSpec.ofChange Rows.addrReadsSpec) false w args) (Rows.addrReadsSpec.post enc Tryd.prog Tryd.f3 false true false false) := by
  refine returnsDoor (C := Tryd.checked) own_ started (by kernel_rfl) Tryd.func3 (ChangeSpec.witness_shaped (enc := enc) (C := Tryd.checked) (os := os) (X := fun w _ => laidMetH Tryd.prog Rows.addrReadsRow.laid w) false (World.laidAll Tryd.prog os Rows.addrReadsRow.laid) #[(.string ⟨#[]⟩)] 8 (World.laidAll_os _ _ _) (World.shaped_of_ZipB (by kernel_rfl) (by kernel_rfl)) (by kernel_rfl) (by kernel_rfl) (by kernel_rfl) (by rw [MakeChecks.laidMetH_plain _ _ _ (by kernel_rfl)]; exact laidMet_laidAll _ (by kernel_rfl) (by kernel_rfl))) ?_
  intro W base args ds gs before hval0 hW0 hL hsh
  have hval : ∀ (j : Nat) t v, Tryd.f3.params[j]? = some t → args[j]? = some v → Value.okWide Tryd.prog W .any base t v := hval0
  have hW : DataW.Whole enc Tryd.prog Tryd.f3.params.toList Rows.addrReadsSpec.vars false W args.toList ds gs before := hW0
  have hA : ∃ p, DataW.TrodAll enc Tryd.prog W 0 (fun _ => true) true [9] args.toList ds p := by obtain ⟨p, q, h, _⟩ := hW; exact ⟨p, h⟩
  obtain ⟨p, hA⟩ := hA
  obtain ⟨vs, hvs⟩ : ∃ vs, args.toList = vs := ⟨_, rfl⟩
  rw [hvs] at hA
  have hB0 := hA; clear hA
  obtain ⟨v0, vs0, d0, ds0, p0, q0, rfl, rfl, h0, hB1, rfl⟩ := Sp.trodAll_cons hB0
  obtain ⟨rfl, rfl⟩ := Sp.trodAll_nil hB1
  obtain rfl : args = [v0].toArray := by rw [← hvs]
  obtain ⟨f0_, h0⟩ := h0
  obtain ⟨n0, rfl⟩ := okWide_string Tryd.underlying9 (hval 0 9 v0 rfl rfl)
  obtain ⟨a0, k0, w0⟩ := (opnStr Tryd.underlying9) enc W 0 _ _ _ _ _ h0
  obtain rfl : a0 = n0 := by have e_ : [(.string n0 : Value)] = [.string a0] := k0; simpa using e_.symm
  refine law_close laidOut_ rfl Tryd.underlying4 rfl (by intro t ht; simp [Tryd.params3] at ht; rcases ht with rfl <;> exact ⟨by kernel_rfl, of_decide_eq_true (by kernel_rfl)⟩) hW rfl ?_
  exact f_plenumlaw1_AddrReads.ok sub_r (gv_ hL hsh) (hp a0 w0) (fits_all W)
theorem AddrReads_row (hp : AddrReads.Pure) : Rows.AddrReadsSaid :=
  OpenClaim.holds_of_wide 3 Tryd.f3 rfl rfl rfl rfl rfl rfl rfl ⟨rfl, rfl, rfl, rfl, rfl⟩ rfl rfl rfl rfl rfl (by kernel_rfl) Tryd.func3 (by kernel_rfl)
    (of_decide_eq_true (by kernel_rfl)) (by unfold Func.isWrapper; first | (rw [if_pos (by decide +kernel)]; kernel_rfl) | (rw [if_neg (by decide +kernel)]; exact ⟨rfl, rfl⟩))
    (fun os started H enc _ => AddrReads_lifted hp os started H enc)
theorem AddrReads_card (hp : AddrReads.Pure) : Rows.AddrReadsCardSaid :=
  Claim7.holds_tied_plain_at .later [] [.data, .data, .data, .data, .sentinel, .sentinel, .pinned] true (true, "a129d59cebb745dd187e05d49d41c166ad481837a0a92477b9de7b4827d3387c") true (AddrReads_row hp) (fun _ h => by cases h) (by kernel_rfl) (fun _ h => by cases h) addrReads_row_tie rfl ⟨rfl, rfl⟩ (by kernel_rfl) rfl
    (fun f fn hf hfn => by
      obtain rfl : f = 3 := Option.some.inj ((show Tryd.prog.funcNamed Rows.addrReadsRow.func = some 3 by kernel_rfl).symm.trans hf) |>.symm
      obtain rfl : fn = Tryd.f3 := (Option.some.inj (Tryd.func3.symm.trans hfn)).symm
      exact ⟨by kernel_rfl, fun j t ht => by
        rw [Tryd.params3] at ht
        have hm : t ∈ [9] := by simpa using Array.mem_of_getElem? ht
        have hall : ([9].all fun u => !Tryd.prog.wantsStandIn u) = true := by kernel_rfl
        exact (show Tryd.prog.wantsStandIn t = false by simpa using List.all_eq_true.1 hall t hm)⟩)
    (by kernel_rfl)
/-- What is left of the law: plain values. -/
def AddrBack.Pure : Prop := ∀ (a0 : Int) (a1 : Int), (inI .u32 a0) → (inI .u32 a1) → f_plenumlaw1_AddrBack a0 a1 = some true
set_option maxRecDepth 100000 in
theorem AddrBack_lifted (hp : AddrBack.Pure) (os : Os) (started : os.Started) (H : Type) (enc : TypeId × Value → H) :
    ReturnsInHanded {} Tryd.checked os 4 .any (fun w args => (Rows.addrBackSpec.pre enc Tryd.prog Tryd.f4 Rows.addrBackRow.domain false w args ∧ laidMetH Tryd.prog Rows.addrBackRow.laid w) ∧ sizedMet enc Tryd.prog Tryd.f4 (OpenSpec.ofChange Rows.addrBackSpec) false w args) (Rows.addrBackSpec.post enc Tryd.prog Tryd.f4 false true false false) := by
  refine returnsDoor (C := Tryd.checked) own_ started (by kernel_rfl) Tryd.func4 (ChangeSpec.witness_shaped (enc := enc) (C := Tryd.checked) (os := os) (X := fun w _ => laidMetH Tryd.prog Rows.addrBackRow.laid w) false (World.laidAll Tryd.prog os Rows.addrBackRow.laid) #[(.int .u32 0), (.int .u32 0)] 8 (World.laidAll_os _ _ _) (World.shaped_of_ZipB (by kernel_rfl) (by kernel_rfl)) (by kernel_rfl) (by kernel_rfl) (by kernel_rfl) (by rw [MakeChecks.laidMetH_plain _ _ _ (by kernel_rfl)]; exact laidMet_laidAll _ (by kernel_rfl) (by kernel_rfl))) ?_
  intro W base args ds gs before hval0 hW0 hL hsh
  have hval : ∀ (j : Nat) t v, Tryd.f4.params[j]? = some t → args[j]? = some v → Value.okWide Tryd.prog W .any base t v := hval0
  have hW : DataW.Whole enc Tryd.prog Tryd.f4.params.toList Rows.addrBackSpec.vars false W args.toList ds gs before := hW0
  have hA : ∃ p, DataW.TrodAll enc Tryd.prog W 0 (fun _ => true) true [30, 30] args.toList ds p := by obtain ⟨p, q, h, _⟩ := hW; exact ⟨p, h⟩
  obtain ⟨p, hA⟩ := hA
  obtain ⟨vs, hvs⟩ : ∃ vs, args.toList = vs := ⟨_, rfl⟩
  rw [hvs] at hA
  have hB0 := hA; clear hA
  obtain ⟨v0, vs0, d0, ds0, p0, q0, rfl, rfl, h0, hB1, rfl⟩ := Sp.trodAll_cons hB0
  obtain ⟨v1, vs1, d1, ds1, p1, q1, rfl, rfl, h1, hB2, rfl⟩ := Sp.trodAll_cons hB1
  obtain ⟨rfl, rfl⟩ := Sp.trodAll_nil hB2
  obtain rfl : args = [v0, v1].toArray := by rw [← hvs]
  obtain ⟨f0_, h0⟩ := h0
  obtain ⟨n0, rfl⟩ := okWide_int Tryd.underlying30 (hval 0 30 v0 rfl rfl)
  obtain ⟨a0, k0, w0⟩ := (opnInt Tryd.underlying30) enc W 0 _ _ _ _ _ h0
  obtain rfl : a0 = n0 := by have e_ : [(.int .u32 n0 : Value)] = [.int .u32 a0] := k0; simpa using e_.symm
  obtain ⟨f1_, h1⟩ := h1
  obtain ⟨n1, rfl⟩ := okWide_int Tryd.underlying30 (hval 1 30 v1 rfl rfl)
  obtain ⟨a1, k1, w1⟩ := (opnInt Tryd.underlying30) enc W 0 _ _ _ _ _ h1
  obtain rfl : a1 = n1 := by have e_ : [(.int .u32 n1 : Value)] = [.int .u32 a1] := k1; simpa using e_.symm
  refine law_close laidOut_ rfl Tryd.underlying4 rfl (by intro t ht; simp [Tryd.params4] at ht; rcases ht with rfl <;> exact ⟨by kernel_rfl, of_decide_eq_true (by kernel_rfl)⟩) hW rfl ?_
  exact f_plenumlaw1_AddrBack.ok sub_r (gv_ hL hsh) (hp a0 a1 w0 w1) (fits_all W)
theorem AddrBack_row (hp : AddrBack.Pure) : Rows.AddrBackSaid :=
  OpenClaim.holds_of_wide 4 Tryd.f4 rfl rfl rfl rfl rfl rfl rfl ⟨rfl, rfl, rfl, rfl, rfl⟩ rfl rfl rfl rfl rfl (by kernel_rfl) Tryd.func4 (by kernel_rfl)
    (of_decide_eq_true (by kernel_rfl)) (by unfold Func.isWrapper; first | (rw [if_pos (by decide +kernel)]; kernel_rfl) | (rw [if_neg (by decide +kernel)]; exact ⟨rfl, rfl⟩))
    (fun os started H enc _ => AddrBack_lifted hp os started H enc)
theorem AddrBack_card (hp : AddrBack.Pure) : Rows.AddrBackCardSaid :=
  Claim7.holds_tied_plain_at .later [] [.data, .data, .data, .data, .sentinel, .sentinel, .pinned] true (true, "a129d59cebb745dd187e05d49d41c166ad481837a0a92477b9de7b4827d3387c") true (AddrBack_row hp) (fun _ h => by cases h) (by kernel_rfl) (fun _ h => by cases h) addrBack_row_tie rfl ⟨rfl, rfl⟩ (by kernel_rfl) rfl
    (fun f fn hf hfn => by
      obtain rfl : f = 4 := Option.some.inj ((show Tryd.prog.funcNamed Rows.addrBackRow.func = some 4 by kernel_rfl).symm.trans hf) |>.symm
      obtain rfl : fn = Tryd.f4 := (Option.some.inj (Tryd.func4.symm.trans hfn)).symm
      exact ⟨by kernel_rfl, fun j t ht => by
        rw [Tryd.params4] at ht
        have hm : t ∈ [30, 30] := by simpa using Array.mem_of_getElem? ht
        have hall : ([30, 30].all fun u => !Tryd.prog.wantsStandIn u) = true := by kernel_rfl
        exact (show Tryd.prog.wantsStandIn t = false by simpa using List.all_eq_true.1 hall t hm)⟩)
    (by kernel_rfl)
/-- What is left of the law: plain values. -/
def AddrStrict.Pure : Prop := ∀ (a0 : Int) (a1 : Int), (inI .u32 a0) → (inI .u8 a1) → f_plenumlaw1_AddrStrict a0 a1 = some true
set_option maxRecDepth 100000 in
theorem AddrStrict_lifted (hp : AddrStrict.Pure) (os : Os) (started : os.Started) (H : Type) (enc : TypeId × Value → H) :
    ReturnsInHanded {} Tryd.checked os 5 .any (fun w args => (Rows.addrStrictSpec.pre enc Tryd.prog Tryd.f5 Rows.addrStrictRow.domain false w args ∧ laidMetH Tryd.prog Rows.addrStrictRow.laid w) ∧ sizedMet enc Tryd.prog Tryd.f5 (OpenSpec.ofChange Rows.addrStrictSpec) false w args) (Rows.addrStrictSpec.post enc Tryd.prog Tryd.f5 false true false false) := by
  refine returnsDoor (C := Tryd.checked) own_ started (by kernel_rfl) Tryd.func5 (ChangeSpec.witness_shaped (enc := enc) (C := Tryd.checked) (os := os) (X := fun w _ => laidMetH Tryd.prog Rows.addrStrictRow.laid w) false (World.laidAll Tryd.prog os Rows.addrStrictRow.laid) #[(.int .u32 0), (.int .u8 0)] 8 (World.laidAll_os _ _ _) (World.shaped_of_ZipB (by kernel_rfl) (by kernel_rfl)) (by kernel_rfl) (by kernel_rfl) (by kernel_rfl) (by rw [MakeChecks.laidMetH_plain _ _ _ (by kernel_rfl)]; exact laidMet_laidAll _ (by kernel_rfl) (by kernel_rfl))) ?_
  intro W base args ds gs before hval0 hW0 hL hsh
  have hval : ∀ (j : Nat) t v, Tryd.f5.params[j]? = some t → args[j]? = some v → Value.okWide Tryd.prog W .any base t v := hval0
  have hW : DataW.Whole enc Tryd.prog Tryd.f5.params.toList Rows.addrStrictSpec.vars false W args.toList ds gs before := hW0
  have hA : ∃ p, DataW.TrodAll enc Tryd.prog W 0 (fun _ => true) true [30, 5] args.toList ds p := by obtain ⟨p, q, h, _⟩ := hW; exact ⟨p, h⟩
  obtain ⟨p, hA⟩ := hA
  obtain ⟨vs, hvs⟩ : ∃ vs, args.toList = vs := ⟨_, rfl⟩
  rw [hvs] at hA
  have hB0 := hA; clear hA
  obtain ⟨v0, vs0, d0, ds0, p0, q0, rfl, rfl, h0, hB1, rfl⟩ := Sp.trodAll_cons hB0
  obtain ⟨v1, vs1, d1, ds1, p1, q1, rfl, rfl, h1, hB2, rfl⟩ := Sp.trodAll_cons hB1
  obtain ⟨rfl, rfl⟩ := Sp.trodAll_nil hB2
  obtain rfl : args = [v0, v1].toArray := by rw [← hvs]
  obtain ⟨f0_, h0⟩ := h0
  obtain ⟨n0, rfl⟩ := okWide_int Tryd.underlying30 (hval 0 30 v0 rfl rfl)
  obtain ⟨a0, k0, w0⟩ := (opnInt Tryd.underlying30) enc W 0 _ _ _ _ _ h0
  obtain rfl : a0 = n0 := by have e_ : [(.int .u32 n0 : Value)] = [.int .u32 a0] := k0; simpa using e_.symm
  obtain ⟨f1_, h1⟩ := h1
  obtain ⟨n1, rfl⟩ := okWide_int Tryd.underlying5 (hval 1 5 v1 rfl rfl)
  obtain ⟨a1, k1, w1⟩ := (opnInt Tryd.underlying5) enc W 0 _ _ _ _ _ h1
  obtain rfl : a1 = n1 := by have e_ : [(.int .u8 n1 : Value)] = [.int .u8 a1] := k1; simpa using e_.symm
  refine law_close laidOut_ rfl Tryd.underlying4 rfl (by intro t ht; simp [Tryd.params5] at ht; rcases ht with rfl | rfl <;> exact ⟨by kernel_rfl, of_decide_eq_true (by kernel_rfl)⟩) hW rfl ?_
  exact f_plenumlaw1_AddrStrict.ok sub_r (gv_ hL hsh) (hp a0 a1 w0 w1) (fits_all W)
theorem AddrStrict_row (hp : AddrStrict.Pure) : Rows.AddrStrictSaid :=
  OpenClaim.holds_of_wide 5 Tryd.f5 rfl rfl rfl rfl rfl rfl rfl ⟨rfl, rfl, rfl, rfl, rfl⟩ rfl rfl rfl rfl rfl (by kernel_rfl) Tryd.func5 (by kernel_rfl)
    (of_decide_eq_true (by kernel_rfl)) (by unfold Func.isWrapper; first | (rw [if_pos (by decide +kernel)]; kernel_rfl) | (rw [if_neg (by decide +kernel)]; exact ⟨rfl, rfl⟩))
    (fun os started H enc _ => AddrStrict_lifted hp os started H enc)
theorem AddrStrict_card (hp : AddrStrict.Pure) : Rows.AddrStrictCardSaid :=
  Claim7.holds_tied_plain_at .later [] [.data, .data, .data, .data, .sentinel, .sentinel, .pinned] true (true, "a129d59cebb745dd187e05d49d41c166ad481837a0a92477b9de7b4827d3387c") true (AddrStrict_row hp) (fun _ h => by cases h) (by kernel_rfl) (fun _ h => by cases h) addrStrict_row_tie rfl ⟨rfl, rfl⟩ (by kernel_rfl) rfl
    (fun f fn hf hfn => by
      obtain rfl : f = 5 := Option.some.inj ((show Tryd.prog.funcNamed Rows.addrStrictRow.func = some 5 by kernel_rfl).symm.trans hf) |>.symm
      obtain rfl : fn = Tryd.f5 := (Option.some.inj (Tryd.func5.symm.trans hfn)).symm
      exact ⟨by kernel_rfl, fun j t ht => by
        rw [Tryd.params5] at ht
        have hm : t ∈ [30, 5] := by simpa using Array.mem_of_getElem? ht
        have hall : ([30, 5].all fun u => !Tryd.prog.wantsStandIn u) = true := by kernel_rfl
        exact (show Tryd.prog.wantsStandIn t = false by simpa using List.all_eq_true.1 hall t hm)⟩)
    (by kernel_rfl)
/-- What is left of the law: plain values. -/
def AddrNests.Pure : Prop := ∀ (a0 : Int) (a1 : Int) (a2 : Int) (a3 : Int), (inI .u32 a0) → (inI .u32 a1) → (inI .u8 a2) → (inI .u8 a3) → f_plenumlaw1_AddrNests a0 a1 a2 a3 = some true
set_option maxRecDepth 100000 in
theorem AddrNests_lifted (hp : AddrNests.Pure) (os : Os) (started : os.Started) (H : Type) (enc : TypeId × Value → H) :
    ReturnsInHanded {} Tryd.checked os 6 .any (fun w args => (Rows.addrNestsSpec.pre enc Tryd.prog Tryd.f6 Rows.addrNestsRow.domain false w args ∧ laidMetH Tryd.prog Rows.addrNestsRow.laid w) ∧ sizedMet enc Tryd.prog Tryd.f6 (OpenSpec.ofChange Rows.addrNestsSpec) false w args) (Rows.addrNestsSpec.post enc Tryd.prog Tryd.f6 false true false false) := by
  refine returnsDoor (C := Tryd.checked) own_ started (by kernel_rfl) Tryd.func6 (ChangeSpec.witness_shaped (enc := enc) (C := Tryd.checked) (os := os) (X := fun w _ => laidMetH Tryd.prog Rows.addrNestsRow.laid w) false (World.laidAll Tryd.prog os Rows.addrNestsRow.laid) #[(.int .u32 0), (.int .u32 0), (.int .u8 0), (.int .u8 0)] 8 (World.laidAll_os _ _ _) (World.shaped_of_ZipB (by kernel_rfl) (by kernel_rfl)) (by kernel_rfl) (by kernel_rfl) (by kernel_rfl) (by rw [MakeChecks.laidMetH_plain _ _ _ (by kernel_rfl)]; exact laidMet_laidAll _ (by kernel_rfl) (by kernel_rfl))) ?_
  intro W base args ds gs before hval0 hW0 hL hsh
  have hval : ∀ (j : Nat) t v, Tryd.f6.params[j]? = some t → args[j]? = some v → Value.okWide Tryd.prog W .any base t v := hval0
  have hW : DataW.Whole enc Tryd.prog Tryd.f6.params.toList Rows.addrNestsSpec.vars false W args.toList ds gs before := hW0
  have hA : ∃ p, DataW.TrodAll enc Tryd.prog W 0 (fun _ => true) true [30, 30, 5, 5] args.toList ds p := by obtain ⟨p, q, h, _⟩ := hW; exact ⟨p, h⟩
  obtain ⟨p, hA⟩ := hA
  obtain ⟨vs, hvs⟩ : ∃ vs, args.toList = vs := ⟨_, rfl⟩
  rw [hvs] at hA
  have hB0 := hA; clear hA
  obtain ⟨v0, vs0, d0, ds0, p0, q0, rfl, rfl, h0, hB1, rfl⟩ := Sp.trodAll_cons hB0
  obtain ⟨v1, vs1, d1, ds1, p1, q1, rfl, rfl, h1, hB2, rfl⟩ := Sp.trodAll_cons hB1
  obtain ⟨v2, vs2, d2, ds2, p2, q2, rfl, rfl, h2, hB3, rfl⟩ := Sp.trodAll_cons hB2
  obtain ⟨v3, vs3, d3, ds3, p3, q3, rfl, rfl, h3, hB4, rfl⟩ := Sp.trodAll_cons hB3
  obtain ⟨rfl, rfl⟩ := Sp.trodAll_nil hB4
  obtain rfl : args = [v0, v1, v2, v3].toArray := by rw [← hvs]
  obtain ⟨f0_, h0⟩ := h0
  obtain ⟨n0, rfl⟩ := okWide_int Tryd.underlying30 (hval 0 30 v0 rfl rfl)
  obtain ⟨a0, k0, w0⟩ := (opnInt Tryd.underlying30) enc W 0 _ _ _ _ _ h0
  obtain rfl : a0 = n0 := by have e_ : [(.int .u32 n0 : Value)] = [.int .u32 a0] := k0; simpa using e_.symm
  obtain ⟨f1_, h1⟩ := h1
  obtain ⟨n1, rfl⟩ := okWide_int Tryd.underlying30 (hval 1 30 v1 rfl rfl)
  obtain ⟨a1, k1, w1⟩ := (opnInt Tryd.underlying30) enc W 0 _ _ _ _ _ h1
  obtain rfl : a1 = n1 := by have e_ : [(.int .u32 n1 : Value)] = [.int .u32 a1] := k1; simpa using e_.symm
  obtain ⟨f2_, h2⟩ := h2
  obtain ⟨n2, rfl⟩ := okWide_int Tryd.underlying5 (hval 2 5 v2 rfl rfl)
  obtain ⟨a2, k2, w2⟩ := (opnInt Tryd.underlying5) enc W 0 _ _ _ _ _ h2
  obtain rfl : a2 = n2 := by have e_ : [(.int .u8 n2 : Value)] = [.int .u8 a2] := k2; simpa using e_.symm
  obtain ⟨f3_, h3⟩ := h3
  obtain ⟨n3, rfl⟩ := okWide_int Tryd.underlying5 (hval 3 5 v3 rfl rfl)
  obtain ⟨a3, k3, w3⟩ := (opnInt Tryd.underlying5) enc W 0 _ _ _ _ _ h3
  obtain rfl : a3 = n3 := by have e_ : [(.int .u8 n3 : Value)] = [.int .u8 a3] := k3; simpa using e_.symm
  refine law_close laidOut_ rfl Tryd.underlying4 rfl (by intro t ht; simp [Tryd.params6] at ht; rcases ht with rfl | rfl <;> exact ⟨by kernel_rfl, of_decide_eq_true (by kernel_rfl)⟩) hW rfl ?_
  exact f_plenumlaw1_AddrNests.ok sub_r (gv_ hL hsh) (hp a0 a1 a2 a3 w0 w1 w2 w3) (fits_all W)
theorem AddrNests_row (hp : AddrNests.Pure) : Rows.AddrNestsSaid :=
  OpenClaim.holds_of_wide 6 Tryd.f6 rfl rfl rfl rfl rfl rfl rfl ⟨rfl, rfl, rfl, rfl, rfl⟩ rfl rfl rfl rfl rfl (by kernel_rfl) Tryd.func6 (by kernel_rfl)
    (of_decide_eq_true (by kernel_rfl)) (by unfold Func.isWrapper; first | (rw [if_pos (by decide +kernel)]; kernel_rfl) | (rw [if_neg (by decide +kernel)]; exact ⟨rfl, rfl⟩))
    (fun os started H enc _ => AddrNests_lifted hp os started H enc)
theorem AddrNests_card (hp : AddrNests.Pure) : Rows.AddrNestsCardSaid :=
  Claim7.holds_tied_plain_at .later [] [.data, .data, .data, .data, .sentinel, .sentinel, .pinned] true (true, "a129d59cebb745dd187e05d49d41c166ad481837a0a92477b9de7b4827d3387c") true (AddrNests_row hp) (fun _ h => by cases h) (by kernel_rfl) (fun _ h => by cases h) addrNests_row_tie rfl ⟨rfl, rfl⟩ (by kernel_rfl) rfl
    (fun f fn hf hfn => by
      obtain rfl : f = 6 := Option.some.inj ((show Tryd.prog.funcNamed Rows.addrNestsRow.func = some 6 by kernel_rfl).symm.trans hf) |>.symm
      obtain rfl : fn = Tryd.f6 := (Option.some.inj (Tryd.func6.symm.trans hfn)).symm
      exact ⟨by kernel_rfl, fun j t ht => by
        rw [Tryd.params6] at ht
        have hm : t ∈ [30, 30, 5, 5] := by simpa using Array.mem_of_getElem? ht
        have hall : ([30, 30, 5, 5].all fun u => !Tryd.prog.wantsStandIn u) = true := by kernel_rfl
        exact (show Tryd.prog.wantsStandIn t = false by simpa using List.all_eq_true.1 hall t hm)⟩)
    (by kernel_rfl)
/-- What is left of the law: plain values. -/
def AddrMasks.Pure : Prop := ∀ (a0 : Int), (inI .u8 a0) → f_plenumlaw1_AddrMasks a0 = some true
set_option maxRecDepth 100000 in
theorem AddrMasks_lifted (hp : AddrMasks.Pure) (os : Os) (started : os.Started) (H : Type) (enc : TypeId × Value → H) :
    ReturnsInHanded {} Tryd.checked os 7 .any (fun w args => (Rows.addrMasksSpec.pre enc Tryd.prog Tryd.f7 Rows.addrMasksRow.domain false w args ∧ laidMetH Tryd.prog Rows.addrMasksRow.laid w) ∧ sizedMet enc Tryd.prog Tryd.f7 (OpenSpec.ofChange Rows.addrMasksSpec) false w args) (Rows.addrMasksSpec.post enc Tryd.prog Tryd.f7 false true false false) := by
  refine returnsDoor (C := Tryd.checked) own_ started (by kernel_rfl) Tryd.func7 (ChangeSpec.witness_shaped (enc := enc) (C := Tryd.checked) (os := os) (X := fun w _ => laidMetH Tryd.prog Rows.addrMasksRow.laid w) false (World.laidAll Tryd.prog os Rows.addrMasksRow.laid) #[(.int .u8 0)] 8 (World.laidAll_os _ _ _) (World.shaped_of_ZipB (by kernel_rfl) (by kernel_rfl)) (by kernel_rfl) (by kernel_rfl) (by kernel_rfl) (by rw [MakeChecks.laidMetH_plain _ _ _ (by kernel_rfl)]; exact laidMet_laidAll _ (by kernel_rfl) (by kernel_rfl))) ?_
  intro W base args ds gs before hval0 hW0 hL hsh
  have hval : ∀ (j : Nat) t v, Tryd.f7.params[j]? = some t → args[j]? = some v → Value.okWide Tryd.prog W .any base t v := hval0
  have hW : DataW.Whole enc Tryd.prog Tryd.f7.params.toList Rows.addrMasksSpec.vars false W args.toList ds gs before := hW0
  have hA : ∃ p, DataW.TrodAll enc Tryd.prog W 0 (fun _ => true) true [5] args.toList ds p := by obtain ⟨p, q, h, _⟩ := hW; exact ⟨p, h⟩
  obtain ⟨p, hA⟩ := hA
  obtain ⟨vs, hvs⟩ : ∃ vs, args.toList = vs := ⟨_, rfl⟩
  rw [hvs] at hA
  have hB0 := hA; clear hA
  obtain ⟨v0, vs0, d0, ds0, p0, q0, rfl, rfl, h0, hB1, rfl⟩ := Sp.trodAll_cons hB0
  obtain ⟨rfl, rfl⟩ := Sp.trodAll_nil hB1
  obtain rfl : args = [v0].toArray := by rw [← hvs]
  obtain ⟨f0_, h0⟩ := h0
  obtain ⟨n0, rfl⟩ := okWide_int Tryd.underlying5 (hval 0 5 v0 rfl rfl)
  obtain ⟨a0, k0, w0⟩ := (opnInt Tryd.underlying5) enc W 0 _ _ _ _ _ h0
  obtain rfl : a0 = n0 := by have e_ : [(.int .u8 n0 : Value)] = [.int .u8 a0] := k0; simpa using e_.symm
  refine law_close laidOut_ rfl Tryd.underlying4 rfl (by intro t ht; simp [Tryd.params7] at ht; rcases ht with rfl <;> exact ⟨by kernel_rfl, of_decide_eq_true (by kernel_rfl)⟩) hW rfl ?_
  exact f_plenumlaw1_AddrMasks.ok sub_r (gv_ hL hsh) (hp a0 w0) (fits_all W)
theorem AddrMasks_row (hp : AddrMasks.Pure) : Rows.AddrMasksSaid :=
  OpenClaim.holds_of_wide 7 Tryd.f7 rfl rfl rfl rfl rfl rfl rfl ⟨rfl, rfl, rfl, rfl, rfl⟩ rfl rfl rfl rfl rfl (by kernel_rfl) Tryd.func7 (by kernel_rfl)
    (of_decide_eq_true (by kernel_rfl)) (by unfold Func.isWrapper; first | (rw [if_pos (by decide +kernel)]; kernel_rfl) | (rw [if_neg (by decide +kernel)]; exact ⟨rfl, rfl⟩))
    (fun os started H enc _ => AddrMasks_lifted hp os started H enc)
theorem AddrMasks_card (hp : AddrMasks.Pure) : Rows.AddrMasksCardSaid :=
  Claim7.holds_tied_plain_at .later [] [.data, .data, .data, .data, .sentinel, .sentinel, .pinned] true (true, "a129d59cebb745dd187e05d49d41c166ad481837a0a92477b9de7b4827d3387c") true (AddrMasks_row hp) (fun _ h => by cases h) (by kernel_rfl) (fun _ h => by cases h) addrMasks_row_tie rfl ⟨rfl, rfl⟩ (by kernel_rfl) rfl
    (fun f fn hf hfn => by
      obtain rfl : f = 7 := Option.some.inj ((show Tryd.prog.funcNamed Rows.addrMasksRow.func = some 7 by kernel_rfl).symm.trans hf) |>.symm
      obtain rfl : fn = Tryd.f7 := (Option.some.inj (Tryd.func7.symm.trans hfn)).symm
      exact ⟨by kernel_rfl, fun j t ht => by
        rw [Tryd.params7] at ht
        have hm : t ∈ [5] := by simpa using Array.mem_of_getElem? ht
        have hall : ([5].all fun u => !Tryd.prog.wantsStandIn u) = true := by kernel_rfl
        exact (show Tryd.prog.wantsStandIn t = false by simpa using List.all_eq_true.1 hall t hm)⟩)
    (by kernel_rfl)
end Go.Proofs.YtdnlahdddidffaaDoor
